/- THE WALK of subset.Right: its loops (printed by a program of ours). -/
import Derived.Test.YtnglgppdkohhpaaDoorTbRight
import Derived.Deep.RegionHeld3
import Derived.Deep.DrawnRows
import Derived.Deep.CutBlock
import Derived.Deep.LoopGhost
import Derived.LoopN
namespace Go.Proofs.YtnglgppdkohhpaaDoor
open Go.RowKit
attribute [local go_sem ↓] Go.wp_at_zero Go.wp_at_succ
/-- what is known of rows ahead of s -/
def RowsTo (t : Tb) (s : Nat) : Prop := ∀ (i : Nat) (l : List Int), i < s → t.nx[i]? = some l → l.length = many t ∧ subB (t.fo.getD i 0) (t.en.getD i 0) = true ∧ ∀ (k : Nat) (x : Int), l[k]? = some x → withinB t (t.fo.getD i 0) x = true
theorem getD_some {l : List Nat} {i x : Nat} (h : l[i]? = some x) : l.getD i 0 = x := by rw [List.getD_eq_getElem?_getD, h]; rfl
theorem rangeAt_blk {w : World} {b : Nat} {t : TypeId} {cs : Array Value} (h : Blk w b t cs) : w.rangeAt b 0 cs.toList := fun j v hv => by
  rw [Nat.zero_add, h.cell]; simpa using hv
theorem rangeAt_cls {w : World} {b : Nat} {cs : Array Value} {t : Tb} (h : DX w b cs t) : w.rangeAt b 0 (t.cls.map iV) := fun j v hv => by
  rw [List.getElem?_map] at hv
  cases hx : t.cls[j]? with
  | none => rw [hx] at hv; cases hv
  | some x => rw [hx] at hv; obtain rfl := Option.some.inj hv; rw [Nat.zero_add]; exact h.cls hx
theorem size256 : (Tryd.prog.info? 22).map (·.size) = some 256 := by kernel_rfl
theorem size259 : (Tryd.prog.info? 26).map (·.size) = some 259 := by kernel_rfl
theorem sizeInt : (Tryd.prog.info? 3).map (·.size) = some 1 := by kernel_rfl
theorem TB.size {w : World} {cs : Array Value} {t : Tb} (h : TB w cs t) : cs.size = 259 := by
  obtain ⟨An, cn, Af, cf, Ae, ce, e, _⟩ := h.ex
  rw [e]; exact dcells_size h.hc
set_option maxRecDepth 100000 in
set_option maxHeartbeats 4000000 in
theorem right_main (cs : Array Value) (t : Tb) (w : World) (h : TB w cs t) (h1 : 1 ≤ t.nx.length) (h2 : t.nx.length ≤ 4096) (h3 : t.fo.length = t.nx.length) (h4 : t.en.length = t.nx.length) (hm1 : 1 ≤ many t) (hm2 : many t ≤ 256) :
    Calls Tryd.prog 19 #[.agg cs] w (RightP (rightB t) w) := by
  have D := Lib.hid (DX.new h)
  have HB : Hid (Below w.heap.size w (w.alloc (.cells cs 26))) := Lib.hid ((Below.refl _ _).alloc (Nat.le_refl _) _)
  obtain ⟨w1, hw1⟩ : ∃ w1, w1 = w.alloc (.cells cs 26) := ⟨_, rfl⟩
  obtain ⟨b, hbb⟩ : ∃ b, b = w.heap.size := ⟨_, rfl⟩
  obtain ⟨n, hn⟩ : ∃ n, n = t.nx.length := ⟨_, rfl⟩
  obtain ⟨m, hmm⟩ : ∃ m, m = many t := ⟨_, rfl⟩
  have HN : Hid (n = t.nx.length ∧ t.fo.length = n ∧ t.en.length = n ∧ m = many t) := Lib.hid ⟨hn, by omega, by omega, hmm⟩
  have HT := Lib.hid h
  have hn1 : 1 ≤ n := by omega
  have hn2 : n ≤ 4096 := by omega
  have hm3 : 1 ≤ m := by omega
  have hm4 : m ≤ 256 := by omega
  clear h h1 h2 h3 h4 hm1 hm2 hn hmm
  go_enter Tryd.func19, Tryd.ntmps19
  go_upto_region 1 with fail
  rw [← hw1] at D HB ⊢
  rw [← hbb] at D ⊢
  have HBB := Lib.hid hbb
  clear hw1 hbb
  obtain ⟨An, cn, Af, cf, Ae, ce, c1, c2, c3, l1, l2, l3, r1, r2, r3⟩ := D.out.open_
  rw [← HN.out.1] at c1 r1 l1
  rw [HN.out.2.1] at c2 r2 l2
  rw [HN.out.2.2.1] at c3 r3 l3
  have R1 := Lib.hid r1; have R2 := Lib.hid r2; have R3 := Lib.hid r3
  obtain ⟨b0, off, rfl, hb0, l0, A0, c0', hl0, hlc, c4, _⟩ := r1.at_ (k := 0) (by omega)
  have hlm : l0.length = m := by
    rw [HN.out.2.2.2]
    unfold many
    cases hx : t.nx with
    | nil => rw [hx] at hl0; simp at hl0
    | cons x xs => rw [hx] at hl0; simp at hl0; rw [hl0]; rfl
  rw [hlm, Nat.add_zero] at c4
  clear r1 r2 r3 hl0 hlc hlm l1 l2 l3 hb0
  have RC := Lib.hid (rangeAt_cls D.out)
  have LC : Hid ((Tryd.prog.info? 22).map (·.size) = some (t.cls.map iV).length) := Lib.hid (by rw [size256, List.length_map, HT.out.hc])
  go_upto_region 7 with fail
  go_wp2_with (with_reducible refine wpList_load_mid rfl _ _ rfl b 0 rfl (t.cls.map iV) _ RC.out Tryd.underlying22 rfl LC.out ?_)
  have RI : Hid (∀ (k : Nat) (x : Int), t.cls[k]? = some x → ∀ w, (Instr.index 22 (.agg (t.cls.map iV).toArray) (.int .i64 (k : Int))).run Tryd.prog w = .ok (.int .i64 x) w) := Lib.hid (fun k x hx w => by
    have hk := (List.getElem?_eq_some_iff.1 hx).1
    exact run_index_array 22 3 256 _ .i64 k (.int .i64 x) Tryd.underlying22 Tryd.underlying3 sizeInt (by rw [← HT.out.hc]; exact hk) (by rw [List.getElem?_toArray, List.getElem?_map, hx]; rfl) w)
  obtain ⟨ca, hca⟩ : ∃ ca, ca = (t.cls.map iV).toArray := ⟨_, rfl⟩
  rw [← hca] at RI ⊢
  clear hca RC LC
  go_loopw [47] (fun iv W => ∃ k : Nat, k ≤ 256 ∧ iv = .int .i64 (k : Int) ∧ w1 = W ∧ Hid (∀ (j : Nat) (x : Int), j < k → t.cls[j]? = some x → 0 ≤ x ∧ x < (m : Int))) (fun iv _ => 256 - (intOf iv).toNat)
  case atStart => exact ⟨0, by omega, rfl, rfl, Lib.hid (fun j x hj => absurd hj (by omega))⟩
  case round =>
    obtain ⟨k, hk, rfl, rfl, HK⟩ := hrel
    by_cases hlt : k < 256
    · obtain ⟨x, hx⟩ : ∃ x, t.cls[k]? = some x := ⟨_, List.getElem?_eq_getElem (by rw [HT.out.hc]; exact hlt)⟩
      have hix := RI.out k x hx
      have HX := Lib.hid hx
      clear hx
      by_cases hx0 : x < 0
      · go_wp2_with fail
        go_ret
        refine ⟨?_, HB.out⟩
        rw [rightB_false (fun hf => by have := (hf.c k x HX.out).1; omega)]
        rfl
      by_cases hxm : (m : Int) ≤ x
      · go_wp2_with fail
        go_ret
        refine ⟨?_, HB.out⟩
        rw [rightB_false (fun hf => by have := (hf.c k x HX.out).2; rw [← HN.out.2.2.2] at this; omega)]
        rfl
      go_wp2_with fail
      go_roundw
      case rel => exact ⟨k + 1, by omega, by go_num, by simp, Lib.hid (fun j y hj hy => by
        by_cases e : j = k
        · subst e; rw [HX.out] at hy; obtain rfl := Option.some.inj hy; omega
        · exact HK.out j y (by omega) hy)⟩
      case measure => simp [intOf]; omega
    · obtain rfl : k = 256 := by omega
      have HC : Hid (∀ (j : Nat) (x : Int), t.cls[j]? = some x → 0 ≤ x ∧ x < (m : Int)) := Lib.hid (fun j x hx => HK.out j x (by have := (List.getElem?_eq_some_iff.1 hx).1; rw [HT.out.hc] at this; omega) hx)
      clear HK RI
      go_wp2_with fail
      go_loopw [61] (fun iv W => ∃ s : Nat, s ≤ n ∧ iv = .int .i64 (s : Int) ∧ Hid (Below w1.heap.size w1 W) ∧ Hid (RowsTo t s)) (fun iv _ => n - (intOf iv).toNat)
      case atStart => exact ⟨0, Nat.zero_le _, rfl, Lib.hid (Below.refl _ _), Lib.hid (fun i l hi => absurd hi (by omega))⟩
      case round =>
        obtain ⟨s, hs, rfl, B2, HS⟩ := hrel
        have d2 : wr.cell? ⟨b, 257, none⟩ = some (.slice Af n cf) := cell_later B2.out c2
        have d3 : wr.cell? ⟨b, 258, none⟩ = some (.slice Ae n ce) := cell_later B2.out c3
        have DW := Lib.hid (D.out.keep B2.out)
        have BW : Hid (Below w.heap.size w wr) := Lib.hid (HB.out.trans (B2.out.mono HB.out.size))
        by_cases hlt : s < n
        · obtain ⟨bn, on, hAn, hbn, row, A', c', hrow, hrc, e1, rr⟩ := (R1.out.keep B2.out).at_ hlt
          obtain ⟨rfl, rfl⟩ : b0 = bn ∧ off = on := by simpa using hAn
          obtain ⟨bf, of_, rfl, hbf, y, hy, e2⟩ := (R2.out.keep B2.out).at_ hlt
          obtain ⟨be, oe, rfl, hbe, z, hz, e3⟩ := (R3.out.keep B2.out).at_ hlt
          simp only [uV] at e2 e3
          have hyb : y < 4294967296 := HT.out.hu.1 y (List.mem_of_getElem? hy)
          have hzb : z < 4294967296 := HT.out.hu.2 z (List.mem_of_getElem? hz)
          have HV : Hid (t.nx[s]? = some row ∧ t.fo[s]? = some y ∧ t.en[s]? = some z) := Lib.hid ⟨hrow, hy, hz⟩
          have RR := Lib.hid rr
          obtain ⟨rl, hrl⟩ : ∃ rl, rl = row.length := ⟨_, rfl⟩
          rw [← hrl] at e1 RR hrc
          have HRL := Lib.hid hrl
          clear hAn hrow hy hz rr hrl
          by_cases hrm : rl = m
          · subst hrm
            by_cases hsb : subB y z = true
            · have hbit := andNot_zero y z hyb hzb
              rw [hsb] at hbit
              have hbit2 : (bits BinOp.andNot IntKind.u32 (y : Int) (z : Int) != 0) = false := by unfold bne; rw [hbit]; rfl
              clear hbit
              go_upto_region 16 with fail
              go_quiet (fail)
              have B3 : Hid (Below w1.heap.size w1 (wr.drewN nq)) := Lib.hid (below_drewN B2.out _)
              have R4 := Lib.hid (RR.out.keep (below_drewN (Below.refl wr.heap.size wr) nq))
              obtain ⟨w3, hw3⟩ : ∃ w3, w3 = wr.drewN nq := ⟨_, rfl⟩
              rw [← hw3] at B3 R4 ⊢
              clear hw3 e1 e2 e3 d2 d3 DW BW RR B2 hbit2 hbf hbe hbn
              have HY : Hid (y < 4294967296 ∧ subB y z = true) := Lib.hid ⟨hyb, hsb⟩
              clear hyb hzb hsb
              go_wp2_with fail
              go_loopw [86] (fun iv W => ∃ k : Nat, k ≤ rl ∧ iv = .int .i64 (k : Int) ∧ Hid (Below w3.heap.size w3 W) ∧ Hid (∀ (j : Nat) (x : Int), j < k → row[j]? = some x → withinB t y x = true)) (fun iv _ => rl - (intOf iv).toNat)
              case atStart => exact ⟨0, Nat.zero_le _, rfl, Lib.hid (Below.refl _ _), Lib.hid (fun j x hj => absurd hj (by omega))⟩
              case round =>
                obtain ⟨k, hk, rfl, B4, HW⟩ := hrel
                by_cases hlt2 : k < rl
                · obtain ⟨bx, ox, rfl, hbx, x, hx, e4⟩ := (R4.out.keep B4.out).at_ hlt2
                  simp only [iV] at e4
                  have HX := Lib.hid hx
                  have B5 : Hid (Below w1.heap.size w1 wr) := Lib.hid (B3.out.trans (B4.out.mono B3.out.size))
                  have LD : Hid (∀ w', Below wr.heap.size wr w' → w'.rangeAt b 0 cs.toList ∧ w'.cell? ⟨b, 257, none⟩ = some (.slice (some ⟨bf, of_, none⟩) n cf) ∧ w'.cell? ⟨bf, of_ + s, none⟩ = some (.int .u32 (y : Int))) := Lib.hid (fun w' hb => by
                    have hbb := B5.out.trans (hb.mono B5.out.size)
                    obtain ⟨bf', of', e, _, y', hy', e2⟩ := (R2.out.keep hbb).at_ hlt
                    obtain ⟨rfl, rfl⟩ : bf = bf' ∧ of_ = of' := by simpa using e
                    rw [HV.out.2.1] at hy'
                    obtain rfl := Option.some.inj hy'
                    exact ⟨rangeAt_blk (D.out.keep hbb).blk, cell_later hbb c2, e2⟩)
                  obtain ⟨bv, hbv⟩ : ∃ bv, bv = withinB t y x := ⟨_, rfl⟩
                  have CW : Hid (∀ w', Below wr.heap.size wr w' → Calls Tryd.prog 32 #[.agg cs, .int .u32 (y : Int), .int .i64 x] w' fun e w'' => e = .returned (.bool bv) ∧ Below wr.heap.size wr w'') := Lib.hid (fun w' hb => by
                    have hbb := (HB.out.trans (B5.out.mono HB.out.size)).trans (hb.mono (Nat.le_trans HB.out.size B5.out.size))
                    refine (within_any cs t y x w' (HT.out.keep hbb) (by rw [HN.out.2.1, ← HN.out.1]) HY.out.1).mono ?_
                    rintro e w'' ⟨rfl, hb2⟩
                    exact ⟨by rw [hbv], hb.trans (hb2.mono hb.size)⟩)
                  have LI : Hid ((Tryd.prog.info? 26).map (·.size) = some cs.toList.length) := Lib.hid (by rw [size259, Array.length_toList, HT.out.size])
                  have HBV := Lib.hid hbv
                  clear hbv hx
                  go_upto_region 21 with fail
                  refine wp_region_any (by kernel_rfl) ?_
                  change wpAny _ _ _ _ _ _ _ (World.drew _)
                  refine wpAny_of_held (S := fun w' => Below wr.heap.size wr w') _ _ _ _ ?_
                  have hHeld : Below wr.heap.size wr wr.drew := Below.drew (Below.refl _ _)
                  refine wpAnyH_take (i := 0) (v := _) rfl (by kernel_rfl) (by kernel_rfl) (by kernel_rfl) (fun _ _ _ h => h) (yieldsIf_load_mid (by rfl) _ _ rfl _ _ rfl cs.toList _ (fun w hw => (LD.out w hw).1) Tryd.underlying26 rfl (LI.out)) (by assumption) ?_
                  try simp only [Act.put, List.setIfInBounds_toArray, List.set_cons_zero, List.set_cons_succ, List.getElem_toArray, List.getElem_cons_zero]
                  refine wpAnyH_take (i := 1) (v := ?_) rfl (by kernel_rfl) (by kernel_rfl) (by kernel_rfl) (fun _ _ _ h => h) (Or.inl ⟨by rfl, ?_⟩) (by assumption) ?_
                  rotate_left 1
                  · intro w hSw; (try dsimp only at hSw); go_simp <;> with_reducible rfl
                  try simp only [Act.put, List.setIfInBounds_toArray, List.set_cons_zero, List.set_cons_succ, List.getElem_toArray, List.getElem_cons_zero, List.getElem_cons_succ]
                  refine wpAnyH_take (i := 2) (v := ?_) rfl (by kernel_rfl) (by kernel_rfl) (by kernel_rfl) (fun _ _ _ h => h) (Or.inl ⟨by rfl, ?_⟩) (by assumption) ?_
                  rotate_left 1
                  · intro w hSw; have hS2 := (LD.out w hSw).2.1; (try dsimp only at hSw); go_simp <;> with_reducible rfl
                  try simp only [Act.put, List.setIfInBounds_toArray, List.set_cons_zero, List.set_cons_succ, List.getElem_toArray, List.getElem_cons_zero, List.getElem_cons_succ]
                  refine wpAnyH_take (i := 3) (v := ?_) rfl (by kernel_rfl) (by kernel_rfl) (by kernel_rfl) (fun _ _ _ h => h) (Or.inl ⟨by rfl, ?_⟩) (by assumption) ?_
                  rotate_left 1
                  · intro w hSw; (try dsimp only at hSw); go_simp <;> with_reducible rfl
                  try simp only [Act.put, List.setIfInBounds_toArray, List.set_cons_zero, List.set_cons_succ, List.getElem_toArray, List.getElem_cons_zero, List.getElem_cons_succ]
                  refine wpAnyH_take (i := 4) (v := ?_) rfl (by kernel_rfl) (by kernel_rfl) (by kernel_rfl) (fun _ _ _ h => h) (Or.inl ⟨by rfl, ?_⟩) (by assumption) ?_
                  rotate_left 1
                  · intro w hSw; (try dsimp only at hSw); go_simp <;> with_reducible rfl
                  try simp only [Act.put, List.setIfInBounds_toArray, List.set_cons_zero, List.set_cons_succ, List.getElem_toArray, List.getElem_cons_zero, List.getElem_cons_succ]
                  refine wpAnyH_take (i := 5) (v := ?_) rfl (by kernel_rfl) (by kernel_rfl) (by kernel_rfl) (fun _ _ _ h => h) (Or.inl ⟨by rfl, ?_⟩) (by assumption) ?_
                  rotate_left 1
                  · intro w hSw; have hS2 := (LD.out w hSw).2.2; (try dsimp only at hSw); go_simp <;> with_reducible rfl
                  try simp only [Act.put, List.setIfInBounds_toArray, List.set_cons_zero, List.set_cons_succ, List.getElem_toArray, List.getElem_cons_zero, List.getElem_cons_succ]
                  refine wpAnyH_take (i := 6) (v := ?_) rfl (by kernel_rfl) (by kernel_rfl) (by kernel_rfl) (fun _ _ _ h => h) (Or.inl ⟨by rfl, ?_⟩) (by assumption) ?_
                  rotate_left 1
                  · intro w hSw; (try dsimp only at hSw); go_simp <;> with_reducible rfl
                  try simp only [Act.put, List.setIfInBounds_toArray, List.set_cons_zero, List.set_cons_succ, List.getElem_toArray, List.getElem_cons_zero, List.getElem_cons_succ]
                  refine wpAnyH_ready (rs := [7]) (by kernel_rfl) (by simp) (AllReadyH.cons rfl (fun K hK => ?_) AllReadyH.nil)
                  have hPrev := hHeld
                  clear hHeld
                  go_simp
                  go_at_call 32
                  refine (CW.out _ (by assumption)).mono ?_
                  rintro e wx ⟨rfl, hbx⟩
                  go_wp2_with fail
                  refine hK.out _ _ (hbx) (fun hHeld => ?_)
                  clear hK K hPrev
                  try simp only [Act.put, List.setIfInBounds_toArray, List.set_cons_zero, List.set_cons_succ, List.getElem_toArray, List.getElem_cons_zero, List.getElem_cons_succ]
                  refine wpAnyH_take (i := 8) (v := ?_) rfl (by kernel_rfl) (by kernel_rfl) (by kernel_rfl) (fun _ _ _ h => h) (Or.inl ⟨by rfl, ?_⟩) (by assumption) ?_
                  rotate_left 1
                  · intro w hSw; (try dsimp only at hSw); go_simp <;> with_reducible rfl
                  try simp only [Act.put, List.setIfInBounds_toArray, List.set_cons_zero, List.set_cons_succ, List.getElem_toArray, List.getElem_cons_zero, List.getElem_cons_succ]
                  refine wpAnyH_done (by kernel_rfl) ?_ _
                  have B6 : Hid (Below w3.heap.size w3 wx) := Lib.hid (B4.out.trans (hHeld.mono B4.out.size))
                  have B7 : Hid (Below w.heap.size w wx) := Lib.hid ((HB.out.trans (B5.out.mono HB.out.size)).trans (hHeld.mono (Nat.le_trans HB.out.size B5.out.size)))
                  clear hHeld CW LD LI e4 hbx
                  cases bv
                  case true =>
                    go_wp2_with fail
                    go_roundw
                    case rel =>
                      have HW2 : Hid (∀ (j : Nat) (x : Int), j < k + 1 → row[j]? = some x → withinB t y x = true) := Lib.hid (fun j v hj hv => by
                        by_cases e : j = k
                        · subst e; rw [HX.out] at hv; obtain rfl := Option.some.inj hv; exact HBV.out.symm
                        · exact HW.out j v (by omega) hv)
                      first
                        | exact ⟨k + 1, by omega, by go_num, B6, HW2⟩
                        | ((repeat apply Exists.intro); exact ⟨⟨k + 1, by omega, by go_num, B6, HW2⟩, rfl⟩)
                    case measure => simp [intOf]; omega
                  case false =>
                    go_wp2_with fail
                    go_ret
                    refine ⟨?_, B7.out⟩
                    rw [rightB_false (fun hf => by
                      have := (hf.r s row HV.out.1).2.2 k x HX.out
                      rw [getD_some HV.out.2.1, ← HBV.out] at this
                      cases this)]
                    rfl
                · obtain rfl : k = rl := by omega
                  go_wp2_with fail
                  go_roundw
                  case rel => exact ⟨s + 1, by omega, by go_num, Lib.hid (B3.out.trans (B4.out.mono B3.out.size)), Lib.hid (fun i l hi hl => by
                    by_cases e : i = s
                    · subst e
                      rw [HV.out.1] at hl
                      obtain rfl := Option.some.inj hl
                      refine ⟨by rw [← HRL.out, ← HN.out.2.2.2], by rw [getD_some HV.out.2.1, getD_some HV.out.2.2]; exact HY.out.2, fun j x hx => ?_⟩
                      rw [getD_some HV.out.2.1]
                      exact HW.out j x (by have := (List.getElem?_eq_some_iff.1 hx).1; rw [← HRL.out] at this; exact this) hx
                    · exact HS.out i l (by omega) hl)⟩
                  case measure => simp [intOf]; omega
            · have hsf : subB y z = false := by simpa using hsb
              have hbit := andNot_zero y z hyb hzb
              rw [hsf] at hbit
              have hbit2 : (bits BinOp.andNot IntKind.u32 (y : Int) (z : Int) != 0) = true := by unfold bne; rw [hbit]; rfl
              clear hbit
              go_upto_region 16 with fail
              go_quiet (fail)
              have B3 : Hid (Below w.heap.size w (wr.drewN nq)) := Lib.hid (below_drewN BW.out _)
              go_wp2_with fail
              go_ret
              refine ⟨?_, B3.out⟩
              rw [rightB_false (fun hf => by
                have := (hf.r s row HV.out.1).2.1
                rw [getD_some HV.out.2.1, getD_some HV.out.2.2, hsf] at this
                cases this)]
              rfl
          · have hrb : ((rl : Int) != (m : Int)) = true := by rw [bne_iff_ne]; omega
            go_upto_region 16 with fail
            go_quiet (fail)
            have B3 : Hid (Below w.heap.size w (wr.drewN nq)) := Lib.hid (below_drewN BW.out _)
            go_wp2_with fail
            go_ret
            refine ⟨?_, B3.out⟩
            rw [rightB_false (fun hf => by
              have := (hf.r s row HV.out.1).1
              rw [← HRL.out, ← HN.out.2.2.2] at this
              exact hrm this)]
            rfl
        · obtain rfl : s = n := by omega
          go_wp2_with fail
          go_ret
          refine ⟨?_, BW.out⟩
          rw [rightB_true ⟨by rw [← HN.out.1]; exact hn1, by rw [← HN.out.1]; exact hn2, by rw [HN.out.2.1, ← HN.out.1], by rw [HN.out.2.2.1, ← HN.out.1], by rw [← HN.out.2.2.2]; exact hm3, by rw [← HN.out.2.2.2]; exact hm4, by rw [← HN.out.2.2.2]; exact HC.out, fun i l hl => HS.out i l (by have := (List.getElem?_eq_some_iff.1 hl).1; rw [← HN.out.1] at this; exact this) hl⟩]
          rfl
theorem right_any (cs : Array Value) (t : Tb) (w : World) (h : TB w cs t) :
    Calls Tryd.prog 19 #[.agg cs] w (RightP (rightB t) w) := by
  by_cases hlen : t.nx.length < 1 ∨ 4096 < t.nx.length ∨ t.fo.length ≠ t.nx.length ∨ t.en.length ≠ t.nx.length
  · rw [rightB_false (fun hf => by have h1 := hf.n1; have h2 := hf.n2; have h3 := hf.f; have h4 := hf.e; omega)]
    exact right_len cs t w h hlen
  · by_cases hm : many t < 1 ∨ 256 < many t
    · rw [rightB_false (fun hf => by have h1 := hf.m1; have h2 := hf.m2; omega)]
      exact right_many cs t w h (by omega) (by omega) (by omega) (by omega) hm
    · exact right_main cs t w h (by omega) (by omega) (by omega) (by omega) (by omega) (by omega)
end Go.Proofs.YtnglgppdkohhpaaDoor
