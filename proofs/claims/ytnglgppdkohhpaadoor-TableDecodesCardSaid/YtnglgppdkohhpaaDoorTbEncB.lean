/- THE WALK of table.Encode, whole. -/
import Derived.Test.YtnglgppdkohhpaaDoorTbEnc
import Derived.Deep.RegionWith
import Derived.IntWalk
import Derived.Deep.DeepCutAuto
import Derived.Deep.CutBlock
namespace Go.Proofs.YtnglgppdkohhpaaDoor
open Go.RowKit
attribute [local go_sem ↓] Go.wp_at_zero Go.wp_at_succ
theorem per_any (m p : Nat) (w : World) (hm : m ≤ 1000) (hp : p = 2 * m + 8) : Calls Tryd.prog 25 #[.int .i64 (m : Int)] w fun e w' => e = .returned (.int .i64 (p : Int)) ∧ w = w' := by
  have HP := Lib.hid hp
  clear hp
  go_enter Tryd.func25, Tryd.ntmps25
  go_wp2_with fail
  go_ret
  refine ⟨?_, rfl⟩
  show Ending.returned (.int .i64 (8 + 2 * (m : Int))) = _
  rw [show (p : Int) = 8 + 2 * (m : Int) from by have := HP.out; omega]
theorem run_make0 (n : Nat) (hn : n ≤ 140737488355328) (W : World) :
    (Instr.makeSlice 28 (.int .i64 0) (.int .i64 (n : Int))).run Tryd.prog W = .ok (.slice (some ⟨W.heap.size, 0, none⟩) 0 n) (W.alloc (.cells (madeCells #[.int .u8 0] n) 5)) := by
  obtain ⟨i0, hi, hz0, hz1, hz2⟩ := info_parts info8
  have := run_make W 28 5 i0 (.int .u8 0) Tryd.underlying28 hi hz0 .i64 .i64 0 (n : Int) (by omega) (by omega) (by rw [hz2]; omega) (by omega)
  have e : (Value.int IntKind.u8 0).cells = #[.int .u8 0] := rfl
  rw [e] at this
  simpa [hz1] using this
theorem ES.startA {w W : World} {b : Nat} {cs : Array Value} {t : Tb} (N : Nat) (hN : N ≤ 1000000000) (hd : DX W b cs t) (hb : Below w.heap.size w W) (hl : w.heap.size ≤ b) :
    ES w ((W.alloc (.cells (madeCells #[.int .u8 0] N) 5)).alloc (.cells #[.slice (some ⟨W.heap.size, 0, none⟩) 0 N] 28)).drew (W.heap.size + 1) b cs t [] := by
  have h1 : Below W.heap.size W ((W.alloc (.cells (madeCells #[.int .u8 0] N) 5)).alloc (.cells #[.slice (some ⟨W.heap.size, 0, none⟩) 0 N] 28)).drew := Below.drew (((Below.refl _ _).alloc (Nat.le_refl _) _).alloc (by simp) _)
  have h2 : (W.alloc (.cells (madeCells #[.int .u8 0] N) 5)).ownsRow w.heap.size 5 1 (.slice (some ⟨W.heap.size, 0, none⟩) 0 N) 0 [] := World.ownsRow_made W _ N hb.size (by simp [maxLen]; omega) (by rw [size_madeCells, Nat.mul_one])
  have h3 : OB (W.alloc (.cells (madeCells #[.int .u8 0] N) 5)) w.heap.size (.slice (some ⟨W.heap.size, 0, none⟩) 0 N) [] := h2
  have hlt := hd.blk.lt
  exact ⟨⟨_, Blk.drewN (Blk.new _ _ _ (by simp)) 1, h3.keep (Below.drew ((Below.refl _ _).alloc (Nat.le_refl _) _))⟩, hd.keep h1, hb.trans (h1.mono hb.size), by have := hb.size; omega, hl, by omega⟩
theorem ES.startB {w W : World} {b : Nat} {cs : Array Value} {t : Tb} (N : Nat) (hN : N ≤ 1000000000) (hd : DX W b cs t) (hb : Below w.heap.size w W) (hl : w.heap.size ≤ b) :
    ES w ((W.alloc (.cells #[.slice (some ⟨W.heap.size + 1, 0, none⟩) 0 N] 28)).alloc (.cells (madeCells #[.int .u8 0] N) 5)).drew W.heap.size b cs t [] := by
  have h1 : Below W.heap.size W ((W.alloc (.cells #[.slice (some ⟨W.heap.size + 1, 0, none⟩) 0 N] 28)).alloc (.cells (madeCells #[.int .u8 0] N) 5)).drew := Below.drew (((Below.refl _ _).alloc (Nat.le_refl _) _).alloc (by simp) _)
  have h2 : ((W.alloc (.cells #[.slice (some ⟨W.heap.size + 1, 0, none⟩) 0 N] 28)).alloc (.cells (madeCells #[.int .u8 0] N) 5)).ownsRow w.heap.size 5 1 (.slice (some ⟨(W.alloc (.cells #[.slice (some ⟨W.heap.size + 1, 0, none⟩) 0 N] 28)).heap.size, 0, none⟩) 0 N) 0 [] := World.ownsRow_made _ _ N (by have := hb.size; simp; omega) (by simp [maxLen]; omega) (by rw [size_madeCells, Nat.mul_one])
  have e : (W.alloc (.cells #[.slice (some ⟨W.heap.size + 1, 0, none⟩) 0 N] 28)).heap.size = W.heap.size + 1 := by simp
  rw [e] at h2
  have h3 : OB ((W.alloc (.cells #[.slice (some ⟨W.heap.size + 1, 0, none⟩) 0 N] 28)).alloc (.cells (madeCells #[.int .u8 0] N) 5)) w.heap.size (.slice (some ⟨W.heap.size + 1, 0, none⟩) 0 N) [] := h2
  have hlt := hd.blk.lt
  exact ⟨⟨_, Blk.keep (Blk.new W _ _ rfl) (Below.drew ((Below.refl _ _).alloc (by simp) _)), h3.keep (Below.drew (Below.refl _ _))⟩, hd.keep h1, hb.trans (h1.mono hb.size), by have := hb.size; omega, hl, by omega⟩
theorem ES.put {w W W3 : World} {h b : Nat} {cs : Array Value} {t : Tb} {v v3 : Value} {l l' : List UInt8} (hv1 : Blk W h 28 #[v]) (hv2 : OB W w.heap.size v l) (hdx : DX W b cs t) (hbl : Below w.heap.size w W) (hlo : w.heap.size ≤ h ∧ w.heap.size ≤ b ∧ h ≠ b) (htb : TB w cs t) (ho3 : OB W3 w.heap.size v3 l') (hg3 : W.grownBy W3 v.ownBlock) :
    (W3.cell? ⟨h, 0, none⟩ = some v ∧ W3.frozen? ⟨h, 0, none⟩ = false) ∧ ES w (W3.setCell ⟨h, 0, none⟩ v3) h b cs t l' := by
  have hap : v.ownBlock ≠ some h := hv1.apart hv2 (by decide)
  have hap2 : v.ownBlock ≠ some b := hdx.blk.apart hv2 (by decide)
  have V3 := hv1.grown hg3 hap
  have D3 := hdx.blk.grown hg3 hap2
  have B3 : Below w.heap.size w W3 := hbl.trans ((Chg.of_below (Below.refl _ _) (fun k => v.ownBlock = some k)).grown hg3 (fun k hk _ => hk) |>.below (fun k hk e => by have := (hv2.lt k e).1; omega) hbl.size)
  have hap3 : v3.ownBlock ≠ some h := V3.apart ho3 (by decide)
  have hcs : Chg (fun k => k = h) W3 (W3.setCell ⟨h, 0, none⟩ v3) := Chg.setCell (S := fun k => k = h) (p := ⟨h, 0, none⟩) (Chg.refl _ W3) (.inl rfl) _
  have hB : Below w.heap.size w (W3.setCell ⟨h, 0, none⟩ v3) := B3.trans (hcs.below (fun k hk e => by have := hlo.1; omega) B3.size)
  exact ⟨⟨V3.cell 0, V3.frozen 0⟩, ⟨v3, V3.set_ 0 v3, hcs.own ho3 (fun k hk e => hap3 (by rw [hk, e]))⟩, ⟨D3.chg hcs (fun e => hlo.2.2 e.symm), htb.keep hB⟩, hB, hlo⟩
theorem ES.cells {w W : World} {h b : Nat} {cs : Array Value} {t : Tb} {l : List UInt8} {v1 v2 v3 : Value} (s : ES w W h b cs t l) (e : cs = dcells t.cls v1 v2 v3) : W.cell? ⟨b, 256, none⟩ = some v1 ∧ W.cell? ⟨b, 257, none⟩ = some v2 ∧ W.cell? ⟨b, 258, none⟩ = some v3 := by
  have hc := s.dx.tb.hc
  have hb := s.dx.blk
  subst e
  exact ⟨(hb.cell _).trans (dcells_nx hc), (hb.cell _).trans (dcells_fo hc), (hb.cell _).trans (dcells_en hc)⟩
theorem withinB_range {t : Tb} {x : Nat} {n : Int} (h : withinB t x n = true) : 0 ≤ n ∧ n < (t.nx.length : Int) := by
  unfold withinB at h
  rw [Bool.and_eq_true] at h
  exact of_decide_eq_true h.1
def EncQ (l : List UInt8) (w : World) (e : Ending) (w' : World) : Prop :=
  ∃ v, e = .returned (.tuple #[v, .int .i64 0]) ∧ OB w' w.heap.size v l ∧ Below w.heap.size w w'
set_option maxRecDepth 100000 in
set_option maxHeartbeats 4000000 in
theorem tencode_bad (cs : Array Value) (t : Tb) (w : World) (h : TB w cs t) (hr : rightB t = false) :
    Calls Tryd.prog 10 #[.agg cs] w fun e w' => e = .returned (.tuple #[.slice none 0 0, .int .i64 70]) ∧ Below w.heap.size w w' := by
  have D := Lib.hid (DX.new h)
  have HB : Hid (Below w.heap.size w (w.alloc (.cells cs 26))) := Lib.hid ((Below.refl _ _).alloc (Nat.le_refl _) _)
  obtain ⟨w1, hw1⟩ : ∃ w1, w1 = w.alloc (.cells cs 26) := ⟨_, rfl⟩
  obtain ⟨b, hbb⟩ : ∃ b, b = w.heap.size := ⟨_, rfl⟩
  have HR := Lib.hid hr
  clear h hr
  go_enter Tryd.func10, Tryd.ntmps10
  go_upto_region 1 with fail
  rw [← hw1] at D HB ⊢
  rw [← hbb] at D ⊢
  clear hw1 hbb
  have LI : Hid ((Tryd.prog.info? 26).map (·.size) = some cs.toList.length) := Lib.hid (by rw [size259, Array.length_toList, D.out.tb.size])
  have CR : Hid (Calls Tryd.prog 19 #[.agg cs] w1 (RightP false w1)) := Lib.hid (by have := right_any cs _ w1 D.out.tb; rw [HR.out] at this; exact this)
  have RG := Lib.hid (rangeAt_blk D.out.blk)
  go_wp2_with (with_reducible refine wpList_load_mid rfl _ _ rfl b 0 rfl cs.toList _ RG.out Tryd.underlying26 rfl LI.out ?_)
  refine CR.out.mono ?_
  rintro e w2 ⟨rfl, hb2⟩
  have B2 := Lib.hid (HB.out.trans (hb2.mono HB.out.size))
  clear hb2
  go_wp2_with fail
  go_ret2
  exact ⟨rfl, B2.out⟩
set_option maxRecDepth 100000 in
set_option maxHeartbeats 4000000 in
theorem tencode_ok (cs : Array Value) (t : Tb) (w : World) (hT : CrcTab w) (h : TB w cs t) (hf : Fits t) :
    Calls Tryd.prog 10 #[.agg cs] w (EncQ (encT t) w) := by
  have D := Lib.hid (DX.new h)
  have HB : Hid (Below w.heap.size w (w.alloc (.cells cs 26))) := Lib.hid ((Below.refl _ _).alloc (Nat.le_refl _) _)
  obtain ⟨w1, hw1⟩ : ∃ w1, w1 = w.alloc (.cells cs 26) := ⟨_, rfl⟩
  obtain ⟨b, hbb⟩ : ∃ b, b = w.heap.size := ⟨_, rfl⟩
  have HF := Lib.hid hf
  have HT := Lib.hid h; have HCT := Lib.hid hT
  obtain ⟨n, hn⟩ : ∃ n, n = t.nx.length := ⟨_, rfl⟩
  obtain ⟨m, hmm⟩ : ∃ m, m = many t := ⟨_, rfl⟩
  have HN : Hid (n = t.nx.length ∧ t.fo.length = n ∧ t.en.length = n ∧ m = many t) := Lib.hid ⟨hn, by rw [hn]; exact hf.f, by rw [hn]; exact hf.e, hmm⟩
  have hn1 : 1 ≤ n := by rw [hn]; exact hf.n1
  have hn2 : n ≤ 4096 := by rw [hn]; exact hf.n2
  have hm3 : 1 ≤ m := by rw [hmm]; exact hf.m1
  have hm4 : m ≤ 256 := by rw [hmm]; exact hf.m2
  clear h hf hn hmm hT
  go_enter Tryd.func10, Tryd.ntmps10
  go_upto_region 1 with fail
  rw [← hw1] at D HB ⊢
  rw [← hbb] at D ⊢
  have HBB := Lib.hid hbb
  clear hw1 hbb
  have LI : Hid ((Tryd.prog.info? 26).map (·.size) = some cs.toList.length) := Lib.hid (by rw [size259, Array.length_toList, D.out.tb.size])
  have CR : Hid (Calls Tryd.prog 19 #[.agg cs] w1 (RightP true w1)) := Lib.hid (by have := right_any cs _ w1 D.out.tb; rw [rightB_true HF.out] at this; exact this)
  have RG := Lib.hid (rangeAt_blk D.out.blk)
  go_wp2_with (with_reducible refine wpList_load_mid rfl _ _ rfl b 0 rfl cs.toList _ RG.out Tryd.underlying26 rfl LI.out ?_)
  refine CR.out.mono ?_
  rintro e w2 ⟨rfl, hb2⟩
  have B2 : Hid (Below w.heap.size w w2) := Lib.hid (HB.out.trans (hb2.mono HB.out.size))
  have D2 := Lib.hid (D.out.keep hb2)
  have HLT : Hid (w.heap.size ≤ b ∧ b < w2.heap.size) := Lib.hid ⟨by rw [HBB.out]; exact Nat.le_refl _, D2.out.blk.lt⟩
  clear hb2 CR LI RG D HB HBB
  obtain ⟨An, cn, Af, cf, Ae, ce, c1, c2, c3, l1, l2, l3, r1, r2, r3⟩ := D2.out.open_
  rw [← HN.out.1] at c1 r1 l1
  rw [HN.out.2.1] at c2 r2 l2
  rw [HN.out.2.2.1] at c3 r3 l3
  have R1 := Lib.hid r1; have R2 := Lib.hid r2; have R3 := Lib.hid r3
  obtain ⟨b0, off, rfl, hb0, l0, A0, c0', hl0, hlc, c4, _⟩ := r1.at_ (k := 0) (by omega)
  have hlm : l0.length = m := by rw [HN.out.2.2.2]; exact (HF.out.r 0 l0 hl0).1
  rw [hlm, Nat.add_zero] at c4
  clear r1 r2 r3 hl0 hlc hlm l1 l2 l3 hb0
  go_upto_region 4 with fail
  obtain ⟨N, hN⟩ : ∃ N, N = 274 + n * (2 * m + 8) := ⟨_, rfl⟩
  have hN2 : N ≤ 2130194 := by rw [hN]; have := rows_le hn2 hm4; omega
  have hmk := run_make0 N (by omega)
  obtain ⟨ps, hps⟩ : ∃ ps, ps = 2 * m + 8 := ⟨_, rfl⟩
  obtain ⟨q, hq⟩ : ∃ q, q = n * ps := ⟨_, rfl⟩
  have hq2 : N = 274 + q := by rw [hN, hq, hps]
  have e1 : IntKind.i64.wrap ((n : Int) * (ps : Int)) = (q : Int) := by
    rw [← Int.natCast_mul, ← hq]; exact IntWalk.i64_in _ (by omega)
  have e2 : IntKind.i64.wrap (274 + (q : Int)) = (N : Int) := by
    rw [IntWalk.i64_in _ (by omega)]; omega
  have HPS := Lib.hid hps
  have HN2 : Hid (N ≤ 1000000000) := Lib.hid (by omega)
  clear hN hps hq hq2 hN2
  have ca : ∀ o, (w2.alloc o).cell? ⟨b, 256, none⟩ = some (.slice (some ⟨b0, off, none⟩) n cn) := fun o => cell_later ((Below.refl _ _).alloc (Nat.le_refl _) o) c1
  go_cut [5] (fun h5 W => ∃ h, h5 = .pointer (some ⟨h, 0, none⟩) ∧ ES w W h b cs t [])
  case first =>
    go_region_with (go_at_call 25; refine (per_any m ps _ (by omega) HPS.out).mono ?_; rintro e w3 ⟨rfl, rfl⟩)
    all_goals
      go_wp2_with fail
      go_meet
      first
        | exact ⟨_, rfl, ES.startA N HN2.out D2.out B2.out HLT.out.1⟩
        | exact ⟨_, rfl, ES.startB N HN2.out D2.out B2.out HLT.out.1⟩
  case rest =>
    obtain ⟨h, rfl, hes⟩ := hcut
    have E0 := Lib.hid hes
    obtain ⟨w3, hw3⟩ : ∃ w3, w3 = wc := ⟨_, rfl⟩
    subst hw3
    clear hes e1 e2 hmk ca HPS c1 c2 c3 c4 R1 R2 R3 B2 D2 HN2 HLT
    obtain ⟨⟨v, hv1, hv2⟩, hdx, hbl, hlo⟩ := E0.out
    have c0 : w3.cell? ⟨h, 0, none⟩ = some v := hv1.cell 0
    have V2 := Lib.hid hv2
    have PUT := Lib.hid (fun (w4 : World) (v4 : Value) (ho : OB w4 w.heap.size v4 magicT) (hg : w3.grownBy w4 v.ownBlock) => ES.put hv1 hv2 hdx hbl hlo HT.out ho hg)
    have hls : w.heap.size ≤ w3.heap.size := hbl.size
    clear hv1 hv2 hdx hbl hlo E0
    go_upto_region 6 with ((at_builtin; go_must (refine append_str rfl (.tmp 29) (.const (.string { data := #[72, 69, 82, 79, 78, 68, 70, 49] })) rfl w.heap.size v [] rfl V2.out _ rfl (by decide) hls ?_); intro v4 w4 ho4 hg4; obtain ⟨A4, cp4, rfl, _, _, _⟩ := ho4.form; obtain ⟨⟨c4, f4⟩, e4⟩ := PUT.out w4 _ ho4 hg4; have E1 : Hid (ES w (w4.setCell ⟨h, 0, none⟩ (.slice A4 8 cp4)) h b cs t magicT) := Lib.hid e4; clear ho4 hg4 e4 PUT V2 c0))
    obtain ⟨w5, hw5⟩ : ∃ w5, w5 = w4.setCell ⟨h, 0, none⟩ (.slice A4 8 cp4) := ⟨_, rfl⟩
    rw [← hw5] at E1 ⊢
    clear hw5 c4 f4 hls
    obtain ⟨An, cn, Af, cf, Ae, ce, c1, c2, c3, l1, l2, l3, r1, r2, r3⟩ := E1.out.dx.open_
    rw [← HN.out.1] at c1 r1 l1
    rw [HN.out.2.1] at c2 r2 l2
    rw [HN.out.2.2.1] at c3 r3 l3
    have HF4 : Hid (n < 256 ^ 4 ∧ m < 256 ^ 2) := Lib.hid ⟨Nat.lt_of_le_of_lt hn2 (by decide), Nat.lt_of_le_of_lt hm4 (by decide)⟩
    have HM8 : Hid (magicT.length ≤ 4194304 ∧ (magicT ++ leB n 4).length ≤ 4194304 ∧ magicT ++ leB n 4 ++ leB m 2 = frontB t) := Lib.hid ⟨by decide, by rw [List.length_append, leB_length]; decide, by unfold frontB; rw [← HN.out.1, ← HN.out.2.2.2]⟩
    clear r1 r2 r3 l1 l2 l3
    go_wp2_with fail
    refine (layc_any w _ h b cs t _ n 4 HT.out E1.out (by omega) (by omega) HF4.out.1 HM8.out.1).mono ?_
    rintro e wy ⟨rfl, hes⟩
    have E2 := Lib.hid hes
    clear hes E1
    clear c1 c2 c3
    go_wp2_with fail
    refine (layc_any w _ h b cs t _ m 2 HT.out E2.out (by omega) (by omega) HF4.out.2 HM8.out.2.1).mono ?_
    rintro e wy ⟨rfl, hes⟩
    have E3 := Lib.hid hes
    clear hes E2
    rw [HM8.out.2.2] at E3
    clear HM8 HF4
    have RC := Lib.hid (rangeAt_cls E3.out.dx)
    have LC : Hid ((Tryd.prog.info? 22).map (·.size) = some (t.cls.map iV).length) := Lib.hid (by rw [size256, List.length_map, HT.out.hc])
    go_wp2_with (with_reducible refine wpList_load_mid rfl _ _ rfl b 0 rfl (t.cls.map iV) _ RC.out Tryd.underlying22 rfl LC.out ?_)
    have RI : Hid (∀ (k : Nat) (x : Int), t.cls[k]? = some x → ∀ w, (Instr.index 22 (.agg (t.cls.map iV).toArray) (.int .i64 (k : Int))).run Tryd.prog w = .ok (.int .i64 x) w) := Lib.hid (fun k x hx w => by
      have hk := (List.getElem?_eq_some_iff.1 hx).1
      exact run_index_array 22 3 256 _ .i64 k (.int .i64 x) Tryd.underlying22 Tryd.underlying3 sizeInt (by rw [← HT.out.hc]; exact hk) (by rw [List.getElem?_toArray, List.getElem?_map, hx]; rfl) w)
    obtain ⟨ca, hca⟩ : ∃ ca, ca = (t.cls.map iV).toArray := ⟨_, rfl⟩
    rw [← hca] at RI ⊢
    clear hca RC LC
    go_loopw [44] (fun iv W => ∃ k : Nat, k ≤ 256 ∧ iv = .int .i64 (k : Int) ∧ Hid (ES w W h b cs t (frontB t ++ intsB (t.cls.take k) 1))) (fun iv _ => 256 - (intOf iv).toNat)
    case atStart => exact ⟨0, by omega, rfl, by have : intsB (t.cls.take 0) 1 = [] := rfl
                                                rw [this, List.append_nil]; exact E3⟩
    case round =>
      obtain ⟨k, hk, rfl, EK⟩ := hrel
      by_cases hlt : k < 256
      · obtain ⟨x, hx⟩ : ∃ x, t.cls[k]? = some x := ⟨_, List.getElem?_eq_getElem (by rw [HT.out.hc]; exact hlt)⟩
        have hxb := HF.out.c k x hx
        rw [← HN.out.2.2.2] at hxb
        obtain ⟨hx0, hx1⟩ := hxb
        obtain ⟨xn, rfl⟩ := Int.eq_ofNat_of_zero_le hx0
        have hix := RI.out k xn hx
        have HX := Lib.hid hx
        have hxm : xn < m := by omega
        have HX1 : Hid (xn < 256 ^ 1) := Lib.hid (by omega)
        have HL : Hid ((frontB t ++ intsB (t.cls.take k) 1).length ≤ 4194304) := Lib.hid (by rw [List.length_append, frontB_length, intsB_length, List.length_take]; omega)
        clear hx hx1
        go_wp2_with fail
        refine (layc_any w _ h b cs t _ xn 1 HT.out EK.out (by omega) (by omega) HX1.out HL.out).mono ?_
        rintro e wy ⟨rfl, hes⟩
        have E4 := Lib.hid hes
        clear hes EK
        go_wp2_with fail
        go_roundw
        case rel => exact ⟨k + 1, by omega, by go_num, by rw [intsB_snoc HX.out, ← List.append_assoc]; exact E4⟩
        case measure => simp [intOf]; omega
      · obtain rfl : k = 256 := by omega
        have hall : t.cls.take 256 = t.cls := List.take_of_length_le (by rw [HT.out.hc]; exact Nat.le_refl _)
        rw [hall] at EK
        have E5 : Hid (ES w wr h b cs t (headB t)) := EK
        clear hall EK RI
        obtain ⟨An, cn, Af, cf, Ae, ce, hcs, l1, l2, l3, r1, r2, r3⟩ := HT.out.ex
        rw [← HN.out.1] at hcs r1 l1
        rw [HN.out.2.1] at hcs r2 l2
        rw [HN.out.2.2.1] at hcs r3 l3
        obtain ⟨b1, o1, rfl, _⟩ := r1.at_ (k := 0) (by omega)
        obtain ⟨b2, o2, rfl, _⟩ := r2.at_ (k := 0) (by omega)
        obtain ⟨b3, o3, rfl, _⟩ := r3.at_ (k := 0) (by omega)
        have R1 := Lib.hid r1; have R2 := Lib.hid r2; have R3 := Lib.hid r3; have HCS := Lib.hid hcs
        obtain ⟨c1, c2, c3⟩ := E5.out.cells hcs
        clear r1 r2 r3 l1 l2 l3 hcs c2 c3
        have HHB : Hid ((headB t).length = 270) := Lib.hid (headB_length HT.out.hc)
        go_wp2_with fail
        clear c1
        go_loopw [55] (fun iv W => ∃ s : Nat, s ≤ n ∧ iv = .int .i64 (s : Int) ∧ Hid (ES w W h b cs t (headB t ++ rowsB t s))) (fun iv _ => n - (intOf iv).toNat)
        case atStart => exact ⟨0, by omega, rfl, by have : rowsB t 0 = [] := rfl
                                                    rw [this, List.append_nil]; exact E5⟩
        case round =>
          obtain ⟨s, hs, rfl, ES1⟩ := hrel
          have HRL : Hid ((headB t ++ rowsB t s).length ≤ 2130200) := Lib.hid (by
            rw [List.length_append, HHB.out, rowsB_length (fun s l hl => (HF.out.r s l hl).1) s (by rw [← HN.out.1]; exact hs)]
            have := rows_le (n := s) (m := many t) (by omega) (by rw [← HN.out.2.2.2]; exact hm4)
            omega)
          by_cases hlt : s < n
          · obtain ⟨bn, on, hAn, hbn, row, A', c', hrow, hrc, e1, rr⟩ := R1.out.at_ hlt
            obtain ⟨rfl, rfl⟩ : b1 = bn ∧ o1 = on := by simpa using hAn
            obtain ⟨bf, of_, hAf, hbf, y, hy, e2⟩ := R2.out.at_ hlt
            obtain ⟨rfl, rfl⟩ : b2 = bf ∧ o2 = of_ := by simpa using hAf
            obtain ⟨be, oe, hAe, hbe, z, hz, e3⟩ := R3.out.at_ hlt
            obtain ⟨rfl, rfl⟩ : b3 = be ∧ o3 = oe := by simpa using hAe
            simp only [uV] at e2 e3
            have hyb : y < 4294967296 := HT.out.hu.1 y (List.mem_of_getElem? hy)
            have hzb : z < 4294967296 := HT.out.hu.2 z (List.mem_of_getElem? hz)
            have HV : Hid (t.nx[s]? = some row ∧ t.fo[s]? = some y ∧ t.en[s]? = some z) := Lib.hid ⟨hrow, hy, hz⟩
            have HRow := Lib.hid (HF.out.r s row hrow)
            have hrl : row.length = m := by rw [HRow.out.1, HN.out.2.2.2]
            have RR := Lib.hid rr
            rw [hrl] at e1 RR hrc
            have HRM := Lib.hid hrl
            have E23 := Lib.hid (And.intro e2 e3)
            have e1' : wr.cell? ⟨b1, o1 + s, none⟩ = some (.slice A' m c') := cell_later ES1.out.bl e1
            clear hAn hrow hy hz rr hrl e1 e2 e3 hAf hAe hbn hbf hbe
            go_wp2_with fail
            clear e1'
            go_loopw [62] (fun iv W => ∃ k : Nat, k ≤ m ∧ iv = .int .i64 (k : Int) ∧ Hid (ES w W h b cs t (headB t ++ rowsB t s ++ intsB (row.take k) 2))) (fun iv _ => m - (intOf iv).toNat)
            case atStart => exact ⟨0, by omega, rfl, by have : intsB (row.take 0) 2 = [] := rfl
                                                        rw [this, List.append_nil]; exact ES1⟩
            case round =>
              obtain ⟨k, hk, rfl, EK⟩ := hrel
              have HL : Hid ((headB t ++ rowsB t s ++ intsB (row.take k) 2).length ≤ 2131000) := Lib.hid (by
                have h1 := HRL.out
                rw [List.length_append, intsB_length, List.length_take]; omega)
              by_cases hlt2 : k < m
              · obtain ⟨bx, ox, rfl, hbx, x, hx, e4⟩ := RR.out.at_ hlt2
                simp only [iV] at e4
                have hxb := withinB_range (HRow.out.2.2 k x hx)
                rw [← HN.out.1] at hxb
                obtain ⟨hx0, hx1⟩ := hxb
                obtain ⟨xn, rfl⟩ := Int.eq_ofNat_of_zero_le hx0
                have HX := Lib.hid hx
                have hxm : xn < n := by omega
                have HX1 : Hid (xn < 256 ^ 2) := Lib.hid (by omega)
                have e4' : wr.cell? ⟨bx, ox + k, none⟩ = some (.int .i64 (xn : Int)) := cell_later EK.out.bl e4
                clear hx hx1 e4 hbx
                go_wp2_with fail
                refine (layc_any w _ h b cs t _ xn 2 HT.out EK.out (by omega) (by omega) HX1.out (Nat.le_trans HL.out (by decide))).mono ?_
                rintro e wy ⟨rfl, hes⟩
                have E6 := Lib.hid hes
                clear hes EK
                clear e4'
                go_wp2_with fail
                go_roundw
                case rel =>
                  have E7 : Hid (ES w wy h b cs t (headB t ++ rowsB t s ++ intsB (row.take (k + 1)) 2)) := by rw [intsB_snoc HX.out, ← List.append_assoc]; exact E6
                  first
                    | exact ⟨k + 1, by omega, by go_num, E7⟩
                    | ((repeat apply Exists.intro); exact ⟨⟨k + 1, by omega, by go_num, E7⟩, rfl⟩)
                case measure => simp [intOf]; omega
              · obtain rfl : k = m := by omega
                have hall : row.take k = row := List.take_of_length_le (by rw [HRM.out]; exact Nat.le_refl _)
                rw [hall] at EK HL
                clear hall
                obtain ⟨d1, d2, d3⟩ := EK.out.cells HCS.out
                have e2 : wr.cell? ⟨b2, o2 + s, none⟩ = some (.int .u32 (y : Int)) := cell_later EK.out.bl E23.out.1
                have HY1 : Hid (y < 256 ^ 4 ∧ z < 256 ^ 4) := Lib.hid ⟨hyb, hzb⟩
                clear d1 d3
                go_wp2_with fail
                refine (layc_any w _ h b cs t _ y 4 HT.out EK.out (by omega) (by omega) HY1.out.1 (Nat.le_trans HL.out (by decide))).mono ?_
                rintro e wy ⟨rfl, hes⟩
                have E6 := Lib.hid hes
                clear hes EK
                clear d2 e2
                obtain ⟨d1, d2, d3⟩ := E6.out.cells HCS.out
                have e3 : wy.cell? ⟨b3, o3 + s, none⟩ = some (.int .u32 (z : Int)) := cell_later E6.out.bl E23.out.2
                have HL2 : Hid ((headB t ++ rowsB t s ++ intsB row 2 ++ leB y 4).length ≤ 4194304) := Lib.hid (by
                  have h1 := HL.out
                  rw [List.length_append, leB_length]; omega)
                clear d1 d2
                go_wp2_with fail
                refine (layc_any w _ h b cs t _ z 4 HT.out E6.out (by omega) (by omega) HY1.out.2 HL2.out).mono ?_
                rintro e wy ⟨rfl, hes⟩
                have E7 := Lib.hid hes
                clear hes E6
                clear d3 e3
                have HW : Hid (ES w wy h b cs t (headB t ++ rowsB t (s + 1))) := by
                  rw [rowsB_snoc, List.getD_eq_getElem?_getD, HV.out.1, Option.getD_some, getD_some HV.out.2.1, getD_some HV.out.2.2]
                  unfold rowB
                  rw [← List.append_assoc, ← List.append_assoc, ← List.append_assoc]
                  exact E7
                go_wp2_with fail
                go_roundw
                case rel =>
                  first
                    | exact ⟨s + 1, by omega, by go_num, HW⟩
                    | ((repeat apply Exists.intro); exact ⟨⟨s + 1, by omega, by go_num, HW⟩, rfl⟩)
                case measure => simp [intOf]; omega
          · obtain rfl : s = n := by omega
            have E6 : Hid (ES w wr h b cs t (bodyT t)) := by unfold bodyT; rw [← HN.out.1]; exact ES1
            have HBL : Hid ((bodyT t).length ≤ 4194304) := by unfold bodyT; rw [← HN.out.1]; exact Lib.hid (Nat.le_trans HRL.out (by decide))
            clear ES1 HRL
            obtain ⟨⟨v2, hv1, hv2⟩, hdx, hbl, hlo⟩ := E6.out
            obtain ⟨D, dc, rfl, _, _, hrd⟩ := hv2.form
            have c0 : wr.cell? ⟨h, 0, none⟩ = some (.slice D (bodyT t).length dc) := hv1.cell 0
            have CR := Lib.hid (of_any D (bodyT t).length dc (bodyT t) wr (HCT.out.keep hbl) hrd (by have := HBL.out; omega))
            have hcl : crcMore 0 (bodyT t) < 4294967296 := crcMore_lt _ (by omega)
            obtain ⟨cv, hcv⟩ : ∃ cv, cv = crcMore 0 (bodyT t) := ⟨_, rfl⟩
            rw [← hcv] at CR hcl
            have EN : Hid (encT t = bodyT t ++ leB cv 4) := Lib.hid (by rw [hcv]; rfl)
            have HC4 : Hid (cv < 256 ^ 4) := Lib.hid hcl
            obtain ⟨bl, hble⟩ : ∃ bl, bl = (bodyT t).length := ⟨_, rfl⟩
            rw [← hble] at c0 CR
            clear hcv hv1 hv2 hdx hbl hlo hrd hble
            go_wp2_with fail
            refine CR.out.mono ?_
            rintro e wz ⟨rfl, rfl⟩
            go_wp2_with fail
            refine (layc_any w _ h b cs t _ cv 4 HT.out E6.out (by omega) (by omega) HC4.out HBL.out).mono ?_
            rintro e wy ⟨rfl, hes⟩
            have E7 := Lib.hid hes
            clear hes E6
            rw [← EN.out] at E7
            obtain ⟨⟨v3, hv1, hv2⟩, hdx, hbl, hlo⟩ := E7.out
            obtain ⟨D3, dc3, rfl, _, _, _⟩ := hv2.form
            obtain ⟨L3, hL3⟩ : ∃ L3, L3 = (encT t).length := ⟨_, rfl⟩
            rw [← hL3] at hv1 hv2
            have c0' : wy.cell? ⟨h, 0, none⟩ = some (.slice D3 L3 dc3) := hv1.cell 0
            have HO := Lib.hid hv2; have HBB := Lib.hid hbl
            clear hv1 hv2 hdx hbl hlo hL3
            go_wp2_with fail
            go_ret2
            exact ⟨_, rfl, HO.out, HBB.out⟩
end Go.Proofs.YtnglgppdkohhpaaDoor
