/- THE WALK of the reference's Encode. -/
import Derived.Test.YtnglgppdkohhpaaDoorTbRLow
import Derived.Deep.DeepCutAuto
import Derived.Deep.CutBlock
namespace Go.Proofs.YtnglgppdkohhpaaDoor
open Go.RowKit
set_option maxHeartbeats 1000000 in
theorem rencode_bad (cs : Array Value) (t : Tb) (w : World) (h : TB w cs t) (hr : rightB t = false) :
    Calls Tryd.prog 8 #[.agg cs] w fun e w' => e = .returned (.tuple #[.slice none 0 0, .int .i64 70]) ∧ Below w.heap.size w w' := by
  have D := Lib.hid (DX.new h)
  have HB : Hid (Below w.heap.size w (w.alloc (.cells cs 26))) := Lib.hid ((Below.refl _ _).alloc (Nat.le_refl _) _)
  obtain ⟨w1, hw1⟩ : ∃ w1, w1 = w.alloc (.cells cs 26) := ⟨_, rfl⟩
  obtain ⟨b, hbb⟩ : ∃ b, b = w.heap.size := ⟨_, rfl⟩
  have HR := Lib.hid hr
  clear h hr
  go_enter Tryd.func8, Tryd.ntmps8
  go_upto_region 1 with fail
  rw [← hw1] at D HB ⊢
  rw [← hbb] at D ⊢
  clear hw1 hbb
  have LI : Hid ((Tryd.prog.info? 26).map (·.size) = some cs.toList.length) := Lib.hid (by rw [size259, Array.length_toList, D.out.tb.size])
  have CR : Hid (Calls Tryd.prog 22 #[.agg cs] w1 (RightP false w1)) := Lib.hid (by have := rright_any cs _ w1 D.out.tb; rw [HR.out] at this; exact this)
  have RC := Lib.hid (rangeAt_blk D.out.blk)
  go_wp2_with (with_reducible refine wpList_load_mid rfl _ _ rfl b 0 rfl cs.toList _ RC.out Tryd.underlying26 rfl LI.out ?_)
  refine CR.out.mono ?_
  rintro e w2 ⟨rfl, hb2⟩
  have B2 : Hid (Below w.heap.size w w2) := Lib.hid (HB.out.trans (hb2.mono HB.out.size))
  clear hb2 CR
  go_wp2_with fail
  go_ret2
  exact ⟨rfl, B2.out⟩
/-- the bytes that the reference has laid so far, the table's own box -/
structure RS (w W : World) (b : Nat) (cs : Array Value) (t : Tb) (v : Value) (l : List UInt8) : Prop where
  own : OB W w.heap.size v l
  dx : DX W b cs t
  bl : Below w.heap.size w W
def LowS (w : World) (b : Nat) (cs : Array Value) (t : Tb) (l : List UInt8) (e : Ending) (W : World) : Prop := ∃ v, e = .returned v ∧ RS w W b cs t v l
theorem rlow_rs (w W : World) (b : Nat) (cs : Array Value) (t : Tb) (v : Value) (l : List UInt8) (x n : Nat) (ht : TB w cs t) (s : RS w W b cs t v l) (h8 : n ≤ 8) (hx : x < 9223372036854775808) (hl : l.length ≤ 4194304) :
    Calls Tryd.prog 23 #[v, .int .i64 (x : Int), .int .i64 (n : Int)] W (LowS w b cs t (l ++ leB x n)) := by
  refine (rlow_any w.heap.size v l n x W s.own s.bl.size h8 hx hl).mono ?_
  rintro e w' ⟨v', rfl, ho, hc, hf⟩
  have hB : Below w.heap.size w w' := s.bl.trans (hc.below (fun k hk e => by have := (s.own.lt k e).1; omega) s.bl.size)
  exact ⟨v', rfl, ho, ⟨s.dx.blk.chg hc (s.dx.blk.apart s.own (by decide)), ht.keep hB⟩, hB⟩
set_option maxRecDepth 100000 in
set_option maxHeartbeats 4000000 in
theorem rencode_ok (cs : Array Value) (t : Tb) (w : World) (h : TB w cs t) (hf : Fits t) :
    Calls Tryd.prog 8 #[.agg cs] w (EncQ (encT t) w) := by
  have D := Lib.hid (DX.new h)
  have HB : Hid (Below w.heap.size w (w.alloc (.cells cs 26))) := Lib.hid ((Below.refl _ _).alloc (Nat.le_refl _) _)
  obtain ⟨w1, hw1⟩ : ∃ w1, w1 = w.alloc (.cells cs 26) := ⟨_, rfl⟩
  obtain ⟨b, hbb⟩ : ∃ b, b = w.heap.size := ⟨_, rfl⟩
  have HF := Lib.hid hf
  have HT := Lib.hid h
  obtain ⟨n, hn⟩ : ∃ n, n = t.nx.length := ⟨_, rfl⟩
  obtain ⟨m, hmm⟩ : ∃ m, m = many t := ⟨_, rfl⟩
  have HN : Hid (n = t.nx.length ∧ t.fo.length = n ∧ t.en.length = n ∧ m = many t) := Lib.hid ⟨hn, by rw [hn]; exact hf.f, by rw [hn]; exact hf.e, hmm⟩
  have hn1 : 1 ≤ n := by rw [hn]; exact hf.n1
  have hn2 : n ≤ 4096 := by rw [hn]; exact hf.n2
  have hm3 : 1 ≤ m := by rw [hmm]; exact hf.m1
  have hm4 : m ≤ 256 := by rw [hmm]; exact hf.m2
  have HLEN : Hid (∀ s, s ≤ n → (headB t ++ rowsB t s).length ≤ 2130194) := Lib.hid (fun s hs => by
    rw [List.length_append, headB_length h.hc, rowsB_length (fun s l hl => (hf.r s l hl).1) _ (by omega)]
    have := rows_le (n := s) (m := many t) (by omega) (by omega)
    omega)
  clear h hf hn hmm
  go_enter Tryd.func8, Tryd.ntmps8
  go_upto_region 1 with fail
  rw [← hw1] at D HB ⊢
  rw [← hbb] at D ⊢
  clear hw1 hbb
  have LI : Hid ((Tryd.prog.info? 26).map (·.size) = some cs.toList.length) := Lib.hid (by rw [size259, Array.length_toList, D.out.tb.size])
  have CR : Hid (Calls Tryd.prog 22 #[.agg cs] w1 (RightP true w1)) := Lib.hid (by have := rright_any cs _ w1 D.out.tb; rw [rightB_true HF.out] at this; exact this)
  have RC := Lib.hid (rangeAt_blk D.out.blk)
  go_wp2_with (with_reducible refine wpList_load_mid rfl _ _ rfl b 0 rfl cs.toList _ RC.out Tryd.underlying26 rfl LI.out ?_)
  refine CR.out.mono ?_
  rintro e w2 ⟨rfl, hb2⟩
  have B2 : Hid (Below w.heap.size w w2) := Lib.hid (HB.out.trans (hb2.mono HB.out.size))
  have D2 := Lib.hid (D.out.keep hb2)
  clear hb2 CR RC LI D HB
  have kc := fun (w : World) (C : Array Value) (n c g : Nat) (hg : g = w.heap.size) => Joins.run_convert_bytes_const_at (P := Tryd.prog) w 28 5 C n c g hg Tryd.underlying28 Tryd.underlying5
  go_upto_region 5 with fail
  have L3 : Hid (RB (w2.alloc (.cells #[.int .u8 72, .int .u8 69, .int .u8 82, .int .u8 79, .int .u8 78, .int .u8 68, .int .u8 70, .int .u8 49] 5 (8, 9))) (some ⟨w2.heap.size, 0, none⟩) 8 magicT) := Lib.hid (RB.new w2 5 (8, 9) #[.int .u8 72, .int .u8 69, .int .u8 82, .int .u8 79, .int .u8 78, .int .u8 68, .int .u8 70, .int .u8 49] magicT rfl 8 rfl)
  have A3 : Hid (Below w2.heap.size w2 (w2.alloc (.cells #[.int .u8 72, .int .u8 69, .int .u8 82, .int .u8 79, .int .u8 78, .int .u8 68, .int .u8 70, .int .u8 49] 5 (8, 9)))) := Lib.hid (below_alloc _ _)
  obtain ⟨w3, hw3⟩ : ∃ w3, w3 = w2.alloc (.cells #[.int .u8 72, .int .u8 69, .int .u8 82, .int .u8 79, .int .u8 78, .int .u8 68, .int .u8 70, .int .u8 49] 5 (8, 9)) := ⟨_, rfl⟩
  obtain ⟨g, hg⟩ : ∃ g, g = w2.heap.size := ⟨_, rfl⟩
  rw [← hw3] at L3 A3 ⊢
  have D3 := Lib.hid (D2.out.keep A3.out)
  have B3 : Hid (Below w.heap.size w w3) := Lib.hid (B2.out.trans (A3.out.mono B2.out.size))
  rw [← hg] at L3 ⊢
  clear hw3 hg kc A3 B2 D2
  obtain ⟨An, cn, Af, cf, Ae, ce, c1, _, _, _, _, _, r1, _, _⟩ := D3.out.open_
  rw [← HN.out.1] at c1 r1
  have CL : Hid (Calls Tryd.prog 23 #[.slice (some ⟨g, 0, none⟩) 8 8, .int .i64 (n : Int), .int .i64 4] w3 (LowQ (magicT ++ leB n 4) w3)) := Lib.hid (rlow_full g n magicT w3 L3.out (by omega))
  clear r1
  go_wp2_with fail
  refine CL.out.mono ?_
  rintro e w4 ⟨v4, rfl, ho4, hb4⟩
  have S4 : Hid (RS w w4 b cs t v4 (magicT ++ leB n 4)) := Lib.hid ⟨ho4.less B3.out.size, D3.out.keep hb4, B3.out.trans (hb4.mono B3.out.size)⟩
  clear ho4 hb4 c1 CL L3 D3 B3
  obtain ⟨An, cn, Af, cf, Ae, ce, c1, _, _, _, _, _, r1, _, _⟩ := S4.out.dx.open_
  rw [← HN.out.1] at c1 r1
  obtain ⟨b0, off, rfl, hb0, l0, A0, c0', hl0, hlc, c4, _⟩ := r1.at_ (k := 0) (by omega)
  have hlm : l0.length = m := by
    rw [HN.out.2.2.2]
    unfold many
    cases hx : t.nx with
    | nil => rw [hx] at hl0; simp at hl0
    | cons x xs => rw [hx] at hl0; simp at hl0; rw [hl0]; rfl
  rw [hlm, Nat.add_zero] at c4
  clear r1 hl0 hlc hlm hb0
  have CL : Hid (Calls Tryd.prog 23 #[v4, .int .i64 (m : Int), .int .i64 2] w4 (LowS w b cs t (magicT ++ leB n 4 ++ leB m 2))) := Lib.hid (rlow_rs w w4 b cs t v4 _ m 2 HT.out S4.out (by omega) (by omega) (by rw [List.length_append, leB_length]; decide))
  go_wp2_with fail
  refine CL.out.mono ?_
  rintro e w5 ⟨v5, rfl, s5⟩
  have S5 : Hid (RS w w5 b cs t v5 (frontB t)) := Lib.hid (by unfold frontB; rw [← HN.out.1, ← HN.out.2.2.2]; exact s5)
  clear s5 c1 c4 CL S4
  go_wp2_with fail
  go_loopw [5, 6] (fun bv iv W => ∃ k : Nat, k ≤ 256 ∧ iv = .int .i64 (k : Int) ∧ Hid (RS w W b cs t bv (frontB t ++ intsB (t.cls.take k) 1))) (fun _ iv _ => 256 - (intOf iv).toNat)
  case atStart => exact ⟨0, by omega, rfl, Lib.hid (by simpa [intsB] using S5.out)⟩
  case round =>
    obtain ⟨k, hk, rfl, S6⟩ := hrel
    by_cases hlt : k < 256
    · obtain ⟨x, hx⟩ : ∃ x, t.cls[k]? = some x := ⟨_, List.getElem?_eq_getElem (by rw [HT.out.hc]; exact hlt)⟩
      obtain ⟨hx0, hxm⟩ := HF.out.c k x hx
      rw [← HN.out.2.2.2] at hxm
      obtain ⟨q, rfl⟩ := Int.eq_ofNat_of_zero_le hx0
      have hcx : wr.cell? ⟨b, k, none⟩ = some (.int .i64 (q : Int)) := S6.out.dx.cls hx
      have CL : Hid (Calls Tryd.prog 23 #[u5, .int .i64 (q : Int), .int .i64 1] wr (LowS w b cs t (frontB t ++ intsB (t.cls.take k) 1 ++ leB q 1))) := Lib.hid (rlow_rs w wr b cs t _ _ q 1 HT.out S6.out (by omega) (by omega) (by rw [List.length_append, frontB_length, intsB_length, List.length_take]; omega))
      have HX := Lib.hid hx
      clear hx hx0
      go_wp2_with fail
      refine CL.out.mono ?_
      rintro e w7 ⟨v7, rfl, s7⟩
      have S7 : Hid (RS w w7 b cs t v7 (frontB t ++ intsB (t.cls.take (k + 1)) 1)) := Lib.hid (by rw [intsB_snoc HX.out, Int.toNat_natCast, ← List.append_assoc]; exact s7)
      clear s7 CL hcx
      go_wp2_with fail
      go_roundw
      case rel => exact ⟨k + 1, by omega, by go_num, S7⟩
      case measure => simp [intOf]; omega
    · obtain rfl : k = 256 := by omega
      have S7 : Hid (RS w wr b cs t u5 (headB t)) := Lib.hid (by
        have := S6.out
        rw [List.take_of_length_le (by rw [HT.out.hc]; exact Nat.le_refl _)] at this
        exact this)
      clear S6
      go_wp2_with fail
      go_loopw [5, 7, 8] (fun bv iv _ W => ∃ s : Nat, s ≤ n ∧ iv = .int .i64 (s : Int) ∧ Hid (RS w W b cs t bv (headB t ++ rowsB t s))) (fun _ iv _ _ => n - (intOf iv).toNat)
      case atStart => exact ⟨0, by omega, rfl, Lib.hid (by simpa [rowsB] using S7.out)⟩
      case round =>
        obtain ⟨s, hs, rfl, S8⟩ := hrel
        obtain ⟨An, cn, Af, cf, Ae, ce, c1, c2, c3, _, _, _, r1, r2, r3⟩ := S8.out.dx.open_
        rw [← HN.out.1] at c1 r1
        rw [HN.out.2.1] at c2 r2
        rw [HN.out.2.2.1] at c3 r3
        by_cases hlt : s < n
        · obtain ⟨row, hrow⟩ : ∃ row, t.nx[s]? = some row := ⟨_, List.getElem?_eq_getElem (by rw [← HN.out.1]; exact hlt)⟩
          obtain ⟨y, hy⟩ : ∃ y, t.fo[s]? = some y := ⟨_, List.getElem?_eq_getElem (by rw [HN.out.2.1]; exact hlt)⟩
          obtain ⟨z, hz⟩ : ∃ z, t.en[s]? = some z := ⟨_, List.getElem?_eq_getElem (by rw [HN.out.2.2.1]; exact hlt)⟩
          have hyb : y < 4294967296 := HT.out.hu.1 y (List.mem_of_getElem? hy)
          have hzb : z < 4294967296 := HT.out.hu.2 z (List.mem_of_getElem? hz)
          have hrl : row.length = m := by rw [HN.out.2.2.2]; exact (HF.out.r s row hrow).1
          have HXS : Hid (∀ (k : Nat) (x : Int), row[k]? = some x → 0 ≤ x ∧ x < 4096) := Lib.hid (fun k x hx => by
            have h := (HF.out.r s row hrow).2.2 k x hx
            unfold withinB at h
            rw [Bool.and_eq_true, decide_eq_true_eq, ← HN.out.1] at h
            omega)
          have HV : Hid (t.nx[s]? = some row ∧ t.fo[s]? = some y ∧ t.en[s]? = some z ∧ row.length = m) := Lib.hid ⟨hrow, hy, hz, hrl⟩
          clear r1 r2 r3 c2 c3 hrow hy hz hrl
          go_wp2_with fail
          go_loopw [5, 8] (fun bv iv W => ∃ k : Nat, k ≤ m ∧ iv = .int .i64 (k : Int) ∧ Hid (RS w W b cs t bv (headB t ++ rowsB t s ++ intsB (row.take k) 2))) (fun _ iv _ => m - (intOf iv).toNat)
          case atStart => exact ⟨0, by omega, rfl, Lib.hid (by simpa [intsB] using S8.out)⟩
          case round =>
            obtain ⟨k, hk, rfl, S9⟩ := hrel
            obtain ⟨An, cn, Af, cf, Ae, ce, d1, d2, d3, _, _, _, r1, r2, r3⟩ := S9.out.dx.open_
            rw [← HN.out.1] at d1 r1
            rw [HN.out.2.1] at d2 r2
            rw [HN.out.2.2.1] at d3 r3
            obtain ⟨bn, on, rfl, hbn, row', A', c', hrow, hrc, e1, rr⟩ := r1.at_ hlt
            rw [HV.out.1] at hrow
            obtain rfl := Option.some.inj hrow
            rw [HV.out.2.2.2] at e1 rr hrc
            have hlk : (headB t ++ rowsB t s ++ intsB (row.take k) 2).length ≤ 2130706 := by
              rw [List.length_append, intsB_length, List.length_take]
              have := HLEN.out s hs
              omega
            by_cases hlt2 : k < m
            · obtain ⟨bx, ox, rfl, hbx, x, hx, e4⟩ := rr.at_ hlt2
              obtain ⟨hx0, hxm⟩ := HXS.out k x hx
              obtain ⟨q, rfl⟩ := Int.eq_ofNat_of_zero_le hx0
              simp only [iV] at e4
              have CL : Hid (Calls Tryd.prog 23 #[u5, .int .i64 (q : Int), .int .i64 2] wr (LowS w b cs t (headB t ++ rowsB t s ++ intsB (row.take k) 2 ++ leB q 2))) := Lib.hid (rlow_rs w wr b cs t _ _ q 2 HT.out S9.out (by omega) (by omega) (by omega))
              have HX := Lib.hid hx
              clear hx hx0 r2 r3 r1 rr hlk d2 d3 hrow
              go_wp2_with fail
              refine CL.out.mono ?_
              rintro e w7 ⟨v7, rfl, s7⟩
              have S10 : Hid (RS w w7 b cs t v7 (headB t ++ rowsB t s ++ intsB (row.take (k + 1)) 2)) := Lib.hid (by rw [intsB_snoc HX.out, Int.toNat_natCast, ← List.append_assoc]; exact s7)
              clear s7 CL e4 e1 d1
              go_wp2_with fail
              go_roundw
              case rel =>
                first
                  | exact ⟨k + 1, by omega, by go_num, S10⟩
                  | ((repeat apply Exists.intro); exact ⟨⟨k + 1, by omega, by go_num, S10⟩, rfl⟩)
              case measure => simp [intOf]; omega
            · obtain rfl : k = m := by omega
              obtain ⟨bf, of_, rfl, hbf, y', hy, e2⟩ := r2.at_ hlt
              rw [HV.out.2.1] at hy
              obtain rfl := Option.some.inj hy
              simp only [uV] at e2
              have S10 : Hid (RS w wr b cs t u5 (headB t ++ rowsB t s ++ intsB row 2)) := Lib.hid (by
                have := S9.out
                rw [List.take_of_length_le (by rw [HV.out.2.2.2]; exact Nat.le_refl _)] at this
                exact this)
              rw [List.take_of_length_le (by rw [HV.out.2.2.2]; exact Nat.le_refl _)] at hlk
              have CL : Hid (Calls Tryd.prog 23 #[u5, .int .i64 (y : Int), .int .i64 4] wr (LowS w b cs t (headB t ++ rowsB t s ++ intsB row 2 ++ leB y 4))) := Lib.hid (rlow_rs w wr b cs t _ _ y 4 HT.out S10.out (by omega) (by omega) (by omega))
              have HLK := Lib.hid hlk
              clear S9 r1 r2 r3 rr d3 hlk hrow hy
              go_wp2_with fail
              refine CL.out.mono ?_
              rintro e w7 ⟨v7, rfl, s7⟩
              have S11 := Lib.hid s7
              clear s7 CL e1 e2 d1 d2 S10
              obtain ⟨An, cn, Af, cf, Ae, ce, _, _, d3, _, _, _, _, _, r3⟩ := S11.out.dx.open_
              rw [HN.out.2.2.1] at d3 r3
              obtain ⟨be, oe, rfl, hbe, z', hz, e3⟩ := r3.at_ hlt
              rw [HV.out.2.2.1] at hz
              obtain rfl := Option.some.inj hz
              simp only [uV] at e3
              have CL : Hid (Calls Tryd.prog 23 #[v7, .int .i64 (z : Int), .int .i64 4] w7 (LowS w b cs t (headB t ++ rowsB t s ++ intsB row 2 ++ leB y 4 ++ leB z 4))) := Lib.hid (rlow_rs w w7 b cs t _ _ z 4 HT.out S11.out (by omega) (by omega) (by rw [List.length_append, leB_length]; have := HLK.out; omega))
              clear r3 hz
              go_wp2_with fail
              refine CL.out.mono ?_
              rintro e w8 ⟨v8, rfl, s8⟩
              have S12 : Hid (RS w w8 b cs t v8 (headB t ++ rowsB t (s + 1))) := Lib.hid (by
                rw [rowsB_snoc, List.getD_eq_getElem?_getD, HV.out.1, Option.getD_some, getD_some HV.out.2.1, getD_some HV.out.2.2.1]
                unfold rowB
                simpa only [List.append_assoc] using s8)
              clear s8 CL e3 d3 S11
              go_wp2_with fail
              go_roundw
              case rel =>
                first
                  | exact ⟨s + 1, by omega, by go_num, S12⟩
                  | ((repeat apply Exists.intro); exact ⟨⟨s + 1, by omega, by go_num, S12⟩, rfl⟩)
              case measure => simp [intOf]; omega
        · obtain rfl : s = n := by omega
          have hlb := HLEN.out s (Nat.le_refl _)
          have S9 : Hid (RS w wr b cs t u5 (bodyT t)) := Lib.hid (by unfold bodyT; rw [← HN.out.1]; exact S8.out)
          have CS : Hid (Calls Tryd.prog 24 #[u5] wr (LayPost w.heap.size u5 (encT t) wr)) := Lib.hid (rsummed_any w.heap.size u5 (bodyT t) wr S9.out.own S9.out.bl.size (by unfold bodyT; rw [← HN.out.1]; omega))
          clear r1 r2 r3 c2 c3 S8 hlb
          go_wp2_with fail
          refine CS.out.mono ?_
          rintro e w7 ⟨v7, rfl, ho, hc, _⟩
          have B7 : Hid (Below w.heap.size w w7) := Lib.hid (S9.out.bl.trans (hc.below (fun k hk e => by have := (S9.out.own.lt k e).1; omega) S9.out.bl.size))
          have O7 := Lib.hid ho
          clear ho hc CS
          go_wp2_with fail
          go_ret2
          exact ⟨v7, rfl, O7.out, B7.out⟩
theorem renc_any (cs : Array Value) (t : Tb) (w : World) (h : TB w cs t) : Calls Tryd.prog 8 #[.agg cs] w fun e w' => ∃ (v : Value) (k : Int), e = .returned (.tuple #[v, .int .i64 k]) ∧ ((Fits t ∧ k = 0 ∧ OB w' w.heap.size v (encT t)) ∨ (¬ Fits t ∧ k = 70 ∧ v = .slice none 0 0)) ∧ Below w.heap.size w w' := by
  by_cases hf : Fits t
  · refine (rencode_ok cs t w h hf).mono ?_
    rintro e w' ⟨v, rfl, h1, h2⟩
    exact ⟨v, 0, rfl, .inl ⟨hf, rfl, h1⟩, h2⟩
  · refine (rencode_bad cs t w h (rightB_false hf)).mono ?_
    rintro e w' ⟨rfl, h2⟩
    exact ⟨_, 70, rfl, .inr ⟨hf, rfl, rfl⟩, h2⟩
end Go.Proofs.YtnglgppdkohhpaaDoor
