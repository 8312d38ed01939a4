/- THE WALKS of watch.answer, where an alert is with the sink (printed by a program of ours). -/
import Derived.Test.YtjkocghbnljifaaDelWAns
namespace Go.Proofs.Ytjkocghbnljifaa
open Go.RowKit
def WTook (B d g p N : Nat) (q : List Th) (ba mo ji re wt v : Nat) (A : Option Addr) (m c : Nat) (pl : List Th) (tk : Nat) (tr : Int) (w : World) (e : Ending) (w' : World) : Prop :=
  e = .returned (.bool true) ∧ ∃ f xs, DS B w' d g p N f xs q ba mo ji false re wt v A m c pl tk tr ∧ Chg (dsF d g p v) w w'
set_option maxRecDepth 100000 in
set_option maxHeartbeats 4000000 in
theorem wans_yes (B d g p N f ba mo ji re wt v m c tk : Nat) (xs q pl : List Th) (x : Th) (A : Option Addr) (tr : Int) (o : Od) (ho : o.y = true) (now : Nat) (w : World) (h : DS B w d g p N f xs (x :: q) ba mo ji true re wt v A m c pl tk tr) :
    Calls Try.prog 17 #[.pointer (some ⟨v, 0, none⟩), .pointer (some ⟨d, 0, none⟩), .agg o.cells, .int .i64 (now : Int)] w (WTook B d g p N q ba mo ji 0 0 v A m c pl (tk + 1) 0 w) := by
  obtain ⟨ok_, ⟨ap, am0, am1, am2, am3, am4, am5, am6, am7, am8, at_, ar⟩, on, oy, oj⟩ := o
  simp only at ho
  subst ho
  simp only [Od.cells]
  obtain ⟨w0, hw0⟩ : ∃ w0, w0 = w.alloc (.cells #[.int .i64 ok_, .int .i64 ap, .int .i64 am0, .int .i64 am1, .int .i64 am2, .int .i64 am3, .int .i64 am4, .int .i64 am5, .int .i64 am6, .int .i64 am7, .int .i64 am8, .string at_, .int .u32 ar, .int .i64 on, .bool true, .int .i64 oj] 46) := ⟨_, rfl⟩
  obtain ⟨z, hz⟩ : ∃ z, z = w.heap.size := ⟨_, rfl⟩
  have hb0 : Below w.heap.size w w0 := by rw [hw0]; exact (Below.refl _ _).alloc (Nat.le_refl _) _
  have Z0 : Hid (Blk w0 z 46 #[.int .i64 ok_, .int .i64 ap, .int .i64 am0, .int .i64 am1, .int .i64 am2, .int .i64 am3, .int .i64 am4, .int .i64 am5, .int .i64 am6, .int .i64 am7, .int .i64 am8, .string at_, .int .u32 ar, .int .i64 on, .bool true, .int .i64 oj]) := Lib.hid (by rw [hw0, hz]; exact Blk.new w _ _ rfl)
  have y0 : w0.cell? ⟨z, 14, none⟩ = some (.bool true) := Z0.out.cell 14
  have j0 : w0.cell? ⟨z, 15, none⟩ = some (.int .i64 oj) := Z0.out.cell 15
  have hfst := h.first
  have HF1 := Lib.hid hfst
  have HTR := Lib.hid h.htr
  have h1 : tk < m := hfst.2.1
  have hmx : Hid (m ≤ 9223372036854775807 ∧ m ≤ c) := Lib.hid (by have h1 := h.al.2.1; have h2 := h.al.2.2.1; simp only [maxLen] at h2; omega)
  have HZ : Hid (z ≠ d ∧ z ≠ g ∧ z ≠ p ∧ z ≠ v) := Lib.hid (by have := h.dv.blk.lt; have := h.dv.ring.blk.lt; have := h.dv.ring.arr.lt; have := h.wv.lt; omega)
  have H0 := Lib.hid (h.keep hb0)
  have HB := Lib.hid hb0
  clear h hb0 hfst
  obtain ⟨X, hX⟩ : ∃ X : Th, X = x := ⟨_, rfl⟩
  obtain ⟨qp, qm0, qm1, qm2, qm3, qm4, qm5, qm6, qm7, qm8, qt, qr⟩ := x
  have HXC : Hid (X.cells = #[.int .i64 qp, .int .i64 qm0, .int .i64 qm1, .int .i64 qm2, .int .i64 qm3, .int .i64 qm4, .int .i64 qm5, .int .i64 qm6, .int .i64 qm7, .int .i64 qm8, .string qt, .int .u32 qr]) := Lib.hid (by rw [hX]; rfl)
  have HX := Lib.hid hX
  rw [← hX] at H0 HF1
  clear hX
  have hS := ans_yes d g p N f ba mo ji xs q X re wt now oj w0 H0.out.dv
  unfold AnsP at hS
  rw [HXC.out] at hS
  have CS := Lib.hid hS
  clear hS
  go_enter Try.func17, Try.ntmps17
  go_upto_region 1 with fail
  rw [← hw0, ← hz]
  clear hw0 hz
  go_wp2_with fail
  refine CS.out.mono ?_
  rintro e w1 ⟨rfl, f1, xs1, hv1, hc1⟩
  have H1 : Hid (DV w1 d g p N f1 xs1 q ba mo ji false 0 0) := Lib.hid hv1
  have hav := H0.out.av
  have hap := H0.out.ap
  have V1 : Hid (Blk w1 v 60 #[.int .i64 (N : Int), .int .i64 (ba : Int), .int .i64 (mo : Int), .int .i64 (ji : Int), .slice A m c, .int .i64 (tk : Int), .bool true, .int .i64 tr, .int .i64 (wt : Int)]) := Lib.hid (H0.out.wv.chg hc1 (fun e => by rcases e with e | e | e; exact hav.1 e; exact hav.2.1 e; exact hav.2.2 e))
  have A1 : Hid (AW w1 B A m c pl) := Lib.hid (H0.out.al.chg hc1 (fun k hk e => by have := hap k hk; rcases e with e | e | e; exact this.1 e; exact this.2.1 e; exact this.2.2.1 e))
  have Z1 := Lib.hid (Z0.out.chg hc1 (fun e => by have := HZ.out; rcases e with e | e | e; exact this.1 e; exact this.2.1 e; exact this.2.2.1 e))
  have C1 : Hid (Chg (dsF d g p v) w w1) := Lib.hid ((Chg.of_below HB.out _).trans hc1 (fun k _ e => by rcases e with e | e | e; exact .inl e; exact .inr (.inl e); exact .inr (.inr (.inl e))))
  clear hc1 hv1 CS hav hap y0 j0 Z0
  go_upto_region 2 with fail
  obtain ⟨w2, hw2⟩ : ∃ w2, w2 = w1.alloc (.cells #[.int .i64 qp, .int .i64 qm0, .int .i64 qm1, .int .i64 qm2, .int .i64 qm3, .int .i64 qm4, .int .i64 qm5, .int .i64 qm6, .int .i64 qm7, .int .i64 qm8, .string qt, .int .u32 qr] 44) := ⟨_, rfl⟩
  obtain ⟨b, hb⟩ : ∃ b, b = w1.heap.size := ⟨_, rfl⟩
  rw [← hw2, ← hb]
  have hbb : Below w1.heap.size w1 w2 := by rw [hw2]; exact (Below.refl _ _).alloc (Nat.le_refl _) _
  have K2 : Hid (Blk w2 b 44 #[.int .i64 qp, .int .i64 qm0, .int .i64 qm1, .int .i64 qm2, .int .i64 qm3, .int .i64 qm4, .int .i64 qm5, .int .i64 qm6, .int .i64 qm7, .int .i64 qm8, .string qt, .int .u32 qr]) := Lib.hid (by rw [hw2, hb]; exact Blk.new w1 _ _ rfl)
  have H2 := Lib.hid (H1.out.keep hbb)
  have V2 := Lib.hid (V1.out.keep hbb)
  have A2 := Lib.hid (A1.out.keep hbb)
  have Z2 := Lib.hid (Z1.out.keep hbb)
  have HBV : Hid (b ≠ v ∧ v ≠ b) := Lib.hid (by
    have := V1.out.lt
    omega)
  have C2 : Hid (Chg (dsF d g p v) w w2) := Lib.hid (by rw [hw2]; exact C1.out.alloc _)
  clear hw2 hb hbb C1 H1 V1 A1 Z1
  have v6 : w2.cell? ⟨v, 6, none⟩ = some (.bool true) := V2.out.cell 6
  have f6 : w2.frozen? ⟨v, 6, none⟩ = false := V2.out.frozen 6
  go_upto_region 7 with fail
  obtain ⟨w3, hw3⟩ : ∃ w3, w3 = w2.setCell ⟨v, 6, none⟩ (.bool false) := ⟨_, rfl⟩
  rw [← hw3]
  have hcW : Chg (fun k => k = v) w2 w3 := by
    rw [hw3]
    exact Chg.setCell (S := fun k => k = v) (p := ⟨v, 6, none⟩) (Chg.refl _ w2) (.inl rfl) _
  have hav := H0.out.av
  have hap := H0.out.ap
  have K3 : Blk w3 b 44 #[.int .i64 qp, .int .i64 qm0, .int .i64 qm1, .int .i64 qm2, .int .i64 qm3, .int .i64 qm4, .int .i64 qm5, .int .i64 qm6, .int .i64 qm7, .int .i64 qm8, .string qt, .int .u32 qr] := K2.out.chg hcW HBV.out.1
  have V3 : Hid (Blk w3 v 60 #[.int .i64 (N : Int), .int .i64 (ba : Int), .int .i64 (mo : Int), .int .i64 (ji : Int), .slice A m c, .int .i64 (tk : Int), .bool false, .int .i64 tr, .int .i64 (wt : Int)]) := Lib.hid (by
    have := V2.out.set_ 6 (.bool false)
    rw [hw3]
    simpa using this)
  have A3 : Hid (AW w3 B A m c pl) := Lib.hid (A2.out.chg hcW (fun k hk e => (hap k hk).2.2.2 e))
  have Z3 := Lib.hid (Z2.out.chg hcW HZ.out.2.2.2)
  have H3 := Lib.hid (H2.out.chg hcW (fun e => hav.1 e.symm) (fun e => hav.2.1 e.symm) (fun e => hav.2.2 e.symm))
  have C3 : Hid (Chg (dsF d g p v) w w3) := Lib.hid (C2.out.trans hcW (fun k _ e => .inr (.inr (.inr e))))
  have HAV := Lib.hid hav
  have HAP := Lib.hid hap
  obtain ⟨HQ, HTK⟩ : Hid (q = pl.drop (tk + 1)) ∧ Hid (tk ≤ m) := ⟨Lib.hid HF1.out.2.2, Lib.hid H0.out.htk⟩
  have HQ0 := Lib.hid H0.out.hq
  obtain ⟨bb, off, eA, hbb, c0, c1, c2, c3, c4, c5, c6, c7, c8, c9, c10, c11⟩ := A3.out.as.at_ HF1.out.1
  have HXX := HX.out
  clear hw3 hcW hav hap v6 f6 V2 A2 H2 C2 HF1 K2 Z2
  have v4 : w3.cell? ⟨v, 4, none⟩ = some (.slice (some ⟨bb, off, none⟩) m c) := by rw [← eA]; exact V3.out.cell 4
  have v5 : w3.cell? ⟨v, 5, none⟩ = some (.int .i64 (tk : Int)) := V3.out.cell 5
  have k0 : w3.cell? ⟨b, 0, none⟩ = some (.int .i64 qp) := K3.cell 0
  have k1 : w3.cell? ⟨b, 1, none⟩ = some (.int .i64 qm0) := K3.cell 1
  have k2 : w3.cell? ⟨b, 2, none⟩ = some (.int .i64 qm1) := K3.cell 2
  have k3 : w3.cell? ⟨b, 3, none⟩ = some (.int .i64 qm2) := K3.cell 3
  have k4 : w3.cell? ⟨b, 4, none⟩ = some (.int .i64 qm3) := K3.cell 4
  have k5 : w3.cell? ⟨b, 5, none⟩ = some (.int .i64 qm4) := K3.cell 5
  have k6 : w3.cell? ⟨b, 6, none⟩ = some (.int .i64 qm5) := K3.cell 6
  have k7 : w3.cell? ⟨b, 7, none⟩ = some (.int .i64 qm6) := K3.cell 7
  have k8 : w3.cell? ⟨b, 8, none⟩ = some (.int .i64 qm7) := K3.cell 8
  have k9 : w3.cell? ⟨b, 9, none⟩ = some (.int .i64 qm8) := K3.cell 9
  have k10 : w3.cell? ⟨b, 10, none⟩ = some (.string qt) := K3.cell 10
  have k11 : w3.cell? ⟨b, 11, none⟩ = some (.int .u32 qr) := K3.cell 11
  have d0 : w3.cell? ⟨bb, off + tk * 12, none⟩ = some (.int .i64 qp) := by have := c0; rw [HXX] at this; exact this
  have d1 : w3.cell? ⟨bb, off + tk * 12 + 1, none⟩ = some (.int .i64 qm0) := by have := c1; rw [HXX] at this; exact this
  have d2 : w3.cell? ⟨bb, off + tk * 12 + 2, none⟩ = some (.int .i64 qm1) := by have := c2; rw [HXX] at this; exact this
  have d3 : w3.cell? ⟨bb, off + tk * 12 + 3, none⟩ = some (.int .i64 qm2) := by have := c3; rw [HXX] at this; exact this
  have d4 : w3.cell? ⟨bb, off + tk * 12 + 4, none⟩ = some (.int .i64 qm3) := by have := c4; rw [HXX] at this; exact this
  have d5 : w3.cell? ⟨bb, off + tk * 12 + 5, none⟩ = some (.int .i64 qm4) := by have := c5; rw [HXX] at this; exact this
  have d6 : w3.cell? ⟨bb, off + tk * 12 + 6, none⟩ = some (.int .i64 qm5) := by have := c6; rw [HXX] at this; exact this
  have d7 : w3.cell? ⟨bb, off + tk * 12 + 7, none⟩ = some (.int .i64 qm6) := by have := c7; rw [HXX] at this; exact this
  have d8 : w3.cell? ⟨bb, off + tk * 12 + 8, none⟩ = some (.int .i64 qm7) := by have := c8; rw [HXX] at this; exact this
  have d9 : w3.cell? ⟨bb, off + tk * 12 + 9, none⟩ = some (.int .i64 qm8) := by have := c9; rw [HXX] at this; exact this
  have d10 : w3.cell? ⟨bb, off + tk * 12 + 10, none⟩ = some (.string qt) := by have := c10; rw [HXX] at this; exact this
  have d11 : w3.cell? ⟨bb, off + tk * 12 + 11, none⟩ = some (.int .u32 qr) := by have := c11; rw [HXX] at this; exact this
  clear K3 c0 c1 c2 c3 c4 c5 c6 c7 c8 c9 c10 c11 HXX eA
  have hq := guard_al
  have he := neq_al X
  rw [HXC.out] at he
  go_cut [55] (fun s wx => s = .bool false ∧ ∃ md, wx = w3.drewN md)
  case first =>
    go_quiet (fail)
    go_wp2_with fail
    go_meet
    exact ⟨rfl, _, rfl⟩
  case rest =>
    obtain ⟨rfl, md, hw4⟩ := hcut
    obtain ⟨w4, e4⟩ : ∃ w4, w4 = w3.drewN md := ⟨_, rfl⟩
    rw [hw4, ← e4]
    have hb4 : Below w3.heap.size w3 w4 := by rw [e4]; exact below_drewN (Below.refl _ _) _
    have V4 := Lib.hid (V3.out.keep hb4)
    have A4 := Lib.hid (A3.out.keep hb4)
    have Z4 := Lib.hid (Z3.out.keep hb4)
    have H4 := Lib.hid (H3.out.keep hb4)
    have C4 : Hid (Chg (dsF d g p v) w w4) := Lib.hid (C3.out.trans (Chg.of_below hb4 (fun _ => False)) (fun k _ e => e.elim))
    have CW := Lib.hid (wait_any d g p N f1 ba mo ji xs1 q false 0 0 _ H4.out)
    clear hw4 e4 hb4 v4 v5 k0 k1 k2 k3 k4 k5 k6 k7 k8 k9 k10 k11 d0 d1 d2 d3 d4 d5 d6 d7 d8 d9 d10 d11 V3 A3 Z3 H3 C3 he hq
    have x2 : w4.cell? ⟨v, 2, none⟩ = some (.int .i64 (mo : Int)) := V4.out.cell 2
    have x3 : w4.cell? ⟨v, 3, none⟩ = some (.int .i64 (ji : Int)) := V4.out.cell 3
    have x5 : w4.cell? ⟨v, 5, none⟩ = some (.int .i64 (tk : Int)) := V4.out.cell 5
    have x7 : w4.cell? ⟨v, 7, none⟩ = some (.int .i64 tr) := V4.out.cell 7
    have x8 : w4.cell? ⟨v, 8, none⟩ = some (.int .i64 (wt : Int)) := V4.out.cell 8
    have g5 : w4.frozen? ⟨v, 5, none⟩ = false := V4.out.frozen 5
    have g7 : w4.frozen? ⟨v, 7, none⟩ = false := V4.out.frozen 7
    have g8 : w4.frozen? ⟨v, 8, none⟩ = false := V4.out.frozen 8
    have y4 : w4.cell? ⟨z, 14, none⟩ = some (.bool true) := Z4.out.cell 14
    have hzv : z ≠ v := HZ.out.2.2.2
    have hvz : v ≠ z := fun e => hzv e.symm
    have htk := hmx.out
    go_wp2_with fail
    refine CW.out.mono ?_
    rintro e w5 ⟨rfl, rfl⟩
    go_wp2_with fail
    go_ret
    have hcW : Chg (fun k => k = v) w4 (((w4.setCell ⟨v, 8, none⟩ (.int .i64 0)).setCell ⟨v, 5, none⟩ (.int .i64 ((tk : Int) + 1))).setCell ⟨v, 7, none⟩ (.int .i64 0)) :=
      Chg.setCell (S := fun k => k = v) (p := ⟨v, 7, none⟩) (Chg.setCell (S := fun k => k = v) (p := ⟨v, 5, none⟩) (Chg.setCell (S := fun k => k = v) (p := ⟨v, 8, none⟩) (Chg.refl _ w4) (.inl rfl) _) (.inl rfl) _) (.inl rfl) _
    have VW : Blk (((w4.setCell ⟨v, 8, none⟩ (.int .i64 0)).setCell ⟨v, 5, none⟩ (.int .i64 ((tk : Int) + 1))).setCell ⟨v, 7, none⟩ (.int .i64 0)) v 60 #[.int .i64 (N : Int), .int .i64 (ba : Int), .int .i64 (mo : Int), .int .i64 (ji : Int), .slice A m c, .int .i64 ((tk : Int) + 1), .bool false, .int .i64 0, .int .i64 0] := by
      have := ((V4.out.set_ 8 (.int .i64 0)).set_ 5 (.int .i64 ((tk : Int) + 1))).set_ 7 (.int .i64 0)
      simpa using this
    have hav := HAV.out
    have hap := HAP.out
    exact ⟨rfl, f1, xs1, ⟨H4.out.chg hcW (fun e => hav.1 e.symm) (fun e => hav.2.1 e.symm) (fun e => hav.2.2 e.symm), VW, A4.out.chg hcW (fun k hk e => (hap k hk).2.2.2 e), HQ.out, h1, hap, hav, (fun e => by cases e), rfl⟩, C4.out.trans hcW (fun k _ e => .inr (.inr (.inr e)))⟩
set_option maxRecDepth 100000 in
set_option maxHeartbeats 4000000 in
theorem wans_again (B d g p N f ba mo ji re wt v m c tk : Nat) (xs q pl : List Th) (x : Th) (A : Option Addr) (tr : Int) (o : Od) (ho : o.y = false) (now : Nat) (w : World) (h : DS B w d g p N f xs (x :: q) ba mo ji true re wt v A m c pl tk tr)
    (hnow : now ≤ 2305843009213693952) (hba : ba ≤ 1099511627776) (hmo : mo ≤ 1099511627776) (hji : ji ≤ 1099511627776) (hre : re ≤ 1000000) :
    Calls Try.prog 17 #[.pointer (some ⟨v, 0, none⟩), .pointer (some ⟨d, 0, none⟩), .agg o.cells, .int .i64 (now : Int)] w (fun e w' => ∃ W : Nat, (now ≤ W ∧ W ≤ now + mo + ji) ∧ WTook B d g p N (x :: q) ba mo ji (re + 1) W v A m c pl tk ((re : Int) + 1) w e w') := by
  obtain ⟨ok_, ⟨ap, am0, am1, am2, am3, am4, am5, am6, am7, am8, at_, ar⟩, on, oy, oj⟩ := o
  simp only at ho
  subst ho
  simp only [Od.cells]
  obtain ⟨WT, hWT, hW1, hW2⟩ := du_nat (re := re) (j := oj) hnow hba hmo hji
  have HWT := Lib.hid hWT; have HW1 := Lib.hid hW1; have HW2 := Lib.hid hW2
  clear hWT
  obtain ⟨w0, hw0⟩ : ∃ w0, w0 = w.alloc (.cells #[.int .i64 ok_, .int .i64 ap, .int .i64 am0, .int .i64 am1, .int .i64 am2, .int .i64 am3, .int .i64 am4, .int .i64 am5, .int .i64 am6, .int .i64 am7, .int .i64 am8, .string at_, .int .u32 ar, .int .i64 on, .bool false, .int .i64 oj] 46) := ⟨_, rfl⟩
  obtain ⟨z, hz⟩ : ∃ z, z = w.heap.size := ⟨_, rfl⟩
  have hb0 : Below w.heap.size w w0 := by rw [hw0]; exact (Below.refl _ _).alloc (Nat.le_refl _) _
  have Z0 : Hid (Blk w0 z 46 #[.int .i64 ok_, .int .i64 ap, .int .i64 am0, .int .i64 am1, .int .i64 am2, .int .i64 am3, .int .i64 am4, .int .i64 am5, .int .i64 am6, .int .i64 am7, .int .i64 am8, .string at_, .int .u32 ar, .int .i64 on, .bool false, .int .i64 oj]) := Lib.hid (by rw [hw0, hz]; exact Blk.new w _ _ rfl)
  have y0 : w0.cell? ⟨z, 14, none⟩ = some (.bool false) := Z0.out.cell 14
  have j0 : w0.cell? ⟨z, 15, none⟩ = some (.int .i64 oj) := Z0.out.cell 15
  have hfst := h.first
  have HF1 := Lib.hid hfst
  have HTR := Lib.hid h.htr
  have h1 : tk < m := hfst.2.1
  have hmx : Hid (m ≤ 9223372036854775807 ∧ m ≤ c) := Lib.hid (by have h1 := h.al.2.1; have h2 := h.al.2.2.1; simp only [maxLen] at h2; omega)
  have HZ : Hid (z ≠ d ∧ z ≠ g ∧ z ≠ p ∧ z ≠ v) := Lib.hid (by have := h.dv.blk.lt; have := h.dv.ring.blk.lt; have := h.dv.ring.arr.lt; have := h.wv.lt; omega)
  have H0 := Lib.hid (h.keep hb0)
  have HB := Lib.hid hb0
  clear h hb0 hfst
  obtain ⟨X, hX⟩ : ∃ X : Th, X = x := ⟨_, rfl⟩
  obtain ⟨qp, qm0, qm1, qm2, qm3, qm4, qm5, qm6, qm7, qm8, qt, qr⟩ := x
  have HXC : Hid (X.cells = #[.int .i64 qp, .int .i64 qm0, .int .i64 qm1, .int .i64 qm2, .int .i64 qm3, .int .i64 qm4, .int .i64 qm5, .int .i64 qm6, .int .i64 qm7, .int .i64 qm8, .string qt, .int .u32 qr]) := Lib.hid (by rw [hX]; rfl)
  have HX := Lib.hid hX
  rw [← hX] at H0 HF1 ⊢
  clear hX
  have hS := ans_again d g p N f ba mo ji xs q X re wt now oj w0 H0.out.dv hre
  rw [HWT.out] at hS
  unfold AnsP at hS
  rw [HXC.out] at hS
  have CS := Lib.hid hS
  clear hS
  go_enter Try.func17, Try.ntmps17
  go_upto_region 1 with fail
  rw [← hw0, ← hz]
  clear hw0 hz
  go_wp2_with fail
  refine CS.out.mono ?_
  rintro e w1 ⟨rfl, f1, xs1, hv1, hc1⟩
  have H1 : Hid (DV w1 d g p N f1 xs1 (X :: q) ba mo ji false ((re : Int) + 1) (WT : Int)) := Lib.hid hv1
  have hav := H0.out.av
  have hap := H0.out.ap
  have V1 : Hid (Blk w1 v 60 #[.int .i64 (N : Int), .int .i64 (ba : Int), .int .i64 (mo : Int), .int .i64 (ji : Int), .slice A m c, .int .i64 (tk : Int), .bool true, .int .i64 tr, .int .i64 (wt : Int)]) := Lib.hid (H0.out.wv.chg hc1 (fun e => by rcases e with e | e | e; exact hav.1 e; exact hav.2.1 e; exact hav.2.2 e))
  have A1 : Hid (AW w1 B A m c pl) := Lib.hid (H0.out.al.chg hc1 (fun k hk e => by have := hap k hk; rcases e with e | e | e; exact this.1 e; exact this.2.1 e; exact this.2.2.1 e))
  have Z1 := Lib.hid (Z0.out.chg hc1 (fun e => by have := HZ.out; rcases e with e | e | e; exact this.1 e; exact this.2.1 e; exact this.2.2.1 e))
  have C1 : Hid (Chg (dsF d g p v) w w1) := Lib.hid ((Chg.of_below HB.out _).trans hc1 (fun k _ e => by rcases e with e | e | e; exact .inl e; exact .inr (.inl e); exact .inr (.inr (.inl e))))
  clear hc1 hv1 CS hav hap y0 j0 Z0
  go_upto_region 2 with fail
  obtain ⟨w2, hw2⟩ : ∃ w2, w2 = w1.alloc (.cells #[.int .i64 qp, .int .i64 qm0, .int .i64 qm1, .int .i64 qm2, .int .i64 qm3, .int .i64 qm4, .int .i64 qm5, .int .i64 qm6, .int .i64 qm7, .int .i64 qm8, .string qt, .int .u32 qr] 44) := ⟨_, rfl⟩
  obtain ⟨b, hb⟩ : ∃ b, b = w1.heap.size := ⟨_, rfl⟩
  rw [← hw2, ← hb]
  have hbb : Below w1.heap.size w1 w2 := by rw [hw2]; exact (Below.refl _ _).alloc (Nat.le_refl _) _
  have K2 : Hid (Blk w2 b 44 #[.int .i64 qp, .int .i64 qm0, .int .i64 qm1, .int .i64 qm2, .int .i64 qm3, .int .i64 qm4, .int .i64 qm5, .int .i64 qm6, .int .i64 qm7, .int .i64 qm8, .string qt, .int .u32 qr]) := Lib.hid (by rw [hw2, hb]; exact Blk.new w1 _ _ rfl)
  have H2 := Lib.hid (H1.out.keep hbb)
  have V2 := Lib.hid (V1.out.keep hbb)
  have A2 := Lib.hid (A1.out.keep hbb)
  have Z2 := Lib.hid (Z1.out.keep hbb)
  have HBV : Hid (b ≠ v ∧ v ≠ b) := Lib.hid (by
    have := V1.out.lt
    omega)
  have C2 : Hid (Chg (dsF d g p v) w w2) := Lib.hid (by rw [hw2]; exact C1.out.alloc _)
  clear hw2 hb hbb C1 H1 V1 A1 Z1
  have v6 : w2.cell? ⟨v, 6, none⟩ = some (.bool true) := V2.out.cell 6
  have f6 : w2.frozen? ⟨v, 6, none⟩ = false := V2.out.frozen 6
  go_upto_region 7 with fail
  obtain ⟨w3, hw3⟩ : ∃ w3, w3 = w2.setCell ⟨v, 6, none⟩ (.bool false) := ⟨_, rfl⟩
  rw [← hw3]
  have hcW : Chg (fun k => k = v) w2 w3 := by
    rw [hw3]
    exact Chg.setCell (S := fun k => k = v) (p := ⟨v, 6, none⟩) (Chg.refl _ w2) (.inl rfl) _
  have hav := H0.out.av
  have hap := H0.out.ap
  have K3 : Blk w3 b 44 #[.int .i64 qp, .int .i64 qm0, .int .i64 qm1, .int .i64 qm2, .int .i64 qm3, .int .i64 qm4, .int .i64 qm5, .int .i64 qm6, .int .i64 qm7, .int .i64 qm8, .string qt, .int .u32 qr] := K2.out.chg hcW HBV.out.1
  have V3 : Hid (Blk w3 v 60 #[.int .i64 (N : Int), .int .i64 (ba : Int), .int .i64 (mo : Int), .int .i64 (ji : Int), .slice A m c, .int .i64 (tk : Int), .bool false, .int .i64 tr, .int .i64 (wt : Int)]) := Lib.hid (by
    have := V2.out.set_ 6 (.bool false)
    rw [hw3]
    simpa using this)
  have A3 : Hid (AW w3 B A m c pl) := Lib.hid (A2.out.chg hcW (fun k hk e => (hap k hk).2.2.2 e))
  have Z3 := Lib.hid (Z2.out.chg hcW HZ.out.2.2.2)
  have H3 := Lib.hid (H2.out.chg hcW (fun e => hav.1 e.symm) (fun e => hav.2.1 e.symm) (fun e => hav.2.2 e.symm))
  have C3 : Hid (Chg (dsF d g p v) w w3) := Lib.hid (C2.out.trans hcW (fun k _ e => .inr (.inr (.inr e))))
  have HAV := Lib.hid hav
  have HAP := Lib.hid hap
  obtain ⟨HQ, HTK⟩ : Hid (q = pl.drop (tk + 1)) ∧ Hid (tk ≤ m) := ⟨Lib.hid HF1.out.2.2, Lib.hid H0.out.htk⟩
  have HQ0 := Lib.hid H0.out.hq
  obtain ⟨bb, off, eA, hbb, c0, c1, c2, c3, c4, c5, c6, c7, c8, c9, c10, c11⟩ := A3.out.as.at_ HF1.out.1
  have HXX := HX.out
  clear hw3 hcW hav hap v6 f6 V2 A2 H2 C2 HF1 K2 Z2
  have v4 : w3.cell? ⟨v, 4, none⟩ = some (.slice (some ⟨bb, off, none⟩) m c) := by rw [← eA]; exact V3.out.cell 4
  have v5 : w3.cell? ⟨v, 5, none⟩ = some (.int .i64 (tk : Int)) := V3.out.cell 5
  have k0 : w3.cell? ⟨b, 0, none⟩ = some (.int .i64 qp) := K3.cell 0
  have k1 : w3.cell? ⟨b, 1, none⟩ = some (.int .i64 qm0) := K3.cell 1
  have k2 : w3.cell? ⟨b, 2, none⟩ = some (.int .i64 qm1) := K3.cell 2
  have k3 : w3.cell? ⟨b, 3, none⟩ = some (.int .i64 qm2) := K3.cell 3
  have k4 : w3.cell? ⟨b, 4, none⟩ = some (.int .i64 qm3) := K3.cell 4
  have k5 : w3.cell? ⟨b, 5, none⟩ = some (.int .i64 qm4) := K3.cell 5
  have k6 : w3.cell? ⟨b, 6, none⟩ = some (.int .i64 qm5) := K3.cell 6
  have k7 : w3.cell? ⟨b, 7, none⟩ = some (.int .i64 qm6) := K3.cell 7
  have k8 : w3.cell? ⟨b, 8, none⟩ = some (.int .i64 qm7) := K3.cell 8
  have k9 : w3.cell? ⟨b, 9, none⟩ = some (.int .i64 qm8) := K3.cell 9
  have k10 : w3.cell? ⟨b, 10, none⟩ = some (.string qt) := K3.cell 10
  have k11 : w3.cell? ⟨b, 11, none⟩ = some (.int .u32 qr) := K3.cell 11
  have d0 : w3.cell? ⟨bb, off + tk * 12, none⟩ = some (.int .i64 qp) := by have := c0; rw [HXX] at this; exact this
  have d1 : w3.cell? ⟨bb, off + tk * 12 + 1, none⟩ = some (.int .i64 qm0) := by have := c1; rw [HXX] at this; exact this
  have d2 : w3.cell? ⟨bb, off + tk * 12 + 2, none⟩ = some (.int .i64 qm1) := by have := c2; rw [HXX] at this; exact this
  have d3 : w3.cell? ⟨bb, off + tk * 12 + 3, none⟩ = some (.int .i64 qm2) := by have := c3; rw [HXX] at this; exact this
  have d4 : w3.cell? ⟨bb, off + tk * 12 + 4, none⟩ = some (.int .i64 qm3) := by have := c4; rw [HXX] at this; exact this
  have d5 : w3.cell? ⟨bb, off + tk * 12 + 5, none⟩ = some (.int .i64 qm4) := by have := c5; rw [HXX] at this; exact this
  have d6 : w3.cell? ⟨bb, off + tk * 12 + 6, none⟩ = some (.int .i64 qm5) := by have := c6; rw [HXX] at this; exact this
  have d7 : w3.cell? ⟨bb, off + tk * 12 + 7, none⟩ = some (.int .i64 qm6) := by have := c7; rw [HXX] at this; exact this
  have d8 : w3.cell? ⟨bb, off + tk * 12 + 8, none⟩ = some (.int .i64 qm7) := by have := c8; rw [HXX] at this; exact this
  have d9 : w3.cell? ⟨bb, off + tk * 12 + 9, none⟩ = some (.int .i64 qm8) := by have := c9; rw [HXX] at this; exact this
  have d10 : w3.cell? ⟨bb, off + tk * 12 + 10, none⟩ = some (.string qt) := by have := c10; rw [HXX] at this; exact this
  have d11 : w3.cell? ⟨bb, off + tk * 12 + 11, none⟩ = some (.int .u32 qr) := by have := c11; rw [HXX] at this; exact this
  clear K3 c0 c1 c2 c3 c4 c5 c6 c7 c8 c9 c10 c11 HXX eA
  have hq := guard_al
  have he := neq_al X
  rw [HXC.out] at he
  go_cut [55] (fun s wx => s = .bool false ∧ ∃ md, wx = w3.drewN md)
  case first =>
    go_quiet (fail)
    go_wp2_with fail
    go_meet
    exact ⟨rfl, _, rfl⟩
  case rest =>
    obtain ⟨rfl, md, hw4⟩ := hcut
    obtain ⟨w4, e4⟩ : ∃ w4, w4 = w3.drewN md := ⟨_, rfl⟩
    rw [hw4, ← e4]
    have hb4 : Below w3.heap.size w3 w4 := by rw [e4]; exact below_drewN (Below.refl _ _) _
    have V4 := Lib.hid (V3.out.keep hb4)
    have A4 := Lib.hid (A3.out.keep hb4)
    have Z4 := Lib.hid (Z3.out.keep hb4)
    have H4 := Lib.hid (H3.out.keep hb4)
    have C4 : Hid (Chg (dsF d g p v) w w4) := Lib.hid (C3.out.trans (Chg.of_below hb4 (fun _ => False)) (fun k _ e => e.elim))
    have CW := Lib.hid (wait_any d g p N f1 ba mo ji xs1 (X :: q) false ((re : Int) + 1) (WT : Int) _ H4.out)
    clear hw4 e4 hb4 v4 v5 k0 k1 k2 k3 k4 k5 k6 k7 k8 k9 k10 k11 d0 d1 d2 d3 d4 d5 d6 d7 d8 d9 d10 d11 V3 A3 Z3 H3 C3 he hq
    have x2 : w4.cell? ⟨v, 2, none⟩ = some (.int .i64 (mo : Int)) := V4.out.cell 2
    have x3 : w4.cell? ⟨v, 3, none⟩ = some (.int .i64 (ji : Int)) := V4.out.cell 3
    have x5 : w4.cell? ⟨v, 5, none⟩ = some (.int .i64 (tk : Int)) := V4.out.cell 5
    have x7 : w4.cell? ⟨v, 7, none⟩ = some (.int .i64 tr) := V4.out.cell 7
    have x8 : w4.cell? ⟨v, 8, none⟩ = some (.int .i64 (wt : Int)) := V4.out.cell 8
    have g5 : w4.frozen? ⟨v, 5, none⟩ = false := V4.out.frozen 5
    have g7 : w4.frozen? ⟨v, 7, none⟩ = false := V4.out.frozen 7
    have g8 : w4.frozen? ⟨v, 8, none⟩ = false := V4.out.frozen 8
    have y4 : w4.cell? ⟨z, 14, none⟩ = some (.bool false) := Z4.out.cell 14
    have hzv : z ≠ v := HZ.out.2.2.2
    have hvz : v ≠ z := fun e => hzv e.symm
    have htk := hmx.out
    go_wp2_with fail
    refine CW.out.mono ?_
    rintro e w5 ⟨rfl, rfl⟩
    go_upto_region 14 with fail
    obtain ⟨w5, hw5⟩ : ∃ w5, w5 = w4.setCell ⟨v, 8, none⟩ (.int .i64 (WT : Int)) := ⟨_, rfl⟩
    rw [← hw5]
    have hcW : Chg (fun k => k = v) w4 w5 := by
      rw [hw5]
      exact Chg.setCell (S := fun k => k = v) (p := ⟨v, 8, none⟩) (Chg.refl _ w4) (.inl rfl) _
    have VW : Blk w5 v 60 #[.int .i64 (N : Int), .int .i64 (ba : Int), .int .i64 (mo : Int), .int .i64 (ji : Int), .slice A m c, .int .i64 (tk : Int), .bool false, .int .i64 tr, .int .i64 (WT : Int)] := by
      have := V4.out.set_ 8 (.int .i64 (WT : Int))
      rw [hw5]
      simpa using this
    have hav := HAV.out
    have hap := HAP.out
    have HF : Hid (DS B w5 d g p N f1 xs1 (X :: q) ba mo ji false (re + 1) WT v A m c pl tk ((re : Int) + 1) ∧ Chg (dsF d g p v) w w5) := Lib.hid
      ⟨⟨by simpa using H4.out.chg hcW (fun e => hav.1 e.symm) (fun e => hav.2.1 e.symm) (fun e => hav.2.2 e.symm), by have := HTR.out; simp only [if_true] at this; rw [← this]; exact VW, A4.out.chg hcW (fun k hk e => (hap k hk).2.2.2 e), HQ0.out, HTK.out, hap, hav, (fun e => by cases e), by simp⟩, C4.out.trans hcW (fun k _ e => .inr (.inr (.inr e)))⟩
    clear hw5 hcW hav hap x2 x3 x5 x7 x8 g5 g7 g8 y4
    have x8 : w5.cell? ⟨v, 8, none⟩ = some (.int .i64 (WT : Int)) := VW.cell 8
    have x2 : w5.cell? ⟨v, 2, none⟩ = some (.int .i64 (mo : Int)) := VW.cell 2
    have x3 : w5.cell? ⟨v, 3, none⟩ = some (.int .i64 (ji : Int)) := VW.cell 3
    clear VW
    have t1 : decide ((WT : Int) ≤ (now : Int) + (mo : Int) + (ji : Int)) = true := decide_eq_true (by have := HW2.out; omega)
    go_quiet (fail)
    go_wp2_with fail
    go_ret
    obtain ⟨h2, h3⟩ := HF.out
    exact ⟨WT, ⟨HW1.out, HW2.out⟩, rfl, f1, xs1, h2.keep (below_drewN (Below.refl _ _) _), h3.drewN _⟩
end Go.Proofs.Ytjkocghbnljifaa
