/- THE WALK of watch.send, where the first is sent (printed by a program of ours). -/
import Derived.Test.YtjkocghbnljifaaDelWSend
namespace Go.Proofs.Ytjkocghbnljifaa
open Go.RowKit
def WSent (B d g p N f : Nat) (xs q : List Th) (ba mo ji re wt v : Nat) (A : Option Addr) (m c : Nat) (pl : List Th) (tk : Nat) (w : World) (e : Ending) (w' : World) : Prop :=
  e = .returned (.bool true) ∧ DS B w' d g p N f xs q ba mo ji true re wt v A m c pl tk ((re : Int) + 1) ∧ Chg (dsF d g p v) w w'
set_option maxRecDepth 100000 in
set_option maxHeartbeats 4000000 in
theorem wsend_ok (B d g p N f ba mo ji re wt v m c tk : Nat) (xs q pl : List Th) (x : Th) (A : Option Addr) (tr : Int) (now : Nat) (w : World) (h : DS B w d g p N f xs (x :: q) ba mo ji false re wt v A m c pl tk tr)
    (hnw : wt ≤ now) (hnow : now ≤ 2305843009213693952) (hre : re ≤ 1000000) :
    Calls Try.prog 16 #[.pointer (some ⟨v, 0, none⟩), .pointer (some ⟨d, 0, none⟩), .int .i64 (now : Int)] w (WSent B d g p N f xs (x :: q) ba mo ji re wt v A m c pl tk w) := by
  have hS := send_ok d g p N f ba mo ji xs q x re wt now w h.dv (by unfold tmC; omega) (by omega)
  unfold SendOk at hS
  have hfst := h.first
  have htr := h.htr
  simp only [Bool.false_eq_true, if_false, Int.add_zero] at htr
  have HD := Lib.hid h
  have HF1 := Lib.hid hfst
  have h1 : tk < m := hfst.2.1
  have hmx : Hid (m ≤ 9223372036854775807 ∧ m ≤ c) := Lib.hid (by have h1 := h.al.2.1; have h2 := h.al.2.2.1; simp only [maxLen] at h2; omega)
  obtain ⟨X, hX⟩ : ∃ X : Th, X = x := ⟨_, rfl⟩
  obtain ⟨qp, qm0, qm1, qm2, qm3, qm4, qm5, qm6, qm7, qm8, qt, qr⟩ := x
  have HXC : Hid (X.cells = #[.int .i64 qp, .int .i64 qm0, .int .i64 qm1, .int .i64 qm2, .int .i64 qm3, .int .i64 qm4, .int .i64 qm5, .int .i64 qm6, .int .i64 qm7, .int .i64 qm8, .string qt, .int .u32 qr]) := Lib.hid (by rw [hX]; rfl)
  have HX := Lib.hid hX
  rw [← hX] at hS HD HF1 ⊢
  rw [HXC.out] at hS
  have CS := Lib.hid hS
  have HTR := Lib.hid htr
  clear h hX hS hfst htr
  go_enter Try.func16, Try.ntmps16
  go_wp2_with fail
  refine CS.out.mono ?_
  rintro e w1 ⟨rfl, hv1, hc1⟩
  have H1 : Hid (DV w1 d g p N f xs (X :: q) ba mo ji true re wt) := Lib.hid hv1
  have V1 : Hid (Blk w1 v 60 #[.int .i64 (N : Int), .int .i64 (ba : Int), .int .i64 (mo : Int), .int .i64 (ji : Int), .slice A m c, .int .i64 (tk : Int), .bool false, .int .i64 (re : Int), .int .i64 (wt : Int)]) := Lib.hid (by
    have := HD.out.wv
    rw [HTR.out] at this
    exact this.chg hc1 (fun e => HD.out.av.1 e))
  have A1 : Hid (AW w1 B A m c pl) := Lib.hid (HD.out.al.chg hc1 (fun k hk e => (HD.out.ap k hk).1 e))
  have C1 : Hid (Chg (dsF d g p v) w w1) := Lib.hid ((Chg.refl _ w).trans hc1 (fun k _ e => .inl e))
  clear hc1 hv1 CS
  go_upto_region 2 with fail
  obtain ⟨w2, hw2⟩ : ∃ w2, w2 = w1.alloc (.cells #[.int .i64 qp, .int .i64 qm0, .int .i64 qm1, .int .i64 qm2, .int .i64 qm3, .int .i64 qm4, .int .i64 qm5, .int .i64 qm6, .int .i64 qm7, .int .i64 qm8, .string qt, .int .u32 qr] 44) := ⟨_, rfl⟩
  obtain ⟨b, hb⟩ : ∃ b, b = w1.heap.size := ⟨_, rfl⟩
  rw [← hw2, ← hb]
  have hbb : Below w1.heap.size w1 w2 := by rw [hw2]; exact (Below.refl _ _).alloc (Nat.le_refl _) _
  have K2 : Hid (Blk w2 b 44 #[.int .i64 qp, .int .i64 qm0, .int .i64 qm1, .int .i64 qm2, .int .i64 qm3, .int .i64 qm4, .int .i64 qm5, .int .i64 qm6, .int .i64 qm7, .int .i64 qm8, .string qt, .int .u32 qr]) := Lib.hid (by rw [hw2, hb]; exact Blk.new w1 _ _ rfl)
  have H2 := Lib.hid (H1.out.keep hbb)
  have V2 := Lib.hid (V1.out.keep hbb)
  have A2 := Lib.hid (A1.out.keep hbb)
  have HBV : Hid (b ≠ v ∧ v ≠ b ∧ ∀ k, inB A k → k ≠ b) := Lib.hid (by
    have := V1.out.lt
    refine ⟨by omega, by omega, fun k hk => ?_⟩
    have := (A1.out.lt k hk).2; omega)
  have C2 : Hid (Chg (dsF d g p v) w w2) := Lib.hid (by rw [hw2]; exact C1.out.alloc _)
  clear hw2 hb hbb C1 H1 V1 A1
  have v4 : w2.cell? ⟨v, 4, none⟩ = some (.slice A m c) := V2.out.cell 4
  have v5 : w2.cell? ⟨v, 5, none⟩ = some (.int .i64 (tk : Int)) := V2.out.cell 5
  have v6 : w2.cell? ⟨v, 6, none⟩ = some (.bool false) := V2.out.cell 6
  have v7 : w2.cell? ⟨v, 7, none⟩ = some (.int .i64 (re : Int)) := V2.out.cell 7
  have v8 : w2.cell? ⟨v, 8, none⟩ = some (.int .i64 (wt : Int)) := V2.out.cell 8
  have f6 : w2.frozen? ⟨v, 6, none⟩ = false := V2.out.frozen 6
  have f7 : w2.frozen? ⟨v, 7, none⟩ = false := V2.out.frozen 7
  go_cut [10] (fun s wx => s = .bool true ∧ ∃ md, wx = w2.drewN md)
  case first =>
    go_quiet (fail)
    go_wp2_with fail
    go_meet
    exact ⟨rfl, _, rfl⟩
  case rest =>
    obtain ⟨rfl, md, rfl⟩ := hcut
    have hq := guard_al
    have he := eq_al X
    rw [HXC.out] at he
    go_upto_region 9 with fail
    obtain ⟨W, hW⟩ : ∃ W, W = ((w2.drewN md).setCell ⟨v, 6, none⟩ (.bool true)).setCell ⟨v, 7, none⟩ (.int .i64 ((re : Int) + 1)) := ⟨_, rfl⟩
    rw [← hW]
    have hcW : Chg (fun k => k = v) w2 W := by
      rw [hW]
      exact Chg.setCell (S := fun k => k = v) (p := ⟨v, 7, none⟩) (Chg.setCell (S := fun k => k = v) (p := ⟨v, 6, none⟩) (Chg.drewN (Chg.refl _ w2) _) (.inl rfl) _) (.inl rfl) _
    have hav := HD.out.av
    have hap := HD.out.ap
    have KW : Blk W b 44 #[.int .i64 qp, .int .i64 qm0, .int .i64 qm1, .int .i64 qm2, .int .i64 qm3, .int .i64 qm4, .int .i64 qm5, .int .i64 qm6, .int .i64 qm7, .int .i64 qm8, .string qt, .int .u32 qr] := K2.out.chg hcW HBV.out.1
    have VW : Blk W v 60 #[.int .i64 (N : Int), .int .i64 (ba : Int), .int .i64 (mo : Int), .int .i64 (ji : Int), .slice A m c, .int .i64 (tk : Int), .bool true, .int .i64 ((re : Int) + 1), .int .i64 (wt : Int)] := by
      have := ((V2.out.drewN md).set_ 6 (.bool true)).set_ 7 (.int .i64 ((re : Int) + 1))
      rw [hW]
      simpa using this
    have AWW : AW W B A m c pl := A2.out.chg hcW (fun k hk e => (hap k hk).2.2.2 e)
    have HF : Hid (WSent B d g p N f xs (X :: q) ba mo ji re wt v A m c pl tk w (.returned (.bool true)) W) := Lib.hid
      ⟨rfl, ⟨H2.out.chg hcW (fun e => hav.1 e.symm) (fun e => hav.2.1 e.symm) (fun e => hav.2.2 e.symm), VW, AWW, HD.out.hq, HD.out.htk, hap, hav, fun _ => by simp, by simp⟩, C2.out.trans hcW (fun k _ e => .inr (.inr (.inr e)))⟩
    obtain ⟨bb, off, rfl, hbb, c0, c1, c2, c3, c4, c5, c6, c7, c8, c9, c10, c11⟩ := AWW.as.at_ HF1.out.1
    have HXX := HX.out
    clear hW hcW hav hap v4 v5 v6 v7 v8 f6 f7 HD V2 A2 H2 C2 HF1 AWW K2
    have v4 : W.cell? ⟨v, 4, none⟩ = some (.slice (some ⟨bb, off, none⟩) m c) := VW.cell 4
    have v5 : W.cell? ⟨v, 5, none⟩ = some (.int .i64 (tk : Int)) := VW.cell 5
    have v7 : W.cell? ⟨v, 7, none⟩ = some (.int .i64 ((re : Int) + 1)) := VW.cell 7
    have k0 : W.cell? ⟨b, 0, none⟩ = some (.int .i64 qp) := KW.cell 0
    have k1 : W.cell? ⟨b, 1, none⟩ = some (.int .i64 qm0) := KW.cell 1
    have k2 : W.cell? ⟨b, 2, none⟩ = some (.int .i64 qm1) := KW.cell 2
    have k3 : W.cell? ⟨b, 3, none⟩ = some (.int .i64 qm2) := KW.cell 3
    have k4 : W.cell? ⟨b, 4, none⟩ = some (.int .i64 qm3) := KW.cell 4
    have k5 : W.cell? ⟨b, 5, none⟩ = some (.int .i64 qm4) := KW.cell 5
    have k6 : W.cell? ⟨b, 6, none⟩ = some (.int .i64 qm5) := KW.cell 6
    have k7 : W.cell? ⟨b, 7, none⟩ = some (.int .i64 qm6) := KW.cell 7
    have k8 : W.cell? ⟨b, 8, none⟩ = some (.int .i64 qm7) := KW.cell 8
    have k9 : W.cell? ⟨b, 9, none⟩ = some (.int .i64 qm8) := KW.cell 9
    have k10 : W.cell? ⟨b, 10, none⟩ = some (.string qt) := KW.cell 10
    have k11 : W.cell? ⟨b, 11, none⟩ = some (.int .u32 qr) := KW.cell 11
    have d0 : W.cell? ⟨bb, off + tk * 12, none⟩ = some (.int .i64 qp) := by have := c0; rw [HXX] at this; exact this
    have d1 : W.cell? ⟨bb, off + tk * 12 + 1, none⟩ = some (.int .i64 qm0) := by have := c1; rw [HXX] at this; exact this
    have d2 : W.cell? ⟨bb, off + tk * 12 + 2, none⟩ = some (.int .i64 qm1) := by have := c2; rw [HXX] at this; exact this
    have d3 : W.cell? ⟨bb, off + tk * 12 + 3, none⟩ = some (.int .i64 qm2) := by have := c3; rw [HXX] at this; exact this
    have d4 : W.cell? ⟨bb, off + tk * 12 + 4, none⟩ = some (.int .i64 qm3) := by have := c4; rw [HXX] at this; exact this
    have d5 : W.cell? ⟨bb, off + tk * 12 + 5, none⟩ = some (.int .i64 qm4) := by have := c5; rw [HXX] at this; exact this
    have d6 : W.cell? ⟨bb, off + tk * 12 + 6, none⟩ = some (.int .i64 qm5) := by have := c6; rw [HXX] at this; exact this
    have d7 : W.cell? ⟨bb, off + tk * 12 + 7, none⟩ = some (.int .i64 qm6) := by have := c7; rw [HXX] at this; exact this
    have d8 : W.cell? ⟨bb, off + tk * 12 + 8, none⟩ = some (.int .i64 qm7) := by have := c8; rw [HXX] at this; exact this
    have d9 : W.cell? ⟨bb, off + tk * 12 + 9, none⟩ = some (.int .i64 qm8) := by have := c9; rw [HXX] at this; exact this
    have d10 : W.cell? ⟨bb, off + tk * 12 + 10, none⟩ = some (.string qt) := by have := c10; rw [HXX] at this; exact this
    have d11 : W.cell? ⟨bb, off + tk * 12 + 11, none⟩ = some (.int .u32 qr) := by have := c11; rw [HXX] at this; exact this
    clear KW VW c0 c1 c2 c3 c4 c5 c6 c7 c8 c9 c10 c11 HXX
    go_quiet (fail)
    go_wp2_with fail
    go_ret
    obtain ⟨_, h2, h3⟩ := HF.out
    exact ⟨rfl, h2.keep (below_drewN (Below.refl _ _) _), h3.drewN _⟩
end Go.Proofs.Ytjkocghbnljifaa
