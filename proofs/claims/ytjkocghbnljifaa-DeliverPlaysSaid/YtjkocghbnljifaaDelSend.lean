/- THE WALKS of a deliverer's Send (printed by a program of ours). -/
import Derived.Test.YtjkocghbnljifaaDel
namespace Go.Proofs.Ytjkocghbnljifaa
open Go.RowKit
def SendNo (w : World) (e : Ending) (w' : World) : Prop :=
  e = .returned (.tuple #[.agg th0.cells, .int .i64 0, .bool false]) ∧ Below w.heap.size w w'
def SendOk (d g p N f : Nat) (xs q : List Th) (x : Th) (ba mo ji : Nat) (re wt : Int) (w : World) (e : Ending) (w' : World) : Prop :=
  e = .returned (.tuple #[.agg x.cells, .int .i64 (re + 1), .bool true]) ∧ DV w' d g p N f xs q ba mo ji true re wt ∧ Chg (fun k => k = d) w w'
set_option maxRecDepth 100000 in
set_option maxHeartbeats 4000000 in
theorem send_nil (d g p N f ba mo ji : Nat) (xs : List Th) (se : Bool) (re wt : Int) (now : Int) (w : World) (h : DV w d g p N f xs [] ba mo ji se re wt) :
    Calls Try.prog 18 #[.pointer (some ⟨d, 0, none⟩), .int .i64 now] w (SendNo w) := by
  have h0 := h.keep ((Below.refl _ _).alloc (Nat.le_refl _) (.cells th0.cells 44))
  have hB0 : Blk (w.alloc (.cells th0.cells 44)) w.heap.size 44 th0.cells := Blk.new w _ _ rfl
  have hC0 : Below w.heap.size w (w.alloc (.cells th0.cells 44)) := (Below.refl _ _).alloc (Nat.le_refl _) _
  obtain ⟨w0, hw0⟩ : ∃ w0, w0 = w.alloc (.cells th0.cells 44) := ⟨_, rfl⟩
  obtain ⟨b, hb⟩ : ∃ b, b = w.heap.size := ⟨_, rfl⟩
  rw [← hw0] at h0 hB0 hC0
  rw [← hb] at hB0
  have hdl := h.blk.lt
  have HBG : Hid (b ≠ g ∧ b ≠ p) := Lib.hid (by have := h.ring.blk.lt; have := h.ring.arr.lt; omega)
  have hbd : b ≠ d := by omega
  have hdb : d ≠ b := by omega
  have H0 := Lib.hid h0; have HK := Lib.hid hB0; have HC := Lib.hid hC0; have HE := Lib.hid hb
  have c0 : w0.cell? ⟨d, 0, none⟩ = some (.pointer (some ⟨g, 0, none⟩)) := h0.blk.cell 0
  have CF := frontT_nil g p N f xs w0 h0.ring
  unfold FrontT at CF
  have HCF := Lib.hid CF
  clear h h0 hB0 hC0 CF
  simp only [Th.cells, th0] at hw0
  simp only [frontT, Th.cells, th0] at HCF
  go_enter Try.func18, Try.ntmps18
  go_upto_region 1 with fail
  have e0 : (ByteArray.empty : ByteArray) = { data := #[] } := rfl
  rw [e0] at hw0
  rw [← hw0, ← hb]
  clear hw0 hb e0 hdl
  go_wp2_with fail
  refine HCF.out.mono ?_
  rintro e w1 ⟨rfl, hb1⟩
  have H1 := Lib.hid (H0.out.keep hb1); have K1 := Lib.hid (HK.out.keep hb1); have C1 := Lib.hid (HC.out.trans (hb1.mono HC.out.size))
  have hb2 : Below w1.heap.size w1 (w1.alloc (.cells #[.int .i64 0, .int .i64 0, .int .i64 0, .int .i64 0, .int .i64 0, .int .i64 0, .int .i64 0, .int .i64 0, .int .i64 0, .int .i64 0, .string ByteArray.empty, .int .u32 0] 44)) := (Below.refl _ _).alloc (Nat.le_refl _) _
  have H2 := Lib.hid (H1.out.keep hb2); have K2 := Lib.hid (K1.out.keep hb2); have C2 := Lib.hid (C1.out.trans (hb2.mono C1.out.size))
  have X2 : Hid (Blk (w1.alloc (.cells #[.int .i64 0, .int .i64 0, .int .i64 0, .int .i64 0, .int .i64 0, .int .i64 0, .int .i64 0, .int .i64 0, .int .i64 0, .int .i64 0, .string ByteArray.empty, .int .u32 0] 44)) w1.heap.size 44 #[.int .i64 0, .int .i64 0, .int .i64 0, .int .i64 0, .int .i64 0, .int .i64 0, .int .i64 0, .int .i64 0, .int .i64 0, .int .i64 0, .string ByteArray.empty, .int .u32 0]) := Lib.hid (Blk.new _ _ _ rfl)
  clear hb1 hb2 HCF H0 HK HC c0
  have hkl := K1.out.lt
  have hdl := H1.out.blk.lt
  go_upto_region 2 with fail
  obtain ⟨w2, hw2⟩ : ∃ w2, w2 = w1.alloc (.cells #[.int .i64 0, .int .i64 0, .int .i64 0, .int .i64 0, .int .i64 0, .int .i64 0, .int .i64 0, .int .i64 0, .int .i64 0, .int .i64 0, .string ByteArray.empty, .int .u32 0] 44) := ⟨_, rfl⟩
  obtain ⟨b7, hb7⟩ : ∃ b7, b7 = w1.heap.size := ⟨_, rfl⟩
  rw [← hw2] at H2 K2 C2 X2 ⊢
  rw [← hb7] at X2 ⊢
  have hb7b : b7 ≠ b := by omega
  have hbb7 : b ≠ b7 := by omega
  have hb7d : b7 ≠ d := by omega
  have hdb7 : d ≠ b7 := by omega
  clear hw2 hb7 hkl hdl H1 K1 C1
  have HT : Hid (∀ k, Calls Try.prog 28 #[.int .i64 now] (w2.drewN k) fun e w' => e = .returned (.int .i64 (tmC now)) ∧ w2.drewN k = w') := Lib.hid (fun k => time_any now _)
  obtain ⟨tm, htm⟩ : ∃ tm, tm = tmC now := ⟨_, rfl⟩
  rw [← htm] at HT
  have c4 : w2.cell? ⟨d, 4, none⟩ = some (.bool se) := H2.out.blk.cell 4
  have c5 : w2.cell? ⟨d, 5, none⟩ = some (.int .i64 re) := H2.out.blk.cell 5
  have c6 : w2.cell? ⟨d, 6, none⟩ = some (.int .i64 wt) := H2.out.blk.cell 6
  clear htm
  go_quiet (with_reducible exact quiet (HT.out _))
  have k0 : w2.cell? ⟨b, 0, none⟩ = some (.int .i64 0) := K2.out.cell 0
  have k1 : w2.cell? ⟨b, 1, none⟩ = some (.int .i64 0) := K2.out.cell 1
  have k2 : w2.cell? ⟨b, 2, none⟩ = some (.int .i64 0) := K2.out.cell 2
  have k3 : w2.cell? ⟨b, 3, none⟩ = some (.int .i64 0) := K2.out.cell 3
  have k4 : w2.cell? ⟨b, 4, none⟩ = some (.int .i64 0) := K2.out.cell 4
  have k5 : w2.cell? ⟨b, 5, none⟩ = some (.int .i64 0) := K2.out.cell 5
  have k6 : w2.cell? ⟨b, 6, none⟩ = some (.int .i64 0) := K2.out.cell 6
  have k7 : w2.cell? ⟨b, 7, none⟩ = some (.int .i64 0) := K2.out.cell 7
  have k8 : w2.cell? ⟨b, 8, none⟩ = some (.int .i64 0) := K2.out.cell 8
  have k9 : w2.cell? ⟨b, 9, none⟩ = some (.int .i64 0) := K2.out.cell 9
  have k10 : w2.cell? ⟨b, 10, none⟩ = some (.string ByteArray.empty) := K2.out.cell 10
  have k11 : w2.cell? ⟨b, 11, none⟩ = some (.int .u32 0) := K2.out.cell 11
  have fk0 : w2.frozen? ⟨b, 0, none⟩ = false := K2.out.frozen 0
  have fk1 : w2.frozen? ⟨b, 1, none⟩ = false := K2.out.frozen 1
  have fk2 : w2.frozen? ⟨b, 2, none⟩ = false := K2.out.frozen 2
  have fk3 : w2.frozen? ⟨b, 3, none⟩ = false := K2.out.frozen 3
  have fk4 : w2.frozen? ⟨b, 4, none⟩ = false := K2.out.frozen 4
  have fk5 : w2.frozen? ⟨b, 5, none⟩ = false := K2.out.frozen 5
  have fk6 : w2.frozen? ⟨b, 6, none⟩ = false := K2.out.frozen 6
  have fk7 : w2.frozen? ⟨b, 7, none⟩ = false := K2.out.frozen 7
  have fk8 : w2.frozen? ⟨b, 8, none⟩ = false := K2.out.frozen 8
  have fk9 : w2.frozen? ⟨b, 9, none⟩ = false := K2.out.frozen 9
  have fk10 : w2.frozen? ⟨b, 10, none⟩ = false := K2.out.frozen 10
  have fk11 : w2.frozen? ⟨b, 11, none⟩ = false := K2.out.frozen 11
  go_wp2_with fail
  obtain ⟨W, hW⟩ : ∃ W, W = ((((((((((((w2.drewN nq).setCell ⟨b, 0, none⟩ (.int .i64 0)).setCell ⟨b, 1, none⟩ (.int .i64 0)).setCell ⟨b, 2, none⟩ (.int .i64 0)).setCell ⟨b, 3, none⟩ (.int .i64 0)).setCell ⟨b, 4, none⟩ (.int .i64 0)).setCell ⟨b, 5, none⟩ (.int .i64 0)).setCell ⟨b, 6, none⟩ (.int .i64 0)).setCell ⟨b, 7, none⟩ (.int .i64 0)).setCell ⟨b, 8, none⟩ (.int .i64 0)).setCell ⟨b, 9, none⟩ (.int .i64 0)).setCell ⟨b, 10, none⟩ (.string { data := #[] })).setCell ⟨b, 11, none⟩ (.int .u32 0) := ⟨_, rfl⟩
  rw [← hW]
  have hW' : W = (w2.drewN nq).setCells b 0 th0.cells.toList := hW
  have K3 : Blk W b 44 th0.cells := by rw [hW']; exact (K2.out.drewN nq).boxed th0
  have hF : SendNo w (.returned (.tuple #[.agg th0.cells, .int .i64 0, .bool false])) W := ⟨rfl, by rw [hW']; exact Below.cellsSet (by rw [HE.out]; exact Nat.le_refl _) _ _ _ (below_drewN C2.out nq)⟩
  have q0 : W.cell? ⟨b, 0, none⟩ = some (.int .i64 0) := K3.cell 0
  have q1 : W.cell? ⟨b, 1, none⟩ = some (.int .i64 0) := K3.cell 1
  have q2 : W.cell? ⟨b, 2, none⟩ = some (.int .i64 0) := K3.cell 2
  have q3 : W.cell? ⟨b, 3, none⟩ = some (.int .i64 0) := K3.cell 3
  have q4 : W.cell? ⟨b, 4, none⟩ = some (.int .i64 0) := K3.cell 4
  have q5 : W.cell? ⟨b, 5, none⟩ = some (.int .i64 0) := K3.cell 5
  have q6 : W.cell? ⟨b, 6, none⟩ = some (.int .i64 0) := K3.cell 6
  have q7 : W.cell? ⟨b, 7, none⟩ = some (.int .i64 0) := K3.cell 7
  have q8 : W.cell? ⟨b, 8, none⟩ = some (.int .i64 0) := K3.cell 8
  have q9 : W.cell? ⟨b, 9, none⟩ = some (.int .i64 0) := K3.cell 9
  have q10 : W.cell? ⟨b, 10, none⟩ = some (.string ByteArray.empty) := K3.cell 10
  have q11 : W.cell? ⟨b, 11, none⟩ = some (.int .u32 0) := K3.cell 11
  clear hW hW' K3
  refine bodyPost_ret (v := .tuple #[.agg #[.int .i64 0, .int .i64 0, .int .i64 0, .int .i64 0, .int .i64 0, .int .i64 0, .int .i64 0, .int .i64 0, .int .i64 0, .int .i64 0, .string ByteArray.empty, .int .u32 0], .int .i64 0, .bool false]) (by simp [results, Try.results18, go_sem, q0, q1, q2, q3, q4, q5, q6, q7, q8, q9, q10, q11]) rfl ?_
  exact hF
set_option maxRecDepth 100000 in
set_option maxHeartbeats 4000000 in
theorem send_sent (d g p N f ba mo ji : Nat) (xs q : List Th) (x : Th) (re wt : Int) (now : Int) (w : World) (h : DV w d g p N f xs (x :: q) ba mo ji true re wt) :
    Calls Try.prog 18 #[.pointer (some ⟨d, 0, none⟩), .int .i64 now] w (SendNo w) := by
  have h0 := h.keep ((Below.refl _ _).alloc (Nat.le_refl _) (.cells th0.cells 44))
  have hB0 : Blk (w.alloc (.cells th0.cells 44)) w.heap.size 44 th0.cells := Blk.new w _ _ rfl
  have hC0 : Below w.heap.size w (w.alloc (.cells th0.cells 44)) := (Below.refl _ _).alloc (Nat.le_refl _) _
  obtain ⟨w0, hw0⟩ : ∃ w0, w0 = w.alloc (.cells th0.cells 44) := ⟨_, rfl⟩
  obtain ⟨b, hb⟩ : ∃ b, b = w.heap.size := ⟨_, rfl⟩
  rw [← hw0] at h0 hB0 hC0
  rw [← hb] at hB0
  have hdl := h.blk.lt
  have HBG : Hid (b ≠ g ∧ b ≠ p) := Lib.hid (by have := h.ring.blk.lt; have := h.ring.arr.lt; omega)
  have hbd : b ≠ d := by omega
  have hdb : d ≠ b := by omega
  have H0 := Lib.hid h0; have HK := Lib.hid hB0; have HC := Lib.hid hC0; have HE := Lib.hid hb
  have c0 : w0.cell? ⟨d, 0, none⟩ = some (.pointer (some ⟨g, 0, none⟩)) := h0.blk.cell 0
  have CF := frontT_cons g p N f xs q x w0 h0.ring
  unfold FrontT at CF
  have HCF := Lib.hid CF
  clear h h0 hB0 hC0 CF
  simp only [Th.cells, th0] at hw0
  obtain ⟨qp, qm0, qm1, qm2, qm3, qm4, qm5, qm6, qm7, qm8, qt, qr⟩ := x
  obtain ⟨X, hX⟩ : ∃ X : Th, X = ⟨qp, qm0, qm1, qm2, qm3, qm4, qm5, qm6, qm7, qm8, qt, qr⟩ := ⟨_, rfl⟩
  have HXX := Lib.hid hX
  have HXC : Hid (X.cells = #[.int .i64 qp, .int .i64 qm0, .int .i64 qm1, .int .i64 qm2, .int .i64 qm3, .int .i64 qm4, .int .i64 qm5, .int .i64 qm6, .int .i64 qm7, .int .i64 qm8, .string qt, .int .u32 qr]) := Lib.hid (by rw [hX]; rfl)
  rw [← hX] at H0
  clear hX
  simp only [frontT, Th.cells] at HCF
  go_enter Try.func18, Try.ntmps18
  go_upto_region 1 with fail
  have e0 : (ByteArray.empty : ByteArray) = { data := #[] } := rfl
  rw [e0] at hw0
  rw [← hw0, ← hb]
  clear hw0 hb e0 hdl
  go_wp2_with fail
  refine HCF.out.mono ?_
  rintro e w1 ⟨rfl, hb1⟩
  have H1 := Lib.hid (H0.out.keep hb1); have K1 := Lib.hid (HK.out.keep hb1); have C1 := Lib.hid (HC.out.trans (hb1.mono HC.out.size))
  have hb2 : Below w1.heap.size w1 (w1.alloc (.cells #[.int .i64 qp, .int .i64 qm0, .int .i64 qm1, .int .i64 qm2, .int .i64 qm3, .int .i64 qm4, .int .i64 qm5, .int .i64 qm6, .int .i64 qm7, .int .i64 qm8, .string qt, .int .u32 qr] 44)) := (Below.refl _ _).alloc (Nat.le_refl _) _
  have H2 := Lib.hid (H1.out.keep hb2); have K2 := Lib.hid (K1.out.keep hb2); have C2 := Lib.hid (C1.out.trans (hb2.mono C1.out.size))
  have X2 : Hid (Blk (w1.alloc (.cells #[.int .i64 qp, .int .i64 qm0, .int .i64 qm1, .int .i64 qm2, .int .i64 qm3, .int .i64 qm4, .int .i64 qm5, .int .i64 qm6, .int .i64 qm7, .int .i64 qm8, .string qt, .int .u32 qr] 44)) w1.heap.size 44 #[.int .i64 qp, .int .i64 qm0, .int .i64 qm1, .int .i64 qm2, .int .i64 qm3, .int .i64 qm4, .int .i64 qm5, .int .i64 qm6, .int .i64 qm7, .int .i64 qm8, .string qt, .int .u32 qr]) := Lib.hid (Blk.new _ _ _ rfl)
  clear hb1 hb2 HCF H0 HK HC c0
  have hkl := K1.out.lt
  have hdl := H1.out.blk.lt
  go_upto_region 2 with fail
  obtain ⟨w2, hw2⟩ : ∃ w2, w2 = w1.alloc (.cells #[.int .i64 qp, .int .i64 qm0, .int .i64 qm1, .int .i64 qm2, .int .i64 qm3, .int .i64 qm4, .int .i64 qm5, .int .i64 qm6, .int .i64 qm7, .int .i64 qm8, .string qt, .int .u32 qr] 44) := ⟨_, rfl⟩
  obtain ⟨b7, hb7⟩ : ∃ b7, b7 = w1.heap.size := ⟨_, rfl⟩
  rw [← hw2] at H2 K2 C2 X2 ⊢
  rw [← hb7] at X2 ⊢
  have hb7b : b7 ≠ b := by omega
  have hbb7 : b ≠ b7 := by omega
  have hb7d : b7 ≠ d := by omega
  have hdb7 : d ≠ b7 := by omega
  clear hw2 hb7 hkl hdl H1 K1 C1
  have HT : Hid (∀ k, Calls Try.prog 28 #[.int .i64 now] (w2.drewN k) fun e w' => e = .returned (.int .i64 (tmC now)) ∧ w2.drewN k = w') := Lib.hid (fun k => time_any now _)
  obtain ⟨tm, htm⟩ : ∃ tm, tm = tmC now := ⟨_, rfl⟩
  rw [← htm] at HT
  have c4 : w2.cell? ⟨d, 4, none⟩ = some (.bool true) := H2.out.blk.cell 4
  have c5 : w2.cell? ⟨d, 5, none⟩ = some (.int .i64 re) := H2.out.blk.cell 5
  have c6 : w2.cell? ⟨d, 6, none⟩ = some (.int .i64 wt) := H2.out.blk.cell 6
  clear htm
  go_quiet (with_reducible exact quiet (HT.out _))
  have k0 : w2.cell? ⟨b, 0, none⟩ = some (.int .i64 0) := K2.out.cell 0
  have k1 : w2.cell? ⟨b, 1, none⟩ = some (.int .i64 0) := K2.out.cell 1
  have k2 : w2.cell? ⟨b, 2, none⟩ = some (.int .i64 0) := K2.out.cell 2
  have k3 : w2.cell? ⟨b, 3, none⟩ = some (.int .i64 0) := K2.out.cell 3
  have k4 : w2.cell? ⟨b, 4, none⟩ = some (.int .i64 0) := K2.out.cell 4
  have k5 : w2.cell? ⟨b, 5, none⟩ = some (.int .i64 0) := K2.out.cell 5
  have k6 : w2.cell? ⟨b, 6, none⟩ = some (.int .i64 0) := K2.out.cell 6
  have k7 : w2.cell? ⟨b, 7, none⟩ = some (.int .i64 0) := K2.out.cell 7
  have k8 : w2.cell? ⟨b, 8, none⟩ = some (.int .i64 0) := K2.out.cell 8
  have k9 : w2.cell? ⟨b, 9, none⟩ = some (.int .i64 0) := K2.out.cell 9
  have k10 : w2.cell? ⟨b, 10, none⟩ = some (.string ByteArray.empty) := K2.out.cell 10
  have k11 : w2.cell? ⟨b, 11, none⟩ = some (.int .u32 0) := K2.out.cell 11
  have fk0 : w2.frozen? ⟨b, 0, none⟩ = false := K2.out.frozen 0
  have fk1 : w2.frozen? ⟨b, 1, none⟩ = false := K2.out.frozen 1
  have fk2 : w2.frozen? ⟨b, 2, none⟩ = false := K2.out.frozen 2
  have fk3 : w2.frozen? ⟨b, 3, none⟩ = false := K2.out.frozen 3
  have fk4 : w2.frozen? ⟨b, 4, none⟩ = false := K2.out.frozen 4
  have fk5 : w2.frozen? ⟨b, 5, none⟩ = false := K2.out.frozen 5
  have fk6 : w2.frozen? ⟨b, 6, none⟩ = false := K2.out.frozen 6
  have fk7 : w2.frozen? ⟨b, 7, none⟩ = false := K2.out.frozen 7
  have fk8 : w2.frozen? ⟨b, 8, none⟩ = false := K2.out.frozen 8
  have fk9 : w2.frozen? ⟨b, 9, none⟩ = false := K2.out.frozen 9
  have fk10 : w2.frozen? ⟨b, 10, none⟩ = false := K2.out.frozen 10
  have fk11 : w2.frozen? ⟨b, 11, none⟩ = false := K2.out.frozen 11
  go_wp2_with fail
  obtain ⟨W, hW⟩ : ∃ W, W = ((((((((((((w2.drewN nq).setCell ⟨b, 0, none⟩ (.int .i64 0)).setCell ⟨b, 1, none⟩ (.int .i64 0)).setCell ⟨b, 2, none⟩ (.int .i64 0)).setCell ⟨b, 3, none⟩ (.int .i64 0)).setCell ⟨b, 4, none⟩ (.int .i64 0)).setCell ⟨b, 5, none⟩ (.int .i64 0)).setCell ⟨b, 6, none⟩ (.int .i64 0)).setCell ⟨b, 7, none⟩ (.int .i64 0)).setCell ⟨b, 8, none⟩ (.int .i64 0)).setCell ⟨b, 9, none⟩ (.int .i64 0)).setCell ⟨b, 10, none⟩ (.string { data := #[] })).setCell ⟨b, 11, none⟩ (.int .u32 0) := ⟨_, rfl⟩
  rw [← hW]
  have hW' : W = (w2.drewN nq).setCells b 0 th0.cells.toList := hW
  have K3 : Blk W b 44 th0.cells := by rw [hW']; exact (K2.out.drewN nq).boxed th0
  have hF : SendNo w (.returned (.tuple #[.agg th0.cells, .int .i64 0, .bool false])) W := ⟨rfl, by rw [hW']; exact Below.cellsSet (by rw [HE.out]; exact Nat.le_refl _) _ _ _ (below_drewN C2.out nq)⟩
  have q0 : W.cell? ⟨b, 0, none⟩ = some (.int .i64 0) := K3.cell 0
  have q1 : W.cell? ⟨b, 1, none⟩ = some (.int .i64 0) := K3.cell 1
  have q2 : W.cell? ⟨b, 2, none⟩ = some (.int .i64 0) := K3.cell 2
  have q3 : W.cell? ⟨b, 3, none⟩ = some (.int .i64 0) := K3.cell 3
  have q4 : W.cell? ⟨b, 4, none⟩ = some (.int .i64 0) := K3.cell 4
  have q5 : W.cell? ⟨b, 5, none⟩ = some (.int .i64 0) := K3.cell 5
  have q6 : W.cell? ⟨b, 6, none⟩ = some (.int .i64 0) := K3.cell 6
  have q7 : W.cell? ⟨b, 7, none⟩ = some (.int .i64 0) := K3.cell 7
  have q8 : W.cell? ⟨b, 8, none⟩ = some (.int .i64 0) := K3.cell 8
  have q9 : W.cell? ⟨b, 9, none⟩ = some (.int .i64 0) := K3.cell 9
  have q10 : W.cell? ⟨b, 10, none⟩ = some (.string ByteArray.empty) := K3.cell 10
  have q11 : W.cell? ⟨b, 11, none⟩ = some (.int .u32 0) := K3.cell 11
  clear hW hW' K3
  refine bodyPost_ret (v := .tuple #[.agg #[.int .i64 0, .int .i64 0, .int .i64 0, .int .i64 0, .int .i64 0, .int .i64 0, .int .i64 0, .int .i64 0, .int .i64 0, .int .i64 0, .string ByteArray.empty, .int .u32 0], .int .i64 0, .bool false]) (by simp [results, Try.results18, go_sem, q0, q1, q2, q3, q4, q5, q6, q7, q8, q9, q10, q11]) rfl ?_
  exact hF
set_option maxRecDepth 100000 in
set_option maxHeartbeats 4000000 in
theorem send_early (d g p N f ba mo ji : Nat) (xs q : List Th) (x : Th) (re wt : Int) (now : Int) (w : World) (h : DV w d g p N f xs (x :: q) ba mo ji false re wt) (ht : tmC now < wt) :
    Calls Try.prog 18 #[.pointer (some ⟨d, 0, none⟩), .int .i64 now] w (SendNo w) := by
  have h0 := h.keep ((Below.refl _ _).alloc (Nat.le_refl _) (.cells th0.cells 44))
  have hB0 : Blk (w.alloc (.cells th0.cells 44)) w.heap.size 44 th0.cells := Blk.new w _ _ rfl
  have hC0 : Below w.heap.size w (w.alloc (.cells th0.cells 44)) := (Below.refl _ _).alloc (Nat.le_refl _) _
  obtain ⟨w0, hw0⟩ : ∃ w0, w0 = w.alloc (.cells th0.cells 44) := ⟨_, rfl⟩
  obtain ⟨b, hb⟩ : ∃ b, b = w.heap.size := ⟨_, rfl⟩
  rw [← hw0] at h0 hB0 hC0
  rw [← hb] at hB0
  have hdl := h.blk.lt
  have HBG : Hid (b ≠ g ∧ b ≠ p) := Lib.hid (by have := h.ring.blk.lt; have := h.ring.arr.lt; omega)
  have hbd : b ≠ d := by omega
  have hdb : d ≠ b := by omega
  have H0 := Lib.hid h0; have HK := Lib.hid hB0; have HC := Lib.hid hC0; have HE := Lib.hid hb
  have c0 : w0.cell? ⟨d, 0, none⟩ = some (.pointer (some ⟨g, 0, none⟩)) := h0.blk.cell 0
  have CF := frontT_cons g p N f xs q x w0 h0.ring
  unfold FrontT at CF
  have HCF := Lib.hid CF
  clear h h0 hB0 hC0 CF
  simp only [Th.cells, th0] at hw0
  obtain ⟨qp, qm0, qm1, qm2, qm3, qm4, qm5, qm6, qm7, qm8, qt, qr⟩ := x
  obtain ⟨X, hX⟩ : ∃ X : Th, X = ⟨qp, qm0, qm1, qm2, qm3, qm4, qm5, qm6, qm7, qm8, qt, qr⟩ := ⟨_, rfl⟩
  have HXX := Lib.hid hX
  have HXC : Hid (X.cells = #[.int .i64 qp, .int .i64 qm0, .int .i64 qm1, .int .i64 qm2, .int .i64 qm3, .int .i64 qm4, .int .i64 qm5, .int .i64 qm6, .int .i64 qm7, .int .i64 qm8, .string qt, .int .u32 qr]) := Lib.hid (by rw [hX]; rfl)
  rw [← hX] at H0
  clear hX
  simp only [frontT, Th.cells] at HCF
  go_enter Try.func18, Try.ntmps18
  go_upto_region 1 with fail
  have e0 : (ByteArray.empty : ByteArray) = { data := #[] } := rfl
  rw [e0] at hw0
  rw [← hw0, ← hb]
  clear hw0 hb e0 hdl
  go_wp2_with fail
  refine HCF.out.mono ?_
  rintro e w1 ⟨rfl, hb1⟩
  have H1 := Lib.hid (H0.out.keep hb1); have K1 := Lib.hid (HK.out.keep hb1); have C1 := Lib.hid (HC.out.trans (hb1.mono HC.out.size))
  have hb2 : Below w1.heap.size w1 (w1.alloc (.cells #[.int .i64 qp, .int .i64 qm0, .int .i64 qm1, .int .i64 qm2, .int .i64 qm3, .int .i64 qm4, .int .i64 qm5, .int .i64 qm6, .int .i64 qm7, .int .i64 qm8, .string qt, .int .u32 qr] 44)) := (Below.refl _ _).alloc (Nat.le_refl _) _
  have H2 := Lib.hid (H1.out.keep hb2); have K2 := Lib.hid (K1.out.keep hb2); have C2 := Lib.hid (C1.out.trans (hb2.mono C1.out.size))
  have X2 : Hid (Blk (w1.alloc (.cells #[.int .i64 qp, .int .i64 qm0, .int .i64 qm1, .int .i64 qm2, .int .i64 qm3, .int .i64 qm4, .int .i64 qm5, .int .i64 qm6, .int .i64 qm7, .int .i64 qm8, .string qt, .int .u32 qr] 44)) w1.heap.size 44 #[.int .i64 qp, .int .i64 qm0, .int .i64 qm1, .int .i64 qm2, .int .i64 qm3, .int .i64 qm4, .int .i64 qm5, .int .i64 qm6, .int .i64 qm7, .int .i64 qm8, .string qt, .int .u32 qr]) := Lib.hid (Blk.new _ _ _ rfl)
  clear hb1 hb2 HCF H0 HK HC c0
  have hkl := K1.out.lt
  have hdl := H1.out.blk.lt
  go_upto_region 2 with fail
  obtain ⟨w2, hw2⟩ : ∃ w2, w2 = w1.alloc (.cells #[.int .i64 qp, .int .i64 qm0, .int .i64 qm1, .int .i64 qm2, .int .i64 qm3, .int .i64 qm4, .int .i64 qm5, .int .i64 qm6, .int .i64 qm7, .int .i64 qm8, .string qt, .int .u32 qr] 44) := ⟨_, rfl⟩
  obtain ⟨b7, hb7⟩ : ∃ b7, b7 = w1.heap.size := ⟨_, rfl⟩
  rw [← hw2] at H2 K2 C2 X2 ⊢
  rw [← hb7] at X2 ⊢
  have hb7b : b7 ≠ b := by omega
  have hbb7 : b ≠ b7 := by omega
  have hb7d : b7 ≠ d := by omega
  have hdb7 : d ≠ b7 := by omega
  clear hw2 hb7 hkl hdl H1 K1 C1
  have HT : Hid (∀ k, Calls Try.prog 28 #[.int .i64 now] (w2.drewN k) fun e w' => e = .returned (.int .i64 (tmC now)) ∧ w2.drewN k = w') := Lib.hid (fun k => time_any now _)
  obtain ⟨tm, htm⟩ : ∃ tm, tm = tmC now := ⟨_, rfl⟩
  rw [← htm] at HT ht
  have c4 : w2.cell? ⟨d, 4, none⟩ = some (.bool false) := H2.out.blk.cell 4
  have c5 : w2.cell? ⟨d, 5, none⟩ = some (.int .i64 re) := H2.out.blk.cell 5
  have c6 : w2.cell? ⟨d, 6, none⟩ = some (.int .i64 wt) := H2.out.blk.cell 6
  clear htm
  go_quiet (with_reducible exact quiet (HT.out _))
  have k0 : w2.cell? ⟨b, 0, none⟩ = some (.int .i64 0) := K2.out.cell 0
  have k1 : w2.cell? ⟨b, 1, none⟩ = some (.int .i64 0) := K2.out.cell 1
  have k2 : w2.cell? ⟨b, 2, none⟩ = some (.int .i64 0) := K2.out.cell 2
  have k3 : w2.cell? ⟨b, 3, none⟩ = some (.int .i64 0) := K2.out.cell 3
  have k4 : w2.cell? ⟨b, 4, none⟩ = some (.int .i64 0) := K2.out.cell 4
  have k5 : w2.cell? ⟨b, 5, none⟩ = some (.int .i64 0) := K2.out.cell 5
  have k6 : w2.cell? ⟨b, 6, none⟩ = some (.int .i64 0) := K2.out.cell 6
  have k7 : w2.cell? ⟨b, 7, none⟩ = some (.int .i64 0) := K2.out.cell 7
  have k8 : w2.cell? ⟨b, 8, none⟩ = some (.int .i64 0) := K2.out.cell 8
  have k9 : w2.cell? ⟨b, 9, none⟩ = some (.int .i64 0) := K2.out.cell 9
  have k10 : w2.cell? ⟨b, 10, none⟩ = some (.string ByteArray.empty) := K2.out.cell 10
  have k11 : w2.cell? ⟨b, 11, none⟩ = some (.int .u32 0) := K2.out.cell 11
  have fk0 : w2.frozen? ⟨b, 0, none⟩ = false := K2.out.frozen 0
  have fk1 : w2.frozen? ⟨b, 1, none⟩ = false := K2.out.frozen 1
  have fk2 : w2.frozen? ⟨b, 2, none⟩ = false := K2.out.frozen 2
  have fk3 : w2.frozen? ⟨b, 3, none⟩ = false := K2.out.frozen 3
  have fk4 : w2.frozen? ⟨b, 4, none⟩ = false := K2.out.frozen 4
  have fk5 : w2.frozen? ⟨b, 5, none⟩ = false := K2.out.frozen 5
  have fk6 : w2.frozen? ⟨b, 6, none⟩ = false := K2.out.frozen 6
  have fk7 : w2.frozen? ⟨b, 7, none⟩ = false := K2.out.frozen 7
  have fk8 : w2.frozen? ⟨b, 8, none⟩ = false := K2.out.frozen 8
  have fk9 : w2.frozen? ⟨b, 9, none⟩ = false := K2.out.frozen 9
  have fk10 : w2.frozen? ⟨b, 10, none⟩ = false := K2.out.frozen 10
  have fk11 : w2.frozen? ⟨b, 11, none⟩ = false := K2.out.frozen 11
  go_wp2_with fail
  obtain ⟨W, hW⟩ : ∃ W, W = ((((((((((((w2.drewN nq).setCell ⟨b, 0, none⟩ (.int .i64 0)).setCell ⟨b, 1, none⟩ (.int .i64 0)).setCell ⟨b, 2, none⟩ (.int .i64 0)).setCell ⟨b, 3, none⟩ (.int .i64 0)).setCell ⟨b, 4, none⟩ (.int .i64 0)).setCell ⟨b, 5, none⟩ (.int .i64 0)).setCell ⟨b, 6, none⟩ (.int .i64 0)).setCell ⟨b, 7, none⟩ (.int .i64 0)).setCell ⟨b, 8, none⟩ (.int .i64 0)).setCell ⟨b, 9, none⟩ (.int .i64 0)).setCell ⟨b, 10, none⟩ (.string { data := #[] })).setCell ⟨b, 11, none⟩ (.int .u32 0) := ⟨_, rfl⟩
  rw [← hW]
  have hW' : W = (w2.drewN nq).setCells b 0 th0.cells.toList := hW
  have K3 : Blk W b 44 th0.cells := by rw [hW']; exact (K2.out.drewN nq).boxed th0
  have hF : SendNo w (.returned (.tuple #[.agg th0.cells, .int .i64 0, .bool false])) W := ⟨rfl, by rw [hW']; exact Below.cellsSet (by rw [HE.out]; exact Nat.le_refl _) _ _ _ (below_drewN C2.out nq)⟩
  have q0 : W.cell? ⟨b, 0, none⟩ = some (.int .i64 0) := K3.cell 0
  have q1 : W.cell? ⟨b, 1, none⟩ = some (.int .i64 0) := K3.cell 1
  have q2 : W.cell? ⟨b, 2, none⟩ = some (.int .i64 0) := K3.cell 2
  have q3 : W.cell? ⟨b, 3, none⟩ = some (.int .i64 0) := K3.cell 3
  have q4 : W.cell? ⟨b, 4, none⟩ = some (.int .i64 0) := K3.cell 4
  have q5 : W.cell? ⟨b, 5, none⟩ = some (.int .i64 0) := K3.cell 5
  have q6 : W.cell? ⟨b, 6, none⟩ = some (.int .i64 0) := K3.cell 6
  have q7 : W.cell? ⟨b, 7, none⟩ = some (.int .i64 0) := K3.cell 7
  have q8 : W.cell? ⟨b, 8, none⟩ = some (.int .i64 0) := K3.cell 8
  have q9 : W.cell? ⟨b, 9, none⟩ = some (.int .i64 0) := K3.cell 9
  have q10 : W.cell? ⟨b, 10, none⟩ = some (.string ByteArray.empty) := K3.cell 10
  have q11 : W.cell? ⟨b, 11, none⟩ = some (.int .u32 0) := K3.cell 11
  clear hW hW' K3
  refine bodyPost_ret (v := .tuple #[.agg #[.int .i64 0, .int .i64 0, .int .i64 0, .int .i64 0, .int .i64 0, .int .i64 0, .int .i64 0, .int .i64 0, .int .i64 0, .int .i64 0, .string ByteArray.empty, .int .u32 0], .int .i64 0, .bool false]) (by simp [results, Try.results18, go_sem, q0, q1, q2, q3, q4, q5, q6, q7, q8, q9, q10, q11]) rfl ?_
  exact hF
set_option maxRecDepth 100000 in
set_option maxHeartbeats 4000000 in
theorem send_ok (d g p N f ba mo ji : Nat) (xs q : List Th) (x : Th) (re wt : Int) (now : Int) (w : World) (h : DV w d g p N f xs (x :: q) ba mo ji false re wt) (ht : wt ≤ tmC now) (hre : -9223372036854775808 ≤ re + 1 ∧ re + 1 ≤ 9223372036854775807) :
    Calls Try.prog 18 #[.pointer (some ⟨d, 0, none⟩), .int .i64 now] w (SendOk d g p N f xs (x :: q) x ba mo ji re wt w) := by
  have h0 := h.keep ((Below.refl _ _).alloc (Nat.le_refl _) (.cells th0.cells 44))
  have hB0 : Blk (w.alloc (.cells th0.cells 44)) w.heap.size 44 th0.cells := Blk.new w _ _ rfl
  have hC0 : Below w.heap.size w (w.alloc (.cells th0.cells 44)) := (Below.refl _ _).alloc (Nat.le_refl _) _
  obtain ⟨w0, hw0⟩ : ∃ w0, w0 = w.alloc (.cells th0.cells 44) := ⟨_, rfl⟩
  obtain ⟨b, hb⟩ : ∃ b, b = w.heap.size := ⟨_, rfl⟩
  rw [← hw0] at h0 hB0 hC0
  rw [← hb] at hB0
  have hdl := h.blk.lt
  have HBG : Hid (b ≠ g ∧ b ≠ p) := Lib.hid (by have := h.ring.blk.lt; have := h.ring.arr.lt; omega)
  have hbd : b ≠ d := by omega
  have hdb : d ≠ b := by omega
  have H0 := Lib.hid h0; have HK := Lib.hid hB0; have HC := Lib.hid hC0; have HE := Lib.hid hb
  have c0 : w0.cell? ⟨d, 0, none⟩ = some (.pointer (some ⟨g, 0, none⟩)) := h0.blk.cell 0
  have CF := frontT_cons g p N f xs q x w0 h0.ring
  unfold FrontT at CF
  have HCF := Lib.hid CF
  clear h h0 hB0 hC0 CF
  simp only [Th.cells, th0] at hw0
  obtain ⟨qp, qm0, qm1, qm2, qm3, qm4, qm5, qm6, qm7, qm8, qt, qr⟩ := x
  obtain ⟨X, hX⟩ : ∃ X : Th, X = ⟨qp, qm0, qm1, qm2, qm3, qm4, qm5, qm6, qm7, qm8, qt, qr⟩ := ⟨_, rfl⟩
  have HXX := Lib.hid hX
  have HXC : Hid (X.cells = #[.int .i64 qp, .int .i64 qm0, .int .i64 qm1, .int .i64 qm2, .int .i64 qm3, .int .i64 qm4, .int .i64 qm5, .int .i64 qm6, .int .i64 qm7, .int .i64 qm8, .string qt, .int .u32 qr]) := Lib.hid (by rw [hX]; rfl)
  rw [← hX] at H0
  rw [← hX]
  clear hX
  simp only [frontT, Th.cells] at HCF
  go_enter Try.func18, Try.ntmps18
  go_upto_region 1 with fail
  have e0 : (ByteArray.empty : ByteArray) = { data := #[] } := rfl
  rw [e0] at hw0
  rw [← hw0, ← hb]
  clear hw0 hb e0 hdl
  go_wp2_with fail
  refine HCF.out.mono ?_
  rintro e w1 ⟨rfl, hb1⟩
  have H1 := Lib.hid (H0.out.keep hb1); have K1 := Lib.hid (HK.out.keep hb1); have C1 := Lib.hid (HC.out.trans (hb1.mono HC.out.size))
  have hb2 : Below w1.heap.size w1 (w1.alloc (.cells #[.int .i64 qp, .int .i64 qm0, .int .i64 qm1, .int .i64 qm2, .int .i64 qm3, .int .i64 qm4, .int .i64 qm5, .int .i64 qm6, .int .i64 qm7, .int .i64 qm8, .string qt, .int .u32 qr] 44)) := (Below.refl _ _).alloc (Nat.le_refl _) _
  have H2 := Lib.hid (H1.out.keep hb2); have K2 := Lib.hid (K1.out.keep hb2); have C2 := Lib.hid (C1.out.trans (hb2.mono C1.out.size))
  have X2 : Hid (Blk (w1.alloc (.cells #[.int .i64 qp, .int .i64 qm0, .int .i64 qm1, .int .i64 qm2, .int .i64 qm3, .int .i64 qm4, .int .i64 qm5, .int .i64 qm6, .int .i64 qm7, .int .i64 qm8, .string qt, .int .u32 qr] 44)) w1.heap.size 44 #[.int .i64 qp, .int .i64 qm0, .int .i64 qm1, .int .i64 qm2, .int .i64 qm3, .int .i64 qm4, .int .i64 qm5, .int .i64 qm6, .int .i64 qm7, .int .i64 qm8, .string qt, .int .u32 qr]) := Lib.hid (Blk.new _ _ _ rfl)
  clear hb1 hb2 HCF H0 HK HC c0
  have hkl := K1.out.lt
  have hdl := H1.out.blk.lt
  go_upto_region 2 with fail
  obtain ⟨w2, hw2⟩ : ∃ w2, w2 = w1.alloc (.cells #[.int .i64 qp, .int .i64 qm0, .int .i64 qm1, .int .i64 qm2, .int .i64 qm3, .int .i64 qm4, .int .i64 qm5, .int .i64 qm6, .int .i64 qm7, .int .i64 qm8, .string qt, .int .u32 qr] 44) := ⟨_, rfl⟩
  obtain ⟨b7, hb7⟩ : ∃ b7, b7 = w1.heap.size := ⟨_, rfl⟩
  rw [← hw2] at H2 K2 C2 X2 ⊢
  rw [← hb7] at X2 ⊢
  have hb7b : b7 ≠ b := by omega
  have hbb7 : b ≠ b7 := by omega
  have hb7d : b7 ≠ d := by omega
  have hdb7 : d ≠ b7 := by omega
  clear hw2 hb7 hkl hdl H1 K1 C1
  have HT : Hid (∀ k, Calls Try.prog 28 #[.int .i64 now] (w2.drewN k) fun e w' => e = .returned (.int .i64 (tmC now)) ∧ w2.drewN k = w') := Lib.hid (fun k => time_any now _)
  obtain ⟨tm, htm⟩ : ∃ tm, tm = tmC now := ⟨_, rfl⟩
  rw [← htm] at HT ht
  have c4 : w2.cell? ⟨d, 4, none⟩ = some (.bool false) := H2.out.blk.cell 4
  have c5 : w2.cell? ⟨d, 5, none⟩ = some (.int .i64 re) := H2.out.blk.cell 5
  have c6 : w2.cell? ⟨d, 6, none⟩ = some (.int .i64 wt) := H2.out.blk.cell 6
  clear htm
  go_quiet (with_reducible exact quiet (HT.out _))
  have f4 : w2.frozen? ⟨d, 4, none⟩ = false := H2.out.blk.frozen 4
  go_upto_region 5 with fail
  obtain ⟨w3, hw3⟩ : ∃ w3, w3 = (w2.drewN nq).setCell ⟨d, 4, none⟩ (.bool true) := ⟨_, rfl⟩
  rw [← hw3]
  have hdg := H2.out.dg
  have H3 : Hid (DV w3 d g p N f xs (X :: q) ba mo ji true re wt) := Lib.hid (by
    have hc : Chg (fun k => k = d) w2 w3 := by rw [hw3]; exact Chg.setCell (S := fun k => k = d) (p := ⟨d, 4, none⟩) ((Chg.refl _ w2).drewN nq) (.inl rfl) _
    refine ⟨?_, H2.out.ring.chg hc (fun e => hdg.1 e.symm) (fun e => hdg.2 e.symm)⟩
    have := (H2.out.blk.drewN nq).set_ 4 (.bool true)
    rw [hw3]
    simpa using this)
  have K3 : Hid (Blk w3 b 44 th0.cells) := Lib.hid (by rw [hw3]; exact (K2.out.drewN nq).far (p := ⟨d, 4, none⟩) hbd _)
  have X3 : Hid (Blk w3 b7 44 #[.int .i64 qp, .int .i64 qm0, .int .i64 qm1, .int .i64 qm2, .int .i64 qm3, .int .i64 qm4, .int .i64 qm5, .int .i64 qm6, .int .i64 qm7, .int .i64 qm8, .string qt, .int .u32 qr]) := Lib.hid (by rw [hw3]; exact (X2.out.drewN nq).far (p := ⟨d, 4, none⟩) hb7d _)
  have C3 : Hid (Chg (fun k => k = d) w w3) := Lib.hid (by rw [hw3]; exact Chg.setCell (S := fun k => k = d) (p := ⟨d, 4, none⟩) ((Chg.of_below C2.out _).drewN nq) (.inl rfl) _)
  clear hw3 c4 c5 c6 f4 H2 K2 X2 C2 HT ht
  have c5 : w3.cell? ⟨d, 5, none⟩ = some (.int .i64 re) := H3.out.blk.cell 5
  have k0 : w3.cell? ⟨b, 0, none⟩ = some (.int .i64 0) := K3.out.cell 0
  have k1 : w3.cell? ⟨b, 1, none⟩ = some (.int .i64 0) := K3.out.cell 1
  have k2 : w3.cell? ⟨b, 2, none⟩ = some (.int .i64 0) := K3.out.cell 2
  have k3 : w3.cell? ⟨b, 3, none⟩ = some (.int .i64 0) := K3.out.cell 3
  have k4 : w3.cell? ⟨b, 4, none⟩ = some (.int .i64 0) := K3.out.cell 4
  have k5 : w3.cell? ⟨b, 5, none⟩ = some (.int .i64 0) := K3.out.cell 5
  have k6 : w3.cell? ⟨b, 6, none⟩ = some (.int .i64 0) := K3.out.cell 6
  have k7 : w3.cell? ⟨b, 7, none⟩ = some (.int .i64 0) := K3.out.cell 7
  have k8 : w3.cell? ⟨b, 8, none⟩ = some (.int .i64 0) := K3.out.cell 8
  have k9 : w3.cell? ⟨b, 9, none⟩ = some (.int .i64 0) := K3.out.cell 9
  have k10 : w3.cell? ⟨b, 10, none⟩ = some (.string ByteArray.empty) := K3.out.cell 10
  have k11 : w3.cell? ⟨b, 11, none⟩ = some (.int .u32 0) := K3.out.cell 11
  have fk0 : w3.frozen? ⟨b, 0, none⟩ = false := K3.out.frozen 0
  have fk1 : w3.frozen? ⟨b, 1, none⟩ = false := K3.out.frozen 1
  have fk2 : w3.frozen? ⟨b, 2, none⟩ = false := K3.out.frozen 2
  have fk3 : w3.frozen? ⟨b, 3, none⟩ = false := K3.out.frozen 3
  have fk4 : w3.frozen? ⟨b, 4, none⟩ = false := K3.out.frozen 4
  have fk5 : w3.frozen? ⟨b, 5, none⟩ = false := K3.out.frozen 5
  have fk6 : w3.frozen? ⟨b, 6, none⟩ = false := K3.out.frozen 6
  have fk7 : w3.frozen? ⟨b, 7, none⟩ = false := K3.out.frozen 7
  have fk8 : w3.frozen? ⟨b, 8, none⟩ = false := K3.out.frozen 8
  have fk9 : w3.frozen? ⟨b, 9, none⟩ = false := K3.out.frozen 9
  have fk10 : w3.frozen? ⟨b, 10, none⟩ = false := K3.out.frozen 10
  have fk11 : w3.frozen? ⟨b, 11, none⟩ = false := K3.out.frozen 11
  have x0 : w3.cell? ⟨b7, 0, none⟩ = some (.int .i64 qp) := X3.out.cell 0
  have x1 : w3.cell? ⟨b7, 1, none⟩ = some (.int .i64 qm0) := X3.out.cell 1
  have x2 : w3.cell? ⟨b7, 2, none⟩ = some (.int .i64 qm1) := X3.out.cell 2
  have x3 : w3.cell? ⟨b7, 3, none⟩ = some (.int .i64 qm2) := X3.out.cell 3
  have x4 : w3.cell? ⟨b7, 4, none⟩ = some (.int .i64 qm3) := X3.out.cell 4
  have x5 : w3.cell? ⟨b7, 5, none⟩ = some (.int .i64 qm4) := X3.out.cell 5
  have x6 : w3.cell? ⟨b7, 6, none⟩ = some (.int .i64 qm5) := X3.out.cell 6
  have x7 : w3.cell? ⟨b7, 7, none⟩ = some (.int .i64 qm6) := X3.out.cell 7
  have x8 : w3.cell? ⟨b7, 8, none⟩ = some (.int .i64 qm7) := X3.out.cell 8
  have x9 : w3.cell? ⟨b7, 9, none⟩ = some (.int .i64 qm8) := X3.out.cell 9
  have x10 : w3.cell? ⟨b7, 10, none⟩ = some (.string qt) := X3.out.cell 10
  have x11 : w3.cell? ⟨b7, 11, none⟩ = some (.int .u32 qr) := X3.out.cell 11
  have q1 : IntKind.i64.wrap (re + 1) = re + 1 := IntWalk.i64_in _ hre
  go_region_held3 (fun w' => w'.cell? ⟨d, 5, none⟩ = some (.int .i64 re) ∧ w'.cell? ⟨b7, 0, none⟩ = some (.int .i64 qp) ∧ w'.cell? ⟨b7, 1, none⟩ = some (.int .i64 qm0) ∧ w'.cell? ⟨b7, 2, none⟩ = some (.int .i64 qm1) ∧ w'.cell? ⟨b7, 3, none⟩ = some (.int .i64 qm2) ∧ w'.cell? ⟨b7, 4, none⟩ = some (.int .i64 qm3) ∧ w'.cell? ⟨b7, 5, none⟩ = some (.int .i64 qm4) ∧ w'.cell? ⟨b7, 6, none⟩ = some (.int .i64 qm5) ∧ w'.cell? ⟨b7, 7, none⟩ = some (.int .i64 qm6) ∧ w'.cell? ⟨b7, 8, none⟩ = some (.int .i64 qm7) ∧ w'.cell? ⟨b7, 9, none⟩ = some (.int .i64 qm8) ∧ w'.cell? ⟨b7, 10, none⟩ = some (.string qt) ∧ w'.cell? ⟨b7, 11, none⟩ = some (.int .u32 qr)) (go_keep) (fail)
  go_wp2_with fail
  obtain ⟨W, hW⟩ : ∃ W, W = (((((((((((((w3).setCell ⟨b, 0, none⟩ (.int .i64 qp)).setCell ⟨b, 1, none⟩ (.int .i64 qm0)).setCell ⟨b, 2, none⟩ (.int .i64 qm1)).setCell ⟨b, 3, none⟩ (.int .i64 qm2)).setCell ⟨b, 4, none⟩ (.int .i64 qm3)).setCell ⟨b, 5, none⟩ (.int .i64 qm4)).setCell ⟨b, 6, none⟩ (.int .i64 qm5)).setCell ⟨b, 7, none⟩ (.int .i64 qm6)).setCell ⟨b, 8, none⟩ (.int .i64 qm7)).setCell ⟨b, 9, none⟩ (.int .i64 qm8)).setCell ⟨b, 10, none⟩ (.string qt)).setCell ⟨b, 11, none⟩ (.int .u32 qr)).drew := ⟨_, rfl⟩
  rw [← hW]
  have hW' : W = (w3.setCells b 0 X.cells.toList).drew := by rw [HXX.out]; exact hW
  have K4 : Blk W b 44 X.cells := by rw [hW']; exact (K3.out.boxed X).drewN 1
  have hbg : Hid (b ≠ g ∧ b ≠ p) := HBG
  have hF : SendOk d g p N f xs (X :: q) X ba mo ji re wt w (.returned (.tuple #[.agg X.cells, .int .i64 (re + 1), .bool true])) W := by
    have h4 : DV W d g p N f xs (X :: q) ba mo ji true re wt := by
      rw [hW']
      exact ⟨(Blk.cellsFar hdb _ _ _ H3.out.blk).drewN 1, ⟨(Blk.cellsFar (fun e => hbg.out.1 e.symm) _ _ _ H3.out.ring.blk).drewN 1, (Blk.cellsFar (fun e => hbg.out.2 e.symm) _ _ _ H3.out.ring.arr).drewN 1, H3.out.ring.len, H3.out.ring.hf, H3.out.ring.hq, H3.out.ring.hn, H3.out.ring.at_⟩⟩
    exact ⟨rfl, h4, by rw [hW']; exact (Chg.cellsSet (.inr (by rw [HE.out]; exact Nat.le_refl _)) _ _ _ C3.out).drewN 1⟩
  rw [HXC.out] at hF K4
  have q0 : W.cell? ⟨b, 0, none⟩ = some (.int .i64 qp) := K4.cell 0
  have q1 : W.cell? ⟨b, 1, none⟩ = some (.int .i64 qm0) := K4.cell 1
  have q2 : W.cell? ⟨b, 2, none⟩ = some (.int .i64 qm1) := K4.cell 2
  have q3 : W.cell? ⟨b, 3, none⟩ = some (.int .i64 qm2) := K4.cell 3
  have q4 : W.cell? ⟨b, 4, none⟩ = some (.int .i64 qm3) := K4.cell 4
  have q5 : W.cell? ⟨b, 5, none⟩ = some (.int .i64 qm4) := K4.cell 5
  have q6 : W.cell? ⟨b, 6, none⟩ = some (.int .i64 qm5) := K4.cell 6
  have q7 : W.cell? ⟨b, 7, none⟩ = some (.int .i64 qm6) := K4.cell 7
  have q8 : W.cell? ⟨b, 8, none⟩ = some (.int .i64 qm7) := K4.cell 8
  have q9 : W.cell? ⟨b, 9, none⟩ = some (.int .i64 qm8) := K4.cell 9
  have q10 : W.cell? ⟨b, 10, none⟩ = some (.string qt) := K4.cell 10
  have q11 : W.cell? ⟨b, 11, none⟩ = some (.int .u32 qr) := K4.cell 11
  clear hW hW' K4
  refine bodyPost_ret (v := .tuple #[.agg #[.int .i64 qp, .int .i64 qm0, .int .i64 qm1, .int .i64 qm2, .int .i64 qm3, .int .i64 qm4, .int .i64 qm5, .int .i64 qm6, .int .i64 qm7, .int .i64 qm8, .string qt, .int .u32 qr], .int .i64 (re + 1), .bool true]) (by simp [results, Try.results18, go_sem, q0, q1, q2, q3, q4, q5, q6, q7, q8, q9, q10, q11]) rfl ?_
  exact hF
end Go.Proofs.Ytjkocghbnljifaa
