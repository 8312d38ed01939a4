/- THE WALKS of a deliverer's Answer (printed by a program of ours). -/
import Derived.Test.YtjkocghbnljifaaDelSend
namespace Go.Proofs.Ytjkocghbnljifaa
open Go.RowKit
def AnsNo (w : World) (e : Ending) (w' : World) : Prop :=
  e = .returned (.tuple #[.agg th0.cells, .bool false]) ∧ Below w.heap.size w w'
def AnsP (d g p N : Nat) (q : List Th) (x : Th) (ba mo ji : Nat) (re wt : Int) (w : World) (e : Ending) (w' : World) : Prop :=
  e = .returned (.tuple #[.agg x.cells, .bool true]) ∧ ∃ f' xs', DV w' d g p N f' xs' q ba mo ji false re wt ∧ Chg (dvF d g p) w w'
set_option maxRecDepth 100000 in
set_option maxHeartbeats 4000000 in
theorem ans_no (d g p N f ba mo ji : Nat) (xs q : List Th) (re wt : Int) (yes : Bool) (now jit : Int) (w : World) (h : DV w d g p N f xs q ba mo ji false re wt) :
    Calls Try.prog 19 #[.pointer (some ⟨d, 0, none⟩), .bool yes, .int .i64 now, .int .i64 jit] w (AnsNo w) := by
  have h0 := h.keep ((Below.refl _ _).alloc (Nat.le_refl _) (.cells th0.cells 44))
  have hB0 : Blk (w.alloc (.cells th0.cells 44)) w.heap.size 44 th0.cells := Blk.new w _ _ rfl
  have hC0 : Below w.heap.size w (w.alloc (.cells th0.cells 44)) := (Below.refl _ _).alloc (Nat.le_refl _) _
  obtain ⟨w0, hw0⟩ : ∃ w0, w0 = w.alloc (.cells th0.cells 44) := ⟨_, rfl⟩
  obtain ⟨b, hb⟩ : ∃ b, b = w.heap.size := ⟨_, rfl⟩
  rw [← hw0] at h0 hB0 hC0
  rw [← hb] at hB0
  have hdl := h.blk.lt
  have HBG : Hid (b ≠ g ∧ b ≠ p ∧ d ≠ g ∧ d ≠ p) := Lib.hid (by have := h.ring.blk.lt; have := h.ring.arr.lt; have := h.dg; omega)
  have hbd : b ≠ d := by omega
  have hdb : d ≠ b := by omega
  have H0 := Lib.hid h0; have HK := Lib.hid hB0; have HC := Lib.hid hC0; have HE := Lib.hid hb
  clear h h0 hB0 hC0
  simp only [Th.cells, th0] at hw0
  go_enter Try.func19, Try.ntmps19
  go_upto_region 1 with fail
  have e0 : (ByteArray.empty : ByteArray) = { data := #[] } := rfl
  rw [e0] at hw0
  rw [← hw0, ← hb]
  clear hw0 hb e0 hdl
  have c4 : w0.cell? ⟨d, 4, none⟩ = some (.bool false) := H0.out.blk.cell 4
  have k0 : w0.cell? ⟨b, 0, none⟩ = some (.int .i64 0) := HK.out.cell 0
  have k1 : w0.cell? ⟨b, 1, none⟩ = some (.int .i64 0) := HK.out.cell 1
  have k2 : w0.cell? ⟨b, 2, none⟩ = some (.int .i64 0) := HK.out.cell 2
  have k3 : w0.cell? ⟨b, 3, none⟩ = some (.int .i64 0) := HK.out.cell 3
  have k4 : w0.cell? ⟨b, 4, none⟩ = some (.int .i64 0) := HK.out.cell 4
  have k5 : w0.cell? ⟨b, 5, none⟩ = some (.int .i64 0) := HK.out.cell 5
  have k6 : w0.cell? ⟨b, 6, none⟩ = some (.int .i64 0) := HK.out.cell 6
  have k7 : w0.cell? ⟨b, 7, none⟩ = some (.int .i64 0) := HK.out.cell 7
  have k8 : w0.cell? ⟨b, 8, none⟩ = some (.int .i64 0) := HK.out.cell 8
  have k9 : w0.cell? ⟨b, 9, none⟩ = some (.int .i64 0) := HK.out.cell 9
  have k10 : w0.cell? ⟨b, 10, none⟩ = some (.string ByteArray.empty) := HK.out.cell 10
  have k11 : w0.cell? ⟨b, 11, none⟩ = some (.int .u32 0) := HK.out.cell 11
  have fk0 : w0.frozen? ⟨b, 0, none⟩ = false := HK.out.frozen 0
  have fk1 : w0.frozen? ⟨b, 1, none⟩ = false := HK.out.frozen 1
  have fk2 : w0.frozen? ⟨b, 2, none⟩ = false := HK.out.frozen 2
  have fk3 : w0.frozen? ⟨b, 3, none⟩ = false := HK.out.frozen 3
  have fk4 : w0.frozen? ⟨b, 4, none⟩ = false := HK.out.frozen 4
  have fk5 : w0.frozen? ⟨b, 5, none⟩ = false := HK.out.frozen 5
  have fk6 : w0.frozen? ⟨b, 6, none⟩ = false := HK.out.frozen 6
  have fk7 : w0.frozen? ⟨b, 7, none⟩ = false := HK.out.frozen 7
  have fk8 : w0.frozen? ⟨b, 8, none⟩ = false := HK.out.frozen 8
  have fk9 : w0.frozen? ⟨b, 9, none⟩ = false := HK.out.frozen 9
  have fk10 : w0.frozen? ⟨b, 10, none⟩ = false := HK.out.frozen 10
  have fk11 : w0.frozen? ⟨b, 11, none⟩ = false := HK.out.frozen 11
  go_wp2_with fail
  obtain ⟨W, hW⟩ : ∃ W, W = ((((((((((((w0).setCell ⟨b, 0, none⟩ (.int .i64 0)).setCell ⟨b, 1, none⟩ (.int .i64 0)).setCell ⟨b, 2, none⟩ (.int .i64 0)).setCell ⟨b, 3, none⟩ (.int .i64 0)).setCell ⟨b, 4, none⟩ (.int .i64 0)).setCell ⟨b, 5, none⟩ (.int .i64 0)).setCell ⟨b, 6, none⟩ (.int .i64 0)).setCell ⟨b, 7, none⟩ (.int .i64 0)).setCell ⟨b, 8, none⟩ (.int .i64 0)).setCell ⟨b, 9, none⟩ (.int .i64 0)).setCell ⟨b, 10, none⟩ (.string { data := #[] })).setCell ⟨b, 11, none⟩ (.int .u32 0) := ⟨_, rfl⟩
  rw [← hW]
  have hW' : W = w0.setCells b 0 th0.cells.toList := hW
  have K3 : Blk W b 44 th0.cells := by rw [hW']; exact HK.out.boxed th0
  have hF : AnsNo w (.returned (.tuple #[.agg th0.cells, .bool false])) W := ⟨rfl, by rw [hW']; exact Below.cellsSet (by rw [HE.out]; exact Nat.le_refl _) _ _ _ HC.out⟩
  have q0 : W.cell? ⟨b, 0, none⟩ = some (.int .i64 0) := K3.cell 0
  have q1 : W.cell? ⟨b, 1, none⟩ = some (.int .i64 0) := K3.cell 1
  have q2 : W.cell? ⟨b, 2, none⟩ = some (.int .i64 0) := K3.cell 2
  have q3 : W.cell? ⟨b, 3, none⟩ = some (.int .i64 0) := K3.cell 3
  have q4 : W.cell? ⟨b, 4, none⟩ = some (.int .i64 0) := K3.cell 4
  have q5 : W.cell? ⟨b, 5, none⟩ = some (.int .i64 0) := K3.cell 5
  have q6 : W.cell? ⟨b, 6, none⟩ = some (.int .i64 0) := K3.cell 6
  have q7 : W.cell? ⟨b, 7, none⟩ = some (.int .i64 0) := K3.cell 7
  have q8 : W.cell? ⟨b, 8, none⟩ = some (.int .i64 0) := K3.cell 8
  have q9 : W.cell? ⟨b, 9, none⟩ = some (.int .i64 0) := K3.cell 9
  have q10 : W.cell? ⟨b, 10, none⟩ = some (.string ByteArray.empty) := K3.cell 10
  have q11 : W.cell? ⟨b, 11, none⟩ = some (.int .u32 0) := K3.cell 11
  clear hW hW' K3
  refine bodyPost_ret (v := .tuple #[.agg #[.int .i64 0, .int .i64 0, .int .i64 0, .int .i64 0, .int .i64 0, .int .i64 0, .int .i64 0, .int .i64 0, .int .i64 0, .int .i64 0, .string ByteArray.empty, .int .u32 0], .bool false]) (by simp [results, Try.results19, go_sem, q0, q1, q2, q3, q4, q5, q6, q7, q8, q9, q10, q11]) rfl ?_
  exact hF
set_option maxRecDepth 100000 in
set_option maxHeartbeats 4000000 in
theorem ans_yes (d g p N f ba mo ji : Nat) (xs q : List Th) (x : Th) (re wt : Int) (now jit : Int) (w : World) (h : DV w d g p N f xs (x :: q) ba mo ji true re wt) :
    Calls Try.prog 19 #[.pointer (some ⟨d, 0, none⟩), .bool true, .int .i64 now, .int .i64 jit] w (AnsP d g p N q x ba mo ji 0 0 w) := by
  have h0 := h.keep ((Below.refl _ _).alloc (Nat.le_refl _) (.cells th0.cells 44))
  have hB0 : Blk (w.alloc (.cells th0.cells 44)) w.heap.size 44 th0.cells := Blk.new w _ _ rfl
  have hC0 : Below w.heap.size w (w.alloc (.cells th0.cells 44)) := (Below.refl _ _).alloc (Nat.le_refl _) _
  obtain ⟨w0, hw0⟩ : ∃ w0, w0 = w.alloc (.cells th0.cells 44) := ⟨_, rfl⟩
  obtain ⟨b, hb⟩ : ∃ b, b = w.heap.size := ⟨_, rfl⟩
  rw [← hw0] at h0 hB0 hC0
  rw [← hb] at hB0
  have hdl := h.blk.lt
  have HBG : Hid (b ≠ g ∧ b ≠ p ∧ d ≠ g ∧ d ≠ p) := Lib.hid (by have := h.ring.blk.lt; have := h.ring.arr.lt; have := h.dg; omega)
  have hbd : b ≠ d := by omega
  have hdb : d ≠ b := by omega
  have H0 := Lib.hid h0; have HK := Lib.hid hB0; have HC := Lib.hid hC0; have HE := Lib.hid hb
  clear h h0 hB0 hC0
  simp only [Th.cells, th0] at hw0
  go_enter Try.func19, Try.ntmps19
  go_upto_region 1 with fail
  have e0 : (ByteArray.empty : ByteArray) = { data := #[] } := rfl
  rw [e0] at hw0
  rw [← hw0, ← hb]
  clear hw0 hb e0 hdl
  have c4 : w0.cell? ⟨d, 4, none⟩ = some (.bool true) := H0.out.blk.cell 4
  have c5 : w0.cell? ⟨d, 5, none⟩ = some (.int .i64 re) := H0.out.blk.cell 5
  have c6 : w0.cell? ⟨d, 6, none⟩ = some (.int .i64 wt) := H0.out.blk.cell 6
  have f4 := H0.out.blk.frozen 4
  have f5 := H0.out.blk.frozen 5
  have f6 := H0.out.blk.frozen 6
  go_upto_region 6 with fail
  obtain ⟨w1, hw1⟩ : ∃ w1, w1 = ((w0.setCell ⟨d, 4, none⟩ (.bool false)).setCell ⟨d, 5, none⟩ (.int .i64 0)).setCell ⟨d, 6, none⟩ (.int .i64 0) := ⟨_, rfl⟩
  rw [← hw1]
  have hc1 : Chg (fun k => k = d) w0 w1 := by
    rw [hw1]
    exact Chg.setCell (S := fun k => k = d) (p := ⟨d, 6, none⟩) (Chg.setCell (S := fun k => k = d) (p := ⟨d, 5, none⟩) (Chg.setCell (S := fun k => k = d) (p := ⟨d, 4, none⟩) (Chg.refl _ w0) (.inl rfl) _) (.inl rfl) _) (.inl rfl) _
  have hbg := HBG.out
  have H1 : Hid (DV w1 d g p N f xs (x :: q) ba mo ji false 0 0) := Lib.hid (by
    refine ⟨?_, H0.out.ring.chg hc1 (fun e => hbg.2.2.1 e.symm) (fun e => hbg.2.2.2 e.symm)⟩
    have := ((H0.out.blk.set_ 4 (.bool false)).set_ 5 (.int .i64 0)).set_ 6 (.int .i64 0)
    rw [hw1]
    simpa using this)
  have K1 : Hid (Blk w1 b 44 th0.cells) := Lib.hid (HK.out.chg hc1 hbd)
  have C1 : Hid (Chg (dvF d g p) w w1) := Lib.hid ((Chg.of_below HC.out _).trans hc1 (fun k _ e => .inl e))
  have CQ := popT_cons g p N f xs q x w1 H1.out.ring
  unfold PopT at CQ
  have HCQ := Lib.hid CQ
  clear hw1 hc1 hbg CQ c4 c5 c6 f4 f5 f6 H0 HK HC
  have c0 : w1.cell? ⟨d, 0, none⟩ = some (.pointer (some ⟨g, 0, none⟩)) := H1.out.blk.cell 0
  obtain ⟨qp, qm0, qm1, qm2, qm3, qm4, qm5, qm6, qm7, qm8, qt, qr⟩ := x
  obtain ⟨X, hX⟩ : ∃ X : Th, X = ⟨qp, qm0, qm1, qm2, qm3, qm4, qm5, qm6, qm7, qm8, qt, qr⟩ := ⟨_, rfl⟩
  have HXX := Lib.hid hX
  have HXC : Hid (X.cells = #[.int .i64 qp, .int .i64 qm0, .int .i64 qm1, .int .i64 qm2, .int .i64 qm3, .int .i64 qm4, .int .i64 qm5, .int .i64 qm6, .int .i64 qm7, .int .i64 qm8, .string qt, .int .u32 qr]) := Lib.hid (by rw [hX]; rfl)
  rw [← hX] at H1 HCQ ⊢
  rw [HXC.out] at HCQ
  clear hX
  go_wp2_with fail
  refine HCQ.out.mono ?_
  rintro e w2 ⟨rfl, f2, xs2, hr2, hc2⟩
  have hbg := HBG.out
  have H2 : Hid (DV w2 d g p N f2 xs2 q ba mo ji false 0 0) := Lib.hid ⟨H1.out.blk.chg hc2 (fun h => by rcases h with h | h; exact hbg.2.2.1 h; exact hbg.2.2.2 h), hr2⟩
  have K2 : Hid (Blk w2 b 44 th0.cells) := Lib.hid (K1.out.chg hc2 (fun h => by rcases h with h | h; exact hbg.1 h; exact hbg.2.1 h))
  have C2 : Hid (Chg (dvF d g p) w w2) := Lib.hid (C1.out.trans hc2 (fun k _ e => .inr e))
  clear hr2 hc2 hbg HCQ H1 K1 C1 c0
  have k0 : w2.cell? ⟨b, 0, none⟩ = some (.int .i64 0) := K2.out.cell 0
  have k1 : w2.cell? ⟨b, 1, none⟩ = some (.int .i64 0) := K2.out.cell 1
  have k2 : w2.cell? ⟨b, 2, none⟩ = some (.int .i64 0) := K2.out.cell 2
  have k3 : w2.cell? ⟨b, 3, none⟩ = some (.int .i64 0) := K2.out.cell 3
  have k4 : w2.cell? ⟨b, 4, none⟩ = some (.int .i64 0) := K2.out.cell 4
  have k5 : w2.cell? ⟨b, 5, none⟩ = some (.int .i64 0) := K2.out.cell 5
  have k6 : w2.cell? ⟨b, 6, none⟩ = some (.int .i64 0) := K2.out.cell 6
  have k7 : w2.cell? ⟨b, 7, none⟩ = some (.int .i64 0) := K2.out.cell 7
  have k8 : w2.cell? ⟨b, 8, none⟩ = some (.int .i64 0) := K2.out.cell 8
  have k9 : w2.cell? ⟨b, 9, none⟩ = some (.int .i64 0) := K2.out.cell 9
  have k10 : w2.cell? ⟨b, 10, none⟩ = some (.string ByteArray.empty) := K2.out.cell 10
  have k11 : w2.cell? ⟨b, 11, none⟩ = some (.int .u32 0) := K2.out.cell 11
  have fk0 : w2.frozen? ⟨b, 0, none⟩ = false := K2.out.frozen 0
  have fk1 : w2.frozen? ⟨b, 1, none⟩ = false := K2.out.frozen 1
  have fk2 : w2.frozen? ⟨b, 2, none⟩ = false := K2.out.frozen 2
  have fk3 : w2.frozen? ⟨b, 3, none⟩ = false := K2.out.frozen 3
  have fk4 : w2.frozen? ⟨b, 4, none⟩ = false := K2.out.frozen 4
  have fk5 : w2.frozen? ⟨b, 5, none⟩ = false := K2.out.frozen 5
  have fk6 : w2.frozen? ⟨b, 6, none⟩ = false := K2.out.frozen 6
  have fk7 : w2.frozen? ⟨b, 7, none⟩ = false := K2.out.frozen 7
  have fk8 : w2.frozen? ⟨b, 8, none⟩ = false := K2.out.frozen 8
  have fk9 : w2.frozen? ⟨b, 9, none⟩ = false := K2.out.frozen 9
  have fk10 : w2.frozen? ⟨b, 10, none⟩ = false := K2.out.frozen 10
  have fk11 : w2.frozen? ⟨b, 11, none⟩ = false := K2.out.frozen 11
  go_wp2_with fail
  obtain ⟨W, hW⟩ : ∃ W, W = ((((((((((((w2).setCell ⟨b, 0, none⟩ (.int .i64 qp)).setCell ⟨b, 1, none⟩ (.int .i64 qm0)).setCell ⟨b, 2, none⟩ (.int .i64 qm1)).setCell ⟨b, 3, none⟩ (.int .i64 qm2)).setCell ⟨b, 4, none⟩ (.int .i64 qm3)).setCell ⟨b, 5, none⟩ (.int .i64 qm4)).setCell ⟨b, 6, none⟩ (.int .i64 qm5)).setCell ⟨b, 7, none⟩ (.int .i64 qm6)).setCell ⟨b, 8, none⟩ (.int .i64 qm7)).setCell ⟨b, 9, none⟩ (.int .i64 qm8)).setCell ⟨b, 10, none⟩ (.string qt)).setCell ⟨b, 11, none⟩ (.int .u32 qr) := ⟨_, rfl⟩
  rw [← hW]
  have hW' : W = w2.setCells b 0 X.cells.toList := by rw [HXX.out]; exact hW
  have K4 : Blk W b 44 X.cells := by rw [hW']; exact K2.out.boxed X
  have hbg := HBG.out
  have hF : AnsP d g p N q X ba mo ji 0 0 w (.returned (.tuple #[.agg X.cells, .bool true])) W := by
    have h4 : DV W d g p N f2 xs2 q ba mo ji false 0 0 := by
      rw [hW']
      exact ⟨Blk.cellsFar hdb _ _ _ H2.out.blk, ⟨Blk.cellsFar (fun e => hbg.1 e.symm) _ _ _ H2.out.ring.blk, Blk.cellsFar (fun e => hbg.2.1 e.symm) _ _ _ H2.out.ring.arr, H2.out.ring.len, H2.out.ring.hf, H2.out.ring.hq, H2.out.ring.hn, H2.out.ring.at_⟩⟩
    exact ⟨rfl, f2, xs2, h4, by rw [hW']; exact Chg.cellsSet (.inr (by rw [HE.out]; exact Nat.le_refl _)) _ _ _ C2.out⟩
  rw [HXC.out] at hF K4
  have q0 : W.cell? ⟨b, 0, none⟩ = some (.int .i64 qp) := K4.cell 0
  have q1 : W.cell? ⟨b, 1, none⟩ = some (.int .i64 qm0) := K4.cell 1
  have q2 : W.cell? ⟨b, 2, none⟩ = some (.int .i64 qm1) := K4.cell 2
  have q3 : W.cell? ⟨b, 3, none⟩ = some (.int .i64 qm2) := K4.cell 3
  have q4 : W.cell? ⟨b, 4, none⟩ = some (.int .i64 qm3) := K4.cell 4
  have q5 : W.cell? ⟨b, 5, none⟩ = some (.int .i64 qm4) := K4.cell 5
  have q6 : W.cell? ⟨b, 6, none⟩ = some (.int .i64 qm5) := K4.cell 6
  have q7 : W.cell? ⟨b, 7, none⟩ = some (.int .i64 qm6) := K4.cell 7
  have q8 : W.cell? ⟨b, 8, none⟩ = some (.int .i64 qm7) := K4.cell 8
  have q9 : W.cell? ⟨b, 9, none⟩ = some (.int .i64 qm8) := K4.cell 9
  have q10 : W.cell? ⟨b, 10, none⟩ = some (.string qt) := K4.cell 10
  have q11 : W.cell? ⟨b, 11, none⟩ = some (.int .u32 qr) := K4.cell 11
  clear hW hW' K4
  refine bodyPost_ret (v := .tuple #[.agg #[.int .i64 qp, .int .i64 qm0, .int .i64 qm1, .int .i64 qm2, .int .i64 qm3, .int .i64 qm4, .int .i64 qm5, .int .i64 qm6, .int .i64 qm7, .int .i64 qm8, .string qt, .int .u32 qr], .bool true]) (by simp [results, Try.results19, go_sem, q0, q1, q2, q3, q4, q5, q6, q7, q8, q9, q10, q11]) rfl ?_
  rw [HXX.out] at hF
  exact hF
set_option maxRecDepth 100000 in
set_option maxHeartbeats 4000000 in
theorem ans_again (d g p N f ba mo ji : Nat) (xs q : List Th) (x : Th) (re : Nat) (wt : Int) (now jit : Int) (w : World) (h : DV w d g p N f xs (x :: q) ba mo ji true re wt) (hre : re ≤ 1000000) :
    Calls Try.prog 19 #[.pointer (some ⟨d, 0, none⟩), .bool false, .int .i64 now, .int .i64 jit] w (AnsP d g p N (x :: q) x ba mo ji ((re : Int) + 1) (duI (tmC now) ba mo re jit ji) w) := by
  have h0 := h.keep ((Below.refl _ _).alloc (Nat.le_refl _) (.cells th0.cells 44))
  have hB0 : Blk (w.alloc (.cells th0.cells 44)) w.heap.size 44 th0.cells := Blk.new w _ _ rfl
  have hC0 : Below w.heap.size w (w.alloc (.cells th0.cells 44)) := (Below.refl _ _).alloc (Nat.le_refl _) _
  obtain ⟨w0, hw0⟩ : ∃ w0, w0 = w.alloc (.cells th0.cells 44) := ⟨_, rfl⟩
  obtain ⟨b, hb⟩ : ∃ b, b = w.heap.size := ⟨_, rfl⟩
  rw [← hw0] at h0 hB0 hC0
  rw [← hb] at hB0
  have hdl := h.blk.lt
  have HBG : Hid (b ≠ g ∧ b ≠ p ∧ d ≠ g ∧ d ≠ p) := Lib.hid (by have := h.ring.blk.lt; have := h.ring.arr.lt; have := h.dg; omega)
  have hbd : b ≠ d := by omega
  have hdb : d ≠ b := by omega
  have H0 := Lib.hid h0; have HK := Lib.hid hB0; have HC := Lib.hid hC0; have HE := Lib.hid hb
  clear h h0 hB0 hC0
  simp only [Th.cells, th0] at hw0
  go_enter Try.func19, Try.ntmps19
  go_upto_region 1 with fail
  have e0 : (ByteArray.empty : ByteArray) = { data := #[] } := rfl
  rw [e0] at hw0
  rw [← hw0, ← hb]
  clear hw0 hb e0 hdl
  have c4 : w0.cell? ⟨d, 4, none⟩ = some (.bool true) := H0.out.blk.cell 4
  have f4 := H0.out.blk.frozen 4
  go_upto_region 7 with fail
  obtain ⟨w1, hw1⟩ : ∃ w1, w1 = w0.setCell ⟨d, 4, none⟩ (.bool false) := ⟨_, rfl⟩
  rw [← hw1]
  have hc1 : Chg (fun k => k = d) w0 w1 := by
    rw [hw1]
    exact Chg.setCell (S := fun k => k = d) (p := ⟨d, 4, none⟩) (Chg.refl _ w0) (.inl rfl) _
  have hbg := HBG.out
  have H1 : Hid (DV w1 d g p N f xs (x :: q) ba mo ji false re wt) := Lib.hid (by
    refine ⟨?_, H0.out.ring.chg hc1 (fun e => hbg.2.2.1 e.symm) (fun e => hbg.2.2.2 e.symm)⟩
    have := H0.out.blk.set_ 4 (.bool false)
    rw [hw1]
    simpa using this)
  have K1 : Hid (Blk w1 b 44 th0.cells) := Lib.hid (HK.out.chg hc1 hbd)
  have C1 : Hid (Chg (dvF d g p) w w1) := Lib.hid ((Chg.of_below HC.out _).trans hc1 (fun k _ e => .inl e))
  clear hw1 hc1 hbg c4 f4 H0 HK HC
  have c1 : w1.cell? ⟨d, 1, none⟩ = some (.int .i64 (ba : Int)) := H1.out.blk.cell 1
  have c2 : w1.cell? ⟨d, 2, none⟩ = some (.int .i64 (mo : Int)) := H1.out.blk.cell 2
  have c3 : w1.cell? ⟨d, 3, none⟩ = some (.int .i64 (ji : Int)) := H1.out.blk.cell 3
  have c5 : w1.cell? ⟨d, 5, none⟩ = some (.int .i64 (re : Int)) := H1.out.blk.cell 5
  have c6 : w1.cell? ⟨d, 6, none⟩ = some (.int .i64 wt) := H1.out.blk.cell 6
  have f6 := H1.out.blk.frozen 6
  have HT : Hid (∀ k, Calls Try.prog 28 #[.int .i64 now] (w1.drewN k) fun e w' => e = .returned (.int .i64 (tmC now)) ∧ w1.drewN k = w') := Lib.hid (fun k => time_any now _)
  have HD : Hid (∀ k, Calls Try.prog 30 #[.int .i64 (tmC now), .int .i64 (ba : Int), .int .i64 (mo : Int), .int .i64 (re : Int), .int .i64 jit, .int .i64 (ji : Int)] (w1.drewN k) fun e w' => e = .returned (.tuple #[.int .i64 (duI (tmC now) ba mo re jit ji), .int .i64 (duE (tmC now) ba mo re ji)]) ∧ w1.drewN k = w') := Lib.hid (fun k => due_any _ _ _ _ _ _ _ (by unfold tmC; omega) (by omega))
  obtain ⟨tm, htm⟩ : ∃ tm, tm = tmC now := ⟨_, rfl⟩
  obtain ⟨du, hdu⟩ : ∃ du, du = duI (tmC now) ba mo re jit ji := ⟨_, rfl⟩
  obtain ⟨de, hde⟩ : ∃ de, de = duE (tmC now) ba mo re ji := ⟨_, rfl⟩
  rw [← hdu, ← hde] at HD
  rw [← htm] at HT HD
  have HDU := Lib.hid hdu
  have KS : Hid (∀ k, Blk ((w1.drewN k).setCell ⟨d, 6, none⟩ (.int .i64 du)) d 53 #[.pointer (some ⟨g, 0, none⟩), .int .i64 (ba : Int), .int .i64 (mo : Int), .int .i64 (ji : Int), .bool false, .int .i64 (re : Int), .int .i64 du]) := Lib.hid (fun k => by
    have := (H1.out.blk.drewN k).set_ 6 (.int .i64 du)
    simpa using this)
  clear htm hdu hde
  go_region_held3 (fun w' => w'.cell? ⟨d, 1, none⟩ = some (.int .i64 (ba : Int)) ∧ w'.cell? ⟨d, 2, none⟩ = some (.int .i64 (mo : Int)) ∧ w'.cell? ⟨d, 3, none⟩ = some (.int .i64 (ji : Int)) ∧ w'.cell? ⟨d, 5, none⟩ = some (.int .i64 (re : Int))) (first | go_keep | exact ⟨(KS.out _).cell 1, (KS.out _).cell 2, (KS.out _).cell 3, (KS.out _).cell 5⟩)
    (first | (go_at_call 28; refine (HT.out _).mono ?_; rintro e w' ⟨rfl, rfl⟩) | (go_at_call 30; refine (HD.out _).mono ?_; rintro e w' ⟨rfl, rfl⟩))
  go_upto_region 8 with fail
  obtain ⟨w2, hw2⟩ : ∃ w2, w2 = (w1.drewN 1).setCell ⟨d, 6, none⟩ (.int .i64 du) := ⟨_, rfl⟩
  rw [← hw2]
  have hc2 : Chg (fun k => k = d) w1 w2 := by
    rw [hw2]
    exact Chg.setCell (S := fun k => k = d) (p := ⟨d, 6, none⟩) ((Chg.refl _ w1).drewN 1) (.inl rfl) _
  have hbg := HBG.out
  have H2 : Hid (DV w2 d g p N f xs (x :: q) ba mo ji false re du) := Lib.hid ⟨by rw [hw2]; exact KS.out 1, H1.out.ring.chg hc2 (fun e => hbg.2.2.1 e.symm) (fun e => hbg.2.2.2 e.symm)⟩
  have K2 : Hid (Blk w2 b 44 th0.cells) := Lib.hid (K1.out.chg hc2 hbd)
  have C2 : Hid (Chg (dvF d g p) w w2) := Lib.hid (C1.out.trans hc2 (fun k _ e => .inl e))
  clear hw2 hc2 hbg KS c1 c2 c3 c5 c6 f6 HT HD H1 K1 C1
  have c5 : w2.cell? ⟨d, 5, none⟩ = some (.int .i64 (re : Int)) := H2.out.blk.cell 5
  have f5 := H2.out.blk.frozen 5
  go_upto_region 9 with fail
  obtain ⟨w3, hw3⟩ : ∃ w3, w3 = w2.setCell ⟨d, 5, none⟩ (.int .i64 ((re : Int) + 1)) := ⟨_, rfl⟩
  rw [← hw3]
  have hc3 : Chg (fun k => k = d) w2 w3 := by
    rw [hw3]
    exact Chg.setCell (S := fun k => k = d) (p := ⟨d, 5, none⟩) (Chg.refl _ w2) (.inl rfl) _
  have hbg := HBG.out
  have H3 : Hid (DV w3 d g p N f xs (x :: q) ba mo ji false ((re : Int) + 1) du) := Lib.hid (by
    refine ⟨?_, H2.out.ring.chg hc3 (fun e => hbg.2.2.1 e.symm) (fun e => hbg.2.2.2 e.symm)⟩
    have := H2.out.blk.set_ 5 (.int .i64 ((re : Int) + 1))
    rw [hw3]
    simpa using this)
  have K3 : Hid (Blk w3 b 44 th0.cells) := Lib.hid (K2.out.chg hc3 hbd)
  have C3 : Hid (Chg (dvF d g p) w w3) := Lib.hid (C2.out.trans hc3 (fun k _ e => .inl e))
  have CQ := frontT_cons g p N f xs q x w3 H3.out.ring
  unfold FrontT at CQ
  have HCQ := Lib.hid CQ
  clear hw3 hc3 hbg CQ c5 f5 H2 K2 C2
  have c0 : w3.cell? ⟨d, 0, none⟩ = some (.pointer (some ⟨g, 0, none⟩)) := H3.out.blk.cell 0
  obtain ⟨qp, qm0, qm1, qm2, qm3, qm4, qm5, qm6, qm7, qm8, qt, qr⟩ := x
  obtain ⟨X, hX⟩ : ∃ X : Th, X = ⟨qp, qm0, qm1, qm2, qm3, qm4, qm5, qm6, qm7, qm8, qt, qr⟩ := ⟨_, rfl⟩
  have HXX := Lib.hid hX
  have HXC : Hid (X.cells = #[.int .i64 qp, .int .i64 qm0, .int .i64 qm1, .int .i64 qm2, .int .i64 qm3, .int .i64 qm4, .int .i64 qm5, .int .i64 qm6, .int .i64 qm7, .int .i64 qm8, .string qt, .int .u32 qr]) := Lib.hid (by rw [hX]; rfl)
  simp only [frontT, Th.cells] at HCQ
  rw [← hX] at H3
  clear hX
  go_wp2_with fail
  refine HCQ.out.mono ?_
  rintro e w4 ⟨rfl, hb4⟩
  have H2 := Lib.hid (H3.out.keep hb4)
  have K2 := Lib.hid (K3.out.keep hb4)
  have C2 : Hid (Chg (dvF d g p) w w4) := Lib.hid (C3.out.trans (Chg.of_below hb4 (fun _ => False)) (fun _ _ h => h.elim))
  clear hb4 HCQ H3 K3 C3 c0
  have k0 : w4.cell? ⟨b, 0, none⟩ = some (.int .i64 0) := K2.out.cell 0
  have k1 : w4.cell? ⟨b, 1, none⟩ = some (.int .i64 0) := K2.out.cell 1
  have k2 : w4.cell? ⟨b, 2, none⟩ = some (.int .i64 0) := K2.out.cell 2
  have k3 : w4.cell? ⟨b, 3, none⟩ = some (.int .i64 0) := K2.out.cell 3
  have k4 : w4.cell? ⟨b, 4, none⟩ = some (.int .i64 0) := K2.out.cell 4
  have k5 : w4.cell? ⟨b, 5, none⟩ = some (.int .i64 0) := K2.out.cell 5
  have k6 : w4.cell? ⟨b, 6, none⟩ = some (.int .i64 0) := K2.out.cell 6
  have k7 : w4.cell? ⟨b, 7, none⟩ = some (.int .i64 0) := K2.out.cell 7
  have k8 : w4.cell? ⟨b, 8, none⟩ = some (.int .i64 0) := K2.out.cell 8
  have k9 : w4.cell? ⟨b, 9, none⟩ = some (.int .i64 0) := K2.out.cell 9
  have k10 : w4.cell? ⟨b, 10, none⟩ = some (.string ByteArray.empty) := K2.out.cell 10
  have k11 : w4.cell? ⟨b, 11, none⟩ = some (.int .u32 0) := K2.out.cell 11
  have fk0 : w4.frozen? ⟨b, 0, none⟩ = false := K2.out.frozen 0
  have fk1 : w4.frozen? ⟨b, 1, none⟩ = false := K2.out.frozen 1
  have fk2 : w4.frozen? ⟨b, 2, none⟩ = false := K2.out.frozen 2
  have fk3 : w4.frozen? ⟨b, 3, none⟩ = false := K2.out.frozen 3
  have fk4 : w4.frozen? ⟨b, 4, none⟩ = false := K2.out.frozen 4
  have fk5 : w4.frozen? ⟨b, 5, none⟩ = false := K2.out.frozen 5
  have fk6 : w4.frozen? ⟨b, 6, none⟩ = false := K2.out.frozen 6
  have fk7 : w4.frozen? ⟨b, 7, none⟩ = false := K2.out.frozen 7
  have fk8 : w4.frozen? ⟨b, 8, none⟩ = false := K2.out.frozen 8
  have fk9 : w4.frozen? ⟨b, 9, none⟩ = false := K2.out.frozen 9
  have fk10 : w4.frozen? ⟨b, 10, none⟩ = false := K2.out.frozen 10
  have fk11 : w4.frozen? ⟨b, 11, none⟩ = false := K2.out.frozen 11
  go_wp2_with fail
  obtain ⟨W, hW⟩ : ∃ W, W = ((((((((((((w4).setCell ⟨b, 0, none⟩ (.int .i64 qp)).setCell ⟨b, 1, none⟩ (.int .i64 qm0)).setCell ⟨b, 2, none⟩ (.int .i64 qm1)).setCell ⟨b, 3, none⟩ (.int .i64 qm2)).setCell ⟨b, 4, none⟩ (.int .i64 qm3)).setCell ⟨b, 5, none⟩ (.int .i64 qm4)).setCell ⟨b, 6, none⟩ (.int .i64 qm5)).setCell ⟨b, 7, none⟩ (.int .i64 qm6)).setCell ⟨b, 8, none⟩ (.int .i64 qm7)).setCell ⟨b, 9, none⟩ (.int .i64 qm8)).setCell ⟨b, 10, none⟩ (.string qt)).setCell ⟨b, 11, none⟩ (.int .u32 qr) := ⟨_, rfl⟩
  rw [← hW]
  have hW' : W = w4.setCells b 0 X.cells.toList := by rw [HXX.out]; exact hW
  have K4 : Blk W b 44 X.cells := by rw [hW']; exact K2.out.boxed X
  have hbg := HBG.out
  have hF : AnsP d g p N (X :: q) X ba mo ji ((re : Int) + 1) du w (.returned (.tuple #[.agg X.cells, .bool true])) W := by
    have h4 : DV W d g p N f xs (X :: q) ba mo ji false ((re : Int) + 1) du := by
      rw [hW']
      exact ⟨Blk.cellsFar hdb _ _ _ H2.out.blk, ⟨Blk.cellsFar (fun e => hbg.1 e.symm) _ _ _ H2.out.ring.blk, Blk.cellsFar (fun e => hbg.2.1 e.symm) _ _ _ H2.out.ring.arr, H2.out.ring.len, H2.out.ring.hf, H2.out.ring.hq, H2.out.ring.hn, H2.out.ring.at_⟩⟩
    exact ⟨rfl, f, xs, h4, by rw [hW']; exact Chg.cellsSet (.inr (by rw [HE.out]; exact Nat.le_refl _)) _ _ _ C2.out⟩
  rw [HXC.out, HDU.out] at hF
  rw [HXC.out] at K4
  have q0 : W.cell? ⟨b, 0, none⟩ = some (.int .i64 qp) := K4.cell 0
  have q1 : W.cell? ⟨b, 1, none⟩ = some (.int .i64 qm0) := K4.cell 1
  have q2 : W.cell? ⟨b, 2, none⟩ = some (.int .i64 qm1) := K4.cell 2
  have q3 : W.cell? ⟨b, 3, none⟩ = some (.int .i64 qm2) := K4.cell 3
  have q4 : W.cell? ⟨b, 4, none⟩ = some (.int .i64 qm3) := K4.cell 4
  have q5 : W.cell? ⟨b, 5, none⟩ = some (.int .i64 qm4) := K4.cell 5
  have q6 : W.cell? ⟨b, 6, none⟩ = some (.int .i64 qm5) := K4.cell 6
  have q7 : W.cell? ⟨b, 7, none⟩ = some (.int .i64 qm6) := K4.cell 7
  have q8 : W.cell? ⟨b, 8, none⟩ = some (.int .i64 qm7) := K4.cell 8
  have q9 : W.cell? ⟨b, 9, none⟩ = some (.int .i64 qm8) := K4.cell 9
  have q10 : W.cell? ⟨b, 10, none⟩ = some (.string qt) := K4.cell 10
  have q11 : W.cell? ⟨b, 11, none⟩ = some (.int .u32 qr) := K4.cell 11
  clear hW hW' K4
  refine bodyPost_ret (v := .tuple #[.agg #[.int .i64 qp, .int .i64 qm0, .int .i64 qm1, .int .i64 qm2, .int .i64 qm3, .int .i64 qm4, .int .i64 qm5, .int .i64 qm6, .int .i64 qm7, .int .i64 qm8, .string qt, .int .u32 qr], .bool true]) (by simp [results, Try.results19, go_sem, q0, q1, q2, q3, q4, q5, q6, q7, q8, q9, q10, q11]) rfl ?_
  rw [HXX.out] at hF
  exact hF
end Go.Proofs.Ytjkocghbnljifaa
