/- THE WALK of Book.step where it pushes (printed by a program of ours). -/
import Derived.Test.YtjkocghbnljifaaDpState
import Derived.Deep.DrawnRows
import Derived.Deep.RegionHeld3
namespace Go.Proofs.Ytjkocghbnljifaa
open Go.RowKit
attribute [local go_sem ↓] Go.wp_at_zero Go.wp_at_succ
def StepP (w0 : World) (d r k N ba mo ji i : Nat) (e : Ending) (w' : World) : Prop := e = .returned (.bool true) ∧ PL w0 w' d r k N ba mo ji i
set_option maxRecDepth 100000 in
set_option maxHeartbeats 4000000 in
theorem step_full {w0 w : World} {C : Nat → Nat} {d g p r k N ba mo ji f : Nat} {xs q : List Th} {A : Option Addr} {m c : Nat} {se : Bool} {re : Nat} {wt : Int} {vr vw : Value} {rs : List (Nat × List Th)} {us : List Value} (i : Nat)
    (h : PT w0 w C d g p r k N ba mo ji f xs q A m c se re wt vr vw rs us) (hre : re ≤ i) (hrs : rs.length ≤ 2 * i) (hi : i ≤ 300) (o : Od) (hk : o.k = 0) (hf : q.length = N) :
    Calls Try.prog 8 #[.pointer (some ⟨k, 0, none⟩), .pointer (some ⟨d, 0, none⟩), .pointer (some ⟨r, 0, none⟩), .agg o.cells] w (StepP w0 d r k N ba mo ji (i + 1)) := by
  obtain ⟨ok_, ⟨qp, qm0, qm1, qm2, qm3, qm4, qm5, qm6, qm7, qm8, qt, qr⟩, on, oy, oj⟩ := o
  simp only [Od.cells]
  have hbb := below_alloc w (.cells #[.int .i64 ok_, .int .i64 qp, .int .i64 qm0, .int .i64 qm1, .int .i64 qm2, .int .i64 qm3, .int .i64 qm4, .int .i64 qm5, .int .i64 qm6, .int .i64 qm7, .int .i64 qm8, .string qt, .int .u32 qr, .int .i64 on, .bool oy, .int .i64 oj] 46)
  have H1 := Lib.hid (h.keep hbb)
  have Z1 : Hid (Blk (w.alloc (.cells #[.int .i64 ok_, .int .i64 qp, .int .i64 qm0, .int .i64 qm1, .int .i64 qm2, .int .i64 qm3, .int .i64 qm4, .int .i64 qm5, .int .i64 qm6, .int .i64 qm7, .int .i64 qm8, .string qt, .int .u32 qr, .int .i64 on, .bool oy, .int .i64 oj] 46)) w.heap.size 46 #[.int .i64 ok_, .int .i64 qp, .int .i64 qm0, .int .i64 qm1, .int .i64 qm2, .int .i64 qm3, .int .i64 qm4, .int .i64 qm5, .int .i64 qm6, .int .i64 qm7, .int .i64 qm8, .string qt, .int .u32 qr, .int .i64 on, .bool oy, .int .i64 oj]) := Lib.hid (Blk.new w _ _ rfl)
  have HI : Hid (re ≤ i ∧ rs.length ≤ 2 * i ∧ i ≤ 300) := Lib.hid ⟨hre, hrs, hi⟩
  have HZ : Hid (d < w.heap.size ∧ g < w.heap.size ∧ p < w.heap.size ∧ r < w.heap.size ∧ k < w.heap.size ∧ ∀ b, inB A b → b < w.heap.size) := Lib.hid ⟨h.dv.blk.lt, h.dv.ring.blk.lt, h.dv.ring.arr.lt, h.rv.blk.lt, h.kb.lt, fun b hb => (h.rv.al.lt b hb).2⟩
  clear hbb h hre hrs hi
  obtain ⟨w1, hw1⟩ : ∃ w1, w1 = w.alloc (.cells #[.int .i64 ok_, .int .i64 qp, .int .i64 qm0, .int .i64 qm1, .int .i64 qm2, .int .i64 qm3, .int .i64 qm4, .int .i64 qm5, .int .i64 qm6, .int .i64 qm7, .int .i64 qm8, .string qt, .int .u32 qr, .int .i64 on, .bool oy, .int .i64 oj] 46) := ⟨_, rfl⟩
  obtain ⟨z, hz⟩ : ∃ z, z = w.heap.size := ⟨_, rfl⟩
  rw [← hw1] at H1 Z1
  rw [← hz] at Z1 HZ
  simp only at hk
  have CD : Hid (∀ W', Below w1.heap.size w1 W' → Calls Try.prog 15 #[.pointer (some ⟨d, 0, none⟩), .agg #[.int .i64 qp, .int .i64 qm0, .int .i64 qm1, .int .i64 qm2, .int .i64 qm3, .int .i64 qm4, .int .i64 qm5, .int .i64 qm6, .int .i64 qm7, .int .i64 qm8, .string qt, .int .u32 qr]] W' fun e w' => e = .returned (.int .i64 180) ∧ Below w1.heap.size w1 w') := Lib.hid (fun W' hb => (dpush_full d g p N f ba mo ji xs q se re wt ⟨qp, qm0, qm1, qm2, qm3, qm4, qm5, qm6, qm7, qm8, qt, qr⟩ W' (H1.out.keep hb).dv hf).mono (fun e w' h => ⟨h.1, hb.trans (h.2.mono hb.size)⟩))
  have CR : Hid (∀ W', Below w1.heap.size w1 W' → Calls Try.prog 22 #[.pointer (some ⟨r, 0, none⟩), .agg #[.int .i64 qp, .int .i64 qm0, .int .i64 qm1, .int .i64 qm2, .int .i64 qm3, .int .i64 qm4, .int .i64 qm5, .int .i64 qm6, .int .i64 qm7, .int .i64 qm8, .string qt, .int .u32 qr]] W' fun e w' => e = .returned (.int .i64 180) ∧ Below w1.heap.size w1 w') := Lib.hid (fun W' hb => (rpush_full w0.heap.size r A m c q ⟨qp, qm0, qm1, qm2, qm3, qm4, qm5, qm6, qm7, qm8, qt, qr⟩ N ba mo ji se re wt W' (H1.out.keep hb).rv hf).mono (fun e w' h => ⟨h.1, hb.trans (h.2.mono hb.size)⟩))
  have BX : Hid (Below w1.heap.size w1 w1.drew) := Lib.hid (below_drewN (Below.refl _ _) 1)
  subst hk
  have KZ : Hid (∀ W', Blk W' z 46 #[.int .i64 0, .int .i64 qp, .int .i64 qm0, .int .i64 qm1, .int .i64 qm2, .int .i64 qm3, .int .i64 qm4, .int .i64 qm5, .int .i64 qm6, .int .i64 qm7, .int .i64 qm8, .string qt, .int .u32 qr, .int .i64 on, .bool oy, .int .i64 oj] → W'.cell? ⟨z, 1, none⟩ = some (.int .i64 qp) ∧ W'.cell? ⟨z, 2, none⟩ = some (.int .i64 qm0) ∧ W'.cell? ⟨z, 3, none⟩ = some (.int .i64 qm1) ∧ W'.cell? ⟨z, 4, none⟩ = some (.int .i64 qm2) ∧ W'.cell? ⟨z, 5, none⟩ = some (.int .i64 qm3) ∧ W'.cell? ⟨z, 6, none⟩ = some (.int .i64 qm4) ∧ W'.cell? ⟨z, 7, none⟩ = some (.int .i64 qm5) ∧ W'.cell? ⟨z, 8, none⟩ = some (.int .i64 qm6) ∧ W'.cell? ⟨z, 9, none⟩ = some (.int .i64 qm7) ∧ W'.cell? ⟨z, 10, none⟩ = some (.int .i64 qm8) ∧ W'.cell? ⟨z, 11, none⟩ = some (.string qt) ∧ W'.cell? ⟨z, 12, none⟩ = some (.int .u32 qr)) := Lib.hid (fun W' h => ⟨h.cell 1, h.cell 2, h.cell 3, h.cell 4, h.cell 5, h.cell 6, h.cell 7, h.cell 8, h.cell 9, h.cell 10, h.cell 11, h.cell 12⟩)
  have y0 : w1.cell? ⟨z, 0, none⟩ = some (.int .i64 0) := Z1.out.cell 0
  obtain ⟨k1, k2, k3, k4, k5, k6, k7, k8, k9, k10, k11, k12⟩ := KZ.out w1 Z1.out
  clear hf
  go_enter Try.func8, Try.ntmps8
  go_upto_region 1 with fail
  rw [← hw1, ← hz]
  clear hw1 hz
  go_upto_region 3 with fail
  go_region_held3 (fun w' => w'.cell? ⟨z, 1, none⟩ = some (.int .i64 qp) ∧ w'.cell? ⟨z, 2, none⟩ = some (.int .i64 qm0) ∧ w'.cell? ⟨z, 3, none⟩ = some (.int .i64 qm1) ∧ w'.cell? ⟨z, 4, none⟩ = some (.int .i64 qm2) ∧ w'.cell? ⟨z, 5, none⟩ = some (.int .i64 qm3) ∧ w'.cell? ⟨z, 6, none⟩ = some (.int .i64 qm4) ∧ w'.cell? ⟨z, 7, none⟩ = some (.int .i64 qm5) ∧ w'.cell? ⟨z, 8, none⟩ = some (.int .i64 qm6) ∧ w'.cell? ⟨z, 9, none⟩ = some (.int .i64 qm7) ∧ w'.cell? ⟨z, 10, none⟩ = some (.int .i64 qm8) ∧ w'.cell? ⟨z, 11, none⟩ = some (.string qt) ∧ w'.cell? ⟨z, 12, none⟩ = some (.int .u32 qr)) (first | (with_reducible exact ⟨k1, k2, k3, k4, k5, k6, k7, k8, k9, k10, k11, k12⟩) | go_keep)
    (first
      | (go_at_call 15; (with_reducible refine (CD.out _ BX.out).mono ?_); rintro e wa ⟨rfl, hba⟩; have BY := Lib.hid hba; obtain ⟨k1, k2, k3, k4, k5, k6, k7, k8, k9, k10, k11, k12⟩ := KZ.out wa (Z1.out.keep hba); clear hba)
      | (go_at_call 22; (with_reducible refine (CR.out _ BX.out).mono ?_); rintro e wa ⟨rfl, hba⟩; have BY := Lib.hid hba; obtain ⟨k1, k2, k3, k4, k5, k6, k7, k8, k9, k10, k11, k12⟩ := KZ.out wa (Z1.out.keep hba); clear hba)
      | (go_at_call 15; (with_reducible refine (CD.out _ BY.out).mono ?_); rintro e wb ⟨rfl, hbb⟩; have BZ := Lib.hid hbb; obtain ⟨k1, k2, k3, k4, k5, k6, k7, k8, k9, k10, k11, k12⟩ := KZ.out wb (Z1.out.keep hbb); clear hbb)
      | (go_at_call 22; (with_reducible refine (CR.out _ BY.out).mono ?_); rintro e wb ⟨rfl, hbb⟩; have BZ := Lib.hid hbb; obtain ⟨k1, k2, k3, k4, k5, k6, k7, k8, k9, k10, k11, k12⟩ := KZ.out wb (Z1.out.keep hbb); clear hbb))
  all_goals
    clear KZ CD CR y0 k1 k2 k3 k4 k5 k6 k7 k8 k9 k10 k11 k12
    go_wp2_with fail
    go_ret
    have h2 := HI.out
    exact ⟨rfl, _, _, _, _, _, _, _, _, _, _, _, _, _, _, _, _, H1.out.keep BZ.out, by omega, by omega⟩
set_option maxRecDepth 100000 in
set_option maxHeartbeats 4000000 in
theorem step_push {w0 w : World} {C : Nat → Nat} {d g p r k N ba mo ji f : Nat} {xs q : List Th} {A : Option Addr} {m c : Nat} {se : Bool} {re : Nat} {wt : Int} {vr vw : Value} {rs : List (Nat × List Th)} {us : List Value} (i : Nat)
    (h : PT w0 w C d g p r k N ba mo ji f xs q A m c se re wt vr vw rs us) (hre : re ≤ i) (hrs : rs.length ≤ 2 * i) (hi : i ≤ 300) (o : Od) (hk : o.k = 0) (hf : q.length < N) :
    Calls Try.prog 8 #[.pointer (some ⟨k, 0, none⟩), .pointer (some ⟨d, 0, none⟩), .pointer (some ⟨r, 0, none⟩), .agg o.cells] w (StepP w0 d r k N ba mo ji (i + 1)) := by
  obtain ⟨ok_, ⟨qp, qm0, qm1, qm2, qm3, qm4, qm5, qm6, qm7, qm8, qt, qr⟩, on, oy, oj⟩ := o
  simp only [Od.cells]
  have hbb := below_alloc w (.cells #[.int .i64 ok_, .int .i64 qp, .int .i64 qm0, .int .i64 qm1, .int .i64 qm2, .int .i64 qm3, .int .i64 qm4, .int .i64 qm5, .int .i64 qm6, .int .i64 qm7, .int .i64 qm8, .string qt, .int .u32 qr, .int .i64 on, .bool oy, .int .i64 oj] 46)
  have H1 := Lib.hid (h.keep hbb)
  have Z1 : Hid (Blk (w.alloc (.cells #[.int .i64 ok_, .int .i64 qp, .int .i64 qm0, .int .i64 qm1, .int .i64 qm2, .int .i64 qm3, .int .i64 qm4, .int .i64 qm5, .int .i64 qm6, .int .i64 qm7, .int .i64 qm8, .string qt, .int .u32 qr, .int .i64 on, .bool oy, .int .i64 oj] 46)) w.heap.size 46 #[.int .i64 ok_, .int .i64 qp, .int .i64 qm0, .int .i64 qm1, .int .i64 qm2, .int .i64 qm3, .int .i64 qm4, .int .i64 qm5, .int .i64 qm6, .int .i64 qm7, .int .i64 qm8, .string qt, .int .u32 qr, .int .i64 on, .bool oy, .int .i64 oj]) := Lib.hid (Blk.new w _ _ rfl)
  have HI : Hid (re ≤ i ∧ rs.length ≤ 2 * i ∧ i ≤ 300) := Lib.hid ⟨hre, hrs, hi⟩
  have HZ : Hid (d < w.heap.size ∧ g < w.heap.size ∧ p < w.heap.size ∧ r < w.heap.size ∧ k < w.heap.size ∧ ∀ b, inB A b → b < w.heap.size) := Lib.hid ⟨h.dv.blk.lt, h.dv.ring.blk.lt, h.dv.ring.arr.lt, h.rv.blk.lt, h.kb.lt, fun b hb => (h.rv.al.lt b hb).2⟩
  clear hbb h hre hrs hi
  obtain ⟨w1, hw1⟩ : ∃ w1, w1 = w.alloc (.cells #[.int .i64 ok_, .int .i64 qp, .int .i64 qm0, .int .i64 qm1, .int .i64 qm2, .int .i64 qm3, .int .i64 qm4, .int .i64 qm5, .int .i64 qm6, .int .i64 qm7, .int .i64 qm8, .string qt, .int .u32 qr, .int .i64 on, .bool oy, .int .i64 oj] 46) := ⟨_, rfl⟩
  obtain ⟨z, hz⟩ : ∃ z, z = w.heap.size := ⟨_, rfl⟩
  rw [← hw1] at H1 Z1
  rw [← hz] at Z1 HZ
  simp only at hk
  have CD : Hid (∀ W', DV W' d g p N f xs q ba mo ji se (re : Int) wt → Calls Try.prog 15 #[.pointer (some ⟨d, 0, none⟩), .agg #[.int .i64 qp, .int .i64 qm0, .int .i64 qm1, .int .i64 qm2, .int .i64 qm3, .int .i64 qm4, .int .i64 qm5, .int .i64 qm6, .int .i64 qm7, .int .i64 qm8, .string qt, .int .u32 qr]] W' (DPush d g p N f (q ++ [⟨qp, qm0, qm1, qm2, qm3, qm4, qm5, qm6, qm7, qm8, qt, qr⟩]) ba mo ji se re wt W')) := Lib.hid (fun W' hd => dpush_ok d g p N f ba mo ji xs q se re wt ⟨qp, qm0, qm1, qm2, qm3, qm4, qm5, qm6, qm7, qm8, qt, qr⟩ W' hd hf)
  have CR : Hid (∀ W', RV W' w0.heap.size r A m c q N ba mo ji se (re : Int) wt → w0.heap.size ≤ W'.heap.size → Calls Try.prog 22 #[.pointer (some ⟨r, 0, none⟩), .agg #[.int .i64 qp, .int .i64 qm0, .int .i64 qm1, .int .i64 qm2, .int .i64 qm3, .int .i64 qm4, .int .i64 qm5, .int .i64 qm6, .int .i64 qm7, .int .i64 qm8, .string qt, .int .u32 qr]] W' (RPush w0.heap.size r A m (q ++ [⟨qp, qm0, qm1, qm2, qm3, qm4, qm5, qm6, qm7, qm8, qt, qr⟩]) N ba mo ji se re wt W')) := Lib.hid (fun W' hr hb => rpush_ok w0.heap.size r A m c q ⟨qp, qm0, qm1, qm2, qm3, qm4, qm5, qm6, qm7, qm8, qt, qr⟩ N ba mo ji se re wt W' hr hf H1.out.hN.2 hb)
  have BX : Hid (Below w1.heap.size w1 w1.drew) := Lib.hid (below_drewN (Below.refl _ _) 1)
  have DX : Hid (DV w1.drew d g p N f xs q ba mo ji se (re : Int) wt) := Lib.hid (H1.out.keep BX.out).dv
  have RX : Hid (RV w1.drew w0.heap.size r A m c q N ba mo ji se (re : Int) wt) := Lib.hid (H1.out.keep BX.out).rv
  have SX : Hid (w0.heap.size ≤ w1.drew.heap.size) := Lib.hid (Nat.le_trans H1.out.bl.size BX.out.size)
  have HX : Hid (Chg (fun _ => False) w1 w1.drew) := Lib.hid (Chg.of_below BX.out _)
  subst hk
  have KZ : Hid (∀ W', Blk W' z 46 #[.int .i64 0, .int .i64 qp, .int .i64 qm0, .int .i64 qm1, .int .i64 qm2, .int .i64 qm3, .int .i64 qm4, .int .i64 qm5, .int .i64 qm6, .int .i64 qm7, .int .i64 qm8, .string qt, .int .u32 qr, .int .i64 on, .bool oy, .int .i64 oj] → W'.cell? ⟨z, 1, none⟩ = some (.int .i64 qp) ∧ W'.cell? ⟨z, 2, none⟩ = some (.int .i64 qm0) ∧ W'.cell? ⟨z, 3, none⟩ = some (.int .i64 qm1) ∧ W'.cell? ⟨z, 4, none⟩ = some (.int .i64 qm2) ∧ W'.cell? ⟨z, 5, none⟩ = some (.int .i64 qm3) ∧ W'.cell? ⟨z, 6, none⟩ = some (.int .i64 qm4) ∧ W'.cell? ⟨z, 7, none⟩ = some (.int .i64 qm5) ∧ W'.cell? ⟨z, 8, none⟩ = some (.int .i64 qm6) ∧ W'.cell? ⟨z, 9, none⟩ = some (.int .i64 qm7) ∧ W'.cell? ⟨z, 10, none⟩ = some (.int .i64 qm8) ∧ W'.cell? ⟨z, 11, none⟩ = some (.string qt) ∧ W'.cell? ⟨z, 12, none⟩ = some (.int .u32 qr)) := Lib.hid (fun W' h => ⟨h.cell 1, h.cell 2, h.cell 3, h.cell 4, h.cell 5, h.cell 6, h.cell 7, h.cell 8, h.cell 9, h.cell 10, h.cell 11, h.cell 12⟩)
  have ZNE : Hid (z ≠ d ∧ z ≠ g ∧ z ≠ p ∧ z ≠ r ∧ ∀ b, inB A b → b ≠ z) := Lib.hid (by
    have h := HZ.out
    exact ⟨by omega, by omega, by omega, by omega, fun b hb => by have := h.2.2.2.2.2 b hb; omega⟩)
  have y0 : w1.cell? ⟨z, 0, none⟩ = some (.int .i64 0) := Z1.out.cell 0
  obtain ⟨k1, k2, k3, k4, k5, k6, k7, k8, k9, k10, k11, k12⟩ := KZ.out w1 Z1.out
  -- what the two calls leave, in either order
  have COL : Hid ((∀ b, ringF g p b → b ≠ d ∧ b ≠ r ∧ ¬ inB A b ∧ b ≠ z) ∧ (∀ b, rF r A b → b ≠ d ∧ b ≠ g ∧ b ≠ p ∧ b ≠ z)) := Lib.hid (by
    have h1 := H1.out
    have h2 := ZNE.out
    have hdg := h1.dv.dg
    refine ⟨fun b hb => ?_, fun b hb => ?_⟩
    · have hc : C b = 0 := by rcases hb with rfl | rfl; exact h1.cd.2.1; exact h1.cd.2.2
      refine ⟨?_, fun e => by rw [e, h1.cr] at hc; omega, fun e => by rw [h1.ca b e] at hc; omega, ?_⟩
      · rcases hb with rfl | rfl
        · exact fun e => hdg.1 e.symm
        · exact fun e => hdg.2 e.symm
      · rcases hb with rfl | rfl
        · exact fun e => h2.2.1 e.symm
        · exact fun e => h2.2.2.1 e.symm
    · have hc : C b = 1 ∨ C b = 2 := by rcases hb with rfl | e; exact .inl h1.cr; exact .inr (h1.ca b e)
      refine ⟨fun e => by rw [e, h1.cd.1] at hc; omega, fun e => by rw [e, h1.cd.2.1] at hc; omega, fun e => by rw [e, h1.cd.2.2] at hc; omega, ?_⟩
      rcases hb with rfl | e
      · exact fun e => h2.2.2.2.1 e.symm
      · exact h2.2.2.2.2 b e)
  have FIN : Hid (∀ w' xs' A' c', DV w' d g p N f xs' (q ++ [⟨qp, qm0, qm1, qm2, qm3, qm4, qm5, qm6, qm7, qm8, qt, qr⟩]) ba mo ji se (re : Int) wt → RV w' w0.heap.size r A' (m + 1) c' (q ++ [⟨qp, qm0, qm1, qm2, qm3, qm4, qm5, qm6, qm7, qm8, qt, qr⟩]) N ba mo ji se (re : Int) wt → Chg (fun b => ringF g p b ∨ rF r A b) w1 w' → (∀ b, inB A' b → inB A b ∨ w1.heap.size ≤ b) → StepP w0 d r k N ba mo ji (i + 1) (.returned (.bool true)) w') := Lib.hid (fun w' xs' A' c' hd hr hc hA => by
    have h2 := HI.out
    exact ⟨rfl, _, _, _, _, _, _, _, _, _, _, _, _, _, _, _, _, H1.out.go hc (fun b _ e => by rcases e with (e | e) | (e | e); exact .inr (.inl e); exact .inr (.inr (.inl e)); exact .inr (.inr (.inr (.inl e))); exact .inr (.inr (.inr (.inr e)))) hd hr hA (fun _ => by simp), by omega, by omega⟩)
  have D1 : Hid (∀ wa xs', DV wa d g p N f xs' (q ++ [⟨qp, qm0, qm1, qm2, qm3, qm4, qm5, qm6, qm7, qm8, qt, qr⟩]) ba mo ji se (re : Int) wt → Chg (ringF g p) w1.drew wa → RV wa w0.heap.size r A m c q N ba mo ji se (re : Int) wt ∧ w0.heap.size ≤ wa.heap.size ∧ Chg (ringF g p) w1 wa ∧ Blk wa z 46 #[.int .i64 0, .int .i64 qp, .int .i64 qm0, .int .i64 qm1, .int .i64 qm2, .int .i64 qm3, .int .i64 qm4, .int .i64 qm5, .int .i64 qm6, .int .i64 qm7, .int .i64 qm8, .string qt, .int .u32 qr, .int .i64 on, .bool oy, .int .i64 oj]) := Lib.hid (fun wa xs' hd hc =>
    ⟨RX.out.chg hc (fun e => (COL.out.1 _ e).2.1 rfl) (fun b hb e => (COL.out.1 b e).2.2.1 hb), Nat.le_trans SX.out hc.size, ((HX.out.mono (fun _ _ e => e.elim)).trans hc (fun _ _ e => e) : Chg (ringF g p) w1 wa), (Z1.out.keep BX.out).chg hc (fun e => (COL.out.1 _ e).2.2.2 rfl)⟩)
  have R1 : Hid (∀ wa A' c', RV wa w0.heap.size r A' (m + 1) c' (q ++ [⟨qp, qm0, qm1, qm2, qm3, qm4, qm5, qm6, qm7, qm8, qt, qr⟩]) N ba mo ji se (re : Int) wt → Chg (rF r A) w1.drew wa → DV wa d g p N f xs q ba mo ji se (re : Int) wt ∧ Chg (rF r A) w1 wa ∧ Blk wa z 46 #[.int .i64 0, .int .i64 qp, .int .i64 qm0, .int .i64 qm1, .int .i64 qm2, .int .i64 qm3, .int .i64 qm4, .int .i64 qm5, .int .i64 qm6, .int .i64 qm7, .int .i64 qm8, .string qt, .int .u32 qr, .int .i64 on, .bool oy, .int .i64 oj]) := Lib.hid (fun wa A' c' hr hc =>
    ⟨DX.out.chg hc (fun e => (COL.out.2 _ e).1 rfl) (fun e => (COL.out.2 _ e).2.1 rfl) (fun e => (COL.out.2 _ e).2.2.1 rfl), ((HX.out.mono (fun _ _ e => e.elim)).trans hc (fun _ _ e => e) : Chg (rF r A) w1 wa), (Z1.out.keep BX.out).chg hc (fun e => (COL.out.2 _ e).2.2.2 rfl)⟩)
  have R2 : Hid (∀ wa wb xs' A' c', DV wa d g p N f xs' (q ++ [⟨qp, qm0, qm1, qm2, qm3, qm4, qm5, qm6, qm7, qm8, qt, qr⟩]) ba mo ji se (re : Int) wt → Chg (ringF g p) w1 wa → Blk wa z 46 #[.int .i64 0, .int .i64 qp, .int .i64 qm0, .int .i64 qm1, .int .i64 qm2, .int .i64 qm3, .int .i64 qm4, .int .i64 qm5, .int .i64 qm6, .int .i64 qm7, .int .i64 qm8, .string qt, .int .u32 qr, .int .i64 on, .bool oy, .int .i64 oj] → RV wb w0.heap.size r A' (m + 1) c' (q ++ [⟨qp, qm0, qm1, qm2, qm3, qm4, qm5, qm6, qm7, qm8, qt, qr⟩]) N ba mo ji se (re : Int) wt → Chg (rF r A) wa wb → (∀ k, inB A' k → inB A k ∨ wa.heap.size ≤ k) → StepP w0 d r k N ba mo ji (i + 1) (.returned (.bool true)) wb ∧ Blk wb z 46 #[.int .i64 0, .int .i64 qp, .int .i64 qm0, .int .i64 qm1, .int .i64 qm2, .int .i64 qm3, .int .i64 qm4, .int .i64 qm5, .int .i64 qm6, .int .i64 qm7, .int .i64 qm8, .string qt, .int .u32 qr, .int .i64 on, .bool oy, .int .i64 oj]) := Lib.hid (fun wa wb xs' A' c' hd hc0 hz hr hc hA =>
    ⟨FIN.out wb xs' A' c' (hd.chg hc (fun e => (COL.out.2 _ e).1 rfl) (fun e => (COL.out.2 _ e).2.1 rfl) (fun e => (COL.out.2 _ e).2.2.1 rfl)) hr ((hc0.mono (fun _ _ e => Or.inl e)).trans hc (fun _ _ e => Or.inr e)) (fun b hb => by rcases hA b hb with e | e; exact .inl e; exact .inr (Nat.le_trans hc0.size e)), hz.chg hc (fun e => (COL.out.2 _ e).2.2.2 rfl)⟩)
  have D2 : Hid (∀ wa wb xs' A' c', RV wa w0.heap.size r A' (m + 1) c' (q ++ [⟨qp, qm0, qm1, qm2, qm3, qm4, qm5, qm6, qm7, qm8, qt, qr⟩]) N ba mo ji se (re : Int) wt → Chg (rF r A) w1 wa → Blk wa z 46 #[.int .i64 0, .int .i64 qp, .int .i64 qm0, .int .i64 qm1, .int .i64 qm2, .int .i64 qm3, .int .i64 qm4, .int .i64 qm5, .int .i64 qm6, .int .i64 qm7, .int .i64 qm8, .string qt, .int .u32 qr, .int .i64 on, .bool oy, .int .i64 oj] → (∀ k, inB A' k → inB A k ∨ w1.heap.size ≤ k) → DV wb d g p N f xs' (q ++ [⟨qp, qm0, qm1, qm2, qm3, qm4, qm5, qm6, qm7, qm8, qt, qr⟩]) ba mo ji se (re : Int) wt → Chg (ringF g p) wa wb → StepP w0 d r k N ba mo ji (i + 1) (.returned (.bool true)) wb ∧ Blk wb z 46 #[.int .i64 0, .int .i64 qp, .int .i64 qm0, .int .i64 qm1, .int .i64 qm2, .int .i64 qm3, .int .i64 qm4, .int .i64 qm5, .int .i64 qm6, .int .i64 qm7, .int .i64 qm8, .string qt, .int .u32 qr, .int .i64 on, .bool oy, .int .i64 oj]) := Lib.hid (fun wa wb xs' A' c' hr hc0 hz hA hd hc =>
    ⟨FIN.out wb xs' A' c' hd (hr.chg hc (fun e => (COL.out.1 _ e).2.1 rfl) (fun b hb e => by
      rcases hA b hb with h | h
      · exact (COL.out.1 b e).2.2.1 h
      · have h1 := H1.out.dv.ring.blk.lt
        have h2 := H1.out.dv.ring.arr.lt
        rcases e with e | e <;> omega)) ((hc0.mono (fun _ _ e => Or.inr e)).trans hc (fun _ _ e => Or.inl e)) hA, hz.chg hc (fun e => (COL.out.1 _ e).2.2.2 rfl)⟩)
  have A1 : Hid (∀ (A' : Option Addr) (wa : World), (∀ k, inB A' k → inB A k ∨ w1.drew.heap.size ≤ k) → (∀ k, inB A' k → inB A k ∨ w1.heap.size ≤ k)) := Lib.hid (fun _ _ h => h)
  clear hf
  go_enter Try.func8, Try.ntmps8
  go_upto_region 1 with fail
  rw [← hw1, ← hz]
  clear hw1 hz
  go_upto_region 3 with fail
  go_region_held3 (fun w' => w'.cell? ⟨z, 1, none⟩ = some (.int .i64 qp) ∧ w'.cell? ⟨z, 2, none⟩ = some (.int .i64 qm0) ∧ w'.cell? ⟨z, 3, none⟩ = some (.int .i64 qm1) ∧ w'.cell? ⟨z, 4, none⟩ = some (.int .i64 qm2) ∧ w'.cell? ⟨z, 5, none⟩ = some (.int .i64 qm3) ∧ w'.cell? ⟨z, 6, none⟩ = some (.int .i64 qm4) ∧ w'.cell? ⟨z, 7, none⟩ = some (.int .i64 qm5) ∧ w'.cell? ⟨z, 8, none⟩ = some (.int .i64 qm6) ∧ w'.cell? ⟨z, 9, none⟩ = some (.int .i64 qm7) ∧ w'.cell? ⟨z, 10, none⟩ = some (.int .i64 qm8) ∧ w'.cell? ⟨z, 11, none⟩ = some (.string qt) ∧ w'.cell? ⟨z, 12, none⟩ = some (.int .u32 qr)) (first | (with_reducible exact ⟨k1, k2, k3, k4, k5, k6, k7, k8, k9, k10, k11, k12⟩) | go_keep)
    (first
      | (go_at_call 15; (with_reducible refine (CD.out _ DX.out).mono ?_); rintro e wa ⟨rfl, xs', hd, hc⟩; obtain ⟨e1, e2, e3, e4⟩ := D1.out wa xs' hd hc; have DY := Lib.hid hd; have RY := Lib.hid e1; have SY := Lib.hid e2; have CY := Lib.hid e3; have ZY := Lib.hid e4; clear hd hc e1 e2 e3 e4; obtain ⟨k1, k2, k3, k4, k5, k6, k7, k8, k9, k10, k11, k12⟩ := KZ.out wa ZY.out)
      | (go_at_call 22; (with_reducible refine (CR.out _ RX.out SX.out).mono ?_); rintro e wa ⟨rfl, A', c', hr, hc, hA⟩; obtain ⟨e1, e2, e3⟩ := R1.out wa A' c' hr hc; have RZ := Lib.hid hr; have HA := Lib.hid (A1.out A' wa hA); have DZ := Lib.hid e1; have CZ := Lib.hid e2; have ZY := Lib.hid e3; clear hr hc hA e1 e2 e3; obtain ⟨k1, k2, k3, k4, k5, k6, k7, k8, k9, k10, k11, k12⟩ := KZ.out wa ZY.out)
      | (go_at_call 22; (with_reducible refine (CR.out _ RY.out SY.out).mono ?_); rintro e wb ⟨rfl, A', c', hr, hc, hA⟩; obtain ⟨e1, e2⟩ := R2.out wa wb xs' A' c' DY.out CY.out ZY.out hr hc hA; have FF := Lib.hid e1; clear hr hc hA e1; obtain ⟨k1, k2, k3, k4, k5, k6, k7, k8, k9, k10, k11, k12⟩ := KZ.out wb e2; clear e2)
      | (go_at_call 15; (with_reducible refine (CD.out _ DZ.out).mono ?_); rintro e wb ⟨rfl, xs', hd, hc⟩; obtain ⟨e1, e2⟩ := D2.out wa wb xs' A' c' RZ.out CZ.out ZY.out HA.out hd hc; have FF := Lib.hid e1; clear hd hc e1; obtain ⟨k1, k2, k3, k4, k5, k6, k7, k8, k9, k10, k11, k12⟩ := KZ.out wb e2; clear e2))
  all_goals
    clear KZ CD CR y0 FIN D1 R1 D2 R2 A1 k1 k2 k3 k4 k5 k6 k7 k8 k9 k10 k11 k12
    go_wp2_with fail
    go_ret
    exact FF.out
end Go.Proofs.Ytjkocghbnljifaa
