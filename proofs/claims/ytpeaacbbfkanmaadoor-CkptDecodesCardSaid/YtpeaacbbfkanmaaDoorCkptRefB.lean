/- THE WALKS of package ckpt's reference: numbers, mark, May. -/
import Derived.Test.YtpeaacbbfkanmaaDoorCkptRef
namespace Go.Proofs.YtpeaacbbfkanmaaDoor
open Go.RowKit
set_option maxRecDepth 100000 in
set_option maxHeartbeats 2000000 in
theorem refNums_any (m : Mk) (w : World) :
    Calls Tryd.prog 17 #[.agg m.cells] w fun e w' => e = .returned (.agg m.cells) ∧ Below w.heap.size w w' := by
  have hb : Below w.heap.size w ((w.alloc (.cells m.cells 31)).alloc (.cells m.cells 43)) := ((Below.refl _ _).alloc (Nat.le_refl _) _).alloc (by simp) _
  unfold Mk.cells at *
  have HB := Lib.hid hb; clear hb
  go_enter Tryd.func17, Tryd.ntmps17
  go_wp2_with fail
  refine bodyPost_ret (v := .agg #[.int .i64 m.a0, .int .i64 m.a1, .int .i64 m.a2, .int .i64 m.a3, .int .i64 m.a4, .int .i64 m.a5, .int .i64 m.a6, .int .i64 m.a7, .int .i64 m.a8]) (by simp [results, Tryd.results17, go_sem]) rfl ?_
  exact ⟨rfl, HB.out⟩
set_option maxRecDepth 100000 in
set_option maxHeartbeats 2000000 in
theorem refMark_any (m : Mk) (w : World) :
    Calls Tryd.prog 24 #[.agg m.cells] w fun e w' => e = .returned (.agg m.cells) ∧ Below w.heap.size w w' := by
  have hb : Below w.heap.size w ((w.alloc (.cells m.cells 43)).alloc (.cells m.cells 31)) := ((Below.refl _ _).alloc (Nat.le_refl _) _).alloc (by simp) _
  unfold Mk.cells at *
  have HB := Lib.hid hb; clear hb
  go_enter Tryd.func24, Tryd.ntmps24
  go_wp2_with fail
  refine bodyPost_ret (v := .agg #[.int .i64 m.a0, .int .i64 m.a1, .int .i64 m.a2, .int .i64 m.a3, .int .i64 m.a4, .int .i64 m.a5, .int .i64 m.a6, .int .i64 m.a7, .int .i64 m.a8]) (by simp [results, Tryd.results24, go_sem]) rfl ?_
  exact ⟨rfl, HB.out⟩
end Go.Proofs.YtpeaacbbfkanmaaDoor
