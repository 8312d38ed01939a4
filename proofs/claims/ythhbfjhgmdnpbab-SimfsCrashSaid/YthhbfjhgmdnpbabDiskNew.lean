/- THE WALK of simfs.New. -/
import Derived.Test.YthhbfjhgmdnpbabDisk
import Derived.Deep.DeepMust
import Derived.OwnWalk
import Derived.WalkSpells
import Derived.Carry
import Derived.Deep.WholeRow
namespace Go.Proofs.Ythhbfjhgmdnpbab
open Go.RowKit Go.Maps
def emptyD : Dk := ⟨fun _ => none, fun _ => none, fun _ => none, 0⟩
theorem zero_disk : (Try.prog.info? 56).map (fun i => (i.zero, i.size)) = some (some (.agg #[.map none, .map none, .map none, .int .i64 0]), 4) := by kernel_rfl
theorem zero_disk_run (w : World) : (zeroValue 56).run Try.prog w = .ok (.agg #[.map none, .map none, .map none, .int .i64 0]) w := (zero_of_info zero_disk).1 w
def NewD (w : World) (e : Ending) (w' : World) : Prop :=
  ∃ p bf bn bs, e = .returned (.pointer (some ⟨p, 0, none⟩)) ∧ DW w' w.heap.size p 0 emptyD bf bn bs (fun _ => none) ∧ Below w.heap.size w w'
set_option maxRecDepth 20000 in
theorem new_any (w : World) : Calls Try.prog 5 #[] w (NewD w) := by
  have hmm := @run_makeMap Try.prog
  have hz := zero_disk_run
  go_enter Try.func5, Try.ntmps5
  go_wp2_with fail
  go_ret
  have b1 : Below w.heap.size w (w.alloc (.map #[] 0)) := (Below.refl _ _).alloc (Nat.le_refl _) _
  have b2 : Below w.heap.size w ((w.alloc (.map #[] 0)).alloc (.map #[] 0)) := b1.alloc (by simp) _
  have b3 : Below w.heap.size w (((w.alloc (.map #[] 0)).alloc (.map #[] 0)).alloc (.map #[] 0)) := b2.alloc (by simp; omega) _
  have k1 : ∀ (W : World) (o : Obj), Below W.heap.size W (W.alloc o) := fun W o => (Below.refl _ _).alloc (Nat.le_refl _) _
  have m1 := FM.made w Try.prog 3 iL pD ptrE
  have m2 := FM.made (w.alloc (.map #[] 0)) Try.prog 9 sL iD (plainElem Try.prog 3)
  have m3 := FM.made ((w.alloc (.map #[] 0)).alloc (.map #[] 0)) Try.prog 9 sL iD (plainElem Try.prog 3)
  refine ⟨_, w.heap.size, w.heap.size + 1, w.heap.size + 1 + 1, rfl, ⟨Blk.new _ _ _ (by simp), ((m1.keep (k1 _ _)).keep (k1 _ _)).keep (k1 _ _), ?_, ?_, by omega, fun i => rfl, fun i g x h => (by cases h), fun i j g h => (by cases h), fun i j g g' k h => (by cases h)⟩, b3.alloc (by simp; omega) _⟩
  · have e : (w.alloc (.map #[] 0)).heap.size = w.heap.size + 1 := by simp
    rw [e] at m2
    exact (m2.keep (k1 _ _)).keep (k1 _ _)
  · have e : ((w.alloc (.map #[] 0)).alloc (.map #[] 0)).heap.size = w.heap.size + 1 + 1 := by simp
    rw [e] at m3
    exact m3.keep (k1 _ _)
end Go.Proofs.Ythhbfjhgmdnpbab
