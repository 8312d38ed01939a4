/- THE WALKS of New, Held, Begun, Long of package lines. -/
import Derived.Test.YtlojmmcagglpoaaZLinesWalk
namespace Go.Proofs.Ytlojmmcagglpoaa
open Go.RowKit
def NewPost (m : Nat) (w : World) (e : Ending) (w' : World) : Prop := ∃ g, g = w.heap.size ∧ e = .returned (.tuple #[.pointer (some ⟨g, 0, none⟩), .int .i64 0]) ∧ MK w' g (.slice none 0 0) m [] 0 ∧ Below w.heap.size w w' ∧ w'.heap.size = w.heap.size + 1
theorem new_ok (m : Nat) (w : World) (hm : m ≤ 4096) : Calls Try.prog 36 #[.int .i64 (m : Int)] w (NewPost m w) := by
  have hb : Blk (w.alloc (.cells #[.slice none 0 0, .int .i64 (m : Int), .int .i64 0, .int .i64 0] 145)) w.heap.size 145 #[.slice none 0 0, .int .i64 (m : Int), .int .i64 0, .int .i64 0] := Blk.new w _ _ rfl
  have HB := Lib.hid hb; clear hb
  go_enter Try.func36, Try.ntmps36
  go_wp2
  go_ret2
  refine ⟨_, rfl, rfl, ⟨by simpa using HB.out, by unfold heldOf; simp; exact OB.nil _ _⟩, (Below.refl _ _).alloc (Nat.le_refl _) _, by simp⟩
theorem new_bad (x : Int) (w : World) (h : x < 0 ∨ 4096 < x) : Calls Try.prog 36 #[.int .i64 x] w fun e w' => e = .returned (.tuple #[.pointer none, .int .i64 1]) ∧ w = w' := by
  rcases h with h | h
  all_goals
    go_enter Try.func36, Try.ntmps36
    go_wp2
    all_goals (go_ret2; exact ⟨rfl, rfl⟩)
theorem held_any (g : Nat) (v : Value) (most long : Nat) (u : List UInt8) (w : World) (hm : MK w g v most u long) :
    Calls Try.prog 60 #[.pointer (some ⟨g, 0, none⟩)] w fun e w' => e = .returned (.int .i64 ((heldOf most u).length : Int)) ∧ w = w' := by
  have c0 : w.cell? ⟨g, 0, none⟩ = some v := hm.blk.cell 0
  obtain ⟨D, dc, rfl, _, _, _⟩ := hm.own.form
  generalize (heldOf most u).length = q at *
  clear hm
  go_enter Try.func60, Try.ntmps60
  go_wp2
  go_ret
  exact ⟨rfl, rfl⟩
theorem begun_any (g : Nat) (v : Value) (most long : Nat) (u : List UInt8) (w : World) (hm : MK w g v most u long) :
    Calls Try.prog 67 #[.pointer (some ⟨g, 0, none⟩)] w fun e w' => e = .returned (.int .i64 (u.length : Int)) ∧ w = w' := by
  have c2 : w.cell? ⟨g, 2, none⟩ = some (.int .i64 (u.length : Int)) := hm.blk.cell 2
  generalize u.length = q at *
  clear hm
  go_enter Try.func67, Try.ntmps67
  go_wp2
  go_ret
  exact ⟨rfl, rfl⟩
theorem long_any (g : Nat) (v : Value) (most long : Nat) (u : List UInt8) (w : World) (hm : MK w g v most u long) :
    Calls Try.prog 68 #[.pointer (some ⟨g, 0, none⟩)] w fun e w' => e = .returned (.int .i64 (long : Int)) ∧ w = w' := by
  have c3 : w.cell? ⟨g, 3, none⟩ = some (.int .i64 (long : Int)) := hm.blk.cell 3
  clear hm
  go_enter Try.func68, Try.ntmps68
  go_wp2
  go_ret
  exact ⟨rfl, rfl⟩
end Go.Proofs.Ytlojmmcagglpoaa
