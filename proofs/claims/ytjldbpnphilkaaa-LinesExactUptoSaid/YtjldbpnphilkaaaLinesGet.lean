/- THE WALKS of New, Held, Begun, Long and Drop, of the program and of the document. -/
import Derived.Test.YtjldbpnphilkaaaLinesRef
namespace Go.Proofs.Ytjldbpnphilkaaa
open Go.RowKit
def NewPost (m : Nat) (w : World) (e : Ending) (w' : World) : Prop := ∃ g, g = w.heap.size ∧ e = .returned (.tuple #[.pointer (some ⟨g, 0, none⟩), .int .i64 0]) ∧ MK w' g (.slice none 0 0) m [] 0 ∧ Below w.heap.size w w' ∧ w'.heap.size = w.heap.size + 1
theorem new_ok (m : Nat) (w : World) (hm : m ≤ 4096) : Calls Try.prog 7 #[.int .i64 (m : Int)] w (NewPost m w) := by
  have hb : Blk (w.alloc (.cells #[.slice none 0 0, .int .i64 (m : Int), .int .i64 0, .int .i64 0] 43)) w.heap.size 43 #[.slice none 0 0, .int .i64 (m : Int), .int .i64 0, .int .i64 0] := Blk.new w _ _ rfl
  have HB := Lib.hid hb; clear hb
  go_enter Try.func7, Try.ntmps7
  go_wp2
  go_ret2
  refine ⟨_, rfl, rfl, ⟨by simpa using HB.out, by unfold heldOf; simp; exact OB.nil _ _⟩, (Below.refl _ _).alloc (Nat.le_refl _) _, by simp⟩
theorem new_bad (x : Int) (w : World) (h : x < 0 ∨ 4096 < x) : Calls Try.prog 7 #[.int .i64 x] w fun e w' => e = .returned (.tuple #[.pointer none, .int .i64 1]) ∧ w = w' := by
  rcases h with h | h
  all_goals
    go_enter Try.func7, Try.ntmps7
    go_wp2
    all_goals (go_ret2; exact ⟨rfl, rfl⟩)
def RNewPost (m : Nat) (w : World) (e : Ending) (w' : World) : Prop := ∃ g, g = w.heap.size ∧ e = .returned (.tuple #[.pointer (some ⟨g, 0, none⟩), .int .i64 0]) ∧ RM w' g (.slice none 0 0) m [] 0 ∧ Below w.heap.size w w' ∧ w'.heap.size = w.heap.size + 1
theorem rnew_ok (m : Nat) (w : World) (hm : m ≤ 4096) : Calls Try.prog 8 #[.int .i64 (m : Int)] w (RNewPost m w) := by
  have hb : Blk (w.alloc (.cells #[.int .i64 (m : Int), .slice none 0 0, .int .i64 0] 55)) w.heap.size 55 #[.int .i64 (m : Int), .slice none 0 0, .int .i64 0] := Blk.new w _ _ rfl
  have HB := Lib.hid hb; clear hb
  go_enter Try.func8, Try.ntmps8
  go_wp2
  go_ret2
  refine ⟨_, rfl, rfl, ⟨by simpa using HB.out, OB.nil _ _⟩, (Below.refl _ _).alloc (Nat.le_refl _) _, by simp⟩
theorem rnew_bad (x : Int) (w : World) (h : x < 0 ∨ 4096 < x) : Calls Try.prog 8 #[.int .i64 x] w fun e w' => e = .returned (.tuple #[.pointer none, .int .i64 1]) ∧ w = w' := by
  rcases h with h | h
  all_goals
    go_enter Try.func8, Try.ntmps8
    go_wp2
    all_goals (go_ret2; exact ⟨rfl, rfl⟩)
theorem held_any (g : Nat) (v : Value) (most long : Nat) (u : List UInt8) (w : World) (hm : MK w g v most u long) :
    Calls Try.prog 13 #[.pointer (some ⟨g, 0, none⟩)] w fun e w' => e = .returned (.int .i64 ((heldOf most u).length : Int)) ∧ w = w' := by
  have c0 : w.cell? ⟨g, 0, none⟩ = some v := hm.blk.cell 0
  obtain ⟨D, dc, rfl, _, _, _⟩ := hm.own.form
  generalize (heldOf most u).length = q at *
  clear hm
  go_enter Try.func13, Try.ntmps13
  go_wp2
  go_ret
  exact ⟨rfl, rfl⟩
theorem begun_any (g : Nat) (v : Value) (most long : Nat) (u : List UInt8) (w : World) (hm : MK w g v most u long) :
    Calls Try.prog 15 #[.pointer (some ⟨g, 0, none⟩)] w fun e w' => e = .returned (.int .i64 (u.length : Int)) ∧ w = w' := by
  have c2 : w.cell? ⟨g, 2, none⟩ = some (.int .i64 (u.length : Int)) := hm.blk.cell 2
  generalize u.length = q at *
  clear hm
  go_enter Try.func15, Try.ntmps15
  go_wp2
  go_ret
  exact ⟨rfl, rfl⟩
theorem long_any (g : Nat) (v : Value) (most long : Nat) (u : List UInt8) (w : World) (hm : MK w g v most u long) :
    Calls Try.prog 17 #[.pointer (some ⟨g, 0, none⟩)] w fun e w' => e = .returned (.int .i64 (long : Int)) ∧ w = w' := by
  have c3 : w.cell? ⟨g, 3, none⟩ = some (.int .i64 (long : Int)) := hm.blk.cell 3
  clear hm
  go_enter Try.func17, Try.ntmps17
  go_wp2
  go_ret
  exact ⟨rfl, rfl⟩
theorem rbegun_any (g : Nat) (v : Value) (most long : Nat) (u : List UInt8) (w : World) (hm : RM w g v most u long) :
    Calls Try.prog 16 #[.pointer (some ⟨g, 0, none⟩)] w fun e w' => e = .returned (.int .i64 (u.length : Int)) ∧ w = w' := by
  have c1 : w.cell? ⟨g, 1, none⟩ = some v := hm.blk.cell 1
  obtain ⟨D, dc, rfl, _, _, _⟩ := hm.own.form
  generalize u.length = q at *
  clear hm
  go_enter Try.func16, Try.ntmps16
  go_wp2
  go_ret
  exact ⟨rfl, rfl⟩
theorem rlong_any (g : Nat) (v : Value) (most long : Nat) (u : List UInt8) (w : World) (hm : RM w g v most u long) :
    Calls Try.prog 18 #[.pointer (some ⟨g, 0, none⟩)] w fun e w' => e = .returned (.int .i64 (long : Int)) ∧ w = w' := by
  have c2 : w.cell? ⟨g, 2, none⟩ = some (.int .i64 (long : Int)) := hm.blk.cell 2
  clear hm
  go_enter Try.func18, Try.ntmps18
  go_wp2
  go_ret
  exact ⟨rfl, rfl⟩
theorem rheld_any (g : Nat) (v : Value) (most long : Nat) (u : List UInt8) (w : World) (hm : RM w g v most u long) :
    Calls Try.prog 14 #[.pointer (some ⟨g, 0, none⟩)] w fun e w' => e = .returned (.int .i64 ((heldOf most u).length : Int)) ∧ ∃ n, w' = w.drewN n := by
  have c0 : w.cell? ⟨g, 0, none⟩ = some (.int .i64 (most : Int)) := hm.blk.cell 0
  have c1 : w.cell? ⟨g, 1, none⟩ = some v := hm.blk.cell 1
  obtain ⟨D, dc, rfl, _, _, _⟩ := hm.own.form
  have hh : (heldOf most u).length = if u.length ≤ most then u.length else 0 := by unfold heldOf; split <;> rfl
  rw [hh]
  generalize u.length = q at *
  clear hm hh
  by_cases h : q ≤ most
  · rw [if_pos h]
    go_enter Try.func14, Try.ntmps14
    go_wp2_with fail
    first
      | (go_ret; exact ⟨rfl, 0, rfl⟩)
      | (go_quiet (fail); go_wp2_with fail; go_ret; exact ⟨rfl, _, rfl⟩)
  · rw [if_neg h]
    have h' : most < q := by omega
    clear h
    go_enter Try.func14, Try.ntmps14
    go_wp2_with fail
    first
      | (go_ret; exact ⟨rfl, 0, rfl⟩)
      | (go_quiet (fail); go_wp2_with fail; go_ret; exact ⟨rfl, _, rfl⟩)
theorem rdrop_any (g : Nat) (v : Value) (most long : Nat) (u : List UInt8) (w : World) (hm : RM w g v most u long) :
    Calls Try.prog 10 #[.pointer (some ⟨g, 0, none⟩)] w fun e w' => e = .returned (.tuple #[]) ∧ RM w' g (.slice none 0 0) most [] long ∧ Chg (ownF g v) w w' := by
  have c1 : w.cell? ⟨g, 1, none⟩ = some v := hm.blk.cell 1
  have f1 := hm.blk.frozen 1
  have HM := Lib.hid hm; clear hm
  go_enter Try.func10, Try.ntmps10
  go_wp2_with fail
  go_end0
  refine ⟨rfl, ⟨?_, OB.nil _ _⟩, (Chg.refl _ w).setCell (.inl (.inl rfl)) _⟩
  have := HM.out.blk.set_ 1 (.slice none 0 0)
  simpa using this
end Go.Proofs.Ytjldbpnphilkaaa
