/- Writing a number into a slice of marks that is the call's own. -/
import Derived.Test.YtpeaacbbfkanmaaDoorCkptOwn
namespace Go.Proofs.YtpeaacbbfkanmaaDoor
open Go.RowKit
def Mk.put (m : Mk) (j : Nat) (x : Int) : Mk :=
  match j with
  | 0 => ⟨x, m.a1, m.a2, m.a3, m.a4, m.a5, m.a6, m.a7, m.a8⟩
  | 1 => ⟨m.a0, x, m.a2, m.a3, m.a4, m.a5, m.a6, m.a7, m.a8⟩
  | 2 => ⟨m.a0, m.a1, x, m.a3, m.a4, m.a5, m.a6, m.a7, m.a8⟩
  | 3 => ⟨m.a0, m.a1, m.a2, x, m.a4, m.a5, m.a6, m.a7, m.a8⟩
  | 4 => ⟨m.a0, m.a1, m.a2, m.a3, x, m.a5, m.a6, m.a7, m.a8⟩
  | 5 => ⟨m.a0, m.a1, m.a2, m.a3, m.a4, x, m.a6, m.a7, m.a8⟩
  | 6 => ⟨m.a0, m.a1, m.a2, m.a3, m.a4, m.a5, x, m.a7, m.a8⟩
  | 7 => ⟨m.a0, m.a1, m.a2, m.a3, m.a4, m.a5, m.a6, x, m.a8⟩
  | _ => ⟨m.a0, m.a1, m.a2, m.a3, m.a4, m.a5, m.a6, m.a7, x⟩
theorem put_cells (m : Mk) {j : Nat} (hj : j < 9) (x : Int) : m.cells.toList.set j (.int .i64 x) = (m.put j x).cells.toList := by
  match j, hj with
  | 0, _ => rfl
  | 1, _ => rfl
  | 2, _ => rfl
  | 3, _ => rfl
  | 4, _ => rfl
  | 5, _ => rfl
  | 6, _ => rfl
  | 7, _ => rfl
  | 8, _ => rfl
theorem cellsL_set (l : List Mk) {k j : Nat} {m : Mk} (hm : l[k]? = some m) (hj : j < 9) (x : Int) : (cellsL l).set (k * 9 + j) (.int .i64 x) = cellsL (l.set k (m.put j x)) := by
  obtain ⟨hk, rfl⟩ := List.getElem?_eq_some_iff.1 hm
  have e : l = l.take k ++ (l[k] :: l.drop (k + 1)) := by rw [← List.drop_eq_getElem_cons hk, List.take_append_drop]
  have hlen : (cellsL (l.take k)).length = k * 9 := by rw [cellsL_length, List.length_take, Nat.min_eq_left (by omega)]
  have hc : ∀ (y : Mk) (r : List Mk), cellsL (y :: r) = y.cells.toList ++ cellsL r := fun y r => by simp [cellsL]
  have e2 : l.set k (l[k].put j x) = l.take k ++ (l[k].put j x) :: l.drop (k + 1) := by rw [List.set_eq_take_append_cons_drop, if_pos hk]
  rw [e2, cellsL_append, hc]
  conv => lhs; rw [e]
  rw [cellsL_append, hc, List.set_append_right _ _ (by omega), hlen, Nat.add_sub_cancel_left, List.set_append_left _ _ (by show j < 9; exact hj), put_cells _ hj]
theorem OM.at_ {w : World} {base g c n : Nat} {l : List Mk} (h : OM w base (.slice (some ⟨g, 0, none⟩) n c) l) {k : Nat} {m : Mk} (hm : l[k]? = some m) {j : Nat} {u : Value} (hu : m.cells[j]? = some u) : w.cell? ⟨g, k * 9 + j, none⟩ = some u := by
  have hj' := (List.getElem?_eq_some_iff.1 hm).1
  have hk : j < 9 := (Array.getElem?_eq_some_iff.1 hu).1
  have e : n = l.length := by
    obtain ⟨_, _, e, _⟩ := h.form
    injection e
  subst e
  exact (World.ownsRow.cellAt h (k * 9 + j) (by omega)).trans (cellsL_at l hm hu)
theorem OM.frozen {w : World} {base g c n : Nat} {l : List Mk} (h : OM w base (.slice (some ⟨g, 0, none⟩) n c) l) (j : Nat) : w.frozen? ⟨g, j, none⟩ = false := by
  have e : n = l.length := by
    obtain ⟨_, _, e, _⟩ := h.form
    injection e
  subst e
  exact World.ownsRow.frozenAt h j
theorem OM.stored {w : World} {base g c n : Nat} {l : List Mk} (h : OM w base (.slice (some ⟨g, 0, none⟩) n c) l) {k j : Nat} {m : Mk} (hm : l[k]? = some m) (hj : j < 9) (x : Int) :
    OM (w.setCell ⟨g, k * 9 + j, none⟩ (.int .i64 x)) base (.slice (some ⟨g, 0, none⟩) n c) (l.set k (m.put j x)) := by
  have e : n = l.length := by
    obtain ⟨_, _, e, _⟩ := h.form
    injection e
  subst e
  have := (World.ownsRow.stored h (k * 9 + j) (.int .i64 x)).1
  unfold OM
  rw [List.length_set, ← cellsL_set l hm hj]
  exact this
/-- the slice of the first marks -/
theorem MS.take {w : World} {A : Option Addr} {n : Nat} {l : List Mk} (h : MS w A n l) {k : Nat} (hk : k ≤ n) : MS w A k (l.take k) := by
  refine ⟨by have := h.1; rw [List.length_take]; omega, fun hp => ?_⟩
  obtain ⟨b, off, e, hb, hc⟩ := h.2 (by omega)
  refine ⟨b, off, e, hb, fun j m hj => hc j m ?_⟩
  rw [List.getElem?_take] at hj
  split at hj
  · exact hj
  · cases hj
end Go.Proofs.YtpeaacbbfkanmaaDoor
