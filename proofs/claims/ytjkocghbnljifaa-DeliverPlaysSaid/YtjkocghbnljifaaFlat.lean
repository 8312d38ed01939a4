/- Rows of elements of several cells: plain facts on lists. -/
import Derived.Test.YtjkocghbnljifaaFrame
namespace Go.Proofs.Ytjkocghbnljifaa
open Go.RowKit
section
variable {α : Type} {enc : α → Array Value} {s : Nat}
def flatE (enc : α → Array Value) (l : List α) : List Value := (l.map fun m => (enc m).toList).flatten
theorem flatE_append (l l' : List α) : flatE enc (l ++ l') = flatE enc l ++ flatE enc l' := by unfold flatE; simp
theorem flatE_cons (x : α) (l : List α) : flatE enc (x :: l) = (enc x).toList ++ flatE enc l := by unfold flatE; simp
theorem flatE_length (hs : ∀ x, (enc x).size = s) (l : List α) : (flatE enc l).length = l.length * s := by
  induction l with
  | nil => simp [flatE]
  | cons x l ih => rw [flatE_cons, List.length_append, ih, Array.length_toList, hs, List.length_cons, Nat.add_mul, Nat.one_mul, Nat.add_comm]
theorem flatE_split (hs : ∀ x, (enc x).size = s) (l : List α) {j : Nat} {x : α} (h : l[j]? = some x) : flatE enc l = flatE enc (l.take j) ++ ((enc x).toList ++ flatE enc (l.drop (j + 1))) ∧ (flatE enc (l.take j)).length = j * s := by
  obtain ⟨hj, rfl⟩ := List.getElem?_eq_some_iff.1 h
  constructor
  · conv => lhs; rw [← List.take_append_drop j l, List.drop_eq_getElem_cons hj]
    rw [flatE_append, flatE_cons]
  · rw [flatE_length hs, List.length_take, Nat.min_eq_left (by omega)]
theorem flatE_at (hs : ∀ x, (enc x).size = s) (l : List α) {j : Nat} {x : α} (h : l[j]? = some x) {i : Nat} {u : Value} (hu : (enc x)[i]? = some u) : (flatE enc l)[j * s + i]? = some u := by
  obtain ⟨e, hl⟩ := flatE_split hs l h
  have hi := (Array.getElem?_eq_some_iff.1 hu).1
  rw [e, List.getElem?_append_right (by omega), hl, Nat.add_sub_cancel_left, List.getElem?_append_left (by rw [Array.length_toList]; exact hi)]
  simpa using hu
theorem mid_set (A B el : List Value) {a i : Nat} (ha : A.length = a) (hi : i < el.length) (u : Value) : (A ++ (el ++ B)).set (a + i) u = A ++ (el.set i u ++ B) := by
  rw [List.set_append_right _ _ (by omega), ha, Nat.add_sub_cancel_left, List.set_append_left _ _ hi]
/-- the element at j is another one -/
theorem flatE_set (l : List α) {j : Nat} {x : α} (h : l[j]? = some x) (y : α) : flatE enc (l.set j y) = flatE enc (l.take j) ++ ((enc y).toList ++ flatE enc (l.drop (j + 1))) := by
  obtain ⟨hj, rfl⟩ := List.getElem?_eq_some_iff.1 h
  rw [List.set_eq_take_append_cons_drop, if_pos hj, flatE_append, flatE_cons]
theorem flatE_set2 (hs : ∀ x, (enc x).size = 2) (l : List α) {j : Nat} {x : α} (h : l[j]? = some x) (y : α) {u0 u1 : Value} (hy : (enc y).toList = [u0, u1]) : ((flatE enc l).set (j * 2) u0).set (j * 2 + 1) u1 = flatE enc (l.set j y) := by
  obtain ⟨e, hl⟩ := flatE_split hs l h
  rw [flatE_set l h y, e, hy]
  have hx : (enc x).toList.length = 2 := by rw [Array.length_toList]; exact hs x
  match (enc x).toList, hx with
  | [a, b], _ =>
    have h0 : (flatE enc (l.take j) ++ ([a, b] ++ flatE enc (l.drop (j + 1)))).set (j * 2) u0 = flatE enc (l.take j) ++ ([u0, b] ++ flatE enc (l.drop (j + 1))) := mid_set (flatE enc (l.take j)) (flatE enc (l.drop (j + 1))) [a, b] (i := 0) hl (show 0 < 2 by omega) u0
    rw [h0]
    exact mid_set (flatE enc (l.take j)) (flatE enc (l.drop (j + 1))) _ hl (show 1 < 2 by omega) u1
/-- values written one behind the other -/
def setsL (l : List Value) (o : Nat) : List Value → List Value
  | [] => l
  | u :: us => setsL (l.set o u) (o + 1) us
theorem setsL_mid (B : List Value) : ∀ (us A el : List Value) (a : Nat), A.length = a → el.length = us.length → setsL (A ++ (el ++ B)) a us = A ++ (us ++ B)
  | [], A, el, a, _, h => by rw [List.eq_nil_of_length_eq_zero h]; rfl
  | u :: us, A, [], a, _, h => by simp at h
  | u :: us, A, e :: el, a, ha, h => by
    unfold setsL
    have h1 : (A ++ (e :: el ++ B)).set a u = (A ++ [u]) ++ (el ++ B) := by
      rw [List.set_append_right _ _ (by omega), ha, Nat.sub_self, List.cons_append, List.set_cons_zero, List.append_assoc]; rfl
    rw [h1, setsL_mid B us (A ++ [u]) el (a + 1) (by simp [ha]) (by simpa using h), List.append_assoc]
    rfl
/-- an element written cell by cell: use it at a type written out (the nested sets are setsL by rfl) -/
theorem flatE_setN (hs : ∀ x, (enc x).size = s) (l : List α) {j : Nat} {x : α} (h : l[j]? = some x) (y : α) {us : List Value} (hy : (enc y).toList = us) : setsL (flatE enc l) (j * s) us = flatE enc (l.set j y) := by
  obtain ⟨e, hl⟩ := flatE_split hs l h
  rw [flatE_set l h y, e, hy]
  exact setsL_mid _ us _ _ _ hl (by rw [← hy, Array.length_toList, Array.length_toList, hs, hs])
end
end Go.Proofs.Ytjkocghbnljifaa
