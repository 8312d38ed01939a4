/- THE PLAIN LAW of a crash: what each file has behind it. Nothing of the program's code is used here. -/
import Derived.Test.YthhbfjhgmdnpbabCrash
namespace Go.Proofs.Ythhbfjhgmdnpbab
open Go.RowKit Go.Maps
theorem crashS_no (keep : List Int) (s : Dk × Nat) (i : Int) : (crashS keep s i).1.no = s.1.no ∧ (crashS keep s i).1.ns = s.1.ns ∧ (crashS keep s i).1.se = s.1.se := by
  unfold crashS
  split <;> exact ⟨rfl, rfl, rfl⟩
/-- j files are done: what each file has -/
structure CA (keep ss : List Int) (d : Dk) (j : Nat) : Prop where
  no : (crashD keep ss d j).1.no = d.no
  ns : (crashD keep ss d j).1.ns = d.ns
  se : (crashD keep ss d j).1.se = d.se
  le : (crashD keep ss d j).2 ≤ j
  un : ∀ i, i ∉ ss.take j → (crashD keep ss d j).1.fs i = d.fs i
  nn : ∀ i, d.fs i = none → (crashD keep ss d j).1.fs i = none
  at_ : ∀ i x, i ∈ ss.take j → d.fs i = some x → ∃ k, k < j ∧ (crashD keep ss d j).1.fs i = some (crashF keep k x)
theorem crash_at {keep ss : List Int} {d : Dk} (hs : ss.Pairwise (· < ·)) : ∀ j, j ≤ ss.length → CA keep ss d j
  | 0, _ => ⟨rfl, rfl, rfl, Nat.le_refl _, fun _ _ => rfl, fun _ h => h, fun _ _ h => by simp at h⟩
  | j + 1, hj => by
    have ih := crash_at (keep := keep) (d := d) hs j (by omega)
    obtain ⟨q, hq⟩ : ∃ q, ss[j]? = some q := ⟨_, List.getElem?_eq_getElem (by omega)⟩
    have hst := crashD_succ (keep := keep) (d := d) hq
    have hno := crashS_no keep (crashD keep ss d j) q
    have htk : ss.take (j + 1) = ss.take j ++ [q] := by rw [List.take_add_one, hq]; rfl
    have hnq : q ∉ ss.take j := fun hmem => by
      obtain ⟨r, hr⟩ := List.getElem?_of_mem hmem
      have hrl : r < j := by
        have := (List.getElem?_eq_some_iff.1 hr).1
        rw [List.length_take] at this; omega
      rw [List.getElem?_take_of_lt hrl] at hr
      obtain ⟨h1, h2⟩ := List.getElem?_eq_some_iff.1 hr
      obtain ⟨h3, h4⟩ := List.getElem?_eq_some_iff.1 hq
      have := List.pairwise_iff_getElem.1 hs r j h1 h3 hrl
      rw [h2, h4] at this
      omega
    cases hx : (crashD keep ss d j).1.fs q with
    | none =>
      have e : crashD keep ss d (j + 1) = crashD keep ss d j := by rw [hst]; unfold crashS; rw [hx]
      rw [ih.un q hnq] at hx
      refine ⟨by rw [e]; exact ih.no, by rw [e]; exact ih.ns, by rw [e]; exact ih.se, by rw [e]; exact Nat.le_succ_of_le ih.le, fun i hi => ?_, fun i hi => by rw [e]; exact ih.nn i hi, fun i x hi hd => ?_⟩
      · rw [e]; exact ih.un i (fun h => hi (by rw [htk]; exact List.mem_append_left _ h))
      · rw [htk] at hi
        rcases List.mem_append.1 hi with h | h
        · obtain ⟨k, h1, h2⟩ := ih.at_ i x h hd
          exact ⟨k, by omega, by rw [e]; exact h2⟩
        · rw [List.mem_singleton.1 h, hx] at hd; cases hd
    | some x0 =>
      have e : crashD keep ss d (j + 1) = ((crashD keep ss d j).1.edit q (crashF keep (crashD keep ss d j).2 x0), crashK (crashD keep ss d j).2 x0) := by rw [hst]; unfold crashS; rw [hx]
      have hx' := hx
      rw [ih.un q hnq] at hx'
      refine ⟨by rw [hst, hno.1]; exact ih.no, by rw [hst, hno.2.1]; exact ih.ns, by rw [hst, hno.2.2]; exact ih.se, by rw [e]; exact Nat.le_trans (crashK_le _ _) (Nat.succ_le_succ ih.le), fun i hi => ?_, fun i hi => ?_, fun i x hi hd => ?_⟩
      · have h1 : i ≠ q := fun h => hi (by rw [htk, h]; exact List.mem_append_right _ (List.mem_singleton.2 rfl))
        rw [e]; show (Dk.edit _ q _).fs i = _
        rw [Dk.edit_fs, if_neg h1]
        exact ih.un i (fun h => hi (by rw [htk]; exact List.mem_append_left _ h))
      · have h1 : i ≠ q := fun h => by rw [h, hx'] at hi; cases hi
        rw [e]; show (Dk.edit _ q _).fs i = _
        rw [Dk.edit_fs, if_neg h1]
        exact ih.nn i hi
      · rw [e]; show ∃ k, k < j + 1 ∧ (Dk.edit _ q _).fs i = _
        rw [Dk.edit_fs]
        by_cases h1 : i = q
        · rw [if_pos h1]
          rw [h1, hx'] at hd
          obtain rfl := Option.some.inj hd
          exact ⟨_, Nat.lt_succ_of_le ih.le, rfl⟩
        · rw [if_neg h1]
          rw [htk] at hi
          rcases List.mem_append.1 hi with h | h
          · obtain ⟨k, h2, h3⟩ := ih.at_ i x h hd
            exact ⟨k, by omega, h3⟩
          · exact absurd (List.mem_singleton.1 h) h1
/-- all files are done -/
structure CAll (keep : List Int) (m : Nat) (d d' : Dk) : Prop where
  no : d'.no = d.no
  ns : d'.ns = d.ns
  se : d'.se = d.se
  nn : ∀ i, d.fs i = none → d'.fs i = none
  at_ : ∀ i x, d.fs i = some x → ∃ k, k < m ∧ d'.fs i = some (crashF keep k x)
theorem crash_all {keep ss : List Int} {d : Dk} (hs : ss.Pairwise (· < ·)) (hm : ∀ i, i ∈ ss ↔ (d.fs i).isSome = true) : CAll keep ss.length d (crashD keep ss d ss.length).1 := by
  have h := crash_at (keep := keep) (d := d) hs ss.length (Nat.le_refl _)
  exact ⟨h.no, h.ns, h.se, h.nn, fun i x hx => h.at_ i x (by rw [List.take_length, hm, hx]; rfl) hx⟩
/-- a front of the bytes, and the generation tells -/
theorem crashF_front (keep : List Int) (k : Nat) (x : Fl) : ((crashF keep k x).by_ = x.by_ ∧ (crashF keep k x).ge = x.ge) ∨ ((crashF keep k x).by_ = x.by_.take (crashN keep k x) ∧ crashN keep k x < x.by_.length ∧ (crashF keep k x).ge = x.ge + 1) := by
  unfold crashF
  split
  · exact .inl ⟨rfl, rfl⟩
  · unfold crash1 Fl.kept
    simp only
    split
    · rename_i h; exact .inr ⟨rfl, h, rfl⟩
    · exact .inl ⟨rfl, rfl⟩
end Go.Proofs.Ythhbfjhgmdnpbab
