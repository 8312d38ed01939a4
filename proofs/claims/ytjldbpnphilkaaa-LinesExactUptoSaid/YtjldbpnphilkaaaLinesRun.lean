/- Whole lines of bytes, byte by byte; and what one Feed is of it. -/
import Derived.Test.YtjldbpnphilkaaaLinesWalk
namespace Go.Proofs.Ytjldbpnphilkaaa
structure RS where
  ls : List (List UInt8)
  u : List UInt8
  long : Nat
def stepL (most : Nat) (s : RS) (c : UInt8) : RS :=
  if c = 10 then (if s.u.length ≤ most then ⟨s.ls ++ [s.u], [], s.long⟩ else ⟨s.ls, [], s.long + 1⟩) else ⟨s.ls, s.u ++ [c], s.long⟩
def runL (most : Nat) (s : RS) (b : List UInt8) : RS := b.foldl (stepL most) s
theorem runL_append (most : Nat) (s : RS) (a b : List UInt8) : runL most s (a ++ b) = runL most (runL most s a) b := by unfold runL; rw [List.foldl_append]
theorem runL_plain (most : Nat) (q : List UInt8) : ∀ s : RS, (∀ c ∈ q, c ≠ 10) → runL most s q = ⟨s.ls, s.u ++ q, s.long⟩ := by
  induction q with
  | nil => intro s _; simp [runL]
  | cons c q ih =>
    intro s h
    show runL most (stepL most s c) q = _
    have hc : c ≠ 10 := h c (by simp)
    rw [show stepL most s c = ⟨s.ls, s.u ++ [c], s.long⟩ from by unfold stepL; rw [if_neg hc], ih _ (fun x hx => h x (by simp [hx]))]
    simp
theorem mem_tw {α : Type} (f : α → Bool) (b : List α) : ∀ c ∈ b.takeWhile f, f c = true := by
  induction b with
  | nil => intro c h; simp at h
  | cons x b ih =>
    intro c h
    by_cases hx : f x = true
    · rw [List.takeWhile_cons_of_pos hx] at h
      rcases List.mem_cons.mp h with rfl | h
      · exact hx
      · exact ih c h
    · rw [List.takeWhile_cons_of_neg hx] at h; simp at h
theorem take_up (b : List UInt8) : ∀ c ∈ b.take (upN b), c ≠ 10 := by
  have e : b.take (upN b) = b.takeWhile fun c => c != 10 := by
    unfold upN
    induction b with
    | nil => rfl
    | cons x b ih =>
      by_cases h : (x != 10) = true
      · rw [List.takeWhile_cons_of_pos (by simpa using h)]; simp [ih]
      · rw [List.takeWhile_cons_of_neg (by simpa using h)]; rfl
  intro c hc
  rw [e] at hc
  have := mem_tw _ _ c hc
  simpa using this
theorem up_at (b : List UInt8) (h : upN b < b.length) : b[upN b]? = some 10 := by
  unfold upN at *
  induction b with
  | nil => simp at h
  | cons x b ih =>
    by_cases hx : (x != 10) = true
    · rw [List.takeWhile_cons_of_pos (by simpa using hx)] at h ⊢
      simp at h ⊢
      exact ih (by omega)
    · rw [List.takeWhile_cons_of_neg (by simpa using hx)]
      simp at hx
      simp [hx]
theorem feedN_le (b : List UInt8) : feedN b ≤ b.length := by unfold feedN; split <;> omega
theorem feedN_pos (b : List UInt8) (h : 0 < b.length) : 1 ≤ feedN b := by unfold feedN; split <;> omega
theorem feedS_le (most : Nat) (u b : List UInt8) : (feedS most u b).length ≤ most := by
  unfold feedS; split
  · rename_i h; unfold feedW at h; simp only [Bool.and_eq_true, decide_eq_true_eq] at h; exact h.2
  · simp
theorem feedS_nil (most : Nat) (u b : List UInt8) (h : feedW most u b = false) : feedS most u b = [] := by unfold feedS; rw [h]; rfl
theorem feed_run (most : Nat) (s : RS) (b : List UInt8) :
    runL most s (b.take (feedN b)) = ⟨s.ls ++ (if feedW most s.u b = true then [feedS most s.u b] else []), feedU s.u b, feedL most s.long s.u b⟩ := by
  by_cases h : upN b < b.length
  · have e : b.take (feedN b) = b.take (upN b) ++ [10] := by unfold feedN; rw [if_pos h]; exact List.take_add_one.trans (by rw [up_at b h]; rfl)
    rw [e, runL_append, runL_plain most _ s (take_up b)]
    show stepL most ⟨s.ls, s.u ++ b.take (upN b), s.long⟩ 10 = _
    unfold stepL feedU feedL feedS feedW
    simp only [if_true, h, decide_true, Bool.true_and, true_and]
    by_cases hm : (s.u ++ b.take (upN b)).length ≤ most
    · rw [if_pos hm]
      simp only [hm, decide_true, if_true]
      rw [if_neg (by omega)]
    · rw [if_neg hm]
      have hm' : most < (s.u ++ b.take (upN b)).length := by omega
      simp only [hm, hm', decide_false, Bool.false_eq_true, if_false, if_true, List.append_nil]
  · have hu : upN b = b.length := by have := upN_le b; omega
    have e : b.take (feedN b) = b.take (upN b) := by unfold feedN; rw [if_neg h, hu]
    rw [e, runL_plain most _ s (take_up b)]
    unfold feedU feedL feedS feedW
    simp [h, hu]
theorem heldOf_le (most : Nat) (u : List UInt8) : (heldOf most u).length ≤ most ∧ (heldOf most u).length ≤ u.length := by
  unfold heldOf; split
  · rename_i h; exact ⟨h, Nat.le_refl _⟩
  · simp
theorem runL_bound (most : Nat) (b : List UInt8) : ∀ s : RS, (runL most s b).ls.length ≤ s.ls.length + b.length ∧ (runL most s b).u.length ≤ s.u.length + b.length ∧ (runL most s b).long ≤ s.long + b.length := by
  induction b with
  | nil => intro s; simp [runL]
  | cons c b ih =>
    intro s
    have h := ih (stepL most s c)
    have h2 : (stepL most s c).ls.length ≤ s.ls.length + 1 ∧ (stepL most s c).u.length ≤ s.u.length + 1 ∧ (stepL most s c).long ≤ s.long + 1 := by
      unfold stepL
      split
      · split <;> simp
      · simp
    show (runL most (stepL most s c) b).ls.length ≤ _ ∧ _ ∧ _
    refine ⟨?_, ?_, ?_⟩
    · have := h.1; simp; omega
    · have := h.2.1; simp [runL] at *; omega
    · have := h.2.2; simp [runL] at *; omega
end Go.Proofs.Ytjldbpnphilkaaa
