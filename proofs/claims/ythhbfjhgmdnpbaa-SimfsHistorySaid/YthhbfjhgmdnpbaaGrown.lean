/- THE WALK of grown (package heronlaw14). -/
import Derived.Test.YthhbfjhgmdnpbaaBegins
namespace Go.Proofs.Ythhbfjhgmdnpbaa
open Go.RowKit Go.Maps
def grownB (a b : Fv) : Bool := if a.i = 0 ∨ b.i = 0 then decide (b.i = 0) else decide (a.g < b.g) || (decide (b.g = a.g) && beginsB a.b b.b)
set_option maxRecDepth 20000 in
theorem grown_any (a b : Fv) (W : World) : Calls Try.prog 24 #[fvV a, fvV b] W fun e w' => e = .returned (.bool (grownB a b)) ∧ Below W.heap.size W w' := by
  obtain ⟨ai, aq, ag, an, ab⟩ := a
  obtain ⟨bi, bq, bg, bn, bb⟩ := b
  obtain ⟨v, hv⟩ : ∃ v, v = grownB ⟨ai, aq, ag, an, ab⟩ ⟨bi, bq, bg, bn, bb⟩ := ⟨_, rfl⟩
  rw [← hv]
  have HV := Lib.hid hv
  clear hv
  have HB := Lib.hid (fun W => begins_any ab bb W)
  have HW : Hid (Below W.heap.size W ((W.alloc (.cells #[.int .i64 ai, .int .i64 aq, .int .i64 ag, .int .i64 an, .string (strB ab)] 62)).alloc (.cells #[.int .i64 bi, .int .i64 bq, .int .i64 bg, .int .i64 bn, .string (strB bb)] 62))) := Lib.hid (((Below.refl _ _).alloc (Nat.le_refl _) _).alloc (by simp) _)
  unfold fvV
  go_enter Try.func24, Try.ntmps24
  by_cases h1 : ai = 0
  · have hvv : v = decide (bi = 0) := by rw [HV.out]; unfold grownB; rw [if_pos (.inl h1)]
    clear HV
    subst h1
    go_wp2_with fail
    all_goals (go_ret; exact ⟨by rw [hvv]; rfl, HW.out⟩)
  · by_cases h2 : bi = 0
    · have hvv : v = true := by rw [HV.out]; unfold grownB; rw [if_pos (.inr h2)]; simp [h2]
      clear HV
      subst h2
      subst hvv
      go_wp2_with fail
      all_goals (go_ret; exact ⟨rfl, HW.out⟩)
    · have hb1 : (ai == 0) = false := by simp [h1]
      have hb2 : (bi == 0) = false := by simp [h2]
      by_cases h3 : ag < bg
      · have hvv : v = true := by rw [HV.out]; unfold grownB; rw [if_neg (by simp only; omega)]; simp [h3]
        clear HV
        subst hvv
        go_wp2_with fail
        all_goals (go_ret; exact ⟨rfl, HW.out⟩)
      · by_cases h4 : bg = ag
        · have hvv : v = beginsB ab bb := by rw [HV.out]; unfold grownB; rw [if_neg (by simp only; omega)]; simp [h4]
          clear HV
          rw [← hvv] at HB
          clear hvv
          subst h4
          go_wp2_with fail
          refine (HB.out _).mono ?_
          rintro e w2 ⟨rfl, rfl⟩
          go_wp2_with fail
          go_ret
          exact ⟨rfl, HW.out⟩
        · have hb4 : (bg == ag) = false := by simp [h4]
          have hvv : v = false := by rw [HV.out]; unfold grownB; rw [if_neg (by simp only; omega)]; simp [h3, h4]
          clear HV
          subst hvv
          go_wp2_with fail
          all_goals (go_ret; exact ⟨rfl, HW.out⟩)
end Go.Proofs.Ythhbfjhgmdnpbaa
