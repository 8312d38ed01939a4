/- THE WALKS of package backoff. -/
import Derived.Test.YtjkocghbnljifaaRows
import Derived.Test.YtjkocghbnljifaaBase
import Derived.Test.YtjkocghbnljifaaBackFns
import Derived.WalkKit
import Derived.WalkSpells
import Derived.Lib.Hide
import Derived.Lib.MinMax
namespace Go.Proofs.Ytjkocghbnljifaa
open Go.RowKit
def BD (x : Int) : Prop := -9223372036854775808 ≤ x ∧ x ≤ 9223372036854775807
set_option maxHeartbeats 1000000 in
theorem delay_ok (b m k : Nat) (w : World) (hb : b ≤ 1099511627776) (hm : m ≤ 1099511627776) (hk : k ≤ 9223372036854775807) :
    Calls Try.prog 34 #[.int .i64 (b : Int), .int .i64 (m : Int), .int .i64 (k : Int)] w fun e w' => e = .returned (.tuple #[.int .i64 (dl b m k : Int), .int .i64 0]) ∧ w = w' := by
  have hmin : ∀ W : World, (Builtin.min_ #[3, 3] 3 #[.int .i64 (b : Int), .int .i64 (m : Int)]).run Try.prog W = .ok (.int .i64 (dl b m 0 : Int)) W := by
    intro W; rw [run_min_int2]; congr 2; unfold dl; split <;> omega
  go_enter Try.func34, Try.ntmps34
  go_wp2
  go_step3
  go_wp2
  go_step3
  go_wp2
  go_loop [8, 25] (fun d i => ∃ j : Nat, j ≤ k ∧ i = .int .i64 j ∧ ∃ u : Nat, u ≤ m ∧ Hid (u = dl b m j) ∧ d = .int .i64 u) (fun _ i => k - (intOf i).toNat)
  case atStart => exact ⟨0, Nat.zero_le _, rfl, _, dl_le b m 0, rfl, rfl⟩
  case round =>
    obtain ⟨j, hj, rfl, u, hu, HU, rfl⟩ := hrel
    clear hmin
    have hst := @dl_stay b m j
    have HST := Lib.hid hst; clear hst
    by_cases hlt : j < k
    · have hmin2 : ∀ W : World, (Builtin.min_ #[3, 3] 3 #[.int .i64 (2 * (u : Int)), .int .i64 (m : Int)]).run Try.prog W = .ok (.int .i64 (dl b m (j + 1) : Int)) W := by
        intro W; rw [run_min_int2]; congr 2; rw [dl, ← HU.out]; split <;> omega
      by_cases hm1 : u = m
      · have ht : ((u : Int) == (m : Int)) = true := by rw [beq_iff_eq]; omega
        have HM := Lib.hid hm1; clear hm1 hmin2
        go_wp2
        go_ret2
        rw [HST.out (.inl (HU.out.symm.trans HM.out)) hj, ← HU.out]
        exact ⟨rfl, rfl⟩
      · have ht : ((u : Int) == (m : Int)) = false := by rw [beq_eq_false_iff_ne]; omega
        have HM := Lib.hid hm1; clear hm1
        by_cases h0 : u = 0
        · have ht0 : ((u : Int) == 0) = true := by rw [beq_iff_eq]; omega
          have H0 := Lib.hid h0; clear h0 hmin2
          go_wp2
          go_ret2
          rw [HST.out (.inr (HU.out.symm.trans H0.out)) hj, ← HU.out]
          exact ⟨rfl, rfl⟩
        · have ht0 : ((u : Int) == 0) = false := by rw [beq_eq_false_iff_ne]; omega
          have H0 := Lib.hid h0; clear h0
          go_wp2
          go_round
          case rel => exact ⟨j + 1, by omega, by go_num, _, dl_le b m (j + 1), rfl, rfl⟩
          case measure => simp [intOf]; omega
    · obtain rfl : j = k := by omega
      go_wp2
      go_ret2
      rw [← HU.out]
      exact ⟨rfl, rfl⟩

theorem delay_bad (x y z : Int) (w : World) (h : x < 0 ∨ 1099511627776 < x ∨ y < 0 ∨ 1099511627776 < y ∨ z < 0) :
    Calls Try.prog 34 #[.int .i64 x, .int .i64 y, .int .i64 z] w fun e w' => e = .returned (.tuple #[.int .i64 0, .int .i64 1]) ∧ w = w' := by
  rcases h with h | h | h | h | h
  all_goals
    go_enter Try.func34, Try.ntmps34
    go_wp2
    go_step3
    go_wp2
    all_goals ((try rw [Exit.noGoto_ret]); go_ret2; exact ⟨rfl, rfl⟩)

theorem okD_false {x y z : Int} (h : ¬ okD x y z = true) : x < 0 ∨ 1099511627776 < x ∨ y < 0 ∨ 1099511627776 < y ∨ z < 0 := by
  unfold okD at h; simp only [decide_eq_true_eq] at h; omega

theorem delay_any (x y z : Int) (w : World) (hz : z ≤ 9223372036854775807) :
    Calls Try.prog 34 #[.int .i64 x, .int .i64 y, .int .i64 z] w fun e w' => e = .returned (.tuple #[.int .i64 (dlI x y z), .int .i64 (dlE x y z)]) ∧ w = w' := by
  unfold dlI dlE
  by_cases h : okD x y z = true
  · rw [if_pos h, if_pos h]
    unfold okD at h
    simp only [decide_eq_true_eq] at h
    obtain ⟨b, rfl⟩ := Int.eq_ofNat_of_zero_le h.1
    obtain ⟨m, rfl⟩ := Int.eq_ofNat_of_zero_le h.2.2.1
    obtain ⟨k, rfl⟩ := Int.eq_ofNat_of_zero_le h.2.2.2.2
    exact delay_ok b m k w (by omega) (by omega) (by omega)
  · rw [if_neg h, if_neg h]
    exact delay_bad x y z w (okD_false h)

theorem refDelay_bad (x y z : Int) (w : World) (h : x < 0 ∨ 1099511627776 < x ∨ y < 0 ∨ 1099511627776 < y ∨ z < 0) :
    Calls Try.prog 36 #[.int .i64 x, .int .i64 y, .int .i64 z] w fun e w' => e = .returned (.tuple #[.int .i64 0, .int .i64 1]) ∧ w = w' := by
  go_enter Try.func36, Try.ntmps36
  go_wp2
  all_goals (go_ret2; exact ⟨rfl, rfl⟩)

set_option maxHeartbeats 1000000 in
theorem refDelay_ok (b m k : Nat) (w : World) (hb : b ≤ 1099511627776) (hm : m ≤ 1099511627776) (hk : k ≤ 9223372036854775807) :
    Calls Try.prog 36 #[.int .i64 (b : Int), .int .i64 (m : Int), .int .i64 (k : Int)] w fun e w' => e = .returned (.tuple #[.int .i64 (dl b m k : Int), .int .i64 0]) ∧ w = w' := by
  go_enter Try.func36, Try.ntmps36
  go_wp2
  go_loop [8, 9] (fun d i => ∃ j : Nat, j ≤ k ∧ i = .int .i64 j ∧ ∃ u : Nat, u ≤ 2199023255552 ∧ Hid (min u m = dl b m j) ∧ d = .int .i64 u) (fun _ i => k - (intOf i).toNat)
  case atStart => exact ⟨0, Nat.zero_le _, rfl, b, by omega, rfl, rfl⟩
  case round =>
    obtain ⟨j, hj, rfl, u, hu, HU, rfl⟩ := hrel
    have hst := @dl_stay b m j
    have HST := Lib.hid hst; clear hst
    by_cases hlt : j < k
    · by_cases hm1 : u < m
      · by_cases h0 : 0 < u
        · go_wp2
          go_round
          case rel => exact ⟨j + 1, by omega, by go_num, 2 * u, by omega, by
            show min (2 * u) m = dl b m (j + 1)
            rw [dl, ← HU.out]; omega, by go_num⟩
          case measure => simp [intOf]; omega
        · have hmn : ∀ W : World, (Builtin.min_ #[3, 3] 3 #[.int .i64 (u : Int), .int .i64 (m : Int)]).run Try.prog W = .ok (.int .i64 (dl b m j : Int)) W := by
            intro W; rw [run_min_int2]; congr 2; rw [← HU.out]; split <;> omega
          go_wp2
          go_ret2
          rw [HST.out (.inr (by rw [← HU.out]; omega)) hj]
          exact ⟨rfl, rfl⟩
      · have hmn : ∀ W : World, (Builtin.min_ #[3, 3] 3 #[.int .i64 (u : Int), .int .i64 (m : Int)]).run Try.prog W = .ok (.int .i64 (dl b m j : Int)) W := by
          intro W; rw [run_min_int2]; congr 2; rw [← HU.out]; split <;> omega
        go_wp2
        go_ret2
        rw [HST.out (.inl (by rw [← HU.out]; omega)) hj]
        exact ⟨rfl, rfl⟩
    · obtain rfl : j = k := by omega
      have hmn : ∀ W : World, (Builtin.min_ #[3, 3] 3 #[.int .i64 (u : Int), .int .i64 (m : Int)]).run Try.prog W = .ok (.int .i64 (dl b m j : Int)) W := by
        intro W; rw [run_min_int2]; congr 2; rw [← HU.out]; split <;> omega
      go_wp2
      go_ret2
      exact ⟨rfl, rfl⟩

theorem refDelay_any (x y z : Int) (w : World) (hz : z ≤ 9223372036854775807) :
    Calls Try.prog 36 #[.int .i64 x, .int .i64 y, .int .i64 z] w fun e w' => e = .returned (.tuple #[.int .i64 (dlI x y z), .int .i64 (dlE x y z)]) ∧ w = w' := by
  unfold dlI dlE
  by_cases h : okD x y z = true
  · rw [if_pos h, if_pos h]
    unfold okD at h
    simp only [decide_eq_true_eq] at h
    obtain ⟨b, rfl⟩ := Int.eq_ofNat_of_zero_le h.1
    obtain ⟨m, rfl⟩ := Int.eq_ofNat_of_zero_le h.2.2.1
    obtain ⟨k, rfl⟩ := Int.eq_ofNat_of_zero_le h.2.2.2.2
    exact refDelay_ok b m k w (by omega) (by omega) (by omega)
  · rw [if_neg h, if_neg h]
    exact refDelay_bad x y z w (okD_false h)

set_option maxHeartbeats 1000000 in
theorem due_any (t x y z j l : Int) (w : World) (ht : t ≤ 9223372036854775807) (hz : z ≤ 9223372036854775807) :
    Calls Try.prog 30 #[.int .i64 t, .int .i64 x, .int .i64 y, .int .i64 z, .int .i64 j, .int .i64 l] w fun e w' => e = .returned (.tuple #[.int .i64 (duI t x y z j l), .int .i64 (duE t x y z l)]) ∧ w = w' := by
  unfold duI duE
  by_cases h : okU t x y z l = true
  · rw [if_pos h, if_pos h]
    have h' := okU_nat h
    obtain ⟨hd, h1, h2, h3, h4⟩ := h'
    have he : dlE x y z = 0 := by unfold dlE; rw [if_pos hd]
    have hb := dlI_bounds x y z
    have hc := delay_any x y z w hz
    rw [he] at hc
    clear h hd he
    generalize dlI x y z = d at *
    obtain ⟨hb1, hb2⟩ := hb
    have HC := Lib.hid hc; clear hc
    have hq : 0 ≤ max 0 (min j l) ∧ max 0 (min j l) ≤ 1099511627776 := by omega
    have hmin : ∀ W : World, (Builtin.min_ #[3, 3] 3 #[.int .i64 j, .int .i64 l]).run Try.prog W = .ok (.int .i64 (min j l)) W := by
      intro W; rw [run_min_int2]; congr 2; split <;> omega
    generalize min j l = q at *
    have hmax : ∀ W : World, (Builtin.max_ #[3, 3] 3 #[.int .i64 0, .int .i64 q]).run Try.prog W = .ok (.int .i64 (max 0 q)) W := by
      intro W; rw [run_max_int2]; congr 2; split <;> omega
    generalize max 0 q = r at *
    obtain ⟨hq1, hq2⟩ := hq
    go_enter Try.func30, Try.ntmps30
    go_wp2_with fail
    refine HC.out.mono ?_
    rintro e w' ⟨rfl, rfl⟩
    go_wp2
    go_ret2
    exact ⟨rfl, rfl⟩
  · rw [if_neg h, if_neg h]
    rcases okU_false h with hd | ⟨hd, h'⟩
    · have hc := delay_any x y z w hz
      unfold dlI dlE at hc
      rw [if_neg hd, if_neg hd] at hc
      clear h hd
      have HC := Lib.hid hc; clear hc
      go_enter Try.func30, Try.ntmps30
      go_wp2_with fail
      refine HC.out.mono ?_
      rintro e w' ⟨rfl, rfl⟩
      go_wp2
      all_goals (go_ret2; exact ⟨rfl, rfl⟩)
    · have he : dlE x y z = 0 := by unfold dlE; rw [if_pos hd]
      have hc := delay_any x y z w hz
      rw [he] at hc
      clear h hd he
      generalize dlI x y z = d at *
      have HC := Lib.hid hc; clear hc
      have h5 : 1099511627776 < l → decide (l ≤ 1099511627776) = false := fun h => by simp; omega
      rcases h' with h' | h' | h' | h'
      rotate_left 3
      · have h6 := h5 h'
        clear h5
        go_enter Try.func30, Try.ntmps30
        go_wp2_with fail
        refine HC.out.mono ?_
        rintro e w' ⟨rfl, rfl⟩
        go_wp2
        all_goals (go_ret2; exact ⟨rfl, rfl⟩)
      all_goals
        clear h5
        go_enter Try.func30, Try.ntmps30
        go_wp2_with fail
        refine HC.out.mono ?_
        rintro e w' ⟨rfl, rfl⟩
        go_wp2
        all_goals (go_ret2; exact ⟨rfl, rfl⟩)

set_option maxHeartbeats 1000000 in
theorem refdue_any (t x y z j l : Int) (w : World) (ht : t ≤ 9223372036854775807) (hz : z ≤ 9223372036854775807) :
    Calls Try.prog 32 #[.int .i64 t, .int .i64 x, .int .i64 y, .int .i64 z, .int .i64 j, .int .i64 l] w fun e w' => e = .returned (.tuple #[.int .i64 (duI t x y z j l), .int .i64 (duE t x y z l)]) ∧ w = w' := by
  unfold duI duE
  by_cases h : okU t x y z l = true
  · rw [if_pos h, if_pos h]
    have h' := okU_nat h
    obtain ⟨hd, h1, h2, h3, h4⟩ := h'
    have he : dlE x y z = 0 := by unfold dlE; rw [if_pos hd]
    have hb := dlI_bounds x y z
    have hc := refDelay_any x y z w hz
    rw [he] at hc
    clear h hd he
    generalize dlI x y z = d at *
    obtain ⟨hb1, hb2⟩ := hb
    have HC := Lib.hid hc; clear hc
    have hq : 0 ≤ max 0 (min j l) ∧ max 0 (min j l) ≤ 1099511627776 := by omega
    have hmin : ∀ W : World, (Builtin.min_ #[3, 3] 3 #[.int .i64 j, .int .i64 l]).run Try.prog W = .ok (.int .i64 (min j l)) W := by
      intro W; rw [run_min_int2]; congr 2; split <;> omega
    generalize min j l = q at *
    have hmax : ∀ W : World, (Builtin.max_ #[3, 3] 3 #[.int .i64 0, .int .i64 q]).run Try.prog W = .ok (.int .i64 (max 0 q)) W := by
      intro W; rw [run_max_int2]; congr 2; split <;> omega
    generalize max 0 q = r at *
    obtain ⟨hq1, hq2⟩ := hq
    go_enter Try.func32, Try.ntmps32
    go_wp2_with fail
    refine HC.out.mono ?_
    rintro e w' ⟨rfl, rfl⟩
    go_wp2
    go_ret2
    exact ⟨rfl, rfl⟩
  · rw [if_neg h, if_neg h]
    rcases okU_false h with hd | ⟨hd, h'⟩
    · have hc := refDelay_any x y z w hz
      unfold dlI dlE at hc
      rw [if_neg hd, if_neg hd] at hc
      clear h hd
      have HC := Lib.hid hc; clear hc
      go_enter Try.func32, Try.ntmps32
      go_wp2_with fail
      refine HC.out.mono ?_
      rintro e w' ⟨rfl, rfl⟩
      go_wp2
      all_goals (go_ret2; exact ⟨rfl, rfl⟩)
    · have he : dlE x y z = 0 := by unfold dlE; rw [if_pos hd]
      have hc := refDelay_any x y z w hz
      rw [he] at hc
      clear h hd he
      generalize dlI x y z = d at *
      have HC := Lib.hid hc; clear hc
      have h5 : 1099511627776 < l → decide (l ≤ 1099511627776) = false := fun h => by simp; omega
      rcases h' with h' | h' | h' | h'
      rotate_left 3
      · have h6 := h5 h'
        clear h5
        go_enter Try.func32, Try.ntmps32
        go_wp2_with fail
        refine HC.out.mono ?_
        rintro e w' ⟨rfl, rfl⟩
        go_wp2
        all_goals (go_ret2; exact ⟨rfl, rfl⟩)
      all_goals
        clear h5
        go_enter Try.func32, Try.ntmps32
        go_wp2_with fail
        refine HC.out.mono ?_
        rintro e w' ⟨rfl, rfl⟩
        go_wp2
        all_goals (go_ret2; exact ⟨rfl, rfl⟩)

end Go.Proofs.Ytjkocghbnljifaa
