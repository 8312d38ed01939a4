/- THE WALK of heronlaw19.BackoffGrows. -/
import Derived.Test.YthhpiojfnjiomaaBackKnown
namespace Go.Proofs.Ythhpiojfnjiomaa
open Go.RowKit
set_option maxRecDepth 100000 in
set_option maxHeartbeats 4000000 in
theorem grows_any (x y k : Int) (w : World) (hk : k ≤ 9223372036854775807) :
    Calls Try.prog 4 #[.int .i64 x, .int .i64 y, .int .i64 k] w fun e w' => e = .returned (.bool true) ∧ Below w.heap.size w w' := by
  have hb := inN_le x
  have hm := inN_le y
  have cx := fun w => in_any x w
  have cy := fun w => in_any y w
  generalize inN x = b at *
  generalize inN y = m at *
  have c1 := fun w => delay_bad (b : Int) (m : Int) (-1) w (by omega)
  have c2 := fun w => delay_bad 1099511627777 (m : Int) 0 w (by omega)
  have c3 := fun w => delay_bad (b : Int) (-1) 0 w (by omega)
  have c4 := fun w => delay_any (b : Int) (m : Int) 0 w (by omega)
  rw [show dlI (b : Int) (m : Int) 0 = (dl b m 0 : Int) from dlI_nat b m 0 hb hm, show dlE (b : Int) (m : Int) 0 = 0 from dlE_nat b m 0 hb hm] at c4
  have CX := Lib.hid cx; clear cx
  have CY := Lib.hid cy; clear cy
  have C1 := Lib.hid c1; clear c1
  have C2 := Lib.hid c2; clear c2
  have C3 := Lib.hid c3; clear c3
  have C4 := Lib.hid c4; clear c4
  have hmin : ∀ W : World, (Builtin.min_ #[3, 3] 3 #[.int .i64 (b : Int), .int .i64 (m : Int)]).run Try.prog W = .ok (.int .i64 (dl b m 0 : Int)) W := by
    intro W; rw [run_min_int2]; congr 2; unfold dl; split <;> omega
  have h0 := dl_le b m 0
  obtain ⟨u0, hu0⟩ : ∃ u, u = dl b m 0 := ⟨_, rfl⟩
  rw [← hu0] at hmin h0
  have C4' := C4.out
  rw [← hu0] at C4'
  have C5 := Lib.hid C4'; clear C4'
  have U0 := Lib.hid hu0; clear hu0
  go_enter Try.func4, Try.ntmps4
  go_wp2_with fail
  refine (known_any _).mono ?_
  rintro e w' ⟨rfl, rfl⟩
  go_wp2_with fail
  refine (CX.out _).mono ?_
  rintro e w' ⟨rfl, rfl⟩
  go_wp2_with fail
  refine (CY.out _).mono ?_
  rintro e w' ⟨rfl, rfl⟩
  go_wp2_with fail
  refine (C1.out _).mono ?_
  rintro e w' ⟨rfl, rfl⟩
  go_wp2_with fail
  refine (CY.out _).mono ?_
  rintro e w' ⟨rfl, rfl⟩
  go_wp2_with fail
  refine (C2.out _).mono ?_
  rintro e w' ⟨rfl, rfl⟩
  go_wp2_with fail
  refine (CX.out _).mono ?_
  rintro e w' ⟨rfl, rfl⟩
  go_wp2_with fail
  refine (C3.out _).mono ?_
  rintro e w' ⟨rfl, rfl⟩
  (go_wp2_with fail; refine (num_any _ _).mono ?_; rintro e w' ⟨rfl, rfl⟩)
  (go_wp2_with fail; refine (num_any _ _).mono ?_; rintro e w' ⟨rfl, rfl⟩)
  (go_wp2_with fail; refine (num_any _ _).mono ?_; rintro e w' ⟨rfl, rfl⟩)
  go_wp2_with fail
  refine (CX.out _).mono ?_
  rintro e w' ⟨rfl, rfl⟩
  go_wp2_with fail
  refine (CY.out _).mono ?_
  rintro e w' ⟨rfl, rfl⟩
  go_wp2_with fail
  refine (C5.out _).mono ?_
  rintro e w' ⟨rfl, rfl⟩
  (go_wp2_with fail; refine (num_any _ _).mono ?_; rintro e w' ⟨rfl, rfl⟩)
  go_wp2_with fail
  clear hmin
  go_loop [13, 15] (fun l i => ∃ j : Nat, j ≤ 45 ∧ i = .int .i64 ((j : Int) + 1) ∧ ∃ u : Nat, u ≤ m ∧ Hid (u = dl b m j) ∧ l = .int .i64 u) (fun _ i => 46 - (intOf i).toNat)
  case atStart => exact ⟨0, by omega, by go_num, u0, h0, U0, rfl⟩
  case round =>
    obtain ⟨j, hj, rfl, u, hu, HU, rfl⟩ := hrel
    by_cases hlt : j < 45
    · have hc := fun w => delay_any (b : Int) (m : Int) ((j : Int) + 1) w (by omega)
      rw [show dlI (b : Int) (m : Int) ((j : Int) + 1) = (dl b m (j + 1) : Int) from dlI_nat b m (j + 1) hb hm, show dlE (b : Int) (m : Int) ((j : Int) + 1) = 0 from dlE_nat b m (j + 1) hb hm] at hc
      have hst := dl_step b m j
      have hle := dl_le b m (j + 1)
      rw [← HU.out] at hst
      have heq : dl b m (j + 1) = min (2 * u) m := by rw [dl, HU.out]
      obtain ⟨v, hv⟩ : ∃ v, v = dl b m (j + 1) := ⟨_, rfl⟩
      rw [← hv] at hc hst hle heq
      obtain ⟨hst1, hst2⟩ := hst
      have hmin : ∀ W : World, (Builtin.min_ #[3, 3] 3 #[.int .i64 (2 * (u : Int)), .int .i64 (m : Int)]).run Try.prog W = .ok (.int .i64 (v : Int)) W := by
        intro W; rw [run_min_int2]; congr 2; split <;> omega
      have HE := Lib.hid heq; clear heq
      have HV := Lib.hid hv; clear hv
      have HC := Lib.hid hc; clear hc
      go_wp2_with fail
      refine (HC.out _).mono ?_
      rintro e w' ⟨rfl, rfl⟩
      (go_wp2_with fail; refine (num_any _ _).mono ?_; rintro e w' ⟨rfl, rfl⟩)
      go_wp2_with fail
      go_round
      case rel => exact ⟨j + 1, by omega, by go_num, v, hle, HV, rfl⟩
      case measure => simp [intOf]; omega
    · obtain rfl : j = 45 := by omega
      have hfar : 1 ≤ b → u = m := fun h => by rw [HU.out]; exact dl_far b m 45 h hm (by omega)
      have hzero : b = 0 → u = 0 := fun h => by rw [HU.out, h]; exact dl_zero m 45
      have hst : ∀ n, 45 ≤ n → dl b m n = u := fun n hn => by
        rw [HU.out]
        refine dl_stay ?_ hn
        by_cases h : 1 ≤ b
        · left; rw [← HU.out]; exact hfar h
        · right; rw [← HU.out]; exact hzero (by omega)
      have HST := Lib.hid hst; clear hst
      have hcases : (0 < b ∧ u = m) ∨ (b = 0 ∧ u = 0) := by
        by_cases h : 1 ≤ b
        · exact .inl ⟨h, hfar h⟩
        · exact .inr ⟨by omega, hzero (by omega)⟩
      clear hfar hzero
      rcases hcases with ⟨hb0, hum⟩ | ⟨hb0, hum⟩
      · have t1 : ((u : Int) != (m : Int)) = false := by rw [bne_eq_false_iff_eq]; omega
        have t2 : ((b : Int) == 0) = false := by rw [beq_eq_false_iff_ne]; omega
        have HM := Lib.hid hum; clear hum
        by_cases hk45 : k < 45
        · go_wp2_with fail
          go_ret
          exact ⟨rfl, Below.refl _ _⟩
        · have hc := fun w => delay_any (b : Int) (m : Int) k w hk
          obtain ⟨kn, rfl⟩ := Int.eq_ofNat_of_zero_le (show 0 ≤ k by omega)
          rw [show dlI (b : Int) (m : Int) (kn : Int) = (dl b m kn : Int) from dlI_nat b m kn hb hm, show dlE (b : Int) (m : Int) (kn : Int) = 0 from dlE_nat b m kn hb hm, HST.out kn (by omega)] at hc
          have HC := Lib.hid hc; clear hc
          go_wp2_with fail
          refine (HC.out _).mono ?_
          rintro e w' ⟨rfl, rfl⟩
          (go_wp2_with fail; refine (num_any _ _).mono ?_; rintro e w' ⟨rfl, rfl⟩)
          go_wp2_with fail
          go_ret
          exact ⟨rfl, Below.refl _ _⟩
      · have t1 : ((u : Int) != 0) = false := by rw [bne_eq_false_iff_eq]; omega
        have t2 : ((b : Int) == 0) = true := by rw [beq_iff_eq]; omega
        have t3 : ¬ ((0 : Int) < (b : Int)) := by omega
        have HB := Lib.hid hb0; clear hb0
        have HM := Lib.hid hum; clear hum
        by_cases hk45 : k < 45
        · go_wp2_with fail
          go_ret
          exact ⟨rfl, Below.refl _ _⟩
        · have hc := fun w => delay_any (b : Int) (m : Int) k w hk
          obtain ⟨kn, rfl⟩ := Int.eq_ofNat_of_zero_le (show 0 ≤ k by omega)
          rw [show dlI (b : Int) (m : Int) (kn : Int) = (dl b m kn : Int) from dlI_nat b m kn hb hm, show dlE (b : Int) (m : Int) (kn : Int) = 0 from dlE_nat b m kn hb hm, HST.out kn (by omega)] at hc
          have HC := Lib.hid hc; clear hc
          go_wp2_with fail
          refine (HC.out _).mono ?_
          rintro e w' ⟨rfl, rfl⟩
          (go_wp2_with fail; refine (num_any _ _).mono ?_; rintro e w' ⟨rfl, rfl⟩)
          go_wp2_with fail
          go_ret
          exact ⟨rfl, Below.refl _ _⟩
end Go.Proofs.Ythhpiojfnjiomaa
