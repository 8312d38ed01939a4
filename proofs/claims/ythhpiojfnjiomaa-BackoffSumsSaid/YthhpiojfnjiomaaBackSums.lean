/- THE WALK of heronlaw19.BackoffSums. -/
import Derived.Test.YthhpiojfnjiomaaBackKnown
namespace Go.Proofs.Ythhpiojfnjiomaa
open Go.RowKit
def in20 (x : Int) : Nat := ((x % 18446744073709551616) % 1048576).toNat
theorem in20_le (x : Int) : in20 x ≤ 1048575 := by unfold in20; omega
theorem in20_eq (x : Int) : wrap64 ((IntKind.u64.wrap x).tmod 1048576) = (in20 x : Int) := by
  have h1 : IntKind.u64.wrap x = x % 18446744073709551616 := by simp [IntKind.wrap, IntKind.bits, IntKind.signed]
  rw [h1, Int.tmod_eq_emod_of_nonneg (by omega)]
  unfold wrap64 in20
  omega
set_option maxRecDepth 100000 in
set_option maxHeartbeats 4000000 in
theorem sums_any (x y z : Int) (w : World) :
    Calls Try.prog 5 #[.int .i64 x, .int .i64 y, .int .i64 z] w fun e w' => e = .returned (.bool true) ∧ Below w.heap.size w w' := by
  have hb := inN_le x
  have hm := inN_le y
  have hn := in20_le z
  have cx := fun w => in_any x w
  have cy := fun w => in_any y w
  have ez := in20_eq z
  generalize inN x = b at *
  generalize inN y = m at *
  generalize in20 z = n at *
  have c1 := fun w => sum_any (b : Int) (m : Int) (n : Int) w (by omega)
  rw [smI_nat b m n hb hm (by omega), smE_nat b m n hb hm (by omega)] at c1
  have c2 := fun w => sum_any (b : Int) (m : Int) ((n : Int) + 1) w (by omega)
  rw [show smI (b : Int) (m : Int) ((n : Int) + 1) = (sm b m (n + 1) : Int) from smI_nat b m (n + 1) hb hm (by omega), show smE (b : Int) (m : Int) ((n : Int) + 1) = 0 from smE_nat b m (n + 1) hb hm (by omega)] at c2
  have c3 := fun w => delay_ok b m n w hb hm (by omega)
  have c4 := fun w => sum_any (b : Int) (m : Int) 0 w (by omega)
  rw [show smI (b : Int) (m : Int) 0 = 0 from smI_nat b m 0 hb hm (by omega), show smE (b : Int) (m : Int) 0 = 0 from smE_nat b m 0 hb hm (by omega)] at c4
  have c5 := fun w => sum_any (b : Int) (m : Int) 1048577 w (by omega)
  have hbad : ¬ okS (b : Int) (m : Int) 1048577 = true := by unfold okS; simp
  have e5 : smI (b : Int) (m : Int) 1048577 = 0 := by unfold smI; rw [if_neg hbad]
  have e6 : smE (b : Int) (m : Int) 1048577 = 1 := by unfold smE; rw [if_neg hbad]
  rw [e5, e6] at c5
  clear hbad e5 e6
  have hs1 := sm_le b m n
  have hsn : sm b m (n + 1) = sm b m n + dl b m n := rfl
  have hdl := dl_le b m n
  have hbig : n * m ≤ 1152921504606846976 := by
    have h2 : n * m ≤ 1048576 * 1099511627776 := Nat.mul_le_mul (by omega) hm
    omega
  have hmul : (n : Int) * (m : Int) = ((n * m : Nat) : Int) := by simp
  have hfar := fun k hk => sm_far b m k n hk
  have HF := Lib.hid hfar; clear hfar
  obtain ⟨s, hs⟩ : ∃ s, s = sm b m n := ⟨_, rfl⟩
  obtain ⟨d, hd⟩ : ∃ d, d = dl b m n := ⟨_, rfl⟩
  obtain ⟨q, hq⟩ : ∃ q, q = n * m := ⟨_, rfl⟩
  rw [← hs, ← hd] at hsn
  rw [hsn] at c2
  rw [← hs] at c1 hs1
  rw [← hd] at c3 hdl
  rw [← hq] at hs1 hbig hmul
  have e2 : ((s + d : Nat) : Int) = (s : Int) + d := by omega
  rw [e2] at c2
  clear e2
  have HSN := Lib.hid hsn; clear hsn
  have hd1 : decide ((s : Int) < 0) = false := by simp
  have hd2 : decide (q < s) = false := by simp; omega
  have HS := Lib.hid hs; clear hs
  have HD := Lib.hid hd; clear hd
  have HQ := Lib.hid hq; clear hq
  have CX := Lib.hid cx; clear cx
  have CY := Lib.hid cy; clear cy
  have C1 := Lib.hid c1; clear c1
  have C2 := Lib.hid c2; clear c2
  have C3 := Lib.hid c3; clear c3
  have C4 := Lib.hid c4; clear c4
  have C5 := Lib.hid c5; clear c5
  go_enter Try.func5, Try.ntmps5
  (go_wp2_with fail; refine (known_any _).mono ?_; rintro e w' ⟨rfl, rfl⟩)
  (go_wp2_with fail; refine (CX.out _).mono ?_; rintro e w' ⟨rfl, rfl⟩)
  (go_wp2_with fail; refine (CY.out _).mono ?_; rintro e w' ⟨rfl, rfl⟩)
  (go_wp2_with fail; refine (C1.out _).mono ?_; rintro e w' ⟨rfl, rfl⟩)
  (go_wp2_with fail; refine (C2.out _).mono ?_; rintro e w' ⟨rfl, rfl⟩)
  (go_wp2_with fail; refine (C3.out _).mono ?_; rintro e w' ⟨rfl, rfl⟩)
  (go_wp2_with fail; refine (C4.out _).mono ?_; rintro e w' ⟨rfl, rfl⟩)
  (go_wp2_with fail; refine (C5.out _).mono ?_; rintro e w' ⟨rfl, rfl⟩)
  (go_wp2_with fail; refine (num_any _ _).mono ?_; rintro e w' ⟨rfl, rfl⟩)
  (go_wp2_with fail; refine (num_any _ _).mono ?_; rintro e w' ⟨rfl, rfl⟩)
  (go_wp2_with fail; refine (num_any _ _).mono ?_; rintro e w' ⟨rfl, rfl⟩)
  (go_wp2_with fail; refine (num_any _ _).mono ?_; rintro e w' ⟨rfl, rfl⟩)
  (go_wp2_with fail; refine (num_any _ _).mono ?_; rintro e w' ⟨rfl, rfl⟩)
  go_wp2_with fail
  clear ez hmul
  go_loop [17, 18] (fun a i => ∃ j : Nat, j ≤ n ∧ j ≤ 60 ∧ i = .int .i64 j ∧ ∃ u : Nat, u ≤ 1152921504606846976 ∧ Hid (u = sm b m j) ∧ a = .int .i64 u) (fun _ i => 60 - (intOf i).toNat)
  case atStart => exact ⟨0, Nat.zero_le _, Nat.zero_le _, rfl, 0, by omega, rfl, rfl⟩
  case round =>
    obtain ⟨j, hj, hj60, rfl, u, hu, HU, rfl⟩ := hrel
    by_cases hlt : j < n ∧ j < 60
    · obtain ⟨hl1, hl2⟩ := hlt
      have hc := fun w => delay_ok b m j w hb hm (by omega)
      have hdl' := dl_le b m j
      have hs' : sm b m (j + 1) ≤ 1152921504606846976 := by
        have h1 := sm_le b m (j + 1)
        have h2 : (j + 1) * m ≤ 1048576 * 1099511627776 := Nat.mul_le_mul (by omega) hm
        omega
      have hsu : u + dl b m j = sm b m (j + 1) := by rw [sm, HU.out]
      generalize dl b m j = v at *
      have hs2 : u + v ≤ 1152921504606846976 := by omega
      have HSU := Lib.hid hsu; clear hsu
      have HC := Lib.hid hc; clear hc
      (go_wp2_with fail; refine (HC.out _).mono ?_; rintro e w' ⟨rfl, rfl⟩)
      (go_wp2_with fail; refine (num_any _ _).mono ?_; rintro e w' ⟨rfl, rfl⟩)
      go_wp2_with fail
      go_round
      case rel => exact ⟨j + 1, by omega, by omega, by go_num, u + v, hs2, HSU.out, by go_num⟩
      case measure => simp [intOf]; omega
    · have hus : u ≤ s := by rw [HU.out, HS.out]; exact HF.out j (by omega)
      by_cases h60 : 60 ≤ n
      · obtain rfl : j = 60 := by omega
        have hd3 : decide (u ≤ s) = true := by simp; omega
        go_wp2_with fail
        all_goals (go_ret; exact ⟨rfl, Below.refl _ _⟩)
      · obtain rfl : j = n := by omega
        have hus' : ((s : Int) == (u : Int)) = true := by rw [beq_iff_eq]; have := HU.out; have := HS.out; omega
        go_wp2_with fail
        all_goals (go_ret; exact ⟨rfl, Below.refl _ _⟩)
end Go.Proofs.Ythhpiojfnjiomaa
