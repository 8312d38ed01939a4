/- THE WALK of heronlaw19.BackoffDue. -/
import Derived.Test.YthhpiojfnjiomaaBackKnown
import Derived.Deep.QuietTactic
import Derived.BigQuiet
namespace Go.Proofs.Ythhpiojfnjiomaa
open Go.RowKit
def in61 (x : Int) : Nat := ((x % 18446744073709551616) % 2305843009213693953).toNat
theorem in61_le (x : Int) : in61 x ≤ 2305843009213693952 := by unfold in61; omega
theorem in61_eq (x : Int) : wrap64 ((IntKind.u64.wrap x).tmod 2305843009213693953) = (in61 x : Int) := by
  have h1 : IntKind.u64.wrap x = x % 18446744073709551616 := by simp [IntKind.wrap, IntKind.bits, IntKind.signed]
  rw [h1, Int.tmod_eq_emod_of_nonneg (by omega)]
  unfold wrap64 in61
  omega
def in100 (x : Int) : Nat := ((x % 18446744073709551616) % 100).toNat
theorem in100_le (x : Int) : in100 x ≤ 99 := by unfold in100; omega
theorem in100_eq (x : Int) : wrap64 ((IntKind.u64.wrap x).tmod 100) = (in100 x : Int) := by
  have h1 : IntKind.u64.wrap x = x % 18446744073709551616 := by simp [IntKind.wrap, IntKind.bits, IntKind.signed]
  rw [h1, Int.tmod_eq_emod_of_nonneg (by omega)]
  unfold wrap64 in100
  omega
set_option maxRecDepth 100000 in
set_option maxHeartbeats 4000000 in
theorem dues_any (x y0 y1 y2 j0 j1 : Int) (w : World) :
    Calls Try.prog 6 #[.int .i64 x, .agg #[.int .i64 y0, .int .i64 y1, .int .i64 y2], .agg #[.int .i64 j0, .int .i64 j1]] w fun e w' => e = .returned (.bool true) ∧ Below w.heap.size w w' := by
  have ex := in61_eq x
  have ey := in100_eq y2
  have hnow := in61_le x
  have hk := in100_le y2
  have hb := inN_le y0
  have hm := inN_le y1
  have hl := inN_le j1
  have c0 := fun w => in_any y0 w
  have c1 := fun w => in_any y1 w
  have c2 := fun w => in_any j1 w
  generalize in61 x = now at *
  generalize in100 y2 = k at *
  generalize inN y0 = b at *
  generalize inN y1 = m at *
  generalize inN j1 = l at *
  have C0 := Lib.hid c0; clear c0
  have C1 := Lib.hid c1; clear c1
  have C2 := Lib.hid c2; clear c2
  have cd := fun w => delay_ok b m k w hb hm (by omega)
  have hD := dl_le b m k
  have okd : okD (b : Int) (m : Int) (k : Int) = true := by unfold okD; simp; omega
  have eD : dlI (b : Int) (m : Int) (k : Int) = (dl b m k : Int) := dlI_nat b m k hb hm
  have cu := fun w => due_any (now : Int) (b : Int) (m : Int) (k : Int) j0 (l : Int) w (by omega) (by omega)
  have ok1 : okU (now : Int) (b : Int) (m : Int) (k : Int) (l : Int) = true := by unfold okU; rw [okd]; simp; omega
  have e1 : duI (now : Int) (b : Int) (m : Int) (k : Int) j0 (l : Int) = (now : Int) + (dl b m k : Int) + max 0 (min j0 (l : Int)) := by unfold duI; rw [if_pos ok1, eD]
  have e2 : duE (now : Int) (b : Int) (m : Int) (k : Int) (l : Int) = 0 := by unfold duE; rw [if_pos ok1]
  rw [e1, e2] at cu
  have no1 : ¬ okU 2305843009213693953 (b : Int) (m : Int) (k : Int) (l : Int) = true := by unfold okU; simp
  have no2 : ¬ okU (-1) (b : Int) (m : Int) (k : Int) (l : Int) = true := by unfold okU; simp
  have no3 : ¬ okU (now : Int) (b : Int) (m : Int) (k : Int) 1099511627777 = true := by unfold okU; simp
  have n1 := fun w => due_any 2305843009213693953 (b : Int) (m : Int) (k : Int) j0 (l : Int) w (by omega) (by omega)
  have n2 := fun w => due_any (-1) (b : Int) (m : Int) (k : Int) j0 (l : Int) w (by omega) (by omega)
  have n3 := fun w => due_any (now : Int) (b : Int) (m : Int) (k : Int) j0 1099511627777 w (by omega) (by omega)
  unfold duI duE at n1 n2 n3
  rw [if_neg no1, if_neg no1] at n1
  rw [if_neg no2, if_neg no2] at n2
  rw [if_neg no3, if_neg no3] at n3
  clear no1 no2 no3 ok1 e1 e2 eD okd
  generalize dl b m k = D at *
  have hq : (j0 < 0 ∧ max 0 (min j0 (l : Int)) = 0) ∨ (0 ≤ j0 ∧ j0 ≤ l ∧ max 0 (min j0 (l : Int)) = j0) ∨ ((l : Int) < j0 ∧ max 0 (min j0 (l : Int)) = l) := by omega
  have N1 := Lib.hid n1; clear n1
  have N2 := Lib.hid n2; clear n2
  have N3 := Lib.hid n3; clear n3
  have CD := Lib.hid cd; clear cd
  rcases hq with ⟨hj, hq⟩ | ⟨hj, hj', hq⟩ | ⟨hj, hq⟩
  · rw [hq] at cu
    rw [Int.add_zero] at cu
    clear hq
    have CU := Lib.hid cu; clear cu
    go_enter Try.func6, Try.ntmps6
    (go_wp2_with fail; refine (known_any _).mono ?_; rintro e w' ⟨rfl, rfl⟩)
    go_wp2_with fail
    go_quiet ((first | (with_reducible exact quiet (C0.out _)) | (with_reducible exact quiet (C1.out _)) | (with_reducible exact quiet (C2.out _))))
    rw [ex, ey]
    (go_wp2_with fail; refine (CU.out _).mono ?_; rintro e w' ⟨rfl, rfl⟩)
    (go_wp2_with fail; refine (CD.out _).mono ?_; rintro e w' ⟨rfl, rfl⟩)
    (go_wp2_with fail; refine (num_any _ _).mono ?_; rintro e w' ⟨rfl, rfl⟩)
    (go_wp2_with fail; refine (num_any _ _).mono ?_; rintro e w' ⟨rfl, rfl⟩)
    (go_wp2_with fail; refine (N1.out _).mono ?_; rintro e w' ⟨rfl, rfl⟩)
    (go_wp2_with fail; refine (N2.out _).mono ?_; rintro e w' ⟨rfl, rfl⟩)
    (go_wp2_with fail; refine (N3.out _).mono ?_; rintro e w' ⟨rfl, rfl⟩)
    (go_wp2_with fail; refine (num_any _ _).mono ?_; rintro e w' ⟨rfl, rfl⟩)
    (go_wp2_with fail; refine (num_any _ _).mono ?_; rintro e w' ⟨rfl, rfl⟩)
    (go_wp2_with fail; refine (num_any _ _).mono ?_; rintro e w' ⟨rfl, rfl⟩)
    go_wp2_with fail
    go_ret
    exact ⟨rfl, below_drewN (by repeat (first | exact Below.refl _ _ | assumption | refine Below.alloc ?_ (by first | omega | (simp; done) | (simp; omega)) _ | refine Below.drew ?_)) _⟩
  · rw [hq] at cu
    clear hq
    have CU := Lib.hid cu; clear cu
    go_enter Try.func6, Try.ntmps6
    (go_wp2_with fail; refine (known_any _).mono ?_; rintro e w' ⟨rfl, rfl⟩)
    go_wp2_with fail
    go_quiet ((first | (with_reducible exact quiet (C0.out _)) | (with_reducible exact quiet (C1.out _)) | (with_reducible exact quiet (C2.out _))))
    rw [ex, ey]
    (go_wp2_with fail; refine (CU.out _).mono ?_; rintro e w' ⟨rfl, rfl⟩)
    (go_wp2_with fail; refine (CD.out _).mono ?_; rintro e w' ⟨rfl, rfl⟩)
    (go_wp2_with fail; refine (num_any _ _).mono ?_; rintro e w' ⟨rfl, rfl⟩)
    (go_wp2_with fail; refine (num_any _ _).mono ?_; rintro e w' ⟨rfl, rfl⟩)
    (go_wp2_with fail; refine (N1.out _).mono ?_; rintro e w' ⟨rfl, rfl⟩)
    (go_wp2_with fail; refine (N2.out _).mono ?_; rintro e w' ⟨rfl, rfl⟩)
    (go_wp2_with fail; refine (N3.out _).mono ?_; rintro e w' ⟨rfl, rfl⟩)
    (go_wp2_with fail; refine (num_any _ _).mono ?_; rintro e w' ⟨rfl, rfl⟩)
    (go_wp2_with fail; refine (num_any _ _).mono ?_; rintro e w' ⟨rfl, rfl⟩)
    (go_wp2_with fail; refine (num_any _ _).mono ?_; rintro e w' ⟨rfl, rfl⟩)
    go_wp2_with fail
    go_ret
    exact ⟨rfl, below_drewN (by repeat (first | exact Below.refl _ _ | assumption | refine Below.alloc ?_ (by first | omega | (simp; done) | (simp; omega)) _ | refine Below.drew ?_)) _⟩
  · rw [hq] at cu
    clear hq
    have CU := Lib.hid cu; clear cu
    go_enter Try.func6, Try.ntmps6
    (go_wp2_with fail; refine (known_any _).mono ?_; rintro e w' ⟨rfl, rfl⟩)
    go_wp2_with fail
    go_quiet ((first | (with_reducible exact quiet (C0.out _)) | (with_reducible exact quiet (C1.out _)) | (with_reducible exact quiet (C2.out _))))
    rw [ex, ey]
    (go_wp2_with fail; refine (CU.out _).mono ?_; rintro e w' ⟨rfl, rfl⟩)
    (go_wp2_with fail; refine (CD.out _).mono ?_; rintro e w' ⟨rfl, rfl⟩)
    (go_wp2_with fail; refine (num_any _ _).mono ?_; rintro e w' ⟨rfl, rfl⟩)
    (go_wp2_with fail; refine (num_any _ _).mono ?_; rintro e w' ⟨rfl, rfl⟩)
    (go_wp2_with fail; refine (N1.out _).mono ?_; rintro e w' ⟨rfl, rfl⟩)
    (go_wp2_with fail; refine (N2.out _).mono ?_; rintro e w' ⟨rfl, rfl⟩)
    (go_wp2_with fail; refine (N3.out _).mono ?_; rintro e w' ⟨rfl, rfl⟩)
    (go_wp2_with fail; refine (num_any _ _).mono ?_; rintro e w' ⟨rfl, rfl⟩)
    (go_wp2_with fail; refine (num_any _ _).mono ?_; rintro e w' ⟨rfl, rfl⟩)
    (go_wp2_with fail; refine (num_any _ _).mono ?_; rintro e w' ⟨rfl, rfl⟩)
    go_wp2_with fail
    go_ret
    exact ⟨rfl, below_drewN (by repeat (first | exact Below.refl _ _ | assumption | refine Below.alloc ?_ (by first | omega | (simp; done) | (simp; omega)) _ | refine Below.drew ?_)) _⟩
end Go.Proofs.Ythhpiojfnjiomaa
