/- THE WALKS of heronlaw19's helpers: in, known. -/
import Derived.Test.YthhpiojfnjiomaaBackWalk
namespace Go.Proofs.Ythhpiojfnjiomaa
open Go.RowKit
def inN (x : Int) : Nat := ((x % 18446744073709551616) % 1099511627777).toNat
theorem inN_le (x : Int) : inN x ≤ 1099511627776 := by unfold inN; omega
theorem in_eq (x : Int) : wrap64 ((IntKind.u64.wrap x).tmod 1099511627777) = (inN x : Int) := by
  have h1 : IntKind.u64.wrap x = x % 18446744073709551616 := by simp [IntKind.wrap, IntKind.bits, IntKind.signed]
  rw [h1, Int.tmod_eq_emod_of_nonneg (by omega)]
  unfold wrap64 inN
  omega
theorem in_any (x : Int) (w : World) :
    Calls Try.prog 14 #[.int .i64 x] w fun e w' => e = .returned (.int .i64 (inN x : Int)) ∧ w = w' := by
  go_enter Try.func14, Try.ntmps14
  go_wp2
  go_ret
  rw [in_eq]
  exact ⟨rfl, rfl⟩
theorem num_any (x : Int) (w : World) :
    Calls Try.prog 15 #[.int .i64 x] w fun e w' => e = .returned (.int .i64 x) ∧ w = w' := by
  go_enter Try.func15, Try.ntmps15
  go_wp2
  go_ret
  exact ⟨rfl, rfl⟩
theorem known_any (w : World) : Calls Try.prog 7 #[] w fun e w' => e = .returned (.bool true) ∧ w = w' := by
  have e1 : dlI 3 100 5 = 96 := by decide
  have e2 : dlE 3 100 5 = 0 := by decide
  have e3 : duI 10 3 100 1 40 9 = 25 := by decide
  have e4 : duE 10 3 100 1 9 = 0 := by decide
  have e5 : smI 3 100 7 = 289 := by decide
  have e6 : smE 3 100 7 = 0 := by decide
  have c1 := fun w => delay_any 3 100 5 w (by omega)
  have c2 := fun w => due_any 10 3 100 1 40 9 w (by omega) (by omega)
  have c3 := fun w => sum_any 3 100 7 w (by omega)
  rw [e1, e2] at c1
  rw [e3, e4] at c2
  rw [e5, e6] at c3
  clear e1 e2 e3 e4 e5 e6
  have C1 := Lib.hid c1; clear c1
  have C2 := Lib.hid c2; clear c2
  have C3 := Lib.hid c3; clear c3
  go_enter Try.func7, Try.ntmps7
  go_wp2_with fail
  refine (C1.out _).mono ?_
  rintro e w' ⟨rfl, rfl⟩
  go_wp2_with fail
  refine (C2.out _).mono ?_
  rintro e w' ⟨rfl, rfl⟩
  go_wp2_with fail
  refine (C3.out _).mono ?_
  rintro e w' ⟨rfl, rfl⟩
  go_wp2
  go_ret
  exact ⟨rfl, rfl⟩
end Go.Proofs.Ythhpiojfnjiomaa
