/- THE WALK of heronlaw19.BackoffExact. -/
import Derived.Test.YthhpiojfnjiomaaBackKnown
namespace Go.Proofs.Ythhpiojfnjiomaa
open Go.RowKit
/-- the slice (A, n) reads as n times seven ints -/
def AS (w : World) (A : Option Addr) (n : Nat) : Prop :=
  0 < n → ∃ b off, A = some ⟨b, off, none⟩ ∧ b < w.heap.size ∧ ∀ i, i < n → ∃ x0 x1 x2 x3 x4 x5 x6 : Int, (x2 ≤ 9223372036854775807 ∧ x3 ≤ 9223372036854775807 ∧ x6 ≤ 9223372036854775807) ∧
    w.cell? ⟨b, off + i * 7, none⟩ = some (.int .i64 x0) ∧ w.cell? ⟨b, off + i * 7 + 1, none⟩ = some (.int .i64 x1) ∧ w.cell? ⟨b, off + i * 7 + 2, none⟩ = some (.int .i64 x2) ∧ w.cell? ⟨b, off + i * 7 + 3, none⟩ = some (.int .i64 x3) ∧
    w.cell? ⟨b, off + i * 7 + 4, none⟩ = some (.int .i64 x4) ∧ w.cell? ⟨b, off + i * 7 + 5, none⟩ = some (.int .i64 x5) ∧ w.cell? ⟨b, off + i * 7 + 6, none⟩ = some (.int .i64 x6)
set_option maxRecDepth 100000 in
set_option maxHeartbeats 4000000 in
theorem exact_any (A : Option Addr) (n cap : Nat) (w : World) (hr : AS w A n) (hcap : n ≤ cap) :
    Calls Try.prog 3 #[.slice A n cap] w fun e w' => e = .returned (.bool true) ∧ Below w.heap.size w w' := by
  have HR := Lib.hid hr; clear hr
  obtain ⟨m, hm⟩ : ∃ m, m = min n 40 := ⟨_, rfl⟩
  have hmn : m ≤ n := by omega
  have hm40 : m ≤ 40 := by omega
  have hmin : ∀ W : World, (Builtin.min_ #[3, 3] 3 #[.int .i64 (n : Int), .int .i64 40]).run Try.prog W = .ok (.int .i64 (m : Int)) W := by
    intro W; rw [run_min_int2]; congr 2; split <;> omega
  have HM := Lib.hid hm; clear hm
  go_enter Try.func3, Try.ntmps3
  (go_wp2_with fail; refine (known_any _).mono ?_; rintro e w' ⟨rfl, rfl⟩)
  go_wp2_with fail
  clear hmin
  go_loopw [17] (fun i W => ∃ k : Nat, k ≤ m ∧ i = .int .i64 k ∧ Below w.heap.size w W) (fun i _ => m - (intOf i).toNat)
  case atStart => exact ⟨0, Nat.zero_le _, rfl, Below.refl _ _⟩
  case round =>
    obtain ⟨k, hk, rfl, hbr⟩ := hrel
    by_cases hlt : k < m
    · obtain ⟨b, off, rfl, hb, hcells⟩ := HR.out (by omega)
      obtain ⟨x0, x1, x2, x3, x4, x5, x6, ⟨h2, h3, h6⟩, e0, e1, e2, e3, e4, e5, e6⟩ := hcells k (by omega)
      clear hcells
      obtain ⟨hc, _⟩ := bcell hbr
      rw [← hc b _ hb] at e0 e1 e2 e3 e4 e5 e6
      clear hc
      have d1 := fun w => delay_any x0 x1 x2 w h2
      have d2 := fun w => refDelay_any x0 x1 x2 w h2
      have d3 := fun w => due_any x3 x0 x1 x2 x4 x5 w h3 h2
      have d4 := fun w => refdue_any x3 x0 x1 x2 x4 x5 w h3 h2
      have d5 := fun w => sum_any x0 x1 x6 w h6
      have d6 := fun w => refsum_any x0 x1 x6 w h6
      generalize dlI x0 x1 x2 = q1 at *
      generalize dlE x0 x1 x2 = q2 at *
      generalize duI x3 x0 x1 x2 x4 x5 = q3 at *
      generalize duE x3 x0 x1 x2 x5 = q4 at *
      generalize smI x0 x1 x6 = q5 at *
      generalize smE x0 x1 x6 = q6 at *
      have D1 := Lib.hid d1; clear d1
      have D2 := Lib.hid d2; clear d2
      have D3 := Lib.hid d3; clear d3
      have D4 := Lib.hid d4; clear d4
      have D5 := Lib.hid d5; clear d5
      have D6 := Lib.hid d6; clear d6
      have hz := hbr.size
      (go_wp2_with fail; refine (D1.out _).mono ?_; rintro e w' ⟨rfl, rfl⟩)
      (go_wp2_with fail; refine (D2.out _).mono ?_; rintro e w' ⟨rfl, rfl⟩)
      (go_wp2_with fail; refine (D3.out _).mono ?_; rintro e w' ⟨rfl, rfl⟩)
      (go_wp2_with fail; refine (D4.out _).mono ?_; rintro e w' ⟨rfl, rfl⟩)
      (go_wp2_with fail; refine (D5.out _).mono ?_; rintro e w' ⟨rfl, rfl⟩)
      (go_wp2_with fail; refine (D6.out _).mono ?_; rintro e w' ⟨rfl, rfl⟩)
      go_wp2_with fail
      go_roundw
      case rel => exact ⟨k + 1, by omega, by go_num, hbr.alloc hz _⟩
      case measure => simp [intOf]; omega
    · go_wp2_with fail
      go_ret
      exact ⟨rfl, hbr⟩
end Go.Proofs.Ythhpiojfnjiomaa
