/- THE WALKS of deliver's New; of the law's mod. -/
import Derived.Test.YtjkocghbnljifaaDelAns
namespace Go.Proofs.Ytjkocghbnljifaa
open Go.RowKit
theorem newT_bad (n : Int) (w : World) (h : n < 1 ∨ 64 < n) : Calls Try.prog 21 #[.int .i64 n] w fun e w' => e = .returned (.tuple #[.pointer none, .int .i64 1]) ∧ w = w' := by
  rcases h with h | h
  all_goals
    go_enter Try.func21, Try.ntmps21
    go_wp2
    go_ret2
    exact ⟨rfl, rfl⟩
def DNew (n ba mo ji : Nat) (w : World) (e : Ending) (w' : World) : Prop :=
  ∃ d g p xs, e = .returned (.tuple #[.pointer (some ⟨d, 0, none⟩), .int .i64 0]) ∧ w.heap.size ≤ d ∧ w.heap.size ≤ g ∧ w.heap.size ≤ p ∧ DV w' d g p n 0 xs [] ba mo ji false 0 0 ∧ Below w.heap.size w w'
set_option maxHeartbeats 1000000 in
theorem dnew_ok (n ba mo ji : Nat) (w : World) (h1 : 1 ≤ n) (h64 : n ≤ 64) (hb : ba ≤ 1099511627776) (hm : mo ≤ 1099511627776) (hj : ji ≤ 1099511627776) :
    Calls Try.prog 7 #[.int .i64 (n : Int), .int .i64 (ba : Int), .int .i64 (mo : Int), .int .i64 (ji : Int)] w (DNew n ba mo ji w) := by
  have S1 : Hid (Blk (w.alloc (.cells #[.int .i64 (ba : Int), .int .i64 (mo : Int), .int .i64 (ji : Int)] 3)) w.heap.size 3 #[.int .i64 (ba : Int), .int .i64 (mo : Int), .int .i64 (ji : Int)]) := Lib.hid (Blk.new _ _ _ rfl)
  have B1 : Hid (Below w.heap.size w (w.alloc (.cells #[.int .i64 (ba : Int), .int .i64 (mo : Int), .int .i64 (ji : Int)] 3))) := Lib.hid ((Below.refl _ _).alloc (Nat.le_refl _) _)
  go_enter Try.func7, Try.ntmps7
  go_wp2_with fail
  obtain ⟨w1, hw1⟩ : ∃ w1, w1 = w.alloc (.cells #[.int .i64 (ba : Int), .int .i64 (mo : Int), .int .i64 (ji : Int)] 3) := ⟨_, rfl⟩
  obtain ⟨sb, hsb⟩ : ∃ sb, sb = w.heap.size := ⟨_, rfl⟩
  rw [← hw1] at S1 B1 ⊢
  rw [← hsb] at S1 ⊢
  clear hw1 hsb
  have CN := Lib.hid (newT_ok n w1 h1 h64)
  go_loop [19] (fun iv => ∃ j : Nat, j ≤ 3 ∧ iv = .int .i64 (j : Int)) (fun iv => 3 - (intOf iv).toNat)
  case atStart => exact ⟨0, Nat.zero_le _, rfl⟩
  case round =>
    obtain ⟨j, hj3, rfl⟩ := hrel
    by_cases hlt : j < 3
    · obtain ⟨x, hx, cx⟩ : ∃ x : Nat, x ≤ 1099511627776 ∧ w1.cell? ⟨sb, j, none⟩ = some (.int .i64 (x : Int)) := by
        rcases (show j = 0 ∨ j = 1 ∨ j = 2 by omega) with rfl | rfl | rfl
        · exact ⟨ba, hb, S1.out.cell 0⟩
        · exact ⟨mo, hm, S1.out.cell 1⟩
        · exact ⟨ji, hj, S1.out.cell 2⟩
      go_wp2_with fail
      go_round
      case rel => exact ⟨j + 1, by omega, by go_num⟩
      case measure => simp [intOf]; omega
    · obtain rfl : j = 3 := by omega
      go_wp2_with fail
      refine CN.out.mono ?_
      rintro e w2 ⟨g, p, xs, rfl, hg, hp, hr, hb2⟩
      have hal : Below w2.heap.size w2 (w2.alloc (.cells #[.pointer (some ⟨g, 0, none⟩), .int .i64 (ba : Int), .int .i64 (mo : Int), .int .i64 (ji : Int), .bool false, .int .i64 0, .int .i64 0] 53)) := (Below.refl _ _).alloc (Nat.le_refl _) _
      have B2 := B1.out.trans (hb2.mono B1.out.size)
      have s1 := B1.out.size
      have HF : Hid (DNew n ba mo ji w (.returned (.tuple #[.pointer (some ⟨w2.heap.size, 0, none⟩), .int .i64 0])) (w2.alloc (.cells #[.pointer (some ⟨g, 0, none⟩), .int .i64 (ba : Int), .int .i64 (mo : Int), .int .i64 (ji : Int), .bool false, .int .i64 0, .int .i64 0] 53))) := Lib.hid
        ⟨w2.heap.size, g, p, xs, rfl, B2.size, by omega, by omega, ⟨Blk.new _ _ _ rfl, hr.keep hal⟩, B2.trans (hal.mono B2.size)⟩
      clear hal B2 hr hb2 hg hp CN S1 B1
      go_wp2_with fail
      go_ret2
      exact HF.out
set_option maxHeartbeats 1000000 in
theorem dnew_none (w : World) :
    Calls Try.prog 7 #[.int .i64 0, .int .i64 0, .int .i64 0, .int .i64 0] w fun e w' => e = .returned (.tuple #[.pointer none, .int .i64 1]) ∧ Below w.heap.size w w' := by
  have S1 : Hid (Blk (w.alloc (.cells #[.int .i64 0, .int .i64 0, .int .i64 0] 3)) w.heap.size 3 #[.int .i64 0, .int .i64 0, .int .i64 0]) := Lib.hid (Blk.new _ _ _ rfl)
  have B1 : Hid (Below w.heap.size w (w.alloc (.cells #[.int .i64 0, .int .i64 0, .int .i64 0] 3))) := Lib.hid ((Below.refl _ _).alloc (Nat.le_refl _) _)
  go_enter Try.func7, Try.ntmps7
  go_wp2_with fail
  obtain ⟨w1, hw1⟩ : ∃ w1, w1 = w.alloc (.cells #[.int .i64 0, .int .i64 0, .int .i64 0] 3) := ⟨_, rfl⟩
  obtain ⟨sb, hsb⟩ : ∃ sb, sb = w.heap.size := ⟨_, rfl⟩
  rw [← hw1] at S1 B1 ⊢
  rw [← hsb] at S1 ⊢
  clear hw1 hsb
  have CN := Lib.hid (newT_bad 0 w1 (.inl (by omega)))
  go_loop [19] (fun iv => ∃ j : Nat, j ≤ 3 ∧ iv = .int .i64 (j : Int)) (fun iv => 3 - (intOf iv).toNat)
  case atStart => exact ⟨0, Nat.zero_le _, rfl⟩
  case round =>
    obtain ⟨j, hj3, rfl⟩ := hrel
    by_cases hlt : j < 3
    · have cx : w1.cell? ⟨sb, j, none⟩ = some (.int .i64 0) := by
        rcases (show j = 0 ∨ j = 1 ∨ j = 2 by omega) with rfl | rfl | rfl
        · exact S1.out.cell 0
        · exact S1.out.cell 1
        · exact S1.out.cell 2
      go_wp2_with fail
      go_round
      case rel => exact ⟨j + 1, by omega, by go_num⟩
      case measure => simp [intOf]; omega
    · obtain rfl : j = 3 := by omega
      go_wp2_with fail
      refine CN.out.mono ?_
      rintro e w2 ⟨rfl, rfl⟩
      go_wp2_with fail
      go_ret2
      exact ⟨rfl, B1.out⟩
/-- brought into 0 .. n - 1 -/
def modN (k : Int) (n : Nat) : Nat := (k.tmod n % n).toNat
theorem modN_lt (k : Int) {n : Nat} (hn : 0 < n) : modN k n < n := by
  unfold modN
  have h1 := Int.emod_nonneg (k.tmod n) (show (n : Int) ≠ 0 by omega)
  have h2 := Int.emod_lt_of_pos (k.tmod n) (show (0 : Int) < n by omega)
  omega
theorem mod_any (k : Int) (n : Nat) (w : World) (hn : 0 < n) (hn2 : n ≤ 1099511627777) :
    Calls Try.prog 14 #[.int .i64 k, .int .i64 (n : Int)] w fun e w' => e = .returned (.int .i64 (modN k n : Int)) ∧ w = w' := by
  have hr1 : k.tmod n < n := Int.tmod_lt_of_pos _ (by omega)
  have hr2 : -(n : Int) < k.tmod n := Int.lt_tmod_of_pos _ (by omega)
  have hm : (modN k n : Int) = if k.tmod n < 0 then k.tmod n + n else k.tmod n := by
    unfold modN
    split
    · rw [← Int.add_emod_right, Int.emod_eq_of_lt (by omega) (by omega)]; omega
    · rw [Int.emod_eq_of_lt (by omega) (by omega)]; omega
  obtain ⟨r, hr⟩ : ∃ r, r = k.tmod n := ⟨_, rfl⟩
  have hn0 : ((n : Int) == 0) = false := by rw [beq_eq_false_iff_ne]; omega
  have HR := Lib.hid hr
  rw [← hr] at hr1 hr2 hm
  by_cases hneg : r < 0
  · rw [if_pos hneg] at hm
    rw [hm]
    have hr' := hr.symm
    clear hm hr
    go_enter Try.func14, Try.ntmps14
    go_wp2
    go_ret
    exact ⟨rfl, rfl⟩
  · rw [if_neg hneg] at hm
    rw [hm]
    have hr' := hr.symm
    clear hm hr
    go_enter Try.func14, Try.ntmps14
    go_wp2
    go_ret
    exact ⟨rfl, rfl⟩
end Go.Proofs.Ytjkocghbnljifaa
