/- THE WALK of deliver's New where its numbers may not be. -/
import Derived.Test.YtjkocghbnljifaaDpRef
namespace Go.Proofs.Ytjkocghbnljifaa
open Go.RowKit
theorem dlB_true {x : Int} (h0 : ¬ x < 0) (h1 : ¬ 1099511627776 < x) : dlB x = true := by unfold dlB; exact decide_eq_true ⟨by omega, by omega⟩
def DBad (w : World) (e : Ending) (w' : World) : Prop := e = .returned (.tuple #[.pointer none, .int .i64 1]) ∧ Below w.heap.size w w'
set_option maxHeartbeats 1000000 in
theorem dnew_bad (N ba mo ji : Int) (w : World) (h : N < 1 ∨ 64 < N ∨ dlB ba = false ∨ dlB mo = false ∨ dlB ji = false) :
    Calls Try.prog 7 #[.int .i64 N, .int .i64 ba, .int .i64 mo, .int .i64 ji] w (DBad w) := by
  have HH := Lib.hid h
  clear h
  have S1 : Hid (Blk (w.alloc (.cells #[.int .i64 ba, .int .i64 mo, .int .i64 ji] 3)) w.heap.size 3 #[.int .i64 ba, .int .i64 mo, .int .i64 ji]) := Lib.hid (Blk.new _ _ _ rfl)
  have B1 : Hid (Below w.heap.size w (w.alloc (.cells #[.int .i64 ba, .int .i64 mo, .int .i64 ji] 3))) := Lib.hid ((Below.refl _ _).alloc (Nat.le_refl _) _)
  go_enter Try.func7, Try.ntmps7
  go_wp2_with fail
  obtain ⟨w1, hw1⟩ : ∃ w1, w1 = w.alloc (.cells #[.int .i64 ba, .int .i64 mo, .int .i64 ji] 3) := ⟨_, rfl⟩
  obtain ⟨sb, hsb⟩ : ∃ sb, sb = w.heap.size := ⟨_, rfl⟩
  rw [← hw1] at S1 B1 ⊢
  rw [← hsb] at S1 ⊢
  clear hw1 hsb
  go_loop [19] (fun iv => ∃ j : Nat, j ≤ 3 ∧ iv = .int .i64 (j : Int) ∧ Hid ((0 < j → dlB ba = true) ∧ (1 < j → dlB mo = true) ∧ (2 < j → dlB ji = true))) (fun iv => 3 - (intOf iv).toNat)
  case atStart => exact ⟨0, Nat.zero_le _, rfl, Lib.hid ⟨fun h => by omega, fun h => by omega, fun h => by omega⟩⟩
  case round =>
    obtain ⟨j, hj3, rfl, HJ⟩ := hrel
    by_cases hlt : j < 3
    · obtain ⟨x, HX, cx⟩ : ∃ x : Int, Hid ((j = 0 → x = ba) ∧ (j = 1 → x = mo) ∧ (j = 2 → x = ji)) ∧ w1.cell? ⟨sb, j, none⟩ = some (.int .i64 x) := by
        rcases (show j = 0 ∨ j = 1 ∨ j = 2 by omega) with rfl | rfl | rfl
        · exact ⟨ba, Lib.hid ⟨fun _ => rfl, fun h => by omega, fun h => by omega⟩, S1.out.cell 0⟩
        · exact ⟨mo, Lib.hid ⟨fun h => by omega, fun _ => rfl, fun h => by omega⟩, S1.out.cell 1⟩
        · exact ⟨ji, Lib.hid ⟨fun h => by omega, fun h => by omega, fun _ => rfl⟩, S1.out.cell 2⟩
      by_cases h0 : x < 0
      · go_wp2_with fail
        go_ret2
        exact ⟨rfl, B1.out⟩
      · by_cases h1 : 1099511627776 < x
        · go_wp2_with fail
          go_ret2
          exact ⟨rfl, B1.out⟩
        · have HT := Lib.hid (dlB_true h0 h1)
          go_wp2_with fail
          go_round
          case rel =>
            refine ⟨j + 1, by omega, by go_num, Lib.hid ⟨fun _ => ?_, fun h => ?_, fun h => ?_⟩⟩
            · by_cases e : j = 0
              · rw [← HX.out.1 e]; exact HT.out
              · exact HJ.out.1 (by omega)
            · by_cases e : j = 1
              · rw [← HX.out.2.1 e]; exact HT.out
              · exact HJ.out.2.1 (by omega)
            · have e : j = 2 := by omega
              rw [← HX.out.2.2 e]; exact HT.out
          case measure => simp [intOf]; omega
    · obtain rfl : j = 3 := by omega
      have hN : N < 1 ∨ 64 < N := by
        have hj := HJ.out
        rcases HH.out with h | h | h | h | h
        · exact .inl h
        · exact .inr h
        · rw [hj.1 (by omega)] at h; cases h
        · rw [hj.2.1 (by omega)] at h; cases h
        · rw [hj.2.2 (by omega)] at h; cases h
      have CN := Lib.hid (newT_bad N w1 hN)
      clear hN
      go_wp2_with fail
      refine CN.out.mono ?_
      rintro e w2 ⟨rfl, rfl⟩
      go_wp2_with fail
      go_ret2
      exact ⟨rfl, B1.out⟩
end Go.Proofs.Ytjkocghbnljifaa
