/- THE WALK of heronlaw18.RingRound. -/
import Derived.Test.YtckhmdeeddjkhaaRingAll
namespace Go.Proofs.Ytckhmdeeddjkhaa
open Go.RowKit
def badB (x : Int) : Bool := decide (x < 1 ∨ 64 < x)
def up (a m : Nat) : List Int := (List.range m).map fun i => ((a + i : Nat) : Int)
theorem up_length (a m : Nat) : (up a m).length = m := by simp [up]
theorem up_snoc (a m : Nat) : up a m ++ [((a + m : Nat) : Int)] = up a (m + 1) := by simp [up, List.range_succ]
theorem up_cons (a m : Nat) : up a (m + 1) = (a : Int) :: up (a + 1) m := by
  simp only [up, List.range_succ_eq_map, List.map_cons, List.map_map, Nat.add_zero]
  congr 1
  refine List.map_congr_left fun i _ => ?_
  simp only [Function.comp]
  congr 1; omega
theorem up_get (a m i : Nat) (h : i < m) : (up a m)[i]? = some (((a + i : Nat) : Int)) := by simp [up, h]
set_option maxRecDepth 100000 in
set_option maxHeartbeats 4000000 in
theorem round_any (x r : Int) (w : World) :
    Calls Try.prog 5 #[.int .i64 x, .int .i64 r] w fun e w' => e = .returned (.bool true) ∧ Below w.heap.size w w' := by
  go_enter Try.func5, Try.ntmps5
  go_upto_region 2 with fail
  go_cut [23] (fun s23 wx => s23 = .bool (badB x) ∧ wx = w)
  case first =>
    by_cases h1 : x < 1
    · have hb : badB x = true := decide_eq_true (Or.inl h1)
      go_wp2_with fail
      go_meet
      exact ⟨by rw [hb], rfl⟩
    · by_cases h2 : 64 < x
      · have hb : badB x = true := decide_eq_true (Or.inr h2)
        go_wp2_with fail
        go_meet
        exact ⟨by rw [hb], rfl⟩
      · have hb : badB x = false := decide_eq_false (fun h => h.elim h1 h2)
        go_wp2_with fail
        go_meet
        exact ⟨by rw [hb], rfl⟩
  case rest =>
    obtain ⟨rfl, hw⟩ := hcut
    rw [hw]
    clear hw wc
    go_upto_if 23 with fail
    go_cut [5] (fun s5 wx => ∃ n : Nat, 1 ≤ n ∧ n ≤ 64 ∧ s5 = .int .i64 (n : Int) ∧ wx = w)
    case first =>
      cases hb : badB x with
      | true =>
        have hbad : x < 1 ∨ 64 < x := of_decide_eq_true hb
        have HB := Lib.hid hbad; clear hbad hb
        go_wp2_with fail
        refine (new_bad x _ HB.out).mono ?_
        rintro e w' ⟨rfl, rfl⟩
        go_wp2_with fail
        go_meet
        exact ⟨1, by omega, by omega, rfl, rfl⟩
      | false =>
        have hgood : ¬ (x < 1 ∨ 64 < x) := of_decide_eq_false hb
        obtain ⟨n, rfl⟩ := Int.eq_ofNat_of_zero_le (show 0 ≤ x by omega)
        have h1 : 1 ≤ n := by omega
        have h64 : n ≤ 64 := by omega
        clear hgood hb
        go_wp2_with fail
        go_meet
        exact ⟨n, h1, h64, rfl, rfl⟩
    case rest =>
      obtain ⟨n, h1, h64, rfl, hw⟩ := hcut
      rw [hw]
      clear hw wc
      go_wp2_with fail
      refine (new_ok n _ h1 h64).mono ?_
      intro e w1 hpost
      obtain ⟨g, p, xs, rfl, hg, hp, hr, hb⟩ := hpost
      have HR := Lib.hid hr; have HB := Lib.hid hb
      clear hr hb
      go_wp2_with fail
      go_loopw [10] (fun iv W => ∃ i : Nat, i ≤ n ∧ iv = .int .i64 (i : Int) ∧ ∃ f xs, RG W g p n f xs (up 0 i) ∧ Below w.heap.size w W) (fun iv _ => n - (intOf iv).toNat)
      case atStart => exact ⟨0, Nat.zero_le _, rfl, 0, xs, HR.out, HB.out⟩
      case round =>
        obtain ⟨i, hi, rfl, f, xs, hr, hb⟩ := hrel
        have HR2 := Lib.hid hr; have HB2 := Lib.hid hb
        clear hr hb
        by_cases hlt : i < n
        · go_wp2_with fail
          refine (full_no g p n f xs (up 0 i) _ HR2.out (by rw [up_length]; exact hlt)).mono ?_
          rintro e w' ⟨rfl, m, rfl⟩
          go_wp2_with fail
          refine (push_ok g p n f xs (up 0 i) (i : Int) _ (HR2.out.drewN m) (by rw [up_length]; exact hlt)).mono ?_
          intro e w2 hpost
          obtain ⟨rfl, xs', hr3, hc3⟩ := hpost
          have HR3 : Hid (RG w2 g p n f xs' (up 0 (i + 1))) := Lib.hid (by
            have := up_snoc 0 i
            rw [Nat.zero_add] at this
            rw [← this]; exact hr3)
          have HB3 := Lib.hid ((below_drewN HB2.out m).trans (hc3.below (B := w.heap.size) (fun q hq hs => by rcases hs with h | h <;> omega) (by have := HB2.out.size; simpa using this)))
          clear hr3 hc3
          go_wp2_with fail
          go_roundw
          case rel => exact ⟨i + 1, by omega, by go_num, f, xs', HR3.out, HB3.out⟩
          case measure => simp [intOf]; omega
        · obtain rfl : i = n := by omega
          go_upto_if 62 with fail
          go_cut [11] (fun s11 wx => ∃ K : Nat, K ≤ 300 ∧ s11 = .int .i64 (K : Int) ∧ wx = wr)
          case first =>
            have hm : -300 < r.tmod 300 ∧ r.tmod 300 < 300 := by rw [tmod_eq_if]; split <;> omega
            obtain ⟨hm1, hm2⟩ := hm
            by_cases h0 : r.tmod 300 < 0
            · go_wp2_with fail
              go_meet
              exact ⟨(-(r.tmod 300)).toNat, by omega, by rw [Int.toNat_of_nonneg (by omega)], rfl⟩
            · go_wp2_with fail
              go_meet
              exact ⟨(r.tmod 300).toNat, by omega, by rw [Int.toNat_of_nonneg (by omega)], rfl⟩
          case rest =>
            obtain ⟨K, hK, rfl, hw⟩ := hcut
            rw [hw]
            clear hw wc hlt hi
            obtain ⟨m, rfl⟩ : ∃ m, i = m + 1 := ⟨i - 1, by omega⟩
            go_wp2_with fail
            go_loopw [12] (fun iv W => ∃ t : Nat, t ≤ K ∧ iv = .int .i64 (t : Int) ∧ ∃ f xs, RG W g p (m + 1) f xs (up t (m + 1)) ∧ Below w.heap.size w W) (fun iv _ => K - (intOf iv).toNat)
            case atStart => exact ⟨0, Nat.zero_le _, rfl, f, xs, HR2.out, HB2.out⟩
            case round =>
              obtain ⟨t, ht, rfl, f, xs, hr, hb⟩ := hrel
              have HR4 := Lib.hid hr; have HB4 := Lib.hid hb
              clear hr hb
              by_cases hlt2 : t < K
              · go_wp2_with fail
                refine (full_yes g p (m + 1) f xs (up t (m + 1)) _ HR4.out (up_length _ _)).mono ?_
                rintro e w' ⟨rfl, m1, rfl⟩
                go_wp2_with fail
                refine (push_full g p (m + 1) f xs (up t (m + 1)) (-1) _ (HR4.out.drewN m1) (up_length _ _)).mono ?_
                rintro e w' ⟨rfl, m2, rfl⟩
                go_wp2_with fail
                refine (len_any g p (m + 1) f xs (up t (m + 1)) _ (HR4.out.drewN _)).mono ?_
                rintro e w' ⟨rfl, rfl⟩
                rw [up_length]
                go_wp2_with fail
                have HR5 : Hid (RG wr g p (m + 1) f xs ((t : Int) :: up (t + 1) m)) := Lib.hid (by rw [← up_cons]; exact HR4.out)
                refine (pop_cons g p (m + 1) f xs (up (t + 1) m) (t : Int) _ (HR5.out.drewN _)).mono ?_
                intro e w5 hpost
                obtain ⟨rfl, f6, xs6, hr6, hc6⟩ := hpost
                have HR6 := Lib.hid hr6
                have HB6 := Lib.hid ((below_drewN HB4.out _).trans (hc6.below (B := w.heap.size) (fun q hq hs => by rcases hs with h | h <;> omega) (by have := HB4.out.size; simpa using this)))
                clear hr6 hc6
                go_wp2_with fail
                refine (full_no g p (m + 1) f6 xs6 (up (t + 1) m) _ HR6.out (by rw [up_length]; omega)).mono ?_
                rintro e w' ⟨rfl, m7, rfl⟩
                go_wp2_with fail
                refine (push_ok g p (m + 1) f6 xs6 (up (t + 1) m) ((m : Int) + 1 + (t : Int)) _ (HR6.out.drewN m7) (by rw [up_length]; omega)).mono ?_
                intro e w8 hpost
                obtain ⟨rfl, xs8, hr8, hc8⟩ := hpost
                have HR8 : Hid (RG w8 g p (m + 1) f6 xs8 (up (t + 1) (m + 1))) := Lib.hid (by
                  rw [← up_snoc, show ((t + 1 + m : Nat) : Int) = (m : Int) + 1 + (t : Int) from by omega]; exact hr8)
                have HB8 := Lib.hid ((below_drewN HB6.out m7).trans (hc8.below (B := w.heap.size) (fun q hq hs => by rcases hs with h | h <;> omega) (by have := HB6.out.size; simpa using this)))
                clear hr8 hc8
                go_wp2_with fail
                go_roundw
                case rel => (repeat apply Exists.intro); exact ⟨⟨t + 1, by omega, by go_num, f6, xs8, HR8.out, HB8.out⟩, rfl⟩
                case measure => simp [intOf]; omega
              · obtain rfl : t = K := by omega
                go_wp2_with fail
                refine (all_any g p (m + 1) f xs (up t (m + 1)) _ HR4.out).mono ?_
                intro e w9 hpost
                obtain ⟨a, rfl, ha, hba, hb9⟩ := hpost
                rw [up_length]
                have HA := Lib.hid hba
                have HB9 := Lib.hid (HB4.out.trans (hb9.mono HB4.out.size))
                clear hba hb9
                go_wp2_with fail
                go_loop [112] (fun iv => ∃ j : Nat, j ≤ m + 1 ∧ iv = .int .i64 (j : Int)) (fun iv => m + 1 - (intOf iv).toNat)
                case atStart => exact ⟨0, Nat.zero_le _, rfl⟩
                case round =>
                  obtain ⟨j, hj, rfl⟩ := hrel
                  by_cases hlt3 : j < m + 1
                  · have ca : w9.cell? ⟨a, j, none⟩ = some (.int .i64 ((t : Int) + (j : Int))) := by
                      rw [HA.out.cell j]
                      simp [up_get t (m + 1) j hlt3, intV]
                    go_wp2_with fail
                    go_round
                    case rel => exact ⟨j + 1, by omega, by go_num⟩
                    case measure => simp [intOf]; omega
                  · obtain rfl : j = m + 1 := by omega
                    go_wp2_with fail
                    go_ret
                    exact ⟨rfl, HB9.out⟩
end Go.Proofs.Ytckhmdeeddjkhaa
