/- THE WALKS of the document's answers to numbers and texts (heronref02). -/
import Derived.Test.YtngaohmfedoeeaaRecFixed
namespace Go.Proofs.Ytngaohmfedoeeaa
open Go.RowKit
theorem power_any (k p' : Nat) (w : World) (hk : k < 8) (hp : p' = 256 ^ k) : Calls Try.prog 29 #[.int .i64 (k : Int)] w fun e w' => e = .returned (.int .u64 (p' : Int)) ∧ w = w' := by
  have HPP := Lib.hid hp; clear hp
  go_enter Try.func29, Try.ntmps29
  go_wp2_with fail
  go_loop [3, 4] (fun v iv => ∃ j : Nat, j ≤ k ∧ iv = .int .i64 (j : Int) ∧ ∃ p : Nat, Hid (p = 256 ^ j) ∧ v = .int .u64 (p : Int)) (fun _ iv => k - (intOf iv).toNat)
  case atStart => exact ⟨0, Nat.zero_le _, rfl, 1, Lib.hid rfl, rfl⟩
  case round =>
    obtain ⟨j, hj, rfl, p, HP, rfl⟩ := hrel
    by_cases hlt : j < k
    · have hp : p * 256 ≤ 72057594037927936 := by
        have h1 := pow_le7 (k := j + 1) (by omega)
        rw [Nat.pow_succ, ← HP.out] at h1
        exact h1
      have q1 : IntKind.u64.wrap ((p : Int) * 256) = ((p * 256 : Nat) : Int) := by rw [IntWalk.u64_in _ (by omega)]; simp
      have HQ : Hid (p * 256 = 256 ^ (j + 1)) := Lib.hid (by rw [Nat.pow_succ, HP.out])
      go_wp2_with fail
      go_round
      first
        | (case rel => exact ⟨j + 1, by omega, by go_num, p * 256, HQ, by simp⟩)
        | (case rel => (repeat apply Exists.intro); exact ⟨⟨j + 1, by omega, by go_num, p * 256, HQ, rfl⟩, rfl⟩)
      case measure => simp [intOf]; omega
    · obtain rfl : j = k := by omega
      go_wp2_with fail
      go_ret
      have e : p = p' := HP.out.trans HPP.out.symm
      rw [← e]
      exact ⟨rfl, rfl⟩
theorem rwidth_ok (n : Nat) (w : World) (h1 : 1 ≤ n) (h8 : n ≤ 8) : Calls Try.prog 28 #[.int .i64 (n : Int)] w fun e w' => e = .returned (.bool true) ∧ w = w' := by
  have t1 : decide ((n : Int) ≤ 8) = true := by simp; omega
  go_enter Try.func28, Try.ntmps28
  go_wp2
  go_ret
  exact ⟨rfl, rfl⟩
theorem rwidth_bad (n : Int) (w : World) (h : n < 1 ∨ 8 < n) : Calls Try.prog 28 #[.int .i64 n] w fun e w' => e = .returned (.bool false) ∧ w = w' := by
  rcases h with h | h
  · go_enter Try.func28, Try.ntmps28
    go_wp2
    go_ret
    exact ⟨rfl, rfl⟩
  · have t1 : decide (n ≤ 8) = false := by simp; omega
    go_enter Try.func28, Try.ntmps28
    go_wp2
    go_ret
    exact ⟨rfl, rfl⟩
def RefNumPost (l : List UInt8) (w : World) (e : Ending) (w' : World) : Prop :=
  ∃ v, e = .returned (.tuple #[v, .int .i64 0]) ∧ OB w' w.heap.size v l ∧ Below w.heap.size w w'
theorem u8_quo (v p k : Nat) (hp : p = 256 ^ k) : ((v : Int) / (p : Int) % 256) = ((UInt8.ofNat (v / 256 ^ k)).toNat : Int) := by
  rw [UInt8.toNat_ofNat', ← hp]
  have : ((v / p % 2 ^ 8 : Nat) : Int) = (v : Int) / (p : Int) % 256 := by simp
  exact this.symm
/-- the loop of Num, from a world on -/
theorem refnum_ok (v n : Nat) (w : World) (h1 : 1 ≤ n) (h8 : n ≤ 8) (hv : v < 256 ^ n) (hv64 : v < 18446744073709551616) :
    Calls Try.prog 9 #[.int .u64 (v : Int), .int .i64 (n : Int)] w (RefNumPost (leB v n) w) := by
  have HV := Lib.hid hv; clear hv
  have PW : Hid (∀ (k : Nat) (w : World), k < 8 → ∃ p : Nat, Hid (p = 256 ^ k) ∧ 1 ≤ p ∧ p ≤ 72057594037927936 ∧ Calls Try.prog 29 #[.int .i64 (k : Int)] w fun e w' => e = .returned (.int .u64 (p : Int)) ∧ w = w') := Lib.hid (fun k w hk =>
    ⟨256 ^ k, Lib.hid rfl, Nat.pow_pos (by omega), pow_le7 hk, power_any k _ w hk rfl⟩)
  go_enter Try.func9, Try.ntmps9
  go_upto_region 1 with fail
  go_cut [20] (fun s wx => s = .bool false ∧ wx = w)
  case first =>
    rcases Nat.lt_or_ge n 8 with hlt | hge
    · go_wp2_with fail
      refine (rwidth_ok n _ h1 h8).mono ?_
      rintro e w' ⟨rfl, rfl⟩
      obtain ⟨p, HP, hp1, hp2, CP⟩ := PW.out n w hlt
      have hpv : ¬ p ≤ v := by have := HV.out; rw [← HP.out] at this; omega
      go_wp2_with fail
      refine CP.mono ?_
      rintro e w' ⟨rfl, rfl⟩
      go_wp2_with fail
      go_meet
      exact ⟨rfl, rfl⟩
    · obtain rfl : n = 8 := by omega
      go_wp2_with fail
      refine (rwidth_ok 8 _ h1 h8).mono ?_
      rintro e w' ⟨rfl, rfl⟩
      go_wp2_with fail
      go_meet
      exact ⟨rfl, rfl⟩
  case rest =>
    obtain ⟨rfl, hcut⟩ := hcut
    rw [hcut]
    clear hcut wc
    go_wp2_with fail
    go_loopw [6, 7] (fun s6 iv W => ∃ (k : Nat) (u : Value), k ≤ n ∧ iv = .int .i64 (k : Int) ∧ u = s6 ∧ Hid (OB W w.heap.size u (leB v k)) ∧ Hid (Below w.heap.size w W)) (fun _ iv _ => n - (intOf iv).toNat)
    case atStart => exact ⟨0, _, Nat.zero_le _, rfl, rfl, Lib.hid (OB.nil _ _), Lib.hid (Below.refl _ _)⟩
    case round =>
      obtain ⟨k, u, hk, rfl, rfl, U1, B1⟩ := hrel
      by_cases hlt : k < n
      · obtain ⟨p, HP, hp1, hp2, CP⟩ := PW.out k wr (by omega)
        obtain ⟨c, hc⟩ : ∃ c : UInt8, c = UInt8.ofNat (v / 256 ^ k) := ⟨_, rfl⟩
        have hu8 := u8_quo v p k HP.out
        rw [← hc] at hu8
        have hp0 : ((p : Int) == 0) = false := by rw [beq_eq_false_iff_ne]; omega
        have hq0 : (0 : Int) ≤ (v : Int) / (p : Int) := Int.ediv_nonneg (by omega) (by omega)
        have hq1 : (v : Int) / (p : Int) ≤ (v : Int) := Int.ediv_le_self _ (by omega)
        have htd : ((v : Int).tdiv (p : Int)) = (v : Int) / (p : Int) := Int.tdiv_eq_ediv_of_nonneg (by omega)
        have HC := Lib.hid hc
        clear hc
        have CPH := Lib.hid CP
        clear CP
        go_wp2_with fail
        refine CPH.out.mono ?_
        rintro e w' ⟨rfl, rfl⟩
        have hal : Below wr.heap.size wr (wr.alloc (.cells #[.int .u8 (c.toNat : Int)] 5)) := (Below.refl _ _).alloc (Nat.le_refl _) _
        have U2 := Lib.hid (U1.out.keep hal)
        have B2 := Lib.hid (B1.out.alloc B1.out.size (.cells #[.int .u8 (c.toNat : Int)] 5))
        have N2 : Hid (RB (wr.alloc (.cells #[.int .u8 (c.toNat : Int)] 5)) (some ⟨wr.heap.size, 0, none⟩) 1 [c]) := Lib.hid (RB.new wr 5 (0, 0) #[.int .u8 (c.toNat : Int)] [c] rfl 1 rfl)
        have hsz := B2.out.size
        obtain ⟨w2, hw2⟩ : ∃ w2, w2 = wr.alloc (.cells #[.int .u8 (c.toNat : Int)] 5) := ⟨_, rfl⟩
        obtain ⟨b2, hb2⟩ : ∃ b2, b2 = wr.heap.size := ⟨_, rfl⟩
        rw [← hw2] at U2 B2 N2 hsz
        rw [← hb2] at N2
        have HW2 := Lib.hid hw2; have HB2 := Lib.hid hb2
        clear hw2 hb2 hal U1 B1 CPH
        go_wp2_with ((at_builtin; rw [← HW2.out, ← HB2.out]; go_must (refine append_bytes rfl (.tmp 26) (.tmp 33) rfl w.heap.size u (leB v k) rfl U2.out (some ⟨b2, 0, none⟩) 1 1 [c] rfl N2.out (by rw [leB_length]; omega) hsz ?_); intro u3 w3 hu3 hg3 ha3; refine halt ?_))
        refine unhalt ?_
        have U3 : Hid (OB w3 w.heap.size u3 (leB v (k + 1))) := Lib.hid (by rw [leB, ← HC.out]; exact hu3)
        have B3 : Hid (Below w.heap.size w w3) := Lib.hid (B2.out.grown hg3 hsz (fun j hj => (U2.out.lt j hj).1))
        clear hu3 hg3 ha3 U2 B2 N2 HW2 HB2
        go_wp2_with fail
        go_roundw
        first
          | (case rel => exact ⟨k + 1, u3, by omega, by go_num, rfl, U3, B3⟩)
          | (case rel => (repeat apply Exists.intro); exact ⟨⟨k + 1, u3, by omega, by go_num, rfl, U3, B3⟩, rfl⟩)
        case measure => simp [intOf]; omega
      · obtain rfl : k = n := by omega
        have HF : Hid (RefNumPost (leB v k) w (.returned (.tuple #[u, .int .i64 0])) wr) := Lib.hid ⟨u, rfl, U1.out, B1.out⟩
        clear U1 B1
        go_wp2_with fail
        go_ret2
        exact HF.out
theorem refnum_wide (v : Nat) (n : Int) (w : World) (h : n < 1 ∨ 8 < n) :
    Calls Try.prog 9 #[.int .u64 (v : Int), .int .i64 n] w fun e w' => e = .returned (.tuple #[.slice none 0 0, .int .i64 21]) ∧ w = w' := by
  have H := Lib.hid h; clear h
  go_enter Try.func9, Try.ntmps9
  go_wp2_with fail
  refine (rwidth_bad n _ H.out).mono ?_
  rintro e w' ⟨rfl, rfl⟩
  go_wp2_with fail
  go_ret2
  exact ⟨rfl, rfl⟩
theorem refnum_big (v n : Nat) (w : World) (h1 : 1 ≤ n) (h8 : n < 8) (hv : 256 ^ n ≤ v) :
    Calls Try.prog 9 #[.int .u64 (v : Int), .int .i64 (n : Int)] w fun e w' => e = .returned (.tuple #[.slice none 0 0, .int .i64 21]) ∧ w = w' := by
  obtain ⟨p, hp⟩ : ∃ p, p = 256 ^ n := ⟨_, rfl⟩
  have hpv : p ≤ v := by omega
  have CP := Lib.hid (power_any n p w h8 hp)
  clear hv hp
  go_enter Try.func9, Try.ntmps9
  go_wp2_with fail
  refine (rwidth_ok n _ h1 (by omega)).mono ?_
  rintro e w' ⟨rfl, rfl⟩
  go_wp2_with fail
  refine CP.out.mono ?_
  rintro e w' ⟨rfl, rfl⟩
  go_wp2_with fail
  go_ret2
  exact ⟨rfl, rfl⟩
theorem reftext_any (s : ByteArray) (w : World) (hs : s.size ≤ 1048576) :
    Calls Try.prog 12 #[.string s] w (TextPost (textB s.data.toList) w) := by
  have CN := Lib.hid (refnum_ok s.size 4 w (by omega) (by omega) (by omega) (by omega))
  have q1 : IntKind.u64.wrap (s.size : Int) = (s.size : Int) := IntWalk.u64_in _ (by omega)
  go_enter Try.func12, Try.ntmps12
  go_wp2_with fail
  refine CN.out.mono ?_
  rintro e w2 ⟨v2, rfl, ho2, hb2⟩
  have O2 := Lib.hid ho2; have B2 := Lib.hid hb2
  have H4 : Hid ((leB s.size 4).length + s.size ≤ 140737488355328) := Lib.hid (by rw [leB_length]; omega)
  clear ho2 hb2 CN
  go_wp2_with ((at_builtin; go_must (refine append_str rfl (.tmp 12) (.tmp 13) rfl w.heap.size v2 (leB s.size 4) rfl O2.out s rfl H4.out B2.out.size ?_); intro v3 w3 ho3 hg3; refine halt ?_))
  refine unhalt ?_
  have HP : Hid (TextPost (textB s.data.toList) w (.returned v3) w3) := Lib.hid ⟨v3, rfl, by unfold textB; exact ho3, B2.out.grown hg3 B2.out.size (fun k hk => (O2.out.lt k hk).1)⟩
  clear ho3 hg3 O2 B2
  go_wp2_with fail
  go_ret
  exact HP.out
end Go.Proofs.Ytngaohmfedoeeaa
