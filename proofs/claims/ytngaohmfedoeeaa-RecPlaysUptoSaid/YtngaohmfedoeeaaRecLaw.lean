/- THE WALKS of the small functions of package heronlaw02. -/
import Derived.Test.YtngaohmfedoeeaaRecReadText
import Derived.Deep.RegionHeld3
import Derived.Deep.DeepCutAuto
namespace Go.Proofs.Ytngaohmfedoeeaa
open Go.RowKit
theorem strOf_inj {l l' : List UInt8} (h : strOf l = strOf l') : l = l' := by
  unfold strOf at h
  injection h with h
  injection h
theorem same_any (A A' : Option Addr) (n n' c c' : Nat) (l l' : List UInt8) (b : Bool) (w : World) (h : RB w A n l) (h' : RB w A' n' l') (hb : b = decide (l = l')) :
    Calls Try.prog 27 #[.slice A n c, .slice A' n' c'] w fun e w' => e = .returned (.bool b) ∧ w = w' := by
  have e1 := conv_bytes _ _ _ c _ h
  have e2 := conv_bytes _ _ _ c' _ h'
  have hq : ((strOf l).toList == (strOf l').toList) = b := by
    rw [hb, ByteArray.toList_eq, ByteArray.toList_eq]
    show (l == l') = decide (l = l')
    rw [Bool.eq_iff_iff]; simp
  generalize strOf l = x at *
  generalize strOf l' = y at *
  have HB := Lib.hid hb; clear hb h h'
  go_enter Try.func27, Try.ntmps27
  go_wp2
  go_ret
  exact ⟨rfl, rfl⟩
def widN (x : Int) : Nat := (x.tmod 8 % 8).toNat + 1
theorem width_any (x : Int) (w : World) :
    Calls Try.prog 26 #[.int .i64 x] w fun e w' => e = .returned (.int .i64 (widN x : Int)) ∧ w = w' := by
  have hm : -8 < x.tmod 8 ∧ x.tmod 8 < 8 := by rw [tmod_eq_if]; split <;> omega
  by_cases h : x.tmod 8 < 0
  · have hd : (widN x : Int) = x.tmod 8 + 8 + 1 := by unfold widN; omega
    rw [hd]
    clear hd
    obtain ⟨hm1, hm2⟩ := hm
    go_enter Try.func26, Try.ntmps26
    go_wp2
    go_ret
    exact ⟨rfl, rfl⟩
  · have hd : (widN x : Int) = x.tmod 8 + 1 := by unfold widN; omega
    rw [hd]
    clear hd
    obtain ⟨hm1, hm2⟩ := hm
    go_enter Try.func26, Try.ntmps26
    go_wp2
    go_ret
    exact ⟨rfl, rfl⟩
theorem widN_bd (x : Int) : 1 ≤ widN x ∧ widN x ≤ 8 := by unfold widN; omega
/-- an item's number, brought to its width -/
def valN (n : Int) (v : Nat) : Nat := v % 256 ^ widN n
theorem valN_lt (n : Int) (v : Nat) : valN n v < 256 ^ widN n := Nat.mod_lt _ (Nat.pow_pos (by omega))
def itemV (k n : Int) (v : Nat) (s : ByteArray) : Array Value := #[.int .i64 k, .int .i64 n, .int .u64 (v : Int), .string s]
def ValPost (k n : Int) (v : Nat) (s : ByteArray) (w : World) (e : Ending) (w' : World) : Prop :=
  e = .returned (.int .u64 (valN n v : Int)) ∧ ∃ m, (w.alloc (.cells (itemV k n v s) 58)).drewN m = w'
theorem value_any (k n : Int) (v : Nat) (s : ByteArray) (w : World) (hv : v < 18446744073709551616) :
    Calls Try.prog 25 #[.agg (itemV k n v s)] w (ValPost k n v s w) := by
  unfold itemV
  have hw := fun w => width_any n w
  obtain ⟨hb1, hb8⟩ := widN_bd n
  have hval : valN n v = v % 256 ^ widN n := rfl
  generalize widN n = x at *
  have HW := Lib.hid hw; clear hw
  have HV := Lib.hid hv; clear hv
  by_cases h8 : x = 8
  · subst h8
    have hr : valN n v = v := by rw [hval]; exact Nat.mod_eq_of_lt HV.out
    have HR := Lib.hid hr; clear hval hr
    go_enter Try.func25, Try.ntmps25
    go_wp2_with fail
    refine (HW.out _).mono ?_
    rintro e w' ⟨rfl, rfl⟩
    go_wp2_with fail
    go_ret
    exact ⟨by rw [HR.out]; rfl, 0, rfl⟩
  · obtain rfl | rfl | rfl | rfl | rfl | rfl | rfl : x = 1 ∨ x = 2 ∨ x = 3 ∨ x = 4 ∨ x = 5 ∨ x = 6 ∨ x = 7 := by omega
    all_goals
      have HR := Lib.hid hval; clear hval
      go_enter Try.func25, Try.ntmps25
      go_wp2_with fail
      refine (HW.out _).mono ?_
      rintro e w' ⟨rfl, rfl⟩
      go_wp2_with fail
      go_quiet (fail)
      go_wp2_with fail
      go_ret
      have e : (valN n v : Int) = _ := congrArg Int.ofNat HR.out
      exact ⟨by unfold valN at *; rw [e]; simp [go_sem], nq, rfl⟩
end Go.Proofs.Ytngaohmfedoeeaa
