/- THE WALKS of the reader's Text. -/
import Derived.Test.YtngaohmfedoeeaaRecRead
import Derived.Test.YtngaohmfedoeeaaRecText
namespace Go.Proofs.Ytngaohmfedoeeaa
open Go.RowKit
theorem rtext_ok (g : Nat) (A : Option Addr) (n cap : Nat) (l : List UInt8) (m : Nat) (w : World) (hm : RD w g A n cap l) (h4 : 4 ≤ n) (hv : leV (l.take 4) = m) (hmn : 4 + m ≤ n) (hn : n ≤ 140737488355328) :
    Calls Try.prog 17 #[.pointer (some ⟨g, 0, none⟩)] w fun e w' => e = .returned (.tuple #[.string (strOf ((l.drop 4).take m)), .int .i64 0]) ∧ advW w g A n cap (4 + m) = w' := by
  have c0 : w.cell? ⟨g, 0, none⟩ = some (.slice A n cap) := hm.blk.cell 0
  have f0 := hm.blk.frozen 0
  have hc := hm.hc
  obtain ⟨b, off, rfl, hb, _⟩ := hm.rd.2 (by omega)
  have hbd : m ≤ 4294967295 := by
    have := leV_lt (l.take 4)
    rw [List.length_take, Nat.min_eq_left (by have := hm.len; omega), hv] at this
    omega
  have t1 : decide ((n : Int) < 4) = false := by simp; omega
  have t2 : decide ((n : Int) - 4 < (m : Int)) = false := by simp; omega
  have hr4 := ((hm.rd.drop (k := 4) (cap := n + 5) h4 (by omega)).take (k := m) (by omega))
  rw [if_neg (by omega)] at hr4
  have hr4' : RB w (some ⟨b, off + 4, none⟩) m ((l.drop 4).take m) := hr4
  obtain ⟨tx, htx⟩ : ∃ tx, tx = strOf ((l.drop 4).take m) := ⟨_, rfl⟩
  have HM := Lib.hid hm
  have HV := Lib.hid hv
  rw [← htx]
  by_cases hm0 : m = 0
  · subst hm0
    have hcv : ∀ a, (convert 22 9 (.slice a 0 0)).run Try.prog w = .ok (.string tx) w := fun a => by rw [htx]; exact conv_bytes _ _ _ _ _ (by simpa using RB.nil w a)
    have HT := Lib.hid htx; clear htx hm hr4 hr4' hv
    go_enter Try.func17, Try.ntmps17
    go_wp2_with fail
    refine (number_any g _ n cap l 4 _ HM.out (by omega) h4).mono ?_
    rintro e w' ⟨rfl, rfl⟩
    rw [HV.out]
    go_wp2_with fail
    all_goals
      go_ret2
      refine ⟨rfl, ?_⟩
      unfold advW advA
      simp [*, Addr.add]
  · have hcv : ∀ c, (convert 22 9 (.slice (some ⟨b, off + 4, none⟩) m c)).run Try.prog w = .ok (.string tx) w := fun c => by rw [htx]; exact conv_bytes _ _ _ _ _ hr4'
    have HT := Lib.hid htx; clear htx hm hr4 hr4' hv
    go_enter Try.func17, Try.ntmps17
    go_wp2_with fail
    refine (number_any g _ n cap l 4 _ HM.out (by omega) h4).mono ?_
    rintro e w' ⟨rfl, rfl⟩
    rw [HV.out]
    go_wp2_with fail
    all_goals
      go_ret2
      refine ⟨rfl, ?_⟩
      unfold advW advA
      simp [*, Addr.add]
theorem rtext_short (g : Nat) (A : Option Addr) (n cap : Nat) (l : List UInt8) (w : World) (hm : RD w g A n cap l) (h : n < 4 ∨ n < 4 + leV (l.take 4)) (hn : n ≤ 140737488355328) :
    Calls Try.prog 17 #[.pointer (some ⟨g, 0, none⟩)] w fun e w' => e = .returned (.tuple #[.string ByteArray.empty, .int .i64 20]) ∧ w = w' := by
  have c0 : w.cell? ⟨g, 0, none⟩ = some (.slice A n cap) := hm.blk.cell 0
  have HM := Lib.hid hm; clear hm
  by_cases h4 : n < 4
  · have t1 : decide ((n : Int) < 4) = true := by simp; omega
    clear h
    go_enter Try.func17, Try.ntmps17
    go_wp2_with fail
    go_ret2
    exact ⟨rfl, rfl⟩
  · have hbd : leV (l.take 4) ≤ 4294967295 := by
      have := leV_lt (l.take 4)
      rw [List.length_take, Nat.min_eq_left (by have := HM.out.len; omega)] at this
      omega
    obtain ⟨m, hm⟩ : ∃ m, m = leV (l.take 4) := ⟨_, rfl⟩
    rw [← hm] at h hbd
    have t1 : decide ((n : Int) < 4) = false := by simp; omega
    have t2 : decide ((n : Int) - 4 < (m : Int)) = true := by simp; omega
    have HV := Lib.hid hm; clear hm h
    go_enter Try.func17, Try.ntmps17
    go_wp2_with fail
    refine (number_any g _ n cap l 4 _ HM.out (by omega) (by omega)).mono ?_
    rintro e w' ⟨rfl, rfl⟩
    rw [← HV.out]
    go_wp2_with fail
    go_ret2
    exact ⟨rfl, rfl⟩
end Go.Proofs.Ytngaohmfedoeeaa
