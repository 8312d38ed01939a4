/- THE WALKS of package rec's reader. -/
import Derived.Test.YtnglgppdkohhpaaDoorRecWalk
namespace Go.Proofs.YtnglgppdkohhpaaDoor
open Go.RowKit
theorem leV_take (l : List UInt8) (k : Nat) (hk : k ≤ 8) : leV (l.take k) < 18446744073709551616 := by
  have h1 := leV_lt (l.take k)
  have h2 := pow_le8 (k := (l.take k).length) (by simp; omega)
  omega
theorem or_cast {u c k : Nat} (hu : u < 256 ^ k) (hc : c < 256) (hk : k < 8) : bits .or .u64 (u : Int) (IntKind.u64.wrap ((c : Int) * 2 ^ (8 * k))) = ((u + c * 256 ^ k : Nat) : Int) := by
  have h1 := byte_pow hc hk
  have e : ((c : Int) * 2 ^ (8 * k)) = ((c * 256 ^ k : Nat) : Int) := by rw [← pow_256]; simp
  rw [e, IntWalk.u64_in _ (by omega), u64_or_nat _ _ (by have := pow_le7 hk; omega) h1, or_step hu]
set_option maxHeartbeats 1000000 in
theorem number_any (g : Nat) (A : Option Addr) (n cap : Nat) (l : List UInt8) (m : Nat) (w : World) (hm : RD w g A n cap l) (h8 : m ≤ 8) (hmn : m ≤ n) :
    Calls Tryd.prog 42 #[.pointer (some ⟨g, 0, none⟩), .int .i64 (m : Int)] w fun e w' => e = .returned (.int .u64 (leV (l.take m) : Int)) ∧ w = w' := by
  have c0 : w.cell? ⟨g, 0, none⟩ = some (.slice A n cap) := hm.blk.cell 0
  have HM := Lib.hid hm; clear hm
  go_enter Tryd.func42, Tryd.ntmps42
  go_wp2_with fail
  go_loop [5, 8] (fun v i => ∃ k : Nat, k ≤ m ∧ i = .int .i64 k ∧ ∃ u : Nat, Hid (u = leV (l.take k)) ∧ v = .int .u64 u) (fun _ i => m - (intOf i).toNat)
  case atStart => exact ⟨0, Nat.zero_le _, rfl, 0, rfl, rfl⟩
  case round =>
    obtain ⟨k, hk, rfl, u, HU, rfl⟩ := hrel
    by_cases hlt : k < m
    · obtain ⟨b, off, rfl, hb, c, hc, hcell⟩ := HM.out.rd.at_ (show k < n by omega)
      have hcl : c.toNat < 256 := c.toNat_lt
      have hul : u < 256 ^ k := by
        have := leV_lt (l.take k)
        rw [List.length_take, Nat.min_eq_left (by have := HM.out.rd.1; omega)] at this
        rw [HU.out]; exact this
      have e1 := or_cast hul hcl (show k < 8 by omega)
      have hst : leV (l.take (k + 1)) = u + c.toNat * 256 ^ k := by
        rw [take_snoc hc, leV_snoc, HU.out, List.length_take, Nat.min_eq_left (by have := HM.out.rd.1; omega)]
      generalize u + c.toNat * 256 ^ k = u2 at *
      have HS := Lib.hid hst; clear hst hul hc
      go_wp2_with fail
      go_round
      case rel => exact ⟨k + 1, by omega, by go_num, u2, Lib.hid HS.out.symm, rfl⟩
      case measure => simp [intOf]; omega
    · obtain rfl : k = m := by omega
      go_wp2_with fail
      go_ret
      rw [HU.out]
      exact ⟨rfl, rfl⟩
def advA (A : Option Addr) (cap k : Nat) : Option Addr := if cap = k then A else A.map (·.add k)
theorem RD.adv {w : World} {g : Nat} {A : Option Addr} {n cap : Nat} {l : List UInt8} (h : RD w g A n cap l) {k : Nat} (hk : k ≤ n) :
    RD (w.setCell ⟨g, 0, none⟩ (.slice (advA A cap k) (n - k) (cap - k))) g (advA A cap k) (n - k) (cap - k) (l.drop k) := by
  have hc := h.hc
  refine ⟨by simpa using h.blk.set_ 0 (.slice (advA A cap k) (n - k) (cap - k)), ?_, by omega⟩
  have h2 := h.rd.drop (cap := cap) hk hc
  have hnb := h.blk.nobytes h.rd (fun i x => by
    match i with
    | 0 => simp
    | i + 1 => simp)
  refine RB.set_far h2 (fun hp ad e => ?_) _
  have hne : 0 < n := by omega
  split at e
  · exact hnb hne ad e
  · cases A with
    | none => cases e
    | some a =>
      obtain rfl := Option.some.inj e
      have hb : (a.add k).block = a.block := by unfold Addr.add; split <;> rfl
      have := hnb hne a rfl
      show (a.add k).block ≠ g
      rw [hb]; exact this
theorem RD.len {w : World} {g : Nat} {A : Option Addr} {n cap : Nat} {l : List UInt8} (h : RD w g A n cap l) : l.length = n := h.rd.1
def advW (w : World) (g : Nat) (A : Option Addr) (n cap k : Nat) : World := w.setCell ⟨g, 0, none⟩ (.slice (advA A cap k) (n - k) (cap - k))
theorem rnum_ok (g : Nat) (A : Option Addr) (n cap : Nat) (l : List UInt8) (m : Nat) (w : World) (hm : RD w g A n cap l) (h1 : 1 ≤ m) (h8 : m ≤ 8) (hmn : m ≤ n) :
    Calls Tryd.prog 39 #[.pointer (some ⟨g, 0, none⟩), .int .i64 (m : Int)] w fun e w' => e = .returned (.tuple #[.int .u64 (leV (l.take m) : Int), .int .i64 0]) ∧ advW w g A n cap m = w' := by
  have c0 : w.cell? ⟨g, 0, none⟩ = some (.slice A n cap) := hm.blk.cell 0
  have f0 := hm.blk.frozen 0
  have hc := hm.hc
  have HM := Lib.hid hm; clear hm
  go_enter Tryd.func39, Tryd.ntmps39
  go_wp2_with fail
  refine (isWidth_ok m _ h1 h8).mono ?_
  rintro e w' ⟨rfl, rfl⟩
  go_wp2_with fail
  refine (number_any g A n cap l m _ HM.out h8 hmn).mono ?_
  rintro e w' ⟨rfl, rfl⟩
  go_wp2_with fail
  all_goals
    go_ret2
    refine ⟨rfl, ?_⟩
    unfold advW advA
    simp [*]
theorem rnum_wide (g : Nat) (m : Int) (w : World) (h : m < 1 ∨ 8 < m) :
    Calls Tryd.prog 39 #[.pointer (some ⟨g, 0, none⟩), .int .i64 m] w fun e w' => e = .returned (.tuple #[.int .u64 0, .int .i64 21]) ∧ w = w' := by
  have H := Lib.hid h; clear h
  go_enter Tryd.func39, Tryd.ntmps39
  go_wp2_with fail
  refine (isWidth_bad m _ H.out).mono ?_
  rintro e w' ⟨rfl, rfl⟩
  go_wp2_with fail
  go_ret2
  exact ⟨rfl, rfl⟩
theorem rnum_short (g : Nat) (A : Option Addr) (n cap : Nat) (l : List UInt8) (m : Nat) (w : World) (hm : RD w g A n cap l) (h1 : 1 ≤ m) (h8 : m ≤ 8) (hmn : n < m) :
    Calls Tryd.prog 39 #[.pointer (some ⟨g, 0, none⟩), .int .i64 (m : Int)] w fun e w' => e = .returned (.tuple #[.int .u64 0, .int .i64 20]) ∧ w = w' := by
  have c0 : w.cell? ⟨g, 0, none⟩ = some (.slice A n cap) := hm.blk.cell 0
  clear hm
  go_enter Tryd.func39, Tryd.ntmps39
  go_wp2_with fail
  refine (isWidth_ok m _ h1 h8).mono ?_
  rintro e w' ⟨rfl, rfl⟩
  go_wp2_with fail
  go_ret2
  exact ⟨rfl, rfl⟩
theorem rtake_ok (g : Nat) (A : Option Addr) (n cap : Nat) (l : List UInt8) (m : Nat) (w : World) (hm : RD w g A n cap l) (hmn : m ≤ n) :
    Calls Tryd.prog 38 #[.pointer (some ⟨g, 0, none⟩), .int .i64 (m : Int)] w fun e w' => e = .returned (.tuple #[.slice A m m, .int .i64 0]) ∧ advW w g A n cap m = w' := by
  have c0 : w.cell? ⟨g, 0, none⟩ = some (.slice A n cap) := hm.blk.cell 0
  have f0 := hm.blk.frozen 0
  have hc := hm.hc
  clear hm
  go_enter Tryd.func38, Tryd.ntmps38
  go_wp2_with fail
  all_goals
    go_ret2
    refine ⟨rfl, ?_⟩
    unfold advW advA
    simp [*]
theorem rtake_neg (g : Nat) (m : Int) (w : World) (h : m < 0) :
    Calls Tryd.prog 38 #[.pointer (some ⟨g, 0, none⟩), .int .i64 m] w fun e w' => e = .returned (.tuple #[.slice none 0 0, .int .i64 1]) ∧ w = w' := by
  go_enter Tryd.func38, Tryd.ntmps38
  go_wp2_with fail
  go_ret2
  exact ⟨rfl, rfl⟩
theorem rtake_short (g : Nat) (A : Option Addr) (n cap : Nat) (l : List UInt8) (m : Int) (w : World) (hm : RD w g A n cap l) (hmn : (n : Int) < m) :
    Calls Tryd.prog 38 #[.pointer (some ⟨g, 0, none⟩), .int .i64 m] w fun e w' => e = .returned (.tuple #[.slice none 0 0, .int .i64 20]) ∧ w = w' := by
  have c0 : w.cell? ⟨g, 0, none⟩ = some (.slice A n cap) := hm.blk.cell 0
  clear hm
  go_enter Tryd.func38, Tryd.ntmps38
  go_wp2_with fail
  go_ret2
  exact ⟨rfl, rfl⟩
end Go.Proofs.YtnglgppdkohhpaaDoor
