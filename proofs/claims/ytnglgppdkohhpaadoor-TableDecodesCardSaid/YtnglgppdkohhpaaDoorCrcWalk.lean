/- THE WALKS of package crc and of its reference. -/
import Derived.Test.YtnglgppdkohhpaaDoorRows
import Derived.Test.YtnglgppdkohhpaaDoorBase
import Derived.Test.YtnglgppdkohhpaaDoorCrcFns
import Derived.WalkKit
import Derived.Laws.BitsAllLaws
import Derived.Lib.Hide
namespace Go.Proofs.YtnglgppdkohhpaaDoor
open Go.RowKit
/-- the table lies in block 0 -/
def CrcTab (w : World) : Prop := ∀ k, k < 16 → w.cell? ⟨0, k, none⟩ = some (.int .u32 (crcHalf k : Int))

theorem CrcTab.drewN {w : World} (h : CrcTab w) (n : Nat) : CrcTab (w.drewN n) := h
theorem and15 {x : Nat} (h : x < 4294967296) : bits .and .u32 (x : Int) 15 = ((x % 16 : Nat) : Int) := by
  have := u32_and_nat x 15 h (by omega); rw [nat_mask4] at this; exact this

set_option maxHeartbeats 400000 in
theorem on_any (A : Option Addr) (n cap : Nat) (l : List UInt8) (v : Nat) (w : World) (hT : CrcTab w) (hl : RB w A n l) (hn : n ≤ 281474976710656) (hv : v < 4294967296) :
    Calls Tryd.prog 41 #[.int .u32 (v : Int), .slice A n cap] w fun e w' => e = .returned (.int .u32 (crcOn v l : Int)) ∧ w = w' := by
  have HT := Lib.hid hT; clear hT
  have HL := Lib.hid hl; clear hl
  go_enter Tryd.func41, Tryd.ntmps41
  go_wp2
  go_loop [0, 9] (fun x i => ∃ k : Nat, k ≤ n ∧ i = .int .i64 k ∧ ∃ u : Nat, u < 4294967296 ∧ Hid (u = crcOn v (l.take k)) ∧ x = .int .u32 u) (fun _ i => n - (intOf i).toNat)
  case atStart => exact ⟨0, Nat.zero_le _, rfl, v, hv, rfl, rfl⟩
  case round =>
    obtain ⟨k, hk, rfl, u, hu, HU, rfl⟩ := hrel
    by_cases hlt : k < n
    · obtain ⟨b, off, rfl, hb, c, hc, hcell⟩ := HL.out.at_ hlt
      have HC := Lib.hid hc; clear hc
      have hcb : c.toNat < 4294967296 := by have := c.toNat_lt; omega
      have e1 : bits .xor .u32 (u : Int) (c.toNat : Int) = ((u ^^^ c.toNat : Nat) : Int) := u32_xor_nat _ _ hu hcb
      have hx1 : u ^^^ c.toNat < 4294967296 := xor_lt32 hu hcb
      generalize hg1 : u ^^^ c.toNat = x1 at *
      have e2 : bits .and .u32 (x1 : Int) 15 = ((x1 % 16 : Nat) : Int) := and15 hx1
      have hj1 : x1 % 16 < 16 := by omega
      have c1 := HT.out (x1 % 16) hj1
      have e3 : bits .xor .u32 (crcHalf (x1 % 16) : Int) ((x1 : Int) / 16) = ((crcNib x1 : Nat) : Int) := by
        have := u32_xor_nat (crcHalf (x1 % 16)) (x1 / 16) (crcHalf_lt _) (by omega); rw [show ((x1 : Int) / 16) = ((x1 / 16 : Nat) : Int) from by omega]; exact this
      have hx2 : crcNib x1 < 4294967296 := crcNib_lt hx1
      generalize hg2 : x1 % 16 = j1 at *
      generalize hg3 : crcNib x1 = x2 at *
      have e4 : bits .and .u32 (x2 : Int) 15 = ((x2 % 16 : Nat) : Int) := and15 hx2
      have hj2 : x2 % 16 < 16 := by omega
      have c2 := HT.out (x2 % 16) hj2
      have e5 : bits .xor .u32 (crcHalf (x2 % 16) : Int) ((x2 : Int) / 16) = ((crcNib x2 : Nat) : Int) := by
        have := u32_xor_nat (crcHalf (x2 % 16)) (x2 / 16) (crcHalf_lt _) (by omega); rw [show ((x2 : Int) / 16) = ((x2 / 16 : Nat) : Int) from by omega]; exact this
      have hx3 : crcNib x2 < 4294967296 := crcNib_lt hx2
      generalize hg4 : x2 % 16 = j2 at *
      generalize hg5 : crcNib x2 = x3 at *
      have G1 := Lib.hid hg1; clear hg1
      have G2 := Lib.hid hg2; clear hg2
      have G3 := Lib.hid hg3; clear hg3
      have G4 := Lib.hid hg4; clear hg4
      have G5 := Lib.hid hg5; clear hg5
      go_wp2
      go_round
      case rel => exact ⟨k + 1, by omega, by go_num, x3, hx3, by rw [← G5.out, ← G3.out, ← G1.out, HU.out, take_snoc HC.out, crcOn_snoc]; rfl, rfl⟩
      case measure => simp [intOf]; omega
    · go_wp2
      go_ret
      have e : k = n := by omega
      subst e
      rw [HU.out, List.take_of_length_le (by have := HL.out.1; omega)]
      exact ⟨rfl, rfl⟩
theorem not32 {x : Nat} (h : x < 4294967296) : bits .xor .u32 IntKind.u32.max (x : Int) = ((crcNot x : Nat) : Int) := by
  have := u32_xor_nat 4294967295 x (by omega) h
  rw [show IntKind.u32.max = ((4294967295 : Nat) : Int) from by decide, this, Nat.xor_comm]; rfl
theorem not32' {x : Nat} (h : x < 4294967296) : bits .xor .u32 (x : Int) 4294967295 = ((crcNot x : Nat) : Int) := by
  have := u32_xor_nat x 4294967295 h (by omega)
  rw [show (4294967295 : Int) = ((4294967295 : Nat) : Int) from rfl, this]; rfl

theorem more_any (A : Option Addr) (n cap : Nat) (l : List UInt8) (v : Nat) (w : World) (hT : CrcTab w) (hl : RB w A n l) (hn : n ≤ 281474976710656) (hv : v < 4294967296) :
    Calls Tryd.prog 36 #[.int .u32 (v : Int), .slice A n cap] w fun e w' => e = .returned (.int .u32 (crcMore v l : Int)) ∧ w = w' := by
  have HT := Lib.hid hT; clear hT
  have HL := Lib.hid hl; clear hl
  have e1 := not32 hv
  have e2 := not32 (crcOn_lt l (crcNot_lt hv))
  go_enter Tryd.func36, Tryd.ntmps36
  go_wp2_with fail
  refine (on_any _ _ _ l (crcNot v) _ HT.out HL.out hn (crcNot_lt hv)).mono ?_
  rintro e w' ⟨rfl, rfl⟩
  go_wp2_with fail
  go_ret
  exact ⟨rfl, rfl⟩

theorem of_any (A : Option Addr) (n cap : Nat) (l : List UInt8) (w : World) (hT : CrcTab w) (hl : RB w A n l) (hn : n ≤ 281474976710656) :
    Calls Tryd.prog 28 #[.slice A n cap] w fun e w' => e = .returned (.int .u32 (crcMore 0 l : Int)) ∧ w = w' := by
  have HT := Lib.hid hT; clear hT
  have HL := Lib.hid hl; clear hl
  go_enter Tryd.func28, Tryd.ntmps28
  go_wp2_with fail
  refine (more_any _ _ _ l 0 _ HT.out HL.out hn (by omega)).mono ?_
  rintro e w' ⟨rfl, rfl⟩
  go_wp2_with fail
  go_ret
  exact ⟨rfl, rfl⟩

end Go.Proofs.YtnglgppdkohhpaaDoor
