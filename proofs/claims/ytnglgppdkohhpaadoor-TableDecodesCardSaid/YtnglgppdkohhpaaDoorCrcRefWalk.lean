/- THE WALKS of package crc's reference. -/
import Derived.Test.YtnglgppdkohhpaaDoorCrcPoly
namespace Go.Proofs.YtnglgppdkohhpaaDoor
open Go.RowKit
set_option maxHeartbeats 400000 in
theorem refMore_any (A : Option Addr) (n cap : Nat) (l : List UInt8) (v : Nat) (w : World) (hl : RB w A n l) (hn : n ≤ 281474976710656) (hv : v < 4294967296) :
    Calls Tryd.prog 40 #[.int .u32 (v : Int), .slice A n cap] w fun e w' => e = .returned (.int .u32 (crcMoreR v l : Int)) ∧ w = w' := by
  have HL := Lib.hid hl; clear hl
  have e0 : bits .xor .u32 (v : Int) 4294967295 = ((crcNot v : Nat) : Int) := not32' hv
  have hv0 := crcNot_lt hv
  generalize hg0 : crcNot v = v0 at *
  have G0 := Lib.hid hg0; clear hg0
  go_enter Tryd.func40, Tryd.ntmps40
  go_wp2
  go_loop [5, 6, 7] (fun x i _ => ∃ k : Nat, k ≤ n ∧ i = .int .i64 k ∧ ∃ u : Nat, u < 4294967296 ∧ Hid (u = crcOnR v0 (l.take k)) ∧ x = .int .u32 u) (fun _ i _ => n - (intOf i).toNat)
  case atStart => exact ⟨0, Nat.zero_le _, rfl, v0, hv0, rfl, rfl⟩
  case round =>
    obtain ⟨k, hk, rfl, u, hu, HU, rfl⟩ := hrel
    by_cases hlt : k < n
    · obtain ⟨b, off, rfl, hb, c, hc, hcell⟩ := HL.out.at_ hlt
      have HC := Lib.hid hc; clear hc
      have hcb : c.toNat < 4294967296 := by have := c.toNat_lt; omega
      have e1 : bits .xor .u32 (u : Int) (c.toNat : Int) = ((u ^^^ c.toNat : Nat) : Int) := u32_xor_nat _ _ hu hcb
      have hx1 : u ^^^ c.toNat < 4294967296 := xor_lt32 hu hcb
      generalize hg1 : u ^^^ c.toNat = x1 at *
      have G1 := Lib.hid hg1; clear hg1
      go_wp2
      go_loop [5, 7] (fun x i => ∃ k' : Nat, k' ≤ 8 ∧ i = .int .i64 k' ∧ ∃ y : Nat, y < 4294967296 ∧ Hid (y = crcBits k' x1) ∧ x = .int .u32 y) (fun _ i => 8 - (intOf i).toNat)
      case atStart => exact ⟨0, Nat.zero_le _, rfl, x1, hx1, rfl, rfl⟩
      case round =>
        obtain ⟨k', hk', rfl, y, hy, HY, rfl⟩ := hrel
        by_cases hlt' : k' < 8
        · have hyb := crcBit_lt hy
          have e2 := poly32 hy
          by_cases hodd : y % 2 = 1
          · have hb' : (((y : Int) % 2) == 1) = true := by rw [beq_iff_eq]; omega
            have hs := crcBit_odd hodd
            rw [← hs] at e2
            have HS := Lib.hid hs; clear hs
            go_wp2
            go_round
            case rel => exact ⟨k' + 1, by omega, by go_num, crcBit y, hyb, by rw [HY.out, crcBits_succ]; rfl, rfl⟩
            case measure => simp [intOf]; omega
          · have hb' : (((y : Int) % 2) == 1) = false := by rw [beq_eq_false_iff_ne]; omega
            have hs := crcBit_even hodd
            have HS := Lib.hid hs; clear hs
            clear e2
            go_wp2
            go_round
            case rel => exact ⟨k' + 1, by omega, by go_num, crcBit y, hyb, by rw [HY.out, crcBits_succ]; rfl, by rw [HS.out]; go_num⟩
            case measure => simp [intOf]; omega
        · go_wp2
          go_round
          case rel => exact ⟨k + 1, by omega, by go_num, y, hy, by
            rw [HY.out, show k' = 8 from by omega, ← G1.out, HU.out, take_snoc HC.out, crcOnR_snoc]; rfl, rfl⟩
          case measure => simp [intOf]; omega
    · have e5 := not32' hu
      go_wp2
      go_ret
      have e : k = n := by omega
      subst e
      rw [HU.out, List.take_of_length_le (by have := HL.out.1; omega), ← G0.out]
      exact ⟨rfl, rfl⟩
end Go.Proofs.YtnglgppdkohhpaaDoor
