/- The bit step's polynomial as the walk spells it. -/
import Derived.Test.YtnglgppdkohhpaaDoorCrcWalk
namespace Go.Proofs.YtnglgppdkohhpaaDoor
open Go.RowKit
theorem poly32 {x : Nat} (h : x < 4294967296) : bits .xor .u32 ((x : Int) / 2) 3988292384 = ((x / 2 ^^^ 3988292384 : Nat) : Int) := by
  have := u32_xor_nat (x / 2) 3988292384 (by omega) (by omega)
  rw [show ((x : Int) / 2) = ((x / 2 : Nat) : Int) from by omega]; exact this
theorem crcBit_odd {x : Nat} (h : x % 2 = 1) : crcBit x = x / 2 ^^^ 3988292384 := by unfold crcBit; rw [if_pos h]
theorem crcBit_even {x : Nat} (h : ¬ x % 2 = 1) : crcBit x = x / 2 := by unfold crcBit; rw [if_neg h]

end Go.Proofs.YtnglgppdkohhpaaDoor
