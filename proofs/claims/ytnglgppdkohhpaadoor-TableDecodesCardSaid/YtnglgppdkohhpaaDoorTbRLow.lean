/- THE WALK of the reference's Encode: the first number behind the constant's bytes. -/
import Derived.Test.YtnglgppdkohhpaaDoorTbRef
import Derived.Test.YtnglgppdkohhpaaDoorTbRRight
import Derived.Test.YtnglgppdkohhpaaDoorTbFull
namespace Go.Proofs.YtnglgppdkohhpaaDoor
open Go.RowKit
def LowQ (l : List UInt8) (w : World) (e : Ending) (w' : World) : Prop := ∃ v, e = .returned v ∧ OB w' w.heap.size v l ∧ Below w.heap.size w w'
set_option maxRecDepth 100000 in
set_option maxHeartbeats 2000000 in
theorem rlow_full (g x : Nat) (l : List UInt8) (w : World) (hr : RB w (some ⟨g, 0, none⟩) 8 l) (hx : x < 9223372036854775808) :
    Calls Tryd.prog 23 #[.slice (some ⟨g, 0, none⟩) 8 8, .int .i64 (x : Int), .int .i64 4] w (LowQ (l ++ leB x 4) w) := by
  have HR := Lib.hid hr; clear hr
  have HX := Lib.hid hx; clear hx
  go_enter Tryd.func23, Tryd.ntmps23
  go_wp2_with fail
  go_loopw [0, 1, 7] (fun bv xv iv W => ∃ k : Nat, k ≤ 4 ∧ iv = .int .i64 (k : Int) ∧ ∃ y : Nat, Hid (y = x / 256 ^ k) ∧ xv = .int .i64 (y : Int) ∧ ((k = 0 ∧ bv = .slice (some ⟨g, 0, none⟩) 8 8 ∧ w = W) ∨ (1 ≤ k ∧ Hid (OB W w.heap.size bv (l ++ leB x k)) ∧ Hid (Below w.heap.size w W)))) (fun _ _ iv _ => 4 - (intOf iv).toNat)
  case atStart => exact ⟨0, by omega, rfl, x, (by simp [Hid]), rfl, .inl ⟨rfl, rfl, rfl⟩⟩
  case round =>
    obtain ⟨k, hk, rfl, y, HY, rfl, hor⟩ := hrel
    by_cases hlt : k < 4
    · obtain ⟨c, hc⟩ : ∃ c : UInt8, c = UInt8.ofNat y := ⟨_, rfl⟩
      have hcy : (y : Int) % 256 = (c.toNat : Int) := by rw [hc, UInt8.toNat_ofNat']; simp
      have hcw : (c.toNat : Int) % 256 = (c.toNat : Int) := by have := c.toNat_lt; omega
      have hsn : leB x (k + 1) = leB x k ++ [c] := by rw [leB, hc, HY.out]
      have HSN := Lib.hid hsn
      have HYX : Hid (y < 9223372036854775808) := Lib.hid (by rw [HY.out]; exact Nat.lt_of_le_of_lt (Nat.div_le_self _ _) HX.out)
      have HY2 : Hid (y / 256 = x / 256 ^ (k + 1)) := Lib.hid (by rw [HY.out, Nat.div_div_eq_div_mul, ← Nat.pow_succ])
      clear hc hsn
      have R1 : Hid (RB (wr.alloc (.cells #[.int .u8 (c.toNat : Int)] 5)) (some ⟨wr.heap.size, 0, none⟩) 1 [c]) := Lib.hid (RB.new' wr 5 (0, 0) #[.int .u8 (c.toNat : Int)] [c] rfl 1 wr.heap.size rfl rfl)
      rcases hor with ⟨rfl, rfl, rfl⟩ | ⟨hk1, HOB, HBW⟩
      · have L1 := Lib.hid (HR.out.keep (below_alloc w (.cells #[.int .u8 (c.toNat : Int)] 5)))
        go_wp2_with ((at_builtin; go_must (refine append_full rfl (.tmp 13) (.tmp 17) rfl g 0 8 8 l rfl L1.out w.heap.size 0 1 1 [c] rfl R1.out (by decide) (by decide) ?_); intro v3 w3 ho3 hg3; refine halt ?_))
        refine unhalt ?_
        have HN : Hid (OB w3 w.heap.size v3 (l ++ leB x 1)) := Lib.hid (by rw [HSN.out]; exact OB.less ho3 (by simp))
        have HB3 : Hid (Below w.heap.size w w3) := Lib.hid ((below_alloc w _).grown hg3 (by simp) (fun q hq => by cases hq))
        clear ho3 hg3 L1 R1
        go_wp2_with fail
        go_roundw
        case rel => exact ⟨1, by omega, rfl, y / 256, HY2, by congr 1; unfold RowKit.wrap64; have := HYX.out; push_cast; omega, .inr ⟨by omega, HN, HB3⟩⟩
        case measure => simp [intOf]
      · have hlk : (l ++ leB x k).length + 1 ≤ 140737488355328 := by rw [List.length_append, leB_length, HR.out.1]; omega
        have O1 := Lib.hid (HOB.out.keep (below_alloc wr (.cells #[.int .u8 (c.toNat : Int)] 5)))
        have BA : Hid (Below w.heap.size w (wr.alloc (.cells #[.int .u8 (c.toNat : Int)] 5))) := Lib.hid (HBW.out.alloc HBW.out.size _)
        have HLK := Lib.hid hlk; clear hlk
        go_wp2_with ((at_builtin; go_must (refine append_bytes rfl (.tmp 13) (.tmp 17) rfl w.heap.size u0 (l ++ leB x k) rfl O1.out (some ⟨wr.heap.size, 0, none⟩) 1 1 [c] rfl R1.out HLK.out BA.out.size ?_); intro v3 w3 ho3 hg3 ha3; refine halt ?_))
        refine unhalt ?_
        have HN : Hid (OB w3 w.heap.size v3 (l ++ leB x (k + 1))) := Lib.hid (by rw [HSN.out, ← List.append_assoc]; exact ho3)
        have HB3 : Hid (Below w.heap.size w w3) := Lib.hid (BA.out.grown hg3 BA.out.size (fun q hq => (O1.out.lt q hq).1))
        clear ho3 hg3 ha3 O1 BA R1
        go_wp2_with fail
        go_roundw
        case rel => exact ⟨k + 1, by omega, by go_num, y / 256, HY2, by congr 1; unfold RowKit.wrap64; have := HYX.out; push_cast; omega, .inr ⟨by omega, HN, HB3⟩⟩
        case measure => simp [intOf]; omega
    · obtain rfl : k = 4 := by omega
      rcases hor with ⟨h0, _⟩ | ⟨_, HOB, HBW⟩
      · cases h0
      go_wp2_with fail
      go_ret
      exact ⟨_, rfl, HOB.out, HBW.out⟩
end Go.Proofs.YtnglgppdkohhpaaDoor
