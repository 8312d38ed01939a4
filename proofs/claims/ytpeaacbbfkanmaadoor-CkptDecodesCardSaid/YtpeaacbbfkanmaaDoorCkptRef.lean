/- THE WALKS of package ckpt's reference: low, Sum, Summed. -/
import Derived.Test.YtpeaacbbfkanmaaDoorCkptOwn
import Derived.Test.YtpeaacbbfkanmaaDoorCrcMath
import Derived.Test.YtpeaacbbfkanmaaDoorCrcPoly
namespace Go.Proofs.YtpeaacbbfkanmaaDoor
open Go.RowKit
set_option maxRecDepth 100000 in
set_option maxHeartbeats 2000000 in
theorem low_any (base : Nat) (v : Value) (l : List UInt8) (n x : Nat) (w : World) (hob : OB w base v l) (hbase : base ≤ w.heap.size) (h8 : n ≤ 8) (hx : x < 9223372036854775808) (hlen : l.length ≤ 1048576) :
    Calls Tryd.prog 18 #[v, .int .i64 (x : Int), .int .i64 (n : Int)] w (LayPost base v (l ++ leB x n) w) := by
  have HO := Lib.hid hob; clear hob
  have HX := Lib.hid hx; clear hx
  have HL := Lib.hid hlen; clear hlen
  go_enter Tryd.func18, Tryd.ntmps18
  go_wp2_with fail
  go_loopw [0, 1, 7] (fun bv xv iv W => ∃ k : Nat, k ≤ n ∧ iv = .int .i64 (k : Int) ∧ ∃ y : Nat, Hid (y = x / 256 ^ k) ∧ xv = .int .i64 (y : Int) ∧ Hid (OB W base bv (l ++ leB x k)) ∧ Hid (Chg (fun k => v.ownBlock = some k) w W) ∧ Hid (FreshV w v bv)) (fun _ _ iv _ => n - (intOf iv).toNat)
  case atStart => exact ⟨0, Nat.zero_le _, rfl, x, (by simp [Hid]), rfl, Lib.hid (by simpa [leB] using HO.out), Lib.hid (Chg.refl _ _), Lib.hid (fun k hk => .inl hk)⟩
  case round =>
    obtain ⟨k, hk, rfl, y, HY, rfl, HOB, HC, HF⟩ := hrel
    by_cases hlt : k < n
    · obtain ⟨c, hc⟩ : ∃ c : UInt8, c = UInt8.ofNat y := ⟨_, rfl⟩
      have hcy : (y : Int) % 256 = (c.toNat : Int) := by rw [hc, UInt8.toNat_ofNat']; simp
      have hcw : (c.toNat : Int) % 256 = (c.toNat : Int) := by have := c.toNat_lt; omega
      have hsn : leB x (k + 1) = leB x k ++ [c] := by rw [leB, hc, HY.out]
      have HSN := Lib.hid hsn
      have HYX : Hid (y < 9223372036854775808) := Lib.hid (by rw [HY.out]; exact Nat.lt_of_le_of_lt (Nat.div_le_self _ _) HX.out)
      clear hc hsn
      have hlk : (l ++ leB x k).length = l.length + k := by rw [List.length_append, leB_length]
      have HLK := Lib.hid hlk; clear hlk
      have B0 : Below wr.heap.size wr (wr.alloc (.cells #[.int .u8 (c.toNat : Int)] 5)) := (Below.refl _ _).alloc (Nat.le_refl _) _
      have O1 := Lib.hid (HOB.out.keep B0)
      have R1 : Hid (RB (wr.alloc (.cells #[.int .u8 (c.toNat : Int)] 5)) (some ⟨wr.heap.size, 0, none⟩) 1 [c]) := Lib.hid (RB.new' wr 5 (0, 0) #[.int .u8 (c.toNat : Int)] [c] rfl 1 wr.heap.size rfl rfl)
      have C0 := Lib.hid ((HC.out.alloc (.cells #[.int .u8 (c.toNat : Int)] 5)))
      have hbs : base ≤ (wr.alloc (.cells #[.int .u8 (c.toNat : Int)] 5)).heap.size := by have := HC.out.size; simp; omega
      have HBS := Lib.hid hbs
      have hll : (l ++ leB x k).length + 1 ≤ 140737488355328 := by rw [HLK.out]; have := HL.out; omega
      have HLL := Lib.hid hll
      have HB0 := Lib.hid B0
      clear B0 hbs hll
      go_wp2_with ((at_builtin; go_must (refine append_bytes rfl (.tmp 13) (.tmp 17) rfl base u0 (l ++ leB x k) rfl O1.out (some ⟨wr.heap.size, 0, none⟩) 1 1 [c] rfl R1.out HLL.out HBS.out ?_); intro v3 w3 ho3 hg3 ha3; refine halt ?_))
      refine unhalt ?_
      have HN : Hid (OB w3 base v3 (l ++ leB x (k + 1))) := Lib.hid (by rw [HSN.out, ← List.append_assoc]; exact ho3)
      have HC3 : Hid (Chg (fun k => v.ownBlock = some k) w w3) := Lib.hid (C0.out.grown hg3 (fun q hq hlt => by
        rcases HF.out q hq with h | h
        · exact h
        · omega))
      have HF3 : Hid (FreshV w v v3) := Lib.hid (fun q hq => by
        rcases ha3 with h | h
        · rw [h] at hq; exact HF.out q hq
        · right
          rw [hq] at h
          have := Option.some.inj h
          have := C0.out.size
          omega)
      have HY2 : Hid (y / 256 = x / 256 ^ (k + 1)) := Lib.hid (by rw [HY.out, Nat.div_div_eq_div_mul, ← Nat.pow_succ])
      clear ho3 hg3 ha3
      go_wp2_with fail
      go_roundw
      case rel => exact ⟨k + 1, by omega, by go_num, y / 256, HY2, by congr 1; unfold RowKit.wrap64; have := HYX.out; push_cast; omega, HN, HC3, HF3⟩
      case measure => simp [intOf]; omega
    · go_wp2_with fail
      go_ret
      obtain rfl : k = n := by omega
      exact ⟨_, rfl, HOB.out, HC.out, HF.out⟩
set_option maxRecDepth 100000 in
set_option maxHeartbeats 2000000 in
theorem refSum_any (A : Option Addr) (n cap : Nat) (l : List UInt8) (w : World) (hl : RB w A n l) (hn : n ≤ 281474976710656) :
    Calls Tryd.prog 30 #[.slice A n cap] w fun e w' => e = .returned (.int .i64 (crcMoreR 0 l : Int)) ∧ w = w' := by
  have HL := Lib.hid hl; clear hl
  go_enter Tryd.func30, Tryd.ntmps30
  go_wp2_with fail
  go_loop [3, 4, 5] (fun x i _ => ∃ k : Nat, k ≤ n ∧ i = .int .i64 k ∧ ∃ u : Nat, u < 4294967296 ∧ Hid (u = crcOnR 4294967295 (l.take k)) ∧ x = .int .u32 u) (fun _ i _ => n - (intOf i).toNat)
  case atStart => exact ⟨0, Nat.zero_le _, rfl, 4294967295, by omega, rfl, rfl⟩
  case round =>
    obtain ⟨k, hk, rfl, u, hu, HU, rfl⟩ := hrel
    by_cases hlt : k < n
    · obtain ⟨b, off, rfl, hb, c, hc, hcell⟩ := HL.out.at_ hlt
      have HC := Lib.hid hc; clear hc
      have hcb : c.toNat < 4294967296 := by have := c.toNat_lt; omega
      have e1 : bits .xor .u32 (u : Int) (c.toNat : Int) = ((u ^^^ c.toNat : Nat) : Int) := u32_xor_nat _ _ hu hcb
      have hx1 : u ^^^ c.toNat < 4294967296 := xor_lt32 hu hcb
      generalize hg1 : u ^^^ c.toNat = x1 at *
      have G1 := Lib.hid hg1; clear hg1
      go_wp2_with fail
      go_loop [3, 5] (fun x i => ∃ k' : Nat, k' ≤ 8 ∧ i = .int .i64 k' ∧ ∃ y : Nat, y < 4294967296 ∧ Hid (y = crcBits k' x1) ∧ x = .int .u32 y) (fun _ i => 8 - (intOf i).toNat)
      case atStart => exact ⟨0, Nat.zero_le _, rfl, x1, hx1, rfl, rfl⟩
      case round =>
        obtain ⟨k', hk', rfl, y, hy, HY, rfl⟩ := hrel
        by_cases hlt' : k' < 8
        · have hyb := crcBit_lt hy
          have e2 := poly32 hy
          by_cases hodd : y % 2 = 1
          · have hb' : (((y : Int) % 2) == 1) = true := by rw [beq_iff_eq]; omega
            have hs := crcBit_odd hodd
            rw [← hs] at e2
            have HS := Lib.hid hs; clear hs
            go_wp2_with fail
            go_round
            case rel => exact ⟨k' + 1, by omega, by go_num, crcBit y, hyb, by rw [HY.out, crcBits_succ]; rfl, rfl⟩
            case measure => simp [intOf]; omega
          · have hb' : (((y : Int) % 2) == 1) = false := by rw [beq_eq_false_iff_ne]; omega
            have hs := crcBit_even hodd
            have HS := Lib.hid hs; clear hs
            clear e2
            go_wp2_with fail
            go_round
            case rel => exact ⟨k' + 1, by omega, by go_num, crcBit y, hyb, by rw [HY.out, crcBits_succ]; rfl, by rw [HS.out]; go_num⟩
            case measure => simp [intOf]; omega
        · go_wp2_with fail
          go_round
          case rel => exact ⟨k + 1, by omega, by go_num, y, hy, by
            rw [HY.out, show k' = 8 from by omega, ← G1.out, HU.out, take_snoc HC.out, crcOnR_snoc]; rfl, rfl⟩
          case measure => simp [intOf]; omega
    · have e5 := not32 hu
      have e6 := not32' hu
      have hnl := crcNot_lt hu
      have ew : RowKit.wrap64 ((crcNot u : Nat) : Int) = ((crcNot u : Nat) : Int) := by unfold RowKit.wrap64; omega
      go_wp2_with fail
      go_ret
      have e : k = n := by omega
      subst e
      have e7 : crcNot u = crcMoreR 0 l := by rw [HU.out, List.take_of_length_le (by have := HL.out.1; omega)]; rfl
      rw [← e7]
      exact ⟨rfl, rfl⟩
/-- the bytes with their sum behind them -/
theorem summed_any (base : Nat) (v : Value) (l : List UInt8) (w : World) (hob : OB w base v l) (hbase : base ≤ w.heap.size) (hlen : l.length ≤ 1048576) :
    Calls Tryd.prog 19 #[v] w (LayPost base v (l ++ leB (crcMore 0 l) 4) w) := by
  obtain ⟨A, cap, rfl, _, _, hr⟩ := hob.form
  have hs := fun w' (h : RB w' A l.length l) => refSum_any A l.length cap l w' h (by omega)
  have hcl : crcMore 0 l < 4294967296 := crcMore_lt _ (by omega)
  rw [← crcMore_eq] at hs
  have HS := Lib.hid (hs w hr)
  have HL := Lib.hid (low_any base _ l 4 (crcMore 0 l) w hob hbase (by omega) (by omega) hlen)
  clear hs hr hob
  obtain ⟨cv, hcv⟩ : ∃ cv, cv = crcMore 0 l := ⟨_, rfl⟩
  rw [← hcv] at HS HL ⊢
  clear hcv hcl
  go_enter Tryd.func19, Tryd.ntmps19
  go_wp2_with fail
  refine HS.out.mono ?_
  rintro e w' ⟨rfl, rfl⟩
  go_wp2_with fail
  refine HL.out.mono ?_
  intro e w2 hp
  obtain ⟨v2, rfl, h2⟩ := hp
  have HF : Hid (LayPost base (.slice A l.length cap) (l ++ leB cv 4) w (.returned v2) w2) := Lib.hid ⟨v2, rfl, h2⟩
  clear h2
  go_wp2_with fail
  go_ret
  exact HF.out
end Go.Proofs.YtpeaacbbfkanmaaDoor
