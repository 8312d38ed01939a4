/- THE WALK of heronlaw01.CrcBursts. -/
import Derived.Test.YtnnlbnonffjjiaaDoorCrcKnown
import Derived.Test.YtnnlbnonffjjiaaDoorCrcMath
import Derived.Test.YtnnlbnonffjjiaaDoorMem
import Derived.RegionTactic
import Derived.ChangeAlike
namespace Go.Proofs.YtnnlbnonffjjiaaDoor
open Go.RowKit
theorem xor_bit (c : UInt8) (j : Nat) (hj : j < 8) : bits .xor .u8 (c.toNat : Int) ((2 : Int) ^ j % 256) = ((UInt8.ofNat (c.toNat ^^^ 2 ^ j)).toNat : Int) := by
  have h2 : 2 ^ j < 2 ^ 8 := Nat.pow_lt_pow_right (by omega) hj
  have h2 : 2 ^ j < 256 := h2
  have hb : c.toNat ^^^ 2 ^ j < 256 := Nat.xor_lt_two_pow (n := 8) c.toNat_lt (by simpa using h2)
  rw [UInt8.toNat_ofNat_of_lt' hb, ← u8_xor_nat _ _ c.toNat_lt h2]
  congr 1
  have e : ((2 ^ j : Nat) : Int) = (2 : Int) ^ j := by simp
  rw [← e]
  generalize 2 ^ j = q at *
  omega
set_option maxHeartbeats 1000000 in
theorem bursts_any (A : Option Addr) (n cap : Nat) (b : List UInt8) (x : Int) (mask : Nat) (w : World) (hT : CrcTab w) (hb : RB w A n b) (hn : n ≤ 140737488351232) (hx0 : -9223372036854775808 ≤ x) (hx1 : x ≤ 9223372036854775807) (hs : mask < 4294967296) :
    Calls Tryd.prog 5 #[.slice A n cap, .int .i64 x, .int .u32 (mask : Int)] w fun e w' => e = .returned (.bool true) ∧ Below w.heap.size w w' := by
  have HT := Lib.hid hT; clear hT
  have HB := Lib.hid hb; clear hb
  go_enter Tryd.func5, Tryd.ntmps5
  go_wp2_with fail
  refine (known_any _ HT.out).mono ?_
  rintro e w1 ⟨rfl, hb1⟩
  have R1 := Lib.hid ((HB.out.keep hb1).alloc (.cells #[] 5))
  have O1 := Lib.hid (OB.fresh (w := w1) rfl hb1.size)
  have Z1 := hb1.size
  have L1 : ([] : List UInt8).length + n ≤ 140737488355328 := by simp; omega
  go_wp2_with ((at_builtin; go_must (refine append_bytes rfl (.tmp 15) (.tmp 16) rfl w.heap.size (.slice (some ⟨w1.heap.size, 0, none⟩) 0 0) [] rfl O1.out A n cap b rfl R1.out L1 (by simp; omega) ?_); intro v2 w2 ho2 hg2 ha2; refine halt ?_))
  refine unhalt ?_
  clear R1 O1 L1
  have hb2 : Below w.heap.size w w2 := (hb1.alloc hb1.size _).grown hg2 (by simp; omega) (fun j hj => by obtain rfl := Option.some.inj hj; exact Z1)
  clear hg2 ha2
  rw [List.nil_append] at ho2
  have hlk : b.length = n := HB.out.1
  obtain ⟨D, dc, rfl, hdc, hdm, hr2⟩ := ho2.form
  subst hlk
  have O2 := Lib.hid ho2; clear ho2 hr2
  have hD : b.length = 0 ∨ ∃ g, D = some ⟨g, 0, none⟩ := by
    rcases O2.out.2 with ⟨_, h0⟩ | ⟨g, cap, cur, h, _⟩
    · exact .inl h0
    · injection h with h _ _; exact .inr ⟨g, h⟩
  have HD := Lib.hid hD; clear hD
  go_wp2_with fail
  go_loopw [8, 9] (fun t i W => ∃ k : Nat, k ≤ 32 ∧ i = .int .i64 k ∧ t = .bool (flips b x mask k).2 ∧ OB W w.heap.size (.slice D b.length dc) (flips b x mask k).1 ∧ Below w.heap.size w W) (fun _ i _ => 32 - (intOf i).toNat)
  case atStart => exact ⟨0, by omega, rfl, rfl, O2.out, hb2⟩
  case round =>
    obtain ⟨k, hk, rfl, rfl, ho, hbr⟩ := hrel
    have hlen := flips_length b x mask k
    have hbit : bits .and .u32 ((mask : Int) / 2 ^ k) 1 = ((mask / 2 ^ k % 2 : Nat) : Int) := by
      have h := u32_and_nat (mask / 2 ^ k) 1 (Nat.lt_of_le_of_lt (Nat.div_le_self _ _) hs) (by omega)
      rw [nat_mask1] at h
      rw [← h]; congr 1
    by_cases hlt : k < 32
    · by_cases hc : flipIf b x mask k = true
      · have hc' := hc
        unfold flipIf at hc'
        simp only [decide_eq_true_eq] at hc'
        obtain ⟨h0, hk8, hm⟩ := hc'
        obtain ⟨xn, rfl⟩ := Int.eq_ofNat_of_zero_le h0
        rw [hm] at hbit
        have hbit' : bits .and .u32 ((mask : Int) / 2 ^ k) 1 = 1 := hbit
        clear hbit
        have HC := Lib.hid hc; clear hc
        have HM := Lib.hid hm; clear hm
        have HL := Lib.hid hlen; clear hlen
        obtain ⟨g, rfl⟩ : ∃ g, D = some ⟨g, 0, none⟩ := by
          rcases HD.out with h | h
          · exfalso; omega
          · exact h
        have hgt : (flips b (xn : Int) mask k).1[(xn + k) / 8]? = some ((flips b (xn : Int) mask k).1.getD ((xn + k) / 8) 0) := by
          rw [List.getD_eq_getElem?_getD, List.getElem?_eq_getElem (by rw [HL.out]; omega)]; rfl
        have hcell := ho.cellAt hgt
        have hfr := ho.frozenAt ((xn + k) / 8)
        have hxb := xor_bit ((flips b (xn : Int) mask k).1.getD ((xn + k) / 8) 0) ((xn + k) % 8) (by omega)
        have hsto := ho.stored ((xn + k) / 8) (UInt8.ofNat (((flips b (xn : Int) mask k).1.getD ((xn + k) / 8) 0).toNat ^^^ 2 ^ ((xn + k) % 8)))
        have hstep : flips b (xn : Int) mask (k + 1) = ((flips b (xn : Int) mask k).1.set ((xn + k) / 8) (UInt8.ofNat (((flips b (xn : Int) mask k).1.getD ((xn + k) / 8) 0).toNat ^^^ 2 ^ ((xn + k) % 8))), true) := by
          rw [flips, if_pos HC.out]
          unfold flipBit
          rw [show ((xn : Int) + k).toNat = xn + k from by omega]
        generalize UInt8.ofNat (((flips b (xn : Int) mask k).1.getD ((xn + k) / 8) 0).toNat ^^^ 2 ^ ((xn + k) % 8)) = c' at *
        have HS := Lib.hid hsto; clear hsto
        have HT' := Lib.hid hstep; clear hstep
        clear hgt ho
        generalize (flips b (xn : Int) mask k).1.getD ((xn + k) / 8) 0 = c at *
        have hcb := c.toNat_lt
        have hgz : w.heap.size ≤ g := (O2.out.lt g rfl).1
        go_wp2_with fail
        go_region
        go_wp2_with fail
        go_roundw
        case rel => exact ⟨k + 1, by omega, by go_num, by rw [HT'.out], by rw [HT'.out]; exact HS.out.1.drew, (hbr.setCell hgz _).drew⟩
        case measure => simp [intOf]; omega
      · have hstep : flips b x mask (k + 1) = flips b x mask k := by rw [flips, if_neg hc]
        have HT' := Lib.hid hstep; clear hstep
        have hc' : x < 0 ∨ 8 * (b.length : Int) ≤ x ∨ (0 ≤ x ∧ x < 8 * (b.length : Int) ∧ 8 * (b.length : Int) ≤ x + k) ∨ (0 ≤ x ∧ x + k < 8 * (b.length : Int) ∧ mask / 2 ^ k % 2 = 0) := by
          unfold flipIf at hc
          simp only [decide_eq_true_eq] at hc
          by_cases h0 : x < 0
          · exact .inl h0
          · by_cases h1 : 8 * (b.length : Int) ≤ x
            · exact .inr (.inl h1)
            · by_cases h2 : 8 * (b.length : Int) ≤ x + k
              · exact .inr (.inr (.inl ⟨by omega, by omega, h2⟩))
              · refine .inr (.inr (.inr ⟨by omega, by omega, ?_⟩))
                rcases Nat.mod_two_eq_zero_or_one (mask / 2 ^ k) with h | h
                · exact h
                · exact absurd ⟨by omega, by omega, h⟩ hc
        have HL := Lib.hid hlen; clear hlen
        have HO := Lib.hid ho; clear ho
        clear hc
        rcases hc' with h | h | ⟨h1, h2, h3⟩ | ⟨h1, h2, h3⟩
        · clear hbit
          go_wp2_with fail
          go_roundw
          case rel => exact ⟨k + 1, by omega, by go_num, by rw [HT'.out], by rw [HT'.out]; exact HO.out, hbr⟩
          case measure => simp [intOf]; omega
        · clear hbit
          go_wp2_with fail
          go_roundw
          case rel => exact ⟨k + 1, by omega, by go_num, by rw [HT'.out], by rw [HT'.out]; exact HO.out, hbr⟩
          case measure => simp [intOf]; omega
        · clear hbit
          go_wp2_with fail
          go_roundw
          case rel => exact ⟨k + 1, by omega, by go_num, by rw [HT'.out], by rw [HT'.out]; exact HO.out, hbr⟩
          case measure => simp [intOf]; omega
        · rw [h3] at hbit
          have hbit' : bits .and .u32 ((mask : Int) / 2 ^ k) 1 = 0 := hbit
          clear hbit h3
          go_wp2_with fail
          go_roundw
          case rel => exact ⟨k + 1, by omega, by go_num, by rw [HT'.out], by rw [HT'.out]; exact HO.out, hbr⟩
          case measure => simp [intOf]; omega
    · obtain rfl : k = 32 := by omega
      have HO := Lib.hid ho; clear ho hbit
      have hlaw := burst_law b x mask
      generalize hfl : flips b x mask 32 = fl at *
      obtain ⟨own, turned⟩ := fl
      clear hfl
      simp only at hlaw HO hlen
      obtain ⟨A', c', he, _, _, hr⟩ := HO.out.form
      have hsl : own.length = b.length := hlen
      rw [hlen] at he hr
      injection he with e1 e2 e3
      subst e1 e3
      clear e2
      have HR := Lib.hid hr; clear hr
      have T4 := Lib.hid (HT.out.keep hbr)
      have R4 := Lib.hid (HB.out.keep hbr)
      have HW := Lib.hid hlaw; clear hlaw
      have H1 := crcMore_lt (v := 0) own (by omega)
      have H2 := crcMore_lt (v := 0) b (by omega)
      clear hlen hsl
      go_wp2_with fail
      refine (of_any _ _ _ own _ T4.out HR.out (by omega)).mono ?_
      rintro e w' ⟨rfl, rfl⟩
      go_wp2_with fail
      refine (of_any _ _ _ b _ T4.out R4.out (by omega)).mono ?_
      rintro e w' ⟨rfl, rfl⟩
      generalize crcMore 0 own = s1 at *
      generalize crcMore 0 b = s2 at *
      have E1 : ((s1 : Int) == (s2 : Int)) = !turned := by
        have := HW.out.1
        cases turned <;> simp at this ⊢ <;> omega
      have E2 : ((crcMore s1 b : Int) == (crcMore s2 b : Int)) = !turned := by
        have := HW.out.2
        cases turned <;> simp at this ⊢ <;> omega
      go_wp2_with fail
      refine (more_any _ _ _ b s1 _ T4.out R4.out (by omega) H1).mono ?_
      rintro e w' ⟨rfl, rfl⟩
      go_wp2_with fail
      refine (more_any _ _ _ b s2 _ T4.out R4.out (by omega) H2).mono ?_
      rintro e w' ⟨rfl, rfl⟩
      go_wp2_with fail
      go_ret
      exact ⟨by simp, hbr⟩
end Go.Proofs.YtnnlbnonffjjiaaDoor
