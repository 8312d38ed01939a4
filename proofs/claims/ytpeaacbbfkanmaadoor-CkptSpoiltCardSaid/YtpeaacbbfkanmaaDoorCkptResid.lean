/- What a burst, a cut, more bytes do to an image: plain facts. -/
import Derived.Test.YtpeaacbbfkanmaaDoorCkptOwn
import Derived.Test.YtpeaacbbfkanmaaDoorCrcMath
namespace Go.Proofs.YtpeaacbbfkanmaaDoor
open Go.RowKit
theorem num8_leV (l : List UInt8) : num8 l = leV l := by
  induction l with
  | nil => rfl
  | cons c l ih => unfold num8 leV; rw [ih]
theorem resid (m : List UInt8) : crcMore 0 (m ++ leB (crcMore 0 m) 4) = crcNot (crcBits 32 4294967295) := by
  have h4 : (256 : Nat) ^ 4 = 4294967296 := by decide
  have hu : crcOn (crcNot 0) m < 4294967296 := crcOn_lt m (crcNot_lt (by omega))
  have e1 : crcMore 0 (m ++ leB (crcMore 0 m) 4) = crcNot (crcOn (crcNot 0) (m ++ leB (crcNot (crcOn (crcNot 0) m)) 4)) := rfl
  rw [e1, crcOn_append]
  clear e1
  generalize crcOn (crcNot 0) m = u at *
  have hc : crcNot u < 4294967296 := crcNot_lt hu
  have hx : u ^^^ crcNot u = 4294967295 := by
    unfold crcNot
    rw [← Nat.xor_assoc, Nat.xor_self, Nat.zero_xor]
  rw [crcOn_num, leB_length, num8_leV, leV_leB, Nat.mod_eq_of_lt (by rw [h4]; exact hc), hx]
theorem encB_resid (l : List Mk) : crcMore 0 (encB l) = crcNot (crcBits 32 4294967295) := resid (bodyB l)
theorem spoilt_burst (l : List Mk) (x : Int) (mask n : Nat) (h : (flips (encB l) x mask 32).2 = true) : decB (flips (encB l) x mask 32).1 n = false := by
  cases hq : decB (flips (encB l) x mask 32).1 n with
  | false => rfl
  | true =>
    have e := (decB_form hq).1
    have h1 := encB_resid (parse (flips (encB l) x mask 32).1 n)
    rw [e] at h1
    have := (burst_law (encB l) x mask).1.1 (h1.trans (encB_resid l).symm)
    rw [h] at this; cases this
theorem flips_same (b : List UInt8) (x : Int) (mask : Nat) : ∀ i, (flips b x mask i).2 = false → (flips b x mask i).1 = b
  | 0, _ => rfl
  | i + 1, h => by
    by_cases hc : flipIf b x mask i = true
    · rw [flips, if_pos hc] at h; cases h
    · rw [flips, if_neg hc] at h ⊢
      exact flips_same b x mask i h
theorem flips_end (b : List UInt8) (x mask k : Nat) (h : 8 * b.length ≤ x + k) : ∀ j, flips b (x : Int) mask (k + j) = flips b (x : Int) mask k
  | 0 => rfl
  | j + 1 => by
    have hc : ¬ flipIf b (x : Int) mask (k + j) = true := by unfold flipIf; rw [decide_eq_true_eq]; omega
    rw [← Nat.add_assoc, flips, if_neg hc]
    exact flips_end b x mask k h j
theorem spoilt_cut {l : List Mk} (hm : mayB l = true) (k n : Nat) (hk : k < (encB l).length) : decB ((encB l).take k) n = false := by
  cases hq : decB ((encB l).take k) n with
  | false => rfl
  | true =>
    have hlen := (decB_form hq).2.2
    unfold decB at hq
    simp only [Bool.and_eq_true, decide_eq_true_eq] at hq
    obtain ⟨_, _, h3, _⟩ := hq
    rw [List.length_take, Nat.min_eq_left (by omega)] at hlen
    rw [List.drop_take, List.take_take, Nat.min_eq_left (by omega), encB_count l (mayB_parts hm).2.2] at h3
    rw [encB_length] at hk
    omega
theorem spoilt_more (l : List Mk) (more : List UInt8) (h : more ≠ []) : decB (encB l ++ more) l.length = false :=
  decB_len (by
    rw [List.length_append, encB_length]
    have : 0 < more.length := List.length_pos_iff.2 h
    omega)
end Go.Proofs.YtpeaacbbfkanmaaDoor
