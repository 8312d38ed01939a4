/- What a burst, a cut, more bytes do to a table's image: plain facts. -/
import Derived.Test.YtnglgppdkohhpaaDoorTbParse
import Derived.Test.YtnglgppdkohhpaaDoorTbDec
import Derived.Test.YtnglgppdkohhpaaDoorCrcMath
namespace Go.Proofs.YtnglgppdkohhpaaDoor
open Go.RowKit
theorem num8_leV (l : List UInt8) : num8 l = leV l := by
  induction l with
  | nil => rfl
  | cons c l ih => unfold num8 leV; rw [ih]
theorem resid (m : List UInt8) : crcMore 0 (m ++ leB (crcMore 0 m) 4) = crcNot (crcBits 32 4294967295) := by
  have h4 : (256 : Nat) ^ 4 = 4294967296 := by decide
  have hu : crcOn (crcNot 0) m < 4294967296 := crcOn_lt m (crcNot_lt (by omega))
  have e1 : crcMore 0 (m ++ leB (crcMore 0 m) 4) = crcNot (crcOn (crcNot 0) (m ++ leB (crcNot (crcOn (crcNot 0) m)) 4)) := rfl
  rw [e1, crcOn_append]
  clear e1
  generalize crcOn (crcNot 0) m = u at *
  have hc : crcNot u < 4294967296 := crcNot_lt hu
  have hx : u ^^^ crcNot u = 4294967295 := by
    unfold crcNot
    rw [← Nat.xor_assoc, Nat.xor_self, Nat.zero_xor]
  rw [crcOn_num, leB_length, num8_leV, leV_leB, Nat.mod_eq_of_lt (by rw [h4]; exact hc), hx]
theorem encT_resid (t : Tb) : crcMore 0 (encT t) = crcNot (crcBits 32 4294967295) := resid (bodyT t)
theorem spoilt_burst (t : Tb) (x : Int) (mask : Nat) (h : (flips (encT t) x mask 32).2 = true) : ¬ IsEnc (flips (encT t) x mask 32).1 := by
  rintro ⟨t', _, _, e⟩
  have h1 := encT_resid t'
  rw [← e] at h1
  have := (burst_law (encT t) x mask).1.1 (h1.trans (encT_resid t).symm)
  rw [h] at this; cases this
theorem flips_same (b : List UInt8) (x : Int) (mask : Nat) : ∀ i, (flips b x mask i).2 = false → (flips b x mask i).1 = b
  | 0, _ => rfl
  | i + 1, h => by
    by_cases hc : flipIf b x mask i = true
    · rw [flips, if_pos hc] at h; cases h
    · rw [flips, if_neg hc] at h ⊢
      exact flips_same b x mask i h
theorem flips_end (b : List UInt8) (x mask k : Nat) (h : 8 * b.length ≤ x + k) : ∀ j, flips b (x : Int) mask (k + j) = flips b (x : Int) mask k
  | 0 => rfl
  | j + 1 => by
    have hc : ¬ flipIf b (x : Int) mask (k + j) = true := by unfold flipIf; rw [decide_eq_true_eq]; omega
    rw [← Nat.add_assoc, flips, if_neg hc]
    exact flips_end b x mask k h j
theorem numAt_append (l m : List UInt8) (o n : Nat) (h : o + n ≤ l.length) : numAt (l ++ m) o n = numAt l o n := by
  unfold numAt
  rw [List.drop_append_of_le_length (by omega), List.take_append_of_le_length (by simp; omega)]
theorem numAt_take (l : List UInt8) (k o n : Nat) (h : o + n ≤ k) : numAt (l.take k) o n = numAt l o n := by
  unfold numAt
  rw [List.drop_take, List.take_take, Nat.min_eq_left (by omega)]
theorem spoilt_cut {t : Tb} (hs : Sound t) (hf : Fits t) (k : Nat) (hk : k < (encT t).length) : ¬ IsEnc ((encT t).take k) := by
  rintro ⟨t', hs', hf', e⟩
  have hl' := encT_length hs'.hc hf'
  have hl := encT_length hs.hc hf
  have hk2 : (encT t').length = k := by rw [← e, List.length_take]; omega
  have h1 : nSt (encT t') = nSt (encT t) := by unfold nSt; rw [← e]; exact numAt_take _ _ _ _ (by omega)
  have h2 : nCl (encT t') = nCl (encT t) := by unfold nCl; rw [← e]; exact numAt_take _ _ _ _ (by omega)
  rw [enc_nSt hf', enc_nSt hf] at h1
  rw [enc_nCl hf', enc_nCl hf] at h2
  rw [h1, h2] at hl'
  omega
theorem spoilt_more {t : Tb} (hs : Sound t) (hf : Fits t) (more : List UInt8) (h : more ≠ []) : ¬ IsEnc (encT t ++ more) := by
  rintro ⟨t', hs', hf', e⟩
  have hl' := encT_length hs'.hc hf'
  have hl := encT_length hs.hc hf
  have hm : 0 < more.length := List.length_pos_iff.2 h
  have hk2 : (encT t').length = (encT t).length + more.length := by rw [← e, List.length_append]
  have h1 : nSt (encT t') = nSt (encT t) := by unfold nSt; rw [← e]; exact numAt_append _ _ _ _ (by omega)
  have h2 : nCl (encT t') = nCl (encT t) := by unfold nCl; rw [← e]; exact numAt_append _ _ _ _ (by omega)
  rw [enc_nSt hf', enc_nSt hf] at h1
  rw [enc_nCl hf', enc_nCl hf] at h2
  rw [h1, h2] at hl'
  omega
end Go.Proofs.YtnglgppdkohhpaaDoor
