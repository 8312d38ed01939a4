/- The mathematics of the sum, on natural numbers: one bit's step is linear; bytes are one great number; the table's step is four bits'; bursts of at most 32 bits are told. -/
import Derived.Test.YtnglgppdkohhpaaDoorCrcFns
namespace Go.Proofs.YtnglgppdkohhpaaDoor
theorem xor_half (a b : Nat) : (a ^^^ b) / 2 = a / 2 ^^^ b / 2 := by
  apply Nat.eq_of_testBit_eq; intro i
  simp only [Nat.testBit_xor, ← Nat.testBit_succ]
theorem xor_odd (a b : Nat) : (a ^^^ b) % 2 = (a % 2 + b % 2) % 2 := by
  have h := Nat.testBit_xor a b 0
  simp only [Nat.testBit_zero] at h
  have hc : (a ^^^ b) % 2 < 2 := Nat.mod_lt _ (by omega)
  generalize (a ^^^ b) % 2 = c at *
  rcases Nat.mod_two_eq_zero_or_one a with ha | ha <;> rcases Nat.mod_two_eq_zero_or_one b with hb | hb <;> rw [ha, hb] at h ⊢ <;> simp at h <;> omega
theorem crcBit_xor (a b : Nat) : crcBit (a ^^^ b) = crcBit a ^^^ crcBit b := by
  have ho := xor_odd a b
  unfold crcBit
  rw [xor_half]
  rcases Nat.mod_two_eq_zero_or_one a with ha | ha <;> rcases Nat.mod_two_eq_zero_or_one b with hb | hb
  · rw [if_neg (by omega), if_neg (by omega), if_neg (by omega)]
  · rw [if_pos (by omega), if_neg (by omega), if_pos (by omega), Nat.xor_assoc]
  · rw [if_pos (by omega), if_pos (by omega), if_neg (by omega), Nat.xor_assoc, Nat.xor_assoc, Nat.xor_comm (b / 2)]
  · rw [if_neg (by omega), if_pos (by omega), if_pos (by omega)]
    rw [Nat.xor_assoc, ← Nat.xor_assoc 3988292384, Nat.xor_comm 3988292384 (b / 2), Nat.xor_assoc, Nat.xor_self, Nat.xor_zero]
theorem crcBits_xor (k : Nat) : ∀ a b, crcBits k (a ^^^ b) = crcBits k a ^^^ crcBits k b := by
  induction k with
  | zero => intro a b; rfl
  | succ k ih => intro a b; rw [crcBits, crcBits, crcBits, crcBit_xor, ih]
theorem crcBits_add (j k : Nat) : ∀ v, crcBits (j + k) v = crcBits k (crcBits j v) := by
  induction j with
  | zero => intro v; rw [Nat.zero_add]; rfl
  | succ j ih => intro v; rw [Nat.succ_add, crcBits, crcBits, ih]
theorem crcBits_shift (k : Nat) : ∀ v, crcBits k (v * 2 ^ k) = v := by
  induction k with
  | zero => intro v; simp [crcBits]
  | succ k ih =>
    intro v
    have e : crcBit (v * 2 ^ (k + 1)) = v * 2 ^ k := by
      unfold crcBit
      have : v * 2 ^ (k + 1) = (v * 2 ^ k) * 2 := by rw [Nat.pow_succ, Nat.mul_assoc]
      rw [this, if_neg (by omega), Nat.mul_div_cancel _ (by omega)]
    rw [crcBits, e, ih]
theorem low_xor (v k : Nat) : v = (v % 2 ^ k) ^^^ (v / 2 ^ k * 2 ^ k) := by
  apply Nat.eq_of_testBit_eq; intro i
  rw [Nat.testBit_xor, Nat.testBit_mod_two_pow, Nat.testBit_mul_two_pow, Nat.testBit_div_two_pow]
  by_cases h : i < k
  · simp [h, Nat.not_le.2 h]
  · have h' : k ≤ i := Nat.not_lt.1 h
    simp [h, h', Nat.sub_add_cancel h']
/-- the table's step is four bits' -/
theorem crcNib_eq (v : Nat) : crcNib v = crcBits 4 v := by
  have e : crcBits 4 v = crcBits 4 (v % 2 ^ 4) ^^^ crcBits 4 (v / 2 ^ 4 * 2 ^ 4) := by rw [← crcBits_xor, ← low_xor]
  rw [e, crcBits_shift]
  have : ∀ k : Fin 16, crcBits 4 k.1 = crcHalf k.1 := by decide +kernel
  have h := this ⟨v % 16, by omega⟩
  unfold crcNib
  rw [show (2 : Nat) ^ 4 = 16 from rfl, h]
theorem crcByte_eq (v : Nat) (c : UInt8) : crcByte v c = crcByteR v c := by
  unfold crcByte crcByteR
  rw [crcNib_eq, crcNib_eq, ← crcBits_add]
theorem crcOn_eq (l : List UInt8) : ∀ v, crcOn v l = crcOnR v l := by
  induction l with
  | nil => intro v; rfl
  | cons c l ih => intro v; show crcOn (crcByte v c) l = crcOnR (crcByteR v c) l; rw [crcByte_eq, ih]
theorem crcMore_eq (s : Nat) (l : List UInt8) : crcMore s l = crcMoreR s l := by unfold crcMore crcMoreR; rw [crcOn_eq]
theorem crcOn_append (v : Nat) (l m : List UInt8) : crcOn v (l ++ m) = crcOn (crcOn v l) m := by unfold crcOn; rw [List.foldl_append]
theorem crcNot_not (v : Nat) : crcNot (crcNot v) = v := by unfold crcNot; rw [Nat.xor_assoc, Nat.xor_self, Nat.xor_zero]
theorem crcMore_append (s : Nat) (l m : List UInt8) : crcMore s (l ++ m) = crcMore (crcMore s l) m := by
  unfold crcMore; rw [crcOn_append, crcNot_not]
theorem crcMore_nil (s : Nat) : crcMore s [] = s := by unfold crcMore; exact crcNot_not s
theorem crcAll_eq (ps : List (List UInt8)) : ∀ s, crcAll s ps = crcMore s ps.flatten := by
  induction ps with
  | nil => intro s; exact (crcMore_nil s).symm
  | cons p ps ih => intro s; show crcAll (crcMore s p) ps = _; rw [ih, List.flatten_cons, crcMore_append]
/-! ### Bytes as one number, and bursts -/
def num8 : List UInt8 → Nat
  | [] => 0
  | c :: l => c.toNat + 256 * num8 l
theorem add_xor (c m : Nat) (h : c < 256) : c + 256 * m = c ^^^ (m * 2 ^ 8) := by
  have e := low_xor (c + 256 * m) 8
  rw [show (c + 256 * m) % 2 ^ 8 = c from by simp only [Nat.reducePow]; omega, show (c + 256 * m) / 2 ^ 8 = m from by simp only [Nat.reducePow]; omega] at e
  exact e
theorem crcOn_num (l : List UInt8) : ∀ v, crcOn v l = crcBits (8 * l.length) (v ^^^ num8 l) := by
  induction l with
  | nil => intro v; simp [num8, crcBits, crcOn]
  | cons c l ih =>
    intro v
    show crcOn (crcByte v c) l = _
    rw [ih, crcByte_eq]
    unfold crcByteR
    rw [show 8 * (c :: l).length = 8 + 8 * l.length from by simp; omega, crcBits_add]
    congr 1
    show _ = crcBits 8 (v ^^^ (c.toNat + 256 * num8 l))
    rw [add_xor _ _ c.toNat_lt, ← Nat.xor_assoc, crcBits_xor 8 _ (num8 l * 2 ^ 8), crcBits_shift]
theorem crcBit_zero {v : Nat} (h : v < 4294967296) (h0 : crcBit v = 0) : v = 0 := by
  unfold crcBit at h0
  split at h0
  · exfalso
    have e : v / 2 = 3988292384 := by
      have := congrArg (· ^^^ 3988292384) h0
      simpa [Nat.xor_assoc] using this
    omega
  · omega
theorem crcBits_zero (k : Nat) : ∀ {v : Nat}, v < 4294967296 → crcBits k v = 0 → v = 0 := by
  induction k with
  | zero => intro v _ h; exact h
  | succ k ih => intro v h h0; exact crcBit_zero h (ih (crcBit_lt h) h0)
theorem xor_eq_zero {a b : Nat} (h : a ^^^ b = 0) : a = b := by
  have := congrArg (· ^^^ b) h
  simpa [Nat.xor_assoc] using this
/-- unlike words stay unlike over the same bytes -/
theorem crcOn_inj {a b : Nat} (l : List UInt8) (ha : a < 4294967296) (hb : b < 4294967296) : crcOn a l = crcOn b l ↔ a = b := by
  refine ⟨fun h => ?_, fun h => by rw [h]⟩
  rw [crcOn_num, crcOn_num] at h
  have h2 : crcBits (8 * l.length) (a ^^^ b) = 0 := by
    have e : a ^^^ b = (a ^^^ num8 l) ^^^ (b ^^^ num8 l) := by
      rw [Nat.xor_assoc, Nat.xor_comm b, ← Nat.xor_assoc (num8 l), Nat.xor_self, Nat.zero_xor]
    rw [e, crcBits_xor, h, Nat.xor_self]
  exact xor_eq_zero (crcBits_zero _ (xor_lt32 ha hb) h2)
theorem crcMore_inj {a b : Nat} (l : List UInt8) (ha : a < 4294967296) (hb : b < 4294967296) : crcMore a l = crcMore b l ↔ a = b := by
  unfold crcMore
  refine ⟨fun h => ?_, fun h => by rw [h]⟩
  have h1 := congrArg crcNot h
  rw [crcNot_not, crcNot_not] at h1
  have h2 := (crcOn_inj l (crcNot_lt ha) (crcNot_lt hb)).1 h1
  have h3 := congrArg crcNot h2
  rwa [crcNot_not, crcNot_not] at h3
/-- A burst of at most 32 bits, from one bit on: another sum. -/
theorem crcOn_burst {l m : List UInt8} {at_ p : Nat} (v : Nat) (hl : l.length = m.length) (hb : p ≠ 0 → at_ ≤ 8 * l.length) (hp : p < 4294967296) (hx : num8 l ^^^ num8 m = p * 2 ^ at_) : crcOn v l = crcOn v m ↔ p = 0 := by
  by_cases h0 : p = 0
  · subst h0
    rw [Nat.zero_mul] at hx
    rw [crcOn_num, crcOn_num, hl, xor_eq_zero hx]
    simp
  have hb := hb h0
  rw [crcOn_num, crcOn_num, hl]
  have e : (v ^^^ num8 l) ^^^ (v ^^^ num8 m) = p * 2 ^ at_ := by
    rw [← hx, Nat.xor_comm v (num8 l), Nat.xor_assoc, ← Nat.xor_assoc v, Nat.xor_self, Nat.zero_xor]
  have e2 : crcBits (8 * m.length) (v ^^^ num8 l) ^^^ crcBits (8 * m.length) (v ^^^ num8 m) = crcBits (8 * m.length - at_) p := by
    rw [← crcBits_xor, e, show 8 * m.length = at_ + (8 * m.length - at_) from by omega, crcBits_add, crcBits_shift]
    congr 1; omega
  refine ⟨fun h => ?_, fun h => absurd h h0⟩
  rw [h, Nat.xor_self] at e2
  exact crcBits_zero _ hp e2.symm
theorem num8_testBit (l : List UInt8) : ∀ j, (num8 l).testBit j = ((l[j / 8]?.map UInt8.toNat).getD 0).testBit (j % 8) := by
  induction l with
  | nil => intro j; simp [num8]
  | cons c l ih =>
    intro j
    show (c.toNat + 256 * num8 l).testBit j = _
    rw [add_xor _ _ c.toNat_lt, Nat.testBit_xor, Nat.testBit_mul_two_pow]
    by_cases h : j < 8
    · rw [Nat.div_eq_of_lt h, Nat.mod_eq_of_lt h]
      simp [Nat.not_le.2 h]
    · have h8 : 8 ≤ j := by omega
      have e0 : c.toNat.testBit j = false := Nat.testBit_lt_two_pow (Nat.lt_of_lt_of_le c.toNat_lt (Nat.pow_le_pow_right (by omega) h8))
      rw [e0, ih, show j / 8 = (j - 8) / 8 + 1 from by omega, show j % 8 = (j - 8) % 8 from by omega]
      simp [h8]
/-- one bit of one byte turned over -/
theorem num8_flip (l : List UInt8) (k : Nat) (c : UInt8) (hc : l[k / 8]? = some c) : num8 (l.set (k / 8) (UInt8.ofNat (c.toNat ^^^ 2 ^ (k % 8)))) = num8 l ^^^ 2 ^ k := by
  apply Nat.eq_of_testBit_eq; intro j
  have hlt := (List.getElem?_eq_some_iff.1 hc).1
  rw [Nat.testBit_xor, num8_testBit, num8_testBit, Nat.testBit_two_pow, List.getElem?_set]
  have hb : c.toNat ^^^ 2 ^ (k % 8) < 256 := Nat.xor_lt_two_pow (n := 8) c.toNat_lt (Nat.pow_lt_pow_right (by omega) (by omega))
  by_cases hj : k / 8 = j / 8
  · rw [if_pos hj, if_pos hlt]
    rw [hj] at hc
    rw [hc]
    simp only [Option.map_some, Option.getD_some]
    rw [UInt8.toNat_ofNat_of_lt' hb, Nat.testBit_xor, Nat.testBit_two_pow]
    congr 1
    rw [Bool.eq_iff_iff]; simp only [decide_eq_true_eq]; omega
  · rw [if_neg hj]
    have : decide (k = j) = false := by simp; intro e; exact hj (by rw [e])
    rw [this, Bool.xor_false]
/-! ### The law's own turning of bits -/
def flipBit (o : List UInt8) (k : Nat) : List UInt8 := o.set (k / 8) (UInt8.ofNat ((o.getD (k / 8) 0).toNat ^^^ 2 ^ (k % 8)))
def flipIf (b : List UInt8) (x : Int) (mask : Nat) (i : Nat) : Bool := decide (0 ≤ x ∧ x + i < 8 * b.length ∧ mask / 2 ^ i % 2 = 1)
def flips (b : List UInt8) (x : Int) (mask : Nat) : Nat → List UInt8 × Bool
  | 0 => (b, false)
  | i + 1 => if flipIf b x mask i = true then (flipBit (flips b x mask i).1 (x + i).toNat, true) else flips b x mask i
theorem flipBit_length (o : List UInt8) (k : Nat) : (flipBit o k).length = o.length := by unfold flipBit; simp
theorem flips_length (b : List UInt8) (x : Int) (mask : Nat) : ∀ i, (flips b x mask i).1.length = b.length
  | 0 => rfl
  | i + 1 => by
    unfold flips; split
    · show (flipBit _ _).length = _; rw [flipBit_length, flips_length b x mask i]
    · exact flips_length b x mask i
theorem flips_num (b : List UInt8) (x : Int) (mask : Nat) (i : Nat) :
    ∃ p, p < 2 ^ i ∧ num8 (flips b x mask i).1 ^^^ num8 b = p * 2 ^ x.toNat ∧ ((flips b x mask i).2 = true ↔ p ≠ 0) ∧ (p ≠ 0 → x.toNat ≤ 8 * b.length) := by
  induction i with
  | zero => exact ⟨0, by simp, by simp [flips], by simp [flips], by simp⟩
  | succ i ih =>
    obtain ⟨p, hp, hn, ht, hx⟩ := ih
    by_cases hc : flipIf b x mask i = true
    · have hc' := hc
      unfold flipIf at hc'
      simp only [decide_eq_true_eq] at hc'
      refine ⟨p ^^^ 2 ^ i, Nat.xor_lt_two_pow (by rw [Nat.pow_succ]; omega) (Nat.pow_lt_pow_right (by omega) (by omega)), ?_, ?_, fun _ => by omega⟩
      · have e : (flips b x mask (i + 1)).1 = flipBit (flips b x mask i).1 (x + i).toNat := by rw [flips, if_pos hc]
        rw [e]
        have hlen := flips_length b x mask i
        have hlt : (x + i).toNat / 8 < (flips b x mask i).1.length := by omega
        have hget : (flips b x mask i).1[(x + i).toNat / 8]? = some ((flips b x mask i).1.getD ((x + i).toNat / 8) 0) := by
          rw [List.getD_eq_getElem?_getD, List.getElem?_eq_getElem hlt]; rfl
        unfold flipBit
        rw [num8_flip _ _ _ hget]
        have e2 : (p ^^^ 2 ^ i) * 2 ^ x.toNat = p * 2 ^ x.toNat ^^^ 2 ^ (x + i).toNat := by
          rw [show (x + i).toNat = i + x.toNat from by omega, Nat.pow_add]
          apply Nat.eq_of_testBit_eq; intro j
          rw [Nat.testBit_xor, Nat.testBit_mul_two_pow, Nat.testBit_mul_two_pow, Nat.testBit_mul_two_pow, Nat.testBit_xor]
          cases decide (x.toNat ≤ j) <;> simp
        rw [e2, ← hn, Nat.xor_assoc, Nat.xor_comm (2 ^ (x + i).toNat), ← Nat.xor_assoc]
      · have e : (flips b x mask (i + 1)).2 = true := by rw [flips, if_pos hc]
        rw [e]
        simp only [true_iff]
        intro h0
        have := xor_eq_zero h0
        omega
    · refine ⟨p, by rw [Nat.pow_succ]; omega, ?_, ?_, hx⟩
      · rw [flips, if_neg hc]; exact hn
      · rw [flips, if_neg hc]; exact ht
/-- the theorem of this layer, as the law asks it -/
theorem burst_law (b : List UInt8) (x : Int) (mask : Nat) :
    (crcMore 0 (flips b x mask 32).1 = crcMore 0 b ↔ (flips b x mask 32).2 = false) ∧
    (crcMore (crcMore 0 (flips b x mask 32).1) b = crcMore (crcMore 0 b) b ↔ (flips b x mask 32).2 = false) := by
  obtain ⟨p, hp, hn, ht, hx⟩ := flips_num b x mask 32
  have hl := flips_length b x mask 32
  have key : crcMore 0 (flips b x mask 32).1 = crcMore 0 b ↔ (flips b x mask 32).2 = false := by
    have h1 := crcOn_burst (l := (flips b x mask 32).1) (m := b) (at_ := x.toNat) (p := p) (crcNot 0) hl (fun h => by rw [hl]; exact hx h) (by simpa using hp) hn
    have h2 : crcMore 0 (flips b x mask 32).1 = crcMore 0 b ↔ crcOn (crcNot 0) (flips b x mask 32).1 = crcOn (crcNot 0) b := by
      unfold crcMore
      refine ⟨fun h => ?_, fun h => by rw [h]⟩
      have := congrArg crcNot h
      rwa [crcNot_not, crcNot_not] at this
    rw [h2, h1]
    cases hq : (flips b x mask 32).2 <;> simp [hq] at ht ⊢ <;> exact ht
  refine ⟨key, ?_⟩
  rw [crcMore_inj b (crcMore_lt _ (by omega)) (crcMore_lt _ (by omega))]
  exact key
end Go.Proofs.YtnglgppdkohhpaaDoor
