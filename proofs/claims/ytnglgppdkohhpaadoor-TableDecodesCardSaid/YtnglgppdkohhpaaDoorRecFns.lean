/- Numbers and texts as bytes, in plain Lean: what package rec and its reference compute. Nothing of the program is imported. -/
namespace Go.Proofs.YtnglgppdkohhpaaDoor
/-- the n lowest bytes of v, the lowest first -/
def leB (v : Nat) : Nat → List UInt8
  | 0 => []
  | n + 1 => leB v n ++ [UInt8.ofNat (v / 256 ^ n)]
theorem leB_length (v n : Nat) : (leB v n).length = n := by
  induction n with
  | zero => rfl
  | succ n ih => simp [leB, ih]
/-- the number whose bytes these are -/
def leV : List UInt8 → Nat
  | [] => 0
  | c :: l => c.toNat + 256 * leV l
theorem leV_snoc (l : List UInt8) (c : UInt8) : leV (l ++ [c]) = leV l + c.toNat * 256 ^ l.length := by
  induction l with
  | nil => simp [leV]
  | cons x l ih => simp only [List.cons_append, leV, ih, List.length_cons, Nat.pow_succ]; rw [Nat.mul_add, Nat.mul_comm (256 ^ l.length) 256, ← Nat.mul_assoc, ← Nat.mul_assoc, Nat.mul_comm 256 c.toNat]; omega
theorem leV_lt (l : List UInt8) : leV l < 256 ^ l.length := by
  induction l with
  | nil => simp [leV]
  | cons x l ih =>
    simp only [leV, List.length_cons, Nat.pow_succ]
    have := x.toNat_lt
    omega
theorem leV_leB (v n : Nat) : leV (leB v n) = v % 256 ^ n := by
  induction n with
  | zero => simp [leB, leV, Nat.mod_one]
  | succ n ih =>
    rw [leB, leV_snoc, ih, leB_length, Nat.mod_pow_succ, UInt8.toNat_ofNat', Nat.mul_comm]
theorem leV_inj : ∀ (l l' : List UInt8), l.length = l'.length → leV l = leV l' → l = l'
  | [], [], _, _ => rfl
  | [], _ :: _, h, _ => by simp at h
  | _ :: _, [], h, _ => by simp at h
  | c :: l, c' :: l', h, hv => by
    simp only [leV] at hv
    have h1 := c.toNat_lt
    have h2 := c'.toNat_lt
    have e1 : c.toNat = c'.toNat := by omega
    have e2 : leV l = leV l' := by omega
    rw [UInt8.toNat_inj.1 e1, leV_inj l l' (by simpa using h) e2]
theorem leB_leV (l : List UInt8) (n : Nat) (h : l.length = n) : leB (leV l) n = l := by
  refine leV_inj _ _ (by rw [leB_length, h]) ?_
  rw [leV_leB, Nat.mod_eq_of_lt]
  have := leV_lt l
  rwa [h] at this
theorem leB_inj {v v' n : Nat} (h : v < 256 ^ n) (h' : v' < 256 ^ n) (he : leB v n = leB v' n) : v = v' := by
  have := congrArg leV he
  rwa [leV_leB, leV_leB, Nat.mod_eq_of_lt h, Nat.mod_eq_of_lt h'] at this
theorem pow_le8 {k : Nat} (h : k ≤ 8) : 256 ^ k ≤ 18446744073709551616 := by
  have := Nat.pow_le_pow_right (n := 256) (by omega) h
  exact Nat.le_trans this (by decide)
theorem pow_le7 {k : Nat} (h : k < 8) : 256 ^ k ≤ 72057594037927936 := by
  have := Nat.pow_le_pow_right (n := 256) (by omega) (show k ≤ 7 by omega)
  exact Nat.le_trans this (by decide)
theorem pow_256 (k : Nat) : 2 ^ (8 * k) = 256 ^ k := by rw [Nat.pow_mul]
theorem or_step {u c k : Nat} (hu : u < 256 ^ k) : u ||| c * 256 ^ k = u + c * 256 ^ k := by
  rw [← pow_256] at hu ⊢
  have := Nat.two_pow_add_eq_or_of_lt hu c
  rw [Nat.mul_comm c, Nat.or_comm, ← this, Nat.add_comm]
theorem byte_pow {c k : Nat} (hc : c < 256) (hk : k < 8) : c * 256 ^ k < 18446744073709551616 := by
  have h1 := pow_le7 hk
  have h2 : c * 256 ^ k ≤ 255 * 72057594037927936 := Nat.mul_le_mul (by omega) h1
  omega
/-- what of a number's bytes the place k holds -/
theorem leB_at {v n j : Nat} (h : j < n) : (leB v n)[j]? = some (UInt8.ofNat (v / 256 ^ j)) := by
  induction n with
  | zero => omega
  | succ n ih =>
    rw [leB]
    by_cases hj : j < n
    · rw [List.getElem?_append_left (by rw [leB_length]; exact hj)]; exact ih hj
    · obtain rfl : j = n := by omega
      rw [List.getElem?_append_right (by rw [leB_length]; exact Nat.le_refl _), leB_length]; simp
/-- the bytes of a text -/
def textB (s : List UInt8) : List UInt8 := leB s.length 4 ++ s
theorem textB_length (s : List UInt8) : (textB s).length = 4 + s.length := by simp [textB, leB_length]
/-- no text's bytes begin another one's -/
theorem textB_begin {s t : List UInt8} (hs : s.length < 256 ^ 4) (ht : t.length < 256 ^ 4) (h : (textB t).take (textB s).length = textB s) : s = t := by
  have h4 := congrArg (List.take 4) h
  have e1 : ((textB t).take (textB s).length).take 4 = leB t.length 4 := by
    rw [List.take_take, textB_length, Nat.min_eq_left (by omega)]
    unfold textB
    rw [List.take_append_of_le_length (by rw [leB_length]; exact Nat.le_refl _), List.take_of_length_le (by rw [leB_length]; exact Nat.le_refl _)]
  have e2 : (textB s).take 4 = leB s.length 4 := by
    unfold textB
    rw [List.take_append_of_le_length (by rw [leB_length]; exact Nat.le_refl _), List.take_of_length_le (by rw [leB_length]; exact Nat.le_refl _)]
  rw [e1, e2] at h4
  have hl : t.length = s.length := leB_inj ht hs h4
  have e3 : (textB t).take (textB s).length = textB t := List.take_of_length_le (by rw [textB_length, textB_length]; omega)
  rw [e3] at h
  have := List.append_inj h (by rw [leB_length, leB_length])
  exact this.2.symm
end Go.Proofs.YtnglgppdkohhpaaDoor
