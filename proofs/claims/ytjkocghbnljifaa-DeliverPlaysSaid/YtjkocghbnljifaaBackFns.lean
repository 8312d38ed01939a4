/- Plain functions for the backoff layer: the delay, its error, the sum; and the laws that they meet. Nothing of the program is imported. -/
namespace Go.Proofs.Ytjkocghbnljifaa
/-- the delay behind the k-th refusal -/
def dl (b m : Nat) : Nat → Nat
  | 0 => min b m
  | k + 1 => min (2 * dl b m k) m
theorem dl_le (b m k : Nat) : dl b m k ≤ m := by cases k <;> exact Nat.min_le_right _ _
theorem dl_stay_most {b m k : Nat} (h : dl b m k = m) : ∀ j, dl b m (k + j) = m
  | 0 => h
  | j + 1 => by rw [← Nat.add_assoc, dl, dl_stay_most h j]; omega
theorem dl_stay_zero {b m k : Nat} (h : dl b m k = 0) : ∀ j, dl b m (k + j) = 0
  | 0 => h
  | j + 1 => by rw [← Nat.add_assoc, dl, dl_stay_zero h j]; omega
theorem dl_stay {b m k : Nat} (h : dl b m k = m ∨ dl b m k = 0) {n : Nat} (hn : k ≤ n) : dl b m n = dl b m k := by
  obtain ⟨j, rfl⟩ : ∃ j, n = k + j := ⟨n - k, by omega⟩
  rcases h with h | h
  · rw [dl_stay_most h, h]
  · rw [dl_stay_zero h, h]
/-- sum of the first n delays -/
def sm (b m : Nat) : Nat → Nat
  | 0 => 0
  | n + 1 => sm b m n + dl b m n
theorem sm_le (b m n : Nat) : sm b m n ≤ n * m := by
  induction n with
  | zero => simp [sm]
  | succ n ih => rw [sm, Nat.succ_mul]; have := dl_le b m n; omega
/-- may it be asked? -/
def okD (x y z : Int) : Bool := decide (0 ≤ x ∧ x ≤ 1099511627776 ∧ 0 ≤ y ∧ y ≤ 1099511627776 ∧ 0 ≤ z)
def dlI (x y z : Int) : Int := if okD x y z = true then (dl x.toNat y.toNat z.toNat : Int) else 0
def dlE (x y z : Int) : Int := if okD x y z = true then 0 else 1
def okU (now x y z lim : Int) : Bool := okD x y z && decide (0 ≤ now ∧ now ≤ 2305843009213693952 ∧ 0 ≤ lim ∧ lim ≤ 1099511627776)
def duI (now x y z j lim : Int) : Int := if okU now x y z lim = true then now + dlI x y z + max 0 (min j lim) else 0
def duE (now x y z lim : Int) : Int := if okU now x y z lim = true then 0 else 1
def okS (x y n : Int) : Bool := okD x y n && decide (n ≤ 1048576)
def smI (x y n : Int) : Int := if okS x y n = true then (sm x.toNat y.toNat n.toNat : Int) else 0
def smE (x y n : Int) : Int := if okS x y n = true then 0 else 1
theorem dlI_nat (b m k : Nat) (hb : b ≤ 1099511627776) (hm : m ≤ 1099511627776) : dlI b m k = dl b m k := by
  unfold dlI okD; rw [if_pos (by simp; omega)]; simp
theorem dlE_nat (b m k : Nat) (hb : b ≤ 1099511627776) (hm : m ≤ 1099511627776) : dlE b m k = 0 := by
  unfold dlE okD; rw [if_pos (by simp; omega)]
theorem smI_nat (b m n : Nat) (hb : b ≤ 1099511627776) (hm : m ≤ 1099511627776) (hn : n ≤ 1048576) : smI b m n = sm b m n := by
  unfold smI okS okD; rw [if_pos (by simp; omega)]; simp
theorem smE_nat (b m n : Nat) (hb : b ≤ 1099511627776) (hm : m ≤ 1099511627776) (hn : n ≤ 1048576) : smE b m n = 0 := by
  unfold smE okS okD; rw [if_pos (by simp; omega)]
theorem dl_grows (b m k : Nat) (h : 1 ≤ b) : min (2 ^ k) m ≤ dl b m k := by
  induction k with
  | zero => unfold dl; simp; omega
  | succ k ih => rw [dl, Nat.pow_succ]; omega
theorem dl_far (b m k : Nat) (h : 1 ≤ b) (hm : m ≤ 1099511627776) (hk : 40 ≤ k) : dl b m k = m := by
  have h1 := dl_grows b m k h
  have h2 := dl_le b m k
  have h3 : 2 ^ 40 ≤ 2 ^ k := Nat.pow_le_pow_right (by omega) hk
  have h4 : (2 : Nat) ^ 40 = 1099511627776 := by decide
  omega
theorem dl_zero (m k : Nat) : dl 0 m k = 0 := by
  induction k with
  | zero => unfold dl; omega
  | succ k ih => rw [dl, ih]; omega
theorem okS_nat {x y n : Int} (h : okS x y n = true) : ∃ b m k : Nat, x = b ∧ y = m ∧ n = k ∧ b ≤ 1099511627776 ∧ m ≤ 1099511627776 ∧ k ≤ 1048576 := by
  unfold okS okD at h
  simp only [Bool.and_eq_true, decide_eq_true_eq] at h
  exact ⟨x.toNat, y.toNat, n.toNat, by omega, by omega, by omega, by omega, by omega, by omega⟩
theorem okS_false {x y n : Int} (h : ¬ okS x y n = true) : x < 0 ∨ 1099511627776 < x ∨ y < 0 ∨ 1099511627776 < y ∨ n < 0 ∨ 1048576 < n := by
  unfold okS okD at h
  simp only [Bool.and_eq_true, decide_eq_true_eq] at h
  omega
theorem okU_nat {t x y z l : Int} (h : okU t x y z l = true) : okD x y z = true ∧ 0 ≤ t ∧ t ≤ 2305843009213693952 ∧ 0 ≤ l ∧ l ≤ 1099511627776 := by
  unfold okU at h
  simp only [Bool.and_eq_true, decide_eq_true_eq] at h
  exact h
theorem okU_false {t x y z l : Int} (h : ¬ okU t x y z l = true) : ¬ okD x y z = true ∨ (okD x y z = true ∧ (t < 0 ∨ 2305843009213693952 < t ∨ l < 0 ∨ 1099511627776 < l)) := by
  unfold okU at h
  simp only [Bool.and_eq_true, decide_eq_true_eq] at h
  by_cases hd : okD x y z = true
  · right; refine ⟨hd, ?_⟩
    by_cases h1 : t < 0
    · exact .inl h1
    · by_cases h2 : 2305843009213693952 < t
      · exact .inr (.inl h2)
      · by_cases h3 : l < 0
        · exact .inr (.inr (.inl h3))
        · refine .inr (.inr (.inr ?_))
          rcases Int.lt_or_le 1099511627776 l with h4 | h4
          · exact h4
          · exact absurd ⟨hd, by omega, by omega, by omega, h4⟩ h
  · exact .inl hd
theorem dlI_bounds (x y z : Int) : 0 ≤ dlI x y z ∧ dlI x y z ≤ 1099511627776 := by
  unfold dlI
  split
  · rename_i h
    have := dl_le x.toNat y.toNat z.toNat
    unfold okD at h
    simp only [decide_eq_true_eq] at h
    omega
  · omega
theorem dl_step (b m k : Nat) : dl b m k ≤ dl b m (k + 1) ∧ dl b m (k + 1) ≤ 2 * dl b m k := by
  have := dl_le b m k
  rw [dl]; omega
theorem sm_far (b m : Nat) (k n : Nat) (h : k ≤ n) : sm b m k ≤ sm b m n := by
  obtain ⟨j, rfl⟩ : ∃ j, n = k + j := ⟨n - k, by omega⟩
  induction j with
  | zero => exact Nat.le_refl _
  | succ j ih => have := ih (by omega); rw [← Nat.add_assoc, sm]; omega
end Go.Proofs.Ytjkocghbnljifaa
