/- THE PLAIN LAW: All of the document's disk lists what Names lists. Nothing of the program's code is used here. -/
import Derived.Test.YtlojmmcagglpoaaGreatURfSimE
namespace Go.Proofs.YtlojmmcagglpoaaGreat
def stopAt (l : List (List UInt8)) (x : List UInt8) : Nat → Nat
  | 0 => 0
  | a + 1 => if x < l.getD a [] then stopAt l x a else a + 1
theorem stopAt_le (l : List (List UInt8)) (x : List UInt8) : ∀ a, stopAt l x a ≤ a
  | 0 => Nat.le_refl _
  | a + 1 => by
    unfold stopAt
    split
    · exact Nat.le_succ_of_le (stopAt_le l x a)
    · exact Nat.le_refl _
theorem stopAt_above (l : List (List UInt8)) (x : List UInt8) : ∀ a j, stopAt l x a ≤ j → j < a → x < l.getD j []
  | 0, j, _, h => absurd h (Nat.not_lt_zero _)
  | a + 1, j, h1, h2 => by
    unfold stopAt at h1
    by_cases h : x < l.getD a []
    · rw [if_pos h] at h1
      rcases Nat.lt_succ_iff_lt_or_eq.1 h2 with h3 | rfl
      · exact stopAt_above l x a j h1 h3
      · exact h
    · rw [if_neg h] at h1; omega
theorem stopAt_below (l : List (List UInt8)) (x : List UInt8) : ∀ a, stopAt l x a = 0 ∨ ¬ x < l.getD (stopAt l x a - 1) []
  | 0 => .inl rfl
  | a + 1 => by
    unfold stopAt
    by_cases h : x < l.getD a []
    · rw [if_pos h]; exact stopAt_below l x a
    · rw [if_neg h]; exact .inr h
def insL (l : List (List UInt8)) (x : List UInt8) : List (List UInt8) := l.take (stopAt l x l.length) ++ x :: l.drop (stopAt l x l.length)
theorem insL_perm (l : List (List UInt8)) (x : List UInt8) : (insL l x).Perm (l ++ [x]) := by
  unfold insL
  have h1 : (l.take (stopAt l x l.length) ++ x :: l.drop (stopAt l x l.length)).Perm (x :: (l.take (stopAt l x l.length) ++ l.drop (stopAt l x l.length))) := List.perm_middle
  rw [List.take_append_drop] at h1
  exact h1.trans (List.perm_append_singleton x l).symm
theorem insL_sorted {l : List (List UInt8)} (h : l.Pairwise (· ≤ ·)) (x : List UInt8) : (insL l x).Pairwise (· ≤ ·) := by
  unfold insL
  obtain ⟨a, ha⟩ : ∃ a, a = stopAt l x l.length := ⟨_, rfl⟩
  rw [← ha]
  have hle : a ≤ l.length := by rw [ha]; exact stopAt_le l x _
  have hab := stopAt_above l x l.length
  have hbe := stopAt_below l x l.length
  rw [← ha] at hbe
  have up : ∀ y ∈ l.drop a, x ≤ y := fun y hy => by
    obtain ⟨j, hj⟩ := List.getElem?_of_mem hy
    rw [List.getElem?_drop] at hj
    obtain ⟨h1, h2⟩ := List.getElem?_eq_some_iff.1 hj
    have := hab (a + j) (by rw [← ha]; omega) h1
    rw [List.getD_eq_getElem?_getD, hj] at this
    exact List.le_of_lt this
  have dn : ∀ y ∈ l.take a, y ≤ x := fun y hy => by
    rcases hbe with h0 | h0
    · rw [h0] at hy; simp at hy
    · obtain ⟨j, hj⟩ := List.getElem?_of_mem hy
      have hja : j < a := by
        have := (List.getElem?_eq_some_iff.1 hj).1
        rw [List.length_take] at this; omega
      rw [List.getElem?_take_of_lt hja] at hj
      obtain ⟨h1, h2⟩ := List.getElem?_eq_some_iff.1 hj
      have h3 : a - 1 < l.length := by omega
      have h4 : l.getD (a - 1) [] = l[a - 1] := by rw [List.getD_eq_getElem?_getD, List.getElem?_eq_getElem h3]; rfl
      rw [h4] at h0
      have h5 : l[a - 1] ≤ x := List.not_lt.1 h0
      by_cases e : j = a - 1
      · subst e; rw [← h2]; exact h5
      · have h6 := List.pairwise_iff_getElem.1 h j (a - 1) h1 h3 (by omega)
        rw [h2] at h6
        exact List.le_trans h6 h5
  refine List.pairwise_append.2 ⟨h.sublist (List.take_sublist _ _), List.pairwise_cons.2 ⟨up, h.sublist (List.drop_sublist _ _)⟩, fun y hy z hz => ?_⟩
  rcases List.mem_cons.1 hz with rfl | hz
  · exact dn y hy
  · exact List.le_trans (dn y hy) (up z hz)
end Go.Proofs.YtlojmmcagglpoaaGreat
namespace Go.Proofs.YtlojmmcagglpoaaGreat
open Go.RowKit Go.Maps
def allS (l : List (List UInt8)) (x : Rn) : List (List UInt8) := if x.ino = 0 then l else insL l x.nm
def allJ (ns : List Rn) (j : Nat) : List (List UInt8) := (ns.take j).foldl allS []
theorem allJ_succ {ns : List Rn} {j : Nat} {x : Rn} (h : ns[j]? = some x) : allJ ns (j + 1) = allS (allJ ns j) x := by
  unfold allJ
  rw [List.take_add_one, h, Option.toList, List.foldl_append]; rfl
def Rd.all (r : Rd) : List (List UInt8) := allJ r.ns r.ns.length
theorem insL_length (l : List (List UInt8)) (x : List UInt8) : (insL l x).length = l.length + 1 := by
  have := (insL_perm l x).length_eq
  rw [this, List.length_append]; rfl
theorem all_facts (ns : List Rn) : (ns.foldl allS []).Perm ((ns.filter (fun x => x.ino != 0)).map Rn.nm) ∧ (ns.foldl allS []).Pairwise (· ≤ ·) := by
  have key : ∀ (ns : List Rn) (l : List (List UInt8)), l.Pairwise (· ≤ ·) → (ns.foldl allS l).Perm (l ++ (ns.filter (fun x => x.ino != 0)).map Rn.nm) ∧ (ns.foldl allS l).Pairwise (· ≤ ·) := by
    intro ns
    induction ns with
    | nil => intro l hl; exact ⟨by simp, hl⟩
    | cons x ns ih =>
      intro l hl
      rw [List.foldl_cons]
      unfold allS
      by_cases h0 : x.ino = 0
      · rw [if_pos h0, List.filter_cons_of_neg (by simp [h0])]
        exact ih l hl
      · rw [if_neg h0, List.filter_cons_of_pos (by simp [h0])]
        obtain ⟨h1, h2⟩ := ih (insL l x.nm) (insL_sorted hl x.nm)
        refine ⟨h1.trans ?_, h2⟩
        rw [List.map_cons, show l ++ x.nm :: (ns.filter (fun x => x.ino != 0)).map Rn.nm = (l ++ [x.nm]) ++ (ns.filter (fun x => x.ino != 0)).map Rn.nm from by simp]
        exact (insL_perm l x.nm).append_right _
  simpa using key ns [] List.Pairwise.nil
theorem Rd.all_eq (r : Rd) : r.all = r.ns.foldl allS [] := by unfold Rd.all allJ; rw [List.take_length]
theorem allJ_len {ns : List Rn} : ∀ j, (allJ ns j).length ≤ j
  | 0 => Nat.le_refl _
  | j + 1 => by
    cases hx : ns[j]? with
    | none =>
      have hl : ns.length ≤ j := List.getElem?_eq_none_iff.1 hx
      have e : allJ ns (j + 1) = allJ ns j := by unfold allJ; rw [List.take_of_length_le hl, List.take_of_length_le (by omega)]
      rw [e]; exact Nat.le_succ_of_le (allJ_len j)
    | some x =>
      rw [allJ_succ hx]
      unfold allS
      have := allJ_len (ns := ns) j
      split
      · omega
      · rw [insL_length]; omega
theorem Rd.all_len (r : Rd) : r.all.length ≤ r.ns.length := allJ_len _
theorem Rd.all_mem {r : Rd} (x : List UInt8) : x ∈ r.all ↔ ∃ z ∈ r.ns, z.ino ≠ 0 ∧ z.nm = x := by
  rw [r.all_eq, (all_facts r.ns).1.mem_iff, List.mem_map]
  constructor
  · rintro ⟨z, hz, e⟩
    rw [List.mem_filter] at hz
    exact ⟨z, hz.1, by simpa using hz.2, e⟩
  · rintro ⟨z, hz, h0, e⟩
    exact ⟨z, List.mem_filter.2 ⟨hz, by simpa using h0⟩, e⟩
theorem Rd.all_nodup {r : Rd} (h : r.Uq) : r.all.Nodup := by
  rw [r.all_eq, (all_facts r.ns).1.nodup_iff]
  exact h.sublist ((List.filter_sublist).map Rn.nm)
theorem Sim.all {d : Dk} {r : Rd} (h : Sim d r) (hu : r.Uq) {ss : List (List UInt8)} (hn : ss.Nodup) (hs : ∀ x, x ∈ ss ↔ (d.ns x).isSome = true) : (ss.mergeSort fun x y => decide (x ≤ y)) = r.all := by
  have hmem : ∀ x, x ∈ ss ↔ x ∈ r.all := fun x => by
    rw [hs x, Rd.all_mem, h.ns x]
    constructor
    · intro hx
      obtain ⟨i, hi⟩ := Option.isSome_iff_exists.1 hx
      cases hl : r.look x with
      | none => rw [hl] at hi; cases hi
      | some z =>
        rw [hl, Option.bind_some] at hi
        unfold inoV at hi
        by_cases h0 : z.ino = 0
        · rw [if_pos h0] at hi; cases hi
        · exact ⟨z, List.mem_of_getElem? hl, h0, Rd.look_nm hl⟩
    · rintro ⟨z, hz, h0, rfl⟩
      obtain ⟨j, hj⟩ := List.getElem?_of_mem hz
      rw [hu.look hj, Option.bind_some]
      unfold inoV
      rw [if_neg h0]; rfl
  have hp : ss.Perm r.all := (List.perm_ext_iff_of_nodup hn (Rd.all_nodup hu)).2 hmem
  have tr : ∀ (x y z : List UInt8), decide (x ≤ y) = true → decide (y ≤ z) = true → decide (x ≤ z) = true := fun x y z h1 h2 => decide_eq_true (List.le_trans (of_decide_eq_true h1) (of_decide_eq_true h2))
  have tt : ∀ (x y : List UInt8), (decide (x ≤ y) || decide (y ≤ x)) = true := fun x y => by
    rcases List.le_total x y with h | h
    · simp [h]
    · simp [h]
  refine List.Perm.eq_of_pairwise (le := fun x y => decide (x ≤ y) = true) (fun x y _ _ h1 h2 => List.le_antisymm (of_decide_eq_true h1) (of_decide_eq_true h2)) (List.pairwise_mergeSort tr tt ss) ?_ ((List.mergeSort_perm ss _).trans hp)
  rw [r.all_eq]
  exact (all_facts r.ns).2.imp (fun h => decide_eq_true h)
end Go.Proofs.YtlojmmcagglpoaaGreat
