/- THE PLAIN LAW: a crash of the document's disk and of the program's are alike. Nothing of the program's code is used here. -/
import Derived.Test.YtlojmmcagglpoaaGreatUFwLaw
import Derived.Test.YtlojmmcagglpoaaGreatURfSimE
namespace Go.Proofs.YtlojmmcagglpoaaGreat
open Go.RowKit Go.Maps
def riN (keep : List Int) (k : Nat) (y : Ri) : Nat := y.la + min (keep.getD k 0).toNat (y.b.length - y.la)
def riF (keep : List Int) (k : Nat) (y : Ri) : Ri := if y.la = y.b.length then y else { y with b := y.b.take (riN keep k y), ge := if riN keep k y < y.b.length then y.ge + 1 else y.ge, la := (y.b.take (riN keep k y)).length }
def riK (k : Nat) (y : Ri) : Nat := if y.la = y.b.length then k else k + 1
def rcS (keep : List Int) (s : List Ri × Nat) (i : Nat) : List Ri × Nat := match s.1[i]? with
  | none => s
  | some y => (s.1.set i (riF keep s.2 y), riK s.2 y)
def rcD (keep : List Int) (is : List Ri) (j : Nat) : List Ri × Nat := (List.range j).foldl (rcS keep) (is, 0)
theorem rcD_succ (keep : List Int) (is : List Ri) (j : Nat) : rcD keep is (j + 1) = rcS keep (rcD keep is j) j := by
  unfold rcD
  rw [List.range_succ, List.foldl_append]; rfl
theorem rcD_facts (keep : List Int) (is : List Ri) : ∀ j, (rcD keep is j).1.length = is.length ∧ (rcD keep is j).2 ≤ j ∧ ∀ i, j ≤ i → (rcD keep is j).1[i]? = is[i]?
  | 0 => ⟨rfl, Nat.le_refl _, fun _ _ => rfl⟩
  | j + 1 => by
    obtain ⟨h1, h2, h3⟩ := rcD_facts keep is j
    rw [rcD_succ]
    unfold rcS
    rw [h3 j (Nat.le_refl _)]
    cases hy : is[j]? with
    | none => exact ⟨h1, Nat.le_succ_of_le h2, fun i hi => h3 i (by omega)⟩
    | some y =>
      refine ⟨by simp [h1], by show riK _ y ≤ j + 1; unfold riK; split <;> omega, fun i hi => ?_⟩
      simp only
      rw [List.getElem?_set_ne (by omega)]
      exact h3 i (by omega)
noncomputable def Rd.crash (r : Rd) (keep : List Int) : Rd := ⟨(rcD keep r.is r.is.length).1, r.ns⟩
def Gn (d : Dk) (r : Rd) : Prop := ∀ (k : Nat) (y : Ri), r.is[k]? = some y → d.fs ((k : Int) + 1) = none → y.la = y.b.length
theorem Gn.empty : Gn emptyD ⟨[], []⟩ := fun _ _ h _ => by simp at h
def FR (x : Fl) (y : Ri) : Prop := x.by_ = y.b ∧ x.la = y.la ∧ x.ge = y.ge
theorem FR.crash {x : Fl} {y : Ri} (h : FR x y) (keep : List Int) (k : Nat) : FR (crashF keep k x) (riF keep k y) ∧ crashK k x = riK k y := by
  obtain ⟨e1, e2, e3⟩ := h
  unfold crashF riF crashK riK
  rw [e1, e2]
  by_cases h0 : y.la = y.b.length
  · rw [if_pos h0, if_pos h0]
    exact ⟨⟨e1, e2, e3⟩, rfl⟩
  · rw [if_neg h0, if_neg h0]
    have hn : crashN keep k x = riN keep k y := by unfold crashN riN; rw [e1, e2]
    refine ⟨?_, rfl⟩
    unfold crash1 Fl.kept FR
    rw [hn, e1]
    by_cases hk : riN keep k y < y.b.length
    · rw [if_pos hk, if_pos hk]
      exact ⟨rfl, rfl, by simp [e3]⟩
    · rw [if_neg hk, if_neg hk]
      have ht : y.b.take (riN keep k y) = y.b := List.take_of_length_le (by omega)
      exact ⟨by simp [ht], by simp [ht], e3⟩
structure CM (keep ss : List Int) (d : Dk) (r : Rd) (m t : Nat) : Prop where
  tl : t ≤ ss.length
  lo : ∀ j i, j < t → ss[j]? = some i → i ≤ (m : Int)
  hi : ∀ j i, t ≤ j → ss[j]? = some i → (m : Int) < i
  kk : (crashD keep ss d t).2 = (rcD keep r.is m).2
  fr : ∀ k x, k < m → (crashD keep ss d t).1.fs ((k : Int) + 1) = some x → ∃ y, (rcD keep r.is m).1[k]? = some y ∧ FR x y
  gn : ∀ k y, k < m → (rcD keep r.is m).1[k]? = some y → d.fs ((k : Int) + 1) = none → y.la = y.b.length
theorem CM.zero {keep ss : List Int} {d : Dk} {r : Rd} (hpos : ∀ i ∈ ss, (0 : Int) < i) : CM keep ss d r 0 0 :=
  ⟨Nat.zero_le _, fun _ _ hj => absurd hj (Nat.not_lt_zero _), fun _ i _ hi => hpos i (List.mem_of_getElem? hi), rfl, fun _ _ hk => absurd hk (Nat.not_lt_zero _), fun _ _ hk => absurd hk (Nat.not_lt_zero _)⟩
theorem CM.step {keep ss : List Int} {d : Dk} {r : Rd} {m t : Nat} (h : CM keep ss d r m t) (hs : ss.Pairwise (· < ·)) (hm : ∀ i, i ∈ ss ↔ (d.fs i).isSome = true) (hsim : Sim d r) (hgn : Gn d r) (hml : m < r.is.length) : ∃ t', CM keep ss d r (m + 1) t' := by
  have hf := rcD_facts keep r.is m
  have hsucc := rcD_succ keep r.is m
  obtain ⟨y, hy⟩ : ∃ y, r.is[m]? = some y := ⟨_, List.getElem?_eq_getElem hml⟩
  have hlen : m < (rcD keep r.is m).1.length := by rw [hf.1]; exact hml
  have hst : rcD keep r.is (m + 1) = ((rcD keep r.is m).1.set m (riF keep (rcD keep r.is m).2 y), riK (rcD keep r.is m).2 y) := by
    rw [hsucc]; unfold rcS; rw [hf.2.2 m (Nat.le_refl _), hy]
  have hold : ∀ k, k < m → (rcD keep r.is (m + 1)).1[k]? = (rcD keep r.is m).1[k]? := fun k hk => by
    rw [hst]; simp only; rw [List.getElem?_set_ne (by omega)]
  have hnew : (rcD keep r.is (m + 1)).1[m]? = some (riF keep (rcD keep r.is m).2 y) := by
    rw [hst]; simp only; rw [List.getElem?_set_self hlen]
  cases hx : d.fs ((m : Int) + 1) with
  | none =>
    have hla := hgn m y hy hx
    have e1 : riF keep (rcD keep r.is m).2 y = y := by unfold riF; rw [if_pos hla]
    have e2 : riK (rcD keep r.is m).2 y = (rcD keep r.is m).2 := by unfold riK; rw [if_pos hla]
    refine ⟨t, h.tl, fun j i hj hi => Int.le_trans (h.lo j i hj hi) (by omega), fun j i hj hi => ?_, ?_, fun k x hk hkx => ?_, fun k y' hk hky hd => ?_⟩
    · have h1 := h.hi j i hj hi
      have h2 : i ≠ (m : Int) + 1 := fun e => by
        have := (hm i).1 (List.mem_of_getElem? hi)
        rw [e, hx] at this; cases this
      omega
    · rw [h.kk, hst, e2]
    · by_cases e : k = m
      · subst e
        have hca := (crash_at (keep := keep) (d := d) hs t h.tl).nn _ hx
        rw [hca] at hkx; cases hkx
      · rw [hold k (by omega)]; exact h.fr k x (by omega) hkx
    · by_cases e : k = m
      · subst e
        rw [hnew, e1] at hky
        rw [← Option.some.inj hky]; exact hla
      · rw [hold k (by omega)] at hky; exact h.gn k y' (by omega) hky hd
  | some x =>
    obtain ⟨j, hj⟩ := List.getElem?_of_mem ((hm ((m : Int) + 1)).2 (by rw [hx]; rfl))
    have hjt : j = t := by
      rcases Nat.lt_trichotomy j t with h1 | h1 | h1
      · have := h.lo j _ h1 hj; omega
      · exact h1
      · exfalso
        have hjl := (List.getElem?_eq_some_iff.1 hj).1
        obtain ⟨i, hi⟩ : ∃ i, ss[t]? = some i := ⟨_, List.getElem?_eq_getElem (by omega)⟩
        have h2 := h.hi t i (Nat.le_refl _) hi
        obtain ⟨a1, a2⟩ := List.getElem?_eq_some_iff.1 hi
        obtain ⟨b1, b2⟩ := List.getElem?_eq_some_iff.1 hj
        have h3 := List.pairwise_iff_getElem.1 hs t j a1 b1 h1
        rw [a2, b2] at h3
        omega
    subst hjt
    have hca := crash_at (keep := keep) (d := d) hs j h.tl
    have hni : ((m : Int) + 1) ∉ ss.take j := fun hmem => by
      obtain ⟨q, hq⟩ := List.getElem?_of_mem hmem
      have hql : q < j := by
        have := (List.getElem?_eq_some_iff.1 hq).1
        rw [List.length_take] at this; omega
      rw [List.getElem?_take_of_lt hql] at hq
      have := h.lo q _ hql hq; omega
    have hcd : crashD keep ss d (j + 1) = ((crashD keep ss d j).1.edit ((m : Int) + 1) (crashF keep (crashD keep ss d j).2 x), crashK (crashD keep ss d j).2 x) := by
      rw [crashD_succ hj]; unfold crashS; rw [hca.un _ hni, hx]
    obtain ⟨k0, y0, q1, q2, q3⟩ := hsim.fs _ x hx
    have hk0 : k0 = m := by omega
    subst hk0
    have hyy : y0 = y := by rw [hy] at q2; exact (Option.some.inj q2).symm
    subst hyy
    have hfr := FR.crash (x := x) (y := y0) q3 keep (crashD keep ss d j).2
    rw [h.kk] at hfr hcd
    have hjl := (List.getElem?_eq_some_iff.1 hj).1
    refine ⟨j + 1, hjl, fun q i hq hi => ?_, fun q i hq hi => ?_, ?_, fun k x' hk hkx => ?_, fun k y' hk hky hd => ?_⟩
    · rcases Nat.lt_succ_iff_lt_or_eq.1 hq with h1 | h1
      · exact Int.le_trans (h.lo q i h1 hi) (by omega)
      · rw [h1, hj] at hi
        have := Option.some.inj hi
        omega
    · obtain ⟨a1, a2⟩ := List.getElem?_eq_some_iff.1 hi
      obtain ⟨b1, b2⟩ := List.getElem?_eq_some_iff.1 hj
      have h3 := List.pairwise_iff_getElem.1 hs j q b1 a1 (by omega)
      rw [a2, b2] at h3
      omega
    · rw [hcd, hst]; exact hfr.2
    · rw [hcd] at hkx
      simp only at hkx
      rw [Dk.edit_fs] at hkx
      by_cases e : k = k0
      · subst e
        rw [if_pos rfl] at hkx
        obtain rfl := Option.some.inj hkx
        exact ⟨_, hnew, hfr.1⟩
      · rw [if_neg (by omega)] at hkx
        rw [hold k (by omega)]
        exact h.fr k x' (by omega) hkx
    · by_cases e : k = k0
      · subst e
        rw [hx] at hd; cases hd
      · rw [hold k (by omega)] at hky; exact h.gn k y' (by omega) hky hd
theorem cm_any {keep ss : List Int} {d : Dk} {r : Rd} (hpos : ∀ i ∈ ss, (0 : Int) < i) (hs : ss.Pairwise (· < ·)) (hm : ∀ i, i ∈ ss ↔ (d.fs i).isSome = true) (hsim : Sim d r) (hgn : Gn d r) : ∀ m, m ≤ r.is.length → ∃ t, CM keep ss d r m t
  | 0, _ => ⟨0, CM.zero hpos⟩
  | m + 1, hml => by
    obtain ⟨t, ht⟩ := cm_any hpos hs hm hsim hgn m (by omega)
    exact ht.step hs hm hsim hgn (by omega)
theorem Sim.crash {d : Dk} {r : Rd} {ss : List Int} (h : Sim d r) (hgn : Gn d r) (keep : List Int) (hs : ss.Pairwise (· < ·)) (hm : ∀ i, i ∈ ss ↔ (d.fs i).isSome = true) : Sim (crashD keep ss d ss.length).1 (r.crash keep) ∧ Gn (crashD keep ss d ss.length).1 (r.crash keep) := by
  have hin : ∀ i ∈ ss, ∃ k : Nat, i = (k : Int) + 1 ∧ k < r.is.length := fun i hi => by
    obtain ⟨x, hx⟩ := Option.isSome_iff_exists.1 ((hm i).1 hi)
    obtain ⟨k, y, q1, q2, _⟩ := h.fs i x hx
    exact ⟨k, q1, (List.getElem?_eq_some_iff.1 q2).1⟩
  obtain ⟨t, ht⟩ := cm_any (keep := keep) (fun i hi => by obtain ⟨k, e, _⟩ := hin i hi; omega) hs hm h hgn r.is.length (Nat.le_refl _)
  have htl : t = ss.length := by
    rcases Nat.lt_or_eq_of_le ht.tl with h1 | h1
    · exfalso
      obtain ⟨i, hi⟩ : ∃ i, ss[t]? = some i := ⟨_, List.getElem?_eq_getElem h1⟩
      have h2 := ht.hi t i (Nat.le_refl _) hi
      obtain ⟨k, e, hk⟩ := hin i (List.mem_of_getElem? hi)
      omega
    · exact h1
  subst htl
  have hca := crash_at (keep := keep) (d := d) hs ss.length (Nat.le_refl _)
  have hf := rcD_facts keep r.is r.is.length
  have hsome : ∀ i, (crashD keep ss d ss.length).1.fs i = none → d.fs i = none := fun i hi => by
    cases hx : d.fs i with
    | none => rfl
    | some x =>
      obtain ⟨k, _, hk⟩ := hca.at_ i x (by rw [List.take_length, hm, hx]; rfl) hx
      rw [hk] at hi; cases hi
  refine ⟨⟨by rw [hca.no, h.no]; exact hf.1.symm, fun m => by rw [hca.ns]; exact h.ns m, fun m => by rw [hca.se]; exact h.se m, fun i x hx => ?_⟩, fun k y hy hd => ht.gn k y (by rw [← hf.1]; exact (List.getElem?_eq_some_iff.1 hy).1) hy (hsome _ hd)⟩
  cases hd : d.fs i with
  | none => rw [hca.nn i hd] at hx; cases hx
  | some x0 =>
    obtain ⟨k, y, q1, q2, _⟩ := h.fs i x0 hd
    rw [q1] at hx
    obtain ⟨y', hy', hfr⟩ := ht.fr k x (List.getElem?_eq_some_iff.1 q2).1 hx
    exact ⟨k, y', q1, hy', hfr⟩
end Go.Proofs.YtlojmmcagglpoaaGreat
