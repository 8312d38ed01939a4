/- The list of pushed alerts grows by one. -/
import Derived.Test.YtjkocghbnljifaaDelFixed
namespace Go.Proofs.Ytjkocghbnljifaa
open Go.RowKit
theorem setsL_length : ∀ (us l : List Value) (o : Nat), (setsL l o us).length = l.length
  | [], _, _ => rfl
  | u :: us, l, o => (setsL_length us (l.set o u) (o + 1)).trans (by simp)
theorem setsL_get : ∀ (us l : List Value) (o k : Nat), o + us.length ≤ l.length → (setsL l o us)[k]? = if o ≤ k ∧ k < o + us.length then us[k - o]? else l[k]?
  | [], l, o, k, _ => by
    rw [if_neg (by simp)]
    rfl
  | u :: us, l, o, k, h => by
    rw [List.length_cons] at h
    show (setsL (l.set o u) (o + 1) us)[k]? = _
    rw [setsL_get us (l.set o u) (o + 1) k (by simp; omega)]
    by_cases h1 : k = o
    · subst h1
      rw [if_neg (by omega), if_pos (by simp), List.getElem?_set_self (by omega), Nat.sub_self]; rfl
    · by_cases h2 : o + 1 ≤ k ∧ k < o + 1 + us.length
      · rw [if_pos h2, if_pos (by simp; omega), show k - o = (k - (o + 1)) + 1 from by omega]; rfl
      · rw [if_neg h2, if_neg (by simp; omega), List.getElem?_set_ne (by omega)]
theorem run_append_al (w : World) (base : Nat) (ty : TypeId) (A : Option Addr) (m c : Nat) (q : List Th) (hw : AW w base A m c q) (hbase : base ≤ w.heap.size) (g0 c0 : Nat) (y : Th) (hy : Blk w g0 44 y.cells) (hm : m ≤ 100000) :
    ∃ A' c' w', (Builtin.append_ #[48, 48] ty #[.slice A m c, .slice (some ⟨g0, 0, none⟩) 1 c0]).run Try.prog w = .ok (.slice A' (m + 1) c') w' ∧ AW w' base A' (m + 1) c' (q ++ [y]) ∧ Chg (inB A) w w' ∧ (∀ k, inB A' k → inB A k ∨ w.heap.size ≤ k) := by
  obtain ⟨i0, hi, hz⟩ := Option.map_eq_some_iff.1 infoT
  simp only [Prod.mk.injEq] at hz
  obtain ⟨hz0, hz1⟩ := hz
  obtain ⟨i1, hi1, hz2⟩ := Option.map_eq_some_iff.1 infoTb
  rw [hi] at hi1
  obtain rfl := Option.some.inj hi1
  have hnews : ∀ j u, y.cells.toList[j]? = some u → w.cell? ((⟨g0, 0, none⟩ : Addr).add j) = some u := fun j u hu => by
    have e : (⟨g0, 0, none⟩ : Addr).add j = ⟨g0, j, none⟩ := by unfold Addr.add; split <;> simp_all
    rw [e, hy.cell]
    simpa using hu
  have hone := th_one y
  have hyl : y.cells.toList.length = 12 := rfl
  have hql : (flatE Th.cells q).length = m * 12 := by rw [flatE_length th_size, hw.1]
  by_cases hfit : m + 1 ≤ c
  · rcases hw.2.2.2 with ⟨_, e⟩ | ⟨g, off, cur, rfl, hg, hB, hsz, hc⟩
    · omega
    · have hrun := run_append_room_cells (P := Try.prog) w 48 ty 44 i0 Try.underlying48 hi g off m c ⟨g0, 0, none⟩ 1 c0 y.cells.toList (by rw [hz1]; rfl) hnews hone hfit (fun j hj => by
          have hj2 : j < 12 := hj
          rw [hz1, hB.cell, Array.getElem?_eq_getElem (by omega)]; rfl) (fun j _ => hB.frozen _)
      rw [hz1] at hrun
      have hB2 := Blk.cellsIn y.cells.toList cur.toList (off + m * 12) (by simpa using hB)
      refine ⟨_, _, _, hrun, ⟨by rw [List.length_append, hw.1]; rfl, hfit, hw.2.2.1, .inr ⟨g, off, _, rfl, hg, hB2, by simp [setsL_length]; omega, fun i u hu => ?_⟩⟩, Chg.cellsSet (.inl ⟨_, rfl, rfl⟩) _ _ _ (Chg.refl _ w), fun k hk => .inl hk⟩
      rw [List.getElem?_toArray, setsL_get _ _ _ _ (by rw [hyl]; simp; omega), hyl]
      rw [flatE_append] at hu
      by_cases hi2 : i < m * 12
      · rw [List.getElem?_append_left (by omega)] at hu
        rw [if_neg (by omega)]
        simpa using hc i u hu
      · rw [List.getElem?_append_right (by omega), hql] at hu
        have hu2 : y.cells.toList[i - m * 12]? = some u := by simpa [flatE] using hu
        have hlt := (List.getElem?_eq_some_iff.1 hu2).1
        rw [hyl] at hlt
        rw [if_pos (by omega), show off + i - (off + m * 12) = i - m * 12 from by omega]
        exact hu2
  · have hmm := hw.2.1
    have key : ∃ v' w', (Builtin.append_ #[48, 48] ty #[.slice A m c, .slice (some ⟨g0, 0, none⟩) 1 c0]).run Try.prog w = .ok v' w' ∧ w'.ownsRow w.heap.size 44 12 v' (m + 1) (flatE Th.cells q ++ y.cells.toList) ∧ w.grownBy w' none := by
      rcases hw.2.2.2 with ⟨rfl, e⟩ | ⟨g, off, cur, rfl, hg, hB, hsz, hc⟩
      · obtain rfl : m = 0 := by omega
        subst e
        obtain rfl : q = [] := List.eq_nil_of_length_eq_zero hw.1
        obtain ⟨v', w', h1, h2, h3, _⟩ := run_append_own (P := Try.prog) w w.heap.size 48 ty 44 i0 _ 12 104 Try.underlying48 hi hz0 hz1 hz2 rfl (by omega) (.slice none 0 0) 0 [] (World.ownsRow_nil w _ _ 12) ⟨g0, 0, none⟩ 1 c0 y.cells.toList rfl hnews hone (by simp only [maxLen]; omega) (by omega) (Nat.le_refl _)
        exact ⟨v', w', h1, h2, h3⟩
      · exact run_append_arg_grows (P := Try.prog) w 48 ty 44 i0 _ 12 104 Try.underlying48 hi hz0 hz1 hz2 rfl (by omega) ⟨g, off, none⟩ m c (flatE Th.cells q) hql (fun j u hu => by
          have e3 : (⟨g, off, none⟩ : Addr).add j = ⟨g, off + j, none⟩ := by unfold Addr.add; split <;> simp_all
          rw [e3, hB.cell]
          exact hc j u hu) ⟨g0, 0, none⟩ 1 c0 y.cells.toList rfl hnews (by omega) (by simp only [maxLen]; omega) (by omega)
    obtain ⟨v', w', hrun, h1, h2⟩ := key
    rcases h1.2 with ⟨_, h0⟩ | ⟨g, cap, cur, rfl, hg, hh, hc1, hc2, hc3, hc4⟩
    · omega
    · refine ⟨_, _, _, hrun, ⟨by rw [List.length_append, hw.1]; rfl, hc1, hc2, .inr ⟨g, 0, cur, rfl, by omega, hh, by omega, fun i u hu => ?_⟩⟩, (Chg.refl _ w).grown h2 (fun k hk => by cases hk), fun k hk => ?_⟩
      · have e : flatE Th.cells (q ++ [y]) = flatE Th.cells q ++ y.cells.toList := by rw [flatE_append]; simp [flatE]
        rw [e, ← hc4, List.getElem?_take] at hu
        rw [Nat.zero_add]
        split at hu
        · simpa using hu
        · cases hu
      · obtain ⟨ad, e, rfl⟩ := hk
        obtain rfl := Option.some.inj e
        exact .inr hg
/-- the same as one step of a region that draws its order -/
theorem step_append_al {w : World} {ops : Array Oper} {o : Oper} {a : Act} {K : Act → World → Prop} {Q : Exit → Act → World → Prop} {E : Prop} (hgd : o.guard = none) (s x : Operand)
    (ho : o.op = .call { callee := .builtin .append, args := #[s, x], argTypes := #[48, 48] })
    (base : Nat) (A : Option Addr) (m c : Nat) (q : List Th) (hs : a.eval s = .slice A m c) (hw : AW w base A m c q) (hbase : base ≤ w.heap.size) (g0 c0 : Nat) (y : Th) (hx : a.eval x = .slice (some ⟨g0, 0, none⟩) 1 c0) (hy : Blk w g0 44 y.cells) (hm : m ≤ 100000)
    (h : ∀ A' c' w', AW w' base A' (m + 1) c' (q ++ [y]) → Chg (inB A) w w' → (∀ k, inB A' k → inB A k ∨ w.heap.size ≤ k) → K (a.put o.dst (.slice A' (m + 1) c')) w') :
    if Region.wanted o (yielded ops a.tmps) = true then Oper.wp Try.prog o a w K Q else E := by
  have hwn : Region.wanted o (yielded ops a.tmps) = true := by simp [Region.wanted, hgd]
  rw [if_pos hwn]
  obtain ⟨A', c', w', hrun, h2, h3, h4⟩ := run_append_al w base o.type A m c q hw hbase g0 c0 y hy hm
  unfold Oper.wp execOp
  simp only [ho, resolve, invoke, builtin, Sem.run_bind, Sem.run_pure, Result.andThen_ok, List.map_toArray, List.map_cons, List.map_nil, hs, hx, hrun]
  exact h A' c' w' h2 h3 h4
end Go.Proofs.Ytjkocghbnljifaa
