/- Laws for the fourth loop of Book.whole: a full list grows into a block of its own; one list more. -/
import Derived.Test.YtjkocghbnljifaaDpStep
namespace Go.Proofs.Ytjkocghbnljifaa
open Go.RowKit
/-- append to a list that is full: a new block -/
theorem append_full {w : World} {ops : Array Oper} {rest : List Oper} {o : Oper} {a : Act} {Q : Exit → Act → World → Prop} (hgd : o.guard = none) (s x : Operand)
    (ho : o.op = .call { callee := .builtin .append, args := #[s, x], argTypes := #[48, 48] })
    (g m : Nat) (q : List Th) (hs : a.eval s = .slice (some ⟨g, 0, none⟩) m m) (hq : q.length = m) (hB : Blk w g 44 (flatE Th.cells q).toArray) (g0 c0 : Nat) (y : Th) (hx : a.eval x = .slice (some ⟨g0, 0, none⟩) 1 c0) (hy : Blk w g0 44 y.cells) (hm : m ≤ 100000)
    (h : ∀ g' c' w', m + 1 ≤ c' → AS w' (some ⟨g', 0, none⟩) (m + 1) (q ++ [y]) → Below w.heap.size w w' → w.heap.size ≤ g' → g' < w'.heap.size → wpList Try.prog ops Q rest (a.put o.dst (.slice (some ⟨g', 0, none⟩) (m + 1) c')) w') : wpList Try.prog ops Q (o :: rest) a w := by
  refine wpList_plain hgd fun K hK => ?_
  obtain ⟨i0, hi, hz⟩ := Option.map_eq_some_iff.1 infoT
  simp only [Prod.mk.injEq] at hz
  obtain ⟨hz0, hz1⟩ := hz
  obtain ⟨i1, hi1, hz2⟩ := Option.map_eq_some_iff.1 infoTb
  rw [hi] at hi1
  obtain rfl := Option.some.inj hi1
  have hnews : ∀ j u, y.cells.toList[j]? = some u → w.cell? ((⟨g0, 0, none⟩ : Addr).add j) = some u := fun j u hu => by
    have e : (⟨g0, 0, none⟩ : Addr).add j = ⟨g0, j, none⟩ := by unfold Addr.add; split <;> simp_all
    rw [e, hy.cell]
    simpa using hu
  have hone := th_one y
  have hql : (flatE Th.cells q).length = m * 12 := by rw [flatE_length th_size, hq]
  obtain ⟨v', w', hrun, h1, h2⟩ := run_append_arg_grows (P := Try.prog) w 48 o.type 44 i0 _ 12 104 Try.underlying48 hi hz0 hz1 hz2 rfl (by omega) ⟨g, 0, none⟩ m m (flatE Th.cells q) hql (fun j u hu => by
    have e3 : (⟨g, 0, none⟩ : Addr).add j = ⟨g, j, none⟩ := by unfold Addr.add; split <;> simp_all
    rw [e3, hB.cell]
    simpa using hu) ⟨g0, 0, none⟩ 1 c0 y.cells.toList rfl hnews (by omega) (by simp only [maxLen]; omega) (by omega)
  have hb : Below w.heap.size w w' := Chg.below (S := fun _ => False) ((Chg.refl _ w).grown h2 (fun k e _ => by cases e)) (fun k hk e => e) (Nat.le_refl _)
  rcases h1.2 with ⟨_, h0⟩ | ⟨g', cap, cur, rfl, hg, hh, hc1, hc2, hc3, hc4⟩
  · omega
  · have hlt : g' < w'.heap.size := (Array.getElem?_eq_some_iff.1 hh).1
    have hB2 : Blk w' g' 44 cur := hh
    have hAS : AS w' (some ⟨g', 0, none⟩) (m + 1) (q ++ [y]) := by
      refine ⟨by simp [hq], fun j z hj => ⟨g', 0, rfl, hlt, fun i u hu => ?_⟩⟩
      have h7 := flatE_at th_size (q ++ [y]) hj hu
      have e : flatE Th.cells (q ++ [y]) = flatE Th.cells q ++ y.cells.toList := by rw [flatE_append]; simp [flatE]
      rw [e, ← hc4, List.getElem?_take] at h7
      rw [hB2.cell, Nat.zero_add]
      split at h7
      · simpa using h7
      · cases h7
    have hK' := h g' cap w' hc1 hAS hb hg hlt
    unfold Oper.wp execOp
    simp only [ho, resolve, invoke, builtin, Sem.run_bind, Sem.run_pure, Result.andThen_ok, List.map_toArray, List.map_cons, List.map_nil, hs, hx, hrun]
    exact hK _ _ hK'
theorem get_snoc1 {α : Type} {l : List α} {a u : α} {j : Nat} (h : (l ++ [a])[j]? = some u) : (l[j]? = some u ∧ j < l.length) ∨ (j = l.length ∧ u = a) := by
  rw [List.getElem?_append] at h
  split at h
  · rename_i hj; exact .inl ⟨h, hj⟩
  · rename_i hj
    right
    have hlt := (List.getElem?_eq_some_iff.1 h).1
    simp only [List.length_cons, List.length_nil] at hlt
    have h0 : j = l.length := by omega
    subst h0
    rw [Nat.sub_self] at h
    exact ⟨rfl, (Option.some.inj h).symm⟩
theorem WSs.one {w w' : World} {B : Nat} {C : Nat → Nat} {v v' : Value} {us : List Value} {rs : List (Nat × List Th)} (h : WSs w B C v us rs) {x : Nat × List Th} {A : Option Addr} {c : Nat}
    (hx : x.2.length ≤ c ∧ AS w A x.2.length x.2 ∧ ∀ b, inB A b → C b = 7 ∧ b < w.heap.size)
    (hown : w'.ownsRow B 48 1 v' (us ++ [Value.slice A x.2.length c]).length (us ++ [Value.slice A x.2.length c])) (hg : w.grownBy w' v.ownBlock) (ha : v'.ownBlock = v.ownBlock ∨ v'.ownBlock = some w.heap.size) :
    WSs w' B (paint C w.heap.size 5) v' (us ++ [Value.slice A x.2.length c]) (rs ++ [x]) := by
  have hch : Chg (fun k => v.ownBlock = some k) w w' := (Chg.refl _ w).grown hg (fun k e _ => e)
  have hvl : ∀ b, v.ownBlock = some b → b < w.heap.size := fun b hb => (World.ownsRow.lt h.own b hb).2
  have hone : ∀ (A' : Option Addr) (n c' : Nat) (l : List Th), AS w A' n l → (∀ b, inB A' b → C b = 7 ∧ b < w.heap.size) → AS w' A' n l ∧ ∀ b, inB A' b → paint C w.heap.size 5 b = 7 ∧ b < w'.heap.size := fun A' n c' l h1 h2 =>
    ⟨h1.chg hch (fun k hk e => by have := h.hv _ e; have := (h2 k hk).1; omega), fun b hb => ⟨(paint_old C 5 (h2 b hb).2).trans (h2 b hb).1, Nat.lt_of_lt_of_le (h2 b hb).2 hch.size⟩⟩
  refine ⟨hown, fun b hb => ?_, by simp [h.len], fun j u z hu hz => ?_⟩
  · rcases ha with h1 | h1
    · rw [h1] at hb
      rw [paint_old C 5 (hvl b hb)]
      exact h.hv b hb
    · rw [h1] at hb
      obtain rfl := Option.some.inj hb
      exact paint_new C 5 (Nat.le_refl _)
  · rcases get_snoc1 hu with ⟨g1, hj1⟩ | ⟨e1, e2⟩ <;> rcases get_snoc1 hz with ⟨g2, hj2⟩ | ⟨e3, e4⟩
    · obtain ⟨A', c', e, k1, k2, k3⟩ := h.wb j u z g1 g2
      obtain ⟨k4, k5⟩ := hone A' z.2.length c' z.2 k2 k3
      exact ⟨A', c', e, k1, k4, k5⟩
    · have := h.len; omega
    · have := h.len; omega
    · obtain ⟨k4, k5⟩ := hone A x.2.length c x.2 hx.2.1 hx.2.2
      rw [e4]
      exact ⟨A, c, e2, hx.1, k4, k5⟩
theorem append_one_list {w : World} {ops : Array Oper} {rest : List Oper} {o : Oper} {a : Act} {Q : Exit → Act → World → Prop} (hgd : o.guard = none) (s x : Operand)
    (ho : o.op = .call { callee := .builtin .append, args := #[s, x], argTypes := #[34, 34] })
    (B : Nat) (hB : B ≤ w.heap.size) (v : Value) (vs : List Value) (hs : a.eval s = v) (hown : w.ownsRow B 48 1 v vs.length vs) (g0 cc : Nat) (u0 : Value) (hx : a.eval x = .slice (some ⟨g0, 0, none⟩) 1 cc)
    (hb : Blk w g0 48 #[u0]) (h0 : u0.oneCell' = true) (hlen : vs.length ≤ 1000000000)
    (h : ∀ v' w', w'.ownsRow B 48 1 v' (vs ++ [u0]).length (vs ++ [u0]) → w.grownBy w' v.ownBlock → (v'.ownBlock = v.ownBlock ∨ v'.ownBlock = some w.heap.size) → wpList Try.prog ops Q rest (a.put o.dst v') w') : wpList Try.prog ops Q (o :: rest) a w := by
  obtain ⟨i0, hi, hz0, hz1, hz2⟩ := info_parts infoLA
  refine wpList_append_own_at (P := Try.prog) w hgd s x 34 ho B 48 i0 _ 1 24 Try.underlying34 hi hz0 hz1 hz2 rfl (by omega) v vs.length vs hs hown ⟨g0, 0, none⟩ 1 cc [u0] hx rfl (fun j u hj => ?_) (fun u hu => ?_) (by simp only [maxLen]; omega) (by omega) hB (fun v' w' h2 h3 _ h5 => h v' w' (by simpa using h2) h3 h5)
  · have e : (⟨g0, 0, none⟩ : Addr).add j = ⟨g0, j, none⟩ := by unfold Addr.add; split <;> simp_all
    rw [e, hb.cell]
    match j, hj with
    | 0, hj => exact hj
    | j + 1, hj => simp at hj
  · simp only [List.mem_cons, List.not_mem_nil, or_false] at hu
    rw [hu]; exact h0
end Go.Proofs.Ytjkocghbnljifaa
