/- A copy of the document's list: append([]api.Alert{}, r.L...). -/
import Derived.Test.YtjkocghbnljifaaDpBook
import Derived.Laws.AppendOwnNone
namespace Go.Proofs.Ytjkocghbnljifaa
open Go.RowKit
theorem append_was {w0 w : World} {ops : Array Oper} {rest : List Oper} {o : Oper} {a : Act} {Q : Exit → Act → World → Prop} (hgd : o.guard = none) (s x : Operand)
    (ho : o.op = .call { callee := .builtin .append, args := #[s, x], argTypes := #[48, 48] })
    (base : Nat) (A : Option Addr) (m c : Nat) (q : List Th) (hw : w = w0.alloc (.cells #[] 44)) (hq : AW w0 base A m c q) (hm : m ≤ 100000)
    (hs : a.eval s = .slice (some ⟨w0.heap.size, 0, none⟩) 0 0) (hx : a.eval x = .slice A m c)
    (h : ∀ A' c' w', m ≤ c' → AS w' A' m q → Below w0.heap.size w0 w' → (∀ b, inB A' b → w0.heap.size ≤ b ∧ b < w'.heap.size) → wpList Try.prog ops Q rest (a.put o.dst (.slice A' m c')) w') : wpList Try.prog ops Q (o :: rest) a w := by
  obtain ⟨i0, hi, hz⟩ := Option.map_eq_some_iff.1 infoT
  simp only [Prod.mk.injEq] at hz
  obtain ⟨hz0, hz1⟩ := hz
  obtain ⟨i1, hi1, hz2⟩ := Option.map_eq_some_iff.1 infoTb
  rw [hi] at hi1
  obtain rfl := Option.some.inj hi1
  have hb0 : Below w0.heap.size w0 w := by rw [hw]; exact below_alloc _ _
  have hown : w.ownsRow w0.heap.size 44 12 (.slice (some ⟨w0.heap.size, 0, none⟩) 0 0) 0 [] := by
    rw [hw]; exact ⟨rfl, .inr ⟨w0.heap.size, 0, #[], rfl, Nat.le_refl _, heap_alloc_new w0 _, Nat.le_refl _, Nat.zero_le _, rfl, rfl⟩⟩
  have hql : (flatE Th.cells q).length = m * 12 := by rw [flatE_length th_size, hq.1]
  rcases hq.2.2.2 with ⟨rfl, e⟩ | ⟨g, off, cur, rfl, hg, hB, hsz, hc⟩
  · obtain rfl : m = 0 := by have := hq.2.1; omega
    subst e
    obtain rfl : q = [] := List.eq_nil_of_length_eq_zero hq.1
    refine wpList_append_own_none hgd s x 48 ho w0.heap.size 44 i0 12 Try.underlying48 hi _ 0 [] hs hown hx ?_
    refine h _ _ w (Nat.le_refl _) ⟨rfl, fun j y hj => by simp at hj⟩ hb0 (fun b hb => ?_)
    obtain ⟨ad, e1, rfl⟩ := hb
    obtain rfl := Option.some.inj e1
    exact ⟨Nat.le_refl _, (Array.getElem?_eq_some_iff.1 (by rw [hw]; exact heap_alloc_new w0 _)).1⟩
  · have hB1 := hB.keep hb0
    refine wpList_append_own_at (P := Try.prog) w hgd s x 48 ho w0.heap.size 44 i0 _ 12 104 Try.underlying48 hi hz0 hz1 hz2 rfl (by omega) _ 0 [] hs hown ⟨g, off, none⟩ m c (flatE Th.cells q) hx hql (fun j u hj => ?_) (fun u hu => ?_) (by simp only [maxLen]; omega) (by omega) hb0.size (fun v' w' h2 h3 h4 h5 => ?_)
    · have e : (⟨g, off, none⟩ : Addr).add j = ⟨g, off + j, none⟩ := by unfold Addr.add; split <;> simp_all
      rw [e, hB1.cell]
      exact hc j u hj
    · unfold flatE at hu
      obtain ⟨l, hl, hu⟩ := List.mem_flatten.1 hu
      obtain ⟨y, _, rfl⟩ := List.mem_map.1 hl
      exact th_one y u hu
    · rw [Nat.zero_add, List.nil_append] at h2
      rcases h2.2 with ⟨e, e0⟩ | ⟨g', cap, cur', rfl, hg', hh, k1, k2, k3, k4⟩
      · have := h4.1 e
        simp at this
      · have hbw : Below w0.heap.size w0 w' := hb0.trans (Chg.below (S := fun k => k = w0.heap.size) ((Chg.refl _ w).grown h3 (fun k e _ => (Option.some.inj e).symm)) (fun k hk e => by omega) hb0.size)
        refine h _ _ w' k1 ⟨hq.1, fun j y hj => ⟨g', 0, rfl, (Array.getElem?_eq_some_iff.1 hh).1, fun i u hu => ?_⟩⟩ hbw (fun b hb => ?_)
        · have hB2 : Blk w' g' 44 cur' := hh
          rw [hB2.cell, Nat.zero_add]
          have h7 := flatE_at th_size q hj hu
          rw [← k4, List.getElem?_take] at h7
          split at h7
          · simpa using h7
          · cases h7
        · obtain ⟨ad, e1, rfl⟩ := hb
          obtain rfl := Option.some.inj e1
          exact ⟨hg', (Array.getElem?_eq_some_iff.1 hh).1⟩
end Go.Proofs.Ytjkocghbnljifaa
