/- The state of the fourth loop of Book.whole. -/
import Derived.Test.YtjkocghbnljifaaDpMore
namespace Go.Proofs.Ytjkocghbnljifaa
open Go.RowKit
def mkA (i : Nat) : Th := ⟨-(i : Int) - 1, 0, 0, 0, 0, 0, 0, 0, 0, 0, ByteArray.empty, 0⟩
/-- the first i lists, each longer by its mark, in a row of the call's own -/
def R4 (wo W : World) (rs1 : List (Nat × List Th)) (i : Nat) (mv : Value) : Prop :=
  ∃ C' us2 qs, WSs W wo.heap.size C' mv us2 qs ∧ Below wo.heap.size wo W ∧ qs.length = i ∧ ∀ (t : Nat) (x : Nat × List Th), t < i → rs1[t]? = some x → qs[t]? = some (0, x.2 ++ [mkA t])
theorem R4.nil (wo : World) (rs1 : List (Nat × List Th)) : R4 wo wo rs1 0 (.slice none 0 0) := ⟨fun _ => 0, [], [], WSs.nil _ _ _, Below.refl _ _, rfl, fun t x h => by omega⟩
theorem R4.drewN {wo W : World} {rs1 : List (Nat × List Th)} {i : Nat} {mv : Value} (h : R4 wo W rs1 i mv) (md : Nat) : R4 wo (W.drewN md) rs1 i mv := by
  obtain ⟨C', us2, qs, h1, h2, h3, h4⟩ := h
  have hb := below_drewN (Below.refl W.heap.size W) md
  exact ⟨C', us2, qs, h1.step (Chg.of_below hb (fun _ => False)) (fun _ _ => rfl) (fun _ _ e => e.elim), below_drewN h2 md, h3, h4⟩
theorem R4.one {wo wr w5 w6 : World} {rs1 : List (Nat × List Th)} {i a g' c' : Nat} {l : List Th} {mv : Value} (h : R4 wo wr rs1 i mv) (hx : rs1[i]? = some (a, l)) (h5 : Below wr.heap.size wr w5) (e1 : l.length + 1 ≤ c') (e2 : AS w6 (some ⟨g', 0, none⟩) (l.length + 1) (l ++ [mkA i])) (e3 : Below w5.heap.size w5 w6) (e4 : w5.heap.size ≤ g') (e5 : g' < w6.heap.size) :
    ∃ us2, (w6.alloc (.cells #[.slice (some ⟨g', 0, none⟩) (l.length + 1) c'] 48)).ownsRow wo.heap.size 48 1 mv us2.length us2 ∧ us2.length = i ∧ wo.heap.size ≤ (w6.alloc (.cells #[.slice (some ⟨g', 0, none⟩) (l.length + 1) c'] 48)).heap.size ∧
      ∀ v' w8, w8.ownsRow wo.heap.size 48 1 v' (us2 ++ [Value.slice (some ⟨g', 0, none⟩) (l.length + 1) c']).length (us2 ++ [Value.slice (some ⟨g', 0, none⟩) (l.length + 1) c']) → (w6.alloc (.cells #[.slice (some ⟨g', 0, none⟩) (l.length + 1) c'] 48)).grownBy w8 mv.ownBlock → (v'.ownBlock = mv.ownBlock ∨ v'.ownBlock = some (w6.alloc (.cells #[.slice (some ⟨g', 0, none⟩) (l.length + 1) c'] 48)).heap.size) →
        (∃ Av cv, v' = .slice Av (i + 1) cv) ∧ R4 wo w8 rs1 (i + 1) v' := by
  obtain ⟨C', us2, qs, h1, h2, h3, h4⟩ := h
  obtain ⟨w7, hw7⟩ : ∃ w7, w7 = w6.alloc (.cells #[.slice (some ⟨g', 0, none⟩) (l.length + 1) c'] 48) := ⟨_, rfl⟩
  rw [← hw7]
  have hb6 : Below wr.heap.size wr w6 := h5.trans (e3.mono h5.size)
  have hal : Below w6.heap.size w6 w7 := by rw [hw7]; exact below_alloc _ _
  have hb7 : Below wr.heap.size wr w7 := hb6.trans (hal.mono hb6.size)
  have hW7 : WSs w7 wo.heap.size (paint C' wr.heap.size 7) mv us2 qs := h1.step (Chg.of_below hb7 (fun _ => False)) (fun b hb => paint_old C' 7 hb) (fun _ _ e => e.elim)
  have hul : us2.length = i := by rw [h1.len, h3]
  have hs : wo.heap.size ≤ w7.heap.size := Nat.le_trans h2.size hb7.size
  refine ⟨us2, hW7.own, hul, hs, fun v' w8 k1 k2 k3 => ?_⟩
  have hll : (l ++ [mkA i]).length = l.length + 1 := by simp
  have key := hW7.one (x := (0, l ++ [mkA i])) (A := some ⟨g', 0, none⟩) (c := c') (v' := v') (w' := w8) ⟨by show (l ++ [mkA i]).length ≤ c'; rw [hll]; exact e1, by show AS w7 _ (l ++ [mkA i]).length (l ++ [mkA i]); rw [hll]; exact e2.keep hal, fun b hb => by
      obtain ⟨_, e, rfl⟩ := hb
      obtain rfl := Option.some.inj e
      exact ⟨paint_new C' 7 (Nat.le_trans h5.size e4), Nat.lt_of_lt_of_le e5 hal.size⟩⟩ (by show w8.ownsRow _ _ 1 v' (us2 ++ [Value.slice (some ⟨g', 0, none⟩) (l ++ [mkA i]).length c']).length (us2 ++ [Value.slice (some ⟨g', 0, none⟩) (l ++ [mkA i]).length c']); rw [hll]; exact k1) k2 k3
  refine ⟨?_, _, _, _, key, ?_, by simp [h3], fun t x ht hx2 => ?_⟩
  · obtain ⟨A, c, e⟩ := row_form k1
    rw [List.length_append, hul] at e
    exact ⟨A, c, e⟩
  · have b1 : Below wo.heap.size wo w7 := h2.trans (hb7.mono h2.size)
    exact b1.trans (Chg.below (S := fun k => mv.ownBlock = some k) ((Chg.refl _ w7).grown k2 (fun k e _ => e)) (fun k hk e => by have := (World.ownsRow.lt h1.own k e).1; omega) hs)
  · by_cases e : t < i
    · rw [List.getElem?_append_left (by omega)]
      exact h4 t x e hx2
    · obtain rfl : t = i := by omega
      rw [hx] at hx2
      obtain rfl := Option.some.inj hx2
      rw [← h3, List.getElem?_append_right (Nat.le_refl _), Nat.sub_self]
      rfl
end Go.Proofs.Ytjkocghbnljifaa
