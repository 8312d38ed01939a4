/- Several disks, each of a colour of its own (disk k: k + 4), and facts that are held in blocks of colour 3. -/
import Derived.Test.YthhbfjhgmdnpbabDS
import Derived.Test.YthhbfjhgmdnpbabCopy
namespace Go.Proofs.Ythhbfjhgmdnpbab
open Go.RowKit Go.Maps
structure MD (w0 W : World) (C : Nat → Nat) (D : List (Nat × Nat × Dk)) (P : World → Prop) : Prop where
  bel : Below w0.heap.size w0 W
  sam : Sam w0.heap.size (fun _ => 0) C
  ds : ∀ k p n d, D[k]? = some (p, n, d) → DC W w0.heap.size C (k + 4) p n d
  fr : Fr W C P
section
variable {w0 W w' : World} {C : Nat → Nat} {D : List (Nat × Nat × Dk)} {P Q : World → Prop}
theorem MD.far (h : MD w0 W C D P) {c : Nat} (hc : c ≠ 0) {b : Nat} (hb : C b = c) : w0.heap.size ≤ b := by
  rcases Nat.lt_or_ge b w0.heap.size with hlt | hge
  · have := h.sam b hlt
    rw [hb] at this
    exact absurd this hc
  · exact hge
/-- a disk turns -/
theorem MD.step (h : MD w0 W C D P) {k p n n' : Nat} {d d' : Dk} (hk : D[k]? = some (p, n, d)) (hd : DC w' w0.heap.size (paint C W.heap.size (k + 4)) (k + 4) p n' d') (hc : Chg (fun b => C b = k + 4) W w') : MD w0 w' (paint C W.heap.size (k + 4)) (D.set k (p, n', d')) P := by
  refine ⟨h.bel.trans (hc.below (fun b hb e => by have := h.far (by omega) e; omega) h.bel.size), h.sam.trans (sam_paint _ _ _) h.bel.size, fun j q m e hj => ?_, h.fr.step hc (sam_paint _ _ _) (fun b hb e => by omega)⟩
  by_cases e1 : j = k
  · subst e1
    have hl := (List.getElem?_eq_some_iff.1 hk).1
    rw [List.getElem?_set_self hl] at hj
    obtain ⟨rfl, rfl, rfl⟩ : p = q ∧ n' = m ∧ d' = e := by simpa using hj
    exact hd
  · rw [List.getElem?_set_ne (fun e2 => e1 e2.symm)] at hj
    exact (h.ds j q m e hj).step hc (sam_paint _ _ _) (fun b hb e2 => by omega)
/-- something new -/
theorem MD.keep (h : MD w0 W C D P) (hb : Below W.heap.size W w') (c : Nat) : MD w0 w' (paint C W.heap.size c) D P :=
  ⟨h.bel.trans (hb.mono h.bel.size), h.sam.trans (sam_paint _ _ _) h.bel.size, fun j q m e hj => (h.ds j q m e hj).keep hb (sam_paint _ _ _), h.fr.keep hb (sam_paint _ _ _)⟩
theorem MD.same (h : MD w0 W C D P) (hb : Below W.heap.size W w') : MD w0 w' C D P :=
  ⟨h.bel.trans (hb.mono h.bel.size), h.sam, fun j q m e hj => (h.ds j q m e hj).keep hb (Sam.refl _ _), h.fr.keep hb (Sam.refl _ _)⟩
theorem MD.hold (h : MD w0 W C D P) (k : Fr W C Q) : MD w0 W C D (fun w => P w ∧ Q w) := ⟨h.bel, h.sam, h.ds, h.fr.and k⟩
theorem MD.fact (h : MD w0 W C D P) (k : Fr W C Q) : MD w0 W C D Q := ⟨h.bel, h.sam, h.ds, k⟩
/-- a held block turns: blocks of colour 3 that P does not look at are to be shown anew -/
theorem MD.turn (h : MD w0 W C D P) {S : Nat → Prop} (hc : Chg S W w') (hS : ∀ b, S b → C b = 3) (hf : Fr w' (paint C W.heap.size 3) Q) : MD w0 w' (paint C W.heap.size 3) D Q :=
  ⟨h.bel.trans (hc.below (fun b hb e => by have := h.far (by omega) (hS b e); omega) h.bel.size), h.sam.trans (sam_paint _ _ _) h.bel.size, fun j q m e hj => (h.ds j q m e hj).step hc (sam_paint _ _ _) (fun b hb e2 => by have := hS b hb; omega), hf⟩
/-- a block of colour 2 turns: nothing that is kept -/
theorem MD.other (h : MD w0 W C D P) {S : Nat → Prop} (hc : Chg S W w') (hS : ∀ b, S b → C b = 2) : MD w0 w' (paint C W.heap.size 2) D P :=
  ⟨h.bel.trans (hc.below (fun b hb e => by have := h.far (by omega) (hS b e); omega) h.bel.size), h.sam.trans (sam_paint _ _ _) h.bel.size, fun j q m e hj => (h.ds j q m e hj).step hc (sam_paint _ _ _) (fun b hb e2 => by have := hS b hb; omega), h.fr.step hc (sam_paint _ _ _) (fun b hb e => by have := hS b hb; omega)⟩
/-- a copy is one disk more -/
theorem MD.copy (h : MD w0 W C D P) {k p n : Nat} {d : Dk} (hk : D[k]? = some (p, n, d)) : Calls Try.prog 9 #[.pointer (some ⟨p, 0, none⟩)] W fun e w' => ∃ p2, e = .returned (.pointer (some ⟨p2, 0, none⟩)) ∧ MD w0 w' (paint C W.heap.size (D.length + 4)) (D ++ [(p2, n, d)]) P ∧ Below W.heap.size W w' := by
  have hl := (List.getElem?_eq_some_iff.1 hk).1
  refine (copy_c (h.ds k p n d hk) (D.length + 4) (by omega)).mono ?_
  rintro e w' ⟨p2, he, hp, h1, h2, hb⟩
  have hm := h.keep hb (D.length + 4)
  refine ⟨p2, he, ⟨hm.bel, hm.sam, fun j q m e hj => ?_, hm.fr⟩, hb⟩
  by_cases e1 : j < D.length
  · rw [List.getElem?_append_left e1] at hj
    exact hm.ds j q m e hj
  · have hjl : j = D.length := by
      have := (List.getElem?_eq_some_iff.1 hj).1
      simp at this; omega
    subst hjl
    rw [List.getElem?_append_right (Nat.le_refl _), Nat.sub_self] at hj
    obtain ⟨rfl, rfl, rfl⟩ : p2 = q ∧ n = m ∧ d = e := by simpa using hj
    obtain ⟨h0, bf, bn, bs, fl, h3, h4⟩ := h2
    have hz := h.bel.size
    exact ⟨h0, bf, bn, bs, fl, ⟨h3.bd, h3.mf, h3.mn, h3.ms, ⟨Nat.le_trans hz h3.lo.1, Nat.le_trans hz h3.lo.2.1, Nat.le_trans hz h3.lo.2.2.1, Nat.le_trans hz h3.lo.2.2.2.1, h3.lo.2.2.2.2⟩, h3.hf, fun i g x hi hx => ⟨Nat.le_trans hz (h3.fw i g x hi hx).1, by
      obtain ⟨v, hv, ho⟩ := (h3.fw i g x hi hx).2
      exact ⟨v, hv, ho.less hz⟩⟩, h3.ap, h3.ab⟩, h4⟩
end
/-- behind New -/
theorem MD.made {w0 wk w1 : World} (hk : Below w0.heap.size w0 wk) {p : Nat} (hd : DC w1 wk.heap.size (paint (fun _ => 0) wk.heap.size 4) 4 p 0 emptyD) (hb : Below wk.heap.size wk w1) : MD w0 w1 (paint (fun _ => 0) wk.heap.size 4) [(p, 0, emptyD)] (fun _ => True) := by
  have hz := hk.size
  refine ⟨hk.trans (hb.mono hz), (sam_paint (fun _ => 0) wk.heap.size 4).mono hz, fun j q m e hj => ?_, ⟨trivial, fun _ _ _ => trivial⟩⟩
  match j, hj with
  | 0, hj =>
    obtain ⟨rfl, rfl, rfl⟩ : p = q ∧ 0 = m ∧ emptyD = e := by simpa using hj
    obtain ⟨h0, bf, bn, bs, fl, h1, h2⟩ := hd
    exact ⟨h0, bf, bn, bs, fl, ⟨h1.bd, h1.mf, h1.mn, h1.ms, ⟨Nat.le_trans hz h1.lo.1, Nat.le_trans hz h1.lo.2.1, Nat.le_trans hz h1.lo.2.2.1, Nat.le_trans hz h1.lo.2.2.2.1, h1.lo.2.2.2.2⟩, h1.hf, fun i g x hi hx => (by cases hx), h1.ap, h1.ab⟩, h2⟩
  | j + 1, hj => simp at hj
end Go.Proofs.Ythhbfjhgmdnpbab
