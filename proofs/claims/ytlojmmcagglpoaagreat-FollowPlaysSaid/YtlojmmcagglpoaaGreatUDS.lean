/- A disk of colour 1 in memory of a call's own; facts that are held in blocks of colour 3. -/
import Derived.Test.YtlojmmcagglpoaaGreatUDiskC
namespace Go.Proofs.YtlojmmcagglpoaaGreat
open Go.RowKit Go.Maps
theorem paint_paint (C : Nat → Nat) {h h' : Nat} (c : Nat) (hh : h ≤ h') : paint (paint C h c) h' c = paint C h c := by
  funext b
  by_cases h1 : b < h'
  · exact paint_old _ c h1
  · rw [paint_new _ c (by omega), paint_new C c (by omega)]
theorem chg_paint {S : Nat → Prop} {W w1 w2 : World} {C : Nat → Nat} {c : Nat} (h : Chg S W w1) (h2 : Chg (fun b => paint C W.heap.size c b = c) w1 w2) : Chg (fun b => S b ∨ C b = c) W w2 :=
  (h.mono (fun _ _ e => .inl e)).trans h2 (fun b hb e => .inr (by rwa [paint_old C c hb] at e))
structure DS (w0 W : World) (C : Nat → Nat) (p n : Nat) (d : Dk) : Prop where
  bel : Below w0.heap.size w0 W
  sam : Sam w0.heap.size (fun _ => 0) C
  dc : DC W w0.heap.size C 1 p n d
theorem DS.keep {w0 W w' : World} {C : Nat → Nat} {p n : Nat} {d : Dk} (h : DS w0 W C p n d) (hb : Below W.heap.size W w') : DS w0 w' C p n d := ⟨h.bel.trans (hb.mono h.bel.size), h.sam, h.dc.keep hb (Sam.refl _ _)⟩
theorem DS.step {w0 W w' : World} {C : Nat → Nat} {p n n' : Nat} {d : Dk} (h : DS w0 W C p n d) {r : Int × Dk} {e : Ending} (hq : StepQ W w0.heap.size C 1 p n' r e w') : DS w0 w' (paint C W.heap.size 1) p n' r.2 :=
  ⟨h.bel.trans (hq.2.2.below (fun k hk e => by have := h.sam k hk; rw [e] at this; cases this) h.bel.size), h.sam.trans (sam_paint _ _ _) h.bel.size, hq.2.1⟩
theorem DS.chg {w0 W w' : World} {C C' : Nat → Nat} {p n : Nat} {d : Dk} (h : DS w0 W C p n d) {S : Nat → Prop} (hc : Chg S W w') (hs : Sam W.heap.size C C') (hS : ∀ b, S b → C b ≠ 1 ∧ w0.heap.size ≤ b) : DS w0 w' C' p n d :=
  ⟨h.bel.trans (hc.below (fun k hk e => by have := (hS k e).2; omega) h.bel.size), h.sam.trans hs h.bel.size, h.dc.step hc hs (fun b hb => (hS b hb).1)⟩
theorem DS.keep2 {w0 W w' : World} {C C' : Nat → Nat} {p n : Nat} {d : Dk} (h : DS w0 W C p n d) (hb : Below W.heap.size W w') (hs : Sam W.heap.size C C') : DS w0 w' C' p n d := h.chg (Chg.of_below hb (fun _ => False)) hs (fun _ h => h.elim)
theorem DS.made {w0 wk w1 : World} (hk : Below w0.heap.size w0 wk) {p : Nat} (hd : DC w1 wk.heap.size (paint (fun _ => 0) wk.heap.size 1) 1 p 0 emptyD) (hb : Below wk.heap.size wk w1) : DS w0 w1 (paint (fun _ => 0) wk.heap.size 1) p 0 emptyD :=
  ⟨hk.trans (hb.mono hk.size), (sam_paint (fun _ => 0) wk.heap.size 1).mono hk.size, by
    obtain ⟨h0, bf, bn, bs, fl, h1, h2⟩ := hd
    have h3 : DW w1 w0.heap.size p 0 emptyD bf bn bs fl := ⟨h1.bd, h1.mf, h1.mn, h1.ms, ⟨Nat.le_trans hk.size h1.lo.1, Nat.le_trans hk.size h1.lo.2.1, Nat.le_trans hk.size h1.lo.2.2.1, Nat.le_trans hk.size h1.lo.2.2.2.1, h1.lo.2.2.2.2⟩, h1.hf, fun i g x hi hx => (by cases hx), h1.ap, h1.ab⟩
    exact ⟨h0, bf, bn, bs, fl, h3, h2⟩⟩
structure Fr (W : World) (C : Nat → Nat) (P : World → Prop) : Prop where
  now : P W
  later : ∀ w', W.heap.size ≤ w'.heap.size → (∀ b, b < W.heap.size → C b = 3 → w'.heap[b]? = W.heap[b]?) → P w'
section
variable {W w' : World} {C C' : Nat → Nat} {P Q : World → Prop}
theorem Fr.step (h : Fr W C P) {S : Nat → Prop} (hc : Chg S W w') (hs : Sam W.heap.size C C') (hS : ∀ b, S b → C b ≠ 3) : Fr w' C' P :=
  have key : ∀ b, b < W.heap.size → C b = 3 → w'.heap[b]? = W.heap[b]? := fun b hb h3 => hc.block b hb (fun e => hS b e h3)
  ⟨h.later w' hc.size key, fun w2 hz hk => h.later w2 (Nat.le_trans hc.size hz) (fun b hb h3 => (hk b (Nat.lt_of_lt_of_le hb hc.size) (by rw [hs b hb]; exact h3)).trans (key b hb h3))⟩
theorem Fr.keep (h : Fr W C P) (hb : Below W.heap.size W w') (hs : Sam W.heap.size C C') : Fr w' C' P := h.step (Chg.of_below hb (fun _ => False)) hs (fun _ e => e.elim)
theorem Fr.and (h : Fr W C P) (k : Fr W C Q) : Fr W C (fun w => P w ∧ Q w) := ⟨⟨h.now, k.now⟩, fun w2 hz hk => ⟨h.later w2 hz hk, k.later w2 hz hk⟩⟩
theorem Fr.mono (h : Fr W C P) (hp : ∀ w, P w → Q w) : Fr W C Q := ⟨hp _ h.now, fun w2 hz hk => hp _ (h.later w2 hz hk)⟩
theorem Fr.blk {b : Nat} {t : TypeId} {cs : Array Value} (h : Blk W b t cs) (hc : C b = 3) : Fr W C (fun w => Blk w b t cs) := ⟨h, fun _ _ hk => (hk b h.lt hc).trans h⟩
end
end Go.Proofs.YtlojmmcagglpoaaGreat
