/- A pair behind a call: its rings turned, or made anew. -/
import Derived.Test.YtckhmdeeddjkhaaPlayHolds
namespace Go.Proofs.Ytckhmdeeddjkhaa
open Go.RowKit
section
variable {w w2 : World} {C : Nat → Nat × Nat} {i K g p n f r m c : Nat} {xs q : List Int} {A : Option Addr} {v v' : Value} {vs vs' : List Value} {ls lw : List (List Int)}
theorem PR.turn {C' : Nat → Nat × Nat} {f' m' c' : Nat} {xs' q' : List Int} {A' : Option Addr} (h : PR w C i K g p n f xs q r A m c v v' vs vs' ls lw) (hr : RG w2 g p n f' xs' q') (hf : RF w2 r n A' m' c' q')
    (hc : Chg (fun b => b = g ∨ b = p ∨ b = r) w w2) (hs : Sam w.heap.size C C') (hA : ∀ k, inA m' A' k → C' k = (i, 2)) :
    PR w2 C' i K g p n f' xs' q' r A' m' c' v v' vs vs' ls lw ∧ Chg (fun b => (C b).1 = i) w w2 := by
  have hcol : ∀ b, (b = g ∨ b = p ∨ b = r) → C b = (i, 1) ∨ C b = (i, 2) := fun b e => by
    rcases e with rfl | rfl | rfl
    · exact .inl h.cg
    · exact .inl h.cp
    · exact .inr h.cr
  have hne : ∀ (b x : Nat), C b = (i, x) → x ≠ 1 → x ≠ 2 → ¬ (b = g ∨ b = p ∨ b = r) := fun b x e h1 h2 hb => by
    rcases hcol b hb with e2 | e2 <;> (rw [e] at e2; injection e2 with _ e2; omega)
  refine ⟨⟨h.blk.chg hc (hne _ _ h.cK (by decide) (by decide)), hr, hf, h.l.step hc hs (fun b hb e => hne b 3 e (by decide) (by decide) hb), h.wt.step hc hs (fun b hb e => hne b 4 e (by decide) (by decide) hb),
    (hs _ h.blk.lt).trans h.cK, (hs _ h.ring.blk.lt).trans h.cg, (hs _ h.ring.arr.lt).trans h.cp, (hs _ h.ref.blk.lt).trans h.cr, hA, h.sm⟩, hc.mono (fun b _ hb => ?_)⟩
  rcases hcol b hb with e | e <;> rw [e]
theorem PR.renew {C' : Nat → Nat × Nat} {g' p' n' f' r' m' c' : Nat} {xs' q' : List Int} {A' : Option Addr} (h : PR w C i K g p n f xs q r A m c v v' vs vs' ls lw) (hr : RG w2 g' p' n' f' xs' q') (hf : RF w2 r' n' A' m' c' q')
    (hb : Below w.heap.size w w2) (hs : Sam w.heap.size C C') (hA : ∀ k, inA m' A' k → C' k = (i, 2)) (hg : C' g' = (i, 1)) (hp : C' p' = (i, 1)) (hr' : C' r' = (i, 2)) :
    PR ((w2.setCell ⟨K, 0, none⟩ (.pointer (some ⟨g', 0, none⟩))).setCell ⟨K, 1, none⟩ (.pointer (some ⟨r', 0, none⟩))) C' i K g' p' n' f' xs' q' r' A' m' c' v v' vs vs' ls lw ∧
      Chg (fun b => (C b).1 = i) w ((w2.setCell ⟨K, 0, none⟩ (.pointer (some ⟨g', 0, none⟩))).setCell ⟨K, 1, none⟩ (.pointer (some ⟨r', 0, none⟩))) := by
  have hc0 : Chg (fun _ => False) w w2 := Chg.of_below hb _
  have hk : Chg (fun b => b = K) w2 ((w2.setCell ⟨K, 0, none⟩ (.pointer (some ⟨g', 0, none⟩))).setCell ⟨K, 1, none⟩ (.pointer (some ⟨r', 0, none⟩))) :=
    Chg.setCell (S := fun b => b = K) (p := ⟨K, 1, none⟩) (Chg.setCell (S := fun b => b = K) (p := ⟨K, 0, none⟩) (Chg.refl _ w2) (.inl rfl) _) (.inl rfl) _
  have hK := (hs _ h.blk.lt).trans h.cK
  have hne : ∀ (b x : Nat), C' b = (i, x) → x ≠ 0 → ¬ b = K := fun b x e h1 hb => by
    rw [hb, hK] at e; injection e with _ e; omega
  refine ⟨⟨?_, hr.chg hk (hne _ _ hg (by decide)) (hne _ _ hp (by decide)), hf.chg hk (hne _ _ hr' (by decide)) (fun k hk' => hne _ _ (hA k hk') (by decide)),
    (h.l.step hc0 hs (fun _ h => h.elim)).step hk (Sam.refl _ _) (fun b hb' e => hne b 3 e (by decide) hb'), (h.wt.step hc0 hs (fun _ h => h.elim)).step hk (Sam.refl _ _) (fun b hb' e => hne b 4 e (by decide) hb'),
    hK, hg, hp, hr', hA, h.sm⟩, (hc0.mono (fun _ _ h => h.elim)).trans hk (fun b _ e => by rw [e, h.cK])⟩
  have := ((h.blk.keep hb).set_ 0 (.pointer (some ⟨g', 0, none⟩))).set_ 1 (.pointer (some ⟨r', 0, none⟩))
  simpa using this
end
/-- a pair with at most M lists -/
def PS (w : World) (C : Nat → Nat × Nat) (i K M : Nat) : Prop :=
  ∃ g p n f xs q r A m c v v' vs vs' ls, PR w C i K g p n f xs q r A m c v v' vs vs' ls ls ∧ ls.length ≤ M
theorem PS.step {S : Nat → Prop} {w w' : World} {C C' : Nat → Nat × Nat} {i K M : Nat} (h : PS w C i K M) (hc : Chg S w w') (hs : Sam w.heap.size C C') (hS : ∀ b, S b → (C b).1 ≠ i) : PS w' C' i K M := by
  obtain ⟨g, p, n, f, xs, q, r, A, m, c, v, v', vs, vs', ls, h, hl⟩ := h
  exact ⟨g, p, n, f, xs, q, r, A, m, c, v, v', vs, vs', ls, h.step hc hs hS, hl⟩
def PlayP (C : Nat → Nat × Nat) (i K M : Nat) (w : World) (e : Ending) (w' : World) : Prop :=
  e = .returned (.bool true) ∧ ∃ C', PS w' C' i K M ∧ Chg (fun b => (C b).1 = i) w w' ∧ Sam w.heap.size C C'
end Go.Proofs.Ytckhmdeeddjkhaa
