/- A pair's lists lengthened by two: all that is laid stays laid. -/
import Derived.Test.YtckhmdeeddjkhaaPlayPair
namespace Go.Proofs.Ytckhmdeeddjkhaa
open Go.RowKit
theorem col_ne {C : Nat → Nat × Nat} {a b : Nat} {x y : Nat × Nat} (ha : C a = x) (hb : C b = y) (h : x ≠ y) : a ≠ b := fun e => h (by rw [← ha, ← hb, e])
section
variable {w w8 : World} {C : Nat → Nat × Nat} {i K g p n f r m c : Nat} {xs q : List Int} {A : Option Addr} {v v' : Value} {vs vs' : List Value} {ls lw : List (List Int)}
theorem PR.moreL (h : PR w C i K g p n f xs q r A m c v v' vs vs' ls lw) {u0 u1 v8 : Value} {l0 l1 : List Int} (o0 : OI w 0 u0 l0) (o1 : OI w 0 u1 l1)
    (hc0 : ∀ b, u0.ownBlock = some b → C b = (i, 3) ∧ ∀ (j : Nat) (u : Value), vs[j]? = some u → u.ownBlock ≠ some b)
    (hc1 : ∀ b, u1.ownBlock = some b → C b = (i, 3) ∧ ∀ (j : Nat) (u : Value), vs[j]? = some u → u.ownBlock ≠ some b)
    (h01 : ∀ b, u0.ownBlock = some b → u1.ownBlock ≠ some b) (s0 : l0.length ≤ 64) (s1 : l1.length ≤ 64)
    (hown : w8.ownsRow 0 25 1 v8 (vs ++ [u0, u1]).length (vs ++ [u0, u1])) (hg : w.grownBy w8 v.ownBlock) (ha : v8.ownBlock = v.ownBlock ∨ v8.ownBlock = some w.heap.size) :
    PR (w8.setCell ⟨K, 2, none⟩ v8) (paint C w.heap.size (i, 3)) i K g p n f xs q r A m c v8 v' (vs ++ [u0, u1]) vs' (ls ++ [l0, l1]) lw ∧ Chg (fun b => (C b).1 = i) w (w8.setCell ⟨K, 2, none⟩ v8) := by
  have hL := h.l.more o0 o1 hc0 hc1 h01 hown hg ha
  have hch : Chg (fun k => v.ownBlock = some k) w w8 := (Chg.refl _ w).grown hg (fun k e _ => e)
  have hch2 : Chg (fun b => b = K) w8 (w8.setCell ⟨K, 2, none⟩ v8) := Chg.setCell (S := fun b => b = K) (p := ⟨K, 2, none⟩) (Chg.refl _ w8) (.inl rfl) _
  have hs := sam_paint C w.heap.size (i, 3)
  have hk : ∀ (b x : Nat), C b = (i, x) → x ≠ 3 → ¬ v.ownBlock = some b := fun b x e hx hb => by
    have := h.l.memv b hb
    rw [e] at this
    exact hx (by injection this)
  have hK : ∀ (b x : Nat), C b = (i, x) → x ≠ 0 → ¬ b = K := fun b x e hx hb => by
    rw [hb, h.cK] at e
    exact hx (by injection e with _ e; exact e.symm)
  have hpc : ∀ b, b < w.heap.size → ∀ x, C b = x → paint C w.heap.size (i, 3) b = x := fun b hb x e => (hs b hb).trans e
  have hlt8 : ∀ b, b < w.heap.size → b < w8.heap.size := fun b hb => Nat.lt_of_lt_of_le hb hch.size
  refine ⟨⟨?_, (h.ring.chg hch (hk _ _ h.cg (by decide)) (hk _ _ h.cp (by decide))).chg hch2 (hK _ _ h.cg (by decide)) (hK _ _ h.cp (by decide)),
    (h.ref.chg hch (hk _ _ h.cr (by decide)) (fun k hk' => hk _ _ (h.cA k hk') (by decide))).chg hch2 (hK _ _ h.cr (by decide)) (fun k hk' => hK _ _ (h.cA k hk') (by decide)),
    hL.step hch2 (Sam.refl _ _) (fun b hb e => ?_), (h.wt.step hch hs (fun b hb e => hk b 4 e (by decide) hb)).step hch2 (Sam.refl _ _) (fun b hb e => ?_), hpc _ h.blk.lt _ h.cK, hpc _ h.ring.blk.lt _ h.cg, hpc _ h.ring.arr.lt _ h.cp, hpc _ h.ref.blk.lt _ h.cr, fun k hk' => hpc _ (inA_lt h.ref k hk') _ (h.cA k hk'), fun l hl => ?_⟩, ?_⟩
  · have := (h.blk.grown hg (fun e => hk K 0 h.cK (by decide) e)).set_ 2 v8
    simpa using this
  · rw [hb, hpc _ h.blk.lt _ h.cK] at e
    exact absurd e (by simp)
  · rw [hb, hpc _ h.blk.lt _ h.cK] at e
    exact absurd e (by simp)
  · rcases List.mem_append.1 hl with hl | hl
    · exact h.sm l hl
    · simp only [List.mem_cons, List.not_mem_nil, or_false] at hl
      rcases hl with rfl | rfl
      · exact s0
      · exact s1
  · refine ((hch.mono (fun b _ hb => by rw [h.l.memv b hb]))).trans hch2 (fun b _ hb => by rw [hb, h.cK])
theorem PR.moreW (h : PR w C i K g p n f xs q r A m c v v' vs vs' ls lw) {u0 u1 v8 : Value} {l0 l1 : List Int} (o0 : OI w 0 u0 l0) (o1 : OI w 0 u1 l1)
    (hc0 : ∀ b, u0.ownBlock = some b → C b = (i, 4) ∧ ∀ (j : Nat) (u : Value), vs'[j]? = some u → u.ownBlock ≠ some b)
    (hc1 : ∀ b, u1.ownBlock = some b → C b = (i, 4) ∧ ∀ (j : Nat) (u : Value), vs'[j]? = some u → u.ownBlock ≠ some b)
    (h01 : ∀ b, u0.ownBlock = some b → u1.ownBlock ≠ some b)
    (hown : w8.ownsRow 0 25 1 v8 (vs' ++ [u0, u1]).length (vs' ++ [u0, u1])) (hg : w.grownBy w8 v'.ownBlock) (ha : v8.ownBlock = v'.ownBlock ∨ v8.ownBlock = some w.heap.size) :
    PR (w8.setCell ⟨K, 3, none⟩ v8) (paint C w.heap.size (i, 4)) i K g p n f xs q r A m c v v8 vs (vs' ++ [u0, u1]) ls (lw ++ [l0, l1]) ∧ Chg (fun b => (C b).1 = i) w (w8.setCell ⟨K, 3, none⟩ v8) := by
  have hL := h.wt.more o0 o1 hc0 hc1 h01 hown hg ha
  have hch : Chg (fun k => v'.ownBlock = some k) w w8 := (Chg.refl _ w).grown hg (fun k e _ => e)
  have hch2 : Chg (fun b => b = K) w8 (w8.setCell ⟨K, 3, none⟩ v8) := Chg.setCell (S := fun b => b = K) (p := ⟨K, 3, none⟩) (Chg.refl _ w8) (.inl rfl) _
  have hs := sam_paint C w.heap.size (i, 4)
  have hk : ∀ (b x : Nat), C b = (i, x) → x ≠ 4 → ¬ v'.ownBlock = some b := fun b x e hx hb => by
    have := h.wt.memv b hb
    rw [e] at this
    exact hx (by injection this)
  have hK : ∀ (b x : Nat), C b = (i, x) → x ≠ 0 → ¬ b = K := fun b x e hx hb => by
    rw [hb, h.cK] at e
    exact hx (by injection e with _ e; exact e.symm)
  have hpc : ∀ b, b < w.heap.size → ∀ x, C b = x → paint C w.heap.size (i, 4) b = x := fun b hb x e => (hs b hb).trans e
  refine ⟨⟨?_, (h.ring.chg hch (hk _ _ h.cg (by decide)) (hk _ _ h.cp (by decide))).chg hch2 (hK _ _ h.cg (by decide)) (hK _ _ h.cp (by decide)),
    (h.ref.chg hch (hk _ _ h.cr (by decide)) (fun k hk' => hk _ _ (h.cA k hk') (by decide))).chg hch2 (hK _ _ h.cr (by decide)) (fun k hk' => hK _ _ (h.cA k hk') (by decide)),
    (h.l.step hch hs (fun b hb e => hk b 3 e (by decide) hb)).step hch2 (Sam.refl _ _) (fun b hb e => ?_), hL.step hch2 (Sam.refl _ _) (fun b hb e => ?_), hpc _ h.blk.lt _ h.cK, hpc _ h.ring.blk.lt _ h.cg, hpc _ h.ring.arr.lt _ h.cp, hpc _ h.ref.blk.lt _ h.cr, fun k hk' => hpc _ (inA_lt h.ref k hk') _ (h.cA k hk'), h.sm⟩, ?_⟩
  · have := (h.blk.grown hg (fun e => hk K 0 h.cK (by decide) e)).set_ 3 v8
    simpa using this
  · rw [hb, hpc _ h.blk.lt _ h.cK] at e
    exact absurd e (by simp)
  · rw [hb, hpc _ h.blk.lt _ h.cK] at e
    exact absurd e (by simp)
  · refine ((hch.mono (fun b _ hb => by rw [h.wt.memv b hb]))).trans hch2 (fun b _ hb => by rw [hb, h.cK])
end
end Go.Proofs.Ytckhmdeeddjkhaa
