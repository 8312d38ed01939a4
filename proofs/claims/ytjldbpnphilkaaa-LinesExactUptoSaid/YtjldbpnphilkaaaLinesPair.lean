/- Two makers of the program and two of the document, side by side: what one call leaves of the others. -/
import Derived.Test.YtjldbpnphilkaaaLinesKnown
import Derived.Test.YtjldbpnphilkaaaLinesRun
namespace Go.Proofs.Ytjldbpnphilkaaa
open Go.RowKit
theorem OB.rb {w : World} {base n cap : Nat} {A : Option Addr} {l : List UInt8} (h : OB w base (.slice A n cap) l) : RB w A n l := by
  obtain ⟨A', c', e, _, _, hr⟩ := h.form
  injection e with e1 e2 e3
  subst e1; subst e2; exact hr
def upd {α : Type} (f : Nat → α) (i : Nat) (a : α) : Nat → α := fun j => if j = i then a else f j
theorem upd_same {α : Type} (f : Nat → α) (i : Nat) (a : α) : upd f i a i = a := by simp [upd]
theorem upd_ne {α : Type} (f : Nat → α) {i j : Nat} (a : α) (h : j ≠ i) : upd f i a j = f j := by simp [upd, h]
/-- no block in common -/
def Ap (v v' : Value) : Prop := ∀ k, v.ownBlock = some k → v'.ownBlock ≠ some k
theorem Ap.symm {v v' : Value} (h : Ap v v') : Ap v' v := fun k hk hk' => h k hk' hk
structure Pairs (w0 W : World) (g r : Nat → Nat) (v x : Nat → Value) (most : Nat → Nat) (um : Nat → List UInt8) (lm : Nat → Nat) (ur : Nat → List UInt8) (lr : Nat → Nat) : Prop where
  mm : ∀ i, i < 2 → MK W (g i) (v i) (most i) (um i) (lm i)
  rm : ∀ i, i < 2 → RM W (r i) (x i) (most i) (ur i) (lr i)
  hg : ∀ i, i < 2 → w0.heap.size ≤ g i
  hr : ∀ i, i < 2 → w0.heap.size ≤ r i
  hv : ∀ i, i < 2 → ∀ k, (v i).ownBlock = some k → w0.heap.size ≤ k
  hx : ∀ i, i < 2 → ∀ k, (x i).ownBlock = some k → w0.heap.size ≤ k
  gg : ∀ i j, i < 2 → j < 2 → i ≠ j → g i ≠ g j
  rr : ∀ i j, i < 2 → j < 2 → i ≠ j → r i ≠ r j
  vv : ∀ i j, i < 2 → j < 2 → i ≠ j → Ap (v i) (v j)
  vx : ∀ i j, i < 2 → j < 2 → Ap (v i) (x j)
  xx : ∀ i j, i < 2 → j < 2 → i ≠ j → Ap (x i) (x j)
  below : Below w0.heap.size w0 W
section
variable {w0 W W' : World} {g r : Nat → Nat} {v x : Nat → Value} {most : Nat → Nat} {um ur : Nat → List UInt8} {lm lr : Nat → Nat}
theorem Pairs.gr (h : Pairs w0 W g r v x most um lm ur lr) {i j : Nat} (hi : i < 2) (hj : j < 2) : g i ≠ r j := by
  intro e
  have h1 := (h.mm i hi).blk; have h2 := (h.rm j hj).blk
  rw [e] at h1
  unfold Blk at h1 h2
  rw [h1] at h2
  injection h2 with h2
  injection h2 with _ ht
  exact absurd ht (by decide)
theorem Pairs.chg (h : Pairs w0 W g r v x most um lm ur lr) {S : Nat → Prop} (hc : Chg S W W') (hS0 : ∀ k, k < w0.heap.size → ¬ S k) (hg : ∀ i, i < 2 → ¬ S (g i)) (hr : ∀ i, i < 2 → ¬ S (r i)) (hv : ∀ i, i < 2 → ∀ k, (v i).ownBlock = some k → ¬ S k) (hx : ∀ i, i < 2 → ∀ k, (x i).ownBlock = some k → ¬ S k) :
    Pairs w0 W' g r v x most um lm ur lr :=
  ⟨fun i hi => (h.mm i hi).chg hc (hg i hi) (hv i hi), fun i hi => (h.rm i hi).chg hc (hr i hi) (hx i hi), h.hg, h.hr, h.hv, h.hx, h.gg, h.rr, h.vv, h.vx, h.xx, h.below.trans (hc.below hS0 h.below.size)⟩
theorem Pairs.keep (h : Pairs w0 W g r v x most um lm ur lr) (hb : Below W.heap.size W W') : Pairs w0 W' g r v x most um lm ur lr :=
  h.chg (Chg.of_below hb (fun _ => False)) (fun _ _ => id) (fun _ _ => id) (fun _ _ => id) (fun _ _ _ _ => id) (fun _ _ _ _ => id)
theorem Pairs.drewN (h : Pairs w0 W g r v x most um lm ur lr) (n : Nat) : Pairs w0 (W.drewN n) g r v x most um lm ur lr :=
  h.chg ((Chg.refl (fun _ => False) W).drewN n) (fun _ _ => id) (fun _ _ => id) (fun _ _ => id) (fun _ _ _ _ => id) (fun _ _ _ _ => id)
theorem fresh_ap {v v' y : Value} (hf : Fresh W v v') (h : Ap v y) (hy : ∀ k, y.ownBlock = some k → k < W.heap.size) : Ap v' y := fun k hk hk' => by
  rcases hf k hk with h' | h'
  · exact h k h' hk'
  · have := hy k hk'; omega
/-- a call on the program's maker i -/
theorem Pairs.maker (h : Pairs w0 W g r v x most um lm ur lr) {i : Nat} (hi : i < 2) {v' : Value} {u' : List UInt8} {l' : Nat} (hm : MK W' (g i) v' (most i) u' l') (hc : Chg (ownF (g i) (v i)) W W') (hf : Fresh W (v i) v') :
    Pairs w0 W' g r (upd v i v') x most (upd um i u') (upd lm i l') ur lr := by
  have hS0 : ∀ k, k < w0.heap.size → ¬ ownF (g i) (v i) k := fun k hk hs => by
    rcases hs with hs | hs
    · have := h.hg i hi; omega
    · have := h.hv i hi k hs; omega
  have hlv : ∀ j, j < 2 → ∀ k, (v j).ownBlock = some k → k < W.heap.size := fun j hj k hk => ((h.mm j hj).own.lt k hk).2
  have hlx : ∀ j, j < 2 → ∀ k, (x j).ownBlock = some k → k < W.heap.size := fun j hj k hk => ((h.rm j hj).own.lt k hk).2
  refine ⟨fun j hj => ?_, fun j hj => ?_, h.hg, h.hr, fun j hj k hk => ?_, h.hx, h.gg, h.rr, fun a b ha hb hab => ?_, fun a b ha hb => ?_, h.xx, h.below.trans (hc.below hS0 h.below.size)⟩
  · by_cases e : j = i
    · subst e; rw [upd_same, upd_same, upd_same]; exact hm
    · rw [upd_ne _ _ e, upd_ne _ _ e, upd_ne _ _ e]
      refine (h.mm j hj).chg hc (fun hs => ?_) (fun k hk hs => ?_)
      · rcases hs with hs | hs
        · exact h.gg j i hj hi e hs
        · exact (h.mm j hj).blk.apart (h.mm i hi).own (by decide) hs
      · rcases hs with hs | hs
        · exact (h.mm i hi).blk.apart (h.mm j hj).own (by decide) (by rw [hk, hs])
        · exact h.vv j i hj hi e k hk hs
  · refine (h.rm j hj).chg hc (fun hs => ?_) (fun k hk hs => ?_)
    · rcases hs with hs | hs
      · exact h.gr hi hj hs.symm
      · exact (h.rm j hj).blk.apart (h.mm i hi).own (by decide) hs
    · rcases hs with hs | hs
      · exact (h.mm i hi).blk.apart (h.rm j hj).own (by decide) (by rw [hk, hs])
      · exact h.vx i j hi hj k hs hk
  · by_cases e : j = i
    · subst e; rw [upd_same] at hk
      rcases hf k hk with h' | h'
      · exact h.hv j hj k h'
      · have := h.below.size; omega
    · rw [upd_ne _ _ e] at hk; exact h.hv j hj k hk
  · by_cases ea : a = i
    · subst ea
      rw [upd_same, upd_ne _ _ (fun e => hab e.symm)]
      exact fresh_ap hf (h.vv a b ha hb hab) (hlv b hb)
    · rw [upd_ne _ _ ea]
      by_cases eb : b = i
      · subst eb; rw [upd_same]
        exact (fresh_ap hf (h.vv b a hb ha (fun e => hab e.symm)) (hlv a ha)).symm
      · rw [upd_ne _ _ eb]; exact h.vv a b ha hb hab
  · by_cases ea : a = i
    · subst ea; rw [upd_same]
      exact fresh_ap hf (h.vx a b ha hb) (hlx b hb)
    · rw [upd_ne _ _ ea]; exact h.vx a b ha hb
/-- a call on the document's maker i -/
theorem Pairs.ref (h : Pairs w0 W g r v x most um lm ur lr) {i : Nat} (hi : i < 2) {x' : Value} {u' : List UInt8} {l' : Nat} (hm : RM W' (r i) x' (most i) u' l') (hc : Chg (ownF (r i) (x i)) W W') (hf : Fresh W (x i) x') :
    Pairs w0 W' g r v (upd x i x') most um lm (upd ur i u') (upd lr i l') := by
  have hS0 : ∀ k, k < w0.heap.size → ¬ ownF (r i) (x i) k := fun k hk hs => by
    rcases hs with hs | hs
    · have := h.hr i hi; omega
    · have := h.hx i hi k hs; omega
  have hlv : ∀ j, j < 2 → ∀ k, (v j).ownBlock = some k → k < W.heap.size := fun j hj k hk => ((h.mm j hj).own.lt k hk).2
  have hlx : ∀ j, j < 2 → ∀ k, (x j).ownBlock = some k → k < W.heap.size := fun j hj k hk => ((h.rm j hj).own.lt k hk).2
  refine ⟨fun j hj => ?_, fun j hj => ?_, h.hg, h.hr, h.hv, fun j hj k hk => ?_, h.gg, h.rr, h.vv, fun a b ha hb => ?_, fun a b ha hb hab => ?_, h.below.trans (hc.below hS0 h.below.size)⟩
  · refine (h.mm j hj).chg hc (fun hs => ?_) (fun k hk hs => ?_)
    · rcases hs with hs | hs
      · exact h.gr hj hi hs
      · exact (h.mm j hj).blk.apart (h.rm i hi).own (by decide) hs
    · rcases hs with hs | hs
      · exact (h.rm i hi).blk.apart (h.mm j hj).own (by decide) (by rw [hk, hs])
      · exact h.vx j i hj hi k hk hs
  · by_cases e : j = i
    · subst e; rw [upd_same, upd_same, upd_same]; exact hm
    · rw [upd_ne _ _ e, upd_ne _ _ e, upd_ne _ _ e]
      refine (h.rm j hj).chg hc (fun hs => ?_) (fun k hk hs => ?_)
      · rcases hs with hs | hs
        · exact h.rr j i hj hi e hs
        · exact (h.rm j hj).blk.apart (h.rm i hi).own (by decide) hs
      · rcases hs with hs | hs
        · exact (h.rm i hi).blk.apart (h.rm j hj).own (by decide) (by rw [hk, hs])
        · exact h.xx j i hj hi e k hk hs
  · by_cases e : j = i
    · subst e; rw [upd_same] at hk
      rcases hf k hk with h' | h'
      · exact h.hx j hj k h'
      · have := h.below.size; omega
    · rw [upd_ne _ _ e] at hk; exact h.hx j hj k hk
  · by_cases eb : b = i
    · subst eb; rw [upd_same]
      exact (fresh_ap hf (h.vx a b ha hb).symm (hlv a ha)).symm
    · rw [upd_ne _ _ eb]; exact h.vx a b ha hb
  · by_cases ea : a = i
    · subst ea
      rw [upd_same, upd_ne _ _ (fun e => hab e.symm)]
      exact fresh_ap hf (h.xx a b ha hb hab) (hlx b hb)
    · rw [upd_ne _ _ ea]
      by_cases eb : b = i
      · subst eb; rw [upd_same]
        exact (fresh_ap hf (h.xx b a hb ha (fun e => hab e.symm)) (hlx a ha)).symm
      · rw [upd_ne _ _ eb]; exact h.xx a b ha hb hab
/-- block q belongs to none of them -/
def Off (q : Nat) (g r : Nat → Nat) (v x : Nat → Value) : Prop := ∀ i, i < 2 → g i ≠ q ∧ r i ≠ q ∧ (v i).ownBlock ≠ some q ∧ (x i).ownBlock ≠ some q
theorem Off.maker {q i : Nat} {v' : Value} (h : Off q g r v x) (hq : q < W.heap.size) (hf : Fresh W (v i) v') : Off q g r (upd v i v') x := fun j hj => by
  obtain ⟨h1, h2, h3, h4⟩ := h j hj
  refine ⟨h1, h2, ?_, h4⟩
  by_cases e : j = i
  · subst e; rw [upd_same]
    intro hk
    rcases hf q hk with h' | h'
    · exact h3 h'
    · omega
  · rw [upd_ne _ _ e]; exact h3
theorem Off.ref {q i : Nat} {x' : Value} (h : Off q g r v x) (hq : q < W.heap.size) (hf : Fresh W (x i) x') : Off q g r v (upd x i x') := fun j hj => by
  obtain ⟨h1, h2, h3, h4⟩ := h j hj
  refine ⟨h1, h2, h3, ?_⟩
  by_cases e : j = i
  · subst e; rw [upd_same]
    intro hk
    rcases hf q hk with h' | h'
    · exact h4 h'
    · omega
  · rw [upd_ne _ _ e]; exact h4
theorem Pairs.off (h : Pairs w0 W g r v x most um lm ur lr) {q : Nat} (hq : W.heap.size ≤ q) : Off q g r v x := fun i hi =>
  ⟨by have := (h.mm i hi).blk.lt; omega, by have := (h.rm i hi).blk.lt; omega, fun hk => by have := ((h.mm i hi).own.lt q hk).2; omega, fun hk => by have := ((h.rm i hi).own.lt q hk).2; omega⟩
theorem Pairs.set (h : Pairs w0 W g r v x most um lm ur lr) {q : Nat} (hq : Off q g r v x) (hq0 : w0.heap.size ≤ q) {S : Nat → Prop} (hS : ∀ k, S k → k = q) (hc : Chg S W W') : Pairs w0 W' g r v x most um lm ur lr :=
  h.chg hc (fun k hk hs => by have := hS k hs; omega) (fun i hi hs => (hq i hi).1 (hS _ hs)) (fun i hi hs => (hq i hi).2.1 (hS _ hs)) (fun i hi k hk hs => (hq i hi).2.2.1 (by rw [hk, hS k hs])) (fun i hi k hk hs => (hq i hi).2.2.2 (by rw [hk, hS k hs]))
end
end Go.Proofs.Ytjldbpnphilkaaa
