/- The document's disk: a name more, an inode more, bytes more (memory alone). -/
import Derived.Test.YtlojmmcagglpoaaGreatQRf
namespace Go.Proofs.YtlojmmcagglpoaaGreat
open Go.RowKit Go.Maps
section
variable {W W1 w5 : World} {N : Nat} {C : Nat → Nat} {c p : Nat} {us : List (Value × Ri)} {vi vn v5 : Value} {r : Rd}
/-- the disk's own block is written -/
theorem RW.app_n (h : RW W N C c p us vi vn r) (hb1 : Below W.heap.size W W1) {x : Rn} (ho : w5.ownsRow N 188 3 v5 (r.ns.length + 1) (r.ns.flatMap rnC ++ rnC x)) (hg : W1.grownBy w5 vn.ownBlock) (ha : v5.ownBlock = vn.ownBlock ∨ v5.ownBlock = some W1.heap.size) :
    RW (w5.setCell ⟨p, 1, none⟩ v5) N (paint C W.heap.size c) c p us vi v5 ⟨r.is, r.ns ++ [x]⟩ ∧ Chg (fun b => C b = c) W (w5.setCell ⟨p, 1, none⟩ v5) := by
  have hc1 : Chg (fun b => vn.ownBlock = some b) W w5 := (Chg.of_below hb1 _).grown hg (fun k hk _ => hk)
  have hbd : Blk w5 p 47 #[vi, vn] := h.bd.chg hc1 (h.bd.apart h.rn (by decide))
  have hc2 : Chg (fun b => vn.ownBlock = some b ∨ b = p) W (w5.setCell ⟨p, 1, none⟩ v5) := (hc1.mono (fun _ _ e => .inl e)).setCell (p := ⟨p, 1, none⟩) (.inl (.inr rfl)) _
  have hsam := sam_paint C W.heap.size c
  have hpne : ∀ {base size n : Nat} {e : TypeId} {v : Value} {xs : List Value}, W.ownsRow base e size v n xs → e ≠ 47 → v.ownBlock ≠ some p := fun ho he => h.bd.apart ho he
  have hp5 : v5.ownBlock ≠ some p := by
    rcases ha with e | e
    · rw [e]; exact hpne h.rn (by decide)
    · rw [e]; intro e2
      have := h.bd.lt
      have := hb1.size
      injection e2 with e2
      omega
  refine ⟨⟨h.is, hbd.set_ 1 v5, hc2.own h.ri (fun k hk e => ?_), ?_, fun k u hu => hc2.own (h.ob k u hu) (fun q hq e => ?_), h.ap, h.lo, by rw [hsam p h.bd.lt]; exact h.cp, fun g hg' => by rw [hsam g (h.ri.lt g hg').2]; exact h.ci g hg', fun g hg' => ?_, fun k u g hu hg' => by rw [hsam g ((h.ob k u hu).lt g hg').2]; exact h.cu k u g hu hg'⟩, hc2.mono (fun b _ e => ?_)⟩
  · rcases e with e | e
    · rcases own_apart h.ri h.rn (by decide) with h1 | h1
      · rw [h1] at hk; cases hk
      · rw [hk, e] at h1; exact h1 rfl
    · exact hpne h.ri (by decide) (by rw [hk, e])
  · have := (Chg.setCell (S := fun b => b = p) (p := ⟨p, 1, none⟩) (Chg.refl _ w5) (.inl rfl) v5).own ho (fun k hk e => hp5 (by rw [hk, e]))
    show World.ownsRow _ N _ 3 _ (r.ns ++ [x]).length _
    rw [List.length_append, flat_snocR]
    exact this
  · rcases e with e | e
    · rcases own_apart (h.ob k u hu) h.rn (by decide) with h1 | h1
      · rw [h1] at hq; cases hq
      · rw [hq, e] at h1; exact h1 rfl
    · exact hpne (h.ob k u hu) (by decide) (by rw [hq, e])
  · rcases ha with e | e
    · rw [e] at hg'
      rw [hsam g (h.rn.lt g hg').2]; exact h.cn g hg'
    · rw [e] at hg'
      injection hg' with hg'
      exact paint_new C c (by have := hb1.size; omega)
  · rcases e with e | e
    · exact h.cn b e
    · rw [e]; exact h.cp
theorem RW.app_i (h : RW W N C c p us vi vn r) (hb1 : Below W.heap.size W W1) (ho : w5.ownsRow N 186 4 v5 (us.length + 1) (us.flatMap riC ++ riC (.slice none 0 0, ⟨[], 0, 0, false⟩))) (hg : W1.grownBy w5 vi.ownBlock) (ha : v5.ownBlock = vi.ownBlock ∨ v5.ownBlock = some W1.heap.size) :
    RW (w5.setCell ⟨p, 0, none⟩ v5) N (paint C W.heap.size c) c p (us ++ [(.slice none 0 0, ⟨[], 0, 0, false⟩)]) v5 vn ⟨r.is ++ [⟨[], 0, 0, false⟩], r.ns⟩ ∧ Chg (fun b => C b = c) W (w5.setCell ⟨p, 0, none⟩ v5) := by
  have hc1 : Chg (fun b => vi.ownBlock = some b) W w5 := (Chg.of_below hb1 _).grown hg (fun k hk _ => hk)
  have hbd : Blk w5 p 47 #[vi, vn] := h.bd.chg hc1 (h.bd.apart h.ri (by decide))
  have hc2 : Chg (fun b => vi.ownBlock = some b ∨ b = p) W (w5.setCell ⟨p, 0, none⟩ v5) := (hc1.mono (fun _ _ e => .inl e)).setCell (p := ⟨p, 0, none⟩) (.inl (.inr rfl)) _
  have hsam := sam_paint C W.heap.size c
  have hpne : ∀ {base size n : Nat} {e : TypeId} {v : Value} {xs : List Value}, W.ownsRow base e size v n xs → e ≠ 47 → v.ownBlock ≠ some p := fun ho he => h.bd.apart ho he
  have hp5 : v5.ownBlock ≠ some p := by
    rcases ha with e | e
    · rw [e]; exact hpne h.ri (by decide)
    · rw [e]; intro e2
      have := h.bd.lt
      have := hb1.size
      injection e2 with e2
      omega
  have key : ∀ (i : Nat) (u : Value × Ri), (us ++ [(Value.slice none 0 0, (⟨[], 0, 0, false⟩ : Ri))])[i]? = some u → us[i]? = some u ∨ u = (.slice none 0 0, ⟨[], 0, 0, false⟩) := fun i u hi => by
    by_cases hs : i < us.length
    · rw [List.getElem?_append_left hs] at hi; exact .inl hi
    · rw [List.getElem?_append_right (by omega)] at hi
      have hs0 : i - us.length = 0 := by have := (List.getElem?_eq_some_iff.1 hi).1; simp at this; omega
      rw [hs0] at hi
      simp at hi
      exact .inr hi.symm
  refine ⟨⟨by rw [List.map_append, h.is]; rfl, hbd.set_ 0 v5, ?_, hc2.own h.rn (fun k hk e => ?_), fun k u hu => ?_, fun i j u u' g hi hj hgi hgj => ?_, h.lo, by rw [hsam p h.bd.lt]; exact h.cp, fun g hg' => ?_, fun g hg' => by rw [hsam g (h.rn.lt g hg').2]; exact h.cn g hg', fun k u g hu hg' => ?_⟩, hc2.mono (fun b _ e => ?_)⟩
  · have := (Chg.setCell (S := fun b => b = p) (p := ⟨p, 0, none⟩) (Chg.refl _ w5) (.inl rfl) v5).own ho (fun k hk e => hp5 (by rw [hk, e]))
    rw [List.length_append, flat_snocR]
    exact this
  · rcases e with e | e
    · rcases own_apart h.rn h.ri (by decide) with h1 | h1
      · rw [h1] at hk; cases hk
      · rw [hk, e] at h1; exact h1 rfl
    · exact hpne h.rn (by decide) (by rw [hk, e])
  · rcases key k u hu with h0 | rfl
    · refine hc2.own (h.ob k u h0) (fun q hq e => ?_)
      rcases e with e | e
      · rcases own_apart (h.ob k u h0) h.ri (by decide) with h1 | h1
        · rw [h1] at hq; cases hq
        · rw [hq, e] at h1; exact h1 rfl
      · exact hpne (h.ob k u h0) (by decide) (by rw [hq, e])
    · exact OB.nil _ _
  · rcases key i u hi with h0 | rfl
    · rcases key j u' hj with h1 | rfl
      · exact h.ap i j u u' g h0 h1 hgi hgj
      · cases hgj
    · cases hgi
  · rcases ha with e | e
    · rw [e] at hg'
      rw [hsam g (h.ri.lt g hg').2]; exact h.ci g hg'
    · rw [e] at hg'
      injection hg' with hg'
      exact paint_new C c (by have := hb1.size; omega)
  · rcases key k u hu with h0 | rfl
    · rw [hsam g ((h.ob k u h0).lt g hg').2]; exact h.cu k u g h0 hg'
    · cases hg'
  · rcases e with e | e
    · exact h.ci b e
    · rw [e]; exact h.cp
/-- the bytes of an inode turn: their row grew (or is another one), and the inode's first cell is written -/
theorem RW.put_b {g n cap : Nat} (h : RW W N C c p us (.slice (some ⟨g, 0, none⟩) n cap) vn r) {k : Nat} {u : Value × Ri} (hk : us[k]? = some u) {l : List UInt8} (ho : OB w5 N v5 l) (hg : W.grownBy w5 u.1.ownBlock) (ha : ∀ q, v5.ownBlock = some q → u.1.ownBlock = some q ∨ W.heap.size ≤ q) :
    RW (w5.setCell ⟨g, k * 4, none⟩ v5) N (paint C W.heap.size c) c p (us.set k (v5, { u.2 with b := l })) (.slice (some ⟨g, 0, none⟩) n cap) vn ⟨r.is.set k { u.2 with b := l }, r.ns⟩ ∧ Chg (fun b => C b = c) W (w5.setCell ⟨g, k * 4, none⟩ v5) := by
  have hn : n = us.length := by
    obtain ⟨A, cap', e, _⟩ := h.fi
    injection e
  subst hn
  have hu := h.ob k u hk
  have hc1 : Chg (fun b => u.1.ownBlock = some b) W w5 := (Chg.refl _ W).grown hg (fun q hq _ => hq)
  have hgu : u.1.ownBlock ≠ some g := fun e => by
    rcases own_apart hu h.ri (by decide) with h1 | h1
    · rw [h1] at e; cases e
    · rw [e] at h1; exact h1 rfl
  have hglt : g < W.heap.size := (h.ri.lt g rfl).2
  have hri5 := hc1.own h.ri (fun q hq e => by injection hq with hq; rw [← hq] at e; exact hgu e)
  have hc2 : Chg (fun b => u.1.ownBlock = some b ∨ b = g) W (w5.setCell ⟨g, k * 4, none⟩ v5) := (hc1.mono (fun _ _ e => .inl e)).setCell (p := ⟨g, k * 4, none⟩) (.inl (.inr rfl)) _
  have hsam := sam_paint C W.heap.size c
  have h5g : v5.ownBlock ≠ some g := fun e => by
    rcases ha g e with h1 | h1
    · exact hgu h1
    · omega
  have hpu : p ≠ g := fun e => h.bd.apart h.ri (by decide) (by rw [e]; rfl)
  have key : ∀ (i : Nat) (u' : Value × Ri), (us.set k (v5, { u.2 with b := l }))[i]? = some u' → (i = k ∧ u' = (v5, { u.2 with b := l })) ∨ (i ≠ k ∧ us[i]? = some u') := fun i u' hi => by
    by_cases e : i = k
    · subst e
      rw [List.getElem?_set_self (List.getElem?_eq_some_iff.1 hk).1] at hi
      exact .inl ⟨rfl, (Option.some.inj hi).symm⟩
    · rw [List.getElem?_set_ne (fun e2 => e e2.symm)] at hi
      exact .inr ⟨e, hi⟩
  have far : ∀ (i : Nat) (u' : Value × Ri), i ≠ k → us[i]? = some u' → ∀ q, u'.1.ownBlock = some q → ¬ (u.1.ownBlock = some q ∨ q = g) := fun i u' hne hi q hq e => by
    rcases e with e | e
    · exact hne (h.ap i k u' u q hi hk hq e)
    · rcases own_apart (h.ob i u' hi) h.ri (by decide) with h1 | h1
      · rw [h1] at hq; cases hq
      · rw [hq, e] at h1; exact h1 rfl
  refine ⟨⟨by rw [List.map_set, h.is], h.bd.chg hc2 (fun e => ?_), ?_, hc2.own h.rn (fun q hq e => ?_), fun i u' hi => ?_, fun i j u' u'' q hi hj hq hq' => ?_, h.lo, by rw [hsam p h.bd.lt]; exact h.cp, fun q hq => by rw [hsam q (h.ri.lt q hq).2]; exact h.ci q hq, fun q hq => by rw [hsam q (h.rn.lt q hq).2]; exact h.cn q hq, fun i u' q hi hq => ?_⟩, hc2.mono (fun b _ e => ?_)⟩
  · rcases e with e | e
    · exact h.bd.apart hu (by decide) e
    · exact hpu e
  · have := own_put riC_len hri5 hk (j := 0) (u := v5) (y := (v5, { u.2 with b := l })) (by decide) rfl
    rw [List.length_set]
    exact this
  · rcases e with e | e
    · rcases own_apart h.rn hu (by decide) with h1 | h1
      · rw [h1] at hq; cases hq
      · rw [hq, e] at h1; exact h1 rfl
    · rcases own_apart h.rn h.ri (by decide) with h1 | h1
      · rw [h1] at hq; cases hq
      · rw [hq, e] at h1; exact h1 rfl
  · rcases key i u' hi with ⟨_, rfl⟩ | ⟨hne, h0⟩
    · exact (Chg.setCell (S := fun b => b = g) (p := ⟨g, k * 4, none⟩) (Chg.refl _ w5) (.inl rfl) v5).own ho (fun q hq e => h5g (by rw [hq, e]))
    · exact hc2.own (h.ob i u' h0) (far i u' hne h0)
  · have old : ∀ (i' : Nat) (x : Value × Ri), i' ≠ k → us[i']? = some x → x.1.ownBlock = some q → v5.ownBlock = some q → False := fun i' x hne h0 h1 h2 => by
      rcases ha q h2 with h3 | h3
      · exact hne (h.ap i' k x u q h0 hk h1 h3)
      · have := ((h.ob i' x h0).lt q h1).2; omega
    rcases key i u' hi with ⟨e1, rfl⟩ | ⟨e1, h0⟩ <;> rcases key j u'' hj with ⟨e2, rfl⟩ | ⟨e2, h1⟩
    · omega
    · exact (old j u'' e2 h1 hq' hq).elim
    · exact (old i u' e1 h0 hq hq').elim
    · exact h.ap i j u' u'' q h0 h1 hq hq'
  · rcases key i u' hi with ⟨e1, rfl⟩ | ⟨e1, h0⟩
    · rcases ha q hq with h3 | h3
      · rw [hsam q (hu.lt q h3).2]; exact h.cu k u q hk h3
      · exact paint_new C c h3
    · rw [hsam q ((h.ob i u' h0).lt q hq).2]; exact h.cu i u' q h0 hq
  · rcases e with e | e
    · exact h.cu k u b hk e
    · rw [e]; exact h.ci g rfl
end
end Go.Proofs.YtlojmmcagglpoaaGreat
