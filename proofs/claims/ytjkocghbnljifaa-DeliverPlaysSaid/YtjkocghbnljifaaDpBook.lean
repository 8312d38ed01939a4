/- The book of lists that were answered (DeliverPlays): which blocks are whose, by colours. -/
import Derived.Test.YtjkocghbnljifaaDpNew
namespace Go.Proofs.Ytjkocghbnljifaa
open Go.RowKit
def rawV (x : Nat × List Th) : Value := .slice (some ⟨x.1, 0, none⟩) x.2.length x.2.length
theorem AS.chg {S : Nat → Prop} {w w' : World} {A : Option Addr} {n : Nat} {q : List Th} (h : AS w A n q) (hc : Chg S w w') (hn : ∀ k, inB A k → ¬ S k) : AS w' A n q :=
  ⟨h.1, fun j x hj => by
    obtain ⟨g, off, e, hlt, hcell⟩ := h.2 j x hj
    exact ⟨g, off, e, Nat.lt_of_lt_of_le hlt hc.size, fun i u hu => (hc.cell (p := ⟨g, _, none⟩) hlt (hn g ⟨_, e, rfl⟩)).trans (hcell i u hu)⟩⟩
/-- the lists themselves: each in a block of its own -/
structure RWs (w : World) (B : Nat) (C : Nat → Nat) (v : Value) (rs : List (Nat × List Th)) : Prop where
  own : w.ownsRow B 48 1 v (rs.map rawV).length (rs.map rawV)
  hv : ∀ b, v.ownBlock = some b → C b = 4
  rb : ∀ (j : Nat) (x : Nat × List Th), rs[j]? = some x → B ≤ x.1 ∧ Blk w x.1 44 (flatE Th.cells x.2).toArray ∧ C x.1 = 6 ∧ x.2.length ≤ 64
  ap : ∀ (i j : Nat) (x y : Nat × List Th), rs[i]? = some x → rs[j]? = some y → x.1 = y.1 → i = j
/-- what they were -/
structure WSs (w : World) (B : Nat) (C : Nat → Nat) (v : Value) (us : List Value) (rs : List (Nat × List Th)) : Prop where
  own : w.ownsRow B 48 1 v us.length us
  hv : ∀ b, v.ownBlock = some b → C b = 5
  len : us.length = rs.length
  wb : ∀ (j : Nat) (u : Value) (x : Nat × List Th), us[j]? = some u → rs[j]? = some x → ∃ A c, u = .slice A x.2.length c ∧ x.2.length ≤ c ∧ AS w A x.2.length x.2 ∧ ∀ b, inB A b → C b = 7 ∧ b < w.heap.size
section
variable {w w' : World} {B : Nat} {C C' : Nat → Nat} {v : Value} {us : List Value} {rs : List (Nat × List Th)}
theorem RWs.nil (w : World) (B : Nat) (C : Nat → Nat) : RWs w B C (.slice none 0 0) [] :=
  ⟨World.ownsRow_nil w B _ 1, fun b h => by simp [Value.ownBlock] at h, fun j x h => by simp at h, fun i j x y h => by simp at h⟩
theorem WSs.nil (w : World) (B : Nat) (C : Nat → Nat) : WSs w B C (.slice none 0 0) [] [] :=
  ⟨World.ownsRow_nil w B _ 1, fun b h => by simp [Value.ownBlock] at h, rfl, fun j u x h => by simp at h⟩
theorem RWs.step {S : Nat → Prop} (h : RWs w B C v rs) (hc : Chg S w w') (hs : ∀ b, b < w.heap.size → C' b = C b) (hS : ∀ b, b < w.heap.size → S b → C b ≠ 4 ∧ C b ≠ 6) : RWs w' B C' v rs := by
  have hvl : ∀ b, v.ownBlock = some b → b < w.heap.size := fun b hb => (World.ownsRow.lt h.own b hb).2
  refine ⟨hc.own h.own (fun k hk hs' => (hS k (hvl k hk) hs').1 (h.hv k hk)), fun b hb => (hs b (hvl b hb)).trans (h.hv b hb), fun j x hx => ?_, h.ap⟩
  obtain ⟨h1, h2, h3, h4⟩ := h.rb j x hx
  exact ⟨h1, h2.chg hc (fun e => (hS _ h2.lt e).2 h3), (hs _ h2.lt).trans h3, h4⟩
theorem WSs.step {S : Nat → Prop} (h : WSs w B C v us rs) (hc : Chg S w w') (hs : ∀ b, b < w.heap.size → C' b = C b) (hS : ∀ b, b < w.heap.size → S b → C b ≠ 5 ∧ C b ≠ 7) : WSs w' B C' v us rs := by
  have hvl : ∀ b, v.ownBlock = some b → b < w.heap.size := fun b hb => (World.ownsRow.lt h.own b hb).2
  refine ⟨hc.own h.own (fun k hk hs' => (hS k (hvl k hk) hs').1 (h.hv k hk)), fun b hb => (hs b (hvl b hb)).trans (h.hv b hb), h.len, fun j u x hu hx => ?_⟩
  obtain ⟨A, c, e, h1, h2, h3⟩ := h.wb j u x hu hx
  exact ⟨A, c, e, h1, h2.chg hc (fun k hk hs' => (hS k (h3 k hk).2 hs').2 (h3 k hk).1), fun b hb => ⟨(hs b (h3 b hb).2).trans (h3 b hb).1, Nat.lt_of_lt_of_le (h3 b hb).2 hc.size⟩⟩
theorem get_snoc2 {α : Type} {l : List α} {a b u : α} {j : Nat} (h : (l ++ [a, b])[j]? = some u) : (l[j]? = some u ∧ j < l.length) ∨ (j = l.length ∧ u = a) ∨ (j = l.length + 1 ∧ u = b) := by
  rw [List.getElem?_append] at h
  split at h
  · rename_i hj; exact .inl ⟨h, hj⟩
  · rename_i hj
    right
    have hlt := (List.getElem?_eq_some_iff.1 h).1
    simp only [List.length_cons, List.length_nil] at hlt
    by_cases h0 : j = l.length
    · subst h0
      rw [Nat.sub_self] at h
      exact .inl ⟨rfl, (Option.some.inj h).symm⟩
    · have h1 : j = l.length + 1 := by omega
      subst h1
      rw [Nat.add_sub_cancel_left] at h
      exact .inr ⟨rfl, (Option.some.inj h).symm⟩
def paint (C : Nat → Nat) (h : Nat) (c : Nat) : Nat → Nat := fun b => if b < h then C b else c
theorem paint_old (C : Nat → Nat) {h b : Nat} (c : Nat) (hb : b < h) : paint C h c b = C b := if_pos hb
theorem paint_new (C : Nat → Nat) {h b : Nat} (c : Nat) (hb : h ≤ b) : paint C h c b = c := if_neg (by omega)
/-- two lists more -/
theorem RWs.more (h : RWs w B C v rs) {x y : Nat × List Th} {v' : Value}
    (hx : B ≤ x.1 ∧ Blk w x.1 44 (flatE Th.cells x.2).toArray ∧ C x.1 = 6 ∧ x.2.length ≤ 64) (hy : B ≤ y.1 ∧ Blk w y.1 44 (flatE Th.cells y.2).toArray ∧ C y.1 = 6 ∧ y.2.length ≤ 64)
    (hxy : x.1 ≠ y.1) (hnx : ∀ (j : Nat) (z : Nat × List Th), rs[j]? = some z → z.1 ≠ x.1 ∧ z.1 ≠ y.1)
    (hown : w'.ownsRow B 48 1 v' (rs.map rawV ++ [rawV x, rawV y]).length (rs.map rawV ++ [rawV x, rawV y])) (hg : w.grownBy w' v.ownBlock) (ha : v'.ownBlock = v.ownBlock ∨ v'.ownBlock = some w.heap.size) :
    RWs w' B (paint C w.heap.size 4) v' (rs ++ [x, y]) := by
  have hch : Chg (fun k => v.ownBlock = some k) w w' := (Chg.refl _ w).grown hg (fun k e _ => e)
  have hvl : ∀ b, v.ownBlock = some b → b < w.heap.size := fun b hb => (World.ownsRow.lt h.own b hb).2
  have hone : ∀ z : Nat × List Th, (B ≤ z.1 ∧ Blk w z.1 44 (flatE Th.cells z.2).toArray ∧ C z.1 = 6 ∧ z.2.length ≤ 64) → B ≤ z.1 ∧ Blk w' z.1 44 (flatE Th.cells z.2).toArray ∧ paint C w.heap.size 4 z.1 = 6 ∧ z.2.length ≤ 64 := fun z hz =>
    ⟨hz.1, hz.2.1.chg hch (fun e => by have := h.hv _ e; have := hz.2.2.1; omega), (paint_old C 4 hz.2.1.lt).trans hz.2.2.1, hz.2.2.2⟩
  refine ⟨by simpa using hown, fun b hb => ?_, fun j z hz => ?_, fun i j a b hi hj e => ?_⟩
  · rcases ha with h1 | h1
    · rw [h1] at hb
      rw [paint_old C 4 (hvl b hb)]
      exact h.hv b hb
    · rw [h1] at hb
      obtain rfl := Option.some.inj hb
      exact paint_new C 4 (Nat.le_refl _)
  · rcases get_snoc2 hz with ⟨hz, _⟩ | ⟨_, rfl⟩ | ⟨_, rfl⟩
    · exact hone z (h.rb j z hz)
    · exact hone _ hx
    · exact hone _ hy
  · rcases get_snoc2 hi with ⟨g1, hj1⟩ | ⟨e1, e2⟩ | ⟨e1, e2⟩ <;> rcases get_snoc2 hj with ⟨g2, hj2⟩ | ⟨e3, e4⟩ | ⟨e3, e4⟩
    · exact h.ap i j a b g1 g2 e
    · rw [e4] at e; exact absurd e (hnx i a g1).1
    · rw [e4] at e; exact absurd e (hnx i a g1).2
    · rw [e2] at e; exact absurd e.symm (hnx j b g2).1
    · rw [e1, e3]
    · rw [e2, e4] at e; exact absurd e hxy
    · rw [e2] at e; exact absurd e.symm (hnx j b g2).2
    · rw [e2, e4] at e; exact absurd e.symm hxy
    · rw [e1, e3]
theorem WSs.more (h : WSs w B C v us rs) {x y : Nat × List Th} {A : Option Addr} {c : Nat} {v' : Value}
    (hx : x.2.length ≤ c ∧ AS w A x.2.length x.2 ∧ ∀ b, inB A b → C b = 7 ∧ b < w.heap.size) (hy : y.2 = x.2)
    (hown : w'.ownsRow B 48 1 v' (us ++ [Value.slice A x.2.length c, Value.slice A x.2.length c]).length (us ++ [Value.slice A x.2.length c, Value.slice A x.2.length c])) (hg : w.grownBy w' v.ownBlock) (ha : v'.ownBlock = v.ownBlock ∨ v'.ownBlock = some w.heap.size) :
    WSs w' B (paint C w.heap.size 5) v' (us ++ [Value.slice A x.2.length c, Value.slice A x.2.length c]) (rs ++ [x, y]) := by
  have hch : Chg (fun k => v.ownBlock = some k) w w' := (Chg.refl _ w).grown hg (fun k e _ => e)
  have hvl : ∀ b, v.ownBlock = some b → b < w.heap.size := fun b hb => (World.ownsRow.lt h.own b hb).2
  have hone : ∀ (A' : Option Addr) (n c' : Nat) (l : List Th), AS w A' n l → (∀ b, inB A' b → C b = 7 ∧ b < w.heap.size) → AS w' A' n l ∧ ∀ b, inB A' b → paint C w.heap.size 5 b = 7 ∧ b < w'.heap.size := fun A' n c' l h1 h2 =>
    ⟨h1.chg hch (fun k hk e => by have := h.hv _ e; have := (h2 k hk).1; omega), fun b hb => ⟨(paint_old C 5 (h2 b hb).2).trans (h2 b hb).1, Nat.lt_of_lt_of_le (h2 b hb).2 hch.size⟩⟩
  refine ⟨hown, fun b hb => ?_, by simp [h.len], fun j u z hu hz => ?_⟩
  · rcases ha with h1 | h1
    · rw [h1] at hb
      rw [paint_old C 5 (hvl b hb)]
      exact h.hv b hb
    · rw [h1] at hb
      obtain rfl := Option.some.inj hb
      exact paint_new C 5 (Nat.le_refl _)
  · rcases get_snoc2 hu with ⟨g1, hj1⟩ | ⟨e1, e2⟩ | ⟨e1, e2⟩ <;> rcases get_snoc2 hz with ⟨g2, hj2⟩ | ⟨e3, e4⟩ | ⟨e3, e4⟩
    · obtain ⟨A', c', e, k1, k2, k3⟩ := h.wb j u z g1 g2
      obtain ⟨k4, k5⟩ := hone A' z.2.length c' z.2 k2 k3
      exact ⟨A', c', e, k1, k4, k5⟩
    · have := h.len; omega
    · have := h.len; omega
    · have := h.len; omega
    · obtain ⟨k4, k5⟩ := hone A x.2.length c x.2 hx.2.1 hx.2.2
      rw [e4]
      exact ⟨A, c, e2, hx.1, k4, k5⟩
    · have := h.len; omega
    · have := h.len; omega
    · have := h.len; omega
    · obtain ⟨k4, k5⟩ := hone A x.2.length c x.2 hx.2.1 hx.2.2
      rw [e4, hy]
      exact ⟨A, c, e2, hx.1, k4, k5⟩
end
theorem infoLA : (Try.prog.info? 48).map (fun i => (i.zero, i.size, i.bytes)) = some (some (.slice none 0 0), 1, 24) := by kernel_rfl
theorem append_two {w : World} {ops : Array Oper} {rest : List Oper} {o : Oper} {a : Act} {Q : Exit → Act → World → Prop} (hgd : o.guard = none) (s x : Operand)
    (ho : o.op = .call { callee := .builtin .append, args := #[s, x], argTypes := #[34, 34] })
    (B : Nat) (hB : B ≤ w.heap.size) (v : Value) (vs : List Value) (hs : a.eval s = v) (hown : w.ownsRow B 48 1 v vs.length vs) (g0 cc : Nat) (u0 u1 : Value) (hx : a.eval x = .slice (some ⟨g0, 0, none⟩) 2 cc)
    (hb : Blk w g0 48 #[u0, u1]) (h0 : u0.oneCell' = true) (h1 : u1.oneCell' = true) (hlen : vs.length ≤ 1000000000)
    (h : ∀ v' w', w'.ownsRow B 48 1 v' (vs ++ [u0, u1]).length (vs ++ [u0, u1]) → w.grownBy w' v.ownBlock → (v'.ownBlock = v.ownBlock ∨ v'.ownBlock = some w.heap.size) → wpList Try.prog ops Q rest (a.put o.dst v') w') : wpList Try.prog ops Q (o :: rest) a w := by
  obtain ⟨i0, hi, hz0, hz1, hz2⟩ := info_parts infoLA
  refine wpList_append_own_at (P := Try.prog) w hgd s x 34 ho B 48 i0 _ 1 24 Try.underlying34 hi hz0 hz1 hz2 rfl (by omega) v vs.length vs hs hown ⟨g0, 0, none⟩ 2 cc [u0, u1] hx rfl (fun j u hj => ?_) (fun u hu => ?_) (by simp only [maxLen]; omega) (by omega) hB (fun v' w' h2 h3 _ h5 => h v' w' (by simpa using h2) h3 h5)
  · have e : (⟨g0, 0, none⟩ : Addr).add j = ⟨g0, j, none⟩ := by unfold Addr.add; split <;> simp_all
    rw [e, hb.cell]
    match j, hj with
    | 0, hj => exact hj
    | 1, hj => exact hj
    | j + 2, hj => simp at hj
  · simp only [List.mem_cons, List.not_mem_nil, or_false] at hu
    rcases hu with rfl | rfl
    · exact h0
    · exact h1
end Go.Proofs.Ytjkocghbnljifaa
