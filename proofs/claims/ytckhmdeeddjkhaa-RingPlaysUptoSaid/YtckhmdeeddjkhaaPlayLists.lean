/- COLOURS (which block belongs to which part of which pair) and LISTS OF LISTS of the call's own. -/
import Derived.Test.YtckhmdeeddjkhaaPlayRefB
namespace Go.Proofs.Ytckhmdeeddjkhaa
open Go.RowKit
def Sam (h : Nat) (C C' : Nat → Nat × Nat) : Prop := ∀ b, b < h → C' b = C b
theorem Sam.refl (h : Nat) (C : Nat → Nat × Nat) : Sam h C C := fun _ _ => rfl
theorem Sam.trans {h h' : Nat} {C C' C'' : Nat → Nat × Nat} (a : Sam h C C') (b : Sam h' C' C'') (hh : h ≤ h') : Sam h C C'' := fun k hk => (b k (by omega)).trans (a k hk)
theorem Sam.mono {h h' : Nat} {C C' : Nat → Nat × Nat} (a : Sam h C C') (hh : h' ≤ h) : Sam h' C C' := fun k hk => a k (by omega)
def paint (C : Nat → Nat × Nat) (h : Nat) (c : Nat × Nat) : Nat → Nat × Nat := fun b => if b < h then C b else c
theorem sam_paint (C : Nat → Nat × Nat) (h : Nat) (c : Nat × Nat) : Sam h C (paint C h c) := fun _ hb => if_pos hb
theorem paint_new (C : Nat → Nat × Nat) {h b : Nat} (c : Nat × Nat) (hb : h ≤ b) : paint C h c b = c := if_neg (by omega)
/-- the slice v is a row of the call's own of slices vs, each a row of the call's own that holds its list of ls; no two share a block; all blocks bear the colour c -/
structure LL (w : World) (C : Nat → Nat × Nat) (c : Nat × Nat) (v : Value) (vs : List Value) (ls : List (List Int)) : Prop where
  own : w.ownsRow 0 25 1 v vs.length vs
  len : vs.length = ls.length
  row : ∀ (j : Nat) (u : Value) (l : List Int), vs[j]? = some u → ls[j]? = some l → OI w 0 u l
  apart : ∀ (i j : Nat) (u u' : Value) (b : Nat), vs[i]? = some u → vs[j]? = some u' → u.ownBlock = some b → u'.ownBlock = some b → i = j
  memv : ∀ b, v.ownBlock = some b → C b = c
  mem : ∀ (j : Nat) (u : Value) (b : Nat), vs[j]? = some u → u.ownBlock = some b → C b = c
section
variable {w w' : World} {C C' : Nat → Nat × Nat} {c : Nat × Nat} {v : Value} {vs : List Value} {ls : List (List Int)}
theorem LL.nil (w : World) (C : Nat → Nat × Nat) (c : Nat × Nat) : LL w C c (.slice none 0 0) [] [] :=
  ⟨World.ownsRow_nil w 0 _ 1, rfl, fun j u l h => by simp at h, fun i j u u' b h => by simp at h, fun b h => by simp [Value.ownBlock] at h, fun j u b h => by simp at h⟩
theorem LL.get (h : LL w C c v vs ls) {j : Nat} {u : Value} (hu : vs[j]? = some u) : ∃ l, ls[j]? = some l ∧ OI w 0 u l := by
  have hj := (List.getElem?_eq_some_iff.1 hu).1
  have hl : ls[j]? = some (ls[j]'(by rw [← h.len]; exact hj)) := List.getElem?_eq_getElem _
  exact ⟨_, hl, h.row j u _ hu hl⟩
theorem LL.at_ (h : LL w C c v vs ls) {j : Nat} (hj : j < ls.length) : ∃ u l, vs[j]? = some u ∧ ls[j]? = some l ∧ OI w 0 u l := by
  have hl : j < vs.length := by rw [h.len]; exact hj
  have hu : vs[j]? = some vs[j] := List.getElem?_eq_getElem hl
  obtain ⟨l, h1, h2⟩ := h.get hu
  exact ⟨_, l, hu, h1, h2⟩
theorem LL.lt (h : LL w C c v vs ls) {j b : Nat} {u : Value} (hu : vs[j]? = some u) (hb : u.ownBlock = some b) : b < w.heap.size := by
  obtain ⟨l, _, ho⟩ := h.get hu
  exact (ho.lt b hb).2
theorem OI.chg {S : Nat → Prop} {base : Nat} {u : Value} {l : List Int} (h : OI w base u l) (hc : Chg S w w') (hn : ∀ k, u.ownBlock = some k → ¬ S k) : OI w' base u l := hc.own h hn
theorem LL.step {S : Nat → Prop} (h : LL w C c v vs ls) (hc : Chg S w w') (hs : Sam w.heap.size C C') (hS : ∀ b, S b → C b ≠ c) : LL w' C' c v vs ls :=
  ⟨hc.own h.own (fun k hk hs' => hS k hs' (h.memv k hk)), h.len,
   fun j u l hu hl => (h.row j u l hu hl).chg hc (fun k hk hs' => hS k hs' (h.mem j u k hu hk)), h.apart,
   fun b hb => (hs b (World.ownsRow.lt h.own b hb).2).trans (h.memv b hb),
   fun j u b hu hb => (hs b (h.lt hu hb)).trans (h.mem j u b hu hb)⟩
theorem LL.form (h : LL w C c v vs ls) : ∃ A cap, v = .slice A ls.length cap ∧ ls.length ≤ cap ∧ cap ≤ maxLen ∧ (0 < ls.length → ∃ g, A = some ⟨g, 0, none⟩ ∧ C g = c ∧ g < w.heap.size ∧ ∀ (j : Nat) (u : Value), vs[j]? = some u → w.cell? ⟨g, j, none⟩ = some u) := by
  have hl := h.len
  rcases h.own.2 with ⟨e, h0⟩ | ⟨g, cap, cur, e, hb, hh, h1, h2, h3, h4⟩
  · exact ⟨none, 0, by rw [e, ← hl, h0], by omega, Nat.zero_le _, fun h => absurd h (by omega)⟩
  · refine ⟨some ⟨g, 0, none⟩, cap, by rw [e, hl], by omega, h2, fun _ => ⟨g, rfl, h.memv g (by rw [e]; rfl), (Array.getElem?_eq_some_iff.1 hh).1, fun j u hu => ?_⟩⟩
    have ho := h.own
    rw [e] at ho
    rw [World.ownsRow.cellAt ho j (by have := (List.getElem?_eq_some_iff.1 hu).1; omega)]
    exact hu
/-- inner rows lie in no block of the outer row -/
theorem LL.out (h : LL w C c v vs ls) {j b : Nat} {u : Value} (hu : vs[j]? = some u) (hb : v.ownBlock = some b) : u.ownBlock ≠ some b := by
  obtain ⟨l, _, ho⟩ := h.get hu
  have ho' : w.ownsRow 0 3 1 u l.length (l.map intV) := ho
  intro e
  rcases own_apart ho' h.own (by decide) with h1 | h1
  · rw [h1] at e; cases e
  · exact h1 (e.trans hb.symm)
theorem get_snoc2 {α : Type} {l : List α} {a b u : α} {j : Nat} (h : (l ++ [a, b])[j]? = some u) : (l[j]? = some u ∧ j < l.length) ∨ (j = l.length ∧ u = a) ∨ (j = l.length + 1 ∧ u = b) := by
  rw [List.getElem?_append] at h
  split at h
  · rename_i hj; exact .inl ⟨h, hj⟩
  · rename_i hj
    right
    have hlt := (List.getElem?_eq_some_iff.1 h).1
    simp only [List.length_cons, List.length_nil] at hlt
    by_cases h0 : j = l.length
    · subst h0
      rw [Nat.sub_self] at h
      exact .inl ⟨rfl, (Option.some.inj h).symm⟩
    · have h1 : j = l.length + 1 := by omega
      subst h1
      rw [Nat.add_sub_cancel_left] at h
      exact .inr ⟨rfl, (Option.some.inj h).symm⟩
theorem LL.more (h : LL w C c v vs ls) {u0 u1 v' : Value} {l0 l1 : List Int} (o0 : OI w 0 u0 l0) (o1 : OI w 0 u1 l1)
    (hc0 : ∀ b, u0.ownBlock = some b → C b = c ∧ ∀ (j : Nat) (u : Value), vs[j]? = some u → u.ownBlock ≠ some b)
    (hc1 : ∀ b, u1.ownBlock = some b → C b = c ∧ ∀ (j : Nat) (u : Value), vs[j]? = some u → u.ownBlock ≠ some b)
    (h01 : ∀ b, u0.ownBlock = some b → u1.ownBlock ≠ some b)
    (hown : w'.ownsRow 0 25 1 v' (vs ++ [u0, u1]).length (vs ++ [u0, u1])) (hg : w.grownBy w' v.ownBlock) (ha : v'.ownBlock = v.ownBlock ∨ v'.ownBlock = some w.heap.size) :
    LL w' (paint C w.heap.size c) c v' (vs ++ [u0, u1]) (ls ++ [l0, l1]) := by
  have hch : Chg (fun k => v.ownBlock = some k) w w' := (Chg.refl _ w).grown hg (fun k e _ => e)
  have hne : ∀ (u : Value) (l : List Int), OI w 0 u l → ∀ k, u.ownBlock = some k → ¬ v.ownBlock = some k := fun u l ho k e1 e2 => by
    have ho' : w.ownsRow 0 3 1 u l.length (l.map intV) := ho
    rcases own_apart ho' h.own (by decide) with h1 | h1
    · rw [h1] at e1; cases e1
    · exact h1 (e1.trans e2.symm)
  have hsame : ∀ b, b < w.heap.size → paint C w.heap.size c b = C b := sam_paint C _ c
  refine ⟨hown, by simp [h.len], fun j u l hu hl => ?_, fun i j u u' b hu hu' hb hb' => ?_, fun b hb => ?_, fun j u b hu hb => ?_⟩
  · rcases get_snoc2 hu with ⟨hu, hj⟩ | ⟨rfl, rfl⟩ | ⟨rfl, rfl⟩
    · rw [List.getElem?_append_left (by rw [← h.len]; exact hj)] at hl
      exact (h.row j u l hu hl).chg hch (hne u l (h.row j u l hu hl))
    · rw [h.len, List.getElem?_append_right (Nat.le_refl _), Nat.sub_self] at hl
      obtain rfl := Option.some.inj hl
      exact o0.chg hch (hne _ _ o0)
    · rw [h.len, List.getElem?_append_right (by omega), Nat.add_sub_cancel_left] at hl
      obtain rfl := Option.some.inj hl
      exact o1.chg hch (hne _ _ o1)
  · rcases get_snoc2 hu with ⟨g1, hj⟩ | ⟨e1, e2⟩ | ⟨e1, e2⟩ <;> rcases get_snoc2 hu' with ⟨g2, hj'⟩ | ⟨e3, e4⟩ | ⟨e3, e4⟩
    · exact h.apart i j u u' b g1 g2 hb hb'
    · rw [e4] at hb'; exact absurd hb ((hc0 b hb').2 i u g1)
    · rw [e4] at hb'; exact absurd hb ((hc1 b hb').2 i u g1)
    · rw [e2] at hb; exact absurd hb' ((hc0 b hb).2 j u' g2)
    · rw [e1, e3]
    · rw [e2] at hb; rw [e4] at hb'; exact absurd hb' (h01 b hb)
    · rw [e2] at hb; exact absurd hb' ((hc1 b hb).2 j u' g2)
    · rw [e2] at hb; rw [e4] at hb'; exact absurd hb (h01 b hb')
    · rw [e1, e3]
  · rcases ha with h1 | h1
    · rw [h1] at hb
      rw [hsame b (World.ownsRow.lt h.own b hb).2]
      exact h.memv b hb
    · rw [h1] at hb
      obtain rfl := Option.some.inj hb
      exact paint_new C c (Nat.le_refl _)
  · rcases get_snoc2 hu with ⟨hu, hj⟩ | ⟨rfl, rfl⟩ | ⟨rfl, rfl⟩
    · rw [hsame b (h.lt hu hb)]; exact h.mem j u b hu hb
    · rw [hsame b (o0.lt b hb).2]; exact (hc0 b hb).1
    · rw [hsame b (o1.lt b hb).2]; exact (hc1 b hb).1
theorem get_set {α : Type} {l : List α} {i j : Nat} {a u : α} (h : (l.set i a)[j]? = some u) : (j = i ∧ u = a) ∨ (j ≠ i ∧ l[j]? = some u) := by
  rw [List.getElem?_set] at h
  split at h
  · rename_i e
    split at h
    · exact .inl ⟨e.symm, (Option.some.inj h).symm⟩
    · cases h
  · rename_i e
    exact .inr ⟨fun h => e h.symm, h⟩
/-- a place of an inner row written -/
theorem LL.put (h : LL w C c v vs ls) {i k g cap n : Nat} {l : List Int} (x : Int) (hu : vs[i]? = some (.slice (some ⟨g, 0, none⟩) n cap)) (hl : ls[i]? = some l) :
    LL (w.setCell ⟨g, k, none⟩ (.int .i64 x)) C c v vs (ls.set i (l.set k x)) ∧ C g = c := by
  have hch : Chg (fun b => b = g) w (w.setCell ⟨g, k, none⟩ (.int .i64 x)) := Chg.setCell (S := fun b => b = g) (p := ⟨g, k, none⟩) (Chg.refl _ w) (.inl rfl) _
  have hr := h.row i _ l hu hl
  refine ⟨⟨hch.own h.own (fun b hb e => h.out hu hb (by rw [e]; rfl)), by rw [List.length_set]; exact h.len, fun j u l' hj hj' => ?_, h.apart, h.memv, h.mem⟩, h.mem i _ g hu rfl⟩
  rcases get_set hj' with ⟨rfl, rfl⟩ | ⟨hne, hj'⟩
  · rw [hu] at hj
    obtain rfl := Option.some.inj hj
    exact (hr.stored k x).1
  · exact (h.row j u l' hj hj').chg hch (fun b hb e => hne (h.apart j i u _ b hj hu hb (by rw [e]; rfl)))
/-- an inner row lengthened (into a row of its own) and laid in its place -/
theorem LL.grow {w2 : World} (h : LL w C c v vs ls) {i : Nat} {gv cap n : Nat} {u u' : Value} {l l' : List Int} (hv : v = .slice (some ⟨gv, 0, none⟩) n cap) (hu : vs[i]? = some u) (hl : ls[i]? = some l)
    (hg : w.grownBy w2 u.ownBlock) (ho : OI w2 0 u' l') (ha : u'.ownBlock = u.ownBlock ∨ u'.ownBlock = some w.heap.size) :
    LL (w2.setCell ⟨gv, i, none⟩ u') (paint C w.heap.size c) c v (vs.set i u') (ls.set i l') := by
  have hvb : v.ownBlock = some gv := by rw [hv]; rfl
  have hgv := (World.ownsRow.lt h.own gv hvb).2
  have hch : Chg (fun k => u.ownBlock = some k) w w2 := (Chg.refl _ w).grown hg (fun k e _ => e)
  have hch2 : Chg (fun b => b = gv) w2 (w2.setCell ⟨gv, i, none⟩ u') := Chg.setCell (S := fun b => b = gv) (p := ⟨gv, i, none⟩) (Chg.refl _ w2) (.inl rfl) _
  have hown2 : w2.ownsRow 0 25 1 v vs.length vs := hch.own h.own (fun b hb e => h.out hu hb e)
  have hsame : ∀ b, b < w.heap.size → paint C w.heap.size c b = C b := sam_paint C _ c
  have hgu' : u'.ownBlock ≠ some gv := fun e => by
    rcases ha with h1 | h1
    · exact h.out hu hvb (h1 ▸ e)
    · rw [h1] at e
      have := Option.some.inj e
      omega
  refine ⟨?_, by simp [h.len], fun j x y hj hj' => ?_, fun a b x y k hx hy hbx hby => ?_, fun b hb => ?_, fun j x b hj hb => ?_⟩
  · rw [hv] at hown2 ⊢
    have hn : vs.length = n := by
      rcases hown2.2 with ⟨e, _⟩ | ⟨_, _, _, e, _⟩
      · simp at e
      · injection e with _ e _; exact e.symm
    rw [List.length_set]
    subst hn
    exact (World.ownsRow.stored hown2 i u').1
  · rcases get_set hj with ⟨rfl, rfl⟩ | ⟨hne, hj⟩
    · rcases get_set hj' with ⟨_, rfl⟩ | ⟨hne, _⟩
      · exact ho.chg hch2 (fun b hb e => hgu' (e ▸ hb))
      · exact absurd rfl hne
    · rcases get_set hj' with ⟨rfl, _⟩ | ⟨_, hj'⟩
      · exact absurd rfl hne
      · exact ((h.row j x y hj hj').chg hch (fun b hb e => hne (h.apart j i x u b hj hu hb e))).chg hch2 (fun b hb e => h.out hj hvb (e ▸ hb))
  · rcases get_set hx with ⟨e1, e2⟩ | ⟨hne, g1⟩ <;> rcases get_set hy with ⟨e3, e4⟩ | ⟨hne', g2⟩
    · rw [e1, e3]
    · exfalso
      rw [e2] at hbx
      rcases ha with h1 | h1
      · exact hne' (h.apart b i y u k g2 hu hby (h1 ▸ hbx))
      · rw [h1] at hbx
        have := h.lt g2 hby
        have := Option.some.inj hbx
        omega
    · exfalso
      rw [e4] at hby
      rcases ha with h1 | h1
      · exact hne (h.apart a i x u k g1 hu hbx (h1 ▸ hby))
      · rw [h1] at hby
        have := h.lt g1 hbx
        have := Option.some.inj hby
        omega
    · exact h.apart a b x y k g1 g2 hbx hby
  · rw [hsame b (World.ownsRow.lt h.own b hb).2]; exact h.memv b hb
  · rcases get_set hj with ⟨rfl, rfl⟩ | ⟨hne, hj⟩
    · rcases ha with h1 | h1
      · rw [h1] at hb
        rw [hsame b (h.lt hu hb)]; exact h.mem j u b hu hb
      · rw [h1] at hb
        obtain rfl := Option.some.inj hb
        exact paint_new C c (Nat.le_refl _)
    · rw [hsame b (h.lt hj hb)]; exact h.mem j x b hj hb
end
theorem infoL : (Try.prog.info? 25).map (fun i => (i.zero, i.size, i.bytes)) = some (some (.slice none 0 0), 1, 24) := by kernel_rfl
theorem append_lists {w : World} {ops : Array Oper} {rest : List Oper} {o : Oper} {a : Act} {Q : Exit → Act → World → Prop} (hgd : o.guard = none) (s x : Operand)
    (ho : o.op = .call { callee := .builtin .append, args := #[s, x], argTypes := #[33, 33] })
    (v : Value) (vs : List Value) (hs : a.eval s = v) (hown : w.ownsRow 0 25 1 v vs.length vs) (g0 cc : Nat) (u0 u1 : Value) (hx : a.eval x = .slice (some ⟨g0, 0, none⟩) 2 cc)
    (hb : Blk w g0 25 #[u0, u1]) (h0 : u0.oneCell' = true) (h1 : u1.oneCell' = true) (hlen : vs.length ≤ 1000000000)
    (h : ∀ v' w', w'.ownsRow 0 25 1 v' (vs ++ [u0, u1]).length (vs ++ [u0, u1]) → w.grownBy w' v.ownBlock → (v'.ownBlock = v.ownBlock ∨ v'.ownBlock = some w.heap.size) → wpList Try.prog ops Q rest (a.put o.dst v') w') : wpList Try.prog ops Q (o :: rest) a w := by
  obtain ⟨i0, hi, hz0, hz1, hz2⟩ := info_parts infoL
  refine wpList_append_own_at (P := Try.prog) w hgd s x 33 ho 0 25 i0 _ 1 24 Try.underlying33 hi hz0 hz1 hz2 rfl (by omega) v vs.length vs hs hown ⟨g0, 0, none⟩ 2 cc [u0, u1] hx rfl (fun j u hj => ?_) (fun u hu => ?_) (by simp only [maxLen]; omega) (by omega) (Nat.zero_le _) (fun v' w' h2 h3 _ h5 => h v' w' (by simpa using h2) h3 h5)
  · have e : (⟨g0, 0, none⟩ : Addr).add j = ⟨g0, j, none⟩ := by unfold Addr.add; split <;> simp_all
    rw [e, hb.cell]
    match j, hj with
    | 0, hj => exact hj
    | 1, hj => exact hj
    | j + 2, hj => simp at hj
  · simp only [List.mem_cons, List.not_mem_nil, or_false] at hu
    rcases hu with rfl | rfl
    · exact h0
    · exact h1
end Go.Proofs.Ytckhmdeeddjkhaa
