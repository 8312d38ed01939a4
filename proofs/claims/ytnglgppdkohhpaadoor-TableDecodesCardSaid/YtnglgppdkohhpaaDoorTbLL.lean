/- COLOURS (which block belongs to which part) and LISTS OF LISTS of the call's own, of elements of one cell. -/
import Derived.Test.YtnglgppdkohhpaaDoorTbRDec
namespace Go.Proofs.YtnglgppdkohhpaaDoor
open Go.RowKit
def Sam (h : Nat) (C C' : Nat → Nat) : Prop := ∀ b, b < h → C' b = C b
theorem Sam.refl (h : Nat) (C : Nat → Nat) : Sam h C C := fun _ _ => rfl
theorem Sam.trans {h h' : Nat} {C C' C'' : Nat → Nat} (a : Sam h C C') (b : Sam h' C' C'') (hh : h ≤ h') : Sam h C C'' := fun k hk => (b k (by omega)).trans (a k hk)
theorem Sam.mono {h h' : Nat} {C C' : Nat → Nat} (a : Sam h C C') (hh : h' ≤ h) : Sam h' C C' := fun k hk => a k (by omega)
def paint (C : Nat → Nat) (h c : Nat) : Nat → Nat := fun b => if b < h then C b else c
theorem sam_paint (C : Nat → Nat) (h c : Nat) : Sam h C (paint C h c) := fun _ hb => if_pos hb
theorem paint_new (C : Nat → Nat) {h b : Nat} (c : Nat) (hb : h ≤ b) : paint C h c b = c := if_neg (by omega)
theorem get_set {α : Type} {l : List α} {i j : Nat} {a u : α} (h : (l.set i a)[j]? = some u) : (j = i ∧ u = a) ∨ (j ≠ i ∧ l[j]? = some u) := by
  rw [List.getElem?_set] at h
  split at h
  · rename_i e
    split at h
    · exact .inl ⟨e.symm, (Option.some.inj h).symm⟩
    · cases h
  · rename_i e
    exact .inr ⟨fun h => e h.symm, h⟩
/-- the slice v is a row of the call's own of slices vs, each a row of the call's own that holds its list of ls; no two share a block; all blocks bear the colour c -/
structure LL {α : Type} (te ti : TypeId) (f : α → Value) (w : World) (C : Nat → Nat) (c : Nat) (v : Value) (vs : List Value) (ls : List (List α)) : Prop where
  own : w.ownsRow 0 te 1 v vs.length vs
  len : vs.length = ls.length
  row : ∀ (j : Nat) (u : Value) (l : List α), vs[j]? = some u → ls[j]? = some l → w.ownsRow 0 ti 1 u (l.map f).length (l.map f)
  apart : ∀ (i j : Nat) (u u' : Value) (b : Nat), vs[i]? = some u → vs[j]? = some u' → u.ownBlock = some b → u'.ownBlock = some b → i = j
  memv : ∀ b, v.ownBlock = some b → C b = c
  mem : ∀ (j : Nat) (u : Value) (b : Nat), vs[j]? = some u → u.ownBlock = some b → C b = c
section
variable {α : Type} {te ti : TypeId} {f : α → Value} {w w' : World} {C C' : Nat → Nat} {c : Nat} {v : Value} {vs : List Value} {ls : List (List α)}
theorem LL.get (h : LL te ti f w C c v vs ls) {j : Nat} {u : Value} (hu : vs[j]? = some u) : ∃ l, ls[j]? = some l ∧ w.ownsRow 0 ti 1 u (l.map f).length (l.map f) := by
  have hj := (List.getElem?_eq_some_iff.1 hu).1
  have hl : ls[j]? = some (ls[j]'(by rw [← h.len]; exact hj)) := List.getElem?_eq_getElem _
  exact ⟨_, hl, h.row j u _ hu hl⟩
theorem LL.at_ (h : LL te ti f w C c v vs ls) {j : Nat} (hj : j < ls.length) : ∃ u l, vs[j]? = some u ∧ ls[j]? = some l ∧ w.ownsRow 0 ti 1 u (l.map f).length (l.map f) := by
  have hl : j < vs.length := by rw [h.len]; exact hj
  have hu : vs[j]? = some vs[j] := List.getElem?_eq_getElem hl
  obtain ⟨l, h1, h2⟩ := h.get hu
  exact ⟨_, l, hu, h1, h2⟩
theorem LL.lt (h : LL te ti f w C c v vs ls) {j b : Nat} {u : Value} (hu : vs[j]? = some u) (hb : u.ownBlock = some b) : b < w.heap.size := by
  obtain ⟨l, _, ho⟩ := h.get hu
  exact (ho.lt b hb).2
theorem LL.step {S : Nat → Prop} (h : LL te ti f w C c v vs ls) (hc : Chg S w w') (hs : Sam w.heap.size C C') (hS : ∀ b, S b → C b ≠ c) : LL te ti f w' C' c v vs ls :=
  ⟨hc.own h.own (fun k hk hs' => hS k hs' (h.memv k hk)), h.len,
   fun j u l hu hl => hc.own (h.row j u l hu hl) (fun k hk hs' => hS k hs' (h.mem j u k hu hk)), h.apart,
   fun b hb => (hs b (World.ownsRow.lt h.own b hb).2).trans (h.memv b hb),
   fun j u b hu hb => (hs b (h.lt hu hb)).trans (h.mem j u b hu hb)⟩
theorem LL.keep (h : LL te ti f w C c v vs ls) (hb : Below w.heap.size w w') : LL te ti f w' C c v vs ls := h.step (Chg.of_below hb (fun _ => False)) (Sam.refl _ _) (fun _ e => e.elim)
/-- where the outer row lies -/
theorem LL.form (h : LL te ti f w C c v vs ls) (hp : 0 < vs.length) : ∃ g cap, v = .slice (some ⟨g, 0, none⟩) vs.length cap ∧ vs.length ≤ cap ∧ C g = c ∧ g < w.heap.size ∧ (∀ (j : Nat) (u : Value), vs[j]? = some u → w.cell? ⟨g, j, none⟩ = some u) ∧ ∀ j, w.frozen? ⟨g, j, none⟩ = false := by
  obtain ⟨A, cap, e, h1, _, h3⟩ := own_form h.own
  rcases h3 with ⟨_, h0⟩ | ⟨g, rfl, _, hg⟩
  · omega
  · have ho := h.own
    rw [e] at ho
    refine ⟨g, cap, e, h1, h.memv g (by rw [e]; rfl), hg, fun j u hu => ?_, fun j => World.ownsRow.frozenAt ho j⟩
    rw [World.ownsRow.cellAt ho j (by have := (List.getElem?_eq_some_iff.1 hu).1; omega)]
    exact hu
theorem row_form {u : Value} {l : List α} {base : Nat} (h : w.ownsRow base ti 1 u (l.map f).length (l.map f)) : ∃ A cap, u = .slice A l.length cap ∧ l.length ≤ cap ∧ (0 < l.length → ∃ g, A = some ⟨g, 0, none⟩ ∧ g < w.heap.size ∧ (∀ (j : Nat) (x : α), l[j]? = some x → w.cell? ⟨g, j, none⟩ = some (f x)) ∧ ∀ j, w.frozen? ⟨g, j, none⟩ = false) := by
  obtain ⟨A, cap, e, h1, _, h3⟩ := own_form h
  rw [List.length_map] at e h1
  refine ⟨A, cap, e, h1, fun hp => ?_⟩
  rcases h3 with ⟨_, h0⟩ | ⟨g, rfl, _, hg⟩
  · rw [List.length_map] at h0; omega
  · subst e
    rw [List.length_map] at h
    refine ⟨g, rfl, hg, fun j x hx => ?_, fun j => World.ownsRow.frozenAt h j⟩
    have hj := (List.getElem?_eq_some_iff.1 hx).1
    rw [World.ownsRow.cellAt h j (by omega), List.getElem?_map, hx]; rfl
/-- inner rows lie in no block of the outer row -/
theorem LL.out (h : LL te ti f w C c v vs ls) (hne : ti ≠ te) {j b : Nat} {u : Value} (hu : vs[j]? = some u) (hb : v.ownBlock = some b) : u.ownBlock ≠ some b := by
  obtain ⟨l, _, ho⟩ := h.get hu
  intro e
  rcases own_apart ho h.own hne with h1 | h1
  · rw [h1] at e; cases e
  · exact h1 (e.trans hb.symm)
/-- a place of an inner row written -/
theorem LL.put (h : LL te ti f w C c v vs ls) (hne : ti ≠ te) {i k g cap n : Nat} {l : List α} (x : α) (hu : vs[i]? = some (.slice (some ⟨g, 0, none⟩) n cap)) (hl : ls[i]? = some l) :
    LL te ti f (w.setCell ⟨g, k, none⟩ (f x)) C c v vs (ls.set i (l.set k x)) ∧ C g = c := by
  have hch : Chg (fun b => b = g) w (w.setCell ⟨g, k, none⟩ (f x)) := Chg.setCell (S := fun b => b = g) (p := ⟨g, k, none⟩) (Chg.refl _ w) (.inl rfl) _
  have hr := h.row i _ l hu hl
  refine ⟨⟨hch.own h.own (fun b hb e => h.out hne hu hb (by rw [e]; rfl)), by rw [List.length_set]; exact h.len, fun j u l' hj hj' => ?_, h.apart, h.memv, h.mem⟩, h.mem i _ g hu rfl⟩
  rcases get_set hj' with ⟨rfl, rfl⟩ | ⟨hne2, hj'⟩
  · rw [hu] at hj
    obtain rfl := Option.some.inj hj
    obtain ⟨A, cap2, e, _⟩ := own_form hr
    injection e with _ e2 _
    subst e2
    have := (World.ownsRow.stored hr k (f x)).1
    rw [← List.map_set] at this
    have e3 : ((l.set k x).map f).length = (l.map f).length := by simp
    rw [e3]
    exact this
  · exact hch.own (h.row j u l' hj hj') (fun b hb e => hne2 (h.apart j i u _ b hj hu hb (by rw [e]; rfl)))
/-- an inner row lengthened (into a row of its own) and laid in its place -/
theorem LL.grow {w2 : World} (h : LL te ti f w C c v vs ls) (hne : ti ≠ te) {i : Nat} {gv cap n : Nat} {u u' : Value} {l l' : List α} (hv : v = .slice (some ⟨gv, 0, none⟩) n cap) (hu : vs[i]? = some u) (hl : ls[i]? = some l)
    (hg : w.grownBy w2 u.ownBlock) (ho : w2.ownsRow 0 ti 1 u' (l'.map f).length (l'.map f)) (ha : u'.ownBlock = u.ownBlock ∨ u'.ownBlock = some w.heap.size) :
    LL te ti f (w2.setCell ⟨gv, i, none⟩ u') (paint C w.heap.size c) c v (vs.set i u') (ls.set i l') := by
  have hvb : v.ownBlock = some gv := by rw [hv]; rfl
  have hgv := (World.ownsRow.lt h.own gv hvb).2
  have hch : Chg (fun k => u.ownBlock = some k) w w2 := (Chg.refl _ w).grown hg (fun k e _ => e)
  have hch2 : Chg (fun b => b = gv) w2 (w2.setCell ⟨gv, i, none⟩ u') := Chg.setCell (S := fun b => b = gv) (p := ⟨gv, i, none⟩) (Chg.refl _ w2) (.inl rfl) _
  have hown2 : w2.ownsRow 0 te 1 v vs.length vs := hch.own h.own (fun b hb e => h.out hne hu hb e)
  have hsame : ∀ b, b < w.heap.size → paint C w.heap.size c b = C b := sam_paint C _ c
  have hgu' : u'.ownBlock ≠ some gv := fun e => by
    rcases ha with h1 | h1
    · exact h.out hne hu hvb (h1 ▸ e)
    · rw [h1] at e
      have := Option.some.inj e
      omega
  refine ⟨?_, by simp [h.len], fun j x y hj hj' => ?_, fun a b x y k hx hy hbx hby => ?_, fun b hb => ?_, fun j x b hj hb => ?_⟩
  · rw [hv] at hown2 ⊢
    have hn : vs.length = n := by
      rcases hown2.2 with ⟨e, _⟩ | ⟨_, _, _, e, _⟩
      · simp at e
      · injection e with _ e _; exact e.symm
    rw [List.length_set]
    subst hn
    exact (World.ownsRow.stored hown2 i u').1
  · rcases get_set hj with ⟨rfl, rfl⟩ | ⟨hne2, hj⟩
    · rcases get_set hj' with ⟨_, rfl⟩ | ⟨hne2, _⟩
      · exact hch2.own ho (fun b hb e => hgu' (e ▸ hb))
      · exact absurd rfl hne2
    · rcases get_set hj' with ⟨rfl, _⟩ | ⟨_, hj'⟩
      · exact absurd rfl hne2
      · exact hch2.own (hch.own (h.row j x y hj hj') (fun b hb e => hne2 (h.apart j i x u b hj hu hb e))) (fun b hb e => h.out hne hj hvb (e ▸ hb))
  · rcases get_set hx with ⟨e1, e2⟩ | ⟨hne2, g1⟩ <;> rcases get_set hy with ⟨e3, e4⟩ | ⟨hne3, g2⟩
    · rw [e1, e3]
    · exfalso
      rw [e2] at hbx
      rcases ha with h1 | h1
      · exact hne3 (h.apart b i y u k g2 hu hby (h1 ▸ hbx))
      · rw [h1] at hbx
        have := h.lt g2 hby
        have := Option.some.inj hbx
        omega
    · exfalso
      rw [e4] at hby
      rcases ha with h1 | h1
      · exact hne2 (h.apart a i x u k g1 hu hbx (h1 ▸ hby))
      · rw [h1] at hby
        have := h.lt g1 hbx
        have := Option.some.inj hby
        omega
    · exact h.apart a b x y k g1 g2 hbx hby
  · rw [hsame b (World.ownsRow.lt h.own b hb).2]; exact h.memv b hb
  · rcases get_set hj with ⟨rfl, rfl⟩ | ⟨hne2, hj⟩
    · rcases ha with h1 | h1
      · rw [h1] at hb
        rw [hsame b (h.lt hu hb)]; exact h.mem j u b hu hb
      · rw [h1] at hb
        obtain rfl := Option.some.inj hb
        exact paint_new C c (Nat.le_refl _)
    · rw [hsame b (h.lt hj hb)]; exact h.mem j x b hj hb
end
end Go.Proofs.YtnglgppdkohhpaaDoor
