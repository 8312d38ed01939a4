/- THE STATE of SimfsPlays: the play's block, the books, and the disks in pairs. -/
import Derived.Test.YtlojmmcagglpoaaGreatQDiskFile
import Derived.Test.YtlojmmcagglpoaaGreatQNames
import Derived.Test.YtlojmmcagglpoaaGreatQPair2
import Derived.RegionTactic
import Derived.BigQuiet
import Derived.Laws.StructEq
namespace Go.Proofs.YtlojmmcagglpoaaGreat
open Go.RowKit Go.Maps
theorem DC.less {W : World} {N N' : Nat} {C : Nat → Nat} {c p n : Nat} {d : Dk} (h : DC W N C c p n d) (hN : N' ≤ N) : DC W N' C c p n d := by
  obtain ⟨h0, bf, bn, bs, fl, h3, h4⟩ := h
  exact ⟨h0, bf, bn, bs, fl, ⟨h3.bd, h3.mf, h3.mn, h3.ms, ⟨Nat.le_trans hN h3.lo.1, Nat.le_trans hN h3.lo.2.1, Nat.le_trans hN h3.lo.2.2.1, Nat.le_trans hN h3.lo.2.2.2.1, h3.lo.2.2.2.2⟩, h3.hf, fun i g x hi hx => ⟨Nat.le_trans hN (h3.fw i g x hi hx).1, by
    obtain ⟨v, hv, ho⟩ := (h3.fw i g x hi hx).2
    exact ⟨v, hv, ho.less hN⟩⟩, h3.ap, h3.ab⟩, h4⟩
theorem ownsRow_less {w : World} {base base' size n : Nat} {e : TypeId} {v : Value} {xs : List Value} (h : w.ownsRow base e size v n xs) (hb : base' ≤ base) : w.ownsRow base' e size v n xs := by
  refine ⟨h.1, ?_⟩
  rcases h.2 with h0 | ⟨g, cap, cur, hv, hg, r⟩
  · exact .inl h0
  · exact .inr ⟨g, cap, cur, hv, Nat.le_trans hb hg, r⟩
theorem RC.less {W : World} {N N' : Nat} {C : Nat → Nat} {c p : Nat} {r : Rd} (h : RC W N C c p r) (hN : N' ≤ N) : RC W N' C c p r := by
  obtain ⟨us, vi, vn, hw⟩ := h
  exact ⟨us, vi, vn, hw.is, hw.bd, ownsRow_less hw.ri hN, ownsRow_less hw.rn hN, fun k u hu => (hw.ob k u hu).less hN, hw.ap, Nat.le_trans hN hw.lo, hw.cp, hw.ci, hw.cn, hw.cu⟩
section
variable {w0 W : World} {C : Nat → Nat} {L : List PartT}
theorem GS.newD (h : GS w0 W C L) : Calls Tryz.prog 8 #[] W fun e w' => ∃ p, e = .returned (.pointer (some ⟨p, 0, none⟩)) ∧ GS w0 w' (paint C W.heap.size (L.length + 1)) (L ++ [DCp w0 (L.length + 1) p 0 emptyD]) := by
  refine (new_c W C (L.length + 1)).mono ?_
  rintro e w' ⟨p, he, hp, hd, hb⟩
  exact ⟨p, he, h.add hb (hd.less h.bel.size) (Stb.dcp _ _ _ _ _)⟩
theorem GS.newR (h : GS w0 W C L) : GS w0 (W.alloc (.cells #[.slice none 0 0, .slice none 0 0] 47)) (paint C W.heap.size (L.length + 1)) (L ++ [RCp w0 (L.length + 1) W.heap.size ⟨[], []⟩]) := by
  have h1 := RW.fresh W C (L.length + 1)
  exact h.add ((Below.refl _ _).alloc (Nat.le_refl _) _) (RC.less ⟨_, _, _, h1⟩ h.bel.size) (Stb.rcp _ _ _ _)
theorem GS.newR14 (h : GS w0 W C L) : Calls Tryz.prog 9 #[] W fun e w' => ∃ p, e = .returned (.pointer (some ⟨p, 0, none⟩)) ∧ GS w0 w' (paint C W.heap.size (L.length + 1)) (L ++ [RCp w0 (L.length + 1) p ⟨[], []⟩]) := by
  refine (rnew_any W C (L.length + 1)).mono ?_
  rintro e w' ⟨p, he, hd, hb⟩
  exact ⟨p, he, h.add hb (RC.less hd h.bel.size) (Stb.rcp _ _ _ _)⟩
theorem GS.begun (W : World) {W' : World} (hb : Below W.heap.size W W') : GS W W' (fun _ => 0) [] := (GS.nil W).keep hb
end
end Go.Proofs.YtlojmmcagglpoaaGreat
namespace Go.Proofs.YtlojmmcagglpoaaGreat
open Go.RowKit
theorem get_set {α : Type} {l : List α} {i j : Nat} {a u : α} (h : (l.set i a)[j]? = some u) : (j = i ∧ u = a) ∨ (j ≠ i ∧ l[j]? = some u) := by
  rw [List.getElem?_set] at h
  split at h
  · rename_i e
    split at h
    · exact .inl ⟨e.symm, (Option.some.inj h).symm⟩
    · cases h
  · rename_i e
    exact .inr ⟨fun h => e h.symm, h⟩
/-- the slice v is a row of the call's own of slices vs, each a row of the call's own that holds its list of ls; no two share a block; all blocks bear the colour c -/
structure LL {α : Type} (N : Nat) (te ti : TypeId) (f : α → Value) (w : World) (C : Nat → Nat) (c : Nat) (v : Value) (vs : List Value) (ls : List (List α)) : Prop where
  own : w.ownsRow N te 1 v vs.length vs
  len : vs.length = ls.length
  row : ∀ (j : Nat) (u : Value) (l : List α), vs[j]? = some u → ls[j]? = some l → w.ownsRow N ti 1 u (l.map f).length (l.map f)
  apart : ∀ (i j : Nat) (u u' : Value) (b : Nat), vs[i]? = some u → vs[j]? = some u' → u.ownBlock = some b → u'.ownBlock = some b → i = j
  memv : ∀ b, v.ownBlock = some b → C b = c
  mem : ∀ (j : Nat) (u : Value) (b : Nat), vs[j]? = some u → u.ownBlock = some b → C b = c
section
variable {α : Type} {N : Nat} {te ti : TypeId} {f : α → Value} {w w' : World} {C C' : Nat → Nat} {c : Nat} {v : Value} {vs : List Value} {ls : List (List α)}
theorem LL.get (h : LL N te ti f w C c v vs ls) {j : Nat} {u : Value} (hu : vs[j]? = some u) : ∃ l, ls[j]? = some l ∧ w.ownsRow N ti 1 u (l.map f).length (l.map f) := by
  have hj := (List.getElem?_eq_some_iff.1 hu).1
  have hl : ls[j]? = some (ls[j]'(by rw [← h.len]; exact hj)) := List.getElem?_eq_getElem _
  exact ⟨_, hl, h.row j u _ hu hl⟩
theorem LL.at_ (h : LL N te ti f w C c v vs ls) {j : Nat} (hj : j < ls.length) : ∃ u l, vs[j]? = some u ∧ ls[j]? = some l ∧ w.ownsRow N ti 1 u (l.map f).length (l.map f) := by
  have hl : j < vs.length := by rw [h.len]; exact hj
  have hu : vs[j]? = some vs[j] := List.getElem?_eq_getElem hl
  obtain ⟨l, h1, h2⟩ := h.get hu
  exact ⟨_, l, hu, h1, h2⟩
theorem LL.lt (h : LL N te ti f w C c v vs ls) {j b : Nat} {u : Value} (hu : vs[j]? = some u) (hb : u.ownBlock = some b) : b < w.heap.size := by
  obtain ⟨l, _, ho⟩ := h.get hu
  exact (ho.lt b hb).2
theorem LL.step {S : Nat → Prop} (h : LL N te ti f w C c v vs ls) (hc : Chg S w w') (hs : Sam w.heap.size C C') (hS : ∀ b, S b → C b ≠ c) : LL N te ti f w' C' c v vs ls :=
  ⟨hc.own h.own (fun k hk hs' => hS k hs' (h.memv k hk)), h.len,
   fun j u l hu hl => hc.own (h.row j u l hu hl) (fun k hk hs' => hS k hs' (h.mem j u k hu hk)), h.apart,
   fun b hb => (hs b (World.ownsRow.lt h.own b hb).2).trans (h.memv b hb),
   fun j u b hu hb => (hs b (h.lt hu hb)).trans (h.mem j u b hu hb)⟩
theorem LL.keep (h : LL N te ti f w C c v vs ls) (hb : Below w.heap.size w w') : LL N te ti f w' C c v vs ls := h.step (Chg.of_below hb (fun _ => False)) (Sam.refl _ _) (fun _ e => e.elim)
/-- where the outer row lies -/
theorem LL.form (h : LL N te ti f w C c v vs ls) (hp : 0 < vs.length) : ∃ g cap, v = .slice (some ⟨g, 0, none⟩) vs.length cap ∧ vs.length ≤ cap ∧ C g = c ∧ g < w.heap.size ∧ (∀ (j : Nat) (u : Value), vs[j]? = some u → w.cell? ⟨g, j, none⟩ = some u) ∧ ∀ j, w.frozen? ⟨g, j, none⟩ = false := by
  obtain ⟨A, cap, e, h1, _, h3⟩ := own_form h.own
  rcases h3 with ⟨_, h0⟩ | ⟨g, rfl, _, hg⟩
  · omega
  · have ho := h.own
    rw [e] at ho
    refine ⟨g, cap, e, h1, h.memv g (by rw [e]; rfl), hg, fun j u hu => ?_, fun j => World.ownsRow.frozenAt ho j⟩
    rw [World.ownsRow.cellAt ho j (by have := (List.getElem?_eq_some_iff.1 hu).1; omega)]
    exact hu
theorem row_form {u : Value} {l : List α} {base : Nat} (h : w.ownsRow base ti 1 u (l.map f).length (l.map f)) : ∃ A cap, u = .slice A l.length cap ∧ l.length ≤ cap ∧ (0 < l.length → ∃ g, A = some ⟨g, 0, none⟩ ∧ g < w.heap.size ∧ (∀ (j : Nat) (x : α), l[j]? = some x → w.cell? ⟨g, j, none⟩ = some (f x)) ∧ ∀ j, w.frozen? ⟨g, j, none⟩ = false) := by
  obtain ⟨A, cap, e, h1, _, h3⟩ := own_form h
  rw [List.length_map] at e h1
  refine ⟨A, cap, e, h1, fun hp => ?_⟩
  rcases h3 with ⟨_, h0⟩ | ⟨g, rfl, _, hg⟩
  · rw [List.length_map] at h0; omega
  · subst e
    rw [List.length_map] at h
    refine ⟨g, rfl, hg, fun j x hx => ?_, fun j => World.ownsRow.frozenAt h j⟩
    have hj := (List.getElem?_eq_some_iff.1 hx).1
    rw [World.ownsRow.cellAt h j (by omega), List.getElem?_map, hx]; rfl
/-- inner rows lie in no block of the outer row -/
theorem LL.out (h : LL N te ti f w C c v vs ls) (hne : ti ≠ te) {j b : Nat} {u : Value} (hu : vs[j]? = some u) (hb : v.ownBlock = some b) : u.ownBlock ≠ some b := by
  obtain ⟨l, _, ho⟩ := h.get hu
  intro e
  rcases own_apart ho h.own hne with h1 | h1
  · rw [h1] at e; cases e
  · exact h1 (e.trans hb.symm)
/-- a place of an inner row written -/
theorem LL.put (h : LL N te ti f w C c v vs ls) (hne : ti ≠ te) {i k g cap n : Nat} {l : List α} (x : α) (hu : vs[i]? = some (.slice (some ⟨g, 0, none⟩) n cap)) (hl : ls[i]? = some l) :
    LL N te ti f (w.setCell ⟨g, k, none⟩ (f x)) C c v vs (ls.set i (l.set k x)) ∧ C g = c := by
  have hch : Chg (fun b => b = g) w (w.setCell ⟨g, k, none⟩ (f x)) := Chg.setCell (S := fun b => b = g) (p := ⟨g, k, none⟩) (Chg.refl _ w) (.inl rfl) _
  have hr := h.row i _ l hu hl
  refine ⟨⟨hch.own h.own (fun b hb e => h.out hne hu hb (by rw [e]; rfl)), by rw [List.length_set]; exact h.len, fun j u l' hj hj' => ?_, h.apart, h.memv, h.mem⟩, h.mem i _ g hu rfl⟩
  rcases get_set hj' with ⟨rfl, rfl⟩ | ⟨hne2, hj'⟩
  · rw [hu] at hj
    obtain rfl := Option.some.inj hj
    obtain ⟨A, cap2, e, _⟩ := own_form hr
    injection e with _ e2 _
    subst e2
    have := (World.ownsRow.stored hr k (f x)).1
    rw [← List.map_set] at this
    have e3 : ((l.set k x).map f).length = (l.map f).length := by simp
    rw [e3]
    exact this
  · exact hch.own (h.row j u l' hj hj') (fun b hb e => hne2 (h.apart j i u _ b hj hu hb (by rw [e]; rfl)))
/-- an inner row lengthened (into a row of its own) and laid in its place -/
theorem LL.grow {w2 : World} (h : LL N te ti f w C c v vs ls) (hne : ti ≠ te) {i : Nat} {gv cap n : Nat} {u u' : Value} {l l' : List α} (hv : v = .slice (some ⟨gv, 0, none⟩) n cap) (hu : vs[i]? = some u) (hl : ls[i]? = some l)
    (hg : w.grownBy w2 u.ownBlock) (ho : w2.ownsRow N ti 1 u' (l'.map f).length (l'.map f)) (ha : u'.ownBlock = u.ownBlock ∨ u'.ownBlock = some w.heap.size) :
    LL N te ti f (w2.setCell ⟨gv, i, none⟩ u') (paint C w.heap.size c) c v (vs.set i u') (ls.set i l') := by
  have hvb : v.ownBlock = some gv := by rw [hv]; rfl
  have hgv := (World.ownsRow.lt h.own gv hvb).2
  have hch : Chg (fun k => u.ownBlock = some k) w w2 := (Chg.refl _ w).grown hg (fun k e _ => e)
  have hch2 : Chg (fun b => b = gv) w2 (w2.setCell ⟨gv, i, none⟩ u') := Chg.setCell (S := fun b => b = gv) (p := ⟨gv, i, none⟩) (Chg.refl _ w2) (.inl rfl) _
  have hown2 : w2.ownsRow N te 1 v vs.length vs := hch.own h.own (fun b hb e => h.out hne hu hb e)
  have hsame : ∀ b, b < w.heap.size → paint C w.heap.size c b = C b := sam_paint C _ c
  have hgu' : u'.ownBlock ≠ some gv := fun e => by
    rcases ha with h1 | h1
    · exact h.out hne hu hvb (h1 ▸ e)
    · rw [h1] at e
      have := Option.some.inj e
      omega
  refine ⟨?_, by simp [h.len], fun j x y hj hj' => ?_, fun a b x y k hx hy hbx hby => ?_, fun b hb => ?_, fun j x b hj hb => ?_⟩
  · rw [hv] at hown2 ⊢
    have hn : vs.length = n := by
      rcases hown2.2 with ⟨e, _⟩ | ⟨_, _, _, e, _⟩
      · simp at e
      · injection e with _ e _; exact e.symm
    rw [List.length_set]
    subst hn
    exact (World.ownsRow.stored hown2 i u').1
  · rcases get_set hj with ⟨rfl, rfl⟩ | ⟨hne2, hj⟩
    · rcases get_set hj' with ⟨_, rfl⟩ | ⟨hne2, _⟩
      · exact hch2.own ho (fun b hb e => hgu' (e ▸ hb))
      · exact absurd rfl hne2
    · rcases get_set hj' with ⟨rfl, _⟩ | ⟨_, hj'⟩
      · exact absurd rfl hne2
      · exact hch2.own (hch.own (h.row j x y hj hj') (fun b hb e => hne2 (h.apart j i x u b hj hu hb e))) (fun b hb e => h.out hne hj hvb (e ▸ hb))
  · rcases get_set hx with ⟨e1, e2⟩ | ⟨hne2, g1⟩ <;> rcases get_set hy with ⟨e3, e4⟩ | ⟨hne3, g2⟩
    · rw [e1, e3]
    · exfalso
      rw [e2] at hbx
      rcases ha with h1 | h1
      · exact hne3 (h.apart b i y u k g2 hu hby (h1 ▸ hbx))
      · rw [h1] at hbx
        have := h.lt g2 hby
        have := Option.some.inj hbx
        omega
    · exfalso
      rw [e4] at hby
      rcases ha with h1 | h1
      · exact hne2 (h.apart a i x u k g1 hu hbx (h1 ▸ hby))
      · rw [h1] at hby
        have := h.lt g1 hbx
        have := Option.some.inj hby
        omega
    · exact h.apart a b x y k g1 g2 hbx hby
  · rw [hsame b (World.ownsRow.lt h.own b hb).2]; exact h.memv b hb
  · rcases get_set hj with ⟨rfl, rfl⟩ | ⟨hne2, hj⟩
    · rcases ha with h1 | h1
      · rw [h1] at hb
        rw [hsame b (h.lt hu hb)]; exact h.mem j u b hu hb
      · rw [h1] at hb
        obtain rfl := Option.some.inj hb
        exact paint_new C c (Nat.le_refl _)
    · rw [hsame b (h.lt hj hb)]; exact h.mem j x b hj hb
theorem get_snoc2 {β : Type} {l : List β} {a b u : β} {j : Nat} (h : (l ++ [a, b])[j]? = some u) : (j < l.length ∧ l[j]? = some u) ∨ (j = l.length ∧ u = a) ∨ (j = l.length + 1 ∧ u = b) := by
  by_cases hj : j < l.length
  · rw [List.getElem?_append_left hj] at h; exact .inl ⟨hj, h⟩
  · rw [List.getElem?_append_right (by omega)] at h
    have hlt := (List.getElem?_eq_some_iff.1 h).1
    simp at hlt
    rcases (by omega : j - l.length = 0 ∨ j - l.length = 1) with e | e
    · rw [e] at h; exact .inr (.inl ⟨by omega, (by simpa using h.symm)⟩)
    · rw [e] at h; exact .inr (.inr ⟨by omega, (by simpa using h.symm)⟩)
/-- two lists more behind the others -/
theorem LL.snoc2 {w1 : World} (h : LL N te ti f w C c v vs ls) (hne : ti ≠ te) (hb : Below w.heap.size w w1) {u1 u2 : Value} {l1 l2 : List α} {v' : Value} (h1 : w1.ownsRow N ti 1 u1 (l1.map f).length (l1.map f)) (h2 : w1.ownsRow N ti 1 u2 (l2.map f).length (l2.map f)) (hn1 : ∀ b, u1.ownBlock = some b → w.heap.size ≤ b) (hn2 : ∀ b, u2.ownBlock = some b → w.heap.size ≤ b) (h12 : ∀ b, u1.ownBlock = some b → u2.ownBlock = some b → False)
    (ho : w'.ownsRow N te 1 v' (vs.length + 2) (vs ++ [u1, u2])) (hg : w1.grownBy w' v.ownBlock) (ha : v'.ownBlock = v.ownBlock ∨ v'.ownBlock = some w1.heap.size) : LL N te ti f w' (paint C w.heap.size c) c v' (vs ++ [u1, u2]) (ls ++ [l1, l2]) := by
  have hsz := hb.size
  have hc : Chg (fun k => v.ownBlock = some k) w w' := (Chg.of_below hb _).grown hg (fun k e _ => e)
  have hc1 : Chg (fun k => v.ownBlock = some k) w1 w' := (Chg.refl _ w1).grown hg (fun k e _ => e)
  have hs := sam_paint C w.heap.size c
  refine ⟨by rw [List.length_append]; exact ho, by rw [List.length_append, List.length_append, h.len]; rfl, fun j u l hu hl => ?_, fun i j u u' b hi hj hbi hbj => ?_, fun b hb' => ?_, fun j u b hu hb' => ?_⟩
  · rcases get_snoc2 hu with ⟨q1, q2⟩ | ⟨q1, rfl⟩ | ⟨q1, rfl⟩ <;> rcases get_snoc2 hl with ⟨r1, r2⟩ | ⟨r1, rfl⟩ | ⟨r1, rfl⟩ <;> first | (exfalso; have := h.len; omega) | skip
    · exact hc.own (h.row j u l q2 r2) (fun k hk e => h.out hne q2 e hk)
    · exact hc1.own h1 (fun k hk e => by have := hn1 k hk; have := (h.own.lt k e).2; omega)
    · exact hc1.own h2 (fun k hk e => by have := hn2 k hk; have := (h.own.lt k e).2; omega)
  · rcases get_snoc2 hi with ⟨q1, q2⟩ | ⟨q1, rfl⟩ | ⟨q1, rfl⟩ <;> rcases get_snoc2 hj with ⟨r1, r2⟩ | ⟨r1, rfl⟩ | ⟨r1, rfl⟩
    · exact h.apart i j u u' b q2 r2 hbi hbj
    · have := h.lt q2 hbi; have := hn1 b hbj; omega
    · have := h.lt q2 hbi; have := hn2 b hbj; omega
    · have := h.lt r2 hbj; have := hn1 b hbi; omega
    · omega
    · exact (h12 b hbi hbj).elim
    · have := h.lt r2 hbj; have := hn2 b hbi; omega
    · exact (h12 b hbj hbi).elim
    · omega
  · rcases ha with e | e
    · rw [e] at hb'
      rw [hs b (World.ownsRow.lt h.own b hb').2]; exact h.memv b hb'
    · rw [e] at hb'
      obtain rfl := Option.some.inj hb'
      exact paint_new C c hsz
  · rcases get_snoc2 hu with ⟨q1, q2⟩ | ⟨q1, rfl⟩ | ⟨q1, rfl⟩
    · rw [hs b (h.lt q2 hb')]; exact h.mem j u b q2 hb'
    · exact paint_new C c (hn1 b hb')
    · exact paint_new C c (hn2 b hb')
end
end Go.Proofs.YtlojmmcagglpoaaGreat
namespace Go.Proofs.YtlojmmcagglpoaaGreat
open Go.RowKit Go.Maps
/-- the slice (A, n) reads as texts -/
def TX (W : World) (A : Option Addr) (n : Nat) (l : List (List UInt8)) : Prop :=
  l.length = n ∧ (0 < n → ∃ b off, A = some ⟨b, off, none⟩ ∧ b < W.heap.size ∧ ∀ (j : Nat) (s : List UInt8), l[j]? = some s → W.cell? ⟨b, off + j, none⟩ = some (.string (strB s)))
theorem TX.at_ {w : World} {A : Option Addr} {n : Nat} {l : List (List UInt8)} (h : TX w A n l) {k : Nat} (hk : k < n) :
    ∃ b off s, A = some ⟨b, off, none⟩ ∧ l[k]? = some s ∧ w.cell? ⟨b, off + k, none⟩ = some (.string (strB s)) := by
  obtain ⟨b, off, e, hb, hc⟩ := h.2 (by omega)
  have hl : k < l.length := by have := h.1; omega
  exact ⟨b, off, l[k], e, List.getElem?_eq_getElem hl, hc k _ (List.getElem?_eq_getElem hl)⟩
theorem TX.of_own {w : World} {base n c : Nat} {A : Option Addr} {l : List (List UInt8)} (hl : l.length = n) (h : w.ownsRow base 9 1 (.slice A n c) n (l.map sV)) : TX w A n l := by
  refine ⟨hl, fun hm => ?_⟩
  rcases h.2 with ⟨hv, hz⟩ | ⟨gb, cap', cur, hv, _, _⟩
  · omega
  · have hv' := hv
    injection hv with e1 _ _
    subst e1
    refine ⟨gb, 0, rfl, (h.lt gb rfl).2, fun j k hj => ?_⟩
    have h1 := World.ownsRow.cellAt h j (by have := (List.getElem?_eq_some_iff.1 hj).1; omega)
    rw [Nat.zero_add, h1, List.getElem?_map, hj]; rfl
theorem strB_list (a : List UInt8) : (strB a).toList = a := by rw [ByteArray.toList_eq]; rfl
theorem strBL_inj {a b : List UInt8} (h : (strB a).toList = (strB b).toList) : a = b := by rwa [strB_list, strB_list] at h
set_option maxRecDepth 100000 in
set_option maxHeartbeats 2000000 in
theorem texts_any (A A' : Option Addr) (n n' c c' : Nat) (l l' : List (List UInt8)) (w : World) (hl : TX w A n l) (hl' : TX w A' n' l') (hn : n ≤ 9223372036854775807) (hn' : n' ≤ 9223372036854775807) (hc : n ≤ c) (hc' : n' ≤ c') :
    Calls Tryz.prog 58 #[.slice A n c, .slice A' n' c'] w fun e w' => e = .returned (.bool (decide (l = l'))) ∧ ∃ m, w' = w.drewN m := by
  by_cases hnn : n = n'
  · subst hnn
    have HL := Lib.hid hl; have HL' := Lib.hid hl'
    clear hl hl'
    go_enter Tryz.func58, Tryz.ntmps58
    go_wp2_with fail
    go_loopw [5] (fun iv W => ∃ k : Nat, k ≤ n ∧ iv = .int .i64 (k : Int) ∧ Hid (l.take k = l'.take k) ∧ ∃ m, W = w.drewN m) (fun iv _ => n - (intOf iv).toNat)
    case atStart => exact ⟨0, Nat.zero_le _, rfl, Lib.hid rfl, 0, rfl⟩
    case round =>
      obtain ⟨k, hk, rfl, HK, md, rfl⟩ := hrel
      by_cases hlt : k < n
      · obtain ⟨b, off, s, rfl, hs, c0⟩ := HL.out.at_ hlt
        obtain ⟨b', off', s', rfl, hs', c1⟩ := HL'.out.at_ hlt
        have HM := Lib.hid hs; have HM' := Lib.hid hs'
        have d0 : ∀ q, (w.drewN q).cell? ⟨b, off + k, none⟩ = some (.string (strB s)) := fun q => c0
        have d1 : ∀ q, (w.drewN q).cell? ⟨b', off' + k, none⟩ = some (.string (strB s')) := fun q => c1
        clear hs hs' c0 c1
        by_cases he : s = s'
        · subst he
          have HK2 : Hid (l.take (k + 1) = l'.take (k + 1)) := Lib.hid (by rw [take_snoc HM.out, take_snoc HM'.out, HK.out])
          go_upto_region 6 with fail
          go_quiet (fail)
          go_wp2_with fail
          go_roundw
          case rel => exact ⟨k + 1, by omega, by go_num, HK2, _, rfl⟩
          case measure => simp [intOf]; omega
        · have hne : ((strB s).toList == (strB s').toList) = false := by
            rw [beq_eq_false_iff_ne]
            exact fun e => he (strBL_inj e)
          have HS : Hid (decide (l = l') = false) := Lib.hid (decide_eq_false (fun e => he (by
            have h1 := HM.out
            rw [e, HM'.out] at h1
            exact (Option.some.inj h1).symm)))
          clear he
          go_upto_region 6 with fail
          go_quiet (fail)
          go_wp2_with fail
          go_ret
          exact ⟨by rw [HS.out]; rfl, md + nq, by simp⟩
      · obtain rfl : k = n := by omega
        have HS : Hid (decide (l = l') = true) := Lib.hid (decide_eq_true (by
          have := HK.out
          rwa [List.take_of_length_le (by have := HL.out.1; omega), List.take_of_length_le (by have := HL'.out.1; omega)] at this))
        go_wp2_with fail
        go_ret
        exact ⟨by rw [HS.out]; rfl, _, rfl⟩
  · have HS : Hid (decide (l = l') = false) := Lib.hid (decide_eq_false (fun e => hnn (by rw [← hl.1, ← hl'.1, e])))
    have hni : ((n : Int) == (n' : Int)) = false := by rw [beq_eq_false_iff_ne]; omega
    clear hl hl'
    go_enter Tryz.func58, Tryz.ntmps58
    go_wp2_with fail
    go_ret
    exact ⟨by rw [HS.out]; rfl, 0, rfl⟩
/-- names that are the same are the same when sorted -/
theorem sorted_same {a b : List (List UInt8)} (ha : a.Nodup) (hb : b.Nodup) (h : ∀ x, x ∈ a ↔ x ∈ b) : (a.mergeSort fun x y => decide (x ≤ y)) = b.mergeSort fun x y => decide (x ≤ y) := by
  have hp : a.Perm b := (List.perm_ext_iff_of_nodup ha hb).2 h
  have tr : ∀ (x y z : List UInt8), decide (x ≤ y) = true → decide (y ≤ z) = true → decide (x ≤ z) = true := fun x y z h1 h2 => decide_eq_true (List.le_trans (of_decide_eq_true h1) (of_decide_eq_true h2))
  have tt : ∀ (x y : List UInt8), (decide (x ≤ y) || decide (y ≤ x)) = true := fun x y => by
    rcases List.le_total x y with h | h
    · simp [h]
    · simp [h]
  refine List.Perm.eq_of_pairwise (le := fun x y => decide (x ≤ y) = true) (fun x y _ _ h1 h2 => List.le_antisymm (of_decide_eq_true h1) (of_decide_eq_true h2)) (List.pairwise_mergeSort tr tt a) (List.pairwise_mergeSort tr tt b) (((List.mergeSort_perm a _).trans hp).trans (List.mergeSort_perm b _).symm)
def eqS4 (a b c d a' b' c' d' : Int) : Bool := (a == a') && ((b == b') && ((c == c') && (d == d')))
theorem eql_stat (a b c d a' b' c' d' : Int) (w : World) : (Op.equalIn 10000 119 (.agg #[.int .i64 a, .int .i64 b, .int .i64 c, .int .i64 d]) (.agg #[.int .i64 a', .int .i64 b', .int .i64 c', .int .i64 d'])).run Tryz.prog w = .ok (eqS4 a b c d a' b' c' d') w := by
  unfold eqS4
  have u3 := Tryz.underlying3
  have hS : Tryz.prog.underlying 119 = some (.struct (Tryz.prog.fieldsOf 119)) := by kernel_rfl
  have hp : Tryz.prog.stoodInHeld 119 = false := by kernel_rfl
  rw [show (10000 : Nat) = 9999 + 1 from rfl, run_equalIn_agg w 9999 119 _ _ hS hp]
  simp only [Program.fieldsOf, Tryz.underlying119]
  clear hS hp
  go_simp
  repeat' split
  all_goals simp [*]
theorem neq_stat (a b c d a' b' c' d' : Int) (w : World) : (binOp .neq 119 (.agg #[.int .i64 a, .int .i64 b, .int .i64 c, .int .i64 d]) (.agg #[.int .i64 a', .int .i64 b', .int .i64 c', .int .i64 d'])).run Tryz.prog w = .ok (.bool (!eqS4 a b c d a' b' c' d')) w := by
  rw [run_neq_struct, eql_stat]; rfl
theorem eq_stat (a b c d a' b' c' d' : Int) (w : World) : (binOp .eql 119 (.agg #[.int .i64 a, .int .i64 b, .int .i64 c, .int .i64 d]) (.agg #[.int .i64 a', .int .i64 b', .int .i64 c', .int .i64 d'])).run Tryz.prog w = .ok (.bool (eqS4 a b c d a' b' c' d')) w := by
  rw [run_eql_struct, eql_stat]; rfl
theorem guard_stat : Tryz.prog.eqGuardType Tryz.prog.depth 119 = false := by kernel_rfl
end Go.Proofs.YtlojmmcagglpoaaGreat
namespace Go.Proofs.YtlojmmcagglpoaaGreat
open Go.RowKit Go.Maps
/-- a disk and the document's -/
structure DE where
  p : Nat
  n : Nat
  q : Nat
  d : Dk
  r : Rd
/-- the play's words -/
structure Hd where
  d : Value
  r : Value
  b : Value
  s : Value
  n : Value
  e : Value
  g : Bool
def hdC (h : Hd) : Array Value := #[h.d, h.r, h.b, h.s, h.n, h.e, .bool h.g]
def ptV (b : Nat) : Value := .pointer (some ⟨b, 0, none⟩)
/-- the play's block and the two rows of pointers -/
def Pp (w0 : World) (P : Nat) (h : Hd) (ps qs : List Nat) : PartT := fun W C =>
  (Blk W P 37 (hdC h) ∧ C P = 1) ∧ (W.ownsRow w0.heap.size 25 1 h.d ps.length (ps.map ptV) ∧ ∀ k, h.d.ownBlock = some k → C k = 1) ∧ (W.ownsRow w0.heap.size 28 1 h.r qs.length (qs.map ptV) ∧ ∀ k, h.r.ownBlock = some k → C k = 1)
theorem Stb.pp (w0 : World) (P : Nat) (h : Hd) (ps qs : List Nat) : Stb 1 (Pp w0 P h ps qs) := Stb.and (Stb.blk 1 P _ _) (Stb.and (Stb.own 1 _ _ _ _ _ _) (Stb.own 1 _ _ _ _ _ _))
def Bp (w0 : World) (v : Value) (bs : List (List UInt8)) : PartT := fun W C => ∃ us, LL w0.heap.size 61 5 byteV W C 2 v us bs
theorem Stb.bp (w0 : World) (v : Value) (bs : List (List UInt8)) : Stb 2 (Bp w0 v bs) := fun _ _ _ _ _ ⟨us, h⟩ hc hs hS => ⟨us, h.step hc hs hS⟩
def Sp (w0 : World) (v : Value) (bs : List (List UInt8)) : PartT := fun W C => W.ownsRow w0.heap.size 9 1 v bs.length (bs.map sV) ∧ ∀ k, v.ownBlock = some k → C k = 3
theorem Stb.sp (w0 : World) (v : Value) (bs : List (List UInt8)) : Stb 3 (Sp w0 v bs) := Stb.own 3 _ _ _ _ _ _
def Np (w0 : World) (v : Value) (ns : List (List (List UInt8))) : PartT := fun W C => ∃ us, LL w0.heap.size 32 9 sV W C 4 v us ns
theorem Stb.np (w0 : World) (v : Value) (ns : List (List (List UInt8))) : Stb 4 (Np w0 v ns) := fun _ _ _ _ _ ⟨us, h⟩ hc hs hS => ⟨us, h.step hc hs hS⟩
/-- a row of texts of the call's own, in a colour -/
def TE (N : Nat) (W : World) (C : Nat → Nat) (c : Nat) (e : Value) (l : List (List UInt8)) : Prop := W.ownsRow N 9 1 e l.length (l.map sV) ∧ ∀ k, e.ownBlock = some k → C k = c
theorem TX.chg {W W' : World} {A : Option Addr} {n : Nat} {l : List (List UInt8)} (h : TX W A n l) {S : Nat → Prop} (hc : Chg S W W') (hS : 0 < n → ∀ ad, A = some ad → ¬ S ad.block) : TX W' A n l :=
  ⟨h.1, fun hp => by
    obtain ⟨b, off, e, hlt, hl⟩ := h.2 hp
    exact ⟨b, off, e, Nat.lt_of_lt_of_le hlt hc.size, fun j k hj => (hc.cell (p := ⟨b, off + j, none⟩) hlt (hS hp ⟨b, off, none⟩ e)).trans (hl j k hj)⟩⟩
theorem TX.keep {W W' : World} {A : Option Addr} {n : Nat} {l : List (List UInt8)} (h : TX W A n l) (hb : Below W.heap.size W W') : TX W' A n l := h.chg (Chg.of_below hb (fun _ => False)) (fun _ _ _ h => h)
theorem TE.step {N : Nat} {W W' : World} {C C' : Nat → Nat} {c : Nat} {e : Value} {l : List (List UInt8)} (h : TE N W C c e l) {S : Nat → Prop} (hc : Chg S W W') (hs : Sam W.heap.size C C') (hS : ∀ b, S b → C b ≠ c) : TE N W' C' c e l := Stb.own c N 1 _ _ _ _ _ _ _ _ _ h hc hs hS
/-- where the row of such rows grows -/
theorem TE.grown {N : Nat} {W W' : World} {C : Nat → Nat} {e v : Value} {l : List (List UInt8)} {n : Nat} {xs : List Value} (h : TE N W C 5 e l) (hv : W.ownsRow N 32 1 v n xs) (hc : Chg (fun b => v.ownBlock = some b) W W') : TE N W' (paint C W.heap.size 5) 5 e l :=
  ⟨hc.own h.1 (fun k hk e2 => by
    rcases own_apart h.1 hv (by decide) with h1 | h1
    · rw [h1] at hk; cases hk
    · exact h1 (hk.trans e2.symm)), fun k hk => by rw [paint_old _ _ (h.1.lt k hk).2]; exact h.2 k hk⟩
def Ep (w0 : World) (v : Value) (ns : List (List (List UInt8))) : PartT := fun W C => ∃ es : List Value, (W.ownsRow w0.heap.size 32 1 v es.length es ∧ ∀ k, v.ownBlock = some k → C k = 5) ∧ es.length = ns.length ∧ ∀ (j : Nat) (e : Value) (l : List (List UInt8)), es[j]? = some e → ns[j]? = some l → TE w0.heap.size W C 5 e l
theorem Stb.ep (w0 : World) (v : Value) (ns : List (List (List UInt8))) : Stb 5 (Ep w0 v ns) := fun _ _ _ _ _ ⟨es, h1, h2, h3⟩ hc hs hS => ⟨es, Stb.own 5 _ _ _ _ _ _ _ _ _ _ _ h1 hc hs hS, h2, fun j e l he hl => (h3 j e l he hl).step hc hs hS⟩
/-- the disks, pair by pair -/
def DLp (w0 : World) : Nat → List DE → List PartT
  | _, [] => []
  | k, x :: l => DCp w0 (6 + 2 * k) x.p x.n x.d :: RCp w0 (7 + 2 * k) x.q x.r :: DLp w0 (k + 1) l
theorem DLp.len (w0 : World) : ∀ (l : List DE) (k : Nat), (DLp w0 k l).length = 2 * l.length
  | [], _ => rfl
  | _ :: l, k => by simp only [DLp, List.length_cons, DLp.len w0 l]; omega
theorem DLp.atD (w0 : World) : ∀ (l : List DE) (k j : Nat) (x : DE), l[j]? = some x → (DLp w0 k l)[2 * j]? = some (DCp w0 (6 + 2 * (k + j)) x.p x.n x.d)
  | [], _, _, _, h => by simp at h
  | y :: l, k, 0, x, h => by
    obtain rfl := Option.some.inj h; rfl
  | y :: l, k, j + 1, x, h => by
    rw [show 2 * (j + 1) = 2 * j + 1 + 1 from by omega]
    have := DLp.atD w0 l (k + 1) j x (by simpa using h)
    rw [show k + 1 + j = k + (j + 1) from by omega] at this
    exact this
theorem DLp.atR (w0 : World) : ∀ (l : List DE) (k j : Nat) (x : DE), l[j]? = some x → (DLp w0 k l)[2 * j + 1]? = some (RCp w0 (7 + 2 * (k + j)) x.q x.r)
  | [], _, _, _, h => by simp at h
  | y :: l, k, 0, x, h => by
    obtain rfl := Option.some.inj h; rfl
  | y :: l, k, j + 1, x, h => by
    rw [show 2 * (j + 1) + 1 = 2 * j + 1 + 1 + 1 from by omega]
    have := DLp.atR w0 l (k + 1) j x (by simpa using h)
    rw [show k + 1 + j = k + (j + 1) from by omega] at this
    exact this
theorem DLp.setD (w0 : World) : ∀ (l : List DE) (k j : Nat) (x : DE) (n' : Nat) (d' : Dk), l[j]? = some x → (DLp w0 k l).set (2 * j) (DCp w0 (6 + 2 * (k + j)) x.p n' d') = DLp w0 k (l.set j { x with n := n', d := d' })
  | [], _, _, _, _, _, h => by simp at h
  | y :: l, k, 0, x, n', d', h => by
    obtain rfl := Option.some.inj h; rfl
  | y :: l, k, j + 1, x, n', d', h => by
    rw [show 2 * (j + 1) = 2 * j + 1 + 1 from by omega]
    have := DLp.setD w0 l (k + 1) j x n' d' (by simpa using h)
    rw [show k + 1 + j = k + (j + 1) from by omega] at this
    simp only [DLp, List.set_cons_succ, this]
theorem DLp.setR (w0 : World) : ∀ (l : List DE) (k j : Nat) (x : DE) (r' : Rd), l[j]? = some x → (DLp w0 k l).set (2 * j + 1) (RCp w0 (7 + 2 * (k + j)) x.q r') = DLp w0 k (l.set j { x with r := r' })
  | [], _, _, _, _, h => by simp at h
  | y :: l, k, 0, x, r', h => by
    obtain rfl := Option.some.inj h; rfl
  | y :: l, k, j + 1, x, r', h => by
    rw [show 2 * (j + 1) + 1 = 2 * j + 1 + 1 + 1 from by omega]
    have := DLp.setR w0 l (k + 1) j x r' (by simpa using h)
    rw [show k + 1 + j = k + (j + 1) from by omega] at this
    simp only [DLp, List.set_cons_succ, this]
theorem DLp.snoc (w0 : World) : ∀ (l : List DE) (k : Nat) (x : DE), DLp w0 k (l ++ [x]) = DLp w0 k l ++ [DCp w0 (6 + 2 * (k + l.length)) x.p x.n x.d, RCp w0 (7 + 2 * (k + l.length)) x.q x.r]
  | [], k, x => rfl
  | y :: l, k, x => by
    have := DLp.snoc w0 l (k + 1) x
    rw [show k + 1 + l.length = k + (y :: l).length from by simp; omega] at this
    simp only [List.cons_append, DLp, this]
def LP (w0 : World) (P : Nat) (h : Hd) (bs : List (List UInt8)) (ns : List (List (List UInt8))) (ds : List DE) : List PartT :=
  Pp w0 P h (ds.map DE.p) (ds.map DE.q) :: Bp w0 h.b bs :: Sp w0 h.s bs :: Np w0 h.n ns :: Ep w0 h.e ns :: DLp w0 0 ds
section
variable {w0 W W' : World} {C : Nat → Nat} {P : Nat} {h : Hd} {bs : List (List UInt8)} {ns : List (List (List UInt8))} {ds : List DE}
theorem LP.atD {j : Nat} {x : DE} (hx : ds[j]? = some x) : (LP w0 P h bs ns ds)[5 + 2 * j]? = some (DCp w0 (5 + 2 * j + 1) x.p x.n x.d) := by
  have := DLp.atD w0 ds 0 j x hx
  rw [show 6 + 2 * (0 + j) = 5 + 2 * j + 1 from by omega] at this
  unfold LP
  rw [show 5 + 2 * j = 2 * j + 1 + 1 + 1 + 1 + 1 from by omega] at this ⊢
  exact this
theorem LP.atR {j : Nat} {x : DE} (hx : ds[j]? = some x) : (LP w0 P h bs ns ds)[6 + 2 * j]? = some (RCp w0 (6 + 2 * j + 1) x.q x.r) := by
  have := DLp.atR w0 ds 0 j x hx
  rw [show 7 + 2 * (0 + j) = 6 + 2 * j + 1 from by omega] at this
  unfold LP
  rw [show 6 + 2 * j = 2 * j + 1 + 1 + 1 + 1 + 1 + 1 from by omega] at this ⊢
  exact this
theorem set_same {α : Type} {l : List α} {j : Nat} {f : DE → α} {ds : List DE} {x y : DE} (hl : l = ds.map f) (hx : ds[j]? = some x) (hf : f y = f x) : (ds.set j y).map f = l := by
  rw [List.map_set, hf, hl]
  obtain ⟨h1, h2⟩ := List.getElem?_eq_some_iff.1 hx
  have h3 : (ds.map f)[j]'(by rw [List.length_map]; exact h1) = f x := by rw [List.getElem_map, h2]
  rw [← h3, List.set_getElem_self]
theorem LP.setD {j : Nat} {x : DE} (hx : ds[j]? = some x) (n' : Nat) (d' : Dk) : (LP w0 P h bs ns ds).set (5 + 2 * j) (DCp w0 (5 + 2 * j + 1) x.p n' d') = LP w0 P h bs ns (ds.set j { x with n := n', d := d' }) := by
  have := DLp.setD w0 ds 0 j x n' d' hx
  rw [show 6 + 2 * (0 + j) = 5 + 2 * j + 1 from by omega] at this
  have e1 : (ds.set j { x with n := n', d := d' }).map DE.p = ds.map DE.p := set_same rfl hx rfl
  have e2 : (ds.set j { x with n := n', d := d' }).map DE.q = ds.map DE.q := set_same rfl hx rfl
  unfold LP
  rw [e1, e2, ← this, show 5 + 2 * j = 2 * j + 1 + 1 + 1 + 1 + 1 from by omega]
  simp only [List.set_cons_succ]
theorem LP.setR {j : Nat} {x : DE} (hx : ds[j]? = some x) (r' : Rd) : (LP w0 P h bs ns ds).set (6 + 2 * j) (RCp w0 (6 + 2 * j + 1) x.q r') = LP w0 P h bs ns (ds.set j { x with r := r' }) := by
  have := DLp.setR w0 ds 0 j x r' hx
  rw [show 7 + 2 * (0 + j) = 6 + 2 * j + 1 from by omega] at this
  have e1 : (ds.set j { x with r := r' }).map DE.p = ds.map DE.p := set_same rfl hx rfl
  have e2 : (ds.set j { x with r := r' }).map DE.q = ds.map DE.q := set_same rfl hx rfl
  unfold LP
  rw [e1, e2, ← this, show 6 + 2 * j = 2 * j + 1 + 1 + 1 + 1 + 1 + 1 from by omega]
  simp only [List.set_cons_succ]
theorem LP.dk {M : List PartT} (g : GS w0 W C (LP w0 P h bs ns ds ++ M)) {j : Nat} {x : DE} (hx : ds[j]? = some x) : DC W w0.heap.size C (5 + 2 * j + 1) x.p x.n x.d :=
  g.at_ (k := 5 + 2 * j) (by
    have h1 := LP.atD (w0 := w0) (P := P) (h := h) (bs := bs) (ns := ns) hx
    rw [List.getElem?_append_left (List.getElem?_eq_some_iff.1 h1).1]; exact h1)
theorem LP.rd {M : List PartT} (g : GS w0 W C (LP w0 P h bs ns ds ++ M)) {j : Nat} {x : DE} (hx : ds[j]? = some x) : RC W w0.heap.size C (6 + 2 * j + 1) x.q x.r :=
  g.at_ (k := 6 + 2 * j) (by
    have h1 := LP.atR (w0 := w0) (P := P) (h := h) (bs := bs) (ns := ns) hx
    rw [List.getElem?_append_left (List.getElem?_eq_some_iff.1 h1).1]; exact h1)
theorem LP.pp {M : List PartT} (g : GS w0 W C (LP w0 P h bs ns ds ++ M)) : Pp w0 P h (ds.map DE.p) (ds.map DE.q) W C := g.at_ (k := 0) rfl
/-- a change of the j-th pair of disks -/
def PairJ (w0 : World) (P : Nat) (h : Hd) (bs : List (List UInt8)) (ns : List (List (List UInt8))) (ds : List DE) (j : Nat) (x : DE) (n' : Nat) (fd fr : FuncId) (A : World → List Value → Prop) : Prop :=
  ∃ (v : Int) (d' : Dk) (r' : Rd), Alike d' r' n' ∧
    (∀ W C M a, GS w0 W C (LP w0 P h bs ns ds ++ M) → A W a → Calls Tryz.prog fd (.pointer (some ⟨x.p, 0, none⟩) :: a).toArray W fun e w' => ∃ C', GsQ w0 (.int .i64 v) C' (LP w0 P h bs ns (ds.set j { x with n := n', d := d' }) ++ M) e w') ∧
    (∀ W C M a, GS w0 W C (LP w0 P h bs ns (ds.set j { x with n := n', d := d' }) ++ M) → A W a → Calls Tryz.prog fr (.pointer (some ⟨x.q, 0, none⟩) :: a).toArray W fun e w' => ∃ C', GsQ w0 (.int .i64 v) C' (LP w0 P h bs ns (ds.set j { x with n := n', d := d', r := r' }) ++ M) e w')
theorem set_append {α : Type} (l m : List α) (k : Nat) (a : α) (h : k < l.length) : (l ++ m).set k a = l.set k a ++ m := List.set_append_left k a h
theorem PairC.at_ {n' : Nat} {fd fr : FuncId} {A : World → List Value → Prop} {j : Nat} {x : DE} (hx : ds[j]? = some x) (hp : PairC w0 x.p x.q x.n x.d x.r n' fd fr A) : PairJ w0 P h bs ns ds j x n' fd fr A := by
  obtain ⟨v, d', r', h1, h2, h3⟩ := hp
  have hj := (List.getElem?_eq_some_iff.1 hx).1
  refine ⟨v, d', r', h1, fun W C M a hg ha => ?_, fun W C M a hg ha => ?_⟩
  · have hk := LP.atD (w0 := w0) (P := P) (h := h) (bs := bs) (ns := ns) hx
    have hlt := (List.getElem?_eq_some_iff.1 hk).1
    refine (h2 W C _ (5 + 2 * j) a hg (by rw [List.getElem?_append_left hlt]; exact hk) ha).mono ?_
    intro e w' hq
    have := hq.2
    rw [set_append _ _ _ _ hlt, LP.setD hx] at this
    exact ⟨_, hq.1, this⟩
  · have hx2 : (ds.set j { x with n := n', d := d' })[j]? = some { x with n := n', d := d' } := List.getElem?_set_self hj
    have hk := LP.atR (w0 := w0) (P := P) (h := h) (bs := bs) (ns := ns) hx2
    have hlt := (List.getElem?_eq_some_iff.1 hk).1
    refine (h3 W C _ (6 + 2 * j) a hg (by rw [List.getElem?_append_left hlt]; exact hk) ha).mono ?_
    intro e w' hq
    have := hq.2
    rw [set_append _ _ _ _ hlt, LP.setR hx2, List.set_set] at this
    exact ⟨_, hq.1, this⟩
/-- the same, the document's call first -/
def PairJR (w0 : World) (P : Nat) (h : Hd) (bs : List (List UInt8)) (ns : List (List (List UInt8))) (ds : List DE) (j : Nat) (x : DE) (n' : Nat) (fd fr : FuncId) (A : World → List Value → Prop) : Prop :=
  ∃ (v : Int) (d' : Dk) (r' : Rd), Alike d' r' n' ∧
    (∀ W C M a, GS w0 W C (LP w0 P h bs ns ds ++ M) → A W a → Calls Tryz.prog fr (.pointer (some ⟨x.q, 0, none⟩) :: a).toArray W fun e w' => ∃ C', GsQ w0 (.int .i64 v) C' (LP w0 P h bs ns (ds.set j { x with r := r' }) ++ M) e w') ∧
    (∀ W C M a, GS w0 W C (LP w0 P h bs ns (ds.set j { x with r := r' }) ++ M) → A W a → Calls Tryz.prog fd (.pointer (some ⟨x.p, 0, none⟩) :: a).toArray W fun e w' => ∃ C', GsQ w0 (.int .i64 v) C' (LP w0 P h bs ns (ds.set j { x with n := n', d := d', r := r' }) ++ M) e w')
theorem PairC.atR {n' : Nat} {fd fr : FuncId} {A : World → List Value → Prop} {j : Nat} {x : DE} (hx : ds[j]? = some x) (hp : PairC w0 x.p x.q x.n x.d x.r n' fd fr A) : PairJR w0 P h bs ns ds j x n' fd fr A := by
  obtain ⟨v, d', r', h1, h2, h3⟩ := hp
  have hj := (List.getElem?_eq_some_iff.1 hx).1
  refine ⟨v, d', r', h1, fun W C M a hg ha => ?_, fun W C M a hg ha => ?_⟩
  · have hk := LP.atR (w0 := w0) (P := P) (h := h) (bs := bs) (ns := ns) hx
    have hlt := (List.getElem?_eq_some_iff.1 hk).1
    refine (h3 W C _ (6 + 2 * j) a hg (by rw [List.getElem?_append_left hlt]; exact hk) ha).mono ?_
    intro e w' hq
    have := hq.2
    rw [set_append _ _ _ _ hlt, LP.setR hx] at this
    exact ⟨_, hq.1, this⟩
  · have hx2 : (ds.set j { x with r := r' })[j]? = some { x with r := r' } := List.getElem?_set_self hj
    have hk := LP.atD (w0 := w0) (P := P) (h := h) (bs := bs) (ns := ns) hx2
    have hlt := (List.getElem?_eq_some_iff.1 hk).1
    refine (h2 W C _ (5 + 2 * j) a hg (by rw [List.getElem?_append_left hlt]; exact hk) ha).mono ?_
    intro e w' hq
    have := hq.2
    rw [set_append _ _ _ _ hlt, LP.setD hx2, List.set_set] at this
    exact ⟨_, hq.1, this⟩
/-! ### a list of parts in two lists -/
theorem GS.lastA {L M : List PartT} {B : PartT} (h : GS w0 W C (L ++ (M ++ [B]))) : B W C := by
  rw [← List.append_assoc] at h; exact h.last
theorem GS.frontA {L M : List PartT} {B : PartT} (h : GS w0 W C (L ++ (M ++ [B]))) : GS w0 W C (L ++ M) := by
  rw [← List.append_assoc] at h; exact h.front
theorem GS.holdBlkA {L M : List PartT} (h : GS w0 W C (L ++ M)) (hb : Below W.heap.size W W') {b : Nat} {t : TypeId} {cs : Array Value} (hK : Blk W' b t cs) (hlt : W.heap.size ≤ b) : GS w0 W' (paint C W.heap.size ((L ++ M).length + 1)) (L ++ (M ++ [fun W C => FrC W C ((L ++ M).length + 1) (fun w => Blk w b t cs)])) := by
  rw [← List.append_assoc]; exact h.holdBlk hb hK hlt
end
/-! ### an op of the script -/
structure OpP where
  k : Int
  dd : Int
  a : List UInt8
  b : List UInt8
  s : ByteArray
  times : Int
  nn : Int
  mm : Int
  off : Int
  size : Int
  A : Option Addr
  m : Nat
  cp : Nat
  ks : List Int
def opC (o : OpP) : Array Value := #[.int .i64 o.k, .int .i64 o.dd, .string (strB o.a), .string (strB o.b), .string o.s, .int .i64 o.times, .int .i64 o.nn, .int .i64 o.mm, .int .i64 o.off, .int .i64 o.size, .slice o.A o.m o.cp]
def OpP.In (W : World) (o : OpP) : Prop := o.s.size ≤ 140737488355328 ∧ (RI W o.A o.m o.ks ∧ o.m * 8 ≤ 140737488351232) ∧ okInt o.dd ∧ okInt o.nn ∧ okInt o.mm ∧ okInt o.off ∧ okInt o.size
theorem OpP.In.keep {W W' : World} {o : OpP} (h : o.In W) (hb : Below W.heap.size W W') : o.In W' := ⟨h.1, ⟨h.2.1.1.keep hb, h.2.1.2⟩, h.2.2⟩
/-- what a change of the j-th pair leaves -/
def ChgQ (w0 : World) (P : Nat) (h : Hd) (bs : List (List UInt8)) (ns : List (List (List UInt8))) (ds : List DE) (j : Nat) (x : DE) (M : List PartT) (e : Ending) (w' : World) : Prop :=
  e = .returned (.bool true) ∧ ∃ C' d' r' g, Alike d' r' (x.n + 2) ∧ GS w0 w' C' (LP w0 P { h with g := g } bs ns (ds.set j { x with n := x.n + 2, d := d', r := r' }) ++ M)
end Go.Proofs.YtlojmmcagglpoaaGreat
