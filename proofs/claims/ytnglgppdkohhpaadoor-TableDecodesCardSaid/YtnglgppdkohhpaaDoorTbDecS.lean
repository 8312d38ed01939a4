/- TableDecodes, its second half: the three lists of lists and their colours. -/
import Derived.Test.YtnglgppdkohhpaaDoorTbOwnL
import Derived.Test.YtnglgppdkohhpaaDoorTbReg
namespace Go.Proofs.YtnglgppdkohhpaaDoor
open Go.RowKit
section
variable {α : Type} {te ti : TypeId} {f : α → Value} {w w' : World} {C C' : Nat → Nat} {c : Nat} {v : Value} {vs : List Value} {ls : List (List α)}
/-- behind an append to an inner row the outer row is as it was -/
theorem LL.after {w2 : World} {g n cap i : Nat} {u : Value} (h : LL te ti f w C c (.slice (some ⟨g, 0, none⟩) n cap) vs ls) (hne : ti ≠ te) (hu : vs[i]? = some u) (hg : w.grownBy w2 u.ownBlock) : w2.cell? ⟨g, i, none⟩ = some u ∧ w2.frozen? ⟨g, i, none⟩ = false := by
  have hch : Chg (fun k => u.ownBlock = some k) w w2 := (Chg.refl _ w).grown hg (fun k e _ => e)
  have ho : w2.ownsRow 0 te 1 (.slice (some ⟨g, 0, none⟩) n cap) vs.length vs := hch.own h.own (fun b hb e => h.out hne hu hb e)
  obtain ⟨A', cap', e, _⟩ := own_form ho
  injection e with _ e2 _
  subst e2
  have hi := (List.getElem?_eq_some_iff.1 hu).1
  exact ⟨by rw [World.ownsRow.cellAt ho i (by omega)]; exact hu, World.ownsRow.frozenAt ho i⟩
/-- the rows' lengths while an element is appended thrice to each: below s done, at s j times -/
def BdF (B s j : Nat) (ls : List (List α)) : Prop := ∀ (i : Nat) (row : List α), ls[i]? = some row → (i < s → row.length ≤ B + 3) ∧ (i = s → row.length ≤ B + j) ∧ (s < i → row.length ≤ B)
theorem BdF.start {B : Nat} (h : ∀ row ∈ ls, row.length ≤ B) : BdF B 0 0 ls := fun i row hi => by
  have := h row (List.mem_of_getElem? hi)
  exact ⟨fun _ => by omega, fun _ => by omega, fun _ => by omega⟩
theorem BdF.one {B s j : Nat} {row : List α} {x : α} (h : BdF B s j ls) (hr : ls[s]? = some row) : BdF B s (j + 1) (ls.set s (row ++ [x])) := fun i row' hi => by
  rcases get_set hi with ⟨rfl, rfl⟩ | ⟨hne, hi⟩
  · have := (h i row hr).2.1 rfl
    refine ⟨fun h2 => absurd h2 (by omega), fun _ => ?_, fun h2 => absurd h2 (by omega)⟩
    rw [List.length_append, List.length_singleton]; omega
  · have := h i row' hi
    exact ⟨this.1, fun e => absurd e hne, this.2.2⟩
theorem BdF.next {B s : Nat} (h : BdF B s 3 ls) : BdF B (s + 1) 0 ls := fun i row hi => by
  have := h i row hi
  refine ⟨fun h2 => ?_, fun h2 => ?_, fun h2 => this.2.2 (by omega)⟩
  · by_cases e : i = s
    · exact this.2.1 e
    · exact this.1 (by omega)
  · have := this.2.2 (by omega); omega
theorem BdF.all {B s : Nat} (h : BdF B s 0 ls) : ∀ row ∈ ls, row.length ≤ B + 3 := fun row hm => by
  obtain ⟨i, hi⟩ := List.getElem?_of_mem hm
  have := h i row hi
  by_cases e1 : i < s
  · exact this.1 e1
  · by_cases e2 : i = s
    · have := this.2.1 e2; omega
    · have := this.2.2 (by omega); omega
theorem BdF.le {B s j : Nat} {row : List α} (h : BdF B s j ls) (hr : ls[s]? = some row) : row.length ≤ B + j := (h s row hr).2.1 rfl
/-- the rows below s hold what P asks -/
def MkP (P : Nat → α → Prop) (s : Nat) (ls : List (List α)) : Prop := ∀ (i : Nat) (row : List α), i < s → ls[i]? = some row → ∀ x ∈ row, P i x
theorem MkP.zero {P : Nat → α → Prop} : MkP P 0 ls := fun i row hi => absurd hi (by omega)
theorem MkP.set {P : Nat → α → Prop} {s : Nat} {row : List α} (h : MkP P s ls) : MkP P s (ls.set s row) := fun i row' hi hr => by
  rcases get_set hr with ⟨e, _⟩ | ⟨_, hr⟩
  · omega
  · exact h i row' hi hr
theorem MkP.next {P : Nat → α → Prop} {s : Nat} {row : List α} (h : MkP P s ls) (hr : ls[s]? = some row) (hp : ∀ (q : Nat) (x : α), row[q]? = some x → P s x) : MkP P (s + 1) ls := fun i row' hi hr' x hx => by
  by_cases e : i = s
  · subst e
    rw [hr] at hr'
    obtain rfl := Option.some.inj hr'
    obtain ⟨q, hq⟩ := List.getElem?_of_mem hx
    exact hp q x hq
  · exact h i row' (by omega) hr' x hx
theorem MkP.app {P : Nat → α → Prop} {n s : Nat} {row : List α} {x : α} (h : MkP P n ls) (hr : ls[s]? = some row) (hs : s < n) (hx : P s x) : MkP P n (ls.set s (row ++ [x])) := fun i row' hi hr' y hy => by
  rcases get_set hr' with ⟨rfl, rfl⟩ | ⟨_, hr'⟩
  · rcases List.mem_append.1 hy with hy | hy
    · exact h i row hi hr y hy
    · obtain rfl := List.mem_singleton.1 hy; exact hx
  · exact h i row' hi hr' y hy
theorem MkP.mono {P P' : Nat → α → Prop} {s : Nat} (h : MkP P s ls) (hp : ∀ i x, P i x → P' i x) : MkP P' s ls := fun i row hi hr x hx => hp i x (h i row hi hr x hx)
/-- while the row at s is filled: k elements done -/
def RowK (P : Nat → α → Prop) (s k r : Nat) (ls : List (List α)) : Prop := ∃ row, ls[s]? = some row ∧ row.length = r ∧ ∀ (q : Nat) (x : α), q < k → row[q]? = some x → P s x
theorem RowK.zero {P : Nat → α → Prop} {s r : Nat} {row : List α} (h : ls[s]? = some row) (hr : row.length = r) : RowK P s 0 r ls := ⟨row, h, hr, fun q x hq => absurd hq (by omega)⟩
theorem RowK.set {P : Nat → α → Prop} {s k r : Nat} {row : List α} {x : α} (h : RowK P s k r ls) (hr : ls[s]? = some row) (_hk : k < r) (hx : P s x) : RowK P s (k + 1) r (ls.set s (row.set k x)) := by
  obtain ⟨row', h1, h2, h3⟩ := h
  rw [hr] at h1
  obtain rfl := Option.some.inj h1
  have hs := (List.getElem?_eq_some_iff.1 hr).1
  refine ⟨_, List.getElem?_set_self hs, by rw [List.length_set]; exact h2, fun q y hq hy => ?_⟩
  rcases get_set hy with ⟨_, rfl⟩ | ⟨hne, hy⟩
  · exact hx
  · exact h3 q y (by omega) hy
theorem RowK.mono {P P' : Nat → α → Prop} {s k r : Nat} (h : RowK P s k r ls) (hp : ∀ i x, P i x → P' i x) : RowK P' s k r ls := by
  obtain ⟨row, h1, h2, h3⟩ := h
  exact ⟨row, h1, h2, fun q x hq hx => hp s x (h3 q x hq hx)⟩
theorem len_set {B s k : Nat} {row : List α} {x : α} (h : ∀ r ∈ ls, r.length ≤ B) (hr : ls[s]? = some row) : ∀ r ∈ ls.set s (row.set k x), r.length ≤ B := fun r hm => by
  obtain ⟨i, hi⟩ := List.getElem?_of_mem hm
  rcases get_set hi with ⟨_, rfl⟩ | ⟨_, hi⟩
  · rw [List.length_set]; exact h row (List.mem_of_getElem? hr)
  · exact h r (List.mem_of_getElem? hi)
end
/-- a slice of one number, in a block of colour 4 -/
def oneI (W : World) (C : Nat → Nat) (i : Nat) (u : Value) : Prop := ∃ g, u = .slice (some ⟨g, 0, none⟩) 1 1 ∧ C g = 4 ∧ g < W.heap.size ∧ W.cell? ⟨g, 0, none⟩ = some (.int .i64 (i : Int))
theorem oneI.step {W W' : World} {C C' : Nat → Nat} {i : Nat} {u : Value} {S : Nat → Prop} (h : oneI W C i u) (hc : Chg S W W') (hs : Sam W.heap.size C C') (hS : ∀ b, S b → C b ≠ 4) : oneI W' C' i u := by
  obtain ⟨g, rfl, h1, h2, h3⟩ := h
  exact ⟨g, rfl, (hs g h2).trans h1, Nat.lt_of_lt_of_le h2 hc.size, (hc.cell (p := ⟨g, 0, none⟩) h2 (fun e => hS g e h1)).trans h3⟩
/-- the element type of a block -/
def typ (W : World) (b : Nat) (e : TypeId) : Prop := ∃ cur, W.heap[b]? = some (.cells cur e (0, 0))
theorem typ.inj {W : World} {b : Nat} {e e' : TypeId} (h : typ W b e) (h' : typ W b e') : e = e' := by
  obtain ⟨c, h⟩ := h
  obtain ⟨c', h'⟩ := h'
  rw [h] at h'
  have := Option.some.inj h'
  injection this
theorem typ.own {W : World} {base size n : Nat} {e : TypeId} {v : Value} {xs : List Value} (h : W.ownsRow base e size v n xs) {b : Nat} (hb : v.ownBlock = some b) : typ W b e := by
  rcases h.2 with ⟨rfl, _⟩ | ⟨g, cap, cur, rfl, _, hh, _⟩
  · cases hb
  · obtain rfl := Option.some.inj hb
    exact ⟨cur, hh⟩
theorem typ.blk {W : World} {b : Nat} {e : TypeId} {cs : Array Value} (h : Blk W b e cs) : typ W b e := ⟨cs, h⟩
open Classical in
/-- the colours at the start: by what a block holds, and where it lies -/
noncomputable def col0 (W : World) (N h : Nat) (b : Nat) : Nat :=
  if N ≤ b then (if typ W b 3 ∨ (typ W b 35 ∧ h ≤ b) then 1 else if typ W b 34 ∨ typ W b 24 then 2 else if typ W b 35 ∨ typ W b 23 then 3 else 0) else 0
section
variable {W : World} {N h b : Nat}
theorem col0_int (hN : N ≤ b) (ht : typ W b 3) : col0 W N h b = 1 := by unfold col0; rw [if_pos hN, if_pos (.inl ht)]
theorem col0_list (hN : N ≤ b) (hh : h ≤ b) (ht : typ W b 35) : col0 W N h b = 1 := by unfold col0; rw [if_pos hN, if_pos (.inr ⟨ht, hh⟩)]
theorem col0_word (hN : N ≤ b) (ht : typ W b 34) : col0 W N h b = 2 := by
  unfold col0
  rw [if_pos hN, if_neg (fun e => by rcases e with e | ⟨e, _⟩ <;> exact absurd (ht.inj e) (by decide)), if_pos (.inl ht)]
theorem col0_words (hN : N ≤ b) (ht : typ W b 24) : col0 W N h b = 2 := by
  unfold col0
  rw [if_pos hN, if_neg (fun e => by rcases e with e | ⟨e, _⟩ <;> exact absurd (ht.inj e) (by decide)), if_pos (.inr ht)]
theorem col0_next (hN : N ≤ b) (hh : b < h) (ht : typ W b 35) : col0 W N h b = 3 := by
  unfold col0
  rw [if_pos hN, if_neg (fun e => by
    rcases e with e | ⟨_, e⟩
    · exact absurd (ht.inj e) (by decide)
    · omega), if_neg (fun e => by rcases e with e | e <;> exact absurd (ht.inj e) (by decide)), if_pos (.inl ht)]
theorem col0_rows (hN : N ≤ b) (ht : typ W b 23) : col0 W N h b = 3 := by
  unfold col0
  rw [if_pos hN, if_neg (fun e => by rcases e with e | ⟨e, _⟩ <;> exact absurd (ht.inj e) (by decide)), if_neg (fun e => by rcases e with e | e <;> exact absurd (ht.inj e) (by decide)), if_pos (.inr ht)]
theorem col0_low (hb : col0 W N h b ≠ 0) : N ≤ b := by
  unfold col0 at hb
  by_cases e : N ≤ b
  · exact e
  · rw [if_neg e] at hb; exact absurd rfl hb
end
theorem paint_low {C : Nat → Nat} {h c N : Nat} (hC : ∀ b, C b ≠ 0 → N ≤ b) (hN : N ≤ h) : ∀ b, paint C h c b ≠ 0 → N ≤ b := fun b hb => by
  unfold paint at hb
  by_cases e : b < h
  · rw [if_pos e] at hb; exact hC b hb
  · omega
theorem two_get {α : Type} {l r : List α} {i : Nat} {u : α} (h : (l ++ r)[i]? = some u) : (i < l.length ∧ l[i]? = some u) ∨ (l.length ≤ i ∧ r[i - l.length]? = some u) := by
  by_cases e : i < l.length
  · rw [List.getElem?_append_left e] at h; exact .inl ⟨e, h⟩
  · rw [List.getElem?_append_right (by omega)] at h; exact .inr ⟨by omega, h⟩
theorem gs_get {gs : List Nat} {m i : Nat} {u : Value} (h : (gs.map (rowV m))[i]? = some u) : ∃ g, gs[i]? = some g ∧ u = rowV m g := by
  rw [List.getElem?_map] at h
  cases hg : gs[i]? with
  | none => rw [hg] at h; cases h
  | some g => rw [hg] at h; exact ⟨g, rfl, (Option.some.inj h).symm⟩
section
variable {W : World} {N1 N2 h m1 m2 : Nat} {vn1 vf1 ve1 vn2 vf2 ve2 vl : Value} {t : Tb} {gs1 gs2 : List Nat}
theorem OL.less {N N' m : Nat} {vn vf ve : Value} {gs : List Nat} (l1 : OL W N vn vf ve t m gs) (hN : N' ≤ N) : OL W N' vn vf ve t m gs :=
  ⟨own_less l1.on hN, own_less l1.of_ hN, own_less l1.oe hN, l1.len, fun s g row hg hr => by
    obtain ⟨h1, h2, h3⟩ := l1.rows s g row hg hr
    exact ⟨Nat.le_trans hN h1, h2, h3⟩, l1.ap, l1.fe⟩
theorem OL.blks {N m : Nat} {vn vf ve : Value} {gs : List Nat} (l1 : OL W N vn vf ve t m gs) : (∀ k, vn.ownBlock = some k → k < W.heap.size) ∧ (∀ k, vf.ownBlock = some k → k < W.heap.size) ∧ (∀ k, ve.ownBlock = some k → k < W.heap.size) ∧ ∀ (s g : Nat), gs[s]? = some g → g < W.heap.size :=
  ⟨fun k hk => (l1.on.lt k hk).2, fun k hk => (l1.of_.lt k hk).2, fun k hk => (l1.oe.lt k hk).2, fun s g hg => by
    have hi := (List.getElem?_eq_some_iff.1 hg).1
    rw [l1.len] at hi
    exact (l1.rows s g _ hg (List.getElem?_eq_getElem hi)).2.2.lt⟩
theorem OL.row {N m : Nat} {vn vf ve : Value} {gs : List Nat} (l1 : OL W N vn vf ve t m gs) (hm : m ≤ 256) {i g : Nat} {row : List Int} (hg : gs[i]? = some g) (hr : t.nx[i]? = some row) : W.ownsRow 0 3 1 (rowV m g) (row.map iV).length (row.map iV) ∧ N ≤ g ∧ typ W g 3 := by
  obtain ⟨h1, h2, h3⟩ := l1.rows i g row hg hr
  have := own_of_blk h3 (by rw [List.length_map]; unfold maxLen; omega)
  rw [List.length_map, h2] at this
  refine ⟨?_, h1, typ.blk h3⟩
  rw [List.length_map, h2]
  exact this
theorem la_of (l1 : OL W N1 vn1 vf1 ve1 t m1 gs1) (l2 : OL W N2 vn2 vf2 ve2 t m2 gs2) (hm : m1 ≤ 256 ∧ m2 ≤ 256) (hlt : ∀ (s g : Nat), gs1[s]? = some g → g < N2) (hN : N1 ≤ N2) (hh : N1 ≤ h)
    (ho : W.ownsRow h 35 1 vl (gs1.map (rowV m1) ++ gs2.map (rowV m2)).length (gs1.map (rowV m1) ++ gs2.map (rowV m2))) :
    LL 35 3 iV W (col0 W N1 h) 1 vl (gs1.map (rowV m1) ++ gs2.map (rowV m2)) (t.nx ++ t.nx) := by
  have key : ∀ i u, (gs1.map (rowV m1) ++ gs2.map (rowV m2))[i]? = some u → (∃ g, i < gs1.length ∧ gs1[i]? = some g ∧ u = rowV m1 g) ∨ ∃ g, gs1.length ≤ i ∧ gs2[i - gs1.length]? = some g ∧ u = rowV m2 g := fun i u hi => by
    rcases two_get hi with ⟨e, hi⟩ | ⟨e, hi⟩
    · obtain ⟨g, h1, h2⟩ := gs_get hi
      rw [List.length_map] at e
      exact .inl ⟨g, e, h1, h2⟩
    · rw [List.length_map] at e hi
      obtain ⟨g, h1, h2⟩ := gs_get hi
      exact .inr ⟨g, e, h1, h2⟩
  have hrow : ∀ (i : Nat) (g : Nat), gs1[i]? = some g → N1 ≤ g ∧ typ W g 3 := fun i g hg => by
    have hi := (List.getElem?_eq_some_iff.1 hg).1
    rw [l1.len] at hi
    exact (l1.row hm.1 hg (List.getElem?_eq_getElem hi)).2
  have hrow2 : ∀ (i : Nat) (g : Nat), gs2[i]? = some g → N2 ≤ g ∧ typ W g 3 := fun i g hg => by
    have hi := (List.getElem?_eq_some_iff.1 hg).1
    rw [l2.len] at hi
    exact (l2.row hm.2 hg (List.getElem?_eq_getElem hi)).2
  refine ⟨own_less ho (Nat.zero_le _), by simp [l1.len, l2.len], fun j u l hu hl => ?_, fun i j u u' b hi hj hb hb' => ?_, fun b hb => ?_, fun j u b hu hb => ?_⟩
  · rcases key j u hu with ⟨g, e, h1, rfl⟩ | ⟨g, e, h1, rfl⟩
    · rw [List.getElem?_append_left (by rw [← l1.len]; exact e)] at hl
      exact (l1.row hm.1 h1 hl).1
    · rw [List.getElem?_append_right (by rw [← l1.len]; exact e), ← l1.len] at hl
      exact (l2.row hm.2 h1 hl).1
  · rcases key i u hi with ⟨g, e, h1, rfl⟩ | ⟨g, e, h1, rfl⟩ <;> rcases key j u' hj with ⟨g', e', h1', rfl⟩ | ⟨g', e', h1', rfl⟩
    · have e1 : g = b := Option.some.inj hb
      have e2 : g' = b := Option.some.inj hb'
      exact l1.ap i j b (by rw [← e1]; exact h1) (by rw [← e2]; exact h1')
    · obtain rfl := Option.some.inj hb
      have := Option.some.inj hb'
      have := hlt i g h1
      have := (hrow2 _ g' h1').1
      simp only at *
      omega
    · obtain rfl := Option.some.inj hb
      have := Option.some.inj hb'
      have := hlt j g' h1'
      have := (hrow2 _ g h1).1
      simp only at *
      omega
    · have e1 : g = b := Option.some.inj hb
      have e2 : g' = b := Option.some.inj hb'
      have := l2.ap _ _ b (by rw [← e1]; exact h1) (by rw [← e2]; exact h1')
      omega
  · exact col0_list (Nat.le_trans hh (ho.lt b hb).1) (ho.lt b hb).1 (typ.own ho hb)
  · rcases key j u hu with ⟨g, e, h1, rfl⟩ | ⟨g, e, h1, rfl⟩
    · obtain rfl := Option.some.inj hb
      exact col0_int (hrow j g h1).1 (hrow j g h1).2
    · obtain rfl := Option.some.inj hb
      exact col0_int (Nat.le_trans hN (hrow2 _ g h1).1) (hrow2 _ g h1).2
theorem four_get {α : Type} {a b c d u : α} {i : Nat} (h : [a, b, c, d][i]? = some u) : (i = 0 ∧ u = a) ∨ (i = 1 ∧ u = b) ∨ (i = 2 ∧ u = c) ∨ (i = 3 ∧ u = d) := by
  match i, h with
  | 0, h => exact .inl ⟨rfl, (Option.some.inj h).symm⟩
  | 1, h => exact .inr (.inl ⟨rfl, (Option.some.inj h).symm⟩)
  | 2, h => exact .inr (.inr (.inl ⟨rfl, (Option.some.inj h).symm⟩))
  | 3, h => exact .inr (.inr (.inr ⟨rfl, (Option.some.inj h).symm⟩))
  | i + 4, h => simp at h
theorem two_of {α : Type} {a b u : α} {i : Nat} (h : [a, b][i]? = some u) : (i = 0 ∧ u = a) ∨ (i = 1 ∧ u = b) := by
  match i, h with
  | 0, h => exact .inl ⟨rfl, (Option.some.inj h).symm⟩
  | 1, h => exact .inr ⟨rfl, (Option.some.inj h).symm⟩
  | i + 2, h => simp at h
theorem lw_of {gW : Nat} (l1 : OL W N1 vn1 vf1 ve1 t m1 gs1) (l2 : OL W N2 vn2 vf2 ve2 t m2 gs2) (hf : ∀ k, vf1.ownBlock = some k → k < N2) (he : ∀ k, ve1.ownBlock = some k → k < N2) (hN : N1 ≤ N2) (hg : N1 ≤ gW) (hb : Blk W gW 24 #[vf1, ve1, vf2, ve2]) :
    LL 24 34 uV W (col0 W N1 h) 2 (.slice (some ⟨gW, 0, none⟩) 4 4) [vf1, ve1, vf2, ve2] [t.fo, t.en, t.fo, t.en] := by
  have o1 := own_less l1.of_ (Nat.zero_le _); have o2 := own_less l1.oe (Nat.zero_le _); have o3 := own_less l2.of_ (Nat.zero_le _); have o4 := own_less l2.oe (Nat.zero_le _)
  have k3 : ∀ k, vf2.ownBlock = some k → N2 ≤ k := fun k hk => (l2.of_.lt k hk).1
  have k4 : ∀ k, ve2.ownBlock = some k → N2 ≤ k := fun k hk => (l2.oe.lt k hk).1
  have d1 : ∀ k, vf1.ownBlock = some k → ve1.ownBlock ≠ some k := fun k hk e => by
    rcases l1.fe with h0 | h0
    · rw [h0] at hk; cases hk
    · exact h0 (hk.trans e.symm)
  have d2 : ∀ k, vf2.ownBlock = some k → ve2.ownBlock ≠ some k := fun k hk e => by
    rcases l2.fe with h0 | h0
    · rw [h0] at hk; cases hk
    · exact h0 (hk.trans e.symm)
  refine ⟨own_of_blk (xs := [vf1, ve1, vf2, ve2]) hb (by show 4 ≤ maxLen; decide), rfl, fun j u l hu hl => ?_, fun i j u u' b hi hj hb1 hb2 => ?_, fun b hb1 => ?_, fun j u b hu hb1 => ?_⟩
  · rcases four_get hu with ⟨rfl, rfl⟩ | ⟨rfl, rfl⟩ | ⟨rfl, rfl⟩ | ⟨rfl, rfl⟩ <;> obtain rfl := Option.some.inj hl
    · exact o1
    · exact o2
    · exact o3
    · exact o4
  · rcases four_get hi with ⟨rfl, rfl⟩ | ⟨rfl, rfl⟩ | ⟨rfl, rfl⟩ | ⟨rfl, rfl⟩ <;> rcases four_get hj with ⟨rfl, rfl⟩ | ⟨rfl, rfl⟩ | ⟨rfl, rfl⟩ | ⟨rfl, rfl⟩
    · rfl
    · exact absurd hb2 (d1 b hb1)
    · have := hf b hb1; have := k3 b hb2; omega
    · have := hf b hb1; have := k4 b hb2; omega
    · exact absurd hb1 (d1 b hb2)
    · rfl
    · have := he b hb1; have := k3 b hb2; omega
    · have := he b hb1; have := k4 b hb2; omega
    · have := hf b hb2; have := k3 b hb1; omega
    · have := he b hb2; have := k3 b hb1; omega
    · rfl
    · exact absurd hb2 (d2 b hb1)
    · have := hf b hb2; have := k4 b hb1; omega
    · have := he b hb2; have := k4 b hb1; omega
    · exact absurd hb1 (d2 b hb2)
    · rfl
  · obtain rfl := Option.some.inj hb1
    exact col0_words hg (typ.blk hb)
  · rcases four_get hu with ⟨rfl, rfl⟩ | ⟨rfl, rfl⟩ | ⟨rfl, rfl⟩ | ⟨rfl, rfl⟩
    · exact col0_word (l1.of_.lt b hb1).1 (typ.own l1.of_ hb1)
    · exact col0_word (l1.oe.lt b hb1).1 (typ.own l1.oe hb1)
    · exact col0_word (Nat.le_trans hN (l2.of_.lt b hb1).1) (typ.own l2.of_ hb1)
    · exact col0_word (Nat.le_trans hN (l2.oe.lt b hb1).1) (typ.own l2.oe hb1)
theorem lr_of {gR : Nat} (l1 : OL W N1 vn1 vf1 ve1 t m1 gs1) (l2 : OL W N2 vn2 vf2 ve2 t m2 gs2) (hn : ∀ k, vn1.ownBlock = some k → k < N2) (hh : (∀ k, vn1.ownBlock = some k → k < h) ∧ ∀ k, vn2.ownBlock = some k → k < h) (hN : N1 ≤ N2) (hg : N1 ≤ gR) (hb : Blk W gR 23 #[vn1, vn2]) :
    LL 23 35 (id : Value → Value) W (col0 W N1 h) 3 (.slice (some ⟨gR, 0, none⟩) 2 2) [vn1, vn2] [gs1.map (rowV m1), gs2.map (rowV m2)] := by
  have o1 := own_less l1.on (Nat.zero_le _); have o2 := own_less l2.on (Nat.zero_le _)
  have k2 : ∀ k, vn2.ownBlock = some k → N2 ≤ k := fun k hk => (l2.on.lt k hk).1
  refine ⟨own_of_blk (xs := [vn1, vn2]) hb (by show 2 ≤ maxLen; decide), rfl, fun j u l hu hl => ?_, fun i j u u' b hi hj hb1 hb2 => ?_, fun b hb1 => ?_, fun j u b hu hb1 => ?_⟩
  · rcases two_of hu with ⟨rfl, rfl⟩ | ⟨rfl, rfl⟩ <;> obtain rfl := Option.some.inj hl
    · rw [List.map_id]; exact o1
    · rw [List.map_id]; exact o2
  · rcases two_of hi with ⟨rfl, rfl⟩ | ⟨rfl, rfl⟩ <;> rcases two_of hj with ⟨rfl, rfl⟩ | ⟨rfl, rfl⟩
    · rfl
    · have := hn b hb1; have := k2 b hb2; omega
    · have := hn b hb2; have := k2 b hb1; omega
    · rfl
  · obtain rfl := Option.some.inj hb1
    exact col0_rows hg (typ.blk hb)
  · rcases two_of hu with ⟨rfl, rfl⟩ | ⟨rfl, rfl⟩
    · exact col0_next (l1.on.lt b hb1).1 (hh.1 b hb1) (typ.own l1.on hb1)
    · exact col0_next (Nat.le_trans hN (l2.on.lt b hb1).1) (hh.2 b hb1) (typ.own l2.on hb1)
end
def afterOf (n : Nat) : Code → Option Code
  | .seq a b => match regionOf n a with
    | some _ => some b
    | none => afterOf n b
  | .scope c => afterOf n c
  | .block _ c => afterOf n c
  | _ => none
noncomputable def reg20 : Code := ((Tryd.f4.body.bind (regionOf 20)).getD .skip)
noncomputable def rest20 : Code := ((Tryd.f4.body.bind (afterOf 20)).getD .skip)
end Go.Proofs.YtnglgppdkohhpaaDoor
