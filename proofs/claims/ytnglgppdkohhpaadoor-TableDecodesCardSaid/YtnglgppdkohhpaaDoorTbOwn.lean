/- A table that is read: its lists, each in memory of its own; the reader. -/
import Derived.Test.YtnglgppdkohhpaaDoorTbReg
import Derived.Test.YtnglgppdkohhpaaDoorRecRead
namespace Go.Proofs.YtnglgppdkohhpaaDoor
open Go.RowKit
def numAt (l : List UInt8) (o n : Nat) : Nat := leV ((l.drop o).take n)
def rowV (m g : Nat) : Value := .slice (some ⟨g, 0, none⟩) m m
structure OL (W : World) (N0 : Nat) (vn vf ve : Value) (t : Tb) (m : Nat) (gs : List Nat) : Prop where
  on : W.ownsRow N0 35 1 vn (gs.map (rowV m)).length (gs.map (rowV m))
  of_ : W.ownsRow N0 34 1 vf (t.fo.map uV).length (t.fo.map uV)
  oe : W.ownsRow N0 34 1 ve (t.en.map uV).length (t.en.map uV)
  len : gs.length = t.nx.length
  rows : ∀ (s : Nat) (g : Nat) (row : List Int), gs[s]? = some g → t.nx[s]? = some row → N0 ≤ g ∧ row.length = m ∧ Blk W g 3 (row.map iV).toArray
  ap : ∀ (i j g : Nat), gs[i]? = some g → gs[j]? = some g → i = j
  fe : vf.ownBlock = none ∨ vf.ownBlock ≠ ve.ownBlock
section
variable {W W' : World} {N0 : Nat} {vn vf ve : Value} {t : Tb} {m : Nat} {gs : List Nat}
theorem OL.chg {S : Nat → Prop} (h : OL W N0 vn vf ve t m gs) (hc : Chg S W W') (hS : ∀ b, N0 ≤ b → b < W.heap.size → ¬ S b) : OL W' N0 vn vf ve t m gs :=
  ⟨hc.own h.on (fun k hk => hS k (h.on.lt k hk).1 (h.on.lt k hk).2), hc.own h.of_ (fun k hk => hS k (h.of_.lt k hk).1 (h.of_.lt k hk).2), hc.own h.oe (fun k hk => hS k (h.oe.lt k hk).1 (h.oe.lt k hk).2), h.len,
    fun s g row hg hr => by
      obtain ⟨h1, h2, h3⟩ := h.rows s g row hg hr
      exact ⟨h1, h2, h3.chg hc (hS g h1 h3.lt)⟩, h.ap, h.fe⟩
theorem OL.keep (h : OL W N0 vn vf ve t m gs) (hb : Below W.heap.size W W') : OL W' N0 vn vf ve t m gs := h.chg (Chg.of_below hb (fun _ => False)) (fun _ _ _ e => e)
theorem OL.nil (W : World) (N0 : Nat) (cl : List Int) (m : Nat) : OL W N0 (.slice none 0 0) (.slice none 0 0) (.slice none 0 0) ⟨cl, [], [], []⟩ m [] :=
  ⟨World.ownsRow_nil W N0 _ 1, World.ownsRow_nil W N0 _ 1, World.ownsRow_nil W N0 _ 1, rfl, fun s g row hg => by simp at hg, fun i j g hg => by simp at hg, .inl rfl⟩
theorem ownBlock_ne {base base' : Nat} {e e' : TypeId} {v v' : Value} {xs xs' : List Value} {n n' : Nat} (h : W.ownsRow base e 1 v n xs) (h' : W.ownsRow base' e' 1 v' n' xs') (hne : e ≠ e') (k : Nat) (hk : v.ownBlock = some k) : ¬ v'.ownBlock = some k := by
  rcases own_apart h h' hne with h0 | h0
  · rw [h0] at hk; cases hk
  · rw [hk] at h0; exact fun e => h0 e.symm
theorem OL.appN (h : OL W N0 vn vf ve t m gs) {row : List Int} {g : Nat} (hg : Blk W g 3 (row.map iV).toArray) (hm : row.length = m) (hN : N0 ≤ g) (hnew : ∀ s : Nat, gs[s]? ≠ some g) {vn' : Value}
    (ho : W'.ownsRow N0 35 1 vn' (gs.map (rowV m) ++ [rowV m g]).length (gs.map (rowV m) ++ [rowV m g])) (hw : W.grownBy W' vn.ownBlock) : OL W' N0 vn' vf ve { t with nx := t.nx ++ [row] } m (gs ++ [g]) := by
  have hc : Chg (fun k => vn.ownBlock = some k) W W' := (Chg.refl _ W).grown hw (fun k hk _ => hk)
  refine ⟨by simpa using ho, hc.own h.of_ (ownBlock_ne h.of_ h.on (by decide)), hc.own h.oe (ownBlock_ne h.oe h.on (by decide)), by simp [h.len], fun s g' row' hg' hr' => ?_, fun i j g' hi hj => ?_, h.fe⟩
  · by_cases hs : s < gs.length
    · rw [List.getElem?_append_left hs] at hg'
      rw [List.getElem?_append_left (by rw [← h.len]; exact hs)] at hr'
      obtain ⟨h1, h2, h3⟩ := h.rows s g' row' hg' hr'
      exact ⟨h1, h2, h3.chg hc (h3.apart h.on (by decide))⟩
    · rw [List.getElem?_append_right (by omega)] at hg'
      rw [List.getElem?_append_right (by rw [← h.len]; omega)] at hr'
      have hs0 : s - gs.length = 0 := by have := (List.getElem?_eq_some_iff.1 hg').1; simp at this; omega
      rw [hs0] at hg'
      rw [← h.len, hs0] at hr'
      simp at hg' hr'
      subst hg' hr'
      exact ⟨hN, hm, hg.chg hc (hg.apart h.on (by decide))⟩
  · have key : ∀ i, (gs ++ [g])[i]? = some g' → (i < gs.length ∧ gs[i]? = some g') ∨ (i = gs.length ∧ g' = g) := fun i hi => by
      by_cases hs : i < gs.length
      · rw [List.getElem?_append_left hs] at hi; exact .inl ⟨hs, hi⟩
      · rw [List.getElem?_append_right (by omega)] at hi
        have hs0 : i - gs.length = 0 := by have := (List.getElem?_eq_some_iff.1 hi).1; simp at this; omega
        rw [hs0] at hi
        simp at hi
        exact .inr ⟨by omega, hi.symm⟩
    rcases key i hi with ⟨_, a⟩ | ⟨a, b⟩ <;> rcases key j hj with ⟨_, c⟩ | ⟨c, d⟩
    · exact h.ap i j g' a c
    · subst d; exact absurd a (hnew i)
    · subst b; exact absurd c (hnew j)
    · omega
theorem OL.appF (h : OL W N0 vn vf ve t m gs) {x : Nat} {vf' : Value} (ho : W'.ownsRow N0 34 1 vf' (t.fo.map uV ++ [uV x]).length (t.fo.map uV ++ [uV x])) (hw : W.grownBy W' vf.ownBlock) (hf : vf'.ownBlock = vf.ownBlock ∨ vf'.ownBlock = some W.heap.size) : OL W' N0 vn vf' ve { t with fo := t.fo ++ [x] } m gs := by
  have hc : Chg (fun k => vf.ownBlock = some k) W W' := (Chg.refl _ W).grown hw (fun k hk _ => hk)
  refine ⟨hc.own h.on (ownBlock_ne h.on h.of_ (by decide)), by simpa using ho, hc.own h.oe (fun k hk e => ?_), h.len, fun s g row hg hr => ?_, h.ap, ?_⟩
  · rcases h.fe with h0 | h0
    · rw [h0] at e; cases e
    · rw [e, hk] at h0; exact h0 rfl
  · obtain ⟨h1, h2, h3⟩ := h.rows s g row hg hr
    exact ⟨h1, h2, h3.chg hc (h3.apart h.of_ (by decide))⟩
  · rcases hf with e | e
    · rw [e]; exact h.fe
    · right
      rw [e]
      intro e2
      have := (h.oe.lt _ e2.symm).2
      omega
theorem OL.appE (h : OL W N0 vn vf ve t m gs) {x : Nat} {ve' : Value} (ho : W'.ownsRow N0 34 1 ve' (t.en.map uV ++ [uV x]).length (t.en.map uV ++ [uV x])) (hw : W.grownBy W' ve.ownBlock) (hf : ve'.ownBlock = ve.ownBlock ∨ ve'.ownBlock = some W.heap.size) : OL W' N0 vn vf ve' { t with en := t.en ++ [x] } m gs := by
  have hc : Chg (fun k => ve.ownBlock = some k) W W' := (Chg.refl _ W).grown hw (fun k hk _ => hk)
  refine ⟨hc.own h.on (ownBlock_ne h.on h.oe (by decide)), hc.own h.of_ (fun k hk e => ?_), by simpa using ho, h.len, fun s g row hg hr => ?_, h.ap, ?_⟩
  · rcases h.fe with h0 | h0
    · rw [h0] at hk; cases hk
    · rw [hk, e] at h0; exact h0 rfl
  · obtain ⟨h1, h2, h3⟩ := h.rows s g row hg hr
    exact ⟨h1, h2, h3.chg hc (h3.apart h.oe (by decide))⟩
  · rcases hf with e | e
    · rw [e]; exact h.fe
    · by_cases h0 : vf.ownBlock = none
      · exact .inl h0
      · right
        rw [e]
        intro e2
        have := (h.of_.lt _ e2).2
        omega
end
/-- a row of the call's own reads as its list -/
theorem RG.own {α : Type} {f : α → Value} {w : World} {base : Nat} {e : TypeId} {v : Value} {l : List α} (h : w.ownsRow base e 1 v (l.map f).length (l.map f)) : ∃ A c, v = .slice A l.length c ∧ l.length ≤ c ∧ c ≤ maxLen ∧ RG f w A l.length l := by
  obtain ⟨A, c, hv, h1, h2, h3⟩ := own_form h
  rw [List.length_map] at hv h1 h
  refine ⟨A, c, hv, h1, h2, rfl, fun hn => ?_⟩
  rcases h3 with ⟨_, h0⟩ | ⟨g, rfl, _, hlt⟩
  · rw [List.length_map] at h0; omega
  · refine ⟨g, 0, rfl, hlt, fun j x hj => ?_⟩
    subst hv
    rw [Nat.zero_add, World.ownsRow.cellAt h j (by have := (List.getElem?_eq_some_iff.1 hj).1; omega), List.getElem?_map, hj]; rfl
theorem OL.tb {W : World} {N0 : Nat} {vn vf ve : Value} {t : Tb} {m : Nat} {gs : List Nat} (h : OL W N0 vn vf ve t m gs) (hc : t.cls.length = 256) (hu : (∀ x ∈ t.fo, x < 4294967296) ∧ ∀ x ∈ t.en, x < 4294967296) (hm : m ≤ 1000000) (hs : t.nx.length ≤ 1000000 ∧ t.fo.length ≤ 1000000 ∧ t.en.length ≤ 1000000) : TB W (dcells t.cls vn vf ve) t := by
  obtain ⟨A1, c1, rfl, l1, x1, r1⟩ := RG.own h.on
  obtain ⟨A2, c2, rfl, l2, x2, r2⟩ := RG.own h.of_
  obtain ⟨A3, c3, rfl, l3, x3, r3⟩ := RG.own h.oe
  rw [h.len] at r1 l1
  refine ⟨⟨A1, c1, A2, c2, A3, c3, by rw [h.len], l1, l2, l3, ⟨rfl, fun hn => ?_⟩, r2, r3⟩, hc, hu, ?_⟩
  · obtain ⟨b, off, e, hb, hcell⟩ := r1.2 hn
    refine ⟨b, off, e, hb, fun j row hj => ?_⟩
    have hjl : j < gs.length := by rw [h.len]; exact (List.getElem?_eq_some_iff.1 hj).1
    obtain ⟨g, hg⟩ : ∃ g, gs[j]? = some g := ⟨_, List.getElem?_eq_getElem hjl⟩
    obtain ⟨h1, h2, h3⟩ := h.rows j g row hg hj
    have := hcell j g hg
    unfold rowV at this
    rw [← h2] at this
    exact ⟨_, _, Nat.le_refl _, this, RG.blk h3 (by simp)⟩
  · refine ⟨by omega, by omega, by omega, fun l hl => ?_⟩
    obtain ⟨j, hj⟩ := List.getElem?_of_mem hl
    have hjl : j < gs.length := by rw [h.len]; exact (List.getElem?_eq_some_iff.1 hj).1
    obtain ⟨h1, h2, h3⟩ := h.rows j _ l (List.getElem?_eq_getElem hjl) hj
    omega
/-- the reader, and where all lies -/
structure RP (w0 W : World) (N0 bR bD : Nat) (l : List UInt8) (i : Nat) : Prop where
  rd : ∃ A' c', RD W bR A' (l.length - i) c' (l.drop i) ∧ ∀ ad, A' = some ad → ad.block < N0 ∧ ad.block ≠ bD
  hi : i ≤ l.length
  lo : bR < N0 ∧ bD < N0 ∧ bR ≠ bD ∧ w0.heap.size ≤ bR ∧ w0.heap.size ≤ bD ∧ w0.heap.size ≤ N0 ∧ N0 ≤ W.heap.size
  bl : Below w0.heap.size w0 W
theorem RP.chg {w0 W W' : World} {N0 bR bD i : Nat} {l : List UInt8} {S : Nat → Prop} (h : RP w0 W N0 bR bD l i) (hc : Chg S W W') (hS : ∀ b, b < N0 → S b → b = bD) : RP w0 W' N0 bR bD l i := by
  obtain ⟨A', c', hr, hA⟩ := h.rd
  have hl := h.lo
  refine ⟨⟨A', c', ⟨hr.blk.chg hc (fun e => hl.2.2.1 (hS _ hl.1 e)), hc.rb hr.rd (fun _ ad e hs => (hA ad e).2 (hS _ (hA ad e).1 hs)), hr.hc⟩, hA⟩, h.hi, ?_, h.bl.trans (hc.below (fun k hk e => ?_) h.bl.size)⟩
  · have := hc.size; omega
  · have := hS k (by omega) e
    omega
theorem advA_blk {A : Option Addr} {c k N0 bD : Nat} (h : ∀ ad, A = some ad → ad.block < N0 ∧ ad.block ≠ bD) : ∀ ad, advA A c k = some ad → ad.block < N0 ∧ ad.block ≠ bD := by
  intro ad e
  unfold advA at e
  split at e
  · exact h ad e
  · cases A with
    | none => cases e
    | some a =>
      obtain rfl := Option.some.inj e
      have hb : (a.add k).block = a.block := by unfold Addr.add; split <;> rfl
      rw [hb]; exact h a rfl
def NumR (w0 W : World) (N0 bR bD : Nat) (l : List UInt8) (i k : Nat) (e : Ending) (w' : World) : Prop :=
  e = .returned (.tuple #[.int .u64 (numAt l i k : Int), .int .i64 0]) ∧ RP w0 w' N0 bR bD l (i + k) ∧ Chg (fun b => b = bR) W w'
theorem rp_num {w0 W : World} {N0 bR bD i : Nat} {l : List UInt8} (h : RP w0 W N0 bR bD l i) (k : Nat) (h1 : 1 ≤ k) (h8 : k ≤ 8) (hk : i + k ≤ l.length) :
    Calls Tryd.prog 39 #[.pointer (some ⟨bR, 0, none⟩), .int .i64 (k : Int)] W (NumR w0 W N0 bR bD l i k) := by
  obtain ⟨A', c', hr, hA⟩ := h.rd
  refine (rnum_ok bR A' _ c' _ k W hr h1 h8 (by omega)).mono ?_
  rintro e w' ⟨rfl, rfl⟩
  have hc : Chg (fun b => b = bR) W (advW W bR A' (l.length - i) c' k) := Chg.setCell (S := fun b => b = bR) (p := ⟨bR, 0, none⟩) (Chg.refl _ W) (.inl rfl) _
  refine ⟨rfl, ⟨⟨advA A' c' k, c' - k, ?_, advA_blk hA⟩, hk, ?_, h.bl.trans (hc.below (fun b hb e => ?_) h.bl.size)⟩, hc⟩
  · have := hr.adv (show k ≤ l.length - i by omega)
    rw [List.drop_drop] at this
    unfold advW
    rw [show l.length - i - k = l.length - (i + k) from by omega] at this ⊢
    exact this
  · have := h.lo; have := hc.size; omega
  · have := h.lo; omega
theorem rp_take {w0 W : World} {N0 bR bD i : Nat} {l : List UInt8} (h : RP w0 W N0 bR bD l i) (k : Nat) (hk : i + k ≤ l.length) :
    Calls Tryd.prog 38 #[.pointer (some ⟨bR, 0, none⟩), .int .i64 (k : Int)] W fun e w' => (∃ v, e = .returned (.tuple #[v, .int .i64 0])) ∧ RP w0 w' N0 bR bD l (i + k) ∧ Chg (fun b => b = bR) W w' := by
  obtain ⟨A', c', hr, hA⟩ := h.rd
  refine (rtake_ok bR A' _ c' _ k W hr (by omega)).mono ?_
  rintro e w' ⟨rfl, rfl⟩
  have hc : Chg (fun b => b = bR) W (advW W bR A' (l.length - i) c' k) := Chg.setCell (S := fun b => b = bR) (p := ⟨bR, 0, none⟩) (Chg.refl _ W) (.inl rfl) _
  refine ⟨⟨_, rfl⟩, ⟨⟨advA A' c' k, c' - k, ?_, advA_blk hA⟩, hk, ?_, h.bl.trans (hc.below (fun b hb e => ?_) h.bl.size)⟩, hc⟩
  · have := hr.adv (show k ≤ l.length - i by omega)
    rw [List.drop_drop] at this
    unfold advW
    rw [show l.length - i - k = l.length - (i + k) from by omega] at this ⊢
    exact this
  · have := h.lo; have := hc.size; omega
  · have := h.lo; omega
theorem Chg.setCells {S : Nat → Prop} {b : Nat} : ∀ (vs : List Value) (o : Nat) {w w' : World}, Chg S w w' → S b → Chg S w (w'.setCells b o vs)
  | [], _, _, _, h, _ => h
  | v :: vs, o, _, _, h, hb => Chg.setCells vs (o + 1) (h.setCell (p := ⟨b, o, none⟩) (.inl hb) v) hb
theorem Blk.setCells {b : Nat} {t : TypeId} : ∀ (vs : List Value) (o : Nat) {w : World} {C : Array Value}, Blk w b t C → o + vs.length ≤ C.size → ∃ C', Blk (w.setCells b o vs) b t C' ∧ C'.size = C.size ∧ ∀ j, C'[j]? = if o ≤ j ∧ j < o + vs.length then vs[j - o]? else C[j]?
  | [], _, _, C, h, _ => ⟨C, h, rfl, fun j => by rw [if_neg (by simp)]⟩
  | v :: vs, o, _, C, h, hl => by
    rw [List.length_cons] at hl
    obtain ⟨C', h1, h2, h3⟩ := Blk.setCells vs (o + 1) (h.set_ o v) (by simp; omega)
    refine ⟨C', h1, by simpa using h2, fun j => ?_⟩
    rw [h3 j]
    by_cases e : j = o
    · subst e
      rw [if_neg (by omega), if_pos (by simp), Array.getElem?_setIfInBounds_self, if_pos (by omega), Nat.sub_self]; rfl
    · rw [Array.getElem?_setIfInBounds_ne (fun h => e h.symm)]
      by_cases h4 : o + 1 ≤ j ∧ j < o + 1 + vs.length
      · rw [if_pos h4, if_pos (by simp; omega), show j - o = (j - (o + 1)) + 1 from by omega]; rfl
      · rw [if_neg h4, if_neg (by simp; omega)]
theorem Blk.setAll {w : World} {b : Nat} {t : TypeId} {C : Array Value} (h : Blk w b t C) (cs : Array Value) (hs : cs.size = C.size) : Blk (w.setCells b 0 cs.toList) b t cs := by
  obtain ⟨C', h1, h2, h3⟩ := Blk.setCells cs.toList 0 h (by simp; omega)
  have : C' = cs := by
    apply Array.ext_getElem?
    intro j
    rw [h3 j]
    by_cases hj : j < cs.size
    · rw [if_pos (by simpa using hj)]; simp
    · rw [if_neg (by simp; omega), Array.getElem?_eq_none (by omega), Array.getElem?_eq_none (by omega)]
  rw [this] at h1; exact h1
theorem there_blk {w : World} {b : Nat} {t : TypeId} {C : Array Value} (h : Blk w b t C) (n : Nat) (hn : n ≤ C.size) : w.there b 0 n := fun j hj => by
  rw [Nat.zero_add]
  exact ⟨by rw [h.cell, Array.getElem?_eq_getElem (by omega)]; rfl, h.frozen j⟩
end Go.Proofs.YtnglgppdkohhpaaDoor
