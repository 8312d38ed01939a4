/- The drawn region of table.read that appends to three lists, over a frame of letters (printed by a program of ours). -/
import Derived.Test.YtnglgppdkohhpaaDoorTbOwn
namespace Go.Proofs.YtnglgppdkohhpaaDoor
open Go.RowKit
attribute [local go_sem ↓] Go.wp_at_zero Go.wp_at_succ
theorem step_append_one {w : World} {ops : Array Oper} {o : Oper} {a : Act} {K : Act → World → Prop} {Q : Exit → Act → World → Prop} {E : Prop} (hgd : o.guard = none) (s x : Operand) (t e : TypeId) {z : Value} {by_ : Nat}
    (ho : o.op = .call { callee := .builtin .append, args := #[s, x], argTypes := #[t, t] }) (ht : Tryd.prog.underlying t = some (.slice e)) (hinfo : (Tryd.prog.info? e).map (fun i => (i.zero, i.size, i.bytes)) = some (some z, 1, by_)) (hz : z.cells.size = 1)
    (base : Nat) (v : Value) (xs : List Value) (hs : a.eval s = v) (hown : w.ownsRow base e 1 v xs.length xs) (g c : Nat) (u : Value) (hx : a.eval x = .slice (some ⟨g, 0, none⟩) 1 c) (hc : w.cell? ⟨g, 0, none⟩ = some u) (h1 : u.oneCell' = true)
    (hlen : (xs.length + 1) * by_ ≤ 140737488355328) (hmax : xs.length + 1 ≤ maxLen) (hbase : base ≤ w.heap.size)
    (h : ∀ v' w', w'.ownsRow base e 1 v' (xs ++ [u]).length (xs ++ [u]) → w.grownBy w' v.ownBlock → (v'.ownBlock = v.ownBlock ∨ v'.ownBlock = some w.heap.size) → K (a.put o.dst v') w') :
    if Region.wanted o (yielded ops a.tmps) = true then Oper.wp Tryd.prog o a w K Q else E := by
  have hw : Region.wanted o (yielded ops a.tmps) = true := by simp [Region.wanted, hgd]
  rw [if_pos hw]
  obtain ⟨i0, hi, hz0, hz1, hz2⟩ := info_parts hinfo
  obtain ⟨v', w', hrun, h2, h3, _, h4⟩ := run_append_own_at (P := Tryd.prog) w base t o.type e i0 z 1 by_ ht hi hz0 hz1 hz2 hz (by omega) v xs.length xs hown ⟨g, 0, none⟩ 1 c [u] rfl (fun j y hj => by
    match j, hj with
    | 0, hj => obtain rfl := Option.some.inj hj; simpa [Addr.add] using hc
    | j + 1, hj => simp at hj) (fun y hy => by simp at hy; subst hy; exact h1) hmax hlen hbase
  unfold Oper.wp execOp
  simp only [ho, resolve, invoke, builtin, Sem.run_bind, Sem.run_pure, Result.andThen_ok, List.map_toArray, List.map_cons, List.map_nil, hs, hx, hrun]
  exact h v' w' (by simpa using h2) h3 h4
theorem infoRow : (Tryd.prog.info? 35).map (fun i => (i.zero, i.size, i.bytes)) = some (some (.slice none 0 0), 1, 24) := by kernel_rfl
theorem infoU32 : (Tryd.prog.info? 34).map (fun i => (i.zero, i.size, i.bytes)) = some (some (.int .u32 0), 1, 4) := by kernel_rfl
def S26 (bD : Nat) (vn vf ve : Value) (ls : Array Bool) (w' : World) : Prop := (ls.getD 4 false = false → w'.cell? ⟨bD, 256, none⟩ = some vn) ∧ (ls.getD 10 false = false → w'.cell? ⟨bD, 257, none⟩ = some vf) ∧ (ls.getD 16 false = false → w'.cell? ⟨bD, 258, none⟩ = some ve)
theorem S26.of {bD : Nat} {vn vf ve : Value} {ls : Array Bool} {w : World} (h1 : w.cell? ⟨bD, 256, none⟩ = some vn) (h2 : w.cell? ⟨bD, 257, none⟩ = some vf) (h3 : w.cell? ⟨bD, 258, none⟩ = some ve) : S26 bD vn vf ve ls w := ⟨fun _ => h1, fun _ => h2, fun _ => h3⟩
theorem S26.irr {bD : Nat} {vn vf ve : Value} {i : Nat} (h4 : i ≠ 4) (h10 : i ≠ 10) (h16 : i ≠ 16) : (∀ ls w, S26 bD vn vf ve (ls.setIfInBounds i true) w → S26 bD vn vf ve ls w) ∧ (∀ ls w, S26 bD vn vf ve ls w → S26 bD vn vf ve (ls.setIfInBounds i true) w) := by
  unfold S26
  refine ⟨fun ls w h => ?_, fun ls w h => ?_⟩
  · rwa [getD_set_ne false h4, getD_set_ne false h10, getD_set_ne false h16] at h
  · rwa [getD_set_ne false h4, getD_set_ne false h10, getD_set_ne false h16]
/-- what holds while the three lists grow: the variable's block still holds C -/
structure St26 (wA w0 W : World) (N0 bR bD : Nat) (l : List UInt8) (i m g H0 : Nat) (row : List Int) (C : Array Value) (vn vf ve : Value) (t : Tb) (gs : List Nat) : Prop where
  bd : Blk W bD 26 C
  rp : RP w0 W N0 bR bD l i
  ol : OL W N0 vn vf ve t m gs
  bg : Blk W g 3 (row.map iV).toArray
  h0 : H0 ≤ W.heap.size
  base : N0 ≤ W.heap.size
  ch : Chg (fun b => b = bD ∨ N0 ≤ b) wA W
section
variable {wA w0 W W' : World} {N0 bR bD i m g H0 : Nat} {l : List UInt8} {row : List Int} {C : Array Value} {vn vf ve : Value} {t : Tb} {gs : List Nat}
theorem St26.keep (h : St26 wA w0 W N0 bR bD l i m g H0 row C vn vf ve t gs) (hb : Below W.heap.size W W') : St26 wA w0 W' N0 bR bD l i m g H0 row C vn vf ve t gs :=
  ⟨h.bd.keep hb, h.rp.chg (Chg.of_below hb (fun _ => False)) (fun _ _ e => e.elim), h.ol.keep hb, h.bg.keep hb, Nat.le_trans h.h0 hb.size, Nat.le_trans h.base hb.size, h.ch.trans (Chg.of_below hb (fun _ => False)) (fun _ _ e => e.elim)⟩
theorem St26.alloc (h : St26 wA w0 W N0 bR bD l i m g H0 row C vn vf ve t gs) (o : Obj) : St26 wA w0 (W.alloc o) N0 bR bD l i m g H0 row C vn vf ve t gs := h.keep (below_alloc _ _)
theorem St26.grow (h : St26 wA w0 W N0 bR bD l i m g H0 row C vn vf ve t gs) {v : Value} (hv : ∀ k, v.ownBlock = some k → N0 ≤ k ∧ k ≠ g) (hg : W.grownBy W' v.ownBlock) :
    Blk W' bD 26 C ∧ RP w0 W' N0 bR bD l i ∧ Blk W' g 3 (row.map iV).toArray ∧ H0 ≤ W'.heap.size ∧ N0 ≤ W'.heap.size ∧ Chg (fun b => b = bD ∨ N0 ≤ b) wA W' := by
  have hc : Chg (fun k => v.ownBlock = some k) W W' := (Chg.refl _ W).grown hg (fun k hk _ => hk)
  have hl := h.rp.lo
  exact ⟨h.bd.chg hc (fun e => by have := (hv _ e).1; omega), h.rp.chg hc (fun b hb e => by have := (hv _ e).1; omega), h.bg.chg hc (fun e => (hv _ e).2 rfl), Nat.le_trans h.h0 hc.size, Nat.le_trans h.base hc.size, h.ch.trans hc (fun b _ e => .inr (hv _ e).1)⟩
theorem St26.appN (h : St26 wA w0 W N0 bR bD l i m g H0 row C vn vf ve t gs) (hm : row.length = m) (hN : N0 ≤ g) (hnew : ∀ s : Nat, gs[s]? ≠ some g) {vn' : Value}
    (ho : W'.ownsRow N0 35 1 vn' (gs.map (rowV m) ++ [rowV m g]).length (gs.map (rowV m) ++ [rowV m g])) (hw : W.grownBy W' vn.ownBlock) : St26 wA w0 W' N0 bR bD l i m g H0 row C vn' vf ve { t with nx := t.nx ++ [row] } (gs ++ [g]) := by
  obtain ⟨h1, h2, h3, h4, h5, h6⟩ := h.grow (fun k hk => ⟨(h.ol.on.lt k hk).1, fun e => h.bg.apart h.ol.on (by decide) (by rw [hk, e])⟩) hw
  exact ⟨h1, h2, h.ol.appN h.bg hm hN hnew ho hw, h3, h4, h5, h6⟩
theorem St26.appF (h : St26 wA w0 W N0 bR bD l i m g H0 row C vn vf ve t gs) {x : Nat} {vf' : Value} (ho : W'.ownsRow N0 34 1 vf' (t.fo.map uV ++ [uV x]).length (t.fo.map uV ++ [uV x])) (hw : W.grownBy W' vf.ownBlock) (hf : vf'.ownBlock = vf.ownBlock ∨ vf'.ownBlock = some W.heap.size) : St26 wA w0 W' N0 bR bD l i m g H0 row C vn vf' ve { t with fo := t.fo ++ [x] } gs := by
  obtain ⟨h1, h2, h3, h4, h5, h6⟩ := h.grow (fun k hk => ⟨(h.ol.of_.lt k hk).1, fun e => h.bg.apart h.ol.of_ (by decide) (by rw [hk, e])⟩) hw
  exact ⟨h1, h2, h.ol.appF ho hw hf, h3, h4, h5, h6⟩
theorem St26.appE (h : St26 wA w0 W N0 bR bD l i m g H0 row C vn vf ve t gs) {x : Nat} {ve' : Value} (ho : W'.ownsRow N0 34 1 ve' (t.en.map uV ++ [uV x]).length (t.en.map uV ++ [uV x])) (hw : W.grownBy W' ve.ownBlock) (hf : ve'.ownBlock = ve.ownBlock ∨ ve'.ownBlock = some W.heap.size) : St26 wA w0 W' N0 bR bD l i m g H0 row C vn vf ve' { t with en := t.en ++ [x] } gs := by
  obtain ⟨h1, h2, h3, h4, h5, h6⟩ := h.grow (fun k hk => ⟨(h.ol.oe.lt k hk).1, fun e => h.bg.apart h.ol.oe (by decide) (by rw [hk, e])⟩) hw
  exact ⟨h1, h2, h.ol.appE ho hw hf, h3, h4, h5, h6⟩
end
theorem S26.none {bD : Nat} {vn vf ve : Value} {ls : Array Bool} {w : World} (h1 : ls.getD 4 false = true) (h2 : ls.getD 10 false = true) (h3 : ls.getD 16 false = true) : S26 bD vn vf ve ls w :=
  ⟨fun h => (by rw [h1] at h; cases h), fun h => (by rw [h2] at h; cases h), fun h => (by rw [h3] at h; cases h)⟩
theorem St26.cells {wA wB W : World} {N0 bR bD i m g H0 : Nat} {l : List UInt8} {row cl : List Int} {v1 v2 v3 vn vf ve : Value} {t : Tb} {gs : List Nat} (h : St26 wA wB W N0 bR bD l i m g H0 row (dcells cl v1 v2 v3) vn vf ve t gs) (hc : cl.length = 256) :
    Hid (W.cell? ⟨bD, 256, none⟩ = some v1) ∧ Hid (W.cell? ⟨bD, 257, none⟩ = some v2) ∧ Hid (W.cell? ⟨bD, 258, none⟩ = some v3) :=
  ⟨Lib.hid ((h.bd.cell _).trans (dcells_nx hc)), Lib.hid ((h.bd.cell _).trans (dcells_fo hc)), Lib.hid ((h.bd.cell _).trans (dcells_en hc))⟩
/-- behind the region -/
def Fin26 (wA wB : World) (N0 bR bD : Nat) (l : List UInt8) (i m : Nat) (cl : List Int) (t : Tb) (gs : List Nat) (vn vf ve : Value) (W : World) : Prop :=
  RP wB W N0 bR bD l i ∧ Blk W bD 26 (dcells cl vn vf ve) ∧ OL W N0 vn vf ve t m gs ∧ Chg (fun b => b = bD ∨ N0 ≤ b) wA W
theorem St26.fin {wA wB W : World} {N0 bR bD i m g H0 : Nat} {l : List UInt8} {row cl : List Int} {v1 v2 v3 vn vf ve : Value} {t : Tb} {gs : List Nat} (h : St26 wA wB W N0 bR bD l i m g H0 row (dcells cl v1 v2 v3) vn vf ve t gs) (hc : cl.length = 256) :
    ∃ _u : Unit, Fin26 wA wB N0 bR bD l i m cl t gs vn vf ve (((W.setCell ⟨bD, 256, none⟩ vn).setCell ⟨bD, 257, none⟩ vf).setCell ⟨bD, 258, none⟩ ve) := by
  have hcg : Chg (fun k => k = bD) W (((W.setCell ⟨bD, 256, none⟩ vn).setCell ⟨bD, 257, none⟩ vf).setCell ⟨bD, 258, none⟩ ve) :=
    Chg.setCell (S := fun k => k = bD) (p := ⟨bD, 258, none⟩) (Chg.setCell (S := fun k => k = bD) (p := ⟨bD, 257, none⟩) (Chg.setCell (S := fun k => k = bD) (p := ⟨bD, 256, none⟩) (Chg.refl _ W) (.inl rfl) _) (.inl rfl) _) (.inl rfl) _
  have hl := h.rp.lo
  refine ⟨(), h.rp.chg hcg (fun b _ e => e), ?_, h.ol.chg hcg (fun b hb _ e => by omega), h.ch.trans hcg (fun b _ e => .inl e)⟩
  have := ((h.bd.set_ 256 vn).set_ 257 vf).set_ 258 ve
  rwa [dcells_set hc] at this
noncomputable def reg26 : Code := ((Tryd.f30.body.bind (regionOf 26)).getD .skip)
end Go.Proofs.YtnglgppdkohhpaaDoor
