/- The state of DeliverPlays: the program's deliverer, the document's, and the book. -/
import Derived.Test.YtjkocghbnljifaaDpWas
namespace Go.Proofs.Ytjkocghbnljifaa
open Go.RowKit
/-- the parts, with their colours -/
structure PT2 (w0 W : World) (C : Nat → Nat) (d g p r k N ba mo ji f : Nat) (xs q : List Th) (A : Option Addr) (m c : Nat) (se : Bool) (re : Nat) (wt : Int) (vr vw : Value) (rs rsw : List (Nat × List Th)) (us : List Value) : Prop where
  dv : DV W d g p N f xs q ba mo ji se (re : Int) wt
  rv : RV W w0.heap.size r A m c q N ba mo ji se (re : Int) wt
  kb : Blk W k 36 #[vr, vw]
  rw : RWs W w0.heap.size C vr rs
  ws : WSs W w0.heap.size C vw us rsw
  cd : C d = 0 ∧ C g = 0 ∧ C p = 0
  cr : C r = 1
  ca : ∀ b, inB A b → C b = 2
  ck : C k = 3
  lo : w0.heap.size ≤ d ∧ w0.heap.size ≤ g ∧ w0.heap.size ≤ p ∧ w0.heap.size ≤ r ∧ w0.heap.size ≤ k
  bl : Below w0.heap.size w0 W
  hse : se = true → q ≠ []
  hN : 1 ≤ N ∧ N ≤ 64
abbrev PT (w0 W : World) (C : Nat → Nat) (d g p r k N ba mo ji f : Nat) (xs q : List Th) (A : Option Addr) (m c : Nat) (se : Bool) (re : Nat) (wt : Int) (vr vw : Value) (rs : List (Nat × List Th)) (us : List Value) : Prop := PT2 w0 W C d g p r k N ba mo ji f xs q A m c se re wt vr vw rs rs us
/-- the state behind i calls -/
def PL (w0 W : World) (d r k N ba mo ji i : Nat) : Prop :=
  ∃ C g p f xs q A m c se re wt vr vw rs us, PT w0 W C d g p r k N ba mo ji f xs q A m c se re wt vr vw rs us ∧ re ≤ i ∧ rs.length ≤ 2 * i
section
variable {w0 w w' : World} {C : Nat → Nat} {d g p r k N ba mo ji f : Nat} {xs q : List Th} {A : Option Addr} {m c : Nat} {se : Bool} {re : Nat} {wt : Int} {vr vw : Value} {rs : List (Nat × List Th)} {us : List Value}
theorem PT.len (h : PT w0 w C d g p r k N ba mo ji f xs q A m c se re wt vr vw rs us) : q.length = m ∧ m ≤ c ∧ m ≤ N := by
  have h1 := h.rv.al.1
  have h2 := h.dv.ring.hq
  exact ⟨h1, h.rv.al.2.1, by omega⟩
theorem PT2.keep {rsw : List (Nat × List Th)} (h : PT2 w0 w C d g p r k N ba mo ji f xs q A m c se re wt vr vw rs rsw us) (hb : Below w.heap.size w w') : PT2 w0 w' C d g p r k N ba mo ji f xs q A m c se re wt vr vw rs rsw us :=
  ⟨h.dv.keep hb, h.rv.keep hb, h.kb.keep hb, h.rw.step (Chg.of_below hb (fun _ => False)) (fun _ _ => rfl) (fun _ _ e => e.elim), h.ws.step (Chg.of_below hb (fun _ => False)) (fun _ _ => rfl) (fun _ _ e => e.elim), h.cd, h.cr, h.ca, h.ck, h.lo, h.bl.trans (hb.mono h.bl.size), h.hse, h.hN⟩
theorem PT.keep (h : PT w0 w C d g p r k N ba mo ji f xs q A m c se re wt vr vw rs us) (hb : Below w.heap.size w w') : PT w0 w' C d g p r k N ba mo ji f xs q A m c se re wt vr vw rs us :=
  ⟨h.dv.keep hb, h.rv.keep hb, h.kb.keep hb, h.rw.step (Chg.of_below hb (fun _ => False)) (fun _ _ => rfl) (fun _ _ e => e.elim), h.ws.step (Chg.of_below hb (fun _ => False)) (fun _ _ => rfl) (fun _ _ e => e.elim), h.cd, h.cr, h.ca, h.ck, h.lo, h.bl.trans (hb.mono h.bl.size), h.hse, h.hN⟩
/-- the two deliverers go on; the book stays -/
theorem PT.go {S : Nat → Prop} (h : PT w0 w C d g p r k N ba mo ji f xs q A m c se re wt vr vw rs us) (hc : Chg S w w') (hS : ∀ b, b < w.heap.size → S b → b = d ∨ b = g ∨ b = p ∨ b = r ∨ inB A b)
    {f' : Nat} {xs' q' : List Th} {A' : Option Addr} {m' c' : Nat} {se' : Bool} {re' : Nat} {wt' : Int} (hd : DV w' d g p N f' xs' q' ba mo ji se' (re' : Int) wt') (hr : RV w' w0.heap.size r A' m' c' q' N ba mo ji se' (re' : Int) wt')
    (hA : ∀ b, inB A' b → inB A b ∨ w.heap.size ≤ b) (hse : se' = true → q' ≠ []) : PT w0 w' (paint C w.heap.size 2) d g p r k N ba mo ji f' xs' q' A' m' c' se' re' wt' vr vw rs us := by
  have hcol : ∀ b, b < w.heap.size → S b → C b ≤ 2 := fun b hb hs => by
    rcases hS b hb hs with rfl | rfl | rfl | rfl | e
    · rw [h.cd.1]; omega
    · rw [h.cd.2.1]; omega
    · rw [h.cd.2.2]; omega
    · rw [h.cr]; omega
    · rw [h.ca b e]; omega
  have hs : ∀ b, b < w.heap.size → paint C w.heap.size 2 b = C b := fun b hb => paint_old C 2 hb
  have hgl := h.dv.ring.blk.lt
  have hpl := h.dv.ring.arr.lt
  refine ⟨hd, hr, h.kb.chg hc (fun e => by have := hcol _ h.kb.lt e; have := h.ck; omega), h.rw.step hc hs (fun b hb e => by have := hcol b hb e; omega), h.ws.step hc hs (fun b hb e => by have := hcol b hb e; omega), ?_, ?_, fun b hb => ?_, ?_, h.lo, ?_, hse, h.hN⟩
  · rw [hs d h.dv.blk.lt, hs g hgl, hs p hpl]; exact h.cd
  · rw [hs r h.rv.blk.lt]; exact h.cr
  · rcases hA b hb with e | e
    · rw [hs b (h.rv.al.lt b e).2]; exact h.ca b e
    · exact paint_new C 2 e
  · rw [hs k h.kb.lt]; exact h.ck
  · refine h.bl.trans (hc.below (fun b hb e => ?_) h.bl.size)
    have hbl := h.bl.size
    have hlo := h.lo
    rcases hS b (by omega) e with rfl | rfl | rfl | rfl | e
    · omega
    · omega
    · omega
    · omega
    · have := (h.rv.al.lt b e).1; omega
theorem PT.recol (h : PT w0 w C d g p r k N ba mo ji f xs q A m c se re wt vr vw rs us) (hb : Below w.heap.size w w') {C' : Nat → Nat} (hs : ∀ b, b < w.heap.size → C' b = C b) : PT w0 w' C' d g p r k N ba mo ji f xs q A m c se re wt vr vw rs us :=
  ⟨h.dv.keep hb, h.rv.keep hb, h.kb.keep hb, h.rw.step (Chg.of_below hb (fun _ => False)) hs (fun _ _ e => e.elim), h.ws.step (Chg.of_below hb (fun _ => False)) hs (fun _ _ e => e.elim), by rw [hs d h.dv.blk.lt, hs g h.dv.ring.blk.lt, hs p h.dv.ring.arr.lt]; exact h.cd, (hs r h.rv.blk.lt).trans h.cr, fun b e => (hs b (h.rv.al.lt b e).2).trans (h.ca b e), (hs k h.kb.lt).trans h.ck, h.lo, h.bl.trans (hb.mono h.bl.size), h.hse, h.hN⟩
theorem row_lt {B size n : Nat} {e : TypeId} {v : Value} {vs : List Value} (h : w.ownsRow B e size v n vs) {b : Nat} (hb : v.ownBlock = some b) : B ≤ b ∧ b < w.heap.size := World.ownsRow.lt h b hb
/-- two lists more -/
theorem PT.more1 (h : PT w0 w C d g p r k N ba mo ji f xs q A m c se re wt vr vw rs us) {x y : Nat × List Th} {v' : Value} {w6 : World}
    (hx : w0.heap.size ≤ x.1 ∧ Blk w x.1 44 (flatE Th.cells x.2).toArray ∧ C x.1 = 6 ∧ x.2.length ≤ 64) (hy : w0.heap.size ≤ y.1 ∧ Blk w y.1 44 (flatE Th.cells y.2).toArray ∧ C y.1 = 6 ∧ y.2.length ≤ 64)
    (hxy : x.1 ≠ y.1) (hnx : ∀ (j : Nat) (z : Nat × List Th), rs[j]? = some z → z.1 ≠ x.1 ∧ z.1 ≠ y.1)
    (hown : w6.ownsRow w0.heap.size 48 1 v' (rs.map rawV ++ [rawV x, rawV y]).length (rs.map rawV ++ [rawV x, rawV y])) (hg : w.grownBy w6 vr.ownBlock) (ha : v'.ownBlock = vr.ownBlock ∨ v'.ownBlock = some w.heap.size) :
    PT2 w0 (w6.setCell ⟨k, 0, none⟩ v') (paint C w.heap.size 4) d g p r k N ba mo ji f xs q A m c se re wt v' vw (rs ++ [x, y]) rs us := by
  have hkl := h.kb.lt
  have hs : ∀ b, b < w.heap.size → paint C w.heap.size 4 b = C b := fun b hb => paint_old C 4 hb
  have c1 : Chg (fun b => vr.ownBlock = some b) w w6 := (Chg.refl _ w).grown hg (fun b e _ => e)
  have c2 : Chg (fun b => b = k) w6 (w6.setCell ⟨k, 0, none⟩ v') := Chg.setCell (S := fun b => b = k) (p := ⟨k, 0, none⟩) (Chg.refl _ w6) (.inl rfl) _
  have cc : Chg (fun b => vr.ownBlock = some b ∨ b = k) w (w6.setCell ⟨k, 0, none⟩ v') := (c1.mono (fun _ _ e => Or.inl e)).trans c2 (fun _ _ e => Or.inr e)
  have hcol : ∀ b, vr.ownBlock = some b ∨ b = k → C b = 4 ∨ C b = 3 := fun b e => by rcases e with e | rfl; exact .inl (h.rw.hv b e); exact .inr h.ck
  have kb6 := h.kb.chg c1 (fun e => by have := h.rw.hv _ e; have := h.ck; omega)
  refine ⟨h.dv.chg cc (fun e => by have := hcol _ e; have := h.cd.1; omega) (fun e => by have := hcol _ e; have := h.cd.2.1; omega) (fun e => by have := hcol _ e; have := h.cd.2.2; omega), h.rv.chg cc (fun e => by have := hcol _ e; have := h.cr; omega) (fun b hb e => by have := hcol _ e; have := h.ca b hb; omega), ?_, ?_, h.ws.step cc hs (fun b _ e => by have := hcol _ e; omega), by rw [hs d h.dv.blk.lt, hs g h.dv.ring.blk.lt, hs p h.dv.ring.arr.lt]; exact h.cd, (hs r h.rv.blk.lt).trans h.cr, fun b e => (hs b (h.rv.al.lt b e).2).trans (h.ca b e), (hs k hkl).trans h.ck, h.lo, ?_, h.hse, h.hN⟩
  · have := kb6.set_ 0 v'
    simpa using this
  · exact (h.rw.more hx hy hxy hnx hown hg ha).step c2 (fun _ _ => rfl) (fun b hb e => by rw [e, hs k hkl, h.ck]; omega)
  · exact h.bl.trans (cc.below (fun b hb e => by
      rcases e with e | rfl
      · have := (row_lt h.rw.own e).1; omega
      · have := h.lo; omega) h.bl.size)
theorem PT2.more2 {rs : List (Nat × List Th)} {x y : Nat × List Th} (h : PT2 w0 w C d g p r k N ba mo ji f xs q A m c se re wt vr vw (rs ++ [x, y]) rs us) {A' : Option Addr} {c' : Nat} {v' : Value} {w6 : World}
    (hx : x.2.length ≤ c' ∧ AS w A' x.2.length x.2 ∧ ∀ b, inB A' b → C b = 7 ∧ b < w.heap.size) (hy : y.2 = x.2)
    (hown : w6.ownsRow w0.heap.size 48 1 v' (us ++ [Value.slice A' x.2.length c', Value.slice A' x.2.length c']).length (us ++ [Value.slice A' x.2.length c', Value.slice A' x.2.length c'])) (hg : w.grownBy w6 vw.ownBlock) (ha : v'.ownBlock = vw.ownBlock ∨ v'.ownBlock = some w.heap.size) :
    PT w0 (w6.setCell ⟨k, 1, none⟩ v') (paint C w.heap.size 5) d g p r k N ba mo ji f xs q A m c se re wt vr v' (rs ++ [x, y]) (us ++ [Value.slice A' x.2.length c', Value.slice A' x.2.length c']) := by
  have hkl := h.kb.lt
  have hs : ∀ b, b < w.heap.size → paint C w.heap.size 5 b = C b := fun b hb => paint_old C 5 hb
  have c1 : Chg (fun b => vw.ownBlock = some b) w w6 := (Chg.refl _ w).grown hg (fun b e _ => e)
  have c2 : Chg (fun b => b = k) w6 (w6.setCell ⟨k, 1, none⟩ v') := Chg.setCell (S := fun b => b = k) (p := ⟨k, 1, none⟩) (Chg.refl _ w6) (.inl rfl) _
  have cc : Chg (fun b => vw.ownBlock = some b ∨ b = k) w (w6.setCell ⟨k, 1, none⟩ v') := (c1.mono (fun _ _ e => Or.inl e)).trans c2 (fun _ _ e => Or.inr e)
  have hcol : ∀ b, vw.ownBlock = some b ∨ b = k → C b = 5 ∨ C b = 3 := fun b e => by rcases e with e | rfl; exact .inl (h.ws.hv b e); exact .inr h.ck
  have kb6 := h.kb.chg c1 (fun e => by have := h.ws.hv _ e; have := h.ck; omega)
  refine ⟨h.dv.chg cc (fun e => by have := hcol _ e; have := h.cd.1; omega) (fun e => by have := hcol _ e; have := h.cd.2.1; omega) (fun e => by have := hcol _ e; have := h.cd.2.2; omega), h.rv.chg cc (fun e => by have := hcol _ e; have := h.cr; omega) (fun b hb e => by have := hcol _ e; have := h.ca b hb; omega), ?_, h.rw.step cc hs (fun b _ e => by have := hcol _ e; omega), ?_, by rw [hs d h.dv.blk.lt, hs g h.dv.ring.blk.lt, hs p h.dv.ring.arr.lt]; exact h.cd, (hs r h.rv.blk.lt).trans h.cr, fun b e => (hs b (h.rv.al.lt b e).2).trans (h.ca b e), (hs k hkl).trans h.ck, h.lo, ?_, h.hse, h.hN⟩
  · have := kb6.set_ 1 v'
    simpa using this
  · exact (h.ws.more hx hy hown hg ha).step c2 (fun _ _ => rfl) (fun b hb e => by rw [e, hs k hkl, h.ck]; omega)
  · exact h.bl.trans (cc.below (fun b hb e => by
      rcases e with e | rfl
      · have := (row_lt h.ws.own e).1; omega
      · have := h.lo; omega) h.bl.size)
end
end Go.Proofs.Ytjkocghbnljifaa
