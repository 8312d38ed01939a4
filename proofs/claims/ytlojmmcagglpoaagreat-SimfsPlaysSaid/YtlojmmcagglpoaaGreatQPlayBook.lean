/- The play's books: one of its rows lengthened. -/
import Derived.Test.YtlojmmcagglpoaaGreatQRf
import Derived.Test.YtlojmmcagglpoaaGreatQRfCopy
import Derived.Test.YtlojmmcagglpoaaGreatQRow
import Derived.Test.YtlojmmcagglpoaaGreatQStepQ
import Derived.Laws.OwnMore
namespace Go.Proofs.YtlojmmcagglpoaaGreat
open Go.RowKit Go.Maps
section
variable {w0 W W2 : World} {C : Nat → Nat} {P i k : Nat} {h h' : Hd} {ps qs : List Nat} {v : Value} {L : List PartT}
theorem Pp.set (hp : Pp w0 P h ps qs W C) (h1 : hdC h' = (hdC h).setIfInBounds i v) (hd : h'.d = h.d) (hr : h'.r = h.r) : Pp w0 P h' ps qs (W.setCell ⟨P, i, none⟩ v) C := by
  have hch : Chg (fun k => k = P) W (W.setCell ⟨P, i, none⟩ v) := Chg.setCell (S := fun k => k = P) (Chg.refl _ _) (.inl rfl) _
  unfold Pp
  rw [h1, hd, hr]
  exact ⟨⟨hp.1.1.set_ i v, hp.1.2⟩, ⟨hch.own hp.2.1.1 (fun k hk e => hp.1.1.apart hp.2.1.1 (by decide) (by rw [hk, e])), hp.2.1.2⟩, hch.own hp.2.2.1 (fun k hk e => hp.1.1.apart hp.2.2.1 (by decide) (by rw [hk, e])), hp.2.2.2⟩
/-- a part turned, and the play's cell that tells of it -/
theorem GS.book (hG : GS w0 W C (Pp w0 P h ps qs :: L)) (hk : k < L.length) (hc : Chg (fun b => C b = k + 2) W W2) (h1 : hdC h' = (hdC h).setIfInBounds i v) (hd : h'.d = h.d) (hr : h'.r = h.r) {U' : PartT} (hU : U' W2 (paint C W.heap.size (k + 2))) (hu : Stb (k + 2) U') :
    GS w0 (W2.setCell ⟨P, i, none⟩ v) (paint C W.heap.size (k + 2)) (Pp w0 P h' ps qs :: L.set k U') := by
  have hp : Pp w0 P h ps qs W C := hG.at_ (k := 0) rfl
  have hP := hp.1.2
  have hPl := hp.1.1.lt
  have hp2 : Pp w0 P h ps qs W2 (paint C W.heap.size (k + 2)) := Stb.pp w0 P h ps qs _ _ _ _ _ hp hc (sam_paint _ _ _) (fun b hb => by omega)
  have hch : Chg (fun b => b = P) W2 (W2.setCell ⟨P, i, none⟩ v) := Chg.setCell (S := fun k => k = P) (Chg.refl _ _) (.inl rfl) _
  refine hG.turn2 (k := 0) (j := k + 1) (T' := Pp w0 P h' ps qs) (U' := U') (by simp) (by simp; omega) (by omega) ?_ (sam_paint _ _ _) (hp2.set h1 hd hr) (Stb.pp _ _ _ _ _) ?_ hu rfl
  · exact (hc.mono (S' := fun b => C b = 0 + 1 ∨ C b = k + 1 + 1) (fun b _ hb => .inr hb)).trans hch (fun b _ hb => by subst hb; exact .inl hP)
  · exact hu _ _ _ _ _ hU hch (Sam.refl _ _) (fun b hb => by subst hb; rw [paint_old _ _ hPl, hP]; omega)
end
/-- the state with the books apart -/
def LPx (w0 : World) (P : Nat) (h : Hd) (bs ss : List (List UInt8)) (ns es : List (List (List UInt8))) (ds : List DE) : List PartT :=
  Pp w0 P h (ds.map DE.p) (ds.map DE.q) :: Bp w0 h.b bs :: Sp w0 h.s ss :: Np w0 h.n ns :: Ep w0 h.e es :: DLp w0 0 ds
theorem LP_x (w0 : World) (P : Nat) (h : Hd) (bs : List (List UInt8)) (ns : List (List (List UInt8))) (ds : List DE) : LP w0 P h bs ns ds = LPx w0 P h bs bs ns ns ds := rfl
section
variable {w0 W W2 : World} {C : Nat → Nat} {P : Nat} {h : Hd} {v : Value} {bs ss : List (List UInt8)} {ns es : List (List (List UInt8))} {ds : List DE} {M : List PartT}
theorem LPx.bookB {bs' : List (List UInt8)} (hG : GS w0 W C (LPx w0 P h bs ss ns es ds ++ M)) (hc : Chg (fun b => C b = 2) W W2) (hU : Bp w0 v bs' W2 (paint C W.heap.size 2)) : GS w0 (W2.setCell ⟨P, 2, none⟩ v) (paint C W.heap.size 2) (LPx w0 P { h with b := v } bs' ss ns es ds ++ M) :=
  GS.book (k := 0) (h := h) (h' := { h with b := v }) (L := Bp w0 h.b bs :: Sp w0 h.s ss :: Np w0 h.n ns :: Ep w0 h.e es :: DLp w0 0 ds ++ M) hG (by simp) hc rfl rfl rfl hU (Stb.bp _ _ _)
theorem LPx.bookS {ss' : List (List UInt8)} (hG : GS w0 W C (LPx w0 P h bs ss ns es ds ++ M)) (hc : Chg (fun b => C b = 3) W W2) (hU : Sp w0 v ss' W2 (paint C W.heap.size 3)) : GS w0 (W2.setCell ⟨P, 3, none⟩ v) (paint C W.heap.size 3) (LPx w0 P { h with s := v } bs ss' ns es ds ++ M) :=
  GS.book (k := 1) (h := h) (h' := { h with s := v }) (L := Bp w0 h.b bs :: Sp w0 h.s ss :: Np w0 h.n ns :: Ep w0 h.e es :: DLp w0 0 ds ++ M) hG (by simp) hc rfl rfl rfl hU (Stb.sp _ _ _)
theorem LPx.bookN {ns' : List (List (List UInt8))} (hG : GS w0 W C (LPx w0 P h bs ss ns es ds ++ M)) (hc : Chg (fun b => C b = 4) W W2) (hU : Np w0 v ns' W2 (paint C W.heap.size 4)) : GS w0 (W2.setCell ⟨P, 4, none⟩ v) (paint C W.heap.size 4) (LPx w0 P { h with n := v } bs ss ns' es ds ++ M) :=
  GS.book (k := 2) (h := h) (h' := { h with n := v }) (L := Bp w0 h.b bs :: Sp w0 h.s ss :: Np w0 h.n ns :: Ep w0 h.e es :: DLp w0 0 ds ++ M) hG (by simp) hc rfl rfl rfl hU (Stb.np _ _ _)
theorem LPx.bookE {es' : List (List (List UInt8))} (hG : GS w0 W C (LPx w0 P h bs ss ns es ds ++ M)) (hc : Chg (fun b => C b = 5) W W2) (hU : Ep w0 v es' W2 (paint C W.heap.size 5)) : GS w0 (W2.setCell ⟨P, 5, none⟩ v) (paint C W.heap.size 5) (LPx w0 P { h with e := v } bs ss ns es' ds ++ M) :=
  GS.book (k := 3) (h := h) (h' := { h with e := v }) (L := Bp w0 h.b bs :: Sp w0 h.s ss :: Np w0 h.n ns :: Ep w0 h.e es :: DLp w0 0 ds ++ M) hG (by simp) hc rfl rfl rfl hU (Stb.ep _ _ _)
theorem LPx.blk (hG : GS w0 W C (LPx w0 P h bs ss ns es ds ++ M)) : Blk W P 37 (hdC h) ∧ C P = 1 := (hG.at_ (k := 0) rfl : Pp w0 P h (ds.map DE.p) (ds.map DE.q) W C).1
theorem LPx.bp (hG : GS w0 W C (LPx w0 P h bs ss ns es ds ++ M)) : Bp w0 h.b bs W C := hG.at_ (k := 1) rfl
theorem LPx.sp (hG : GS w0 W C (LPx w0 P h bs ss ns es ds ++ M)) : Sp w0 h.s ss W C := hG.at_ (k := 2) rfl
theorem LPx.np (hG : GS w0 W C (LPx w0 P h bs ss ns es ds ++ M)) : Np w0 h.n ns W C := hG.at_ (k := 3) rfl
theorem LPx.ep (hG : GS w0 W C (LPx w0 P h bs ss ns es ds ++ M)) : Ep w0 h.e es W C := hG.at_ (k := 4) rfl
end
theorem own_less {w : World} {base base' size n : Nat} {e : TypeId} {v : Value} {xs : List Value} (h : w.ownsRow base e size v n xs) (hb : base' ≤ base) : w.ownsRow base' e size v n xs := by
  refine ⟨h.1, ?_⟩
  rcases h.2 with h0 | ⟨g, cap, cur, hv, hg, r⟩
  · exact .inl h0
  · exact .inr ⟨g, cap, cur, hv, Nat.le_trans hb hg, r⟩
theorem own_addr {w : World} {base size n m c k : Nat} {e : TypeId} {A : Option Addr} {xs : List Value} (h : w.ownsRow base e size (.slice A n c) m xs) (hk : (Value.slice A n c).ownBlock = some k) : A = some ⟨k, 0, none⟩ := by
  rcases h.2 with ⟨h0, _⟩ | ⟨g, cap, cur, hv, _⟩
  · rw [h0] at hk; cases hk
  · injection hv with e1
    subst e1
    obtain rfl := Option.some.inj hk
    rfl
theorem infoBL : (Tryz.prog.info? 61).map (fun i => (i.zero, i.size, i.bytes)) = some (some (.slice none 0 0), 1, 24) := by kernel_rfl
theorem infoNL : (Tryz.prog.info? 32).map (fun i => (i.zero, i.size, i.bytes)) = some (some (.slice none 0 0), 1, 24) := by kernel_rfl
theorem infoST : (Tryz.prog.info? 9).map (fun i => (i.zero, i.size, i.bytes)) = some (some (.string .empty), 1, 16) := by kernel_rfl
end Go.Proofs.YtlojmmcagglpoaaGreat
