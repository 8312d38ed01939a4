/- WHAT RecPlays HOLDS between two calls: the reader, the document's, the book, the bytes that were handed in; how each call turns it. -/
import Derived.Test.YtngaohmfedoeeaaSegWhole
namespace Go.Proofs.Ytngaohmfedoeeaa
open Go.RowKit
structure ST (w0 W : World) (C : Nat → Nat) (b : List UInt8) (fb cf g : Nat) (A : Option Addr) (n cap r : Nat) (B : Option Addr) (cb t kb : Nat) (vR vW : Value) (us : List Value) (ls : List (List UInt8)) (M : Nat) : Prop where
  blk : Blk W kb 33 #[vR, vW]
  rdb : Blk W g 66 #[.slice A n cap]
  rsg : SG W (.slice A n cap) (b.drop t)
  xf : XF W r B b.length cb b t
  sl : SL W C vR us ls
  ws : WS W C vW (ls.map strOf)
  rap : ∀ (j : Nat) (u : Value) (x o : Nat), us[j]? = some u → SegIn u x o → ¬ SegIn (.slice A n cap) x o
  rc : ∀ x o, SegIn (.slice A n cap) x o → C x = 3
  ck : C kb = 6
  cg : C g = 2
  cr : C r = 4
  cB : ∀ ad, 0 < b.length → B = some ad → C ad.block = 5
  full : ∃ y : List UInt8, y.length = b.length ∧ OB W 0 (.slice (some ⟨fb, 0, none⟩) (b.length + 2) cf) (y ++ [77, 78])
  cfb : C fb = 1
  nm : ls.length ≤ M
  sm : ∀ l ∈ ls, l.length ≤ 3000000
  bel : Below w0.heap.size w0 W
  sam : Sam w0.heap.size (fun _ => 0) C
section
variable {w0 W W' : World} {C C' : Nat → Nat} {b : List UInt8} {fb cf g n cap r cb t kb M : Nat} {A B : Option Addr} {vR vW : Value} {us : List Value} {ls : List (List UInt8)}
theorem ST.len (h : ST w0 W C b fb cf g A n cap r B cb t kb vR vW us ls M) : n = b.length - t := by
  have := h.rsg.rb.1
  rw [List.length_drop] at this
  exact this.symm
theorem ST.rd (h : ST w0 W C b fb cf g A n cap r B cb t kb vR vW us ls M) : RD W g A n cap (b.drop t) := by
  refine ⟨h.rdb, h.rsg.rb, ?_⟩
  obtain ⟨A', c', e, h1, _⟩ := h.rsg.form
  injection e with _ e2 e3
  omega
theorem ST.le (h : ST w0 W C b fb cf g A n cap r B cb t kb vR vW us ls M) {M' : Nat} (hM : M ≤ M') : ST w0 W C b fb cf g A n cap r B cb t kb vR vW us ls M' := { h with nm := by have := h.nm; omega }
theorem ST.fblt (h : ST w0 W C b fb cf g A n cap r B cb t kb vR vW us ls M) : fb < W.heap.size := by
  obtain ⟨y, _, ho⟩ := h.full
  exact (ho.lt fb rfl).2
/-- all that is changed bears none of the state's colours, or is new -/
theorem ST.step {S : Nat → Prop} (h : ST w0 W C b fb cf g A n cap r B cb t kb vR vW us ls M) (hc : Chg S W W') (hs : Sam W.heap.size C C') (hS : ∀ x, S x → C x = 0 ∧ w0.heap.size ≤ x) : ST w0 W' C' b fb cf g A n cap r B cb t kb vR vW us ls M := by
  have hn : ∀ x c, C x = c → c ≠ 0 → ¬ S x := fun x c e h0 hx => h0 (by rw [← e, (hS x hx).1])
  have hBl : ∀ ad, 0 < b.length → B = some ad → ad.block < W.heap.size := fun ad hb e => by
    obtain ⟨b', off, e2, hlt, _⟩ := h.xf.rd.2 hb
    rw [e] at e2
    obtain rfl := Option.some.inj e2
    exact hlt
  refine ⟨h.blk.chg hc (hn _ _ h.ck (by decide)), h.rdb.chg hc (hn _ _ h.cg (by decide)), h.rsg.chg hc (fun x o hx => hn _ _ (h.rc x o hx) (by decide)), h.xf.chg hc (hn _ _ h.cr (by decide)) (fun hb ad e => hn _ _ (h.cB ad hb e) (by decide)),
    h.sl.step hc hs (fun x hx => by have := (hS x hx).1; omega), h.ws.step hc hs (fun x hx => by have := (hS x hx).1; omega), h.rap, fun x o hx => by rw [hs x (h.rsg.lt hx)]; exact h.rc x o hx, by rw [hs kb h.blk.lt]; exact h.ck, by rw [hs g h.rdb.lt]; exact h.cg, by rw [hs r h.xf.blk.lt]; exact h.cr,
    fun ad hb e => by rw [hs _ (hBl ad hb e)]; exact h.cB ad hb e, ?_, by rw [hs fb h.fblt]; exact h.cfb, h.nm, h.sm, h.bel.trans (hc.below (B := w0.heap.size) (fun x hx hSx => by have := (hS x hSx).2; omega) h.bel.size), h.sam.trans hs h.bel.size⟩
  obtain ⟨y, hy, ho⟩ := h.full
  exact ⟨y, hy, hc.ob ho (fun k hk hx => by
    have : fb = k := by simpa [Value.ownBlock] using hk
    subst this
    exact hn _ _ h.cfb (by decide) hx)⟩
theorem ST.later (h : ST w0 W C b fb cf g A n cap r B cb t kb vR vW us ls M) (hb : Below W.heap.size W W') : ST w0 W' (paint C W.heap.size 9) b fb cf g A n cap r B cb t kb vR vW us ls M :=
  h.step (Chg.of_below hb (fun _ => False)) (sam_paint C _ 9) (fun _ h => h.elim)
theorem ST.same (h : ST w0 W C b fb cf g A n cap r B cb t kb vR vW us ls M) (hb : Below W.heap.size W W') : ST w0 W' C b fb cf g A n cap r B cb t kb vR vW us ls M :=
  h.step (Chg.of_below hb (fun _ => False)) (Sam.refl _ _) (fun _ h => h.elim)
def TakeS (w0 : World) (C : Nat → Nat) (b : List UInt8) (fb cf g : Nat) (A : Option Addr) (n cap r : Nat) (B : Option Addr) (cb t kb : Nat) (us : List Value) (ls : List (List UInt8)) (M : Nat) (W : World) (e : Ending) (W' : World) : Prop :=
  e = .returned (.bool true) ∧ ∃ C' vR vW, ST w0 W' C' b fb cf g A n cap r B cb t kb vR vW us ls M ∧ Chg (fun x => C x = 6 ∨ C x = 7 ∨ C x = 8) W W' ∧ Sam W.heap.size C C'
theorem take_st (h : ST w0 W C b fb cf g A n cap r B cb t kb vR vW us ls M) (hM : M ≤ 1000) {u : Value} {l : List UInt8} {Aw : Option Addr} {nw : Nat} (cw : Nat) (hu : SG W u l) (hc0 : ∀ x o, SegIn u x o → (C x = 9 ∨ C x = 3) ∧ (∀ (j : Nat) (y : Value), us[j]? = some y → ¬ SegIn y x o) ∧ ¬ SegIn (.slice A n cap) x o)
    (hr : RB W Aw nw l) (hwc : ∀ ad, 0 < nw → Aw = some ad → C ad.block = 9) (hl : l.length ≤ 3000000) :
    Calls Try.prog 11 #[.pointer (some ⟨kb, 0, none⟩), u, .slice Aw nw cw] W (TakeS w0 C b fb cf g A n cap r B cb t kb (us ++ [u]) (ls ++ [l]) (M + 1) W) := by
  have hnm := h.nm
  refine (take_any C kb vR vW u us ls (ls.map strOf) l Aw nw cw W h.blk h.sl h.ws hu (fun x o hs => ⟨(hc0 x o hs).1, (hc0 x o hs).2.1⟩) hr h.ck (by rw [h.sl.len]; omega) (by rw [List.length_map]; omega) (fun ad hn e => by have := hwc ad hn e; omega)).mono ?_
  rintro e W' ⟨rfl, C', vR', vW', hk, hs, hw, hc, hsm⟩
  have hn : ∀ x c, C x = c → c ≠ 6 → c ≠ 7 → c ≠ 8 → ¬ (C x = 6 ∨ C x = 7 ∨ C x = 8) := fun x c e h1 h2 h3 hx => by omega
  have hBl : ∀ ad, 0 < b.length → B = some ad → ad.block < W.heap.size := fun ad hb e => by
    obtain ⟨b', off, e2, hlt, _⟩ := h.xf.rd.2 hb
    rw [e] at e2
    obtain rfl := Option.some.inj e2
    exact hlt
  refine ⟨rfl, C', vR', vW', ⟨hk, h.rdb.chg hc (hn _ _ h.cg (by decide) (by decide) (by decide)), h.rsg.chg hc (fun x o hx => hn _ _ (h.rc x o hx) (by decide) (by decide) (by decide)), h.xf.chg hc (hn _ _ h.cr (by decide) (by decide) (by decide)) (fun hb ad e => hn _ _ (h.cB ad hb e) (by decide) (by decide) (by decide)),
    hs, by rw [List.map_append]; exact hw, fun j y x o hy hx => ?_, fun x o hx => by rw [hsm x (h.rsg.lt hx)]; exact h.rc x o hx, by rw [hsm kb h.blk.lt]; exact h.ck, by rw [hsm g h.rdb.lt]; exact h.cg, by rw [hsm r h.xf.blk.lt]; exact h.cr,
    fun ad hb e => by rw [hsm _ (hBl ad hb e)]; exact h.cB ad hb e, ?_, by rw [hsm fb h.fblt]; exact h.cfb, by rw [List.length_append]; have := h.nm; simp; omega, fun l' hl' => ?_, h.bel.trans (hc.below (B := w0.heap.size) (fun x hx hSx => by have := h.sam x hx; simp only at this; omega) h.bel.size), h.sam.trans hsm h.bel.size⟩, hc, hsm⟩
  · rcases get_snoc hy with ⟨g1, _⟩ | ⟨_, e2⟩
    · exact h.rap j y x o g1 hx
    · rw [e2] at hx
      exact (hc0 x o hx).2.2
  · obtain ⟨y, hy, ho⟩ := h.full
    exact ⟨y, hy, hc.ob ho (fun k hk hx => by
      have : fb = k := by simpa [Value.ownBlock] using hk
      subst this
      exact hn _ _ h.cfb (by decide) (by decide) (by decide) hx)⟩
  · rcases List.mem_append.1 hl' with h1 | h1
    · exact h.sm l' h1
    · simp at h1
      rw [h1]; exact hl
/-- both readers go on by m bytes -/
theorem ST.adv (h : ST w0 W C b fb cf g A n cap r B cb t kb vR vW us ls M) {W1 : World} {m : Nat} (hx : XF W1 r B b.length cb b (t + m)) (hc : Chg (fun k => k = r) W W1) (hm : m ≤ n) :
    RD W1 g A n cap (b.drop t) ∧ ST w0 (advW W1 g A n cap m) C b fb cf g (advA A cap m) (n - m) (cap - m) r B cb (t + m) kb vR vW us ls M ∧ SG (advW W1 g A n cap m) (.slice A m m) ((b.drop t).take m) ∧
      (∀ x o, SegIn (.slice A m m) x o → C x = 3 ∧ (∀ (j : Nat) (y : Value), us[j]? = some y → ¬ SegIn y x o) ∧ ¬ SegIn (.slice (advA A cap m) (n - m) (cap - m)) x o) ∧ Chg (fun k => k = r ∨ k = g) W (advW W1 g A n cap m) := by
  have hnr : ∀ x c, C x = c → c ≠ 4 → ¬ x = r := fun x c e h1 hx => by rw [hx, h.cr] at e; omega
  have hng : ∀ x c, C x = c → c ≠ 2 → ¬ x = g := fun x c e h1 hx => by rw [hx, h.cg] at e; omega
  have hrd : RD W1 g A n cap (b.drop t) := ⟨h.rdb.chg hc (hnr _ _ h.cg (by decide)), (h.rsg.chg hc (fun x o hx => hnr _ _ (h.rc x o hx) (by decide))).rb, h.rd.hc⟩
  have hg2 : Chg (fun k => k = g) W1 (advW W1 g A n cap m) := Chg.setCell (S := fun k => k = g) (p := ⟨g, 0, none⟩) (Chg.refl _ W1) (.inl rfl) _
  obtain ⟨s1, s2, s3, s4, s5⟩ := (h.rsg.chg hc (fun x o hx => hnr _ _ (h.rc x o hx) (by decide))).cut hm
  have hdd : (b.drop t).drop m = b.drop (t + m) := by rw [List.drop_drop]
  rw [hdd] at s2
  have hBl : ∀ ad, 0 < b.length → B = some ad → ad.block ≠ g := fun ad hb e e2 => by have := h.cB ad hb e; rw [e2, h.cg] at this; omega
  refine ⟨hrd, ⟨(h.blk.chg hc (hnr _ _ h.ck (by decide))).chg hg2 (hng _ _ h.ck (by decide)), (hrd.adv hm).blk, s2.chg hg2 (fun x o hx => hng _ _ (h.rc x o (s4 x o hx)) (by decide)), hx.chg hg2 (hng _ _ h.cr (by decide)) (fun hb ad e => hBl ad hb e),
    (h.sl.step hc (Sam.refl _ _) (fun x hx => by have := h.cr; rw [hx]; omega)).step hg2 (Sam.refl _ _) (fun x hx => by have := h.cg; rw [hx]; omega), (h.ws.step hc (Sam.refl _ _) (fun x hx => by have := h.cr; rw [hx]; omega)).step hg2 (Sam.refl _ _) (fun x hx => by have := h.cg; rw [hx]; omega),
    fun j u x o hu hx hs => h.rap j u x o hu hx (s4 x o hs), fun x o hx => h.rc x o (s4 x o hx), h.ck, h.cg, h.cr, h.cB, ?_, h.cfb, h.nm, h.sm, ?_, h.sam⟩, s1.chg hg2 (fun x o hx => hng _ _ (h.rc x o (s3 x o hx)) (by decide)), fun x o hx => ⟨h.rc x o (s3 x o hx), fun j y hy hs => h.rap j y x o hy hs (s3 x o hx), s5 x o hx⟩, (hc.mono (fun k _ e => .inl e)).trans hg2 (fun k _ e => .inr e)⟩
  · obtain ⟨y, hy, ho⟩ := h.full
    refine ⟨y, hy, hg2.ob (hc.ob ho (fun k hk e => ?_)) (fun k hk e => ?_)⟩
    · have : fb = k := by simpa [Value.ownBlock] using hk
      subst this
      exact hnr _ _ h.cfb (by decide) e
    · have : fb = k := by simpa [Value.ownBlock] using hk
      subst this
      exact hng _ _ h.cfb (by decide) e
  · refine (h.bel.trans (hc.below (B := w0.heap.size) (fun x hx e => ?_) h.bel.size)).trans (hg2.below (B := w0.heap.size) (fun x hx e => ?_) (Nat.le_trans h.bel.size hc.size))
    · have := h.sam x hx
      simp only at this
      rw [e, h.cr] at this; omega
    · have := h.sam x hx
      simp only at this
      rw [e, h.cg] at this; omega
/-- the bytes that were handed in, written over -/
theorem ST.flip (h : ST w0 W C b fb cf g A n cap r B cb t kb vR vW us ls M) {y : List UInt8} {k : Nat} (x : UInt8) (hy : y.length = b.length) (ho : OB W 0 (.slice (some ⟨fb, 0, none⟩) (b.length + 2) cf) (y ++ [77, 78])) (hk : k < b.length) :
    ST w0 (W.setCell ⟨fb, k, none⟩ (.int .u8 (x.toNat : Int))) C b fb cf g A n cap r B cb t kb vR vW us ls M := by
  have hc : Chg (fun z => z = fb) W (W.setCell ⟨fb, k, none⟩ (.int .u8 (x.toNat : Int))) := Chg.setCell (S := fun z => z = fb) (p := ⟨fb, k, none⟩) (Chg.refl _ W) (.inl rfl) _
  have hn : ∀ z c, C z = c → c ≠ 1 → ¬ z = fb := fun z c e h1 hx => by rw [hx, h.cfb] at e; omega
  refine ⟨h.blk.chg hc (hn _ _ h.ck (by decide)), h.rdb.chg hc (hn _ _ h.cg (by decide)), h.rsg.chg hc (fun z o hx => hn _ _ (h.rc z o hx) (by decide)), h.xf.chg hc (hn _ _ h.cr (by decide)) (fun hb ad e => hn _ _ (h.cB ad hb e) (by decide)),
    h.sl.step hc (Sam.refl _ _) (fun z hx => by have := h.cfb; rw [hx]; omega), h.ws.step hc (Sam.refl _ _) (fun z hx => by have := h.cfb; rw [hx]; omega), h.rap, h.rc, h.ck, h.cg, h.cr, h.cB, ⟨y.set k x, by rw [List.length_set]; exact hy, ?_⟩, h.cfb, h.nm, h.sm, h.bel.trans (hc.below (B := w0.heap.size) (fun z hz e => ?_) h.bel.size), h.sam⟩
  · have := (ho.stored k x).1
    rwa [List.set_append_left _ _ (by omega)] at this
  · have := h.sam z hz
    simp only at this
    rw [e, h.cfb] at this; omega
end
end Go.Proofs.Ytngaohmfedoeeaa
