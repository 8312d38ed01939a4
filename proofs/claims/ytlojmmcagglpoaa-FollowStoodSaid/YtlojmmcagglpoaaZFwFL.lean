/- What FollowStood holds: a follower beside its disk, and the mark of the last line; the script's row. -/
import Derived.Test.YtlojmmcagglpoaaZFwFix
namespace Go.Proofs.Ytlojmmcagglpoaa
open Go.RowKit Go.Maps
theorem stepF_lc (S : List UInt8 → T5) (I : Int → T5) (R : Int → Int → Int → Int → List UInt8 × Int) (k : FwK) (f : FwS) : (stepF S I R k f).1.lc ≤ f.lc + 1 := by
  unfold stepF
  split
  · split
    · exact Nat.le_succ _
    · exact Nat.le_succ _
  split
  · exact Nat.le_succ _
  split
  · exact Nat.le_succ _
  split
  · exact (feedL_le k.line f.lc f.u _).2
  split
  · show (f.turnsF (S k.nm)).lc ≤ f.lc + 1
    unfold FwS.turnsF
    split <;> exact Nat.le_succ _
  · exact Nat.le_succ _
theorem heldOf_le (n : Nat) (u : List UInt8) : (heldOf n u).length ≤ n := by
  unfold heldOf
  split
  · assumption
  · exact Nat.zero_le _
structure FL (w0 W : World) (C : Nat → Nat) (p n : Nat) (d : Dk) (fl rb : Nat) (k : FwK) (f : FwS) (P : World → Prop) (lb : Nat) (m : FwS) : Prop where
  g : FG w0 W C p n d fl rb k f P
  hlb : Blk W lb 37 m.mark
  hlc : C lb = 4
  hlo : w0.heap.size ≤ lb
section
variable {w0 W w' : World} {C C' : Nat → Nat} {p n fl rb lb : Nat} {d : Dk} {k : FwK} {f g m : FwS} {P : World → Prop}
theorem FL.below (h : FL w0 W C p n d fl rb k f P lb m) (hb : Below W.heap.size W w') : FL w0 w' C p n d fl rb k f P lb m := ⟨h.g.below hb, h.hlb.keep hb, h.hlc, h.hlo⟩
theorem FL.new (h : FL w0 W C p n d fl rb k f P lb m) {b : Nat} {t : TypeId} {cs : Array Value} (hb : Below W.heap.size W w') (hk : Blk w' b t cs) (hlo : W.heap.size ≤ b) : FL w0 w' (paint C W.heap.size 3) p n d fl rb k f (fun w => P w ∧ Blk w b t cs) lb m :=
  ⟨h.g.new hb hk hlo, h.hlb.keep hb, (paint_old C 3 h.hlb.lt).trans h.hlc, h.hlo⟩
theorem FL.mono (h : FL w0 W C p n d fl rb k f P lb m) {Q : World → Prop} (hp : ∀ w, P w → Q w) : FL w0 W C p n d fl rb k f Q lb m := ⟨h.g.mono hp, h.hlb, h.hlc, h.hlo⟩
theorem FL.stepC (h : FL w0 W C p n d fl rb k f P lb m) (hf : f.Ok) (hch : okInt k.ch) (hul : f.u.length ≤ 1048576) (hli : k.line ≤ 4096) (hlc : f.lc ≤ 1000000000) : Calls Try.prog 13 #[.pointer (some ⟨fl, 0, none⟩), .pointer (some ⟨p, 0, none⟩)] W fun e w' => e = .returned (.tuple #[.agg (lineO f (stepF d.sti d.ini d.read k f).2), .bool (stepF d.sti d.ini d.read k f).2.isSome]) ∧ FL w0 w' (paint C W.heap.size 2) p n d fl rb k (stepF d.sti d.ini d.read k f).1 P lb m :=
  (fw_step h.g.fr (asks_dc w0.heap.size C 1 p n d) (stay_dc h.g.ds.dc (by decide)) h.g.h.now.1 h.g.ds.dc.ok.asks hf hch (Nat.le_trans hul (by decide)) hli hlc).mono fun _ _ e => ⟨e.1, h.g.go e.2, h.hlb.chg e.2.2 (fun e2 => by rw [h.hlc] at e2; cases e2), (paint_old C 2 h.hlb.lt).trans h.hlc, h.hlo⟩
theorem FL.did (h : FL w0 W C p n d fl rb k f P lb m) {e : Ending} (hq : DoesQ W w0.heap.size C 1 p n d e w') : ∃ d', Mv d d' ∧ FL w0 w' (paint C W.heap.size 1) p (n + 2) d' fl rb k f P lb m := by
  obtain ⟨d', hm, hg⟩ := h.g.did hq
  obtain ⟨_, _, _, _, hc⟩ := hq
  exact ⟨d', hm, hg, h.hlb.chg hc (fun e2 => by rw [h.hlc] at e2; cases e2), (paint_old C 1 h.hlb.lt).trans h.hlc, h.hlo⟩
/-- the last line's mark is written -/
theorem FL.put (h : FL w0 W C p n d fl rb k f P lb m) (hb : Blk w' lb 37 g.mark) (hc : Chg (fun b => b = lb) W w') : FL w0 w' C p n d fl rb k f P lb g :=
  have key : ∀ b, b = lb → C b = 4 := fun b e => by rw [e]; exact h.hlc
  ⟨⟨h.g.ds.chg hc (Sam.refl _ _) (fun b e => ⟨by rw [key b e]; decide, by rw [e]; exact h.hlo⟩), h.g.fr.step hc (Sam.refl _ _) (fun b e => by rw [key b e]; decide), h.g.h.step hc (Sam.refl _ _) (fun b e => by rw [key b e]; decide)⟩, hb, h.hlc, h.hlo⟩
/-- the box is made -/
theorem FG.last (h : FG w0 W C p n d fl rb k f P) (hb : Below W.heap.size W w') (hk : Blk w' lb 37 m.mark) (hlo : W.heap.size ≤ lb) : FL w0 w' (paint C W.heap.size 4) p n d fl rb k f P lb m :=
  ⟨⟨h.ds.keep2 hb (sam_paint _ _ _), h.fr.step (S := fun _ => False) (Chg.of_below hb _) (sam_paint _ _ _) (fun _ e => e.elim), h.h.keep hb (sam_paint _ _ _)⟩, hk, paint_new C 4 hlo, Nat.le_trans h.ds.bel.size hlo⟩
end
/-- the script that came in -/
structure SF (W : World) (A : Option Addr) (n : Nat) (l : List O17) : Prop where
  len : l.length = n
  in_ : ∀ o ∈ l, o.In W
  at_ : 0 < n → ∃ b off, A = some ⟨b, off, none⟩ ∧ b < W.heap.size ∧ ∀ (i : Nat) (o : O17), l[i]? = some o → ∀ (k : Nat) (u : Value), (oC17 o)[k]? = some u → W.cell? ⟨b, off + i * 15 + k, none⟩ = some u
/-- a mark's nine cells, written one by one -/
theorem Blk.mark9 {w : World} {r : Nat} {m g : FwS} (h : Blk w r 37 m.mark) : Blk (((((((((w.setCell ⟨r, 0, none⟩ (.int .i64 g.se)).setCell ⟨r, 1, none⟩ (.int .i64 g.ino)).setCell ⟨r, 2, none⟩ (.int .i64 g.ge)).setCell ⟨r, 3, none⟩ (.int .i64 g.off)).setCell ⟨r, 4, none⟩ (.int .i64 g.mi)).setCell ⟨r, 5, none⟩ (.int .i64 g.go)).setCell ⟨r, 6, none⟩ (.int .i64 g.cu)).setCell ⟨r, 7, none⟩ (.int .i64 g.ta)).setCell ⟨r, 8, none⟩ (.int .i64 g.lo)) r 37 g.mark ∧
    Chg (fun b => b = r) w (((((((((w.setCell ⟨r, 0, none⟩ (.int .i64 g.se)).setCell ⟨r, 1, none⟩ (.int .i64 g.ino)).setCell ⟨r, 2, none⟩ (.int .i64 g.ge)).setCell ⟨r, 3, none⟩ (.int .i64 g.off)).setCell ⟨r, 4, none⟩ (.int .i64 g.mi)).setCell ⟨r, 5, none⟩ (.int .i64 g.go)).setCell ⟨r, 6, none⟩ (.int .i64 g.cu)).setCell ⟨r, 7, none⟩ (.int .i64 g.ta)).setCell ⟨r, 8, none⟩ (.int .i64 g.lo)) := by
  unfold FwS.mark at h
  have h1 := (((((((((h.set_ 0 (.int .i64 g.se)).set_ 1 (.int .i64 g.ino)).set_ 2 (.int .i64 g.ge)).set_ 3 (.int .i64 g.off)).set_ 4 (.int .i64 g.mi)).set_ 5 (.int .i64 g.go)).set_ 6 (.int .i64 g.cu)).set_ 7 (.int .i64 g.ta)).set_ 8 (.int .i64 g.lo))
  simp only [List.setIfInBounds_toArray, List.set_cons_zero, List.set_cons_succ] at h1
  exact ⟨h1, (((((((((Chg.refl (fun b => b = r) w).setCell (.inl rfl) _).setCell (.inl rfl) _).setCell (.inl rfl) _).setCell (.inl rfl) _).setCell (.inl rfl) _).setCell (.inl rfl) _).setCell (.inl rfl) _).setCell (.inl rfl) _).setCell (.inl rfl) _⟩
end Go.Proofs.Ytlojmmcagglpoaa
