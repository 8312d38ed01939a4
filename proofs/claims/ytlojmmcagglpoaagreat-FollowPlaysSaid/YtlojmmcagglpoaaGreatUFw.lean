/- A FOLLOWER'S READER (package follow): its state, and how it lies in memory in a colour. -/
import Derived.Test.YtlojmmcagglpoaaGreatUDS
import Derived.Test.YtlojmmcagglpoaaGreatULinesWalk
namespace Go.Proofs.YtlojmmcagglpoaaGreat
open Go.RowKit
def NewPost (m : Nat) (w : World) (e : Ending) (w' : World) : Prop := ∃ g, g = w.heap.size ∧ e = .returned (.tuple #[.pointer (some ⟨g, 0, none⟩), .int .i64 0]) ∧ MK w' g (.slice none 0 0) m [] 0 ∧ Below w.heap.size w w' ∧ w'.heap.size = w.heap.size + 1
theorem new_ok (m : Nat) (w : World) (hm : m ≤ 4096) : Calls Tryz.prog 122 #[.int .i64 (m : Int)] w (NewPost m w) := by
  have hb : Blk (w.alloc (.cells #[.slice none 0 0, .int .i64 (m : Int), .int .i64 0, .int .i64 0] 229)) w.heap.size 229 #[.slice none 0 0, .int .i64 (m : Int), .int .i64 0, .int .i64 0] := Blk.new w _ _ rfl
  have HB := Lib.hid hb; clear hb
  go_enter Tryz.func122, Tryz.ntmps122
  go_wp2
  go_ret2
  refine ⟨_, rfl, rfl, ⟨by simpa using HB.out, by unfold heldOf; simp; exact OB.nil _ _⟩, (Below.refl _ _).alloc (Nat.le_refl _) _, by simp⟩
theorem held_any (g : Nat) (v : Value) (most long : Nat) (u : List UInt8) (w : World) (hm : MK w g v most u long) :
    Calls Tryz.prog 130 #[.pointer (some ⟨g, 0, none⟩)] w fun e w' => e = .returned (.int .i64 ((heldOf most u).length : Int)) ∧ w = w' := by
  have c0 : w.cell? ⟨g, 0, none⟩ = some v := hm.blk.cell 0
  obtain ⟨D, dc, rfl, _, _, _⟩ := hm.own.form
  generalize (heldOf most u).length = q at *
  clear hm
  go_enter Tryz.func130, Tryz.ntmps130
  go_wp2
  go_ret
  exact ⟨rfl, rfl⟩
theorem begun_any (g : Nat) (v : Value) (most long : Nat) (u : List UInt8) (w : World) (hm : MK w g v most u long) :
    Calls Tryz.prog 154 #[.pointer (some ⟨g, 0, none⟩)] w fun e w' => e = .returned (.int .i64 (u.length : Int)) ∧ w = w' := by
  have c2 : w.cell? ⟨g, 2, none⟩ = some (.int .i64 (u.length : Int)) := hm.blk.cell 2
  generalize u.length = q at *
  clear hm
  go_enter Tryz.func154, Tryz.ntmps154
  go_wp2
  go_ret
  exact ⟨rfl, rfl⟩
theorem long_any (g : Nat) (v : Value) (most long : Nat) (u : List UInt8) (w : World) (hm : MK w g v most u long) :
    Calls Tryz.prog 155 #[.pointer (some ⟨g, 0, none⟩)] w fun e w' => e = .returned (.int .i64 (long : Int)) ∧ w = w' := by
  have c3 : w.cell? ⟨g, 3, none⟩ = some (.int .i64 (long : Int)) := hm.blk.cell 3
  clear hm
  go_enter Tryz.func155, Tryz.ntmps155
  go_wp2
  go_ret
  exact ⟨rfl, rfl⟩
end Go.Proofs.YtlojmmcagglpoaaGreat
namespace Go.Proofs.YtlojmmcagglpoaaGreat
open Go.RowKit Go.Maps
structure FwS where
  se : Int
  ino : Int
  ge : Int
  off : Int
  mi : Int
  go : Int
  cu : Int
  ta : Int
  lo : Int
  u : List UInt8
  lc : Nat
structure FwK where
  line : Nat
  nm : List UInt8
  ro : List UInt8
  ch : Int
def FwS.mark (f : FwS) : Array Value := #[.int .i64 f.se, .int .i64 f.ino, .int .i64 f.ge, .int .i64 f.off, .int .i64 f.mi, .int .i64 f.go, .int .i64 f.cu, .int .i64 f.ta, .int .i64 f.lo]
def rdC (k : FwK) (f : FwS) (mb : Nat) : Array Value := #[.int .i64 f.se, .int .i64 f.ino, .int .i64 f.ge, .int .i64 f.off, .int .i64 f.mi, .int .i64 f.go, .int .i64 f.cu, .int .i64 f.ta, .int .i64 f.lo, .pointer (some ⟨mb, 0, none⟩), .string (strB k.nm), .string (strB k.ro), .int .i64 k.ch]
structure FwW (W : World) (C : Nat → Nat) (c rb mb : Nat) (v : Value) (k : FwK) (f : FwS) : Prop where
  blk : Blk W rb 218 (rdC k f mb)
  maker : MK W mb v k.line f.u f.lc
  cr : C rb = c
  cm : C mb = c
  cv : ∀ q, v.ownBlock = some q → C q = c
def FwR (W : World) (C : Nat → Nat) (c rb : Nat) (k : FwK) (f : FwS) : Prop := ∃ mb v, FwW W C c rb mb v k f
theorem MK.stp {S : Nat → Prop} {w w' : World} {g : Nat} {v : Value} {most long : Nat} {u : List UInt8} (h : MK w g v most u long) (hc : Chg S w w') (hg : ¬ S g) (hv : ∀ q, v.ownBlock = some q → ¬ S q) : MK w' g v most u long :=
  ⟨h.blk.chg hc hg, hc.own h.own hv⟩
section
variable {W w' w1 w2 : World} {C C' : Nat → Nat} {c rb mb : Nat} {v : Value} {k : FwK} {f g : FwS}
theorem FwW.lt (h : FwW W C c rb mb v k f) : rb < W.heap.size ∧ mb < W.heap.size ∧ ∀ q, v.ownBlock = some q → q < W.heap.size := ⟨h.blk.lt, h.maker.blk.lt, fun q hq => (World.ownsRow.lt h.maker.own q hq).2⟩
theorem FwW.apart (h : FwW W C c rb mb v k f) : rb ≠ mb := fun e => by
  have h1 := h.blk
  have h2 := h.maker.blk
  subst e
  unfold Blk at h1 h2
  rw [h1] at h2
  injection h2 with h2
  injection h2 with _ ht
  exact absurd ht (by decide)
theorem FwW.step (h : FwW W C c rb mb v k f) {S : Nat → Prop} (hc : Chg S W w') (hs : Sam W.heap.size C C') (hS : ∀ b, S b → C b ≠ c) : FwW w' C' c rb mb v k f :=
  ⟨h.blk.chg hc (fun e => hS _ e h.cr), h.maker.stp hc (fun e => hS _ e h.cm) (fun q hq e => hS _ e (h.cv q hq)), (hs _ h.lt.1).trans h.cr, (hs _ h.lt.2.1).trans h.cm, fun q hq => (hs _ (h.lt.2.2 q hq)).trans (h.cv q hq)⟩
theorem FwR.step (h : FwR W C c rb k f) {S : Nat → Prop} (hc : Chg S W w') (hs : Sam W.heap.size C C') (hS : ∀ b, S b → C b ≠ c) : FwR w' C' c rb k f := by
  obtain ⟨mb, v, h⟩ := h; exact ⟨mb, v, h.step hc hs hS⟩
theorem FwR.keep (h : FwR W C c rb k f) (hb : Below W.heap.size W w') : FwR w' C c rb k f := h.step (S := fun _ => False) (Chg.of_below hb _) (Sam.refl _ _) (fun _ e => e.elim)
def FwQ (W : World) (C : Nat → Nat) (c rb : Nat) (k : FwK) (f : FwS) (w' : World) : Prop := FwR w' (paint C W.heap.size c) c rb k f ∧ Chg (fun b => C b = c) W w'
theorem FwQ.refl (h : FwR W C c rb k f) : FwQ W C c rb k f W := ⟨h.step (S := fun _ => False) (Chg.refl _ _) (sam_paint _ _ _) (fun _ e => e.elim), Chg.refl _ _⟩
theorem FwQ.trans (h : FwQ W C c rb k f w1) (h2 : FwQ w1 (paint C W.heap.size c) c rb k g w2) : FwQ W C c rb k g w2 :=
  ⟨by have := h2.1; rw [paint_paint C c h.2.size] at this; exact this, (chg_paint h.2 h2.2).mono (fun _ _ e => e.elim id id)⟩
theorem FwQ.below (h : FwQ W C c rb k f w1) (hb : Below w1.heap.size w1 w2) : FwQ W C c rb k f w2 := ⟨h.1.keep hb, h.2.trans (Chg.of_below hb (fun b => C b = c)) (fun _ _ h => h)⟩
def FwS.put (f : FwS) (i : Nat) (x : Int) : FwS := match i with
  | 0 => { f with se := x }
  | 1 => { f with ino := x }
  | 2 => { f with ge := x }
  | 3 => { f with off := x }
  | 4 => { f with mi := x }
  | 5 => { f with go := x }
  | 6 => { f with cu := x }
  | 7 => { f with ta := x }
  | _ => { f with lo := x }
theorem FwS.put_u (f : FwS) (i : Nat) (x : Int) : (f.put i x).u = f.u ∧ (f.put i x).lc = f.lc := by
  unfold FwS.put; split <;> exact ⟨rfl, rfl⟩
theorem rdC_put (k : FwK) (f : FwS) (mb i : Nat) (x : Int) (hi : i < 9) : rdC k (f.put i x) mb = (rdC k f mb).setIfInBounds i (.int .i64 x) := by
  match i, hi with
  | 0, _ => rfl
  | 1, _ => rfl
  | 2, _ => rfl
  | 3, _ => rfl
  | 4, _ => rfl
  | 5, _ => rfl
  | 6, _ => rfl
  | 7, _ => rfl
  | 8, _ => rfl
theorem FwW.put (h : FwW W C c rb mb v k f) {i : Nat} (hi : i < 9) (x : Int) : FwW (W.setCell ⟨rb, i, none⟩ (.int .i64 x)) C c rb mb v k (f.put i x) := by
  have hch : Chg (fun b => b = rb) W (W.setCell ⟨rb, i, none⟩ (.int .i64 x)) := Chg.setCell (S := fun b => b = rb) (p := ⟨rb, i, none⟩) (Chg.refl _ W) (.inl rfl) _
  refine ⟨by rw [rdC_put k f mb i x hi]; exact h.blk.set_ i _, ?_, h.cr, h.cm, h.cv⟩
  rw [(f.put_u i x).1, (f.put_u i x).2]
  exact h.maker.stp hch (fun e => h.apart e.symm) (fun q hq e => h.blk.apart h.maker.own (by decide) (by rw [hq, e]))
theorem FwR.put (h : FwR W C c rb k f) {i : Nat} (hi : i < 9) (x : Int) : FwR (W.setCell ⟨rb, i, none⟩ (.int .i64 x)) C c rb k (f.put i x) := by
  obtain ⟨mb, v, h⟩ := h; exact ⟨mb, v, h.put hi x⟩
theorem FwQ.put (h : FwQ W C c rb k f w1) {i : Nat} (hi : i < 9) (x : Int) : FwQ W C c rb k (f.put i x) (w1.setCell ⟨rb, i, none⟩ (.int .i64 x)) := by
  refine ⟨h.1.put hi x, h.2.setCell ?_ _⟩
  obtain ⟨mb, v, hf⟩ := h.1
  have hr := hf.cr
  by_cases e : rb < W.heap.size
  · rw [paint_old C c e] at hr; exact .inl hr
  · exact .inr (by show W.heap.size ≤ rb; omega)
theorem FwQ.drew (h : FwQ W C c rb k f w1) : FwQ W C c rb k f w1.drew := h.below (Below.refl _ _).drew
theorem FwR.cells (h : FwR W C c rb k f) : W.cell? ⟨rb, 0, none⟩ = some (.int .i64 f.se) ∧ W.cell? ⟨rb, 1, none⟩ = some (.int .i64 f.ino) ∧ W.cell? ⟨rb, 2, none⟩ = some (.int .i64 f.ge) ∧ W.cell? ⟨rb, 3, none⟩ = some (.int .i64 f.off) ∧ W.cell? ⟨rb, 4, none⟩ = some (.int .i64 f.mi) ∧ W.cell? ⟨rb, 5, none⟩ = some (.int .i64 f.go) ∧ W.cell? ⟨rb, 6, none⟩ = some (.int .i64 f.cu) ∧ W.cell? ⟨rb, 7, none⟩ = some (.int .i64 f.ta) ∧ W.cell? ⟨rb, 8, none⟩ = some (.int .i64 f.lo) ∧ W.cell? ⟨rb, 10, none⟩ = some (.string (strB k.nm)) ∧ W.cell? ⟨rb, 11, none⟩ = some (.string (strB k.ro)) ∧ W.cell? ⟨rb, 12, none⟩ = some (.int .i64 k.ch) := by
  obtain ⟨mb, v, h⟩ := h
  exact ⟨h.blk.cell 0, h.blk.cell 1, h.blk.cell 2, h.blk.cell 3, h.blk.cell 4, h.blk.cell 5, h.blk.cell 6, h.blk.cell 7, h.blk.cell 8, h.blk.cell 10, h.blk.cell 11, h.blk.cell 12⟩
theorem FwR.frozen (h : FwR W C c rb k f) (i : Nat) : W.frozen? ⟨rb, i, none⟩ = false := by
  obtain ⟨mb, v, h⟩ := h; exact h.blk.frozen i
theorem FwR.maker (h : FwR W C c rb k f) : ∃ mb v, W.cell? ⟨rb, 9, none⟩ = some (.pointer (some ⟨mb, 0, none⟩)) ∧ MK W mb v k.line f.u f.lc ∧
    ∀ w' v' u' lc', MK w' mb v' k.line u' lc' → Chg (ownF mb v) W w' → Fresh W v v' → FwQ W C c rb k { f with u := u', lc := lc' } w' := by
  obtain ⟨mb, v, h⟩ := h
  refine ⟨mb, v, h.blk.cell 9, h.maker, fun w' v' u' lc' hm hc hf => ⟨⟨mb, v', ?_, hm, ?_, ?_, fun q hq => ?_⟩, hc.mono (fun b _ hb => ?_)⟩⟩
  · refine h.blk.chg hc (fun e => ?_)
    rcases e with e | e
    · exact h.apart e
    · exact h.blk.apart h.maker.own (by decide) e
  · rw [paint_old C c h.lt.1]; exact h.cr
  · rw [paint_old C c h.lt.2.1]; exact h.cm
  · rcases hf q hq with e | e
    · rw [paint_old C c (h.lt.2.2 q e)]; exact h.cv q e
    · exact paint_new C c e
  · rcases hb with e | e
    · rw [e]; exact h.cm
    · exact h.cv b e
end
theorem FwR.only {W : World} {C : Nat → Nat} {c rb : Nat} {k : FwK} {f : FwS} (h : FwR W C c rb k f) : ∃ C' : Nat → Nat, FwR W C' c rb k f ∧
    (∀ (b : Nat) (t : TypeId) (dc : Array Value), Blk W b t dc → t ≠ 218 → t ≠ 229 → t ≠ 5 → C' b ≠ c) ∧
    (∀ b, C' b = c → C b = c) ∧ ∀ g w', FwQ W C' c rb k g w' → FwQ W C c rb k g w' := by
  obtain ⟨mb, v, hf⟩ := h
  have hlt := hf.lt
  refine ⟨fun b => if b = rb ∨ b = mb ∨ v.ownBlock = some b then c else c + 1, ⟨mb, v, hf.blk, hf.maker, if_pos (.inl rfl), if_pos (.inr (.inl rfl)), fun q hq => if_pos (.inr (.inr hq))⟩, fun b t dc hb h1 h2 h3 => ?_, fun b hb => ?_, fun g w' hq => ?_⟩
  · have hn : ¬ (b = rb ∨ b = mb ∨ v.ownBlock = some b) := by
      rintro (e | e | e)
      · subst e
        have := hf.blk
        unfold Blk at this hb
        rw [hb] at this
        injection this with this
        injection this with _ ht
        exact h1 ht
      · subst e
        have := hf.maker.blk
        unfold Blk at this hb
        rw [hb] at this
        injection this with this
        injection this with _ ht
        exact h2 ht
      · exact hb.apart hf.maker.own (fun e2 => h3 e2.symm) e
    show (if _ then c else c + 1) ≠ c
    rw [if_neg hn]; omega
  · by_cases hn : b = rb ∨ b = mb ∨ v.ownBlock = some b
    · rcases hn with e | e | e
      · rw [e]; exact hf.cr
      · rw [e]; exact hf.cm
      · exact hf.cv b e
    · exfalso
      have hb2 : (if b = rb ∨ b = mb ∨ v.ownBlock = some b then c else c + 1) = c := hb
      rw [if_neg hn] at hb2; omega
  · have key : ∀ b, (if b = rb ∨ b = mb ∨ v.ownBlock = some b then c else c + 1) = c → C b = c := fun b hb => by
      by_cases hn : b = rb ∨ b = mb ∨ v.ownBlock = some b
      · rcases hn with e | e | e
        · rw [e]; exact hf.cr
        · rw [e]; exact hf.cm
        · exact hf.cv b e
      · rw [if_neg hn] at hb; omega
    have key2 : ∀ b, paint (fun b => if b = rb ∨ b = mb ∨ v.ownBlock = some b then c else c + 1) W.heap.size c b = c → paint C W.heap.size c b = c := fun b hb => by
      by_cases e : b < W.heap.size
      · rw [paint_old _ _ e] at hb ⊢; exact key b hb
      · exact paint_new _ _ (by omega)
    obtain ⟨⟨mb2, v2, hf2⟩, hc⟩ := hq
    exact ⟨⟨mb2, v2, hf2.blk, hf2.maker, key2 _ hf2.cr, key2 _ hf2.cm, fun q hq => key2 _ (hf2.cv q hq)⟩, hc.mono (fun b _ hb => key b hb)⟩
def AskF (W : World) (t : Int × Int × Int × Int × Int) (e : Ending) (w' : World) : Prop := e = .returned (.tuple #[.agg #[.int .i64 t.1, .int .i64 t.2.1, .int .i64 t.2.2.1, .int .i64 t.2.2.2.1], .int .i64 t.2.2.2.2]) ∧ Below W.heap.size W w'
def BytF (W : World) (y : List UInt8 × Int) (e : Ending) (w' : World) : Prop := ∃ v, e = .returned (.tuple #[v, .int .i64 y.2]) ∧ OB w' W.heap.size v y.1 ∧ Below W.heap.size W w'
abbrev T5 := Int × Int × Int × Int × Int
structure Asks (p : Nat) (D : World → Prop) (S : List UInt8 → T5) (I : Int → T5) (R : Int → Int → Int → Int → List UInt8 × Int) : Prop where
  stat : ∀ W nm, D W → Calls Tryz.prog 44 #[.pointer (some ⟨p, 0, none⟩), .string (strB nm)] W (AskF W (S nm))
  inode : ∀ W i, okInt i → D W → Calls Tryz.prog 52 #[.pointer (some ⟨p, 0, none⟩), .int .i64 i] W (AskF W (I i))
  read : ∀ W i g o s, okInt i → okInt o → okInt s → D W → Calls Tryz.prog 50 #[.pointer (some ⟨p, 0, none⟩), .int .i64 i, .int .i64 g, .int .i64 o, .int .i64 s] W (BytF W (R i g o s))
def Stay (W : World) (C : Nat → Nat) (c : Nat) (D : World → Prop) : Prop := ∀ w, Chg (fun b => C b = c) W w → D w
theorem Stay.next {W w1 : World} {C : Nat → Nat} {c : Nat} {D : World → Prop} (h : Stay W C c D) (hc : Chg (fun b => C b = c) W w1) : Stay w1 (paint C W.heap.size c) c D := fun w hw => h w ((chg_paint hc hw).mono (fun _ _ e => e.elim id id))
theorem Stay.only {W : World} {C C' : Nat → Nat} {c : Nat} {D : World → Prop} (h : Stay W C c D) (hc : ∀ b, C' b = c → C b = c) : Stay W C' c D := fun w hw => h w (hw.mono (fun b _ e => hc b e))
theorem Stay.now {W : World} {C : Nat → Nat} {c : Nat} {D : World → Prop} (h : Stay W C c D) : D W := h W (Chg.refl _ _)
end Go.Proofs.YtlojmmcagglpoaaGreat
