/- A follower, its disk, and what lies beside them, in memory of a call's own; the plain facts of the first, fixed steps (package heronlaw17). -/
import Derived.Test.YtlojmmcagglpoaaZFwDoes
import Derived.Test.YtlojmmcagglpoaaZFwMark
import Derived.Test.YtlojmmcagglpoaaZOneFile
namespace Go.Proofs.Ytlojmmcagglpoaa
open Go.RowKit Go.Maps
def nA : List UInt8 := [97]
def nA1 : List UInt8 := [97, 46, 49]
theorem mayA : mayB nA = true := mayB_of (by decide)
theorem mayA1 : mayB nA1 = true := mayB_of (by decide)
def fw0 : FwS := ⟨0, 0, 0, 0, 0, 0, 0, 0, 0, [], 0⟩
/-- the reader born, its colour apart from all that is not its own -/
theorem FwR.born {W w' : World} {C : Nat → Nat} {rb : Nat} {k : FwK} {f : FwS} (h : FwR w' (paint C W.heap.size 2) 2 rb k f) (h0 : ∀ b, b < W.heap.size → C b ≠ 2) : ∃ C3 : Nat → Nat, Sam W.heap.size C C3 ∧ FwR w' C3 2 rb k f ∧
    ∀ (b : Nat) (t : TypeId) (dc : Array Value), Blk w' b t dc → W.heap.size ≤ b → t ≠ 104 → t ≠ 145 → t ≠ 5 → C3 b = 3 := by
  obtain ⟨C2, ⟨mb, v, hf⟩, ht, hs, _⟩ := h.only
  have key : ∀ b, C2 b = 2 → (if b < W.heap.size then C b else if C2 b = 2 then 2 else 3) = 2 := fun b hb => by
    by_cases hlt : b < W.heap.size
    · have h1 := hs b hb
      rw [paint_old C 2 hlt] at h1
      exact absurd h1 (h0 b hlt)
    · rw [if_neg hlt, if_pos hb]
  refine ⟨fun b => if b < W.heap.size then C b else if C2 b = 2 then 2 else 3, fun b hb => if_pos hb, ⟨mb, v, hf.blk, hf.maker, key _ hf.cr, key _ hf.cm, fun q hq => key _ (hf.cv q hq)⟩, fun b t dc hb hlo h1 h2 h3 => ?_⟩
  show (if b < W.heap.size then C b else if C2 b = 2 then 2 else 3) = 3
  rw [if_neg (by omega), if_neg (ht b t dc hb h1 h2 h3)]
/-- a follower at fl, its disk at p, and what is held beside them -/
structure FG (w0 W : World) (C : Nat → Nat) (p n : Nat) (d : Dk) (fl rb : Nat) (k : FwK) (f : FwS) (P : World → Prop) : Prop where
  ds : DS w0 W C p n d
  fr : FwR W C 2 rb k f
  h : Fr W C (fun w => Blk w fl 107 #[.pointer (some ⟨rb, 0, none⟩)] ∧ P w)
section
variable {w0 W w' : World} {C C' : Nat → Nat} {p n fl rb : Nat} {d : Dk} {k : FwK} {f g : FwS} {P : World → Prop}
theorem FG.below (h : FG w0 W C p n d fl rb k f P) (hb : Below W.heap.size W w') : FG w0 w' C p n d fl rb k f P := ⟨h.ds.keep hb, h.fr.keep hb, h.h.keep hb (Sam.refl _ _)⟩
theorem FG.new (h : FG w0 W C p n d fl rb k f P) {b : Nat} {t : TypeId} {cs : Array Value} (hb : Below W.heap.size W w') (hk : Blk w' b t cs) (hlo : W.heap.size ≤ b) : FG w0 w' (paint C W.heap.size 3) p n d fl rb k f (fun w => P w ∧ Blk w b t cs) :=
  ⟨h.ds.keep2 hb (sam_paint _ _ _), h.fr.step (S := fun _ => False) (Chg.of_below hb _) (sam_paint _ _ _) (fun _ e => e.elim), ((h.h.keep hb (sam_paint _ _ _)).and (Fr.blk hk (paint_new C 3 hlo))).mono (fun _ e => ⟨e.1.1, e.1.2, e.2⟩)⟩
theorem FG.mono (h : FG w0 W C p n d fl rb k f P) {Q : World → Prop} (hp : ∀ w, P w → Q w) : FG w0 W C p n d fl rb k f Q := ⟨h.ds, h.fr, h.h.mono (fun _ e => ⟨e.1, hp _ e.2⟩)⟩
theorem FG.go (h : FG w0 W C p n d fl rb k f P) (hq : FwQ W C 2 rb k g w') : FG w0 w' (paint C W.heap.size 2) p n d fl rb k g P :=
  ⟨h.ds.chg hq.2 (sam_paint _ _ _) (fun b hb => ⟨by rw [hb]; decide, Nat.le_of_not_lt fun hlt => by have := h.ds.sam b hlt; rw [hb] at this; cases this⟩), hq.1, h.h.step hq.2 (sam_paint _ _ _) (fun b hb e => by rw [hb] at e; cases e)⟩
theorem FG.did (h : FG w0 W C p n d fl rb k f P) {e : Ending} (hq : DoesQ W w0.heap.size C 1 p n d e w') : ∃ d', Mv d d' ∧ FG w0 w' (paint C W.heap.size 1) p (n + 2) d' fl rb k f P := by
  obtain ⟨d', _, hm, hd, hc⟩ := hq
  exact ⟨d', hm, ⟨h.ds.bel.trans (hc.below (fun q hq e => by have := h.ds.sam q hq; rw [e] at this; cases this) h.ds.bel.size), h.ds.sam.trans (sam_paint _ _ _) h.ds.bel.size, hd⟩, h.fr.step hc (sam_paint _ _ _) (fun b hb e => by rw [hb] at e; cases e), h.h.step hc (sam_paint _ _ _) (fun b hb e => by rw [hb] at e; cases e)⟩
theorem FG.stepC (h : FG w0 W C p n d fl rb k f P) (hf : f.Ok) (hch : okInt k.ch) (hul : f.u.length ≤ 1048576) (hli : k.line ≤ 4096) (hlc : f.lc ≤ 1000000000) : Calls Try.prog 13 #[.pointer (some ⟨fl, 0, none⟩), .pointer (some ⟨p, 0, none⟩)] W fun e w' => e = .returned (.tuple #[.agg (lineO f (stepF d.sti d.ini d.read k f).2), .bool (stepF d.sti d.ini d.read k f).2.isSome]) ∧ FG w0 w' (paint C W.heap.size 2) p n d fl rb k (stepF d.sti d.ini d.read k f).1 P :=
  (fw_step h.fr (asks_dc w0.heap.size C 1 p n d) (stay_dc h.ds.dc (by decide)) h.h.now.1 h.ds.dc.ok.asks hf hch (Nat.le_trans hul (by decide)) hli hlc).mono fun _ _ e => ⟨e.1, h.go e.2⟩
theorem FG.markC (h : FG w0 W C p n d fl rb k f P) : Calls Try.prog 15 #[.pointer (some ⟨fl, 0, none⟩)] W fun e w' => e = .returned (.agg f.mark) ∧ Below W.heap.size W w' := fw_mark h.fr h.h.now.1
theorem FG.heldC (h : FG w0 W C p n d fl rb k f P) : Calls Try.prog 31 #[.pointer (some ⟨fl, 0, none⟩)] W fun e w' => e = .returned (.int .i64 ((heldOf k.line f.u).length : Int)) ∧ W = w' := fw_held h.fr h.h.now.1
/-- a follower is made -/
theorem DS.newC (h : DS w0 W C p n d) (h0 : ∀ b, b < W.heap.size → C b ≠ 2) (hP : Fr W C P) (k : FwK) (f : FwS) (hn : mayPB d.sti k = true) (hl : mayNB (k.line : Int) k.ch f = true) : Calls Try.prog 10 #[.agg #[.string (strB k.nm), .string (strB k.ro)], .int .i64 (k.line : Int), .int .i64 k.ch, .agg f.mark, .pointer (some ⟨p, 0, none⟩)] W fun e w' => ∃ fl rb C3, e = .returned (.tuple #[.pointer (some ⟨fl, 0, none⟩), .int .i64 0]) ∧ FG w0 w' C3 p n d fl rb k (f.born d.sti k) P ∧ Below W.heap.size W w' := by
  refine (fw_new_ok C 2 k f (asks_dc w0.heap.size C 1 p n d) (fun w hb => h.dc.keep hb (Sam.refl _ _)) hn hl).mono ?_
  rintro e w' ⟨fl, rb, he, hfl, hr, h1, h2, hb⟩
  obtain ⟨C3, hs, hr3, ht⟩ := hr.born h0
  exact ⟨fl, rb, C3, he, ⟨h.keep2 hb hs, hr3, (Fr.blk hfl (ht fl _ _ hfl h1 (by decide) (by decide) (by decide))).and (hP.keep hb hs)⟩, hb⟩
end
/-! ### The first, fixed steps -/
def kF : FwK := ⟨5, nA, nA1, 4⟩
def xF : List UInt8 := [97, 98, 10, 99, 100, 101, 102, 103, 10, 120]
def fw1 : FwS := ⟨1, 1, 0, 0, 0, 0, 0, 0, 0, [], 0⟩
def fw2 : FwS := ⟨1, 1, 0, 3, 0, 0, 0, 0, 0, [], 0⟩
def fw3 : FwS := ⟨1, 1, 0, 3, 0, 0, 0, 0, 0, [99, 100, 101, 102], 0⟩
def fw4 : FwS := ⟨1, 1, 0, 9, 0, 0, 0, 0, 0, [], 0⟩
theorem fix_facts {S : List UInt8 → T5} {I : Int → T5} {R : Int → Int → Int → Int → List UInt8 × Int} (hS : S nA = (1, 1, 0, 10, 0)) (hI : I 1 = (1, 1, 0, 10, 0)) (h0 : R 1 0 0 4 = ([97, 98, 10, 99], 0)) (h3 : R 1 0 3 4 = ([99, 100, 101, 102], 0)) (h7 : R 1 0 7 4 = ([103, 10, 120], 0)) :
    stepF S I R kF fw0 = (fw1, none) ∧ stepF S I R kF fw1 = (fw2, some [97, 98]) ∧ stepF S I R kF fw2 = (fw3, none) ∧ stepF S I R kF fw3 = (fw4, some [99, 100, 101, 102, 103]) := by
  refine ⟨?_, ?_, ?_, ?_⟩
  · unfold stepF
    show (if (0 : Int) = 0 then (if nextB (S nA) fw0 = true then fw0.takeUp (S nA) else fw0, none) else _) = _
    rw [if_pos rfl, hS, if_pos (by decide)]
    rfl
  · unfold stepF
    have e1 : I fw1.ino = (1, 1, 0, 10, 0) := hI
    have e2 : R fw1.ino fw1.ge (fw1.off + (fw1.u.length : Int)) kF.ch = ([97, 98, 10, 99], 0) := h0
    rw [if_neg (by decide), e1, if_neg (by decide), if_neg (by decide), e2, if_pos ⟨rfl, by decide⟩]
    simp only
    rw [if_pos (by decide)]
    rfl
  · unfold stepF
    have e1 : I fw2.ino = (1, 1, 0, 10, 0) := hI
    have e2 : R fw2.ino fw2.ge (fw2.off + (fw2.u.length : Int)) kF.ch = ([99, 100, 101, 102], 0) := h3
    rw [if_neg (by decide), e1, if_neg (by decide), if_neg (by decide), e2, if_pos ⟨rfl, by decide⟩]
    simp only
    rw [if_neg (by decide)]
    rfl
  · unfold stepF
    have e1 : I fw3.ino = (1, 1, 0, 10, 0) := hI
    have e2 : R fw3.ino fw3.ge (fw3.off + (fw3.u.length : Int)) kF.ch = ([103, 10, 120], 0) := h7
    rw [if_neg (by decide), e1, if_neg (by decide), if_neg (by decide), e2, if_pos ⟨rfl, by decide⟩]
    simp only
    rw [if_pos (by decide)]
    rfl
theorem F1.fix {d : Dk} (h : F1 d nA ⟨nA, xF, 0, 0⟩ [nA]) : d.sti nA = (1, 1, 0, 10, 0) ∧ d.ini 1 = (1, 1, 0, 10, 0) ∧ d.read 1 0 0 4 = ([97, 98, 10, 99], 0) ∧ d.read 1 0 3 4 = ([99, 100, 101, 102], 0) ∧ d.read 1 0 7 4 = ([103, 10, 120], 0) ∧ mayPB d.sti kF = true ∧ mayPB d.sti ⟨0, nA, [], 4⟩ = true := by
  have hfs : d.fs 1 = some ⟨nA, xF, 0, 0⟩ := by rw [h.fs, if_pos rfl]
  have hse : d.se nA = some 1 := by rw [h.se, if_pos (by simp)]
  have hf : d.file nA = some (1, ⟨nA, xF, 0, 0⟩) := by unfold Dk.file; rw [h.ns1]; show (d.fs 1).map _ = _; rw [hfs]; rfl
  have hf1 : d.file nA1 = none := by unfold Dk.file; rw [h.ns0 nA1 (by decide)]; rfl
  have hs : d.sti nA = (1, 1, 0, 10, 0) := by unfold Dk.sti; rw [if_pos mayA, hf, hse]; rfl
  have hs1 : d.sti nA1 = (0, 0, 0, 0, 141) := by unfold Dk.sti; rw [if_pos mayA1, hf1]
  have hr : ∀ o : Int, 0 ≤ o → d.read 1 0 o 4 = ((xF.drop o.toNat).take 4, 0) := fun o ho => by
    unfold Dk.read
    rw [if_neg (by omega), hfs]
    rfl
  refine ⟨hs, by unfold Dk.ini; rw [hfs]; show (1, (d.se nA).getD 0, _, _, _) = _; rw [hse]; rfl, (hr 0 (by decide)).trans rfl, (hr 3 (by decide)).trans rfl, (hr 7 (by decide)).trans rfl, ?_, ?_⟩
  · unfold mayPB
    show (decide ((d.sti nA).2.2.2.2 ≠ 140) && (decide (nA1 = []) || decide ((d.sti nA1).2.2.2.2 ≠ 140))) = true
    rw [hs, hs1]; decide
  · unfold mayPB
    show (decide ((d.sti nA).2.2.2.2 ≠ 140) && (decide (([] : List UInt8) = []) || decide ((d.sti []).2.2.2.2 ≠ 140))) = true
    rw [hs]; rfl
end Go.Proofs.Ytlojmmcagglpoaa
