/- Two disks as the first two parts of a great state. -/
import Derived.Test.YtlojmmcagglpoaaGreatQCopy
import Derived.Test.YtlojmmcagglpoaaGreatQDS
import Derived.Test.YtlojmmcagglpoaaGreatQDisk
import Derived.Test.YtlojmmcagglpoaaGreatQDiskFile
import Derived.Test.YtlojmmcagglpoaaGreatQNames
import Derived.Test.YtlojmmcagglpoaaGreatQRfAlike
import Derived.Test.YtlojmmcagglpoaaGreatQRfAll
import Derived.Test.YtlojmmcagglpoaaGreatQRfCopy
import Derived.Test.YtlojmmcagglpoaaGreatQRfCrash
import Derived.Test.YtlojmmcagglpoaaGreatQRfCut
import Derived.Test.YtlojmmcagglpoaaGreatQRfRead
import Derived.Lib.ConvBytes
namespace Go.Proofs.YtlojmmcagglpoaaGreat
open Go.RowKit Go.Maps
abbrev PartT := World → (Nat → Nat) → Prop
/-- a part of colour c: what changes blocks of other colours leaves it -/
def Stb (c : Nat) (T : PartT) : Prop := ∀ (W W' : World) (C C' : Nat → Nat) (S : Nat → Prop), T W C → Chg S W W' → Sam W.heap.size C C' → (∀ b, S b → C b ≠ c) → T W' C'
theorem Stb.dc (N c p n : Nat) (d : Dk) : Stb c (fun W C => DC W N C c p n d) := fun _ _ _ _ _ h hc hs hS => h.step hc hs hS
theorem Stb.fr (P : World → Prop) : Stb 3 (fun W C => Fr W C P) := fun _ _ _ _ _ h hc hs hS => h.step hc hs hS
theorem Stb.pure (c : Nat) (P : Prop) : Stb c (fun _ _ => P) := fun _ _ _ _ _ h _ _ _ => h
theorem Stb.and {c : Nat} {T U : PartT} (h : Stb c T) (k : Stb c U) : Stb c (fun W C => T W C ∧ U W C) := fun W W' C C' S hh hc hs hS => ⟨h W W' C C' S hh.1 hc hs hS, k W W' C C' S hh.2 hc hs hS⟩
/-- a block -/
theorem Stb.blk (c b : Nat) (t : TypeId) (cs : Array Value) : Stb c (fun W C => Blk W b t cs ∧ C b = c) := fun _ _ _ _ _ h hc hs hS => ⟨h.1.chg hc (fun e => hS b e h.2), by rw [hs b h.1.lt]; exact h.2⟩
/-- a row of the call's own -/
theorem Stb.own (c base size n : Nat) (e : TypeId) (v : Value) (xs : List Value) : Stb c (fun W C => W.ownsRow base e size v n xs ∧ ∀ k, v.ownBlock = some k → C k = c) := fun _ _ _ _ _ h hc hs hS =>
  ⟨hc.own h.1 (fun k hk e => hS k e (h.2 k hk)), fun k hk => by rw [hs k (h.1.lt k hk).2]; exact h.2 k hk⟩
theorem Stb.rb (c : Nat) (A : Option Addr) (n : Nat) (l : List UInt8) : Stb c (fun W C => RB W A n l ∧ (0 < n → ∀ ad, A = some ad → C ad.block = c)) := fun _ _ _ _ _ h hc hs hS =>
  ⟨hc.rb h.1 (fun h0 ad e e2 => hS _ e2 (h.2 h0 ad e)), fun h0 ad e => by
    obtain ⟨b, off, e2, hb, _⟩ := h.1.2 h0
    rw [e] at e2
    obtain rfl := Option.some.inj e2
    rw [hs b hb]; exact h.2 h0 _ e⟩
structure GS (w0 W : World) (C : Nat → Nat) (L : List PartT) : Prop where
  bel : Below w0.heap.size w0 W
  sam : Sam w0.heap.size (fun _ => 0) C
  all : ∀ k T, L[k]? = some T → T W C ∧ Stb (k + 1) T
section
variable {w0 W W' : World} {C C' : Nat → Nat} {L L' : List PartT} {T T' U U' : PartT} {k j : Nat}
theorem GS.at_ (h : GS w0 W C L) (hk : L[k]? = some T) : T W C := (h.all k T hk).1
theorem GS.far (h : GS w0 W C L) {b : Nat} (hb : C b ≠ 0) : w0.heap.size ≤ b := by
  rcases Nat.lt_or_ge b w0.heap.size with hlt | hge
  · exact absurd (h.sam b hlt) hb
  · exact hge
/-- what changes some parts and leaves the others -/
theorem GS.turnS (h : GS w0 W C L) {K : Nat → Prop} (hK0 : ¬ K 0) (hc : Chg (fun b => K (C b)) W W') (hs : Sam W.heap.size C C') (hL : ∀ k T, L'[k]? = some T → (T W' C' ∧ Stb (k + 1) T) ∨ (¬ K (k + 1) ∧ L[k]? = some T)) : GS w0 W' C' L' := by
  refine ⟨h.bel.trans (hc.below (fun b hb e => hK0 (by have h1 := h.sam b hb; rw [h1] at e; exact e)) h.bel.size), h.sam.trans hs h.bel.size, fun k T hk => ?_⟩
  rcases hL k T hk with h1 | ⟨h1, h2⟩
  · exact h1
  · obtain ⟨h3, h4⟩ := h.all k T h2
    exact ⟨h4 W W' C C' _ h3 hc hs (fun b hb e => h1 (by rw [← e]; exact hb)), h4⟩
theorem GS.turn (h : GS w0 W C L) (hk : k < L.length) (hc : Chg (fun b => C b = k + 1) W W') (hT : T' W' (paint C W.heap.size (k + 1))) (hs : Stb (k + 1) T') (hL : L.set k T' = L') : GS w0 W' (paint C W.heap.size (k + 1)) L' := by
  subst hL
  refine h.turnS (K := fun c => c = k + 1) (by omega) hc (sam_paint _ _ _) (fun j U hj => ?_)
  by_cases e : j = k
  · subst e
    rw [List.getElem?_set_self hk] at hj
    obtain rfl := Option.some.inj hj
    exact .inl ⟨hT, hs⟩
  · rw [List.getElem?_set_ne (fun e2 => e e2.symm)] at hj
    exact .inr ⟨by omega, hj⟩
/-- two parts turn -/
theorem GS.turn2 (h : GS w0 W C L) (hk : k < L.length) (hj : j < L.length) (hkj : k ≠ j) (hc : Chg (fun b => C b = k + 1 ∨ C b = j + 1) W W') (hs' : Sam W.heap.size C C') (hT : T' W' C') (hs : Stb (k + 1) T') (hU : U' W' C') (hu : Stb (j + 1) U') (hL : (L.set k T').set j U' = L') : GS w0 W' C' L' := by
  subst hL
  refine h.turnS (K := fun c => c = k + 1 ∨ c = j + 1) (by omega) hc hs' (fun i V hi => ?_)
  by_cases e : i = j
  · subst e
    rw [List.getElem?_set_self (by rw [List.length_set]; exact hj)] at hi
    obtain rfl := Option.some.inj hi
    exact .inl ⟨hU, hu⟩
  · rw [List.getElem?_set_ne (fun e2 => e e2.symm)] at hi
    by_cases e1 : i = k
    · subst e1
      rw [List.getElem?_set_self hk] at hi
      obtain rfl := Option.some.inj hi
      exact .inl ⟨hT, hs⟩
    · rw [List.getElem?_set_ne (fun e2 => e1 e2.symm)] at hi
      exact .inr ⟨by omega, hi⟩
/-- nothing turns -/
theorem GS.keep2 (h : GS w0 W C L) (hb : Below W.heap.size W W') (hs : Sam W.heap.size C C') : GS w0 W' C' L :=
  h.turnS (K := fun _ => False) id (Chg.of_below hb _) hs (fun _ _ hk => .inr ⟨id, hk⟩)
theorem GS.keep (h : GS w0 W C L) (hb : Below W.heap.size W W') : GS w0 W' C L := h.keep2 hb (Sam.refl _ _)
/-- blocks of a colour beyond all parts turn -/
theorem GS.other (h : GS w0 W C L) {c : Nat} (hlt : L.length < c) (hc : Chg (fun b => C b = c) W W') (hs : Sam W.heap.size C C') : GS w0 W' C' L :=
  h.turnS (K := fun q => q = c) (by omega) hc hs (fun k T hk => .inr ⟨by have := (List.getElem?_eq_some_iff.1 hk).1; omega, hk⟩)
/-- one part more -/
theorem GS.add (h : GS w0 W C L) (hb : Below W.heap.size W W') (hT : T W' (paint C W.heap.size (L.length + 1))) (hs : Stb (L.length + 1) T) : GS w0 W' (paint C W.heap.size (L.length + 1)) (L ++ [T]) :=
  h.turnS (K := fun _ => False) id (Chg.of_below hb _) (sam_paint _ _ _) (fun k U hk => by
    by_cases e : k < L.length
    · rw [List.getElem?_append_left e] at hk; exact .inr ⟨id, hk⟩
    · have hkl : k = L.length := by
        have := (List.getElem?_eq_some_iff.1 hk).1
        simp at this; omega
      subst hkl
      rw [List.getElem?_append_right (Nat.le_refl _), Nat.sub_self] at hk
      obtain rfl := Option.some.inj hk
      exact .inl ⟨hT, hs⟩)
/-- a part is seen otherwise -/
theorem GS.as (h : GS w0 W C L) (hk : L[k]? = some T) (hT : T' W C) (hs : Stb (k + 1) T') (hL : L.set k T' = L') : GS w0 W C L' := by
  subst hL
  refine ⟨h.bel, h.sam, fun j U hj => ?_⟩
  by_cases e : j = k
  · subst e
    rw [List.getElem?_set_self (List.getElem?_eq_some_iff.1 hk).1] at hj
    obtain rfl := Option.some.inj hj
    exact ⟨hT, hs⟩
  · rw [List.getElem?_set_ne (fun e2 => e e2.symm)] at hj
    exact h.all j U hj
end
/-- a front of the parts -/
theorem GS.front {w0 W : World} {C : Nat → Nat} {L K : List PartT} (h : GS w0 W C (L ++ K)) : GS w0 W C L :=
  ⟨h.bel, h.sam, fun k T hk => h.all k T (by rw [List.getElem?_append_left (List.getElem?_eq_some_iff.1 hk).1]; exact hk)⟩
/-- a fact that hangs on blocks of colour c alone -/
structure FrC (W : World) (C : Nat → Nat) (c : Nat) (P : World → Prop) : Prop where
  now : P W
  later : ∀ w', W.heap.size ≤ w'.heap.size → (∀ b, b < W.heap.size → C b = c → w'.heap[b]? = W.heap[b]?) → P w'
section
variable {W w' : World} {C C' : Nat → Nat} {c : Nat} {P Q : World → Prop}
theorem FrC.step (h : FrC W C c P) {S : Nat → Prop} (hc : Chg S W w') (hs : Sam W.heap.size C C') (hS : ∀ b, S b → C b ≠ c) : FrC w' C' c P :=
  have key : ∀ b, b < W.heap.size → C b = c → w'.heap[b]? = W.heap[b]? := fun b hb h3 => hc.block b hb (fun e => hS b e h3)
  ⟨h.later w' hc.size key, fun w2 hz hk => h.later w2 (Nat.le_trans hc.size hz) (fun b hb h3 => (hk b (Nat.lt_of_lt_of_le hb hc.size) (by rw [hs b hb]; exact h3)).trans (key b hb h3))⟩
theorem FrC.and (h : FrC W C c P) (k : FrC W C c Q) : FrC W C c (fun w => P w ∧ Q w) := ⟨⟨h.now, k.now⟩, fun w2 hz hk => ⟨h.later w2 hz hk, k.later w2 hz hk⟩⟩
theorem FrC.blk {b : Nat} {t : TypeId} {cs : Array Value} (h : Blk W b t cs) (hc : C b = c) : FrC W C c (fun w => Blk w b t cs) := ⟨h, fun _ _ hk => (hk b h.lt hc).trans h⟩
theorem FrC.rb {A : Option Addr} {n : Nat} {l : List UInt8} (h : RB W A n l) (hc : 0 < n → ∀ ad, A = some ad → C ad.block = c) : FrC W C c (fun w => RB w A n l) :=
  ⟨h, fun w2 hz hk => ⟨h.1, fun hn => by
    obtain ⟨b, off, e, hb, hr⟩ := h.2 hn
    have h3 : C b = c := hc hn ⟨b, off, none⟩ e
    exact ⟨b, off, e, Nat.lt_of_lt_of_le hb hz, fun j x hj => (World.cell?_of_block (a := ⟨b, off + j, none⟩) (hk b hb h3)).trans (hr j x hj)⟩⟩⟩
theorem FrC.own {base size n : Nat} {e : TypeId} {v : Value} {xs : List Value} (h : W.ownsRow base e size v n xs) (hc : ∀ k, v.ownBlock = some k → C k = c) : FrC W C c (fun w => w.ownsRow base e size v n xs) :=
  ⟨h, fun w2 hz hk => by
    refine ⟨h.1, ?_⟩
    rcases h.2 with h0 | ⟨g, cap, cur, hv, hg, hh, r⟩
    · exact .inl h0
    · exact .inr ⟨g, cap, cur, hv, hg, (hk g (h.lt g (by rw [hv]; rfl)).2 (hc g (by rw [hv]; rfl))).trans hh, r⟩⟩
end
theorem Stb.frc (c : Nat) (P : World → Prop) : Stb c (fun W C => FrC W C c P) := fun _ _ _ _ _ h hc hs hS => h.step hc hs hS
theorem GS.nil (w0 : World) : GS w0 w0 (fun _ => 0) [] := ⟨Below.refl _ _, Sam.refl _ _, fun _ _ h => by simp at h⟩
end Go.Proofs.YtlojmmcagglpoaaGreat
namespace Go.Proofs.YtlojmmcagglpoaaGreat
open Go.RowKit Go.Maps
theorem may_ok {nm : List UInt8} (h : mayB nm = true) : okName nm := by
  unfold okName
  unfold mayB at h
  simp at h
  omega
section
variable {W : World} {N : Nat} {C : Nat → Nat} {c p n : Nat} {d : Dk}
theorem create_g (h : DC W N C c p n d) (hn : n + 2 < 1000000) (nm : List UInt8) : Calls Tryz.prog 46 #[.pointer (some ⟨p, 0, none⟩), .string (strB nm)] W (StepQ W N C c p (n + 2) (d.create nm)) := by
  cases hb : mayB nm with
  | true => exact create_c h hn nm (may_ok hb)
  | false =>
    have hm := may_any nm
    unfold Dk.create
    rw [hb] at hm ⊢
    exact (create_bad p nm hm).mono fun e w' ⟨h1, h2⟩ => .same h hn h1 h2
theorem append_g (h : DC W N C c p n d) (hn : n + 2 < 1000000) (nm : List UInt8) (A : Option Addr) (m cp : Nat) (l : List UInt8) (hr : RB W A m l) (hm1 : m ≤ 1000000000) : Calls Tryz.prog 47 #[.pointer (some ⟨p, 0, none⟩), .string (strB nm), .slice A m cp] W (StepQ W N C c p (n + 2) (d.append nm l)) := by
  cases hb : mayB nm with
  | true => exact append_c h hn nm (may_ok hb) A m cp l hr hm1
  | false =>
    have hm := may_any nm
    unfold Dk.append
    rw [hb] at hm ⊢
    exact (append_bad p nm hm A m cp).mono fun e w' ⟨h1, h2⟩ => .same h hn h1 h2
theorem cut_g (h : DC W N C c p n d) (hn : n + 2 < 1000000) (nm : List UInt8) : Calls Tryz.prog 53 #[.pointer (some ⟨p, 0, none⟩), .string (strB nm)] W (StepQ W N C c p (n + 2) (d.cut nm)) := by
  cases hb : mayB nm with
  | true => exact cut_c h hn nm (may_ok hb)
  | false =>
    have hm := may_any nm
    unfold Dk.cut Dk.edits
    rw [hb] at hm ⊢
    exact (cut_bad p nm hm).mono fun e w' ⟨h1, h2⟩ => .same h hn h1 h2
theorem sync_g (h : DC W N C c p n d) (hn : n + 2 < 1000000) (nm : List UInt8) : Calls Tryz.prog 48 #[.pointer (some ⟨p, 0, none⟩), .string (strB nm)] W (StepQ W N C c p (n + 2) (d.sync nm)) := by
  cases hb : mayB nm with
  | true => exact sync_c h hn nm (may_ok hb)
  | false =>
    have hm := may_any nm
    unfold Dk.sync Dk.edits
    rw [hb] at hm ⊢
    exact (sync_bad p nm hm).mono fun e w' ⟨h1, h2⟩ => .same h hn h1 h2
theorem remove_g (h : DC W N C c p n d) (hn : n + 2 < 1000000) (nm : List UInt8) : Calls Tryz.prog 54 #[.pointer (some ⟨p, 0, none⟩), .string (strB nm)] W (StepQ W N C c p (n + 2) (d.remove nm)) := by
  cases hb : mayB nm with
  | true => exact remove_c h hn nm (may_ok hb)
  | false =>
    have hm := may_any nm
    unfold Dk.remove
    rw [hb] at hm ⊢
    exact (remove_bad p nm hm).mono fun e w' ⟨h1, h2⟩ => .same h hn h1 h2
theorem rename_g (h : DC W N C c p n d) (hn : n + 2 < 1000000) (old other : List UInt8) : Calls Tryz.prog 51 #[.pointer (some ⟨p, 0, none⟩), .string (strB old), .string (strB other)] W (StepQ W N C c p (n + 2) (d.rename old other)) := by
  cases hb : (mayB old && mayB other) with
  | true =>
    have h2 := hb
    rw [Bool.and_eq_true] at h2
    exact rename_c h hn old other (may_ok h2.1) (may_ok h2.2)
  | false =>
    have hm := may_any old
    have hm2 := may_any other
    unfold Dk.rename
    rw [hb]
    exact (rename_bad p old other _ _ hm hm2 hb).mono fun e w' ⟨h1, h2⟩ => .same h hn h1 h2
theorem stat_g (h : DC W N C c p n d) (nm : List UInt8) : Calls Tryz.prog 44 #[.pointer (some ⟨p, 0, none⟩), .string (strB nm)] W (AskQ W (d.stat nm)) := by
  cases hb : mayB nm with
  | true => exact stat_c h nm (may_ok hb)
  | false =>
    have hm := may_any nm
    unfold Dk.stat
    rw [hb] at hm ⊢
    exact (stat_bad p nm hm).mono fun e w' h => h
end
end Go.Proofs.YtlojmmcagglpoaaGreat
namespace Go.Proofs.YtlojmmcagglpoaaGreat
open Go.RowKit Go.Maps
def DCp (w0 : World) (c p n : Nat) (d : Dk) : PartT := fun W C => DC W w0.heap.size C c p n d
def RCp (w0 : World) (c q : Nat) (r : Rd) : PartT := fun W C => RC W w0.heap.size C c q r
theorem Stb.dcp (w0 : World) (c p n : Nat) (d : Dk) : Stb c (DCp w0 c p n d) := fun _ _ _ _ _ h hc hs hS => h.step hc hs hS
theorem Stb.rcp (w0 : World) (c q : Nat) (r : Rd) : Stb c (RCp w0 c q r) := fun _ _ _ _ _ h hc hs hS => h.step hc hs hS
/-- the call answers v, and the state behind it -/
def GsQ (w0 : World) (v : Value) (C : Nat → Nat) (L : List PartT) (e : Ending) (w' : World) : Prop := e = .returned v ∧ GS w0 w' C L
section
variable {w0 W W' : World} {C : Nat → Nat} {L : List PartT} {k p q n n' : Nat} {d d' : Dk} {r r' : Rd}
theorem GS.dstep (h : GS w0 W C L) (hk : L[k]? = some (DCp w0 (k + 1) p n d)) {a : Int × Dk} {e : Ending} (hq : StepQ W w0.heap.size C (k + 1) p n' a e W') : GsQ w0 (.int .i64 a.1) (paint C W.heap.size (k + 1)) (L.set k (DCp w0 (k + 1) p n' a.2)) e W' :=
  ⟨hq.1, h.turn (List.getElem?_eq_some_iff.1 hk).1 hq.2.2 hq.2.1 (Stb.dcp _ _ _ _ _) rfl⟩
theorem GS.rstep (h : GS w0 W C L) (hk : L[k]? = some (RCp w0 (k + 1) q r)) {v : Value} {e : Ending} (hq : RStepQ W w0.heap.size C (k + 1) q v r' e W') : GsQ w0 v (paint C W.heap.size (k + 1)) (L.set k (RCp w0 (k + 1) q r')) e W' :=
  ⟨hq.1, h.turn (List.getElem?_eq_some_iff.1 hk).1 hq.2.2 hq.2.1 (Stb.rcp _ _ _ _) rfl⟩
end
/-- what a change of both disks is: the program's call fd with arguments ad, the document's call fr with arguments ar (behind the disk's pointer; they hang on the world as hd and hr say) -/
def PairC (w0 : World) (p q n : Nat) (d : Dk) (r : Rd) (n' : Nat) (fd fr : FuncId) (A : World → List Value → Prop) : Prop :=
  ∃ (v : Int) (d' : Dk) (r' : Rd), Alike d' r' n' ∧
    (∀ W C L k a, GS w0 W C L → L[k]? = some (DCp w0 (k + 1) p n d) → A W a → Calls Tryz.prog fd (.pointer (some ⟨p, 0, none⟩) :: a).toArray W (GsQ w0 (.int .i64 v) (paint C W.heap.size (k + 1)) (L.set k (DCp w0 (k + 1) p n' d')))) ∧
    (∀ W C L k a, GS w0 W C L → L[k]? = some (RCp w0 (k + 1) q r) → A W a → Calls Tryz.prog fr (.pointer (some ⟨q, 0, none⟩) :: a).toArray W (GsQ w0 (.int .i64 v) (paint C W.heap.size (k + 1)) (L.set k (RCp w0 (k + 1) q r'))))
section
variable {w0 : World} {p q n : Nat} {d : Dk} {r : Rd}
theorem pair_create (al : Alike d r n) (hok : d.Ok n) (hn : n + 2 < 1000000) (nm : List UInt8) : PairC w0 p q n d r (n + 2) 46 63 (fun _ a => a = [.string (strB nm)]) := by
  obtain ⟨h1, h2⟩ := al.create hok (by omega) nm
  refine ⟨(d.create nm).1, _, _, h2, fun W C L k a hg hk ha => ?_, fun W C L k a hg hk ha => ?_⟩ <;> subst ha
  · exact (create_g (hg.at_ hk) hn nm).mono fun e w' hq => hg.dstep hk hq
  · rw [h1]
    exact (rcreate_any (hg.at_ hk) hg.bel.size al.rok nm).mono fun e w' hq => hg.rstep hk hq
theorem pair_append (al : Alike d r n) (hok : d.Ok n) (hn : n + 2 < 1000000) (nm l : List UInt8) (hl : l.length ≤ 1000000000) : PairC w0 p q n d r (n + 2) 47 64 (fun W a => ∃ A m cp, a = [.string (strB nm), .slice A m cp] ∧ RB W A m l) := by
  obtain ⟨h1, h2⟩ := al.append hok (by omega) nm l
  refine ⟨(d.append nm l).1, _, _, h2, fun W C L k a hg hk ha => ?_, fun W C L k a hg hk ha => ?_⟩ <;> obtain ⟨A, m, cp, rfl, hr⟩ := ha
  · exact (append_g (hg.at_ hk) hn nm A m cp l hr (by rw [← hr.1]; exact hl)).mono fun e w' hq => hg.dstep hk hq
  · rw [h1]
    exact (rappend_any (hg.at_ hk) hg.bel.size al.rok nm A m cp l hr (by rw [← hr.1]; exact hl)).mono fun e w' hq => hg.rstep hk hq
theorem pair_cut (al : Alike d r n) (hok : d.Ok n) (hn : n + 2 < 1000000) (nm : List UInt8) : PairC w0 p q n d r (n + 2) 53 65 (fun _ a => a = [.string (strB nm)]) := by
  obtain ⟨h1, h2⟩ := al.cut hok (by omega) nm
  refine ⟨(d.cut nm).1, _, _, h2, fun W C L k a hg hk ha => ?_, fun W C L k a hg hk ha => ?_⟩ <;> subst ha
  · exact (cut_g (hg.at_ hk) hn nm).mono fun e w' hq => hg.dstep hk hq
  · rw [h1]
    exact (rcut_any (hg.at_ hk) al.rok nm).mono fun e w' hq => hg.rstep hk hq
theorem pair_sync (al : Alike d r n) (hok : d.Ok n) (hn : n + 2 < 1000000) (nm : List UInt8) : PairC w0 p q n d r (n + 2) 48 68 (fun _ a => a = [.string (strB nm)]) := by
  obtain ⟨h1, h2⟩ := al.sync hok (by omega) nm
  refine ⟨(d.sync nm).1, _, _, h2, fun W C L k a hg hk ha => ?_, fun W C L k a hg hk ha => ?_⟩ <;> subst ha
  · exact (sync_g (hg.at_ hk) hn nm).mono fun e w' hq => hg.dstep hk hq
  · rw [h1]
    exact (rsync_any (hg.at_ hk) al.rok nm).mono fun e w' hq => hg.rstep hk hq
theorem pair_remove (al : Alike d r n) (hok : d.Ok n) (hn : n + 2 < 1000000) (nm : List UInt8) : PairC w0 p q n d r (n + 2) 54 67 (fun _ a => a = [.string (strB nm)]) := by
  obtain ⟨h1, h2⟩ := al.remove hok (by omega) nm
  refine ⟨(d.remove nm).1, _, _, h2, fun W C L k a hg hk ha => ?_, fun W C L k a hg hk ha => ?_⟩ <;> subst ha
  · exact (remove_g (hg.at_ hk) hn nm).mono fun e w' hq => hg.dstep hk hq
  · rw [h1]
    exact (rremove_any (hg.at_ hk) al.rok nm).mono fun e w' hq => hg.rstep hk hq
theorem pair_rename (al : Alike d r n) (hok : d.Ok n) (hn : n + 2 < 1000000) (old other : List UInt8) : PairC w0 p q n d r (n + 2) 51 66 (fun _ a => a = [.string (strB old), .string (strB other)]) := by
  obtain ⟨h1, h2⟩ := al.rename hok (by omega) old other
  refine ⟨(d.rename old other).1, _, _, h2, fun W C L k a hg hk ha => ?_, fun W C L k a hg hk ha => ?_⟩ <;> subst ha
  · exact (rename_g (hg.at_ hk) hn old other).mono fun e w' hq => hg.dstep hk hq
  · rw [h1]
    exact (rrename_any (hg.at_ hk) hg.bel.size al.rok old other).mono fun e w' hq => hg.rstep hk hq
/-- a crash of both -/
theorem pair_crash (al : Alike d r n) (hn : n + 1 < 1000000) (keep : List Int) {k m cp : Nat} {A : Option Addr} {W : World} {C : Nat → Nat} {L : List PartT} (hg : GS w0 W C L) (hk : L[k]? = some (DCp w0 (k + 1) p n d)) (hr : RI W A m keep) (hm : m ≤ maxLen) (hra : 0 < m → ∀ ad, A = some ad → C ad.block ≠ k + 1) :
    Calls Tryz.prog 49 #[.pointer (some ⟨p, 0, none⟩), .slice A m cp] W fun e w' => ∃ d', Alike d' (r.crash keep) (n + 1) ∧ GsQ w0 (.tuple #[]) (paint C W.heap.size (k + 1)) (L.set k (DCp w0 (k + 1) p (n + 1) d')) e w' := by
  refine (crash_c (hg.at_ hk) hn hr hm hra).mono ?_
  rintro e w' ⟨ss, he, hs, hmm, hd, hc⟩
  exact ⟨_, al.crash (by omega) keep hs hmm, he, hg.turn (List.getElem?_eq_some_iff.1 hk).1 hc hd (Stb.dcp _ _ _ _ _) rfl⟩
theorem rcrash_g (hok : r.Ok n) (keep : List Int) {k m cp : Nat} {A : Option Addr} {W : World} {C : Nat → Nat} {L : List PartT} (hg : GS w0 W C L) (hk : L[k]? = some (RCp w0 (k + 1) q r)) (hr : RI W A m keep) (hm : m ≤ maxLen) (hra : 0 < m → ∀ ad, A = some ad → C ad.block ≠ k + 1) :
    Calls Tryz.prog 69 #[.pointer (some ⟨q, 0, none⟩), .slice A m cp] W (GsQ w0 (.tuple #[]) (paint C W.heap.size (k + 1)) (L.set k (RCp w0 (k + 1) q (r.crash keep)))) := by
  refine (rcrash_any (hg.at_ hk) hok hr hm hra).mono ?_
  rintro e w' ⟨he, hd, hc⟩
  exact ⟨he, hg.turn (List.getElem?_eq_some_iff.1 hk).1 hc hd (Stb.rcp _ _ _ _) rfl⟩
/-! ### What both answer -/
def AskV (W : World) (t : Int × Int × Int × Int × Int) (e : Ending) (w' : World) : Prop := e = .returned (.tuple #[.agg #[.int .i64 t.1, .int .i64 t.2.1, .int .i64 t.2.2.1, .int .i64 t.2.2.2.1], .int .i64 t.2.2.2.2]) ∧ Below W.heap.size W w'
theorem ask_stat (al : Alike d r n) (nm : List UInt8) {W : World} {N : Nat} {C : Nat → Nat} {c : Nat} (h : DC W N C c p n d) : Calls Tryz.prog 44 #[.pointer (some ⟨p, 0, none⟩), .string (strB nm)] W (AskV W (r.sti nm)) := by
  have := stat_g h nm
  rw [al.sim.stat h.ok nm] at this
  exact this.mono fun _ _ hq => hq
theorem ask_rstat (hok : r.Ok n) (nm : List UInt8) {W : World} {N : Nat} {C : Nat → Nat} {c : Nat} (h : RC W N C c q r) : Calls Tryz.prog 45 #[.pointer (some ⟨q, 0, none⟩), .string (strB nm)] W (AskV W (r.sti nm)) :=
  (rstat_any h hok nm).mono fun _ _ hq => hq
theorem ask_inode (al : Alike d r n) (i : Int) (hi : okInt i) {W : World} {N : Nat} {C : Nat → Nat} {c : Nat} (h : DC W N C c p n d) : Calls Tryz.prog 52 #[.pointer (some ⟨p, 0, none⟩), .int .i64 i] W (AskV W (r.inode i)) := by
  have := inode_c h i hi
  rw [al.sim.inode h.ok al.uq al.may i] at this
  exact this.mono fun _ _ hq => hq
theorem ask_rinode (hok : r.Ok n) (i : Int) {W : World} {N : Nat} {C : Nat → Nat} {c : Nat} (h : RC W N C c q r) : Calls Tryz.prog 56 #[.pointer (some ⟨q, 0, none⟩), .int .i64 i] W (AskV W (r.inode i)) :=
  (rinode_any h hok i).mono fun _ _ hq => hq
theorem ask_read (al : Alike d r n) (i gen off size : Int) (hi : okInt i) (hoff : okInt off) (hsize : okInt size) {W : World} {N : Nat} {C : Nat → Nat} {c : Nat} (h : DC W N C c p n d) : Calls Tryz.prog 50 #[.pointer (some ⟨p, 0, none⟩), .int .i64 i, .int .i64 gen, .int .i64 off, .int .i64 size] W (BytesQ W (r.read i gen off size)) := by
  have := read_c h i gen off size hi hoff hsize
  rw [al.sim.read h.ok al.uq al.may i gen off size] at this
  exact this
theorem ask_rread (al : Alike d r n) (hdk : d.Ok n) (i gen off size : Int) (hoff : okInt off) (hsize : okInt size) {W : World} {N : Nat} {C : Nat → Nat} {c : Nat} (h : RC W N C c q r) : Calls Tryz.prog 57 #[.pointer (some ⟨q, 0, none⟩), .int .i64 i, .int .i64 gen, .int .i64 off, .int .i64 size] W (BytesQ W (r.read i gen off size)) :=
  rread_any h al.rok i gen off size hoff hsize (al.sim.cons hdk al.uq al.may i)
theorem ask_names (al : Alike d r n) (hn : n < 1000000) {W : World} {N : Nat} {C : Nat → Nat} {c : Nat} (h : DC W N C c p n d) : Calls Tryz.prog 42 #[.pointer (some ⟨p, 0, none⟩)] W (AllQ W r.all) := by
  refine (names_c h hn).mono ?_
  rintro e w' ⟨v, ss, he, hnd, hmem, ho, hb⟩
  have h1 := al.sim.all al.uq hnd hmem
  rw [h1] at ho
  have h2 : ss.length = r.all.length := by rw [← h1, List.length_mergeSort]
  rw [h2] at ho
  exact ⟨v, he, ho, hb⟩
theorem ask_all (hok : r.Ok n) {W : World} {N : Nat} {C : Nat → Nat} {c : Nat} (h : RC W N C c q r) : Calls Tryz.prog 43 #[.pointer (some ⟨q, 0, none⟩)] W (AllQ W r.all) :=
  rall_any h (Nat.le_trans hok.nl hok.big)
end
end Go.Proofs.YtlojmmcagglpoaaGreat
namespace Go.Proofs.YtlojmmcagglpoaaGreat
open Go.RowKit
theorem below_bytes (w : World) (e : TypeId) (s : ByteArray) : Below w.heap.size w (Lib.bytesWorld w e s) :=
  ⟨rfl, rfl, rfl, by rw [Lib.bytesWorld_size]; omega, fun k hk => Lib.bytesWorld_at_old w e s k hk⟩
theorem rb_bytes (w : World) (s : ByteArray) : RB (Lib.bytesWorld w 5 s) (some ⟨w.heap.size, 0, none⟩) s.size s.data.toList := by
  refine ⟨rfl, fun hp => ⟨w.heap.size, 0, rfl, by rw [Lib.bytesWorld_size]; omega, fun j c hj => ?_⟩⟩
  have hl := (List.getElem?_eq_some_iff.1 hj).1
  have hl' : s.data.toList.length = s.size := rfl
  rw [Nat.zero_add, Lib.bytesWorld_cell w _ s j (by omega)]
  simp [List.getD_eq_getElem?_getD, hj, byteV]
theorem conv_str (w : World) (l : List UInt8) : ∃ w' b c, (convert 9 61 (.string (strB l))).run Tryz.prog w = .ok (.slice (some ⟨b, 0, none⟩) l.length c) w' ∧ Below w.heap.size w w' ∧ RB w' (some ⟨b, 0, none⟩) l.length l :=
  ⟨_, _, _, Lib.run_convert_string_bytes (P := Tryz.prog) w 9 61 5 (strB l) Tryz.underlying9 Tryz.underlying61 Tryz.underlying5, below_bytes _ _ _, rb_bytes w (strB l)⟩
end Go.Proofs.YtlojmmcagglpoaaGreat
namespace Go.Proofs.YtlojmmcagglpoaaGreat
open Go.RowKit Go.Maps
abbrev L2 (w0 : World) (p n : Nat) (d : Dk) (q : Nat) (r : Rd) (M : List PartT) : List PartT := DCp w0 1 p n d :: RCp w0 2 q r :: M
/-- a change of both disks, which are the first two parts -/
def PairT (w0 : World) (p q n : Nat) (d : Dk) (r : Rd) (n' : Nat) (fd fr : FuncId) (A : World → List Value → Prop) : Prop :=
  ∃ (v : Int) (d' : Dk) (r' : Rd), Alike d' r' n' ∧
    (∀ W C M a, GS w0 W C (L2 w0 p n d q r M) → A W a → Calls Tryz.prog fd (.pointer (some ⟨p, 0, none⟩) :: a).toArray W (GsQ w0 (.int .i64 v) (paint C W.heap.size 1) (L2 w0 p n' d' q r M))) ∧
    (∀ W C M a, GS w0 W C (L2 w0 p n' d' q r M) → A W a → Calls Tryz.prog fr (.pointer (some ⟨q, 0, none⟩) :: a).toArray W (GsQ w0 (.int .i64 v) (paint C W.heap.size 2) (L2 w0 p n' d' q r' M)))
theorem PairC.two {w0 : World} {p q n n' : Nat} {d : Dk} {r : Rd} {fd fr : FuncId} {A : World → List Value → Prop} (h : PairC w0 p q n d r n' fd fr A) : PairT w0 p q n d r n' fd fr A := by
  obtain ⟨v, d', r', h1, h2, h3⟩ := h
  exact ⟨v, d', r', h1, fun W C M a hg ha => h2 W C _ 0 a hg rfl ha, fun W C M a hg ha => h3 W C _ 1 a hg rfl ha⟩
theorem GS.last {w0 W : World} {C : Nat → Nat} {L : List PartT} {T : PartT} (h : GS w0 W C (L ++ [T])) : T W C := h.at_ (k := L.length) (by simp)
theorem GS.last2 {w0 W : World} {C : Nat → Nat} {L : List PartT} {T U : PartT} (h : GS w0 W C (L ++ [T] ++ [U])) : T W C := h.front.last
/-- a new block is held from now on -/
theorem GS.hold {w0 W W' : World} {C : Nat → Nat} {L : List PartT} (h : GS w0 W C L) (hb : Below W.heap.size W W') {P : World → Prop} (hP : FrC W' (paint C W.heap.size (L.length + 1)) (L.length + 1) P) : GS w0 W' (paint C W.heap.size (L.length + 1)) (L ++ [fun W C => FrC W C (L.length + 1) P]) :=
  h.add hb hP (Stb.frc _ _)
theorem GS.holdBlk {w0 W W' : World} {C : Nat → Nat} {L : List PartT} (h : GS w0 W C L) (hb : Below W.heap.size W W') {b : Nat} {t : TypeId} {cs : Array Value} (hK : Blk W' b t cs) (hlt : W.heap.size ≤ b) : GS w0 W' (paint C W.heap.size (L.length + 1)) (L ++ [fun W C => FrC W C (L.length + 1) (fun w => Blk w b t cs)]) :=
  h.hold hb (FrC.blk hK (paint_new C _ hlt))
theorem GS.holdRb {w0 W W' : World} {C : Nat → Nat} {L : List PartT} (h : GS w0 W C L) (hb : Below W.heap.size W W') {b off m : Nat} {l : List UInt8} (hK : RB W' (some ⟨b, off, none⟩) m l) (hlt : W.heap.size ≤ b) : GS w0 W' (paint C W.heap.size (L.length + 1)) (L ++ [fun W C => FrC W C (L.length + 1) (fun w => RB w (some ⟨b, off, none⟩) m l)]) :=
  h.hold hb (FrC.rb hK (fun _ ad e => by obtain rfl := Option.some.inj e; exact paint_new C _ hlt))
theorem conv_strN (w : World) (l : List UInt8) : ∃ w' c, (convert 9 61 (.string (strB l))).run Tryz.prog w = .ok (.slice (some ⟨w.heap.size, 0, none⟩) l.length c) w' ∧ Below w.heap.size w w' ∧ RB w' (some ⟨w.heap.size, 0, none⟩) l.length l :=
  ⟨_, _, Lib.run_convert_string_bytes (P := Tryz.prog) w 9 61 5 (strB l) Tryz.underlying9 Tryz.underlying61 Tryz.underlying5, below_bytes _ _ _, rb_bytes w (strB l)⟩
/-- a slice that came in lies where no part lies -/
theorem GS.came {w0 W : World} {C : Nat → Nat} {L : List PartT} (h : GS w0 W C L) {A : Option Addr} {m : Nat} {l : List Int} (hr : RI w0 A m l) : RI W A m l ∧ (0 < m → ∀ ad, A = some ad → C ad.block = 0) :=
  ⟨hr.keep h.bel, fun hm ad e => by
    obtain ⟨b, off, e2, hb, _⟩ := hr.2 hm
    rw [e] at e2
    obtain rfl := Option.some.inj e2
    exact h.sam b hb⟩
end Go.Proofs.YtlojmmcagglpoaaGreat
