/- Two disks as the first two parts of a great state. -/
import Derived.Test.YtlojmmcagglpoaaGreatUBigApp
import Derived.Test.YtlojmmcagglpoaaGreatUCopy
import Derived.Test.YtlojmmcagglpoaaGreatUDS
import Derived.Test.YtlojmmcagglpoaaGreatUFwOp
import Derived.Test.YtlojmmcagglpoaaGreatUNames
import Derived.Test.YtlojmmcagglpoaaGreatURfAlike
import Derived.Test.YtlojmmcagglpoaaGreatURfAll
import Derived.Test.YtlojmmcagglpoaaGreatURfCopy
import Derived.Test.YtlojmmcagglpoaaGreatURfCrash
import Derived.Test.YtlojmmcagglpoaaGreatURfCut
import Derived.Test.YtlojmmcagglpoaaGreatURfRead
namespace Go.Proofs.YtlojmmcagglpoaaGreat
open Go.RowKit Go.Maps
abbrev PartT := World → (Nat → Nat) → Prop
def Stb (c : Nat) (T : PartT) : Prop := ∀ (W W' : World) (C C' : Nat → Nat) (S : Nat → Prop), T W C → Chg S W W' → Sam W.heap.size C C' → (∀ b, S b → C b ≠ c) → T W' C'
theorem Stb.blk (c b : Nat) (t : TypeId) (cs : Array Value) : Stb c (fun W C => Blk W b t cs ∧ C b = c) := fun _ _ _ _ _ h hc hs hS => ⟨h.1.chg hc (fun e => hS b e h.2), by rw [hs b h.1.lt]; exact h.2⟩
structure GS (w0 W : World) (C : Nat → Nat) (L : List PartT) : Prop where
  bel : Below w0.heap.size w0 W
  sam : Sam w0.heap.size (fun _ => 0) C
  all : ∀ k T, L[k]? = some T → T W C ∧ Stb (k + 1) T
section
variable {w0 W W' : World} {C C' : Nat → Nat} {L L' : List PartT} {T T' U U' : PartT} {k j : Nat}
theorem GS.at_ (h : GS w0 W C L) (hk : L[k]? = some T) : T W C := (h.all k T hk).1
theorem GS.turnS (h : GS w0 W C L) {K : Nat → Prop} (hK0 : ¬ K 0) (hc : Chg (fun b => K (C b)) W W') (hs : Sam W.heap.size C C') (hL : ∀ k T, L'[k]? = some T → (T W' C' ∧ Stb (k + 1) T) ∨ (¬ K (k + 1) ∧ L[k]? = some T)) : GS w0 W' C' L' := by
  refine ⟨h.bel.trans (hc.below (fun b hb e => hK0 (by have h1 := h.sam b hb; rw [h1] at e; exact e)) h.bel.size), h.sam.trans hs h.bel.size, fun k T hk => ?_⟩
  rcases hL k T hk with h1 | ⟨h1, h2⟩
  · exact h1
  · obtain ⟨h3, h4⟩ := h.all k T h2
    exact ⟨h4 W W' C C' _ h3 hc hs (fun b hb e => h1 (by rw [← e]; exact hb)), h4⟩
theorem GS.turn (h : GS w0 W C L) (hk : k < L.length) (hc : Chg (fun b => C b = k + 1) W W') (hT : T' W' (paint C W.heap.size (k + 1))) (hs : Stb (k + 1) T') (hL : L.set k T' = L') : GS w0 W' (paint C W.heap.size (k + 1)) L' := by
  subst hL
  refine h.turnS (K := fun c => c = k + 1) (by omega) hc (sam_paint _ _ _) (fun j U hj => ?_)
  by_cases e : j = k
  · subst e
    rw [List.getElem?_set_self hk] at hj
    obtain rfl := Option.some.inj hj
    exact .inl ⟨hT, hs⟩
  · rw [List.getElem?_set_ne (fun e2 => e e2.symm)] at hj
    exact .inr ⟨by omega, hj⟩
theorem GS.keep2 (h : GS w0 W C L) (hb : Below W.heap.size W W') (hs : Sam W.heap.size C C') : GS w0 W' C' L :=
  h.turnS (K := fun _ => False) id (Chg.of_below hb _) hs (fun _ _ hk => .inr ⟨id, hk⟩)
theorem GS.keep (h : GS w0 W C L) (hb : Below W.heap.size W W') : GS w0 W' C L := h.keep2 hb (Sam.refl _ _)
theorem GS.other (h : GS w0 W C L) {c : Nat} (hlt : L.length < c) (hc : Chg (fun b => C b = c) W W') (hs : Sam W.heap.size C C') : GS w0 W' C' L :=
  h.turnS (K := fun q => q = c) (by omega) hc hs (fun k T hk => .inr ⟨by have := (List.getElem?_eq_some_iff.1 hk).1; omega, hk⟩)
theorem GS.add (h : GS w0 W C L) (hb : Below W.heap.size W W') (hT : T W' (paint C W.heap.size (L.length + 1))) (hs : Stb (L.length + 1) T) : GS w0 W' (paint C W.heap.size (L.length + 1)) (L ++ [T]) :=
  h.turnS (K := fun _ => False) id (Chg.of_below hb _) (sam_paint _ _ _) (fun k U hk => by
    by_cases e : k < L.length
    · rw [List.getElem?_append_left e] at hk; exact .inr ⟨id, hk⟩
    · have hkl : k = L.length := by
        have := (List.getElem?_eq_some_iff.1 hk).1
        simp at this; omega
      subst hkl
      rw [List.getElem?_append_right (Nat.le_refl _), Nat.sub_self] at hk
      obtain rfl := Option.some.inj hk
      exact .inl ⟨hT, hs⟩)
theorem GS.as (h : GS w0 W C L) (hk : L[k]? = some T) (hT : T' W C) (hs : Stb (k + 1) T') (hL : L.set k T' = L') : GS w0 W C L' := by
  subst hL
  refine ⟨h.bel, h.sam, fun j U hj => ?_⟩
  by_cases e : j = k
  · subst e
    rw [List.getElem?_set_self (List.getElem?_eq_some_iff.1 hk).1] at hj
    obtain rfl := Option.some.inj hj
    exact ⟨hT, hs⟩
  · rw [List.getElem?_set_ne (fun e2 => e e2.symm)] at hj
    exact h.all j U hj
end
theorem GS.front {w0 W : World} {C : Nat → Nat} {L K : List PartT} (h : GS w0 W C (L ++ K)) : GS w0 W C L :=
  ⟨h.bel, h.sam, fun k T hk => h.all k T (by rw [List.getElem?_append_left (List.getElem?_eq_some_iff.1 hk).1]; exact hk)⟩
structure FrC (W : World) (C : Nat → Nat) (c : Nat) (P : World → Prop) : Prop where
  now : P W
  later : ∀ w', W.heap.size ≤ w'.heap.size → (∀ b, b < W.heap.size → C b = c → w'.heap[b]? = W.heap[b]?) → P w'
section
variable {W w' : World} {C C' : Nat → Nat} {c : Nat} {P Q : World → Prop}
theorem FrC.step (h : FrC W C c P) {S : Nat → Prop} (hc : Chg S W w') (hs : Sam W.heap.size C C') (hS : ∀ b, S b → C b ≠ c) : FrC w' C' c P :=
  have key : ∀ b, b < W.heap.size → C b = c → w'.heap[b]? = W.heap[b]? := fun b hb h3 => hc.block b hb (fun e => hS b e h3)
  ⟨h.later w' hc.size key, fun w2 hz hk => h.later w2 (Nat.le_trans hc.size hz) (fun b hb h3 => (hk b (Nat.lt_of_lt_of_le hb hc.size) (by rw [hs b hb]; exact h3)).trans (key b hb h3))⟩
theorem FrC.blk {b : Nat} {t : TypeId} {cs : Array Value} (h : Blk W b t cs) (hc : C b = c) : FrC W C c (fun w => Blk w b t cs) := ⟨h, fun _ _ hk => (hk b h.lt hc).trans h⟩
theorem FrC.rb {A : Option Addr} {n : Nat} {l : List UInt8} (h : RB W A n l) (hc : 0 < n → ∀ ad, A = some ad → C ad.block = c) : FrC W C c (fun w => RB w A n l) :=
  ⟨h, fun w2 hz hk => ⟨h.1, fun hn => by
    obtain ⟨b, off, e, hb, hr⟩ := h.2 hn
    have h3 : C b = c := hc hn ⟨b, off, none⟩ e
    exact ⟨b, off, e, Nat.lt_of_lt_of_le hb hz, fun j x hj => (World.cell?_of_block (a := ⟨b, off + j, none⟩) (hk b hb h3)).trans (hr j x hj)⟩⟩⟩
end
theorem Stb.frc (c : Nat) (P : World → Prop) : Stb c (fun W C => FrC W C c P) := fun _ _ _ _ _ h hc hs hS => h.step hc hs hS
theorem GS.nil (w0 : World) : GS w0 w0 (fun _ => 0) [] := ⟨Below.refl _ _, Sam.refl _ _, fun _ _ h => by simp at h⟩
end Go.Proofs.YtlojmmcagglpoaaGreat
namespace Go.Proofs.YtlojmmcagglpoaaGreat
open Go.RowKit Go.Maps
def DCp (w0 : World) (c p n : Nat) (d : Dk) : PartT := fun W C => DC W w0.heap.size C c p n d
def RCp (w0 : World) (c q : Nat) (r : Rd) : PartT := fun W C => RC W w0.heap.size C c q r
theorem Stb.dcp (w0 : World) (c p n : Nat) (d : Dk) : Stb c (DCp w0 c p n d) := fun _ _ _ _ _ h hc hs hS => h.step hc hs hS
theorem Stb.rcp (w0 : World) (c q : Nat) (r : Rd) : Stb c (RCp w0 c q r) := fun _ _ _ _ _ h hc hs hS => h.step hc hs hS
def GsQ (w0 : World) (v : Value) (C : Nat → Nat) (L : List PartT) (e : Ending) (w' : World) : Prop := e = .returned v ∧ GS w0 w' C L
section
variable {w0 W W' : World} {C : Nat → Nat} {L : List PartT} {k p q n n' : Nat} {d d' : Dk} {r r' : Rd}
theorem GS.dstep (h : GS w0 W C L) (hk : L[k]? = some (DCp w0 (k + 1) p n d)) {a : Int × Dk} {e : Ending} (hq : StepQ W w0.heap.size C (k + 1) p n' a e W') : GsQ w0 (.int .i64 a.1) (paint C W.heap.size (k + 1)) (L.set k (DCp w0 (k + 1) p n' a.2)) e W' :=
  ⟨hq.1, h.turn (List.getElem?_eq_some_iff.1 hk).1 hq.2.2 hq.2.1 (Stb.dcp _ _ _ _ _) rfl⟩
theorem GS.rstep (h : GS w0 W C L) (hk : L[k]? = some (RCp w0 (k + 1) q r)) {v : Value} {e : Ending} (hq : RStepQ W w0.heap.size C (k + 1) q v r' e W') : GsQ w0 v (paint C W.heap.size (k + 1)) (L.set k (RCp w0 (k + 1) q r')) e W' :=
  ⟨hq.1, h.turn (List.getElem?_eq_some_iff.1 hk).1 hq.2.2 hq.2.1 (Stb.rcp _ _ _ _) rfl⟩
end
def PairC (w0 : World) (p q n : Nat) (d : Dk) (r : Rd) (n' : Nat) (fd fr : FuncId) (A : World → List Value → Prop) : Prop :=
  ∃ (v : Int) (d' : Dk) (r' : Rd), Alike d' r' n' ∧
    (∀ W C L k a, GS w0 W C L → L[k]? = some (DCp w0 (k + 1) p n d) → A W a → Calls Tryz.prog fd (.pointer (some ⟨p, 0, none⟩) :: a).toArray W (GsQ w0 (.int .i64 v) (paint C W.heap.size (k + 1)) (L.set k (DCp w0 (k + 1) p n' d')))) ∧
    (∀ W C L k a, GS w0 W C L → L[k]? = some (RCp w0 (k + 1) q r) → A W a → Calls Tryz.prog fr (.pointer (some ⟨q, 0, none⟩) :: a).toArray W (GsQ w0 (.int .i64 v) (paint C W.heap.size (k + 1)) (L.set k (RCp w0 (k + 1) q r'))))
section
variable {w0 : World} {p q n : Nat} {d : Dk} {r : Rd}
theorem pair_create (al : Alike d r n) (hok : d.Ok n) (hn : n + 2 < 1000000) (nm : List UInt8) : PairC w0 p q n d r (n + 2) 46 63 (fun _ a => a = [.string (strB nm)]) := by
  obtain ⟨h1, h2⟩ := al.create hok (by omega) nm
  refine ⟨(d.create nm).1, _, _, h2, fun W C L k a hg hk ha => ?_, fun W C L k a hg hk ha => ?_⟩ <;> subst ha
  · exact (create_g (hg.at_ hk) hn nm).mono fun e w' hq => hg.dstep hk hq
  · rw [h1]
    exact (rcreate_any (hg.at_ hk) hg.bel.size al.rok nm).mono fun e w' hq => hg.rstep hk hq
theorem pair_cut (al : Alike d r n) (hok : d.Ok n) (hn : n + 2 < 1000000) (nm : List UInt8) : PairC w0 p q n d r (n + 2) 53 65 (fun _ a => a = [.string (strB nm)]) := by
  obtain ⟨h1, h2⟩ := al.cut hok (by omega) nm
  refine ⟨(d.cut nm).1, _, _, h2, fun W C L k a hg hk ha => ?_, fun W C L k a hg hk ha => ?_⟩ <;> subst ha
  · exact (cut_g (hg.at_ hk) hn nm).mono fun e w' hq => hg.dstep hk hq
  · rw [h1]
    exact (rcut_any (hg.at_ hk) al.rok nm).mono fun e w' hq => hg.rstep hk hq
theorem pair_sync (al : Alike d r n) (hok : d.Ok n) (hn : n + 2 < 1000000) (nm : List UInt8) : PairC w0 p q n d r (n + 2) 48 68 (fun _ a => a = [.string (strB nm)]) := by
  obtain ⟨h1, h2⟩ := al.sync hok (by omega) nm
  refine ⟨(d.sync nm).1, _, _, h2, fun W C L k a hg hk ha => ?_, fun W C L k a hg hk ha => ?_⟩ <;> subst ha
  · exact (sync_g (hg.at_ hk) hn nm).mono fun e w' hq => hg.dstep hk hq
  · rw [h1]
    exact (rsync_any (hg.at_ hk) al.rok nm).mono fun e w' hq => hg.rstep hk hq
theorem pair_remove (al : Alike d r n) (hok : d.Ok n) (hn : n + 2 < 1000000) (nm : List UInt8) : PairC w0 p q n d r (n + 2) 54 67 (fun _ a => a = [.string (strB nm)]) := by
  obtain ⟨h1, h2⟩ := al.remove hok (by omega) nm
  refine ⟨(d.remove nm).1, _, _, h2, fun W C L k a hg hk ha => ?_, fun W C L k a hg hk ha => ?_⟩ <;> subst ha
  · exact (remove_g (hg.at_ hk) hn nm).mono fun e w' hq => hg.dstep hk hq
  · rw [h1]
    exact (rremove_any (hg.at_ hk) al.rok nm).mono fun e w' hq => hg.rstep hk hq
theorem pair_rename (al : Alike d r n) (hok : d.Ok n) (hn : n + 2 < 1000000) (old other : List UInt8) : PairC w0 p q n d r (n + 2) 51 66 (fun _ a => a = [.string (strB old), .string (strB other)]) := by
  obtain ⟨h1, h2⟩ := al.rename hok (by omega) old other
  refine ⟨(d.rename old other).1, _, _, h2, fun W C L k a hg hk ha => ?_, fun W C L k a hg hk ha => ?_⟩ <;> subst ha
  · exact (rename_g (hg.at_ hk) hn old other).mono fun e w' hq => hg.dstep hk hq
  · rw [h1]
    exact (rrename_any (hg.at_ hk) hg.bel.size al.rok old other).mono fun e w' hq => hg.rstep hk hq
theorem pair_crash (al : Alike d r n) (hn : n + 1 < 1000000) (keep : List Int) {k m cp : Nat} {A : Option Addr} {W : World} {C : Nat → Nat} {L : List PartT} (hg : GS w0 W C L) (hk : L[k]? = some (DCp w0 (k + 1) p n d)) (hr : RI W A m keep) (hm : m ≤ maxLen) (hra : 0 < m → ∀ ad, A = some ad → C ad.block ≠ k + 1) :
    Calls Tryz.prog 49 #[.pointer (some ⟨p, 0, none⟩), .slice A m cp] W fun e w' => ∃ d', Alike d' (r.crash keep) (n + 1) ∧ GsQ w0 (.tuple #[]) (paint C W.heap.size (k + 1)) (L.set k (DCp w0 (k + 1) p (n + 1) d')) e w' := by
  refine (crash_c (hg.at_ hk) hn hr hm hra).mono ?_
  rintro e w' ⟨ss, he, hs, hmm, hd, hc⟩
  exact ⟨_, al.crash (by omega) keep hs hmm, he, hg.turn (List.getElem?_eq_some_iff.1 hk).1 hc hd (Stb.dcp _ _ _ _ _) rfl⟩
theorem rcrash_g (hok : r.Ok n) (keep : List Int) {k m cp : Nat} {A : Option Addr} {W : World} {C : Nat → Nat} {L : List PartT} (hg : GS w0 W C L) (hk : L[k]? = some (RCp w0 (k + 1) q r)) (hr : RI W A m keep) (hm : m ≤ maxLen) (hra : 0 < m → ∀ ad, A = some ad → C ad.block ≠ k + 1) :
    Calls Tryz.prog 69 #[.pointer (some ⟨q, 0, none⟩), .slice A m cp] W (GsQ w0 (.tuple #[]) (paint C W.heap.size (k + 1)) (L.set k (RCp w0 (k + 1) q (r.crash keep)))) := by
  refine (rcrash_any (hg.at_ hk) hok hr hm hra).mono ?_
  rintro e w' ⟨he, hd, hc⟩
  exact ⟨he, hg.turn (List.getElem?_eq_some_iff.1 hk).1 hc hd (Stb.rcp _ _ _ _) rfl⟩
/-! ### What both answer -/
def AskV (W : World) (t : Int × Int × Int × Int × Int) (e : Ending) (w' : World) : Prop := e = .returned (.tuple #[.agg #[.int .i64 t.1, .int .i64 t.2.1, .int .i64 t.2.2.1, .int .i64 t.2.2.2.1], .int .i64 t.2.2.2.2]) ∧ Below W.heap.size W w'
theorem ask_stat (al : Alike d r n) (nm : List UInt8) {W : World} {N : Nat} {C : Nat → Nat} {c : Nat} (h : DC W N C c p n d) : Calls Tryz.prog 44 #[.pointer (some ⟨p, 0, none⟩), .string (strB nm)] W (AskV W (r.sti nm)) := by
  have := stat_g h nm
  rw [al.sim.stat h.ok nm] at this
  exact this.mono fun _ _ hq => hq
theorem ask_rstat (hok : r.Ok n) (nm : List UInt8) {W : World} {N : Nat} {C : Nat → Nat} {c : Nat} (h : RC W N C c q r) : Calls Tryz.prog 45 #[.pointer (some ⟨q, 0, none⟩), .string (strB nm)] W (AskV W (r.sti nm)) :=
  (rstat_any h hok nm).mono fun _ _ hq => hq
theorem ask_rinode (hok : r.Ok n) (i : Int) {W : World} {N : Nat} {C : Nat → Nat} {c : Nat} (h : RC W N C c q r) : Calls Tryz.prog 56 #[.pointer (some ⟨q, 0, none⟩), .int .i64 i] W (AskV W (r.inode i)) :=
  (rinode_any h hok i).mono fun _ _ hq => hq
theorem ask_rread (al : Alike d r n) (hdk : d.Ok n) (i gen off size : Int) (hoff : okInt off) (hsize : okInt size) {W : World} {N : Nat} {C : Nat → Nat} {c : Nat} (h : RC W N C c q r) : Calls Tryz.prog 57 #[.pointer (some ⟨q, 0, none⟩), .int .i64 i, .int .i64 gen, .int .i64 off, .int .i64 size] W (BytesQ W (r.read i gen off size)) :=
  rread_any h al.rok i gen off size hoff hsize (al.sim.cons hdk al.uq al.may i)
theorem ask_names (al : Alike d r n) (hn : n < 1000000) {W : World} {N : Nat} {C : Nat → Nat} {c : Nat} (h : DC W N C c p n d) : Calls Tryz.prog 42 #[.pointer (some ⟨p, 0, none⟩)] W (AllQ W r.all) := by
  refine (names_c h hn).mono ?_
  rintro e w' ⟨v, ss, he, hnd, hmem, ho, hb⟩
  have h1 := al.sim.all al.uq hnd hmem
  rw [h1] at ho
  have h2 : ss.length = r.all.length := by rw [← h1, List.length_mergeSort]
  rw [h2] at ho
  exact ⟨v, he, ho, hb⟩
theorem ask_all (hok : r.Ok n) {W : World} {N : Nat} {C : Nat → Nat} {c : Nat} (h : RC W N C c q r) : Calls Tryz.prog 43 #[.pointer (some ⟨q, 0, none⟩)] W (AllQ W r.all) :=
  rall_any h (Nat.le_trans hok.nl hok.big)
end
end Go.Proofs.YtlojmmcagglpoaaGreat
namespace Go.Proofs.YtlojmmcagglpoaaGreat
open Go.RowKit Go.Maps
abbrev L2 (w0 : World) (p n : Nat) (d : Dk) (q : Nat) (r : Rd) (M : List PartT) : List PartT := DCp w0 1 p n d :: RCp w0 2 q r :: M
def PairT (w0 : World) (p q n : Nat) (d : Dk) (r : Rd) (n' : Nat) (fd fr : FuncId) (A : World → List Value → Prop) : Prop :=
  ∃ (v : Int) (d' : Dk) (r' : Rd), Alike d' r' n' ∧
    (∀ W C M a, GS w0 W C (L2 w0 p n d q r M) → A W a → Calls Tryz.prog fd (.pointer (some ⟨p, 0, none⟩) :: a).toArray W (GsQ w0 (.int .i64 v) (paint C W.heap.size 1) (L2 w0 p n' d' q r M))) ∧
    (∀ W C M a, GS w0 W C (L2 w0 p n' d' q r M) → A W a → Calls Tryz.prog fr (.pointer (some ⟨q, 0, none⟩) :: a).toArray W (GsQ w0 (.int .i64 v) (paint C W.heap.size 2) (L2 w0 p n' d' q r' M)))
theorem PairC.two {w0 : World} {p q n n' : Nat} {d : Dk} {r : Rd} {fd fr : FuncId} {A : World → List Value → Prop} (h : PairC w0 p q n d r n' fd fr A) : PairT w0 p q n d r n' fd fr A := by
  obtain ⟨v, d', r', h1, h2, h3⟩ := h
  exact ⟨v, d', r', h1, fun W C M a hg ha => h2 W C _ 0 a hg rfl ha, fun W C M a hg ha => h3 W C _ 1 a hg rfl ha⟩
theorem GS.last {w0 W : World} {C : Nat → Nat} {L : List PartT} {T : PartT} (h : GS w0 W C (L ++ [T])) : T W C := h.at_ (k := L.length) (by simp)
theorem GS.hold {w0 W W' : World} {C : Nat → Nat} {L : List PartT} (h : GS w0 W C L) (hb : Below W.heap.size W W') {P : World → Prop} (hP : FrC W' (paint C W.heap.size (L.length + 1)) (L.length + 1) P) : GS w0 W' (paint C W.heap.size (L.length + 1)) (L ++ [fun W C => FrC W C (L.length + 1) P]) :=
  h.add hb hP (Stb.frc _ _)
theorem GS.holdBlk {w0 W W' : World} {C : Nat → Nat} {L : List PartT} (h : GS w0 W C L) (hb : Below W.heap.size W W') {b : Nat} {t : TypeId} {cs : Array Value} (hK : Blk W' b t cs) (hlt : W.heap.size ≤ b) : GS w0 W' (paint C W.heap.size (L.length + 1)) (L ++ [fun W C => FrC W C (L.length + 1) (fun w => Blk w b t cs)]) :=
  h.hold hb (FrC.blk hK (paint_new C _ hlt))
theorem GS.holdRb {w0 W W' : World} {C : Nat → Nat} {L : List PartT} (h : GS w0 W C L) (hb : Below W.heap.size W W') {b off m : Nat} {l : List UInt8} (hK : RB W' (some ⟨b, off, none⟩) m l) (hlt : W.heap.size ≤ b) : GS w0 W' (paint C W.heap.size (L.length + 1)) (L ++ [fun W C => FrC W C (L.length + 1) (fun w => RB w (some ⟨b, off, none⟩) m l)]) :=
  h.hold hb (FrC.rb hK (fun _ ad e => by obtain rfl := Option.some.inj e; exact paint_new C _ hlt))
theorem conv_strN (w : World) (l : List UInt8) : ∃ w' c, (convert 9 61 (.string (strB l))).run Tryz.prog w = .ok (.slice (some ⟨w.heap.size, 0, none⟩) l.length c) w' ∧ Below w.heap.size w w' ∧ RB w' (some ⟨w.heap.size, 0, none⟩) l.length l :=
  ⟨_, _, Lib.run_convert_string_bytes (P := Tryz.prog) w 9 61 5 (strB l) Tryz.underlying9 Tryz.underlying61 Tryz.underlying5, below_bytes _ _ _, rb_bytes w (strB l)⟩
theorem GS.came {w0 W : World} {C : Nat → Nat} {L : List PartT} (h : GS w0 W C L) {A : Option Addr} {m : Nat} {l : List Int} (hr : RI w0 A m l) : RI W A m l ∧ (0 < m → ∀ ad, A = some ad → C ad.block = 0) :=
  ⟨hr.keep h.bel, fun hm ad e => by
    obtain ⟨b, off, e2, hb, _⟩ := hr.2 hm
    rw [e] at e2
    obtain rfl := Option.some.inj e2
    exact h.sam b hb⟩
end Go.Proofs.YtlojmmcagglpoaaGreat
