/- THE PLAIN LAW of SimfsHistory: what each call leaves as it was. Nothing of the program's code is used here. -/
import Derived.Test.YthhbfjhgmdnpbaaDoes
import Derived.Test.YthhbfjhgmdnpbaaCrashAt
import Derived.Test.YthhbfjhgmdnpbaaGrown
import Derived.Test.YthhbfjhgmdnpbaaDiskFile
namespace Go.Proofs.Ythhbfjhgmdnpbaa
open Go.RowKit Go.Maps
def GrowR (x : Fl) (q : Option Fl) : Prop := ∀ y, q = some y → x.ge < y.ge ∨ (y.ge = x.ge ∧ ∃ l, y.by_ = x.by_ ++ l)
def GrowA (d d' : Dk) : Prop := ∀ i : Int, i ≤ d.no → (d.fs i = none → d'.fs i = none) ∧ ∀ x, d.fs i = some x → GrowR x (d'.fs i)
theorem beginsB_app (a l : List UInt8) : beginsB a (a ++ l) = true := by unfold beginsB; simp
theorem grown_of {d d' : Dk} (h : GrowA d d') {i : Int} (h0 : i ≠ 0) (hi : i ≤ d.no) : grownB (fvOf d i) (fvOf d' i) = true := by
  obtain ⟨h1, h2⟩ := h i hi
  unfold grownB fvOf
  cases hx : d.fs i with
  | none => rw [h1 hx]; simp
  | some x =>
    cases hy : d'.fs i with
    | none => simp
    | some y =>
      simp only
      rw [if_neg (by omega)]
      rcases h2 x hx y hy with h3 | ⟨h3, l, h4⟩
      · rw [decide_eq_true (by omega : (x.ge : Int) < y.ge)]; rfl
      · rw [h4, beginsB_app]; simp [h3]
theorem GrowR.refl (x : Fl) : GrowR x (some x) := fun y h => by obtain rfl := Option.some.inj h; exact .inr ⟨rfl, [], by simp⟩
theorem GrowR.none (x : Fl) : GrowR x none := fun y h => by cases h
theorem GrowA.refl (d : Dk) : GrowA d d := fun i _ => ⟨fun h => h, fun x hx => by rw [hx]; exact GrowR.refl x⟩
theorem GrowA.edit {d : Dk} {i : Int} {x y : Fl} (hx : d.fs i = some x) (h : GrowR x (some y)) : GrowA d (d.edit i y) := fun j _ => by
  rw [Dk.edit_fs]
  by_cases e : j = i
  · rw [if_pos e, e, hx]
    exact ⟨fun h => (by cases h), fun z hz => (by obtain rfl := Option.some.inj hz; exact h)⟩
  · rw [if_neg e]; exact GrowA.refl d j ‹_›
theorem GrowA.less (d : Dk) (nm : List UInt8) (i : Int) : GrowA d (d.less nm i) := fun j hj => by
  rw [Dk.less_fs]
  by_cases e : j = i
  · rw [if_pos e]; exact ⟨fun _ => rfl, fun x _ => GrowR.none x⟩
  · rw [if_neg e]; exact GrowA.refl d j hj
theorem GrowA.made (d : Dk) (nm : List UInt8) : GrowA d (d.made nm) := fun j hj => by
  unfold Dk.made
  rw [Dk.named_fs, if_neg (by omega)]
  show (d.fs j = none → (if j = (d.no : Int) + 1 then some ⟨[], [], 0, 0⟩ else d.fs j) = none) ∧ ∀ x, d.fs j = some x → GrowR x (if j = (d.no : Int) + 1 then some ⟨[], [], 0, 0⟩ else d.fs j)
  rw [if_neg (by omega)]
  exact GrowA.refl d j hj
theorem GrowA.ren {d : Dk} {old other : List UInt8} {i : Int} {x : Fl} (hx : d.fs i = some x) : GrowA d (d.ren old other i x) := fun j hj => by
  unfold Dk.ren
  rw [Dk.named_fs]
  by_cases e : j = i
  · rw [if_pos e, e, hx]
    refine ⟨fun h => (by cases h), fun z hz y hy => ?_⟩
    obtain rfl := Option.some.inj hz
    obtain rfl := Option.some.inj hy
    exact .inr ⟨rfl, [], by simp⟩
  · rw [if_neg e]
    show (d.fs j = none → (match d.ns other with | some m => delM d.fs m | none => d.fs) j = none) ∧ ∀ x, d.fs j = some x → GrowR x ((match d.ns other with | some m => delM d.fs m | none => d.fs) j)
    cases d.ns other with
    | none => exact GrowA.refl d j hj
    | some m =>
      simp only
      by_cases e2 : j = m
      · rw [e2, delM_same]; exact ⟨fun _ => rfl, fun x _ => GrowR.none x⟩
      · rw [delM_other _ e2]; exact GrowA.refl d j hj
theorem GrowA.crash {keep : List Int} {m : Nat} {d d' : Dk} (h : CAll keep m d d') : GrowA d d' := fun i _ => ⟨h.nn i, fun x hx y hy => by
  obtain ⟨k, _, h2⟩ := h.at_ i x hx
  rw [h2] at hy
  obtain rfl := Option.some.inj hy
  rcases crashF_front keep k x with ⟨h3, h4⟩ | ⟨_, _, h5⟩
  · exact .inr ⟨h4, [], by rw [h3]; simp⟩
  · exact .inl (by omega)⟩
theorem GrowA.edits {d : Dk} {n : Nat} (h : d.Ok n) (nm : List UInt8) (f : Fl → Fl) (hf : ∀ x, GrowR x (some (f x))) : GrowA d (d.edits nm f).2 ∧ (d.edits nm f).2.se = d.se ∧ (d.edits nm f).2.no = d.no ∧ ((d.edits nm f).1 ≠ 0 → (d.edits nm f).2 = d) := by
  unfold Dk.edits
  split
  · cases hq : d.file nm with
    | none => exact ⟨GrowA.refl d, rfl, rfl, fun _ => rfl⟩
    | some q =>
      obtain ⟨i, x⟩ := q
      obtain ⟨_, h2, _⟩ := h.of_file hq
      exact ⟨GrowA.edit h2 (hf x), rfl, rfl, fun e => absurd rfl e⟩
  · exact ⟨GrowA.refl d, rfl, rfl, fun _ => rfl⟩
theorem kept_grow (x : Fl) (k : Nat) : GrowR x (some (x.kept k)) := fun y hy => by
  obtain rfl := Option.some.inj hy
  unfold Fl.kept
  split
  · exact .inl (Nat.lt_succ_self _)
  · exact .inr ⟨rfl, [], by simp⟩
/-- what Stat tells: inode, serial, generation, size; the error -/
noncomputable def Dk.sti (d : Dk) (nm : List UInt8) : Int × Int × Int × Int × Int := if mayB nm = true then (match d.file nm with | none => (0, 0, 0, 0, 141) | some (i, x) => (i, (d.se nm).getD 0, (x.ge : Int), (x.by_.length : Int), 0)) else (0, 0, 0, 0, 140)
theorem Dk.stat_sti (d : Dk) (nm : List UInt8) : d.stat nm = (statV (d.sti nm).1 (d.sti nm).2.1 (d.sti nm).2.2.1 (d.sti nm).2.2.2.1, (d.sti nm).2.2.2.2) := by
  unfold Dk.stat Dk.sti
  split
  · cases d.file nm with
    | none => rfl
    | some q => rfl
  · rfl
theorem Dk.sti_ser (d : Dk) (nm : List UInt8) (h : (d.sti nm).2.2.2.2 = 0) : (d.sti nm).2.1 = (d.se nm).getD 0 := by
  unfold Dk.sti at h ⊢
  split
  · rename_i hm
    rw [if_pos hm] at h
    cases hf : d.file nm with
    | none => rw [hf] at h; cases h
    | some q => rfl
  · rename_i hm
    rw [if_neg hm] at h; cases h
theorem Dk.sti_of {d : Dk} {nm : List UInt8} (hm : mayB nm = true) {i : Int} {x : Fl} (hf : d.file nm = some (i, x)) : d.sti nm = (i, (d.se nm).getD 0, (x.ge : Int), (x.by_.length : Int), 0) := by
  unfold Dk.sti
  rw [if_pos hm, hf]
def toOf (o : O14) : List UInt8 := if o.k = 3 then o.b else o.a
structure Hist (o : O14) (d d' : Dk) (r : Int) (ar : Bool) : Prop where
  no : d'.no = if o.k = 0 ∧ r = 0 then d.no + 1 else d.no
  grow : GrowA d d'
  same : r ≠ 0 → d' = d
  zero : ar = true → o.k = 0 → ∃ x, d'.fs (d'.no : Int) = some x ∧ x.by_ = []
  se0 : ar = false → d'.se = d.se
  arr : ar = true → (d'.sti (toOf o)).2.2.2.2 = 0 ∧ (d'.se (toOf o)).getD 0 = (d.se (toOf o)).getD 0 + 1
  ino : ar = true → o.k = 0 → (d'.sti (toOf o)).1 = (d'.no : Int)
theorem Hist.quiet {o : O14} {d d' : Dk} {r : Int} (hk : o.k ≠ 0) (hg : GrowA d d') (hs : d'.se = d.se) (hn : d'.no = d.no) (he : r ≠ 0 → d' = d) : Hist o d d' r false :=
  ⟨by rw [if_neg (fun e => hk e.1)]; exact hn, hg, he, fun e => (by cases e), fun _ => hs, fun e => (by cases e), fun e => (by cases e)⟩
theorem hist_any {o : O14} {d d' : Dk} {r : Int} {ar : Bool} {n : Nat} (h : d.Ok n) (hr : DoesR o d r ar d') : Hist o d d' r ar := by
  rcases hr with ⟨hk, hq, ha⟩ | ⟨hk, hq, ha⟩ | ⟨hk, hq, ha⟩ | ⟨hk, hq, ha⟩ | ⟨hk, hq, ha⟩ | ⟨hk, hq, ha⟩ | ⟨hk, hr0, ha, ss, h1, h2, hd⟩ | ⟨k0, k1, k2, k3, k4, k5, k6, hr0, ha, hd⟩
  · have ht : toOf o = o.a := by unfold toOf; rw [if_neg (by omega)]
    have bad : ∀ v : Int, v ≠ 0 → (r, d') = (v, d) → Hist o d d' r ar := fun v hv e => by
      injection e with e1 e2
      subst e1 e2
      have ha' : ar = false := by rw [ha]; simp [hv]
      subst ha'
      exact ⟨by rw [if_neg (fun e => hv e.2)], GrowA.refl _, fun _ => rfl, fun e => (by cases e), fun _ => rfl, fun e => (by cases e), fun e => (by cases e)⟩
    unfold Dk.create at hq
    split at hq
    · rename_i hm
      cases hn : d.ns o.a with
      | some j => rw [hn] at hq; exact bad 142 (by decide) hq
      | none =>
        rw [hn] at hq
        injection hq with e1 e2
        subst e1 e2
        have hf : (d.made o.a).file o.a = some ((d.no : Int) + 1, ⟨o.a, [], 0, 0⟩) := by rw [h.file_made hn, if_pos rfl]
        have hno : (d.made o.a).no = d.no + 1 := rfl
        have hse : (d.made o.a).se o.a = some ((d.se o.a).getD 0 + 1) := by unfold Dk.made; rw [Dk.named_se, if_pos rfl]; rfl
        refine ⟨by rw [if_pos ⟨hk, rfl⟩]; exact hno, GrowA.made d o.a, fun e => absurd rfl e, fun _ _ => ⟨⟨o.a, [], 0, 0⟩, ?_, rfl⟩, fun e => ?_, fun _ => ?_, fun _ _ => ?_⟩
        · rw [hno]
          unfold Dk.made
          rw [Dk.named_fs, if_pos (by omega)]
        · rw [ha] at e; cases e
        · rw [ht, Dk.sti_of hm hf, hse]; exact ⟨rfl, rfl⟩
        · rw [ht, Dk.sti_of hm hf, hno]; simp
    · exact bad 140 (by decide) hq
  · subst ha
    unfold Dk.append at hq
    split at hq
    · cases hf : d.file o.a with
      | none =>
        rw [hf] at hq
        injection hq with e1 e2
        subst e1 e2
        exact Hist.quiet (by omega) (GrowA.refl _) rfl rfl (fun _ => rfl)
      | some q =>
        obtain ⟨i, x⟩ := q
        rw [hf] at hq
        simp only at hq
        split at hq
        · injection hq with e1 e2
          subst e1 e2
          exact Hist.quiet (by omega) (GrowA.refl _) rfl rfl (fun _ => rfl)
        · injection hq with e1 e2
          subst e1 e2
          exact Hist.quiet (by omega) (GrowA.edit (h.of_file hf).2.1 (fun y hy => by obtain rfl := Option.some.inj hy; exact .inr ⟨rfl, _, rfl⟩)) rfl rfl (fun e => absurd rfl e)
    · injection hq with e1 e2
      subst e1 e2
      exact Hist.quiet (by omega) (GrowA.refl _) rfl rfl (fun _ => rfl)
  · subst ha
    obtain ⟨g1, g2, g3, g4⟩ := GrowA.edits h o.a (fun x => x.kept 0) (fun x => kept_grow x 0)
    unfold Dk.cut at hq
    obtain ⟨rfl, rfl⟩ := Prod.ext_iff.1 hq
    exact Hist.quiet (by omega) g1 g2 g3 g4
  · have ht : toOf o = o.b := by unfold toOf; rw [if_pos hk]
    have bad : ∀ v : Int, v ≠ 0 → (r, d') = (v, d) → Hist o d d' r ar := fun v hv e => by
      injection e with e1 e2
      subst e1 e2
      have ha' : ar = false := by rw [ha]; simp [hv]
      subst ha'
      exact Hist.quiet (by omega) (GrowA.refl _) rfl rfl (fun _ => rfl)
    unfold Dk.rename at hq
    split at hq
    · rename_i hm
      rw [Bool.and_eq_true] at hm
      cases hf : d.file o.a with
      | none => rw [hf] at hq; exact bad 141 (by decide) hq
      | some q =>
        obtain ⟨i, x⟩ := q
        rw [hf] at hq
        simp only at hq
        split at hq
        · rename_i hab
          injection hq with e1 e2
          subst e1 e2
          have ha' : ar = false := by rw [ha, hab]; simp
          subst ha'
          exact Hist.quiet (by omega) (GrowA.refl _) rfl rfl (fun _ => rfl)
        · rename_i hab
          injection hq with e1 e2
          subst e1 e2
          have hfo : (d.ren o.a o.b i x).file o.b = some (i, { x with nm := o.b }) := by rw [h.file_ren hab hf, if_pos rfl]
          have hse : (d.ren o.a o.b i x).se o.b = some ((d.se o.b).getD 0 + 1) := by unfold Dk.ren; rw [Dk.named_se, if_pos rfl]; rfl
          refine ⟨by rw [if_neg (by omega)]; rfl, GrowA.ren (h.of_file hf).2.1, fun e => absurd rfl e, fun _ e => (by omega), fun e => ?_, fun _ => ?_, fun _ e => (by omega)⟩
          · rw [ha] at e; simp [hab] at e
          · rw [ht, Dk.sti_of hm.2 hfo, hse]; exact ⟨rfl, rfl⟩
    · exact bad 140 (by decide) hq
  · subst ha
    unfold Dk.remove at hq
    split at hq
    · cases hn : d.ns o.a with
      | none =>
        rw [hn] at hq
        injection hq with e1 e2
        subst e1 e2
        exact Hist.quiet (by omega) (GrowA.refl _) rfl rfl (fun _ => rfl)
      | some j =>
        rw [hn] at hq
        injection hq with e1 e2
        subst e1 e2
        exact Hist.quiet (by omega) (GrowA.less d _ _) rfl rfl (fun e => absurd rfl e)
    · injection hq with e1 e2
      subst e1 e2
      exact Hist.quiet (by omega) (GrowA.refl _) rfl rfl (fun _ => rfl)
  · subst ha
    obtain ⟨g1, g2, g3, g4⟩ := GrowA.edits h o.a (fun x => { x with la := x.by_.length }) (fun x y hy => by obtain rfl := Option.some.inj hy; exact .inr ⟨rfl, [], by simp⟩)
    unfold Dk.sync at hq
    obtain ⟨rfl, rfl⟩ := Prod.ext_iff.1 hq
    exact Hist.quiet (by omega) g1 g2 g3 g4
  · subst ha
    have hc := crash_all (keep := o.ks) h1 h2
    rw [← hd] at hc
    exact Hist.quiet (by omega) (GrowA.crash hc) hc.se hc.no (fun e => absurd hr0 e)
  · subst ha hd
    exact Hist.quiet k0 (GrowA.refl _) rfl rfl (fun _ => rfl)
end Go.Proofs.Ythhbfjhgmdnpbaa
