/- THE PLAIN LAW of a follower over the program's disk (FollowStood): what stands, and that places rise. Nothing of the program's code is used here. -/
import Derived.Test.YtlojmmcagglpoaaZCrash
import Derived.Test.YtlojmmcagglpoaaZDiskFile
import Derived.Test.YtlojmmcagglpoaaZDiskG
import Derived.Test.YtlojmmcagglpoaaZFwStep
namespace Go.Proofs.Ytlojmmcagglpoaa
open Go.RowKit Go.Maps
theorem crashS_no (keep : List Int) (s : Dk × Nat) (i : Int) : (crashS keep s i).1.no = s.1.no ∧ (crashS keep s i).1.ns = s.1.ns ∧ (crashS keep s i).1.se = s.1.se := by
  unfold crashS
  split <;> exact ⟨rfl, rfl, rfl⟩
/-- j files are done: what each file has -/
structure CA (keep ss : List Int) (d : Dk) (j : Nat) : Prop where
  no : (crashD keep ss d j).1.no = d.no
  ns : (crashD keep ss d j).1.ns = d.ns
  se : (crashD keep ss d j).1.se = d.se
  le : (crashD keep ss d j).2 ≤ j
  un : ∀ i, i ∉ ss.take j → (crashD keep ss d j).1.fs i = d.fs i
  nn : ∀ i, d.fs i = none → (crashD keep ss d j).1.fs i = none
  at_ : ∀ i x, i ∈ ss.take j → d.fs i = some x → ∃ k, k < j ∧ (crashD keep ss d j).1.fs i = some (crashF keep k x)
theorem crash_at {keep ss : List Int} {d : Dk} (hs : ss.Pairwise (· < ·)) : ∀ j, j ≤ ss.length → CA keep ss d j
  | 0, _ => ⟨rfl, rfl, rfl, Nat.le_refl _, fun _ _ => rfl, fun _ h => h, fun _ _ h => by simp at h⟩
  | j + 1, hj => by
    have ih := crash_at (keep := keep) (d := d) hs j (by omega)
    obtain ⟨q, hq⟩ : ∃ q, ss[j]? = some q := ⟨_, List.getElem?_eq_getElem (by omega)⟩
    have hst := crashD_succ (keep := keep) (d := d) hq
    have hno := crashS_no keep (crashD keep ss d j) q
    have htk : ss.take (j + 1) = ss.take j ++ [q] := by rw [List.take_add_one, hq]; rfl
    have hnq : q ∉ ss.take j := fun hmem => by
      obtain ⟨r, hr⟩ := List.getElem?_of_mem hmem
      have hrl : r < j := by
        have := (List.getElem?_eq_some_iff.1 hr).1
        rw [List.length_take] at this; omega
      rw [List.getElem?_take_of_lt hrl] at hr
      obtain ⟨h1, h2⟩ := List.getElem?_eq_some_iff.1 hr
      obtain ⟨h3, h4⟩ := List.getElem?_eq_some_iff.1 hq
      have := List.pairwise_iff_getElem.1 hs r j h1 h3 hrl
      rw [h2, h4] at this
      omega
    cases hx : (crashD keep ss d j).1.fs q with
    | none =>
      have e : crashD keep ss d (j + 1) = crashD keep ss d j := by rw [hst]; unfold crashS; rw [hx]
      rw [ih.un q hnq] at hx
      refine ⟨by rw [e]; exact ih.no, by rw [e]; exact ih.ns, by rw [e]; exact ih.se, by rw [e]; exact Nat.le_succ_of_le ih.le, fun i hi => ?_, fun i hi => by rw [e]; exact ih.nn i hi, fun i x hi hd => ?_⟩
      · rw [e]; exact ih.un i (fun h => hi (by rw [htk]; exact List.mem_append_left _ h))
      · rw [htk] at hi
        rcases List.mem_append.1 hi with h | h
        · obtain ⟨k, h1, h2⟩ := ih.at_ i x h hd
          exact ⟨k, by omega, by rw [e]; exact h2⟩
        · rw [List.mem_singleton.1 h, hx] at hd; cases hd
    | some x0 =>
      have e : crashD keep ss d (j + 1) = ((crashD keep ss d j).1.edit q (crashF keep (crashD keep ss d j).2 x0), crashK (crashD keep ss d j).2 x0) := by rw [hst]; unfold crashS; rw [hx]
      have hx' := hx
      rw [ih.un q hnq] at hx'
      refine ⟨by rw [hst, hno.1]; exact ih.no, by rw [hst, hno.2.1]; exact ih.ns, by rw [hst, hno.2.2]; exact ih.se, by rw [e]; exact Nat.le_trans (crashK_le _ _) (Nat.succ_le_succ ih.le), fun i hi => ?_, fun i hi => ?_, fun i x hi hd => ?_⟩
      · have h1 : i ≠ q := fun h => hi (by rw [htk, h]; exact List.mem_append_right _ (List.mem_singleton.2 rfl))
        rw [e]; show (Dk.edit _ q _).fs i = _
        rw [Dk.edit_fs, if_neg h1]
        exact ih.un i (fun h => hi (by rw [htk]; exact List.mem_append_left _ h))
      · have h1 : i ≠ q := fun h => by rw [h, hx'] at hi; cases hi
        rw [e]; show (Dk.edit _ q _).fs i = _
        rw [Dk.edit_fs, if_neg h1]
        exact ih.nn i hi
      · rw [e]; show ∃ k, k < j + 1 ∧ (Dk.edit _ q _).fs i = _
        rw [Dk.edit_fs]
        by_cases h1 : i = q
        · rw [if_pos h1]
          rw [h1, hx'] at hd
          obtain rfl := Option.some.inj hd
          exact ⟨_, Nat.lt_succ_of_le ih.le, rfl⟩
        · rw [if_neg h1]
          rw [htk] at hi
          rcases List.mem_append.1 hi with h | h
          · obtain ⟨k, h2, h3⟩ := ih.at_ i x h hd
            exact ⟨k, by omega, h3⟩
          · exact absurd (List.mem_singleton.1 h) h1
/-- all files are done -/
structure CAll (keep : List Int) (m : Nat) (d d' : Dk) : Prop where
  no : d'.no = d.no
  ns : d'.ns = d.ns
  se : d'.se = d.se
  nn : ∀ i, d.fs i = none → d'.fs i = none
  at_ : ∀ i x, d.fs i = some x → ∃ k, k < m ∧ d'.fs i = some (crashF keep k x)
theorem crash_all {keep ss : List Int} {d : Dk} (hs : ss.Pairwise (· < ·)) (hm : ∀ i, i ∈ ss ↔ (d.fs i).isSome = true) : CAll keep ss.length d (crashD keep ss d ss.length).1 := by
  have h := crash_at (keep := keep) (d := d) hs ss.length (Nat.le_refl _)
  exact ⟨h.no, h.ns, h.se, h.nn, fun i x hx => h.at_ i x (by rw [List.take_length, hm, hx]; rfl) hx⟩
/-- a front of the bytes, and the generation tells -/
theorem crashF_front (keep : List Int) (k : Nat) (x : Fl) : ((crashF keep k x).by_ = x.by_ ∧ (crashF keep k x).ge = x.ge) ∨ ((crashF keep k x).by_ = x.by_.take (crashN keep k x) ∧ crashN keep k x < x.by_.length ∧ (crashF keep k x).ge = x.ge + 1) := by
  unfold crashF
  split
  · exact .inl ⟨rfl, rfl⟩
  · unfold crash1 Fl.kept
    simp only
    split
    · rename_i h; exact .inr ⟨rfl, h, rfl⟩
    · exact .inl ⟨rfl, rfl⟩
end Go.Proofs.Ytlojmmcagglpoaa
namespace Go.Proofs.Ytlojmmcagglpoaa
open Go.RowKit Go.Maps
def GrowR (x : Fl) (q : Option Fl) : Prop := ∀ y, q = some y → x.ge < y.ge ∨ (y.ge = x.ge ∧ ∃ l, y.by_ = x.by_ ++ l)
def GrowA (d d' : Dk) : Prop := ∀ i : Int, i ≤ d.no → (d.fs i = none → d'.fs i = none) ∧ ∀ x, d.fs i = some x → GrowR x (d'.fs i)
theorem GrowR.refl (x : Fl) : GrowR x (some x) := fun y h => by obtain rfl := Option.some.inj h; exact .inr ⟨rfl, [], by simp⟩
theorem GrowR.none (x : Fl) : GrowR x none := fun y h => by cases h
theorem GrowA.refl (d : Dk) : GrowA d d := fun i _ => ⟨fun h => h, fun x hx => by rw [hx]; exact GrowR.refl x⟩
theorem GrowA.edit {d : Dk} {i : Int} {x y : Fl} (hx : d.fs i = some x) (h : GrowR x (some y)) : GrowA d (d.edit i y) := fun j _ => by
  rw [Dk.edit_fs]
  by_cases e : j = i
  · rw [if_pos e, e, hx]
    exact ⟨fun h => (by cases h), fun z hz => (by obtain rfl := Option.some.inj hz; exact h)⟩
  · rw [if_neg e]; exact GrowA.refl d j ‹_›
theorem GrowA.less (d : Dk) (nm : List UInt8) (i : Int) : GrowA d (d.less nm i) := fun j hj => by
  rw [Dk.less_fs]
  by_cases e : j = i
  · rw [if_pos e]; exact ⟨fun _ => rfl, fun x _ => GrowR.none x⟩
  · rw [if_neg e]; exact GrowA.refl d j hj
theorem GrowA.made (d : Dk) (nm : List UInt8) : GrowA d (d.made nm) := fun j hj => by
  unfold Dk.made
  rw [Dk.named_fs, if_neg (by omega)]
  show (d.fs j = none → (if j = (d.no : Int) + 1 then some ⟨[], [], 0, 0⟩ else d.fs j) = none) ∧ ∀ x, d.fs j = some x → GrowR x (if j = (d.no : Int) + 1 then some ⟨[], [], 0, 0⟩ else d.fs j)
  rw [if_neg (by omega)]
  exact GrowA.refl d j hj
theorem GrowA.ren {d : Dk} {old other : List UInt8} {i : Int} {x : Fl} (hx : d.fs i = some x) : GrowA d (d.ren old other i x) := fun j hj => by
  unfold Dk.ren
  rw [Dk.named_fs]
  by_cases e : j = i
  · rw [if_pos e, e, hx]
    refine ⟨fun h => (by cases h), fun z hz y hy => ?_⟩
    obtain rfl := Option.some.inj hz
    obtain rfl := Option.some.inj hy
    exact .inr ⟨rfl, [], by simp⟩
  · rw [if_neg e]
    show (d.fs j = none → (match d.ns other with | some m => delM d.fs m | none => d.fs) j = none) ∧ ∀ x, d.fs j = some x → GrowR x ((match d.ns other with | some m => delM d.fs m | none => d.fs) j)
    cases d.ns other with
    | none => exact GrowA.refl d j hj
    | some m =>
      simp only
      by_cases e2 : j = m
      · rw [e2, delM_same]; exact ⟨fun _ => rfl, fun x _ => GrowR.none x⟩
      · rw [delM_other _ e2]; exact GrowA.refl d j hj
theorem GrowA.crash {keep : List Int} {m : Nat} {d d' : Dk} (h : CAll keep m d d') : GrowA d d' := fun i _ => ⟨h.nn i, fun x hx y hy => by
  obtain ⟨k, _, h2⟩ := h.at_ i x hx
  rw [h2] at hy
  obtain rfl := Option.some.inj hy
  rcases crashF_front keep k x with ⟨h3, h4⟩ | ⟨_, _, h5⟩
  · exact .inr ⟨h4, [], by rw [h3]; simp⟩
  · exact .inl (by omega)⟩
theorem GrowA.edits {d : Dk} {n : Nat} (h : d.Ok n) (nm : List UInt8) (f : Fl → Fl) (hf : ∀ x, GrowR x (some (f x))) : GrowA d (d.edits nm f).2 ∧ (d.edits nm f).2.se = d.se ∧ (d.edits nm f).2.no = d.no ∧ ((d.edits nm f).1 ≠ 0 → (d.edits nm f).2 = d) := by
  unfold Dk.edits
  split
  · cases hq : d.file nm with
    | none => exact ⟨GrowA.refl d, rfl, rfl, fun _ => rfl⟩
    | some q =>
      obtain ⟨i, x⟩ := q
      obtain ⟨_, h2, _⟩ := h.of_file hq
      exact ⟨GrowA.edit h2 (hf x), rfl, rfl, fun e => absurd rfl e⟩
  · exact ⟨GrowA.refl d, rfl, rfl, fun _ => rfl⟩
theorem kept_grow (x : Fl) (k : Nat) : GrowR x (some (x.kept k)) := fun y hy => by
  obtain rfl := Option.some.inj hy
  unfold Fl.kept
  split
  · exact .inl (Nat.lt_succ_self _)
  · exact .inr ⟨rfl, [], by simp⟩
/-- what Stat tells: inode, serial, generation, size; the error -/
noncomputable def Dk.sti (d : Dk) (nm : List UInt8) : Int × Int × Int × Int × Int := if mayB nm = true then (match d.file nm with | none => (0, 0, 0, 0, 141) | some (i, x) => (i, (d.se nm).getD 0, (x.ge : Int), (x.by_.length : Int), 0)) else (0, 0, 0, 0, 140)
theorem Dk.stat_sti (d : Dk) (nm : List UInt8) : d.stat nm = (statV (d.sti nm).1 (d.sti nm).2.1 (d.sti nm).2.2.1 (d.sti nm).2.2.2.1, (d.sti nm).2.2.2.2) := by
  unfold Dk.stat Dk.sti
  split
  · cases d.file nm with
    | none => rfl
    | some q => rfl
  · rfl

/-- a disk, and one behind writers' calls -/
structure Mv (d d' : Dk) : Prop where
  no : d.no ≤ d'.no
  grow : GrowA d d'
theorem GrowR.trans {x : Fl} {q r : Option Fl} (h : GrowR x q) (h0 : q = Option.none → r = Option.none) (h2 : ∀ y, q = some y → GrowR y r) : GrowR x r := fun z hz => by
  cases hq : q with
  | none => rw [h0 hq] at hz; cases hz
  | some y =>
    rcases h y hq with h3 | ⟨h3, l, h4⟩ <;> rcases h2 y hq z hz with h5 | ⟨h5, l2, h6⟩
    · exact .inl (by omega)
    · exact .inl (by omega)
    · exact .inl (by omega)
    · exact .inr ⟨by omega, l ++ l2, by rw [h6, h4, List.append_assoc]⟩
theorem Mv.refl (d : Dk) : Mv d d := ⟨Nat.le_refl _, GrowA.refl d⟩
theorem Mv.trans {d e f : Dk} (h : Mv d e) (k : Mv e f) : Mv d f := ⟨Nat.le_trans h.no k.no, fun i hi => by
  obtain ⟨a1, a2⟩ := h.grow i hi
  obtain ⟨b1, b2⟩ := k.grow i (by have := h.no; omega)
  exact ⟨fun e0 => b1 (a1 e0), fun x hx => (a2 x hx).trans b1 b2⟩⟩
section
variable {d : Dk} {n : Nat}
theorem Mv.create (h : d.Ok n) (nm : List UInt8) : Mv d (d.create nm).2 := by
  have _ := h.no
  unfold Dk.create
  split
  · cases d.ns nm with
    | some i => exact Mv.refl d
    | none => exact ⟨by show d.no ≤ d.no + 1; omega, GrowA.made d nm⟩
  · exact Mv.refl d
theorem Mv.append (h : d.Ok n) (nm l : List UInt8) : Mv d (d.append nm l).2 := by
  unfold Dk.append
  split
  · cases hf : d.file nm with
    | none => exact Mv.refl d
    | some q =>
      obtain ⟨i, x⟩ := q
      simp only
      split
      · exact Mv.refl d
      · obtain ⟨_, h2, _⟩ := h.of_file hf
        exact ⟨Nat.le_refl _, GrowA.edit h2 (fun y hy => by obtain rfl := Option.some.inj hy; exact .inr ⟨rfl, l, rfl⟩)⟩
  · exact Mv.refl d
theorem Mv.edits (h : d.Ok n) (nm : List UInt8) (f : Fl → Fl) (hf : ∀ x, GrowR x (some (f x))) : Mv d (d.edits nm f).2 := ⟨by rw [(GrowA.edits h nm f hf).2.2.1]; exact Nat.le_refl _, (GrowA.edits h nm f hf).1⟩
theorem Mv.cut (h : d.Ok n) (nm : List UInt8) : Mv d (d.cut nm).2 := Mv.edits h nm _ (fun x => kept_grow x 0)
theorem Mv.sync (h : d.Ok n) (nm : List UInt8) : Mv d (d.sync nm).2 := Mv.edits h nm _ (fun x y hy => by obtain rfl := Option.some.inj hy; exact .inr ⟨rfl, [], by simp⟩)
theorem Mv.remove (_h : d.Ok n) (nm : List UInt8) : Mv d (d.remove nm).2 := by
  unfold Dk.remove
  split
  · cases d.ns nm with
    | none => exact Mv.refl d
    | some i => exact ⟨Nat.le_refl _, GrowA.less d nm i⟩
  · exact Mv.refl d
theorem Mv.rename (h : d.Ok n) (old other : List UInt8) : Mv d (d.rename old other).2 := by
  unfold Dk.rename
  split
  · cases hf : d.file old with
    | none => exact Mv.refl d
    | some q =>
      obtain ⟨i, x⟩ := q
      simp only
      split
      · exact Mv.refl d
      · obtain ⟨_, h2, _⟩ := h.of_file hf
        exact ⟨Nat.le_refl _, GrowA.ren h2⟩
  · exact Mv.refl d
theorem Mv.crash {keep ss : List Int} (hs : ss.Pairwise (· < ·)) (hm : ∀ i, i ∈ ss ↔ (d.fs i).isSome = true) : Mv d (crashD keep ss d ss.length).1 :=
  ⟨by rw [(crash_all hs hm).no]; exact Nat.le_refl _, GrowA.crash (crash_all hs hm)⟩
end
end Go.Proofs.Ytlojmmcagglpoaa
namespace Go.Proofs.Ytlojmmcagglpoaa
open Go.RowKit Go.Maps
/-- what Inode tells -/
def Dk.ini (d : Dk) (i : Int) : T5 := match d.fs i with | none => (0, 0, 0, 0, 143) | some x => (i, (d.se x.nm).getD 0, (x.ge : Int), (x.by_.length : Int), 0)
theorem Dk.inode_ini (d : Dk) (i : Int) : d.inode i = (statV (d.ini i).1 (d.ini i).2.1 (d.ini i).2.2.1 (d.ini i).2.2.2.1, (d.ini i).2.2.2.2) := by
  unfold Dk.inode Dk.ini
  cases d.fs i <;> rfl
theorem Dk.ini_err {d : Dk} {i : Int} : (d.ini i).2.2.2.2 = 0 ↔ ∃ x, d.fs i = some x := by
  unfold Dk.ini
  cases d.fs i with
  | none => simp
  | some x => simp
theorem Dk.ini_ge {d : Dk} {i : Int} {x : Fl} (h : d.fs i = some x) : (d.ini i).2.2.1 = (x.ge : Int) := by unfold Dk.ini; rw [h]
/-- where a reader stands in the file that it holds -/
def AtL (d : Dk) (f : FwS) : Prop := ∀ x, d.fs f.ino = some x → f.ge ≤ (x.ge : Int) ∧ ((x.ge : Int) = f.ge → f.off.toNat + f.u.length ≤ x.by_.length ∧ (x.by_.drop f.off.toNat).take f.u.length = f.u ∧ (f.off = 0 ∨ x.by_[f.off.toNat - 1]? = some 10))
structure FIv (d : Dk) (f : FwS) (ls lg lo : Int) : Prop where
  ok : f.Ok
  no : f.ino ≤ d.no
  at_ : f.ino ≠ 0 → AtL d f
  nn : ∀ c ∈ f.u, c ≠ 10
  u0 : f.ino = 0 → f.u = []
  ul : f.u.length ≤ 1048576
  hls : ls ≤ f.se
  hlt : f.ino ≠ 0 → ls < f.se ∨ (ls = f.se ∧ (lg < f.ge ∨ (lg = f.ge ∧ lo < f.off)))
theorem FIv.mv {d d' : Dk} {f : FwS} {ls lg lo : Int} (h : FIv d f ls lg lo) (hm : Mv d d') : FIv d' f ls lg lo :=
  ⟨h.ok, by have := h.no; have := hm.no; omega, fun h0 y hy => by
    obtain ⟨g1, g2⟩ := hm.grow f.ino h.no
    cases hx : d.fs f.ino with
    | none => rw [g1 hx] at hy; cases hy
    | some x =>
      obtain ⟨a1, a2⟩ := h.at_ h0 x hx
      rcases g2 x hx y hy with h3 | ⟨h3, l, h4⟩
      · exact ⟨by omega, fun e => by omega⟩
      · refine ⟨by omega, fun e => ?_⟩
        obtain ⟨b1, b2, b3⟩ := a2 (by omega)
        refine ⟨by rw [h4, List.length_append]; omega, ?_, ?_⟩
        · rw [h4, List.drop_append_of_le_length (by omega), List.take_append_of_le_length (by rw [List.length_drop]; omega)]; exact b2
        · rcases b3 with e0 | e0
          · exact .inl e0
          · refine .inr ?_
            have hl := (List.getElem?_eq_some_iff.1 e0).1
            rw [h4, List.getElem?_append_left hl]; exact e0, h.nn, h.u0, h.ul, h.hls, h.hlt⟩
/-- losses never fall -/
structure Loss (f g : FwS) : Prop where
  mi : f.mi ≤ g.mi
  go : f.go ≤ g.go
  cu : f.cu ≤ g.cu
  ta : f.ta ≤ g.ta
  lo : f.lo ≤ g.lo
theorem Loss.refl (f : FwS) : Loss f f := ⟨Int.le_refl _, Int.le_refl _, Int.le_refl _, Int.le_refl _, Int.le_refl _⟩
/-- what a line that came out is: it stands at the mark, whole -/
structure LineOk (d : Dk) (f g : FwS) (line : Nat) (tx : List UInt8) (ls lg lo : Int) : Prop where
  read : d.read f.ino f.ge f.off ((tx.length : Int) + 1) = (tx ++ [10], 0)
  nn : ∀ c ∈ tx, c ≠ 10
  prev : f.off = 0 ∨ d.read f.ino f.ge (f.off - 1) 1 = ([10], 0)
  len : tx.length ≤ line
  off : g.off = f.off + tx.length + 1
  lt : ls < f.se ∨ (ls = f.se ∧ (lg < f.ge ∨ (lg = f.ge ∧ lo < f.off)))
theorem inM0 : inM 0 := ⟨by decide, by decide⟩
theorem upv_le {n y : Int} (h : inM n) (hy : 0 ≤ y) : n ≤ upv n y ∧ inM (upv n y) := by
  have a := upv_in h.1 h.2 hy
  have b := h.1
  exact ⟨a.1, by unfold inM; omega⟩
section
variable {d : Dk} {f : FwS} {n : Nat} {ls lg lo : Int}
theorem Dk.Ok.asks (h : d.Ok n) : AskOk d.sti d.ini d.read := by
  have hb := h.big
  have hn := h.no
  refine ⟨fun nm => ?_, fun i => ?_, fun i g o s h0 => ?_⟩
  · unfold Dk.sti
    split
    · cases hf : d.file nm with
      | none => exact ⟨inM0, inM0, inM0⟩
      | some q =>
        obtain ⟨i, x⟩ := q
        obtain ⟨h1, h2, h3⟩ := h.of_file hf
        have a1 := h.int nm i h1
        obtain ⟨v, hv⟩ := h.has nm i h1
        have a2 := h.ser nm v hv
        have a3 := h.ge i x h2
        simp only
        rw [hv]
        refine ⟨⟨by omega, by omega⟩, ⟨by show 0 ≤ v; omega, by show v ≤ _; omega⟩, ⟨by omega, by omega⟩⟩
    · exact ⟨inM0, inM0, inM0⟩
  · unfold Dk.ini
    cases hx : d.fs i with
    | none => exact inM0
    | some x =>
      have a3 := h.ge i x hx
      exact ⟨by show (0 : Int) ≤ x.ge; omega, by show (x.ge : Int) ≤ _; omega⟩
  · unfold Dk.read
    split
    · exact .inl rfl
    · cases hx : d.fs i with
      | none => exact .inl rfl
      | some x =>
        simp only
        split
        · exact .inl rfl
        · have := h.len i x hx
          by_cases e : (x.by_.drop o.toNat).take s.toNat = []
          · exact .inl e
          · refine .inr ?_
            simp only [List.length_take, List.length_drop]
            have : o.toNat < x.by_.length := by
              rcases Nat.lt_or_ge o.toNat x.by_.length with hh | hh
              · exact hh
              · rw [List.drop_eq_nil_of_le hh] at e
                exact absurd (by simp) e
            omega
theorem FIv.letGo (h : FIv d f ls lg lo) : FIv d f.letGo ls lg lo ∧ Loss f f.letGo :=
  ⟨⟨⟨h.ok.se, inM0, inM0, inM0, h.ok.mi, h.ok.go, h.ok.cu, h.ok.ta, h.ok.lo⟩, by show (0 : Int) ≤ d.no; omega, fun h0 => absurd rfl h0, fun c hc => (by cases hc), fun _ => rfl, by show 0 ≤ 1048576; omega, h.hls, fun h0 => absurd rfl h0⟩, ⟨Int.le_refl _, Int.le_refl _, Int.le_refl _, Int.le_refl _, Int.le_refl _⟩⟩
theorem FIv.gone (h : FIv d f ls lg lo) : FIv d f.gone ls lg lo ∧ Loss f f.gone := by
  have h1 := upv_le (n := f.go) (y := 1) h.ok.go (by decide)
  exact ⟨⟨⟨h.ok.se, inM0, inM0, inM0, h.ok.mi, h1.2, h.ok.cu, h.ok.ta, h.ok.lo⟩, by show (0 : Int) ≤ d.no; omega, fun h0 => absurd rfl h0, fun c hc => (by cases hc), fun _ => rfl, by show 0 ≤ 1048576; omega, h.hls, fun h0 => absurd rfl h0⟩, ⟨Int.le_refl _, h1.1, Int.le_refl _, Int.le_refl _, Int.le_refl _⟩⟩
/-- what a name has is taken up -/
theorem FIv.takeUp (h : d.Ok n) (hf : f.Ok) (hls : ls ≤ f.se) {nm : List UInt8} (hn : nextB (d.sti nm) f = true) : FIv d (f.takeUp (d.sti nm)) ls lg lo ∧ Loss f (f.takeUp (d.sti nm)) := by
  have ha := h.asks.s nm
  unfold nextB at hn
  simp only [Bool.and_eq_true, decide_eq_true_eq] at hn
  obtain ⟨h0, h1⟩ := hn
  have hu := upv_le (n := f.mi) (y := (d.sti nm).2.1 - f.se - 1) hf.mi (by omega)
  have hfile : ∃ x, d.fs (d.sti nm).1 = some x ∧ (d.sti nm).2.2.1 = (x.ge : Int) ∧ (d.sti nm).1 ≤ d.no := by
    unfold Dk.sti at h0 ⊢
    split at h0
    · rename_i hm
      rw [if_pos hm]
      cases hq : d.file nm with
      | none => rw [hq] at h0; cases h0
      | some q =>
        obtain ⟨i, x⟩ := q
        obtain ⟨a1, a2, a3⟩ := h.of_file hq
        exact ⟨x, a2, rfl, (h.int nm i a1).2⟩
    · cases h0
  obtain ⟨x, hx, hge, hno⟩ := hfile
  refine ⟨⟨⟨ha.2.1, ha.1, ha.2.2, inM0, hu.2, hf.go, hf.cu, hf.ta, hf.lo⟩, hno, fun _ y hy => ?_, fun c hc => (by cases hc), fun _ => rfl, by show 0 ≤ 1048576; omega, by show ls ≤ (d.sti nm).2.1; omega, fun _ => .inl (by show ls < (d.sti nm).2.1; omega)⟩, ⟨hu.1, Int.le_refl _, Int.le_refl _, Int.le_refl _, Int.le_refl _⟩⟩
  have hy' : d.fs (d.sti nm).1 = some y := hy
  rw [hx] at hy'
  obtain rfl := Option.some.inj hy'
  refine ⟨by show (d.sti nm).2.2.1 ≤ _; omega, fun _ => ⟨?_, ?_, .inl rfl⟩⟩
  · show (0 : Int).toNat + 0 ≤ _; exact Nat.zero_le _
  · show (x.by_.drop (0 : Int).toNat).take 0 = []; simp
theorem FIv.cutF (h : d.Ok n) (hi : FIv d f ls lg lo) (h0 : f.ino ≠ 0) {x : Fl} (hx : d.fs f.ino = some x) (hne : (d.ini f.ino).2.2.1 ≠ f.ge) : FIv d (f.cutF (d.ini f.ino).2.2.1) ls lg lo ∧ Loss f (f.cutF (d.ini f.ino).2.2.1) := by
  have ha := h.asks.i f.ino
  have hg := Dk.ini_ge hx
  have a1 := (hi.at_ h0 x hx).1
  have hu := upv_le (n := f.cu) (y := max 0 ((d.ini f.ino).2.2.1 - f.ge)) hi.ok.cu (by omega)
  refine ⟨⟨⟨hi.ok.se, hi.ok.ino, ha, inM0, hi.ok.mi, hi.ok.go, hu.2, hi.ok.ta, hi.ok.lo⟩, hi.no, fun _ y hy => ?_, fun c hc => (by cases hc), fun _ => rfl, by show 0 ≤ 1048576; omega, hi.hls, fun _ => ?_⟩, ⟨Int.le_refl _, Int.le_refl _, hu.1, Int.le_refl _, Int.le_refl _⟩⟩
  · have hy' : d.fs f.ino = some y := hy
    rw [hx] at hy'
    obtain rfl := Option.some.inj hy'
    refine ⟨by show (d.ini f.ino).2.2.1 ≤ _; omega, fun _ => ⟨?_, ?_, .inl rfl⟩⟩
    · show (0 : Int).toNat + 0 ≤ _; exact Nat.zero_le _
    · show (x.by_.drop (0 : Int).toNat).take 0 = []; simp
  · rcases hi.hlt h0 with e | ⟨e, e2⟩
    · exact .inl e
    · refine .inr ⟨e, .inl ?_⟩
      show lg < (d.ini f.ino).2.2.1
      rcases e2 with e3 | ⟨e3, _⟩ <;> omega
theorem upN_take_nn (l : List UInt8) : ∀ c ∈ l.take (upN l), c ≠ 10 := fun c hc => by
  obtain ⟨j, hj⟩ := List.getElem?_of_mem hc
  have hl := (List.getElem?_eq_some_iff.1 hj).1
  rw [List.length_take] at hl
  rw [List.getElem?_take_of_lt (by omega)] at hj
  exact upN_no (by omega) hj
/-- a read that goes on -/
theorem FIv.readF (h : d.Ok n) (hi : FIv d f ls lg lo) (h0 : f.ino ≠ 0) {x : Fl} (hx : d.fs f.ino = some x) (hge : (x.ge : Int) = f.ge) (k : FwK) (hch : 0 ≤ k.ch) {l : List UInt8} (hl : (d.read f.ino f.ge (f.off + (f.u.length : Int)) k.ch) = (l, 0)) (hl0 : l ≠ []) :
    Loss f (f.readF k.line l) ∧
    (feedW k.line f.u l = true → FIv d (f.readF k.line l) f.se f.ge f.off ∧ LineOk d f (f.readF k.line l) k.line (feedS k.line f.u l) ls lg lo) ∧
    (feedW k.line f.u l = false → FIv d (f.readF k.line l) ls lg lo) := by
  obtain ⟨a1, a2⟩ := hi.at_ h0 x hx
  obtain ⟨b1, b2, b3⟩ := a2 hge
  have ho := hi.ok.off
  have hlx := h.len _ x hx
  obtain ⟨o, hoo⟩ : ∃ o : Nat, f.off = o := ⟨f.off.toNat, by have := ho.1; omega⟩
  have hoN : f.off.toNat = o := by omega
  rw [hoN] at b1 b2 b3
  -- what was read
  have hrd : l = (x.by_.drop (o + f.u.length)).take k.ch.toNat := by
    unfold Dk.read at hl
    rw [if_neg (by omega), hx] at hl
    simp only at hl
    rw [if_neg (by omega)] at hl
    injection hl with e _
    rw [← e]
    congr 2
    omega
  have hlen : l.length ≤ x.by_.length - (o + f.u.length) := by rw [hrd, List.length_take, List.length_drop]; omega
  have hlpos : 0 < l.length := List.length_pos_iff.2 hl0
  have hpre : (x.by_.drop (o + f.u.length)).take l.length = l := by
    conv => rhs; rw [hrd]
    have e : l.length ≤ k.ch.toNat := by rw [hrd, List.length_take]; omega
    have e2 : l.length = min k.ch.toNat (x.by_.drop (o + f.u.length)).length := by rw [hrd, List.length_take]
    rw [e2]
    by_cases e3 : k.ch.toNat ≤ (x.by_.drop (o + f.u.length)).length
    · rw [Nat.min_eq_left e3]
    · rw [Nat.min_eq_right (by omega), List.take_of_length_le (Nat.le_refl _), List.take_of_length_le (by omega)]
  have hul : (x.by_.drop o).take (f.u.length + l.length) = f.u ++ l := by
    rw [List.take_add, b2, List.drop_drop, hpre]
  have hfl := feedL_le k.line f.lc f.u l
  have hlo := upv_le (n := f.lo) (y := (feedL k.line f.lc f.u l : Int) - (f.lc : Int)) hi.ok.lo (by omega)
  by_cases hnl : upN l < l.length
  · have hB : nlB l = true := decide_eq_true hnl
    have hN : feedN l = upN l + 1 := by unfold feedN; rw [if_pos hnl]
    have hU : feedU f.u l = [] := by unfold feedU; rw [if_pos hnl]
    have hoff : (f.readF k.line l).off = f.off + ((f.u.length : Int) + ((upN l : Int) + 1)) := by
      unfold FwS.readF; simp only; rw [if_pos hB, hN]; omega
    have hlo' : (f.readF k.line l).lo = upv f.lo ((feedL k.line f.lc f.u l : Int) - (f.lc : Int)) := by unfold FwS.readF; simp only; rw [if_pos hB]
    have hu' : (f.readF k.line l).u = [] := by unfold FwS.readF; exact hU
    have h10 : x.by_[o + f.u.length + upN l]? = some 10 := by
      have e := upN_10 hnl
      rw [← hpre] at e
      rw [List.getElem?_take_of_lt (by rw [hpre] at e ⊢; exact hnl), List.getElem?_drop] at e
      rw [hpre] at e
      exact e
    have hoM : inM (f.readF k.line l).off := by rw [hoff]; exact ⟨by omega, by omega⟩
    have hAt : AtL d (f.readF k.line l) := fun y hy => by
      have hy' : d.fs f.ino = some y := hy
      rw [hx] at hy'
      obtain rfl := Option.some.inj hy'
      refine ⟨a1, fun _ => ?_⟩
      have e : (f.readF k.line l).off.toNat = o + f.u.length + upN l + 1 := by rw [hoff]; omega
      rw [e, hu']
      refine ⟨by simp; omega, by simp, .inr ?_⟩
      rw [Nat.add_sub_cancel]; exact h10
    have hok : (f.readF k.line l).Ok := ⟨hi.ok.se, hi.ok.ino, hi.ok.ge, hoM, hi.ok.mi, hi.ok.go, hi.ok.cu, hi.ok.ta, by rw [hlo']; exact hlo.2⟩
    refine ⟨⟨Int.le_refl _, Int.le_refl _, Int.le_refl _, Int.le_refl _, by rw [hlo']; exact hlo.1⟩, fun hw => ⟨⟨hok, hi.no, fun _ => hAt, by rw [hu']; simp, fun _ => hu', by rw [hu']; simp, Int.le_refl _, fun _ => .inr ⟨rfl, .inr ⟨rfl, by rw [hoff]; omega⟩⟩⟩, ?_⟩, fun _ => ⟨hok, hi.no, fun _ => hAt, by rw [hu']; simp, fun _ => hu', by rw [hu']; simp, hi.hls, fun _ => ?_⟩⟩
    · have htx : feedS k.line f.u l = f.u ++ l.take (upN l) := by unfold feedS; rw [if_pos hw]
      have htl : (f.u ++ l.take (upN l)).length = f.u.length + upN l := by rw [List.length_append, List.length_take]; omega
      have hw2 : (f.u ++ l.take (upN l)).length ≤ k.line := by
        unfold feedW at hw
        simp only [Bool.and_eq_true, decide_eq_true_eq] at hw
        exact hw.2
      rw [htx]
      refine ⟨?_, fun c hc => ?_, ?_, hw2, by rw [hoff, htl]; omega, hi.hlt h0⟩
      · unfold Dk.read
        rw [if_neg (by omega), hx]
        simp only
        rw [if_neg (by omega), hoN, htl]
        have e1 : (((f.u.length + upN l : Nat) : Int) + 1).toNat = f.u.length + (upN l + 1) := by omega
        rw [e1]
        have e2 : (x.by_.drop o).take (f.u.length + (upN l + 1)) = f.u ++ l.take (upN l + 1) := by
          have : (x.by_.drop o).take (f.u.length + (upN l + 1)) = ((x.by_.drop o).take (f.u.length + l.length)).take (f.u.length + (upN l + 1)) := by rw [List.take_take, Nat.min_eq_left (by omega)]
          rw [this, hul, List.take_length_add_append]
        have e3 : l.take (upN l + 1) = l.take (upN l) ++ [10] := by rw [List.take_add_one, upN_10 hnl]; rfl
        rw [e2, e3, List.append_assoc]
      · rcases List.mem_append.1 hc with hc | hc
        · exact hi.nn c hc
        · exact upN_take_nn l c hc
      · rcases b3 with e | e
        · exact .inl e
        · by_cases e0 : f.off = 0
          · exact .inl e0
          · refine .inr ?_
            unfold Dk.read
            rw [if_neg (by omega), hx]
            simp only
            rw [if_neg (by omega)]
            have e1 : (f.off - 1).toNat = o - 1 := by omega
            have hl1 := (List.getElem?_eq_some_iff.1 e)
            rw [e1, show (1 : Int).toNat = 1 from rfl, List.drop_eq_getElem_cons hl1.1, List.take_succ_cons, List.take_zero, hl1.2]
    · show ls < f.se ∨ (ls = f.se ∧ (lg < f.ge ∨ (lg = f.ge ∧ lo < (f.readF k.line l).off)))
      rw [hoff]
      rcases hi.hlt h0 with e | ⟨e, e2 | ⟨e2, e3⟩⟩
      · exact .inl e
      · exact .inr ⟨e, .inl e2⟩
      · exact .inr ⟨e, .inr ⟨e2, by omega⟩⟩
  · have hB : nlB l = false := decide_eq_false hnl
    have hup : upN l = l.length := by have := upN_le l; omega
    have hU : feedU f.u l = f.u ++ l := by unfold feedU; rw [if_neg hnl]
    have hrf : (f.readF k.line l).off = f.off ∧ (f.readF k.line l).lo = f.lo ∧ (f.readF k.line l).u = f.u ++ l := by
      unfold FwS.readF; simp only; rw [hB, hU]; exact ⟨rfl, rfl, rfl⟩
    have hW : feedW k.line f.u l = false := by unfold feedW; rw [decide_eq_false hnl]; rfl
    refine ⟨⟨Int.le_refl _, Int.le_refl _, Int.le_refl _, Int.le_refl _, by rw [hrf.2.1]; exact Int.le_refl _⟩, fun e => (by rw [hW] at e; cases e), fun _ => ⟨⟨hi.ok.se, hi.ok.ino, hi.ok.ge, by rw [hrf.1]; exact hi.ok.off, hi.ok.mi, hi.ok.go, hi.ok.cu, hi.ok.ta, by rw [hrf.2.1]; exact hi.ok.lo⟩, hi.no, fun _ y hy => ?_, ?_, fun e => absurd e h0, ?_, hi.hls, fun _ => ?_⟩⟩
    · have hy' : d.fs f.ino = some y := hy
      rw [hx] at hy'
      obtain rfl := Option.some.inj hy'
      refine ⟨a1, fun _ => ?_⟩
      rw [hrf.1, hrf.2.2, hoN, List.length_append]
      exact ⟨by omega, hul, b3⟩
    · rw [hrf.2.2]
      intro c hc
      rcases List.mem_append.1 hc with hc | hc
      · exact hi.nn c hc
      · have := upN_take_nn l c
        rw [hup, List.take_of_length_le (Nat.le_refl _)] at this
        exact this hc
    · rw [hrf.2.2, List.length_append]; omega
    · show ls < f.se ∨ (ls = f.se ∧ (lg < f.ge ∨ (lg = f.ge ∧ lo < (f.readF k.line l).off)))
      rw [hrf.1]; exact hi.hlt h0
/-- a step -/
theorem step_law (h : d.Ok n) (hi : FIv d f ls lg lo) (k : FwK) (hch : 0 ≤ k.ch) : Loss f (stepF d.sti d.ini d.read k f).1 ∧
    (∀ tx, (stepF d.sti d.ini d.read k f).2 = some tx → FIv d (stepF d.sti d.ini d.read k f).1 f.se f.ge f.off ∧ LineOk d f (stepF d.sti d.ini d.read k f).1 k.line tx ls lg lo) ∧
    ((stepF d.sti d.ini d.read k f).2 = none → FIv d (stepF d.sti d.ini d.read k f).1 ls lg lo) := by
  have nope : ∀ g : FwS, FIv d g ls lg lo ∧ Loss f g → Loss f (g, (none : Option (List UInt8))).1 ∧ (∀ tx, (g, (none : Option (List UInt8))).2 = some tx → FIv d (g, (none : Option (List UInt8))).1 f.se f.ge f.off ∧ LineOk d f (g, (none : Option (List UInt8))).1 k.line tx ls lg lo) ∧ ((g, (none : Option (List UInt8))).2 = none → FIv d (g, (none : Option (List UInt8))).1 ls lg lo) :=
    fun g hg => ⟨hg.2, fun tx e => (by cases e), fun _ => hg.1⟩
  unfold stepF
  by_cases h0 : f.ino = 0
  · rw [if_pos h0]
    by_cases hn : nextB (d.sti k.nm) f = true
    · rw [if_pos hn]; exact nope _ (FIv.takeUp h hi.ok hi.hls hn)
    · rw [if_neg hn]; exact nope _ ⟨hi, Loss.refl f⟩
  rw [if_neg h0]
  by_cases h1 : (d.ini f.ino).2.2.2.2 = 0
  · rw [if_neg (fun e => e h1)]
    obtain ⟨x, hx⟩ := Dk.ini_err.1 h1
    by_cases h2 : (d.ini f.ino).2.2.1 = f.ge
    · rw [if_neg (fun e => e h2)]
      by_cases h3 : (d.read f.ino f.ge (f.off + (f.u.length : Int)) k.ch).2 = 0 ∧ (d.read f.ino f.ge (f.off + (f.u.length : Int)) k.ch).1 ≠ []
      · rw [if_pos h3]
        have hr := FIv.readF h hi h0 hx (by rw [← Dk.ini_ge hx]; exact h2) k hch (l := (d.read f.ino f.ge (f.off + (f.u.length : Int)) k.ch).1) (by rw [← h3.1]) h3.2
        cases hw : feedW k.line f.u (d.read f.ino f.ge (f.off + (f.u.length : Int)) k.ch).1 with
        | true =>
          rw [if_pos rfl]
          exact ⟨hr.1, fun tx e => by obtain rfl := Option.some.inj e; exact hr.2.1 hw, fun e => (by cases e)⟩
        | false =>
          rw [if_neg (by decide)]
          exact ⟨hr.1, fun tx e => (by cases e), fun _ => hr.2.2 hw⟩
      · rw [if_neg h3]
        by_cases hn : nextB (d.sti k.nm) f = true
        · rw [if_pos hn]
          refine nope _ ?_
          unfold FwS.turnsF
          have hl := hi.letGo
          split
          · have ht := upv_le (n := f.ta) (y := 1) hi.ok.ta (by decide)
            have hk := FIv.takeUp (f := { f.letGo with ta := upv f.ta 1 }) (lg := lg) (lo := lo) h ⟨hl.1.ok.se, hl.1.ok.ino, hl.1.ok.ge, hl.1.ok.off, hl.1.ok.mi, hl.1.ok.go, hl.1.ok.cu, ht.2, hl.1.ok.lo⟩ hi.hls (nm := k.nm) hn
            exact ⟨hk.1, ⟨hk.2.mi, hk.2.go, hk.2.cu, Int.le_trans ht.1 hk.2.ta, hk.2.lo⟩⟩
          · have hk := FIv.takeUp (f := f.letGo) (lg := lg) (lo := lo) h hl.1.ok hi.hls (nm := k.nm) hn
            exact ⟨hk.1, ⟨hk.2.mi, hk.2.go, hk.2.cu, hk.2.ta, hk.2.lo⟩⟩
        · rw [if_neg hn]; exact nope _ ⟨hi, Loss.refl f⟩
    · rw [if_pos h2]; exact nope _ (FIv.cutF h hi h0 hx h2)
  · rw [if_pos h1]; exact nope _ hi.gone
end
end Go.Proofs.Ytlojmmcagglpoaa
