/- THE PLAIN LAW of a follower over the program's disk (FollowStood): what stands, and that places rise. Nothing of the program's code is used here. -/
import Derived.Test.YtlojmmcagglpoaaGreatUBigApp
import Derived.Test.YtlojmmcagglpoaaGreatUCrash
import Derived.Test.YtlojmmcagglpoaaGreatUDiskFile
import Derived.Test.YtlojmmcagglpoaaGreatUFwStep
namespace Go.Proofs.YtlojmmcagglpoaaGreat
open Go.RowKit Go.Maps
theorem crashS_no (keep : List Int) (s : Dk × Nat) (i : Int) : (crashS keep s i).1.no = s.1.no ∧ (crashS keep s i).1.ns = s.1.ns ∧ (crashS keep s i).1.se = s.1.se := by
  unfold crashS
  split <;> exact ⟨rfl, rfl, rfl⟩
structure CA (keep ss : List Int) (d : Dk) (j : Nat) : Prop where
  no : (crashD keep ss d j).1.no = d.no
  ns : (crashD keep ss d j).1.ns = d.ns
  se : (crashD keep ss d j).1.se = d.se
  le : (crashD keep ss d j).2 ≤ j
  un : ∀ i, i ∉ ss.take j → (crashD keep ss d j).1.fs i = d.fs i
  nn : ∀ i, d.fs i = none → (crashD keep ss d j).1.fs i = none
  at_ : ∀ i x, i ∈ ss.take j → d.fs i = some x → ∃ k, k < j ∧ (crashD keep ss d j).1.fs i = some (crashF keep k x)
theorem crash_at {keep ss : List Int} {d : Dk} (hs : ss.Pairwise (· < ·)) : ∀ j, j ≤ ss.length → CA keep ss d j
  | 0, _ => ⟨rfl, rfl, rfl, Nat.le_refl _, fun _ _ => rfl, fun _ h => h, fun _ _ h => by simp at h⟩
  | j + 1, hj => by
    have ih := crash_at (keep := keep) (d := d) hs j (by omega)
    obtain ⟨q, hq⟩ : ∃ q, ss[j]? = some q := ⟨_, List.getElem?_eq_getElem (by omega)⟩
    have hst := crashD_succ (keep := keep) (d := d) hq
    have hno := crashS_no keep (crashD keep ss d j) q
    have htk : ss.take (j + 1) = ss.take j ++ [q] := by rw [List.take_add_one, hq]; rfl
    have hnq : q ∉ ss.take j := fun hmem => by
      obtain ⟨r, hr⟩ := List.getElem?_of_mem hmem
      have hrl : r < j := by
        have := (List.getElem?_eq_some_iff.1 hr).1
        rw [List.length_take] at this; omega
      rw [List.getElem?_take_of_lt hrl] at hr
      obtain ⟨h1, h2⟩ := List.getElem?_eq_some_iff.1 hr
      obtain ⟨h3, h4⟩ := List.getElem?_eq_some_iff.1 hq
      have := List.pairwise_iff_getElem.1 hs r j h1 h3 hrl
      rw [h2, h4] at this
      omega
    cases hx : (crashD keep ss d j).1.fs q with
    | none =>
      have e : crashD keep ss d (j + 1) = crashD keep ss d j := by rw [hst]; unfold crashS; rw [hx]
      rw [ih.un q hnq] at hx
      refine ⟨by rw [e]; exact ih.no, by rw [e]; exact ih.ns, by rw [e]; exact ih.se, by rw [e]; exact Nat.le_succ_of_le ih.le, fun i hi => ?_, fun i hi => by rw [e]; exact ih.nn i hi, fun i x hi hd => ?_⟩
      · rw [e]; exact ih.un i (fun h => hi (by rw [htk]; exact List.mem_append_left _ h))
      · rw [htk] at hi
        rcases List.mem_append.1 hi with h | h
        · obtain ⟨k, h1, h2⟩ := ih.at_ i x h hd
          exact ⟨k, by omega, by rw [e]; exact h2⟩
        · rw [List.mem_singleton.1 h, hx] at hd; cases hd
    | some x0 =>
      have e : crashD keep ss d (j + 1) = ((crashD keep ss d j).1.edit q (crashF keep (crashD keep ss d j).2 x0), crashK (crashD keep ss d j).2 x0) := by rw [hst]; unfold crashS; rw [hx]
      have hx' := hx
      rw [ih.un q hnq] at hx'
      refine ⟨by rw [hst, hno.1]; exact ih.no, by rw [hst, hno.2.1]; exact ih.ns, by rw [hst, hno.2.2]; exact ih.se, by rw [e]; exact Nat.le_trans (crashK_le _ _) (Nat.succ_le_succ ih.le), fun i hi => ?_, fun i hi => ?_, fun i x hi hd => ?_⟩
      · have h1 : i ≠ q := fun h => hi (by rw [htk, h]; exact List.mem_append_right _ (List.mem_singleton.2 rfl))
        rw [e]; show (Dk.edit _ q _).fs i = _
        rw [Dk.edit_fs, if_neg h1]
        exact ih.un i (fun h => hi (by rw [htk]; exact List.mem_append_left _ h))
      · have h1 : i ≠ q := fun h => by rw [h, hx'] at hi; cases hi
        rw [e]; show (Dk.edit _ q _).fs i = _
        rw [Dk.edit_fs, if_neg h1]
        exact ih.nn i hi
      · rw [e]; show ∃ k, k < j + 1 ∧ (Dk.edit _ q _).fs i = _
        rw [Dk.edit_fs]
        by_cases h1 : i = q
        · rw [if_pos h1]
          rw [h1, hx'] at hd
          obtain rfl := Option.some.inj hd
          exact ⟨_, Nat.lt_succ_of_le ih.le, rfl⟩
        · rw [if_neg h1]
          rw [htk] at hi
          rcases List.mem_append.1 hi with h | h
          · obtain ⟨k, h2, h3⟩ := ih.at_ i x h hd
            exact ⟨k, by omega, h3⟩
          · exact absurd (List.mem_singleton.1 h) h1
structure CAll (keep : List Int) (m : Nat) (d d' : Dk) : Prop where
  no : d'.no = d.no
  ns : d'.ns = d.ns
  se : d'.se = d.se
  nn : ∀ i, d.fs i = none → d'.fs i = none
  at_ : ∀ i x, d.fs i = some x → ∃ k, k < m ∧ d'.fs i = some (crashF keep k x)
end Go.Proofs.YtlojmmcagglpoaaGreat
namespace Go.Proofs.YtlojmmcagglpoaaGreat
open Go.RowKit Go.Maps
def GrowR (x : Fl) (q : Option Fl) : Prop := ∀ y, q = some y → x.ge < y.ge ∨ (y.ge = x.ge ∧ ∃ l, y.by_ = x.by_ ++ l)
def GrowA (d d' : Dk) : Prop := ∀ i : Int, i ≤ d.no → (d.fs i = none → d'.fs i = none) ∧ ∀ x, d.fs i = some x → GrowR x (d'.fs i)
noncomputable def Dk.sti (d : Dk) (nm : List UInt8) : Int × Int × Int × Int × Int := if mayB nm = true then (match d.file nm with | none => (0, 0, 0, 0, 141) | some (i, x) => (i, (d.se nm).getD 0, (x.ge : Int), (x.by_.length : Int), 0)) else (0, 0, 0, 0, 140)
theorem Dk.stat_sti (d : Dk) (nm : List UInt8) : d.stat nm = (statV (d.sti nm).1 (d.sti nm).2.1 (d.sti nm).2.2.1 (d.sti nm).2.2.2.1, (d.sti nm).2.2.2.2) := by
  unfold Dk.stat Dk.sti
  split
  · cases d.file nm with
    | none => rfl
    | some q => rfl
  · rfl
structure Mv (d d' : Dk) : Prop where
  no : d.no ≤ d'.no
  grow : GrowA d d'
section
variable {d : Dk} {n : Nat}
end
end Go.Proofs.YtlojmmcagglpoaaGreat
namespace Go.Proofs.YtlojmmcagglpoaaGreat
open Go.RowKit Go.Maps
def Dk.ini (d : Dk) (i : Int) : T5 := match d.fs i with | none => (0, 0, 0, 0, 143) | some x => (i, (d.se x.nm).getD 0, (x.ge : Int), (x.by_.length : Int), 0)
theorem Dk.inode_ini (d : Dk) (i : Int) : d.inode i = (statV (d.ini i).1 (d.ini i).2.1 (d.ini i).2.2.1 (d.ini i).2.2.2.1, (d.ini i).2.2.2.2) := by
  unfold Dk.inode Dk.ini
  cases d.fs i <;> rfl
theorem Dk.ini_err {d : Dk} {i : Int} : (d.ini i).2.2.2.2 = 0 ↔ ∃ x, d.fs i = some x := by
  unfold Dk.ini
  cases d.fs i with
  | none => simp
  | some x => simp
theorem Dk.ini_ge {d : Dk} {i : Int} {x : Fl} (h : d.fs i = some x) : (d.ini i).2.2.1 = (x.ge : Int) := by unfold Dk.ini; rw [h]
def AtL (d : Dk) (f : FwS) : Prop := ∀ x, d.fs f.ino = some x → f.ge ≤ (x.ge : Int) ∧ ((x.ge : Int) = f.ge → f.off.toNat + f.u.length ≤ x.by_.length ∧ (x.by_.drop f.off.toNat).take f.u.length = f.u ∧ (f.off = 0 ∨ x.by_[f.off.toNat - 1]? = some 10))
structure FIv (d : Dk) (f : FwS) (ls lg lo : Int) : Prop where
  ok : f.Ok
  no : f.ino ≤ d.no
  at_ : f.ino ≠ 0 → AtL d f
  nn : ∀ c ∈ f.u, c ≠ 10
  u0 : f.ino = 0 → f.u = []
  ul : f.u.length ≤ 1048576
  hls : ls ≤ f.se
  hlt : f.ino ≠ 0 → ls < f.se ∨ (ls = f.se ∧ (lg < f.ge ∨ (lg = f.ge ∧ lo < f.off)))
structure Loss (f g : FwS) : Prop where
  mi : f.mi ≤ g.mi
  go : f.go ≤ g.go
  cu : f.cu ≤ g.cu
  ta : f.ta ≤ g.ta
  lo : f.lo ≤ g.lo
structure LineOk (d : Dk) (f g : FwS) (line : Nat) (tx : List UInt8) (ls lg lo : Int) : Prop where
  read : d.read f.ino f.ge f.off ((tx.length : Int) + 1) = (tx ++ [10], 0)
  nn : ∀ c ∈ tx, c ≠ 10
  prev : f.off = 0 ∨ d.read f.ino f.ge (f.off - 1) 1 = ([10], 0)
  len : tx.length ≤ line
  off : g.off = f.off + tx.length + 1
  lt : ls < f.se ∨ (ls = f.se ∧ (lg < f.ge ∨ (lg = f.ge ∧ lo < f.off)))
theorem inM0 : inM 0 := ⟨by decide, by decide⟩
theorem upv_le {n y : Int} (h : inM n) (hy : 0 ≤ y) : n ≤ upv n y ∧ inM (upv n y) := by
  have a := upv_in h.1 h.2 hy
  have b := h.1
  exact ⟨a.1, by unfold inM; omega⟩
section
variable {d : Dk} {f : FwS} {n : Nat} {ls lg lo : Int}
theorem Dk.Ok.asks (h : d.Ok n) : AskOk d.sti d.ini d.read := by
  have hb := h.big
  have hn := h.no
  refine ⟨fun nm => ?_, fun i => ?_, fun i g o s h0 => ?_⟩
  · unfold Dk.sti
    split
    · cases hf : d.file nm with
      | none => exact ⟨inM0, inM0, inM0⟩
      | some q =>
        obtain ⟨i, x⟩ := q
        obtain ⟨h1, h2, h3⟩ := h.of_file hf
        have a1 := h.int nm i h1
        obtain ⟨v, hv⟩ := h.has nm i h1
        have a2 := h.ser nm v hv
        have a3 := h.ge i x h2
        simp only
        rw [hv]
        refine ⟨⟨by omega, by omega⟩, ⟨by show 0 ≤ v; omega, by show v ≤ _; omega⟩, ⟨by omega, by omega⟩⟩
    · exact ⟨inM0, inM0, inM0⟩
  · unfold Dk.ini
    cases hx : d.fs i with
    | none => exact inM0
    | some x =>
      have a3 := h.ge i x hx
      exact ⟨by show (0 : Int) ≤ x.ge; omega, by show (x.ge : Int) ≤ _; omega⟩
  · unfold Dk.read
    split
    · exact .inl rfl
    · cases hx : d.fs i with
      | none => exact .inl rfl
      | some x =>
        simp only
        split
        · exact .inl rfl
        · have := h.len i x hx
          by_cases e : (x.by_.drop o.toNat).take s.toNat = []
          · exact .inl e
          · refine .inr ?_
            simp only [List.length_take, List.length_drop]
            have : o.toNat < x.by_.length := by
              rcases Nat.lt_or_ge o.toNat x.by_.length with hh | hh
              · exact hh
              · rw [List.drop_eq_nil_of_le hh] at e
                exact absurd (by simp) e
            omega
end
end Go.Proofs.YtlojmmcagglpoaaGreat
