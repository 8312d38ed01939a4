/- What a disk keeps to is kept. -/
import Derived.Test.YthhbfjhgmdnpbabDiskAppend
namespace Go.Proofs.Ythhbfjhgmdnpbab
open Go.RowKit Go.Maps
theorem Dk.Ok.empty : emptyD.Ok 0 where
  no := Nat.le_refl _
  big := by decide
  int := fun _ _ h => by cases h
  ser := fun _ _ h => by cases h
  at_ := fun _ _ h => by cases h
  len := fun _ _ h => by cases h
  back := fun _ _ h => by cases h
  nok := fun _ _ h => by cases h
  la := fun _ _ h => by cases h
  ge := fun _ _ h => by cases h
  has := fun _ _ h => by cases h
theorem Dk.Ok.more {d : Dk} {n n' : Nat} (h : d.Ok n) (hn : n ≤ n') (hb : n' < 1000000) : d.Ok n' :=
  ⟨Nat.le_trans h.no hn, hb, h.int, fun nm v hv => ⟨(h.ser nm v hv).1, by have := (h.ser nm v hv).2; omega⟩, h.at_, h.len, h.back, h.nok, h.la, fun i x hx => Nat.le_trans (h.ge i x hx) hn, h.has⟩
/-- one file turns -/
noncomputable def Dk.edit (d : Dk) (i : Int) (y : Fl) : Dk := { d with fs := putM d.fs i y }
theorem Dk.edit_fs (d : Dk) (i : Int) (y : Fl) (j : Int) : (d.edit i y).fs j = if j = i then some y else d.fs j := by
  show putM d.fs i _ j = _
  by_cases e : j = i
  · rw [e, putM_same, if_pos rfl]
  · rw [putM_other _ _ e, if_neg e]
theorem Dk.Ok.edit {d : Dk} {n n' : Nat} (h : d.Ok n) (hn : n ≤ n') (hb : n' < 1000000) {i : Int} {x : Fl} (hx : d.fs i = some x) (y : Fl) (hnm : y.nm = x.nm) (hl : y.by_.length ≤ 1048576) (hla : y.la ≤ y.by_.length) (hge : y.ge ≤ n') : (d.edit i y).Ok n' := by
  have hfs := d.edit_fs i y
  refine ⟨Nat.le_trans h.no hn, hb, h.int, fun nm v hv => ⟨(h.ser nm v hv).1, Int.le_trans (h.ser nm v hv).2 (by omega)⟩, fun nm j hj => ?_, fun j z hz => ?_, fun j z hz => ?_, fun j z hz => ?_, fun j z hz => ?_, fun j z hz => ?_, h.has⟩
  · obtain ⟨z, h1, h2⟩ := h.at_ nm j hj
    rw [hfs j]
    by_cases e : j = i
    · rw [if_pos e]
      rw [e, hx] at h1
      obtain rfl := Option.some.inj h1
      exact ⟨_, rfl, hnm.trans h2⟩
    · rw [if_neg e]
      exact ⟨z, h1, h2⟩
  all_goals
    rw [hfs j] at hz
    by_cases e : j = i
    · rw [if_pos e] at hz
      obtain rfl := Option.some.inj hz
      first
        | exact hl
        | exact hla
        | exact hge
        | (rw [hnm, e]; exact h.back i x hx)
        | (rw [hnm]; exact h.nok i x hx)
    · rw [if_neg e] at hz
      first
        | exact h.len j z hz
        | exact h.la j z hz
        | exact Nat.le_trans (h.ge j z hz) hn
        | exact h.back j z hz
        | exact h.nok j z hz
theorem Dk.Ok.app {d : Dk} {n : Nat} (h : d.Ok n) {i : Int} {x : Fl} (hx : d.fs i = some x) (l : List UInt8) (hl : x.by_.length + l.length ≤ 1048576) : (d.app i x l).Ok n :=
  h.edit (Nat.le_refl _) h.big hx { x with by_ := x.by_ ++ l } rfl (by simpa using hl) (by have := h.la i x hx; simp; omega) (h.ge i x hx)
/-- a name is given to a file that has none, or another one -/
theorem Dk.named_fs (d : Dk) (i : Int) (nm : List UInt8) (x : Fl) (j : Int) : (d.named i nm x).fs j = if j = i then some { x with nm := nm } else d.fs j := by
  show putM d.fs i _ j = _
  by_cases e : j = i
  · rw [e, putM_same, if_pos rfl]
  · rw [putM_other _ _ e, if_neg e]
theorem Dk.named_ns (d : Dk) (i : Int) (nm : List UInt8) (x : Fl) (m : List UInt8) : (d.named i nm x).ns m = if m = nm then some i else d.ns m := by
  show putM d.ns nm i m = _
  by_cases e : m = nm
  · rw [e, putM_same, if_pos rfl]
  · rw [putM_other _ _ e, if_neg e]
theorem Dk.named_se (d : Dk) (i : Int) (nm : List UInt8) (x : Fl) (m : List UInt8) : (d.named i nm x).se m = if m = nm then some ((d.se nm).getD 0 + 1) else d.se m := by
  show putM d.se nm _ m = _
  by_cases e : m = nm
  · rw [e, putM_same, if_pos rfl]
  · rw [putM_other _ _ e, if_neg e]
/-- the disk with file i nameless: all else is right -/
structure Dk.Un (d : Dk) (n : Nat) (i : Int) (x : Fl) (nm : List UInt8) : Prop where
  no : d.no ≤ n
  big : n + 1 < 1000000
  int : ∀ m j, d.ns m = some j → 1 ≤ j ∧ j ≤ d.no
  self : 1 ≤ i ∧ i ≤ d.no
  ser : ∀ m v, d.se m = some v → 1 ≤ v ∧ v ≤ n
  at_ : ∀ m j, m ≠ nm → d.ns m = some j → j ≠ i ∧ ∃ y, d.fs j = some y ∧ y.nm = m
  me : d.fs i = some x
  len : ∀ j y, d.fs j = some y → y.by_.length ≤ 1048576
  back : ∀ j y, j ≠ i → d.fs j = some y → y.nm ≠ nm ∧ d.ns y.nm = some j
  nok : ∀ j y, j ≠ i → d.fs j = some y → okName y.nm
  la : ∀ j y, d.fs j = some y → y.la ≤ y.by_.length
  ge : ∀ j y, d.fs j = some y → y.ge ≤ n
  has : ∀ m j, m ≠ nm → d.ns m = some j → ∃ v, d.se m = some v
theorem Dk.Un.named {d : Dk} {n : Nat} {i : Int} {x : Fl} {nm : List UInt8} (h : d.Un n i x nm) (hnm : okName nm) : (d.named i nm x).Ok (n + 1) := by
  have hfs := d.named_fs i nm x
  have hns := d.named_ns i nm x
  have hse := d.named_se i nm x
  refine ⟨Nat.le_succ_of_le h.no, h.big, fun m j hj => ?_, fun m v hv => ?_, fun m j hj => ?_, fun j y hy => ?_, fun j y hy => ?_, fun j y hy => ?_, fun j y hy => ?_, fun j y hy => ?_, fun m j hj => ?_⟩
  · rw [hns] at hj
    by_cases e : m = nm
    · rw [if_pos e] at hj
      obtain rfl := Option.some.inj hj
      exact h.self
    · rw [if_neg e] at hj
      exact h.int m j hj
  · rw [hse] at hv
    by_cases e : m = nm
    · rw [if_pos e] at hv
      obtain rfl := Option.some.inj hv
      cases hq : d.se nm with
      | none => simp; omega
      | some u =>
        have := h.ser nm u hq
        simp; omega
    · rw [if_neg e] at hv
      have := h.ser m v hv
      omega
  · rw [hns] at hj
    by_cases e : m = nm
    · rw [if_pos e] at hj
      obtain rfl := Option.some.inj hj
      exact ⟨_, by rw [hfs, if_pos rfl], e.symm⟩
    · rw [if_neg e] at hj
      obtain ⟨h1, y, h2, h3⟩ := h.at_ m j e hj
      exact ⟨y, by rw [hfs, if_neg h1]; exact h2, h3⟩
  · rw [hfs] at hy
    by_cases e : j = i
    · rw [if_pos e] at hy
      obtain rfl := Option.some.inj hy
      exact h.len i x h.me
    · rw [if_neg e] at hy
      exact h.len j y hy
  · rw [hfs] at hy
    by_cases e : j = i
    · rw [if_pos e] at hy
      obtain rfl := Option.some.inj hy
      rw [hns, if_pos rfl, e]
    · rw [if_neg e] at hy
      obtain ⟨h1, h2⟩ := h.back j y e hy
      rw [hns, if_neg h1]; exact h2
  · rw [hfs] at hy
    by_cases e : j = i
    · rw [if_pos e] at hy
      obtain rfl := Option.some.inj hy
      exact hnm
    · rw [if_neg e] at hy
      exact h.nok j y e hy
  · rw [hfs] at hy
    by_cases e : j = i
    · rw [if_pos e] at hy
      obtain rfl := Option.some.inj hy
      exact h.la i x h.me
    · rw [if_neg e] at hy
      exact h.la j y hy
  · rw [hfs] at hy
    by_cases e : j = i
    · rw [if_pos e] at hy
      obtain rfl := Option.some.inj hy
      exact Nat.le_succ_of_le (h.ge i x h.me)
    · rw [if_neg e] at hy
      exact Nat.le_succ_of_le (h.ge j y hy)
  · rw [hns] at hj
    by_cases e : m = nm
    · exact ⟨_, by rw [hse, if_pos e]⟩
    · rw [if_neg e] at hj
      obtain ⟨v, hv⟩ := h.has m j e hj
      exact ⟨v, by rw [hse, if_neg e]; exact hv⟩
/-- one more inode, nameless -/
def Dk.born (d : Dk) : Dk := { d with fs := fun j => if j = (d.no : Int) + 1 then some ⟨[], [], 0, 0⟩ else d.fs j, no := d.no + 1 }
theorem Dk.Ok.lo {d : Dk} {n : Nat} (h : d.Ok n) {i : Int} {x : Fl} (hx : d.fs i = some x) : 1 ≤ i ∧ i ≤ d.no := h.int _ _ (h.back i x hx)
theorem Dk.Ok.born {d : Dk} {n : Nat} (h : d.Ok n) (hn : n + 2 < 1000000) {nm : List UInt8} (hnm : d.ns nm = none) : d.born.Un (n + 1) ((d.no : Int) + 1) ⟨[], [], 0, 0⟩ nm := by
  have hfs : ∀ j, d.born.fs j = if j = (d.no : Int) + 1 then some ⟨[], [], 0, 0⟩ else d.fs j := fun j => rfl
  have hns : ∀ m, d.born.ns m = d.ns m := fun m => rfl
  have hno : d.born.no = d.no + 1 := rfl
  have h0 := h.no
  refine ⟨by rw [hno]; omega, by omega, fun m j hj => ?_, by rw [hno]; omega, fun m v hv => ?_, fun m j hm hj => ?_, by rw [hfs, if_pos rfl], fun j y hy => ?_, fun j y hj hy => ?_, fun j y hj hy => ?_, fun j y hy => ?_, fun j y hy => ?_, fun m j hm hj => h.has m j hj⟩
  · have := h.int m j hj
    rw [hno]; omega
  · have := h.ser m v hv
    omega
  · have h1 := h.int m j hj
    obtain ⟨y, h2, h3⟩ := h.at_ m j hj
    have : j ≠ (d.no : Int) + 1 := by omega
    exact ⟨this, y, by rw [hfs, if_neg this]; exact h2, h3⟩
  · rw [hfs] at hy
    by_cases e : j = (d.no : Int) + 1
    · rw [if_pos e] at hy
      obtain rfl := Option.some.inj hy
      simp
    · rw [if_neg e] at hy
      exact h.len j y hy
  · rw [hfs, if_neg hj] at hy
    refine ⟨fun e => ?_, h.back j y hy⟩
    have := h.back j y hy
    rw [e, hnm] at this
    cases this
  · rw [hfs, if_neg hj] at hy
    exact h.nok j y hy
  · rw [hfs] at hy
    by_cases e : j = (d.no : Int) + 1
    · rw [if_pos e] at hy
      obtain rfl := Option.some.inj hy
      simp
    · rw [if_neg e] at hy
      exact h.la j y hy
  · rw [hfs] at hy
    by_cases e : j = (d.no : Int) + 1
    · rw [if_pos e] at hy
      obtain rfl := Option.some.inj hy
      simp
    · rw [if_neg e] at hy
      exact Nat.le_succ_of_le (h.ge j y hy)
/-- a disk with one more file -/
noncomputable def Dk.made (d : Dk) (nm : List UInt8) : Dk := d.born.named ((d.no : Int) + 1) nm ⟨[], [], 0, 0⟩
theorem Dk.Ok.made {d : Dk} {n : Nat} (h : d.Ok n) (hn : n + 2 < 1000000) {nm : List UInt8} (hnm : d.ns nm = none) (ho : okName nm) : (d.made nm).Ok (n + 2) := (h.born hn hnm).named ho
/-- a file goes -/
noncomputable def Dk.less (d : Dk) (nm : List UInt8) (i : Int) : Dk := { d with fs := delM d.fs i, ns := delM d.ns nm }
theorem Dk.less_fs (d : Dk) (nm : List UInt8) (i j : Int) : (d.less nm i).fs j = if j = i then none else d.fs j := by
  show delM d.fs i j = _
  by_cases e : j = i
  · rw [e, delM_same, if_pos rfl]
  · rw [delM_other _ e, if_neg e]
theorem Dk.less_ns (d : Dk) (nm : List UInt8) (i : Int) (m : List UInt8) : (d.less nm i).ns m = if m = nm then none else d.ns m := by
  show delM d.ns nm m = _
  by_cases e : m = nm
  · rw [e, delM_same, if_pos rfl]
  · rw [delM_other _ e, if_neg e]
theorem Dk.Ok.less {d : Dk} {n : Nat} (h : d.Ok n) {nm : List UInt8} {i : Int} (hi : d.ns nm = some i) : (d.less nm i).Ok n := by
  have hfs := d.less_fs nm i
  have hns := d.less_ns nm i
  obtain ⟨x, hx, hxn⟩ := h.at_ nm i hi
  have hf : ∀ {j y}, (d.less nm i).fs j = some y → j ≠ i ∧ d.fs j = some y := fun {j y} hy => by
    rw [hfs] at hy
    by_cases e : j = i
    · rw [if_pos e] at hy; cases hy
    · rw [if_neg e] at hy; exact ⟨e, hy⟩
  have hn : ∀ {m j}, (d.less nm i).ns m = some j → m ≠ nm ∧ d.ns m = some j := fun {m j} hj => by
    rw [hns] at hj
    by_cases e : m = nm
    · rw [if_pos e] at hj; cases hj
    · rw [if_neg e] at hj; exact ⟨e, hj⟩
  refine ⟨h.no, h.big, fun m j hj => h.int m j (hn hj).2, h.ser, fun m j hj => ?_, fun j y hy => h.len j y (hf hy).2, fun j y hy => ?_, fun j y hy => h.nok j y (hf hy).2, fun j y hy => h.la j y (hf hy).2, fun j y hy => h.ge j y (hf hy).2, fun m j hj => h.has m j (hn hj).2⟩
  · obtain ⟨h1, h2⟩ := hn hj
    obtain ⟨y, h3, h4⟩ := h.at_ m j h2
    refine ⟨y, ?_, h4⟩
    rw [hfs, if_neg (fun e => ?_)]
    · exact h3
    · rw [e, hx] at h3
      obtain rfl := Option.some.inj h3
      exact h1 (h4.symm.trans hxn)
  · obtain ⟨h1, h2⟩ := hf hy
    have h3 := h.back j y h2
    rw [hns, if_neg (fun e => ?_)]
    · exact h3
    · rw [e, hi] at h3
      exact h1 (Option.some.inj h3).symm
end Go.Proofs.Ythhbfjhgmdnpbab
