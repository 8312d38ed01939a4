/- THE WALKS of the disk's keep, Cut and Sync. -/
import Derived.Test.YtlojmmcagglpoaaGreatUDiskAppend
import Derived.Lib.MinMax
namespace Go.Proofs.YtlojmmcagglpoaaGreat
open Go.RowKit Go.Maps
theorem Dk.Ok.empty : emptyD.Ok 0 where
  no := Nat.le_refl _
  big := by decide
  int := fun _ _ h => by cases h
  ser := fun _ _ h => by cases h
  at_ := fun _ _ h => by cases h
  len := fun _ _ h => by cases h
  back := fun _ _ h => by cases h
  nok := fun _ _ h => by cases h
  la := fun _ _ h => by cases h
  ge := fun _ _ h => by cases h
  has := fun _ _ h => by cases h
theorem Dk.Ok.more {d : Dk} {n n' : Nat} (h : d.Ok n) (hn : n ≤ n') (hb : n' < 1000000) : d.Ok n' :=
  ⟨Nat.le_trans h.no hn, hb, h.int, fun nm v hv => ⟨(h.ser nm v hv).1, by have := (h.ser nm v hv).2; omega⟩, h.at_, h.len, h.back, h.nok, h.la, fun i x hx => Nat.le_trans (h.ge i x hx) hn, h.has⟩
noncomputable def Dk.edit (d : Dk) (i : Int) (y : Fl) : Dk := { d with fs := putM d.fs i y }
theorem Dk.edit_fs (d : Dk) (i : Int) (y : Fl) (j : Int) : (d.edit i y).fs j = if j = i then some y else d.fs j := by
  show putM d.fs i _ j = _
  by_cases e : j = i
  · rw [e, putM_same, if_pos rfl]
  · rw [putM_other _ _ e, if_neg e]
theorem Dk.Ok.edit {d : Dk} {n n' : Nat} (h : d.Ok n) (hn : n ≤ n') (hb : n' < 1000000) {i : Int} {x : Fl} (hx : d.fs i = some x) (y : Fl) (hnm : y.nm = x.nm) (hl : y.by_.length ≤ 1048576) (hla : y.la ≤ y.by_.length) (hge : y.ge ≤ n') : (d.edit i y).Ok n' := by
  have hfs := d.edit_fs i y
  refine ⟨Nat.le_trans h.no hn, hb, h.int, fun nm v hv => ⟨(h.ser nm v hv).1, Int.le_trans (h.ser nm v hv).2 (by omega)⟩, fun nm j hj => ?_, fun j z hz => ?_, fun j z hz => ?_, fun j z hz => ?_, fun j z hz => ?_, fun j z hz => ?_, h.has⟩
  · obtain ⟨z, h1, h2⟩ := h.at_ nm j hj
    rw [hfs j]
    by_cases e : j = i
    · rw [if_pos e]
      rw [e, hx] at h1
      obtain rfl := Option.some.inj h1
      exact ⟨_, rfl, hnm.trans h2⟩
    · rw [if_neg e]
      exact ⟨z, h1, h2⟩
  all_goals
    rw [hfs j] at hz
    by_cases e : j = i
    · rw [if_pos e] at hz
      obtain rfl := Option.some.inj hz
      first
        | exact hl
        | exact hla
        | exact hge
        | (rw [hnm, e]; exact h.back i x hx)
        | (rw [hnm]; exact h.nok i x hx)
    · rw [if_neg e] at hz
      first
        | exact h.len j z hz
        | exact h.la j z hz
        | exact Nat.le_trans (h.ge j z hz) hn
        | exact h.back j z hz
        | exact h.nok j z hz
theorem Dk.Ok.app {d : Dk} {n : Nat} (h : d.Ok n) {i : Int} {x : Fl} (hx : d.fs i = some x) (l : List UInt8) (hl : x.by_.length + l.length ≤ 1048576) : (d.app i x l).Ok n :=
  h.edit (Nat.le_refl _) h.big hx { x with by_ := x.by_ ++ l } rfl (by simpa using hl) (by have := h.la i x hx; simp; omega) (h.ge i x hx)
theorem Dk.named_fs (d : Dk) (i : Int) (nm : List UInt8) (x : Fl) (j : Int) : (d.named i nm x).fs j = if j = i then some { x with nm := nm } else d.fs j := by
  show putM d.fs i _ j = _
  by_cases e : j = i
  · rw [e, putM_same, if_pos rfl]
  · rw [putM_other _ _ e, if_neg e]
theorem Dk.named_ns (d : Dk) (i : Int) (nm : List UInt8) (x : Fl) (m : List UInt8) : (d.named i nm x).ns m = if m = nm then some i else d.ns m := by
  show putM d.ns nm i m = _
  by_cases e : m = nm
  · rw [e, putM_same, if_pos rfl]
  · rw [putM_other _ _ e, if_neg e]
theorem Dk.named_se (d : Dk) (i : Int) (nm : List UInt8) (x : Fl) (m : List UInt8) : (d.named i nm x).se m = if m = nm then some ((d.se nm).getD 0 + 1) else d.se m := by
  show putM d.se nm _ m = _
  by_cases e : m = nm
  · rw [e, putM_same, if_pos rfl]
  · rw [putM_other _ _ e, if_neg e]
structure Dk.Un (d : Dk) (n : Nat) (i : Int) (x : Fl) (nm : List UInt8) : Prop where
  no : d.no ≤ n
  big : n + 1 < 1000000
  int : ∀ m j, d.ns m = some j → 1 ≤ j ∧ j ≤ d.no
  self : 1 ≤ i ∧ i ≤ d.no
  ser : ∀ m v, d.se m = some v → 1 ≤ v ∧ v ≤ n
  at_ : ∀ m j, m ≠ nm → d.ns m = some j → j ≠ i ∧ ∃ y, d.fs j = some y ∧ y.nm = m
  me : d.fs i = some x
  len : ∀ j y, d.fs j = some y → y.by_.length ≤ 1048576
  back : ∀ j y, j ≠ i → d.fs j = some y → y.nm ≠ nm ∧ d.ns y.nm = some j
  nok : ∀ j y, j ≠ i → d.fs j = some y → okName y.nm
  la : ∀ j y, d.fs j = some y → y.la ≤ y.by_.length
  ge : ∀ j y, d.fs j = some y → y.ge ≤ n
  has : ∀ m j, m ≠ nm → d.ns m = some j → ∃ v, d.se m = some v
theorem Dk.Un.named {d : Dk} {n : Nat} {i : Int} {x : Fl} {nm : List UInt8} (h : d.Un n i x nm) (hnm : okName nm) : (d.named i nm x).Ok (n + 1) := by
  have hfs := d.named_fs i nm x
  have hns := d.named_ns i nm x
  have hse := d.named_se i nm x
  refine ⟨Nat.le_succ_of_le h.no, h.big, fun m j hj => ?_, fun m v hv => ?_, fun m j hj => ?_, fun j y hy => ?_, fun j y hy => ?_, fun j y hy => ?_, fun j y hy => ?_, fun j y hy => ?_, fun m j hj => ?_⟩
  · rw [hns] at hj
    by_cases e : m = nm
    · rw [if_pos e] at hj
      obtain rfl := Option.some.inj hj
      exact h.self
    · rw [if_neg e] at hj
      exact h.int m j hj
  · rw [hse] at hv
    by_cases e : m = nm
    · rw [if_pos e] at hv
      obtain rfl := Option.some.inj hv
      cases hq : d.se nm with
      | none => simp; omega
      | some u =>
        have := h.ser nm u hq
        simp; omega
    · rw [if_neg e] at hv
      have := h.ser m v hv
      omega
  · rw [hns] at hj
    by_cases e : m = nm
    · rw [if_pos e] at hj
      obtain rfl := Option.some.inj hj
      exact ⟨_, by rw [hfs, if_pos rfl], e.symm⟩
    · rw [if_neg e] at hj
      obtain ⟨h1, y, h2, h3⟩ := h.at_ m j e hj
      exact ⟨y, by rw [hfs, if_neg h1]; exact h2, h3⟩
  · rw [hfs] at hy
    by_cases e : j = i
    · rw [if_pos e] at hy
      obtain rfl := Option.some.inj hy
      exact h.len i x h.me
    · rw [if_neg e] at hy
      exact h.len j y hy
  · rw [hfs] at hy
    by_cases e : j = i
    · rw [if_pos e] at hy
      obtain rfl := Option.some.inj hy
      rw [hns, if_pos rfl, e]
    · rw [if_neg e] at hy
      obtain ⟨h1, h2⟩ := h.back j y e hy
      rw [hns, if_neg h1]; exact h2
  · rw [hfs] at hy
    by_cases e : j = i
    · rw [if_pos e] at hy
      obtain rfl := Option.some.inj hy
      exact hnm
    · rw [if_neg e] at hy
      exact h.nok j y e hy
  · rw [hfs] at hy
    by_cases e : j = i
    · rw [if_pos e] at hy
      obtain rfl := Option.some.inj hy
      exact h.la i x h.me
    · rw [if_neg e] at hy
      exact h.la j y hy
  · rw [hfs] at hy
    by_cases e : j = i
    · rw [if_pos e] at hy
      obtain rfl := Option.some.inj hy
      exact Nat.le_succ_of_le (h.ge i x h.me)
    · rw [if_neg e] at hy
      exact Nat.le_succ_of_le (h.ge j y hy)
  · rw [hns] at hj
    by_cases e : m = nm
    · exact ⟨_, by rw [hse, if_pos e]⟩
    · rw [if_neg e] at hj
      obtain ⟨v, hv⟩ := h.has m j e hj
      exact ⟨v, by rw [hse, if_neg e]; exact hv⟩
def Dk.born (d : Dk) : Dk := { d with fs := fun j => if j = (d.no : Int) + 1 then some ⟨[], [], 0, 0⟩ else d.fs j, no := d.no + 1 }
theorem Dk.Ok.lo {d : Dk} {n : Nat} (h : d.Ok n) {i : Int} {x : Fl} (hx : d.fs i = some x) : 1 ≤ i ∧ i ≤ d.no := h.int _ _ (h.back i x hx)
theorem Dk.Ok.born {d : Dk} {n : Nat} (h : d.Ok n) (hn : n + 2 < 1000000) {nm : List UInt8} (hnm : d.ns nm = none) : d.born.Un (n + 1) ((d.no : Int) + 1) ⟨[], [], 0, 0⟩ nm := by
  have hfs : ∀ j, d.born.fs j = if j = (d.no : Int) + 1 then some ⟨[], [], 0, 0⟩ else d.fs j := fun j => rfl
  have hns : ∀ m, d.born.ns m = d.ns m := fun m => rfl
  have hno : d.born.no = d.no + 1 := rfl
  have h0 := h.no
  refine ⟨by rw [hno]; omega, by omega, fun m j hj => ?_, by rw [hno]; omega, fun m v hv => ?_, fun m j hm hj => ?_, by rw [hfs, if_pos rfl], fun j y hy => ?_, fun j y hj hy => ?_, fun j y hj hy => ?_, fun j y hy => ?_, fun j y hy => ?_, fun m j hm hj => h.has m j hj⟩
  · have := h.int m j hj
    rw [hno]; omega
  · have := h.ser m v hv
    omega
  · have h1 := h.int m j hj
    obtain ⟨y, h2, h3⟩ := h.at_ m j hj
    have : j ≠ (d.no : Int) + 1 := by omega
    exact ⟨this, y, by rw [hfs, if_neg this]; exact h2, h3⟩
  · rw [hfs] at hy
    by_cases e : j = (d.no : Int) + 1
    · rw [if_pos e] at hy
      obtain rfl := Option.some.inj hy
      simp
    · rw [if_neg e] at hy
      exact h.len j y hy
  · rw [hfs, if_neg hj] at hy
    refine ⟨fun e => ?_, h.back j y hy⟩
    have := h.back j y hy
    rw [e, hnm] at this
    cases this
  · rw [hfs, if_neg hj] at hy
    exact h.nok j y hy
  · rw [hfs] at hy
    by_cases e : j = (d.no : Int) + 1
    · rw [if_pos e] at hy
      obtain rfl := Option.some.inj hy
      simp
    · rw [if_neg e] at hy
      exact h.la j y hy
  · rw [hfs] at hy
    by_cases e : j = (d.no : Int) + 1
    · rw [if_pos e] at hy
      obtain rfl := Option.some.inj hy
      simp
    · rw [if_neg e] at hy
      exact Nat.le_succ_of_le (h.ge j y hy)
noncomputable def Dk.made (d : Dk) (nm : List UInt8) : Dk := d.born.named ((d.no : Int) + 1) nm ⟨[], [], 0, 0⟩
theorem Dk.Ok.made {d : Dk} {n : Nat} (h : d.Ok n) (hn : n + 2 < 1000000) {nm : List UInt8} (hnm : d.ns nm = none) (ho : okName nm) : (d.made nm).Ok (n + 2) := (h.born hn hnm).named ho
noncomputable def Dk.less (d : Dk) (nm : List UInt8) (i : Int) : Dk := { d with fs := delM d.fs i, ns := delM d.ns nm }
theorem Dk.less_fs (d : Dk) (nm : List UInt8) (i j : Int) : (d.less nm i).fs j = if j = i then none else d.fs j := by
  show delM d.fs i j = _
  by_cases e : j = i
  · rw [e, delM_same, if_pos rfl]
  · rw [delM_other _ e, if_neg e]
theorem Dk.less_ns (d : Dk) (nm : List UInt8) (i : Int) (m : List UInt8) : (d.less nm i).ns m = if m = nm then none else d.ns m := by
  show delM d.ns nm m = _
  by_cases e : m = nm
  · rw [e, delM_same, if_pos rfl]
  · rw [delM_other _ e, if_neg e]
theorem Dk.Ok.less {d : Dk} {n : Nat} (h : d.Ok n) {nm : List UInt8} {i : Int} (hi : d.ns nm = some i) : (d.less nm i).Ok n := by
  have hfs := d.less_fs nm i
  have hns := d.less_ns nm i
  obtain ⟨x, hx, hxn⟩ := h.at_ nm i hi
  have hf : ∀ {j y}, (d.less nm i).fs j = some y → j ≠ i ∧ d.fs j = some y := fun {j y} hy => by
    rw [hfs] at hy
    by_cases e : j = i
    · rw [if_pos e] at hy; cases hy
    · rw [if_neg e] at hy; exact ⟨e, hy⟩
  have hn : ∀ {m j}, (d.less nm i).ns m = some j → m ≠ nm ∧ d.ns m = some j := fun {m j} hj => by
    rw [hns] at hj
    by_cases e : m = nm
    · rw [if_pos e] at hj; cases hj
    · rw [if_neg e] at hj; exact ⟨e, hj⟩
  refine ⟨h.no, h.big, fun m j hj => h.int m j (hn hj).2, h.ser, fun m j hj => ?_, fun j y hy => h.len j y (hf hy).2, fun j y hy => ?_, fun j y hy => h.nok j y (hf hy).2, fun j y hy => h.la j y (hf hy).2, fun j y hy => h.ge j y (hf hy).2, fun m j hj => h.has m j (hn hj).2⟩
  · obtain ⟨h1, h2⟩ := hn hj
    obtain ⟨y, h3, h4⟩ := h.at_ m j h2
    refine ⟨y, ?_, h4⟩
    rw [hfs, if_neg (fun e => ?_)]
    · exact h3
    · rw [e, hx] at h3
      obtain rfl := Option.some.inj h3
      exact h1 (h4.symm.trans hxn)
  · obtain ⟨h1, h2⟩ := hf hy
    have h3 := h.back j y h2
    rw [hns, if_neg (fun e => ?_)]
    · exact h3
    · rw [e, hi] at h3
      exact h1 (Option.some.inj h3).symm
end Go.Proofs.YtlojmmcagglpoaaGreat
namespace Go.Proofs.YtlojmmcagglpoaaGreat
open Go.RowKit Go.Maps
section
variable {W w' : World} {N p q : Nat} {d : Dk} {bf bn bs : Nat} {fl : Int → Option Nat}
theorem FW.bytes {g : Nat} {x : Fl} (h : FW W N g x) : ∃ v, Blk W g 182 (fcells x v) ∧ OB W N v x.by_ ∧ ∀ k, bytesAt W g k ↔ v.ownBlock = some k := by
  obtain ⟨v, h1, h2⟩ := h
  refine ⟨v, h1, h2, fun k => ⟨fun hk => ?_, fun hk => ⟨v, (h1.cell 1).trans rfl, hk⟩⟩⟩
  obtain ⟨u, h3, h4⟩ := hk
  rw [h1.cell 1] at h3
  have : v = u := Option.some.inj h3
  rw [this]; exact h4
theorem DW.edit (hf : DW W N p q d bf bn bs fl) {i : Int} {g : Nat} {x : Fl} (hg : fl i = some g) (hx : d.fs i = some x) (y : Fl) (cAll : Chg (fun b => b = g ∨ bytesAt W g b) W w') (hy : FW w' N g y) (hbi : ∀ k, bytesAt w' g k → bytesAt W g k ∨ W.heap.size ≤ k) : DW w' N p q (d.edit i y) bf bn bs fl := by
  obtain ⟨hNg, hfw⟩ := hf.fw i g x hg hx
  obtain ⟨v0, hb0, ho0, hv0⟩ := hfw.bytes
  have hfb : ∀ {k : Nat}, k ≠ g → v0.ownBlock ≠ some k → ¬ (k = g ∨ bytesAt W g k) := fun h1 h2 e => e.elim h1 (fun e => h2 ((hv0 _).1 e))
  have hoth : ∀ j g' y, j ≠ i → fl j = some g' → d.fs j = some y → N ≤ g' ∧ g' < W.heap.size ∧ ¬ (g' = g ∨ bytesAt W g g') ∧ FW w' N g' y := fun j g' y hne hj hy => by
    obtain ⟨hn1, v', hb', ho'⟩ := hf.fw j g' y hj hy
    have hg' : g' ≠ g := fun e => hne (hf.ap j i g' hj (by rw [e]; exact hg))
    have hnn := hfb hg' (hb'.apart ho0 (by decide))
    refine ⟨hn1, hb'.lt, hnn, v', hb'.chg cAll hnn, cAll.ob ho' (fun k hk e => ?_)⟩
    rcases e with e | e
    · exact hb0.apart ho' (by decide) (by rw [hk, e])
    · exact hne (hf.ab j i g' g k hj hg ⟨v', (hb'.cell 1).trans rfl, hk⟩ e)
  have hby : ∀ j g' k, j ≠ i → fl j = some g' → bytesAt w' g' k → bytesAt W g' k ∧ k < W.heap.size := fun j g' k hne hj hk => by
    obtain ⟨y, hy, _, v', hb', ho'⟩ := hf.at_ hj
    obtain ⟨_, _, hnn, _⟩ := hoth j g' y hne hj hy
    obtain ⟨u, h1, h2⟩ := hk
    rw [cAll.cell (p := ⟨g', 1, none⟩) hb'.lt hnn] at h1
    refine ⟨⟨u, h1, h2⟩, ?_⟩
    rw [hb'.cell 1] at h1
    have : v' = u := Option.some.inj h1
    subst this
    exact (ho'.lt k h2).2
  have hfs := d.edit_fs i y
  refine ⟨hf.bd.chg cAll (hfb (hf.bd.ne_type hb0 (by decide)) (hf.bd.apart ho0 (by decide))), hf.mf.chg cAll (hfb (hf.mf.ne_blk hb0).symm (hf.mf.ne_own ho0)), hf.mn.chg cAll (hfb (hf.mn.ne_blk hb0).symm (hf.mn.ne_own ho0)), hf.ms.chg cAll (hfb (hf.ms.ne_blk hb0).symm (hf.ms.ne_own ho0)), hf.lo, fun j => ?_, fun j g' y hj hy => ?_, hf.ap, fun j j' g1 g2 k h1 h2 h3 h4 => ?_⟩
  · rw [hfs j]
    by_cases e : j = i
    · rw [if_pos e, e, hg]; rfl
    · rw [if_neg e]; exact hf.hf j
  · rw [hfs j] at hy
    by_cases e : j = i
    · rw [if_pos e] at hy
      rw [e, hg] at hj
      obtain rfl := Option.some.inj hj
      obtain rfl := Option.some.inj hy
      exact ⟨hNg, by assumption⟩
    · rw [if_neg e] at hy
      obtain ⟨h1, _, _, h2⟩ := hoth j g' y e hj hy
      exact ⟨h1, h2⟩
  · by_cases e : j = i
    · by_cases e' : j' = i
      · rw [e, e']
      · rw [e, hg] at h1
        obtain rfl := Option.some.inj h1
        obtain ⟨h5, h6⟩ := hby j' g2 k e' h2 h4
        rcases hbi k h3 with h | h
        · exact e.trans (hf.ab i j' g g2 k hg h2 h h5)
        · omega
    · obtain ⟨h5, h6⟩ := hby j g1 k e h1 h3
      by_cases e' : j' = i
      · rw [e', hg] at h2
        obtain rfl := Option.some.inj h2
        rcases hbi k h4 with h | h
        · exact (hf.ab j i g1 g k h1 hg h5 h).trans e'.symm
        · omega
      · exact hf.ab j j' g1 g2 k h1 h2 h5 (hby j' g2 k e' h2 h4).1
theorem DW.files (hf : DW W N p q d bf bn bs fl) (hc : Chg (fun b => b = p ∨ b = bf ∨ b = bn ∨ b = bs) W w') {i : Int} {g : Nat} {x : Fl} (hg : fl i = some g) (hx : d.fs i = some x) : N ≤ g ∧ g < W.heap.size ∧ FW w' N g x ∧ ∀ k, bytesAt w' g k ↔ bytesAt W g k := by
  obtain ⟨hNg, hfw⟩ := hf.fw i g x hg hx
  obtain ⟨v, hb, ho, hv⟩ := hfw.bytes
  have h1 : g ≠ p := hb.ne_type hf.bd (by decide)
  have h2 := hf.mf.ne_blk hb
  have h3 := hf.mn.ne_blk hb
  have h4 := hf.ms.ne_blk hb
  have hb' := hb.chg hc (fun e => by rcases e with e | e | e | e; exact h1 e; exact h2 e; exact h3 e; exact h4 e)
  have ho' := hc.ob ho (fun k hk e => by
    rcases e with e | e | e | e
    · exact hf.bd.apart ho (by decide) (by rw [hk, e])
    · exact hf.mf.ne_own ho (by rw [hk, e])
    · exact hf.mn.ne_own ho (by rw [hk, e])
    · exact hf.ms.ne_own ho (by rw [hk, e]))
  refine ⟨hNg, hb.lt, ⟨v, hb', ho'⟩, fun k => ?_⟩
  unfold bytesAt
  rw [hb'.cell 1, hb.cell 1]
theorem DW.gr_files (hf : DW W N p q d bf bn bs fl) (hc : Chg (fun b => b = p ∨ b = bf ∨ b = bn ∨ b = bs) W w') {fl' : Int → Option Nat} (hl : ∀ j g, fl' j = some g → fl j = some g) : Gr W fl w' fl' := fun i g hg => by
  obtain ⟨x, hx, _, _⟩ := hf.at_ (hl i g hg)
  obtain ⟨_, _, _, hbb⟩ := hf.files hc (hl i g hg) hx
  exact .inl ⟨hl i g hg, fun k hk => .inl ((hbb k).1 hk)⟩
theorem DW.more (hf : DW W N p q d bf bn bs fl) {i : Int} (_hi : fl i = none) {g : Nat} (hg : W.heap.size ≤ g) {y : Fl} {d' : Dk} {q' : Nat} (hc : Chg (fun b => b = p ∨ b = bf ∨ b = bn ∨ b = bs) W w') (hy : FW w' N g y) (hyb : ∀ k, bytesAt w' g k → W.heap.size ≤ k) (hfs : ∀ j, d'.fs j = if j = i then some y else d.fs j)
    (hbd : Blk w' p 132 #[.map (some bf), .map (some bn), .map (some bs), .int .i64 (d'.no : Int)])
    (hmf : FM Tryz.prog 3 iL pD ptrE w' bf q' (putM fl i g)) (hmn : FM Tryz.prog 9 sL iD (plainElem Tryz.prog 3) w' bn q' d'.ns) (hms : FM Tryz.prog 9 sL iD (plainElem Tryz.prog 3) w' bs q' d'.se) : DW w' N p q' d' bf bn bs (putM fl i g) := by
  have hlt := hf.bd.lt
  have hlo := hf.lo
  have key : ∀ {j g'}, putM fl i g j = some g' → (j = i ∧ g' = g) ∨ (j ≠ i ∧ fl j = some g') := fun {j g'} hj => by
    by_cases e : j = i
    · rw [e, putM_same] at hj
      exact .inl ⟨e, (Option.some.inj hj).symm⟩
    · rw [putM_other _ _ e] at hj
      exact .inr ⟨e, hj⟩
  have old : ∀ {j g'}, fl j = some g' → g' < W.heap.size ∧ ∀ k, bytesAt w' g' k → bytesAt W g' k ∧ k < W.heap.size := fun {j g'} hj => by
    obtain ⟨x, hx, _, hfw⟩ := hf.at_ hj
    obtain ⟨_, h1, _, h2⟩ := hf.files hc hj hx
    obtain ⟨v, _, ho, hv⟩ := hfw.bytes
    refine ⟨h1, fun k hk => ⟨(h2 k).1 hk, ?_⟩⟩
    exact (ho.lt k ((hv k).1 ((h2 k).1 hk))).2
  refine ⟨hbd, hmf, hmn, hms, hlo, fun j => ?_, fun j g' z hj hz => ?_, fun j j' g' h1 h2 => ?_, fun j j' g1 g2 k h1 h2 h3 h4 => ?_⟩
  · rw [hfs j]
    by_cases e : j = i
    · rw [if_pos e, e, putM_same]; rfl
    · rw [if_neg e, putM_other _ _ e]; exact hf.hf j
  · rw [hfs j] at hz
    rcases key hj with ⟨e, rfl⟩ | ⟨e, hj⟩
    · rw [if_pos e] at hz
      obtain rfl := Option.some.inj hz
      exact ⟨by omega, hy⟩
    · rw [if_neg e] at hz
      obtain ⟨h1, _, h2, _⟩ := hf.files hc hj hz
      exact ⟨h1, h2⟩
  · rcases key h1 with ⟨e, e1⟩ | ⟨e, h1⟩ <;> rcases key h2 with ⟨e', e2⟩ | ⟨e', h2⟩
    · rw [e, e']
    · have := (old h2).1; omega
    · have := (old h1).1; omega
    · exact hf.ap j j' g' h1 h2
  · rcases key h1 with ⟨e, e1⟩ | ⟨e, h1⟩ <;> rcases key h2 with ⟨e', e2⟩ | ⟨e', h2⟩
    · rw [e, e']
    · have := (old h2).2 k h4; rw [e1] at h3; have := hyb k h3; omega
    · have := (old h1).2 k h3; rw [e2] at h4; have := hyb k h4; omega
    · exact hf.ab j j' g1 g2 k h1 h2 ((old h1).2 k h3).1 ((old h2).2 k h4).1
theorem DW.fewer (hf : DW W N p q d bf bn bs fl) {fl' : Int → Option Nat} (hl : ∀ j g, fl' j = some g → fl j = some g) {d' : Dk} {q' : Nat} (hc : Chg (fun b => b = p ∨ b = bf ∨ b = bn ∨ b = bs) W w') (hfs : ∀ j x, d'.fs j = some x → d.fs j = some x) (hsame : ∀ j, (fl' j).isSome = (d'.fs j).isSome)
    (hbd : Blk w' p 132 #[.map (some bf), .map (some bn), .map (some bs), .int .i64 (d'.no : Int)])
    (hmf : FM Tryz.prog 3 iL pD ptrE w' bf q' fl') (hmn : FM Tryz.prog 9 sL iD (plainElem Tryz.prog 3) w' bn q' d'.ns) (hms : FM Tryz.prog 9 sL iD (plainElem Tryz.prog 3) w' bs q' d'.se) : DW w' N p q' d' bf bn bs fl' := by
  have old : ∀ {j g'}, fl j = some g' → ∀ k, bytesAt w' g' k → bytesAt W g' k := fun {j g'} hj k hk => by
    obtain ⟨x, hx, _, hfw⟩ := hf.at_ hj
    obtain ⟨_, h1, _, h2⟩ := hf.files hc hj hx
    exact (h2 k).1 hk
  refine ⟨hbd, hmf, hmn, hms, hf.lo, hsame, fun j g' z hj hz => ?_, fun j j' g' h1 h2 => hf.ap j j' g' (hl _ _ h1) (hl _ _ h2), fun j j' g1 g2 k h1 h2 h3 h4 => hf.ab j j' g1 g2 k (hl _ _ h1) (hl _ _ h2) (old (hl _ _ h1) k h3) (old (hl _ _ h2) k h4)⟩
  obtain ⟨h1, _, h2, _⟩ := hf.files hc (hl _ _ hj) (hfs j z hz)
  exact ⟨h1, h2⟩
end
end Go.Proofs.YtlojmmcagglpoaaGreat
namespace Go.Proofs.YtlojmmcagglpoaaGreat
open Go.RowKit Go.Maps
theorem own_take {w : World} {base m n c : Nat} {e : TypeId} {A : Option Addr} {xs : List Value} (h : w.ownsRow base e 1 (.slice A m c) m xs) (hn : n ≤ m) : w.ownsRow base e 1 (.slice A n c) n (xs.take n) := by
  refine ⟨by have := h.1; simp; omega, ?_⟩
  rcases h.2 with ⟨h1, h0⟩ | ⟨g, cap, cur, hv, hb, hh, h1, h2, h3, h4⟩
  · injection h1 with h1 _ h3
    subst h1 h3
    exact .inl ⟨by rw [show n = 0 from by omega], by omega⟩
  · injection hv with hv1 hv2 hv3
    subst hv1 hv3
    refine .inr ⟨g, c, cur, rfl, hb, hh, by omega, h2, h3, ?_⟩
    rw [← h4, List.take_take, Nat.min_eq_left (by omega), Nat.mul_one]
theorem OB.take {w : World} {base m n c : Nat} {A : Option Addr} {l : List UInt8} (h : OB w base (.slice A m c) l) (hn : n ≤ m) : OB w base (.slice A n c) (l.take n) := by
  obtain rfl := h.len
  have := own_take (show w.ownsRow base 5 1 (.slice A l.length c) l.length (l.map byteV) from h) hn
  unfold OB
  rw [List.length_take, Nat.min_eq_left hn, List.map_take]
  exact this
theorem Chg.set1 {a b : World} {g : Nat} (h : Chg (fun b => b = g) a b) (i : Nat) (u : Value) : Chg (fun b => b = g) a (b.setCell ⟨g, i, none⟩ u) := h.setCell (p := ⟨g, i, none⟩) (.inl rfl) u
def Fl.kept (x : Fl) (n : Nat) : Fl := if n < x.by_.length then { x with by_ := x.by_.take n, la := min x.la n, ge := x.ge + 1 } else { x with la := min x.la n }
def KeepQ (W : World) (N g : Nat) (x : Fl) (e : Ending) (w' : World) : Prop :=
  e = .returned (.tuple #[]) ∧ FW w' N g x ∧ Chg (fun b => b = g) W w' ∧ ∀ k, bytesAt w' g k → bytesAt W g k
theorem keepQ_of {W W' : World} {N g : Nat} {x y : Fl} {v v' : Value} (hb : Blk W g 182 (fcells x v)) (hc : Chg (fun b => b = g) W W') (hb' : Blk W' g 182 (fcells y v')) (ho' : OB W N v' y.by_) (hv : ∀ k, v'.ownBlock = some k → v.ownBlock = some k) : FW W' N g y ∧ Chg (fun b => b = g) W W' ∧ ∀ k, bytesAt W' g k → bytesAt W g k := by
  refine ⟨⟨v', hb', hc.ob ho' (fun k hk e => hb.apart ho' (by decide) (by rw [hk, e]))⟩, hc, fun k hk => ?_⟩
  obtain ⟨u, h1, h2⟩ := hk
  rw [hb'.cell 1] at h1
  have : v' = u := Option.some.inj h1
  subst this
  exact ⟨v, (hb.cell 1).trans rfl, hv k h2⟩
set_option maxRecDepth 20000 in
set_option maxHeartbeats 1000000 in
theorem keep_any {W : World} {N g n : Nat} {x : Fl} (h : FW W N g x) (hl : x.by_.length ≤ 1048576) (_hla : x.la ≤ 1048576) (hge : x.ge < 1000000) (hn : n ≤ 1048576) :
    Calls Tryz.prog 104 #[.pointer (some ⟨g, 0, none⟩), .int .i64 (n : Int)] W (KeepQ W N g (x.kept n)) := by
  obtain ⟨v, hb, ho⟩ := h
  obtain ⟨Av, cv, rfl, hcap, hcap2, _⟩ := OB.form ho
  obtain ⟨m, hm⟩ : ∃ m, m = x.by_.length := ⟨_, rfl⟩
  obtain ⟨la, hla2⟩ : ∃ la, la = x.la := ⟨_, rfl⟩
  obtain ⟨ge, hge2⟩ : ∃ ge, ge = x.ge := ⟨_, rfl⟩
  have hmin : ∀ w : World, (Builtin.min_ #[3, 3] 3 #[.int .i64 (la : Int), .int .i64 (n : Int)]).run Tryz.prog w = .ok (.int .i64 ((min la n : Nat) : Int)) w := by
    intro w; rw [run_min_int2]; congr 2; omega
  have g1 : W.cell? ⟨g, 1, none⟩ = some (.slice Av m cv) := (hb.cell 1).trans (by rw [hm]; rfl)
  have g2 : W.cell? ⟨g, 2, none⟩ = some (.int .i64 (la : Int)) := (hb.cell 2).trans (by rw [hla2]; rfl)
  have g3 : W.cell? ⟨g, 3, none⟩ = some (.int .i64 (ge : Int)) := (hb.cell 3).trans (by rw [hge2]; rfl)
  have f1 : W.frozen? ⟨g, 1, none⟩ = false := hb.frozen 1
  have f2 : W.frozen? ⟨g, 2, none⟩ = false := hb.frozen 2
  have f3 : W.frozen? ⟨g, 3, none⟩ = false := hb.frozen 3
  have HB := Lib.hid hb; have HO := Lib.hid ho
  rw [← hm] at hl hcap
  rw [← hge2] at hge
  have HM := Lib.hid (And.intro hm (And.intro hla2 hge2))
  have hc0 : (0 : Int) ≤ (n : Int) := by omega
  clear hm hla2 hge2 hb ho
  go_enter Tryz.func104, Tryz.ntmps104
  by_cases hlt : n < m
  · have hc1 : (n : Int) < (m : Int) := by omega
    have hc2 : (n : Int) ≤ (cv : Int) := by omega
    go_wp2_with fail
    go_end0
    have hx : x.kept n = { x with by_ := x.by_.take n, la := min x.la n, ge := x.ge + 1 } := by unfold Fl.kept; rw [if_pos (by rw [← HM.out.1]; exact hlt)]
    refine ⟨rfl, keepQ_of (v' := .slice Av n cv) HB.out ?_ ?_ ?_ ?_⟩
    · exact (((Chg.refl _ W).set1 1 _).set1 3 _).set1 2 _
    · have hb3 := (((HB.out.set_ 1 (.slice Av n cv)).set_ 3 (.int .i64 ((ge : Int) + 1))).set_ 2 (.int .i64 ((min la n : Nat) : Int)))
      rw [HM.out.2.1, HM.out.2.2] at hb3
      rw [HM.out.2.1, HM.out.2.2, hx]
      exact hb3
    · rw [hx]
      have := HO.out.take (n := n) (by rw [← HM.out.1]; omega)
      exact this
    · intro k hk
      cases Av with
      | none => cases hk
      | some a => exact hk
  · have hc1 : ¬ (n : Int) < (m : Int) := by omega
    go_wp2_with fail
    go_end0
    have hx : x.kept n = { x with la := min x.la n } := by unfold Fl.kept; rw [if_neg (by rw [← HM.out.1]; exact hlt)]
    refine ⟨rfl, keepQ_of (v' := .slice Av x.by_.length cv) HB.out ?_ ?_ ?_ ?_⟩
    · exact (Chg.refl _ W).set1 2 _
    · have hb3 := HB.out.set_ 2 (.int .i64 ((min la n : Nat) : Int))
      rw [HM.out.2.1] at hb3
      rw [HM.out.2.1, hx]
      exact hb3
    · rw [hx]
      exact HO.out
    · intro k hk; exact hk
def EdQ (W : World) (N p q : Nat) (d : Dk) (bf bn bs : Nat) (fl : Int → Option Nat) (nm : List UInt8) (f : Fl → Fl) (e : Ending) (w' : World) : Prop :=
  (d.ns nm = none ∧ e = .returned (.int .i64 141) ∧ Below W.heap.size W w') ∨ ∃ i x g, d.ns nm = some i ∧ d.fs i = some x ∧ fl i = some g ∧ e = .returned (.int .i64 0) ∧ DW w' N p q (d.edit i (f x)) bf bn bs fl ∧ Chg (fun b => b = g) W w' ∧ Gr W fl w' fl
theorem DW.file {W : World} {N p q qq : Nat} {d : Dk} {bf bn bs : Nat} {fl : Int → Option Nat} (h : DW W N p q d bf bn bs fl) (hd : d.Ok qq) {nm : List UInt8} {i : Int} (hi : d.ns nm = some i) : ∃ x g, d.fs i = some x ∧ x.nm = nm ∧ fl i = some g ∧ FW W N g x := by
  obtain ⟨x, hx, hn⟩ := hd.at_ nm i hi
  have := h.hf i
  rw [hx] at this
  obtain ⟨g, hg⟩ := Option.isSome_iff_exists.1 this
  exact ⟨x, g, hx, hn, hg, (h.fw i g x hg hx).2⟩
theorem DW.edit0 {W W0 w' : World} {N p q : Nat} {d : Dk} {bf bn bs : Nat} {fl : Int → Option Nat} (h : DW W N p q d bf bn bs fl) (hb : Below W.heap.size W W0) {i : Int} {g : Nat} {x : Fl} (hg : fl i = some g) (hx : d.fs i = some x) (y : Fl) (hc : Chg (fun b => b = g) W0 w') (hy : FW w' N g y) (hbi : ∀ k, bytesAt w' g k → bytesAt W0 g k) : DW w' N p q (d.edit i y) bf bn bs fl ∧ Chg (fun b => b = g) W w' ∧ Gr W fl w' fl := by
  refine ⟨(h.keep hb).edit hg hx y (hc.mono (fun _ _ e => .inl e)) hy (fun k hk => .inl (hbi k hk)), (Chg.of_below hb _).trans hc (fun _ _ e => e), fun j g' hj => .inl ⟨hj, fun k hk => ?_⟩⟩
  obtain ⟨z, _, _, hz⟩ := h.at_ hj
  by_cases e : g' = g
  · subst e
    exact .inl ((hbi k hk).back hz.lt hb)
  · obtain ⟨u, h1, h2⟩ := hk
    rw [hc.cell (p := ⟨g', 1, none⟩) (Nat.lt_of_lt_of_le hz.lt hb.size) e] at h1
    exact .inl (bytesAt.back hz.lt hb ⟨u, h1, h2⟩)
set_option maxRecDepth 20000 in
set_option maxHeartbeats 1000000 in
theorem cut_any {W : World} {N p q qq : Nat} {d : Dk} {bf bn bs : Nat} {fl : Int → Option Nat} (h : DW W N p q d bf bn bs fl) (hd : d.Ok qq) (nm : List UInt8) (hl : okName nm) (hm : MayC nm true) :
    Calls Tryz.prog 53 #[.pointer (some ⟨p, 0, none⟩), .string (strB nm)] W (EdQ W N p q d bf bn bs fl nm (fun x => x.kept 0)) := by
  have OF := Lib.hid (of_any h hd.okInt nm hl hm)
  have H := Lib.hid h; have HD := Lib.hid hd
  clear h hd hm
  go_enter Tryz.func53, Tryz.ntmps53
  go_wp2_with fail
  refine OF.out.mono ?_
  rintro e w1 ⟨hb, hq⟩
  have HB := Lib.hid hb
  clear OF
  rcases hq with ⟨h1, rfl⟩ | ⟨i, h1, rfl⟩
  · have HF : Hid (EdQ W N p q d bf bn bs fl nm (fun x => x.kept 0) (.returned (.int .i64 141)) w1) := Lib.hid (.inl ⟨h1, rfl, hb⟩)
    clear h1 hb
    go_wp2_with fail
    go_ret
    exact HF.out
  · obtain ⟨x, g, hx, hn, hg, hf⟩ := H.out.file HD.out h1
    rw [hg]
    unfold lookV pV
    have hlen := HD.out.len i x hx
    have hla := HD.out.la i x hx
    have hge := HD.out.ge i x hx
    have hbig := HD.out.big
    have CK := Lib.hid (keep_any (n := 0) (hf.keep hb) hlen (by omega) (by omega) (by omega))
    have HN := Lib.hid h1; have HX := Lib.hid hx; have HG := Lib.hid hg
    clear h1 hx hg hb hf hn
    go_wp2_with fail
    refine CK.out.mono ?_
    rintro e w2 ⟨rfl, h2, h3, h4⟩
    have h5 := H.out.edit0 HB.out HG.out HX.out (x.kept 0) h3 h2 h4
    have HF : Hid (EdQ W N p q d bf bn bs fl nm (fun x => x.kept 0) (.returned (.int .i64 0)) w2) := Lib.hid (.inr ⟨i, x, g, HN.out, HX.out, HG.out, rfl, h5⟩)
    clear h2 h3 h4 h5
    go_wp2_with fail
    go_ret
    exact HF.out
set_option maxRecDepth 20000 in
set_option maxHeartbeats 1000000 in
theorem sync_any {W : World} {N p q qq : Nat} {d : Dk} {bf bn bs : Nat} {fl : Int → Option Nat} (h : DW W N p q d bf bn bs fl) (hd : d.Ok qq) (nm : List UInt8) (hl : okName nm) (hm : MayC nm true) :
    Calls Tryz.prog 48 #[.pointer (some ⟨p, 0, none⟩), .string (strB nm)] W (EdQ W N p q d bf bn bs fl nm (fun x => { x with la := x.by_.length })) := by
  have OF := Lib.hid (of_any h hd.okInt nm hl hm)
  have H := Lib.hid h; have HD := Lib.hid hd
  clear h hd hm
  go_enter Tryz.func48, Tryz.ntmps48
  go_wp2_with fail
  refine OF.out.mono ?_
  rintro e w1 ⟨hb, hq⟩
  have HB := Lib.hid hb
  clear OF
  rcases hq with ⟨h1, rfl⟩ | ⟨i, h1, rfl⟩
  · have HF : Hid (EdQ W N p q d bf bn bs fl nm (fun x => { x with la := x.by_.length }) (.returned (.int .i64 141)) w1) := Lib.hid (.inl ⟨h1, rfl, hb⟩)
    clear h1 hb
    go_wp2_with fail
    go_ret
    exact HF.out
  · obtain ⟨x, g, hx, hn, hg, hf⟩ := H.out.file HD.out h1
    rw [hg]
    unfold lookV pV
    obtain ⟨v, hbk, ho⟩ := hf.keep hb
    obtain ⟨Av, cv, rfl, hcap, hcap2, _⟩ := OB.form ho
    have g1 : w1.cell? ⟨g, 1, none⟩ = some (.slice Av x.by_.length cv) := (hbk.cell 1).trans rfl
    have g2 : w1.cell? ⟨g, 2, none⟩ = some (.int .i64 (x.la : Int)) := (hbk.cell 2).trans rfl
    have f2 : w1.frozen? ⟨g, 2, none⟩ = false := hbk.frozen 2
    have HF : Hid (EdQ W N p q d bf bn bs fl nm (fun x => { x with la := x.by_.length }) (.returned (.int .i64 0)) (w1.setCell ⟨g, 2, none⟩ (.int .i64 (x.by_.length : Int)))) := Lib.hid (by
      have hk := keepQ_of (y := { x with la := x.by_.length }) hbk ((Chg.refl _ w1).set1 2 (.int .i64 (x.by_.length : Int))) (hbk.set_ 2 (.int .i64 (x.by_.length : Int))) ho (fun k hk => hk)
      have h5 := H.out.edit0 HB.out hg hx { x with la := x.by_.length } hk.2.1 hk.1 hk.2.2
      exact .inr ⟨i, x, g, h1, hx, hg, rfl, h5⟩)
    clear h1 hx hg hb hf hn hbk ho
    go_wp2_with fail
    go_ret
    exact HF.out
end Go.Proofs.YtlojmmcagglpoaaGreat
