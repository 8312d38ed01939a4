/- A disk of which one file turns, or to which one is added, or of which one goes: how it lies in memory. -/
import Derived.Test.YthhbfjhgmdnpbabDiskOk
namespace Go.Proofs.Ythhbfjhgmdnpbab
open Go.RowKit Go.Maps
section
variable {W w' : World} {N p q : Nat} {d : Dk} {bf bn bs : Nat} {fl : Int → Option Nat}
/-- the blocks of a disk's bytes -/
theorem FW.bytes {g : Nat} {x : Fl} (h : FW W N g x) : ∃ v, Blk W g 63 (fcells x v) ∧ OB W N v x.by_ ∧ ∀ k, bytesAt W g k ↔ v.ownBlock = some k := by
  obtain ⟨v, h1, h2⟩ := h
  refine ⟨v, h1, h2, fun k => ⟨fun hk => ?_, fun hk => ⟨v, (h1.cell 1).trans rfl, hk⟩⟩⟩
  obtain ⟨u, h3, h4⟩ := hk
  rw [h1.cell 1] at h3
  have : v = u := Option.some.inj h3
  rw [this]; exact h4
theorem DW.edit (hf : DW W N p q d bf bn bs fl) {i : Int} {g : Nat} {x : Fl} (hg : fl i = some g) (hx : d.fs i = some x) (y : Fl) (cAll : Chg (fun b => b = g ∨ bytesAt W g b) W w') (hy : FW w' N g y) (hbi : ∀ k, bytesAt w' g k → bytesAt W g k ∨ W.heap.size ≤ k) : DW w' N p q (d.edit i y) bf bn bs fl := by
  obtain ⟨hNg, hfw⟩ := hf.fw i g x hg hx
  obtain ⟨v0, hb0, ho0, hv0⟩ := hfw.bytes
  have hfb : ∀ {k : Nat}, k ≠ g → v0.ownBlock ≠ some k → ¬ (k = g ∨ bytesAt W g k) := fun h1 h2 e => e.elim h1 (fun e => h2 ((hv0 _).1 e))
  have hoth : ∀ j g' y, j ≠ i → fl j = some g' → d.fs j = some y → N ≤ g' ∧ g' < W.heap.size ∧ ¬ (g' = g ∨ bytesAt W g g') ∧ FW w' N g' y := fun j g' y hne hj hy => by
    obtain ⟨hn1, v', hb', ho'⟩ := hf.fw j g' y hj hy
    have hg' : g' ≠ g := fun e => hne (hf.ap j i g' hj (by rw [e]; exact hg))
    have hnn := hfb hg' (hb'.apart ho0 (by decide))
    refine ⟨hn1, hb'.lt, hnn, v', hb'.chg cAll hnn, cAll.ob ho' (fun k hk e => ?_)⟩
    rcases e with e | e
    · exact hb0.apart ho' (by decide) (by rw [hk, e])
    · exact hne (hf.ab j i g' g k hj hg ⟨v', (hb'.cell 1).trans rfl, hk⟩ e)
  have hby : ∀ j g' k, j ≠ i → fl j = some g' → bytesAt w' g' k → bytesAt W g' k ∧ k < W.heap.size := fun j g' k hne hj hk => by
    obtain ⟨y, hy, _, v', hb', ho'⟩ := hf.at_ hj
    obtain ⟨_, _, hnn, _⟩ := hoth j g' y hne hj hy
    obtain ⟨u, h1, h2⟩ := hk
    rw [cAll.cell (p := ⟨g', 1, none⟩) hb'.lt hnn] at h1
    refine ⟨⟨u, h1, h2⟩, ?_⟩
    rw [hb'.cell 1] at h1
    have : v' = u := Option.some.inj h1
    subst this
    exact (ho'.lt k h2).2
  have hfs := d.edit_fs i y
  refine ⟨hf.bd.chg cAll (hfb (hf.bd.ne_type hb0 (by decide)) (hf.bd.apart ho0 (by decide))), hf.mf.chg cAll (hfb (hf.mf.ne_blk hb0).symm (hf.mf.ne_own ho0)), hf.mn.chg cAll (hfb (hf.mn.ne_blk hb0).symm (hf.mn.ne_own ho0)), hf.ms.chg cAll (hfb (hf.ms.ne_blk hb0).symm (hf.ms.ne_own ho0)), hf.lo, fun j => ?_, fun j g' y hj hy => ?_, hf.ap, fun j j' g1 g2 k h1 h2 h3 h4 => ?_⟩
  · rw [hfs j]
    by_cases e : j = i
    · rw [if_pos e, e, hg]; rfl
    · rw [if_neg e]; exact hf.hf j
  · rw [hfs j] at hy
    by_cases e : j = i
    · rw [if_pos e] at hy
      rw [e, hg] at hj
      obtain rfl := Option.some.inj hj
      obtain rfl := Option.some.inj hy
      exact ⟨hNg, by assumption⟩
    · rw [if_neg e] at hy
      obtain ⟨h1, _, _, h2⟩ := hoth j g' y e hj hy
      exact ⟨h1, h2⟩
  · by_cases e : j = i
    · by_cases e' : j' = i
      · rw [e, e']
      · rw [e, hg] at h1
        obtain rfl := Option.some.inj h1
        obtain ⟨h5, h6⟩ := hby j' g2 k e' h2 h4
        rcases hbi k h3 with h | h
        · exact e.trans (hf.ab i j' g g2 k hg h2 h h5)
        · omega
    · obtain ⟨h5, h6⟩ := hby j g1 k e h1 h3
      by_cases e' : j' = i
      · rw [e', hg] at h2
        obtain rfl := Option.some.inj h2
        rcases hbi k h4 with h | h
        · exact (hf.ab j i g1 g k h1 hg h5 h).trans e'.symm
        · omega
      · exact hf.ab j j' g1 g2 k h1 h2 h5 (hby j' g2 k e' h2 h4).1
/-- what the maps' and the struct's blocks hold does not reach the files -/
theorem DW.files (hf : DW W N p q d bf bn bs fl) (hc : Chg (fun b => b = p ∨ b = bf ∨ b = bn ∨ b = bs) W w') {i : Int} {g : Nat} {x : Fl} (hg : fl i = some g) (hx : d.fs i = some x) : N ≤ g ∧ g < W.heap.size ∧ FW w' N g x ∧ ∀ k, bytesAt w' g k ↔ bytesAt W g k := by
  obtain ⟨hNg, hfw⟩ := hf.fw i g x hg hx
  obtain ⟨v, hb, ho, hv⟩ := hfw.bytes
  have h1 : g ≠ p := hb.ne_type hf.bd (by decide)
  have h2 := hf.mf.ne_blk hb
  have h3 := hf.mn.ne_blk hb
  have h4 := hf.ms.ne_blk hb
  have hb' := hb.chg hc (fun e => by rcases e with e | e | e | e; exact h1 e; exact h2 e; exact h3 e; exact h4 e)
  have ho' := hc.ob ho (fun k hk e => by
    rcases e with e | e | e | e
    · exact hf.bd.apart ho (by decide) (by rw [hk, e])
    · exact hf.mf.ne_own ho (by rw [hk, e])
    · exact hf.mn.ne_own ho (by rw [hk, e])
    · exact hf.ms.ne_own ho (by rw [hk, e]))
  refine ⟨hNg, hb.lt, ⟨v, hb', ho'⟩, fun k => ?_⟩
  unfold bytesAt
  rw [hb'.cell 1, hb.cell 1]
theorem DW.gr_files (hf : DW W N p q d bf bn bs fl) (hc : Chg (fun b => b = p ∨ b = bf ∨ b = bn ∨ b = bs) W w') {fl' : Int → Option Nat} (hl : ∀ j g, fl' j = some g → fl j = some g) : Gr W fl w' fl' := fun i g hg => by
  obtain ⟨x, hx, _, _⟩ := hf.at_ (hl i g hg)
  obtain ⟨_, _, _, hbb⟩ := hf.files hc (hl i g hg) hx
  exact .inl ⟨hl i g hg, fun k hk => .inl ((hbb k).1 hk)⟩
/-- one file more, of a new block -/
theorem DW.more (hf : DW W N p q d bf bn bs fl) {i : Int} (_hi : fl i = none) {g : Nat} (hg : W.heap.size ≤ g) {y : Fl} {d' : Dk} {q' : Nat} (hc : Chg (fun b => b = p ∨ b = bf ∨ b = bn ∨ b = bs) W w') (hy : FW w' N g y) (hyb : ∀ k, bytesAt w' g k → W.heap.size ≤ k) (hfs : ∀ j, d'.fs j = if j = i then some y else d.fs j)
    (hbd : Blk w' p 56 #[.map (some bf), .map (some bn), .map (some bs), .int .i64 (d'.no : Int)])
    (hmf : FM Try.prog 3 iL pD ptrE w' bf q' (putM fl i g)) (hmn : FM Try.prog 9 sL iD (plainElem Try.prog 3) w' bn q' d'.ns) (hms : FM Try.prog 9 sL iD (plainElem Try.prog 3) w' bs q' d'.se) : DW w' N p q' d' bf bn bs (putM fl i g) := by
  have hlt := hf.bd.lt
  have hlo := hf.lo
  have key : ∀ {j g'}, putM fl i g j = some g' → (j = i ∧ g' = g) ∨ (j ≠ i ∧ fl j = some g') := fun {j g'} hj => by
    by_cases e : j = i
    · rw [e, putM_same] at hj
      exact .inl ⟨e, (Option.some.inj hj).symm⟩
    · rw [putM_other _ _ e] at hj
      exact .inr ⟨e, hj⟩
  have old : ∀ {j g'}, fl j = some g' → g' < W.heap.size ∧ ∀ k, bytesAt w' g' k → bytesAt W g' k ∧ k < W.heap.size := fun {j g'} hj => by
    obtain ⟨x, hx, _, hfw⟩ := hf.at_ hj
    obtain ⟨_, h1, _, h2⟩ := hf.files hc hj hx
    obtain ⟨v, _, ho, hv⟩ := hfw.bytes
    refine ⟨h1, fun k hk => ⟨(h2 k).1 hk, ?_⟩⟩
    exact (ho.lt k ((hv k).1 ((h2 k).1 hk))).2
  refine ⟨hbd, hmf, hmn, hms, hlo, fun j => ?_, fun j g' z hj hz => ?_, fun j j' g' h1 h2 => ?_, fun j j' g1 g2 k h1 h2 h3 h4 => ?_⟩
  · rw [hfs j]
    by_cases e : j = i
    · rw [if_pos e, e, putM_same]; rfl
    · rw [if_neg e, putM_other _ _ e]; exact hf.hf j
  · rw [hfs j] at hz
    rcases key hj with ⟨e, rfl⟩ | ⟨e, hj⟩
    · rw [if_pos e] at hz
      obtain rfl := Option.some.inj hz
      exact ⟨by omega, hy⟩
    · rw [if_neg e] at hz
      obtain ⟨h1, _, h2, _⟩ := hf.files hc hj hz
      exact ⟨h1, h2⟩
  · rcases key h1 with ⟨e, e1⟩ | ⟨e, h1⟩ <;> rcases key h2 with ⟨e', e2⟩ | ⟨e', h2⟩
    · rw [e, e']
    · have := (old h2).1; omega
    · have := (old h1).1; omega
    · exact hf.ap j j' g' h1 h2
  · rcases key h1 with ⟨e, e1⟩ | ⟨e, h1⟩ <;> rcases key h2 with ⟨e', e2⟩ | ⟨e', h2⟩
    · rw [e, e']
    · have := (old h2).2 k h4; rw [e1] at h3; have := hyb k h3; omega
    · have := (old h1).2 k h3; rw [e2] at h4; have := hyb k h4; omega
    · exact hf.ab j j' g1 g2 k h1 h2 ((old h1).2 k h3).1 ((old h2).2 k h4).1
/-- files go -/
theorem DW.fewer (hf : DW W N p q d bf bn bs fl) {fl' : Int → Option Nat} (hl : ∀ j g, fl' j = some g → fl j = some g) {d' : Dk} {q' : Nat} (hc : Chg (fun b => b = p ∨ b = bf ∨ b = bn ∨ b = bs) W w') (hfs : ∀ j x, d'.fs j = some x → d.fs j = some x) (hsame : ∀ j, (fl' j).isSome = (d'.fs j).isSome)
    (hbd : Blk w' p 56 #[.map (some bf), .map (some bn), .map (some bs), .int .i64 (d'.no : Int)])
    (hmf : FM Try.prog 3 iL pD ptrE w' bf q' fl') (hmn : FM Try.prog 9 sL iD (plainElem Try.prog 3) w' bn q' d'.ns) (hms : FM Try.prog 9 sL iD (plainElem Try.prog 3) w' bs q' d'.se) : DW w' N p q' d' bf bn bs fl' := by
  have old : ∀ {j g'}, fl j = some g' → ∀ k, bytesAt w' g' k → bytesAt W g' k := fun {j g'} hj k hk => by
    obtain ⟨x, hx, _, hfw⟩ := hf.at_ hj
    obtain ⟨_, h1, _, h2⟩ := hf.files hc hj hx
    exact (h2 k).1 hk
  refine ⟨hbd, hmf, hmn, hms, hf.lo, hsame, fun j g' z hj hz => ?_, fun j j' g' h1 h2 => hf.ap j j' g' (hl _ _ h1) (hl _ _ h2), fun j j' g1 g2 k h1 h2 h3 h4 => hf.ab j j' g1 g2 k (hl _ _ h1) (hl _ _ h2) (old (hl _ _ h1) k h3) (old (hl _ _ h2) k h4)⟩
  obtain ⟨h1, _, h2, _⟩ := hf.files hc (hl _ _ hj) (hfs j z hz)
  exact ⟨h1, h2⟩
end
end Go.Proofs.Ythhbfjhgmdnpbab
