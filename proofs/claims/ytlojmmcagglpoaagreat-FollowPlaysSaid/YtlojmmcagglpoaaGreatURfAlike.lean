/- THE PLAIN LAW, all together: the program's disk and the document's, alike, and what both keep to. Nothing of the program's code is used here. -/
import Derived.Test.YtlojmmcagglpoaaGreatURfAllLaw
import Derived.Test.YtlojmmcagglpoaaGreatURfCr
namespace Go.Proofs.YtlojmmcagglpoaaGreat
open Go.RowKit Go.Maps
structure Alike (d : Dk) (r : Rd) (n : Nat) : Prop where
  sim : Sim d r
  rok : r.Ok n
  uq : r.Uq
  may : d.May
  gn : Gn d r
theorem Rd.Ok.more {r : Rd} {n n' : Nat} (h : r.Ok n) (hn : n ≤ n') (hb : n' ≤ 1000000) : r.Ok n' := ⟨hb, Nat.le_trans h.nl hn, Nat.le_trans h.il hn, fun x hx => Nat.le_trans (h.se x hx) hn, h.ino, h.bl, h.la, fun y hy => Nat.le_trans (h.ge y hy) hn⟩
theorem Alike.more {d : Dk} {r : Rd} {n n' : Nat} (h : Alike d r n) (hn : n ≤ n') (hb : n' ≤ 1000000) : Alike d r n' := ⟨h.sim, h.rok.more hn hb, h.uq, h.may, h.gn⟩
theorem Alike.empty : Alike emptyD ⟨[], []⟩ 0 := ⟨Sim.empty, ⟨by decide, by simp, by simp, by simp, by simp, by simp, by simp, by simp⟩, by unfold Rd.Uq; simp, fun m i h => (by cases h), Gn.empty⟩
section
variable {d : Dk} {r : Rd} {n : Nat}
theorem Gn.create (h : Gn d r) (hs : Sim d r) (nm : List UInt8) : Gn (d.create nm).2 (r.create nm).2 := by
  have hf := hs.file nm
  unfold Dk.create Rd.create
  by_cases hm : mayB nm = true
  · rw [if_pos hm, if_pos hm]
    by_cases h0 : r.file nm = 0
    · rw [if_pos h0] at hf ⊢
      rw [hf]
      intro k y hy hd
      have his : ((⟨r.is ++ [riZ], r.ns⟩ : Rd).has nm (r.is.length + 1)).is = r.is ++ [riZ] := by
        unfold Rd.has; split <;> rfl
      rw [his] at hy
      by_cases hk : k < r.is.length
      · rw [List.getElem?_append_left hk] at hy
        refine h k y hy ?_
        have hd2 : (d.made nm).fs ((k : Int) + 1) = none := hd
        unfold Dk.made at hd2
        rw [Dk.named_fs, if_neg (by rw [hs.no]; omega)] at hd2
        have : d.born.fs ((k : Int) + 1) = d.fs ((k : Int) + 1) := if_neg (by rw [hs.no]; omega)
        rw [← this]; exact hd2
      · rw [List.getElem?_append_right (by omega)] at hy
        have hk0 : k - r.is.length = 0 := by have := (List.getElem?_eq_some_iff.1 hy).1; simp at this; omega
        rw [hk0] at hy
        simp at hy
        rw [← hy]; rfl
    · rw [if_neg h0] at hf ⊢
      rw [hf]; exact h
  · rw [if_neg hm, if_neg hm]; exact h
theorem Gn.edit (h : Gn d r) {k : Nat} (x' : Fl) (y' : Ri) : Gn (d.edit ((k : Int) + 1) x') ⟨r.is.set k y', r.ns⟩ := fun q y hy hd => by
  rw [Dk.edit_fs] at hd
  by_cases e : q = k
  · rw [if_pos (by omega)] at hd; cases hd
  · rw [if_neg (by omega)] at hd
    have hy2 : (r.is.set k y')[q]? = some y := hy
    rw [List.getElem?_set_ne (fun e2 => e e2.symm)] at hy2
    exact h q y hy2 hd
theorem Gn.edits (h : Gn d r) (hs : Sim d r) (hok : d.Ok n) (nm : List UInt8) (f : Fl → Fl) (g : Ri → Ri) : Gn (d.edits nm f).2 (r.edits nm g).2 := by
  by_cases hm : mayB nm = true
  · rcases hs.at_ hok nm with ⟨h0, h1⟩ | ⟨k, x, y, hk, hfl, hx, hy, e1, e2, e3⟩
    · rw [Rd.edits_no hm h0]
      unfold Dk.edits
      rw [if_pos hm, h1]; exact h
    · rw [Rd.edits_of hm hk hy]
      unfold Dk.edits
      rw [if_pos hm, hfl]
      exact h.edit _ _
  · rw [Rd.edits_bad hm]
    unfold Dk.edits
    rw [if_neg hm]; exact h
theorem Gn.append (h : Gn d r) (hs : Sim d r) (hok : d.Ok n) (nm l : List UInt8) : Gn (d.append nm l).2 (r.append nm l).2 := by
  unfold Dk.append Rd.append
  by_cases hm : mayB nm = true
  · rw [if_pos hm, if_pos hm]
    rcases hs.at_ hok nm with ⟨h0, h1⟩ | ⟨k, x, y, hk, hfl, hx, hy, e1, e2, e3⟩
    · rw [h1]
      cases r.is[r.file nm - 1]? with
      | none => exact h
      | some y => simp only; rw [if_pos h0]; exact h
    · rw [hfl, hk, Nat.add_sub_cancel, hy]
      simp only
      rw [if_neg (by omega : ¬ k + 1 = 0), e1]
      by_cases hl : 1048576 < y.b.length + l.length
      · rw [if_pos hl, if_pos hl]; exact h
      · rw [if_neg hl, if_neg hl]
        exact h.edit _ _
  · rw [if_neg hm, if_neg hm]; exact h
theorem Gn.less (h : Gn d r) (nm : List UInt8) (k : Nat) : Gn (d.less nm ((k : Int) + 1)) (r.goes k) := fun q y hy hd => by
  rw [Dk.less_fs] at hd
  have hy2 : (r.is.set k riG)[q]? = some y := hy
  by_cases e : q = k
  · subst e
    have hl := (List.getElem?_eq_some_iff.1 hy2).1
    rw [List.length_set] at hl
    rw [List.getElem?_set_self hl] at hy2
    rw [← Option.some.inj hy2]; rfl
  · rw [if_neg (by omega)] at hd
    rw [List.getElem?_set_ne (fun e2 => e e2.symm)] at hy2
    exact h q y hy2 hd
theorem Gn.remove (h : Gn d r) (hs : Sim d r) (nm : List UInt8) : Gn (d.remove nm).2 (r.remove nm).2 := by
  have hf := hs.file nm
  unfold Dk.remove Rd.remove
  by_cases hm : mayB nm = true
  · rw [if_pos hm, if_pos hm]
    by_cases h0 : r.file nm = 0
    · rw [if_pos h0] at hf ⊢
      rw [hf]; exact h
    · rw [if_neg h0] at hf ⊢
      obtain ⟨k, hk⟩ : ∃ k, r.file nm = k + 1 := ⟨r.file nm - 1, by omega⟩
      rw [hk] at hf
      rw [hf, hk, Nat.add_sub_cancel]
      exact h.less nm k
  · rw [if_neg hm, if_neg hm]; exact h
theorem Gn.rename (h : Gn d r) (hs : Sim d r) (hok : d.Ok n) (old other : List UInt8) : Gn (d.rename old other).2 (r.rename old other).2 := by
  unfold Dk.rename Rd.rename
  by_cases hm : mayB old = true ∧ mayB other = true
  · rw [if_pos (by rw [hm.1, hm.2]; rfl), if_pos hm]
    rcases hs.at_ hok old with ⟨h0, h1⟩ | ⟨k, x, y, hk, hfl, hx, hy, e1, e2, e3⟩
    · rw [h1, if_pos h0]; exact h
    · rw [hfl, if_neg (by omega)]
      simp only
      by_cases hoo : old = other
      · rw [if_pos hoo, if_pos hoo]; exact h
      · rw [if_neg hoo, if_neg hoo, hk]
        have e1 : ∀ (q : Rd) (a : List UInt8) (b : Nat), (q.has a b).is = q.is := fun q a b => by unfold Rd.has; split <;> rfl
        have hfr : Gn (d.freed old other) (r.freed other) := by
          have hf := hs.file other
          unfold Rd.freed
          by_cases h0 : r.file other = 0
          · rw [if_pos h0] at hf ⊢
            intro q z hz hd
            refine h q z hz ?_
            unfold Dk.freed at hd
            simp only at hd
            rw [hf] at hd; exact hd
          · rw [if_neg h0] at hf ⊢
            obtain ⟨q, hq⟩ : ∃ q, r.file other = q + 1 := ⟨r.file other - 1, by omega⟩
            rw [hq] at hf
            rw [hq, Nat.add_sub_cancel]
            intro i z hz hd
            refine h.less other q i z hz ?_
            unfold Dk.freed at hd
            simp only at hd
            rw [hf] at hd; exact hd
        intro q z hz hd
        rw [e1, Rd.unname_is] at hz
        unfold Dk.ren at hd
        rw [Dk.named_fs] at hd
        by_cases e : (q : Int) + 1 = (k : Int) + 1
        · rw [if_pos e] at hd; cases hd
        · rw [if_neg e] at hd; exact hfr q z hz hd
  · rw [if_neg (fun e => hm (by rw [Bool.and_eq_true] at e; exact e)), if_neg hm]; exact h
theorem Alike.create (h : Alike d r n) (hok : d.Ok n) (hb : n + 2 ≤ 1000000) (nm : List UInt8) : (d.create nm).1 = (r.create nm).1 ∧ Alike (d.create nm).2 (r.create nm).2 (n + 2) :=
  ⟨(h.sim.create hok nm).1, (h.sim.create hok nm).2, h.rok.create hb nm, h.uq.create nm, h.may.create nm, h.gn.create h.sim nm⟩
theorem Alike.append (h : Alike d r n) (hok : d.Ok n) (hb : n + 2 ≤ 1000000) (nm l : List UInt8) : (d.append nm l).1 = (r.append nm l).1 ∧ Alike (d.append nm l).2 (r.append nm l).2 (n + 2) :=
  ⟨(h.sim.append hok nm l).1, (h.sim.append hok nm l).2, (h.rok.append nm l).more (by omega) hb, h.uq.append nm l, h.may.append nm l, h.gn.append h.sim hok nm l⟩
theorem Alike.cut (h : Alike d r n) (hok : d.Ok n) (hb : n + 2 ≤ 1000000) (nm : List UInt8) : (d.cut nm).1 = (r.cut nm).1 ∧ Alike (d.cut nm).2 (r.cut nm).2 (n + 2) :=
  ⟨(h.sim.cut hok nm).1, (h.sim.cut hok nm).2, (h.rok.cut (by omega) nm).more (by omega) hb, h.uq.edits nm _, h.may.edits nm _, h.gn.edits h.sim hok nm _ _⟩
theorem Alike.sync (h : Alike d r n) (hok : d.Ok n) (hb : n + 2 ≤ 1000000) (nm : List UInt8) : (d.sync nm).1 = (r.sync nm).1 ∧ Alike (d.sync nm).2 (r.sync nm).2 (n + 2) :=
  ⟨(h.sim.sync hok nm).1, (h.sim.sync hok nm).2, (h.rok.sync nm).more (by omega) hb, h.uq.edits nm _, h.may.edits nm _, h.gn.edits h.sim hok nm _ _⟩
theorem Alike.remove (h : Alike d r n) (hok : d.Ok n) (hb : n + 2 ≤ 1000000) (nm : List UInt8) : (d.remove nm).1 = (r.remove nm).1 ∧ Alike (d.remove nm).2 (r.remove nm).2 (n + 2) :=
  ⟨(h.sim.remove hok nm).1, (h.sim.remove hok nm).2, (h.rok.remove nm).more (by omega) hb, h.uq.remove nm, h.may.remove nm, h.gn.remove h.sim nm⟩
theorem Alike.rename (h : Alike d r n) (hok : d.Ok n) (hb : n + 2 ≤ 1000000) (old other : List UInt8) : (d.rename old other).1 = (r.rename old other).1 ∧ Alike (d.rename old other).2 (r.rename old other).2 (n + 2) :=
  ⟨(h.sim.rename hok old other).1, (h.sim.rename hok old other).2, (h.rok.rename (by omega) old other).more (by omega) hb, h.uq.rename old other, h.may.rename old other, h.gn.rename h.sim hok old other⟩
theorem Rd.Ok.crash (h : r.Ok n) (hb : n + 1 ≤ 1000000) (keep : List Int) : (r.crash keep).Ok (n + 1) := by
  have key : ∀ j (k : Nat) (y : Ri), (rcD keep r.is j).1[k]? = some y → ∃ y0 ∈ r.is, y.b.length ≤ y0.b.length ∧ y.la ≤ y.b.length ∧ y.ge ≤ y0.ge + (if k < j then 1 else 0) := by
    intro j
    induction j with
    | zero =>
      intro k y hy
      have hy2 : r.is[k]? = some y := hy
      exact ⟨y, List.mem_of_getElem? hy2, Nat.le_refl _, h.la y (List.mem_of_getElem? hy2), by simp⟩
    | succ j ih =>
      intro k y hy
      rw [rcD_succ] at hy
      unfold rcS at hy
      cases hx : (rcD keep r.is j).1[j]? with
      | none =>
        rw [hx] at hy
        obtain ⟨y0, a, b, c, d⟩ := ih k y hy
        refine ⟨y0, a, b, c, Nat.le_trans d ?_⟩
        split <;> split <;> omega
      | some x =>
        rw [hx] at hy
        simp only at hy
        by_cases e : k = j
        · subst e
          rw [List.getElem?_set_self (List.getElem?_eq_some_iff.1 hx).1] at hy
          obtain rfl := Option.some.inj hy
          obtain ⟨y0, a, b, c, d⟩ := ih k x hx
          rw [if_neg (Nat.lt_irrefl _)] at d
          refine ⟨y0, a, ?_, ?_, ?_⟩
          · unfold riF; split
            · exact b
            · simp only; rw [List.length_take]; omega
          · unfold riF; split
            · exact c
            · exact Nat.le_refl _
          · rw [if_pos (by omega)]
            unfold riF; split
            · omega
            · simp only; split <;> omega
        · rw [List.getElem?_set_ne (fun e2 => e e2.symm)] at hy
          obtain ⟨y0, a, b, c, d⟩ := ih k y hy
          refine ⟨y0, a, b, c, Nat.le_trans d ?_⟩
          split <;> split <;> omega
  have hl := (rcD_facts keep r.is r.is.length).1
  have hat : ∀ y ∈ (r.crash keep).is, ∃ y0 ∈ r.is, y.b.length ≤ y0.b.length ∧ y.la ≤ y.b.length ∧ y.ge ≤ y0.ge + 1 := fun y hy => by
    obtain ⟨k, hk⟩ := List.getElem?_of_mem hy
    obtain ⟨y0, a, b, c, d⟩ := key r.is.length k y hk
    exact ⟨y0, a, b, c, Nat.le_trans d (by split <;> omega)⟩
  refine ⟨hb, Nat.le_succ_of_le h.nl, ?_, fun x hx => Nat.le_succ_of_le (h.se x hx), fun x hx => ?_, fun y hy => ?_, fun y hy => ?_, fun y hy => ?_⟩
  · show (rcD keep r.is r.is.length).1.length ≤ _
    rw [hl]; exact Nat.le_succ_of_le h.il
  · show _ ≤ (rcD keep r.is r.is.length).1.length
    rw [hl]; exact h.ino x hx
  · obtain ⟨y0, a, b, c, d⟩ := hat y hy
    exact Nat.le_trans b (h.bl y0 a)
  · obtain ⟨y0, a, b, c, d⟩ := hat y hy
    exact c
  · obtain ⟨y0, a, b, c, d⟩ := hat y hy
    exact Nat.le_trans d (Nat.succ_le_succ (h.ge y0 a))
theorem Alike.crash (h : Alike d r n) (hb : n + 1 ≤ 1000000) (keep : List Int) {ss : List Int} (hs : ss.Pairwise (· < ·)) (hm : ∀ i, i ∈ ss ↔ (d.fs i).isSome = true) : Alike (crashD keep ss d ss.length).1 (r.crash keep) (n + 1) := by
  obtain ⟨h1, h2⟩ := h.sim.crash h.gn keep hs hm
  refine ⟨h1, h.rok.crash hb keep, h.uq, fun m i hi => ?_, h2⟩
  rw [(crash_at (keep := keep) (d := d) hs ss.length (Nat.le_refl _)).ns] at hi
  exact h.may m i hi
end
end Go.Proofs.YtlojmmcagglpoaaGreat
