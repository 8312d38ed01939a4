/- THE PLAIN LAW of the disk: what a name has, behind each call. Nothing of the program's code is used here. -/
import Derived.Test.YtlojmmcagglpoaaZDiskC
namespace Go.Proofs.Ytlojmmcagglpoaa
open Go.RowKit Go.Maps
theorem mayB_of {l : List UInt8} (h : (decide (1 ≤ l.length) && decide (l.length ≤ 32) && l.all (fun c => c != 0 && c != 10)) = true) : mayB l = true := by
  simp only [Bool.and_eq_true, decide_eq_true_iff, List.all_eq_true, bne_iff_ne] at h
  unfold mayB
  rw [if_pos]
  exact ⟨h.1.1, h.1.2, fun c hc e => e.elim (h.2 c hc).1 (h.2 c hc).2⟩
section
variable {d : Dk} {n : Nat}
theorem Dk.Ok.inj (h : d.Ok n) {a b : List UInt8} {i : Int} (ha : d.ns a = some i) (hb : d.ns b = some i) : a = b := by
  obtain ⟨x, h1, h2⟩ := h.at_ a i ha
  obtain ⟨y, h3, h4⟩ := h.at_ b i hb
  rw [h1] at h3
  obtain rfl := Option.some.inj h3
  exact h2.symm.trans h4
theorem Dk.Ok.of_file (h : d.Ok n) {nm : List UInt8} {i : Int} {x : Fl} (hf : d.file nm = some (i, x)) : d.ns nm = some i ∧ d.fs i = some x ∧ x.nm = nm := by
  unfold Dk.file at hf
  cases hi : d.ns nm with
  | none => rw [hi] at hf; cases hf
  | some j =>
    rw [hi] at hf
    obtain ⟨y, hy, hn⟩ := h.at_ nm j hi
    rw [Option.bind_some, hy, Option.map_some] at hf
    injection hf with hf
    injection hf with h1 h2
    subst h1 h2
    exact ⟨rfl, hy, hn⟩
theorem Dk.file_eq (d : Dk) (nm : List UInt8) : d.file nm = (d.ns nm).bind fun i => (d.fs i).map fun x => (i, x) := rfl
theorem Dk.Ok.none_file (h : d.Ok n) {nm : List UInt8} (hf : d.file nm = none) : d.ns nm = none := by
  cases hi : d.ns nm with
  | none => rfl
  | some j =>
    obtain ⟨y, _, _, hy⟩ := h.file hi
    rw [hy] at hf; cases hf
open Classical in
theorem Dk.Ok.file_edit (h : d.Ok n) {nm : List UInt8} {i : Int} {x : Fl} (hf : d.file nm = some (i, x)) (y : Fl) (m : List UInt8) : (d.edit i y).file m = if m = nm then some (i, y) else d.file m := by
  obtain ⟨h1, h2, h3⟩ := h.of_file hf
  rw [Dk.file_eq, show (d.edit i y).ns m = d.ns m from rfl]
  by_cases e : m = nm
  · rw [if_pos e, e, h1, Option.bind_some, Dk.edit_fs, if_pos rfl]; rfl
  · rw [if_neg e, Dk.file_eq]
    cases hm : d.ns m with
    | none => rfl
    | some j =>
      rw [Option.bind_some, Option.bind_some, Dk.edit_fs, if_neg (fun e2 => e (h.inj hm (by rw [e2]; exact h1)))]
open Classical in
theorem Dk.Ok.file_app (h : d.Ok n) {nm : List UInt8} {i : Int} {x : Fl} (hf : d.file nm = some (i, x)) (l m : List UInt8) : (d.app i x l).file m = if m = nm then some (i, { x with by_ := x.by_ ++ l }) else d.file m := h.file_edit hf _ m
open Classical in
theorem Dk.Ok.file_made (h : d.Ok n) {nm : List UInt8} (_hf : d.ns nm = none) (m : List UInt8) : (d.made nm).file m = if m = nm then some ((d.no : Int) + 1, ⟨nm, [], 0, 0⟩) else d.file m := by
  rw [Dk.file_eq]
  unfold Dk.made
  rw [Dk.named_ns]
  by_cases e : m = nm
  · rw [if_pos e, if_pos e, Option.bind_some, Dk.named_fs, if_pos rfl]; rfl
  · rw [if_neg e, if_neg e, Dk.file_eq, show d.born.ns m = d.ns m from rfl]
    cases hm : d.ns m with
    | none => rfl
    | some j =>
      have := (h.int m j hm).2
      rw [Option.bind_some, Option.bind_some, Dk.named_fs, if_neg (by omega)]
      show ((if j = (d.no : Int) + 1 then _ else d.fs j).map _) = _
      rw [if_neg (by omega)]
open Classical in
theorem Dk.Ok.file_ren (h : d.Ok n) {old other : List UInt8} (_hne : old ≠ other) {i : Int} {x : Fl} (hf : d.file old = some (i, x)) (m : List UInt8) : (d.ren old other i x).file m = if m = other then some (i, { x with nm := other }) else if m = old then none else d.file m := by
  obtain ⟨h1, h2, h3⟩ := h.of_file hf
  rw [Dk.file_eq]
  unfold Dk.ren
  rw [Dk.named_ns]
  by_cases e : m = other
  · rw [if_pos e, if_pos e, Option.bind_some, Dk.named_fs, if_pos rfl]; rfl
  · rw [if_neg e, if_neg e, show (d.freed old other).ns m = delM d.ns old m from rfl]
    by_cases e2 : m = old
    · rw [if_pos e2, e2, delM_same]; rfl
    · rw [if_neg e2, delM_other _ e2, Dk.file_eq]
      cases hm : d.ns m with
      | none => rfl
      | some j =>
        rw [Option.bind_some, Option.bind_some, Dk.named_fs, if_neg (fun e3 => e2 (h.inj hm (by rw [e3]; exact h1))), Dk.freed_fs, if_neg (fun e3 => e (h.inj hm e3))]
open Classical in
theorem Dk.Ok.file_less (h : d.Ok n) {nm : List UInt8} {i : Int} (hf : d.ns nm = some i) (m : List UInt8) : (d.less nm i).file m = if m = nm then none else d.file m := by
  rw [Dk.file_eq, Dk.less_ns]
  by_cases e : m = nm
  · rw [if_pos e, if_pos e]; rfl
  · rw [if_neg e, if_neg e, Dk.file_eq]
    cases hm : d.ns m with
    | none => rfl
    | some j => rw [Option.bind_some, Option.bind_some, Dk.less_fs, if_neg (fun e2 => e (h.inj hm (by rw [e2]; exact hf)))]
/-! ### the calls -/
theorem Dk.create_ok (nm : List UInt8) (hm : mayB nm = true) (hf : d.ns nm = none) : d.create nm = (0, d.made nm) := by unfold Dk.create; rw [if_pos hm, hf]
theorem Dk.append_ok {nm : List UInt8} (hm : mayB nm = true) {i : Int} {x : Fl} (hf : d.file nm = some (i, x)) {l : List UInt8} (hl : x.by_.length + l.length ≤ 1048576) : d.append nm l = (0, d.app i x l) := by unfold Dk.append; rw [if_pos hm, hf]; simp only; rw [if_neg (by omega)]
theorem Dk.edits_ok {nm : List UInt8} (hm : mayB nm = true) {i : Int} {x : Fl} (hf : d.file nm = some (i, x)) (f : Fl → Fl) : d.edits nm f = (0, d.edit i (f x)) := by unfold Dk.edits; rw [if_pos hm, hf]
theorem Dk.rename_ok {old other : List UInt8} (hm : mayB old = true) (hm2 : mayB other = true) (hne : old ≠ other) {i : Int} {x : Fl} (hf : d.file old = some (i, x)) : d.rename old other = (0, d.ren old other i x) := by unfold Dk.rename; rw [hm, hm2, if_pos (show (true && true) = true from rfl), hf]; simp only; rw [if_neg hne]
theorem Dk.stat_ok {nm : List UInt8} (hm : mayB nm = true) {i : Int} {x : Fl} (hf : d.file nm = some (i, x)) : d.stat nm = (statV i ((d.se nm).getD 0) (x.ge : Int) (x.by_.length : Int), 0) := by unfold Dk.stat; rw [if_pos hm, hf]
theorem Dk.stat_no {nm : List UInt8} (hm : mayB nm = true) (hf : d.file nm = none) : d.stat nm = (statV 0 0 0 0, 141) := by unfold Dk.stat; rw [if_pos hm, hf]
end
end Go.Proofs.Ytlojmmcagglpoaa
