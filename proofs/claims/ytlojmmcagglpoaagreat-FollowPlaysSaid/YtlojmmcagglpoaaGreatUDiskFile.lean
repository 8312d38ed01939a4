/- THE PLAIN LAW of the disk: what a name has, behind each call. Nothing of the program's code is used here. -/
import Derived.Test.YtlojmmcagglpoaaGreatUDiskC
namespace Go.Proofs.YtlojmmcagglpoaaGreat
open Go.RowKit Go.Maps
theorem mayB_of {l : List UInt8} (h : (decide (1 ≤ l.length) && decide (l.length ≤ 32) && l.all (fun c => c != 0 && c != 10)) = true) : mayB l = true := by
  simp only [Bool.and_eq_true, decide_eq_true_iff, List.all_eq_true, bne_iff_ne] at h
  unfold mayB
  rw [if_pos]
  exact ⟨h.1.1, h.1.2, fun c hc e => e.elim (h.2 c hc).1 (h.2 c hc).2⟩
section
variable {d : Dk} {n : Nat}
theorem Dk.Ok.inj (h : d.Ok n) {a b : List UInt8} {i : Int} (ha : d.ns a = some i) (hb : d.ns b = some i) : a = b := by
  obtain ⟨x, h1, h2⟩ := h.at_ a i ha
  obtain ⟨y, h3, h4⟩ := h.at_ b i hb
  rw [h1] at h3
  obtain rfl := Option.some.inj h3
  exact h2.symm.trans h4
theorem Dk.Ok.of_file (h : d.Ok n) {nm : List UInt8} {i : Int} {x : Fl} (hf : d.file nm = some (i, x)) : d.ns nm = some i ∧ d.fs i = some x ∧ x.nm = nm := by
  unfold Dk.file at hf
  cases hi : d.ns nm with
  | none => rw [hi] at hf; cases hf
  | some j =>
    rw [hi] at hf
    obtain ⟨y, hy, hn⟩ := h.at_ nm j hi
    rw [Option.bind_some, hy, Option.map_some] at hf
    injection hf with hf
    injection hf with h1 h2
    subst h1 h2
    exact ⟨rfl, hy, hn⟩
open Classical in
open Classical in
open Classical in
open Classical in
open Classical in
/-! ### the calls -/
theorem Dk.create_ok (nm : List UInt8) (hm : mayB nm = true) (hf : d.ns nm = none) : d.create nm = (0, d.made nm) := by unfold Dk.create; rw [if_pos hm, hf]
theorem Dk.append_ok {nm : List UInt8} (hm : mayB nm = true) {i : Int} {x : Fl} (hf : d.file nm = some (i, x)) {l : List UInt8} (hl : x.by_.length + l.length ≤ 1048576) : d.append nm l = (0, d.app i x l) := by unfold Dk.append; rw [if_pos hm, hf]; simp only; rw [if_neg (by omega)]
end
end Go.Proofs.YtlojmmcagglpoaaGreat
