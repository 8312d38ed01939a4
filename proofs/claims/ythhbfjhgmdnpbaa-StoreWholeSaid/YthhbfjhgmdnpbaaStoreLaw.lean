/- THE PLAIN LAW of a writing: four steps; what each leaves. Nothing of the program's code is used here. -/
import Derived.Test.YthhbfjhgmdnpbaaDiskFile
import Derived.Test.YthhbfjhgmdnpbaaStoreStep
namespace Go.Proofs.Ythhbfjhgmdnpbaa
open Go.RowKit Go.Maps
theorem Dk.load_ok {d : Dk} {nm : List UInt8} (hm : mayB nm = true) {i : Int} {x : Fl} (hf : d.file nm = some (i, x)) : d.load nm = (x.by_, 0) := by unfold Dk.load; rw [if_pos hm, hf]
theorem Dk.load_no {d : Dk} {nm : List UInt8} (hm : mayB nm = true) (hf : d.file nm = none) : d.load nm = ([], 141) := by unfold Dk.load; rw [if_pos hm, hf]
theorem kept_zero (x : Fl) : (x.kept 0).by_ = [] ∧ (x.kept 0).nm = x.nm := by
  unfold Fl.kept
  by_cases h : 0 < x.by_.length
  · rw [if_pos h]; exact ⟨by simp, rfl⟩
  · rw [if_neg h]; exact ⟨List.eq_nil_of_length_eq_zero (by show x.by_.length = 0; omega), rfl⟩
/-- k steps of a writing of l are done on a disk that was d0 -/
structure Wrote (k : Nat) (d0 d : Dk) (nm sc l : List UInt8) : Prop where
  oth : ∀ m, m ≠ nm → m ≠ sc → d.file m = d0.file m
  own : k < 4 → d.file nm = d0.file nm
  ownS : k < 4 → d.se nm = d0.se nm
  one : 1 ≤ k → k < 4 → ∃ i x, d.file sc = some (i, x) ∧ x.by_ = (if k = 1 then [] else l) ∧ (k = 3 → x.la = l.length)
  all : k = 4 → d.file sc = none ∧ ∃ i x, d.file nm = some (i, x) ∧ x.by_ = l ∧ x.la = l.length
def wrAt (nm sc l : List UInt8) (k : Nat) : Wr := if k = 4 then ⟨nm, sc, [], false, 4⟩ else ⟨nm, sc, l, true, k⟩
theorem wrote_step {k n : Nat} {d0 d : Dk} {nm sc l : List UInt8} (hd : d.Ok n) (h : Wrote k d0 d nm sc l) (hm : mayB nm = true) (hm2 : mayB sc = true) (hne : nm ≠ sc) (hl : l.length ≤ 1048576) (hk : k < 4) :
    ((wrAt nm sc l k).step d).1 = (decide (k = 3), 0) ∧ ((wrAt nm sc l k).step d).2.2 = wrAt nm sc l (k + 1) ∧ Wrote (k + 1) d0 ((wrAt nm sc l k).step d).2.1 nm sc l := by
  have hw : wrAt nm sc l k = ⟨nm, sc, l, true, k⟩ := by unfold wrAt; rw [if_neg (by omega)]
  have key : ∀ d', (wrAt nm sc l k).op d = (0, d') → ((wrAt nm sc l k).step d).1 = (decide (k = 3), 0) ∧ ((wrAt nm sc l k).step d).2.2 = wrAt nm sc l (k + 1) ∧ ((wrAt nm sc l k).step d).2.1 = d' := fun d' e => by
    unfold Wr.step
    rw [e, hw]
    simp only [if_true]
    refine ⟨by simp, ?_, trivial⟩
    unfold wrAt
    by_cases h3 : k = 3
    · rw [if_pos (.inr h3), h3]; rfl
    · rw [if_neg (by simpa using h3), if_neg (by omega)]
  rcases (by omega : k = 0 ∨ k = 1 ∨ k = 2 ∨ k = 3) with rfl | rfl | rfl | rfl
  · cases hf : d.file sc with
    | none =>
      have hns := hd.none_file hf
      have hop : (wrAt nm sc l 0).op d = (0, d.made sc) := by
        rw [hw]
        show (if (d.stat sc).2 = 0 then d.cut sc else d.create sc) = _
        rw [Dk.stat_no hm2 hf, if_neg (by decide), Dk.create_ok sc hm2 hns]
      obtain ⟨a, b, c⟩ := key _ hop
      refine ⟨a, b, ?_⟩
      rw [c]
      have hfm := hd.file_made hns
      refine ⟨fun m h1 h2 => by rw [hfm, if_neg h2]; exact h.oth m h1 h2, fun _ => by rw [hfm, if_neg hne]; exact h.own (by omega), fun _ => ?_, fun _ _ => ⟨_, _, by rw [hfm, if_pos rfl], rfl, by omega⟩, by omega⟩
      rw [← h.ownS (by omega)]
      unfold Dk.made
      rw [Dk.named_se, if_neg hne]; rfl
    | some ix =>
      obtain ⟨i, x⟩ := ix
      have hop : (wrAt nm sc l 0).op d = (0, d.edit i (x.kept 0)) := by
        rw [hw]
        show (if (d.stat sc).2 = 0 then d.cut sc else d.create sc) = _
        rw [Dk.stat_ok hm2 hf, if_pos rfl]
        exact Dk.edits_ok hm2 hf _
      obtain ⟨a, b, c⟩ := key _ hop
      refine ⟨a, b, ?_⟩
      rw [c]
      have hfm := hd.file_edit hf (x.kept 0)
      exact ⟨fun m h1 h2 => by rw [hfm, if_neg h2]; exact h.oth m h1 h2, fun _ => by rw [hfm, if_neg hne]; exact h.own (by omega), fun _ => h.ownS (by omega), fun _ _ => ⟨_, _, by rw [hfm, if_pos rfl], (kept_zero x).1, by omega⟩, by omega⟩
  · obtain ⟨i, x, hf, hx, _⟩ := h.one (by omega) (by omega)
    rw [if_pos rfl] at hx
    have hop : (wrAt nm sc l 1).op d = (0, d.app i x l) := by
      rw [hw]
      exact Dk.append_ok hm2 hf (by rw [hx]; simpa using hl)
    obtain ⟨a, b, c⟩ := key _ hop
    refine ⟨a, b, ?_⟩
    rw [c]
    have hfm := hd.file_app hf l
    exact ⟨fun m h1 h2 => by rw [hfm, if_neg h2]; exact h.oth m h1 h2, fun _ => by rw [hfm, if_neg hne]; exact h.own (by omega), fun _ => h.ownS (by omega), fun _ _ => ⟨_, _, by rw [hfm, if_pos rfl], by rw [hx]; rfl, by omega⟩, by omega⟩
  · obtain ⟨i, x, hf, hx, _⟩ := h.one (by omega) (by omega)
    rw [if_neg (by omega)] at hx
    have hop : (wrAt nm sc l 2).op d = (0, d.edit i { x with la := x.by_.length }) := by
      rw [hw]
      exact Dk.edits_ok hm2 hf _
    obtain ⟨a, b, c⟩ := key _ hop
    refine ⟨a, b, ?_⟩
    rw [c]
    have hfm := hd.file_edit hf { x with la := x.by_.length }
    exact ⟨fun m h1 h2 => by rw [hfm, if_neg h2]; exact h.oth m h1 h2, fun _ => by rw [hfm, if_neg hne]; exact h.own (by omega), fun _ => h.ownS (by omega), fun _ _ => ⟨_, _, by rw [hfm, if_pos rfl], by rw [if_neg (by omega)]; exact hx, fun _ => by show x.by_.length = _; rw [hx]⟩, by omega⟩
  · obtain ⟨i, x, hf, hx, hla⟩ := h.one (by omega) (by omega)
    rw [if_neg (by omega)] at hx
    have hop : (wrAt nm sc l 3).op d = (0, d.ren sc nm i x) := by
      rw [hw]
      exact Dk.rename_ok hm2 hm (fun e => hne e.symm) hf
    obtain ⟨a, b, c⟩ := key _ hop
    refine ⟨a, b, ?_⟩
    rw [c]
    have hfm := hd.file_ren (fun e => hne e.symm) hf
    exact ⟨fun m h1 h2 => by rw [hfm, if_neg h1, if_neg h2]; exact h.oth m h1 h2, by omega, by omega, by omega, fun _ => ⟨by rw [hfm, if_neg (fun e => hne e.symm), if_pos rfl], i, { x with nm := nm }, by rw [hfm, if_pos rfl], hx, hla rfl⟩⟩
theorem Wrote.zero (d : Dk) (nm sc l : List UInt8) : Wrote 0 d d nm sc l := ⟨fun _ _ _ => rfl, fun _ => rfl, fun _ => rfl, by omega, by omega⟩
end Go.Proofs.Ythhbfjhgmdnpbaa
