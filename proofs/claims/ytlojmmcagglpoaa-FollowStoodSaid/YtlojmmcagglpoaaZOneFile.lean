/- THE PLAIN LAW of a disk with one file: what the first, fixed facts of the laws stand on. Nothing of the program's code is used here. -/
import Derived.Test.YtlojmmcagglpoaaZDiskFile
import Derived.Test.YtlojmmcagglpoaaZFwLaw
namespace Go.Proofs.Ytlojmmcagglpoaa
open Go.RowKit Go.Maps
/-- one file x of inode 1 with the name nm; us: the names that ever came, each once -/
structure F1 (d : Dk) (nm : List UInt8) (x : Fl) (us : List (List UInt8)) : Prop where
  fs : ∀ i, d.fs i = if i = 1 then some x else none
  ns1 : d.ns nm = some 1
  ns0 : ∀ m, m ≠ nm → d.ns m = none
  nmx : x.nm = nm
  se : ∀ m, d.se m = if m ∈ us then some 1 else none
  mem : nm ∈ us
section
variable {d : Dk} {nm : List UInt8} {x : Fl} {us : List (List UInt8)}
theorem F1.made (nm : List UInt8) : F1 (emptyD.made nm) nm ⟨nm, [], 0, 0⟩ [nm] := by
  refine ⟨fun i => ?_, by unfold Dk.made; rw [Dk.named_ns, if_pos rfl]; rfl, fun m hm => by unfold Dk.made; rw [Dk.named_ns, if_neg hm]; rfl, rfl, fun m => ?_, by simp⟩
  · unfold Dk.made
    rw [Dk.named_fs]
    by_cases h : i = 1
    · rw [if_pos h, if_pos (by rw [h]; rfl)]
    · rw [if_neg h, if_neg (fun e => h (by rw [e]; rfl))]
      show (if i = ((emptyD.no : Int)) + 1 then some (⟨[], [], 0, 0⟩ : Fl) else none) = none
      rw [if_neg (fun e => h (by rw [e]; rfl))]
  · unfold Dk.made
    rw [Dk.named_se]
    by_cases h : m = nm
    · rw [if_pos h, if_pos (by rw [h]; simp)]; rfl
    · rw [if_neg h, if_neg (by simp [h])]; rfl
theorem F1.edit (h : F1 d nm x us) {y : Fl} (hy : y.nm = nm) : F1 (d.edit 1 y) nm y us :=
  ⟨fun i => by
    rw [Dk.edit_fs]
    by_cases e : i = 1
    · rw [if_pos e, if_pos e]
    · rw [if_neg e, if_neg e, h.fs, if_neg e], h.ns1, h.ns0, hy, h.se, h.mem⟩
theorem F1.app (h : F1 d nm x us) (l : List UInt8) : F1 (d.app 1 x l) nm { x with by_ := x.by_ ++ l } us := h.edit h.nmx
theorem F1.ren (h : F1 d nm x us) {other : List UInt8} (hne : nm ≠ other) (hu : other ∉ us) : F1 (d.ren nm other 1 x) other { x with nm := other } (other :: us) := by
  have hf : (d.freed nm other).fs = d.fs := by
    unfold Dk.freed
    simp only
    rw [h.ns0 other hne.symm]
  refine ⟨fun i => ?_, by unfold Dk.ren; rw [Dk.named_ns, if_pos rfl], fun m hm => ?_, rfl, fun m => ?_, by simp⟩
  · unfold Dk.ren
    rw [Dk.named_fs, hf, h.fs]
    by_cases e : i = 1
    · rw [if_pos e, if_pos e]
    · rw [if_neg e, if_neg e, if_neg e]
  · unfold Dk.ren
    rw [Dk.named_ns, if_neg hm]
    show delM d.ns nm m = none
    by_cases e : m = nm
    · rw [e, delM_same]
    · rw [delM_other _ e, h.ns0 m e]
  · unfold Dk.ren
    rw [Dk.named_se]
    show (if m = other then some ((d.se other).getD 0 + 1) else d.se m) = _
    by_cases e : m = other
    · rw [if_pos e, if_pos (by rw [e]; simp), h.se, if_neg hu]; rfl
    · rw [if_neg e, h.se]
      by_cases e2 : m ∈ us
      · rw [if_pos e2, if_pos (List.mem_cons_of_mem _ e2)]
      · rw [if_neg e2, if_neg (by simp [e, e2])]
theorem F1.file (h : F1 d nm x us) : d.file nm = some (1, x) := by
  unfold Dk.file
  rw [h.ns1, Option.bind_some, h.fs, if_pos rfl]; rfl
theorem F1.ser (h : F1 d nm x us) : (d.se nm).getD 0 = 1 := by rw [h.se, if_pos h.mem]; rfl
theorem F1.inode (h : F1 d nm x us) : d.inode 1 = (statV 1 1 (x.ge : Int) (x.by_.length : Int), 0) := by
  unfold Dk.inode
  rw [h.fs, if_pos rfl]
  simp only
  rw [h.nmx, h.ser]
theorem F1.stat (h : F1 d nm x us) (hm : mayB nm = true) : d.stat nm = (statV 1 1 (x.ge : Int) (x.by_.length : Int), 0) := by rw [Dk.stat_ok hm h.file, h.ser]
theorem F1.names (h : F1 d nm x us) {ss : List (List UInt8)} (hs : ss.Nodup) (hm : ∀ q, q ∈ ss ↔ (d.ns q).isSome = true) : ss = [nm] := by
  have h1 : nm ∈ ss := (hm nm).2 (by rw [h.ns1]; rfl)
  have h2 : ∀ q, q ∈ ss → q = nm := fun q hq => by
    rcases Classical.em (q = nm) with e | e
    · exact e
    · have := (hm q).1 hq; rw [h.ns0 q e] at this; cases this
  match ss, hs, h1, h2 with
  | [a], _, _, h2 => rw [h2 a (by simp)]
  | a :: b :: r, hs, _, h2 =>
    have ea := h2 a (by simp)
    have eb := h2 b (by simp)
    rw [ea, eb] at hs
    simp at hs
theorem F1.crash (h : F1 d nm x us) {keep ss : List Int} (hs : ss.Pairwise (· < ·)) (hm : ∀ i, i ∈ ss ↔ (d.fs i).isSome = true) : F1 (crashD keep ss d ss.length).1 nm (crashF keep 0 x) us := by
  have hc := crash_all (keep := keep) hs hm
  have hl : ss.length ≤ 1 := by
    have h2 : ∀ q, q ∈ ss → q = 1 := fun q hq => by
      rcases Classical.em (q = 1) with e | e
      · exact e
      · have := (hm q).1 hq; rw [h.fs, if_neg e] at this; cases this
    match ss, hs, h2 with
    | [], _, _ => simp
    | [a], _, _ => simp
    | a :: b :: r, hs, h2 =>
      have ea := h2 a (by simp)
      have eb := h2 b (by simp)
      have := (List.pairwise_cons.1 hs).1 b (by simp)
      omega
  refine ⟨fun i => ?_, by rw [hc.ns]; exact h.ns1, fun m hm => by rw [hc.ns]; exact h.ns0 m hm, by rw [crashF_nm]; exact h.nmx, fun m => by rw [hc.se]; exact h.se m, h.mem⟩
  by_cases e : i = 1
  · rw [if_pos e]
    obtain ⟨k, hk, h2⟩ := hc.at_ 1 x (by rw [h.fs, if_pos rfl])
    have hk0 : k = 0 := by omega
    rw [e, h2, hk0]
  · rw [if_neg e]
    exact hc.nn i (by rw [h.fs, if_neg e])
end
end Go.Proofs.Ytlojmmcagglpoaa
