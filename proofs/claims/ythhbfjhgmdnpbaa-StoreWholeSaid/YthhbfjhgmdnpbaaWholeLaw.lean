/- THE PLAIN LAW of StoreWhole: what was written last whole, and another file, through steps and crashes. -/
import Derived.Test.YthhbfjhgmdnpbaaCrashLaw
import Derived.Test.YthhbfjhgmdnpbaaStepsLaw
namespace Go.Proofs.Ythhbfjhgmdnpbaa
open Go.RowKit Go.Maps
def nOther : List UInt8 := [111, 116, 104, 101, 114]
theorem okOt : okName nOther := by unfold okName; decide
theorem mayOt : mayB nOther = true := mayB_of (by decide)
theorem neON : nOther ≠ nName := by decide
theorem neOS : nOther ≠ nScr := by decide
theorem crash_ns (keep : List Int) : ∀ (l : List Int) (s : Dk × Nat), (l.foldl (crashS keep) s).1.ns = s.1.ns
  | [], _ => rfl
  | i :: l, s => by
    rw [List.foldl_cons, crash_ns keep l]
    unfold crashS
    cases s.1.fs i <;> rfl
theorem crash_fs (keep : List Int) : ∀ (l : List Int) (s : Dk × Nat) (i : Int) (x : Fl), s.1.fs i = some x → x.la = x.by_.length → (l.foldl (crashS keep) s).1.fs i = some x
  | [], _, _, _, h, _ => h
  | q :: l, s, i, x, h, hx => by
    rw [List.foldl_cons]
    refine crash_fs keep l _ i x ?_ hx
    unfold crashS
    cases hq : s.1.fs q with
    | none => exact h
    | some y =>
      show (s.1.edit q _).fs i = some x
      rw [Dk.edit_fs]
      by_cases e : i = q
      · rw [if_pos e]
        rw [e, hq] at h
        obtain rfl := Option.some.inj h
        unfold crashF
        rw [if_pos hx]
      · rw [if_neg e]; exact h
theorem crash_file {d : Dk} {n : Nat} (hd : d.Ok n) {nm : List UInt8} {i : Int} {x : Fl} (hf : d.file nm = some (i, x)) (hx : x.la = x.by_.length) (keep ss : List Int) (j : Nat) : (crashD keep ss d j).1.file nm = some (i, x) := by
  obtain ⟨h1, h2, _⟩ := hd.of_file hf
  rw [Dk.file_eq]
  have h3 : (crashD keep ss d j).1.ns = d.ns := crash_ns keep _ _
  have h4 : (crashD keep ss d j).1.fs i = some x := crash_fs keep _ _ i x h2 hx
  rw [h3, h1]
  simp [h4]
theorem crash_none {d : Dk} {n : Nat} (hd : d.Ok n) {nm : List UInt8} (hf : d.file nm = none) (keep ss : List Int) (j : Nat) : (crashD keep ss d j).1.file nm = none := by
  rw [Dk.file_eq]
  have h3 : (crashD keep ss d j).1.ns = d.ns := crash_ns keep _ _
  rw [h3, hd.none_file hf]; rfl
/-- what the law keeps -/
structure Inv (d : Dk) (now other : List UInt8) (is : Bool) : Prop where
  yes : is = true → ∃ i x, d.file nName = some (i, x) ∧ x.by_ = now ∧ x.la = x.by_.length
  no : is = false → d.file nName = none ∧ now = []
  ot : ∃ i x, d.file nOther = some (i, x) ∧ x.by_ = other ∧ x.la = x.by_.length
section
variable {d d0 : Dk} {n : Nat} {now other l : List UInt8} {is : Bool} {k : Nat}
theorem Inv.load (h : Inv d now other is) : d.load nName = (now, if is = true then 0 else 141) := by
  cases is with
  | true =>
    obtain ⟨i, x, h1, h2, _⟩ := h.yes rfl
    rw [Dk.load_ok mayNm h1, h2]; rfl
  | false =>
    obtain ⟨h1, h2⟩ := h.no rfl
    rw [Dk.load_no mayNm h1, h2]; rfl
theorem Inv.loadO (h : Inv d now other is) : d.load nOther = (other, 0) := by
  obtain ⟨i, x, h1, h2, _⟩ := h.ot
  rw [Dk.load_ok mayOt h1, h2]
theorem Inv.wrote (h : Inv d0 now other is) (hw : Wrote k d0 d nName nScr l) (hk : k < 4) : Inv d now other is := by
  refine ⟨fun e => ?_, fun e => ?_, ?_⟩
  · rw [hw.own hk]; exact h.yes e
  · rw [hw.own hk]; exact h.no e
  · rw [hw.oth nOther neON neOS]; exact h.ot
theorem Inv.all (h : Inv d0 now other is) (hw : Wrote 4 d0 d nName nScr l) : Inv d l other true ∧ d.file nScr = none := by
  obtain ⟨h1, i, x, h2, h3, h4⟩ := hw.all rfl
  refine ⟨⟨fun _ => ⟨i, x, h2, h3, by rw [h4, h3]⟩, fun e => (by cases e), ?_⟩, h1⟩
  rw [hw.oth nOther neON neOS]; exact h.ot
theorem Inv.crash (h : Inv d now other is) (hd : d.Ok n) (keep ss : List Int) (j : Nat) : Inv (crashD keep ss d j).1 now other is := by
  refine ⟨fun e => ?_, fun e => ?_, ?_⟩
  · obtain ⟨i, x, h1, h2, h3⟩ := h.yes e
    exact ⟨i, x, crash_file hd h1 h3 keep ss j, h2, h3⟩
  · obtain ⟨h1, h2⟩ := h.no e
    exact ⟨crash_none hd h1 keep ss j, h2⟩
  · obtain ⟨i, x, h1, h2, h3⟩ := h.ot
    exact ⟨i, x, crash_file hd h1 h3 keep ss j, h2, h3⟩
end
end Go.Proofs.Ythhbfjhgmdnpbaa
