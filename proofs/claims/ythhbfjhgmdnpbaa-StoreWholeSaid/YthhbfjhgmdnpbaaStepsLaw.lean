/- THE PLAIN LAW of StoreSteps: what two files ahead of a writing are. -/
import Derived.Test.YthhbfjhgmdnpbaaStoreLaw
namespace Go.Proofs.Ythhbfjhgmdnpbaa
open Go.RowKit Go.Maps
def nName : List UInt8 := [110, 97, 109, 101]
def nScr : List UInt8 := [115, 99, 114, 97, 116, 99, 104]
theorem okNm : okName nName := by unfold okName; decide
theorem okSc : okName nScr := by unfold okName; decide
theorem mayNm : mayB nName = true := mayB_of (by decide)
theorem maySc : mayB nScr = true := mayB_of (by decide)
theorem neNS : nName ≠ nScr := by decide
/-- k of the two names have been looked at; e: whether the first was made -/
structure Pre (k : Nat) (d : Dk) (e : Bool) : Prop where
  nm : (d.file nName).isSome = (decide (1 ≤ k) && e)
  sc : k < 2 → d.file nScr = none
  oth : ∀ m, m ≠ nName → m ≠ nScr → d.file m = none
def nAt (k : Nat) : List UInt8 := if k = 0 then nName else nScr
theorem Pre.zero (e : Bool) : Pre 0 emptyD e := ⟨rfl, fun _ => rfl, fun _ _ _ => rfl⟩
theorem Pre.at_ {k n : Nat} {d : Dk} {e : Bool} (hd : d.Ok n) (h : Pre k d e) (hk : k < 2) : d.ns (nAt k) = none := by
  refine hd.none_file ?_
  unfold nAt
  rcases (by omega : k = 0 ∨ k = 1) with rfl | rfl
  · have := h.nm
    simp at this
    rw [if_pos rfl]; exact this
  · rw [if_neg (by decide)]; exact h.sc (by omega)
theorem okAt (k : Nat) : okName (nAt k) := by unfold nAt; split; exact okNm; exact okSc
theorem mayAt (k : Nat) : mayB (nAt k) = true := by unfold nAt; split; exact mayNm; exact maySc
theorem Pre.skip {k : Nat} {d : Dk} {e : Bool} (h : Pre k d e) (hk : k < 2) (he : k = 0 → e = false) : Pre (k + 1) d e := by
  refine ⟨?_, fun h2 => h.sc (by omega), h.oth⟩
  rw [h.nm]
  rcases (by omega : k = 0 ∨ k = 1) with rfl | rfl
  · rw [he rfl]; rfl
  · rfl
theorem Pre.more {k n n' : Nat} {d : Dk} {e : Bool} (hd : d.Ok n) (hd' : (d.made (nAt k)).Ok n') (h : Pre k d e) (hk : k < 2) (he : k = 0 → e = true) {l : List UInt8} (hl : l.length ≤ 3000) :
    d.create (nAt k) = (0, d.made (nAt k)) ∧ ∃ d', (d.made (nAt k)).append (nAt k) l = (0, d') ∧ Pre (k + 1) d' e := by
  have hns := h.at_ hd hk
  have hf := hd.file_made hns (nAt k)
  rw [if_pos rfl] at hf
  refine ⟨Dk.create_ok _ (mayAt k) hns, _, Dk.append_ok (mayAt k) hf (by simp; omega), ?_⟩
  have hap : ∀ m, ((d.made (nAt k)).app ((d.no : Int) + 1) ⟨nAt k, [], 0, 0⟩ l).file m = if m = nAt k then some ((d.no : Int) + 1, ⟨nAt k, [] ++ l, 0, 0⟩) else d.file m := fun m => by
    rw [hd'.file_app hf l, hd.file_made hns]
    by_cases e1 : m = nAt k
    · rw [if_pos e1, if_pos e1]
    · rw [if_neg e1, if_neg e1, if_neg e1]
  refine ⟨?_, fun h2 => ?_, fun m h1 h2 => ?_⟩
  · rw [hap]
    rcases (by omega : k = 0 ∨ k = 1) with rfl | rfl
    · rw [if_pos (show nName = nAt 0 from rfl), he rfl]; rfl
    · rw [if_neg (by decide), h.nm]; rfl
  · rw [hap, if_neg (by
      have : k = 0 := by omega
      subst this; decide)]
    exact h.sc (by omega)
  · rw [hap, if_neg (by unfold nAt; split <;> assumption)]
    exact h.oth m h1 h2
/-- behind the fourth step there is just one name -/
theorem one_name {d0 d : Dk} {n : Nat} (hd : d.Ok n) {e : Bool} {l : List UInt8} (h0 : Pre 2 d0 e) (h : Wrote 4 d0 d nName nScr l) {ss : List (List UInt8)} (hn : ss.Nodup) (hm : ∀ x, x ∈ ss ↔ (d.ns x).isSome = true) : ss.length = 1 := by
  have key : ∀ x, x ∈ ss ↔ x = nName := fun x => by
    rw [hm]
    obtain ⟨h1, i, y, h2, _⟩ := h.all rfl
    constructor
    · intro hx
      by_cases e1 : x = nName
      · exact e1
      · exfalso
        have hf : d.file x = none := by
          by_cases e2 : x = nScr
          · rw [e2]; exact h1
          · rw [h.oth x e1 e2]; exact h0.oth x e1 e2
        rw [hd.none_file hf] at hx; cases hx
    · rintro rfl
      rw [(hd.of_file h2).1]; rfl
  match ss, hn, key with
  | [], _, key => exact absurd ((key nName).2 rfl) (by simp)
  | [a], _, _ => rfl
  | a :: b :: t, hn, key =>
    have ha := (key a).1 (by simp)
    have hb := (key b).1 (by simp)
    rw [List.nodup_cons] at hn
    exact absurd (by rw [ha, hb]; simp) hn.1
end Go.Proofs.Ythhbfjhgmdnpbaa
