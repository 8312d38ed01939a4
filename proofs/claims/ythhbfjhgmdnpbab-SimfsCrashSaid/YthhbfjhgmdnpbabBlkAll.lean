/- Whole blocks: many cells set at once; read and written as a range. -/
import Derived.Test.YthhbfjhgmdnpbabFrame
import Derived.Deep.MidRow
namespace Go.Proofs.Ythhbfjhgmdnpbab
open Go.RowKit
theorem Chg.setCells {S : Nat → Prop} {b : Nat} : ∀ (vs : List Value) (o : Nat) {w w' : World}, Chg S w w' → S b → Chg S w (w'.setCells b o vs)
  | [], _, _, _, h, _ => h
  | v :: vs, o, _, _, h, hb => Chg.setCells vs (o + 1) (h.setCell (p := ⟨b, o, none⟩) (.inl hb) v) hb
theorem Blk.setCells {b : Nat} {t : TypeId} : ∀ (vs : List Value) (o : Nat) {w : World} {C : Array Value}, Blk w b t C → o + vs.length ≤ C.size → ∃ C', Blk (w.setCells b o vs) b t C' ∧ C'.size = C.size ∧ ∀ j, C'[j]? = if o ≤ j ∧ j < o + vs.length then vs[j - o]? else C[j]?
  | [], _, _, C, h, _ => ⟨C, h, rfl, fun j => by rw [if_neg (by simp)]⟩
  | v :: vs, o, _, C, h, hl => by
    rw [List.length_cons] at hl
    obtain ⟨C', h1, h2, h3⟩ := Blk.setCells vs (o + 1) (h.set_ o v) (by simp; omega)
    refine ⟨C', h1, by simpa using h2, fun j => ?_⟩
    rw [h3 j]
    by_cases e : j = o
    · subst e
      rw [if_neg (by omega), if_pos (by simp), Array.getElem?_setIfInBounds_self, if_pos (by omega), Nat.sub_self]; rfl
    · rw [Array.getElem?_setIfInBounds_ne (fun h => e h.symm)]
      by_cases h4 : o + 1 ≤ j ∧ j < o + 1 + vs.length
      · rw [if_pos h4, if_pos (by simp; omega), show j - o = (j - (o + 1)) + 1 from by omega]; rfl
      · rw [if_neg h4, if_neg (by simp; omega)]
theorem Blk.setAll {w : World} {b : Nat} {t : TypeId} {C : Array Value} (h : Blk w b t C) (cs : Array Value) (hs : cs.size = C.size) : Blk (w.setCells b 0 cs.toList) b t cs := by
  obtain ⟨C', h1, h2, h3⟩ := Blk.setCells cs.toList 0 h (by simp; omega)
  have : C' = cs := by
    apply Array.ext_getElem?
    intro j
    rw [h3 j]
    by_cases hj : j < cs.size
    · rw [if_pos (by simpa using hj)]; simp
    · rw [if_neg (by simp; omega), Array.getElem?_eq_none (by omega), Array.getElem?_eq_none (by omega)]
  rw [this] at h1; exact h1
theorem there_blk {w : World} {b : Nat} {t : TypeId} {C : Array Value} (h : Blk w b t C) (n : Nat) (hn : n ≤ C.size) : w.there b 0 n := fun j hj => by
  rw [Nat.zero_add]
  exact ⟨by rw [h.cell, Array.getElem?_eq_getElem (by omega)]; rfl, h.frozen j⟩
theorem rangeAt_blk {w : World} {b : Nat} {t : TypeId} {cs : Array Value} (h : Blk w b t cs) : w.rangeAt b 0 cs.toList := fun j v hv => by
  rw [Nat.zero_add, h.cell]; simpa using hv
end Go.Proofs.Ythhbfjhgmdnpbab
