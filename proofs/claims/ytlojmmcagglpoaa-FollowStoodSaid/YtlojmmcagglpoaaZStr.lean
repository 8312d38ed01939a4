/- string(b) of bytes, and appending one value to a row of the call's own. -/
import Derived.Test.YtlojmmcagglpoaaZFrame
import Derived.Test.YtlojmmcagglpoaaZMem
import Derived.Laws.BytesArg
namespace Go.Proofs.Ytlojmmcagglpoaa
open Go.RowKit
def strOf (l : List UInt8) : ByteArray := ⟨l.toArray⟩
set_option maxRecDepth 20000 in
theorem conv_bytes (w : World) (A : Option Addr) (n c : Nat) (l : List UInt8) (h : RB w A n l) : (convert 46 9 (.slice A n c)).run Try.prog w = .ok (.string (strOf l)) w := by
  by_cases h0 : n = 0
  · subst h0
    obtain rfl : l = [] := List.eq_nil_of_length_eq_zero h.1
    rw [run_convert_bytes_string w _ _ 5 _ 0 c Try.underlying46 Try.underlying5 Try.underlying9]
    cases A <;> simp [Conv.bytesToString, loadCells]
    all_goals rfl
  · obtain ⟨b, off, rfl, hb, hc⟩ := h.2 (by omega)
    have := run_convert_bytes_arg (P := Try.prog) w 46 5 Try.underlying46 Try.underlying5 b off n c (l.map fun x => (x.toNat : Int)) (by simp [h.1]) (fun i hi => by
      have hl : i < l.length := by have := h.1; omega
      rw [hc i _ (List.getElem?_eq_getElem hl)]
      simp [byteV, List.getD_eq_getElem?_getD, List.getElem?_map, List.getElem?_eq_getElem hl]) 9 Try.underlying9
    rw [this]
    congr 2
    unfold strOfNums strOf
    congr 1
    rw [List.map_map]
    congr 1
    conv => rhs; rw [← List.map_id l]
    refine List.map_congr_left fun x _ => ?_
    simp
/-- the slice (some g, n, c) reads as b, and the two marks stand behind it -/
def Room (w : World) (base g n c : Nat) (b : List UInt8) : Prop := b.length = n ∧ n + 2 ≤ c ∧ OB w base (.slice (some ⟨g, 0, none⟩) (n + 2) c) (b ++ [0xD1, 0xD2])
theorem Room.read {w : World} {base g n c : Nat} {b : List UInt8} (h : Room w base g n c b) : RB w (some ⟨g, 0, none⟩) n b := by
  obtain ⟨A, c', he, _, _, hr⟩ := h.2.2.form
  injection he with e1 _ _
  subst e1
  have h2 := hr.take (k := n) (by have := h.1; simp; omega)
  rwa [List.take_left' h.1] at h2
theorem Room.whole {w : World} {base g n c : Nat} {b : List UInt8} (h : Room w base g n c b) : RB w (some ⟨g, 0, none⟩) (n + 2) (b ++ [0xD1, 0xD2]) := by
  obtain ⟨A, c', he, _, _, hr⟩ := h.2.2.form
  injection he with e1 e2 _
  subst e1
  rw [← e2] at hr; exact hr
theorem Room.keep {w w' : World} {base g n c : Nat} {b : List UInt8} (h : Room w base g n c b) (hb : Below w.heap.size w w') : Room w' base g n c b := ⟨h.1, h.2.1, h.2.2.keep hb⟩
theorem Room.less {w : World} {base base' g n c : Nat} {b : List UInt8} (h : Room w base g n c b) (hb : base' ≤ base) : Room w base' g n c b := ⟨h.1, h.2.1, h.2.2.less hb⟩
theorem Room.drewN {w : World} {base g n c : Nat} {b : List UInt8} (h : Room w base g n c b) (m : Nat) : Room (w.drewN m) base g n c b := h
/-- a row of slices, each reading as its piece with two marks behind it -/
def LR (w : World) (base : Nat) (vals : List Value) (ps : List (List UInt8)) : Prop :=
  vals.length = ps.length ∧ ∀ (j : Nat) (p : List UInt8), ps[j]? = some p → ∃ g c, vals[j]? = some (Value.slice (some ⟨g, 0, none⟩) p.length c) ∧ Room w base g p.length c p
theorem LR.nil (w : World) (base : Nat) : LR w base [] [] := ⟨rfl, fun j p h => by simp at h⟩
theorem LR.keep {w w' : World} {base : Nat} {vals : List Value} {ps : List (List UInt8)} (h : LR w base vals ps) (hb : Below w.heap.size w w') : LR w' base vals ps :=
  ⟨h.1, fun j p hj => by obtain ⟨g, c, h1, h2⟩ := h.2 j p hj; exact ⟨g, c, h1, h2.keep hb⟩⟩
theorem LR.snoc {w : World} {base : Nat} {vals : List Value} {ps : List (List UInt8)} (h : LR w base vals ps) {p : List UInt8} {g c : Nat} (hr : Room w base g p.length c p) : LR w base (vals ++ [.slice (some ⟨g, 0, none⟩) p.length c]) (ps ++ [p]) := by
  refine ⟨by simp [h.1], fun j q hj => ?_⟩
  by_cases hl : j < ps.length
  · rw [List.getElem?_append_left hl] at hj
    obtain ⟨g', c', h1, h2⟩ := h.2 j q hj
    exact ⟨g', c', by rw [List.getElem?_append_left (by rw [h.1]; exact hl)]; exact h1, h2⟩
  · rw [List.getElem?_append_right (by omega)] at hj
    have : j - ps.length = 0 := by
      have := (List.getElem?_eq_some_iff.1 hj).1
      simp at this; omega
    rw [this] at hj
    obtain rfl := Option.some.inj hj
    refine ⟨g, c, ?_, hr⟩
    rw [List.getElem?_append_right (by rw [h.1]; omega), h.1, this]; rfl
/-- a store into a row of slices leaves the bytes as they were -/
theorem LR.grown {w w' : World} {base base' n : Nat} {vals : List Value} {ps : List (List UInt8)} {v : Value} {xs : List Value} (h : LR w base vals ps) (hv : w.ownsRow base' 46 1 v n xs) (hg : w.grownBy w' v.ownBlock) : LR w' base vals ps :=
  ⟨h.1, fun j p hj => by
    obtain ⟨g, c, h1, h2⟩ := h.2 j p hj
    exact ⟨g, c, h1, h2.1, h2.2.1, World.ownsRow.kept h2.2.2 hg (own_apart h2.2.2 hv (by decide))⟩⟩
theorem LR.read {w : World} {base base' n c g : Nat} {vals : List Value} {ps : List (List UInt8)} {more : List Value} (h : LR w base vals ps) (hv : w.ownsRow base' 46 1 (.slice (some ⟨g, 0, none⟩) n c) n (vals ++ more)) (hn : ps.length ≤ n) :
    RR w (some ⟨g, 0, none⟩) ps.length ps := by
  have hlt : g < w.heap.size := (World.ownsRow.lt hv g rfl).2
  refine ⟨rfl, fun _ => ⟨g, 0, rfl, hlt, fun j p hj => ?_⟩⟩
  obtain ⟨g', c', h1, h2⟩ := h.2 j p hj
  have hjl := (List.getElem?_eq_some_iff.1 hj).1
  refine ⟨some ⟨g', 0, none⟩, c', by have := h2.2.1; omega, ?_, h2.read⟩
  rw [Nat.zero_add, World.ownsRow.cellAt hv j (by omega), List.getElem?_append_left (by rw [h.1]; exact hjl)]
  exact h1
end Go.Proofs.Ytlojmmcagglpoaa
