/- A []Thing and a []bool that came in. -/
import Derived.Test.YtckhmdeeddjkhaaLaw
import Derived.Test.YtckhmdeeddjkhaaRingOrder
import Derived.Deep.Slices
import Derived.Deep.Matrix
namespace Go.Proofs.Ytckhmdeeddjkhaa
open Go.ChangeShapes Go.WideShapes Go.ChangeAt Go.RowKit Go.Deep
section
variable {H : Type} {enc : TypeId × Value → H} {W : World} {base : Nat} {held : Bool}
theorem trod2 {P : Program} {w : World} {spare : Nat → Bool} {t : TypeId} {f0 f1 : Field} {fuel : Nat} {cs : List Value} {x : DataW H × List MemPlace} (ht : P.underlying t = some (.struct #[f0, f1])) (h : DataW.trod enc P w base spare held fuel t cs = some x) :
    ∃ y0 y1 n, cs.length = P.cellsOf t ∧ DataW.trod enc P w base spare held n f0.type ((cs.drop f0.offset).take (P.cellsOf f0.type)) = some y0 ∧ DataW.trod enc P w base spare held n f1.type ((cs.drop f1.offset).take (P.cellsOf f1.type)) = some y1 := by
  obtain ⟨xs, n, _, rfl, hl, hlen, hf⟩ := DataW.trod_struct ht h
  match xs, hlen with
  | [y0, y1], _ => exact ⟨y0, y1, n, hl, by simpa using hf 0 f0 rfl, by simpa using hf 1 f1 rfl⟩
theorem addr_of {W : World} {a' : Addr} {u : Value} (h0 : W.cell? (a'.add 0) = some u) : ∃ b off, a' = ⟨b, off, none⟩ ∧ b < W.heap.size := by
  obtain ⟨b, off, spot⟩ := a'
  have hspot : spot = none := by simpa [Addr.add] using World.cell?_spot h0
  subst hspot
  have hlt := World.block_lt_of_cell? W _ h0
  exact ⟨b, off, rfl, by simpa [Addr.add] using hlt⟩
theorem open_things {r : Reach} {b0 : Nat} {v : Value} {d : DataW H} {ps : List MemPlace} (hval : Value.okWide Try.prog W r b0 41 v) (h : DataW.Trod enc Try.prog W base (fun _ => true) held 41 v d ps) :
    ∃ A len cap l, v = .slice A len cap ∧ len ≤ cap ∧ TS W A len l := by
  obtain ⟨a, len, cap, rfl⟩ := okWide_slice Try.underlying41 hval
  obtain ⟨fuel, hf⟩ := h
  rcases open_slice Try.underlying41 hf with ⟨hcs, hx⟩ | ⟨a', len', cap', m, n, D, Pl, hcs, _, hl, hm, hmm, hx, hi⟩
  · simp [Value.cells] at hcs
    obtain ⟨rfl, rfl, rfl⟩ := hcs
    exact ⟨_, _, _, [], rfl, Nat.le_refl _, rfl, fun h => absurd h (by omega)⟩
  · simp [Value.cells] at hcs
    obtain ⟨rfl, rfl, rfl⟩ := hcs
    simp only [if_true] at hmm
    have hC : Try.prog.cellsOf 47 = 2 := by kernel_rfl
    rw [hC] at hi
    have cI : Try.prog.cellsOf 3 = 1 := by kernel_rfl
    have cS : Try.prog.cellsOf 9 = 1 := by kernel_rfl
    have each : ∀ i, i < len → ∃ x : Th, W.cell? (a'.add (i * 2 + 0)) = some (.string x.s) ∧ W.cell? (a'.add (i * 2 + 1)) = some (.int .i64 x.n) := by
      intro i hil
      obtain ⟨cs', hc, ht'⟩ := hi i (by omega)
      obtain ⟨_, hcl, hat⟩ := World.cells?_some hc
      obtain ⟨y0, y1, n', _, h0, h1⟩ := trod2 Try.underlying47 ht'
      match cs', hcl, hat, h0, h1 with
      | [c0, c1], _, hat, h0, h1 =>
        obtain ⟨s, e0, _, _⟩ := DataW.trod_string (cs := [c0]) Try.underlying9 (by simpa [cS] using h0)
        obtain ⟨k, e1, _, _⟩ := DataW.trod_int (cs := [c1]) Try.underlying3 (by simpa [cI] using h1)
        simp only [List.cons.injEq, and_true] at e0 e1
        subst e0 e1
        have q0 := hat 0 (by simp)
        have q1 := hat 1 (by simp)
        rw [Go.Deep.add_add] at q0 q1
        exact ⟨⟨s, k⟩, q0, q1⟩
    have : Inhabited Th := ⟨th0⟩
    obtain ⟨F, hF⟩ := choose_lt each
    refine ⟨_, _, _, (List.range len).map F, rfl, hl, by simp, fun hp => ?_⟩
    obtain ⟨b, off, rfl, hlt⟩ := addr_of (hF 0 hp).1
    have hadd : ∀ j, (⟨b, off, none⟩ : Addr).add j = ⟨b, off + j, none⟩ := fun j => by
      unfold Addr.add
      by_cases h : j = 0
      · subst h; simp
      · simp [h]
    refine ⟨b, off, rfl, hlt, fun j x hj => ?_⟩
    have hjl : j < len := by
      have := (List.getElem?_eq_some_iff.1 hj).1
      simpa using this
    rw [List.getElem?_map, List.getElem?_range hjl] at hj
    simp only [Option.map_some, Option.some.injEq] at hj
    subst hj
    obtain ⟨q0, q1⟩ := hF j hjl
    rw [hadd] at q0 q1
    exact ⟨by simpa using q0, by rw [Nat.add_assoc]; exact q1⟩
theorem open_bools {r : Reach} {b0 : Nat} {v : Value} {d : DataW H} {ps : List MemPlace} (hval : Value.okWide Try.prog W r b0 42 v) (h : DataW.Trod enc Try.prog W base (fun _ => true) held 42 v d ps) :
    ∃ A len cap l, v = .slice A len cap ∧ len ≤ cap ∧ BS W A len l := by
  obtain ⟨a, len, cap, rfl⟩ := okWide_slice Try.underlying42 hval
  obtain ⟨fuel, hf⟩ := h
  rcases open_slice Try.underlying42 hf with ⟨hcs, hx⟩ | ⟨a', len', cap', m, n, D, Pl, hcs, _, hl, hm, hmm, hx, hi⟩
  · simp [Value.cells] at hcs
    obtain ⟨rfl, rfl, rfl⟩ := hcs
    exact ⟨_, _, _, [], rfl, Nat.le_refl _, rfl, fun h => absurd h (by omega)⟩
  · simp [Value.cells] at hcs
    obtain ⟨rfl, rfl, rfl⟩ := hcs
    simp only [if_true] at hmm
    have hC : Try.prog.cellsOf 4 = 1 := by kernel_rfl
    rw [hC] at hi
    have each : ∀ i, i < len → ∃ x : Bool, W.cell? (a'.add i) = some (.bool x) := by
      intro i hil
      obtain ⟨cs', hc, ht'⟩ := hi i (by omega)
      obtain ⟨_, hcl, hat⟩ := World.cells?_some hc
      match cs', hcl, hat, ht' with
      | [c0], _, hat, ht' =>
        obtain ⟨bv, e0, _⟩ := DataW.trod_bool (cs := [c0]) Try.underlying4 ht'
        simp only [List.cons.injEq, and_true] at e0
        subst e0
        have q0 := hat 0 (by simp)
        rw [Go.Deep.add_add, Nat.mul_one, Nat.add_zero] at q0
        exact ⟨bv, q0⟩
    obtain ⟨F, hF⟩ := choose_lt each
    refine ⟨_, _, _, (List.range len).map F, rfl, hl, by simp, fun hp => ?_⟩
    obtain ⟨b, off, rfl, hlt⟩ := addr_of (hF 0 hp)
    have hadd : ∀ j, (⟨b, off, none⟩ : Addr).add j = ⟨b, off + j, none⟩ := fun j => by
      unfold Addr.add
      by_cases h : j = 0
      · subst h; simp
      · simp [h]
    refine ⟨b, off, rfl, hlt, fun j x hj => ?_⟩
    have hjl : j < len := by
      have := (List.getElem?_eq_some_iff.1 hj).1
      simpa using this
    rw [List.getElem?_map, List.getElem?_range hjl] at hj
    simp only [Option.map_some, Option.some.injEq] at hj
    subst hj
    have q0 := hF j hjl
    rwa [hadd] at q0
end
end Go.Proofs.Ytckhmdeeddjkhaa
