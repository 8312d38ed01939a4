/- A []Op of layer 20 that came in, and a Setup. -/
import Derived.Test.YtjkocghbnljifaaLaw
import Derived.Test.YtjkocghbnljifaaDelAny
import Derived.Lib.SmallJoins
import Derived.ChangeMaps5
import Derived.Deep.Slices
import Derived.Deep.Matrix
namespace Go.Proofs.Ytjkocghbnljifaa
open Go.ChangeShapes Go.WideShapes Go.ChangeAt Go.RowKit Go.Deep
section
variable {H : Type} {enc : TypeId × Value → H} {W : World} {base : Nat} {held : Bool}
theorem trod4 {P : Program} {w : World} {spare : Nat → Bool} {t : TypeId} {f0 f1 f2 f3 : Field} {fuel : Nat} {cs : List Value} {x : DataW H × List MemPlace} (ht : P.underlying t = some (.struct #[f0, f1, f2, f3])) (h : DataW.trod enc P w base spare held fuel t cs = some x) :
    ∃ y0 y1 y2 y3 n, cs.length = P.cellsOf t ∧ DataW.trod enc P w base spare held n f0.type ((cs.drop f0.offset).take (P.cellsOf f0.type)) = some y0 ∧ DataW.trod enc P w base spare held n f1.type ((cs.drop f1.offset).take (P.cellsOf f1.type)) = some y1 ∧ DataW.trod enc P w base spare held n f2.type ((cs.drop f2.offset).take (P.cellsOf f2.type)) = some y2 ∧ DataW.trod enc P w base spare held n f3.type ((cs.drop f3.offset).take (P.cellsOf f3.type)) = some y3 := by
  obtain ⟨xs, n, _, rfl, hl, hlen, hf⟩ := DataW.trod_struct ht h
  match xs, hlen with
  | [y0, y1, y2, y3], _ => exact ⟨y0, y1, y2, y3, n, hl, by simpa using hf 0 f0 rfl, by simpa using hf 1 f1 rfl, by simpa using hf 2 f2 rfl, by simpa using hf 3 f3 rfl⟩
theorem trod5 {P : Program} {w : World} {spare : Nat → Bool} {t : TypeId} {f0 f1 f2 f3 f4 : Field} {fuel : Nat} {cs : List Value} {x : DataW H × List MemPlace} (ht : P.underlying t = some (.struct #[f0, f1, f2, f3, f4])) (h : DataW.trod enc P w base spare held fuel t cs = some x) :
    ∃ y0 y1 y2 y3 y4 n, cs.length = P.cellsOf t ∧ DataW.trod enc P w base spare held n f0.type ((cs.drop f0.offset).take (P.cellsOf f0.type)) = some y0 ∧ DataW.trod enc P w base spare held n f1.type ((cs.drop f1.offset).take (P.cellsOf f1.type)) = some y1 ∧ DataW.trod enc P w base spare held n f2.type ((cs.drop f2.offset).take (P.cellsOf f2.type)) = some y2 ∧ DataW.trod enc P w base spare held n f3.type ((cs.drop f3.offset).take (P.cellsOf f3.type)) = some y3 ∧ DataW.trod enc P w base spare held n f4.type ((cs.drop f4.offset).take (P.cellsOf f4.type)) = some y4 := by
  obtain ⟨xs, n, _, rfl, hl, hlen, hf⟩ := DataW.trod_struct ht h
  match xs, hlen with
  | [y0, y1, y2, y3, y4], _ => exact ⟨y0, y1, y2, y3, y4, n, hl, by simpa using hf 0 f0 rfl, by simpa using hf 1 f1 rfl, by simpa using hf 2 f2 rfl, by simpa using hf 3 f3 rfl, by simpa using hf 4 f4 rfl⟩
theorem open_setup {r : Reach} {b0 : Nat} {v : Value} {d : DataW H} {ps : List MemPlace} (hval : Value.okWide Try.prog W r b0 23 v) (h : DataW.Trod enc Try.prog W base (fun _ => true) held 23 v d ps) :
    ∃ a b c e : Int, v = .agg #[.int .i64 a, .int .i64 b, .int .i64 c, .int .i64 e] := by
  obtain ⟨v0, v1, v2, v3, y0, y1, y2, y3, m, rfl, rfl, _, h0, h1, h2, h3⟩ := Joins.open_agg4 Try.underlying23 (by kernel_rfl) (by kernel_rfl) hval h
  obtain ⟨a, e0, _, _⟩ := DataW.trod_int Try.underlying3 h0
  obtain ⟨b, e1, _, _⟩ := DataW.trod_int Try.underlying3 h1
  obtain ⟨c, e2, _, _⟩ := DataW.trod_int Try.underlying3 h2
  obtain ⟨e, e3, _, _⟩ := DataW.trod_int Try.underlying3 h3
  simp only [List.cons.injEq, and_true] at e0 e1 e2 e3
  subst e0 e1 e2 e3
  exact ⟨a, b, c, e, rfl⟩
theorem open_dops {r : Reach} {b0 : Nat} {v : Value} {d : DataW H} {ps : List MemPlace} (hval : Value.okWide Try.prog W r b0 24 v) (h : DataW.Trod enc Try.prog W base (fun _ => true) held 24 v d ps) :
    ∃ A len cap l, v = .slice A len cap ∧ len ≤ cap ∧ ODS W A len l := by
  obtain ⟨a, len, cap, rfl⟩ := okWide_slice Try.underlying24 hval
  obtain ⟨fuel, hf⟩ := h
  rcases open_slice Try.underlying24 hf with ⟨hcs, hx⟩ | ⟨a', len', cap', m, n, D, Pl, hcs, _, hl, hm, hmm, hx, hi⟩
  · simp [Value.cells] at hcs
    obtain ⟨rfl, rfl, rfl⟩ := hcs
    exact ⟨_, _, _, [], rfl, Nat.le_refl _, rfl, fun j x hj => by simp at hj⟩
  · simp [Value.cells] at hcs
    obtain ⟨rfl, rfl, rfl⟩ := hcs
    simp only [if_true] at hmm
    have hC : Try.prog.cellsOf 46 = 16 := by kernel_rfl
    rw [hC] at hi
    have cI : Try.prog.cellsOf 3 = 1 := by kernel_rfl
    have cS : Try.prog.cellsOf 9 = 1 := by kernel_rfl
    have cO : Try.prog.cellsOf 4 = 1 := by kernel_rfl
    have cU : Try.prog.cellsOf 42 = 1 := by kernel_rfl
    have cA : Try.prog.cellsOf 44 = 12 := by kernel_rfl
    have cM : Try.prog.cellsOf 41 = 9 := by kernel_rfl
    have cL : Try.prog.cellsOf 39 = 5 := by kernel_rfl
    have each : ∀ i, i < len → ∃ x : Od, ∀ k u, x.cells[k]? = some u → W.cell? (a'.add (i * 16 + k)) = some u := by
      intro i hil
      obtain ⟨cs', hc, ht'⟩ := hi i (by omega)
      obtain ⟨_, hcl, hat⟩ := World.cells?_some hc
      obtain ⟨y0, y1, y2, y3, y4, n', _, h0, h1, h2, h3, h4⟩ := trod5 Try.underlying46 ht'
      match cs', hcl, hat, h0, h1, h2, h3, h4 with
      | [c0, c1, c2, c3, c4, c5, c6, c7, c8, c9, c10, c11, c12, c13, c14, c15], _, hat, h0, h1, h2, h3, h4 =>
        obtain ⟨z0, z1, z2, z3, n2, _, a0, a1, a2, a3⟩ := trod4 (cs := [c1, c2, c3, c4, c5, c6, c7, c8, c9, c10, c11, c12]) Try.underlying44 (by simpa [cA] using h1)
        obtain ⟨x0, x1, x2, x3, x4, n3, _, b0, b1, b2, b3, b4⟩ := trod5 (cs := [c2, c3, c4, c5, c6, c7, c8, c9, c10]) Try.underlying41 (by simpa [cM] using a1)
        obtain ⟨u0, u1, u2, u3, u4, n4, _, g0, g1, g2, g3, g4⟩ := trod5 (cs := [c6, c7, c8, c9, c10]) Try.underlying39 (by simpa [cL] using b4)
        obtain ⟨q0, e0, _, _⟩ := DataW.trod_int (cs := [c0]) Try.underlying3 (by simpa [cI] using h0)
        obtain ⟨q1, e1, _, _⟩ := DataW.trod_int (cs := [c1]) Try.underlying3 (by simpa [cI] using a0)
        obtain ⟨q2, e2, _, _⟩ := DataW.trod_int (cs := [c2]) Try.underlying3 (by simpa [cI] using b0)
        obtain ⟨q3, e3, _, _⟩ := DataW.trod_int (cs := [c3]) Try.underlying3 (by simpa [cI] using b1)
        obtain ⟨q4, e4, _, _⟩ := DataW.trod_int (cs := [c4]) Try.underlying3 (by simpa [cI] using b2)
        obtain ⟨q5, e5, _, _⟩ := DataW.trod_int (cs := [c5]) Try.underlying3 (by simpa [cI] using b3)
        obtain ⟨q6, e6, _, _⟩ := DataW.trod_int (cs := [c6]) Try.underlying3 (by simpa [cI] using g0)
        obtain ⟨q7, e7, _, _⟩ := DataW.trod_int (cs := [c7]) Try.underlying3 (by simpa [cI] using g1)
        obtain ⟨q8, e8, _, _⟩ := DataW.trod_int (cs := [c8]) Try.underlying3 (by simpa [cI] using g2)
        obtain ⟨q9, e9, _, _⟩ := DataW.trod_int (cs := [c9]) Try.underlying3 (by simpa [cI] using g3)
        obtain ⟨q10, e10, _, _⟩ := DataW.trod_int (cs := [c10]) Try.underlying3 (by simpa [cI] using g4)
        obtain ⟨q11, e11, _, _⟩ := DataW.trod_string (cs := [c11]) Try.underlying9 (by simpa [cS] using a2)
        obtain ⟨q12, e12, _, _⟩ := DataW.trod_int (cs := [c12]) Try.underlying42 (by simpa [cU] using a3)
        obtain ⟨q13, e13, _, _⟩ := DataW.trod_int (cs := [c13]) Try.underlying3 (by simpa [cI] using h2)
        obtain ⟨q14, e14, _⟩ := DataW.trod_bool (cs := [c14]) Try.underlying4 (by simpa [cO] using h3)
        obtain ⟨q15, e15, _, _⟩ := DataW.trod_int (cs := [c15]) Try.underlying3 (by simpa [cI] using h4)
        simp only [List.cons.injEq, and_true] at e0 e1 e2 e3 e4 e5 e6 e7 e8 e9 e10 e11 e12 e13 e14 e15
        subst e0 e1 e2 e3 e4 e5 e6 e7 e8 e9 e10 e11 e12 e13 e14 e15
        refine ⟨⟨q0, ⟨q1, q2, q3, q4, q5, q6, q7, q8, q9, q10, q11, q12⟩, q13, q14, q15⟩, fun k u hu => ?_⟩
        have hk : k < 16 := (Array.getElem?_eq_some_iff.1 hu).1
        have q := hat k (by simpa using hk)
        rw [Go.Deep.add_add] at q
        rw [q]
        match k, hk, hu with
        | 0, _, hu => exact hu
        | 1, _, hu => exact hu
        | 2, _, hu => exact hu
        | 3, _, hu => exact hu
        | 4, _, hu => exact hu
        | 5, _, hu => exact hu
        | 6, _, hu => exact hu
        | 7, _, hu => exact hu
        | 8, _, hu => exact hu
        | 9, _, hu => exact hu
        | 10, _, hu => exact hu
        | 11, _, hu => exact hu
        | 12, _, hu => exact hu
        | 13, _, hu => exact hu
        | 14, _, hu => exact hu
        | 15, _, hu => exact hu
    have : Inhabited Od := ⟨⟨0, th0, 0, true, 0⟩⟩
    obtain ⟨F, hF⟩ := choose_lt each
    refine ⟨_, _, _, (List.range len).map F, rfl, hl, by simp, fun j x hj => ?_⟩
    have hjl : j < len := by
      have := (List.getElem?_eq_some_iff.1 hj).1
      simpa using this
    obtain ⟨b, off, spot⟩ := a'
    have h0 := hF 0 (by omega) 0 _ rfl
    have hspot : spot = none := by simpa [Addr.add] using World.cell?_spot h0
    subst hspot
    have hadd : ∀ j, (⟨b, off, none⟩ : Addr).add j = ⟨b, off + j, none⟩ := fun j => by
      unfold Addr.add
      by_cases h : j = 0
      · subst h; simp
      · simp [h]
    have hlt : b < W.heap.size := by
      have := World.block_lt_of_cell? W _ h0
      rwa [hadd] at this
    rw [List.getElem?_map, List.getElem?_range hjl] at hj
    simp only [Option.map_some, Option.some.injEq] at hj
    subst hj
    refine ⟨b, off, rfl, hlt, fun k u hu => ?_⟩
    have q := hF j hjl k u hu
    rw [hadd, ← Nat.add_assoc] at q
    exact q
end
end Go.Proofs.Ytjkocghbnljifaa
