/- A []api.Mark that came in: it reads as a list of marks, all numbers of 64 bits. -/
import Derived.Test.YtpeaacbbfkanmaaDoorLaw
import Derived.Test.YtpeaacbbfkanmaaDoorCkptOf
import Derived.Deep.Slices
import Derived.Deep.Matrix
namespace Go.Proofs.YtpeaacbbfkanmaaDoor
open Go.ChangeShapes Go.WideShapes Go.ChangeAt Go.RowKit Go.Deep
section
variable {H : Type} {enc : TypeId × Value → H} {W : World} {base : Nat} {held : Bool}
theorem trod5 {P : Program} {w : World} {spare : Nat → Bool} {t : TypeId} {f0 f1 f2 f3 f4 : Field} {fuel : Nat} {cs : List Value} {x : DataW H × List MemPlace} (ht : P.underlying t = some (.struct #[f0, f1, f2, f3, f4])) (h : DataW.trod enc P w base spare held fuel t cs = some x) :
    ∃ y0 y1 y2 y3 y4 n, cs.length = P.cellsOf t ∧ DataW.trod enc P w base spare held n f0.type ((cs.drop f0.offset).take (P.cellsOf f0.type)) = some y0 ∧
      DataW.trod enc P w base spare held n f1.type ((cs.drop f1.offset).take (P.cellsOf f1.type)) = some y1 ∧ DataW.trod enc P w base spare held n f2.type ((cs.drop f2.offset).take (P.cellsOf f2.type)) = some y2 ∧
      DataW.trod enc P w base spare held n f3.type ((cs.drop f3.offset).take (P.cellsOf f3.type)) = some y3 ∧ DataW.trod enc P w base spare held n f4.type ((cs.drop f4.offset).take (P.cellsOf f4.type)) = some y4 := by
  obtain ⟨xs, n, _, rfl, hl, hlen, hf⟩ := DataW.trod_struct ht h
  match xs, hlen with
  | [y0, y1, y2, y3, y4], _ => exact ⟨y0, y1, y2, y3, y4, n, hl, by simpa using hf 0 f0 rfl, by simpa using hf 1 f1 rfl, by simpa using hf 2 f2 rfl, by simpa using hf 3 f3 rfl, by simpa using hf 4 f4 rfl⟩
theorem open_marks {r : Reach} {b0 : Nat} {v : Value} {d : DataW H} {ps : List MemPlace} (hval : Value.okWide Tryd.prog W r b0 22 v) (h : DataW.Trod enc Tryd.prog W base (fun _ => true) held 22 v d ps) :
    ∃ A len cap l, v = .slice A len cap ∧ len ≤ cap ∧ cap ≤ maxLen ∧ MS W A len l ∧ (∀ m ∈ l, M64 m) := by
  obtain ⟨a, len, cap, rfl⟩ := okWide_slice Tryd.underlying22 hval
  obtain ⟨fuel, hf⟩ := h
  rcases open_slice Tryd.underlying22 hf with ⟨hcs, hx⟩ | ⟨a', len', cap', m, n, D, Pl, hcs, _, hl, hm, hmm, hx, hi⟩
  · simp [Value.cells] at hcs
    obtain ⟨rfl, rfl, rfl⟩ := hcs
    exact ⟨_, _, _, [], rfl, Nat.le_refl _, Nat.zero_le _, ⟨rfl, fun h => absurd h (by omega)⟩, fun x hx => by simp at hx⟩
  · simp [Value.cells] at hcs
    obtain ⟨rfl, rfl, rfl⟩ := hcs
    simp only [if_true] at hmm
    have hC : Tryd.prog.cellsOf 31 = 9 := by kernel_rfl
    rw [hC] at hi
    have cI : Tryd.prog.cellsOf 3 = 1 := by kernel_rfl
    have cL : Tryd.prog.cellsOf 29 = 5 := by kernel_rfl
    have each : ∀ i, i < len → ∃ x : Mk, M64 x ∧ ∀ k u, x.cells[k]? = some u → W.cell? (a'.add (i * 9 + k)) = some u := by
      intro i hil
      obtain ⟨cs', hc, ht'⟩ := hi i (by omega)
      obtain ⟨_, hcl, hat⟩ := World.cells?_some hc
      obtain ⟨y0, y1, y2, y3, y4, n', _, h0, h1, h2, h3, h4⟩ := trod5 Tryd.underlying31 ht'
      match cs', hcl, hat, h0, h1, h2, h3, h4 with
      | [c0, c1, c2, c3, c4, c5, c6, c7, c8], _, hat, h0, h1, h2, h3, h4 =>
        obtain ⟨z0, z1, z2, z3, z4, n2, _, g0, g1, g2, g3, g4⟩ := trod5 (cs := [c4, c5, c6, c7, c8]) Tryd.underlying29 (by simpa [cL] using h4)
        obtain ⟨x0, e0, _, w0⟩ := DataW.trod_int (cs := [c0]) Tryd.underlying3 (by simpa [cI] using h0)
        obtain ⟨x1, e1, _, w1⟩ := DataW.trod_int (cs := [c1]) Tryd.underlying3 (by simpa [cI] using h1)
        obtain ⟨x2, e2, _, w2⟩ := DataW.trod_int (cs := [c2]) Tryd.underlying3 (by simpa [cI] using h2)
        obtain ⟨x3, e3, _, w3⟩ := DataW.trod_int (cs := [c3]) Tryd.underlying3 (by simpa [cI] using h3)
        obtain ⟨x4, e4, _, w4⟩ := DataW.trod_int (cs := [c4]) Tryd.underlying3 (by simpa [cI] using g0)
        obtain ⟨x5, e5, _, w5⟩ := DataW.trod_int (cs := [c5]) Tryd.underlying3 (by simpa [cI] using g1)
        obtain ⟨x6, e6, _, w6⟩ := DataW.trod_int (cs := [c6]) Tryd.underlying3 (by simpa [cI] using g2)
        obtain ⟨x7, e7, _, w7⟩ := DataW.trod_int (cs := [c7]) Tryd.underlying3 (by simpa [cI] using g3)
        obtain ⟨x8, e8, _, w8⟩ := DataW.trod_int (cs := [c8]) Tryd.underlying3 (by simpa [cI] using g4)
        simp only [List.cons.injEq, and_true] at e0 e1 e2 e3 e4 e5 e6 e7 e8
        subst e0 e1 e2 e3 e4 e5 e6 e7 e8
        refine ⟨⟨x0, x1, x2, x3, x4, x5, x6, x7, x8⟩, ?_, fun k u hu => ?_⟩
        · intro x hx
          simp only [Mk.list, List.mem_cons, List.not_mem_nil, or_false] at hx
          rcases hx with rfl | rfl | rfl | rfl | rfl | rfl | rfl | rfl | rfl
          · exact i64_bounds w0
          · exact i64_bounds w1
          · exact i64_bounds w2
          · exact i64_bounds w3
          · exact i64_bounds w4
          · exact i64_bounds w5
          · exact i64_bounds w6
          · exact i64_bounds w7
          · exact i64_bounds w8
        · have hk : k < 9 := (Array.getElem?_eq_some_iff.1 hu).1
          have q := hat k (by simpa using hk)
          rw [Go.Deep.add_add] at q
          rw [q]
          match k, hk, hu with
          | 0, _, hu => exact hu
          | 1, _, hu => exact hu
          | 2, _, hu => exact hu
          | 3, _, hu => exact hu
          | 4, _, hu => exact hu
          | 5, _, hu => exact hu
          | 6, _, hu => exact hu
          | 7, _, hu => exact hu
          | 8, _, hu => exact hu
    have : Inhabited Mk := ⟨mz⟩
    obtain ⟨F, hF⟩ := choose_lt each
    refine ⟨_, _, _, (List.range len).map F, rfl, hl, hm, ⟨by simp, fun hp => ?_⟩, ?_⟩
    · obtain ⟨b, off, spot⟩ := a'
      have h0 := (hF 0 hp).2 0 _ rfl
      have hspot : spot = none := by simpa [Addr.add] using World.cell?_spot h0
      subst hspot
      have hadd : ∀ j, (⟨b, off, none⟩ : Addr).add j = ⟨b, off + j, none⟩ := fun j => by
        unfold Addr.add
        by_cases h : j = 0
        · subst h; simp
        · simp [h]
      have hlt : b < W.heap.size := by
        have := World.block_lt_of_cell? W _ h0
        rwa [hadd] at this
      refine ⟨b, off, rfl, hlt, fun j x hj k u hu => ?_⟩
      have hjl : j < len := by
        have := (List.getElem?_eq_some_iff.1 hj).1
        simpa using this
      rw [List.getElem?_map, List.getElem?_range hjl] at hj
      simp only [Option.map_some, Option.some.injEq] at hj
      subst hj
      have q := (hF j hjl).2 k u hu
      rw [hadd, ← Nat.add_assoc] at q
      exact q
    · intro x hxm
      obtain ⟨j, hj, rfl⟩ := List.mem_map.1 hxm
      have hj' : j < len := by simpa using hj
      exact (hF j hj').1
end
end Go.Proofs.YtpeaacbbfkanmaaDoor
