/- A []Op of layer 18 that came in. -/
import Derived.Test.YtckhmdeeddjkhaaLaw
import Derived.Test.YtckhmdeeddjkhaaPlayMain
import Derived.Deep.Slices
import Derived.Deep.Matrix
import Derived.Deep.Strs
namespace Go.Proofs.Ytckhmdeeddjkhaa
open Go.ChangeShapes Go.WideShapes Go.ChangeAt Go.RowKit Go.Deep
section
variable {H : Type} {enc : TypeId × Value → H} {W : World} {base : Nat} {held : Bool}
theorem addr_of {W : World} {a' : Addr} {u : Value} (h0 : W.cell? (a'.add 0) = some u) : ∃ b off, a' = ⟨b, off, none⟩ ∧ b < W.heap.size := by
  obtain ⟨b, off, spot⟩ := a'
  have hspot : spot = none := by simpa [Addr.add] using World.cell?_spot h0
  subst hspot
  have hlt := World.block_lt_of_cell? W _ h0
  exact ⟨b, off, rfl, by simpa [Addr.add] using hlt⟩
theorem open_plays {r : Reach} {b0 : Nat} {v : Value} {d : DataW H} {ps : List MemPlace} (hval : Value.okWide Try.prog W r b0 22 v) (h : DataW.Trod enc Try.prog W base (fun _ => true) held 22 v d ps) :
    ∃ A len cap l, v = .slice A len cap ∧ len ≤ cap ∧ PSl W A len l ∧ len ≤ Rows.uptoBulk d := by
  obtain ⟨a, len, cap, rfl⟩ := okWide_slice Try.underlying22 hval
  obtain ⟨fuel, hf⟩ := h
  rcases open_slice Try.underlying22 hf with ⟨hcs, hx⟩ | ⟨a', len', cap', m, n, D, Pl, hcs, _, hl, hm, hmm, hx, hi⟩
  · simp [Value.cells] at hcs
    obtain ⟨rfl, rfl, rfl⟩ := hcs
    exact ⟨_, _, _, [], rfl, Nat.le_refl _, ⟨rfl, fun h => absurd h (by omega)⟩, by omega⟩
  · simp [Value.cells] at hcs
    obtain ⟨rfl, rfl, rfl⟩ := hcs
    simp only [if_true] at hmm
    have hC : Try.prog.cellsOf 37 = 3 := by kernel_rfl
    rw [hC] at hi
    have cI : Try.prog.cellsOf 3 = 1 := by kernel_rfl
    have cO : Try.prog.cellsOf 4 = 1 := by kernel_rfl
    have each : ∀ i, i < len → ∃ x : POp, W.cell? (a'.add (i * 3 + 0)) = some (.int .i64 x.kind) ∧ W.cell? (a'.add (i * 3 + 1)) = some (.bool x.two) ∧ W.cell? (a'.add (i * 3 + 2)) = some (.int .i64 x.x) := by
      intro i hil
      obtain ⟨cs', hc, ht'⟩ := hi i (by omega)
      obtain ⟨_, hcl, hat⟩ := World.cells?_some hc
      obtain ⟨y0, y1, y2, n', hy, _, h0, h1, h2⟩ := trod_struct3 Try.underlying37 ht'
      match cs', hcl, hat, h0, h1, h2 with
      | [c0, c1, c2], _, hat, h0, h1, h2 =>
        obtain ⟨k0, e0, _, _⟩ := DataW.trod_int (cs := [c0]) Try.underlying3 (by simpa [cI] using h0)
        obtain ⟨q1, e1, _⟩ := DataW.trod_bool (cs := [c1]) Try.underlying4 (by simpa [cO] using h1)
        obtain ⟨k2, e2, _, _⟩ := DataW.trod_int (cs := [c2]) Try.underlying3 (by simpa [cI] using h2)
        simp only [List.cons.injEq, and_true] at e0 e1 e2
        subst e0 e1 e2
        have p0 := hat 0 (by simp)
        have p1 := hat 1 (by simp)
        have p2 := hat 2 (by simp)
        rw [Go.Deep.add_add] at p0 p1 p2
        exact ⟨⟨k0, q1, k2⟩, p0, p1, p2⟩
    have : Inhabited POp := ⟨⟨0, false, 0⟩⟩
    obtain ⟨F, hF⟩ := choose_lt each
    have hx1 := (Prod.mk.injEq .. ▸ hx).1
    have hlen : len ≤ Rows.uptoBulk d := by
      rw [hx1]
      have := bulk_slice (H := H) ((List.range len).map D) ((List.range (m - len)).map fun j => D (len + j))
      simp only [List.length_map, List.length_range] at this
      omega
    refine ⟨_, _, _, (List.range len).map F, rfl, hl, ⟨by simp, fun hp => ?_⟩, hlen⟩
    obtain ⟨b, off, rfl, hlt⟩ := addr_of (hF 0 hp).1
    have hadd : ∀ j, (⟨b, off, none⟩ : Addr).add j = ⟨b, off + j, none⟩ := fun j => by
      unfold Addr.add
      by_cases h : j = 0
      · subst h; simp
      · simp [h]
    refine ⟨b, off, rfl, hlt, fun j x hj => ?_⟩
    have hjl : j < len := by
      have := (List.getElem?_eq_some_iff.1 hj).1
      simpa using this
    rw [List.getElem?_map, List.getElem?_range hjl] at hj
    simp only [Option.map_some, Option.some.injEq] at hj
    subst hj
    obtain ⟨q0, q1, q2⟩ := hF j hjl
    rw [hadd] at q0 q1 q2
    exact ⟨by simpa using q0, by rw [Nat.add_assoc]; exact q1, by rw [Nat.add_assoc]; exact q2⟩
end
end Go.Proofs.Ytckhmdeeddjkhaa
