/- A slice of structs of seven ints that came in. -/
import Derived.Test.YthhpiojfnjiomaaLaw
import Derived.Test.YthhpiojfnjiomaaBackExact
import Derived.Deep.Fields
namespace Go.Proofs.Ythhpiojfnjiomaa
open Go.ChangeShapes Go.WideShapes Go.ChangeAt Go.RowKit Go.Deep
section
variable {H : Type} {enc : TypeId × Value → H} {P : Program} {W : World} {base : Nat} {held : Bool}
theorem open_asks {r : Reach} {b0 : Nat} {t e ti : TypeId} {fs : Array Field} {v : Value} {d : DataW H} {ps : List MemPlace} (ht : P.underlying t = some (.slice e)) (he : P.underlying e = some (.struct fs)) (hone : oneCellFields P fs = true) (hC : P.cellsOf e = 7) (h7 : fs.size = 7)
    (hty : ∀ j, j < 7 → (fs[j]?).map (·.type) = some ti) (hint : P.underlying ti = some (.int .i64))
    (hval : Value.okWide P W r b0 t v) (h : DataW.Trod enc P W base (fun _ => true) held t v d ps) :
    ∃ A len cap, v = .slice A len cap ∧ len ≤ cap ∧ AS W A len := by
  obtain ⟨a, len, cap, rfl⟩ := okWide_slice ht hval
  obtain ⟨fuel, hf⟩ := h
  rcases open_slice ht hf with ⟨hcs, hx⟩ | ⟨a', len', cap', m, n, D, Pl, hcs, _, hl, hm, hmm, hx, hi⟩
  · simp [Value.cells] at hcs
    obtain ⟨rfl, rfl, rfl⟩ := hcs
    exact ⟨_, _, _, rfl, Nat.le_refl _, fun h => absurd h (by omega)⟩
  · simp [Value.cells] at hcs
    obtain ⟨rfl, rfl, rfl⟩ := hcs
    refine ⟨_, _, _, rfl, hl, fun hpos => ?_⟩
    simp only [if_true] at hmm
    have field : ∀ i, i < len → ∀ j, j < 7 → ∃ x : Int, x ≤ 9223372036854775807 ∧ W.cell? (a'.add (i * 7 + j)) = some (.int .i64 x) := by
      intro i hil j hj
      obtain ⟨cs', hc, ht'⟩ := hi i (by omega)
      rw [hC] at hc
      obtain ⟨ys, n', hn', hy, hlen, hyl, hfld⟩ := DataW.trod_struct he ht'
      obtain ⟨_, hcl, hat⟩ := World.cells?_some hc
      obtain ⟨f, hfj⟩ : ∃ f, fs[j]? = some f := ⟨fs[j]'(by omega), Array.getElem?_eq_getElem (by omega)⟩
      obtain ⟨ho, hk⟩ := hone_of hone j f hfj
      have h1 := hfld j f hfj
      rw [ho, hk] at h1
      have hone' : (cs'.drop j).take 1 = [cs'[j]'(by omega)] := by
        rw [List.drop_eq_getElem_cons (by omega)]
        rfl
      rw [hone'] at h1
      have hys : ys[j]? = some (ys[j]'(by omega)) := List.getElem?_eq_getElem (by omega)
      rw [hys] at h1
      have hft : f.type = ti := by have := hty j hj; rw [hfj] at this; exact Option.some.inj this
      rw [hft] at h1
      obtain ⟨x, ex, _, wx⟩ := DataW.trod_int hint h1
      simp at ex
      refine ⟨x, (i64_bounds wx).2, ?_⟩
      have hcell := hat j hj
      rw [Go.Deep.add_add] at hcell
      rw [hcell, List.getElem?_eq_getElem (by omega), ex]
    obtain ⟨b, off, spot⟩ := a'
    have hspot : spot = none := by
      obtain ⟨x, _, hx0⟩ := field 0 hpos 0 (by omega)
      simpa [Addr.add] using World.cell?_spot hx0
    subst hspot
    have hadd : ∀ j, (⟨b, off, none⟩ : Addr).add j = ⟨b, off + j, none⟩ := fun j => by
      unfold Addr.add
      by_cases h : j = 0
      · subst h; simp
      · simp [h]
    have hlt : b < W.heap.size := by
      obtain ⟨x, _, hx0⟩ := field 0 hpos 0 (by omega)
      have := World.block_lt_of_cell? W _ hx0
      rwa [hadd] at this
    refine ⟨b, off, rfl, hlt, fun i hil => ?_⟩
    obtain ⟨x0, b0, c0⟩ := field i hil 0 (by omega)
    obtain ⟨x1, b1, c1⟩ := field i hil 1 (by omega)
    obtain ⟨x2, b2, c2⟩ := field i hil 2 (by omega)
    obtain ⟨x3, b3, c3⟩ := field i hil 3 (by omega)
    obtain ⟨x4, b4, c4⟩ := field i hil 4 (by omega)
    obtain ⟨x5, b5, c5⟩ := field i hil 5 (by omega)
    obtain ⟨x6, b6, c6⟩ := field i hil 6 (by omega)
    rw [hadd] at c0 c1 c2 c3 c4 c5 c6
    simp only [← Nat.add_assoc, Nat.add_zero] at c0 c1 c2 c3 c4 c5 c6
    exact ⟨x0, x1, x2, x3, x4, x5, x6, ⟨b2, b3, b6⟩, c0, c1, c2, c3, c4, c5, c6⟩
end
end Go.Proofs.Ythhpiojfnjiomaa
