/- A []Try of layer 22 that came in. -/
import Derived.Test.YthhbfjhgmdnpbaaLaw
import Derived.Test.YthhbfjhgmdnpbaaStoreWhole
import Derived.Lib.SmallJoins
import Derived.ChangeMaps5
import Derived.Deep.Slices
import Derived.Deep.Strs
import Derived.Deep.Matrix
namespace Go.Proofs.Ythhbfjhgmdnpbaa
open Go.ChangeShapes Go.WideShapes Go.ChangeAt Go.RowKit Go.Deep
section
variable {H : Type} {enc : TypeId × Value → H} {W : World} {base : Nat} {held : Bool}
set_option maxRecDepth 100000 in
theorem open_tries {r : Reach} {b0 : Nat} {v : Value} {d : DataW H} {ps : List MemPlace} (hval : Value.okWide Try.prog W r b0 47 v) (h : DataW.Trod enc Try.prog W base (fun _ => true) held 47 v d ps) :
    ∃ A len cap l, v = .slice A len cap ∧ len ≤ cap ∧ TS W A len l := by
  obtain ⟨a, len, cap, rfl⟩ := okWide_slice Try.underlying47 hval
  obtain ⟨fuel, hf⟩ := h
  rcases open_slice Try.underlying47 hf with ⟨hcs, hx⟩ | ⟨a', len', cap', m, n, D, Pl, hcs, _, hl, hm, hmm, hx, hi⟩
  · simp [Value.cells] at hcs
    obtain ⟨rfl, rfl, rfl⟩ := hcs
    exact ⟨_, _, _, [], rfl, Nat.le_refl _, ⟨rfl, fun x hx => by simp at hx, fun h => absurd h (by omega)⟩⟩
  · simp [Value.cells] at hcs
    obtain ⟨rfl, rfl, rfl⟩ := hcs
    simp only [if_true] at hmm
    have hC : Try.prog.cellsOf 50 = 3 := by kernel_rfl
    rw [hC] at hi
    have cI : Try.prog.cellsOf 3 = 1 := by kernel_rfl
    have cL : Try.prog.cellsOf 48 = 1 := by kernel_rfl
    have cS : Try.prog.cellsOf 9 = 1 := by kernel_rfl
    have each : ∀ i, i < len → ∃ x : Ty, (W.cell? (a'.add (i * 3 + 0)) = some (.string x.s) ∧ W.cell? (a'.add (i * 3 + 1)) = some (.int .i64 x.st) ∧ W.cell? (a'.add (i * 3 + 2)) = some (.slice x.A x.m x.cp)) ∧ x.m ≤ maxLen ∧ RI W x.A x.m x.ks := by
      intro i hil
      obtain ⟨cs', hc, ht'⟩ := hi i (by omega)
      obtain ⟨_, hcl, hat⟩ := World.cells?_some hc
      obtain ⟨y0, y1, y2, n', hy, _, h0, h1, h2⟩ := trod_struct3 Try.underlying50 ht'
      match cs', hcl, hat, h0, h1, h2 with
      | [c0, c1, c2], _, hat, h0, h1, h2 =>
        obtain ⟨s, e0, _, _⟩ := DataW.trod_string (cs := [c0]) Try.underlying9 (by simpa [cS] using h0)
        obtain ⟨k, e1, _, _⟩ := DataW.trod_int (cs := [c1]) Try.underlying3 (by simpa [cI] using h1)
        simp only [List.cons.injEq, and_true] at e0 e1
        subst e0 e1
        have q0 := hat 0 (by simp)
        have q1 := hat 1 (by simp)
        have q2 := hat 2 (by simp)
        rw [Go.Deep.add_add] at q0 q1 q2
        rcases open_ints (cs := [c2]) Try.underlying48 Try.underlying3 cI (by simpa [cL] using h2) with ⟨hcs, _⟩ | ⟨a2, len2, cap2, zs, hcs, _, hl2, hm2, hz, _, hcell, _⟩
        · simp only [List.cons.injEq, and_true] at hcs
          subst hcs
          exact ⟨⟨s, k, none, 0, 0, []⟩, ⟨q0, q1, q2⟩, Nat.zero_le _, rfl, fun h => absurd h (Nat.lt_irrefl 0)⟩
        · simp only [List.cons.injEq, and_true] at hcs
          subst hcs
          simp only [if_true] at hz
          refine ⟨⟨s, k, some a2, len2, cap2, zs.take len2⟩, ⟨q0, q1, q2⟩, Nat.le_trans hl2 hm2, by simp; omega, fun hn => ?_⟩
          obtain ⟨b, off, rfl, hc'⟩ := ints_at hcell (by simp only at hn; omega)
          have hlt : b < W.heap.size := World.block_lt_of_cell? W _ (hc' 0 (by simp only at hn; omega))
          refine ⟨b, off, rfl, hlt, fun j x hj => ?_⟩
          have hjl : j < len2 := by
            have := (List.getElem?_eq_some_iff.1 hj).1
            simp at this; omega
          rw [hc' j (by omega)]
          rw [List.getElem?_take_of_lt hjl, List.getElem?_eq_getElem (by omega)] at hj
          have hg : zs.getD j 0 = zs[j]'(by omega) := by rw [List.getD_eq_getElem?_getD, List.getElem?_eq_getElem (by omega)]; rfl
          rw [hg]
          simp only [Option.some.injEq] at hj
          rw [hj]
    have : Inhabited Ty := ⟨⟨ByteArray.empty, 0, none, 0, 0, []⟩⟩
    obtain ⟨F, hF⟩ := choose_lt each
    refine ⟨_, _, _, (List.range len).map F, rfl, hl, by simp, fun x hxm => ?_, fun hp => ?_⟩
    · obtain ⟨j, hj, rfl⟩ := List.mem_map.1 hxm
      have hj' : j < len := by simpa using hj
      exact (hF j hj').2
    · obtain ⟨b, off, spot⟩ := a'
      have h0 := (hF 0 hp).1.1
      have hspot : spot = none := by simpa [Addr.add] using World.cell?_spot h0
      subst hspot
      have hadd : ∀ j, (⟨b, off, none⟩ : Addr).add j = ⟨b, off + j, none⟩ := fun j => by
        unfold Addr.add
        by_cases h : j = 0
        · subst h; simp
        · simp [h]
      have hlt : b < W.heap.size := by
        have := World.block_lt_of_cell? W _ h0
        rwa [hadd] at this
      refine ⟨b, off, rfl, hlt, fun j x hj => ?_⟩
      have hjl : j < len := by
        have := (List.getElem?_eq_some_iff.1 hj).1
        simpa using this
      rw [List.getElem?_map, List.getElem?_range hjl] at hj
      simp only [Option.map_some, Option.some.injEq] at hj
      subst hj
      obtain ⟨q0, q1, q2⟩ := (hF j hjl).1
      rw [hadd] at q0 q1 q2
      simp only [← Nat.add_assoc, Nat.add_zero] at q0 q1 q2
      exact ⟨q0, q1, q2⟩
end
end Go.Proofs.Ythhbfjhgmdnpbaa
