/- A []Op of layer 16 that came in. -/
import Derived.Test.YtjldbpnphilkaaaLaw
import Derived.Test.YtjldbpnphilkaaaLinesExactAll
import Derived.Deep.Slices
import Derived.Deep.Strs
namespace Go.Proofs.Ytjldbpnphilkaaa
open Go.ChangeShapes Go.WideShapes Go.ChangeAt Go.RowKit Go.Deep
section
variable {H : Type} {enc : TypeId × Value → H} {P : Program} {W : World} {base : Nat} {held : Bool}
/-- a cell that holds a []byte -/
theorem bytes_trod {fuel : Nat} {t e : TypeId} {u : Value} {y : DataW H × List MemPlace} (ht : P.underlying t = some (.slice e)) (he : P.underlying e = some (.int .u8)) (hc : P.cellsOf e = 1)
    (h : DataW.trod enc P W base (fun _ => true) held fuel t [u] = some y) :
    ∃ A len cap l, u = .slice A len cap ∧ len ≤ cap ∧ RB W A len l ∧ cap + 1 ≤ Rows.uptoBulk y.1 := by
  rcases open_ints ht he hc h with ⟨hcs, hx⟩ | ⟨a', len', cap', zs, hcs, _, hl, hm, hz, hx, hcell, hwz⟩
  · simp only [List.cons.injEq, and_true] at hcs
    subst hcs
    exact ⟨none, 0, 0, [], rfl, Nat.le_refl _, RB.nil _ _, by rw [hx]; simp [Rows.uptoBulk]⟩
  · simp only [List.cons.injEq, and_true] at hcs
    subst hcs
    simp only [if_true] at hz
    refine ⟨some a', len', cap', (zs.take len').map fun n => UInt8.ofNat n.toNat, rfl, hl, ⟨by simp; omega, fun hn => ?_⟩, ?_⟩
    · obtain ⟨b, off, rfl, hc'⟩ := ints_at hcell (by omega)
      have hlt : b < W.heap.size := World.block_lt_of_cell? W _ (hc' 0 (by omega))
      refine ⟨b, off, rfl, hlt, fun j c hj => ?_⟩
      have hjl : j < len' := by
        have := (List.getElem?_eq_some_iff.1 hj).1
        simp at this; omega
      rw [hc' j (by omega)]
      rw [List.getElem?_map, List.getElem?_take_of_lt hjl, List.getElem?_eq_getElem (by omega)] at hj
      simp only [Option.map_some, Option.some.injEq] at hj
      have hg : zs.getD j 0 = zs[j]'(by omega) := by rw [List.getD_eq_getElem?_getD, List.getElem?_eq_getElem (by omega)]; rfl
      rw [hg]
      have hw := hwz (zs[j]'(by omega)) (List.getElem_mem _)
      have hbd : 0 ≤ zs[j]'(by omega) ∧ zs[j]'(by omega) ≤ 255 := by simpa [Lit.wf, IntKind.min, IntKind.max, IntKind.signed, IntKind.bits] using hw
      subst hj
      simp only [byteV]
      congr 2
      rw [UInt8.toNat_ofNat_of_lt' (by show _ < 256; omega)]
      omega
    · rw [hx]
      have e2 : (lits (H := H) .u8 (zs.take len')).length + (lits (H := H) .u8 (zs.drop len')).length = cap' := by simp [lits]; omega
      have := bulk_slice (H := H) (lits .u8 (zs.take len')) (lits .u8 (zs.drop len'))
      simp only
      omega
end
section
variable {H : Type} {enc : TypeId × Value → H} {W : World} {base : Nat} {held : Bool}
theorem bulk_mem {l : List (DataW H)} {d : DataW H} (h : d ∈ l) : Rows.uptoBulk d ≤ Rows.uptoBulkAll l := by
  induction l with
  | nil => cases h
  | cons x r ih =>
    simp only [Rows.uptoBulkAll]
    rcases List.mem_cons.1 h with rfl | h
    · omega
    · have := ih h; omega
theorem open_ops {r : Reach} {b0 : Nat} {v : Value} {d : DataW H} {ps : List MemPlace} (hval : Value.okWide Try.prog W r b0 23 v) (h : DataW.Trod enc Try.prog W base (fun _ => true) held 23 v d ps) :
    ∃ A len cap l, v = .slice A len cap ∧ len ≤ cap ∧ OS W A len l ∧ (∀ o ∈ l, o.b.length ≤ Rows.uptoBulk d) ∧ len ≤ Rows.uptoBulk d := by
  obtain ⟨a, len, cap, rfl⟩ := okWide_slice Try.underlying23 hval
  obtain ⟨fuel, hf⟩ := h
  rcases open_slice Try.underlying23 hf with ⟨hcs, hx⟩ | ⟨a', len', cap', m, n, D, Pl, hcs, _, hl, hm, hmm, hx, hi⟩
  · simp [Value.cells] at hcs
    obtain ⟨rfl, rfl, rfl⟩ := hcs
    exact ⟨_, _, _, [], rfl, Nat.le_refl _, ⟨rfl, fun h => absurd h (by omega)⟩, fun x hx => by simp at hx, by omega⟩
  · simp [Value.cells] at hcs
    obtain ⟨rfl, rfl, rfl⟩ := hcs
    simp only [if_true] at hmm
    have hC : Try.prog.cellsOf 36 = 3 := by kernel_rfl
    rw [hC] at hi
    have cB : Try.prog.cellsOf 34 = 1 := by kernel_rfl
    have cO : Try.prog.cellsOf 4 = 1 := by kernel_rfl
    have each : ∀ i, i < len → ∃ o : LOp, (∃ B m c, W.cell? (a'.add (i * 3 + 0)) = some (.slice B m c) ∧ m ≤ c ∧ RB W B m o.b ∧ m + 1 ≤ Rows.uptoBulk (D i)) ∧ W.cell? (a'.add (i * 3 + 1)) = some (.bool o.drop) ∧ W.cell? (a'.add (i * 3 + 2)) = some (.bool o.two) := by
      intro i hil
      obtain ⟨cs', hc, ht'⟩ := hi i (by omega)
      obtain ⟨_, hcl, hat⟩ := World.cells?_some hc
      obtain ⟨y0, y1, y2, n', hy, _, h0, h1, h2⟩ := trod_struct3 Try.underlying36 ht'
      match cs', hcl, hat, h0, h1, h2 with
      | [c0, c1, c2], _, hat, h0, h1, h2 =>
        obtain ⟨B, m', c', l', rfl, hmc, hrb, hbk⟩ := bytes_trod Try.underlying34 Try.underlying5 (by kernel_rfl) (show DataW.trod enc Try.prog W base (fun _ => true) held n' 34 [c0] = some y0 by simpa [cB] using h0)
        obtain ⟨q1, e1, _⟩ := DataW.trod_bool (cs := [c1]) Try.underlying4 (by simpa [cO] using h1)
        obtain ⟨q2, e2, _⟩ := DataW.trod_bool (cs := [c2]) Try.underlying4 (by simpa [cO] using h2)
        simp only [List.cons.injEq, and_true] at e1 e2
        subst e1 e2
        have k0 := hat 0 (by simp)
        have k1 := hat 1 (by simp)
        have k2 := hat 2 (by simp)
        rw [Go.Deep.add_add] at k0 k1 k2
        refine ⟨⟨l', q1, q2⟩, ⟨B, m', c', k0, hmc, hrb, ?_⟩, k1, k2⟩
        simp only [Prod.mk.injEq] at hy
        rw [hy.1]
        simp only [Rows.uptoBulk, Rows.uptoBulkAll]
        omega
    have : Inhabited LOp := ⟨⟨[], false, false⟩⟩
    obtain ⟨F, hF⟩ := choose_lt each
    have hx1 := (Prod.mk.injEq .. ▸ hx).1
    have hlen : len ≤ Rows.uptoBulk d := by
      rw [hx1]
      have := bulk_slice (H := H) ((List.range len).map D) ((List.range (m - len)).map fun j => D (len + j))
      simp only [List.length_map, List.length_range] at this
      omega
    refine ⟨_, _, _, (List.range len).map F, rfl, hl, ⟨by simp, fun hp => ?_⟩, ?_, hlen⟩
    · obtain ⟨b, off, spot⟩ := a'
      obtain ⟨⟨_, _, _, h0, _⟩, _⟩ := hF 0 hp
      have hspot : spot = none := by simpa [Addr.add] using World.cell?_spot h0
      subst hspot
      have hadd : ∀ j, (⟨b, off, none⟩ : Addr).add j = ⟨b, off + j, none⟩ := fun j => by
        unfold Addr.add
        by_cases h : j = 0
        · subst h; simp
        · simp [h]
      have hlt : b < W.heap.size := by
        have := World.block_lt_of_cell? W _ h0
        rwa [hadd] at this
      refine ⟨b, off, rfl, hlt, fun j x hj => ?_⟩
      have hjl : j < len := by
        have := (List.getElem?_eq_some_iff.1 hj).1
        simpa using this
      rw [List.getElem?_map, List.getElem?_range hjl] at hj
      simp only [Option.map_some, Option.some.injEq] at hj
      subst hj
      obtain ⟨⟨B, m', c', k0, hmc, hrb, _⟩, k1, k2⟩ := hF j hjl
      rw [hadd] at k0 k1 k2
      simp only [← Nat.add_assoc, Nat.add_zero] at k0 k1 k2
      exact ⟨B, m', c', k0, hmc, hrb, k1, k2⟩
    · intro o ho
      obtain ⟨j, hj, rfl⟩ := List.mem_map.1 ho
      have hj' : j < len := by simpa using hj
      obtain ⟨⟨B, m', c', _, _, hrb, hbk⟩, _⟩ := hF j hj'
      have h1 := hrb.1
      have h2 := bulk_mem (l := (List.range len).map D) (List.mem_map.2 ⟨j, hj, rfl⟩)
      rw [hx1]
      simp only [Rows.uptoBulk]
      omega
end
end Go.Proofs.Ytjldbpnphilkaaa
