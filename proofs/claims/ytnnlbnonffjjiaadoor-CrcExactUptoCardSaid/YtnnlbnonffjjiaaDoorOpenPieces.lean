/- A [][]byte that came in: read as a list of lists; its bulk bounds their number and the sum of their lengths. -/
import Derived.Test.YtnnlbnonffjjiaaDoorLaw
import Derived.Deep.Matrix
namespace Go.Proofs.YtnnlbnonffjjiaaDoor
open Go.ChangeShapes Go.WideShapes Go.ChangeAt Go.RowKit Go.Deep
section
variable {H : Type} {enc : TypeId × Value → H} {P : Program} {W : World} {base : Nat} {held : Bool}
theorem bytes_of_cells {A : Option Addr} {L C : Nat} {Z : List Int} (hLC : L ≤ C) (hz : Z.length = C) (hwz : ∀ n ∈ Z, (Lit.int .u8 n).wf = true) (hA : A = none → C = 0)
    (hc : ∀ a', A = some a' → ∀ c, c < C → W.cell? (a'.add c) = some (.int .u8 (Z.getD c 0))) : RB W A L ((Z.take L).map fun n => UInt8.ofNat n.toNat) := by
  refine ⟨by simp; omega, fun hn => ?_⟩
  cases A with
  | none => have := hA rfl; omega
  | some a =>
    have hcell := hc a rfl
    obtain ⟨b, off, rfl, hc'⟩ := ints_at (zs := Z) (fun i hi => hcell i (by omega)) (by omega)
    have hlt : b < W.heap.size := World.block_lt_of_cell? W _ (hc' 0 (by omega))
    refine ⟨b, off, rfl, hlt, fun j c hj => ?_⟩
    have hjl : j < L := by
      have := (List.getElem?_eq_some_iff.1 hj).1
      simp at this; omega
    rw [hc' j (by omega)]
    rw [List.getElem?_map, List.getElem?_take_of_lt hjl, List.getElem?_eq_getElem (by omega)] at hj
    simp only [Option.map_some, Option.some.injEq] at hj
    have hg : Z.getD j 0 = Z[j]'(by omega) := by rw [List.getD_eq_getElem?_getD, List.getElem?_eq_getElem (by omega)]; rfl
    rw [hg]
    have hw := hwz (Z[j]'(by omega)) (List.getElem_mem _)
    have hbd : 0 ≤ Z[j]'(by omega) ∧ Z[j]'(by omega) ≤ 255 := by simpa [Lit.wf, IntKind.min, IntKind.max, IntKind.signed, IntKind.bits] using hw
    subst hj
    simp only [byteV]
    congr 2
    rw [UInt8.toNat_ofNat_of_lt' (by show _ < 256; omega)]
    omega
theorem bulk_intRow (A : Option Addr) (L C : Nat) (Z : List Int) (hLC : L ≤ C) (hz : Z.length = C) (hA : A = none → C = 0) : L + 1 ≤ Rows.uptoBulk (intRow (H := H) .u8 A L Z) := by
  cases A with
  | none => have := hA rfl; simp only [intRow, Rows.uptoBulk]; omega
  | some a =>
    have := bulk_slice (H := H) (lits .u8 (Z.take L)) (lits .u8 (Z.drop L))
    have e1 : (lits (H := H) .u8 (Z.take L)).length = L := by simp [lits]; omega
    simp only [intRow]
    omega
theorem bulk_rows {D : Nat → DataW H} {q : Nat → Nat} (n : Nat) (h : ∀ r, r < n → q r + 1 ≤ Rows.uptoBulk (D r)) : (((List.range n).map q).sum + n) ≤ Rows.uptoBulkAll ((List.range n).map D) := by
  induction n with
  | zero => simp [Rows.uptoBulkAll]
  | succ n ih =>
    rw [List.range_succ, List.map_append, List.map_append, bulk_append, List.sum_append]
    have := ih (fun r hr => h r (by omega))
    have := h n (by omega)
    simp only [List.map_cons, List.map_nil, List.sum_cons, List.sum_nil, Rows.uptoBulkAll]
    omega
theorem open_pieces {r : Reach} {b0 : Nat} {t e q : TypeId} {v : Value} {d : DataW H} {ps : List MemPlace} (ht : P.underlying t = some (.slice e)) (he : P.underlying e = some (.slice q)) (hq : P.underlying q = some (.int .u8)) (ce : P.cellsOf e = 1) (cq : P.cellsOf q = 1)
    (hval : Value.okWide P W r b0 t v) (h : DataW.Trod enc P W base (fun _ => true) held t v d ps) :
    ∃ A len cap l, v = .slice A len cap ∧ len ≤ cap ∧ cap ≤ maxLen ∧ RR W A len l ∧ cap ≤ Rows.uptoBulk d ∧ (l.map List.length).sum ≤ Rows.uptoBulk d := by
  obtain ⟨a, len, cap, rfl⟩ := okWide_slice ht hval
  obtain ⟨fuel, hf⟩ := h
  rcases open_int_rows ht he hq ce cq hf with ⟨hcs, hx⟩ | ⟨a', len', cap', A, L, C, Z, hcs, _, hl, hm, hx, hrow⟩
  · simp [Value.cells] at hcs
    obtain ⟨rfl, rfl, rfl⟩ := hcs
    exact ⟨_, _, _, [], rfl, Nat.le_refl _, Nat.zero_le _, ⟨rfl, fun h => absurd h (by omega)⟩, Nat.zero_le _, by simp⟩
  · simp [Value.cells] at hcs
    obtain ⟨rfl, rfl, rfl⟩ := hcs
    simp only [Prod.mk.injEq] at hx
    have hlenp : ∀ j, j < len → (((Z j).take (L j)).map fun n => UInt8.ofNat n.toNat).length = L j := fun j hj => by
      obtain ⟨_, h1, _, h2, _⟩ := hrow j (by omega)
      simp; omega
    refine ⟨_, _, _, (List.range len).map fun j => ((Z j).take (L j)).map fun n => UInt8.ofNat n.toNat, rfl, hl, hm, ⟨by simp, fun hn => ?_⟩, ?_, ?_⟩
    · obtain ⟨b, off, spot⟩ := a'
      have h0 := (hrow 0 (by omega)).1
      have hspot : spot = none := by simpa [Addr.add] using World.cell?_spot h0
      subst hspot
      have hadd : ∀ j, (⟨b, off, none⟩ : Addr).add j = ⟨b, off + j, none⟩ := fun j => by
        unfold Addr.add
        by_cases h : j = 0
        · subst h; simp
        · simp [h]
      have hlt : b < W.heap.size := by
        have := World.block_lt_of_cell? W _ h0
        rwa [hadd] at this
      refine ⟨b, off, rfl, hlt, fun j p hj => ?_⟩
      have hjl : j < len := by
        have := (List.getElem?_eq_some_iff.1 hj).1
        simpa using this
      rw [List.getElem?_map, List.getElem?_range hjl] at hj
      simp only [Option.map_some, Option.some.injEq] at hj
      subst hj
      obtain ⟨h1, h2, h3, h4, h5, h6, h7⟩ := hrow j (by omega)
      rw [hlenp j hjl]
      refine ⟨A j, C j, h2, by rw [← hadd]; exact h1, bytes_of_cells h2 h4 h5 h6 fun a' ha c hc => (h7 a' ha).2 c hc⟩
    · rw [hx.1]
      have := bulk_slice (H := H) ((List.range len).map fun r => intRow .u8 (A r) (L r) (Z r)) ((List.range (cap - len)).map fun j => intRow .u8 (A (len + j)) (L (len + j)) (Z (len + j)))
      simp only [List.length_map, List.length_range] at this
      omega
    · rw [hx.1]
      have hb := bulk_rows (H := H) (D := fun r => intRow .u8 (A r) (L r) (Z r)) (q := L) len (fun r hr => by
        obtain ⟨_, h2, _, h4, _, h6, _⟩ := hrow r (by omega)
        exact bulk_intRow (A r) (L r) (C r) (Z r) h2 h4 h6)
      have e : (((List.range len).map fun j => ((Z j).take (L j)).map fun n => UInt8.ofNat n.toNat).map List.length) = (List.range len).map L := by
        rw [List.map_map]
        refine List.map_congr_left fun j hj => ?_
        exact hlenp j (by simpa using hj)
      rw [e]
      simp only [Rows.uptoBulk]
      omega
end
end Go.Proofs.YtnnlbnonffjjiaaDoor
