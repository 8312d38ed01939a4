/- A []Op of layer 2 that came in. -/
import Derived.Test.YtngaohmfedoeeaaLaw
import Derived.Test.YtngaohmfedoeeaaRecMain
import Derived.Lib.SmallJoins
import Derived.ChangeMaps5
import Derived.Deep.Slices
import Derived.Deep.Matrix
namespace Go.Proofs.Ytngaohmfedoeeaa
open Go.ChangeShapes Go.WideShapes Go.ChangeAt Go.RowKit Go.Deep
theorem u64_bounds {x : Int} (w : (Lit.int .u64 x).wf = true) : 0 ≤ x ∧ x < 18446744073709551616 := by
  have h : 0 ≤ x ∧ x ≤ 18446744073709551615 := by simpa [Lit.wf, IntKind.min, IntKind.max, IntKind.signed, IntKind.bits] using w
  omega
section
variable {H : Type} {enc : TypeId × Value → H} {W : World} {base : Nat} {held : Bool}
theorem bulk_rows' {D : Nat → DataW H} {q : Nat → Nat} (n : Nat) (h : ∀ r, r < n → q r + 1 ≤ Rows.uptoBulk (D r)) : (((List.range n).map q).sum + n) ≤ Rows.uptoBulkAll ((List.range n).map D) := by
  induction n with
  | zero => simp [Rows.uptoBulkAll]
  | succ n ih =>
    rw [List.range_succ, List.map_append, List.map_append, bulk_append, List.sum_append]
    have := ih (fun r hr => h r (by omega))
    have := h n (by omega)
    simp only [List.map_cons, List.map_nil, List.sum_cons, List.sum_nil, Rows.uptoBulkAll]
    omega
theorem le_sum_of (l : List Nat) {a : Nat} (h : a ∈ l) : a ≤ l.sum := by
  induction l with
  | nil => cases h
  | cons b l ih =>
    rw [List.sum_cons]
    rcases List.mem_cons.1 h with rfl | h
    · omega
    · have := ih h; omega
theorem open_rops {r : Reach} {b0 : Nat} {v : Value} {d : DataW H} {ps : List MemPlace} (hval : Value.okWide Try.prog W r b0 23 v) (h : DataW.Trod enc Try.prog W base (fun _ => true) held 23 v d ps) :
    ∃ A len cap l, v = .slice A len cap ∧ len ≤ cap ∧ (Rows.uptoBulk d ≤ 1048576 → RSl W A len l) ∧ len ≤ Rows.uptoBulk d := by
  obtain ⟨a, len, cap, rfl⟩ := okWide_slice Try.underlying23 hval
  obtain ⟨fuel, hf⟩ := h
  rcases open_slice Try.underlying23 hf with ⟨hcs, hx⟩ | ⟨a', len', cap', m, n, D, Pl, hcs, _, hl, hm, hmm, hx, hi⟩
  · simp [Value.cells] at hcs
    obtain ⟨rfl, rfl, rfl⟩ := hcs
    exact ⟨_, _, _, [], rfl, Nat.le_refl _, fun _ => ⟨rfl, fun x hx => by simp at hx, fun h => absurd h (by omega)⟩, by omega⟩
  · simp [Value.cells] at hcs
    obtain ⟨rfl, rfl, rfl⟩ := hcs
    simp only [if_true] at hmm
    have hC : Try.prog.cellsOf 36 = 4 := by kernel_rfl
    rw [hC] at hi
    have cI : Try.prog.cellsOf 3 = 1 := by kernel_rfl
    have cU : Try.prog.cellsOf 34 = 1 := by kernel_rfl
    have cS : Try.prog.cellsOf 9 = 1 := by kernel_rfl
    have each : ∀ i, i < len → ∃ x : ROp, (W.cell? (a'.add (i * 4 + 0)) = some (.int .i64 x.kind) ∧ W.cell? (a'.add (i * 4 + 1)) = some (.int .i64 x.n) ∧ W.cell? (a'.add (i * 4 + 2)) = some (.int .u64 (x.v : Int)) ∧ W.cell? (a'.add (i * 4 + 3)) = some (.string x.s)) ∧ x.v < 18446744073709551616 ∧ x.s.size + 1 ≤ Rows.uptoBulk (D i) := by
      intro i hil
      obtain ⟨cs', hc, ht'⟩ := hi i (by omega)
      obtain ⟨_, hcl, hat⟩ := World.cells?_some hc
      obtain ⟨y0, y1, y2, y3, n', hy, _, h0, h1, h2, h3⟩ := Joins.trod_struct4 Try.underlying36 ht'
      match cs', hcl, hat, h0, h1, h2, h3 with
      | [c0, c1, c2, c3], _, hat, h0, h1, h2, h3 =>
        obtain ⟨k, e0, _, _⟩ := DataW.trod_int (cs := [c0]) Try.underlying3 (by simpa [cI] using h0)
        obtain ⟨n2, e1, _, _⟩ := DataW.trod_int (cs := [c1]) Try.underlying3 (by simpa [cI] using h1)
        obtain ⟨x, e2, _, wx⟩ := DataW.trod_int (cs := [c2]) Try.underlying34 (by simpa [cU] using h2)
        obtain ⟨s, e3, hx3, _⟩ := DataW.trod_string (cs := [c3]) Try.underlying9 (by simpa [cS] using h3)
        simp only [List.cons.injEq, and_true] at e0 e1 e2 e3
        subst e0 e1 e2 e3
        obtain ⟨hx0, hx1⟩ := u64_bounds wx
        obtain ⟨x, rfl⟩ := Int.eq_ofNat_of_zero_le hx0
        have q0 := hat 0 (by simp)
        have q1 := hat 1 (by simp)
        have q2 := hat 2 (by simp)
        have q3 := hat 3 (by simp)
        rw [Go.Deep.add_add] at q0 q1 q2 q3
        refine ⟨⟨k, n2, x, s⟩, ⟨q0, q1, q2, q3⟩, by simp; omega, ?_⟩
        simp only [Prod.mk.injEq] at hy
        rw [hy.1, hx3]
        simp only [Rows.uptoBulk, Rows.uptoBulkAll]
        have : s.data.toList.length = s.size := rfl
        omega
    have : Inhabited ROp := ⟨⟨0, 0, 0, ByteArray.empty⟩⟩
    obtain ⟨F, hF⟩ := choose_lt each
    have hbk := bulk_rows' (D := D) (q := fun i => (F i).s.size) len (fun r hr => (hF r hr).2.2)
    have hbd : Rows.uptoBulkAll ((List.range len).map D) ≤ Rows.uptoBulk d := by
      have hx1 := (Prod.mk.injEq .. ▸ hx).1
      rw [hx1]; simp only [Rows.uptoBulk]; omega
    refine ⟨_, _, _, (List.range len).map F, rfl, hl, fun hbb => ⟨by simp, fun x hxm => ?_, fun hp => ?_⟩, by omega⟩
    · obtain ⟨j, hj, rfl⟩ := List.mem_map.1 hxm
      have hj' : j < len := by simpa using hj
      refine ⟨(hF j hj').2.1, ?_⟩
      have h1 : (F j).s.size ≤ ((List.range len).map fun i => (F i).s.size).sum := le_sum_of _ (List.mem_map.2 ⟨j, hj, rfl⟩)
      omega
    · obtain ⟨b, off, spot⟩ := a'
      have h0 := (hF 0 hp).1.1
      have hspot : spot = none := by simpa [Addr.add] using World.cell?_spot h0
      subst hspot
      have hadd : ∀ j, (⟨b, off, none⟩ : Addr).add j = ⟨b, off + j, none⟩ := fun j => by
        unfold Addr.add
        by_cases h : j = 0
        · subst h; simp
        · simp [h]
      have hlt : b < W.heap.size := by
        have := World.block_lt_of_cell? W _ h0
        rwa [hadd] at this
      refine ⟨b, off, rfl, hlt, fun j x hj => ?_⟩
      have hjl : j < len := by
        have := (List.getElem?_eq_some_iff.1 hj).1
        simpa using this
      rw [List.getElem?_map, List.getElem?_range hjl] at hj
      simp only [Option.map_some, Option.some.injEq] at hj
      subst hj
      obtain ⟨q0, q1, q2, q3⟩ := (hF j hjl).1
      rw [hadd] at q0 q1 q2 q3
      simp only [← Nat.add_assoc, Nat.add_zero] at q0 q1 q2 q3
      exact ⟨q0, q1, q2, q3⟩
end
end Go.Proofs.Ytngaohmfedoeeaa
