/- Two arrays of 256 numbers, by value, held against each other; a table laid out by a literal. -/
import Derived.Test.YtnglgppdkohhpaaDoorTbDec
import Derived.ChangeKeysEq
namespace Go.Proofs.YtnglgppdkohhpaaDoor
open Go.RowKit
theorem cells_int : Tryd.prog.cellsOf 3 = 1 := by kernel_rfl
theorem eqItems_ints (w : World) (d : Nat) (xs ys : List Int) : ∀ (is : List Nat), (∀ i ∈ is, i < xs.length ∧ i < ys.length) → (Op.eqItems (d + 1) 3 (Tryd.prog.cellsOf 3) (xs.map iV).toArray (ys.map iV).toArray is).run Tryd.prog w = .ok (is.all fun i => xs.getD i 0 == ys.getD i 0) w
  | [], _ => by simp [Op.eqItems]
  | i :: is, h => by
    have hi := h i (by simp)
    have ih := eqItems_ints w d xs ys is (fun j hj => h j (by simp [hj]))
    have p1 : (part 3 (xs.map iV).toArray (i * Tryd.prog.cellsOf 3)).run Tryd.prog w = .ok (iV (xs.getD i 0)) w := by
      rw [cells_int]; simp [part, isAgg, run_underlying Tryd.underlying3, List.getD, List.getElem?_eq_getElem hi.1]
    have p2 : (part 3 (ys.map iV).toArray (i * Tryd.prog.cellsOf 3)).run Tryd.prog w = .ok (iV (ys.getD i 0)) w := by
      rw [cells_int]; simp [part, isAgg, run_underlying Tryd.underlying3, List.getD, List.getElem?_eq_getElem hi.2]
    have p3 : (Op.equalIn (d + 1) 3 (iV (xs.getD i 0)) (iV (ys.getD i 0))).run Tryd.prog w = .ok (xs.getD i 0 == ys.getD i 0) w := run_equalIn_int w d _ .i64 .i64 _ _ Tryd.underlying3
    simp only [Op.eqItems, Sem.run_bind, p1, p2, p3, Result.andThen_ok, List.all_cons]
    cases (xs.getD i 0 == ys.getD i 0)
    · simp
    · simpa using ih
theorem all_getD (xs ys : List Int) (h : xs.length = ys.length) : ((List.range xs.length).all fun i => xs.getD i 0 == ys.getD i 0) = (xs == ys) := by
  rw [Bool.eq_iff_iff, List.all_eq_true, beq_iff_eq]
  constructor
  · intro hh
    apply List.ext_getElem h
    intro i h1 h2
    have := hh i (List.mem_range.2 h1)
    rw [beq_iff_eq, List.getD_eq_getElem?_getD, List.getD_eq_getElem?_getD, List.getElem?_eq_getElem h1, List.getElem?_eq_getElem h2] at this
    simpa using this
  · rintro rfl i _
    exact beq_self_eq_true _
theorem neq_cls (xs ys : List Int) (hx : xs.length = 256) (hy : ys.length = 256) (w : World) : (binOp .neq 22 (.agg (xs.map iV).toArray) (.agg (ys.map iV).toArray)).run Tryd.prog w = .ok (.bool (!(xs == ys))) w := by
  obtain ⟨i0, hi, _⟩ := info_parts (show (Tryd.prog.info? 3).map (fun i => (i.zero, i.size, i.bytes)) = some (some (.int .i64 0), 1, 8) by kernel_rfl)
  rw [run_neq_struct, show (10000 : Nat) = 9999 + 1 from rfl, run_equalIn_array w 9999 _ _ Tryd.underlying22 hi, show (9999 : Nat) = 9998 + 1 from rfl, eqItems_ints w 9998 xs ys _ (fun i hi => by have := List.mem_range.1 hi; omega)]
  have := all_getD xs ys (by omega)
  rw [hx] at this
  rw [this]; rfl
theorem guard_cls : Tryd.prog.eqGuardType Tryd.prog.depth 22 = false := by kernel_rfl
/-- DFA{Next: .., Found: .., Ends: ..} -/
theorem build3 (a b c : Option Addr) (n1 c1 n2 c2 n3 c3 : Nat) (w : World) : (Instr.build 26 #[(1, .slice a n1 c1), (2, .slice b n2 c2), (3, .slice c n3 c3)]).run Tryd.prog w = .ok (.agg (dcells zcls (.slice a n1 c1) (.slice b n2 c2) (.slice c n3 c3))) w := by
  have hz := zero_run w
  have hc : (Value.agg (dcells zcls nilV nilV nilV)).cells = dcells zcls nilV nilV nilV := rfl
  unfold Instr.build
  simp only [Sem.run_bind, hz, Result.andThen_ok, run_underlying Tryd.underlying26, hc]
  have s1 : ∀ w, (sizeOf 22).run Tryd.prog w = .ok 256 w := fun w => by
    cases hq : Tryd.prog.info? 22 with
    | none => have := size256; rw [hq] at this; cases this
    | some i => have := size256; rw [hq] at this; simp [sizeOf, typeInfo, hq]; simpa using this
  have s2 : ∀ w, (sizeOf 23).run Tryd.prog w = .ok 1 w := fun w => by
    have h : (Tryd.prog.info? 23).map (·.size) = some 1 := by kernel_rfl
    cases hq : Tryd.prog.info? 23 with
    | none => rw [hq] at h; cases h
    | some i => rw [hq] at h; simp [sizeOf, typeInfo, hq]; simpa using h
  have s3 : ∀ w, (sizeOf 24).run Tryd.prog w = .ok 1 w := fun w => by
    have h : (Tryd.prog.info? 24).map (·.size) = some 1 := by kernel_rfl
    cases hq : Tryd.prog.info? 24 with
    | none => rw [hq] at h; cases h
    | some i => rw [hq] at h; simp [sizeOf, typeInfo, hq]; simpa using h
  have hd := dcells_set (cl := zcls) (vn := nilV) (vf := nilV) (ve := nilV) zlen (.slice a n1 c1) (.slice b n2 c2) (.slice c n3 c3)
  have hsz := zsize
  simp [Instr.fill, s1, s2, s3, Value.cells, hsz, hd]
end Go.Proofs.YtnglgppdkohhpaaDoor
