/- What seen answered, file by file; == of two files; a script that came in (package heronlaw14). -/
import Derived.Test.YthhbfjhgmdnpbabBegins
import Derived.Test.YthhbfjhgmdnpbabDoesAll
import Derived.Laws.StructEq
namespace Go.Proofs.Ythhbfjhgmdnpbab
open Go.RowKit Go.Maps
def fvL (f : Fv) : List Value := [.int .i64 f.i, .int .i64 f.s, .int .i64 f.g, .int .i64 f.n, .string (strB f.b)]
theorem fileV_fv (d : Dk) (i : Int) : fileV d i = fvL (fvOf d i) := by
  unfold fileV fvL fvOf
  cases d.fs i <;> rfl
theorem seenV_len (d : Dk) : ∀ m, (seenV d m).length = m * 5
  | 0 => rfl
  | m + 1 => by rw [seenV_succ, List.length_append, seenV_len d m, fileV_len]; omega
theorem seenV_at (d : Dk) : ∀ (m j i : Nat), j < m → i < 5 → (seenV d m)[j * 5 + i]? = (fvL (fvOf d ((j : Int) + 1)))[i]?
  | 0, _, _, h, _ => absurd h (Nat.not_lt_zero _)
  | m + 1, j, i, h, hi => by
    rw [seenV_succ]
    by_cases hj : j < m
    · rw [List.getElem?_append_left (by rw [seenV_len]; omega)]
      exact seenV_at d m j i hj hi
    · obtain rfl : j = m := by omega
      rw [List.getElem?_append_right (by rw [seenV_len]; omega), seenV_len, show j * 5 + i - j * 5 = i from by omega, fileV_fv]
/-- the row (g, m) is what seen told of the disk d -/
theorem seen_cells {W : World} {base g c m : Nat} {d : Dk} (h : W.ownsRow base 41 5 (.slice (some ⟨g, 0, none⟩) m c) m (seenV d m)) {j : Nat} (hj : j < m) :
    W.cell? ⟨g, j * 5, none⟩ = some (.int .i64 (fvOf d ((j : Int) + 1)).i) ∧ W.cell? ⟨g, j * 5 + 1, none⟩ = some (.int .i64 (fvOf d ((j : Int) + 1)).s) ∧ W.cell? ⟨g, j * 5 + 2, none⟩ = some (.int .i64 (fvOf d ((j : Int) + 1)).g) ∧
    W.cell? ⟨g, j * 5 + 3, none⟩ = some (.int .i64 (fvOf d ((j : Int) + 1)).n) ∧ W.cell? ⟨g, j * 5 + 4, none⟩ = some (.string (strB (fvOf d ((j : Int) + 1)).b)) := by
  have key : ∀ i, i < 5 → W.cell? ⟨g, j * 5 + i, none⟩ = (fvL (fvOf d ((j : Int) + 1)))[i]? := fun i hi => by
    rw [World.ownsRow.cellAt h (j * 5 + i) (by omega), seenV_at d m j i hj hi]
  exact ⟨key 0 (by decide), key 1 (by decide), key 2 (by decide), key 3 (by decide), key 4 (by decide)⟩
def eqF (a b : Fv) : Bool := ((a.i == b.i) && ((a.s == b.s) && ((a.g == b.g) && (a.n == b.n)))) && ((strB a.b).toList == (strB b.b).toList)
theorem eqF_self (a : Fv) : eqF a a = true := by unfold eqF; simp
theorem eqF_iff (a b : Fv) : eqF a b = true ↔ a = b := by
  obtain ⟨a0, a1, a2, a3, a4⟩ := a
  obtain ⟨b0, b1, b2, b3, b4⟩ := b
  unfold eqF
  simp only [strB_list]
  simp
  constructor
  · rintro ⟨⟨h1, h2, h3, h4⟩, h5⟩; exact ⟨h1, h2, h3, h4, h5⟩
  · rintro ⟨h1, h2, h3, h4, h5⟩; exact ⟨⟨h1, h2, h3, h4⟩, h5⟩
theorem eql_file (a b : Fv) (w : World) : (Op.equalIn 10000 41 (fvV a) (fvV b)).run Try.prog w = .ok (eqF a b) w := by
  obtain ⟨a0, a1, a2, a3, a4⟩ := a
  obtain ⟨b0, b1, b2, b3, b4⟩ := b
  unfold fvV eqF
  have u3 := Try.underlying3
  have u4 := Try.underlying9
  have hS : Try.prog.underlying 41 = some (.struct (Try.prog.fieldsOf 41)) := by kernel_rfl
  have hp : Try.prog.stoodInHeld 41 = false := by kernel_rfl
  have hS2 : Try.prog.underlying 39 = some (.struct (Try.prog.fieldsOf 39)) := by kernel_rfl
  have hp2 : Try.prog.stoodInHeld 39 = false := by kernel_rfl
  have hL := fun xs ys w => run_equalIn_agg (P := Try.prog) w 9998 39 xs ys hS2 hp2
  rw [show (10000 : Nat) = 9999 + 1 from rfl, run_equalIn_agg w 9999 41 _ _ hS hp]
  simp only [Program.fieldsOf, Try.underlying41, Try.underlying39] at hL ⊢
  clear hS hp hS2 hp2
  go_simp
  repeat' split
  all_goals simp [*]
theorem neq_file (a b : Fv) (w : World) : (binOp .neq 41 (fvV a) (fvV b)).run Try.prog w = .ok (.bool (!eqF a b)) w := by
  have h := eql_file a b w
  unfold fvV at h ⊢
  rw [run_neq_struct, h]; rfl
theorem guard_file : Try.prog.eqGuardType Try.prog.depth 41 = false := by kernel_rfl
/-- the slice (A, n) reads as calls -/
def SO (W : World) (A : Option Addr) (n : Nat) (l : List O14) : Prop :=
  l.length = n ∧ (∀ o ∈ l, o.In W ∧ (∃ x, o.c1 = .int .i64 x) ∧ (∃ x, o.c6 = .int .i64 x) ∧ (∃ x, o.c7 = .int .i64 x) ∧ (∃ x, o.c8 = .int .i64 x) ∧ ∃ x, o.c9 = .int .i64 x) ∧
  (0 < n → ∃ b off, A = some ⟨b, off, none⟩ ∧ b < W.heap.size ∧ ∀ (j : Nat) (o : O14), l[j]? = some o → ∀ (i : Nat) (v : Value), (oC o)[i]? = some v → W.cell? ⟨b, off + j * 11 + i, none⟩ = some v)
end Go.Proofs.Ythhbfjhgmdnpbab
