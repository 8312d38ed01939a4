/- An Item that came in (by value). -/
import Derived.Test.YtngaohmfedoeeaaLaw
import Derived.Test.YtngaohmfedoeeaaRecApart
import Derived.Lib.SmallJoins
import Derived.ChangeMaps5
namespace Go.Proofs.Ytngaohmfedoeeaa
open Go.ChangeShapes Go.WideShapes Go.ChangeAt Go.RowKit
theorem u64_bounds {x : Int} (w : (Lit.int .u64 x).wf = true) : 0 ≤ x ∧ x < 18446744073709551616 := by
  have h : 0 ≤ x ∧ x ≤ 18446744073709551615 := by simpa [Lit.wf, IntKind.min, IntKind.max, IntKind.signed, IntKind.bits] using w
  omega
section
variable {H : Type} {enc : TypeId × Value → H} {W : World} {base : Nat} {held : Bool}
theorem open_item {r : Reach} {b0 : Nat} {v : Value} {d : DataW H} {ps : List MemPlace} (hval : Value.okWide Try.prog W r b0 58 v) (h : DataW.Trod enc Try.prog W base (fun _ => true) held 58 v d ps) :
    ∃ (k n : Int) (x : Nat) (s : ByteArray), v = .agg (itemV k n x s) ∧ x < 18446744073709551616 ∧ s.size ≤ Rows.uptoBulk d := by
  obtain ⟨v0, v1, v2, v3, y0, y1, y2, y3, m, rfl, rfl, _, h0, h1, h2, h3⟩ := Joins.open_agg4 Try.underlying58 (by kernel_rfl) (by kernel_rfl) hval h
  obtain ⟨k, e0, _, _⟩ := DataW.trod_int Try.underlying3 h0
  obtain ⟨n, e1, _, _⟩ := DataW.trod_int Try.underlying3 h1
  obtain ⟨x, e2, _, wx⟩ := DataW.trod_int Try.underlying34 h2
  obtain ⟨s, e3, hx, _⟩ := DataW.trod_string Try.underlying9 h3
  simp only [List.cons.injEq, and_true] at e0 e1 e2 e3
  subst e0 e1 e2 e3
  obtain ⟨hx0, hx1⟩ := u64_bounds wx
  obtain ⟨x, rfl⟩ := Int.eq_ofNat_of_zero_le hx0
  refine ⟨k, n, x, s, rfl, by omega, ?_⟩
  rw [hx]
  simp only [Rows.uptoBulk, Rows.uptoBulkAll]
  have : s.data.toList.length = s.size := rfl
  omega
end
end Go.Proofs.Ytngaohmfedoeeaa
