/- append to a full slice of bytes that is only read. -/
import Derived.Test.YtnglgppdkohhpaaDoorTbRef
import Derived.ArgAppend
import Derived.Lib.SmallJoins
namespace Go.Proofs.YtnglgppdkohhpaaDoor
open Go.RowKit
theorem append_full {w : World} {ops : Array Oper} {rest : List Oper} {o : Oper} {a : Act} {Q : Exit → Act → World → Prop} (hgd : o.guard = none) (s x : Operand)
    (ho : o.op = .call { callee := .builtin .append, args := #[s, x], argTypes := #[28, 28] })
    (b off n cap : Nat) (l : List UInt8) (hs : a.eval s = .slice (some ⟨b, off, none⟩) n cap) (hr : RB w (some ⟨b, off, none⟩) n l) (b2 off2 m c : Nat) (l2 : List UInt8) (hx : a.eval x = .slice (some ⟨b2, off2, none⟩) m c) (hr2 : RB w (some ⟨b2, off2, none⟩) m l2)
    (hfull : cap < n + m) (hlen : n + m ≤ 140737488355328)
    (h : ∀ v' w', OB w' w.heap.size v' (l ++ l2) → w.grownBy w' none → wpList Tryd.prog ops Q rest (a.put o.dst v') w') : wpList Tryd.prog ops Q (o :: rest) a w := by
  obtain ⟨i0, hi, hz0, hz1, hz2⟩ := info_parts info8
  have hcell : ∀ (A : Addr) (k : Nat) (ll : List UInt8), RB w (some A) k ll → ∀ j u, (ll.map byteV)[j]? = some u → w.cell? (A.add j) = some u := fun A k ll hrr j u hj => by
    rw [List.getElem?_map] at hj
    cases hq : ll[j]? with
    | none => rw [hq] at hj; cases hj
    | some c' =>
      rw [hq] at hj
      obtain rfl := Option.some.inj hj
      have hjl := (List.getElem?_eq_some_iff.1 hq).1
      obtain ⟨b', off', e, hb, hc⟩ := hrr.2 (by have := hrr.1; omega)
      obtain rfl := Option.some.inj e
      exact cell_add (hc j c' hq)
  refine wpList_append_grows w hgd s x 28 ho 5 i0 (.int .u8 0) 1 1 Tryd.underlying28 hi hz0 hz1 hz2 rfl (by omega) (some ⟨b, off, none⟩) n cap (l.map byteV) hs (fun h => by cases h) (by simp [hr.1]) (fun A hA => by obtain rfl := Option.some.inj hA; exact hcell _ n l hr) ⟨b2, off2, none⟩ m c (l2.map byteV) hx (by simp [hr2.1]) (hcell _ m l2 hr2) (oneCell_bytes l2) hfull (by simp only [maxLen]; omega) (by omega) ?_
  intro v' w' h1 h2
  refine h v' w' ?_ h2
  unfold OB
  rw [List.length_append, List.map_append, hr.1, hr2.1]
  exact h1
end Go.Proofs.YtnglgppdkohhpaaDoor
