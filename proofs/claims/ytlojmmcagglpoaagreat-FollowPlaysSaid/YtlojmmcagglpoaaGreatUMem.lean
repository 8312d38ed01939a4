/- Bytes of the call's own: append and copy, as laws for the walk. -/
import Derived.Test.YtlojmmcagglpoaaGreatUBase
import Derived.Test.YtlojmmcagglpoaaGreatRows
import Derived.Maps.AppendAt
import Derived.Deep.AppendLies
import Derived.RegionTactic
import Derived.OwnWalk
import Derived.WalkKit
import Derived.WalkSpells
import Derived.Deep.DeepFit
import Derived.Lib.Hide
import Derived.Laws.CopyOwn
namespace Go.Proofs.YtlojmmcagglpoaaGreat
open Go.RowKit
theorem oneCell_bytes (l : List UInt8) : ∀ u ∈ l.map byteV, u.oneCell' = true := by
  intro u hu
  obtain ⟨c, _, rfl⟩ := List.mem_map.1 hu
  rfl
theorem info8 : (Tryz.prog.info? 5).map (fun i => (i.zero, i.size, i.bytes)) = some (some (.int .u8 0), 1, 1) := by kernel_rfl
def OB (w : World) (base : Nat) (v : Value) (l : List UInt8) : Prop := w.ownsRow base 5 1 v l.length (l.map byteV)
theorem OB.nil (w : World) (base : Nat) : OB w base (.slice none 0 0) [] := World.ownsRow_nil w base _ 1
theorem OB.fresh {w : World} {base : Nat} {g : Nat} (hg : g = w.heap.size) (hb : base ≤ w.heap.size) : OB (w.alloc (.cells #[] 5)) base (.slice (some ⟨g, 0, none⟩) 0 0) [] := by
  subst hg
  exact World.ownsRow_made w #[] 0 hb (Nat.zero_le _) rfl
theorem OB.lt {w : World} {base : Nat} {v : Value} {l : List UInt8} (h : OB w base v l) : ∀ k, v.ownBlock = some k → base ≤ k ∧ k < w.heap.size := World.ownsRow.lt h
theorem OB.keep {w w' : World} {base : Nat} {v : Value} {l : List UInt8} (h : OB w base v l) (hb : Below w.heap.size w w') : OB w' base v l :=
  World.ownsRow.kept (row := none) h ⟨hb.os, hb.tape, hb.output, hb.size, fun k hk _ => hb.block k hk⟩ (by
    cases v.ownBlock with
    | none => exact .inl rfl
    | some k => exact .inr (by simp))
theorem OB.less {w : World} {base base' : Nat} {v : Value} {l : List UInt8} (h : OB w base v l) (hb : base' ≤ base) : OB w base' v l :=
  ⟨h.1, h.2.elim Or.inl (fun ⟨g, cap, cur, hv, hg, r⟩ => Or.inr ⟨g, cap, cur, hv, Nat.le_trans hb hg, r⟩)⟩
theorem OB.form {w : World} {base : Nat} {v : Value} {l : List UInt8} (h : OB w base v l) :
    ∃ A cap, v = .slice A l.length cap ∧ l.length ≤ cap ∧ cap ≤ maxLen ∧ RB w A l.length l := by
  rcases h.2 with ⟨rfl, h0⟩ | ⟨g, cap, cur, rfl, hb, hh, h1, h2, h3, h4⟩
  · have : l = [] := List.eq_nil_of_length_eq_zero h0
    subst this
    exact ⟨none, 0, rfl, Nat.le_refl _, Nat.zero_le _, RB.nil _ _⟩
  · have hlt : g < w.heap.size := by
      rcases Nat.lt_or_ge g w.heap.size with h | h
      · exact h
      · rw [Array.getElem?_eq_none h] at hh; cases hh
    refine ⟨some ⟨g, 0, none⟩, cap, rfl, h1, h2, rfl, fun _ => ⟨g, 0, rfl, hlt, fun j c hj => ?_⟩⟩
    have := World.ownsRow.cellAt h j (by have := (List.getElem?_eq_some_iff.1 hj).1; omega)
    rw [Nat.zero_add, this, List.getElem?_map, hj]; rfl
theorem OB.len {w : World} {base n cap : Nat} {A : Option Addr} {l : List UInt8} (h : OB w base (.slice A n cap) l) : l.length = n := by
  obtain ⟨_, _, e, _⟩ := h.form
  injection e with _ e _
  exact e.symm
theorem OB.drew {w : World} {base : Nat} {v : Value} {l : List UInt8} (h : OB w base v l) : OB w.drew base v l := h
theorem run_append_bytes (w : World) (base : Nat) (ty : TypeId) (v : Value) (l : List UInt8) (hown : OB w base v l)
    (A : Option Addr) (n c : Nat) (l2 : List UInt8) (hr : RB w A n l2) (hlen : l.length + n ≤ 140737488355328) (hbase : base ≤ w.heap.size) :
    ∃ v' w', (Builtin.append_ #[61, 61] ty #[v, .slice A n c]).run Tryz.prog w = .ok v' w' ∧ OB w' base v' (l ++ l2) ∧ w.grownBy w' v.ownBlock ∧ (v'.ownBlock = v.ownBlock ∨ v'.ownBlock = some w.heap.size) := by
  obtain ⟨i0, hi, hz0, hz1, hz2⟩ := info_parts info8
  cases A with
  | none =>
    have h0 : n = 0 := by
      rcases Nat.eq_zero_or_pos n with h | h
      · exact h
      · obtain ⟨b, off, e, _⟩ := hr.2 h; cases e
    subst h0
    obtain rfl : l2 = [] := List.eq_nil_of_length_eq_zero hr.1
    refine ⟨v, w, ?_, by simpa using hown, World.grownBy.refl w _, .inl rfl⟩
    rcases hown.2 with ⟨rfl, _⟩ | ⟨g, cap, cur, rfl, _, _, hnc, _⟩
    · simp [Builtin.append_, run_underlying Tryz.underlying61, sizeOf, typeInfo, hi, Builtin.lenOf, Builtin.firstCells]
    · simp [Builtin.append_, run_underlying Tryz.underlying61, sizeOf, typeInfo, hi, Builtin.lenOf, Builtin.firstCells, hnc, storeCells]
  | some ad =>
    obtain ⟨v', w', h1, h2, h3, _, h5⟩ := run_append_own_at (P := Tryz.prog) w base 61 ty 5 i0 (.int .u8 0) 1 1 Tryz.underlying61 hi hz0 hz1 hz2 rfl (by omega) v l.length (l.map byteV) hown ad n c (l2.map byteV) (by simp [hr.1]) (fun j u hj => by
        rw [List.getElem?_map] at hj
        cases hq : l2[j]? with
        | none => rw [hq] at hj; cases hj
        | some c' =>
          rw [hq] at hj
          obtain rfl := Option.some.inj hj
          have hjl := (List.getElem?_eq_some_iff.1 hq).1
          obtain ⟨b, off, e, hb, hc⟩ := hr.2 (by have := hr.1; omega)
          obtain rfl := Option.some.inj e
          have := hc j c' hq
          unfold Addr.add
          by_cases hj0 : j = 0
          · subst hj0; simpa using this
          · simpa [hj0] using this) (oneCell_bytes l2) (by simp only [maxLen]; omega) (by omega) hbase
    refine ⟨v', w', h1, ?_, h3, h5⟩
    unfold OB
    rw [List.length_append, List.map_append, hr.1]
    exact h2
theorem append_bytes {w : World} {ops : Array Oper} {rest : List Oper} {o : Oper} {a : Act} {Q : Exit → Act → World → Prop} (hgd : o.guard = none) (s x : Operand)
    (ho : o.op = .call { callee := .builtin .append, args := #[s, x], argTypes := #[61, 61] })
    (base : Nat) (v : Value) (l : List UInt8) (hs : a.eval s = v) (hown : OB w base v l) (A : Option Addr) (n c : Nat) (l2 : List UInt8) (hx : a.eval x = .slice A n c) (hr : RB w A n l2)
    (hlen : l.length + n ≤ 140737488355328) (hbase : base ≤ w.heap.size)
    (h : ∀ v' w', OB w' base v' (l ++ l2) → w.grownBy w' v.ownBlock → (v'.ownBlock = v.ownBlock ∨ v'.ownBlock = some w.heap.size) → wpList Tryz.prog ops Q rest (a.put o.dst v') w') : wpList Tryz.prog ops Q (o :: rest) a w := by
  refine wpList_plain hgd fun K hK => ?_
  obtain ⟨v', w', hrun, h2, h3, h4⟩ := run_append_bytes w base o.type v l hown A n c l2 hr hlen hbase
  unfold Oper.wp execOp
  simp only [ho, resolve, invoke, builtin, Sem.run_bind, Sem.run_pure, Result.andThen_ok, List.map_toArray, List.map_cons, List.map_nil, hs, hx, hrun]
  exact hK _ _ (h v' w' h2 h3 h4)
theorem step_append_bytes {w : World} {ops : Array Oper} {o : Oper} {a : Act} {K : Act → World → Prop} {Q : Exit → Act → World → Prop} {E : Prop} (hgd : o.guard = none) (s x : Operand)
    (ho : o.op = .call { callee := .builtin .append, args := #[s, x], argTypes := #[61, 61] })
    (base : Nat) (v : Value) (l : List UInt8) (hs : a.eval s = v) (hown : OB w base v l) (A : Option Addr) (n c : Nat) (l2 : List UInt8) (hx : a.eval x = .slice A n c) (hr : RB w A n l2)
    (hlen : l.length + n ≤ 140737488355328) (hbase : base ≤ w.heap.size)
    (h : ∀ v' w', OB w' base v' (l ++ l2) → w.grownBy w' v.ownBlock → (v'.ownBlock = v.ownBlock ∨ v'.ownBlock = some w.heap.size) → K (a.put o.dst v') w') :
    if Region.wanted o (yielded ops a.tmps) = true then Oper.wp Tryz.prog o a w K Q else E := by
  have hw : Region.wanted o (yielded ops a.tmps) = true := by simp [Region.wanted, hgd]
  rw [if_pos hw]
  obtain ⟨v', w', hrun, h2, h3, h4⟩ := run_append_bytes w base o.type v l hown A n c l2 hr hlen hbase
  unfold Oper.wp execOp
  simp only [ho, resolve, invoke, builtin, Sem.run_bind, Sem.run_pure, Result.andThen_ok, List.map_toArray, List.map_cons, List.map_nil, hs, hx, hrun]
  exact h v' w' h2 h3 h4
end Go.Proofs.YtlojmmcagglpoaaGreat
