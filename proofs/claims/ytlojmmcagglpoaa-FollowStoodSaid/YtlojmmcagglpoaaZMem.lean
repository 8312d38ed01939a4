/- Bytes of the call's own: append and copy, as laws for the walk. -/
import Derived.Test.YtlojmmcagglpoaaZBase
import Derived.Test.YtlojmmcagglpoaaRows
import Derived.Maps.AppendAt
import Derived.Deep.AppendLies
import Derived.RegionTactic
import Derived.OwnWalk
import Derived.WalkKit
import Derived.WalkSpells
import Derived.Deep.DeepFit
import Derived.Lib.Hide
import Derived.Laws.CopyOwn
namespace Go.Proofs.Ytlojmmcagglpoaa
open Go.RowKit
theorem oneCell_bytes (l : List UInt8) : ∀ u ∈ l.map byteV, u.oneCell' = true := by
  intro u hu
  obtain ⟨c, _, rfl⟩ := List.mem_map.1 hu
  rfl
theorem info8 : (Try.prog.info? 5).map (fun i => (i.zero, i.size, i.bytes)) = some (some (.int .u8 0), 1, 1) := by kernel_rfl
/-- the slice value v owns the bytes l, in a block from base on -/
def OB (w : World) (base : Nat) (v : Value) (l : List UInt8) : Prop := w.ownsRow base 5 1 v l.length (l.map byteV)
theorem OB.nil (w : World) (base : Nat) : OB w base (.slice none 0 0) [] := World.ownsRow_nil w base _ 1
theorem OB.fresh {w : World} {base : Nat} {g : Nat} (hg : g = w.heap.size) (hb : base ≤ w.heap.size) : OB (w.alloc (.cells #[] 5)) base (.slice (some ⟨g, 0, none⟩) 0 0) [] := by
  subst hg
  exact World.ownsRow_made w #[] 0 hb (Nat.zero_le _) rfl
theorem OB.lt {w : World} {base : Nat} {v : Value} {l : List UInt8} (h : OB w base v l) : ∀ k, v.ownBlock = some k → base ≤ k ∧ k < w.heap.size := World.ownsRow.lt h
theorem OB.keep {w w' : World} {base : Nat} {v : Value} {l : List UInt8} (h : OB w base v l) (hb : Below w.heap.size w w') : OB w' base v l :=
  World.ownsRow.kept (row := none) h ⟨hb.os, hb.tape, hb.output, hb.size, fun k hk _ => hb.block k hk⟩ (by
    cases v.ownBlock with
    | none => exact .inl rfl
    | some k => exact .inr (by simp))
theorem OB.less {w : World} {base base' : Nat} {v : Value} {l : List UInt8} (h : OB w base v l) (hb : base' ≤ base) : OB w base' v l :=
  ⟨h.1, h.2.elim Or.inl (fun ⟨g, cap, cur, hv, hg, r⟩ => Or.inr ⟨g, cap, cur, hv, Nat.le_trans hb hg, r⟩)⟩
theorem OB.form {w : World} {base : Nat} {v : Value} {l : List UInt8} (h : OB w base v l) :
    ∃ A cap, v = .slice A l.length cap ∧ l.length ≤ cap ∧ cap ≤ maxLen ∧ RB w A l.length l := by
  rcases h.2 with ⟨rfl, h0⟩ | ⟨g, cap, cur, rfl, hb, hh, h1, h2, h3, h4⟩
  · have : l = [] := List.eq_nil_of_length_eq_zero h0
    subst this
    exact ⟨none, 0, rfl, Nat.le_refl _, Nat.zero_le _, RB.nil _ _⟩
  · have hlt : g < w.heap.size := by
      rcases Nat.lt_or_ge g w.heap.size with h | h
      · exact h
      · rw [Array.getElem?_eq_none h] at hh; cases hh
    refine ⟨some ⟨g, 0, none⟩, cap, rfl, h1, h2, rfl, fun _ => ⟨g, 0, rfl, hlt, fun j c hj => ?_⟩⟩
    have := World.ownsRow.cellAt h j (by have := (List.getElem?_eq_some_iff.1 hj).1; omega)
    rw [Nat.zero_add, this, List.getElem?_map, hj]; rfl

theorem OB.len {w : World} {base n cap : Nat} {A : Option Addr} {l : List UInt8} (h : OB w base (.slice A n cap) l) : l.length = n := by
  obtain ⟨_, _, e, _⟩ := h.form
  injection e with _ e _
  exact e.symm
theorem OB.cellAt {w : World} {base g n cap : Nat} {l : List UInt8} (h : OB w base (.slice (some ⟨g, 0, none⟩) n cap) l) {j : Nat} {c : UInt8} (hj : l[j]? = some c) : w.cell? ⟨g, j, none⟩ = some (.int .u8 (c.toNat : Int)) := by
  obtain rfl := h.len
  have h' : w.ownsRow base 5 1 (.slice (some ⟨g, 0, none⟩) l.length cap) l.length (l.map byteV) := h
  rw [World.ownsRow.cellAt h' j (by have := (List.getElem?_eq_some_iff.1 hj).1; omega), List.getElem?_map, hj]; rfl
theorem OB.frozenAt {w : World} {base g n cap : Nat} {l : List UInt8} (h : OB w base (.slice (some ⟨g, 0, none⟩) n cap) l) (j : Nat) : w.frozen? ⟨g, j, none⟩ = false := by
  obtain rfl := h.len
  have h' : w.ownsRow base 5 1 (.slice (some ⟨g, 0, none⟩) l.length cap) l.length (l.map byteV) := h
  exact World.ownsRow.frozenAt h' j
theorem OB.stored {w : World} {base g n cap : Nat} {l : List UInt8} (h : OB w base (.slice (some ⟨g, 0, none⟩) n cap) l) (j : Nat) (c : UInt8) :
    OB (w.setCell ⟨g, j, none⟩ (.int .u8 (c.toNat : Int))) base (.slice (some ⟨g, 0, none⟩) n cap) (l.set j c) ∧ w.grownBy (w.setCell ⟨g, j, none⟩ (.int .u8 (c.toNat : Int))) (some g) := by
  obtain rfl := h.len
  have h' : w.ownsRow base 5 1 (.slice (some ⟨g, 0, none⟩) l.length cap) l.length (l.map byteV) := h
  have := World.ownsRow.stored h' j (byteV c)
  refine ⟨?_, this.2⟩
  unfold OB
  rw [List.length_set, List.map_set]
  exact this.1
theorem OB.drew {w : World} {base : Nat} {v : Value} {l : List UInt8} (h : OB w base v l) : OB w.drew base v l := h
theorem run_append_bytes (w : World) (base : Nat) (ty : TypeId) (v : Value) (l : List UInt8) (hown : OB w base v l)
    (A : Option Addr) (n c : Nat) (l2 : List UInt8) (hr : RB w A n l2) (hlen : l.length + n ≤ 140737488355328) (hbase : base ≤ w.heap.size) :
    ∃ v' w', (Builtin.append_ #[46, 46] ty #[v, .slice A n c]).run Try.prog w = .ok v' w' ∧ OB w' base v' (l ++ l2) ∧ w.grownBy w' v.ownBlock ∧ (v'.ownBlock = v.ownBlock ∨ v'.ownBlock = some w.heap.size) := by
  obtain ⟨i0, hi, hz0, hz1, hz2⟩ := info_parts info8
  cases A with
  | none =>
    have h0 : n = 0 := by
      rcases Nat.eq_zero_or_pos n with h | h
      · exact h
      · obtain ⟨b, off, e, _⟩ := hr.2 h; cases e
    subst h0
    obtain rfl : l2 = [] := List.eq_nil_of_length_eq_zero hr.1
    refine ⟨v, w, ?_, by simpa using hown, World.grownBy.refl w _, .inl rfl⟩
    rcases hown.2 with ⟨rfl, _⟩ | ⟨g, cap, cur, rfl, _, _, hnc, _⟩
    · simp [Builtin.append_, run_underlying Try.underlying46, sizeOf, typeInfo, hi, Builtin.lenOf, Builtin.firstCells]
    · simp [Builtin.append_, run_underlying Try.underlying46, sizeOf, typeInfo, hi, Builtin.lenOf, Builtin.firstCells, hnc, storeCells]
  | some ad =>
    obtain ⟨v', w', h1, h2, h3, _, h5⟩ := run_append_own_at (P := Try.prog) w base 46 ty 5 i0 (.int .u8 0) 1 1 Try.underlying46 hi hz0 hz1 hz2 rfl (by omega) v l.length (l.map byteV) hown ad n c (l2.map byteV) (by simp [hr.1]) (fun j u hj => by
        rw [List.getElem?_map] at hj
        cases hq : l2[j]? with
        | none => rw [hq] at hj; cases hj
        | some c' =>
          rw [hq] at hj
          obtain rfl := Option.some.inj hj
          have hjl := (List.getElem?_eq_some_iff.1 hq).1
          obtain ⟨b, off, e, hb, hc⟩ := hr.2 (by have := hr.1; omega)
          obtain rfl := Option.some.inj e
          have := hc j c' hq
          unfold Addr.add
          by_cases hj0 : j = 0
          · subst hj0; simpa using this
          · simpa [hj0] using this) (oneCell_bytes l2) (by simp only [maxLen]; omega) (by omega) hbase
    refine ⟨v', w', h1, ?_, h3, h5⟩
    unfold OB
    rw [List.length_append, List.map_append, hr.1]
    exact h2

theorem append_bytes {w : World} {ops : Array Oper} {rest : List Oper} {o : Oper} {a : Act} {Q : Exit → Act → World → Prop} (hgd : o.guard = none) (s x : Operand)
    (ho : o.op = .call { callee := .builtin .append, args := #[s, x], argTypes := #[46, 46] })
    (base : Nat) (v : Value) (l : List UInt8) (hs : a.eval s = v) (hown : OB w base v l) (A : Option Addr) (n c : Nat) (l2 : List UInt8) (hx : a.eval x = .slice A n c) (hr : RB w A n l2)
    (hlen : l.length + n ≤ 140737488355328) (hbase : base ≤ w.heap.size)
    (h : ∀ v' w', OB w' base v' (l ++ l2) → w.grownBy w' v.ownBlock → (v'.ownBlock = v.ownBlock ∨ v'.ownBlock = some w.heap.size) → wpList Try.prog ops Q rest (a.put o.dst v') w') : wpList Try.prog ops Q (o :: rest) a w := by
  refine wpList_plain hgd fun K hK => ?_
  obtain ⟨v', w', hrun, h2, h3, h4⟩ := run_append_bytes w base o.type v l hown A n c l2 hr hlen hbase
  unfold Oper.wp execOp
  simp only [ho, resolve, invoke, builtin, Sem.run_bind, Sem.run_pure, Result.andThen_ok, List.map_toArray, List.map_cons, List.map_nil, hs, hx, hrun]
  exact hK _ _ (h v' w' h2 h3 h4)
theorem cell_add {w : World} {b off j : Nat} {u : Value} (h : w.cell? ⟨b, off + j, none⟩ = some u) : w.cell? ((⟨b, off, none⟩ : Addr).add j) = some u := by
  unfold Addr.add
  by_cases hj : j = 0
  · subst hj; simpa using h
  · simpa [hj] using h
/-- the same as one step of a region that draws its order -/
theorem step_append_bytes {w : World} {ops : Array Oper} {o : Oper} {a : Act} {K : Act → World → Prop} {Q : Exit → Act → World → Prop} {E : Prop} (hgd : o.guard = none) (s x : Operand)
    (ho : o.op = .call { callee := .builtin .append, args := #[s, x], argTypes := #[46, 46] })
    (base : Nat) (v : Value) (l : List UInt8) (hs : a.eval s = v) (hown : OB w base v l) (A : Option Addr) (n c : Nat) (l2 : List UInt8) (hx : a.eval x = .slice A n c) (hr : RB w A n l2)
    (hlen : l.length + n ≤ 140737488355328) (hbase : base ≤ w.heap.size)
    (h : ∀ v' w', OB w' base v' (l ++ l2) → w.grownBy w' v.ownBlock → (v'.ownBlock = v.ownBlock ∨ v'.ownBlock = some w.heap.size) → K (a.put o.dst v') w') :
    if Region.wanted o (yielded ops a.tmps) = true then Oper.wp Try.prog o a w K Q else E := by
  have hw : Region.wanted o (yielded ops a.tmps) = true := by simp [Region.wanted, hgd]
  rw [if_pos hw]
  obtain ⟨v', w', hrun, h2, h3, h4⟩ := run_append_bytes w base o.type v l hown A n c l2 hr hlen hbase
  unfold Oper.wp execOp
  simp only [ho, resolve, invoke, builtin, Sem.run_bind, Sem.run_pure, Result.andThen_ok, List.map_toArray, List.map_cons, List.map_nil, hs, hx, hrun]
  exact h v' w' h2 h3 h4
set_option maxRecDepth 20000 in
theorem run_copy_bytes (w : World) (base : Nat) (ty : TypeId) (D A : Option Addr) (dn dc n c : Nat) (l l2 : List UInt8) (hown : OB w base (.slice D dn dc) l) (hr : RB w A n l2) :
    ∃ w', (Builtin.copy_ #[46, 46] ty #[.slice D dn dc, .slice A n c]).run Try.prog w = .ok (goInt ((min n l.length : Nat))) w' ∧ OB w' base (.slice D dn dc) (l2.take l.length ++ l.drop n) ∧ w.grownBy w' (Value.slice D dn dc).ownBlock := by
  have hsz : (Try.prog.info? 5).map (·.size) = some 1 := by kernel_rfl
  have hd : dn = l.length := by
    obtain ⟨_, _, e, _⟩ := hown.form
    injection e
  by_cases h0 : Nat.min n dn = 0
  · refine ⟨w, ?_, ?_, World.grownBy.refl w _⟩
    · rw [← hd, show min n dn = 0 from h0]
      exact run_copy_none w _ _ ty 5 D A dn dc n c Try.underlying46 hsz h0
    · have : l2.take l.length ++ l.drop n = l := by
        by_cases hn : n = 0
        · subst hn
          obtain rfl : l2 = [] := List.eq_nil_of_length_eq_zero hr.1
          simp
        · have : dn = 0 := by
            have : Nat.min n dn = min n dn := rfl
            omega
          obtain rfl : l = [] := List.eq_nil_of_length_eq_zero (by omega)
          simp
      rw [this]; exact hown
  · have h1 : 0 < min n dn := Nat.pos_of_ne_zero h0
    obtain ⟨b, off, rfl, hb, hc⟩ := hr.2 (by omega)
    rcases hown.2 with ⟨_, hz⟩ | ⟨g, cap, cur, he, hbg, hg, hnc, hcm, hcs, htake⟩
    · omega
    · simp only [Value.slice.injEq] at he
      obtain ⟨rfl, rfl, rfl⟩ := he
      have hlen : ((l2.take l.length).map byteV).length = Nat.min n l.length := by
        have := hr.1
        simp only [List.length_map, List.length_take]
        show _ = min n l.length
        omega
      have hm : Nat.min n l.length = min n l.length := rfl
      have hrun := run_copy_row (P := Try.prog) w 46 46 ty 5 g 0 l.length dc ⟨b, off, none⟩ n c cur 5 ((l2.take l.length).map byteV) Try.underlying46 hsz hg hlen (fun j u hj => by
          rw [List.getElem?_map, List.getElem?_take] at hj
          split at hj
          · cases hq : l2[j]? with
            | none => rw [hq] at hj; cases hj
            | some c' =>
              rw [hq] at hj
              obtain rfl := Option.some.inj hj
              exact cell_add (hc j c' hq)
          · cases hj) (by rw [hlen, hm]; omega) (oneCell_bytes _)
      rw [hlen] at hrun
      refine ⟨_, hrun, ⟨by simp, .inr ⟨g, dc, _, ?_, hbg, setRow_heap w g cur _ _ _ hg, ?_, hcm, ?_, ?_⟩⟩, ⟨rfl, rfl, rfl, by simp [World.setRow], fun k _ hk => setRow_other w g k _ (fun e => hk (by simp [e, Value.ownBlock]))⟩⟩
      · have := hr.1
        congr 1
        simp; omega
      · have := hr.1
        simp; omega
      · rw [hm]
        simp only [List.size_toArray, List.length_append, List.length_take, List.length_drop, Array.length_toList, List.length_map]
        have := hr.1
        omega
      · have e2 : (l2.take l.length ++ l.drop n).length = l.length := by have := hr.1; simp; omega
        rw [e2, hm]
        simp only [List.take_zero, List.nil_append, Nat.zero_add, Nat.mul_one]
        rw [List.map_append, List.take_append, List.take_of_length_le (by rw [hlen, hm]; omega)]
        congr 1
        have e3 : l.length - ((l2.take l.length).map byteV).length = l.length - min n l.length := by rw [hlen, hm]
        rw [e3]
        have htk : cur.toList.take l.length = l.map byteV := by simpa using htake
        rw [List.map_drop, ← htk, List.drop_take]
        by_cases hnl : n ≤ l.length
        · rw [Nat.min_eq_left hnl]
        · rw [Nat.min_eq_right (by omega), show l.length - l.length = 0 from by omega, show l.length - n = 0 from by omega]; simp

theorem copy_bytes {w : World} {ops : Array Oper} {rest : List Oper} {o : Oper} {a : Act} {Q : Exit → Act → World → Prop} (hgd : o.guard = none) (s x : Operand)
    (ho : o.op = .call { callee := .builtin .copy, args := #[s, x], argTypes := #[46, 46] })
    (base : Nat) (D A : Option Addr) (dn dc n c : Nat) (l l2 : List UInt8) (hs : a.eval s = .slice D dn dc) (hown : OB w base (.slice D dn dc) l) (hx : a.eval x = .slice A n c) (hr : RB w A n l2)
    (h : ∀ w', OB w' base (.slice D dn dc) (l2.take l.length ++ l.drop n) → w.grownBy w' (Value.slice D dn dc).ownBlock → wpList Try.prog ops Q rest (a.put o.dst (goInt ((min n l.length : Nat)))) w') : wpList Try.prog ops Q (o :: rest) a w := by
  refine wpList_plain hgd fun K hK => ?_
  obtain ⟨w', hrun, h2, h3⟩ := run_copy_bytes w base o.type D A dn dc n c l l2 hown hr
  unfold Oper.wp execOp
  simp only [ho, resolve, invoke, builtin, Sem.run_bind, Sem.run_pure, Result.andThen_ok, List.map_toArray, List.map_cons, List.map_nil, hs, hx, hrun]
  exact hK _ _ (h w' h2 h3)
theorem below_grown {B : Nat} {a w w' : World} {row : Option Nat} (h : Below B a w) (hg : w.grownBy w' row) (hB : B ≤ w.heap.size) (hr : ∀ k, row = some k → B ≤ k) : Below B a w' := h.grown hg hB hr
end Go.Proofs.Ytlojmmcagglpoaa
