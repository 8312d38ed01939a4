/- Ints of the call's own: append, as laws for the walk. -/
import Derived.Test.YtckhmdeeddjkhaaRingAll
import Derived.Maps.AppendAt
import Derived.Deep.AppendLies
import Derived.RegionTactic
import Derived.OwnWalk
import Derived.WalkKit
import Derived.WalkSpells
import Derived.Deep.DeepFit
import Derived.Lib.Hide
import Derived.Laws.CopyOwn
namespace Go.Proofs.Ytckhmdeeddjkhaa
open Go.RowKit
def RI (w : World) (A : Option Addr) (m : Nat) (q : List Int) : Prop :=
  q.length = m ∧ (0 < m → ∃ b off, A = some ⟨b, off, none⟩ ∧ b < w.heap.size ∧ ∀ (j : Nat) (x : Int), q[j]? = some x → w.cell? ⟨b, off + j, none⟩ = some (.int .i64 x))
theorem RI.nil (w : World) (A : Option Addr) : RI w A 0 [] := ⟨rfl, fun h => absurd h (by omega)⟩
theorem RI.chg {S : Nat → Prop} {w w' : World} {A : Option Addr} {m : Nat} {q : List Int} (h : RI w A m q) (hc : Chg S w w') (hn : 0 < m → ∀ ad, A = some ad → ¬ S ad.block) : RI w' A m q :=
  ⟨h.1, fun hp => by
    obtain ⟨g, off, e, hlt, hcl⟩ := h.2 hp
    exact ⟨g, off, e, Nat.lt_of_lt_of_le hlt hc.size, fun j c hj => (hc.cell (p := ⟨g, off + j, none⟩) hlt (hn hp ⟨g, off, none⟩ e)).trans (hcl j c hj)⟩⟩
theorem RI.keep {w w' : World} {A : Option Addr} {m : Nat} {q : List Int} (h : RI w A m q) (hb : Below w.heap.size w w') : RI w' A m q := h.chg (Chg.of_below hb (fun _ => False)) (fun _ _ _ => id)
theorem RI.at_ {w : World} {A : Option Addr} {m : Nat} {q : List Int} (h : RI w A m q) {j : Nat} (hj : j < m) : ∃ b off x, A = some ⟨b, off, none⟩ ∧ q[j]? = some x ∧ w.cell? ⟨b, off + j, none⟩ = some (.int .i64 x) := by
  obtain ⟨b, off, e, _, hc⟩ := h.2 (by omega)
  have hl : j < q.length := by have := h.1; omega
  exact ⟨b, off, q[j], e, List.getElem?_eq_getElem hl, hc j _ (List.getElem?_eq_getElem hl)⟩
theorem oneCell_ints (l : List Int) : ∀ u ∈ l.map intV, u.oneCell' = true := by
  intro u hu
  obtain ⟨c, _, rfl⟩ := List.mem_map.1 hu
  rfl
/-- the slice value v owns the bytes l, in a block from base on -/
def OI (w : World) (base : Nat) (v : Value) (l : List Int) : Prop := w.ownsRow base 3 1 v l.length (l.map intV)
theorem OI.nil (w : World) (base : Nat) : OI w base (.slice none 0 0) [] := World.ownsRow_nil w base _ 1
theorem OI.fresh {w : World} {base : Nat} {g : Nat} (hg : g = w.heap.size) (hb : base ≤ w.heap.size) : OI (w.alloc (.cells #[] 3)) base (.slice (some ⟨g, 0, none⟩) 0 0) [] := by
  subst hg
  exact World.ownsRow_made w #[] 0 hb (Nat.zero_le _) rfl
theorem OI.lt {w : World} {base : Nat} {v : Value} {l : List Int} (h : OI w base v l) : ∀ k, v.ownBlock = some k → base ≤ k ∧ k < w.heap.size := World.ownsRow.lt h
theorem OI.keep {w w' : World} {base : Nat} {v : Value} {l : List Int} (h : OI w base v l) (hb : Below w.heap.size w w') : OI w' base v l :=
  World.ownsRow.kept (row := none) h ⟨hb.os, hb.tape, hb.output, hb.size, fun k hk _ => hb.block k hk⟩ (by
    cases v.ownBlock with
    | none => exact .inl rfl
    | some k => exact .inr (by simp))
theorem OI.less {w : World} {base base' : Nat} {v : Value} {l : List Int} (h : OI w base v l) (hb : base' ≤ base) : OI w base' v l :=
  ⟨h.1, h.2.elim Or.inl (fun ⟨g, cap, cur, hv, hg, r⟩ => Or.inr ⟨g, cap, cur, hv, Nat.le_trans hb hg, r⟩)⟩
theorem OI.form {w : World} {base : Nat} {v : Value} {l : List Int} (h : OI w base v l) :
    ∃ A cap, v = .slice A l.length cap ∧ l.length ≤ cap ∧ cap ≤ maxLen ∧ RI w A l.length l := by
  rcases h.2 with ⟨rfl, h0⟩ | ⟨g, cap, cur, rfl, hb, hh, h1, h2, h3, h4⟩
  · have : l = [] := List.eq_nil_of_length_eq_zero h0
    subst this
    exact ⟨none, 0, rfl, Nat.le_refl _, Nat.zero_le _, RI.nil _ _⟩
  · have hlt : g < w.heap.size := by
      rcases Nat.lt_or_ge g w.heap.size with h | h
      · exact h
      · rw [Array.getElem?_eq_none h] at hh; cases hh
    refine ⟨some ⟨g, 0, none⟩, cap, rfl, h1, h2, rfl, fun _ => ⟨g, 0, rfl, hlt, fun j c hj => ?_⟩⟩
    have := World.ownsRow.cellAt h j (by have := (List.getElem?_eq_some_iff.1 hj).1; omega)
    rw [Nat.zero_add, this, List.getElem?_map, hj]; rfl

theorem OI.len {w : World} {base n cap : Nat} {A : Option Addr} {l : List Int} (h : OI w base (.slice A n cap) l) : l.length = n := by
  obtain ⟨_, _, e, _⟩ := h.form
  injection e with _ e _
  exact e.symm
theorem OI.cellAt {w : World} {base g n cap : Nat} {l : List Int} (h : OI w base (.slice (some ⟨g, 0, none⟩) n cap) l) {j : Nat} {c : Int} (hj : l[j]? = some c) : w.cell? ⟨g, j, none⟩ = some (.int .i64 c) := by
  obtain rfl := h.len
  have h' : w.ownsRow base 3 1 (.slice (some ⟨g, 0, none⟩) l.length cap) l.length (l.map intV) := h
  rw [World.ownsRow.cellAt h' j (by have := (List.getElem?_eq_some_iff.1 hj).1; omega), List.getElem?_map, hj]; rfl
theorem OI.frozenAt {w : World} {base g n cap : Nat} {l : List Int} (h : OI w base (.slice (some ⟨g, 0, none⟩) n cap) l) (j : Nat) : w.frozen? ⟨g, j, none⟩ = false := by
  obtain rfl := h.len
  have h' : w.ownsRow base 3 1 (.slice (some ⟨g, 0, none⟩) l.length cap) l.length (l.map intV) := h
  exact World.ownsRow.frozenAt h' j
theorem OI.stored {w : World} {base g n cap : Nat} {l : List Int} (h : OI w base (.slice (some ⟨g, 0, none⟩) n cap) l) (j : Nat) (c : Int) :
    OI (w.setCell ⟨g, j, none⟩ (.int .i64 c)) base (.slice (some ⟨g, 0, none⟩) n cap) (l.set j c) ∧ w.grownBy (w.setCell ⟨g, j, none⟩ (.int .i64 c)) (some g) := by
  obtain rfl := h.len
  have h' : w.ownsRow base 3 1 (.slice (some ⟨g, 0, none⟩) l.length cap) l.length (l.map intV) := h
  have := World.ownsRow.stored h' j (intV c)
  refine ⟨?_, this.2⟩
  unfold OI
  rw [List.length_set, List.map_set]
  exact this.1
theorem OI.drew {w : World} {base : Nat} {v : Value} {l : List Int} (h : OI w base v l) : OI w.drew base v l := h
theorem run_append_ints (w : World) (base : Nat) (ty : TypeId) (v : Value) (l : List Int) (hown : OI w base v l)
    (A : Option Addr) (n c : Nat) (l2 : List Int) (hr : RI w A n l2) (hlen : l.length + n ≤ 1000000000000) (hbase : base ≤ w.heap.size) :
    ∃ v' w', (Builtin.append_ #[25, 25] ty #[v, .slice A n c]).run Try.prog w = .ok v' w' ∧ OI w' base v' (l ++ l2) ∧ w.grownBy w' v.ownBlock ∧ (v'.ownBlock = v.ownBlock ∨ v'.ownBlock = some w.heap.size) := by
  obtain ⟨i0, hi, hz0, hz1, hz2⟩ := info_parts infoI
  cases A with
  | none =>
    have h0 : n = 0 := by
      rcases Nat.eq_zero_or_pos n with h | h
      · exact h
      · obtain ⟨b, off, e, _⟩ := hr.2 h; cases e
    subst h0
    obtain rfl : l2 = [] := List.eq_nil_of_length_eq_zero hr.1
    refine ⟨v, w, ?_, by simpa using hown, World.grownBy.refl w _, .inl rfl⟩
    rcases hown.2 with ⟨rfl, _⟩ | ⟨g, cap, cur, rfl, _, _, hnc, _⟩
    · simp [Builtin.append_, run_underlying Try.underlying25, sizeOf, typeInfo, hi, Builtin.lenOf, Builtin.firstCells]
    · simp [Builtin.append_, run_underlying Try.underlying25, sizeOf, typeInfo, hi, Builtin.lenOf, Builtin.firstCells, hnc, storeCells]
  | some ad =>
    obtain ⟨v', w', h1, h2, h3, _, h5⟩ := run_append_own_at (P := Try.prog) w base 25 ty 3 i0 (.int .i64 0) 1 8 Try.underlying25 hi hz0 hz1 hz2 rfl (by omega) v l.length (l.map intV) hown ad n c (l2.map intV) (by simp [hr.1]) (fun j u hj => by
        rw [List.getElem?_map] at hj
        cases hq : l2[j]? with
        | none => rw [hq] at hj; cases hj
        | some c' =>
          rw [hq] at hj
          obtain rfl := Option.some.inj hj
          have hjl := (List.getElem?_eq_some_iff.1 hq).1
          obtain ⟨b, off, e, hb, hc⟩ := hr.2 (by have := hr.1; omega)
          obtain rfl := Option.some.inj e
          have := hc j c' hq
          unfold Addr.add
          by_cases hj0 : j = 0
          · subst hj0; simpa [intV] using this
          · simpa [hj0, intV] using this) (oneCell_ints l2) (by simp only [maxLen]; omega) (by omega) hbase
    refine ⟨v', w', h1, ?_, h3, h5⟩
    unfold OI
    rw [List.length_append, List.map_append, hr.1]
    exact h2

theorem append_ints {w : World} {ops : Array Oper} {rest : List Oper} {o : Oper} {a : Act} {Q : Exit → Act → World → Prop} (hgd : o.guard = none) (s x : Operand)
    (ho : o.op = .call { callee := .builtin .append, args := #[s, x], argTypes := #[25, 25] })
    (base : Nat) (v : Value) (l : List Int) (hs : a.eval s = v) (hown : OI w base v l) (A : Option Addr) (n c : Nat) (l2 : List Int) (hx : a.eval x = .slice A n c) (hr : RI w A n l2)
    (hlen : l.length + n ≤ 1000000000000) (hbase : base ≤ w.heap.size)
    (h : ∀ v' w', OI w' base v' (l ++ l2) → w.grownBy w' v.ownBlock → (v'.ownBlock = v.ownBlock ∨ v'.ownBlock = some w.heap.size) → wpList Try.prog ops Q rest (a.put o.dst v') w') : wpList Try.prog ops Q (o :: rest) a w := by
  refine wpList_plain hgd fun K hK => ?_
  obtain ⟨v', w', hrun, h2, h3, h4⟩ := run_append_ints w base o.type v l hown A n c l2 hr hlen hbase
  unfold Oper.wp execOp
  simp only [ho, resolve, invoke, builtin, Sem.run_bind, Sem.run_pure, Result.andThen_ok, List.map_toArray, List.map_cons, List.map_nil, hs, hx, hrun]
  exact hK _ _ (h v' w' h2 h3 h4)
theorem cell_add {w : World} {b off j : Nat} {u : Value} (h : w.cell? ⟨b, off + j, none⟩ = some u) : w.cell? ((⟨b, off, none⟩ : Addr).add j) = some u := by
  unfold Addr.add
  by_cases hj : j = 0
  · subst hj; simpa using h
  · simpa [hj] using h
/-- the same as one step of a region that draws its order -/
theorem step_append_ints {w : World} {ops : Array Oper} {o : Oper} {a : Act} {K : Act → World → Prop} {Q : Exit → Act → World → Prop} {E : Prop} (hgd : o.guard = none) (s x : Operand)
    (ho : o.op = .call { callee := .builtin .append, args := #[s, x], argTypes := #[25, 25] })
    (base : Nat) (v : Value) (l : List Int) (hs : a.eval s = v) (hown : OI w base v l) (A : Option Addr) (n c : Nat) (l2 : List Int) (hx : a.eval x = .slice A n c) (hr : RI w A n l2)
    (hlen : l.length + n ≤ 1000000000000) (hbase : base ≤ w.heap.size)
    (h : ∀ v' w', OI w' base v' (l ++ l2) → w.grownBy w' v.ownBlock → (v'.ownBlock = v.ownBlock ∨ v'.ownBlock = some w.heap.size) → K (a.put o.dst v') w') :
    if Region.wanted o (yielded ops a.tmps) = true then Oper.wp Try.prog o a w K Q else E := by
  have hw : Region.wanted o (yielded ops a.tmps) = true := by simp [Region.wanted, hgd]
  rw [if_pos hw]
  obtain ⟨v', w', hrun, h2, h3, h4⟩ := run_append_ints w base o.type v l hown A n c l2 hr hlen hbase
  unfold Oper.wp execOp
  simp only [ho, resolve, invoke, builtin, Sem.run_bind, Sem.run_pure, Result.andThen_ok, List.map_toArray, List.map_cons, List.map_nil, hs, hx, hrun]
  exact h v' w' h2 h3 h4
end Go.Proofs.Ytckhmdeeddjkhaa
