/- append to bytes of the call's own, up to 2^47 + 2^40 of them; rec.Read of as many. -/
import Derived.Test.YtnglgppdkohhpaaDoorRecWalk
import Derived.Laws.AppendOwn
namespace Go.Proofs.YtnglgppdkohhpaaDoor
open Go.RowKit
theorem growBy_le (need : Nat) : ∀ (r c : Nat), Builtin.growBy need r c ≤ max c (need + (need + 768) / 4)
  | 0, c => by unfold Builtin.growBy; omega
  | r + 1, c => by
    unfold Builtin.growBy
    split
    · omega
    · have := growBy_le need r (c + (c + 768) / 4)
      omega
theorem next_fits {need old : Nat} (h : old < need) (hb : need ≤ 141836999983104) : Builtin.nextslicecap need old * 1 ≤ 281474976710656 := by
  unfold Builtin.nextslicecap
  have := growBy_le need 4 old
  split
  · omega
  · split <;> omega
theorem run_append_big (w : World) (base : Nat) (ty : TypeId) (v : Value) (l : List UInt8) (hown : OB w base v l)
    (A : Option Addr) (n c : Nat) (l2 : List UInt8) (hr : RB w A n l2) (hlen : l.length + n ≤ 141836999983104) (hbase : base ≤ w.heap.size) :
    ∃ v' w', (Builtin.append_ #[28, 28] ty #[v, .slice A n c]).run Tryd.prog w = .ok v' w' ∧ OB w' base v' (l ++ l2) ∧ w.grownBy w' v.ownBlock ∧ (v'.ownBlock = v.ownBlock ∨ v'.ownBlock = some w.heap.size) := by
  by_cases hsm : l.length + n ≤ 140737488355328
  · exact run_append_bytes w base ty v l hown A n c l2 hr hsm hbase
  obtain ⟨i0, hi, hz0, hz1, hz2⟩ := info_parts info8
  have hnn := hr.1
  have hml : l.length + n ≤ maxLen := by simp only [maxLen]; omega
  have fresh : ∀ old, (w.drew.alloc (.cells ((l.map byteV).toArray ++ (l2.map byteV).toArray ++ Builtin.zeroCells (Value.int IntKind.u8 0).cells (grownCap w (l.length + n) old 5 - (l.length + n))) 5)).ownsRow base 5 1 (.slice (some ⟨w.heap.size, 0, none⟩) (l.length + n) (grownCap w (l.length + n) old 5)) (l ++ l2).length ((l ++ l2).map byteV) := fun old => by
    have h1 := grownCap_ge w (l.length + n) old 5
    have h2 := grownCap_le_maxLen w (l.length + n) old 5 hml
    have hsz : (Value.int IntKind.u8 0).cells.size = 1 := rfl
    refine ⟨by simp, .inr ⟨w.heap.size, _, _, by rw [List.length_append, hnn], hbase, heap_alloc_new w.drew _, by rw [List.length_append, hnn]; exact h1, h2, ?_, ?_⟩⟩
    · simp only [Array.size_append, List.size_toArray, List.length_map, size_zeroCells, hsz]; omega
    · simp only [Array.toList_append, List.map_append]
      rw [List.take_append_of_le_length (by simp)]
      exact List.take_of_length_le (by simp)
  have grown : ∀ (o : Obj) (row : Option Nat), w.grownBy (w.drew.alloc o) row := fun o row => ⟨rfl, rfl, rfl, by simp, fun k hk _ => heap_alloc_old w.drew o hk⟩
  cases A with
  | none =>
    have h0 : n = 0 := by
      rcases Nat.eq_zero_or_pos n with h | h
      · exact h
      · obtain ⟨b, off, e, _⟩ := hr.2 h; cases e
    subst h0
    obtain rfl : l2 = [] := List.eq_nil_of_length_eq_zero hr.1
    refine ⟨v, w, ?_, by simpa using hown, World.grownBy.refl w _, .inl rfl⟩
    rcases hown.2 with ⟨rfl, _⟩ | ⟨g, cap, cur, rfl, _, _, hnc, _⟩
    · simp [Builtin.append_, run_underlying Tryd.underlying28, sizeOf, typeInfo, hi, Builtin.lenOf, Builtin.firstCells]
    · simp [Builtin.append_, run_underlying Tryd.underlying28, sizeOf, typeInfo, hi, Builtin.lenOf, Builtin.firstCells, hnc, storeCells]
  | some ad =>
    have hnews : ∀ j u, (l2.map byteV)[j]? = some u → w.cell? (ad.add j) = some u := fun j u hj => by
      rw [List.getElem?_map] at hj
      cases hq : l2[j]? with
      | none => rw [hq] at hj; cases hj
      | some c' =>
        rw [hq] at hj
        obtain rfl := Option.some.inj hj
        have hjl := (List.getElem?_eq_some_iff.1 hq).1
        obtain ⟨b, off, e, hb, hc⟩ := hr.2 (by omega)
        obtain rfl := Option.some.inj e
        have := hc j c' hq
        unfold Addr.add
        by_cases hj0 : j = 0
        · subst hj0; simpa using this
        · simpa [hj0] using this
    rcases hown.2 with ⟨rfl, h0⟩ | ⟨g, cap, cur, rfl, hbg, hg, hnc, hcm, hcs, htake⟩
    · obtain rfl : l = [] := List.eq_nil_of_length_eq_zero h0
      simp only [List.length_nil, Nat.zero_add] at hlen hsm
      have hrun := run_append_nil (P := Tryd.prog) w 28 ty 5 i0 (.int .u8 0) Tryd.underlying28 hi hz0 ad n c (l2.map byteV) (by simp [hnn, hz1]) hnews (by omega) (by omega) (by rw [hz2]; omega)
      have hf := fresh 0
      simp only [List.length_nil, Nat.zero_add, List.map_nil, List.nil_append] at hf
      exact ⟨_, _, hrun, by simpa [OB] using hf, grown _ _, .inr rfl⟩
    · by_cases hroom : l.length + n ≤ cap
      · have hrun := run_append_room (P := Tryd.prog) w 28 ty 5 i0 Tryd.underlying28 hi g l.length cap cur hg ad n c (l2.map byteV) (by simp [hnn, hz1]) hnews (oneCell_bytes l2) hroom (by rw [hz1, hcs]; simp; omega)
        refine ⟨_, _, hrun, ⟨by simp, .inr ⟨g, cap, _, by rw [List.length_append, hnn], hbg, setRow_heap w g cur _ _ _ hg, by rw [List.length_append, hnn]; exact hroom, hcm, ?_, ?_⟩⟩, ⟨rfl, rfl, rfl, by simp, fun k _ hk => setRow_other w g k _ (fun e => hk (by simp [Value.ownBlock, e]))⟩, .inl rfl⟩
        · simp only [hz1, List.size_toArray, List.length_append, List.length_take, List.length_drop, List.length_map, Array.length_toList]
          omega
        · rw [hz1, htake, List.map_append]
          rw [List.take_append_of_le_length (by simp)]
          exact List.take_of_length_le (by simp)
      · have holds : ∀ j u, (l.map byteV)[j]? = some u → w.cell? ((⟨g, 0, none⟩ : Addr).add j) = some u := World.ownsRow.cells hown (g := g) rfl
        have hrun := run_append_grow (P := Tryd.prog) w 28 ty 5 i0 (.int .u8 0) Tryd.underlying28 hi hz0 ⟨g, 0, none⟩ l.length cap (l.map byteV) (by simp [hz1]) holds ad n c (l2.map byteV) (by simp [hnn, hz1]) hnews (by omega) (by omega) (by rw [hz2]; exact next_fits (by omega) hlen)
        exact ⟨_, _, hrun, fresh cap, grown _ _, .inr rfl⟩
theorem append_bytes_big {w : World} {ops : Array Oper} {rest : List Oper} {o : Oper} {a : Act} {Q : Exit → Act → World → Prop} (hgd : o.guard = none) (s x : Operand)
    (ho : o.op = .call { callee := .builtin .append, args := #[s, x], argTypes := #[28, 28] })
    (base : Nat) (v : Value) (l : List UInt8) (hs : a.eval s = v) (hown : OB w base v l) (A : Option Addr) (n c : Nat) (l2 : List UInt8) (hx : a.eval x = .slice A n c) (hr : RB w A n l2)
    (hlen : l.length + n ≤ 141836999983104) (hbase : base ≤ w.heap.size)
    (h : ∀ v' w', OB w' base v' (l ++ l2) → w.grownBy w' v.ownBlock → (v'.ownBlock = v.ownBlock ∨ v'.ownBlock = some w.heap.size) → wpList Tryd.prog ops Q rest (a.put o.dst v') w') : wpList Tryd.prog ops Q (o :: rest) a w := by
  refine wpList_plain hgd fun K hK => ?_
  obtain ⟨v', w', hrun, h2, h3, h4⟩ := run_append_big w base o.type v l hown A n c l2 hr hlen hbase
  unfold Oper.wp execOp
  simp only [ho, resolve, invoke, builtin, Sem.run_bind, Sem.run_pure, Result.andThen_ok, List.map_toArray, List.map_cons, List.map_nil, hs, hx, hrun]
  exact hK _ _ (h v' w' h2 h3 h4)
theorem read_any_big (A : Option Addr) (n cap : Nat) (l : List UInt8) (w : World) (hr : RB w A n l) (hn : n ≤ 141836999983104) :
    Calls Tryd.prog 37 #[.slice A n cap] w (ReadPost l w) := by
  have RT := Lib.hid (hr.alloc (.cells #[] 5))
  have OF := Lib.hid (OB.fresh (w := w) (base := w.heap.size) rfl (Nat.le_refl _))
  have hln := hr.1
  have HLN := Lib.hid hln; clear hln hr
  have hL : ([] : List UInt8).length + n ≤ 141836999983104 := by simp; omega
  have hB0 : w.heap.size ≤ (w.alloc (.cells #[] 5)).heap.size := by simp
  go_enter Tryd.func37, Tryd.ntmps37
  go_wp2_with ((at_builtin; go_must (refine append_bytes_big rfl (.tmp 3) (.tmp 4) rfl w.heap.size _ [] rfl OF.out A n cap l rfl RT.out hL hB0 ?_); intro v3 w3 ho3 hg3 ha3; refine halt ?_))
  refine unhalt ?_
  obtain ⟨D, dc, rfl, hdc, _, hr3⟩ := ho3.form
  have hb3 : Below w.heap.size w w3 := ((Below.refl _ _).alloc (Nat.le_refl _) _).grown hg3 (by simp) (fun j hj => by
          obtain rfl := Option.some.inj hj
          exact Nat.le_refl _)
  have HP : ReadPost l w (.returned (.pointer (some ⟨w3.heap.size, 0, none⟩))) (w3.alloc (.cells #[.slice D l.length dc] 70)) := by
    have ho4 : OB w3 w.heap.size (.slice D l.length dc) l := ho3
    refine ⟨_, D, dc, rfl, hb3.size, ⟨Blk.new w3 _ _ rfl, ?_, hdc⟩, ho4.keep ((Below.refl _ _).alloc (Nat.le_refl _) _), hb3.alloc hb3.size _⟩
    exact RB.alloc hr3 _
  have HQ := Lib.hid HP; clear HP ho3 hg3 ha3 hr3 hb3
  go_wp2_with fail
  go_ret
  exact HQ.out
end Go.Proofs.YtnglgppdkohhpaaDoor
