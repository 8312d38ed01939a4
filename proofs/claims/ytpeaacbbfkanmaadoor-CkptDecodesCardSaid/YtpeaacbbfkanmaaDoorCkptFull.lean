/- append to a full slice of bytes that is only read; lay on one. -/
import Derived.Test.YtpeaacbbfkanmaaDoorCkptLay
import Derived.ArgAppend
import Derived.Lib.SmallJoins
namespace Go.Proofs.YtpeaacbbfkanmaaDoor
open Go.RowKit
theorem append_full {w : World} {ops : Array Oper} {rest : List Oper} {o : Oper} {a : Act} {Q : Exit → Act → World → Prop} (hgd : o.guard = none) (s x : Operand)
    (ho : o.op = .call { callee := .builtin .append, args := #[s, x], argTypes := #[24, 24] })
    (b off n cap : Nat) (l : List UInt8) (hs : a.eval s = .slice (some ⟨b, off, none⟩) n cap) (hr : RB w (some ⟨b, off, none⟩) n l) (b2 off2 m c : Nat) (l2 : List UInt8) (hx : a.eval x = .slice (some ⟨b2, off2, none⟩) m c) (hr2 : RB w (some ⟨b2, off2, none⟩) m l2)
    (hfull : cap < n + m) (hlen : n + m ≤ 140737488355328)
    (h : ∀ v' w', OB w' w.heap.size v' (l ++ l2) → w.grownBy w' none → wpList Tryd.prog ops Q rest (a.put o.dst v') w') : wpList Tryd.prog ops Q (o :: rest) a w := by
  obtain ⟨i0, hi, hz0, hz1, hz2⟩ := info_parts info8
  have hcell : ∀ (A : Addr) (k : Nat) (ll : List UInt8), RB w (some A) k ll → ∀ j u, (ll.map byteV)[j]? = some u → w.cell? (A.add j) = some u := fun A k ll hrr j u hj => by
    rw [List.getElem?_map] at hj
    cases hq : ll[j]? with
    | none => rw [hq] at hj; cases hj
    | some c' =>
      rw [hq] at hj
      obtain rfl := Option.some.inj hj
      have hjl := (List.getElem?_eq_some_iff.1 hq).1
      obtain ⟨b', off', e, hb, hc⟩ := hrr.2 (by have := hrr.1; omega)
      obtain rfl := Option.some.inj e
      exact cell_add (hc j c' hq)
  refine wpList_append_grows w hgd s x 24 ho 5 i0 (.int .u8 0) 1 1 Tryd.underlying24 hi hz0 hz1 hz2 rfl (by omega) (some ⟨b, off, none⟩) n cap (l.map byteV) hs (fun h => by cases h) (by simp [hr.1]) (fun A hA => by obtain rfl := Option.some.inj hA; exact hcell _ n l hr) ⟨b2, off2, none⟩ m c (l2.map byteV) hx (by simp [hr2.1]) (hcell _ m l2 hr2) (oneCell_bytes l2) hfull (by simp only [maxLen]; omega) (by omega) ?_
  intro v' w' h1 h2
  refine h v' w' ?_ h2
  unfold OB
  rw [List.length_append, List.map_append, hr.1, hr2.1]
  exact h1
def FullPost (l : List UInt8) (w : World) (e : Ending) (w' : World) : Prop := ∃ v', e = .returned v' ∧ OB w' w.heap.size v' l ∧ Below w.heap.size w w'
set_option maxRecDepth 100000 in
set_option maxHeartbeats 2000000 in
theorem lay_full (b n0 : Nat) (l : List UInt8) (n x h : Nat) (w : World) (hr : RB w (some ⟨b, 0, none⟩) n0 l) (h1 : 1 ≤ n) (h8 : n ≤ 8) (hx : x < 256 ^ n) (hlen : n0 ≤ 1048576) (hc : w.cell? ⟨h, 0, none⟩ = some (.int .u64 (x : Int))) :
    Calls Tryd.prog 21 #[.slice (some ⟨b, 0, none⟩) n0 n0, .int .i64 (n : Int), .slice (some ⟨h, 0, none⟩) 1 1] w (FullPost (l ++ leB x n) w) := by
  have HR := Lib.hid hr
  have CN := Lib.hid (fun w' => num_ok x n w' h1 h8 hx)
  clear hr hx
  go_enter Tryd.func21, Tryd.ntmps21
  go_wp2_with fail
  refine wp_loop_rounds 2 ?_
  rw [rounds_succ]
  go_wp2_with fail
  refine (CN.out _).mono ?_
  rintro e w2 ⟨g, rfl, hg, ho2, hb2⟩
  have R2 := Lib.hid ho2.rb
  have L2 := Lib.hid (HR.out.keep hb2)
  have B2 := Lib.hid hb2
  have hf1 : n0 < n0 + n := by omega
  have hf2 : n0 + n ≤ 140737488355328 := by omega
  clear ho2 hb2 hg
  go_wp2_with ((at_builtin; go_must (refine append_full rfl (.tmp 23) (.tmp 24) rfl b 0 n0 n0 l rfl L2.out g 0 n n (leB x n) rfl R2.out hf1 hf2 ?_); intro v3 w3 ho3 hg3; refine halt ?_))
  refine unhalt ?_
  have hF : FullPost (l ++ leB x n) w (.returned v3) w3 := ⟨v3, rfl, OB.less ho3 B2.out.size, B2.out.grown hg3 B2.out.size (fun k hk => by cases hk)⟩
  have HF := Lib.hid hF
  clear hF ho3 hg3 hf1 hf2
  go_wp2_with fail
  rw [rounds_succ]
  go_wp2_with fail
  go_ret
  exact HF.out
end Go.Proofs.YtpeaacbbfkanmaaDoor
