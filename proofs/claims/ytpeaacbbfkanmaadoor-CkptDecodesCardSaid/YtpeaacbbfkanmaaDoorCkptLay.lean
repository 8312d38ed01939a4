/- THE WALK of ckpt.lay, with one number. -/
import Derived.Test.YtpeaacbbfkanmaaDoorCkptMay
namespace Go.Proofs.YtpeaacbbfkanmaaDoor
open Go.RowKit
def FreshV (w : World) (v v' : Value) : Prop := ∀ k, v'.ownBlock = some k → v.ownBlock = some k ∨ w.heap.size ≤ k
def LayPost (base : Nat) (v : Value) (l : List UInt8) (w : World) (e : Ending) (w' : World) : Prop :=
  ∃ v', e = .returned v' ∧ OB w' base v' l ∧ Chg (fun k => v.ownBlock = some k) w w' ∧ FreshV w v v'
theorem OB.rb {w : World} {base n cap : Nat} {A : Option Addr} {l : List UInt8} (h : OB w base (.slice A n cap) l) : RB w A n l := by
  obtain ⟨A', c', e, _, _, hr⟩ := h.form
  injection e with e1 e2 e3
  subst e1; subst e2; exact hr
set_option maxRecDepth 100000 in
set_option maxHeartbeats 2000000 in
theorem lay_one (base : Nat) (v : Value) (l : List UInt8) (n x h : Nat) (w : World) (hob : OB w base v l) (hbase : base ≤ w.heap.size) (h1 : 1 ≤ n) (h8 : n ≤ 8) (hx : x < 256 ^ n) (hlen : l.length ≤ 1048576) (hc : w.cell? ⟨h, 0, none⟩ = some (.int .u64 (x : Int))) :
    Calls Tryd.prog 21 #[v, .int .i64 (n : Int), .slice (some ⟨h, 0, none⟩) 1 1] w (LayPost base v (l ++ leB x n) w) := by
  obtain ⟨A, cap, rfl, _, _, _⟩ := hob.form
  have HO := Lib.hid hob
  have CN := Lib.hid (fun w' => num_ok x n w' h1 h8 hx)
  have HL := Lib.hid (show l.length + n ≤ 140737488355328 from by omega)
  clear hob hx
  obtain ⟨ll, hll⟩ : ∃ ll, ll = l.length := ⟨_, rfl⟩
  rw [← hll] at HO ⊢
  have HLL := Lib.hid hll; clear hll
  go_enter Tryd.func21, Tryd.ntmps21
  go_wp2_with fail
  refine wp_loop_rounds 2 ?_
  rw [rounds_succ]
  go_wp2_with fail
  refine (CN.out _).mono ?_
  rintro e w2 ⟨g, rfl, hg, ho2, hb2⟩
  have R2 := Lib.hid ho2.rb
  have O2 := Lib.hid (HO.out.keep hb2)
  have B2 := Lib.hid hb2
  have hb2s : base ≤ w2.heap.size := by have := hb2.size; omega
  clear ho2 hb2 hg
  go_wp2_with ((at_builtin; go_must (refine append_bytes rfl (.tmp 23) (.tmp 24) rfl base (.slice A ll cap) l rfl O2.out (some ⟨g, 0, none⟩) n n (leB x n) rfl R2.out HL.out hb2s ?_); intro v3 w3 ho3 hg3 ha3; refine halt ?_))
  refine unhalt ?_
  have hF : LayPost base (.slice A ll cap) (l ++ leB x n) w (.returned v3) w3 := by
    refine ⟨v3, rfl, ho3, (Chg.of_below B2.out _).grown hg3 (fun k hk _ => hk), fun k hk => ?_⟩
    rcases ha3 with h | h
    · left; rw [← h]; exact hk
    · right
      rw [hk] at h
      have := Option.some.inj h
      have := B2.out.size
      omega
  have HF := Lib.hid hF
  clear hF ho3 hg3 ha3
  go_wp2_with fail
  rw [rounds_succ]
  go_wp2_with fail
  go_ret
  exact HF.out
end Go.Proofs.YtpeaacbbfkanmaaDoor
