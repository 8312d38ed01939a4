/- THE WALKS of Book.step where it asks for the queue, and where it asks for the rest (printed by a program of ours). -/
import Derived.Test.YtjkocghbnljifaaDpStepB
import Derived.Deep.DeepMust
import Derived.OwnWalk
import Derived.WalkSpells
namespace Go.Proofs.Ytjkocghbnljifaa
open Go.RowKit
set_option maxRecDepth 100000 in
set_option maxHeartbeats 4000000 in
theorem step_else {w0 w : World} {C : Nat → Nat} {d g p r k N ba mo ji f : Nat} {xs q : List Th} {A : Option Addr} {m c : Nat} {se : Bool} {re : Nat} {wt : Int} {vr vw : Value} {rs : List (Nat × List Th)} {us : List Value} (i : Nat)
    (h : PT w0 w C d g p r k N ba mo ji f xs q A m c se re wt vr vw rs us) (hre : re ≤ i) (hrs : rs.length ≤ 2 * i) (hi : i ≤ 300) (o : Od) (hk : o.k ≠ 0 ∧ o.k ≠ 1 ∧ o.k ≠ 2 ∧ o.k ≠ 3) :
    Calls Try.prog 8 #[.pointer (some ⟨k, 0, none⟩), .pointer (some ⟨d, 0, none⟩), .pointer (some ⟨r, 0, none⟩), .agg o.cells] w (StepP w0 d r k N ba mo ji (i + 1)) := by
  obtain ⟨ok_, ⟨qp, qm0, qm1, qm2, qm3, qm4, qm5, qm6, qm7, qm8, qt, qr⟩, on, oy, oj⟩ := o
  simp only [Od.cells]
  have hbb := below_alloc w (.cells #[.int .i64 ok_, .int .i64 qp, .int .i64 qm0, .int .i64 qm1, .int .i64 qm2, .int .i64 qm3, .int .i64 qm4, .int .i64 qm5, .int .i64 qm6, .int .i64 qm7, .int .i64 qm8, .string qt, .int .u32 qr, .int .i64 on, .bool oy, .int .i64 oj] 46)
  have H1 := Lib.hid (h.keep hbb)
  have Z1 : Hid (Blk (w.alloc (.cells #[.int .i64 ok_, .int .i64 qp, .int .i64 qm0, .int .i64 qm1, .int .i64 qm2, .int .i64 qm3, .int .i64 qm4, .int .i64 qm5, .int .i64 qm6, .int .i64 qm7, .int .i64 qm8, .string qt, .int .u32 qr, .int .i64 on, .bool oy, .int .i64 oj] 46)) w.heap.size 46 #[.int .i64 ok_, .int .i64 qp, .int .i64 qm0, .int .i64 qm1, .int .i64 qm2, .int .i64 qm3, .int .i64 qm4, .int .i64 qm5, .int .i64 qm6, .int .i64 qm7, .int .i64 qm8, .string qt, .int .u32 qr, .int .i64 on, .bool oy, .int .i64 oj]) := Lib.hid (Blk.new w _ _ rfl)
  have HI : Hid (re ≤ i ∧ rs.length ≤ 2 * i ∧ i ≤ 300) := Lib.hid ⟨hre, hrs, hi⟩
  have HZ : Hid (d < w.heap.size ∧ g < w.heap.size ∧ p < w.heap.size ∧ r < w.heap.size ∧ k < w.heap.size ∧ ∀ b, inB A b → b < w.heap.size) := Lib.hid ⟨h.dv.blk.lt, h.dv.ring.blk.lt, h.dv.ring.arr.lt, h.rv.blk.lt, h.kb.lt, fun b hb => (h.rv.al.lt b hb).2⟩
  clear hbb h hre hrs hi
  obtain ⟨w1, hw1⟩ : ∃ w1, w1 = w.alloc (.cells #[.int .i64 ok_, .int .i64 qp, .int .i64 qm0, .int .i64 qm1, .int .i64 qm2, .int .i64 qm3, .int .i64 qm4, .int .i64 qm5, .int .i64 qm6, .int .i64 qm7, .int .i64 qm8, .string qt, .int .u32 qr, .int .i64 on, .bool oy, .int .i64 oj] 46) := ⟨_, rfl⟩
  obtain ⟨z, hz⟩ : ∃ z, z = w.heap.size := ⟨_, rfl⟩
  rw [← hw1] at H1 Z1
  rw [← hz] at Z1 HZ
  simp only at hk
  have t0 : (ok_ == 0) = false := by rw [beq_eq_false_iff_ne]; exact hk.1
  have t1 : (ok_ == 1) = false := by rw [beq_eq_false_iff_ne]; exact hk.2.1
  have t2 : (ok_ == 2) = false := by rw [beq_eq_false_iff_ne]; exact hk.2.2.1
  have t3 : (ok_ == 3) = false := by rw [beq_eq_false_iff_ne]; exact hk.2.2.2
  have y0 : w1.cell? ⟨z, 0, none⟩ = some (.int .i64 ok_) := Z1.out.cell 0
  have d0 : w1.cell? ⟨d, 0, none⟩ = some (.pointer (some ⟨g, 0, none⟩)) := H1.out.dv.blk.cell 0
  have r0 : w1.cell? ⟨r, 0, none⟩ = some (.slice A m c) := H1.out.rv.blk.cell 0
  have r1 : w1.cell? ⟨r, 1, none⟩ = some (.int .i64 (N : Int)) := H1.out.rv.blk.cell 1
  have r7 : w1.cell? ⟨r, 7, none⟩ = some (.int .i64 wt) := H1.out.rv.blk.cell 7
  obtain ⟨bv, hbv⟩ : ∃ bv, bv = decide (m = N) := ⟨_, rfl⟩
  have tb : ((m : Int) == (N : Int)) = bv := by
    rw [hbv]
    by_cases e : m = N
    · subst e; simp
    · rw [decide_eq_false e, beq_eq_false_iff_ne]; omega
  have CF : Hid (∀ t : Nat, Calls Try.prog 10 #[.pointer (some ⟨g, 0, none⟩)] (w1.drewN t) fun e w' => e = .returned (.bool bv) ∧ ∃ m, w' = (w1.drewN t).drewN m) := Lib.hid (fun t => by
    have h := fullT_any g p N f xs q (w1.drewN t) (H1.out.keep (below_drewN (Below.refl _ _) t)).dv.ring
    rw [H1.out.len.1, ← hbv] at h
    exact h)
  have CW : Hid (∀ t : Nat, Calls Try.prog 9 #[.pointer (some ⟨d, 0, none⟩)] (w1.drewN t) fun e w' => e = .returned (.int .i64 wt) ∧ w1.drewN t = w') := Lib.hid (fun t => wait_any d g p N f ba mo ji xs q se re wt _ (H1.out.keep (below_drewN (Below.refl _ _) t)).dv)
  have FF : Hid (∀ t, PL w0 (w1.drewN t) d r k N ba mo ji (i + 1)) := Lib.hid (fun t => by
    have h2 := HI.out
    exact ⟨_, _, _, _, _, _, _, _, _, _, _, _, _, _, _, _, H1.out.keep (below_drewN (Below.refl _ _) t), by omega, by omega⟩)
  clear hbv hk
  go_enter Try.func8, Try.ntmps8
  go_upto_region 1 with fail
  rw [← hw1, ← hz]
  clear hw1 hz
  go_upto_region 19 with fail
  cases bv
  all_goals
    go_quiet ((first | (with_reducible exact quiet (CW.out _)) | (with_reducible exact quiet2 (CF.out _))))
    go_wp2_with fail
    go_ret
    exact ⟨rfl, FF.out _⟩
theorem row_form {w : World} {B size n : Nat} {e : TypeId} {v : Value} {vs : List Value} (h : w.ownsRow B e size v n vs) : ∃ A c, v = .slice A n c := by
  rcases h.2 with ⟨e, h0⟩ | ⟨g, cap, cur, e, _⟩
  · exact ⟨none, 0, by rw [e, h0]⟩
  · exact ⟨_, _, e⟩
set_option maxRecDepth 100000 in
set_option maxHeartbeats 4000000 in
theorem step_queue {w0 w : World} {C : Nat → Nat} {d g p r k N ba mo ji f : Nat} {xs q : List Th} {A : Option Addr} {m c : Nat} {se : Bool} {re : Nat} {wt : Int} {vr vw : Value} {rs : List (Nat × List Th)} {us : List Value} (i : Nat)
    (h : PT w0 w C d g p r k N ba mo ji f xs q A m c se re wt vr vw rs us) (hre : re ≤ i) (hrs : rs.length ≤ 2 * i) (hi : i ≤ 300) (o : Od) (hk : o.k = 3) :
    Calls Try.prog 8 #[.pointer (some ⟨k, 0, none⟩), .pointer (some ⟨d, 0, none⟩), .pointer (some ⟨r, 0, none⟩), .agg o.cells] w (StepP w0 d r k N ba mo ji (i + 1)) := by
  obtain ⟨ok_, ⟨qp, qm0, qm1, qm2, qm3, qm4, qm5, qm6, qm7, qm8, qt, qr⟩, on, oy, oj⟩ := o
  simp only [Od.cells]
  have hbb := below_alloc w (.cells #[.int .i64 ok_, .int .i64 qp, .int .i64 qm0, .int .i64 qm1, .int .i64 qm2, .int .i64 qm3, .int .i64 qm4, .int .i64 qm5, .int .i64 qm6, .int .i64 qm7, .int .i64 qm8, .string qt, .int .u32 qr, .int .i64 on, .bool oy, .int .i64 oj] 46)
  have H1 := Lib.hid (h.keep hbb)
  have Z1 : Hid (Blk (w.alloc (.cells #[.int .i64 ok_, .int .i64 qp, .int .i64 qm0, .int .i64 qm1, .int .i64 qm2, .int .i64 qm3, .int .i64 qm4, .int .i64 qm5, .int .i64 qm6, .int .i64 qm7, .int .i64 qm8, .string qt, .int .u32 qr, .int .i64 on, .bool oy, .int .i64 oj] 46)) w.heap.size 46 #[.int .i64 ok_, .int .i64 qp, .int .i64 qm0, .int .i64 qm1, .int .i64 qm2, .int .i64 qm3, .int .i64 qm4, .int .i64 qm5, .int .i64 qm6, .int .i64 qm7, .int .i64 qm8, .string qt, .int .u32 qr, .int .i64 on, .bool oy, .int .i64 oj]) := Lib.hid (Blk.new w _ _ rfl)
  have HI : Hid (re ≤ i ∧ rs.length ≤ 2 * i ∧ i ≤ 300) := Lib.hid ⟨hre, hrs, hi⟩
  have HZ : Hid (d < w.heap.size ∧ g < w.heap.size ∧ p < w.heap.size ∧ r < w.heap.size ∧ k < w.heap.size ∧ ∀ b, inB A b → b < w.heap.size) := Lib.hid ⟨h.dv.blk.lt, h.dv.ring.blk.lt, h.dv.ring.arr.lt, h.rv.blk.lt, h.kb.lt, fun b hb => (h.rv.al.lt b hb).2⟩
  clear hbb h hre hrs hi
  obtain ⟨w1, hw1⟩ : ∃ w1, w1 = w.alloc (.cells #[.int .i64 ok_, .int .i64 qp, .int .i64 qm0, .int .i64 qm1, .int .i64 qm2, .int .i64 qm3, .int .i64 qm4, .int .i64 qm5, .int .i64 qm6, .int .i64 qm7, .int .i64 qm8, .string qt, .int .u32 qr, .int .i64 on, .bool oy, .int .i64 oj] 46) := ⟨_, rfl⟩
  obtain ⟨z, hz⟩ : ∃ z, z = w.heap.size := ⟨_, rfl⟩
  rw [← hw1] at H1 Z1
  rw [← hz] at Z1 HZ
  simp only at hk
  subst hk
  have y0 : w1.cell? ⟨z, 0, none⟩ = some (.int .i64 3) := Z1.out.cell 0
  have HLM : Hid (q.length = m ∧ m ≤ c ∧ m ≤ 64) := Lib.hid (by have h1 := H1.out.len; have h2 := H1.out.hN.2; omega)
  have CQ : Hid (∀ W, Below w1.heap.size w1 W → Calls Try.prog 12 #[.pointer (some ⟨d, 0, none⟩)] W fun e w' => ∃ a, e = .returned (.slice (some ⟨a, 0, none⟩) m m) ∧ W.heap.size ≤ a ∧ Blk w' a 44 (flatE Th.cells q).toArray ∧ Below W.heap.size W w') := Lib.hid (fun W hb => (queue_any d g p N f ba mo ji xs q se re wt W (H1.out.keep hb).dv).mono (by
    rintro e w' ⟨a, rfl, h1, h2, h3⟩
    rw [HLM.out.1]
    exact ⟨a, rfl, h1, h2, h3⟩))
  go_enter Try.func8, Try.ntmps8
  go_upto_region 1 with fail
  rw [← hw1, ← hz]
  clear hw1 hz
  go_wp2_with fail
  refine (CQ.out _ (Below.refl _ _)).mono ?_
  rintro e w2 ⟨a, rfl, ha, hba, hb2⟩
  have HB2 := Lib.hid hb2; have HA := Lib.hid ha; have KA := Lib.hid hba
  clear hb2 ha hba y0
  go_wp2_with fail
  refine (CQ.out _ HB2.out).mono ?_
  rintro e w3 ⟨b, rfl, hb, hbb, hb3⟩
  have HB3 := Lib.hid (HB2.out.trans (hb3.mono HB2.out.size))
  have KA3 := Lib.hid (KA.out.keep hb3)
  have KB3 := Lib.hid hbb
  have HAB : Hid (w1.heap.size ≤ a ∧ a < b ∧ b < w3.heap.size) := Lib.hid ⟨HA.out, Nat.lt_of_lt_of_le KA.out.lt hb, hbb.lt⟩
  have H3 := Lib.hid (H1.out.keep HB3.out)
  clear hb hbb hb3 HB2 HA KA CQ Z1 HZ
  have r0 : w3.cell? ⟨r, 0, none⟩ = some (.slice A m c) := H3.out.rv.blk.cell 0
  have r0a : (w3.alloc (.cells #[] 44)).cell? ⟨r, 0, none⟩ = some (.slice A m c) := (H3.out.rv.blk.keep (below_alloc _ _)).cell 0
  have hmx : m ≤ 100000 := by have := HLM.out; omega
  go_upto_region 15 with fail
  go_upto_region 16 with ((at_builtin; go_must (refine append_was (w0 := w3) rfl (.tmp 104) (.tmp 108) rfl w0.heap.size A m c q rfl H3.out.rv.al hmx rfl rfl ?_); intro A' c' w5 e1 e2 e3 e4))
  have HE1 := Lib.hid e1; have HE2 := Lib.hid e2; have HE3 := Lib.hid e3; have HE4 := Lib.hid e4
  clear e1 e2 e3 e4 r0 r0a
  -- all blocks have their colours
  have HB5 := Lib.hid (HB3.out.trans (HE3.out.mono HB3.out.size))
  have H5 : Hid (PT w0 w5 (paint (paint C w1.heap.size 6) w3.heap.size 7) d g p r k N ba mo ji f xs q A m c se re wt vr vw rs us) := Lib.hid (H1.out.recol HB5.out (fun b hb => by
    have := HB3.out.size
    rw [paint_old _ 7 (by omega), paint_old _ 6 hb]))
  have KA5 := Lib.hid (KA3.out.keep HE3.out)
  have KB5 := Lib.hid (KB3.out.keep HE3.out)
  have HCA : Hid (paint (paint C w1.heap.size 6) w3.heap.size 7 a = 6 ∧ paint (paint C w1.heap.size 6) w3.heap.size 7 b = 6 ∧ ∀ b', inB A' b' → paint (paint C w1.heap.size 6) w3.heap.size 7 b' = 7) := Lib.hid (by
    have h := HAB.out
    refine ⟨?_, ?_, fun b' hb' => paint_new _ 7 (HE4.out b' hb').1⟩
    · rw [paint_old _ 7 (by omega), paint_new _ 6 h.1]
    · rw [paint_old _ 7 (by omega), paint_new _ 6 (by omega)])
  have HRS : Hid (rs.length = us.length ∧ rs.length ≤ 600) := Lib.hid ⟨H5.out.ws.len.symm, by have := HI.out; omega⟩
  have HNX : Hid (∀ (j : Nat) (z : Nat × List Th), rs[j]? = some z → z.1 ≠ a ∧ z.1 ≠ b) := Lib.hid (fun j z hz => by
    have h1 := (H1.out.rw.rb j z hz).2.1.lt
    have h2 := HAB.out
    omega)
  have HLO : Hid (w0.heap.size ≤ a ∧ w0.heap.size ≤ b) := Lib.hid (by have h1 := HAB.out; have h2 := H1.out.bl.size; omega)
  clear H1 H3 HB3 HB5 KA3 KB3 HE3
  obtain ⟨C5, hC5⟩ : ∃ C5, C5 = paint (paint C w1.heap.size 6) w3.heap.size 7 := ⟨_, rfl⟩
  rw [← hC5] at H5 HCA
  clear hC5
  -- the lists
  obtain ⟨w6, hw6⟩ : ∃ w6, w6 = w5.alloc (.cells #[.slice (some ⟨a, 0, none⟩) m m, .slice (some ⟨b, 0, none⟩) m m] 48) := ⟨_, rfl⟩
  have H6 : Hid (PT w0 w6 C5 d g p r k N ba mo ji f xs q A m c se re wt vr vw rs us) := Lib.hid (by rw [hw6]; exact H5.out.keep (below_alloc _ _))
  have HB6 : Hid (Below w5.heap.size w5 w6) := Lib.hid (by rw [hw6]; exact below_alloc _ _)
  have KN6 : Hid (Blk (w5.alloc (.cells #[.slice (some ⟨a, 0, none⟩) m m, .slice (some ⟨b, 0, none⟩) m m] 48)) w5.heap.size 48 #[.slice (some ⟨a, 0, none⟩) m m, .slice (some ⟨b, 0, none⟩) m m]) := Lib.hid (Blk.new w5 _ _ rfl)
  have k0 : w5.cell? ⟨k, 0, none⟩ = some vr := H5.out.kb.cell 0
  have OWN : Hid ((w5.alloc (.cells #[.slice (some ⟨a, 0, none⟩) m m, .slice (some ⟨b, 0, none⟩) m m] 48)).ownsRow w0.heap.size 48 1 vr (rs.map rawV).length (rs.map rawV) ∧ w0.heap.size ≤ (w5.alloc (.cells #[.slice (some ⟨a, 0, none⟩) m m, .slice (some ⟨b, 0, none⟩) m m] 48)).heap.size) := Lib.hid (by rw [← hw6]; exact ⟨H6.out.rw.own, H6.out.bl.size⟩)
  have hrl : (rs.map rawV).length ≤ 1000000000 := by have := HRS.out; simp; omega
  have FIN : Hid (∀ v' w', w'.ownsRow w0.heap.size 48 1 v' (rs.map rawV ++ [Value.slice (some ⟨a, 0, none⟩) m m, Value.slice (some ⟨b, 0, none⟩) m m]).length (rs.map rawV ++ [Value.slice (some ⟨a, 0, none⟩) m m, Value.slice (some ⟨b, 0, none⟩) m m]) → (w5.alloc (.cells #[.slice (some ⟨a, 0, none⟩) m m, .slice (some ⟨b, 0, none⟩) m m] 48)).grownBy w' vr.ownBlock → (v'.ownBlock = vr.ownBlock ∨ v'.ownBlock = some (w5.alloc (.cells #[.slice (some ⟨a, 0, none⟩) m m, .slice (some ⟨b, 0, none⟩) m m] 48)).heap.size) →
      w'.cell? ⟨k, 0, none⟩ = some vr ∧ w'.frozen? ⟨k, 0, none⟩ = false ∧ PT2 w0 (w'.setCell ⟨k, 0, none⟩ v') (paint C5 w6.heap.size 4) d g p r k N ba mo ji f xs q A m c se re wt v' vw (rs ++ [(a, q), (b, q)]) rs us ∧ Chg (fun b => vr.ownBlock = some b ∨ b = k) w6 (w'.setCell ⟨k, 0, none⟩ v')) := Lib.hid (fun v' w' h1 h2 h3 => by
    rw [← hw6] at h2 h3
    have hl := HLM.out
    have hca := HCA.out
    have c1 : Chg (fun b => vr.ownBlock = some b) w6 w' := (Chg.refl _ w6).grown h2 (fun b e _ => e)
    have kb := H6.out.kb.chg c1 (fun e => by have := H6.out.rw.hv _ e; have := H6.out.ck; omega)
    refine ⟨kb.cell 0, kb.frozen 0, H6.out.more1 (x := (a, q)) (y := (b, q)) ⟨HLO.out.1, KA5.out.keep HB6.out, hca.1, by show q.length ≤ 64; omega⟩ ⟨HLO.out.2, KB5.out.keep HB6.out, hca.2.1, by show q.length ≤ 64; omega⟩ (by have := HAB.out; show a ≠ b; omega) HNX.out (by simpa [rawV, hl.1] using h1) h2 h3, ?_⟩
    exact (c1.mono (fun _ _ e => Or.inl e)).trans (Chg.setCell (S := fun b => b = k) (p := ⟨k, 0, none⟩) (Chg.refl _ w') (.inl rfl) v') (fun _ _ e => Or.inr e))
  clear hw6
  go_upto_region 17 with ((at_builtin; go_must (refine append_two rfl (.tmp 114) (.tmp 117) rfl w0.heap.size OWN.out.2 vr (rs.map rawV) rfl OWN.out.1 w5.heap.size 2 _ _ rfl KN6.out rfl rfl hrl ?_); intro v' w7 e1 e2 e3; obtain ⟨f1, f2, f3, f4⟩ := FIN.out v' w7 e1 e2 e3; obtain ⟨Av, cv, hv⟩ := row_form e1; generalize (rs.map rawV ++ [Value.slice (some ⟨a, 0, none⟩) m m, Value.slice (some ⟨b, 0, none⟩) m m]).length = nv at hv; subst hv; have F3 := Lib.hid f3; have F4 := Lib.hid f4; clear e1 e2 e3 f3 f4))
  obtain ⟨w8, hw8⟩ : ∃ w8, w8 = w7.setCell ⟨k, 0, none⟩ (.slice Av nv cv) := ⟨_, rfl⟩
  rw [← hw8] at F3 F4 ⊢
  have G8 : Hid (AS w8 A' m q ∧ ∀ b', inB A' b' → paint C5 w6.heap.size 4 b' = 7 ∧ b' < w8.heap.size) := Lib.hid (by
    have hlt : ∀ b', inB A' b' → b' < w6.heap.size := fun b' hb' => Nat.lt_of_lt_of_le (HE4.out b' hb').2 HB6.out.size
    refine ⟨(HE2.out.keep HB6.out).chg F4.out (fun b' hb' e => ?_), fun b' hb' => ⟨(paint_old C5 4 (hlt b' hb')).trans (HCA.out.2.2 b' hb'), Nat.lt_of_lt_of_le (hlt b' hb') F4.out.size⟩⟩
    have h7 := HCA.out.2.2 b' hb'
    rcases e with e | e
    · have := H6.out.rw.hv b' e; omega
    · have := H6.out.ck; rw [e] at h7; omega)
  clear hw8 f1 f2 F4 FIN OWN k0 KN6 HB6 H6 H5 HCA KA5 KB5 HE2 HE4 HNX HLO
  obtain ⟨w9, hw9⟩ : ∃ w9, w9 = w8.alloc (.cells #[.slice A' m c', .slice A' m c'] 48) := ⟨_, rfl⟩
  have H9 : Hid (PT2 w0 w9 (paint C5 w6.heap.size 4) d g p r k N ba mo ji f xs q A m c se re wt (.slice Av nv cv) vw (rs ++ [(a, q), (b, q)]) rs us) := Lib.hid (by rw [hw9]; exact F3.out.keep (below_alloc _ _))
  have HB9 : Hid (Below w8.heap.size w8 w9) := Lib.hid (by rw [hw9]; exact below_alloc _ _)
  have KN9 : Hid (Blk (w8.alloc (.cells #[.slice A' m c', .slice A' m c'] 48)) w8.heap.size 48 #[.slice A' m c', .slice A' m c']) := Lib.hid (Blk.new w8 _ _ rfl)
  have k1 : w8.cell? ⟨k, 1, none⟩ = some vw := F3.out.kb.cell 1
  have OWN : Hid ((w8.alloc (.cells #[.slice A' m c', .slice A' m c'] 48)).ownsRow w0.heap.size 48 1 vw us.length us ∧ w0.heap.size ≤ (w8.alloc (.cells #[.slice A' m c', .slice A' m c'] 48)).heap.size) := Lib.hid (by rw [← hw9]; exact ⟨H9.out.ws.own, H9.out.bl.size⟩)
  have hul : us.length ≤ 1000000000 := by have := HRS.out; omega
  have FIN : Hid (∀ v' w', w'.ownsRow w0.heap.size 48 1 v' (us ++ [Value.slice A' m c', Value.slice A' m c']).length (us ++ [Value.slice A' m c', Value.slice A' m c']) → (w8.alloc (.cells #[.slice A' m c', .slice A' m c'] 48)).grownBy w' vw.ownBlock → (v'.ownBlock = vw.ownBlock ∨ v'.ownBlock = some (w8.alloc (.cells #[.slice A' m c', .slice A' m c'] 48)).heap.size) →
      w'.cell? ⟨k, 1, none⟩ = some vw ∧ w'.frozen? ⟨k, 1, none⟩ = false ∧ PT w0 (w'.setCell ⟨k, 1, none⟩ v') (paint (paint C5 w6.heap.size 4) w9.heap.size 5) d g p r k N ba mo ji f xs q A m c se re wt (.slice Av nv cv) v' (rs ++ [(a, q), (b, q)]) (us ++ [Value.slice A' m c', Value.slice A' m c'])) := Lib.hid (fun v' w' h1 h2 h3 => by
    rw [← hw9] at h2 h3
    have hl := HLM.out
    have c1 : Chg (fun b => vw.ownBlock = some b) w9 w' := (Chg.refl _ w9).grown h2 (fun b e _ => e)
    have kb := H9.out.kb.chg c1 (fun e => by have := H9.out.ws.hv _ e; have := H9.out.ck; omega)
    have key := H9.out.more2 (x := (a, q)) (y := (b, q)) (A' := A') (c' := c') (v' := v') (w6 := w') ⟨by show q.length ≤ c'; have := HE1.out; omega, by show AS w9 A' q.length q; rw [hl.1]; exact G8.out.1.keep HB9.out, fun b' hb' => ⟨(G8.out.2 b' hb').1, Nat.lt_of_lt_of_le (G8.out.2 b' hb').2 HB9.out.size⟩⟩ rfl (by show w'.ownsRow w0.heap.size _ 1 v' (us ++ [Value.slice A' q.length c', Value.slice A' q.length c']).length (us ++ [Value.slice A' q.length c', Value.slice A' q.length c']); rw [hl.1]; exact h1) h2 h3
    refine ⟨kb.cell 1, kb.frozen 1, ?_⟩
    have e : us ++ [Value.slice A' (a, q).2.length c', Value.slice A' (a, q).2.length c'] = us ++ [Value.slice A' m c', Value.slice A' m c'] := by show us ++ [Value.slice A' q.length c', Value.slice A' q.length c'] = _; rw [hl.1]
    rw [e] at key
    exact key)
  clear hw9 F3 H9 HB9
  go_upto_region 18 with ((at_builtin; go_must (refine append_two rfl (.tmp 125) (.tmp 128) rfl w0.heap.size OWN.out.2 vw us rfl OWN.out.1 w8.heap.size 2 _ _ rfl KN9.out rfl rfl hul ?_); intro v' w10 e1 e2 e3; obtain ⟨f1, f2, f3⟩ := FIN.out v' w10 e1 e2 e3; obtain ⟨Aw, cw, hv⟩ := row_form e1; generalize (us ++ [Value.slice A' m c', Value.slice A' m c']).length = nw at hv; subst hv; have F5 := Lib.hid f3; clear e1 e2 e3 f3))
  obtain ⟨w11, hw11⟩ : ∃ w11, w11 = w10.setCell ⟨k, 1, none⟩ (.slice Aw nw cw) := ⟨_, rfl⟩
  rw [← hw11] at F5 ⊢
  have hm1 : m ≤ 1048576 := by omega
  have hmc := HE1.out
  have RD : Hid (AS w11 (some ⟨a, 0, none⟩) m q ∧ AS w11 (some ⟨b, 0, none⟩) m q ∧ AS w11 A' m q) := Lib.hid (by
    have hl := HLM.out
    have h1 := F5.out.rw.rb rs.length (a, q) (by simp)
    have h2 := F5.out.rw.rb (rs.length + 1) (b, q) (by simp)
    obtain ⟨A9, c9, e, _, h3, _⟩ := F5.out.ws.wb us.length (.slice A' m c') (a, q) (by simp) (by rw [← HRS.out.1]; simp)
    have h3' : AS w11 A9 q.length q := h3
    injection e with e0 e1 e2
    subst e0
    rw [hl.1] at h3'
    refine ⟨?_, ?_, h3'⟩
    · have := AS.of_blk h1.2.1; rw [hl.1] at this; exact this
    · have := AS.of_blk h2.2.1; rw [hl.1] at this; exact this)
  have FF : Hid (∀ t, PL w0 (w11.drewN t) d r k N ba mo ji (i + 1)) := Lib.hid (fun t => by
    have h2 := HI.out
    exact ⟨_, _, _, _, _, _, _, _, _, _, _, _, _, _, _, _, F5.out.keep (below_drewN (Below.refl _ _) t), by omega, by simp; omega⟩)
  have CS1 := Lib.hid (same_al _ _ m m c' q w11 RD.out.1 RD.out.2.2 hm1 (Nat.le_refl _) hmc)
  have CS2 : Hid (∀ t, Calls Try.prog 11 #[.slice (some ⟨b, 0, none⟩) m m, .slice A' m c'] (w11.drewN t) (SameP (w11.drewN t))) := Lib.hid (fun t => same_al _ _ m m c' q _ (RD.out.2.1.keep (below_drewN (Below.refl _ _) t)) (RD.out.2.2.keep (below_drewN (Below.refl _ _) t)) hm1 (Nat.le_refl _) hmc)
  clear hw11 f1 f2 F5 FIN OWN KN9 k1 RD G8
  go_wp2_with fail
  refine CS1.out.mono ?_
  rintro e w12 ⟨rfl, t1, hw12⟩
  subst hw12
  go_wp2_with fail
  refine (CS2.out _).mono ?_
  rintro e w13 ⟨rfl, t2, hw13⟩
  have F9 : Hid (PL w0 w13 d r k N ba mo ji (i + 1)) := Lib.hid (by rw [hw13]; have := FF.out (t1 + t2); simpa using this)
  clear hw13 FF CS1 CS2
  go_wp2_with fail
  go_ret
  exact ⟨rfl, F9.out⟩
end Go.Proofs.Ytjkocghbnljifaa
