/- THE WALKS of package follow: next, mayName, names (printed by a program of ours). -/
import Derived.Test.YtlojmmcagglpoaaZFwUp
import Derived.Laws.ResultCell
namespace Go.Proofs.Ytlojmmcagglpoaa
open Go.RowKit Go.Maps
attribute [local go_sem ↓] Go.wp_at_zero Go.wp_at_succ
def stF (t : T5) : Value := .agg #[.int .i64 t.1, .int .i64 t.2.1, .int .i64 t.2.2.1, .int .i64 t.2.2.2.1]
def nextB (t : T5) (f : FwS) : Bool := decide (t.2.2.2.2 = 0) && decide (f.se < t.2.1)
def NextQ (W : World) (t : T5) (f : FwS) (e : Ending) (w' : World) : Prop := e = .returned (.tuple #[stF t, .bool (nextB t f)]) ∧ Below W.heap.size W w'
theorem ret_stb {w : World} {b : Nat} {dc : Array Value} {u : Tmp} {p : Tmp} {k : Bool} {fn : Func} {tmps : Array Value} (hf : fn.results = #[.cell p 71, .tmp u]) (hp : tmps.getD p undef = .pointer (some ⟨b, 0, none⟩)) (hu : tmps.getD u undef = .bool k) (h : Blk w b 71 dc) (hs : dc.size = 4) :
    (results fn tmps).run Try.prog w = .ok (.tuple #[.agg dc, .bool k]) w := by
  have h4 : (Try.prog.info? 71).map (·.size) = some 4 := by kernel_rfl
  rw [results_cell_tmp hf, hp, hu]
  simp only [asAddr, Sem.run_pure, Result.andThen, run_loadVar_row w b 71 71 dc (0, 0) _ h Try.underlying71 rfl (by rw [h4, hs])]
theorem ret_line {w : World} {b : Nat} {dc : Array Value} {u u2 : Tmp} {p : Tmp} {k k2 : Bool} {fn : Func} {tmps : Array Value} (hf : fn.results = #[.cell p 42, .tmp u, .tmp u2]) (hp : tmps.getD p undef = .pointer (some ⟨b, 0, none⟩)) (hu : tmps.getD u undef = .bool k) (hu2 : tmps.getD u2 undef = .bool k2) (h : Blk w b 42 dc) (hs : dc.size = 10) :
    (results fn tmps).run Try.prog w = .ok (.tuple #[.agg dc, .bool k, .bool k2]) w := by
  have h4 : (Try.prog.info? 42).map (·.size) = some 10 := by kernel_rfl
  have hl := run_loadVar_row (P := Try.prog) w b 42 42 dc (0, 0) _ h Try.underlying42 rfl (by rw [h4, hs])
  rw [Array.getD_eq_getD_getElem?] at hp hu hu2
  simp only [results, hf]
  simp [Result.andThen, hp, hu, hu2, asAddr, hl]
theorem ret_line2 {w : World} {b : Nat} {dc : Array Value} {u : Tmp} {p : Tmp} {k : Bool} {fn : Func} {tmps : Array Value} (hf : fn.results = #[.cell p 42, .tmp u]) (hp : tmps.getD p undef = .pointer (some ⟨b, 0, none⟩)) (hu : tmps.getD u undef = .bool k) (h : Blk w b 42 dc) (hs : dc.size = 10) :
    (results fn tmps).run Try.prog w = .ok (.tuple #[.agg dc, .bool k]) w := by
  have h4 : (Try.prog.info? 42).map (·.size) = some 10 := by kernel_rfl
  rw [results_cell_tmp hf, hp, hu]
  simp only [asAddr, Sem.run_pure, Result.andThen, run_loadVar_row w b 42 42 dc (0, 0) _ h Try.underlying42 rfl (by rw [h4, hs])]

set_option maxRecDepth 20000 in
set_option maxHeartbeats 2000000 in
theorem fw_next {W : World} {C : Nat → Nat} {c rb p : Nat} {k : FwK} {f : FwS} {D : World → Prop} {S : List UInt8 → T5} {I : Int → T5} {R : Int → Int → Int → Int → List UInt8 × Int} (h : FwR W C c rb k f) (ha : Asks p D S I R) (hD : Stay W C c D) : Calls Try.prog 64 #[.pointer (some ⟨rb, 0, none⟩), .pointer (some ⟨p, 0, none⟩)] W (NextQ W (S k.nm) f) := by
  obtain ⟨w1, hw1⟩ : ∃ w1, w1 = W.alloc (.cells #[.int .i64 0, .int .i64 0, .int .i64 0, .int .i64 0] 71) := ⟨_, rfl⟩
  obtain ⟨r, hr⟩ : ∃ r, r = W.heap.size := ⟨_, rfl⟩
  have B1 : Hid (Below W.heap.size W w1) := Lib.hid (by rw [hw1]; exact (Below.refl _ _).alloc (Nat.le_refl _) _)
  have K1 : Hid (Blk w1 r 71 #[.int .i64 0, .int .i64 0, .int .i64 0, .int .i64 0]) := Lib.hid (by rw [hw1]; exact Blk.new W _ _ hr)
  have F1 : Hid (FwR w1 C c rb k f) := Lib.hid (h.keep B1.out)
  have HR := Lib.hid hr
  have CS := Lib.hid (ha.stat w1 k.nm (hD w1 (Chg.of_below B1.out _)))
  obtain ⟨⟨t0, t1, t2, t3, t4⟩, ht⟩ : ∃ t, t = S k.nm := ⟨_, rfl⟩
  rw [← ht] at CS ⊢
  have y := F1.out.cells.2.2.2.2.2.2.2.2.2.1
  clear h ha hD ht
  go_enter Try.func64, Try.ntmps64
  go_upto_region 1 with fail
  rw [← hw1, ← hr]
  clear hw1 hr
  go_wp2_with fail
  refine CS.out.mono ?_
  rintro e w2 ⟨rfl, hb2⟩
  simp only
  obtain ⟨w3, hw3⟩ : ∃ w3, w3 = w2.alloc (.cells #[.int .i64 t0, .int .i64 t1, .int .i64 t2, .int .i64 t3] 71) := ⟨_, rfl⟩
  obtain ⟨b3, hb3⟩ : ∃ b3, b3 = w2.heap.size := ⟨_, rfl⟩
  have B13 : Hid (Below w1.heap.size w1 w3) := Lib.hid (by rw [hw3]; exact hb2.alloc hb2.size _)
  have K3 : Hid (Blk w3 b3 71 #[.int .i64 t0, .int .i64 t1, .int .i64 t2, .int .i64 t3]) := Lib.hid (by rw [hw3]; exact Blk.new w2 _ _ hb3)
  have F3 : Hid (FwR w3 C c rb k f) := Lib.hid (F1.out.keep B13.out)
  have KR3 : Hid (Blk w3 r 71 #[.int .i64 0, .int .i64 0, .int .i64 0, .int .i64 0]) := Lib.hid (K1.out.keep B13.out)
  have HNE : Hid (b3 ≠ r ∧ rb ≠ r) := Lib.hid ⟨by have := K1.out.lt; have := hb2.size; omega, by
    intro e
    obtain ⟨mb, v, hf⟩ := F1.out
    have h1 := hf.blk
    have h2 := K1.out
    rw [e] at h1
    unfold Blk at h1 h2
    rw [h1] at h2
    injection h2 with h2
    injection h2 with _ ht
    exact absurd ht (by decide)⟩
  clear hb2 CS y
  go_upto_region 2 with fail
  rw [← hw3, ← hb3]
  clear hw3 hb3
  by_cases her : t4 = 0
  · subst her
    refine wp_region_any (by kernel_rfl) ?_
    change wpAny _ _ _ _ _ _ _ (World.drew _)
    refine wpAny_of_held (S := fun w' => w'.cell? ⟨b3, 0, none⟩ = some (.int .i64 t0) ∧ w'.cell? ⟨b3, 1, none⟩ = some (.int .i64 t1) ∧ w'.cell? ⟨b3, 2, none⟩ = some (.int .i64 t2) ∧ w'.cell? ⟨b3, 3, none⟩ = some (.int .i64 t3) ∧ w'.cell? ⟨rb, 0, none⟩ = some (.int .i64 f.se)) _ _ _ _ ?_
    obtain ⟨w4, hw4⟩ : ∃ w4, w4 = w3.drew := ⟨_, rfl⟩
    have K4 : Hid (Blk w4 b3 71 #[.int .i64 t0, .int .i64 t1, .int .i64 t2, .int .i64 t3]) := Lib.hid (by rw [hw4]; exact K3.out)
    have KR4 : Hid (Blk w4 r 71 #[.int .i64 0, .int .i64 0, .int .i64 0, .int .i64 0]) := Lib.hid (by rw [hw4]; exact KR3.out)
    have F4 : Hid (FwR w4 C c rb k f) := Lib.hid (by rw [hw4]; exact F3.out.keep (Below.refl _ _).drew)
    have B4 : Hid (Below W.heap.size W w4) := Lib.hid (by rw [hw4]; exact (B1.out.trans (B13.out.mono B1.out.size)).drew)
    rw [← hw4]
    clear hw4
    have hHeld : (fun w' => w'.cell? ⟨b3, 0, none⟩ = some (.int .i64 t0) ∧ w'.cell? ⟨b3, 1, none⟩ = some (.int .i64 t1) ∧ w'.cell? ⟨b3, 2, none⟩ = some (.int .i64 t2) ∧ w'.cell? ⟨b3, 3, none⟩ = some (.int .i64 t3) ∧ w'.cell? ⟨rb, 0, none⟩ = some (.int .i64 f.se)) w4 := ⟨K4.out.cell 0, K4.out.cell 1, K4.out.cell 2, K4.out.cell 3, F4.out.cells.1⟩
    refine wpAnyH_take (i := 0) (v := ?_) rfl (by kernel_rfl) (by kernel_rfl) (by kernel_rfl) (fun _ _ _ h => h) (Or.inl ⟨by rfl, ?_⟩) (by assumption) ?_
    rotate_left 1
    · intro w hSw; obtain ⟨q0, q1, q2, q3, q4⟩ := hSw; (try dsimp only at hSw); go_simp <;> with_reducible rfl
    try simp only [Act.put, List.setIfInBounds_toArray, List.set_cons_zero, List.set_cons_succ, List.getElem_toArray, List.getElem_cons_zero]
    refine wpAnyH_take (i := 1) (v := ?_) rfl (by kernel_rfl) (by kernel_rfl) (by kernel_rfl) (fun _ _ _ h => h) (Or.inl ⟨by rfl, ?_⟩) (by assumption) ?_
    rotate_left 1
    · intro w hSw; (try dsimp only at hSw); go_simp <;> with_reducible rfl
    try simp only [Act.put, List.setIfInBounds_toArray, List.set_cons_zero, List.set_cons_succ, List.getElem_toArray, List.getElem_cons_zero, List.getElem_cons_succ]
    refine wpAnyH_take (i := 2) (v := .bool true) rfl (by kernel_rfl) (by kernel_rfl) (by kernel_rfl) (fun _ _ _ h => h) (Or.inl ⟨by rfl, ?_⟩) (by assumption) ?_
    · intro w hSw; go_simp
    try simp only [Act.put, List.setIfInBounds_toArray, List.set_cons_zero, List.set_cons_succ, List.getElem_toArray, List.getElem_cons_zero, List.getElem_cons_succ]
    refine wpAnyH_take (i := 3) (v := ?_) rfl (by kernel_rfl) (by kernel_rfl) (by kernel_rfl) (fun _ _ _ h => h) (Or.inl ⟨by rfl, ?_⟩) (by assumption) ?_
    rotate_left 1
    · intro w hSw; (try dsimp only at hSw); go_simp <;> with_reducible rfl
    try simp only [Act.put, List.setIfInBounds_toArray, List.set_cons_zero, List.set_cons_succ, List.getElem_toArray, List.getElem_cons_zero, List.getElem_cons_succ]
    refine wpAnyH_take (i := 4) (v := ?_) rfl (by kernel_rfl) (by kernel_rfl) (by kernel_rfl) (fun _ _ _ h => h) (Or.inl ⟨by rfl, ?_⟩) (by assumption) ?_
    rotate_left 1
    · intro w hSw; (try dsimp only at hSw); go_simp <;> with_reducible rfl
    try simp only [Act.put, List.setIfInBounds_toArray, List.set_cons_zero, List.set_cons_succ, List.getElem_toArray, List.getElem_cons_zero, List.getElem_cons_succ]
    refine wpAnyH_take (i := 5) (v := ?_) rfl (by kernel_rfl) (by kernel_rfl) (by kernel_rfl) (fun _ _ _ h => h) (Or.inl ⟨by rfl, ?_⟩) (by assumption) ?_
    rotate_left 1
    · intro w hSw; obtain ⟨q0, q1, q2, q3, q4⟩ := hSw; (try dsimp only at hSw); go_simp <;> with_reducible rfl
    try simp only [Act.put, List.setIfInBounds_toArray, List.set_cons_zero, List.set_cons_succ, List.getElem_toArray, List.getElem_cons_zero, List.getElem_cons_succ]
    refine wpAnyH_take (i := 6) (v := ?_) rfl (by kernel_rfl) (by kernel_rfl) (by kernel_rfl) (fun _ _ _ h => h) (Or.inl ⟨by rfl, ?_⟩) (by assumption) ?_
    rotate_left 1
    · intro w hSw; (try dsimp only at hSw); go_simp <;> with_reducible rfl
    try simp only [Act.put, List.setIfInBounds_toArray, List.set_cons_zero, List.set_cons_succ, List.getElem_toArray, List.getElem_cons_zero, List.getElem_cons_succ]
    refine wpAnyH_take (i := 7) (v := ?_) rfl (by kernel_rfl) (by kernel_rfl) (by kernel_rfl) (fun _ _ _ h => h) (Or.inl ⟨by rfl, ?_⟩) (by assumption) ?_
    rotate_left 1
    · intro w hSw; (try dsimp only at hSw); go_simp <;> with_reducible rfl
    try simp only [Act.put, List.setIfInBounds_toArray, List.set_cons_zero, List.set_cons_succ, List.getElem_toArray, List.getElem_cons_zero, List.getElem_cons_succ]
    refine wpAnyH_take (i := 8) (v := ?_) rfl (by kernel_rfl) (by kernel_rfl) (by kernel_rfl) (fun _ _ _ h => h) (Or.inl ⟨by rfl, ?_⟩) (by assumption) ?_
    rotate_left 1
    · intro w hSw; (try dsimp only at hSw); go_simp <;> with_reducible rfl
    try simp only [Act.put, List.setIfInBounds_toArray, List.set_cons_zero, List.set_cons_succ, List.getElem_toArray, List.getElem_cons_zero, List.getElem_cons_succ]
    refine wpAnyH_take (i := 9) (v := ?_) rfl (by kernel_rfl) (by kernel_rfl) (by kernel_rfl) (fun _ _ _ h => h) (Or.inl ⟨by rfl, ?_⟩) (by assumption) ?_
    rotate_left 1
    · intro w hSw; (try dsimp only at hSw); go_simp <;> with_reducible rfl
    try simp only [Act.put, List.setIfInBounds_toArray, List.set_cons_zero, List.set_cons_succ, List.getElem_toArray, List.getElem_cons_zero, List.getElem_cons_succ]
    refine wpAnyH_take (i := 10) (v := ?_) rfl (by kernel_rfl) (by kernel_rfl) (by kernel_rfl) (fun _ _ _ h => h) (Or.inl ⟨by rfl, ?_⟩) (by assumption) ?_
    rotate_left 1
    · intro w hSw; (try dsimp only at hSw); go_simp <;> with_reducible rfl
    try simp only [Act.put, List.setIfInBounds_toArray, List.set_cons_zero, List.set_cons_succ, List.getElem_toArray, List.getElem_cons_zero, List.getElem_cons_succ]
    refine wpAnyH_take (i := 11) (v := ?_) rfl (by kernel_rfl) (by kernel_rfl) (by kernel_rfl) (fun _ _ _ h => h) (Or.inl ⟨by rfl, ?_⟩) (by assumption) ?_
    rotate_left 1
    · intro w hSw; obtain ⟨q0, q1, q2, q3, q4⟩ := hSw; (try dsimp only at hSw); go_simp <;> with_reducible rfl
    try simp only [Act.put, List.setIfInBounds_toArray, List.set_cons_zero, List.set_cons_succ, List.getElem_toArray, List.getElem_cons_zero, List.getElem_cons_succ]
    refine wpAnyH_take (i := 12) (v := ?_) rfl (by kernel_rfl) (by kernel_rfl) (by kernel_rfl) (fun _ _ _ h => h) (Or.inl ⟨by rfl, ?_⟩) (by assumption) ?_
    rotate_left 1
    · intro w hSw; (try dsimp only at hSw); go_simp <;> with_reducible rfl
    try simp only [Act.put, List.setIfInBounds_toArray, List.set_cons_zero, List.set_cons_succ, List.getElem_toArray, List.getElem_cons_zero, List.getElem_cons_succ]
    refine wpAnyH_take (i := 13) (v := ?_) rfl (by kernel_rfl) (by kernel_rfl) (by kernel_rfl) (fun _ _ _ h => h) (Or.inl ⟨by rfl, ?_⟩) (by assumption) ?_
    rotate_left 1
    · intro w hSw; (try dsimp only at hSw); go_simp <;> with_reducible rfl
    try simp only [Act.put, List.setIfInBounds_toArray, List.set_cons_zero, List.set_cons_succ, List.getElem_toArray, List.getElem_cons_zero, List.getElem_cons_succ]
    have z0 : w4.cell? ⟨r, 0, none⟩ = some (.int .i64 0) := KR4.out.cell 0
    have z1 : w4.cell? ⟨r, 1, none⟩ = some (.int .i64 0) := KR4.out.cell 1
    have z2 : w4.cell? ⟨r, 2, none⟩ = some (.int .i64 0) := KR4.out.cell 2
    have z3 : w4.cell? ⟨r, 3, none⟩ = some (.int .i64 0) := KR4.out.cell 3
    have g0 := KR4.out.frozen 0
    have g1 := KR4.out.frozen 1
    have g2 := KR4.out.frozen 2
    have g3 := KR4.out.frozen 3
    refine wpAnyH_ready (rs := [14]) (by kernel_rfl) (by simp) (AllReadyH.cons rfl (fun K hK => ?_) AllReadyH.nil)
    have hPrev := hHeld
    clear hHeld
    go_simp
    clear z0 z1 z2 z3 g0 g1 g2 g3
    obtain ⟨w5, hw5⟩ : ∃ w5, w5 = (((w4.setCell ⟨r, 0, none⟩ (.int .i64 t0)).setCell ⟨r, 1, none⟩ (.int .i64 t1)).setCell ⟨r, 2, none⟩ (.int .i64 t2)).setCell ⟨r, 3, none⟩ (.int .i64 t3) := ⟨_, rfl⟩
    have K5 : Hid (Blk w5 b3 71 #[.int .i64 t0, .int .i64 t1, .int .i64 t2, .int .i64 t3]) := Lib.hid (by rw [hw5]; exact ((((K4.out.far HNE.out.1 _).far HNE.out.1 _).far HNE.out.1 _).far HNE.out.1 _))
    have KR5 : Hid (Blk w5 r 71 #[.int .i64 t0, .int .i64 t1, .int .i64 t2, .int .i64 t3]) := Lib.hid (by rw [hw5]; exact ((((KR4.out.set_ 0 (.int .i64 t0)).set_ 1 (.int .i64 t1)).set_ 2 (.int .i64 t2)).set_ 3 (.int .i64 t3)))
    have y5 : w5.cell? ⟨rb, 0, none⟩ = some (.int .i64 f.se) := by
      obtain ⟨mb, v, hf⟩ := F4.out
      rw [hw5]
      exact ((((hf.blk.far HNE.out.2 _).far HNE.out.2 _).far HNE.out.2 _).far HNE.out.2 _).cell 0
    have HY5 := Lib.hid y5
    have B5 : Hid (Below W.heap.size W w5) := Lib.hid (by rw [hw5]; exact ((((B4.out.setCell (by show W.heap.size ≤ r; have := HR.out; omega) _).setCell (by show W.heap.size ≤ r; have := HR.out; omega) _).setCell (by show W.heap.size ≤ r; have := HR.out; omega) _).setCell (by show W.heap.size ≤ r; have := HR.out; omega) _))
    rw [← hw5]
    clear hw5 y5
    refine hK.out _ _ (⟨K5.out.cell 0, K5.out.cell 1, K5.out.cell 2, K5.out.cell 3, HY5.out⟩) (fun hHeld => ?_)
    clear hK K hPrev
    try simp only [Act.put, List.setIfInBounds_toArray, List.set_cons_zero, List.set_cons_succ, List.getElem_toArray, List.getElem_cons_zero, List.getElem_cons_succ]
    refine wpAnyH_take (i := 15) (v := ?_) rfl (by kernel_rfl) (by kernel_rfl) (by kernel_rfl) (fun _ _ _ h => h) (Or.inl ⟨by rfl, ?_⟩) (by assumption) ?_
    rotate_left 1
    · intro w hSw; (try dsimp only at hSw); go_simp <;> with_reducible rfl
    try simp only [Act.put, List.setIfInBounds_toArray, List.set_cons_zero, List.set_cons_succ, List.getElem_toArray, List.getElem_cons_zero, List.getElem_cons_succ]
    refine wpAnyH_done (by kernel_rfl) ?_ _
    clear hHeld
    go_wp2_with fail
    refine bodyPost_ret (v := .tuple #[stF (t0, t1, t2, t3, 0), .bool (decide (f.se < t1))]) (ret_stb rfl rfl rfl KR5.out rfl) rfl ?_
    exact ⟨by unfold nextB; simp, B5.out⟩
  · have hne : (t4 == (0 : Int)) = false := beq_eq_false_iff_ne.2 her
    refine wp_region_any (by kernel_rfl) ?_
    change wpAny _ _ _ _ _ _ _ (World.drew _)
    refine wpAny_of_held (S := fun w' => w'.cell? ⟨b3, 0, none⟩ = some (.int .i64 t0) ∧ w'.cell? ⟨b3, 1, none⟩ = some (.int .i64 t1) ∧ w'.cell? ⟨b3, 2, none⟩ = some (.int .i64 t2) ∧ w'.cell? ⟨b3, 3, none⟩ = some (.int .i64 t3) ∧ w'.cell? ⟨rb, 0, none⟩ = some (.int .i64 f.se)) _ _ _ _ ?_
    obtain ⟨w4, hw4⟩ : ∃ w4, w4 = w3.drew := ⟨_, rfl⟩
    have K4 : Hid (Blk w4 b3 71 #[.int .i64 t0, .int .i64 t1, .int .i64 t2, .int .i64 t3]) := Lib.hid (by rw [hw4]; exact K3.out)
    have KR4 : Hid (Blk w4 r 71 #[.int .i64 0, .int .i64 0, .int .i64 0, .int .i64 0]) := Lib.hid (by rw [hw4]; exact KR3.out)
    have F4 : Hid (FwR w4 C c rb k f) := Lib.hid (by rw [hw4]; exact F3.out.keep (Below.refl _ _).drew)
    have B4 : Hid (Below W.heap.size W w4) := Lib.hid (by rw [hw4]; exact (B1.out.trans (B13.out.mono B1.out.size)).drew)
    rw [← hw4]
    clear hw4
    have hHeld : (fun w' => w'.cell? ⟨b3, 0, none⟩ = some (.int .i64 t0) ∧ w'.cell? ⟨b3, 1, none⟩ = some (.int .i64 t1) ∧ w'.cell? ⟨b3, 2, none⟩ = some (.int .i64 t2) ∧ w'.cell? ⟨b3, 3, none⟩ = some (.int .i64 t3) ∧ w'.cell? ⟨rb, 0, none⟩ = some (.int .i64 f.se)) w4 := ⟨K4.out.cell 0, K4.out.cell 1, K4.out.cell 2, K4.out.cell 3, F4.out.cells.1⟩
    refine wpAnyH_take (i := 0) (v := ?_) rfl (by kernel_rfl) (by kernel_rfl) (by kernel_rfl) (fun _ _ _ h => h) (Or.inl ⟨by rfl, ?_⟩) (by assumption) ?_
    rotate_left 1
    · intro w hSw; obtain ⟨q0, q1, q2, q3, q4⟩ := hSw; (try dsimp only at hSw); go_simp <;> with_reducible rfl
    try simp only [Act.put, List.setIfInBounds_toArray, List.set_cons_zero, List.set_cons_succ, List.getElem_toArray, List.getElem_cons_zero]
    refine wpAnyH_take (i := 1) (v := ?_) rfl (by kernel_rfl) (by kernel_rfl) (by kernel_rfl) (fun _ _ _ h => h) (Or.inl ⟨by rfl, ?_⟩) (by assumption) ?_
    rotate_left 1
    · intro w hSw; (try dsimp only at hSw); go_simp <;> with_reducible rfl
    try simp only [Act.put, List.setIfInBounds_toArray, List.set_cons_zero, List.set_cons_succ, List.getElem_toArray, List.getElem_cons_zero, List.getElem_cons_succ]
    refine wpAnyH_take (i := 2) (v := .bool false) rfl (by kernel_rfl) (by kernel_rfl) (by kernel_rfl) (fun _ _ _ h => h) (Or.inl ⟨by rfl, ?_⟩) (by assumption) ?_
    · intro w hSw; go_simp
    try simp only [Act.put, List.setIfInBounds_toArray, List.set_cons_zero, List.set_cons_succ, List.getElem_toArray, List.getElem_cons_zero, List.getElem_cons_succ]
    refine wpAnyH_take (i := 3) (v := ?_) rfl (by kernel_rfl) (by kernel_rfl) (by kernel_rfl) (fun _ _ _ h => h) (Or.inl ⟨by rfl, ?_⟩) (by assumption) ?_
    rotate_left 1
    · intro w hSw; (try dsimp only at hSw); go_simp <;> with_reducible rfl
    try simp only [Act.put, List.setIfInBounds_toArray, List.set_cons_zero, List.set_cons_succ, List.getElem_toArray, List.getElem_cons_zero, List.getElem_cons_succ]
    refine wpAnyH_take (i := 4) (v := undef) rfl (by kernel_rfl) (by kernel_rfl) (by kernel_rfl) (fun _ _ _ h => h) (Or.inr ⟨by rfl, rfl⟩) (by assumption) ?_
    try simp only [Act.put, List.setIfInBounds_toArray, List.set_cons_zero, List.set_cons_succ, List.getElem_toArray, List.getElem_cons_zero, List.getElem_cons_succ]
    refine wpAnyH_take (i := 5) (v := undef) rfl (by kernel_rfl) (by kernel_rfl) (by kernel_rfl) (fun _ _ _ h => h) (Or.inr ⟨by rfl, rfl⟩) (by assumption) ?_
    try simp only [Act.put, List.setIfInBounds_toArray, List.set_cons_zero, List.set_cons_succ, List.getElem_toArray, List.getElem_cons_zero, List.getElem_cons_succ]
    refine wpAnyH_take (i := 6) (v := undef) rfl (by kernel_rfl) (by kernel_rfl) (by kernel_rfl) (fun _ _ _ h => h) (Or.inr ⟨by rfl, rfl⟩) (by assumption) ?_
    try simp only [Act.put, List.setIfInBounds_toArray, List.set_cons_zero, List.set_cons_succ, List.getElem_toArray, List.getElem_cons_zero, List.getElem_cons_succ]
    refine wpAnyH_take (i := 7) (v := undef) rfl (by kernel_rfl) (by kernel_rfl) (by kernel_rfl) (fun _ _ _ h => h) (Or.inr ⟨by rfl, rfl⟩) (by assumption) ?_
    try simp only [Act.put, List.setIfInBounds_toArray, List.set_cons_zero, List.set_cons_succ, List.getElem_toArray, List.getElem_cons_zero, List.getElem_cons_succ]
    refine wpAnyH_take (i := 8) (v := undef) rfl (by kernel_rfl) (by kernel_rfl) (by kernel_rfl) (fun _ _ _ h => h) (Or.inr ⟨by rfl, rfl⟩) (by assumption) ?_
    try simp only [Act.put, List.setIfInBounds_toArray, List.set_cons_zero, List.set_cons_succ, List.getElem_toArray, List.getElem_cons_zero, List.getElem_cons_succ]
    refine wpAnyH_take (i := 9) (v := undef) rfl (by kernel_rfl) (by kernel_rfl) (by kernel_rfl) (fun _ _ _ h => h) (Or.inr ⟨by rfl, rfl⟩) (by assumption) ?_
    try simp only [Act.put, List.setIfInBounds_toArray, List.set_cons_zero, List.set_cons_succ, List.getElem_toArray, List.getElem_cons_zero, List.getElem_cons_succ]
    refine wpAnyH_take (i := 10) (v := undef) rfl (by kernel_rfl) (by kernel_rfl) (by kernel_rfl) (fun _ _ _ h => h) (Or.inr ⟨by rfl, rfl⟩) (by assumption) ?_
    try simp only [Act.put, List.setIfInBounds_toArray, List.set_cons_zero, List.set_cons_succ, List.getElem_toArray, List.getElem_cons_zero, List.getElem_cons_succ]
    refine wpAnyH_take (i := 11) (v := undef) rfl (by kernel_rfl) (by kernel_rfl) (by kernel_rfl) (fun _ _ _ h => h) (Or.inr ⟨by rfl, rfl⟩) (by assumption) ?_
    try simp only [Act.put, List.setIfInBounds_toArray, List.set_cons_zero, List.set_cons_succ, List.getElem_toArray, List.getElem_cons_zero, List.getElem_cons_succ]
    refine wpAnyH_take (i := 12) (v := undef) rfl (by kernel_rfl) (by kernel_rfl) (by kernel_rfl) (fun _ _ _ h => h) (Or.inr ⟨by rfl, rfl⟩) (by assumption) ?_
    try simp only [Act.put, List.setIfInBounds_toArray, List.set_cons_zero, List.set_cons_succ, List.getElem_toArray, List.getElem_cons_zero, List.getElem_cons_succ]
    refine wpAnyH_take (i := 13) (v := ?_) rfl (by kernel_rfl) (by kernel_rfl) (by kernel_rfl) (fun _ _ _ h => h) (Or.inl ⟨by rfl, ?_⟩) (by assumption) ?_
    rotate_left 1
    · intro w hSw; (try dsimp only at hSw); go_simp <;> with_reducible rfl
    try simp only [Act.put, List.setIfInBounds_toArray, List.set_cons_zero, List.set_cons_succ, List.getElem_toArray, List.getElem_cons_zero, List.getElem_cons_succ]
    have z0 : w4.cell? ⟨r, 0, none⟩ = some (.int .i64 0) := KR4.out.cell 0
    have z1 : w4.cell? ⟨r, 1, none⟩ = some (.int .i64 0) := KR4.out.cell 1
    have z2 : w4.cell? ⟨r, 2, none⟩ = some (.int .i64 0) := KR4.out.cell 2
    have z3 : w4.cell? ⟨r, 3, none⟩ = some (.int .i64 0) := KR4.out.cell 3
    have g0 := KR4.out.frozen 0
    have g1 := KR4.out.frozen 1
    have g2 := KR4.out.frozen 2
    have g3 := KR4.out.frozen 3
    refine wpAnyH_ready (rs := [14]) (by kernel_rfl) (by simp) (AllReadyH.cons rfl (fun K hK => ?_) AllReadyH.nil)
    have hPrev := hHeld
    clear hHeld
    go_simp
    clear z0 z1 z2 z3 g0 g1 g2 g3
    obtain ⟨w5, hw5⟩ : ∃ w5, w5 = (((w4.setCell ⟨r, 0, none⟩ (.int .i64 t0)).setCell ⟨r, 1, none⟩ (.int .i64 t1)).setCell ⟨r, 2, none⟩ (.int .i64 t2)).setCell ⟨r, 3, none⟩ (.int .i64 t3) := ⟨_, rfl⟩
    have K5 : Hid (Blk w5 b3 71 #[.int .i64 t0, .int .i64 t1, .int .i64 t2, .int .i64 t3]) := Lib.hid (by rw [hw5]; exact ((((K4.out.far HNE.out.1 _).far HNE.out.1 _).far HNE.out.1 _).far HNE.out.1 _))
    have KR5 : Hid (Blk w5 r 71 #[.int .i64 t0, .int .i64 t1, .int .i64 t2, .int .i64 t3]) := Lib.hid (by rw [hw5]; exact ((((KR4.out.set_ 0 (.int .i64 t0)).set_ 1 (.int .i64 t1)).set_ 2 (.int .i64 t2)).set_ 3 (.int .i64 t3)))
    have y5 : w5.cell? ⟨rb, 0, none⟩ = some (.int .i64 f.se) := by
      obtain ⟨mb, v, hf⟩ := F4.out
      rw [hw5]
      exact ((((hf.blk.far HNE.out.2 _).far HNE.out.2 _).far HNE.out.2 _).far HNE.out.2 _).cell 0
    have HY5 := Lib.hid y5
    have B5 : Hid (Below W.heap.size W w5) := Lib.hid (by rw [hw5]; exact ((((B4.out.setCell (by show W.heap.size ≤ r; have := HR.out; omega) _).setCell (by show W.heap.size ≤ r; have := HR.out; omega) _).setCell (by show W.heap.size ≤ r; have := HR.out; omega) _).setCell (by show W.heap.size ≤ r; have := HR.out; omega) _))
    rw [← hw5]
    clear hw5 y5
    refine hK.out _ _ (⟨K5.out.cell 0, K5.out.cell 1, K5.out.cell 2, K5.out.cell 3, HY5.out⟩) (fun hHeld => ?_)
    clear hK K hPrev
    try simp only [Act.put, List.setIfInBounds_toArray, List.set_cons_zero, List.set_cons_succ, List.getElem_toArray, List.getElem_cons_zero, List.getElem_cons_succ]
    refine wpAnyH_take (i := 15) (v := ?_) rfl (by kernel_rfl) (by kernel_rfl) (by kernel_rfl) (fun _ _ _ h => h) (Or.inl ⟨by rfl, ?_⟩) (by assumption) ?_
    rotate_left 1
    · intro w hSw; (try dsimp only at hSw); go_simp <;> with_reducible rfl
    try simp only [Act.put, List.setIfInBounds_toArray, List.set_cons_zero, List.set_cons_succ, List.getElem_toArray, List.getElem_cons_zero, List.getElem_cons_succ]
    refine wpAnyH_done (by kernel_rfl) ?_ _
    clear hHeld
    go_wp2_with fail
    refine bodyPost_ret (v := .tuple #[stF (t0, t1, t2, t3, t4), .bool false]) (ret_stb rfl rfl rfl KR5.out rfl) rfl ?_
    exact ⟨by unfold nextB; simp [her], B5.out⟩
set_option maxRecDepth 20000 in
set_option maxHeartbeats 2000000 in
theorem fw_mayName {W : World} {p : Nat} {D : World → Prop} {S : List UInt8 → T5} {I : Int → T5} {R : Int → Int → Int → Int → List UInt8 × Int} (nm : List UInt8) (ha : Asks p D S I R) (hD : D W) : Calls Try.prog 34 #[.string (strB nm), .pointer (some ⟨p, 0, none⟩)] W fun e w' => e = .returned (.bool (decide ((S nm).2.2.2.2 ≠ 140))) ∧ Below W.heap.size W w' := by
  have CS := Lib.hid (ha.stat W nm hD)
  obtain ⟨⟨t0, t1, t2, t3, t4⟩, ht⟩ : ∃ t, t = S nm := ⟨_, rfl⟩
  rw [← ht] at CS ⊢
  clear ha hD ht
  go_enter Try.func34, Try.ntmps34
  go_wp2_with fail
  refine CS.out.mono ?_
  rintro e w2 ⟨rfl, hb2⟩
  simp only
  have B2 := Lib.hid (hb2.alloc hb2.size (.cells #[.int .i64 t0, .int .i64 t1, .int .i64 t2, .int .i64 t3] 71))
  clear hb2 CS
  go_wp2_with fail
  go_ret
  exact ⟨by by_cases h : t4 = 140 <;> simp [h], B2.out⟩
def namesB (t : T5) (n : Int) : Bool := decide (t.2.2.2.2 = 0) && decide (t.1 = n)
set_option maxRecDepth 20000 in
set_option maxHeartbeats 2000000 in
theorem fw_names {W : World} {p : Nat} {D : World → Prop} {S : List UInt8 → T5} {I : Int → T5} {R : Int → Int → Int → Int → List UInt8 × Int} (nm : List UInt8) (n : Int) (ha : Asks p D S I R) (hD : D W) : Calls Try.prog 37 #[.string (strB nm), .int .i64 n, .pointer (some ⟨p, 0, none⟩)] W fun e w' => e = .returned (.bool (namesB (S nm) n)) ∧ Below W.heap.size W w' := by
  have CS := Lib.hid (ha.stat W nm hD)
  obtain ⟨⟨t0, t1, t2, t3, t4⟩, ht⟩ : ∃ t, t = S nm := ⟨_, rfl⟩
  rw [← ht] at CS ⊢
  clear ha hD ht
  by_cases h4 : t4 = 0
  · subst h4
    go_enter Try.func37, Try.ntmps37
    go_wp2_with fail
    refine CS.out.mono ?_
    rintro e w2 ⟨rfl, hb2⟩
    simp only
    have B2 := Lib.hid (hb2.alloc hb2.size (.cells #[.int .i64 t0, .int .i64 t1, .int .i64 t2, .int .i64 t3] 71))
    clear hb2 CS
    go_wp2_with fail
    go_ret
    exact ⟨by unfold namesB; by_cases h : t0 = n <;> simp [h], B2.out⟩
  · have hne : (t4 == (0 : Int)) = false := beq_eq_false_iff_ne.2 h4
    go_enter Try.func37, Try.ntmps37
    go_wp2_with fail
    refine CS.out.mono ?_
    rintro e w2 ⟨rfl, hb2⟩
    simp only
    have B2 := Lib.hid (hb2.alloc hb2.size (.cells #[.int .i64 t0, .int .i64 t1, .int .i64 t2, .int .i64 t3] 71))
    clear hb2 CS
    go_wp2_with fail
    go_ret
    exact ⟨by unfold namesB; simp [h4], B2.out⟩
end Go.Proofs.Ytlojmmcagglpoaa
