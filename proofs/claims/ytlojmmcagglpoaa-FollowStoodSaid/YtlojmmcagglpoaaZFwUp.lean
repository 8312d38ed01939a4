/- THE WALKS of package follow, the small ones: up, letGo, gone, takeUp, next, mayName, names (printed by a program of ours). -/
import Derived.Test.YtlojmmcagglpoaaZFw
import Derived.Test.YtlojmmcagglpoaaZRegL
import Derived.Lib.MinMax
import Derived.Deep.RegionHeld
import Derived.Deep.RegionHeld3
import Derived.Deep.DrawnRows
import Derived.Deep.DeepMust
namespace Go.Proofs.Ytlojmmcagglpoaa
open Go.RowKit Go.Maps
attribute [local go_sem ↓] Go.wp_at_zero Go.wp_at_succ
def upv (n by_ : Int) : Int := n + min by_ (4611686018427387904 - n)
theorem upv_in {n by_ : Int} (h0 : 0 ≤ n) (h1 : n ≤ 4611686018427387904) (hb : 0 ≤ by_) : n ≤ upv n by_ ∧ upv n by_ ≤ 4611686018427387904 := by unfold upv; omega

set_option maxRecDepth 20000 in
set_option maxHeartbeats 2000000 in
theorem up_any (b o : Nat) (n y : Int) (w : World) (hc : w.cell? ⟨b, o, none⟩ = some (.int .i64 n)) (hf : w.frozen? ⟨b, o, none⟩ = false) (h0 : 0 ≤ n) (h1 : n ≤ 4611686018427387904) (hy : 0 ≤ y) : Calls Try.prog 62 #[.pointer (some ⟨b, o, none⟩), .int .i64 y] w fun e w' => e = .returned (.tuple #[]) ∧ w' = (w.setCell ⟨b, o, none⟩ (.int .i64 (upv n y))).drew := by
  have hmin : ∀ W : World, (Builtin.min_ #[3, 3] 3 #[.int .i64 y, .int .i64 (4611686018427387904 - n)]).run Try.prog W = .ok (.int .i64 (min y (4611686018427387904 - n))) W := by
    intro W; rw [run_min_int2]; congr 2; split <;> omega
  have hw : IntKind.i64.wrap (4611686018427387904 - n) = 4611686018427387904 - n := IntWalk.i64_in _ (by omega)
  have hw2 : IntKind.i64.wrap (n + min y (4611686018427387904 - n)) = upv n y := by rw [IntWalk.i64_in _ (by omega)]; rfl
  clear h0 h1 hy
  go_enter Try.func62, Try.ntmps62
  go_upto_region 0 with fail
  refine wp_region_any (by kernel_rfl) ?_
  change wpAny _ _ _ _ _ _ _ (World.drew _)
  refine any_of_L (S := SL 11 (fun w' => w'.cell? ⟨b, o, none⟩ = some (.int .i64 n))) _ _ _ _ ?_
  have hT0 : (fun w' => w'.cell? ⟨b, o, none⟩ = some (.int .i64 n)) w.drew := hc
  refine anyC_take (i := 0) 11 [10, 11] (v := ?_) (fun w' => w'.cell? ⟨b, o, none⟩ = some (.int .i64 n)) rfl (by kernel_rfl) (by kernel_rfl) (by kernel_rfl) (by kernel_rfl) (by kernel_rfl) (fun _ _ _ h => h) (fun _ _ h0 h => h h0) (SL.irr (i := 0) (by decide)).1 (SL.irr (i := 0) (by decide)).2 (Or.inl ⟨by rfl, ?_⟩) (SL.of hT0) ?_
  rotate_left 1
  · intro w hSw; (try dsimp only at hSw); go_simp <;> with_reducible rfl
  try simp only [Act.put, List.setIfInBounds_toArray, List.set_cons_zero, List.set_cons_succ, List.getElem_toArray, List.getElem_cons_zero]
  refine anyC_take (i := 1) 11 [2, 9, 11] (v := ?_) (fun w' => w'.cell? ⟨b, o, none⟩ = some (.int .i64 n)) rfl (by kernel_rfl) (by kernel_rfl) (by kernel_rfl) (by kernel_rfl) (by kernel_rfl) (fun _ _ _ h => h) (fun _ _ h0 h => h h0) (SL.irr (i := 1) (by decide)).1 (SL.irr (i := 1) (by decide)).2 (Or.inl ⟨by rfl, ?_⟩) (SL.of hT0) ?_
  rotate_left 1
  · intro w hSw; (try dsimp only at hSw); go_simp <;> with_reducible rfl
  try simp only [Act.put, List.setIfInBounds_toArray, List.set_cons_zero, List.set_cons_succ, List.getElem_toArray, List.getElem_cons_zero, List.getElem_cons_succ]
  refine anyC_take (i := 2) 11 [9, 11] (v := ?_) (fun w' => w'.cell? ⟨b, o, none⟩ = some (.int .i64 n)) rfl (by kernel_rfl) (by kernel_rfl) (by kernel_rfl) (by kernel_rfl) (by kernel_rfl) (fun _ _ _ h => h) (fun _ _ h0 h => h h0) (SL.irr (i := 2) (by decide)).1 (SL.irr (i := 2) (by decide)).2 (Or.inl ⟨by rfl, ?_⟩) (SL.of hT0) ?_
  rotate_left 1
  · intro w hSw; have q0 := hSw; (try dsimp only at hSw); go_simp <;> with_reducible rfl
  try simp only [Act.put, List.setIfInBounds_toArray, List.set_cons_zero, List.set_cons_succ, List.getElem_toArray, List.getElem_cons_zero, List.getElem_cons_succ]
  refine anyC_take (i := 3) 11 [8, 9, 11] (v := ?_) (fun w' => w'.cell? ⟨b, o, none⟩ = some (.int .i64 n)) rfl (by kernel_rfl) (by kernel_rfl) (by kernel_rfl) (by kernel_rfl) (by kernel_rfl) (fun _ _ _ h => h) (fun _ _ h0 h => h h0) (SL.irr (i := 3) (by decide)).1 (SL.irr (i := 3) (by decide)).2 (Or.inl ⟨by rfl, ?_⟩) (SL.of hT0) ?_
  rotate_left 1
  · intro w hSw; (try dsimp only at hSw); go_simp <;> with_reducible rfl
  try simp only [Act.put, List.setIfInBounds_toArray, List.set_cons_zero, List.set_cons_succ, List.getElem_toArray, List.getElem_cons_zero, List.getElem_cons_succ]
  refine anyC_take (i := 4) 11 [5, 6, 7, 8, 9, 11] (v := ?_) (fun w' => w'.cell? ⟨b, o, none⟩ = some (.int .i64 n)) rfl (by kernel_rfl) (by kernel_rfl) (by kernel_rfl) (by kernel_rfl) (by kernel_rfl) (fun _ _ _ h => h) (fun _ _ h0 h => h h0) (SL.irr (i := 4) (by decide)).1 (SL.irr (i := 4) (by decide)).2 (Or.inl ⟨by rfl, ?_⟩) (SL.of hT0) ?_
  rotate_left 1
  · intro w hSw; (try dsimp only at hSw); go_simp <;> with_reducible rfl
  try simp only [Act.put, List.setIfInBounds_toArray, List.set_cons_zero, List.set_cons_succ, List.getElem_toArray, List.getElem_cons_zero, List.getElem_cons_succ]
  refine anyC_take (i := 5) 11 [6, 7, 8, 9, 11] (v := ?_) (fun w' => w'.cell? ⟨b, o, none⟩ = some (.int .i64 n)) rfl (by kernel_rfl) (by kernel_rfl) (by kernel_rfl) (by kernel_rfl) (by kernel_rfl) (fun _ _ _ h => h) (fun _ _ h0 h => h h0) (SL.irr (i := 5) (by decide)).1 (SL.irr (i := 5) (by decide)).2 (Or.inl ⟨by rfl, ?_⟩) (SL.of hT0) ?_
  rotate_left 1
  · intro w hSw; (try dsimp only at hSw); go_simp <;> with_reducible rfl
  try simp only [Act.put, List.setIfInBounds_toArray, List.set_cons_zero, List.set_cons_succ, List.getElem_toArray, List.getElem_cons_zero, List.getElem_cons_succ]
  refine anyC_take (i := 6) 11 [7, 8, 9, 11] (v := ?_) (fun w' => w'.cell? ⟨b, o, none⟩ = some (.int .i64 n)) rfl (by kernel_rfl) (by kernel_rfl) (by kernel_rfl) (by kernel_rfl) (by kernel_rfl) (fun _ _ _ h => h) (fun _ _ h0 h => h h0) (SL.irr (i := 6) (by decide)).1 (SL.irr (i := 6) (by decide)).2 (Or.inl ⟨by rfl, ?_⟩) (SL.of hT0) ?_
  rotate_left 1
  · intro w hSw; have q0 := hSw; (try dsimp only at hSw); go_simp <;> with_reducible rfl
  try simp only [Act.put, List.setIfInBounds_toArray, List.set_cons_zero, List.set_cons_succ, List.getElem_toArray, List.getElem_cons_zero, List.getElem_cons_succ]
  refine anyC_take (i := 7) 11 [8, 9, 11] (v := ?_) (fun w' => w'.cell? ⟨b, o, none⟩ = some (.int .i64 n)) rfl (by kernel_rfl) (by kernel_rfl) (by kernel_rfl) (by kernel_rfl) (by kernel_rfl) (fun _ _ _ h => h) (fun _ _ h0 h => h h0) (SL.irr (i := 7) (by decide)).1 (SL.irr (i := 7) (by decide)).2 (Or.inl ⟨by rfl, ?_⟩) (SL.of hT0) ?_
  rotate_left 1
  · intro w hSw; (try dsimp only at hSw); go_simp <;> with_reducible rfl
  try simp only [Act.put, List.setIfInBounds_toArray, List.set_cons_zero, List.set_cons_succ, List.getElem_toArray, List.getElem_cons_zero, List.getElem_cons_succ]
  refine anyC_take (i := 8) 11 [9, 11] (v := ?_) (fun w' => w'.cell? ⟨b, o, none⟩ = some (.int .i64 n)) rfl (by kernel_rfl) (by kernel_rfl) (by kernel_rfl) (by kernel_rfl) (by kernel_rfl) (fun _ _ _ h => h) (fun _ _ h0 h => h h0) (SL.irr (i := 8) (by decide)).1 (SL.irr (i := 8) (by decide)).2 (Or.inl ⟨by rfl, ?_⟩) (SL.of hT0) ?_
  rotate_left 1
  · intro w hSw; (try dsimp only at hSw); go_simp <;> with_reducible rfl
  try simp only [Act.put, List.setIfInBounds_toArray, List.set_cons_zero, List.set_cons_succ, List.getElem_toArray, List.getElem_cons_zero, List.getElem_cons_succ]
  refine anyC_take (i := 9) 11 [11] (v := ?_) (fun w' => w'.cell? ⟨b, o, none⟩ = some (.int .i64 n)) rfl (by kernel_rfl) (by kernel_rfl) (by kernel_rfl) (by kernel_rfl) (by kernel_rfl) (fun _ _ _ h => h) (fun _ _ h0 h => h h0) (SL.irr (i := 9) (by decide)).1 (SL.irr (i := 9) (by decide)).2 (Or.inl ⟨by rfl, ?_⟩) (SL.of hT0) ?_
  rotate_left 1
  · intro w hSw; (try dsimp only at hSw); go_simp <;> with_reducible rfl
  try simp only [Act.put, List.setIfInBounds_toArray, List.set_cons_zero, List.set_cons_succ, List.getElem_toArray, List.getElem_cons_zero, List.getElem_cons_succ]
  refine anyC_take (i := 10) 11 [11] (v := ?_) (fun w' => w'.cell? ⟨b, o, none⟩ = some (.int .i64 n)) rfl (by kernel_rfl) (by kernel_rfl) (by kernel_rfl) (by kernel_rfl) (by kernel_rfl) (fun _ _ _ h => h) (fun _ _ h0 h => h h0) (SL.irr (i := 10) (by decide)).1 (SL.irr (i := 10) (by decide)).2 (Or.inl ⟨by rfl, ?_⟩) (SL.of hT0) ?_
  rotate_left 1
  · intro w hSw; (try dsimp only at hSw); go_simp <;> with_reducible rfl
  try simp only [Act.put, List.setIfInBounds_toArray, List.set_cons_zero, List.set_cons_succ, List.getElem_toArray, List.getElem_cons_zero, List.getElem_cons_succ]
  refine anyL_ready (rs := [11]) (by kernel_rfl) (by simp) (AllL.cons rfl (fun K hK => ?_) AllL.nil)
  go_simp
  refine hK.out _ _ (SL.fin (by kernel_rfl)) ?_
  clear hK K hT0
  try simp only [Act.put, List.setIfInBounds_toArray, List.set_cons_zero, List.set_cons_succ, List.getElem_toArray, List.getElem_cons_zero, List.getElem_cons_succ]
  refine anyL_done (by kernel_rfl) ?_ _
  go_wp2_with fail
  go_end0
  exact ⟨rfl, rfl⟩
/-- what the small ones do -/
def FwS.letGo (f : FwS) : FwS := { f with ino := 0, ge := 0, off := 0, u := [] }
def FwS.gone (f : FwS) : FwS := { f.letGo with go := upv f.go 1 }
def FwS.takeUp (f : FwS) (t : T5) : FwS := { f with mi := upv f.mi (t.2.1 - f.se - 1), se := t.2.1, ino := t.1, ge := t.2.2.1, off := 0, u := [] }
def inM (x : Int) : Prop := 0 ≤ x ∧ x ≤ 4611686018427387904
structure FwS.Ok (f : FwS) : Prop where
  se : inM f.se
  ino : inM f.ino
  ge : inM f.ge
  off : inM f.off
  mi : inM f.mi
  go : inM f.go
  cu : inM f.cu
  ta : inM f.ta
  lo : inM f.lo
def DoneQ (W : World) (C : Nat → Nat) (c rb : Nat) (k : FwK) (f : FwS) (e : Ending) (w' : World) : Prop := e = .returned (.tuple #[]) ∧ FwQ W C c rb k f w'
set_option maxRecDepth 20000 in
set_option maxHeartbeats 2000000 in
theorem fw_letGo {W : World} {C : Nat → Nat} {c rb : Nat} {k : FwK} {f : FwS} (h : FwR W C c rb k f) : Calls Try.prog 61 #[.pointer (some ⟨rb, 0, none⟩)] W (DoneQ W C c rb k f.letGo) := by
  obtain ⟨w1, hw1⟩ : ∃ w1, w1 = ((W.setCell ⟨rb, 1, none⟩ (.int .i64 0)).setCell ⟨rb, 2, none⟩ (.int .i64 0)).setCell ⟨rb, 3, none⟩ (.int .i64 0) := ⟨_, rfl⟩
  have Q1 : Hid (FwQ W C c rb k (((f.put 1 0).put 2 0).put 3 0) w1) := Lib.hid (by rw [hw1]; exact (((FwQ.refl h).put (i := 1) (by decide) 0).put (i := 2) (by decide) 0).put (i := 3) (by decide) 0)
  obtain ⟨q0, q1, q2, q3, q4, q5, q6, q7, q8, q10, q11, q12⟩ := h.cells
  have f1 := h.frozen 1
  have f2 := h.frozen 2
  have f3 := h.frozen 3
  obtain ⟨mb, v, y9, hm, hK⟩ := Q1.out.1.maker
  have CD := Lib.hid (drop_any mb v k.line _ _ w1 hm)
  have HK := Lib.hid hK
  clear hm hK q0 q4 q5 q6 q7 q8 q10 q11 q12 h
  go_enter Try.func61, Try.ntmps61
  go_upto_region 1 with fail
  rw [← hw1]
  clear hw1 q1 q2 q3 f1 f2 f3
  go_wp2_with fail
  refine CD.out.mono ?_
  rintro e w2 ⟨rfl, hm2, hc2⟩
  have HF : Hid (DoneQ W C c rb k f.letGo (.returned (.tuple #[])) w2) := Lib.hid ⟨rfl, Q1.out.trans (HK.out _ _ _ _ hm2 hc2 (Fresh.nil _ _))⟩
  clear hm2 hc2
  go_wp2_with fail
  go_end0
  exact HF.out
set_option maxRecDepth 20000 in
set_option maxHeartbeats 2000000 in
theorem fw_gone {W : World} {C : Nat → Nat} {c rb : Nat} {k : FwK} {f : FwS} (h : FwR W C c rb k f) (hg : inM f.go) : Calls Try.prog 38 #[.pointer (some ⟨rb, 0, none⟩)] W (DoneQ W C c rb k f.gone) := by
  have CG := Lib.hid (fw_letGo h)
  have HG := Lib.hid hg
  clear h hg
  go_enter Try.func38, Try.ntmps38
  go_wp2_with fail
  refine CG.out.mono ?_
  rintro e w1 ⟨rfl, h1⟩
  have Q1 := Lib.hid h1
  have CU := Lib.hid (up_any rb 5 f.go 1 w1 (Q1.out.1.cells).2.2.2.2.2.1 (Q1.out.1.frozen 5) HG.out.1 HG.out.2 (by decide))
  clear h1 CG
  go_wp2_with fail
  refine CU.out.mono ?_
  rintro e w2 ⟨rfl, hw2⟩
  have HF : Hid (DoneQ W C c rb k f.gone (.returned (.tuple #[])) w2) := Lib.hid ⟨rfl, by rw [hw2]; exact (Q1.out.put (i := 5) (by decide) (upv f.go 1)).drew⟩
  clear hw2 CU
  go_wp2_with fail
  go_end0
  exact HF.out
set_option maxRecDepth 20000 in
set_option maxHeartbeats 2000000 in
theorem fw_takeUp {W : World} {C : Nat → Nat} {c rb : Nat} {k : FwK} {f : FwS} (h : FwR W C c rb k f) (t0 t1 t2 t3 : Int) (hm : inM f.mi) (hs : inM f.se) (hlt : f.se < t1) (ht1 : t1 ≤ 4611686018427387904) : Calls Try.prog 65 #[.pointer (some ⟨rb, 0, none⟩), .agg #[.int .i64 t0, .int .i64 t1, .int .i64 t2, .int .i64 t3]] W (DoneQ W C c rb k (f.takeUp (t0, t1, t2, t3, 0))) := by
  obtain ⟨w1, hw1⟩ : ∃ w1, w1 = W.alloc (.cells #[.int .i64 t0, .int .i64 t1, .int .i64 t2, .int .i64 t3] 71) := ⟨_, rfl⟩
  obtain ⟨g, hg⟩ : ∃ g, g = W.heap.size := ⟨_, rfl⟩
  have B1 : Hid (Below W.heap.size W w1) := Lib.hid (by rw [hw1]; exact (Below.refl _ _).alloc (Nat.le_refl _) _)
  have K1 : Hid (Blk w1 g 71 #[.int .i64 t0, .int .i64 t1, .int .i64 t2, .int .i64 t3]) := Lib.hid (by rw [hw1]; exact Blk.new W _ _ hg)
  have HGR : Hid (g ≠ rb) := Lib.hid (by obtain ⟨mb, v, hf⟩ := h; have := hf.lt.1; omega)
  have Q1 : Hid (FwQ W C c rb k f w1) := Lib.hid ((FwQ.refl h).below B1.out)
  have HM := Lib.hid hm
  have HS := Lib.hid (And.intro hs (And.intro hlt ht1))
  have hw := IntWalk.i64_in (t1 - f.se) (by have := hs.1; have := hs.2; omega)
  have hw2 := IntWalk.i64_in (t1 - f.se - 1) (by have := hs.1; have := hs.2; omega)
  clear h hm hs hlt ht1
  go_enter Try.func65, Try.ntmps65
  go_upto_region 1 with fail
  rw [← hw1, ← hg]
  clear hw1 hg
  refine wp_region_any (by kernel_rfl) ?_
  change wpAny _ _ _ _ _ _ _ (World.drew _)
  refine wpAny_of_held (S := fun w' => w'.cell? ⟨g, 1, none⟩ = some (.int .i64 t1) ∧ w'.cell? ⟨rb, 0, none⟩ = some (.int .i64 f.se)) _ _ _ _ ?_
  obtain ⟨w2, hw2'⟩ : ∃ w2, w2 = w1.drew := ⟨_, rfl⟩
  have Q2 : Hid (FwQ W C c rb k f w2) := Lib.hid (by rw [hw2']; exact Q1.out.drew)
  have K2 : Hid (Blk w2 g 71 #[.int .i64 t0, .int .i64 t1, .int .i64 t2, .int .i64 t3]) := Lib.hid (by rw [hw2']; exact K1.out)
  rw [← hw2']
  clear hw2' Q1 K1
  have hHeld : (fun w' => w'.cell? ⟨g, 1, none⟩ = some (.int .i64 t1) ∧ w'.cell? ⟨rb, 0, none⟩ = some (.int .i64 f.se)) w2 := ⟨K2.out.cell 1, (Q2.out.1.cells).1⟩
  have CU := Lib.hid (up_any rb 4 f.mi (t1 - f.se - 1) w2 (Q2.out.1.cells).2.2.2.2.1 (Q2.out.1.frozen 4) HM.out.1 HM.out.2 (by have := HS.out.2.1; omega))
  refine wpAnyH_take (i := 0) (v := ?_) rfl (by kernel_rfl) (by kernel_rfl) (by kernel_rfl) (fun _ _ _ h => h) (Or.inl ⟨by rfl, ?_⟩) (by assumption) ?_
  rotate_left 1
  · intro w hSw; (try dsimp only at hSw); go_simp <;> with_reducible rfl
  try simp only [Act.put, List.setIfInBounds_toArray, List.set_cons_zero, List.set_cons_succ, List.getElem_toArray, List.getElem_cons_zero]
  refine wpAnyH_take (i := 1) (v := ?_) rfl (by kernel_rfl) (by kernel_rfl) (by kernel_rfl) (fun _ _ _ h => h) (Or.inl ⟨by rfl, ?_⟩) (by assumption) ?_
  rotate_left 1
  · intro w hSw; (try dsimp only at hSw); go_simp <;> with_reducible rfl
  try simp only [Act.put, List.setIfInBounds_toArray, List.set_cons_zero, List.set_cons_succ, List.getElem_toArray, List.getElem_cons_zero, List.getElem_cons_succ]
  refine wpAnyH_take (i := 2) (v := ?_) rfl (by kernel_rfl) (by kernel_rfl) (by kernel_rfl) (fun _ _ _ h => h) (Or.inl ⟨by rfl, ?_⟩) (by assumption) ?_
  rotate_left 1
  · intro w hSw; (try dsimp only at hSw); go_simp <;> with_reducible rfl
  try simp only [Act.put, List.setIfInBounds_toArray, List.set_cons_zero, List.set_cons_succ, List.getElem_toArray, List.getElem_cons_zero, List.getElem_cons_succ]
  refine wpAnyH_take (i := 3) (v := ?_) rfl (by kernel_rfl) (by kernel_rfl) (by kernel_rfl) (fun _ _ _ h => h) (Or.inl ⟨by rfl, ?_⟩) (by assumption) ?_
  rotate_left 1
  · intro w hSw; (try dsimp only at hSw); go_simp <;> with_reducible rfl
  try simp only [Act.put, List.setIfInBounds_toArray, List.set_cons_zero, List.set_cons_succ, List.getElem_toArray, List.getElem_cons_zero, List.getElem_cons_succ]
  refine wpAnyH_take (i := 4) (v := ?_) rfl (by kernel_rfl) (by kernel_rfl) (by kernel_rfl) (fun _ _ _ h => h) (Or.inl ⟨by rfl, ?_⟩) (by assumption) ?_
  rotate_left 1
  · intro w hSw; (try dsimp only at hSw); go_simp <;> with_reducible rfl
  try simp only [Act.put, List.setIfInBounds_toArray, List.set_cons_zero, List.set_cons_succ, List.getElem_toArray, List.getElem_cons_zero, List.getElem_cons_succ]
  refine wpAnyH_take (i := 5) (v := ?_) rfl (by kernel_rfl) (by kernel_rfl) (by kernel_rfl) (fun _ _ _ h => h) (Or.inl ⟨by rfl, ?_⟩) (by assumption) ?_
  rotate_left 1
  · intro w hSw; (try dsimp only at hSw); go_simp <;> with_reducible rfl
  try simp only [Act.put, List.setIfInBounds_toArray, List.set_cons_zero, List.set_cons_succ, List.getElem_toArray, List.getElem_cons_zero, List.getElem_cons_succ]
  refine wpAnyH_take (i := 6) (v := ?_) rfl (by kernel_rfl) (by kernel_rfl) (by kernel_rfl) (fun _ _ _ h => h) (Or.inl ⟨by rfl, ?_⟩) (by assumption) ?_
  rotate_left 1
  · intro w hSw; (try dsimp only at hSw); go_simp <;> with_reducible rfl
  try simp only [Act.put, List.setIfInBounds_toArray, List.set_cons_zero, List.set_cons_succ, List.getElem_toArray, List.getElem_cons_zero, List.getElem_cons_succ]
  refine wpAnyH_take (i := 7) (v := ?_) rfl (by kernel_rfl) (by kernel_rfl) (by kernel_rfl) (fun _ _ _ h => h) (Or.inl ⟨by rfl, ?_⟩) (by assumption) ?_
  rotate_left 1
  · intro w hSw; obtain ⟨q0, q1⟩ := hSw; (try dsimp only at hSw); go_simp <;> with_reducible rfl
  try simp only [Act.put, List.setIfInBounds_toArray, List.set_cons_zero, List.set_cons_succ, List.getElem_toArray, List.getElem_cons_zero, List.getElem_cons_succ]
  refine wpAnyH_take (i := 8) (v := ?_) rfl (by kernel_rfl) (by kernel_rfl) (by kernel_rfl) (fun _ _ _ h => h) (Or.inl ⟨by rfl, ?_⟩) (by assumption) ?_
  rotate_left 1
  · intro w hSw; (try dsimp only at hSw); go_simp <;> with_reducible rfl
  try simp only [Act.put, List.setIfInBounds_toArray, List.set_cons_zero, List.set_cons_succ, List.getElem_toArray, List.getElem_cons_zero, List.getElem_cons_succ]
  refine wpAnyH_take (i := 9) (v := ?_) rfl (by kernel_rfl) (by kernel_rfl) (by kernel_rfl) (fun _ _ _ h => h) (Or.inl ⟨by rfl, ?_⟩) (by assumption) ?_
  rotate_left 1
  · intro w hSw; (try dsimp only at hSw); go_simp <;> with_reducible rfl
  try simp only [Act.put, List.setIfInBounds_toArray, List.set_cons_zero, List.set_cons_succ, List.getElem_toArray, List.getElem_cons_zero, List.getElem_cons_succ]
  refine wpAnyH_take (i := 10) (v := ?_) rfl (by kernel_rfl) (by kernel_rfl) (by kernel_rfl) (fun _ _ _ h => h) (Or.inl ⟨by rfl, ?_⟩) (by assumption) ?_
  rotate_left 1
  · intro w hSw; (try dsimp only at hSw); go_simp <;> with_reducible rfl
  try simp only [Act.put, List.setIfInBounds_toArray, List.set_cons_zero, List.set_cons_succ, List.getElem_toArray, List.getElem_cons_zero, List.getElem_cons_succ]
  refine wpAnyH_take (i := 11) (v := ?_) rfl (by kernel_rfl) (by kernel_rfl) (by kernel_rfl) (fun _ _ _ h => h) (Or.inl ⟨by rfl, ?_⟩) (by assumption) ?_
  rotate_left 1
  · intro w hSw; (try dsimp only at hSw); go_simp <;> with_reducible rfl
  try simp only [Act.put, List.setIfInBounds_toArray, List.set_cons_zero, List.set_cons_succ, List.getElem_toArray, List.getElem_cons_zero, List.getElem_cons_succ]
  refine wpAnyH_take (i := 12) (v := ?_) rfl (by kernel_rfl) (by kernel_rfl) (by kernel_rfl) (fun _ _ _ h => h) (Or.inl ⟨by rfl, ?_⟩) (by assumption) ?_
  rotate_left 1
  · intro w hSw; (try dsimp only at hSw); go_simp <;> with_reducible rfl
  try simp only [Act.put, List.setIfInBounds_toArray, List.set_cons_zero, List.set_cons_succ, List.getElem_toArray, List.getElem_cons_zero, List.getElem_cons_succ]
  refine wpAnyH_take (i := 13) (v := ?_) rfl (by kernel_rfl) (by kernel_rfl) (by kernel_rfl) (fun _ _ _ h => h) (Or.inl ⟨by rfl, ?_⟩) (by assumption) ?_
  rotate_left 1
  · intro w hSw; obtain ⟨q0, q1⟩ := hSw; (try dsimp only at hSw); go_simp <;> with_reducible rfl
  try simp only [Act.put, List.setIfInBounds_toArray, List.set_cons_zero, List.set_cons_succ, List.getElem_toArray, List.getElem_cons_zero, List.getElem_cons_succ]
  refine wpAnyH_take (i := 14) (v := ?_) rfl (by kernel_rfl) (by kernel_rfl) (by kernel_rfl) (fun _ _ _ h => h) (Or.inl ⟨by rfl, ?_⟩) (by assumption) ?_
  rotate_left 1
  · intro w hSw; (try dsimp only at hSw); go_simp <;> with_reducible rfl
  try simp only [Act.put, List.setIfInBounds_toArray, List.set_cons_zero, List.set_cons_succ, List.getElem_toArray, List.getElem_cons_zero, List.getElem_cons_succ]
  refine wpAnyH_take (i := 15) (v := ?_) rfl (by kernel_rfl) (by kernel_rfl) (by kernel_rfl) (fun _ _ _ h => h) (Or.inl ⟨by rfl, ?_⟩) (by assumption) ?_
  rotate_left 1
  · intro w hSw; (try dsimp only at hSw); go_simp <;> with_reducible rfl
  try simp only [Act.put, List.setIfInBounds_toArray, List.set_cons_zero, List.set_cons_succ, List.getElem_toArray, List.getElem_cons_zero, List.getElem_cons_succ]
  refine wpAnyH_ready (rs := [16]) (by kernel_rfl) (by simp) (AllReadyH.cons rfl (fun K hK => ?_) AllReadyH.nil)
  have hPrev := hHeld
  clear hHeld
  go_simp
  clear hw hw2
  refine CU.out.mono ?_
  rintro e w3 ⟨rfl, hw3⟩
  have Q3 : Hid (FwQ W C c rb k (f.put 4 (upv f.mi (t1 - f.se - 1))) w3) := Lib.hid (by rw [hw3]; exact (Q2.out.put (i := 4) (by decide) _).drew)
  have K3 : Hid (Blk w3 g 71 #[.int .i64 t0, .int .i64 t1, .int .i64 t2, .int .i64 t3]) := Lib.hid (by rw [hw3]; exact K2.out.far HGR.out _)
  clear hw3 CU
  refine hK.out _ _ (⟨K3.out.cell 1, (Q3.out.1.cells).1⟩) (fun hHeld => ?_)
  clear hK K hPrev
  try simp only [Act.put, List.setIfInBounds_toArray, List.set_cons_zero, List.set_cons_succ, List.getElem_toArray, List.getElem_cons_zero, List.getElem_cons_succ]
  refine wpAnyH_done (by kernel_rfl) ?_ _
  clear hHeld Q2 K2
  go_upto_region 2 with fail
  refine wp_region_any (by kernel_rfl) ?_
  change wpAny _ _ _ _ _ _ _ (World.drew _)
  refine wpAny_of_held (S := fun w' => w'.cell? ⟨g, 0, none⟩ = some (.int .i64 t0) ∧ w'.cell? ⟨g, 1, none⟩ = some (.int .i64 t1) ∧ w'.cell? ⟨g, 2, none⟩ = some (.int .i64 t2)) _ _ _ _ ?_
  obtain ⟨w4, hw4⟩ : ∃ w4, w4 = w3.drew := ⟨_, rfl⟩
  have Q4 : Hid (FwQ W C c rb k (f.put 4 (upv f.mi (t1 - f.se - 1))) w4) := Lib.hid (by rw [hw4]; exact Q3.out.drew)
  have K4 : Hid (Blk w4 g 71 #[.int .i64 t0, .int .i64 t1, .int .i64 t2, .int .i64 t3]) := Lib.hid (by rw [hw4]; exact K3.out)
  rw [← hw4]
  clear hw4 Q3 K3
  have hHeld : (fun w' => w'.cell? ⟨g, 0, none⟩ = some (.int .i64 t0) ∧ w'.cell? ⟨g, 1, none⟩ = some (.int .i64 t1) ∧ w'.cell? ⟨g, 2, none⟩ = some (.int .i64 t2)) w4 := ⟨K4.out.cell 0, K4.out.cell 1, K4.out.cell 2⟩
  refine wpAnyH_take (i := 0) (v := ?_) rfl (by kernel_rfl) (by kernel_rfl) (by kernel_rfl) (fun _ _ _ h => h) (Or.inl ⟨by rfl, ?_⟩) (by assumption) ?_
  rotate_left 1
  · intro w hSw; (try dsimp only at hSw); go_simp <;> with_reducible rfl
  try simp only [Act.put, List.setIfInBounds_toArray, List.set_cons_zero, List.set_cons_succ, List.getElem_toArray, List.getElem_cons_zero]
  refine wpAnyH_take (i := 1) (v := ?_) rfl (by kernel_rfl) (by kernel_rfl) (by kernel_rfl) (fun _ _ _ h => h) (Or.inl ⟨by rfl, ?_⟩) (by assumption) ?_
  rotate_left 1
  · intro w hSw; (try dsimp only at hSw); go_simp <;> with_reducible rfl
  try simp only [Act.put, List.setIfInBounds_toArray, List.set_cons_zero, List.set_cons_succ, List.getElem_toArray, List.getElem_cons_zero, List.getElem_cons_succ]
  refine wpAnyH_take (i := 2) (v := ?_) rfl (by kernel_rfl) (by kernel_rfl) (by kernel_rfl) (fun _ _ _ h => h) (Or.inl ⟨by rfl, ?_⟩) (by assumption) ?_
  rotate_left 1
  · intro w hSw; (try dsimp only at hSw); go_simp <;> with_reducible rfl
  try simp only [Act.put, List.setIfInBounds_toArray, List.set_cons_zero, List.set_cons_succ, List.getElem_toArray, List.getElem_cons_zero, List.getElem_cons_succ]
  refine wpAnyH_take (i := 3) (v := ?_) rfl (by kernel_rfl) (by kernel_rfl) (by kernel_rfl) (fun _ _ _ h => h) (Or.inl ⟨by rfl, ?_⟩) (by assumption) ?_
  rotate_left 1
  · intro w hSw; (try dsimp only at hSw); go_simp <;> with_reducible rfl
  try simp only [Act.put, List.setIfInBounds_toArray, List.set_cons_zero, List.set_cons_succ, List.getElem_toArray, List.getElem_cons_zero, List.getElem_cons_succ]
  refine wpAnyH_take (i := 4) (v := ?_) rfl (by kernel_rfl) (by kernel_rfl) (by kernel_rfl) (fun _ _ _ h => h) (Or.inl ⟨by rfl, ?_⟩) (by assumption) ?_
  rotate_left 1
  · intro w hSw; (try dsimp only at hSw); go_simp <;> with_reducible rfl
  try simp only [Act.put, List.setIfInBounds_toArray, List.set_cons_zero, List.set_cons_succ, List.getElem_toArray, List.getElem_cons_zero, List.getElem_cons_succ]
  refine wpAnyH_take (i := 5) (v := ?_) rfl (by kernel_rfl) (by kernel_rfl) (by kernel_rfl) (fun _ _ _ h => h) (Or.inl ⟨by rfl, ?_⟩) (by assumption) ?_
  rotate_left 1
  · intro w hSw; obtain ⟨q0, q1, q2⟩ := hSw; (try dsimp only at hSw); go_simp <;> with_reducible rfl
  try simp only [Act.put, List.setIfInBounds_toArray, List.set_cons_zero, List.set_cons_succ, List.getElem_toArray, List.getElem_cons_zero, List.getElem_cons_succ]
  refine wpAnyH_take (i := 6) (v := ?_) rfl (by kernel_rfl) (by kernel_rfl) (by kernel_rfl) (fun _ _ _ h => h) (Or.inl ⟨by rfl, ?_⟩) (by assumption) ?_
  rotate_left 1
  · intro w hSw; (try dsimp only at hSw); go_simp <;> with_reducible rfl
  try simp only [Act.put, List.setIfInBounds_toArray, List.set_cons_zero, List.set_cons_succ, List.getElem_toArray, List.getElem_cons_zero, List.getElem_cons_succ]
  refine wpAnyH_take (i := 7) (v := ?_) rfl (by kernel_rfl) (by kernel_rfl) (by kernel_rfl) (fun _ _ _ h => h) (Or.inl ⟨by rfl, ?_⟩) (by assumption) ?_
  rotate_left 1
  · intro w hSw; obtain ⟨q0, q1, q2⟩ := hSw; (try dsimp only at hSw); go_simp <;> with_reducible rfl
  try simp only [Act.put, List.setIfInBounds_toArray, List.set_cons_zero, List.set_cons_succ, List.getElem_toArray, List.getElem_cons_zero, List.getElem_cons_succ]
  refine wpAnyH_take (i := 8) (v := ?_) rfl (by kernel_rfl) (by kernel_rfl) (by kernel_rfl) (fun _ _ _ h => h) (Or.inl ⟨by rfl, ?_⟩) (by assumption) ?_
  rotate_left 1
  · intro w hSw; (try dsimp only at hSw); go_simp <;> with_reducible rfl
  try simp only [Act.put, List.setIfInBounds_toArray, List.set_cons_zero, List.set_cons_succ, List.getElem_toArray, List.getElem_cons_zero, List.getElem_cons_succ]
  refine wpAnyH_take (i := 9) (v := ?_) rfl (by kernel_rfl) (by kernel_rfl) (by kernel_rfl) (fun _ _ _ h => h) (Or.inl ⟨by rfl, ?_⟩) (by assumption) ?_
  rotate_left 1
  · intro w hSw; obtain ⟨q0, q1, q2⟩ := hSw; (try dsimp only at hSw); go_simp <;> with_reducible rfl
  try simp only [Act.put, List.setIfInBounds_toArray, List.set_cons_zero, List.set_cons_succ, List.getElem_toArray, List.getElem_cons_zero, List.getElem_cons_succ]
  refine wpAnyH_take (i := 10) (v := ?_) rfl (by kernel_rfl) (by kernel_rfl) (by kernel_rfl) (fun _ _ _ h => h) (Or.inl ⟨by rfl, ?_⟩) (by assumption) ?_
  rotate_left 1
  · intro w hSw; (try dsimp only at hSw); go_simp <;> with_reducible rfl
  try simp only [Act.put, List.setIfInBounds_toArray, List.set_cons_zero, List.set_cons_succ, List.getElem_toArray, List.getElem_cons_zero, List.getElem_cons_succ]
  refine wpAnyH_take (i := 11) (v := ?_) rfl (by kernel_rfl) (by kernel_rfl) (by kernel_rfl) (fun _ _ _ h => h) (Or.inl ⟨by rfl, ?_⟩) (by assumption) ?_
  rotate_left 1
  · intro w hSw; (try dsimp only at hSw); go_simp <;> with_reducible rfl
  try simp only [Act.put, List.setIfInBounds_toArray, List.set_cons_zero, List.set_cons_succ, List.getElem_toArray, List.getElem_cons_zero, List.getElem_cons_succ]
  refine wpAnyH_take (i := 12) (v := ?_) rfl (by kernel_rfl) (by kernel_rfl) (by kernel_rfl) (fun _ _ _ h => h) (Or.inl ⟨by rfl, ?_⟩) (by assumption) ?_
  rotate_left 1
  · intro w hSw; (try dsimp only at hSw); go_simp <;> with_reducible rfl
  try simp only [Act.put, List.setIfInBounds_toArray, List.set_cons_zero, List.set_cons_succ, List.getElem_toArray, List.getElem_cons_zero, List.getElem_cons_succ]
  refine wpAnyH_take (i := 13) (v := ?_) rfl (by kernel_rfl) (by kernel_rfl) (by kernel_rfl) (fun _ _ _ h => h) (Or.inl ⟨by rfl, ?_⟩) (by assumption) ?_
  rotate_left 1
  · intro w hSw; (try dsimp only at hSw); go_simp <;> with_reducible rfl
  try simp only [Act.put, List.setIfInBounds_toArray, List.set_cons_zero, List.set_cons_succ, List.getElem_toArray, List.getElem_cons_zero, List.getElem_cons_succ]
  have c0 := (Q4.out.1.cells).1
  have z0 := Q4.out.1.frozen 0
  refine wpAnyH_ready (rs := [14]) (by kernel_rfl) (by simp) (AllReadyH.cons rfl (fun K hK => ?_) AllReadyH.nil)
  have hPrev := hHeld
  clear hHeld
  go_simp
  clear c0 z0
  obtain ⟨w5, hw5⟩ : ∃ w5, w5 = w4.setCell ⟨rb, 0, none⟩ (.int .i64 (t1)) := ⟨_, rfl⟩
  have Q5 : Hid (FwQ W C c rb k ((f.put 4 (upv f.mi (t1 - f.se - 1))).put 0 t1) w5) := Lib.hid (by rw [hw5]; exact Q4.out.put (i := 0) (by decide) _)
  have K5 : Hid (Blk w5 g 71 #[.int .i64 t0, .int .i64 t1, .int .i64 t2, .int .i64 t3]) := Lib.hid (by rw [hw5]; exact K4.out.far HGR.out _)
  rw [← hw5]
  clear hw5 Q4 K4
  refine hK.out _ _ (⟨K5.out.cell 0, K5.out.cell 1, K5.out.cell 2⟩) (fun hHeld => ?_)
  clear hK K hPrev
  try simp only [Act.put, List.setIfInBounds_toArray, List.set_cons_zero, List.set_cons_succ, List.getElem_toArray, List.getElem_cons_zero, List.getElem_cons_succ]
  refine wpAnyH_take (i := 15) (v := ?_) rfl (by kernel_rfl) (by kernel_rfl) (by kernel_rfl) (fun _ _ _ h => h) (Or.inl ⟨by rfl, ?_⟩) (by assumption) ?_
  rotate_left 1
  · intro w hSw; (try dsimp only at hSw); go_simp <;> with_reducible rfl
  try simp only [Act.put, List.setIfInBounds_toArray, List.set_cons_zero, List.set_cons_succ, List.getElem_toArray, List.getElem_cons_zero, List.getElem_cons_succ]
  refine wpAnyH_take (i := 16) (v := ?_) rfl (by kernel_rfl) (by kernel_rfl) (by kernel_rfl) (fun _ _ _ h => h) (Or.inl ⟨by rfl, ?_⟩) (by assumption) ?_
  rotate_left 1
  · intro w hSw; (try dsimp only at hSw); go_simp <;> with_reducible rfl
  try simp only [Act.put, List.setIfInBounds_toArray, List.set_cons_zero, List.set_cons_succ, List.getElem_toArray, List.getElem_cons_zero, List.getElem_cons_succ]
  refine wpAnyH_take (i := 17) (v := ?_) rfl (by kernel_rfl) (by kernel_rfl) (by kernel_rfl) (fun _ _ _ h => h) (Or.inl ⟨by rfl, ?_⟩) (by assumption) ?_
  rotate_left 1
  · intro w hSw; (try dsimp only at hSw); go_simp <;> with_reducible rfl
  try simp only [Act.put, List.setIfInBounds_toArray, List.set_cons_zero, List.set_cons_succ, List.getElem_toArray, List.getElem_cons_zero, List.getElem_cons_succ]
  refine wpAnyH_take (i := 18) (v := ?_) rfl (by kernel_rfl) (by kernel_rfl) (by kernel_rfl) (fun _ _ _ h => h) (Or.inl ⟨by rfl, ?_⟩) (by assumption) ?_
  rotate_left 1
  · intro w hSw; (try dsimp only at hSw); go_simp <;> with_reducible rfl
  try simp only [Act.put, List.setIfInBounds_toArray, List.set_cons_zero, List.set_cons_succ, List.getElem_toArray, List.getElem_cons_zero, List.getElem_cons_succ]
  have c1 := (Q5.out.1.cells).2.1
  have z1 := Q5.out.1.frozen 1
  refine wpAnyH_ready (rs := [19]) (by kernel_rfl) (by simp) (AllReadyH.cons rfl (fun K hK => ?_) AllReadyH.nil)
  have hPrev := hHeld
  clear hHeld
  go_simp
  clear c1 z1
  obtain ⟨w6, hw6⟩ : ∃ w6, w6 = w5.setCell ⟨rb, 1, none⟩ (.int .i64 (t0)) := ⟨_, rfl⟩
  have Q6 : Hid (FwQ W C c rb k (((f.put 4 (upv f.mi (t1 - f.se - 1))).put 0 t1).put 1 t0) w6) := Lib.hid (by rw [hw6]; exact Q5.out.put (i := 1) (by decide) _)
  have K6 : Hid (Blk w6 g 71 #[.int .i64 t0, .int .i64 t1, .int .i64 t2, .int .i64 t3]) := Lib.hid (by rw [hw6]; exact K5.out.far HGR.out _)
  rw [← hw6]
  clear hw6 Q5 K5
  refine hK.out _ _ (⟨K6.out.cell 0, K6.out.cell 1, K6.out.cell 2⟩) (fun hHeld => ?_)
  clear hK K hPrev
  try simp only [Act.put, List.setIfInBounds_toArray, List.set_cons_zero, List.set_cons_succ, List.getElem_toArray, List.getElem_cons_zero, List.getElem_cons_succ]
  refine wpAnyH_take (i := 20) (v := ?_) rfl (by kernel_rfl) (by kernel_rfl) (by kernel_rfl) (fun _ _ _ h => h) (Or.inl ⟨by rfl, ?_⟩) (by assumption) ?_
  rotate_left 1
  · intro w hSw; (try dsimp only at hSw); go_simp <;> with_reducible rfl
  try simp only [Act.put, List.setIfInBounds_toArray, List.set_cons_zero, List.set_cons_succ, List.getElem_toArray, List.getElem_cons_zero, List.getElem_cons_succ]
  refine wpAnyH_take (i := 21) (v := ?_) rfl (by kernel_rfl) (by kernel_rfl) (by kernel_rfl) (fun _ _ _ h => h) (Or.inl ⟨by rfl, ?_⟩) (by assumption) ?_
  rotate_left 1
  · intro w hSw; (try dsimp only at hSw); go_simp <;> with_reducible rfl
  try simp only [Act.put, List.setIfInBounds_toArray, List.set_cons_zero, List.set_cons_succ, List.getElem_toArray, List.getElem_cons_zero, List.getElem_cons_succ]
  refine wpAnyH_take (i := 22) (v := ?_) rfl (by kernel_rfl) (by kernel_rfl) (by kernel_rfl) (fun _ _ _ h => h) (Or.inl ⟨by rfl, ?_⟩) (by assumption) ?_
  rotate_left 1
  · intro w hSw; (try dsimp only at hSw); go_simp <;> with_reducible rfl
  try simp only [Act.put, List.setIfInBounds_toArray, List.set_cons_zero, List.set_cons_succ, List.getElem_toArray, List.getElem_cons_zero, List.getElem_cons_succ]
  refine wpAnyH_take (i := 23) (v := ?_) rfl (by kernel_rfl) (by kernel_rfl) (by kernel_rfl) (fun _ _ _ h => h) (Or.inl ⟨by rfl, ?_⟩) (by assumption) ?_
  rotate_left 1
  · intro w hSw; (try dsimp only at hSw); go_simp <;> with_reducible rfl
  try simp only [Act.put, List.setIfInBounds_toArray, List.set_cons_zero, List.set_cons_succ, List.getElem_toArray, List.getElem_cons_zero, List.getElem_cons_succ]
  have c2 := (Q6.out.1.cells).2.2.1
  have z2 := Q6.out.1.frozen 2
  refine wpAnyH_ready (rs := [24]) (by kernel_rfl) (by simp) (AllReadyH.cons rfl (fun K hK => ?_) AllReadyH.nil)
  have hPrev := hHeld
  clear hHeld
  go_simp
  clear c2 z2
  obtain ⟨w7, hw7⟩ : ∃ w7, w7 = w6.setCell ⟨rb, 2, none⟩ (.int .i64 (t2)) := ⟨_, rfl⟩
  have Q7 : Hid (FwQ W C c rb k ((((f.put 4 (upv f.mi (t1 - f.se - 1))).put 0 t1).put 1 t0).put 2 t2) w7) := Lib.hid (by rw [hw7]; exact Q6.out.put (i := 2) (by decide) _)
  have K7 : Hid (Blk w7 g 71 #[.int .i64 t0, .int .i64 t1, .int .i64 t2, .int .i64 t3]) := Lib.hid (by rw [hw7]; exact K6.out.far HGR.out _)
  rw [← hw7]
  clear hw7 Q6 K6
  refine hK.out _ _ (⟨K7.out.cell 0, K7.out.cell 1, K7.out.cell 2⟩) (fun hHeld => ?_)
  clear hK K hPrev
  try simp only [Act.put, List.setIfInBounds_toArray, List.set_cons_zero, List.set_cons_succ, List.getElem_toArray, List.getElem_cons_zero, List.getElem_cons_succ]
  refine wpAnyH_take (i := 25) (v := ?_) rfl (by kernel_rfl) (by kernel_rfl) (by kernel_rfl) (fun _ _ _ h => h) (Or.inl ⟨by rfl, ?_⟩) (by assumption) ?_
  rotate_left 1
  · intro w hSw; (try dsimp only at hSw); go_simp <;> with_reducible rfl
  try simp only [Act.put, List.setIfInBounds_toArray, List.set_cons_zero, List.set_cons_succ, List.getElem_toArray, List.getElem_cons_zero, List.getElem_cons_succ]
  refine wpAnyH_take (i := 26) (v := ?_) rfl (by kernel_rfl) (by kernel_rfl) (by kernel_rfl) (fun _ _ _ h => h) (Or.inl ⟨by rfl, ?_⟩) (by assumption) ?_
  rotate_left 1
  · intro w hSw; (try dsimp only at hSw); go_simp <;> with_reducible rfl
  try simp only [Act.put, List.setIfInBounds_toArray, List.set_cons_zero, List.set_cons_succ, List.getElem_toArray, List.getElem_cons_zero, List.getElem_cons_succ]
  refine wpAnyH_take (i := 27) (v := ?_) rfl (by kernel_rfl) (by kernel_rfl) (by kernel_rfl) (fun _ _ _ h => h) (Or.inl ⟨by rfl, ?_⟩) (by assumption) ?_
  rotate_left 1
  · intro w hSw; (try dsimp only at hSw); go_simp <;> with_reducible rfl
  try simp only [Act.put, List.setIfInBounds_toArray, List.set_cons_zero, List.set_cons_succ, List.getElem_toArray, List.getElem_cons_zero, List.getElem_cons_succ]
  refine wpAnyH_take (i := 28) (v := ?_) rfl (by kernel_rfl) (by kernel_rfl) (by kernel_rfl) (fun _ _ _ h => h) (Or.inl ⟨by rfl, ?_⟩) (by assumption) ?_
  rotate_left 1
  · intro w hSw; (try dsimp only at hSw); go_simp <;> with_reducible rfl
  try simp only [Act.put, List.setIfInBounds_toArray, List.set_cons_zero, List.set_cons_succ, List.getElem_toArray, List.getElem_cons_zero, List.getElem_cons_succ]
  have c3 := (Q7.out.1.cells).2.2.2.1
  have z3 := Q7.out.1.frozen 3
  refine wpAnyH_ready (rs := [29]) (by kernel_rfl) (by simp) (AllReadyH.cons rfl (fun K hK => ?_) AllReadyH.nil)
  have hPrev := hHeld
  clear hHeld
  go_simp
  clear c3 z3
  obtain ⟨w8, hw8⟩ : ∃ w8, w8 = w7.setCell ⟨rb, 3, none⟩ (.int .i64 (0)) := ⟨_, rfl⟩
  have Q8 : Hid (FwQ W C c rb k (((((f.put 4 (upv f.mi (t1 - f.se - 1))).put 0 t1).put 1 t0).put 2 t2).put 3 0) w8) := Lib.hid (by rw [hw8]; exact Q7.out.put (i := 3) (by decide) _)
  have K8 : Hid (Blk w8 g 71 #[.int .i64 t0, .int .i64 t1, .int .i64 t2, .int .i64 t3]) := Lib.hid (by rw [hw8]; exact K7.out.far HGR.out _)
  rw [← hw8]
  clear hw8 Q7 K7
  refine hK.out _ _ (⟨K8.out.cell 0, K8.out.cell 1, K8.out.cell 2⟩) (fun hHeld => ?_)
  clear hK K hPrev
  try simp only [Act.put, List.setIfInBounds_toArray, List.set_cons_zero, List.set_cons_succ, List.getElem_toArray, List.getElem_cons_zero, List.getElem_cons_succ]
  refine wpAnyH_done (by kernel_rfl) ?_ _
  obtain ⟨mb, v, y9, hm, hK⟩ := Q8.out.1.maker
  have CD := Lib.hid (drop_any mb v k.line _ _ w8 hm)
  have HK := Lib.hid hK
  clear hm hK hHeld
  go_wp2_with fail
  refine CD.out.mono ?_
  rintro e w9 ⟨rfl, hm2, hc2⟩
  have HF : Hid (DoneQ W C c rb k (f.takeUp (t0, t1, t2, t3, 0)) (.returned (.tuple #[])) w9) := Lib.hid ⟨rfl, Q8.out.trans (HK.out _ _ _ _ hm2 hc2 (Fresh.nil _ _))⟩
  clear hm2 hc2
  go_wp2_with fail
  go_end0
  exact HF.out
end Go.Proofs.Ytlojmmcagglpoaa
