/- THE WALKS of package follow: next, mayName, names (printed by a program of ours). -/
import Derived.Test.YtlojmmcagglpoaaGreatUTk
import Derived.Test.YtlojmmcagglpoaaGreatUFw
import Derived.Test.YtlojmmcagglpoaaGreatURegL
import Derived.Lib.MinMax
import Derived.Deep.RegionHeld
import Derived.Deep.RegionHeld3
import Derived.Deep.DrawnRows
import Derived.Deep.DeepMust
import Derived.Laws.ResultCell
namespace Go.Proofs.YtlojmmcagglpoaaGreat
open Go.RowKit Go.Maps
attribute [local go_sem ↓] Go.wp_at_zero Go.wp_at_succ
def upv (n by_ : Int) : Int := n + min by_ (4611686018427387904 - n)
theorem upv_in {n by_ : Int} (h0 : 0 ≤ n) (h1 : n ≤ 4611686018427387904) (hb : 0 ≤ by_) : n ≤ upv n by_ ∧ upv n by_ ≤ 4611686018427387904 := by unfold upv; omega
set_option maxRecDepth 20000 in
set_option maxHeartbeats 2000000 in
theorem up_any (b o : Nat) (n y : Int) (w : World) (hc : w.cell? ⟨b, o, none⟩ = some (.int .i64 n)) (hf : w.frozen? ⟨b, o, none⟩ = false) (h0 : 0 ≤ n) (h1 : n ≤ 4611686018427387904) (hy : 0 ≤ y) : Calls Tryz.prog 150 #[.pointer (some ⟨b, o, none⟩), .int .i64 y] w fun e w' => e = .returned (.tuple #[]) ∧ w' = (w.setCell ⟨b, o, none⟩ (.int .i64 (upv n y))).drew := by
  have hmin : ∀ W : World, (Builtin.min_ #[3, 3] 3 #[.int .i64 y, .int .i64 (4611686018427387904 - n)]).run Tryz.prog W = .ok (.int .i64 (min y (4611686018427387904 - n))) W := by
    intro W; rw [run_min_int2]; congr 2; split <;> omega
  have hw : IntKind.i64.wrap (4611686018427387904 - n) = 4611686018427387904 - n := IntWalk.i64_in _ (by omega)
  have hw2 : IntKind.i64.wrap (n + min y (4611686018427387904 - n)) = upv n y := by rw [IntWalk.i64_in _ (by omega)]; rfl
  clear h0 h1 hy
  go_enter Tryz.func150, Tryz.ntmps150
  go_upto_region 0 with fail
  refine wp_region_any (by kernel_rfl) ?_
  change wpAny _ _ _ _ _ _ _ (World.drew _)
  refine any_of_L (S := SL 11 (fun w' => w'.cell? ⟨b, o, none⟩ = some (.int .i64 n))) _ _ _ _ ?_
  have hT0 : (fun w' => w'.cell? ⟨b, o, none⟩ = some (.int .i64 n)) w.drew := hc
  refine tkc 0 11 [10, 11] (v := ?_) rfl ?_ ?_ hT0; rotate_left
  · intro w hSw; (try dsimp only at hSw); go_simp <;> with_reducible rfl
  try simp only [Act.put, pz]
  refine tkc 1 11 [2, 9, 11] (v := ?_) rfl ?_ ?_ hT0; rotate_left
  · intro w hSw; (try dsimp only at hSw); go_simp <;> with_reducible rfl
  try simp only [Act.put, pz]
  refine tkc 2 11 [9, 11] (v := ?_) rfl ?_ ?_ hT0; rotate_left
  · intro w hSw; have q0 := hSw; go_simp <;> with_reducible rfl
  try simp only [Act.put, pz]
  refine tkc 3 11 [8, 9, 11] (v := ?_) rfl ?_ ?_ hT0; rotate_left
  · intro w hSw; (try dsimp only at hSw); go_simp <;> with_reducible rfl
  try simp only [Act.put, pz]
  refine tkc 4 11 [5, 6, 7, 8, 9, 11] (v := ?_) rfl ?_ ?_ hT0; rotate_left
  · intro w hSw; (try dsimp only at hSw); go_simp <;> with_reducible rfl
  try simp only [Act.put, pz]
  refine tkc 5 11 [6, 7, 8, 9, 11] (v := ?_) rfl ?_ ?_ hT0; rotate_left
  · intro w hSw; (try dsimp only at hSw); go_simp <;> with_reducible rfl
  try simp only [Act.put, pz]
  refine tkc 6 11 [7, 8, 9, 11] (v := ?_) rfl ?_ ?_ hT0; rotate_left
  · intro w hSw; have q0 := hSw; go_simp <;> with_reducible rfl
  try simp only [Act.put, pz]
  refine tkc 7 11 [8, 9, 11] (v := ?_) rfl ?_ ?_ hT0; rotate_left
  · intro w hSw; (try dsimp only at hSw); go_simp <;> with_reducible rfl
  try simp only [Act.put, pz]
  refine tkc 8 11 [9, 11] (v := ?_) rfl ?_ ?_ hT0; rotate_left
  · intro w hSw; (try dsimp only at hSw); go_simp <;> with_reducible rfl
  try simp only [Act.put, pz]
  refine tkc 9 11 [11] (v := ?_) rfl ?_ ?_ hT0; rotate_left
  · intro w hSw; (try dsimp only at hSw); go_simp <;> with_reducible rfl
  try simp only [Act.put, pz]
  refine tkc 10 11 [11] (v := ?_) rfl ?_ ?_ hT0; rotate_left
  · intro w hSw; (try dsimp only at hSw); go_simp <;> with_reducible rfl
  try simp only [Act.put, pz]
  refine anyL_ready (rs := [11]) (by kernel_rfl) (by simp) (AllL.cons rfl (fun K hK => ?_) AllL.nil)
  go_simp
  refine hK.out _ _ (SL.fin (by kernel_rfl)) ?_
  clear hK K hT0
  try simp only [Act.put, pz]
  refine anyL_done (by kernel_rfl) ?_ _
  go_wp2_with fail
  go_end0
  exact ⟨rfl, rfl⟩
def FwS.letGo (f : FwS) : FwS := { f with ino := 0, ge := 0, off := 0, u := [] }
def FwS.gone (f : FwS) : FwS := { f.letGo with go := upv f.go 1 }
def FwS.takeUp (f : FwS) (t : T5) : FwS := { f with mi := upv f.mi (t.2.1 - f.se - 1), se := t.2.1, ino := t.1, ge := t.2.2.1, off := 0, u := [] }
def inM (x : Int) : Prop := 0 ≤ x ∧ x ≤ 4611686018427387904
structure FwS.Ok (f : FwS) : Prop where
  se : inM f.se
  ino : inM f.ino
  ge : inM f.ge
  off : inM f.off
  mi : inM f.mi
  go : inM f.go
  cu : inM f.cu
  ta : inM f.ta
  lo : inM f.lo
def DoneQ (W : World) (C : Nat → Nat) (c rb : Nat) (k : FwK) (f : FwS) (e : Ending) (w' : World) : Prop := e = .returned (.tuple #[]) ∧ FwQ W C c rb k f w'
set_option maxRecDepth 20000 in
set_option maxHeartbeats 2000000 in
theorem fw_letGo {W : World} {C : Nat → Nat} {c rb : Nat} {k : FwK} {f : FwS} (h : FwR W C c rb k f) : Calls Tryz.prog 149 #[.pointer (some ⟨rb, 0, none⟩)] W (DoneQ W C c rb k f.letGo) := by
  obtain ⟨w1, hw1⟩ : ∃ w1, w1 = ((W.setCell ⟨rb, 1, none⟩ (.int .i64 0)).setCell ⟨rb, 2, none⟩ (.int .i64 0)).setCell ⟨rb, 3, none⟩ (.int .i64 0) := ⟨_, rfl⟩
  have Q1 : Hid (FwQ W C c rb k (((f.put 1 0).put 2 0).put 3 0) w1) := Lib.hid (by rw [hw1]; exact (((FwQ.refl h).put (i := 1) (by decide) 0).put (i := 2) (by decide) 0).put (i := 3) (by decide) 0)
  obtain ⟨q0, q1, q2, q3, q4, q5, q6, q7, q8, q10, q11, q12⟩ := h.cells
  have f1 := h.frozen 1
  have f2 := h.frozen 2
  have f3 := h.frozen 3
  obtain ⟨mb, v, y9, hm, hK⟩ := Q1.out.1.maker
  have CD := Lib.hid (drop_any mb v k.line _ _ w1 hm)
  have HK := Lib.hid hK
  clear hm hK q0 q4 q5 q6 q7 q8 q10 q11 q12 h
  go_enter Tryz.func149, Tryz.ntmps149
  go_upto_region 1 with fail
  rw [← hw1]
  clear hw1 q1 q2 q3 f1 f2 f3
  go_wp2_with fail
  refine CD.out.mono ?_
  rintro e w2 ⟨rfl, hm2, hc2⟩
  have HF : Hid (DoneQ W C c rb k f.letGo (.returned (.tuple #[])) w2) := Lib.hid ⟨rfl, Q1.out.trans (HK.out _ _ _ _ hm2 hc2 (Fresh.nil _ _))⟩
  clear hm2 hc2
  go_wp2_with fail
  go_end0
  exact HF.out
set_option maxRecDepth 20000 in
set_option maxHeartbeats 2000000 in
theorem fw_gone {W : World} {C : Nat → Nat} {c rb : Nat} {k : FwK} {f : FwS} (h : FwR W C c rb k f) (hg : inM f.go) : Calls Tryz.prog 124 #[.pointer (some ⟨rb, 0, none⟩)] W (DoneQ W C c rb k f.gone) := by
  have CG := Lib.hid (fw_letGo h)
  have HG := Lib.hid hg
  clear h hg
  go_enter Tryz.func124, Tryz.ntmps124
  go_wp2_with fail
  refine CG.out.mono ?_
  rintro e w1 ⟨rfl, h1⟩
  have Q1 := Lib.hid h1
  have CU := Lib.hid (up_any rb 5 f.go 1 w1 (Q1.out.1.cells).2.2.2.2.2.1 (Q1.out.1.frozen 5) HG.out.1 HG.out.2 (by decide))
  clear h1 CG
  go_wp2_with fail
  refine CU.out.mono ?_
  rintro e w2 ⟨rfl, hw2⟩
  have HF : Hid (DoneQ W C c rb k f.gone (.returned (.tuple #[])) w2) := Lib.hid ⟨rfl, by rw [hw2]; exact (Q1.out.put (i := 5) (by decide) (upv f.go 1)).drew⟩
  clear hw2 CU
  go_wp2_with fail
  go_end0
  exact HF.out
set_option maxRecDepth 20000 in
set_option maxHeartbeats 2000000 in
theorem fw_takeUp {W : World} {C : Nat → Nat} {c rb : Nat} {k : FwK} {f : FwS} (h : FwR W C c rb k f) (t0 t1 t2 t3 : Int) (hm : inM f.mi) (hs : inM f.se) (hlt : f.se < t1) (ht1 : t1 ≤ 4611686018427387904) : Calls Tryz.prog 152 #[.pointer (some ⟨rb, 0, none⟩), .agg #[.int .i64 t0, .int .i64 t1, .int .i64 t2, .int .i64 t3]] W (DoneQ W C c rb k (f.takeUp (t0, t1, t2, t3, 0))) := by
  obtain ⟨w1, hw1⟩ : ∃ w1, w1 = W.alloc (.cells #[.int .i64 t0, .int .i64 t1, .int .i64 t2, .int .i64 t3] 119) := ⟨_, rfl⟩
  obtain ⟨g, hg⟩ : ∃ g, g = W.heap.size := ⟨_, rfl⟩
  have B1 : Hid (Below W.heap.size W w1) := Lib.hid (by rw [hw1]; exact (Below.refl _ _).alloc (Nat.le_refl _) _)
  have K1 : Hid (Blk w1 g 119 #[.int .i64 t0, .int .i64 t1, .int .i64 t2, .int .i64 t3]) := Lib.hid (by rw [hw1]; exact Blk.new W _ _ hg)
  have HGR : Hid (g ≠ rb) := Lib.hid (by obtain ⟨mb, v, hf⟩ := h; have := hf.lt.1; omega)
  have Q1 : Hid (FwQ W C c rb k f w1) := Lib.hid ((FwQ.refl h).below B1.out)
  have HM := Lib.hid hm
  have HS := Lib.hid (And.intro hs (And.intro hlt ht1))
  have hw := IntWalk.i64_in (t1 - f.se) (by have := hs.1; have := hs.2; omega)
  have hw2 := IntWalk.i64_in (t1 - f.se - 1) (by have := hs.1; have := hs.2; omega)
  clear h hm hs hlt ht1
  go_enter Tryz.func152, Tryz.ntmps152
  go_upto_region 1 with fail
  rw [← hw1, ← hg]
  clear hw1 hg
  refine wp_region_any (by kernel_rfl) ?_
  change wpAny _ _ _ _ _ _ _ (World.drew _)
  refine wpAny_of_held (S := fun w' => w'.cell? ⟨g, 1, none⟩ = some (.int .i64 t1) ∧ w'.cell? ⟨rb, 0, none⟩ = some (.int .i64 f.se)) _ _ _ _ ?_
  obtain ⟨w2, hw2'⟩ : ∃ w2, w2 = w1.drew := ⟨_, rfl⟩
  have Q2 : Hid (FwQ W C c rb k f w2) := Lib.hid (by rw [hw2']; exact Q1.out.drew)
  have K2 : Hid (Blk w2 g 119 #[.int .i64 t0, .int .i64 t1, .int .i64 t2, .int .i64 t3]) := Lib.hid (by rw [hw2']; exact K1.out)
  rw [← hw2']
  clear hw2' Q1 K1
  have hHeld : (fun w' => w'.cell? ⟨g, 1, none⟩ = some (.int .i64 t1) ∧ w'.cell? ⟨rb, 0, none⟩ = some (.int .i64 f.se)) w2 := ⟨K2.out.cell 1, (Q2.out.1.cells).1⟩
  have CU := Lib.hid (up_any rb 4 f.mi (t1 - f.se - 1) w2 (Q2.out.1.cells).2.2.2.2.1 (Q2.out.1.frozen 4) HM.out.1 HM.out.2 (by have := HS.out.2.1; omega))
  refine tkh 0 (v := ?_) rfl ?_ ?_; rotate_left
  · intro w hSw; (try dsimp only at hSw); go_simp <;> with_reducible rfl
  try simp only [Act.put, pz]
  refine tkh 1 (v := ?_) rfl ?_ ?_; rotate_left
  · intro w hSw; (try dsimp only at hSw); go_simp <;> with_reducible rfl
  try simp only [Act.put, pz]
  refine tkh 2 (v := ?_) rfl ?_ ?_; rotate_left
  · intro w hSw; (try dsimp only at hSw); go_simp <;> with_reducible rfl
  try simp only [Act.put, pz]
  refine tkh 3 (v := ?_) rfl ?_ ?_; rotate_left
  · intro w hSw; (try dsimp only at hSw); go_simp <;> with_reducible rfl
  try simp only [Act.put, pz]
  refine tkh 4 (v := ?_) rfl ?_ ?_; rotate_left
  · intro w hSw; (try dsimp only at hSw); go_simp <;> with_reducible rfl
  try simp only [Act.put, pz]
  refine tkh 5 (v := ?_) rfl ?_ ?_; rotate_left
  · intro w hSw; (try dsimp only at hSw); go_simp <;> with_reducible rfl
  try simp only [Act.put, pz]
  refine tkh 6 (v := ?_) rfl ?_ ?_; rotate_left
  · intro w hSw; (try dsimp only at hSw); go_simp <;> with_reducible rfl
  try simp only [Act.put, pz]
  refine tkh 7 (v := ?_) rfl ?_ ?_; rotate_left
  · intro w hSw; obtain ⟨q0, q1⟩ := hSw; go_simp <;> with_reducible rfl
  try simp only [Act.put, pz]
  refine tkh 8 (v := ?_) rfl ?_ ?_; rotate_left
  · intro w hSw; (try dsimp only at hSw); go_simp <;> with_reducible rfl
  try simp only [Act.put, pz]
  refine tkh 9 (v := ?_) rfl ?_ ?_; rotate_left
  · intro w hSw; (try dsimp only at hSw); go_simp <;> with_reducible rfl
  try simp only [Act.put, pz]
  refine tkh 10 (v := ?_) rfl ?_ ?_; rotate_left
  · intro w hSw; (try dsimp only at hSw); go_simp <;> with_reducible rfl
  try simp only [Act.put, pz]
  refine tkh 11 (v := ?_) rfl ?_ ?_; rotate_left
  · intro w hSw; (try dsimp only at hSw); go_simp <;> with_reducible rfl
  try simp only [Act.put, pz]
  refine tkh 12 (v := ?_) rfl ?_ ?_; rotate_left
  · intro w hSw; (try dsimp only at hSw); go_simp <;> with_reducible rfl
  try simp only [Act.put, pz]
  refine tkh 13 (v := ?_) rfl ?_ ?_; rotate_left
  · intro w hSw; obtain ⟨q0, q1⟩ := hSw; go_simp <;> with_reducible rfl
  try simp only [Act.put, pz]
  refine tkh 14 (v := ?_) rfl ?_ ?_; rotate_left
  · intro w hSw; (try dsimp only at hSw); go_simp <;> with_reducible rfl
  try simp only [Act.put, pz]
  refine tkh 15 (v := ?_) rfl ?_ ?_; rotate_left
  · intro w hSw; (try dsimp only at hSw); go_simp <;> with_reducible rfl
  try simp only [Act.put, pz]
  refine wpAnyH_ready (rs := [16]) (by kernel_rfl) (by simp) (AllReadyH.cons rfl (fun K hK => ?_) AllReadyH.nil)
  have hPrev := hHeld
  clear hHeld
  go_simp
  clear hw hw2
  refine CU.out.mono ?_
  rintro e w3 ⟨rfl, hw3⟩
  have Q3 : Hid (FwQ W C c rb k (f.put 4 (upv f.mi (t1 - f.se - 1))) w3) := Lib.hid (by rw [hw3]; exact (Q2.out.put (i := 4) (by decide) _).drew)
  have K3 : Hid (Blk w3 g 119 #[.int .i64 t0, .int .i64 t1, .int .i64 t2, .int .i64 t3]) := Lib.hid (by rw [hw3]; exact K2.out.far HGR.out _)
  clear hw3 CU
  refine hK.out _ _ (⟨K3.out.cell 1, (Q3.out.1.cells).1⟩) (fun hHeld => ?_)
  clear hK K hPrev
  try simp only [Act.put, pz]
  refine wpAnyH_done (by kernel_rfl) ?_ _
  clear hHeld Q2 K2
  go_upto_region 2 with fail
  refine wp_region_any (by kernel_rfl) ?_
  change wpAny _ _ _ _ _ _ _ (World.drew _)
  refine wpAny_of_held (S := fun w' => w'.cell? ⟨g, 0, none⟩ = some (.int .i64 t0) ∧ w'.cell? ⟨g, 1, none⟩ = some (.int .i64 t1) ∧ w'.cell? ⟨g, 2, none⟩ = some (.int .i64 t2)) _ _ _ _ ?_
  obtain ⟨w4, hw4⟩ : ∃ w4, w4 = w3.drew := ⟨_, rfl⟩
  have Q4 : Hid (FwQ W C c rb k (f.put 4 (upv f.mi (t1 - f.se - 1))) w4) := Lib.hid (by rw [hw4]; exact Q3.out.drew)
  have K4 : Hid (Blk w4 g 119 #[.int .i64 t0, .int .i64 t1, .int .i64 t2, .int .i64 t3]) := Lib.hid (by rw [hw4]; exact K3.out)
  rw [← hw4]
  clear hw4 Q3 K3
  have hHeld : (fun w' => w'.cell? ⟨g, 0, none⟩ = some (.int .i64 t0) ∧ w'.cell? ⟨g, 1, none⟩ = some (.int .i64 t1) ∧ w'.cell? ⟨g, 2, none⟩ = some (.int .i64 t2)) w4 := ⟨K4.out.cell 0, K4.out.cell 1, K4.out.cell 2⟩
  refine tkh 0 (v := ?_) rfl ?_ ?_; rotate_left
  · intro w hSw; (try dsimp only at hSw); go_simp <;> with_reducible rfl
  try simp only [Act.put, pz]
  refine tkh 1 (v := ?_) rfl ?_ ?_; rotate_left
  · intro w hSw; (try dsimp only at hSw); go_simp <;> with_reducible rfl
  try simp only [Act.put, pz]
  refine tkh 2 (v := ?_) rfl ?_ ?_; rotate_left
  · intro w hSw; (try dsimp only at hSw); go_simp <;> with_reducible rfl
  try simp only [Act.put, pz]
  refine tkh 3 (v := ?_) rfl ?_ ?_; rotate_left
  · intro w hSw; (try dsimp only at hSw); go_simp <;> with_reducible rfl
  try simp only [Act.put, pz]
  refine tkh 4 (v := ?_) rfl ?_ ?_; rotate_left
  · intro w hSw; (try dsimp only at hSw); go_simp <;> with_reducible rfl
  try simp only [Act.put, pz]
  refine tkh 5 (v := ?_) rfl ?_ ?_; rotate_left
  · intro w hSw; obtain ⟨q0, q1, q2⟩ := hSw; go_simp <;> with_reducible rfl
  try simp only [Act.put, pz]
  refine tkh 6 (v := ?_) rfl ?_ ?_; rotate_left
  · intro w hSw; (try dsimp only at hSw); go_simp <;> with_reducible rfl
  try simp only [Act.put, pz]
  refine tkh 7 (v := ?_) rfl ?_ ?_; rotate_left
  · intro w hSw; obtain ⟨q0, q1, q2⟩ := hSw; go_simp <;> with_reducible rfl
  try simp only [Act.put, pz]
  refine tkh 8 (v := ?_) rfl ?_ ?_; rotate_left
  · intro w hSw; (try dsimp only at hSw); go_simp <;> with_reducible rfl
  try simp only [Act.put, pz]
  refine tkh 9 (v := ?_) rfl ?_ ?_; rotate_left
  · intro w hSw; obtain ⟨q0, q1, q2⟩ := hSw; go_simp <;> with_reducible rfl
  try simp only [Act.put, pz]
  refine tkh 10 (v := ?_) rfl ?_ ?_; rotate_left
  · intro w hSw; (try dsimp only at hSw); go_simp <;> with_reducible rfl
  try simp only [Act.put, pz]
  refine tkh 11 (v := ?_) rfl ?_ ?_; rotate_left
  · intro w hSw; (try dsimp only at hSw); go_simp <;> with_reducible rfl
  try simp only [Act.put, pz]
  refine tkh 12 (v := ?_) rfl ?_ ?_; rotate_left
  · intro w hSw; (try dsimp only at hSw); go_simp <;> with_reducible rfl
  try simp only [Act.put, pz]
  refine tkh 13 (v := ?_) rfl ?_ ?_; rotate_left
  · intro w hSw; (try dsimp only at hSw); go_simp <;> with_reducible rfl
  try simp only [Act.put, pz]
  have c0 := (Q4.out.1.cells).1
  have z0 := Q4.out.1.frozen 0
  refine wpAnyH_ready (rs := [14]) (by kernel_rfl) (by simp) (AllReadyH.cons rfl (fun K hK => ?_) AllReadyH.nil)
  have hPrev := hHeld
  clear hHeld
  go_simp
  clear c0 z0
  obtain ⟨w5, hw5⟩ : ∃ w5, w5 = w4.setCell ⟨rb, 0, none⟩ (.int .i64 (t1)) := ⟨_, rfl⟩
  have Q5 : Hid (FwQ W C c rb k ((f.put 4 (upv f.mi (t1 - f.se - 1))).put 0 t1) w5) := Lib.hid (by rw [hw5]; exact Q4.out.put (i := 0) (by decide) _)
  have K5 : Hid (Blk w5 g 119 #[.int .i64 t0, .int .i64 t1, .int .i64 t2, .int .i64 t3]) := Lib.hid (by rw [hw5]; exact K4.out.far HGR.out _)
  rw [← hw5]
  clear hw5 Q4 K4
  refine hK.out _ _ (⟨K5.out.cell 0, K5.out.cell 1, K5.out.cell 2⟩) (fun hHeld => ?_)
  clear hK K hPrev
  try simp only [Act.put, pz]
  refine tkh 15 (v := ?_) rfl ?_ ?_; rotate_left
  · intro w hSw; (try dsimp only at hSw); go_simp <;> with_reducible rfl
  try simp only [Act.put, pz]
  refine tkh 16 (v := ?_) rfl ?_ ?_; rotate_left
  · intro w hSw; (try dsimp only at hSw); go_simp <;> with_reducible rfl
  try simp only [Act.put, pz]
  refine tkh 17 (v := ?_) rfl ?_ ?_; rotate_left
  · intro w hSw; (try dsimp only at hSw); go_simp <;> with_reducible rfl
  try simp only [Act.put, pz]
  refine tkh 18 (v := ?_) rfl ?_ ?_; rotate_left
  · intro w hSw; (try dsimp only at hSw); go_simp <;> with_reducible rfl
  try simp only [Act.put, pz]
  have c1 := (Q5.out.1.cells).2.1
  have z1 := Q5.out.1.frozen 1
  refine wpAnyH_ready (rs := [19]) (by kernel_rfl) (by simp) (AllReadyH.cons rfl (fun K hK => ?_) AllReadyH.nil)
  have hPrev := hHeld
  clear hHeld
  go_simp
  clear c1 z1
  obtain ⟨w6, hw6⟩ : ∃ w6, w6 = w5.setCell ⟨rb, 1, none⟩ (.int .i64 (t0)) := ⟨_, rfl⟩
  have Q6 : Hid (FwQ W C c rb k (((f.put 4 (upv f.mi (t1 - f.se - 1))).put 0 t1).put 1 t0) w6) := Lib.hid (by rw [hw6]; exact Q5.out.put (i := 1) (by decide) _)
  have K6 : Hid (Blk w6 g 119 #[.int .i64 t0, .int .i64 t1, .int .i64 t2, .int .i64 t3]) := Lib.hid (by rw [hw6]; exact K5.out.far HGR.out _)
  rw [← hw6]
  clear hw6 Q5 K5
  refine hK.out _ _ (⟨K6.out.cell 0, K6.out.cell 1, K6.out.cell 2⟩) (fun hHeld => ?_)
  clear hK K hPrev
  try simp only [Act.put, pz]
  refine tkh 20 (v := ?_) rfl ?_ ?_; rotate_left
  · intro w hSw; (try dsimp only at hSw); go_simp <;> with_reducible rfl
  try simp only [Act.put, pz]
  refine tkh 21 (v := ?_) rfl ?_ ?_; rotate_left
  · intro w hSw; (try dsimp only at hSw); go_simp <;> with_reducible rfl
  try simp only [Act.put, pz]
  refine tkh 22 (v := ?_) rfl ?_ ?_; rotate_left
  · intro w hSw; (try dsimp only at hSw); go_simp <;> with_reducible rfl
  try simp only [Act.put, pz]
  refine tkh 23 (v := ?_) rfl ?_ ?_; rotate_left
  · intro w hSw; (try dsimp only at hSw); go_simp <;> with_reducible rfl
  try simp only [Act.put, pz]
  have c2 := (Q6.out.1.cells).2.2.1
  have z2 := Q6.out.1.frozen 2
  refine wpAnyH_ready (rs := [24]) (by kernel_rfl) (by simp) (AllReadyH.cons rfl (fun K hK => ?_) AllReadyH.nil)
  have hPrev := hHeld
  clear hHeld
  go_simp
  clear c2 z2
  obtain ⟨w7, hw7⟩ : ∃ w7, w7 = w6.setCell ⟨rb, 2, none⟩ (.int .i64 (t2)) := ⟨_, rfl⟩
  have Q7 : Hid (FwQ W C c rb k ((((f.put 4 (upv f.mi (t1 - f.se - 1))).put 0 t1).put 1 t0).put 2 t2) w7) := Lib.hid (by rw [hw7]; exact Q6.out.put (i := 2) (by decide) _)
  have K7 : Hid (Blk w7 g 119 #[.int .i64 t0, .int .i64 t1, .int .i64 t2, .int .i64 t3]) := Lib.hid (by rw [hw7]; exact K6.out.far HGR.out _)
  rw [← hw7]
  clear hw7 Q6 K6
  refine hK.out _ _ (⟨K7.out.cell 0, K7.out.cell 1, K7.out.cell 2⟩) (fun hHeld => ?_)
  clear hK K hPrev
  try simp only [Act.put, pz]
  refine tkh 25 (v := ?_) rfl ?_ ?_; rotate_left
  · intro w hSw; (try dsimp only at hSw); go_simp <;> with_reducible rfl
  try simp only [Act.put, pz]
  refine tkh 26 (v := ?_) rfl ?_ ?_; rotate_left
  · intro w hSw; (try dsimp only at hSw); go_simp <;> with_reducible rfl
  try simp only [Act.put, pz]
  refine tkh 27 (v := ?_) rfl ?_ ?_; rotate_left
  · intro w hSw; (try dsimp only at hSw); go_simp <;> with_reducible rfl
  try simp only [Act.put, pz]
  refine tkh 28 (v := ?_) rfl ?_ ?_; rotate_left
  · intro w hSw; (try dsimp only at hSw); go_simp <;> with_reducible rfl
  try simp only [Act.put, pz]
  have c3 := (Q7.out.1.cells).2.2.2.1
  have z3 := Q7.out.1.frozen 3
  refine wpAnyH_ready (rs := [29]) (by kernel_rfl) (by simp) (AllReadyH.cons rfl (fun K hK => ?_) AllReadyH.nil)
  have hPrev := hHeld
  clear hHeld
  go_simp
  clear c3 z3
  obtain ⟨w8, hw8⟩ : ∃ w8, w8 = w7.setCell ⟨rb, 3, none⟩ (.int .i64 (0)) := ⟨_, rfl⟩
  have Q8 : Hid (FwQ W C c rb k (((((f.put 4 (upv f.mi (t1 - f.se - 1))).put 0 t1).put 1 t0).put 2 t2).put 3 0) w8) := Lib.hid (by rw [hw8]; exact Q7.out.put (i := 3) (by decide) _)
  have K8 : Hid (Blk w8 g 119 #[.int .i64 t0, .int .i64 t1, .int .i64 t2, .int .i64 t3]) := Lib.hid (by rw [hw8]; exact K7.out.far HGR.out _)
  rw [← hw8]
  clear hw8 Q7 K7
  refine hK.out _ _ (⟨K8.out.cell 0, K8.out.cell 1, K8.out.cell 2⟩) (fun hHeld => ?_)
  clear hK K hPrev
  try simp only [Act.put, pz]
  refine wpAnyH_done (by kernel_rfl) ?_ _
  obtain ⟨mb, v, y9, hm, hK⟩ := Q8.out.1.maker
  have CD := Lib.hid (drop_any mb v k.line _ _ w8 hm)
  have HK := Lib.hid hK
  clear hm hK hHeld
  go_wp2_with fail
  refine CD.out.mono ?_
  rintro e w9 ⟨rfl, hm2, hc2⟩
  have HF : Hid (DoneQ W C c rb k (f.takeUp (t0, t1, t2, t3, 0)) (.returned (.tuple #[])) w9) := Lib.hid ⟨rfl, Q8.out.trans (HK.out _ _ _ _ hm2 hc2 (Fresh.nil _ _))⟩
  clear hm2 hc2
  go_wp2_with fail
  go_end0
  exact HF.out
end Go.Proofs.YtlojmmcagglpoaaGreat
namespace Go.Proofs.YtlojmmcagglpoaaGreat
open Go.RowKit Go.Maps
attribute [local go_sem ↓] Go.wp_at_zero Go.wp_at_succ
def stF (t : T5) : Value := .agg #[.int .i64 t.1, .int .i64 t.2.1, .int .i64 t.2.2.1, .int .i64 t.2.2.2.1]
def nextB (t : T5) (f : FwS) : Bool := decide (t.2.2.2.2 = 0) && decide (f.se < t.2.1)
def NextQ (W : World) (t : T5) (f : FwS) (e : Ending) (w' : World) : Prop := e = .returned (.tuple #[stF t, .bool (nextB t f)]) ∧ Below W.heap.size W w'
theorem ret_stb {w : World} {b : Nat} {dc : Array Value} {u : Tmp} {p : Tmp} {k : Bool} {fn : Func} {tmps : Array Value} (hf : fn.results = #[.cell p 119, .tmp u]) (hp : tmps.getD p undef = .pointer (some ⟨b, 0, none⟩)) (hu : tmps.getD u undef = .bool k) (h : Blk w b 119 dc) (hs : dc.size = 4) :
    (results fn tmps).run Tryz.prog w = .ok (.tuple #[.agg dc, .bool k]) w := by
  have h4 : (Tryz.prog.info? 119).map (·.size) = some 4 := by kernel_rfl
  rw [results_cell_tmp hf, hp, hu]
  simp only [asAddr, Sem.run_pure, Result.andThen, run_loadVar_row w b 119 119 dc (0, 0) _ h Tryz.underlying119 rfl (by rw [h4, hs])]
theorem ret_line {w : World} {b : Nat} {dc : Array Value} {u u2 : Tmp} {p : Tmp} {k k2 : Bool} {fn : Func} {tmps : Array Value} (hf : fn.results = #[.cell p 170, .tmp u, .tmp u2]) (hp : tmps.getD p undef = .pointer (some ⟨b, 0, none⟩)) (hu : tmps.getD u undef = .bool k) (hu2 : tmps.getD u2 undef = .bool k2) (h : Blk w b 170 dc) (hs : dc.size = 10) :
    (results fn tmps).run Tryz.prog w = .ok (.tuple #[.agg dc, .bool k, .bool k2]) w := by
  have h4 : (Tryz.prog.info? 170).map (·.size) = some 10 := by kernel_rfl
  have hl := run_loadVar_row (P := Tryz.prog) w b 170 170 dc (0, 0) _ h Tryz.underlying170 rfl (by rw [h4, hs])
  rw [Array.getD_eq_getD_getElem?] at hp hu hu2
  simp only [results, hf]
  simp [Result.andThen, hp, hu, hu2, asAddr, hl]
theorem ret_line2 {w : World} {b : Nat} {dc : Array Value} {u : Tmp} {p : Tmp} {k : Bool} {fn : Func} {tmps : Array Value} (hf : fn.results = #[.cell p 170, .tmp u]) (hp : tmps.getD p undef = .pointer (some ⟨b, 0, none⟩)) (hu : tmps.getD u undef = .bool k) (h : Blk w b 170 dc) (hs : dc.size = 10) :
    (results fn tmps).run Tryz.prog w = .ok (.tuple #[.agg dc, .bool k]) w := by
  have h4 : (Tryz.prog.info? 170).map (·.size) = some 10 := by kernel_rfl
  rw [results_cell_tmp hf, hp, hu]
  simp only [asAddr, Sem.run_pure, Result.andThen, run_loadVar_row w b 170 170 dc (0, 0) _ h Tryz.underlying170 rfl (by rw [h4, hs])]
set_option maxRecDepth 20000 in
set_option maxHeartbeats 2000000 in
theorem fw_next {W : World} {C : Nat → Nat} {c rb p : Nat} {k : FwK} {f : FwS} {D : World → Prop} {S : List UInt8 → T5} {I : Int → T5} {R : Int → Int → Int → Int → List UInt8 × Int} (h : FwR W C c rb k f) (ha : Asks p D S I R) (hD : Stay W C c D) : Calls Tryz.prog 151 #[.pointer (some ⟨rb, 0, none⟩), .pointer (some ⟨p, 0, none⟩)] W (NextQ W (S k.nm) f) := by
  obtain ⟨w1, hw1⟩ : ∃ w1, w1 = W.alloc (.cells #[.int .i64 0, .int .i64 0, .int .i64 0, .int .i64 0] 119) := ⟨_, rfl⟩
  obtain ⟨r, hr⟩ : ∃ r, r = W.heap.size := ⟨_, rfl⟩
  have B1 : Hid (Below W.heap.size W w1) := Lib.hid (by rw [hw1]; exact (Below.refl _ _).alloc (Nat.le_refl _) _)
  have K1 : Hid (Blk w1 r 119 #[.int .i64 0, .int .i64 0, .int .i64 0, .int .i64 0]) := Lib.hid (by rw [hw1]; exact Blk.new W _ _ hr)
  have F1 : Hid (FwR w1 C c rb k f) := Lib.hid (h.keep B1.out)
  have HR := Lib.hid hr
  have CS := Lib.hid (ha.stat w1 k.nm (hD w1 (Chg.of_below B1.out _)))
  obtain ⟨⟨t0, t1, t2, t3, t4⟩, ht⟩ : ∃ t, t = S k.nm := ⟨_, rfl⟩
  rw [← ht] at CS ⊢
  have y := F1.out.cells.2.2.2.2.2.2.2.2.2.1
  clear h ha hD ht
  go_enter Tryz.func151, Tryz.ntmps151
  go_upto_region 1 with fail
  rw [← hw1, ← hr]
  clear hw1 hr
  go_wp2_with fail
  refine CS.out.mono ?_
  rintro e w2 ⟨rfl, hb2⟩
  simp only
  obtain ⟨w3, hw3⟩ : ∃ w3, w3 = w2.alloc (.cells #[.int .i64 t0, .int .i64 t1, .int .i64 t2, .int .i64 t3] 119) := ⟨_, rfl⟩
  obtain ⟨b3, hb3⟩ : ∃ b3, b3 = w2.heap.size := ⟨_, rfl⟩
  have B13 : Hid (Below w1.heap.size w1 w3) := Lib.hid (by rw [hw3]; exact hb2.alloc hb2.size _)
  have K3 : Hid (Blk w3 b3 119 #[.int .i64 t0, .int .i64 t1, .int .i64 t2, .int .i64 t3]) := Lib.hid (by rw [hw3]; exact Blk.new w2 _ _ hb3)
  have F3 : Hid (FwR w3 C c rb k f) := Lib.hid (F1.out.keep B13.out)
  have KR3 : Hid (Blk w3 r 119 #[.int .i64 0, .int .i64 0, .int .i64 0, .int .i64 0]) := Lib.hid (K1.out.keep B13.out)
  have HNE : Hid (b3 ≠ r ∧ rb ≠ r) := Lib.hid ⟨by have := K1.out.lt; have := hb2.size; omega, by
    intro e
    obtain ⟨mb, v, hf⟩ := F1.out
    have h1 := hf.blk
    have h2 := K1.out
    rw [e] at h1
    unfold Blk at h1 h2
    rw [h1] at h2
    injection h2 with h2
    injection h2 with _ ht
    exact absurd ht (by decide)⟩
  clear hb2 CS y
  go_upto_region 2 with fail
  rw [← hw3, ← hb3]
  clear hw3 hb3
  by_cases her : t4 = 0
  · subst her
    refine wp_region_any (by kernel_rfl) ?_
    change wpAny _ _ _ _ _ _ _ (World.drew _)
    refine wpAny_of_held (S := fun w' => w'.cell? ⟨b3, 0, none⟩ = some (.int .i64 t0) ∧ w'.cell? ⟨b3, 1, none⟩ = some (.int .i64 t1) ∧ w'.cell? ⟨b3, 2, none⟩ = some (.int .i64 t2) ∧ w'.cell? ⟨b3, 3, none⟩ = some (.int .i64 t3) ∧ w'.cell? ⟨rb, 0, none⟩ = some (.int .i64 f.se)) _ _ _ _ ?_
    obtain ⟨w4, hw4⟩ : ∃ w4, w4 = w3.drew := ⟨_, rfl⟩
    have K4 : Hid (Blk w4 b3 119 #[.int .i64 t0, .int .i64 t1, .int .i64 t2, .int .i64 t3]) := Lib.hid (by rw [hw4]; exact K3.out)
    have KR4 : Hid (Blk w4 r 119 #[.int .i64 0, .int .i64 0, .int .i64 0, .int .i64 0]) := Lib.hid (by rw [hw4]; exact KR3.out)
    have F4 : Hid (FwR w4 C c rb k f) := Lib.hid (by rw [hw4]; exact F3.out.keep (Below.refl _ _).drew)
    have B4 : Hid (Below W.heap.size W w4) := Lib.hid (by rw [hw4]; exact (B1.out.trans (B13.out.mono B1.out.size)).drew)
    rw [← hw4]
    clear hw4
    have hHeld : (fun w' => w'.cell? ⟨b3, 0, none⟩ = some (.int .i64 t0) ∧ w'.cell? ⟨b3, 1, none⟩ = some (.int .i64 t1) ∧ w'.cell? ⟨b3, 2, none⟩ = some (.int .i64 t2) ∧ w'.cell? ⟨b3, 3, none⟩ = some (.int .i64 t3) ∧ w'.cell? ⟨rb, 0, none⟩ = some (.int .i64 f.se)) w4 := ⟨K4.out.cell 0, K4.out.cell 1, K4.out.cell 2, K4.out.cell 3, F4.out.cells.1⟩
    refine tkh 0 (v := ?_) rfl ?_ ?_; rotate_left
    · intro w hSw; obtain ⟨q0, q1, q2, q3, q4⟩ := hSw; go_simp <;> with_reducible rfl
    try simp only [Act.put, pz]
    refine tkh 1 (v := ?_) rfl ?_ ?_; rotate_left
    · intro w hSw; (try dsimp only at hSw); go_simp <;> with_reducible rfl
    try simp only [Act.put, pz]
    refine tkh 2 (v := .bool true) rfl ?_ ?_
    · intro w hSw; go_simp
    try simp only [Act.put, pz]
    refine tkh 3 (v := ?_) rfl ?_ ?_; rotate_left
    · intro w hSw; (try dsimp only at hSw); go_simp <;> with_reducible rfl
    try simp only [Act.put, pz]
    refine tkh 4 (v := ?_) rfl ?_ ?_; rotate_left
    · intro w hSw; (try dsimp only at hSw); go_simp <;> with_reducible rfl
    try simp only [Act.put, pz]
    refine tkh 5 (v := ?_) rfl ?_ ?_; rotate_left
    · intro w hSw; obtain ⟨q0, q1, q2, q3, q4⟩ := hSw; go_simp <;> with_reducible rfl
    try simp only [Act.put, pz]
    refine tkh 6 (v := ?_) rfl ?_ ?_; rotate_left
    · intro w hSw; (try dsimp only at hSw); go_simp <;> with_reducible rfl
    try simp only [Act.put, pz]
    refine tkh 7 (v := ?_) rfl ?_ ?_; rotate_left
    · intro w hSw; (try dsimp only at hSw); go_simp <;> with_reducible rfl
    try simp only [Act.put, pz]
    refine tkh 8 (v := ?_) rfl ?_ ?_; rotate_left
    · intro w hSw; (try dsimp only at hSw); go_simp <;> with_reducible rfl
    try simp only [Act.put, pz]
    refine tkh 9 (v := ?_) rfl ?_ ?_; rotate_left
    · intro w hSw; (try dsimp only at hSw); go_simp <;> with_reducible rfl
    try simp only [Act.put, pz]
    refine tkh 10 (v := ?_) rfl ?_ ?_; rotate_left
    · intro w hSw; (try dsimp only at hSw); go_simp <;> with_reducible rfl
    try simp only [Act.put, pz]
    refine tkh 11 (v := ?_) rfl ?_ ?_; rotate_left
    · intro w hSw; obtain ⟨q0, q1, q2, q3, q4⟩ := hSw; go_simp <;> with_reducible rfl
    try simp only [Act.put, pz]
    refine tkh 12 (v := ?_) rfl ?_ ?_; rotate_left
    · intro w hSw; (try dsimp only at hSw); go_simp <;> with_reducible rfl
    try simp only [Act.put, pz]
    refine tkh 13 (v := ?_) rfl ?_ ?_; rotate_left
    · intro w hSw; (try dsimp only at hSw); go_simp <;> with_reducible rfl
    try simp only [Act.put, pz]
    have z0 : w4.cell? ⟨r, 0, none⟩ = some (.int .i64 0) := KR4.out.cell 0
    have z1 : w4.cell? ⟨r, 1, none⟩ = some (.int .i64 0) := KR4.out.cell 1
    have z2 : w4.cell? ⟨r, 2, none⟩ = some (.int .i64 0) := KR4.out.cell 2
    have z3 : w4.cell? ⟨r, 3, none⟩ = some (.int .i64 0) := KR4.out.cell 3
    have g0 := KR4.out.frozen 0
    have g1 := KR4.out.frozen 1
    have g2 := KR4.out.frozen 2
    have g3 := KR4.out.frozen 3
    refine wpAnyH_ready (rs := [14]) (by kernel_rfl) (by simp) (AllReadyH.cons rfl (fun K hK => ?_) AllReadyH.nil)
    have hPrev := hHeld
    clear hHeld
    go_simp
    clear z0 z1 z2 z3 g0 g1 g2 g3
    obtain ⟨w5, hw5⟩ : ∃ w5, w5 = (((w4.setCell ⟨r, 0, none⟩ (.int .i64 t0)).setCell ⟨r, 1, none⟩ (.int .i64 t1)).setCell ⟨r, 2, none⟩ (.int .i64 t2)).setCell ⟨r, 3, none⟩ (.int .i64 t3) := ⟨_, rfl⟩
    have K5 : Hid (Blk w5 b3 119 #[.int .i64 t0, .int .i64 t1, .int .i64 t2, .int .i64 t3]) := Lib.hid (by rw [hw5]; exact ((((K4.out.far HNE.out.1 _).far HNE.out.1 _).far HNE.out.1 _).far HNE.out.1 _))
    have KR5 : Hid (Blk w5 r 119 #[.int .i64 t0, .int .i64 t1, .int .i64 t2, .int .i64 t3]) := Lib.hid (by rw [hw5]; exact ((((KR4.out.set_ 0 (.int .i64 t0)).set_ 1 (.int .i64 t1)).set_ 2 (.int .i64 t2)).set_ 3 (.int .i64 t3)))
    have y5 : w5.cell? ⟨rb, 0, none⟩ = some (.int .i64 f.se) := by
      obtain ⟨mb, v, hf⟩ := F4.out
      rw [hw5]
      exact ((((hf.blk.far HNE.out.2 _).far HNE.out.2 _).far HNE.out.2 _).far HNE.out.2 _).cell 0
    have HY5 := Lib.hid y5
    have B5 : Hid (Below W.heap.size W w5) := Lib.hid (by rw [hw5]; exact ((((B4.out.setCell (by show W.heap.size ≤ r; have := HR.out; omega) _).setCell (by show W.heap.size ≤ r; have := HR.out; omega) _).setCell (by show W.heap.size ≤ r; have := HR.out; omega) _).setCell (by show W.heap.size ≤ r; have := HR.out; omega) _))
    rw [← hw5]
    clear hw5 y5
    refine hK.out _ _ (⟨K5.out.cell 0, K5.out.cell 1, K5.out.cell 2, K5.out.cell 3, HY5.out⟩) (fun hHeld => ?_)
    clear hK K hPrev
    try simp only [Act.put, pz]
    refine tkh 15 (v := ?_) rfl ?_ ?_; rotate_left
    · intro w hSw; (try dsimp only at hSw); go_simp <;> with_reducible rfl
    try simp only [Act.put, pz]
    refine wpAnyH_done (by kernel_rfl) ?_ _
    clear hHeld
    go_wp2_with fail
    refine bodyPost_ret (v := .tuple #[stF (t0, t1, t2, t3, 0), .bool (decide (f.se < t1))]) (ret_stb rfl rfl rfl KR5.out rfl) rfl ?_
    exact ⟨by unfold nextB; simp, B5.out⟩
  · have hne : (t4 == (0 : Int)) = false := beq_eq_false_iff_ne.2 her
    refine wp_region_any (by kernel_rfl) ?_
    change wpAny _ _ _ _ _ _ _ (World.drew _)
    refine wpAny_of_held (S := fun w' => w'.cell? ⟨b3, 0, none⟩ = some (.int .i64 t0) ∧ w'.cell? ⟨b3, 1, none⟩ = some (.int .i64 t1) ∧ w'.cell? ⟨b3, 2, none⟩ = some (.int .i64 t2) ∧ w'.cell? ⟨b3, 3, none⟩ = some (.int .i64 t3) ∧ w'.cell? ⟨rb, 0, none⟩ = some (.int .i64 f.se)) _ _ _ _ ?_
    obtain ⟨w4, hw4⟩ : ∃ w4, w4 = w3.drew := ⟨_, rfl⟩
    have K4 : Hid (Blk w4 b3 119 #[.int .i64 t0, .int .i64 t1, .int .i64 t2, .int .i64 t3]) := Lib.hid (by rw [hw4]; exact K3.out)
    have KR4 : Hid (Blk w4 r 119 #[.int .i64 0, .int .i64 0, .int .i64 0, .int .i64 0]) := Lib.hid (by rw [hw4]; exact KR3.out)
    have F4 : Hid (FwR w4 C c rb k f) := Lib.hid (by rw [hw4]; exact F3.out.keep (Below.refl _ _).drew)
    have B4 : Hid (Below W.heap.size W w4) := Lib.hid (by rw [hw4]; exact (B1.out.trans (B13.out.mono B1.out.size)).drew)
    rw [← hw4]
    clear hw4
    have hHeld : (fun w' => w'.cell? ⟨b3, 0, none⟩ = some (.int .i64 t0) ∧ w'.cell? ⟨b3, 1, none⟩ = some (.int .i64 t1) ∧ w'.cell? ⟨b3, 2, none⟩ = some (.int .i64 t2) ∧ w'.cell? ⟨b3, 3, none⟩ = some (.int .i64 t3) ∧ w'.cell? ⟨rb, 0, none⟩ = some (.int .i64 f.se)) w4 := ⟨K4.out.cell 0, K4.out.cell 1, K4.out.cell 2, K4.out.cell 3, F4.out.cells.1⟩
    refine tkh 0 (v := ?_) rfl ?_ ?_; rotate_left
    · intro w hSw; obtain ⟨q0, q1, q2, q3, q4⟩ := hSw; go_simp <;> with_reducible rfl
    try simp only [Act.put, pz]
    refine tkh 1 (v := ?_) rfl ?_ ?_; rotate_left
    · intro w hSw; (try dsimp only at hSw); go_simp <;> with_reducible rfl
    try simp only [Act.put, pz]
    refine tkh 2 (v := .bool false) rfl ?_ ?_
    · intro w hSw; go_simp
    try simp only [Act.put, pz]
    refine tkh 3 (v := ?_) rfl ?_ ?_; rotate_left
    · intro w hSw; (try dsimp only at hSw); go_simp <;> with_reducible rfl
    try simp only [Act.put, pz]
    refine wpAnyH_take (i := 4) (v := undef) rfl (by kernel_rfl) (by kernel_rfl) (by kernel_rfl) (fun _ _ _ h => h) (Or.inr ⟨by rfl, rfl⟩) (by assumption) ?_
    try simp only [Act.put, pz]
    refine wpAnyH_take (i := 5) (v := undef) rfl (by kernel_rfl) (by kernel_rfl) (by kernel_rfl) (fun _ _ _ h => h) (Or.inr ⟨by rfl, rfl⟩) (by assumption) ?_
    try simp only [Act.put, pz]
    refine wpAnyH_take (i := 6) (v := undef) rfl (by kernel_rfl) (by kernel_rfl) (by kernel_rfl) (fun _ _ _ h => h) (Or.inr ⟨by rfl, rfl⟩) (by assumption) ?_
    try simp only [Act.put, pz]
    refine wpAnyH_take (i := 7) (v := undef) rfl (by kernel_rfl) (by kernel_rfl) (by kernel_rfl) (fun _ _ _ h => h) (Or.inr ⟨by rfl, rfl⟩) (by assumption) ?_
    try simp only [Act.put, pz]
    refine wpAnyH_take (i := 8) (v := undef) rfl (by kernel_rfl) (by kernel_rfl) (by kernel_rfl) (fun _ _ _ h => h) (Or.inr ⟨by rfl, rfl⟩) (by assumption) ?_
    try simp only [Act.put, pz]
    refine wpAnyH_take (i := 9) (v := undef) rfl (by kernel_rfl) (by kernel_rfl) (by kernel_rfl) (fun _ _ _ h => h) (Or.inr ⟨by rfl, rfl⟩) (by assumption) ?_
    try simp only [Act.put, pz]
    refine wpAnyH_take (i := 10) (v := undef) rfl (by kernel_rfl) (by kernel_rfl) (by kernel_rfl) (fun _ _ _ h => h) (Or.inr ⟨by rfl, rfl⟩) (by assumption) ?_
    try simp only [Act.put, pz]
    refine wpAnyH_take (i := 11) (v := undef) rfl (by kernel_rfl) (by kernel_rfl) (by kernel_rfl) (fun _ _ _ h => h) (Or.inr ⟨by rfl, rfl⟩) (by assumption) ?_
    try simp only [Act.put, pz]
    refine wpAnyH_take (i := 12) (v := undef) rfl (by kernel_rfl) (by kernel_rfl) (by kernel_rfl) (fun _ _ _ h => h) (Or.inr ⟨by rfl, rfl⟩) (by assumption) ?_
    try simp only [Act.put, pz]
    refine tkh 13 (v := ?_) rfl ?_ ?_; rotate_left
    · intro w hSw; (try dsimp only at hSw); go_simp <;> with_reducible rfl
    try simp only [Act.put, pz]
    have z0 : w4.cell? ⟨r, 0, none⟩ = some (.int .i64 0) := KR4.out.cell 0
    have z1 : w4.cell? ⟨r, 1, none⟩ = some (.int .i64 0) := KR4.out.cell 1
    have z2 : w4.cell? ⟨r, 2, none⟩ = some (.int .i64 0) := KR4.out.cell 2
    have z3 : w4.cell? ⟨r, 3, none⟩ = some (.int .i64 0) := KR4.out.cell 3
    have g0 := KR4.out.frozen 0
    have g1 := KR4.out.frozen 1
    have g2 := KR4.out.frozen 2
    have g3 := KR4.out.frozen 3
    refine wpAnyH_ready (rs := [14]) (by kernel_rfl) (by simp) (AllReadyH.cons rfl (fun K hK => ?_) AllReadyH.nil)
    have hPrev := hHeld
    clear hHeld
    go_simp
    clear z0 z1 z2 z3 g0 g1 g2 g3
    obtain ⟨w5, hw5⟩ : ∃ w5, w5 = (((w4.setCell ⟨r, 0, none⟩ (.int .i64 t0)).setCell ⟨r, 1, none⟩ (.int .i64 t1)).setCell ⟨r, 2, none⟩ (.int .i64 t2)).setCell ⟨r, 3, none⟩ (.int .i64 t3) := ⟨_, rfl⟩
    have K5 : Hid (Blk w5 b3 119 #[.int .i64 t0, .int .i64 t1, .int .i64 t2, .int .i64 t3]) := Lib.hid (by rw [hw5]; exact ((((K4.out.far HNE.out.1 _).far HNE.out.1 _).far HNE.out.1 _).far HNE.out.1 _))
    have KR5 : Hid (Blk w5 r 119 #[.int .i64 t0, .int .i64 t1, .int .i64 t2, .int .i64 t3]) := Lib.hid (by rw [hw5]; exact ((((KR4.out.set_ 0 (.int .i64 t0)).set_ 1 (.int .i64 t1)).set_ 2 (.int .i64 t2)).set_ 3 (.int .i64 t3)))
    have y5 : w5.cell? ⟨rb, 0, none⟩ = some (.int .i64 f.se) := by
      obtain ⟨mb, v, hf⟩ := F4.out
      rw [hw5]
      exact ((((hf.blk.far HNE.out.2 _).far HNE.out.2 _).far HNE.out.2 _).far HNE.out.2 _).cell 0
    have HY5 := Lib.hid y5
    have B5 : Hid (Below W.heap.size W w5) := Lib.hid (by rw [hw5]; exact ((((B4.out.setCell (by show W.heap.size ≤ r; have := HR.out; omega) _).setCell (by show W.heap.size ≤ r; have := HR.out; omega) _).setCell (by show W.heap.size ≤ r; have := HR.out; omega) _).setCell (by show W.heap.size ≤ r; have := HR.out; omega) _))
    rw [← hw5]
    clear hw5 y5
    refine hK.out _ _ (⟨K5.out.cell 0, K5.out.cell 1, K5.out.cell 2, K5.out.cell 3, HY5.out⟩) (fun hHeld => ?_)
    clear hK K hPrev
    try simp only [Act.put, pz]
    refine tkh 15 (v := ?_) rfl ?_ ?_; rotate_left
    · intro w hSw; (try dsimp only at hSw); go_simp <;> with_reducible rfl
    try simp only [Act.put, pz]
    refine wpAnyH_done (by kernel_rfl) ?_ _
    clear hHeld
    go_wp2_with fail
    refine bodyPost_ret (v := .tuple #[stF (t0, t1, t2, t3, t4), .bool false]) (ret_stb rfl rfl rfl KR5.out rfl) rfl ?_
    exact ⟨by unfold nextB; simp [her], B5.out⟩
set_option maxRecDepth 20000 in
set_option maxHeartbeats 2000000 in
theorem fw_mayName {W : World} {p : Nat} {D : World → Prop} {S : List UInt8 → T5} {I : Int → T5} {R : Int → Int → Int → Int → List UInt8 × Int} (nm : List UInt8) (ha : Asks p D S I R) (hD : D W) : Calls Tryz.prog 120 #[.string (strB nm), .pointer (some ⟨p, 0, none⟩)] W fun e w' => e = .returned (.bool (decide ((S nm).2.2.2.2 ≠ 140))) ∧ Below W.heap.size W w' := by
  have CS := Lib.hid (ha.stat W nm hD)
  obtain ⟨⟨t0, t1, t2, t3, t4⟩, ht⟩ : ∃ t, t = S nm := ⟨_, rfl⟩
  rw [← ht] at CS ⊢
  clear ha hD ht
  go_enter Tryz.func120, Tryz.ntmps120
  go_wp2_with fail
  refine CS.out.mono ?_
  rintro e w2 ⟨rfl, hb2⟩
  simp only
  have B2 := Lib.hid (hb2.alloc hb2.size (.cells #[.int .i64 t0, .int .i64 t1, .int .i64 t2, .int .i64 t3] 119))
  clear hb2 CS
  go_wp2_with fail
  go_ret
  exact ⟨by by_cases h : t4 = 140 <;> simp [h], B2.out⟩
def namesB (t : T5) (n : Int) : Bool := decide (t.2.2.2.2 = 0) && decide (t.1 = n)
set_option maxRecDepth 20000 in
set_option maxHeartbeats 2000000 in
theorem fw_names {W : World} {p : Nat} {D : World → Prop} {S : List UInt8 → T5} {I : Int → T5} {R : Int → Int → Int → Int → List UInt8 × Int} (nm : List UInt8) (n : Int) (ha : Asks p D S I R) (hD : D W) : Calls Tryz.prog 123 #[.string (strB nm), .int .i64 n, .pointer (some ⟨p, 0, none⟩)] W fun e w' => e = .returned (.bool (namesB (S nm) n)) ∧ Below W.heap.size W w' := by
  have CS := Lib.hid (ha.stat W nm hD)
  obtain ⟨⟨t0, t1, t2, t3, t4⟩, ht⟩ : ∃ t, t = S nm := ⟨_, rfl⟩
  rw [← ht] at CS ⊢
  clear ha hD ht
  by_cases h4 : t4 = 0
  · subst h4
    go_enter Tryz.func123, Tryz.ntmps123
    go_wp2_with fail
    refine CS.out.mono ?_
    rintro e w2 ⟨rfl, hb2⟩
    simp only
    have B2 := Lib.hid (hb2.alloc hb2.size (.cells #[.int .i64 t0, .int .i64 t1, .int .i64 t2, .int .i64 t3] 119))
    clear hb2 CS
    go_wp2_with fail
    go_ret
    exact ⟨by unfold namesB; by_cases h : t0 = n <;> simp [h], B2.out⟩
  · have hne : (t4 == (0 : Int)) = false := beq_eq_false_iff_ne.2 h4
    go_enter Tryz.func123, Tryz.ntmps123
    go_wp2_with fail
    refine CS.out.mono ?_
    rintro e w2 ⟨rfl, hb2⟩
    simp only
    have B2 := Lib.hid (hb2.alloc hb2.size (.cells #[.int .i64 t0, .int .i64 t1, .int .i64 t2, .int .i64 t3] 119))
    clear hb2 CS
    go_wp2_with fail
    go_ret
    exact ⟨by unfold namesB; simp [h4], B2.out⟩
end Go.Proofs.YtlojmmcagglpoaaGreat
