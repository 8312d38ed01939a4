/- THE WALK of the document's Sync (heronref14; printed by a program of ours). -/
import Derived.Test.YtlojmmcagglpoaaGreatERegL
import Derived.Test.YtlojmmcagglpoaaGreatERfCut
import Derived.Deep.DrawnRows
namespace Go.Proofs.YtlojmmcagglpoaaGreat
open Go.RowKit Go.Maps
attribute [local go_sem ↓] Go.wp_at_zero Go.wp_at_succ
def Ri.sync (y : Ri) : Ri := { y with la := y.b.length }
noncomputable def Rd.sync (r : Rd) (nm : List UInt8) : Int × Rd := r.edits nm Ri.sync
set_option maxRecDepth 20000 in
set_option maxHeartbeats 2000000 in
theorem rsync_any {W : World} {N : Nat} {C : Nat → Nat} {c p n : Nat} {r : Rd} (h : RC W N C c p r) (hok : r.Ok n) (nm : List UInt8) : Calls Tryz.prog 68 #[.pointer (some ⟨p, 0, none⟩), .string (strB nm)] W (RStepQ W N C c p (.int .i64 (r.sync nm).1) (r.sync nm).2) := by
  have CT := Lib.hid (rthere_any h (Nat.le_trans hok.nl hok.big) nm)
  have same : ∀ v : Int, r.sync nm = (v, r) → Hid (RStepQ W N C c p (.int .i64 (r.sync nm).1) (r.sync nm).2 (.returned (.int .i64 v)) W) := fun v e => Lib.hid (by rw [e]; exact RStepQ.same h rfl (Below.refl _ _))
  by_cases hm : mayB nm = true
  · by_cases h0 : r.file nm = 0
    · rw [Rd.there_no hm h0] at CT
      have HE := same 141 (Rd.edits_no hm h0 _)
      clear same h hok h0 hm
      go_enter Tryz.func68, Tryz.ntmps68
      go_wp2_with fail
      refine CT.out.mono ?_
      rintro e w2 ⟨rfl, rfl⟩
      go_wp2_with fail
      go_ret
      exact HE.out
    · obtain ⟨k, hk⟩ : ∃ k, r.file nm = k + 1 := ⟨r.file nm - 1, by omega⟩
      rw [Rd.there_of hm hk] at CT
      have hkr : k < r.is.length := by have := hok.file_le nm; omega
      obtain ⟨us, vi, vn, hw⟩ := h
      obtain ⟨u, hu, hu2⟩ := hw.inode hkr
      obtain ⟨A, cap, rfl, hc1, hc2, hA⟩ := hw.fi
      obtain ⟨g, rfl⟩ := hA (by rw [hw.len]; omega)
      obtain ⟨L, hL⟩ : ∃ L, L = us.length := ⟨_, rfl⟩
      have hkL : k < L := by rw [hL, hw.len]; exact hkr
      have hLb : L ≤ 1000000 := by rw [hL, hw.len]; exact Nat.le_trans hok.il hok.big
      have hri := hw.ri
      rw [← hL] at hw hri
      have q0 : W.cell? ⟨p, 0, none⟩ = some (.slice (some ⟨g, 0, none⟩) L cap) := (hw.bd.cell 0).trans rfl
      obtain ⟨-, c0, c1, -, -⟩ := hw.ci_at hu
      have f1 : W.frozen? ⟨g, k * 4 + 1, none⟩ = false := World.ownsRow.frozenAt hri _
      have hob := hw.ob k u hu
      obtain ⟨v, y⟩ := u
      simp only at c0 c1 hob hu2
      obtain ⟨Av, cv, rfl, _, _, _⟩ := hob.form
      have hbl := hok.bl y (List.mem_of_getElem? hu2)
      have hap : r.sync nm = (0, ⟨r.is.set k y.sync, r.ns⟩) := Rd.edits_of hm hk hu2 _
      rw [hap]
      have hp := hw.put_i (j := 1) (y := y.sync) (v := .int .i64 (y.b.length : Int)) hu (by decide) rfl rfl
      obtain ⟨b, hb⟩ : ∃ b, b = y.b.length := ⟨_, rfl⟩
      rw [← hb] at c0 hbl hp
      have HF : Hid (RStepQ W N C c p (.int .i64 0) ⟨r.is.set k y.sync, r.ns⟩ (.returned (.int .i64 0)) (W.setCell ⟨g, k * 4 + 1, none⟩ (.int .i64 (b : Int))).drew) := Lib.hid ⟨rfl, ⟨_, _, _, (hp.1.keep (Below.refl _ _).drew (Sam.refl _ _)).recol (C := C) (h0 := W.heap.size) (Sam.refl _ _)⟩, hp.2.drew⟩
      have hki : (k : Int) < (L : Int) := by omega
      have hk0 : (0 : Int) ≤ (k : Int) := by omega
      have hk3 : (k : Int) ≤ 1000000 := by omega
      have hwr : IntKind.i64.wrap (k : Int) = (k : Int) := by rw [IntKind.wrap_i64]; omega
      have x0 : (W.drew).cell? ⟨p, 0, none⟩ = some (.slice (some ⟨g, 0, none⟩) L cap) := q0
      have x1 : (W.drew).cell? ⟨g, k * 4, none⟩ = some (.slice Av b cv) := c0
      have x2 : (W.drew).cell? ⟨g, k * 4 + 1, none⟩ = some (.int .i64 (y.la : Int)) := c1
      have x3 : (W.drew).frozen? ⟨g, k * 4 + 1, none⟩ = false := f1
      clear same hw hri hu hob hb hap hm h0 hk hkr hc1 hA hL hok hu2 hp
      go_enter Tryz.func68, Tryz.ntmps68
      go_wp2_with fail
      refine CT.out.mono ?_
      rintro e w2 ⟨rfl, rfl⟩
      go_upto_region 4 with fail
      refine wp_region_any (by kernel_rfl) ?_
      change wpAny _ _ _ _ _ _ _ (World.drew _)
      refine any_of_L (S := SL 18 (fun w' => w'.cell? ⟨p, 0, none⟩ = some (.slice (some ⟨g, 0, none⟩) L cap) ∧ w'.cell? ⟨g, k * 4, none⟩ = some (.slice Av b cv))) _ _ _ _ ?_
      have hT0 : (fun w' => w'.cell? ⟨p, 0, none⟩ = some (.slice (some ⟨g, 0, none⟩) L cap) ∧ w'.cell? ⟨g, k * 4, none⟩ = some (.slice Av b cv)) W.drew := ⟨x0, x1⟩
      refine anyC_take (i := 0) 18 [1, 2, 3, 16, 17, 18] (v := ?_) (fun w' => w'.cell? ⟨p, 0, none⟩ = some (.slice (some ⟨g, 0, none⟩) L cap) ∧ w'.cell? ⟨g, k * 4, none⟩ = some (.slice Av b cv)) rfl (by kernel_rfl) (by kernel_rfl) (by kernel_rfl) (by kernel_rfl) (by kernel_rfl) (fun _ _ _ h => h) (fun _ _ h0 h => h h0) (SL.irr (i := 0) (by decide)).1 (SL.irr (i := 0) (by decide)).2 (Or.inl ⟨by rfl, ?_⟩) (SL.of hT0) ?_
      rotate_left 1
      · intro w hSw; obtain ⟨t0, t1⟩ := hSw; (try dsimp only at hSw); go_simp <;> with_reducible rfl
      try simp only [Act.put, List.setIfInBounds_toArray, List.set_cons_zero, List.set_cons_succ, List.getElem_toArray, List.getElem_cons_zero]
      refine anyC_take (i := 1) 18 [2, 3, 16, 17, 18] (v := ?_) (fun w' => w'.cell? ⟨p, 0, none⟩ = some (.slice (some ⟨g, 0, none⟩) L cap) ∧ w'.cell? ⟨g, k * 4, none⟩ = some (.slice Av b cv)) rfl (by kernel_rfl) (by kernel_rfl) (by kernel_rfl) (by kernel_rfl) (by kernel_rfl) (fun _ _ _ h => h) (fun _ _ h0 h => h h0) (SL.irr (i := 1) (by decide)).1 (SL.irr (i := 1) (by decide)).2 (Or.inl ⟨by rfl, ?_⟩) (SL.of hT0) ?_
      rotate_left 1
      · intro w hSw; obtain ⟨t0, t1⟩ := hSw; (try dsimp only at hSw); go_simp <;> with_reducible rfl
      try simp only [Act.put, List.setIfInBounds_toArray, List.set_cons_zero, List.set_cons_succ, List.getElem_toArray, List.getElem_cons_zero, List.getElem_cons_succ]
      refine anyC_take (i := 2) 18 [3, 16, 17, 18] (v := ?_) (fun w' => w'.cell? ⟨p, 0, none⟩ = some (.slice (some ⟨g, 0, none⟩) L cap) ∧ w'.cell? ⟨g, k * 4, none⟩ = some (.slice Av b cv)) rfl (by kernel_rfl) (by kernel_rfl) (by kernel_rfl) (by kernel_rfl) (by kernel_rfl) (fun _ _ _ h => h) (fun _ _ h0 h => h h0) (SL.irr (i := 2) (by decide)).1 (SL.irr (i := 2) (by decide)).2 (Or.inl ⟨by rfl, ?_⟩) (SL.of hT0) ?_
      rotate_left 1
      · intro w hSw; obtain ⟨t0, t1⟩ := hSw; (try dsimp only at hSw); go_simp <;> with_reducible rfl
      try simp only [Act.put, List.setIfInBounds_toArray, List.set_cons_zero, List.set_cons_succ, List.getElem_toArray, List.getElem_cons_zero, List.getElem_cons_succ]
      refine anyC_take (i := 3) 18 [16, 17, 18] (v := ?_) (fun w' => w'.cell? ⟨p, 0, none⟩ = some (.slice (some ⟨g, 0, none⟩) L cap) ∧ w'.cell? ⟨g, k * 4, none⟩ = some (.slice Av b cv)) rfl (by kernel_rfl) (by kernel_rfl) (by kernel_rfl) (by kernel_rfl) (by kernel_rfl) (fun _ _ _ h => h) (fun _ _ h0 h => h h0) (SL.irr (i := 3) (by decide)).1 (SL.irr (i := 3) (by decide)).2 (Or.inl ⟨by rfl, ?_⟩) (SL.of hT0) ?_
      rotate_left 1
      · intro w hSw; obtain ⟨t0, t1⟩ := hSw; (try dsimp only at hSw); go_simp <;> with_reducible rfl
      try simp only [Act.put, List.setIfInBounds_toArray, List.set_cons_zero, List.set_cons_succ, List.getElem_toArray, List.getElem_cons_zero, List.getElem_cons_succ]
      refine anyC_take (i := 4) 18 [5, 16, 17, 18] (v := ?_) (fun w' => w'.cell? ⟨p, 0, none⟩ = some (.slice (some ⟨g, 0, none⟩) L cap) ∧ w'.cell? ⟨g, k * 4, none⟩ = some (.slice Av b cv)) rfl (by kernel_rfl) (by kernel_rfl) (by kernel_rfl) (by kernel_rfl) (by kernel_rfl) (fun _ _ _ h => h) (fun _ _ h0 h => h h0) (SL.irr (i := 4) (by decide)).1 (SL.irr (i := 4) (by decide)).2 (Or.inl ⟨by rfl, ?_⟩) (SL.of hT0) ?_
      rotate_left 1
      · intro w hSw; obtain ⟨t0, t1⟩ := hSw; (try dsimp only at hSw); go_simp <;> with_reducible rfl
      try simp only [Act.put, List.setIfInBounds_toArray, List.set_cons_zero, List.set_cons_succ, List.getElem_toArray, List.getElem_cons_zero, List.getElem_cons_succ]
      refine anyC_take (i := 5) 18 [16, 17, 18] (v := ?_) (fun w' => w'.cell? ⟨p, 0, none⟩ = some (.slice (some ⟨g, 0, none⟩) L cap) ∧ w'.cell? ⟨g, k * 4, none⟩ = some (.slice Av b cv)) rfl (by kernel_rfl) (by kernel_rfl) (by kernel_rfl) (by kernel_rfl) (by kernel_rfl) (fun _ _ _ h => h) (fun _ _ h0 h => h h0) (SL.irr (i := 5) (by decide)).1 (SL.irr (i := 5) (by decide)).2 (Or.inl ⟨by rfl, ?_⟩) (SL.of hT0) ?_
      rotate_left 1
      · intro w hSw; obtain ⟨t0, t1⟩ := hSw; (try dsimp only at hSw); go_simp <;> with_reducible rfl
      try simp only [Act.put, List.setIfInBounds_toArray, List.set_cons_zero, List.set_cons_succ, List.getElem_toArray, List.getElem_cons_zero, List.getElem_cons_succ]
      refine anyC_take (i := 6) 18 [7, 8, 9, 12, 13, 14, 15, 18] (v := ?_) (fun w' => w'.cell? ⟨p, 0, none⟩ = some (.slice (some ⟨g, 0, none⟩) L cap) ∧ w'.cell? ⟨g, k * 4, none⟩ = some (.slice Av b cv)) rfl (by kernel_rfl) (by kernel_rfl) (by kernel_rfl) (by kernel_rfl) (by kernel_rfl) (fun _ _ _ h => h) (fun _ _ h0 h => h h0) (SL.irr (i := 6) (by decide)).1 (SL.irr (i := 6) (by decide)).2 (Or.inl ⟨by rfl, ?_⟩) (SL.of hT0) ?_
      rotate_left 1
      · intro w hSw; obtain ⟨t0, t1⟩ := hSw; (try dsimp only at hSw); go_simp <;> with_reducible rfl
      try simp only [Act.put, List.setIfInBounds_toArray, List.set_cons_zero, List.set_cons_succ, List.getElem_toArray, List.getElem_cons_zero, List.getElem_cons_succ]
      refine anyC_take (i := 7) 18 [8, 9, 12, 13, 14, 15, 18] (v := ?_) (fun w' => w'.cell? ⟨p, 0, none⟩ = some (.slice (some ⟨g, 0, none⟩) L cap) ∧ w'.cell? ⟨g, k * 4, none⟩ = some (.slice Av b cv)) rfl (by kernel_rfl) (by kernel_rfl) (by kernel_rfl) (by kernel_rfl) (by kernel_rfl) (fun _ _ _ h => h) (fun _ _ h0 h => h h0) (SL.irr (i := 7) (by decide)).1 (SL.irr (i := 7) (by decide)).2 (Or.inl ⟨by rfl, ?_⟩) (SL.of hT0) ?_
      rotate_left 1
      · intro w hSw; obtain ⟨t0, t1⟩ := hSw; (try dsimp only at hSw); go_simp <;> with_reducible rfl
      try simp only [Act.put, List.setIfInBounds_toArray, List.set_cons_zero, List.set_cons_succ, List.getElem_toArray, List.getElem_cons_zero, List.getElem_cons_succ]
      refine anyC_take (i := 8) 18 [9, 12, 13, 14, 15, 18] (v := ?_) (fun w' => w'.cell? ⟨p, 0, none⟩ = some (.slice (some ⟨g, 0, none⟩) L cap) ∧ w'.cell? ⟨g, k * 4, none⟩ = some (.slice Av b cv)) rfl (by kernel_rfl) (by kernel_rfl) (by kernel_rfl) (by kernel_rfl) (by kernel_rfl) (fun _ _ _ h => h) (fun _ _ h0 h => h h0) (SL.irr (i := 8) (by decide)).1 (SL.irr (i := 8) (by decide)).2 (Or.inl ⟨by rfl, ?_⟩) (SL.of hT0) ?_
      rotate_left 1
      · intro w hSw; obtain ⟨t0, t1⟩ := hSw; (try dsimp only at hSw); go_simp <;> with_reducible rfl
      try simp only [Act.put, List.setIfInBounds_toArray, List.set_cons_zero, List.set_cons_succ, List.getElem_toArray, List.getElem_cons_zero, List.getElem_cons_succ]
      refine anyC_take (i := 9) 18 [12, 13, 14, 15, 18] (v := ?_) (fun w' => w'.cell? ⟨p, 0, none⟩ = some (.slice (some ⟨g, 0, none⟩) L cap) ∧ w'.cell? ⟨g, k * 4, none⟩ = some (.slice Av b cv)) rfl (by kernel_rfl) (by kernel_rfl) (by kernel_rfl) (by kernel_rfl) (by kernel_rfl) (fun _ _ _ h => h) (fun _ _ h0 h => h h0) (SL.irr (i := 9) (by decide)).1 (SL.irr (i := 9) (by decide)).2 (Or.inl ⟨by rfl, ?_⟩) (SL.of hT0) ?_
      rotate_left 1
      · intro w hSw; obtain ⟨t0, t1⟩ := hSw; (try dsimp only at hSw); go_simp <;> with_reducible rfl
      try simp only [Act.put, List.setIfInBounds_toArray, List.set_cons_zero, List.set_cons_succ, List.getElem_toArray, List.getElem_cons_zero, List.getElem_cons_succ]
      refine anyC_take (i := 10) 18 [11, 12, 13, 14, 15, 18] (v := ?_) (fun w' => w'.cell? ⟨p, 0, none⟩ = some (.slice (some ⟨g, 0, none⟩) L cap) ∧ w'.cell? ⟨g, k * 4, none⟩ = some (.slice Av b cv)) rfl (by kernel_rfl) (by kernel_rfl) (by kernel_rfl) (by kernel_rfl) (by kernel_rfl) (fun _ _ _ h => h) (fun _ _ h0 h => h h0) (SL.irr (i := 10) (by decide)).1 (SL.irr (i := 10) (by decide)).2 (Or.inl ⟨by rfl, ?_⟩) (SL.of hT0) ?_
      rotate_left 1
      · intro w hSw; obtain ⟨t0, t1⟩ := hSw; (try dsimp only at hSw); go_simp <;> with_reducible rfl
      try simp only [Act.put, List.setIfInBounds_toArray, List.set_cons_zero, List.set_cons_succ, List.getElem_toArray, List.getElem_cons_zero, List.getElem_cons_succ]
      refine anyC_take (i := 11) 18 [12, 13, 14, 15, 18] (v := ?_) (fun w' => w'.cell? ⟨p, 0, none⟩ = some (.slice (some ⟨g, 0, none⟩) L cap) ∧ w'.cell? ⟨g, k * 4, none⟩ = some (.slice Av b cv)) rfl (by kernel_rfl) (by kernel_rfl) (by kernel_rfl) (by kernel_rfl) (by kernel_rfl) (fun _ _ _ h => h) (fun _ _ h0 h => h h0) (SL.irr (i := 11) (by decide)).1 (SL.irr (i := 11) (by decide)).2 (Or.inl ⟨by rfl, ?_⟩) (SL.of hT0) ?_
      rotate_left 1
      · intro w hSw; obtain ⟨t0, t1⟩ := hSw; (try dsimp only at hSw); go_simp <;> with_reducible rfl
      try simp only [Act.put, List.setIfInBounds_toArray, List.set_cons_zero, List.set_cons_succ, List.getElem_toArray, List.getElem_cons_zero, List.getElem_cons_succ]
      refine anyC_take (i := 12) 18 [13, 14, 15, 18] (v := ?_) (fun w' => w'.cell? ⟨p, 0, none⟩ = some (.slice (some ⟨g, 0, none⟩) L cap) ∧ w'.cell? ⟨g, k * 4, none⟩ = some (.slice Av b cv)) rfl (by kernel_rfl) (by kernel_rfl) (by kernel_rfl) (by kernel_rfl) (by kernel_rfl) (fun _ _ _ h => h) (fun _ _ h0 h => h h0) (SL.irr (i := 12) (by decide)).1 (SL.irr (i := 12) (by decide)).2 (Or.inl ⟨by rfl, ?_⟩) (SL.of hT0) ?_
      rotate_left 1
      · intro w hSw; obtain ⟨t0, t1⟩ := hSw; (try dsimp only at hSw); go_simp <;> with_reducible rfl
      try simp only [Act.put, List.setIfInBounds_toArray, List.set_cons_zero, List.set_cons_succ, List.getElem_toArray, List.getElem_cons_zero, List.getElem_cons_succ]
      refine anyC_take (i := 13) 18 [14, 15, 18] (v := ?_) (fun w' => w'.cell? ⟨p, 0, none⟩ = some (.slice (some ⟨g, 0, none⟩) L cap) ∧ w'.cell? ⟨g, k * 4, none⟩ = some (.slice Av b cv)) rfl (by kernel_rfl) (by kernel_rfl) (by kernel_rfl) (by kernel_rfl) (by kernel_rfl) (fun _ _ _ h => h) (fun _ _ h0 h => h h0) (SL.irr (i := 13) (by decide)).1 (SL.irr (i := 13) (by decide)).2 (Or.inl ⟨by rfl, ?_⟩) (SL.of hT0) ?_
      rotate_left 1
      · intro w hSw; obtain ⟨t0, t1⟩ := hSw; (try dsimp only at hSw); go_simp <;> with_reducible rfl
      try simp only [Act.put, List.setIfInBounds_toArray, List.set_cons_zero, List.set_cons_succ, List.getElem_toArray, List.getElem_cons_zero, List.getElem_cons_succ]
      refine anyC_take (i := 14) 18 [15, 18] (v := ?_) (fun w' => w'.cell? ⟨p, 0, none⟩ = some (.slice (some ⟨g, 0, none⟩) L cap) ∧ w'.cell? ⟨g, k * 4, none⟩ = some (.slice Av b cv)) rfl (by kernel_rfl) (by kernel_rfl) (by kernel_rfl) (by kernel_rfl) (by kernel_rfl) (fun _ _ _ h => h) (fun _ _ h0 h => h h0) (SL.irr (i := 14) (by decide)).1 (SL.irr (i := 14) (by decide)).2 (Or.inl ⟨by rfl, ?_⟩) (SL.of hT0) ?_
      rotate_left 1
      · intro w hSw; obtain ⟨t0, t1⟩ := hSw; (try dsimp only at hSw); go_simp <;> with_reducible rfl
      try simp only [Act.put, List.setIfInBounds_toArray, List.set_cons_zero, List.set_cons_succ, List.getElem_toArray, List.getElem_cons_zero, List.getElem_cons_succ]
      refine anyC_take (i := 15) 18 [18] (v := ?_) (fun w' => w'.cell? ⟨p, 0, none⟩ = some (.slice (some ⟨g, 0, none⟩) L cap) ∧ w'.cell? ⟨g, k * 4, none⟩ = some (.slice Av b cv)) rfl (by kernel_rfl) (by kernel_rfl) (by kernel_rfl) (by kernel_rfl) (by kernel_rfl) (fun _ _ _ h => h) (fun _ _ h0 h => h h0) (SL.irr (i := 15) (by decide)).1 (SL.irr (i := 15) (by decide)).2 (Or.inl ⟨by rfl, ?_⟩) (SL.of hT0) ?_
      rotate_left 1
      · intro w hSw; obtain ⟨t0, t1⟩ := hSw; (try dsimp only at hSw); go_simp <;> with_reducible rfl
      try simp only [Act.put, List.setIfInBounds_toArray, List.set_cons_zero, List.set_cons_succ, List.getElem_toArray, List.getElem_cons_zero, List.getElem_cons_succ]
      refine anyC_take (i := 16) 18 [17, 18] (v := ?_) (fun w' => w'.cell? ⟨p, 0, none⟩ = some (.slice (some ⟨g, 0, none⟩) L cap) ∧ w'.cell? ⟨g, k * 4, none⟩ = some (.slice Av b cv)) rfl (by kernel_rfl) (by kernel_rfl) (by kernel_rfl) (by kernel_rfl) (by kernel_rfl) (fun _ _ _ h => h) (fun _ _ h0 h => h h0) (SL.irr (i := 16) (by decide)).1 (SL.irr (i := 16) (by decide)).2 (Or.inl ⟨by rfl, ?_⟩) (SL.of hT0) ?_
      rotate_left 1
      · intro w hSw; obtain ⟨t0, t1⟩ := hSw; (try dsimp only at hSw); go_simp <;> with_reducible rfl
      try simp only [Act.put, List.setIfInBounds_toArray, List.set_cons_zero, List.set_cons_succ, List.getElem_toArray, List.getElem_cons_zero, List.getElem_cons_succ]
      refine anyC_take (i := 17) 18 [18] (v := ?_) (fun w' => w'.cell? ⟨p, 0, none⟩ = some (.slice (some ⟨g, 0, none⟩) L cap) ∧ w'.cell? ⟨g, k * 4, none⟩ = some (.slice Av b cv)) rfl (by kernel_rfl) (by kernel_rfl) (by kernel_rfl) (by kernel_rfl) (by kernel_rfl) (fun _ _ _ h => h) (fun _ _ h0 h => h h0) (SL.irr (i := 17) (by decide)).1 (SL.irr (i := 17) (by decide)).2 (Or.inl ⟨by rfl, ?_⟩) (SL.of hT0) ?_
      rotate_left 1
      · intro w hSw; obtain ⟨t0, t1⟩ := hSw; (try dsimp only at hSw); go_simp <;> with_reducible rfl
      try simp only [Act.put, List.setIfInBounds_toArray, List.set_cons_zero, List.set_cons_succ, List.getElem_toArray, List.getElem_cons_zero, List.getElem_cons_succ]
      refine anyL_ready (rs := [18]) (by kernel_rfl) (by simp) (AllL.cons rfl (fun K hK => ?_) AllL.nil)
      go_simp
      refine hK.out _ _ (SL.fin (by kernel_rfl)) ?_
      clear hK K hT0
      try simp only [Act.put, List.setIfInBounds_toArray, List.set_cons_zero, List.set_cons_succ, List.getElem_toArray, List.getElem_cons_zero, List.getElem_cons_succ]
      refine anyL_done (by kernel_rfl) ?_ _
      go_wp2_with fail
      go_ret
      exact HF.out
  · rw [Rd.there_bad hm] at CT
    have HE := same 140 (Rd.edits_bad hm _)
    clear same h hok hm
    go_enter Tryz.func68, Tryz.ntmps68
    go_wp2_with fail
    refine CT.out.mono ?_
    rintro e w2 ⟨rfl, rfl⟩
    go_wp2_with fail
    go_ret
    exact HE.out
end Go.Proofs.YtlojmmcagglpoaaGreat
