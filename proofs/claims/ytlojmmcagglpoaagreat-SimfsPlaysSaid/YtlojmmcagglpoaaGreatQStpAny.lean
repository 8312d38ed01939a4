/- A step of the play (package heronlaw14), whatever the op. -/
import Derived.Test.YtlojmmcagglpoaaGreatQChAny
import Derived.Test.YtlojmmcagglpoaaGreatQStepQ
import Derived.Test.YtlojmmcagglpoaaGreatQStpCopy
import Derived.Test.YtlojmmcagglpoaaGreatQStpInode
import Derived.Test.YtlojmmcagglpoaaGreatQStpNames
import Derived.Test.YtlojmmcagglpoaaGreatQStpRead
import Derived.Deep.RegionHeld
import Derived.Deep.RegionHeld3
import Derived.Deep.DrawnRows
import Derived.Deep.DeepMust
namespace Go.Proofs.YtlojmmcagglpoaaGreat
open Go.RowKit Go.Maps
attribute [local go_sem ↓] Go.wp_at_zero Go.wp_at_succ
set_option maxRecDepth 20000 in
set_option maxHeartbeats 4000000 in
theorem step_else {w0 W : World} {C : Nat → Nat} {P : Nat} {h : Hd} {bs : List (List UInt8)} {ns : List (List (List UInt8))} {ds : List DE} {i : Nat} (hG : GS w0 W C (LP w0 P h bs ns ds)) (hI : InvP i ds bs ns) (hi : i < 120) (k : Int) (hk : k ≠ 6 ∧ k ≠ 7 ∧ k ≠ 8 ∧ k ≠ 9 ∧ k ≠ 11) (c1 : Int) (nm ot : List UInt8) (sa : ByteArray) (tm c6 c7 c8 c9 : Int) (A : Option Addr) (m cp : Nat) (ks : List Int) (ho : OpP.In w0 ⟨k, c1, nm, ot, sa, tm, c6, c7, c8, c9, A, m, cp, ks⟩) : Calls Tryz.prog 10 #[.pointer (some ⟨P, 0, none⟩), .agg #[.int .i64 k, .int .i64 c1, .string (strB nm), .string (strB ot), .string sa, .int .i64 tm, .int .i64 c6, .int .i64 c7, .int .i64 c8, .int .i64 c9, .slice A m cp]] W (StpQ w0 P i) := by
  obtain ⟨w1, hw1⟩ : ∃ w1, w1 = W.alloc (.cells #[.int .i64 k, .int .i64 c1, .string (strB nm), .string (strB ot), .string sa, .int .i64 tm, .int .i64 c6, .int .i64 c7, .int .i64 c8, .int .i64 c9, .slice A m cp] 41) := ⟨_, rfl⟩
  obtain ⟨g, hg⟩ : ∃ g, g = W.heap.size := ⟨_, rfl⟩
  have hb : Below W.heap.size W w1 := by rw [hw1]; exact (Below.refl _ _).alloc (Nat.le_refl _) _
  have K1 : Hid (Blk w1 g 41 #[.int .i64 k, .int .i64 c1, .string (strB nm), .string (strB ot), .string sa, .int .i64 tm, .int .i64 c6, .int .i64 c7, .int .i64 c8, .int .i64 c9, .slice A m cp]) := Lib.hid (by rw [hw1, hg]; exact Blk.new W _ _ rfl)
  obtain ⟨cB, hcB⟩ : ∃ cB, cB = (LP w0 P h bs ns ds).length + 1 := ⟨_, rfl⟩
  obtain ⟨C1, hC1⟩ : ∃ C1, C1 = paint C W.heap.size cB := ⟨_, rfl⟩
  obtain ⟨BP, hBP⟩ : ∃ BP : PartT, BP = (fun W C => FrC W C cB (fun w => Blk w g 41 #[.int .i64 k, .int .i64 c1, .string (strB nm), .string (strB ot), .string sa, .int .i64 tm, .int .i64 c6, .int .i64 c7, .int .i64 c8, .int .i64 c9, .slice A m cp])) := ⟨_, rfl⟩
  have G1 : Hid (GS w0 w1 C1 (LP w0 P h bs ns ds ++ [BP])) := Lib.hid (by
    have h1 := hG.holdBlk hb K1.out (by omega)
    rw [← hcB] at h1
    rw [hBP, hC1]; exact h1)
  have HBP : Hid (∀ w C, BP w C → Blk w g 41 #[.int .i64 k, .int .i64 c1, .string (strB nm), .string (strB ot), .string sa, .int .i64 tm, .int .i64 c6, .int .i64 c7, .int .i64 c8, .int .i64 c9, .slice A m cp]) := Lib.hid (fun w C h => by rw [hBP] at h; exact h.now)
  have HZ : Hid (∀ w', Blk w' g 41 #[.int .i64 k, .int .i64 c1, .string (strB nm), .string (strB ot), .string sa, .int .i64 tm, .int .i64 c6, .int .i64 c7, .int .i64 c8, .int .i64 c9, .slice A m cp] → (fun w' => w'.cell? ⟨g, 0, none⟩ = some (.int .i64 k) ∧ w'.cell? ⟨g, 1, none⟩ = some (.int .i64 c1) ∧ w'.cell? ⟨g, 2, none⟩ = some (.string (strB nm)) ∧ w'.cell? ⟨g, 3, none⟩ = some (.string (strB ot)) ∧ w'.cell? ⟨g, 4, none⟩ = some (.string sa) ∧ w'.cell? ⟨g, 5, none⟩ = some (.int .i64 tm) ∧ w'.cell? ⟨g, 6, none⟩ = some (.int .i64 c6) ∧ w'.cell? ⟨g, 7, none⟩ = some (.int .i64 c7) ∧ w'.cell? ⟨g, 8, none⟩ = some (.int .i64 c8) ∧ w'.cell? ⟨g, 9, none⟩ = some (.int .i64 c9) ∧ w'.cell? ⟨g, 10, none⟩ = some (.slice A m cp)) w') := Lib.hid (fun w' hb => ⟨(hb.cell 0).trans rfl, (hb.cell 1).trans rfl, (hb.cell 2).trans rfl, (hb.cell 3).trans rfl, (hb.cell 4).trans rfl, (hb.cell 5).trans rfl, (hb.cell 6).trans rfl, (hb.cell 7).trans rfl, (hb.cell 8).trans rfl, (hb.cell 9).trans rfl, (hb.cell 10).trans rfl⟩)
  obtain ⟨gd, cd, gr, cr, hd, hr, hcd, hcr⟩ := LP.rows (M := [BP]) G1.out hI.pos
  have HPD : Hid (∀ w C, GS w0 w C (LP w0 P h bs ns ds ++ [BP]) → w.cell? ⟨P, 0, none⟩ = some (.slice (some ⟨gd, 0, none⟩) ds.length cd) ∧ w.cell? ⟨P, 1, none⟩ = some (.slice (some ⟨gr, 0, none⟩) ds.length cr)) := Lib.hid (fun w C hq => ⟨by rw [← hd]; exact ((LP.pp hq).1.1.cell 0).trans rfl, by rw [← hr]; exact ((LP.pp hq).1.1.cell 1).trans rfl⟩)
  have HRW : Hid (∀ w C, GS w0 w C (LP w0 P h bs ns ds ++ [BP]) → ∀ (j : Nat) (x : DE), ds[j]? = some x → w.cell? ⟨gd, j, none⟩ = some (.pointer (some ⟨x.p, 0, none⟩)) ∧ w.cell? ⟨gr, j, none⟩ = some (.pointer (some ⟨x.q, 0, none⟩))) := Lib.hid (fun w C hq j x hx => LP.cells hq hd hr hx)
  have HCN : Hid (∀ b, g ≤ b → 5 < C1 b) := Lib.hid (fun b hq => by rw [hC1, paint_new C cB (by omega), hcB]; unfold LP; simp only [List.length_cons]; omega)
  have CM := Lib.hid (mod_any c1 ds.length hI.pos (by have := hI.eight; omega))
  have HI := Lib.hid hI
  have hpos := hI.pos
  have HS : Hid (∀ w' C', GS w0 w' C' (LP w0 P h bs ns ds ++ [BP]) → (fun w' => w'.cell? ⟨P, 0, none⟩ = some (.slice (some ⟨gd, 0, none⟩) ds.length cd) ∧ w'.cell? ⟨g, 0, none⟩ = some (.int .i64 k) ∧ w'.cell? ⟨g, 1, none⟩ = some (.int .i64 c1) ∧ w'.cell? ⟨g, 2, none⟩ = some (.string (strB nm)) ∧ w'.cell? ⟨g, 3, none⟩ = some (.string (strB ot)) ∧ w'.cell? ⟨g, 4, none⟩ = some (.string sa) ∧ w'.cell? ⟨g, 5, none⟩ = some (.int .i64 tm) ∧ w'.cell? ⟨g, 6, none⟩ = some (.int .i64 c6) ∧ w'.cell? ⟨g, 7, none⟩ = some (.int .i64 c7) ∧ w'.cell? ⟨g, 8, none⟩ = some (.int .i64 c8) ∧ w'.cell? ⟨g, 9, none⟩ = some (.int .i64 c9) ∧ w'.cell? ⟨g, 10, none⟩ = some (.slice A m cp)) w') := Lib.hid (fun w' C' hq => ⟨(HPD.out _ _ hq).1, HZ.out _ (HBP.out _ _ hq.last)⟩)
  clear hb hG hBP hC1 hcB hI hd hr
  go_enter Tryz.func10, Tryz.ntmps10
  go_upto_region 1 with fail
  rw [← hw1, ← hg]
  clear hw1 hg
  refine wp_region_any (by kernel_rfl) ?_
  change wpAny _ _ _ _ _ _ _ (World.drew _)
  refine wpAny_of_held (S := fun w' => w'.cell? ⟨P, 0, none⟩ = some (.slice (some ⟨gd, 0, none⟩) ds.length cd) ∧ w'.cell? ⟨g, 0, none⟩ = some (.int .i64 k) ∧ w'.cell? ⟨g, 1, none⟩ = some (.int .i64 c1) ∧ w'.cell? ⟨g, 2, none⟩ = some (.string (strB nm)) ∧ w'.cell? ⟨g, 3, none⟩ = some (.string (strB ot)) ∧ w'.cell? ⟨g, 4, none⟩ = some (.string sa) ∧ w'.cell? ⟨g, 5, none⟩ = some (.int .i64 tm) ∧ w'.cell? ⟨g, 6, none⟩ = some (.int .i64 c6) ∧ w'.cell? ⟨g, 7, none⟩ = some (.int .i64 c7) ∧ w'.cell? ⟨g, 8, none⟩ = some (.int .i64 c8) ∧ w'.cell? ⟨g, 9, none⟩ = some (.int .i64 c9) ∧ w'.cell? ⟨g, 10, none⟩ = some (.slice A m cp)) _ _ _ _ ?_
  obtain ⟨w2, hw2⟩ : ∃ w2, w2 = w1.drew := ⟨_, rfl⟩
  have G2 : Hid (GS w0 w2 C1 (LP w0 P h bs ns ds ++ [BP])) := Lib.hid (by rw [hw2]; exact G1.out.keep (Below.refl _ _).drew)
  rw [← hw2]
  clear hw2 K1 G1
  have hHeld : (fun w' => w'.cell? ⟨P, 0, none⟩ = some (.slice (some ⟨gd, 0, none⟩) ds.length cd) ∧ w'.cell? ⟨g, 0, none⟩ = some (.int .i64 k) ∧ w'.cell? ⟨g, 1, none⟩ = some (.int .i64 c1) ∧ w'.cell? ⟨g, 2, none⟩ = some (.string (strB nm)) ∧ w'.cell? ⟨g, 3, none⟩ = some (.string (strB ot)) ∧ w'.cell? ⟨g, 4, none⟩ = some (.string sa) ∧ w'.cell? ⟨g, 5, none⟩ = some (.int .i64 tm) ∧ w'.cell? ⟨g, 6, none⟩ = some (.int .i64 c6) ∧ w'.cell? ⟨g, 7, none⟩ = some (.int .i64 c7) ∧ w'.cell? ⟨g, 8, none⟩ = some (.int .i64 c8) ∧ w'.cell? ⟨g, 9, none⟩ = some (.int .i64 c9) ∧ w'.cell? ⟨g, 10, none⟩ = some (.slice A m cp)) w2 := HS.out _ _ G2.out
  refine wpAnyH_take (i := 0) (v := ?_) rfl (by kernel_rfl) (by kernel_rfl) (by kernel_rfl) (fun _ _ _ h => h) (Or.inl ⟨by rfl, ?_⟩) (by assumption) ?_
  rotate_left 1
  · intro w hSw; (try dsimp only at hSw); go_simp <;> with_reducible rfl
  try simp only [Act.put, List.setIfInBounds_toArray, List.set_cons_zero, List.set_cons_succ, List.getElem_toArray, List.getElem_cons_zero]
  refine wpAnyH_take (i := 1) (v := ?_) rfl (by kernel_rfl) (by kernel_rfl) (by kernel_rfl) (fun _ _ _ h => h) (Or.inl ⟨by rfl, ?_⟩) (by assumption) ?_
  rotate_left 1
  · intro w hSw; obtain ⟨y0, z0, z1, z2, z3, z4, z5, z6, z7, z8, z9, z10⟩ := hSw; (try dsimp only at hSw); go_simp <;> with_reducible rfl
  try simp only [Act.put, List.setIfInBounds_toArray, List.set_cons_zero, List.set_cons_succ, List.getElem_toArray, List.getElem_cons_zero, List.getElem_cons_succ]
  refine wpAnyH_take (i := 2) (v := ?_) rfl (by kernel_rfl) (by kernel_rfl) (by kernel_rfl) (fun _ _ _ h => h) (Or.inl ⟨by rfl, ?_⟩) (by assumption) ?_
  rotate_left 1
  · intro w hSw; (try dsimp only at hSw); go_simp <;> with_reducible rfl
  try simp only [Act.put, List.setIfInBounds_toArray, List.set_cons_zero, List.set_cons_succ, List.getElem_toArray, List.getElem_cons_zero, List.getElem_cons_succ]
  refine wpAnyH_take (i := 3) (v := ?_) rfl (by kernel_rfl) (by kernel_rfl) (by kernel_rfl) (fun _ _ _ h => h) (Or.inl ⟨by rfl, ?_⟩) (by assumption) ?_
  rotate_left 1
  · intro w hSw; (try dsimp only at hSw); go_simp <;> with_reducible rfl
  try simp only [Act.put, List.setIfInBounds_toArray, List.set_cons_zero, List.set_cons_succ, List.getElem_toArray, List.getElem_cons_zero, List.getElem_cons_succ]
  refine wpAnyH_take (i := 4) (v := ?_) rfl (by kernel_rfl) (by kernel_rfl) (by kernel_rfl) (fun _ _ _ h => h) (Or.inl ⟨by rfl, ?_⟩) (by assumption) ?_
  rotate_left 1
  · intro w hSw; (try dsimp only at hSw); go_simp <;> with_reducible rfl
  try simp only [Act.put, List.setIfInBounds_toArray, List.set_cons_zero, List.set_cons_succ, List.getElem_toArray, List.getElem_cons_zero, List.getElem_cons_succ]
  refine wpAnyH_take (i := 5) (v := ?_) rfl (by kernel_rfl) (by kernel_rfl) (by kernel_rfl) (fun _ _ _ h => h) (Or.inl ⟨by rfl, ?_⟩) (by assumption) ?_
  rotate_left 1
  · intro w hSw; obtain ⟨y0, z0, z1, z2, z3, z4, z5, z6, z7, z8, z9, z10⟩ := hSw; (try dsimp only at hSw); go_simp <;> with_reducible rfl
  try simp only [Act.put, List.setIfInBounds_toArray, List.set_cons_zero, List.set_cons_succ, List.getElem_toArray, List.getElem_cons_zero, List.getElem_cons_succ]
  refine wpAnyH_take (i := 6) (v := ?_) rfl (by kernel_rfl) (by kernel_rfl) (by kernel_rfl) (fun _ _ _ h => h) (Or.inl ⟨by rfl, ?_⟩) (by assumption) ?_
  rotate_left 1
  · intro w hSw; (try dsimp only at hSw); go_simp <;> with_reducible rfl
  try simp only [Act.put, List.setIfInBounds_toArray, List.set_cons_zero, List.set_cons_succ, List.getElem_toArray, List.getElem_cons_zero, List.getElem_cons_succ]
  refine wpAnyH_ready (rs := [7]) (by kernel_rfl) (by simp) (AllReadyH.cons rfl (fun K hK => ?_) AllReadyH.nil)
  have hPrev := hHeld
  clear hHeld
  go_simp
  refine (CM.out w2).mono ?_
  rintro e w2 ⟨j, hj, rfl, rfl⟩
  refine hK.out _ _ (HS.out _ _ G2.out) (fun hHeld => ?_)
  clear hK K hPrev
  try simp only [Act.put, List.setIfInBounds_toArray, List.set_cons_zero, List.set_cons_succ, List.getElem_toArray, List.getElem_cons_zero, List.getElem_cons_succ]
  refine wpAnyH_take (i := 8) (v := ?_) rfl (by kernel_rfl) (by kernel_rfl) (by kernel_rfl) (fun _ _ _ h => h) (Or.inl ⟨by rfl, ?_⟩) (by assumption) ?_
  rotate_left 1
  · intro w hSw; (try dsimp only at hSw); go_simp <;> with_reducible rfl
  try simp only [Act.put, List.setIfInBounds_toArray, List.set_cons_zero, List.set_cons_succ, List.getElem_toArray, List.getElem_cons_zero, List.getElem_cons_succ]
  refine wpAnyH_done (by kernel_rfl) ?_ _
  obtain ⟨x, hx⟩ : ∃ x, ds[j]? = some x := ⟨_, List.getElem?_eq_getElem hj⟩
  obtain ⟨y0, y1⟩ := HPD.out _ _ G2.out
  obtain ⟨x0, x1⟩ := HRW.out _ _ G2.out j x hx
  obtain ⟨z0, z1, z2, z3, z4, z5, z6, z7, z8, z9, z10⟩ := HZ.out _ (HBP.out _ _ G2.out.last)
  have HX := Lib.hid hx
  clear hHeld hx CM
  obtain ⟨k6, k7, k8, k9, k11⟩ := hk
  go_upto_region 34 with fail
  have HAL := Lib.hid (HI.out.al j x HX.out)
  have CC := Lib.hid (changes_any (M := [BP]) G2.out HX.out HAL.out.1 (by have := HAL.out.2; omega) _ ho)
  unfold opC at CC
  go_wp2_with fail
  refine CC.out.mono ?_
  rintro e w3 ⟨rfl, C3, d', r', gf, al', hg3⟩
  have HF : Hid (StpQ w0 P i (.returned (.bool true)) w3) := Lib.hid (StpQ.chg HI.out HX.out al' hg3.front)
  clear hg3 CC G2
  go_wp2_with fail
  go_ret
  exact HF.out
end Go.Proofs.YtlojmmcagglpoaaGreat
namespace Go.Proofs.YtlojmmcagglpoaaGreat
open Go.RowKit Go.Maps
theorem step_any {w0 W : World} {C : Nat → Nat} {P : Nat} {h : Hd} {bs : List (List UInt8)} {ns : List (List (List UInt8))} {ds : List DE} {i : Nat} (hG : GS w0 W C (LP w0 P h bs ns ds)) (hI : InvP i ds bs ns) (hi : i < 120) (o : OpP) (ho : o.In w0) : Calls Tryz.prog 10 #[.pointer (some ⟨P, 0, none⟩), .agg (opC o)] W (StpQ w0 P i) := by
  obtain ⟨k, dd, a, b, s, tm, nn, mm, off, size, A, m, cp, ks⟩ := o
  by_cases k6 : k = 6
  · subst k6; exact step_stat hG hI dd a b s tm nn mm off size A m cp
  by_cases k7 : k = 7
  · subst k7; exact step_inode hG hI dd a b s tm nn mm off size A m cp ho.2.2.2.1
  by_cases k8 : k = 8
  · subst k8; exact step_read hG hI hi dd a b s tm nn mm off size A m cp ho.2.2.2.1 ho.2.2.2.2.2.1 ho.2.2.2.2.2.2
  by_cases k9 : k = 9
  · subst k9; exact step_names hG hI hi dd a b s tm nn mm off size A m cp
  by_cases k11 : k = 11
  · subst k11; exact step_copy hG hI dd a b s tm nn mm off size A m cp
  · exact step_else hG hI hi k ⟨k6, k7, k8, k9, k11⟩ dd a b s tm nn mm off size A m cp ks ho
end Go.Proofs.YtlojmmcagglpoaaGreat
