/- THE WALK of step, one of its arms: read (package heronlaw14; printed by a program of ours). -/
import Derived.Test.YtlojmmcagglpoaaGreatQPlayBook
import Derived.Test.YtlojmmcagglpoaaGreatQStepQ
import Derived.Test.YtlojmmcagglpoaaGreatQStr
import Derived.Deep.RegionHeld
import Derived.Deep.RegionHeld3
import Derived.Deep.DrawnRows
import Derived.Deep.DeepMust
namespace Go.Proofs.YtlojmmcagglpoaaGreat
open Go.RowKit Go.Maps
attribute [local go_sem ↓] Go.wp_at_zero Go.wp_at_succ
set_option maxRecDepth 20000 in
set_option maxHeartbeats 4000000 in
theorem step_read {w0 W : World} {C : Nat → Nat} {P : Nat} {h : Hd} {bs : List (List UInt8)} {ns : List (List (List UInt8))} {ds : List DE} {i : Nat} (hG : GS w0 W C (LP w0 P h bs ns ds)) (hI : InvP i ds bs ns) (hi : i < 120) (c1 : Int) (nm ot : List UInt8) (sa : ByteArray) (tm c6 c7 c8 c9 : Int) (A : Option Addr) (m cp : Nat) (hc6 : okInt c6) (hc8 : okInt c8) (hc9 : okInt c9) : Calls Tryz.prog 10 #[.pointer (some ⟨P, 0, none⟩), .agg #[.int .i64 8, .int .i64 c1, .string (strB nm), .string (strB ot), .string sa, .int .i64 tm, .int .i64 c6, .int .i64 c7, .int .i64 c8, .int .i64 c9, .slice A m cp]] W (StpQ w0 P i) := by
  obtain ⟨w1, hw1⟩ : ∃ w1, w1 = W.alloc (.cells #[.int .i64 8, .int .i64 c1, .string (strB nm), .string (strB ot), .string sa, .int .i64 tm, .int .i64 c6, .int .i64 c7, .int .i64 c8, .int .i64 c9, .slice A m cp] 41) := ⟨_, rfl⟩
  obtain ⟨g, hg⟩ : ∃ g, g = W.heap.size := ⟨_, rfl⟩
  have hb : Below W.heap.size W w1 := by rw [hw1]; exact (Below.refl _ _).alloc (Nat.le_refl _) _
  have K1 : Hid (Blk w1 g 41 #[.int .i64 8, .int .i64 c1, .string (strB nm), .string (strB ot), .string sa, .int .i64 tm, .int .i64 c6, .int .i64 c7, .int .i64 c8, .int .i64 c9, .slice A m cp]) := Lib.hid (by rw [hw1, hg]; exact Blk.new W _ _ rfl)
  obtain ⟨cB, hcB⟩ : ∃ cB, cB = (LP w0 P h bs ns ds).length + 1 := ⟨_, rfl⟩
  obtain ⟨C1, hC1⟩ : ∃ C1, C1 = paint C W.heap.size cB := ⟨_, rfl⟩
  obtain ⟨BP, hBP⟩ : ∃ BP : PartT, BP = (fun W C => FrC W C cB (fun w => Blk w g 41 #[.int .i64 8, .int .i64 c1, .string (strB nm), .string (strB ot), .string sa, .int .i64 tm, .int .i64 c6, .int .i64 c7, .int .i64 c8, .int .i64 c9, .slice A m cp])) := ⟨_, rfl⟩
  have G1 : Hid (GS w0 w1 C1 (LP w0 P h bs ns ds ++ [BP])) := Lib.hid (by
    have h1 := hG.holdBlk hb K1.out (by omega)
    rw [← hcB] at h1
    rw [hBP, hC1]; exact h1)
  have HBP : Hid (∀ w C, BP w C → Blk w g 41 #[.int .i64 8, .int .i64 c1, .string (strB nm), .string (strB ot), .string sa, .int .i64 tm, .int .i64 c6, .int .i64 c7, .int .i64 c8, .int .i64 c9, .slice A m cp]) := Lib.hid (fun w C h => by rw [hBP] at h; exact h.now)
  have HZ : Hid (∀ w', Blk w' g 41 #[.int .i64 8, .int .i64 c1, .string (strB nm), .string (strB ot), .string sa, .int .i64 tm, .int .i64 c6, .int .i64 c7, .int .i64 c8, .int .i64 c9, .slice A m cp] → (fun w' => w'.cell? ⟨g, 0, none⟩ = some (.int .i64 8) ∧ w'.cell? ⟨g, 1, none⟩ = some (.int .i64 c1) ∧ w'.cell? ⟨g, 2, none⟩ = some (.string (strB nm)) ∧ w'.cell? ⟨g, 3, none⟩ = some (.string (strB ot)) ∧ w'.cell? ⟨g, 4, none⟩ = some (.string sa) ∧ w'.cell? ⟨g, 5, none⟩ = some (.int .i64 tm) ∧ w'.cell? ⟨g, 6, none⟩ = some (.int .i64 c6) ∧ w'.cell? ⟨g, 7, none⟩ = some (.int .i64 c7) ∧ w'.cell? ⟨g, 8, none⟩ = some (.int .i64 c8) ∧ w'.cell? ⟨g, 9, none⟩ = some (.int .i64 c9) ∧ w'.cell? ⟨g, 10, none⟩ = some (.slice A m cp)) w') := Lib.hid (fun w' hb => ⟨(hb.cell 0).trans rfl, (hb.cell 1).trans rfl, (hb.cell 2).trans rfl, (hb.cell 3).trans rfl, (hb.cell 4).trans rfl, (hb.cell 5).trans rfl, (hb.cell 6).trans rfl, (hb.cell 7).trans rfl, (hb.cell 8).trans rfl, (hb.cell 9).trans rfl, (hb.cell 10).trans rfl⟩)
  obtain ⟨gd, cd, gr, cr, hd, hr, hcd, hcr⟩ := LP.rows (M := [BP]) G1.out hI.pos
  have HPD : Hid (∀ w C, GS w0 w C (LP w0 P h bs ns ds ++ [BP]) → w.cell? ⟨P, 0, none⟩ = some (.slice (some ⟨gd, 0, none⟩) ds.length cd) ∧ w.cell? ⟨P, 1, none⟩ = some (.slice (some ⟨gr, 0, none⟩) ds.length cr)) := Lib.hid (fun w C hq => ⟨by rw [← hd]; exact ((LP.pp hq).1.1.cell 0).trans rfl, by rw [← hr]; exact ((LP.pp hq).1.1.cell 1).trans rfl⟩)
  have HRW : Hid (∀ w C, GS w0 w C (LP w0 P h bs ns ds ++ [BP]) → ∀ (j : Nat) (x : DE), ds[j]? = some x → w.cell? ⟨gd, j, none⟩ = some (.pointer (some ⟨x.p, 0, none⟩)) ∧ w.cell? ⟨gr, j, none⟩ = some (.pointer (some ⟨x.q, 0, none⟩))) := Lib.hid (fun w C hq j x hx => LP.cells hq hd hr hx)
  have HCN : Hid (∀ b, g ≤ b → 5 < C1 b) := Lib.hid (fun b hq => by rw [hC1, paint_new C cB (by omega), hcB]; unfold LP; simp only [List.length_cons]; omega)
  have CM := Lib.hid (mod_any c1 ds.length hI.pos (by have := hI.eight; omega))
  have HI := Lib.hid hI
  have hpos := hI.pos
  have HS : Hid (∀ w' C', GS w0 w' C' (LP w0 P h bs ns ds ++ [BP]) → (fun w' => w'.cell? ⟨P, 0, none⟩ = some (.slice (some ⟨gd, 0, none⟩) ds.length cd) ∧ w'.cell? ⟨g, 0, none⟩ = some (.int .i64 8) ∧ w'.cell? ⟨g, 1, none⟩ = some (.int .i64 c1) ∧ w'.cell? ⟨g, 2, none⟩ = some (.string (strB nm)) ∧ w'.cell? ⟨g, 3, none⟩ = some (.string (strB ot)) ∧ w'.cell? ⟨g, 4, none⟩ = some (.string sa) ∧ w'.cell? ⟨g, 5, none⟩ = some (.int .i64 tm) ∧ w'.cell? ⟨g, 6, none⟩ = some (.int .i64 c6) ∧ w'.cell? ⟨g, 7, none⟩ = some (.int .i64 c7) ∧ w'.cell? ⟨g, 8, none⟩ = some (.int .i64 c8) ∧ w'.cell? ⟨g, 9, none⟩ = some (.int .i64 c9) ∧ w'.cell? ⟨g, 10, none⟩ = some (.slice A m cp)) w') := Lib.hid (fun w' C' hq => ⟨(HPD.out _ _ hq).1, HZ.out _ (HBP.out _ _ hq.last)⟩)
  clear hb hG hBP hC1 hcB hI hd hr
  go_enter Tryz.func10, Tryz.ntmps10
  go_upto_region 1 with fail
  rw [← hw1, ← hg]
  clear hw1 hg
  refine wp_region_any (by kernel_rfl) ?_
  change wpAny _ _ _ _ _ _ _ (World.drew _)
  refine wpAny_of_held (S := fun w' => w'.cell? ⟨P, 0, none⟩ = some (.slice (some ⟨gd, 0, none⟩) ds.length cd) ∧ w'.cell? ⟨g, 0, none⟩ = some (.int .i64 8) ∧ w'.cell? ⟨g, 1, none⟩ = some (.int .i64 c1) ∧ w'.cell? ⟨g, 2, none⟩ = some (.string (strB nm)) ∧ w'.cell? ⟨g, 3, none⟩ = some (.string (strB ot)) ∧ w'.cell? ⟨g, 4, none⟩ = some (.string sa) ∧ w'.cell? ⟨g, 5, none⟩ = some (.int .i64 tm) ∧ w'.cell? ⟨g, 6, none⟩ = some (.int .i64 c6) ∧ w'.cell? ⟨g, 7, none⟩ = some (.int .i64 c7) ∧ w'.cell? ⟨g, 8, none⟩ = some (.int .i64 c8) ∧ w'.cell? ⟨g, 9, none⟩ = some (.int .i64 c9) ∧ w'.cell? ⟨g, 10, none⟩ = some (.slice A m cp)) _ _ _ _ ?_
  obtain ⟨w2, hw2⟩ : ∃ w2, w2 = w1.drew := ⟨_, rfl⟩
  have G2 : Hid (GS w0 w2 C1 (LP w0 P h bs ns ds ++ [BP])) := Lib.hid (by rw [hw2]; exact G1.out.keep (Below.refl _ _).drew)
  rw [← hw2]
  clear hw2 K1 G1
  have hHeld : (fun w' => w'.cell? ⟨P, 0, none⟩ = some (.slice (some ⟨gd, 0, none⟩) ds.length cd) ∧ w'.cell? ⟨g, 0, none⟩ = some (.int .i64 8) ∧ w'.cell? ⟨g, 1, none⟩ = some (.int .i64 c1) ∧ w'.cell? ⟨g, 2, none⟩ = some (.string (strB nm)) ∧ w'.cell? ⟨g, 3, none⟩ = some (.string (strB ot)) ∧ w'.cell? ⟨g, 4, none⟩ = some (.string sa) ∧ w'.cell? ⟨g, 5, none⟩ = some (.int .i64 tm) ∧ w'.cell? ⟨g, 6, none⟩ = some (.int .i64 c6) ∧ w'.cell? ⟨g, 7, none⟩ = some (.int .i64 c7) ∧ w'.cell? ⟨g, 8, none⟩ = some (.int .i64 c8) ∧ w'.cell? ⟨g, 9, none⟩ = some (.int .i64 c9) ∧ w'.cell? ⟨g, 10, none⟩ = some (.slice A m cp)) w2 := HS.out _ _ G2.out
  refine wpAnyH_take (i := 0) (v := ?_) rfl (by kernel_rfl) (by kernel_rfl) (by kernel_rfl) (fun _ _ _ h => h) (Or.inl ⟨by rfl, ?_⟩) (by assumption) ?_
  rotate_left 1
  · intro w hSw; (try dsimp only at hSw); go_simp <;> with_reducible rfl
  try simp only [Act.put, List.setIfInBounds_toArray, List.set_cons_zero, List.set_cons_succ, List.getElem_toArray, List.getElem_cons_zero]
  refine wpAnyH_take (i := 1) (v := ?_) rfl (by kernel_rfl) (by kernel_rfl) (by kernel_rfl) (fun _ _ _ h => h) (Or.inl ⟨by rfl, ?_⟩) (by assumption) ?_
  rotate_left 1
  · intro w hSw; obtain ⟨y0, z0, z1, z2, z3, z4, z5, z6, z7, z8, z9, z10⟩ := hSw; (try dsimp only at hSw); go_simp <;> with_reducible rfl
  try simp only [Act.put, List.setIfInBounds_toArray, List.set_cons_zero, List.set_cons_succ, List.getElem_toArray, List.getElem_cons_zero, List.getElem_cons_succ]
  refine wpAnyH_take (i := 2) (v := ?_) rfl (by kernel_rfl) (by kernel_rfl) (by kernel_rfl) (fun _ _ _ h => h) (Or.inl ⟨by rfl, ?_⟩) (by assumption) ?_
  rotate_left 1
  · intro w hSw; (try dsimp only at hSw); go_simp <;> with_reducible rfl
  try simp only [Act.put, List.setIfInBounds_toArray, List.set_cons_zero, List.set_cons_succ, List.getElem_toArray, List.getElem_cons_zero, List.getElem_cons_succ]
  refine wpAnyH_take (i := 3) (v := ?_) rfl (by kernel_rfl) (by kernel_rfl) (by kernel_rfl) (fun _ _ _ h => h) (Or.inl ⟨by rfl, ?_⟩) (by assumption) ?_
  rotate_left 1
  · intro w hSw; (try dsimp only at hSw); go_simp <;> with_reducible rfl
  try simp only [Act.put, List.setIfInBounds_toArray, List.set_cons_zero, List.set_cons_succ, List.getElem_toArray, List.getElem_cons_zero, List.getElem_cons_succ]
  refine wpAnyH_take (i := 4) (v := ?_) rfl (by kernel_rfl) (by kernel_rfl) (by kernel_rfl) (fun _ _ _ h => h) (Or.inl ⟨by rfl, ?_⟩) (by assumption) ?_
  rotate_left 1
  · intro w hSw; (try dsimp only at hSw); go_simp <;> with_reducible rfl
  try simp only [Act.put, List.setIfInBounds_toArray, List.set_cons_zero, List.set_cons_succ, List.getElem_toArray, List.getElem_cons_zero, List.getElem_cons_succ]
  refine wpAnyH_take (i := 5) (v := ?_) rfl (by kernel_rfl) (by kernel_rfl) (by kernel_rfl) (fun _ _ _ h => h) (Or.inl ⟨by rfl, ?_⟩) (by assumption) ?_
  rotate_left 1
  · intro w hSw; obtain ⟨y0, z0, z1, z2, z3, z4, z5, z6, z7, z8, z9, z10⟩ := hSw; (try dsimp only at hSw); go_simp <;> with_reducible rfl
  try simp only [Act.put, List.setIfInBounds_toArray, List.set_cons_zero, List.set_cons_succ, List.getElem_toArray, List.getElem_cons_zero, List.getElem_cons_succ]
  refine wpAnyH_take (i := 6) (v := ?_) rfl (by kernel_rfl) (by kernel_rfl) (by kernel_rfl) (fun _ _ _ h => h) (Or.inl ⟨by rfl, ?_⟩) (by assumption) ?_
  rotate_left 1
  · intro w hSw; (try dsimp only at hSw); go_simp <;> with_reducible rfl
  try simp only [Act.put, List.setIfInBounds_toArray, List.set_cons_zero, List.set_cons_succ, List.getElem_toArray, List.getElem_cons_zero, List.getElem_cons_succ]
  refine wpAnyH_ready (rs := [7]) (by kernel_rfl) (by simp) (AllReadyH.cons rfl (fun K hK => ?_) AllReadyH.nil)
  have hPrev := hHeld
  clear hHeld
  go_simp
  refine (CM.out w2).mono ?_
  rintro e w2 ⟨j, hj, rfl, rfl⟩
  refine hK.out _ _ (HS.out _ _ G2.out) (fun hHeld => ?_)
  clear hK K hPrev
  try simp only [Act.put, List.setIfInBounds_toArray, List.set_cons_zero, List.set_cons_succ, List.getElem_toArray, List.getElem_cons_zero, List.getElem_cons_succ]
  refine wpAnyH_take (i := 8) (v := ?_) rfl (by kernel_rfl) (by kernel_rfl) (by kernel_rfl) (fun _ _ _ h => h) (Or.inl ⟨by rfl, ?_⟩) (by assumption) ?_
  rotate_left 1
  · intro w hSw; (try dsimp only at hSw); go_simp <;> with_reducible rfl
  try simp only [Act.put, List.setIfInBounds_toArray, List.set_cons_zero, List.set_cons_succ, List.getElem_toArray, List.getElem_cons_zero, List.getElem_cons_succ]
  refine wpAnyH_done (by kernel_rfl) ?_ _
  obtain ⟨x, hx⟩ : ∃ x, ds[j]? = some x := ⟨_, List.getElem?_eq_getElem hj⟩
  obtain ⟨y0, y1⟩ := HPD.out _ _ G2.out
  obtain ⟨x0, x1⟩ := HRW.out _ _ G2.out j x hx
  obtain ⟨z0, z1, z2, z3, z4, z5, z6, z7, z8, z9, z10⟩ := HZ.out _ (HBP.out _ _ G2.out.last)
  have HX := Lib.hid hx
  clear hHeld hx CM
  go_upto_region 14 with fail
  have HAL := Lib.hid (HI.out.al j x HX.out).1
  have HDK := Lib.hid (DC.ok (LP.dk G2.out HX.out))
  have CR := Lib.hid (ask_rread HAL.out HDK.out c6 c7 c8 c9 hc8 hc9 (LP.rd G2.out HX.out))
  obtain ⟨⟨lb, er⟩, hbs⟩ : ∃ y, y = x.r.read c6 c7 c8 c9 := ⟨_, rfl⟩
  have HBS := Lib.hid hbs
  rw [← hbs] at CR
  clear hbs
  go_wp2_with fail
  refine CR.out.mono ?_
  rintro e w3 ⟨v3, rfl, ho3, hb3⟩
  dsimp only at ho3
  simp only
  obtain ⟨A3, cp3, rfl, _, _, hr3⟩ := ho3.form
  have R3 := Lib.hid hr3
  have HG2 := Lib.hid ((HBP.out _ _ G2.out.last).lt)
  have HA3 : Hid (∀ ad, A3 = some ad → 5 < C1 ad.block ∧ ad.block < w3.heap.size) := Lib.hid (fun ad e => by
    have h1 := ho3.lt ad.block (by rw [e]; rfl)
    have := HG2.out
    exact ⟨HCN.out _ (by omega), h1.2⟩)
  have HS23 : Hid (g < w3.heap.size) := Lib.hid (by have := HG2.out; have := hb3.size; omega)
  have G3 := Lib.hid (G2.out.keep hb3)
  clear hr3 ho3 hb3 CR G2 z0 z1 z2 z3 z4 z5 z6 z7 z8 z9 z10 y0 y1 x0 x1
  obtain ⟨z0, z1, z2, z3, z4, z5, z6, z7, z8, z9, z10⟩ := HZ.out _ (HBP.out _ _ G3.out.last)
  have CD := Lib.hid (ask_read HAL.out c6 c7 c8 c9 hc6 hc8 hc9 (LP.dk G3.out HX.out))
  rw [← HBS.out] at CD
  go_wp2_with fail
  refine CD.out.mono ?_
  rintro e w4 ⟨v4, rfl, ho4, hb4⟩
  dsimp only at ho4
  simp only
  obtain ⟨A4, cp4, rfl, _, _, hr4⟩ := ho4.form
  have O4 := Lib.hid ho4
  have B4 := Lib.hid hb4
  have R44 := Lib.hid hr4
  have G4 := Lib.hid (G3.out.keep hb4)
  clear hr4 ho4 hb4 CD z0 z1 z2 z3 z4 z5 z6 z7 z8 z9 z10
  obtain ⟨z0, z1, z2, z3, z4, z5, z6, z7, z8, z9, z10⟩ := HZ.out _ (HBP.out _ _ G4.out.last)
  have CD := Lib.hid (ask_read HAL.out c6 c7 c8 c9 hc6 hc8 hc9 (LP.dk G4.out HX.out))
  rw [← HBS.out] at CD
  go_wp2_with fail
  refine CD.out.mono ?_
  rintro e w5 ⟨v5, rfl, ho5, hb5⟩
  dsimp only at ho5
  simp only
  obtain ⟨A5, cp5, rfl, _, _, hr5⟩ := ho5.form
  have O5 := Lib.hid ho5
  have B5 := Lib.hid (B4.out.trans (hb5.mono B4.out.size))
  have R45 := Lib.hid (R44.out.keep hb5)
  have R55 := Lib.hid hr5
  have R35 := Lib.hid (R3.out.keep B5.out)
  have O45 := Lib.hid (O4.out.keep hb5)
  have G5 := Lib.hid (G4.out.keep hb5)
  have HS34 : Hid (w3.heap.size ≤ w4.heap.size) := Lib.hid B4.out.size
  have HLT : Hid (∀ b, (Value.slice A4 lb.length cp4).ownBlock = some b → w3.heap.size ≤ b ∧ b < w4.heap.size) := Lib.hid (fun b hb => O4.out.lt b hb)
  have HA4 : Hid (∀ ad, A4 = some ad → w3.heap.size ≤ ad.block ∧ ad.block < w5.heap.size) := Lib.hid (fun ad e => by have h1 := O4.out.lt ad.block (by rw [e]; rfl); have := hb5.size; have := B4.out.size; omega)
  have HA5 : Hid (∀ ad, A5 = some ad → w3.heap.size ≤ ad.block ∧ ad.block < w5.heap.size) := Lib.hid (fun ad e => by have h1 := ho5.lt ad.block (by rw [e]; rfl); have := B4.out.size; omega)
  clear hr5 ho5 hb5 CD R44 O4 B4 G4 z0 z1 z2 z3 z4 z5 z6 z7 z8 z9 z10
  obtain ⟨z0, z1, z2, z3, z4, z5, z6, z7, z8, z9, z10⟩ := HZ.out _ (HBP.out _ _ G5.out.last)
  go_upto_region 17 with fail
  obtain ⟨us, hLL⟩ := LPx.bp (M := [BP]) G3.out
  have HLL := Lib.hid hLL
  have hus : us.length = bs.length := hLL.len
  have hbl := HI.out.bl
  have y2 : w5.cell? ⟨P, 2, none⟩ = some h.b := ((LPx.blk (M := [BP]) G5.out).1.cell 2).trans rfl
  have B6 := Lib.hid ((Below.refl w5.heap.size w5).alloc (Nat.le_refl _) (.cells #[.slice A4 lb.length cp4, .slice A5 lb.length cp5] 61))
  have y2' : (w5.alloc (.cells #[.slice A4 lb.length cp4, .slice A5 lb.length cp5] 61)).cell? ⟨P, 2, none⟩ = some h.b := cell_later B6.out y2
  have K6 : Hid (Blk (w5.alloc (.cells #[.slice A4 lb.length cp4, .slice A5 lb.length cp5] 61)) w5.heap.size 61 #[.slice A4 lb.length cp4, .slice A5 lb.length cp5]) := Lib.hid (Blk.new _ _ _ rfl)
  have B36 := Lib.hid (B5.out.trans (B6.out.mono B5.out.size))
  have O6 := Lib.hid ((HLL.out.keep B36.out).own)
  have HB0 : Hid (w0.heap.size ≤ (w5.alloc (.cells #[.slice A4 lb.length cp4, .slice A5 lb.length cp5] 61)).heap.size) := Lib.hid (Nat.le_trans G5.out.bel.size B6.out.size)
  clear hLL z0 z1 z2 z3 z4 z5 z6 z7 z8 z9 z10
  go_wp2_with ((at_builtin; go_must (refine append_row rfl (.tmp 144) (.tmp 147) 31 61 rfl Tryz.underlying31 infoBL rfl (by decide) w0.heap.size h.b us.length us rfl O6.out (some ⟨w5.heap.size, 0, none⟩) 2 2 [.slice A4 lb.length cp4, .slice A5 lb.length cp5] rfl rfl (fun e => by cases e) (news_at K6.out) (fun u hu => by simp only [List.mem_cons, List.not_mem_nil, or_false] at hu; rcases hu with rfl | rfl <;> rfl) (by omega) (by unfold maxLen; omega) HB0.out ?_); intro v7 w7 ho7 hg7 ha7; refine halt ?_))
  refine unhalt ?_
  obtain ⟨A7, cp7, hv7, _⟩ := own_form ho7
  subst hv7
  have HC7 : Hid (Chg (fun b => C1 b = 2) w3 w7) := Lib.hid ((Chg.of_below B36.out _).grown hg7 (fun k e _ => HLL.out.memv k e))
  have HBP7 : Hid (Bp w0 (.slice A7 (us.length + 2) cp7) (bs ++ [lb, lb]) w7 (paint C1 w3.heap.size 2)) := Lib.hid ⟨_, HLL.out.snoc2 (by decide) B36.out (by
    have h1 := own_keep (OB.less O45.out G3.out.bel.size) B6.out
    rw [List.length_map]; exact h1) (by
    have h1 := own_keep (OB.less (base' := w0.heap.size) O5.out (by have := G3.out.bel.size; have := HS34.out; omega)) B6.out
    rw [List.length_map]; exact h1) (fun b hb => (HLT.out b hb).1) (fun b hb => by have := (O5.out.lt b hb).1; have := HS34.out; omega) (fun b h1 h2 => by have := (HLT.out b h1).2; have := (O5.out.lt b h2).1; omega) ho7 hg7 ha7⟩
  obtain ⟨w8, hw8⟩ : ∃ w8, w8 = w7.setCell ⟨P, 2, none⟩ (.slice A7 (us.length + 2) cp7) := ⟨_, rfl⟩
  obtain ⟨C8, hC8⟩ : ∃ C8, C8 = paint C1 w3.heap.size 2 := ⟨_, rfl⟩
  obtain ⟨h8, hh8⟩ : ∃ h8 : Hd, h8 = { h with b := .slice A7 (us.length + 2) cp7 } := ⟨_, rfl⟩
  have G8 : Hid (GS w0 w8 C8 (LPx w0 P h8 (bs ++ [lb, lb]) bs ns ns ds ++ [BP])) := Lib.hid (by rw [hw8, hC8, hh8]; exact LPx.bookB (M := [BP]) G3.out HC7.out HBP7.out)
  have p7 := (LPx.blk (M := [BP]) G3.out).1.chg HC7.out (fun e => by rw [(LPx.blk (M := [BP]) G3.out).2] at e; omega)
  have q7 : w7.cell? ⟨P, 2, none⟩ = some h.b := (p7.cell 2).trans rfl
  have f7 := p7.frozen 2
  have HP1 : Hid (C1 P = 1 ∧ C8 P = 1) := Lib.hid ⟨(LPx.blk (M := [BP]) G3.out).2, (LPx.blk (M := [BP]) G8.out).2⟩
  have HC58 : Hid (Chg (fun b => C1 b = 2 ∨ b = P) w5 w8) := Lib.hid (by
    have h1 : Chg (fun b => C1 b = 2 ∨ b = P) w5 w7 := (Chg.of_below B6.out _).grown hg7 (fun k e _ => .inl (HLL.out.memv k e))
    rw [hw8]
    exact h1.setCell (p := ⟨P, 2, none⟩) (.inl (.inr rfl)) _)
  have HN1 : Hid (∀ b, 5 < C1 b → ¬ (C1 b = 2 ∨ b = P)) := Lib.hid (fun b hb e => by
    rcases e with e | e
    · omega
    · rw [e, HP1.out.1] at hb; omega)
  have R38 : Hid (RB w8 A3 lb.length lb) := Lib.hid (HC58.out.rb R35.out (fun _ ad e => HN1.out _ (HA3.out ad e).1))
  have R48 : Hid (RB w8 A4 lb.length lb) := Lib.hid (HC58.out.rb R45.out (fun _ ad e => HN1.out _ (HCN.out _ (by have := HA4.out ad e; have := HS23.out; omega))))
  have R58 : Hid (RB w8 A5 lb.length lb) := Lib.hid (HC58.out.rb R55.out (fun _ ad e => HN1.out _ (HCN.out _ (by have := HA5.out ad e; have := HS23.out; omega))))
  have HN8 : Hid (∀ ad, (A3 = some ad ∨ A4 = some ad ∨ A5 = some ad) → C8 ad.block ≠ 3 ∧ ad.block ≠ P) := Lib.hid (fun ad e => by
    rcases e with e | e | e
    · have h1 := HA3.out ad e
      refine ⟨by rw [hC8, paint_old _ _ h1.2]; omega, fun e2 => by rw [e2, HP1.out.1] at h1; omega⟩
    · have h1 := HA4.out ad e
      refine ⟨by rw [hC8, paint_new _ _ h1.1]; omega, fun e2 => ?_⟩
      have h2 := HP1.out.2
      rw [← e2, hC8, paint_new _ _ h1.1] at h2
      omega
    · have h1 := HA5.out ad e
      refine ⟨by rw [hC8, paint_new _ _ h1.1]; omega, fun e2 => ?_⟩
      have h2 := HP1.out.2
      rw [← e2, hC8, paint_new _ _ h1.1] at h2
      omega)
  have hbl2 := HI.out.bl
  have HBL := Lib.hid hbl2
  clear hbl2
  clear ho7 hg7 ha7 HC7 HBP7 p7 O6 K6 B6 y2 y2' HLL HB0 hC8 hh8 hbl hus
  go_upto_region 18 with fail
  rw [← hw8]
  clear hw8 q7 f7
  obtain ⟨sv, hsv⟩ : ∃ sv, sv = h8.s := ⟨_, rfl⟩
  have y3 : w8.cell? ⟨P, 3, none⟩ = some sv := by rw [hsv]; exact ((LPx.blk (M := [BP]) G8.out).1.cell 3).trans rfl
  have HHS := Lib.hid hsv
  clear hsv
  have x3 : w8.drew.cell? ⟨P, 3, none⟩ = some sv := y3
  have x4 : RB w8.drew A3 lb.length lb := R38.out
  refine wp_region_any (by kernel_rfl) ?_
  change wpAny _ _ _ _ _ _ _ (World.drew _)
  refine any_of_L (S := SL 15 (fun w' => w'.cell? ⟨P, 3, none⟩ = some sv ∧ RB w' A3 lb.length lb)) _ _ _ _ ?_
  have hT0 : (fun w' => w'.cell? ⟨P, 3, none⟩ = some sv ∧ RB w' A3 lb.length lb) w8.drew := ⟨x3, x4⟩
  refine anyC_take (i := 0) 15 [12, 13, 14, 15] (v := ?_) (fun w' => w'.cell? ⟨P, 3, none⟩ = some sv ∧ RB w' A3 lb.length lb) rfl (by kernel_rfl) (by kernel_rfl) (by kernel_rfl) (by kernel_rfl) (by kernel_rfl) (fun _ _ _ h => h) (fun _ _ h0 h => h h0) (SL.irr (i := 0) (by decide)).1 (SL.irr (i := 0) (by decide)).2 (Or.inl ⟨by rfl, ?_⟩) (SL.of hT0) ?_
  rotate_left 1
  · intro w hSw; obtain ⟨t0, t1⟩ := hSw; have v1 := conv_bytes w A3 lb.length cp3 lb t1; (try dsimp only at hSw); go_simp <;> with_reducible rfl
  try simp only [Act.put, List.setIfInBounds_toArray, List.set_cons_zero, List.set_cons_succ, List.getElem_toArray, List.getElem_cons_zero]
  refine anyC_take (i := 1) 15 [2, 3, 4, 5, 11, 15] (v := ?_) (fun w' => w'.cell? ⟨P, 3, none⟩ = some sv ∧ RB w' A3 lb.length lb) rfl (by kernel_rfl) (by kernel_rfl) (by kernel_rfl) (by kernel_rfl) (by kernel_rfl) (fun _ _ _ h => h) (fun _ _ h0 h => h h0) (SL.irr (i := 1) (by decide)).1 (SL.irr (i := 1) (by decide)).2 (Or.inl ⟨by rfl, ?_⟩) (SL.of hT0) ?_
  rotate_left 1
  · intro w hSw; obtain ⟨t0, t1⟩ := hSw; have v1 := conv_bytes w A3 lb.length cp3 lb t1; (try dsimp only at hSw); go_simp <;> with_reducible rfl
  try simp only [Act.put, List.setIfInBounds_toArray, List.set_cons_zero, List.set_cons_succ, List.getElem_toArray, List.getElem_cons_zero, List.getElem_cons_succ]
  refine anyC_take (i := 2) 15 [3, 4, 5, 11, 15] (v := ?_) (fun w' => w'.cell? ⟨P, 3, none⟩ = some sv ∧ RB w' A3 lb.length lb) rfl (by kernel_rfl) (by kernel_rfl) (by kernel_rfl) (by kernel_rfl) (by kernel_rfl) (fun _ _ _ h => h) (fun _ _ h0 h => h h0) (SL.irr (i := 2) (by decide)).1 (SL.irr (i := 2) (by decide)).2 (Or.inl ⟨by rfl, ?_⟩) (SL.of hT0) ?_
  rotate_left 1
  · intro w hSw; obtain ⟨t0, t1⟩ := hSw; have v1 := conv_bytes w A3 lb.length cp3 lb t1; (try dsimp only at hSw); go_simp <;> with_reducible rfl
  try simp only [Act.put, List.setIfInBounds_toArray, List.set_cons_zero, List.set_cons_succ, List.getElem_toArray, List.getElem_cons_zero, List.getElem_cons_succ]
  refine anyC_take (i := 3) 15 [4, 5, 11, 15] (v := ?_) (fun w' => w'.cell? ⟨P, 3, none⟩ = some sv ∧ RB w' A3 lb.length lb) rfl (by kernel_rfl) (by kernel_rfl) (by kernel_rfl) (by kernel_rfl) (by kernel_rfl) (fun _ _ _ h => h) (fun _ _ h0 h => h h0) (SL.irr (i := 3) (by decide)).1 (SL.irr (i := 3) (by decide)).2 (Or.inl ⟨by rfl, ?_⟩) (SL.of hT0) ?_
  rotate_left 1
  · intro w hSw; obtain ⟨t0, t1⟩ := hSw; have v1 := conv_bytes w A3 lb.length cp3 lb t1; (try dsimp only at hSw); go_simp <;> with_reducible rfl
  try simp only [Act.put, List.setIfInBounds_toArray, List.set_cons_zero, List.set_cons_succ, List.getElem_toArray, List.getElem_cons_zero, List.getElem_cons_succ]
  refine anyC_take (i := 4) 15 [5, 11, 15] (v := ?_) (fun w' => w'.cell? ⟨P, 3, none⟩ = some sv ∧ RB w' A3 lb.length lb) rfl (by kernel_rfl) (by kernel_rfl) (by kernel_rfl) (by kernel_rfl) (by kernel_rfl) (fun _ _ _ h => h) (fun _ _ h0 h => h h0) (SL.irr (i := 4) (by decide)).1 (SL.irr (i := 4) (by decide)).2 (Or.inl ⟨by rfl, ?_⟩) (SL.of hT0) ?_
  rotate_left 1
  · intro w hSw; obtain ⟨t0, t1⟩ := hSw; have v1 := conv_bytes w A3 lb.length cp3 lb t1; (try dsimp only at hSw); go_simp <;> with_reducible rfl
  try simp only [Act.put, List.setIfInBounds_toArray, List.set_cons_zero, List.set_cons_succ, List.getElem_toArray, List.getElem_cons_zero, List.getElem_cons_succ]
  refine anyC_take (i := 5) 15 [11, 15] (v := ?_) (fun w' => w'.cell? ⟨P, 3, none⟩ = some sv ∧ RB w' A3 lb.length lb) rfl (by kernel_rfl) (by kernel_rfl) (by kernel_rfl) (by kernel_rfl) (by kernel_rfl) (fun _ _ _ h => h) (fun _ _ h0 h => h h0) (SL.irr (i := 5) (by decide)).1 (SL.irr (i := 5) (by decide)).2 (Or.inl ⟨by rfl, ?_⟩) (SL.of hT0) ?_
  rotate_left 1
  · intro w hSw; obtain ⟨t0, t1⟩ := hSw; have v1 := conv_bytes w A3 lb.length cp3 lb t1; (try dsimp only at hSw); go_simp <;> with_reducible rfl
  try simp only [Act.put, List.setIfInBounds_toArray, List.set_cons_zero, List.set_cons_succ, List.getElem_toArray, List.getElem_cons_zero, List.getElem_cons_succ]
  refine anyC_take (i := 6) 15 [7, 10, 11, 15] (v := ?_) (fun w' => w'.cell? ⟨P, 3, none⟩ = some sv ∧ RB w' A3 lb.length lb) rfl (by kernel_rfl) (by kernel_rfl) (by kernel_rfl) (by kernel_rfl) (by kernel_rfl) (fun _ _ _ h => h) (fun _ _ h0 h => h h0) (SL.irr (i := 6) (by decide)).1 (SL.irr (i := 6) (by decide)).2 (Or.inl ⟨by rfl, ?_⟩) (SL.of hT0) ?_
  rotate_left 1
  · intro w hSw; obtain ⟨t0, t1⟩ := hSw; have v1 := conv_bytes w A3 lb.length cp3 lb t1; (try dsimp only at hSw); go_simp <;> with_reducible rfl
  try simp only [Act.put, List.setIfInBounds_toArray, List.set_cons_zero, List.set_cons_succ, List.getElem_toArray, List.getElem_cons_zero, List.getElem_cons_succ]
  refine anyC_take (i := 7) 15 [10, 11, 15] (v := ?_) (fun w' => w'.cell? ⟨P, 3, none⟩ = some sv ∧ RB w' A3 lb.length lb) rfl (by kernel_rfl) (by kernel_rfl) (by kernel_rfl) (by kernel_rfl) (by kernel_rfl) (fun _ _ _ h => h) (fun _ _ h0 h => h h0) (SL.irr (i := 7) (by decide)).1 (SL.irr (i := 7) (by decide)).2 (Or.inl ⟨by rfl, ?_⟩) (SL.of hT0) ?_
  rotate_left 1
  · intro w hSw; obtain ⟨t0, t1⟩ := hSw; have v1 := conv_bytes w A3 lb.length cp3 lb t1; (try dsimp only at hSw); go_simp <;> with_reducible rfl
  try simp only [Act.put, List.setIfInBounds_toArray, List.set_cons_zero, List.set_cons_succ, List.getElem_toArray, List.getElem_cons_zero, List.getElem_cons_succ]
  refine anyC_take (i := 8) 15 [9, 10, 11, 15] (v := ?_) (fun w' => w'.cell? ⟨P, 3, none⟩ = some sv ∧ RB w' A3 lb.length lb) rfl (by kernel_rfl) (by kernel_rfl) (by kernel_rfl) (by kernel_rfl) (by kernel_rfl) (fun _ _ _ h => h) (fun _ _ h0 h => h h0) (SL.irr (i := 8) (by decide)).1 (SL.irr (i := 8) (by decide)).2 (Or.inl ⟨by rfl, ?_⟩) (SL.of hT0) ?_
  rotate_left 1
  · intro w hSw; obtain ⟨t0, t1⟩ := hSw; have v1 := conv_bytes w A3 lb.length cp3 lb t1; (try dsimp only at hSw); go_simp <;> with_reducible rfl
  try simp only [Act.put, List.setIfInBounds_toArray, List.set_cons_zero, List.set_cons_succ, List.getElem_toArray, List.getElem_cons_zero, List.getElem_cons_succ]
  refine anyC_take (i := 9) 15 [10, 11, 15] (v := ?_) (fun w' => w'.cell? ⟨P, 3, none⟩ = some sv ∧ RB w' A3 lb.length lb) rfl (by kernel_rfl) (by kernel_rfl) (by kernel_rfl) (by kernel_rfl) (by kernel_rfl) (fun _ _ _ h => h) (fun _ _ h0 h => h h0) (SL.irr (i := 9) (by decide)).1 (SL.irr (i := 9) (by decide)).2 (Or.inl ⟨by rfl, ?_⟩) (SL.of hT0) ?_
  rotate_left 1
  · intro w hSw; obtain ⟨t0, t1⟩ := hSw; have v1 := conv_bytes w A3 lb.length cp3 lb t1; (try dsimp only at hSw); go_simp <;> with_reducible rfl
  try simp only [Act.put, List.setIfInBounds_toArray, List.set_cons_zero, List.set_cons_succ, List.getElem_toArray, List.getElem_cons_zero, List.getElem_cons_succ]
  obtain ⟨w9, hw9⟩ : ∃ w9, w9 = (w8.alloc (.cells #[.string (strOf lb), .string (strOf lb)] 9)).drew := ⟨_, rfl⟩
  have B9 : Hid (Below w8.heap.size w8 w9) := Lib.hid (by rw [hw9]; exact ((Below.refl _ _).alloc (Nat.le_refl _) _).drew)
  have K9 : Hid (Blk w9 w8.heap.size 9 #[.string (strOf lb), .string (strOf lb)]) := Lib.hid (by rw [hw9]; exact (Blk.new w8 _ _ rfl : Blk (w8.alloc (.cells #[.string (strOf lb), .string (strOf lb)] 9)) w8.heap.size _ _))
  have SP8 : Hid (w8.ownsRow w0.heap.size 9 1 sv bs.length (bs.map sV) ∧ ∀ k, sv.ownBlock = some k → C8 k = 3) := Lib.hid (by rw [HHS.out]; exact LPx.sp (M := [BP]) G8.out)
  have O9 := Lib.hid (own_keep SP8.out.1 B9.out)
  have HB9 : Hid (w0.heap.size ≤ w9.heap.size) := Lib.hid (Nat.le_trans G8.out.bel.size B9.out.size)
  have hT1 : (fun w' => w'.cell? ⟨P, 3, none⟩ = some sv ∧ RB w' A3 lb.length lb) w9 := ⟨cell_later B9.out y3, R38.out.keep B9.out⟩
  clear y3 x3 x4
  refine anyL_ready (rs := [10]) (by kernel_rfl) (by simp) (AllL.cons rfl (fun K hK => ?_) AllL.nil)
  go_simp
  rw [← hw9]
  refine hK.out _ _ (SL.of hT1) ?_
  clear hK K hT0 hw9
  try simp only [Act.put, List.setIfInBounds_toArray, List.set_cons_zero, List.set_cons_succ, List.getElem_toArray, List.getElem_cons_zero, List.getElem_cons_succ]
  refine anyL_ready (rs := [11]) (by kernel_rfl) (by simp) (AllL.cons rfl (fun K hK => ?_) AllL.nil)
  refine step_append_row rfl (.tmp 157) (.tmp 162) 32 9 rfl Tryz.underlying32 infoST rfl (by decide) w0.heap.size sv bs.length (bs.map sV) rfl O9.out (some ⟨w8.heap.size, 0, none⟩) 2 2 [.string (strOf lb), .string (strOf lb)] rfl rfl (fun e => by cases e) (news_at K9.out) (fun u hu => by simp only [List.mem_cons, List.not_mem_nil, or_false] at hu; rcases hu with rfl | rfl <;> rfl) (by have := HBL.out; omega) (by have := HBL.out; unfold maxLen; omega) HB9.out ?_
  intro v10 w10 ho10 hg10 ha10
  obtain ⟨A10, cp10, hv10, _⟩ := own_form ho10
  subst hv10
  have HC10 : Hid (Chg (fun b => C8 b = 3) w8 w10) := Lib.hid ((Chg.of_below B9.out _).grown hg10 (fun k e _ => SP8.out.2 k e))
  have p10 := (LPx.blk (M := [BP]) G8.out).1.chg HC10.out (fun e => by rw [HP1.out.2] at e; omega)
  have q10 : w10.cell? ⟨P, 3, none⟩ = some sv := by rw [HHS.out]; exact (p10.cell 3).trans rfl
  have f10 := p10.frozen 3
  have R310 : Hid (RB w10 A3 lb.length lb) := Lib.hid (HC10.out.rb R38.out (fun _ ad e => (HN8.out ad (.inl e)).1))
  have R410 : Hid (RB w10 A4 lb.length lb) := Lib.hid (HC10.out.rb R48.out (fun _ ad e => (HN8.out ad (.inr (.inl e))).1))
  have R510 : Hid (RB w10 A5 lb.length lb) := Lib.hid (HC10.out.rb R58.out (fun _ ad e => (HN8.out ad (.inr (.inr e))).1))
  have hT0 : (fun w' => w'.cell? ⟨P, 3, none⟩ = some sv ∧ RB w' A3 lb.length lb) w10 := ⟨q10, R310.out⟩
  have HSP : Hid (Sp w0 (.slice A10 (bs.length + 2) cp10) (bs ++ [lb, lb]) w10 (paint C8 w8.heap.size 3)) := Lib.hid ⟨by rw [List.length_append, List.map_append]; exact ho10, fun k hk => by
    rcases ha10 with e | e
    · rw [e] at hk
      rw [paint_old _ _ (SP8.out.1.lt k hk).2]; exact SP8.out.2 k hk
    · rw [e] at hk
      obtain rfl := Option.some.inj hk
      exact paint_new _ _ B9.out.size⟩
  have G11 := LPx.bookS (M := [BP]) G8.out HC10.out HSP.out
  obtain ⟨w11, hw11⟩ : ∃ w11, w11 = w10.setCell ⟨P, 3, none⟩ (.slice A10 (bs.length + 2) cp10) := ⟨_, rfl⟩
  have HF : Hid (StpQ w0 P i (.returned (.bool true)) w11) := Lib.hid (by
    rw [hw11]
    refine ⟨rfl, _, _, bs ++ [lb, lb], ns, ds, ⟨HI.out.pos, HI.out.eight, by rw [List.length_append]; have := HBL.out; simp only [List.length_cons, List.length_nil]; omega, HI.out.up.nl, fun l hl => ?_, HI.out.nb, HI.out.up.al⟩, G11.front⟩
    rcases List.mem_append.1 hl with hl | hl
    · exact HI.out.bb l hl
    · have h1 : l = lb := by simpa using hl
      rw [h1]
      have h2 := read_len HAL.out.rok c6 c7 c8 c9
      rw [← HBS.out] at h2; exact h2)
  have hch : Chg (fun b => b = P) w10 w11 := by rw [hw11]; exact Chg.setCell (S := fun k => k = P) (Chg.refl _ _) (.inl rfl) _
  have v3 := conv_bytes w11 A3 lb.length cp3 lb (hch.rb R310.out (fun _ ad e => (HN8.out ad (.inl e)).2))
  have v4 := conv_bytes w11 A4 lb.length cp4 lb (hch.rb R410.out (fun _ ad e => (HN8.out ad (.inr (.inl e))).2))
  have v5 := conv_bytes w11 A5 lb.length cp5 lb (hch.rb R510.out (fun _ ad e => (HN8.out ad (.inr (.inr e))).2))
  clear ho10 hg10 ha10 G11 p10 hch HSP R310 R410 R510 hT1 O9 SP8 HB9 K9
  refine hK.out _ _ (SL.of hT0) ?_
  clear hK K
  try simp only [Act.put, List.setIfInBounds_toArray, List.set_cons_zero, List.set_cons_succ, List.getElem_toArray, List.getElem_cons_zero, List.getElem_cons_succ]
  refine anyC_take (i := 12) 15 [13, 14, 15] (v := ?_) (fun w' => w'.cell? ⟨P, 3, none⟩ = some sv ∧ RB w' A3 lb.length lb) rfl (by kernel_rfl) (by kernel_rfl) (by kernel_rfl) (by kernel_rfl) (by kernel_rfl) (fun _ _ _ h => h) (fun _ _ h0 h => h h0) (SL.irr (i := 12) (by decide)).1 (SL.irr (i := 12) (by decide)).2 (Or.inl ⟨by rfl, ?_⟩) (SL.of hT0) ?_
  rotate_left 1
  · intro w hSw; obtain ⟨t0, t1⟩ := hSw; (try dsimp only at hSw); go_simp <;> with_reducible rfl
  try simp only [Act.put, List.setIfInBounds_toArray, List.set_cons_zero, List.set_cons_succ, List.getElem_toArray, List.getElem_cons_zero, List.getElem_cons_succ]
  refine anyC_take (i := 13) 15 [14, 15] (v := ?_) (fun w' => w'.cell? ⟨P, 3, none⟩ = some sv ∧ RB w' A3 lb.length lb) rfl (by kernel_rfl) (by kernel_rfl) (by kernel_rfl) (by kernel_rfl) (by kernel_rfl) (fun _ _ _ h => h) (fun _ _ h0 h => h h0) (SL.irr (i := 13) (by decide)).1 (SL.irr (i := 13) (by decide)).2 (Or.inl ⟨by rfl, ?_⟩) (SL.of hT0) ?_
  rotate_left 1
  · intro w hSw; obtain ⟨t0, t1⟩ := hSw; (try dsimp only at hSw); go_simp <;> with_reducible rfl
  try simp only [Act.put, List.setIfInBounds_toArray, List.set_cons_zero, List.set_cons_succ, List.getElem_toArray, List.getElem_cons_zero, List.getElem_cons_succ]
  refine anyC_take (i := 14) 15 [15] (v := ?_) (fun w' => w'.cell? ⟨P, 3, none⟩ = some sv ∧ RB w' A3 lb.length lb) rfl (by kernel_rfl) (by kernel_rfl) (by kernel_rfl) (by kernel_rfl) (by kernel_rfl) (fun _ _ _ h => h) (fun _ _ h0 h => h h0) (SL.irr (i := 14) (by decide)).1 (SL.irr (i := 14) (by decide)).2 (Or.inl ⟨by rfl, ?_⟩) (SL.of hT0) ?_
  rotate_left 1
  · intro w hSw; obtain ⟨t0, t1⟩ := hSw; (try dsimp only at hSw); go_simp <;> with_reducible rfl
  try simp only [Act.put, List.setIfInBounds_toArray, List.set_cons_zero, List.set_cons_succ, List.getElem_toArray, List.getElem_cons_zero, List.getElem_cons_succ]
  refine anyL_ready (rs := [15]) (by kernel_rfl) (by simp) (AllL.cons rfl (fun K hK => ?_) AllL.nil)
  go_simp
  refine hK.out _ _ (SL.fin (by kernel_rfl)) ?_
  clear hK K hT0
  try simp only [Act.put, List.setIfInBounds_toArray, List.set_cons_zero, List.set_cons_succ, List.getElem_toArray, List.getElem_cons_zero, List.getElem_cons_succ]
  refine anyL_done (by kernel_rfl) ?_ _
  rw [← hw11]
  clear hw11 q10 f10
  go_wp2_with fail
  go_ret
  exact HF.out
end Go.Proofs.YtlojmmcagglpoaaGreat
