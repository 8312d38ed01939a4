/- THE WALK of step, one of its arms: names (package heronlaw14; printed by a program of ours). -/
import Derived.Test.YtlojmmcagglpoaaGreatQPlayBook
import Derived.Test.YtlojmmcagglpoaaGreatQStepQ
import Derived.Deep.RegionHeld
import Derived.Deep.RegionHeld3
import Derived.Deep.DrawnRows
import Derived.Deep.DeepMust
namespace Go.Proofs.YtlojmmcagglpoaaGreat
open Go.RowKit Go.Maps
attribute [local go_sem ↓] Go.wp_at_zero Go.wp_at_succ
set_option maxRecDepth 20000 in
set_option maxHeartbeats 4000000 in
theorem step_names {w0 W : World} {C : Nat → Nat} {P : Nat} {h : Hd} {bs : List (List UInt8)} {ns : List (List (List UInt8))} {ds : List DE} {i : Nat} (hG : GS w0 W C (LP w0 P h bs ns ds)) (hI : InvP i ds bs ns) (hi : i < 120) (c1 : Int) (nm ot : List UInt8) (sa : ByteArray) (tm c6 c7 c8 c9 : Int) (A : Option Addr) (m cp : Nat) : Calls Tryz.prog 10 #[.pointer (some ⟨P, 0, none⟩), .agg #[.int .i64 9, .int .i64 c1, .string (strB nm), .string (strB ot), .string sa, .int .i64 tm, .int .i64 c6, .int .i64 c7, .int .i64 c8, .int .i64 c9, .slice A m cp]] W (StpQ w0 P i) := by
  obtain ⟨w1, hw1⟩ : ∃ w1, w1 = W.alloc (.cells #[.int .i64 9, .int .i64 c1, .string (strB nm), .string (strB ot), .string sa, .int .i64 tm, .int .i64 c6, .int .i64 c7, .int .i64 c8, .int .i64 c9, .slice A m cp] 41) := ⟨_, rfl⟩
  obtain ⟨g, hg⟩ : ∃ g, g = W.heap.size := ⟨_, rfl⟩
  have hb : Below W.heap.size W w1 := by rw [hw1]; exact (Below.refl _ _).alloc (Nat.le_refl _) _
  have K1 : Hid (Blk w1 g 41 #[.int .i64 9, .int .i64 c1, .string (strB nm), .string (strB ot), .string sa, .int .i64 tm, .int .i64 c6, .int .i64 c7, .int .i64 c8, .int .i64 c9, .slice A m cp]) := Lib.hid (by rw [hw1, hg]; exact Blk.new W _ _ rfl)
  obtain ⟨cB, hcB⟩ : ∃ cB, cB = (LP w0 P h bs ns ds).length + 1 := ⟨_, rfl⟩
  obtain ⟨C1, hC1⟩ : ∃ C1, C1 = paint C W.heap.size cB := ⟨_, rfl⟩
  obtain ⟨BP, hBP⟩ : ∃ BP : PartT, BP = (fun W C => FrC W C cB (fun w => Blk w g 41 #[.int .i64 9, .int .i64 c1, .string (strB nm), .string (strB ot), .string sa, .int .i64 tm, .int .i64 c6, .int .i64 c7, .int .i64 c8, .int .i64 c9, .slice A m cp])) := ⟨_, rfl⟩
  have G1 : Hid (GS w0 w1 C1 (LP w0 P h bs ns ds ++ [BP])) := Lib.hid (by
    have h1 := hG.holdBlk hb K1.out (by omega)
    rw [← hcB] at h1
    rw [hBP, hC1]; exact h1)
  have HBP : Hid (∀ w C, BP w C → Blk w g 41 #[.int .i64 9, .int .i64 c1, .string (strB nm), .string (strB ot), .string sa, .int .i64 tm, .int .i64 c6, .int .i64 c7, .int .i64 c8, .int .i64 c9, .slice A m cp]) := Lib.hid (fun w C h => by rw [hBP] at h; exact h.now)
  have HZ : Hid (∀ w', Blk w' g 41 #[.int .i64 9, .int .i64 c1, .string (strB nm), .string (strB ot), .string sa, .int .i64 tm, .int .i64 c6, .int .i64 c7, .int .i64 c8, .int .i64 c9, .slice A m cp] → (fun w' => w'.cell? ⟨g, 0, none⟩ = some (.int .i64 9) ∧ w'.cell? ⟨g, 1, none⟩ = some (.int .i64 c1) ∧ w'.cell? ⟨g, 2, none⟩ = some (.string (strB nm)) ∧ w'.cell? ⟨g, 3, none⟩ = some (.string (strB ot)) ∧ w'.cell? ⟨g, 4, none⟩ = some (.string sa) ∧ w'.cell? ⟨g, 5, none⟩ = some (.int .i64 tm) ∧ w'.cell? ⟨g, 6, none⟩ = some (.int .i64 c6) ∧ w'.cell? ⟨g, 7, none⟩ = some (.int .i64 c7) ∧ w'.cell? ⟨g, 8, none⟩ = some (.int .i64 c8) ∧ w'.cell? ⟨g, 9, none⟩ = some (.int .i64 c9) ∧ w'.cell? ⟨g, 10, none⟩ = some (.slice A m cp)) w') := Lib.hid (fun w' hb => ⟨(hb.cell 0).trans rfl, (hb.cell 1).trans rfl, (hb.cell 2).trans rfl, (hb.cell 3).trans rfl, (hb.cell 4).trans rfl, (hb.cell 5).trans rfl, (hb.cell 6).trans rfl, (hb.cell 7).trans rfl, (hb.cell 8).trans rfl, (hb.cell 9).trans rfl, (hb.cell 10).trans rfl⟩)
  obtain ⟨gd, cd, gr, cr, hd, hr, hcd, hcr⟩ := LP.rows (M := [BP]) G1.out hI.pos
  have HPD : Hid (∀ w C, GS w0 w C (LP w0 P h bs ns ds ++ [BP]) → w.cell? ⟨P, 0, none⟩ = some (.slice (some ⟨gd, 0, none⟩) ds.length cd) ∧ w.cell? ⟨P, 1, none⟩ = some (.slice (some ⟨gr, 0, none⟩) ds.length cr)) := Lib.hid (fun w C hq => ⟨by rw [← hd]; exact ((LP.pp hq).1.1.cell 0).trans rfl, by rw [← hr]; exact ((LP.pp hq).1.1.cell 1).trans rfl⟩)
  have HRW : Hid (∀ w C, GS w0 w C (LP w0 P h bs ns ds ++ [BP]) → ∀ (j : Nat) (x : DE), ds[j]? = some x → w.cell? ⟨gd, j, none⟩ = some (.pointer (some ⟨x.p, 0, none⟩)) ∧ w.cell? ⟨gr, j, none⟩ = some (.pointer (some ⟨x.q, 0, none⟩))) := Lib.hid (fun w C hq j x hx => LP.cells hq hd hr hx)
  have HCN : Hid (∀ b, g ≤ b → 5 < C1 b) := Lib.hid (fun b hq => by rw [hC1, paint_new C cB (by omega), hcB]; unfold LP; simp only [List.length_cons]; omega)
  have CM := Lib.hid (mod_any c1 ds.length hI.pos (by have := hI.eight; omega))
  have HI := Lib.hid hI
  have hpos := hI.pos
  have HS : Hid (∀ w' C', GS w0 w' C' (LP w0 P h bs ns ds ++ [BP]) → (fun w' => w'.cell? ⟨P, 0, none⟩ = some (.slice (some ⟨gd, 0, none⟩) ds.length cd) ∧ w'.cell? ⟨g, 0, none⟩ = some (.int .i64 9) ∧ w'.cell? ⟨g, 1, none⟩ = some (.int .i64 c1) ∧ w'.cell? ⟨g, 2, none⟩ = some (.string (strB nm)) ∧ w'.cell? ⟨g, 3, none⟩ = some (.string (strB ot)) ∧ w'.cell? ⟨g, 4, none⟩ = some (.string sa) ∧ w'.cell? ⟨g, 5, none⟩ = some (.int .i64 tm) ∧ w'.cell? ⟨g, 6, none⟩ = some (.int .i64 c6) ∧ w'.cell? ⟨g, 7, none⟩ = some (.int .i64 c7) ∧ w'.cell? ⟨g, 8, none⟩ = some (.int .i64 c8) ∧ w'.cell? ⟨g, 9, none⟩ = some (.int .i64 c9) ∧ w'.cell? ⟨g, 10, none⟩ = some (.slice A m cp)) w') := Lib.hid (fun w' C' hq => ⟨(HPD.out _ _ hq).1, HZ.out _ (HBP.out _ _ hq.last)⟩)
  clear hb hG hBP hC1 hcB hI hd hr
  go_enter Tryz.func10, Tryz.ntmps10
  go_upto_region 1 with fail
  rw [← hw1, ← hg]
  clear hw1 hg
  refine wp_region_any (by kernel_rfl) ?_
  change wpAny _ _ _ _ _ _ _ (World.drew _)
  refine wpAny_of_held (S := fun w' => w'.cell? ⟨P, 0, none⟩ = some (.slice (some ⟨gd, 0, none⟩) ds.length cd) ∧ w'.cell? ⟨g, 0, none⟩ = some (.int .i64 9) ∧ w'.cell? ⟨g, 1, none⟩ = some (.int .i64 c1) ∧ w'.cell? ⟨g, 2, none⟩ = some (.string (strB nm)) ∧ w'.cell? ⟨g, 3, none⟩ = some (.string (strB ot)) ∧ w'.cell? ⟨g, 4, none⟩ = some (.string sa) ∧ w'.cell? ⟨g, 5, none⟩ = some (.int .i64 tm) ∧ w'.cell? ⟨g, 6, none⟩ = some (.int .i64 c6) ∧ w'.cell? ⟨g, 7, none⟩ = some (.int .i64 c7) ∧ w'.cell? ⟨g, 8, none⟩ = some (.int .i64 c8) ∧ w'.cell? ⟨g, 9, none⟩ = some (.int .i64 c9) ∧ w'.cell? ⟨g, 10, none⟩ = some (.slice A m cp)) _ _ _ _ ?_
  obtain ⟨w2, hw2⟩ : ∃ w2, w2 = w1.drew := ⟨_, rfl⟩
  have G2 : Hid (GS w0 w2 C1 (LP w0 P h bs ns ds ++ [BP])) := Lib.hid (by rw [hw2]; exact G1.out.keep (Below.refl _ _).drew)
  rw [← hw2]
  clear hw2 K1 G1
  have hHeld : (fun w' => w'.cell? ⟨P, 0, none⟩ = some (.slice (some ⟨gd, 0, none⟩) ds.length cd) ∧ w'.cell? ⟨g, 0, none⟩ = some (.int .i64 9) ∧ w'.cell? ⟨g, 1, none⟩ = some (.int .i64 c1) ∧ w'.cell? ⟨g, 2, none⟩ = some (.string (strB nm)) ∧ w'.cell? ⟨g, 3, none⟩ = some (.string (strB ot)) ∧ w'.cell? ⟨g, 4, none⟩ = some (.string sa) ∧ w'.cell? ⟨g, 5, none⟩ = some (.int .i64 tm) ∧ w'.cell? ⟨g, 6, none⟩ = some (.int .i64 c6) ∧ w'.cell? ⟨g, 7, none⟩ = some (.int .i64 c7) ∧ w'.cell? ⟨g, 8, none⟩ = some (.int .i64 c8) ∧ w'.cell? ⟨g, 9, none⟩ = some (.int .i64 c9) ∧ w'.cell? ⟨g, 10, none⟩ = some (.slice A m cp)) w2 := HS.out _ _ G2.out
  refine wpAnyH_take (i := 0) (v := ?_) rfl (by kernel_rfl) (by kernel_rfl) (by kernel_rfl) (fun _ _ _ h => h) (Or.inl ⟨by rfl, ?_⟩) (by assumption) ?_
  rotate_left 1
  · intro w hSw; (try dsimp only at hSw); go_simp <;> with_reducible rfl
  try simp only [Act.put, List.setIfInBounds_toArray, List.set_cons_zero, List.set_cons_succ, List.getElem_toArray, List.getElem_cons_zero]
  refine wpAnyH_take (i := 1) (v := ?_) rfl (by kernel_rfl) (by kernel_rfl) (by kernel_rfl) (fun _ _ _ h => h) (Or.inl ⟨by rfl, ?_⟩) (by assumption) ?_
  rotate_left 1
  · intro w hSw; obtain ⟨y0, z0, z1, z2, z3, z4, z5, z6, z7, z8, z9, z10⟩ := hSw; (try dsimp only at hSw); go_simp <;> with_reducible rfl
  try simp only [Act.put, List.setIfInBounds_toArray, List.set_cons_zero, List.set_cons_succ, List.getElem_toArray, List.getElem_cons_zero, List.getElem_cons_succ]
  refine wpAnyH_take (i := 2) (v := ?_) rfl (by kernel_rfl) (by kernel_rfl) (by kernel_rfl) (fun _ _ _ h => h) (Or.inl ⟨by rfl, ?_⟩) (by assumption) ?_
  rotate_left 1
  · intro w hSw; (try dsimp only at hSw); go_simp <;> with_reducible rfl
  try simp only [Act.put, List.setIfInBounds_toArray, List.set_cons_zero, List.set_cons_succ, List.getElem_toArray, List.getElem_cons_zero, List.getElem_cons_succ]
  refine wpAnyH_take (i := 3) (v := ?_) rfl (by kernel_rfl) (by kernel_rfl) (by kernel_rfl) (fun _ _ _ h => h) (Or.inl ⟨by rfl, ?_⟩) (by assumption) ?_
  rotate_left 1
  · intro w hSw; (try dsimp only at hSw); go_simp <;> with_reducible rfl
  try simp only [Act.put, List.setIfInBounds_toArray, List.set_cons_zero, List.set_cons_succ, List.getElem_toArray, List.getElem_cons_zero, List.getElem_cons_succ]
  refine wpAnyH_take (i := 4) (v := ?_) rfl (by kernel_rfl) (by kernel_rfl) (by kernel_rfl) (fun _ _ _ h => h) (Or.inl ⟨by rfl, ?_⟩) (by assumption) ?_
  rotate_left 1
  · intro w hSw; (try dsimp only at hSw); go_simp <;> with_reducible rfl
  try simp only [Act.put, List.setIfInBounds_toArray, List.set_cons_zero, List.set_cons_succ, List.getElem_toArray, List.getElem_cons_zero, List.getElem_cons_succ]
  refine wpAnyH_take (i := 5) (v := ?_) rfl (by kernel_rfl) (by kernel_rfl) (by kernel_rfl) (fun _ _ _ h => h) (Or.inl ⟨by rfl, ?_⟩) (by assumption) ?_
  rotate_left 1
  · intro w hSw; obtain ⟨y0, z0, z1, z2, z3, z4, z5, z6, z7, z8, z9, z10⟩ := hSw; (try dsimp only at hSw); go_simp <;> with_reducible rfl
  try simp only [Act.put, List.setIfInBounds_toArray, List.set_cons_zero, List.set_cons_succ, List.getElem_toArray, List.getElem_cons_zero, List.getElem_cons_succ]
  refine wpAnyH_take (i := 6) (v := ?_) rfl (by kernel_rfl) (by kernel_rfl) (by kernel_rfl) (fun _ _ _ h => h) (Or.inl ⟨by rfl, ?_⟩) (by assumption) ?_
  rotate_left 1
  · intro w hSw; (try dsimp only at hSw); go_simp <;> with_reducible rfl
  try simp only [Act.put, List.setIfInBounds_toArray, List.set_cons_zero, List.set_cons_succ, List.getElem_toArray, List.getElem_cons_zero, List.getElem_cons_succ]
  refine wpAnyH_ready (rs := [7]) (by kernel_rfl) (by simp) (AllReadyH.cons rfl (fun K hK => ?_) AllReadyH.nil)
  have hPrev := hHeld
  clear hHeld
  go_simp
  refine (CM.out w2).mono ?_
  rintro e w2 ⟨j, hj, rfl, rfl⟩
  refine hK.out _ _ (HS.out _ _ G2.out) (fun hHeld => ?_)
  clear hK K hPrev
  try simp only [Act.put, List.setIfInBounds_toArray, List.set_cons_zero, List.set_cons_succ, List.getElem_toArray, List.getElem_cons_zero, List.getElem_cons_succ]
  refine wpAnyH_take (i := 8) (v := ?_) rfl (by kernel_rfl) (by kernel_rfl) (by kernel_rfl) (fun _ _ _ h => h) (Or.inl ⟨by rfl, ?_⟩) (by assumption) ?_
  rotate_left 1
  · intro w hSw; (try dsimp only at hSw); go_simp <;> with_reducible rfl
  try simp only [Act.put, List.setIfInBounds_toArray, List.set_cons_zero, List.set_cons_succ, List.getElem_toArray, List.getElem_cons_zero, List.getElem_cons_succ]
  refine wpAnyH_done (by kernel_rfl) ?_ _
  obtain ⟨x, hx⟩ : ∃ x, ds[j]? = some x := ⟨_, List.getElem?_eq_getElem hj⟩
  obtain ⟨y0, y1⟩ := HPD.out _ _ G2.out
  obtain ⟨x0, x1⟩ := HRW.out _ _ G2.out j x hx
  obtain ⟨z0, z1, z2, z3, z4, z5, z6, z7, z8, z9, z10⟩ := HZ.out _ (HBP.out _ _ G2.out.last)
  have HX := Lib.hid hx
  clear hHeld hx CM
  go_upto_region 21 with fail
  have HAL := Lib.hid (HI.out.al j x HX.out).1
  have HXN : Hid (x.n < 1000000) := Lib.hid (by have := (HI.out.al j x HX.out).2; omega)
  have CR := Lib.hid (ask_all HAL.out.rok (LP.rd G2.out HX.out))
  obtain ⟨l, hl⟩ : ∃ l, l = x.r.all := ⟨_, rfl⟩
  have HLN : Hid (l.length ≤ 1000000) := Lib.hid (by rw [hl]; exact Nat.le_trans x.r.all_len (Nat.le_trans HAL.out.rok.nl HAL.out.rok.big))
  have HLE := Lib.hid hl
  rw [← hl] at CR
  clear hl
  go_wp2_with fail
  refine CR.out.mono ?_
  rintro e w3 ⟨v3, rfl, ho3, hb3⟩
  obtain ⟨A3, cp3, rfl, hc3, _⟩ := own_form ho3
  obtain ⟨C3, hC3⟩ : ∃ C3, C3 = paint C1 w2.heap.size 5 := ⟨_, rfl⟩
  have HC3 : Hid (∀ b, w2.heap.size ≤ b → C3 b = 5) := Lib.hid (fun b hb => by rw [hC3, paint_new _ _ hb])
  have G3 : Hid (GS w0 w3 C3 (LP w0 P h bs ns ds ++ [BP])) := Lib.hid (by rw [hC3]; exact G2.out.keep2 hb3 (sam_paint _ _ _))
  have HA3 : Hid (∀ ad, A3 = some ad → w2.heap.size ≤ ad.block ∧ ad.block < w3.heap.size) := Lib.hid (fun ad e => by
    have h1 := ho3.lt ad.block (by rw [e]; rfl)
    exact h1)
  have O3 := Lib.hid ho3
  have HS23 := Lib.hid hb3.size
  have HB02 := Lib.hid G2.out.bel.size
  clear ho3 hb3 CR G2 hC3 z0 z1 z2 z3 z4 z5 z6 z7 z8 z9 z10 y0 y1 x0 x1
  have CD := Lib.hid (ask_names HAL.out HXN.out (LP.dk G3.out HX.out))
  rw [← HLE.out] at CD
  go_wp2_with fail
  refine CD.out.mono ?_
  rintro e w4 ⟨v4, rfl, ho4, hb4⟩
  obtain ⟨A4, cp4, rfl, hc4, _⟩ := own_form ho4
  have O4 := Lib.hid ho4
  have B4 := Lib.hid hb4
  have G4 := Lib.hid (G3.out.keep hb4)
  clear ho4 hb4 CD
  have CD := Lib.hid (ask_names HAL.out HXN.out (LP.dk G4.out HX.out))
  rw [← HLE.out] at CD
  go_wp2_with fail
  refine CD.out.mono ?_
  rintro e w5 ⟨v5, rfl, ho5, hb5⟩
  obtain ⟨A5, cp5, rfl, hc5, _⟩ := own_form ho5
  simp only at hc3 hc4 hc5 ⊢
  have O5 := Lib.hid ho5
  have O45 := Lib.hid (own_keep O4.out hb5)
  have B5 := Lib.hid (B4.out.trans (hb5.mono B4.out.size))
  have O35 := Lib.hid (own_keep O3.out B5.out)
  have G5 := Lib.hid (G4.out.keep hb5)
  have HS34 : Hid (w3.heap.size ≤ w4.heap.size) := Lib.hid B4.out.size
  have HLT : Hid (∀ b, (Value.slice A4 l.length cp4).ownBlock = some b → w3.heap.size ≤ b ∧ b < w4.heap.size) := Lib.hid (fun b hb => O4.out.lt b hb)
  have HA4 : Hid (∀ ad, A4 = some ad → w3.heap.size ≤ ad.block ∧ ad.block < w5.heap.size) := Lib.hid (fun ad e => by have h1 := O4.out.lt ad.block (by rw [e]; rfl); have := hb5.size; have := B4.out.size; omega)
  have HA5 : Hid (∀ ad, A5 = some ad → w3.heap.size ≤ ad.block ∧ ad.block < w5.heap.size) := Lib.hid (fun ad e => by have h1 := ho5.lt ad.block (by rw [e]; rfl); have := B4.out.size; omega)
  clear ho5 hb5 CD O4 B4 G4
  go_upto_region 24 with fail
  obtain ⟨us, hLL⟩ := LPx.np (M := [BP]) G3.out
  have HLL := Lib.hid hLL
  have hus : us.length = ns.length := hLL.len
  have hbl := HI.out.nl
  have y2 : w5.cell? ⟨P, 4, none⟩ = some h.n := ((LPx.blk (M := [BP]) G5.out).1.cell 4).trans rfl
  have B6 := Lib.hid ((Below.refl w5.heap.size w5).alloc (Nat.le_refl _) (.cells #[.slice A4 l.length cp4, .slice A5 l.length cp5] 32))
  have y2' : (w5.alloc (.cells #[.slice A4 l.length cp4, .slice A5 l.length cp5] 32)).cell? ⟨P, 4, none⟩ = some h.n := cell_later B6.out y2
  have K6 : Hid (Blk (w5.alloc (.cells #[.slice A4 l.length cp4, .slice A5 l.length cp5] 32)) w5.heap.size 32 #[.slice A4 l.length cp4, .slice A5 l.length cp5]) := Lib.hid (Blk.new _ _ _ rfl)
  have B36 := Lib.hid (B5.out.trans (B6.out.mono B5.out.size))
  have O6 := Lib.hid ((HLL.out.keep B36.out).own)
  have HB0 : Hid (w0.heap.size ≤ (w5.alloc (.cells #[.slice A4 l.length cp4, .slice A5 l.length cp5] 32)).heap.size) := Lib.hid (Nat.le_trans G5.out.bel.size B6.out.size)
  clear hLL
  go_wp2_with ((at_builtin; go_must (refine append_row rfl (.tmp 202) (.tmp 205) 33 32 rfl Tryz.underlying33 infoNL rfl (by decide) w0.heap.size h.n us.length us rfl O6.out (some ⟨w5.heap.size, 0, none⟩) 2 2 [.slice A4 l.length cp4, .slice A5 l.length cp5] rfl rfl (fun e => by cases e) (news_at K6.out) (fun u hu => by simp only [List.mem_cons, List.not_mem_nil, or_false] at hu; rcases hu with rfl | rfl <;> rfl) (by omega) (by unfold maxLen; omega) HB0.out ?_); intro v7 w7 ho7 hg7 ha7; refine halt ?_))
  refine unhalt ?_
  obtain ⟨A7, cp7, hv7, _⟩ := own_form ho7
  subst hv7
  have HC7 : Hid (Chg (fun b => C3 b = 4) w3 w7) := Lib.hid ((Chg.of_below B36.out _).grown hg7 (fun k e _ => HLL.out.memv k e))
  have HBP7 : Hid (Np w0 (.slice A7 (us.length + 2) cp7) (ns ++ [l, l]) w7 (paint C3 w3.heap.size 4)) := Lib.hid ⟨_, HLL.out.snoc2 (by decide) B36.out (by
    have h1 := own_keep (own_less O45.out G3.out.bel.size) B6.out
    rw [List.length_map]; exact h1) (by
    have h1 := own_keep (own_less (base' := w0.heap.size) O5.out (by have := G3.out.bel.size; have := HS34.out; omega)) B6.out
    rw [List.length_map]; exact h1) (fun b hb => (HLT.out b hb).1) (fun b hb => by have := (O5.out.lt b hb).1; have := HS34.out; omega) (fun b h1 h2 => by have := (HLT.out b h1).2; have := (O5.out.lt b h2).1; omega) ho7 hg7 ha7⟩
  obtain ⟨w8, hw8⟩ : ∃ w8, w8 = w7.setCell ⟨P, 4, none⟩ (.slice A7 (us.length + 2) cp7) := ⟨_, rfl⟩
  obtain ⟨C8, hC8⟩ : ∃ C8, C8 = paint C3 w3.heap.size 4 := ⟨_, rfl⟩
  obtain ⟨h8, hh8⟩ : ∃ h8 : Hd, h8 = { h with n := .slice A7 (us.length + 2) cp7 } := ⟨_, rfl⟩
  have G8 : Hid (GS w0 w8 C8 (LPx w0 P h8 bs bs (ns ++ [l, l]) ns ds ++ [BP])) := Lib.hid (by rw [hw8, hC8, hh8]; exact LPx.bookN (M := [BP]) G3.out HC7.out HBP7.out)
  have p7 := (LPx.blk (M := [BP]) G3.out).1.chg HC7.out (fun e => by rw [(LPx.blk (M := [BP]) G3.out).2] at e; omega)
  have q7 : w7.cell? ⟨P, 4, none⟩ = some h.n := (p7.cell 4).trans rfl
  have f7 := p7.frozen 4
  have HP1 : Hid (C3 P = 1 ∧ C8 P = 1) := Lib.hid ⟨(LPx.blk (M := [BP]) G3.out).2, (LPx.blk (M := [BP]) G8.out).2⟩
  have HC58 : Hid (Chg (fun b => C3 b = 4 ∨ b = P) w5 w8) := Lib.hid (by
    have h1 : Chg (fun b => C3 b = 4 ∨ b = P) w5 w7 := (Chg.of_below B6.out _).grown hg7 (fun k e _ => .inl (HLL.out.memv k e))
    rw [hw8]
    exact h1.setCell (p := ⟨P, 4, none⟩) (.inl (.inr rfl)) _)
  have HN1 : Hid (∀ b, C3 b = 5 → ¬ (C3 b = 4 ∨ b = P)) := Lib.hid (fun b hb e => by
    rcases e with e | e
    · omega
    · rw [e, HP1.out.1] at hb; omega)
  have O38 := Lib.hid (HC58.out.own O35.out (fun k hk => HN1.out _ (HC3.out _ (O3.out.lt k hk).1)))
  have R48 : Hid (TX w8 A4 l.length l) := Lib.hid ((TX.of_own rfl O45.out).chg HC58.out (fun _ ad e => HN1.out _ (HC3.out _ (by have := HA4.out ad e; have := HS23.out; omega))))
  have R58 : Hid (TX w8 A5 l.length l) := Lib.hid ((TX.of_own rfl O5.out).chg HC58.out (fun _ ad e => HN1.out _ (HC3.out _ (by have := HA5.out ad e; have := HS23.out; omega))))
  have HN8 : Hid (∀ ad, (A4 = some ad ∨ A5 = some ad) → C8 ad.block = 4 ∧ ad.block ≠ P) := Lib.hid (fun ad e => by
    have h1 : w3.heap.size ≤ ad.block := by
      rcases e with e | e
      · exact (HA4.out ad e).1
      · exact (HA5.out ad e).1
    have h2 : C8 ad.block = 4 := by rw [hC8, paint_new _ _ h1]
    exact ⟨h2, fun e2 => by rw [e2, HP1.out.2] at h2; omega⟩)
  have HN3 : Hid (∀ ad, A3 = some ad → C8 ad.block = 5 ∧ ad.block ≠ P) := Lib.hid (fun ad e => by
    have h1 := HA3.out ad e
    have h2 : C8 ad.block = 5 := by rw [hC8, paint_old _ _ h1.2, HC3.out _ h1.1]
    exact ⟨h2, fun e2 => by rw [e2, HP1.out.2] at h2; omega⟩)
  have HBL := Lib.hid hbl
  clear ho7 hg7 ha7 HC7 HBP7 p7 O6 K6 B6 y2 y2' HLL HB0 hC8 hh8 hbl hus
  go_upto_region 25 with fail
  rw [← hw8]
  clear hw8 q7 f7
  obtain ⟨es, hes, hel, hee⟩ := LPx.ep (M := [BP]) G8.out
  obtain ⟨sv, hsv⟩ : ∃ sv, sv = h8.e := ⟨_, rfl⟩
  rw [← hsv] at hes
  have y3 : w8.cell? ⟨P, 5, none⟩ = some sv := by rw [hsv]; exact ((LPx.blk (M := [BP]) G8.out).1.cell 5).trans rfl
  have HHS := Lib.hid hsv
  have SP8 := Lib.hid hes
  have HEL : Hid (es.length = ns.length) := Lib.hid hel
  have HEE := Lib.hid hee
  clear hsv hes hel hee
  have B9 := Lib.hid ((Below.refl w8.heap.size w8).alloc (Nat.le_refl _) (.cells #[.slice A3 l.length cp3, .slice A3 l.length cp3] 32))
  have y3' : (w8.alloc (.cells #[.slice A3 l.length cp3, .slice A3 l.length cp3] 32)).cell? ⟨P, 5, none⟩ = some sv := cell_later B9.out y3
  have K9 : Hid (Blk (w8.alloc (.cells #[.slice A3 l.length cp3, .slice A3 l.length cp3] 32)) w8.heap.size 32 #[.slice A3 l.length cp3, .slice A3 l.length cp3]) := Lib.hid (Blk.new _ _ _ rfl)
  have O9 := Lib.hid (own_keep SP8.out.1 B9.out)
  have HB9 : Hid (w0.heap.size ≤ (w8.alloc (.cells #[.slice A3 l.length cp3, .slice A3 l.length cp3] 32)).heap.size) := Lib.hid (Nat.le_trans G8.out.bel.size B9.out.size)
  go_wp2_with ((at_builtin; go_must (refine append_row rfl (.tmp 215) (.tmp 218) 33 32 rfl Tryz.underlying33 infoNL rfl (by decide) w0.heap.size sv es.length es rfl O9.out (some ⟨w8.heap.size, 0, none⟩) 2 2 [.slice A3 l.length cp3, .slice A3 l.length cp3] rfl rfl (fun e => by cases e) (news_at K9.out) (fun u hu => by simp only [List.mem_cons, List.not_mem_nil, or_false] at hu; rcases hu with rfl | rfl <;> rfl) (by have := HEL.out; have := HBL.out; omega) (by have := HEL.out; have := HBL.out; unfold maxLen; omega) HB9.out ?_); intro v10 w10 ho10 hg10 ha10; refine halt ?_))
  refine unhalt ?_
  obtain ⟨A10, cp10, hv10, _⟩ := own_form ho10
  subst hv10
  have HCP : Hid (Chg (fun b => sv.ownBlock = some b) w8 w10) := Lib.hid ((Chg.of_below B9.out _).grown hg10 (fun k e _ => e))
  have HC10 : Hid (Chg (fun b => C8 b = 5) w8 w10) := Lib.hid (HCP.out.mono (fun b _ e => SP8.out.2 b e))
  have p10 := (LPx.blk (M := [BP]) G8.out).1.chg HC10.out (fun e => by rw [HP1.out.2] at e; omega)
  have q10 : w10.cell? ⟨P, 5, none⟩ = some sv := by rw [HHS.out]; exact (p10.cell 5).trans rfl
  have f10 := p10.frozen 5
  have R310 : Hid (TX w10 A3 l.length l) := Lib.hid ((TX.of_own rfl O38.out).chg HCP.out (fun _ ad e h2 => by
    rcases own_apart O38.out SP8.out.1 (by decide) with h3 | h3
    · rw [e] at h3; cases h3
    · exact h3 (by rw [h2, e]; rfl)))
  have R410 : Hid (TX w10 A4 l.length l) := Lib.hid (R48.out.chg HC10.out (fun _ ad e h2 => by rw [(HN8.out ad (.inl e)).1] at h2; omega))
  have R510 : Hid (TX w10 A5 l.length l) := Lib.hid (R58.out.chg HC10.out (fun _ ad e h2 => by rw [(HN8.out ad (.inr e)).1] at h2; omega))
  have HT3 : Hid (TE w0.heap.size w10 (paint C8 w8.heap.size 5) 5 (.slice A3 l.length cp3) l) := Lib.hid (TE.grown (⟨own_less O38.out HB02.out, fun k hk => by
    have h1 : A3 = some ⟨k, 0, none⟩ := own_addr O38.out hk
    exact (HN3.out _ h1).1⟩ : TE w0.heap.size w8 C8 5 (.slice A3 l.length cp3) l) SP8.out.1 HCP.out)
  have HSP : Hid (Ep w0 (.slice A10 (es.length + 2) cp10) (ns ++ [l, l]) w10 (paint C8 w8.heap.size 5)) := Lib.hid ⟨es ++ [.slice A3 l.length cp3, .slice A3 l.length cp3], ⟨by rw [List.length_append]; exact ho10, fun k hk => by
    rcases ha10 with e | e
    · rw [e] at hk
      rw [paint_old _ _ (SP8.out.1.lt k hk).2]; exact SP8.out.2 k hk
    · rw [e] at hk
      obtain rfl := Option.some.inj hk
      exact paint_new _ _ B9.out.size⟩, by rw [List.length_append, List.length_append, HEL.out]; rfl, fun j' e' l' he' hl' => by
    rcases get_snoc2 he' with ⟨q1, q2⟩ | ⟨q1, rfl⟩ | ⟨q1, rfl⟩ <;> rcases get_snoc2 hl' with ⟨r1, r2⟩ | ⟨r1, rfl⟩ | ⟨r1, rfl⟩ <;> first | (exfalso; have := HEL.out; omega) | exact HT3.out | skip
    exact (HEE.out j' e' l' q2 r2).grown SP8.out.1 HCP.out⟩
  have G11 := LPx.bookE (M := [BP]) G8.out HC10.out HSP.out
  obtain ⟨w11, hw11⟩ : ∃ w11, w11 = w10.setCell ⟨P, 5, none⟩ (.slice A10 (es.length + 2) cp10) := ⟨_, rfl⟩
  have HF : Hid (∀ q, StpQ w0 P i (.returned (.bool true)) (w11.drewN q)) := Lib.hid (fun q => by
    rw [hw11]
    refine ⟨rfl, _, _, bs, ns ++ [l, l], ds, ⟨HI.out.pos, HI.out.eight, HI.out.up.bl, by rw [List.length_append]; have := HBL.out; simp only [List.length_cons, List.length_nil]; omega, HI.out.bb, fun m hm => ?_, HI.out.up.al⟩, G11.front.keep (below_drewN (Below.refl _ _) q)⟩
    rcases List.mem_append.1 hm with hm | hm
    · exact HI.out.nb m hm
    · have h1 : m = l := by simpa using hm
      rw [h1]; exact HLN.out)
  have hch : Chg (fun b => b = P) w10 w11 := by rw [hw11]; exact Chg.setCell (S := fun k => k = P) (Chg.refl _ _) (.inl rfl) _
  have R311 := Lib.hid (R310.out.chg hch (fun _ ad e => (HN3.out ad e).2))
  have R411 := Lib.hid (R410.out.chg hch (fun _ ad e => (HN8.out ad (.inl e)).2))
  have R511 := Lib.hid (R510.out.chg hch (fun _ ad e => (HN8.out ad (.inr e)).2))
  have hll := HLN.out
  have CT1 := Lib.hid (texts_any A4 A3 l.length l.length cp4 cp3 l l w11 R411.out R311.out (by omega) (by omega) hc4 hc3)
  have CT2 := Lib.hid (fun q => texts_any A5 A3 l.length l.length cp5 cp3 l l (w11.drewN q) R511.out R311.out (by omega) (by omega) hc5 hc3)
  clear ho10 hg10 ha10 G11 p10 hch HSP R310 R410 R510 O9 SP8 HB9 K9 y3 y3' HT3
  go_upto_region 26 with fail
  rw [← hw11]
  clear hw11 q10 f10
  go_wp2_with fail
  refine CT1.out.mono ?_
  rintro e w12 ⟨rfl, q1, rfl⟩
  simp only [decide_true]
  go_wp2_with fail
  refine (CT2.out q1).mono ?_
  rintro e w13 ⟨rfl, q2, rfl⟩
  simp only [decide_true]
  have HF2 := Lib.hid (HF.out (q1 + q2))
  go_wp2_with fail
  go_ret
  first | exact HF2.out | (trace_state; exact HF2.out)
end Go.Proofs.YtlojmmcagglpoaaGreat
