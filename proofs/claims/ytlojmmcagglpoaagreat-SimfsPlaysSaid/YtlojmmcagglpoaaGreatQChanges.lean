/- THE WALKS of changes, the five plain kinds (package heronlaw14; printed by a program of ours). -/
import Derived.Test.YtlojmmcagglpoaaGreatQPlays
import Derived.Deep.RegionHeld
import Derived.Deep.RegionHeld3
import Derived.Deep.DrawnRows
namespace Go.Proofs.YtlojmmcagglpoaaGreat
open Go.RowKit Go.Maps
attribute [local go_sem ↓] Go.wp_at_zero Go.wp_at_succ
set_option maxRecDepth 20000 in
set_option maxHeartbeats 4000000 in
theorem changes_create {w0 W : World} {C : Nat → Nat} {P : Nat} {h : Hd} {bs : List (List UInt8)} {ns : List (List (List UInt8))} {ds : List DE} {M : List PartT} {j : Nat} {x : DE} (hG : GS w0 W C (LP w0 P h bs ns ds ++ M)) (hx : ds[j]? = some x) (al : Alike x.d x.r x.n) (hn : x.n + 2 < 1000000) (c1 : Int) (nm ot : List UInt8) (sa : ByteArray) (tm c6 c7 c8 c9 : Int) (A : Option Addr) (m cp : Nat) : Calls Tryz.prog 59 #[.pointer (some ⟨P, 0, none⟩), .pointer (some ⟨x.p, 0, none⟩), .pointer (some ⟨x.q, 0, none⟩), .agg #[.int .i64 0, .int .i64 c1, .string (strB nm), .string (strB ot), .string sa, .int .i64 tm, .int .i64 c6, .int .i64 c7, .int .i64 c8, .int .i64 c9, .slice A m cp]] W (ChgQ w0 P h bs ns ds j x M) := by
  obtain ⟨w1, hw1⟩ : ∃ w1, w1 = W.alloc (.cells #[.int .i64 0, .int .i64 c1, .string (strB nm), .string (strB ot), .string sa, .int .i64 tm, .int .i64 c6, .int .i64 c7, .int .i64 c8, .int .i64 c9, .slice A m cp] 41) := ⟨_, rfl⟩
  obtain ⟨g, hg⟩ : ∃ g, g = W.heap.size := ⟨_, rfl⟩
  have hb : Below W.heap.size W w1 := by rw [hw1]; exact (Below.refl _ _).alloc (Nat.le_refl _) _
  have K1 : Hid (Blk w1 g 41 #[.int .i64 0, .int .i64 c1, .string (strB nm), .string (strB ot), .string sa, .int .i64 tm, .int .i64 c6, .int .i64 c7, .int .i64 c8, .int .i64 c9, .slice A m cp]) := Lib.hid (by rw [hw1, hg]; exact Blk.new W _ _ rfl)
  obtain ⟨cB, hcB⟩ : ∃ cB, cB = (LP w0 P h bs ns ds ++ M).length + 1 := ⟨_, rfl⟩
  obtain ⟨C1, hC1⟩ : ∃ C1, C1 = paint C W.heap.size cB := ⟨_, rfl⟩
  obtain ⟨BP, hBP⟩ : ∃ BP : PartT, BP = (fun W C => FrC W C cB (fun w => Blk w g 41 #[.int .i64 0, .int .i64 c1, .string (strB nm), .string (strB ot), .string sa, .int .i64 tm, .int .i64 c6, .int .i64 c7, .int .i64 c8, .int .i64 c9, .slice A m cp])) := ⟨_, rfl⟩
  have G1 : Hid (GS w0 w1 C1 (LP w0 P h bs ns ds ++ (M ++ [BP]))) := Lib.hid (by
    have h1 := hG.holdBlkA hb K1.out (by omega)
    rw [← hcB] at h1
    rw [hBP, hC1]; exact h1)
  have HDK : Hid (x.d.Ok x.n) := Lib.hid (DC.ok (LP.dk hG hx))
  have HBP : Hid (∀ w C, BP w C → Blk w g 41 #[.int .i64 0, .int .i64 c1, .string (strB nm), .string (strB ot), .string sa, .int .i64 tm, .int .i64 c6, .int .i64 c7, .int .i64 c8, .int .i64 c9, .slice A m cp]) := Lib.hid (fun w C h => by rw [hBP] at h; exact h.now)
  have HS : Hid (∀ w', Blk w' g 41 #[.int .i64 0, .int .i64 c1, .string (strB nm), .string (strB ot), .string sa, .int .i64 tm, .int .i64 c6, .int .i64 c7, .int .i64 c8, .int .i64 c9, .slice A m cp] → (fun w' => w'.cell? ⟨g, 0, none⟩ = some (.int .i64 0) ∧ w'.cell? ⟨g, 1, none⟩ = some (.int .i64 c1) ∧ w'.cell? ⟨g, 2, none⟩ = some (.string (strB nm)) ∧ w'.cell? ⟨g, 3, none⟩ = some (.string (strB ot)) ∧ w'.cell? ⟨g, 4, none⟩ = some (.string sa) ∧ w'.cell? ⟨g, 5, none⟩ = some (.int .i64 tm) ∧ w'.cell? ⟨g, 6, none⟩ = some (.int .i64 c6) ∧ w'.cell? ⟨g, 7, none⟩ = some (.int .i64 c7) ∧ w'.cell? ⟨g, 8, none⟩ = some (.int .i64 c8) ∧ w'.cell? ⟨g, 9, none⟩ = some (.int .i64 c9) ∧ w'.cell? ⟨g, 10, none⟩ = some (.slice A m cp)) w') := Lib.hid (fun w' hb => ⟨(hb.cell 0).trans rfl, (hb.cell 1).trans rfl, (hb.cell 2).trans rfl, (hb.cell 3).trans rfl, (hb.cell 4).trans rfl, (hb.cell 5).trans rfl, (hb.cell 6).trans rfl, (hb.cell 7).trans rfl, (hb.cell 8).trans rfl, (hb.cell 9).trans rfl, (hb.cell 10).trans rfl⟩)

  obtain ⟨v, d', r', al', hA, hB⟩ := PairC.at_ (w0 := w0) (P := P) (h := h) (bs := bs) (ns := ns) hx (pair_create al HDK.out hn nm)
  have HA := Lib.hid hA; have HB := Lib.hid hB; have HAL := Lib.hid al'
  clear hb hG al hn hA hB al' hBP hC1 hcB hx
  go_enter Tryz.func59, Tryz.ntmps59
  go_upto_region 3 with fail
  rw [← hw1, ← hg]
  clear hw1 hg
  refine wp_region_any (by kernel_rfl) ?_
  change wpAny _ _ _ _ _ _ _ (World.drew _)
  refine wpAny_of_held (S := fun w' => w'.cell? ⟨g, 0, none⟩ = some (.int .i64 0) ∧ w'.cell? ⟨g, 1, none⟩ = some (.int .i64 c1) ∧ w'.cell? ⟨g, 2, none⟩ = some (.string (strB nm)) ∧ w'.cell? ⟨g, 3, none⟩ = some (.string (strB ot)) ∧ w'.cell? ⟨g, 4, none⟩ = some (.string sa) ∧ w'.cell? ⟨g, 5, none⟩ = some (.int .i64 tm) ∧ w'.cell? ⟨g, 6, none⟩ = some (.int .i64 c6) ∧ w'.cell? ⟨g, 7, none⟩ = some (.int .i64 c7) ∧ w'.cell? ⟨g, 8, none⟩ = some (.int .i64 c8) ∧ w'.cell? ⟨g, 9, none⟩ = some (.int .i64 c9) ∧ w'.cell? ⟨g, 10, none⟩ = some (.slice A m cp)) _ _ _ _ ?_
  obtain ⟨w2, hw2⟩ : ∃ w2, w2 = w1.drew := ⟨_, rfl⟩
  have G2 : Hid (GS w0 w2 C1 (LP w0 P h bs ns ds ++ (M ++ [BP]))) := Lib.hid (by rw [hw2]; exact G1.out.keep (Below.refl _ _).drew)
  rw [← hw2]
  clear hw2 K1 G1
  have hHeld : (fun w' => w'.cell? ⟨g, 0, none⟩ = some (.int .i64 0) ∧ w'.cell? ⟨g, 1, none⟩ = some (.int .i64 c1) ∧ w'.cell? ⟨g, 2, none⟩ = some (.string (strB nm)) ∧ w'.cell? ⟨g, 3, none⟩ = some (.string (strB ot)) ∧ w'.cell? ⟨g, 4, none⟩ = some (.string sa) ∧ w'.cell? ⟨g, 5, none⟩ = some (.int .i64 tm) ∧ w'.cell? ⟨g, 6, none⟩ = some (.int .i64 c6) ∧ w'.cell? ⟨g, 7, none⟩ = some (.int .i64 c7) ∧ w'.cell? ⟨g, 8, none⟩ = some (.int .i64 c8) ∧ w'.cell? ⟨g, 9, none⟩ = some (.int .i64 c9) ∧ w'.cell? ⟨g, 10, none⟩ = some (.slice A m cp)) w2 := HS.out _ (HBP.out _ _ (GS.lastA G2.out))
  refine wpAnyH_take (i := 0) (v := ?_) rfl (by kernel_rfl) (by kernel_rfl) (by kernel_rfl) (fun _ _ _ h => h) (Or.inl ⟨by rfl, ?_⟩) (by assumption) ?_
  rotate_left 1
  · intro w hSw; (try dsimp only at hSw); go_simp <;> with_reducible rfl
  try simp only [Act.put, List.setIfInBounds_toArray, List.set_cons_zero, List.set_cons_succ, List.getElem_toArray, List.getElem_cons_zero]
  refine wpAnyH_take (i := 1) (v := ?_) rfl (by kernel_rfl) (by kernel_rfl) (by kernel_rfl) (fun _ _ _ h => h) (Or.inl ⟨by rfl, ?_⟩) (by assumption) ?_
  rotate_left 1
  · intro w hSw; (try dsimp only at hSw); go_simp <;> with_reducible rfl
  try simp only [Act.put, List.setIfInBounds_toArray, List.set_cons_zero, List.set_cons_succ, List.getElem_toArray, List.getElem_cons_zero, List.getElem_cons_succ]
  refine wpAnyH_take (i := 2) (v := ?_) rfl (by kernel_rfl) (by kernel_rfl) (by kernel_rfl) (fun _ _ _ h => h) (Or.inl ⟨by rfl, ?_⟩) (by assumption) ?_
  rotate_left 1
  · intro w hSw; obtain ⟨z0, z1, z2, z3, z4, z5, z6, z7, z8, z9, z10⟩ := hSw; (try dsimp only at hSw); go_simp <;> with_reducible rfl
  try simp only [Act.put, List.setIfInBounds_toArray, List.set_cons_zero, List.set_cons_succ, List.getElem_toArray, List.getElem_cons_zero, List.getElem_cons_succ]
  refine wpAnyH_take (i := 4) (v := ?_) rfl (by kernel_rfl) (by kernel_rfl) (by kernel_rfl) (fun _ _ _ h => h) (Or.inl ⟨by rfl, ?_⟩) (by assumption) ?_
  rotate_left 1
  · intro w hSw; (try dsimp only at hSw); go_simp <;> with_reducible rfl
  try simp only [Act.put, List.setIfInBounds_toArray, List.set_cons_zero, List.set_cons_succ, List.getElem_toArray, List.getElem_cons_zero, List.getElem_cons_succ]
  refine wpAnyH_take (i := 5) (v := ?_) rfl (by kernel_rfl) (by kernel_rfl) (by kernel_rfl) (fun _ _ _ h => h) (Or.inl ⟨by rfl, ?_⟩) (by assumption) ?_
  rotate_left 1
  · intro w hSw; (try dsimp only at hSw); go_simp <;> with_reducible rfl
  try simp only [Act.put, List.setIfInBounds_toArray, List.set_cons_zero, List.set_cons_succ, List.getElem_toArray, List.getElem_cons_zero, List.getElem_cons_succ]
  refine wpAnyH_take (i := 6) (v := ?_) rfl (by kernel_rfl) (by kernel_rfl) (by kernel_rfl) (fun _ _ _ h => h) (Or.inl ⟨by rfl, ?_⟩) (by assumption) ?_
  rotate_left 1
  · intro w hSw; obtain ⟨z0, z1, z2, z3, z4, z5, z6, z7, z8, z9, z10⟩ := hSw; (try dsimp only at hSw); go_simp <;> with_reducible rfl
  try simp only [Act.put, List.setIfInBounds_toArray, List.set_cons_zero, List.set_cons_succ, List.getElem_toArray, List.getElem_cons_zero, List.getElem_cons_succ]
  refine wpAnyH_ready (rs := [3]) (by kernel_rfl) (by simp) (AllReadyH.cons rfl (fun K hK => ?_) AllReadyH.nil)
  have hPrev := hHeld
  clear hHeld
  go_simp
  refine (HA.out _ _ (M ++ [BP]) [.string (strB nm)] G2.out rfl).mono ?_
  rintro e w3 ⟨C3, rfl, hg3⟩
  have G3 := Lib.hid hg3
  clear hg3 HA
  refine hK.out _ _ (HS.out _ (HBP.out _ _ (GS.lastA G3.out))) (fun hHeld => ?_)
  clear hK K hPrev
  try simp only [Act.put, List.setIfInBounds_toArray, List.set_cons_zero, List.set_cons_succ, List.getElem_toArray, List.getElem_cons_zero, List.getElem_cons_succ]
  refine wpAnyH_ready (rs := [7]) (by kernel_rfl) (by simp) (AllReadyH.cons rfl (fun K hK => ?_) AllReadyH.nil)
  have hPrev := hHeld
  clear hHeld
  go_simp
  refine (HB.out _ _ (M ++ [BP]) [.string (strB nm)] G3.out rfl).mono ?_
  rintro e w4 ⟨C4, rfl, hg4⟩
  have G4 := Lib.hid hg4
  clear hg4 HB
  refine hK.out _ _ (HS.out _ (HBP.out _ _ (GS.lastA G4.out))) (fun hHeld => ?_)
  clear hK K hPrev
  try simp only [Act.put, List.setIfInBounds_toArray, List.set_cons_zero, List.set_cons_succ, List.getElem_toArray, List.getElem_cons_zero, List.getElem_cons_succ]
  refine wpAnyH_take (i := 8) (v := ?_) rfl (by kernel_rfl) (by kernel_rfl) (by kernel_rfl) (fun _ _ _ h => h) (Or.inl ⟨by rfl, ?_⟩) (by assumption) ?_
  rotate_left 1
  · intro w hSw; (try dsimp only at hSw); go_simp <;> with_reducible rfl
  try simp only [Act.put, List.setIfInBounds_toArray, List.set_cons_zero, List.set_cons_succ, List.getElem_toArray, List.getElem_cons_zero, List.getElem_cons_succ]
  refine wpAnyH_take (i := 9) (v := ?_) rfl (by kernel_rfl) (by kernel_rfl) (by kernel_rfl) (fun _ _ _ h => h) (Or.inl ⟨by rfl, ?_⟩) (by assumption) ?_
  rotate_left 1
  · intro w hSw; (try dsimp only at hSw); go_simp <;> with_reducible rfl
  try simp only [Act.put, List.setIfInBounds_toArray, List.set_cons_zero, List.set_cons_succ, List.getElem_toArray, List.getElem_cons_zero, List.getElem_cons_succ]
  refine wpAnyH_done (by kernel_rfl) ?_ _
  have HF : Hid (ChgQ w0 P h bs ns ds j x M (.returned (.bool true)) w4) := Lib.hid ⟨rfl, C4, d', r', h.g, HAL.out, GS.frontA G4.out⟩
  clear hHeld
  go_wp2_with fail
  go_ret
  exact HF.out
set_option maxRecDepth 20000 in
set_option maxHeartbeats 4000000 in
theorem changes_cut {w0 W : World} {C : Nat → Nat} {P : Nat} {h : Hd} {bs : List (List UInt8)} {ns : List (List (List UInt8))} {ds : List DE} {M : List PartT} {j : Nat} {x : DE} (hG : GS w0 W C (LP w0 P h bs ns ds ++ M)) (hx : ds[j]? = some x) (al : Alike x.d x.r x.n) (hn : x.n + 2 < 1000000) (c1 : Int) (nm ot : List UInt8) (sa : ByteArray) (tm c6 c7 c8 c9 : Int) (A : Option Addr) (m cp : Nat) : Calls Tryz.prog 59 #[.pointer (some ⟨P, 0, none⟩), .pointer (some ⟨x.p, 0, none⟩), .pointer (some ⟨x.q, 0, none⟩), .agg #[.int .i64 2, .int .i64 c1, .string (strB nm), .string (strB ot), .string sa, .int .i64 tm, .int .i64 c6, .int .i64 c7, .int .i64 c8, .int .i64 c9, .slice A m cp]] W (ChgQ w0 P h bs ns ds j x M) := by
  obtain ⟨w1, hw1⟩ : ∃ w1, w1 = W.alloc (.cells #[.int .i64 2, .int .i64 c1, .string (strB nm), .string (strB ot), .string sa, .int .i64 tm, .int .i64 c6, .int .i64 c7, .int .i64 c8, .int .i64 c9, .slice A m cp] 41) := ⟨_, rfl⟩
  obtain ⟨g, hg⟩ : ∃ g, g = W.heap.size := ⟨_, rfl⟩
  have hb : Below W.heap.size W w1 := by rw [hw1]; exact (Below.refl _ _).alloc (Nat.le_refl _) _
  have K1 : Hid (Blk w1 g 41 #[.int .i64 2, .int .i64 c1, .string (strB nm), .string (strB ot), .string sa, .int .i64 tm, .int .i64 c6, .int .i64 c7, .int .i64 c8, .int .i64 c9, .slice A m cp]) := Lib.hid (by rw [hw1, hg]; exact Blk.new W _ _ rfl)
  obtain ⟨cB, hcB⟩ : ∃ cB, cB = (LP w0 P h bs ns ds ++ M).length + 1 := ⟨_, rfl⟩
  obtain ⟨C1, hC1⟩ : ∃ C1, C1 = paint C W.heap.size cB := ⟨_, rfl⟩
  obtain ⟨BP, hBP⟩ : ∃ BP : PartT, BP = (fun W C => FrC W C cB (fun w => Blk w g 41 #[.int .i64 2, .int .i64 c1, .string (strB nm), .string (strB ot), .string sa, .int .i64 tm, .int .i64 c6, .int .i64 c7, .int .i64 c8, .int .i64 c9, .slice A m cp])) := ⟨_, rfl⟩
  have G1 : Hid (GS w0 w1 C1 (LP w0 P h bs ns ds ++ (M ++ [BP]))) := Lib.hid (by
    have h1 := hG.holdBlkA hb K1.out (by omega)
    rw [← hcB] at h1
    rw [hBP, hC1]; exact h1)
  have HDK : Hid (x.d.Ok x.n) := Lib.hid (DC.ok (LP.dk hG hx))
  have HBP : Hid (∀ w C, BP w C → Blk w g 41 #[.int .i64 2, .int .i64 c1, .string (strB nm), .string (strB ot), .string sa, .int .i64 tm, .int .i64 c6, .int .i64 c7, .int .i64 c8, .int .i64 c9, .slice A m cp]) := Lib.hid (fun w C h => by rw [hBP] at h; exact h.now)
  have HS : Hid (∀ w', Blk w' g 41 #[.int .i64 2, .int .i64 c1, .string (strB nm), .string (strB ot), .string sa, .int .i64 tm, .int .i64 c6, .int .i64 c7, .int .i64 c8, .int .i64 c9, .slice A m cp] → (fun w' => w'.cell? ⟨g, 0, none⟩ = some (.int .i64 2) ∧ w'.cell? ⟨g, 1, none⟩ = some (.int .i64 c1) ∧ w'.cell? ⟨g, 2, none⟩ = some (.string (strB nm)) ∧ w'.cell? ⟨g, 3, none⟩ = some (.string (strB ot)) ∧ w'.cell? ⟨g, 4, none⟩ = some (.string sa) ∧ w'.cell? ⟨g, 5, none⟩ = some (.int .i64 tm) ∧ w'.cell? ⟨g, 6, none⟩ = some (.int .i64 c6) ∧ w'.cell? ⟨g, 7, none⟩ = some (.int .i64 c7) ∧ w'.cell? ⟨g, 8, none⟩ = some (.int .i64 c8) ∧ w'.cell? ⟨g, 9, none⟩ = some (.int .i64 c9) ∧ w'.cell? ⟨g, 10, none⟩ = some (.slice A m cp)) w') := Lib.hid (fun w' hb => ⟨(hb.cell 0).trans rfl, (hb.cell 1).trans rfl, (hb.cell 2).trans rfl, (hb.cell 3).trans rfl, (hb.cell 4).trans rfl, (hb.cell 5).trans rfl, (hb.cell 6).trans rfl, (hb.cell 7).trans rfl, (hb.cell 8).trans rfl, (hb.cell 9).trans rfl, (hb.cell 10).trans rfl⟩)

  obtain ⟨v, d', r', al', hA, hB⟩ := PairC.at_ (w0 := w0) (P := P) (h := h) (bs := bs) (ns := ns) hx (pair_cut al HDK.out hn nm)
  have HA := Lib.hid hA; have HB := Lib.hid hB; have HAL := Lib.hid al'
  clear hb hG al hn hA hB al' hBP hC1 hcB hx
  go_enter Tryz.func59, Tryz.ntmps59
  go_upto_region 21 with fail
  rw [← hw1, ← hg]
  clear hw1 hg
  refine wp_region_any (by kernel_rfl) ?_
  change wpAny _ _ _ _ _ _ _ (World.drew _)
  refine wpAny_of_held (S := fun w' => w'.cell? ⟨g, 0, none⟩ = some (.int .i64 2) ∧ w'.cell? ⟨g, 1, none⟩ = some (.int .i64 c1) ∧ w'.cell? ⟨g, 2, none⟩ = some (.string (strB nm)) ∧ w'.cell? ⟨g, 3, none⟩ = some (.string (strB ot)) ∧ w'.cell? ⟨g, 4, none⟩ = some (.string sa) ∧ w'.cell? ⟨g, 5, none⟩ = some (.int .i64 tm) ∧ w'.cell? ⟨g, 6, none⟩ = some (.int .i64 c6) ∧ w'.cell? ⟨g, 7, none⟩ = some (.int .i64 c7) ∧ w'.cell? ⟨g, 8, none⟩ = some (.int .i64 c8) ∧ w'.cell? ⟨g, 9, none⟩ = some (.int .i64 c9) ∧ w'.cell? ⟨g, 10, none⟩ = some (.slice A m cp)) _ _ _ _ ?_
  obtain ⟨w2, hw2⟩ : ∃ w2, w2 = w1.drew := ⟨_, rfl⟩
  have G2 : Hid (GS w0 w2 C1 (LP w0 P h bs ns ds ++ (M ++ [BP]))) := Lib.hid (by rw [hw2]; exact G1.out.keep (Below.refl _ _).drew)
  rw [← hw2]
  clear hw2 K1 G1
  have hHeld : (fun w' => w'.cell? ⟨g, 0, none⟩ = some (.int .i64 2) ∧ w'.cell? ⟨g, 1, none⟩ = some (.int .i64 c1) ∧ w'.cell? ⟨g, 2, none⟩ = some (.string (strB nm)) ∧ w'.cell? ⟨g, 3, none⟩ = some (.string (strB ot)) ∧ w'.cell? ⟨g, 4, none⟩ = some (.string sa) ∧ w'.cell? ⟨g, 5, none⟩ = some (.int .i64 tm) ∧ w'.cell? ⟨g, 6, none⟩ = some (.int .i64 c6) ∧ w'.cell? ⟨g, 7, none⟩ = some (.int .i64 c7) ∧ w'.cell? ⟨g, 8, none⟩ = some (.int .i64 c8) ∧ w'.cell? ⟨g, 9, none⟩ = some (.int .i64 c9) ∧ w'.cell? ⟨g, 10, none⟩ = some (.slice A m cp)) w2 := HS.out _ (HBP.out _ _ (GS.lastA G2.out))
  refine wpAnyH_take (i := 0) (v := ?_) rfl (by kernel_rfl) (by kernel_rfl) (by kernel_rfl) (fun _ _ _ h => h) (Or.inl ⟨by rfl, ?_⟩) (by assumption) ?_
  rotate_left 1
  · intro w hSw; (try dsimp only at hSw); go_simp <;> with_reducible rfl
  try simp only [Act.put, List.setIfInBounds_toArray, List.set_cons_zero, List.set_cons_succ, List.getElem_toArray, List.getElem_cons_zero]
  refine wpAnyH_take (i := 1) (v := ?_) rfl (by kernel_rfl) (by kernel_rfl) (by kernel_rfl) (fun _ _ _ h => h) (Or.inl ⟨by rfl, ?_⟩) (by assumption) ?_
  rotate_left 1
  · intro w hSw; (try dsimp only at hSw); go_simp <;> with_reducible rfl
  try simp only [Act.put, List.setIfInBounds_toArray, List.set_cons_zero, List.set_cons_succ, List.getElem_toArray, List.getElem_cons_zero, List.getElem_cons_succ]
  refine wpAnyH_take (i := 2) (v := ?_) rfl (by kernel_rfl) (by kernel_rfl) (by kernel_rfl) (fun _ _ _ h => h) (Or.inl ⟨by rfl, ?_⟩) (by assumption) ?_
  rotate_left 1
  · intro w hSw; obtain ⟨z0, z1, z2, z3, z4, z5, z6, z7, z8, z9, z10⟩ := hSw; (try dsimp only at hSw); go_simp <;> with_reducible rfl
  try simp only [Act.put, List.setIfInBounds_toArray, List.set_cons_zero, List.set_cons_succ, List.getElem_toArray, List.getElem_cons_zero, List.getElem_cons_succ]
  refine wpAnyH_take (i := 4) (v := ?_) rfl (by kernel_rfl) (by kernel_rfl) (by kernel_rfl) (fun _ _ _ h => h) (Or.inl ⟨by rfl, ?_⟩) (by assumption) ?_
  rotate_left 1
  · intro w hSw; (try dsimp only at hSw); go_simp <;> with_reducible rfl
  try simp only [Act.put, List.setIfInBounds_toArray, List.set_cons_zero, List.set_cons_succ, List.getElem_toArray, List.getElem_cons_zero, List.getElem_cons_succ]
  refine wpAnyH_take (i := 5) (v := ?_) rfl (by kernel_rfl) (by kernel_rfl) (by kernel_rfl) (fun _ _ _ h => h) (Or.inl ⟨by rfl, ?_⟩) (by assumption) ?_
  rotate_left 1
  · intro w hSw; (try dsimp only at hSw); go_simp <;> with_reducible rfl
  try simp only [Act.put, List.setIfInBounds_toArray, List.set_cons_zero, List.set_cons_succ, List.getElem_toArray, List.getElem_cons_zero, List.getElem_cons_succ]
  refine wpAnyH_take (i := 6) (v := ?_) rfl (by kernel_rfl) (by kernel_rfl) (by kernel_rfl) (fun _ _ _ h => h) (Or.inl ⟨by rfl, ?_⟩) (by assumption) ?_
  rotate_left 1
  · intro w hSw; obtain ⟨z0, z1, z2, z3, z4, z5, z6, z7, z8, z9, z10⟩ := hSw; (try dsimp only at hSw); go_simp <;> with_reducible rfl
  try simp only [Act.put, List.setIfInBounds_toArray, List.set_cons_zero, List.set_cons_succ, List.getElem_toArray, List.getElem_cons_zero, List.getElem_cons_succ]
  refine wpAnyH_ready (rs := [3]) (by kernel_rfl) (by simp) (AllReadyH.cons rfl (fun K hK => ?_) AllReadyH.nil)
  have hPrev := hHeld
  clear hHeld
  go_simp
  refine (HA.out _ _ (M ++ [BP]) [.string (strB nm)] G2.out rfl).mono ?_
  rintro e w3 ⟨C3, rfl, hg3⟩
  have G3 := Lib.hid hg3
  clear hg3 HA
  refine hK.out _ _ (HS.out _ (HBP.out _ _ (GS.lastA G3.out))) (fun hHeld => ?_)
  clear hK K hPrev
  try simp only [Act.put, List.setIfInBounds_toArray, List.set_cons_zero, List.set_cons_succ, List.getElem_toArray, List.getElem_cons_zero, List.getElem_cons_succ]
  refine wpAnyH_ready (rs := [7]) (by kernel_rfl) (by simp) (AllReadyH.cons rfl (fun K hK => ?_) AllReadyH.nil)
  have hPrev := hHeld
  clear hHeld
  go_simp
  refine (HB.out _ _ (M ++ [BP]) [.string (strB nm)] G3.out rfl).mono ?_
  rintro e w4 ⟨C4, rfl, hg4⟩
  have G4 := Lib.hid hg4
  clear hg4 HB
  refine hK.out _ _ (HS.out _ (HBP.out _ _ (GS.lastA G4.out))) (fun hHeld => ?_)
  clear hK K hPrev
  try simp only [Act.put, List.setIfInBounds_toArray, List.set_cons_zero, List.set_cons_succ, List.getElem_toArray, List.getElem_cons_zero, List.getElem_cons_succ]
  refine wpAnyH_take (i := 8) (v := ?_) rfl (by kernel_rfl) (by kernel_rfl) (by kernel_rfl) (fun _ _ _ h => h) (Or.inl ⟨by rfl, ?_⟩) (by assumption) ?_
  rotate_left 1
  · intro w hSw; (try dsimp only at hSw); go_simp <;> with_reducible rfl
  try simp only [Act.put, List.setIfInBounds_toArray, List.set_cons_zero, List.set_cons_succ, List.getElem_toArray, List.getElem_cons_zero, List.getElem_cons_succ]
  refine wpAnyH_take (i := 9) (v := ?_) rfl (by kernel_rfl) (by kernel_rfl) (by kernel_rfl) (fun _ _ _ h => h) (Or.inl ⟨by rfl, ?_⟩) (by assumption) ?_
  rotate_left 1
  · intro w hSw; (try dsimp only at hSw); go_simp <;> with_reducible rfl
  try simp only [Act.put, List.setIfInBounds_toArray, List.set_cons_zero, List.set_cons_succ, List.getElem_toArray, List.getElem_cons_zero, List.getElem_cons_succ]
  refine wpAnyH_done (by kernel_rfl) ?_ _
  have HF : Hid (ChgQ w0 P h bs ns ds j x M (.returned (.bool true)) w4) := Lib.hid ⟨rfl, C4, d', r', h.g, HAL.out, GS.frontA G4.out⟩
  clear hHeld
  go_wp2_with fail
  go_ret
  exact HF.out
set_option maxRecDepth 20000 in
set_option maxHeartbeats 4000000 in
theorem changes_rename {w0 W : World} {C : Nat → Nat} {P : Nat} {h : Hd} {bs : List (List UInt8)} {ns : List (List (List UInt8))} {ds : List DE} {M : List PartT} {j : Nat} {x : DE} (hG : GS w0 W C (LP w0 P h bs ns ds ++ M)) (hx : ds[j]? = some x) (al : Alike x.d x.r x.n) (hn : x.n + 2 < 1000000) (c1 : Int) (nm ot : List UInt8) (sa : ByteArray) (tm c6 c7 c8 c9 : Int) (A : Option Addr) (m cp : Nat) : Calls Tryz.prog 59 #[.pointer (some ⟨P, 0, none⟩), .pointer (some ⟨x.p, 0, none⟩), .pointer (some ⟨x.q, 0, none⟩), .agg #[.int .i64 3, .int .i64 c1, .string (strB nm), .string (strB ot), .string sa, .int .i64 tm, .int .i64 c6, .int .i64 c7, .int .i64 c8, .int .i64 c9, .slice A m cp]] W (ChgQ w0 P h bs ns ds j x M) := by
  obtain ⟨w1, hw1⟩ : ∃ w1, w1 = W.alloc (.cells #[.int .i64 3, .int .i64 c1, .string (strB nm), .string (strB ot), .string sa, .int .i64 tm, .int .i64 c6, .int .i64 c7, .int .i64 c8, .int .i64 c9, .slice A m cp] 41) := ⟨_, rfl⟩
  obtain ⟨g, hg⟩ : ∃ g, g = W.heap.size := ⟨_, rfl⟩
  have hb : Below W.heap.size W w1 := by rw [hw1]; exact (Below.refl _ _).alloc (Nat.le_refl _) _
  have K1 : Hid (Blk w1 g 41 #[.int .i64 3, .int .i64 c1, .string (strB nm), .string (strB ot), .string sa, .int .i64 tm, .int .i64 c6, .int .i64 c7, .int .i64 c8, .int .i64 c9, .slice A m cp]) := Lib.hid (by rw [hw1, hg]; exact Blk.new W _ _ rfl)
  obtain ⟨cB, hcB⟩ : ∃ cB, cB = (LP w0 P h bs ns ds ++ M).length + 1 := ⟨_, rfl⟩
  obtain ⟨C1, hC1⟩ : ∃ C1, C1 = paint C W.heap.size cB := ⟨_, rfl⟩
  obtain ⟨BP, hBP⟩ : ∃ BP : PartT, BP = (fun W C => FrC W C cB (fun w => Blk w g 41 #[.int .i64 3, .int .i64 c1, .string (strB nm), .string (strB ot), .string sa, .int .i64 tm, .int .i64 c6, .int .i64 c7, .int .i64 c8, .int .i64 c9, .slice A m cp])) := ⟨_, rfl⟩
  have G1 : Hid (GS w0 w1 C1 (LP w0 P h bs ns ds ++ (M ++ [BP]))) := Lib.hid (by
    have h1 := hG.holdBlkA hb K1.out (by omega)
    rw [← hcB] at h1
    rw [hBP, hC1]; exact h1)
  have HDK : Hid (x.d.Ok x.n) := Lib.hid (DC.ok (LP.dk hG hx))
  have HBP : Hid (∀ w C, BP w C → Blk w g 41 #[.int .i64 3, .int .i64 c1, .string (strB nm), .string (strB ot), .string sa, .int .i64 tm, .int .i64 c6, .int .i64 c7, .int .i64 c8, .int .i64 c9, .slice A m cp]) := Lib.hid (fun w C h => by rw [hBP] at h; exact h.now)
  have HS : Hid (∀ w', Blk w' g 41 #[.int .i64 3, .int .i64 c1, .string (strB nm), .string (strB ot), .string sa, .int .i64 tm, .int .i64 c6, .int .i64 c7, .int .i64 c8, .int .i64 c9, .slice A m cp] → (fun w' => w'.cell? ⟨g, 0, none⟩ = some (.int .i64 3) ∧ w'.cell? ⟨g, 1, none⟩ = some (.int .i64 c1) ∧ w'.cell? ⟨g, 2, none⟩ = some (.string (strB nm)) ∧ w'.cell? ⟨g, 3, none⟩ = some (.string (strB ot)) ∧ w'.cell? ⟨g, 4, none⟩ = some (.string sa) ∧ w'.cell? ⟨g, 5, none⟩ = some (.int .i64 tm) ∧ w'.cell? ⟨g, 6, none⟩ = some (.int .i64 c6) ∧ w'.cell? ⟨g, 7, none⟩ = some (.int .i64 c7) ∧ w'.cell? ⟨g, 8, none⟩ = some (.int .i64 c8) ∧ w'.cell? ⟨g, 9, none⟩ = some (.int .i64 c9) ∧ w'.cell? ⟨g, 10, none⟩ = some (.slice A m cp)) w') := Lib.hid (fun w' hb => ⟨(hb.cell 0).trans rfl, (hb.cell 1).trans rfl, (hb.cell 2).trans rfl, (hb.cell 3).trans rfl, (hb.cell 4).trans rfl, (hb.cell 5).trans rfl, (hb.cell 6).trans rfl, (hb.cell 7).trans rfl, (hb.cell 8).trans rfl, (hb.cell 9).trans rfl, (hb.cell 10).trans rfl⟩)

  obtain ⟨v, d', r', al', hA, hB⟩ := PairC.at_ (w0 := w0) (P := P) (h := h) (bs := bs) (ns := ns) hx (pair_rename al HDK.out hn nm ot)
  have HA := Lib.hid hA; have HB := Lib.hid hB; have HAL := Lib.hid al'
  clear hb hG al hn hA hB al' hBP hC1 hcB hx
  go_enter Tryz.func59, Tryz.ntmps59
  go_upto_region 23 with fail
  rw [← hw1, ← hg]
  clear hw1 hg
  refine wp_region_any (by kernel_rfl) ?_
  change wpAny _ _ _ _ _ _ _ (World.drew _)
  refine wpAny_of_held (S := fun w' => w'.cell? ⟨g, 0, none⟩ = some (.int .i64 3) ∧ w'.cell? ⟨g, 1, none⟩ = some (.int .i64 c1) ∧ w'.cell? ⟨g, 2, none⟩ = some (.string (strB nm)) ∧ w'.cell? ⟨g, 3, none⟩ = some (.string (strB ot)) ∧ w'.cell? ⟨g, 4, none⟩ = some (.string sa) ∧ w'.cell? ⟨g, 5, none⟩ = some (.int .i64 tm) ∧ w'.cell? ⟨g, 6, none⟩ = some (.int .i64 c6) ∧ w'.cell? ⟨g, 7, none⟩ = some (.int .i64 c7) ∧ w'.cell? ⟨g, 8, none⟩ = some (.int .i64 c8) ∧ w'.cell? ⟨g, 9, none⟩ = some (.int .i64 c9) ∧ w'.cell? ⟨g, 10, none⟩ = some (.slice A m cp)) _ _ _ _ ?_
  obtain ⟨w2, hw2⟩ : ∃ w2, w2 = w1.drew := ⟨_, rfl⟩
  have G2 : Hid (GS w0 w2 C1 (LP w0 P h bs ns ds ++ (M ++ [BP]))) := Lib.hid (by rw [hw2]; exact G1.out.keep (Below.refl _ _).drew)
  rw [← hw2]
  clear hw2 K1 G1
  have hHeld : (fun w' => w'.cell? ⟨g, 0, none⟩ = some (.int .i64 3) ∧ w'.cell? ⟨g, 1, none⟩ = some (.int .i64 c1) ∧ w'.cell? ⟨g, 2, none⟩ = some (.string (strB nm)) ∧ w'.cell? ⟨g, 3, none⟩ = some (.string (strB ot)) ∧ w'.cell? ⟨g, 4, none⟩ = some (.string sa) ∧ w'.cell? ⟨g, 5, none⟩ = some (.int .i64 tm) ∧ w'.cell? ⟨g, 6, none⟩ = some (.int .i64 c6) ∧ w'.cell? ⟨g, 7, none⟩ = some (.int .i64 c7) ∧ w'.cell? ⟨g, 8, none⟩ = some (.int .i64 c8) ∧ w'.cell? ⟨g, 9, none⟩ = some (.int .i64 c9) ∧ w'.cell? ⟨g, 10, none⟩ = some (.slice A m cp)) w2 := HS.out _ (HBP.out _ _ (GS.lastA G2.out))
  refine wpAnyH_take (i := 0) (v := ?_) rfl (by kernel_rfl) (by kernel_rfl) (by kernel_rfl) (fun _ _ _ h => h) (Or.inl ⟨by rfl, ?_⟩) (by assumption) ?_
  rotate_left 1
  · intro w hSw; (try dsimp only at hSw); go_simp <;> with_reducible rfl
  try simp only [Act.put, List.setIfInBounds_toArray, List.set_cons_zero, List.set_cons_succ, List.getElem_toArray, List.getElem_cons_zero]
  refine wpAnyH_take (i := 1) (v := ?_) rfl (by kernel_rfl) (by kernel_rfl) (by kernel_rfl) (fun _ _ _ h => h) (Or.inl ⟨by rfl, ?_⟩) (by assumption) ?_
  rotate_left 1
  · intro w hSw; (try dsimp only at hSw); go_simp <;> with_reducible rfl
  try simp only [Act.put, List.setIfInBounds_toArray, List.set_cons_zero, List.set_cons_succ, List.getElem_toArray, List.getElem_cons_zero, List.getElem_cons_succ]
  refine wpAnyH_take (i := 2) (v := ?_) rfl (by kernel_rfl) (by kernel_rfl) (by kernel_rfl) (fun _ _ _ h => h) (Or.inl ⟨by rfl, ?_⟩) (by assumption) ?_
  rotate_left 1
  · intro w hSw; obtain ⟨z0, z1, z2, z3, z4, z5, z6, z7, z8, z9, z10⟩ := hSw; (try dsimp only at hSw); go_simp <;> with_reducible rfl
  try simp only [Act.put, List.setIfInBounds_toArray, List.set_cons_zero, List.set_cons_succ, List.getElem_toArray, List.getElem_cons_zero, List.getElem_cons_succ]
  refine wpAnyH_take (i := 3) (v := ?_) rfl (by kernel_rfl) (by kernel_rfl) (by kernel_rfl) (fun _ _ _ h => h) (Or.inl ⟨by rfl, ?_⟩) (by assumption) ?_
  rotate_left 1
  · intro w hSw; (try dsimp only at hSw); go_simp <;> with_reducible rfl
  try simp only [Act.put, List.setIfInBounds_toArray, List.set_cons_zero, List.set_cons_succ, List.getElem_toArray, List.getElem_cons_zero, List.getElem_cons_succ]
  refine wpAnyH_take (i := 4) (v := ?_) rfl (by kernel_rfl) (by kernel_rfl) (by kernel_rfl) (fun _ _ _ h => h) (Or.inl ⟨by rfl, ?_⟩) (by assumption) ?_
  rotate_left 1
  · intro w hSw; obtain ⟨z0, z1, z2, z3, z4, z5, z6, z7, z8, z9, z10⟩ := hSw; (try dsimp only at hSw); go_simp <;> with_reducible rfl
  try simp only [Act.put, List.setIfInBounds_toArray, List.set_cons_zero, List.set_cons_succ, List.getElem_toArray, List.getElem_cons_zero, List.getElem_cons_succ]
  refine wpAnyH_take (i := 6) (v := ?_) rfl (by kernel_rfl) (by kernel_rfl) (by kernel_rfl) (fun _ _ _ h => h) (Or.inl ⟨by rfl, ?_⟩) (by assumption) ?_
  rotate_left 1
  · intro w hSw; (try dsimp only at hSw); go_simp <;> with_reducible rfl
  try simp only [Act.put, List.setIfInBounds_toArray, List.set_cons_zero, List.set_cons_succ, List.getElem_toArray, List.getElem_cons_zero, List.getElem_cons_succ]
  refine wpAnyH_take (i := 7) (v := ?_) rfl (by kernel_rfl) (by kernel_rfl) (by kernel_rfl) (fun _ _ _ h => h) (Or.inl ⟨by rfl, ?_⟩) (by assumption) ?_
  rotate_left 1
  · intro w hSw; (try dsimp only at hSw); go_simp <;> with_reducible rfl
  try simp only [Act.put, List.setIfInBounds_toArray, List.set_cons_zero, List.set_cons_succ, List.getElem_toArray, List.getElem_cons_zero, List.getElem_cons_succ]
  refine wpAnyH_take (i := 8) (v := ?_) rfl (by kernel_rfl) (by kernel_rfl) (by kernel_rfl) (fun _ _ _ h => h) (Or.inl ⟨by rfl, ?_⟩) (by assumption) ?_
  rotate_left 1
  · intro w hSw; obtain ⟨z0, z1, z2, z3, z4, z5, z6, z7, z8, z9, z10⟩ := hSw; (try dsimp only at hSw); go_simp <;> with_reducible rfl
  try simp only [Act.put, List.setIfInBounds_toArray, List.set_cons_zero, List.set_cons_succ, List.getElem_toArray, List.getElem_cons_zero, List.getElem_cons_succ]
  refine wpAnyH_take (i := 9) (v := ?_) rfl (by kernel_rfl) (by kernel_rfl) (by kernel_rfl) (fun _ _ _ h => h) (Or.inl ⟨by rfl, ?_⟩) (by assumption) ?_
  rotate_left 1
  · intro w hSw; (try dsimp only at hSw); go_simp <;> with_reducible rfl
  try simp only [Act.put, List.setIfInBounds_toArray, List.set_cons_zero, List.set_cons_succ, List.getElem_toArray, List.getElem_cons_zero, List.getElem_cons_succ]
  refine wpAnyH_take (i := 10) (v := ?_) rfl (by kernel_rfl) (by kernel_rfl) (by kernel_rfl) (fun _ _ _ h => h) (Or.inl ⟨by rfl, ?_⟩) (by assumption) ?_
  rotate_left 1
  · intro w hSw; obtain ⟨z0, z1, z2, z3, z4, z5, z6, z7, z8, z9, z10⟩ := hSw; (try dsimp only at hSw); go_simp <;> with_reducible rfl
  try simp only [Act.put, List.setIfInBounds_toArray, List.set_cons_zero, List.set_cons_succ, List.getElem_toArray, List.getElem_cons_zero, List.getElem_cons_succ]
  refine wpAnyH_ready (rs := [5]) (by kernel_rfl) (by simp) (AllReadyH.cons rfl (fun K hK => ?_) AllReadyH.nil)
  have hPrev := hHeld
  clear hHeld
  go_simp
  refine (HA.out _ _ (M ++ [BP]) [.string (strB nm), .string (strB ot)] G2.out rfl).mono ?_
  rintro e w3 ⟨C3, rfl, hg3⟩
  have G3 := Lib.hid hg3
  clear hg3 HA
  refine hK.out _ _ (HS.out _ (HBP.out _ _ (GS.lastA G3.out))) (fun hHeld => ?_)
  clear hK K hPrev
  try simp only [Act.put, List.setIfInBounds_toArray, List.set_cons_zero, List.set_cons_succ, List.getElem_toArray, List.getElem_cons_zero, List.getElem_cons_succ]
  refine wpAnyH_ready (rs := [11]) (by kernel_rfl) (by simp) (AllReadyH.cons rfl (fun K hK => ?_) AllReadyH.nil)
  have hPrev := hHeld
  clear hHeld
  go_simp
  refine (HB.out _ _ (M ++ [BP]) [.string (strB nm), .string (strB ot)] G3.out rfl).mono ?_
  rintro e w4 ⟨C4, rfl, hg4⟩
  have G4 := Lib.hid hg4
  clear hg4 HB
  refine hK.out _ _ (HS.out _ (HBP.out _ _ (GS.lastA G4.out))) (fun hHeld => ?_)
  clear hK K hPrev
  try simp only [Act.put, List.setIfInBounds_toArray, List.set_cons_zero, List.set_cons_succ, List.getElem_toArray, List.getElem_cons_zero, List.getElem_cons_succ]
  refine wpAnyH_take (i := 12) (v := ?_) rfl (by kernel_rfl) (by kernel_rfl) (by kernel_rfl) (fun _ _ _ h => h) (Or.inl ⟨by rfl, ?_⟩) (by assumption) ?_
  rotate_left 1
  · intro w hSw; (try dsimp only at hSw); go_simp <;> with_reducible rfl
  try simp only [Act.put, List.setIfInBounds_toArray, List.set_cons_zero, List.set_cons_succ, List.getElem_toArray, List.getElem_cons_zero, List.getElem_cons_succ]
  refine wpAnyH_take (i := 13) (v := ?_) rfl (by kernel_rfl) (by kernel_rfl) (by kernel_rfl) (fun _ _ _ h => h) (Or.inl ⟨by rfl, ?_⟩) (by assumption) ?_
  rotate_left 1
  · intro w hSw; (try dsimp only at hSw); go_simp <;> with_reducible rfl
  try simp only [Act.put, List.setIfInBounds_toArray, List.set_cons_zero, List.set_cons_succ, List.getElem_toArray, List.getElem_cons_zero, List.getElem_cons_succ]
  refine wpAnyH_done (by kernel_rfl) ?_ _
  have HF : Hid (ChgQ w0 P h bs ns ds j x M (.returned (.bool true)) w4) := Lib.hid ⟨rfl, C4, d', r', h.g, HAL.out, GS.frontA G4.out⟩
  clear hHeld
  go_wp2_with fail
  go_ret
  exact HF.out
set_option maxRecDepth 20000 in
set_option maxHeartbeats 4000000 in
theorem changes_remove {w0 W : World} {C : Nat → Nat} {P : Nat} {h : Hd} {bs : List (List UInt8)} {ns : List (List (List UInt8))} {ds : List DE} {M : List PartT} {j : Nat} {x : DE} (hG : GS w0 W C (LP w0 P h bs ns ds ++ M)) (hx : ds[j]? = some x) (al : Alike x.d x.r x.n) (hn : x.n + 2 < 1000000) (c1 : Int) (nm ot : List UInt8) (sa : ByteArray) (tm c6 c7 c8 c9 : Int) (A : Option Addr) (m cp : Nat) : Calls Tryz.prog 59 #[.pointer (some ⟨P, 0, none⟩), .pointer (some ⟨x.p, 0, none⟩), .pointer (some ⟨x.q, 0, none⟩), .agg #[.int .i64 4, .int .i64 c1, .string (strB nm), .string (strB ot), .string sa, .int .i64 tm, .int .i64 c6, .int .i64 c7, .int .i64 c8, .int .i64 c9, .slice A m cp]] W (ChgQ w0 P h bs ns ds j x M) := by
  obtain ⟨w1, hw1⟩ : ∃ w1, w1 = W.alloc (.cells #[.int .i64 4, .int .i64 c1, .string (strB nm), .string (strB ot), .string sa, .int .i64 tm, .int .i64 c6, .int .i64 c7, .int .i64 c8, .int .i64 c9, .slice A m cp] 41) := ⟨_, rfl⟩
  obtain ⟨g, hg⟩ : ∃ g, g = W.heap.size := ⟨_, rfl⟩
  have hb : Below W.heap.size W w1 := by rw [hw1]; exact (Below.refl _ _).alloc (Nat.le_refl _) _
  have K1 : Hid (Blk w1 g 41 #[.int .i64 4, .int .i64 c1, .string (strB nm), .string (strB ot), .string sa, .int .i64 tm, .int .i64 c6, .int .i64 c7, .int .i64 c8, .int .i64 c9, .slice A m cp]) := Lib.hid (by rw [hw1, hg]; exact Blk.new W _ _ rfl)
  obtain ⟨cB, hcB⟩ : ∃ cB, cB = (LP w0 P h bs ns ds ++ M).length + 1 := ⟨_, rfl⟩
  obtain ⟨C1, hC1⟩ : ∃ C1, C1 = paint C W.heap.size cB := ⟨_, rfl⟩
  obtain ⟨BP, hBP⟩ : ∃ BP : PartT, BP = (fun W C => FrC W C cB (fun w => Blk w g 41 #[.int .i64 4, .int .i64 c1, .string (strB nm), .string (strB ot), .string sa, .int .i64 tm, .int .i64 c6, .int .i64 c7, .int .i64 c8, .int .i64 c9, .slice A m cp])) := ⟨_, rfl⟩
  have G1 : Hid (GS w0 w1 C1 (LP w0 P h bs ns ds ++ (M ++ [BP]))) := Lib.hid (by
    have h1 := hG.holdBlkA hb K1.out (by omega)
    rw [← hcB] at h1
    rw [hBP, hC1]; exact h1)
  have HDK : Hid (x.d.Ok x.n) := Lib.hid (DC.ok (LP.dk hG hx))
  have HBP : Hid (∀ w C, BP w C → Blk w g 41 #[.int .i64 4, .int .i64 c1, .string (strB nm), .string (strB ot), .string sa, .int .i64 tm, .int .i64 c6, .int .i64 c7, .int .i64 c8, .int .i64 c9, .slice A m cp]) := Lib.hid (fun w C h => by rw [hBP] at h; exact h.now)
  have HS : Hid (∀ w', Blk w' g 41 #[.int .i64 4, .int .i64 c1, .string (strB nm), .string (strB ot), .string sa, .int .i64 tm, .int .i64 c6, .int .i64 c7, .int .i64 c8, .int .i64 c9, .slice A m cp] → (fun w' => w'.cell? ⟨g, 0, none⟩ = some (.int .i64 4) ∧ w'.cell? ⟨g, 1, none⟩ = some (.int .i64 c1) ∧ w'.cell? ⟨g, 2, none⟩ = some (.string (strB nm)) ∧ w'.cell? ⟨g, 3, none⟩ = some (.string (strB ot)) ∧ w'.cell? ⟨g, 4, none⟩ = some (.string sa) ∧ w'.cell? ⟨g, 5, none⟩ = some (.int .i64 tm) ∧ w'.cell? ⟨g, 6, none⟩ = some (.int .i64 c6) ∧ w'.cell? ⟨g, 7, none⟩ = some (.int .i64 c7) ∧ w'.cell? ⟨g, 8, none⟩ = some (.int .i64 c8) ∧ w'.cell? ⟨g, 9, none⟩ = some (.int .i64 c9) ∧ w'.cell? ⟨g, 10, none⟩ = some (.slice A m cp)) w') := Lib.hid (fun w' hb => ⟨(hb.cell 0).trans rfl, (hb.cell 1).trans rfl, (hb.cell 2).trans rfl, (hb.cell 3).trans rfl, (hb.cell 4).trans rfl, (hb.cell 5).trans rfl, (hb.cell 6).trans rfl, (hb.cell 7).trans rfl, (hb.cell 8).trans rfl, (hb.cell 9).trans rfl, (hb.cell 10).trans rfl⟩)

  obtain ⟨v, d', r', al', hA, hB⟩ := PairC.at_ (w0 := w0) (P := P) (h := h) (bs := bs) (ns := ns) hx (pair_remove al HDK.out hn nm)
  have HA := Lib.hid hA; have HB := Lib.hid hB; have HAL := Lib.hid al'
  clear hb hG al hn hA hB al' hBP hC1 hcB hx
  go_enter Tryz.func59, Tryz.ntmps59
  go_upto_region 25 with fail
  rw [← hw1, ← hg]
  clear hw1 hg
  refine wp_region_any (by kernel_rfl) ?_
  change wpAny _ _ _ _ _ _ _ (World.drew _)
  refine wpAny_of_held (S := fun w' => w'.cell? ⟨g, 0, none⟩ = some (.int .i64 4) ∧ w'.cell? ⟨g, 1, none⟩ = some (.int .i64 c1) ∧ w'.cell? ⟨g, 2, none⟩ = some (.string (strB nm)) ∧ w'.cell? ⟨g, 3, none⟩ = some (.string (strB ot)) ∧ w'.cell? ⟨g, 4, none⟩ = some (.string sa) ∧ w'.cell? ⟨g, 5, none⟩ = some (.int .i64 tm) ∧ w'.cell? ⟨g, 6, none⟩ = some (.int .i64 c6) ∧ w'.cell? ⟨g, 7, none⟩ = some (.int .i64 c7) ∧ w'.cell? ⟨g, 8, none⟩ = some (.int .i64 c8) ∧ w'.cell? ⟨g, 9, none⟩ = some (.int .i64 c9) ∧ w'.cell? ⟨g, 10, none⟩ = some (.slice A m cp)) _ _ _ _ ?_
  obtain ⟨w2, hw2⟩ : ∃ w2, w2 = w1.drew := ⟨_, rfl⟩
  have G2 : Hid (GS w0 w2 C1 (LP w0 P h bs ns ds ++ (M ++ [BP]))) := Lib.hid (by rw [hw2]; exact G1.out.keep (Below.refl _ _).drew)
  rw [← hw2]
  clear hw2 K1 G1
  have hHeld : (fun w' => w'.cell? ⟨g, 0, none⟩ = some (.int .i64 4) ∧ w'.cell? ⟨g, 1, none⟩ = some (.int .i64 c1) ∧ w'.cell? ⟨g, 2, none⟩ = some (.string (strB nm)) ∧ w'.cell? ⟨g, 3, none⟩ = some (.string (strB ot)) ∧ w'.cell? ⟨g, 4, none⟩ = some (.string sa) ∧ w'.cell? ⟨g, 5, none⟩ = some (.int .i64 tm) ∧ w'.cell? ⟨g, 6, none⟩ = some (.int .i64 c6) ∧ w'.cell? ⟨g, 7, none⟩ = some (.int .i64 c7) ∧ w'.cell? ⟨g, 8, none⟩ = some (.int .i64 c8) ∧ w'.cell? ⟨g, 9, none⟩ = some (.int .i64 c9) ∧ w'.cell? ⟨g, 10, none⟩ = some (.slice A m cp)) w2 := HS.out _ (HBP.out _ _ (GS.lastA G2.out))
  refine wpAnyH_take (i := 0) (v := ?_) rfl (by kernel_rfl) (by kernel_rfl) (by kernel_rfl) (fun _ _ _ h => h) (Or.inl ⟨by rfl, ?_⟩) (by assumption) ?_
  rotate_left 1
  · intro w hSw; (try dsimp only at hSw); go_simp <;> with_reducible rfl
  try simp only [Act.put, List.setIfInBounds_toArray, List.set_cons_zero, List.set_cons_succ, List.getElem_toArray, List.getElem_cons_zero]
  refine wpAnyH_take (i := 1) (v := ?_) rfl (by kernel_rfl) (by kernel_rfl) (by kernel_rfl) (fun _ _ _ h => h) (Or.inl ⟨by rfl, ?_⟩) (by assumption) ?_
  rotate_left 1
  · intro w hSw; (try dsimp only at hSw); go_simp <;> with_reducible rfl
  try simp only [Act.put, List.setIfInBounds_toArray, List.set_cons_zero, List.set_cons_succ, List.getElem_toArray, List.getElem_cons_zero, List.getElem_cons_succ]
  refine wpAnyH_take (i := 2) (v := ?_) rfl (by kernel_rfl) (by kernel_rfl) (by kernel_rfl) (fun _ _ _ h => h) (Or.inl ⟨by rfl, ?_⟩) (by assumption) ?_
  rotate_left 1
  · intro w hSw; obtain ⟨z0, z1, z2, z3, z4, z5, z6, z7, z8, z9, z10⟩ := hSw; (try dsimp only at hSw); go_simp <;> with_reducible rfl
  try simp only [Act.put, List.setIfInBounds_toArray, List.set_cons_zero, List.set_cons_succ, List.getElem_toArray, List.getElem_cons_zero, List.getElem_cons_succ]
  refine wpAnyH_take (i := 4) (v := ?_) rfl (by kernel_rfl) (by kernel_rfl) (by kernel_rfl) (fun _ _ _ h => h) (Or.inl ⟨by rfl, ?_⟩) (by assumption) ?_
  rotate_left 1
  · intro w hSw; (try dsimp only at hSw); go_simp <;> with_reducible rfl
  try simp only [Act.put, List.setIfInBounds_toArray, List.set_cons_zero, List.set_cons_succ, List.getElem_toArray, List.getElem_cons_zero, List.getElem_cons_succ]
  refine wpAnyH_take (i := 5) (v := ?_) rfl (by kernel_rfl) (by kernel_rfl) (by kernel_rfl) (fun _ _ _ h => h) (Or.inl ⟨by rfl, ?_⟩) (by assumption) ?_
  rotate_left 1
  · intro w hSw; (try dsimp only at hSw); go_simp <;> with_reducible rfl
  try simp only [Act.put, List.setIfInBounds_toArray, List.set_cons_zero, List.set_cons_succ, List.getElem_toArray, List.getElem_cons_zero, List.getElem_cons_succ]
  refine wpAnyH_take (i := 6) (v := ?_) rfl (by kernel_rfl) (by kernel_rfl) (by kernel_rfl) (fun _ _ _ h => h) (Or.inl ⟨by rfl, ?_⟩) (by assumption) ?_
  rotate_left 1
  · intro w hSw; obtain ⟨z0, z1, z2, z3, z4, z5, z6, z7, z8, z9, z10⟩ := hSw; (try dsimp only at hSw); go_simp <;> with_reducible rfl
  try simp only [Act.put, List.setIfInBounds_toArray, List.set_cons_zero, List.set_cons_succ, List.getElem_toArray, List.getElem_cons_zero, List.getElem_cons_succ]
  refine wpAnyH_ready (rs := [3]) (by kernel_rfl) (by simp) (AllReadyH.cons rfl (fun K hK => ?_) AllReadyH.nil)
  have hPrev := hHeld
  clear hHeld
  go_simp
  refine (HA.out _ _ (M ++ [BP]) [.string (strB nm)] G2.out rfl).mono ?_
  rintro e w3 ⟨C3, rfl, hg3⟩
  have G3 := Lib.hid hg3
  clear hg3 HA
  refine hK.out _ _ (HS.out _ (HBP.out _ _ (GS.lastA G3.out))) (fun hHeld => ?_)
  clear hK K hPrev
  try simp only [Act.put, List.setIfInBounds_toArray, List.set_cons_zero, List.set_cons_succ, List.getElem_toArray, List.getElem_cons_zero, List.getElem_cons_succ]
  refine wpAnyH_ready (rs := [7]) (by kernel_rfl) (by simp) (AllReadyH.cons rfl (fun K hK => ?_) AllReadyH.nil)
  have hPrev := hHeld
  clear hHeld
  go_simp
  refine (HB.out _ _ (M ++ [BP]) [.string (strB nm)] G3.out rfl).mono ?_
  rintro e w4 ⟨C4, rfl, hg4⟩
  have G4 := Lib.hid hg4
  clear hg4 HB
  refine hK.out _ _ (HS.out _ (HBP.out _ _ (GS.lastA G4.out))) (fun hHeld => ?_)
  clear hK K hPrev
  try simp only [Act.put, List.setIfInBounds_toArray, List.set_cons_zero, List.set_cons_succ, List.getElem_toArray, List.getElem_cons_zero, List.getElem_cons_succ]
  refine wpAnyH_take (i := 8) (v := ?_) rfl (by kernel_rfl) (by kernel_rfl) (by kernel_rfl) (fun _ _ _ h => h) (Or.inl ⟨by rfl, ?_⟩) (by assumption) ?_
  rotate_left 1
  · intro w hSw; (try dsimp only at hSw); go_simp <;> with_reducible rfl
  try simp only [Act.put, List.setIfInBounds_toArray, List.set_cons_zero, List.set_cons_succ, List.getElem_toArray, List.getElem_cons_zero, List.getElem_cons_succ]
  refine wpAnyH_take (i := 9) (v := ?_) rfl (by kernel_rfl) (by kernel_rfl) (by kernel_rfl) (fun _ _ _ h => h) (Or.inl ⟨by rfl, ?_⟩) (by assumption) ?_
  rotate_left 1
  · intro w hSw; (try dsimp only at hSw); go_simp <;> with_reducible rfl
  try simp only [Act.put, List.setIfInBounds_toArray, List.set_cons_zero, List.set_cons_succ, List.getElem_toArray, List.getElem_cons_zero, List.getElem_cons_succ]
  refine wpAnyH_done (by kernel_rfl) ?_ _
  have HF : Hid (ChgQ w0 P h bs ns ds j x M (.returned (.bool true)) w4) := Lib.hid ⟨rfl, C4, d', r', h.g, HAL.out, GS.frontA G4.out⟩
  clear hHeld
  go_wp2_with fail
  go_ret
  exact HF.out
set_option maxRecDepth 20000 in
set_option maxHeartbeats 4000000 in
theorem changes_sync {w0 W : World} {C : Nat → Nat} {P : Nat} {h : Hd} {bs : List (List UInt8)} {ns : List (List (List UInt8))} {ds : List DE} {M : List PartT} {j : Nat} {x : DE} (hG : GS w0 W C (LP w0 P h bs ns ds ++ M)) (hx : ds[j]? = some x) (al : Alike x.d x.r x.n) (hn : x.n + 2 < 1000000) (c1 : Int) (nm ot : List UInt8) (sa : ByteArray) (tm c6 c7 c8 c9 : Int) (A : Option Addr) (m cp : Nat) : Calls Tryz.prog 59 #[.pointer (some ⟨P, 0, none⟩), .pointer (some ⟨x.p, 0, none⟩), .pointer (some ⟨x.q, 0, none⟩), .agg #[.int .i64 5, .int .i64 c1, .string (strB nm), .string (strB ot), .string sa, .int .i64 tm, .int .i64 c6, .int .i64 c7, .int .i64 c8, .int .i64 c9, .slice A m cp]] W (ChgQ w0 P h bs ns ds j x M) := by
  obtain ⟨w1, hw1⟩ : ∃ w1, w1 = W.alloc (.cells #[.int .i64 5, .int .i64 c1, .string (strB nm), .string (strB ot), .string sa, .int .i64 tm, .int .i64 c6, .int .i64 c7, .int .i64 c8, .int .i64 c9, .slice A m cp] 41) := ⟨_, rfl⟩
  obtain ⟨g, hg⟩ : ∃ g, g = W.heap.size := ⟨_, rfl⟩
  have hb : Below W.heap.size W w1 := by rw [hw1]; exact (Below.refl _ _).alloc (Nat.le_refl _) _
  have K1 : Hid (Blk w1 g 41 #[.int .i64 5, .int .i64 c1, .string (strB nm), .string (strB ot), .string sa, .int .i64 tm, .int .i64 c6, .int .i64 c7, .int .i64 c8, .int .i64 c9, .slice A m cp]) := Lib.hid (by rw [hw1, hg]; exact Blk.new W _ _ rfl)
  obtain ⟨cB, hcB⟩ : ∃ cB, cB = (LP w0 P h bs ns ds ++ M).length + 1 := ⟨_, rfl⟩
  obtain ⟨C1, hC1⟩ : ∃ C1, C1 = paint C W.heap.size cB := ⟨_, rfl⟩
  obtain ⟨BP, hBP⟩ : ∃ BP : PartT, BP = (fun W C => FrC W C cB (fun w => Blk w g 41 #[.int .i64 5, .int .i64 c1, .string (strB nm), .string (strB ot), .string sa, .int .i64 tm, .int .i64 c6, .int .i64 c7, .int .i64 c8, .int .i64 c9, .slice A m cp])) := ⟨_, rfl⟩
  have G1 : Hid (GS w0 w1 C1 (LP w0 P h bs ns ds ++ (M ++ [BP]))) := Lib.hid (by
    have h1 := hG.holdBlkA hb K1.out (by omega)
    rw [← hcB] at h1
    rw [hBP, hC1]; exact h1)
  have HDK : Hid (x.d.Ok x.n) := Lib.hid (DC.ok (LP.dk hG hx))
  have HBP : Hid (∀ w C, BP w C → Blk w g 41 #[.int .i64 5, .int .i64 c1, .string (strB nm), .string (strB ot), .string sa, .int .i64 tm, .int .i64 c6, .int .i64 c7, .int .i64 c8, .int .i64 c9, .slice A m cp]) := Lib.hid (fun w C h => by rw [hBP] at h; exact h.now)
  have HS : Hid (∀ w', Blk w' g 41 #[.int .i64 5, .int .i64 c1, .string (strB nm), .string (strB ot), .string sa, .int .i64 tm, .int .i64 c6, .int .i64 c7, .int .i64 c8, .int .i64 c9, .slice A m cp] → (fun w' => w'.cell? ⟨g, 0, none⟩ = some (.int .i64 5) ∧ w'.cell? ⟨g, 1, none⟩ = some (.int .i64 c1) ∧ w'.cell? ⟨g, 2, none⟩ = some (.string (strB nm)) ∧ w'.cell? ⟨g, 3, none⟩ = some (.string (strB ot)) ∧ w'.cell? ⟨g, 4, none⟩ = some (.string sa) ∧ w'.cell? ⟨g, 5, none⟩ = some (.int .i64 tm) ∧ w'.cell? ⟨g, 6, none⟩ = some (.int .i64 c6) ∧ w'.cell? ⟨g, 7, none⟩ = some (.int .i64 c7) ∧ w'.cell? ⟨g, 8, none⟩ = some (.int .i64 c8) ∧ w'.cell? ⟨g, 9, none⟩ = some (.int .i64 c9) ∧ w'.cell? ⟨g, 10, none⟩ = some (.slice A m cp)) w') := Lib.hid (fun w' hb => ⟨(hb.cell 0).trans rfl, (hb.cell 1).trans rfl, (hb.cell 2).trans rfl, (hb.cell 3).trans rfl, (hb.cell 4).trans rfl, (hb.cell 5).trans rfl, (hb.cell 6).trans rfl, (hb.cell 7).trans rfl, (hb.cell 8).trans rfl, (hb.cell 9).trans rfl, (hb.cell 10).trans rfl⟩)

  obtain ⟨v, d', r', al', hA, hB⟩ := PairC.at_ (w0 := w0) (P := P) (h := h) (bs := bs) (ns := ns) hx (pair_sync al HDK.out hn nm)
  have HA := Lib.hid hA; have HB := Lib.hid hB; have HAL := Lib.hid al'
  clear hb hG al hn hA hB al' hBP hC1 hcB hx
  go_enter Tryz.func59, Tryz.ntmps59
  go_upto_region 27 with fail
  rw [← hw1, ← hg]
  clear hw1 hg
  refine wp_region_any (by kernel_rfl) ?_
  change wpAny _ _ _ _ _ _ _ (World.drew _)
  refine wpAny_of_held (S := fun w' => w'.cell? ⟨g, 0, none⟩ = some (.int .i64 5) ∧ w'.cell? ⟨g, 1, none⟩ = some (.int .i64 c1) ∧ w'.cell? ⟨g, 2, none⟩ = some (.string (strB nm)) ∧ w'.cell? ⟨g, 3, none⟩ = some (.string (strB ot)) ∧ w'.cell? ⟨g, 4, none⟩ = some (.string sa) ∧ w'.cell? ⟨g, 5, none⟩ = some (.int .i64 tm) ∧ w'.cell? ⟨g, 6, none⟩ = some (.int .i64 c6) ∧ w'.cell? ⟨g, 7, none⟩ = some (.int .i64 c7) ∧ w'.cell? ⟨g, 8, none⟩ = some (.int .i64 c8) ∧ w'.cell? ⟨g, 9, none⟩ = some (.int .i64 c9) ∧ w'.cell? ⟨g, 10, none⟩ = some (.slice A m cp)) _ _ _ _ ?_
  obtain ⟨w2, hw2⟩ : ∃ w2, w2 = w1.drew := ⟨_, rfl⟩
  have G2 : Hid (GS w0 w2 C1 (LP w0 P h bs ns ds ++ (M ++ [BP]))) := Lib.hid (by rw [hw2]; exact G1.out.keep (Below.refl _ _).drew)
  rw [← hw2]
  clear hw2 K1 G1
  have hHeld : (fun w' => w'.cell? ⟨g, 0, none⟩ = some (.int .i64 5) ∧ w'.cell? ⟨g, 1, none⟩ = some (.int .i64 c1) ∧ w'.cell? ⟨g, 2, none⟩ = some (.string (strB nm)) ∧ w'.cell? ⟨g, 3, none⟩ = some (.string (strB ot)) ∧ w'.cell? ⟨g, 4, none⟩ = some (.string sa) ∧ w'.cell? ⟨g, 5, none⟩ = some (.int .i64 tm) ∧ w'.cell? ⟨g, 6, none⟩ = some (.int .i64 c6) ∧ w'.cell? ⟨g, 7, none⟩ = some (.int .i64 c7) ∧ w'.cell? ⟨g, 8, none⟩ = some (.int .i64 c8) ∧ w'.cell? ⟨g, 9, none⟩ = some (.int .i64 c9) ∧ w'.cell? ⟨g, 10, none⟩ = some (.slice A m cp)) w2 := HS.out _ (HBP.out _ _ (GS.lastA G2.out))
  refine wpAnyH_take (i := 0) (v := ?_) rfl (by kernel_rfl) (by kernel_rfl) (by kernel_rfl) (fun _ _ _ h => h) (Or.inl ⟨by rfl, ?_⟩) (by assumption) ?_
  rotate_left 1
  · intro w hSw; (try dsimp only at hSw); go_simp <;> with_reducible rfl
  try simp only [Act.put, List.setIfInBounds_toArray, List.set_cons_zero, List.set_cons_succ, List.getElem_toArray, List.getElem_cons_zero]
  refine wpAnyH_take (i := 1) (v := ?_) rfl (by kernel_rfl) (by kernel_rfl) (by kernel_rfl) (fun _ _ _ h => h) (Or.inl ⟨by rfl, ?_⟩) (by assumption) ?_
  rotate_left 1
  · intro w hSw; (try dsimp only at hSw); go_simp <;> with_reducible rfl
  try simp only [Act.put, List.setIfInBounds_toArray, List.set_cons_zero, List.set_cons_succ, List.getElem_toArray, List.getElem_cons_zero, List.getElem_cons_succ]
  refine wpAnyH_take (i := 2) (v := ?_) rfl (by kernel_rfl) (by kernel_rfl) (by kernel_rfl) (fun _ _ _ h => h) (Or.inl ⟨by rfl, ?_⟩) (by assumption) ?_
  rotate_left 1
  · intro w hSw; obtain ⟨z0, z1, z2, z3, z4, z5, z6, z7, z8, z9, z10⟩ := hSw; (try dsimp only at hSw); go_simp <;> with_reducible rfl
  try simp only [Act.put, List.setIfInBounds_toArray, List.set_cons_zero, List.set_cons_succ, List.getElem_toArray, List.getElem_cons_zero, List.getElem_cons_succ]
  refine wpAnyH_take (i := 4) (v := ?_) rfl (by kernel_rfl) (by kernel_rfl) (by kernel_rfl) (fun _ _ _ h => h) (Or.inl ⟨by rfl, ?_⟩) (by assumption) ?_
  rotate_left 1
  · intro w hSw; (try dsimp only at hSw); go_simp <;> with_reducible rfl
  try simp only [Act.put, List.setIfInBounds_toArray, List.set_cons_zero, List.set_cons_succ, List.getElem_toArray, List.getElem_cons_zero, List.getElem_cons_succ]
  refine wpAnyH_take (i := 5) (v := ?_) rfl (by kernel_rfl) (by kernel_rfl) (by kernel_rfl) (fun _ _ _ h => h) (Or.inl ⟨by rfl, ?_⟩) (by assumption) ?_
  rotate_left 1
  · intro w hSw; (try dsimp only at hSw); go_simp <;> with_reducible rfl
  try simp only [Act.put, List.setIfInBounds_toArray, List.set_cons_zero, List.set_cons_succ, List.getElem_toArray, List.getElem_cons_zero, List.getElem_cons_succ]
  refine wpAnyH_take (i := 6) (v := ?_) rfl (by kernel_rfl) (by kernel_rfl) (by kernel_rfl) (fun _ _ _ h => h) (Or.inl ⟨by rfl, ?_⟩) (by assumption) ?_
  rotate_left 1
  · intro w hSw; obtain ⟨z0, z1, z2, z3, z4, z5, z6, z7, z8, z9, z10⟩ := hSw; (try dsimp only at hSw); go_simp <;> with_reducible rfl
  try simp only [Act.put, List.setIfInBounds_toArray, List.set_cons_zero, List.set_cons_succ, List.getElem_toArray, List.getElem_cons_zero, List.getElem_cons_succ]
  refine wpAnyH_ready (rs := [3]) (by kernel_rfl) (by simp) (AllReadyH.cons rfl (fun K hK => ?_) AllReadyH.nil)
  have hPrev := hHeld
  clear hHeld
  go_simp
  refine (HA.out _ _ (M ++ [BP]) [.string (strB nm)] G2.out rfl).mono ?_
  rintro e w3 ⟨C3, rfl, hg3⟩
  have G3 := Lib.hid hg3
  clear hg3 HA
  refine hK.out _ _ (HS.out _ (HBP.out _ _ (GS.lastA G3.out))) (fun hHeld => ?_)
  clear hK K hPrev
  try simp only [Act.put, List.setIfInBounds_toArray, List.set_cons_zero, List.set_cons_succ, List.getElem_toArray, List.getElem_cons_zero, List.getElem_cons_succ]
  refine wpAnyH_ready (rs := [7]) (by kernel_rfl) (by simp) (AllReadyH.cons rfl (fun K hK => ?_) AllReadyH.nil)
  have hPrev := hHeld
  clear hHeld
  go_simp
  refine (HB.out _ _ (M ++ [BP]) [.string (strB nm)] G3.out rfl).mono ?_
  rintro e w4 ⟨C4, rfl, hg4⟩
  have G4 := Lib.hid hg4
  clear hg4 HB
  refine hK.out _ _ (HS.out _ (HBP.out _ _ (GS.lastA G4.out))) (fun hHeld => ?_)
  clear hK K hPrev
  try simp only [Act.put, List.setIfInBounds_toArray, List.set_cons_zero, List.set_cons_succ, List.getElem_toArray, List.getElem_cons_zero, List.getElem_cons_succ]
  refine wpAnyH_take (i := 8) (v := ?_) rfl (by kernel_rfl) (by kernel_rfl) (by kernel_rfl) (fun _ _ _ h => h) (Or.inl ⟨by rfl, ?_⟩) (by assumption) ?_
  rotate_left 1
  · intro w hSw; (try dsimp only at hSw); go_simp <;> with_reducible rfl
  try simp only [Act.put, List.setIfInBounds_toArray, List.set_cons_zero, List.set_cons_succ, List.getElem_toArray, List.getElem_cons_zero, List.getElem_cons_succ]
  refine wpAnyH_take (i := 9) (v := ?_) rfl (by kernel_rfl) (by kernel_rfl) (by kernel_rfl) (fun _ _ _ h => h) (Or.inl ⟨by rfl, ?_⟩) (by assumption) ?_
  rotate_left 1
  · intro w hSw; (try dsimp only at hSw); go_simp <;> with_reducible rfl
  try simp only [Act.put, List.setIfInBounds_toArray, List.set_cons_zero, List.set_cons_succ, List.getElem_toArray, List.getElem_cons_zero, List.getElem_cons_succ]
  refine wpAnyH_done (by kernel_rfl) ?_ _
  have HF : Hid (ChgQ w0 P h bs ns ds j x M (.returned (.bool true)) w4) := Lib.hid ⟨rfl, C4, d', r', h.g, HAL.out, GS.frontA G4.out⟩
  clear hHeld
  go_wp2_with fail
  go_ret
  exact HF.out
end Go.Proofs.YtlojmmcagglpoaaGreat
