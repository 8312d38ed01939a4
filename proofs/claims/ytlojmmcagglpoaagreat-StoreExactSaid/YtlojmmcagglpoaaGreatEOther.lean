/- THE WALKS of other (package heronlaw22; printed by a program of ours). -/
import Derived.Test.YtlojmmcagglpoaaGreatEPair2
import Derived.Deep.RegionHeld
import Derived.Deep.RegionHeld3
import Derived.Deep.DrawnRows
namespace Go.Proofs.YtlojmmcagglpoaaGreat
open Go.RowKit Go.Maps
attribute [local go_sem ↓] Go.wp_at_zero Go.wp_at_succ
def OtherQ (w0 : World) (p q n : Nat) (M : List PartT) (e : Ending) (w' : World) : Prop := e = .returned (.bool true) ∧ ∃ C' d' r', Alike d' r' (n + 2) ∧ GS w0 w' C' (L2 w0 p (n + 2) d' q r' M)

set_option maxRecDepth 20000 in
set_option maxHeartbeats 4000000 in
theorem other_create {w0 W : World} {C : Nat → Nat} {p q n : Nat} {d : Dk} {r : Rd} {M : List PartT} (hG : GS w0 W C (L2 w0 p n d q r M)) (al : Alike d r n) (hn : n + 2 < 1000000) (nm ot dat : List UInt8) (A : Option Addr) (m cp : Nat) (two : Bool) : Calls Tryz.prog 18 #[.agg #[.int .i64 3, .string (strB nm), .string (strB ot), .string (strB dat), .slice A m cp, .bool two], .pointer (some ⟨p, 0, none⟩), .pointer (some ⟨q, 0, none⟩)] W (OtherQ w0 p q n M) := by
  obtain ⟨w1, hw1⟩ : ∃ w1, w1 = W.alloc (.cells #[.int .i64 3, .string (strB nm), .string (strB ot), .string (strB dat), .slice A m cp, .bool two] 54) := ⟨_, rfl⟩
  obtain ⟨g, hg⟩ : ∃ g, g = W.heap.size := ⟨_, rfl⟩
  have hb : Below W.heap.size W w1 := by rw [hw1]; exact (Below.refl _ _).alloc (Nat.le_refl _) _
  have K1 : Hid (Blk w1 g 54 #[.int .i64 3, .string (strB nm), .string (strB ot), .string (strB dat), .slice A m cp, .bool two]) := Lib.hid (by rw [hw1, hg]; exact Blk.new W _ _ rfl)
  obtain ⟨cB, hcB⟩ : ∃ cB, cB = (L2 w0 p n d q r M).length + 1 := ⟨_, rfl⟩
  obtain ⟨C1, hC1⟩ : ∃ C1, C1 = paint C W.heap.size cB := ⟨_, rfl⟩
  obtain ⟨BP, hBP⟩ : ∃ BP : PartT, BP = (fun W C => FrC W C cB (fun w => Blk w g 54 #[.int .i64 3, .string (strB nm), .string (strB ot), .string (strB dat), .slice A m cp, .bool two])) := ⟨_, rfl⟩
  have G1 : Hid (GS w0 w1 C1 (L2 w0 p n d q r (M ++ [BP]))) := Lib.hid (by
    have h1 := hG.holdBlk hb K1.out (by omega)
    rw [← hcB] at h1
    rw [hBP, hC1]; exact h1)
  have HDK : Hid (d.Ok n) := Lib.hid (DC.ok (hG.at_ (k := 0) rfl : DCp w0 1 p n d W C))
  have HBP : Hid (∀ w C, BP w C → Blk w g 54 #[.int .i64 3, .string (strB nm), .string (strB ot), .string (strB dat), .slice A m cp, .bool two]) := Lib.hid (fun w C h => by rw [hBP] at h; exact h.now)
  have HS : Hid (∀ w', Blk w' g 54 #[.int .i64 3, .string (strB nm), .string (strB ot), .string (strB dat), .slice A m cp, .bool two] → (fun w' => w'.cell? ⟨g, 0, none⟩ = some (.int .i64 3) ∧ w'.cell? ⟨g, 1, none⟩ = some (.string (strB nm)) ∧ w'.cell? ⟨g, 2, none⟩ = some (.string (strB ot)) ∧ w'.cell? ⟨g, 3, none⟩ = some (.string (strB dat)) ∧ w'.cell? ⟨g, 4, none⟩ = some (.slice A m cp) ∧ w'.cell? ⟨g, 5, none⟩ = some (.bool two)) w') := Lib.hid (fun w' hb => ⟨(hb.cell 0).trans rfl, (hb.cell 1).trans rfl, (hb.cell 2).trans rfl, (hb.cell 3).trans rfl, (hb.cell 4).trans rfl, (hb.cell 5).trans rfl⟩)
  have HN := Lib.hid hn

  obtain ⟨v, d', r', al', hA, hB⟩ := PairC.two (p := p) (q := q) (w0 := w0) (pair_create al HDK.out hn nm)
  have HA := Lib.hid hA; have HB := Lib.hid hB; have HAL := Lib.hid al'
  clear hb hG al hn hA hB al' hBP hC1 hcB
  go_enter Tryz.func18, Tryz.ntmps18
  go_upto_region 4 with fail
  rw [← hw1, ← hg]
  clear hw1 hg
  refine wp_region_any (by kernel_rfl) ?_
  change wpAny _ _ _ _ _ _ _ (World.drew _)
  refine wpAny_of_held (S := fun w' => w'.cell? ⟨g, 0, none⟩ = some (.int .i64 3) ∧ w'.cell? ⟨g, 1, none⟩ = some (.string (strB nm)) ∧ w'.cell? ⟨g, 2, none⟩ = some (.string (strB ot)) ∧ w'.cell? ⟨g, 3, none⟩ = some (.string (strB dat)) ∧ w'.cell? ⟨g, 4, none⟩ = some (.slice A m cp) ∧ w'.cell? ⟨g, 5, none⟩ = some (.bool two)) _ _ _ _ ?_
  obtain ⟨w2, hw2⟩ : ∃ w2, w2 = w1.drew := ⟨_, rfl⟩
  have G2 : Hid (GS w0 w2 C1 (L2 w0 p n d q r (M ++ [BP]))) := Lib.hid (by rw [hw2]; exact G1.out.keep (Below.refl _ _).drew)
  rw [← hw2]
  clear hw2 K1 G1
  have hHeld : (fun w' => w'.cell? ⟨g, 0, none⟩ = some (.int .i64 3) ∧ w'.cell? ⟨g, 1, none⟩ = some (.string (strB nm)) ∧ w'.cell? ⟨g, 2, none⟩ = some (.string (strB ot)) ∧ w'.cell? ⟨g, 3, none⟩ = some (.string (strB dat)) ∧ w'.cell? ⟨g, 4, none⟩ = some (.slice A m cp) ∧ w'.cell? ⟨g, 5, none⟩ = some (.bool two)) w2 := HS.out _ (HBP.out _ _ (GS.last (L := L2 w0 p n d q r M) G2.out))
  refine wpAnyH_take (i := 0) (v := ?_) rfl (by kernel_rfl) (by kernel_rfl) (by kernel_rfl) (fun _ _ _ h => h) (Or.inl ⟨by rfl, ?_⟩) (by assumption) ?_
  rotate_left 1
  · intro w hSw; (try dsimp only at hSw); go_simp <;> with_reducible rfl
  try simp only [Act.put, List.setIfInBounds_toArray, List.set_cons_zero, List.set_cons_succ, List.getElem_toArray, List.getElem_cons_zero]
  refine wpAnyH_take (i := 1) (v := ?_) rfl (by kernel_rfl) (by kernel_rfl) (by kernel_rfl) (fun _ _ _ h => h) (Or.inl ⟨by rfl, ?_⟩) (by assumption) ?_
  rotate_left 1
  · intro w hSw; (try dsimp only at hSw); go_simp <;> with_reducible rfl
  try simp only [Act.put, List.setIfInBounds_toArray, List.set_cons_zero, List.set_cons_succ, List.getElem_toArray, List.getElem_cons_zero, List.getElem_cons_succ]
  refine wpAnyH_take (i := 2) (v := ?_) rfl (by kernel_rfl) (by kernel_rfl) (by kernel_rfl) (fun _ _ _ h => h) (Or.inl ⟨by rfl, ?_⟩) (by assumption) ?_
  rotate_left 1
  · intro w hSw; obtain ⟨z0, z1, z2, z3, z4, z5⟩ := hSw; (try dsimp only at hSw); go_simp <;> with_reducible rfl
  try simp only [Act.put, List.setIfInBounds_toArray, List.set_cons_zero, List.set_cons_succ, List.getElem_toArray, List.getElem_cons_zero, List.getElem_cons_succ]
  refine wpAnyH_take (i := 4) (v := ?_) rfl (by kernel_rfl) (by kernel_rfl) (by kernel_rfl) (fun _ _ _ h => h) (Or.inl ⟨by rfl, ?_⟩) (by assumption) ?_
  rotate_left 1
  · intro w hSw; (try dsimp only at hSw); go_simp <;> with_reducible rfl
  try simp only [Act.put, List.setIfInBounds_toArray, List.set_cons_zero, List.set_cons_succ, List.getElem_toArray, List.getElem_cons_zero, List.getElem_cons_succ]
  refine wpAnyH_take (i := 5) (v := ?_) rfl (by kernel_rfl) (by kernel_rfl) (by kernel_rfl) (fun _ _ _ h => h) (Or.inl ⟨by rfl, ?_⟩) (by assumption) ?_
  rotate_left 1
  · intro w hSw; (try dsimp only at hSw); go_simp <;> with_reducible rfl
  try simp only [Act.put, List.setIfInBounds_toArray, List.set_cons_zero, List.set_cons_succ, List.getElem_toArray, List.getElem_cons_zero, List.getElem_cons_succ]
  refine wpAnyH_take (i := 6) (v := ?_) rfl (by kernel_rfl) (by kernel_rfl) (by kernel_rfl) (fun _ _ _ h => h) (Or.inl ⟨by rfl, ?_⟩) (by assumption) ?_
  rotate_left 1
  · intro w hSw; obtain ⟨z0, z1, z2, z3, z4, z5⟩ := hSw; (try dsimp only at hSw); go_simp <;> with_reducible rfl
  try simp only [Act.put, List.setIfInBounds_toArray, List.set_cons_zero, List.set_cons_succ, List.getElem_toArray, List.getElem_cons_zero, List.getElem_cons_succ]
  refine wpAnyH_ready (rs := [3]) (by kernel_rfl) (by simp) (AllReadyH.cons rfl (fun K hK => ?_) AllReadyH.nil)
  have hPrev := hHeld
  clear hHeld
  go_simp
  refine (HA.out _ _ (M ++ [BP]) [.string (strB nm)] G2.out rfl).mono ?_
  rintro e w3 ⟨rfl, hg3⟩
  have G3 := Lib.hid hg3
  clear hg3 HA
  refine hK.out _ _ (HS.out _ (HBP.out _ _ (GS.last (L := L2 w0 p (n + 2) d' q r M) G3.out))) (fun hHeld => ?_)
  clear hK K hPrev
  try simp only [Act.put, List.setIfInBounds_toArray, List.set_cons_zero, List.set_cons_succ, List.getElem_toArray, List.getElem_cons_zero, List.getElem_cons_succ]
  refine wpAnyH_ready (rs := [7]) (by kernel_rfl) (by simp) (AllReadyH.cons rfl (fun K hK => ?_) AllReadyH.nil)
  have hPrev := hHeld
  clear hHeld
  go_simp
  refine (HB.out _ _ (M ++ [BP]) [.string (strB nm)] G3.out rfl).mono ?_
  rintro e w4 ⟨rfl, hg4⟩
  have G4 := Lib.hid hg4
  clear hg4 HB
  refine hK.out _ _ (HS.out _ (HBP.out _ _ (GS.last (L := L2 w0 p (n + 2) d' q r' M) G4.out))) (fun hHeld => ?_)
  clear hK K hPrev
  try simp only [Act.put, List.setIfInBounds_toArray, List.set_cons_zero, List.set_cons_succ, List.getElem_toArray, List.getElem_cons_zero, List.getElem_cons_succ]
  refine wpAnyH_take (i := 8) (v := ?_) rfl (by kernel_rfl) (by kernel_rfl) (by kernel_rfl) (fun _ _ _ h => h) (Or.inl ⟨by rfl, ?_⟩) (by assumption) ?_
  rotate_left 1
  · intro w hSw; (try dsimp only at hSw); go_simp <;> with_reducible rfl
  try simp only [Act.put, List.setIfInBounds_toArray, List.set_cons_zero, List.set_cons_succ, List.getElem_toArray, List.getElem_cons_zero, List.getElem_cons_succ]
  refine wpAnyH_take (i := 9) (v := ?_) rfl (by kernel_rfl) (by kernel_rfl) (by kernel_rfl) (fun _ _ _ h => h) (Or.inl ⟨by rfl, ?_⟩) (by assumption) ?_
  rotate_left 1
  · intro w hSw; (try dsimp only at hSw); go_simp <;> with_reducible rfl
  try simp only [Act.put, List.setIfInBounds_toArray, List.set_cons_zero, List.set_cons_succ, List.getElem_toArray, List.getElem_cons_zero, List.getElem_cons_succ]
  refine wpAnyH_done (by kernel_rfl) ?_ _
  have HF : Hid (OtherQ w0 p q n M (.returned (.bool true)) w4) := Lib.hid ⟨rfl, _, d', r', HAL.out, GS.front (L := L2 w0 p (n + 2) d' q r' M) G4.out⟩
  clear hHeld
  go_wp2_with fail
  go_ret
  exact HF.out
set_option maxRecDepth 20000 in
set_option maxHeartbeats 4000000 in
theorem other_cut {w0 W : World} {C : Nat → Nat} {p q n : Nat} {d : Dk} {r : Rd} {M : List PartT} (hG : GS w0 W C (L2 w0 p n d q r M)) (al : Alike d r n) (hn : n + 2 < 1000000) (nm ot dat : List UInt8) (A : Option Addr) (m cp : Nat) (two : Bool) : Calls Tryz.prog 18 #[.agg #[.int .i64 5, .string (strB nm), .string (strB ot), .string (strB dat), .slice A m cp, .bool two], .pointer (some ⟨p, 0, none⟩), .pointer (some ⟨q, 0, none⟩)] W (OtherQ w0 p q n M) := by
  obtain ⟨w1, hw1⟩ : ∃ w1, w1 = W.alloc (.cells #[.int .i64 5, .string (strB nm), .string (strB ot), .string (strB dat), .slice A m cp, .bool two] 54) := ⟨_, rfl⟩
  obtain ⟨g, hg⟩ : ∃ g, g = W.heap.size := ⟨_, rfl⟩
  have hb : Below W.heap.size W w1 := by rw [hw1]; exact (Below.refl _ _).alloc (Nat.le_refl _) _
  have K1 : Hid (Blk w1 g 54 #[.int .i64 5, .string (strB nm), .string (strB ot), .string (strB dat), .slice A m cp, .bool two]) := Lib.hid (by rw [hw1, hg]; exact Blk.new W _ _ rfl)
  obtain ⟨cB, hcB⟩ : ∃ cB, cB = (L2 w0 p n d q r M).length + 1 := ⟨_, rfl⟩
  obtain ⟨C1, hC1⟩ : ∃ C1, C1 = paint C W.heap.size cB := ⟨_, rfl⟩
  obtain ⟨BP, hBP⟩ : ∃ BP : PartT, BP = (fun W C => FrC W C cB (fun w => Blk w g 54 #[.int .i64 5, .string (strB nm), .string (strB ot), .string (strB dat), .slice A m cp, .bool two])) := ⟨_, rfl⟩
  have G1 : Hid (GS w0 w1 C1 (L2 w0 p n d q r (M ++ [BP]))) := Lib.hid (by
    have h1 := hG.holdBlk hb K1.out (by omega)
    rw [← hcB] at h1
    rw [hBP, hC1]; exact h1)
  have HDK : Hid (d.Ok n) := Lib.hid (DC.ok (hG.at_ (k := 0) rfl : DCp w0 1 p n d W C))
  have HBP : Hid (∀ w C, BP w C → Blk w g 54 #[.int .i64 5, .string (strB nm), .string (strB ot), .string (strB dat), .slice A m cp, .bool two]) := Lib.hid (fun w C h => by rw [hBP] at h; exact h.now)
  have HS : Hid (∀ w', Blk w' g 54 #[.int .i64 5, .string (strB nm), .string (strB ot), .string (strB dat), .slice A m cp, .bool two] → (fun w' => w'.cell? ⟨g, 0, none⟩ = some (.int .i64 5) ∧ w'.cell? ⟨g, 1, none⟩ = some (.string (strB nm)) ∧ w'.cell? ⟨g, 2, none⟩ = some (.string (strB ot)) ∧ w'.cell? ⟨g, 3, none⟩ = some (.string (strB dat)) ∧ w'.cell? ⟨g, 4, none⟩ = some (.slice A m cp) ∧ w'.cell? ⟨g, 5, none⟩ = some (.bool two)) w') := Lib.hid (fun w' hb => ⟨(hb.cell 0).trans rfl, (hb.cell 1).trans rfl, (hb.cell 2).trans rfl, (hb.cell 3).trans rfl, (hb.cell 4).trans rfl, (hb.cell 5).trans rfl⟩)
  have HN := Lib.hid hn

  obtain ⟨v, d', r', al', hA, hB⟩ := PairC.two (p := p) (q := q) (w0 := w0) (pair_cut al HDK.out hn nm)
  have HA := Lib.hid hA; have HB := Lib.hid hB; have HAL := Lib.hid al'
  clear hb hG al hn hA hB al' hBP hC1 hcB
  go_enter Tryz.func18, Tryz.ntmps18
  go_upto_region 8 with fail
  rw [← hw1, ← hg]
  clear hw1 hg
  refine wp_region_any (by kernel_rfl) ?_
  change wpAny _ _ _ _ _ _ _ (World.drew _)
  refine wpAny_of_held (S := fun w' => w'.cell? ⟨g, 0, none⟩ = some (.int .i64 5) ∧ w'.cell? ⟨g, 1, none⟩ = some (.string (strB nm)) ∧ w'.cell? ⟨g, 2, none⟩ = some (.string (strB ot)) ∧ w'.cell? ⟨g, 3, none⟩ = some (.string (strB dat)) ∧ w'.cell? ⟨g, 4, none⟩ = some (.slice A m cp) ∧ w'.cell? ⟨g, 5, none⟩ = some (.bool two)) _ _ _ _ ?_
  obtain ⟨w2, hw2⟩ : ∃ w2, w2 = w1.drew := ⟨_, rfl⟩
  have G2 : Hid (GS w0 w2 C1 (L2 w0 p n d q r (M ++ [BP]))) := Lib.hid (by rw [hw2]; exact G1.out.keep (Below.refl _ _).drew)
  rw [← hw2]
  clear hw2 K1 G1
  have hHeld : (fun w' => w'.cell? ⟨g, 0, none⟩ = some (.int .i64 5) ∧ w'.cell? ⟨g, 1, none⟩ = some (.string (strB nm)) ∧ w'.cell? ⟨g, 2, none⟩ = some (.string (strB ot)) ∧ w'.cell? ⟨g, 3, none⟩ = some (.string (strB dat)) ∧ w'.cell? ⟨g, 4, none⟩ = some (.slice A m cp) ∧ w'.cell? ⟨g, 5, none⟩ = some (.bool two)) w2 := HS.out _ (HBP.out _ _ (GS.last (L := L2 w0 p n d q r M) G2.out))
  refine wpAnyH_take (i := 0) (v := ?_) rfl (by kernel_rfl) (by kernel_rfl) (by kernel_rfl) (fun _ _ _ h => h) (Or.inl ⟨by rfl, ?_⟩) (by assumption) ?_
  rotate_left 1
  · intro w hSw; (try dsimp only at hSw); go_simp <;> with_reducible rfl
  try simp only [Act.put, List.setIfInBounds_toArray, List.set_cons_zero, List.set_cons_succ, List.getElem_toArray, List.getElem_cons_zero]
  refine wpAnyH_take (i := 1) (v := ?_) rfl (by kernel_rfl) (by kernel_rfl) (by kernel_rfl) (fun _ _ _ h => h) (Or.inl ⟨by rfl, ?_⟩) (by assumption) ?_
  rotate_left 1
  · intro w hSw; (try dsimp only at hSw); go_simp <;> with_reducible rfl
  try simp only [Act.put, List.setIfInBounds_toArray, List.set_cons_zero, List.set_cons_succ, List.getElem_toArray, List.getElem_cons_zero, List.getElem_cons_succ]
  refine wpAnyH_take (i := 2) (v := ?_) rfl (by kernel_rfl) (by kernel_rfl) (by kernel_rfl) (fun _ _ _ h => h) (Or.inl ⟨by rfl, ?_⟩) (by assumption) ?_
  rotate_left 1
  · intro w hSw; obtain ⟨z0, z1, z2, z3, z4, z5⟩ := hSw; (try dsimp only at hSw); go_simp <;> with_reducible rfl
  try simp only [Act.put, List.setIfInBounds_toArray, List.set_cons_zero, List.set_cons_succ, List.getElem_toArray, List.getElem_cons_zero, List.getElem_cons_succ]
  refine wpAnyH_take (i := 4) (v := ?_) rfl (by kernel_rfl) (by kernel_rfl) (by kernel_rfl) (fun _ _ _ h => h) (Or.inl ⟨by rfl, ?_⟩) (by assumption) ?_
  rotate_left 1
  · intro w hSw; (try dsimp only at hSw); go_simp <;> with_reducible rfl
  try simp only [Act.put, List.setIfInBounds_toArray, List.set_cons_zero, List.set_cons_succ, List.getElem_toArray, List.getElem_cons_zero, List.getElem_cons_succ]
  refine wpAnyH_take (i := 5) (v := ?_) rfl (by kernel_rfl) (by kernel_rfl) (by kernel_rfl) (fun _ _ _ h => h) (Or.inl ⟨by rfl, ?_⟩) (by assumption) ?_
  rotate_left 1
  · intro w hSw; (try dsimp only at hSw); go_simp <;> with_reducible rfl
  try simp only [Act.put, List.setIfInBounds_toArray, List.set_cons_zero, List.set_cons_succ, List.getElem_toArray, List.getElem_cons_zero, List.getElem_cons_succ]
  refine wpAnyH_take (i := 6) (v := ?_) rfl (by kernel_rfl) (by kernel_rfl) (by kernel_rfl) (fun _ _ _ h => h) (Or.inl ⟨by rfl, ?_⟩) (by assumption) ?_
  rotate_left 1
  · intro w hSw; obtain ⟨z0, z1, z2, z3, z4, z5⟩ := hSw; (try dsimp only at hSw); go_simp <;> with_reducible rfl
  try simp only [Act.put, List.setIfInBounds_toArray, List.set_cons_zero, List.set_cons_succ, List.getElem_toArray, List.getElem_cons_zero, List.getElem_cons_succ]
  refine wpAnyH_ready (rs := [3]) (by kernel_rfl) (by simp) (AllReadyH.cons rfl (fun K hK => ?_) AllReadyH.nil)
  have hPrev := hHeld
  clear hHeld
  go_simp
  refine (HA.out _ _ (M ++ [BP]) [.string (strB nm)] G2.out rfl).mono ?_
  rintro e w3 ⟨rfl, hg3⟩
  have G3 := Lib.hid hg3
  clear hg3 HA
  refine hK.out _ _ (HS.out _ (HBP.out _ _ (GS.last (L := L2 w0 p (n + 2) d' q r M) G3.out))) (fun hHeld => ?_)
  clear hK K hPrev
  try simp only [Act.put, List.setIfInBounds_toArray, List.set_cons_zero, List.set_cons_succ, List.getElem_toArray, List.getElem_cons_zero, List.getElem_cons_succ]
  refine wpAnyH_ready (rs := [7]) (by kernel_rfl) (by simp) (AllReadyH.cons rfl (fun K hK => ?_) AllReadyH.nil)
  have hPrev := hHeld
  clear hHeld
  go_simp
  refine (HB.out _ _ (M ++ [BP]) [.string (strB nm)] G3.out rfl).mono ?_
  rintro e w4 ⟨rfl, hg4⟩
  have G4 := Lib.hid hg4
  clear hg4 HB
  refine hK.out _ _ (HS.out _ (HBP.out _ _ (GS.last (L := L2 w0 p (n + 2) d' q r' M) G4.out))) (fun hHeld => ?_)
  clear hK K hPrev
  try simp only [Act.put, List.setIfInBounds_toArray, List.set_cons_zero, List.set_cons_succ, List.getElem_toArray, List.getElem_cons_zero, List.getElem_cons_succ]
  refine wpAnyH_take (i := 8) (v := ?_) rfl (by kernel_rfl) (by kernel_rfl) (by kernel_rfl) (fun _ _ _ h => h) (Or.inl ⟨by rfl, ?_⟩) (by assumption) ?_
  rotate_left 1
  · intro w hSw; (try dsimp only at hSw); go_simp <;> with_reducible rfl
  try simp only [Act.put, List.setIfInBounds_toArray, List.set_cons_zero, List.set_cons_succ, List.getElem_toArray, List.getElem_cons_zero, List.getElem_cons_succ]
  refine wpAnyH_take (i := 9) (v := ?_) rfl (by kernel_rfl) (by kernel_rfl) (by kernel_rfl) (fun _ _ _ h => h) (Or.inl ⟨by rfl, ?_⟩) (by assumption) ?_
  rotate_left 1
  · intro w hSw; (try dsimp only at hSw); go_simp <;> with_reducible rfl
  try simp only [Act.put, List.setIfInBounds_toArray, List.set_cons_zero, List.set_cons_succ, List.getElem_toArray, List.getElem_cons_zero, List.getElem_cons_succ]
  refine wpAnyH_done (by kernel_rfl) ?_ _
  have HF : Hid (OtherQ w0 p q n M (.returned (.bool true)) w4) := Lib.hid ⟨rfl, _, d', r', HAL.out, GS.front (L := L2 w0 p (n + 2) d' q r' M) G4.out⟩
  clear hHeld
  go_wp2_with fail
  go_ret
  exact HF.out
set_option maxRecDepth 20000 in
set_option maxHeartbeats 4000000 in
theorem other_rename {w0 W : World} {C : Nat → Nat} {p q n : Nat} {d : Dk} {r : Rd} {M : List PartT} (hG : GS w0 W C (L2 w0 p n d q r M)) (al : Alike d r n) (hn : n + 2 < 1000000) (nm ot dat : List UInt8) (A : Option Addr) (m cp : Nat) (two : Bool) : Calls Tryz.prog 18 #[.agg #[.int .i64 6, .string (strB nm), .string (strB ot), .string (strB dat), .slice A m cp, .bool two], .pointer (some ⟨p, 0, none⟩), .pointer (some ⟨q, 0, none⟩)] W (OtherQ w0 p q n M) := by
  obtain ⟨w1, hw1⟩ : ∃ w1, w1 = W.alloc (.cells #[.int .i64 6, .string (strB nm), .string (strB ot), .string (strB dat), .slice A m cp, .bool two] 54) := ⟨_, rfl⟩
  obtain ⟨g, hg⟩ : ∃ g, g = W.heap.size := ⟨_, rfl⟩
  have hb : Below W.heap.size W w1 := by rw [hw1]; exact (Below.refl _ _).alloc (Nat.le_refl _) _
  have K1 : Hid (Blk w1 g 54 #[.int .i64 6, .string (strB nm), .string (strB ot), .string (strB dat), .slice A m cp, .bool two]) := Lib.hid (by rw [hw1, hg]; exact Blk.new W _ _ rfl)
  obtain ⟨cB, hcB⟩ : ∃ cB, cB = (L2 w0 p n d q r M).length + 1 := ⟨_, rfl⟩
  obtain ⟨C1, hC1⟩ : ∃ C1, C1 = paint C W.heap.size cB := ⟨_, rfl⟩
  obtain ⟨BP, hBP⟩ : ∃ BP : PartT, BP = (fun W C => FrC W C cB (fun w => Blk w g 54 #[.int .i64 6, .string (strB nm), .string (strB ot), .string (strB dat), .slice A m cp, .bool two])) := ⟨_, rfl⟩
  have G1 : Hid (GS w0 w1 C1 (L2 w0 p n d q r (M ++ [BP]))) := Lib.hid (by
    have h1 := hG.holdBlk hb K1.out (by omega)
    rw [← hcB] at h1
    rw [hBP, hC1]; exact h1)
  have HDK : Hid (d.Ok n) := Lib.hid (DC.ok (hG.at_ (k := 0) rfl : DCp w0 1 p n d W C))
  have HBP : Hid (∀ w C, BP w C → Blk w g 54 #[.int .i64 6, .string (strB nm), .string (strB ot), .string (strB dat), .slice A m cp, .bool two]) := Lib.hid (fun w C h => by rw [hBP] at h; exact h.now)
  have HS : Hid (∀ w', Blk w' g 54 #[.int .i64 6, .string (strB nm), .string (strB ot), .string (strB dat), .slice A m cp, .bool two] → (fun w' => w'.cell? ⟨g, 0, none⟩ = some (.int .i64 6) ∧ w'.cell? ⟨g, 1, none⟩ = some (.string (strB nm)) ∧ w'.cell? ⟨g, 2, none⟩ = some (.string (strB ot)) ∧ w'.cell? ⟨g, 3, none⟩ = some (.string (strB dat)) ∧ w'.cell? ⟨g, 4, none⟩ = some (.slice A m cp) ∧ w'.cell? ⟨g, 5, none⟩ = some (.bool two)) w') := Lib.hid (fun w' hb => ⟨(hb.cell 0).trans rfl, (hb.cell 1).trans rfl, (hb.cell 2).trans rfl, (hb.cell 3).trans rfl, (hb.cell 4).trans rfl, (hb.cell 5).trans rfl⟩)
  have HN := Lib.hid hn

  obtain ⟨v, d', r', al', hA, hB⟩ := PairC.two (p := p) (q := q) (w0 := w0) (pair_rename al HDK.out hn nm ot)
  have HA := Lib.hid hA; have HB := Lib.hid hB; have HAL := Lib.hid al'
  clear hb hG al hn hA hB al' hBP hC1 hcB
  go_enter Tryz.func18, Tryz.ntmps18
  go_upto_region 10 with fail
  rw [← hw1, ← hg]
  clear hw1 hg
  refine wp_region_any (by kernel_rfl) ?_
  change wpAny _ _ _ _ _ _ _ (World.drew _)
  refine wpAny_of_held (S := fun w' => w'.cell? ⟨g, 0, none⟩ = some (.int .i64 6) ∧ w'.cell? ⟨g, 1, none⟩ = some (.string (strB nm)) ∧ w'.cell? ⟨g, 2, none⟩ = some (.string (strB ot)) ∧ w'.cell? ⟨g, 3, none⟩ = some (.string (strB dat)) ∧ w'.cell? ⟨g, 4, none⟩ = some (.slice A m cp) ∧ w'.cell? ⟨g, 5, none⟩ = some (.bool two)) _ _ _ _ ?_
  obtain ⟨w2, hw2⟩ : ∃ w2, w2 = w1.drew := ⟨_, rfl⟩
  have G2 : Hid (GS w0 w2 C1 (L2 w0 p n d q r (M ++ [BP]))) := Lib.hid (by rw [hw2]; exact G1.out.keep (Below.refl _ _).drew)
  rw [← hw2]
  clear hw2 K1 G1
  have hHeld : (fun w' => w'.cell? ⟨g, 0, none⟩ = some (.int .i64 6) ∧ w'.cell? ⟨g, 1, none⟩ = some (.string (strB nm)) ∧ w'.cell? ⟨g, 2, none⟩ = some (.string (strB ot)) ∧ w'.cell? ⟨g, 3, none⟩ = some (.string (strB dat)) ∧ w'.cell? ⟨g, 4, none⟩ = some (.slice A m cp) ∧ w'.cell? ⟨g, 5, none⟩ = some (.bool two)) w2 := HS.out _ (HBP.out _ _ (GS.last (L := L2 w0 p n d q r M) G2.out))
  refine wpAnyH_take (i := 0) (v := ?_) rfl (by kernel_rfl) (by kernel_rfl) (by kernel_rfl) (fun _ _ _ h => h) (Or.inl ⟨by rfl, ?_⟩) (by assumption) ?_
  rotate_left 1
  · intro w hSw; (try dsimp only at hSw); go_simp <;> with_reducible rfl
  try simp only [Act.put, List.setIfInBounds_toArray, List.set_cons_zero, List.set_cons_succ, List.getElem_toArray, List.getElem_cons_zero]
  refine wpAnyH_take (i := 1) (v := ?_) rfl (by kernel_rfl) (by kernel_rfl) (by kernel_rfl) (fun _ _ _ h => h) (Or.inl ⟨by rfl, ?_⟩) (by assumption) ?_
  rotate_left 1
  · intro w hSw; (try dsimp only at hSw); go_simp <;> with_reducible rfl
  try simp only [Act.put, List.setIfInBounds_toArray, List.set_cons_zero, List.set_cons_succ, List.getElem_toArray, List.getElem_cons_zero, List.getElem_cons_succ]
  refine wpAnyH_take (i := 2) (v := ?_) rfl (by kernel_rfl) (by kernel_rfl) (by kernel_rfl) (fun _ _ _ h => h) (Or.inl ⟨by rfl, ?_⟩) (by assumption) ?_
  rotate_left 1
  · intro w hSw; obtain ⟨z0, z1, z2, z3, z4, z5⟩ := hSw; (try dsimp only at hSw); go_simp <;> with_reducible rfl
  try simp only [Act.put, List.setIfInBounds_toArray, List.set_cons_zero, List.set_cons_succ, List.getElem_toArray, List.getElem_cons_zero, List.getElem_cons_succ]
  refine wpAnyH_take (i := 3) (v := ?_) rfl (by kernel_rfl) (by kernel_rfl) (by kernel_rfl) (fun _ _ _ h => h) (Or.inl ⟨by rfl, ?_⟩) (by assumption) ?_
  rotate_left 1
  · intro w hSw; (try dsimp only at hSw); go_simp <;> with_reducible rfl
  try simp only [Act.put, List.setIfInBounds_toArray, List.set_cons_zero, List.set_cons_succ, List.getElem_toArray, List.getElem_cons_zero, List.getElem_cons_succ]
  refine wpAnyH_take (i := 4) (v := ?_) rfl (by kernel_rfl) (by kernel_rfl) (by kernel_rfl) (fun _ _ _ h => h) (Or.inl ⟨by rfl, ?_⟩) (by assumption) ?_
  rotate_left 1
  · intro w hSw; obtain ⟨z0, z1, z2, z3, z4, z5⟩ := hSw; (try dsimp only at hSw); go_simp <;> with_reducible rfl
  try simp only [Act.put, List.setIfInBounds_toArray, List.set_cons_zero, List.set_cons_succ, List.getElem_toArray, List.getElem_cons_zero, List.getElem_cons_succ]
  refine wpAnyH_take (i := 6) (v := ?_) rfl (by kernel_rfl) (by kernel_rfl) (by kernel_rfl) (fun _ _ _ h => h) (Or.inl ⟨by rfl, ?_⟩) (by assumption) ?_
  rotate_left 1
  · intro w hSw; (try dsimp only at hSw); go_simp <;> with_reducible rfl
  try simp only [Act.put, List.setIfInBounds_toArray, List.set_cons_zero, List.set_cons_succ, List.getElem_toArray, List.getElem_cons_zero, List.getElem_cons_succ]
  refine wpAnyH_take (i := 7) (v := ?_) rfl (by kernel_rfl) (by kernel_rfl) (by kernel_rfl) (fun _ _ _ h => h) (Or.inl ⟨by rfl, ?_⟩) (by assumption) ?_
  rotate_left 1
  · intro w hSw; (try dsimp only at hSw); go_simp <;> with_reducible rfl
  try simp only [Act.put, List.setIfInBounds_toArray, List.set_cons_zero, List.set_cons_succ, List.getElem_toArray, List.getElem_cons_zero, List.getElem_cons_succ]
  refine wpAnyH_take (i := 8) (v := ?_) rfl (by kernel_rfl) (by kernel_rfl) (by kernel_rfl) (fun _ _ _ h => h) (Or.inl ⟨by rfl, ?_⟩) (by assumption) ?_
  rotate_left 1
  · intro w hSw; obtain ⟨z0, z1, z2, z3, z4, z5⟩ := hSw; (try dsimp only at hSw); go_simp <;> with_reducible rfl
  try simp only [Act.put, List.setIfInBounds_toArray, List.set_cons_zero, List.set_cons_succ, List.getElem_toArray, List.getElem_cons_zero, List.getElem_cons_succ]
  refine wpAnyH_take (i := 9) (v := ?_) rfl (by kernel_rfl) (by kernel_rfl) (by kernel_rfl) (fun _ _ _ h => h) (Or.inl ⟨by rfl, ?_⟩) (by assumption) ?_
  rotate_left 1
  · intro w hSw; (try dsimp only at hSw); go_simp <;> with_reducible rfl
  try simp only [Act.put, List.setIfInBounds_toArray, List.set_cons_zero, List.set_cons_succ, List.getElem_toArray, List.getElem_cons_zero, List.getElem_cons_succ]
  refine wpAnyH_take (i := 10) (v := ?_) rfl (by kernel_rfl) (by kernel_rfl) (by kernel_rfl) (fun _ _ _ h => h) (Or.inl ⟨by rfl, ?_⟩) (by assumption) ?_
  rotate_left 1
  · intro w hSw; obtain ⟨z0, z1, z2, z3, z4, z5⟩ := hSw; (try dsimp only at hSw); go_simp <;> with_reducible rfl
  try simp only [Act.put, List.setIfInBounds_toArray, List.set_cons_zero, List.set_cons_succ, List.getElem_toArray, List.getElem_cons_zero, List.getElem_cons_succ]
  refine wpAnyH_ready (rs := [5]) (by kernel_rfl) (by simp) (AllReadyH.cons rfl (fun K hK => ?_) AllReadyH.nil)
  have hPrev := hHeld
  clear hHeld
  go_simp
  refine (HA.out _ _ (M ++ [BP]) [.string (strB nm), .string (strB ot)] G2.out rfl).mono ?_
  rintro e w3 ⟨rfl, hg3⟩
  have G3 := Lib.hid hg3
  clear hg3 HA
  refine hK.out _ _ (HS.out _ (HBP.out _ _ (GS.last (L := L2 w0 p (n + 2) d' q r M) G3.out))) (fun hHeld => ?_)
  clear hK K hPrev
  try simp only [Act.put, List.setIfInBounds_toArray, List.set_cons_zero, List.set_cons_succ, List.getElem_toArray, List.getElem_cons_zero, List.getElem_cons_succ]
  refine wpAnyH_ready (rs := [11]) (by kernel_rfl) (by simp) (AllReadyH.cons rfl (fun K hK => ?_) AllReadyH.nil)
  have hPrev := hHeld
  clear hHeld
  go_simp
  refine (HB.out _ _ (M ++ [BP]) [.string (strB nm), .string (strB ot)] G3.out rfl).mono ?_
  rintro e w4 ⟨rfl, hg4⟩
  have G4 := Lib.hid hg4
  clear hg4 HB
  refine hK.out _ _ (HS.out _ (HBP.out _ _ (GS.last (L := L2 w0 p (n + 2) d' q r' M) G4.out))) (fun hHeld => ?_)
  clear hK K hPrev
  try simp only [Act.put, List.setIfInBounds_toArray, List.set_cons_zero, List.set_cons_succ, List.getElem_toArray, List.getElem_cons_zero, List.getElem_cons_succ]
  refine wpAnyH_take (i := 12) (v := ?_) rfl (by kernel_rfl) (by kernel_rfl) (by kernel_rfl) (fun _ _ _ h => h) (Or.inl ⟨by rfl, ?_⟩) (by assumption) ?_
  rotate_left 1
  · intro w hSw; (try dsimp only at hSw); go_simp <;> with_reducible rfl
  try simp only [Act.put, List.setIfInBounds_toArray, List.set_cons_zero, List.set_cons_succ, List.getElem_toArray, List.getElem_cons_zero, List.getElem_cons_succ]
  refine wpAnyH_take (i := 13) (v := ?_) rfl (by kernel_rfl) (by kernel_rfl) (by kernel_rfl) (fun _ _ _ h => h) (Or.inl ⟨by rfl, ?_⟩) (by assumption) ?_
  rotate_left 1
  · intro w hSw; (try dsimp only at hSw); go_simp <;> with_reducible rfl
  try simp only [Act.put, List.setIfInBounds_toArray, List.set_cons_zero, List.set_cons_succ, List.getElem_toArray, List.getElem_cons_zero, List.getElem_cons_succ]
  refine wpAnyH_done (by kernel_rfl) ?_ _
  have HF : Hid (OtherQ w0 p q n M (.returned (.bool true)) w4) := Lib.hid ⟨rfl, _, d', r', HAL.out, GS.front (L := L2 w0 p (n + 2) d' q r' M) G4.out⟩
  clear hHeld
  go_wp2_with fail
  go_ret
  exact HF.out
set_option maxRecDepth 20000 in
set_option maxHeartbeats 4000000 in
theorem other_remove {w0 W : World} {C : Nat → Nat} {p q n : Nat} {d : Dk} {r : Rd} {M : List PartT} (hG : GS w0 W C (L2 w0 p n d q r M)) (al : Alike d r n) (hn : n + 2 < 1000000) (nm ot dat : List UInt8) (A : Option Addr) (m cp : Nat) (two : Bool) : Calls Tryz.prog 18 #[.agg #[.int .i64 7, .string (strB nm), .string (strB ot), .string (strB dat), .slice A m cp, .bool two], .pointer (some ⟨p, 0, none⟩), .pointer (some ⟨q, 0, none⟩)] W (OtherQ w0 p q n M) := by
  obtain ⟨w1, hw1⟩ : ∃ w1, w1 = W.alloc (.cells #[.int .i64 7, .string (strB nm), .string (strB ot), .string (strB dat), .slice A m cp, .bool two] 54) := ⟨_, rfl⟩
  obtain ⟨g, hg⟩ : ∃ g, g = W.heap.size := ⟨_, rfl⟩
  have hb : Below W.heap.size W w1 := by rw [hw1]; exact (Below.refl _ _).alloc (Nat.le_refl _) _
  have K1 : Hid (Blk w1 g 54 #[.int .i64 7, .string (strB nm), .string (strB ot), .string (strB dat), .slice A m cp, .bool two]) := Lib.hid (by rw [hw1, hg]; exact Blk.new W _ _ rfl)
  obtain ⟨cB, hcB⟩ : ∃ cB, cB = (L2 w0 p n d q r M).length + 1 := ⟨_, rfl⟩
  obtain ⟨C1, hC1⟩ : ∃ C1, C1 = paint C W.heap.size cB := ⟨_, rfl⟩
  obtain ⟨BP, hBP⟩ : ∃ BP : PartT, BP = (fun W C => FrC W C cB (fun w => Blk w g 54 #[.int .i64 7, .string (strB nm), .string (strB ot), .string (strB dat), .slice A m cp, .bool two])) := ⟨_, rfl⟩
  have G1 : Hid (GS w0 w1 C1 (L2 w0 p n d q r (M ++ [BP]))) := Lib.hid (by
    have h1 := hG.holdBlk hb K1.out (by omega)
    rw [← hcB] at h1
    rw [hBP, hC1]; exact h1)
  have HDK : Hid (d.Ok n) := Lib.hid (DC.ok (hG.at_ (k := 0) rfl : DCp w0 1 p n d W C))
  have HBP : Hid (∀ w C, BP w C → Blk w g 54 #[.int .i64 7, .string (strB nm), .string (strB ot), .string (strB dat), .slice A m cp, .bool two]) := Lib.hid (fun w C h => by rw [hBP] at h; exact h.now)
  have HS : Hid (∀ w', Blk w' g 54 #[.int .i64 7, .string (strB nm), .string (strB ot), .string (strB dat), .slice A m cp, .bool two] → (fun w' => w'.cell? ⟨g, 0, none⟩ = some (.int .i64 7) ∧ w'.cell? ⟨g, 1, none⟩ = some (.string (strB nm)) ∧ w'.cell? ⟨g, 2, none⟩ = some (.string (strB ot)) ∧ w'.cell? ⟨g, 3, none⟩ = some (.string (strB dat)) ∧ w'.cell? ⟨g, 4, none⟩ = some (.slice A m cp) ∧ w'.cell? ⟨g, 5, none⟩ = some (.bool two)) w') := Lib.hid (fun w' hb => ⟨(hb.cell 0).trans rfl, (hb.cell 1).trans rfl, (hb.cell 2).trans rfl, (hb.cell 3).trans rfl, (hb.cell 4).trans rfl, (hb.cell 5).trans rfl⟩)
  have HN := Lib.hid hn

  obtain ⟨v, d', r', al', hA, hB⟩ := PairC.two (p := p) (q := q) (w0 := w0) (pair_remove al HDK.out hn nm)
  have HA := Lib.hid hA; have HB := Lib.hid hB; have HAL := Lib.hid al'
  clear hb hG al hn hA hB al' hBP hC1 hcB
  go_enter Tryz.func18, Tryz.ntmps18
  go_upto_region 12 with fail
  rw [← hw1, ← hg]
  clear hw1 hg
  refine wp_region_any (by kernel_rfl) ?_
  change wpAny _ _ _ _ _ _ _ (World.drew _)
  refine wpAny_of_held (S := fun w' => w'.cell? ⟨g, 0, none⟩ = some (.int .i64 7) ∧ w'.cell? ⟨g, 1, none⟩ = some (.string (strB nm)) ∧ w'.cell? ⟨g, 2, none⟩ = some (.string (strB ot)) ∧ w'.cell? ⟨g, 3, none⟩ = some (.string (strB dat)) ∧ w'.cell? ⟨g, 4, none⟩ = some (.slice A m cp) ∧ w'.cell? ⟨g, 5, none⟩ = some (.bool two)) _ _ _ _ ?_
  obtain ⟨w2, hw2⟩ : ∃ w2, w2 = w1.drew := ⟨_, rfl⟩
  have G2 : Hid (GS w0 w2 C1 (L2 w0 p n d q r (M ++ [BP]))) := Lib.hid (by rw [hw2]; exact G1.out.keep (Below.refl _ _).drew)
  rw [← hw2]
  clear hw2 K1 G1
  have hHeld : (fun w' => w'.cell? ⟨g, 0, none⟩ = some (.int .i64 7) ∧ w'.cell? ⟨g, 1, none⟩ = some (.string (strB nm)) ∧ w'.cell? ⟨g, 2, none⟩ = some (.string (strB ot)) ∧ w'.cell? ⟨g, 3, none⟩ = some (.string (strB dat)) ∧ w'.cell? ⟨g, 4, none⟩ = some (.slice A m cp) ∧ w'.cell? ⟨g, 5, none⟩ = some (.bool two)) w2 := HS.out _ (HBP.out _ _ (GS.last (L := L2 w0 p n d q r M) G2.out))
  refine wpAnyH_take (i := 0) (v := ?_) rfl (by kernel_rfl) (by kernel_rfl) (by kernel_rfl) (fun _ _ _ h => h) (Or.inl ⟨by rfl, ?_⟩) (by assumption) ?_
  rotate_left 1
  · intro w hSw; (try dsimp only at hSw); go_simp <;> with_reducible rfl
  try simp only [Act.put, List.setIfInBounds_toArray, List.set_cons_zero, List.set_cons_succ, List.getElem_toArray, List.getElem_cons_zero]
  refine wpAnyH_take (i := 1) (v := ?_) rfl (by kernel_rfl) (by kernel_rfl) (by kernel_rfl) (fun _ _ _ h => h) (Or.inl ⟨by rfl, ?_⟩) (by assumption) ?_
  rotate_left 1
  · intro w hSw; (try dsimp only at hSw); go_simp <;> with_reducible rfl
  try simp only [Act.put, List.setIfInBounds_toArray, List.set_cons_zero, List.set_cons_succ, List.getElem_toArray, List.getElem_cons_zero, List.getElem_cons_succ]
  refine wpAnyH_take (i := 2) (v := ?_) rfl (by kernel_rfl) (by kernel_rfl) (by kernel_rfl) (fun _ _ _ h => h) (Or.inl ⟨by rfl, ?_⟩) (by assumption) ?_
  rotate_left 1
  · intro w hSw; obtain ⟨z0, z1, z2, z3, z4, z5⟩ := hSw; (try dsimp only at hSw); go_simp <;> with_reducible rfl
  try simp only [Act.put, List.setIfInBounds_toArray, List.set_cons_zero, List.set_cons_succ, List.getElem_toArray, List.getElem_cons_zero, List.getElem_cons_succ]
  refine wpAnyH_take (i := 4) (v := ?_) rfl (by kernel_rfl) (by kernel_rfl) (by kernel_rfl) (fun _ _ _ h => h) (Or.inl ⟨by rfl, ?_⟩) (by assumption) ?_
  rotate_left 1
  · intro w hSw; (try dsimp only at hSw); go_simp <;> with_reducible rfl
  try simp only [Act.put, List.setIfInBounds_toArray, List.set_cons_zero, List.set_cons_succ, List.getElem_toArray, List.getElem_cons_zero, List.getElem_cons_succ]
  refine wpAnyH_take (i := 5) (v := ?_) rfl (by kernel_rfl) (by kernel_rfl) (by kernel_rfl) (fun _ _ _ h => h) (Or.inl ⟨by rfl, ?_⟩) (by assumption) ?_
  rotate_left 1
  · intro w hSw; (try dsimp only at hSw); go_simp <;> with_reducible rfl
  try simp only [Act.put, List.setIfInBounds_toArray, List.set_cons_zero, List.set_cons_succ, List.getElem_toArray, List.getElem_cons_zero, List.getElem_cons_succ]
  refine wpAnyH_take (i := 6) (v := ?_) rfl (by kernel_rfl) (by kernel_rfl) (by kernel_rfl) (fun _ _ _ h => h) (Or.inl ⟨by rfl, ?_⟩) (by assumption) ?_
  rotate_left 1
  · intro w hSw; obtain ⟨z0, z1, z2, z3, z4, z5⟩ := hSw; (try dsimp only at hSw); go_simp <;> with_reducible rfl
  try simp only [Act.put, List.setIfInBounds_toArray, List.set_cons_zero, List.set_cons_succ, List.getElem_toArray, List.getElem_cons_zero, List.getElem_cons_succ]
  refine wpAnyH_ready (rs := [3]) (by kernel_rfl) (by simp) (AllReadyH.cons rfl (fun K hK => ?_) AllReadyH.nil)
  have hPrev := hHeld
  clear hHeld
  go_simp
  refine (HA.out _ _ (M ++ [BP]) [.string (strB nm)] G2.out rfl).mono ?_
  rintro e w3 ⟨rfl, hg3⟩
  have G3 := Lib.hid hg3
  clear hg3 HA
  refine hK.out _ _ (HS.out _ (HBP.out _ _ (GS.last (L := L2 w0 p (n + 2) d' q r M) G3.out))) (fun hHeld => ?_)
  clear hK K hPrev
  try simp only [Act.put, List.setIfInBounds_toArray, List.set_cons_zero, List.set_cons_succ, List.getElem_toArray, List.getElem_cons_zero, List.getElem_cons_succ]
  refine wpAnyH_ready (rs := [7]) (by kernel_rfl) (by simp) (AllReadyH.cons rfl (fun K hK => ?_) AllReadyH.nil)
  have hPrev := hHeld
  clear hHeld
  go_simp
  refine (HB.out _ _ (M ++ [BP]) [.string (strB nm)] G3.out rfl).mono ?_
  rintro e w4 ⟨rfl, hg4⟩
  have G4 := Lib.hid hg4
  clear hg4 HB
  refine hK.out _ _ (HS.out _ (HBP.out _ _ (GS.last (L := L2 w0 p (n + 2) d' q r' M) G4.out))) (fun hHeld => ?_)
  clear hK K hPrev
  try simp only [Act.put, List.setIfInBounds_toArray, List.set_cons_zero, List.set_cons_succ, List.getElem_toArray, List.getElem_cons_zero, List.getElem_cons_succ]
  refine wpAnyH_take (i := 8) (v := ?_) rfl (by kernel_rfl) (by kernel_rfl) (by kernel_rfl) (fun _ _ _ h => h) (Or.inl ⟨by rfl, ?_⟩) (by assumption) ?_
  rotate_left 1
  · intro w hSw; (try dsimp only at hSw); go_simp <;> with_reducible rfl
  try simp only [Act.put, List.setIfInBounds_toArray, List.set_cons_zero, List.set_cons_succ, List.getElem_toArray, List.getElem_cons_zero, List.getElem_cons_succ]
  refine wpAnyH_take (i := 9) (v := ?_) rfl (by kernel_rfl) (by kernel_rfl) (by kernel_rfl) (fun _ _ _ h => h) (Or.inl ⟨by rfl, ?_⟩) (by assumption) ?_
  rotate_left 1
  · intro w hSw; (try dsimp only at hSw); go_simp <;> with_reducible rfl
  try simp only [Act.put, List.setIfInBounds_toArray, List.set_cons_zero, List.set_cons_succ, List.getElem_toArray, List.getElem_cons_zero, List.getElem_cons_succ]
  refine wpAnyH_done (by kernel_rfl) ?_ _
  have HF : Hid (OtherQ w0 p q n M (.returned (.bool true)) w4) := Lib.hid ⟨rfl, _, d', r', HAL.out, GS.front (L := L2 w0 p (n + 2) d' q r' M) G4.out⟩
  clear hHeld
  go_wp2_with fail
  go_ret
  exact HF.out
set_option maxRecDepth 20000 in
set_option maxHeartbeats 4000000 in
theorem other_sync {w0 W : World} {C : Nat → Nat} {p q n : Nat} {d : Dk} {r : Rd} {M : List PartT} (hG : GS w0 W C (L2 w0 p n d q r M)) (al : Alike d r n) (hn : n + 2 < 1000000) (nm ot dat : List UInt8) (A : Option Addr) (m cp : Nat) (two : Bool) : Calls Tryz.prog 18 #[.agg #[.int .i64 8, .string (strB nm), .string (strB ot), .string (strB dat), .slice A m cp, .bool two], .pointer (some ⟨p, 0, none⟩), .pointer (some ⟨q, 0, none⟩)] W (OtherQ w0 p q n M) := by
  obtain ⟨w1, hw1⟩ : ∃ w1, w1 = W.alloc (.cells #[.int .i64 8, .string (strB nm), .string (strB ot), .string (strB dat), .slice A m cp, .bool two] 54) := ⟨_, rfl⟩
  obtain ⟨g, hg⟩ : ∃ g, g = W.heap.size := ⟨_, rfl⟩
  have hb : Below W.heap.size W w1 := by rw [hw1]; exact (Below.refl _ _).alloc (Nat.le_refl _) _
  have K1 : Hid (Blk w1 g 54 #[.int .i64 8, .string (strB nm), .string (strB ot), .string (strB dat), .slice A m cp, .bool two]) := Lib.hid (by rw [hw1, hg]; exact Blk.new W _ _ rfl)
  obtain ⟨cB, hcB⟩ : ∃ cB, cB = (L2 w0 p n d q r M).length + 1 := ⟨_, rfl⟩
  obtain ⟨C1, hC1⟩ : ∃ C1, C1 = paint C W.heap.size cB := ⟨_, rfl⟩
  obtain ⟨BP, hBP⟩ : ∃ BP : PartT, BP = (fun W C => FrC W C cB (fun w => Blk w g 54 #[.int .i64 8, .string (strB nm), .string (strB ot), .string (strB dat), .slice A m cp, .bool two])) := ⟨_, rfl⟩
  have G1 : Hid (GS w0 w1 C1 (L2 w0 p n d q r (M ++ [BP]))) := Lib.hid (by
    have h1 := hG.holdBlk hb K1.out (by omega)
    rw [← hcB] at h1
    rw [hBP, hC1]; exact h1)
  have HDK : Hid (d.Ok n) := Lib.hid (DC.ok (hG.at_ (k := 0) rfl : DCp w0 1 p n d W C))
  have HBP : Hid (∀ w C, BP w C → Blk w g 54 #[.int .i64 8, .string (strB nm), .string (strB ot), .string (strB dat), .slice A m cp, .bool two]) := Lib.hid (fun w C h => by rw [hBP] at h; exact h.now)
  have HS : Hid (∀ w', Blk w' g 54 #[.int .i64 8, .string (strB nm), .string (strB ot), .string (strB dat), .slice A m cp, .bool two] → (fun w' => w'.cell? ⟨g, 0, none⟩ = some (.int .i64 8) ∧ w'.cell? ⟨g, 1, none⟩ = some (.string (strB nm)) ∧ w'.cell? ⟨g, 2, none⟩ = some (.string (strB ot)) ∧ w'.cell? ⟨g, 3, none⟩ = some (.string (strB dat)) ∧ w'.cell? ⟨g, 4, none⟩ = some (.slice A m cp) ∧ w'.cell? ⟨g, 5, none⟩ = some (.bool two)) w') := Lib.hid (fun w' hb => ⟨(hb.cell 0).trans rfl, (hb.cell 1).trans rfl, (hb.cell 2).trans rfl, (hb.cell 3).trans rfl, (hb.cell 4).trans rfl, (hb.cell 5).trans rfl⟩)
  have HN := Lib.hid hn

  obtain ⟨v, d', r', al', hA, hB⟩ := PairC.two (p := p) (q := q) (w0 := w0) (pair_sync al HDK.out hn nm)
  have HA := Lib.hid hA; have HB := Lib.hid hB; have HAL := Lib.hid al'
  clear hb hG al hn hA hB al' hBP hC1 hcB
  go_enter Tryz.func18, Tryz.ntmps18
  go_upto_region 14 with fail
  rw [← hw1, ← hg]
  clear hw1 hg
  refine wp_region_any (by kernel_rfl) ?_
  change wpAny _ _ _ _ _ _ _ (World.drew _)
  refine wpAny_of_held (S := fun w' => w'.cell? ⟨g, 0, none⟩ = some (.int .i64 8) ∧ w'.cell? ⟨g, 1, none⟩ = some (.string (strB nm)) ∧ w'.cell? ⟨g, 2, none⟩ = some (.string (strB ot)) ∧ w'.cell? ⟨g, 3, none⟩ = some (.string (strB dat)) ∧ w'.cell? ⟨g, 4, none⟩ = some (.slice A m cp) ∧ w'.cell? ⟨g, 5, none⟩ = some (.bool two)) _ _ _ _ ?_
  obtain ⟨w2, hw2⟩ : ∃ w2, w2 = w1.drew := ⟨_, rfl⟩
  have G2 : Hid (GS w0 w2 C1 (L2 w0 p n d q r (M ++ [BP]))) := Lib.hid (by rw [hw2]; exact G1.out.keep (Below.refl _ _).drew)
  rw [← hw2]
  clear hw2 K1 G1
  have hHeld : (fun w' => w'.cell? ⟨g, 0, none⟩ = some (.int .i64 8) ∧ w'.cell? ⟨g, 1, none⟩ = some (.string (strB nm)) ∧ w'.cell? ⟨g, 2, none⟩ = some (.string (strB ot)) ∧ w'.cell? ⟨g, 3, none⟩ = some (.string (strB dat)) ∧ w'.cell? ⟨g, 4, none⟩ = some (.slice A m cp) ∧ w'.cell? ⟨g, 5, none⟩ = some (.bool two)) w2 := HS.out _ (HBP.out _ _ (GS.last (L := L2 w0 p n d q r M) G2.out))
  refine wpAnyH_take (i := 0) (v := ?_) rfl (by kernel_rfl) (by kernel_rfl) (by kernel_rfl) (fun _ _ _ h => h) (Or.inl ⟨by rfl, ?_⟩) (by assumption) ?_
  rotate_left 1
  · intro w hSw; (try dsimp only at hSw); go_simp <;> with_reducible rfl
  try simp only [Act.put, List.setIfInBounds_toArray, List.set_cons_zero, List.set_cons_succ, List.getElem_toArray, List.getElem_cons_zero]
  refine wpAnyH_take (i := 1) (v := ?_) rfl (by kernel_rfl) (by kernel_rfl) (by kernel_rfl) (fun _ _ _ h => h) (Or.inl ⟨by rfl, ?_⟩) (by assumption) ?_
  rotate_left 1
  · intro w hSw; (try dsimp only at hSw); go_simp <;> with_reducible rfl
  try simp only [Act.put, List.setIfInBounds_toArray, List.set_cons_zero, List.set_cons_succ, List.getElem_toArray, List.getElem_cons_zero, List.getElem_cons_succ]
  refine wpAnyH_take (i := 2) (v := ?_) rfl (by kernel_rfl) (by kernel_rfl) (by kernel_rfl) (fun _ _ _ h => h) (Or.inl ⟨by rfl, ?_⟩) (by assumption) ?_
  rotate_left 1
  · intro w hSw; obtain ⟨z0, z1, z2, z3, z4, z5⟩ := hSw; (try dsimp only at hSw); go_simp <;> with_reducible rfl
  try simp only [Act.put, List.setIfInBounds_toArray, List.set_cons_zero, List.set_cons_succ, List.getElem_toArray, List.getElem_cons_zero, List.getElem_cons_succ]
  refine wpAnyH_take (i := 4) (v := ?_) rfl (by kernel_rfl) (by kernel_rfl) (by kernel_rfl) (fun _ _ _ h => h) (Or.inl ⟨by rfl, ?_⟩) (by assumption) ?_
  rotate_left 1
  · intro w hSw; (try dsimp only at hSw); go_simp <;> with_reducible rfl
  try simp only [Act.put, List.setIfInBounds_toArray, List.set_cons_zero, List.set_cons_succ, List.getElem_toArray, List.getElem_cons_zero, List.getElem_cons_succ]
  refine wpAnyH_take (i := 5) (v := ?_) rfl (by kernel_rfl) (by kernel_rfl) (by kernel_rfl) (fun _ _ _ h => h) (Or.inl ⟨by rfl, ?_⟩) (by assumption) ?_
  rotate_left 1
  · intro w hSw; (try dsimp only at hSw); go_simp <;> with_reducible rfl
  try simp only [Act.put, List.setIfInBounds_toArray, List.set_cons_zero, List.set_cons_succ, List.getElem_toArray, List.getElem_cons_zero, List.getElem_cons_succ]
  refine wpAnyH_take (i := 6) (v := ?_) rfl (by kernel_rfl) (by kernel_rfl) (by kernel_rfl) (fun _ _ _ h => h) (Or.inl ⟨by rfl, ?_⟩) (by assumption) ?_
  rotate_left 1
  · intro w hSw; obtain ⟨z0, z1, z2, z3, z4, z5⟩ := hSw; (try dsimp only at hSw); go_simp <;> with_reducible rfl
  try simp only [Act.put, List.setIfInBounds_toArray, List.set_cons_zero, List.set_cons_succ, List.getElem_toArray, List.getElem_cons_zero, List.getElem_cons_succ]
  refine wpAnyH_ready (rs := [3]) (by kernel_rfl) (by simp) (AllReadyH.cons rfl (fun K hK => ?_) AllReadyH.nil)
  have hPrev := hHeld
  clear hHeld
  go_simp
  refine (HA.out _ _ (M ++ [BP]) [.string (strB nm)] G2.out rfl).mono ?_
  rintro e w3 ⟨rfl, hg3⟩
  have G3 := Lib.hid hg3
  clear hg3 HA
  refine hK.out _ _ (HS.out _ (HBP.out _ _ (GS.last (L := L2 w0 p (n + 2) d' q r M) G3.out))) (fun hHeld => ?_)
  clear hK K hPrev
  try simp only [Act.put, List.setIfInBounds_toArray, List.set_cons_zero, List.set_cons_succ, List.getElem_toArray, List.getElem_cons_zero, List.getElem_cons_succ]
  refine wpAnyH_ready (rs := [7]) (by kernel_rfl) (by simp) (AllReadyH.cons rfl (fun K hK => ?_) AllReadyH.nil)
  have hPrev := hHeld
  clear hHeld
  go_simp
  refine (HB.out _ _ (M ++ [BP]) [.string (strB nm)] G3.out rfl).mono ?_
  rintro e w4 ⟨rfl, hg4⟩
  have G4 := Lib.hid hg4
  clear hg4 HB
  refine hK.out _ _ (HS.out _ (HBP.out _ _ (GS.last (L := L2 w0 p (n + 2) d' q r' M) G4.out))) (fun hHeld => ?_)
  clear hK K hPrev
  try simp only [Act.put, List.setIfInBounds_toArray, List.set_cons_zero, List.set_cons_succ, List.getElem_toArray, List.getElem_cons_zero, List.getElem_cons_succ]
  refine wpAnyH_take (i := 8) (v := ?_) rfl (by kernel_rfl) (by kernel_rfl) (by kernel_rfl) (fun _ _ _ h => h) (Or.inl ⟨by rfl, ?_⟩) (by assumption) ?_
  rotate_left 1
  · intro w hSw; (try dsimp only at hSw); go_simp <;> with_reducible rfl
  try simp only [Act.put, List.setIfInBounds_toArray, List.set_cons_zero, List.set_cons_succ, List.getElem_toArray, List.getElem_cons_zero, List.getElem_cons_succ]
  refine wpAnyH_take (i := 9) (v := ?_) rfl (by kernel_rfl) (by kernel_rfl) (by kernel_rfl) (fun _ _ _ h => h) (Or.inl ⟨by rfl, ?_⟩) (by assumption) ?_
  rotate_left 1
  · intro w hSw; (try dsimp only at hSw); go_simp <;> with_reducible rfl
  try simp only [Act.put, List.setIfInBounds_toArray, List.set_cons_zero, List.set_cons_succ, List.getElem_toArray, List.getElem_cons_zero, List.getElem_cons_succ]
  refine wpAnyH_done (by kernel_rfl) ?_ _
  have HF : Hid (OtherQ w0 p q n M (.returned (.bool true)) w4) := Lib.hid ⟨rfl, _, d', r', HAL.out, GS.front (L := L2 w0 p (n + 2) d' q r' M) G4.out⟩
  clear hHeld
  go_wp2_with fail
  go_ret
  exact HF.out
set_option maxRecDepth 20000 in
set_option maxHeartbeats 4000000 in
theorem other_append {w0 W : World} {C : Nat → Nat} {p q n : Nat} {d : Dk} {r : Rd} {M : List PartT} (hG : GS w0 W C (L2 w0 p n d q r M)) (al : Alike d r n) (hn : n + 2 < 1000000) (nm ot dat : List UInt8) (A : Option Addr) (m cp : Nat) (two : Bool) (hdat : dat.length ≤ 1000000000) : Calls Tryz.prog 18 #[.agg #[.int .i64 4, .string (strB nm), .string (strB ot), .string (strB dat), .slice A m cp, .bool two], .pointer (some ⟨p, 0, none⟩), .pointer (some ⟨q, 0, none⟩)] W (OtherQ w0 p q n M) := by
  obtain ⟨w1, hw1⟩ : ∃ w1, w1 = W.alloc (.cells #[.int .i64 4, .string (strB nm), .string (strB ot), .string (strB dat), .slice A m cp, .bool two] 54) := ⟨_, rfl⟩
  obtain ⟨g, hg⟩ : ∃ g, g = W.heap.size := ⟨_, rfl⟩
  have hb : Below W.heap.size W w1 := by rw [hw1]; exact (Below.refl _ _).alloc (Nat.le_refl _) _
  have K1 : Hid (Blk w1 g 54 #[.int .i64 4, .string (strB nm), .string (strB ot), .string (strB dat), .slice A m cp, .bool two]) := Lib.hid (by rw [hw1, hg]; exact Blk.new W _ _ rfl)
  obtain ⟨cB, hcB⟩ : ∃ cB, cB = (L2 w0 p n d q r M).length + 1 := ⟨_, rfl⟩
  obtain ⟨C1, hC1⟩ : ∃ C1, C1 = paint C W.heap.size cB := ⟨_, rfl⟩
  obtain ⟨BP, hBP⟩ : ∃ BP : PartT, BP = (fun W C => FrC W C cB (fun w => Blk w g 54 #[.int .i64 4, .string (strB nm), .string (strB ot), .string (strB dat), .slice A m cp, .bool two])) := ⟨_, rfl⟩
  have G1 : Hid (GS w0 w1 C1 (L2 w0 p n d q r (M ++ [BP]))) := Lib.hid (by
    have h1 := hG.holdBlk hb K1.out (by omega)
    rw [← hcB] at h1
    rw [hBP, hC1]; exact h1)
  have HDK : Hid (d.Ok n) := Lib.hid (DC.ok (hG.at_ (k := 0) rfl : DCp w0 1 p n d W C))
  have HBP : Hid (∀ w C, BP w C → Blk w g 54 #[.int .i64 4, .string (strB nm), .string (strB ot), .string (strB dat), .slice A m cp, .bool two]) := Lib.hid (fun w C h => by rw [hBP] at h; exact h.now)
  have HS : Hid (∀ w', Blk w' g 54 #[.int .i64 4, .string (strB nm), .string (strB ot), .string (strB dat), .slice A m cp, .bool two] → (fun w' => w'.cell? ⟨g, 0, none⟩ = some (.int .i64 4) ∧ w'.cell? ⟨g, 1, none⟩ = some (.string (strB nm)) ∧ w'.cell? ⟨g, 2, none⟩ = some (.string (strB ot)) ∧ w'.cell? ⟨g, 3, none⟩ = some (.string (strB dat)) ∧ w'.cell? ⟨g, 4, none⟩ = some (.slice A m cp) ∧ w'.cell? ⟨g, 5, none⟩ = some (.bool two)) w') := Lib.hid (fun w' hb => ⟨(hb.cell 0).trans rfl, (hb.cell 1).trans rfl, (hb.cell 2).trans rfl, (hb.cell 3).trans rfl, (hb.cell 4).trans rfl, (hb.cell 5).trans rfl⟩)
  have HN := Lib.hid hn

  obtain ⟨v, d', r', al', hA, hB⟩ := PairC.two (p := p) (q := q) (w0 := w0) (pair_append al HDK.out hn nm dat hdat)
  have HA := Lib.hid hA; have HB := Lib.hid hB; have HAL := Lib.hid al'
  have HX : Hid (∀ w3 C3 e v2 c1, GsQ w0 v2 C3 (L2 w0 p (n + 2) d' q r' (M ++ [BP] ++ [fun W C => FrC W C c1 (fun w => True)])) e w3 → True) := Lib.hid (fun _ _ _ _ _ _ => trivial)
  clear HX
  clear hb hG al hn hA hB al' hBP hC1 hcB
  go_enter Tryz.func18, Tryz.ntmps18
  go_upto_region 6 with fail
  rw [← hw1, ← hg]
  clear hw1 hg
  refine wp_region_any (by kernel_rfl) ?_
  change wpAny _ _ _ _ _ _ _ (World.drew _)
  refine wpAny_of_held (S := fun w' => w'.cell? ⟨g, 0, none⟩ = some (.int .i64 4) ∧ w'.cell? ⟨g, 1, none⟩ = some (.string (strB nm)) ∧ w'.cell? ⟨g, 2, none⟩ = some (.string (strB ot)) ∧ w'.cell? ⟨g, 3, none⟩ = some (.string (strB dat)) ∧ w'.cell? ⟨g, 4, none⟩ = some (.slice A m cp) ∧ w'.cell? ⟨g, 5, none⟩ = some (.bool two)) _ _ _ _ ?_
  obtain ⟨w2, hw2⟩ : ∃ w2, w2 = w1.drew := ⟨_, rfl⟩
  have G2 : Hid (GS w0 w2 C1 (L2 w0 p n d q r (M ++ [BP]))) := Lib.hid (by rw [hw2]; exact G1.out.keep (Below.refl _ _).drew)
  rw [← hw2]
  clear hw2 K1 G1
  have hHeld : (fun w' => w'.cell? ⟨g, 0, none⟩ = some (.int .i64 4) ∧ w'.cell? ⟨g, 1, none⟩ = some (.string (strB nm)) ∧ w'.cell? ⟨g, 2, none⟩ = some (.string (strB ot)) ∧ w'.cell? ⟨g, 3, none⟩ = some (.string (strB dat)) ∧ w'.cell? ⟨g, 4, none⟩ = some (.slice A m cp) ∧ w'.cell? ⟨g, 5, none⟩ = some (.bool two)) w2 := HS.out _ (HBP.out _ _ (GS.last (L := L2 w0 p n d q r M) G2.out))
  refine wpAnyH_take (i := 0) (v := ?_) rfl (by kernel_rfl) (by kernel_rfl) (by kernel_rfl) (fun _ _ _ h => h) (Or.inl ⟨by rfl, ?_⟩) (by assumption) ?_
  rotate_left 1
  · intro w hSw; (try dsimp only at hSw); go_simp <;> with_reducible rfl
  try simp only [Act.put, List.setIfInBounds_toArray, List.set_cons_zero, List.set_cons_succ, List.getElem_toArray, List.getElem_cons_zero]
  refine wpAnyH_take (i := 1) (v := ?_) rfl (by kernel_rfl) (by kernel_rfl) (by kernel_rfl) (fun _ _ _ h => h) (Or.inl ⟨by rfl, ?_⟩) (by assumption) ?_
  rotate_left 1
  · intro w hSw; (try dsimp only at hSw); go_simp <;> with_reducible rfl
  try simp only [Act.put, List.setIfInBounds_toArray, List.set_cons_zero, List.set_cons_succ, List.getElem_toArray, List.getElem_cons_zero, List.getElem_cons_succ]
  refine wpAnyH_take (i := 2) (v := ?_) rfl (by kernel_rfl) (by kernel_rfl) (by kernel_rfl) (fun _ _ _ h => h) (Or.inl ⟨by rfl, ?_⟩) (by assumption) ?_
  rotate_left 1
  · intro w hSw; obtain ⟨z0, z1, z2, z3, z4, z5⟩ := hSw; (try dsimp only at hSw); go_simp <;> with_reducible rfl
  try simp only [Act.put, List.setIfInBounds_toArray, List.set_cons_zero, List.set_cons_succ, List.getElem_toArray, List.getElem_cons_zero, List.getElem_cons_succ]
  refine wpAnyH_take (i := 3) (v := ?_) rfl (by kernel_rfl) (by kernel_rfl) (by kernel_rfl) (fun _ _ _ h => h) (Or.inl ⟨by rfl, ?_⟩) (by assumption) ?_
  rotate_left 1
  · intro w hSw; (try dsimp only at hSw); go_simp <;> with_reducible rfl
  try simp only [Act.put, List.setIfInBounds_toArray, List.set_cons_zero, List.set_cons_succ, List.getElem_toArray, List.getElem_cons_zero, List.getElem_cons_succ]
  refine wpAnyH_take (i := 4) (v := ?_) rfl (by kernel_rfl) (by kernel_rfl) (by kernel_rfl) (fun _ _ _ h => h) (Or.inl ⟨by rfl, ?_⟩) (by assumption) ?_
  rotate_left 1
  · intro w hSw; obtain ⟨z0, z1, z2, z3, z4, z5⟩ := hSw; (try dsimp only at hSw); go_simp <;> with_reducible rfl
  try simp only [Act.put, List.setIfInBounds_toArray, List.set_cons_zero, List.set_cons_succ, List.getElem_toArray, List.getElem_cons_zero, List.getElem_cons_succ]
  refine wpAnyH_take (i := 7) (v := ?_) rfl (by kernel_rfl) (by kernel_rfl) (by kernel_rfl) (fun _ _ _ h => h) (Or.inl ⟨by rfl, ?_⟩) (by assumption) ?_
  rotate_left 1
  · intro w hSw; (try dsimp only at hSw); go_simp <;> with_reducible rfl
  try simp only [Act.put, List.setIfInBounds_toArray, List.set_cons_zero, List.set_cons_succ, List.getElem_toArray, List.getElem_cons_zero, List.getElem_cons_succ]
  refine wpAnyH_take (i := 8) (v := ?_) rfl (by kernel_rfl) (by kernel_rfl) (by kernel_rfl) (fun _ _ _ h => h) (Or.inl ⟨by rfl, ?_⟩) (by assumption) ?_
  rotate_left 1
  · intro w hSw; (try dsimp only at hSw); go_simp <;> with_reducible rfl
  try simp only [Act.put, List.setIfInBounds_toArray, List.set_cons_zero, List.set_cons_succ, List.getElem_toArray, List.getElem_cons_zero, List.getElem_cons_succ]
  refine wpAnyH_take (i := 9) (v := ?_) rfl (by kernel_rfl) (by kernel_rfl) (by kernel_rfl) (fun _ _ _ h => h) (Or.inl ⟨by rfl, ?_⟩) (by assumption) ?_
  rotate_left 1
  · intro w hSw; obtain ⟨z0, z1, z2, z3, z4, z5⟩ := hSw; (try dsimp only at hSw); go_simp <;> with_reducible rfl
  try simp only [Act.put, List.setIfInBounds_toArray, List.set_cons_zero, List.set_cons_succ, List.getElem_toArray, List.getElem_cons_zero, List.getElem_cons_succ]
  refine wpAnyH_take (i := 10) (v := ?_) rfl (by kernel_rfl) (by kernel_rfl) (by kernel_rfl) (fun _ _ _ h => h) (Or.inl ⟨by rfl, ?_⟩) (by assumption) ?_
  rotate_left 1
  · intro w hSw; (try dsimp only at hSw); go_simp <;> with_reducible rfl
  try simp only [Act.put, List.setIfInBounds_toArray, List.set_cons_zero, List.set_cons_succ, List.getElem_toArray, List.getElem_cons_zero, List.getElem_cons_succ]
  refine wpAnyH_take (i := 11) (v := ?_) rfl (by kernel_rfl) (by kernel_rfl) (by kernel_rfl) (fun _ _ _ h => h) (Or.inl ⟨by rfl, ?_⟩) (by assumption) ?_
  rotate_left 1
  · intro w hSw; obtain ⟨z0, z1, z2, z3, z4, z5⟩ := hSw; (try dsimp only at hSw); go_simp <;> with_reducible rfl
  try simp only [Act.put, List.setIfInBounds_toArray, List.set_cons_zero, List.set_cons_succ, List.getElem_toArray, List.getElem_cons_zero, List.getElem_cons_succ]
  obtain ⟨C2, hC2⟩ : ∃ C2, C2 = C1 := ⟨_, rfl⟩
  rw [← hC2] at G2
  clear hC2
  refine wpAnyH_ready (rs := [5, 12]) (by kernel_rfl) (by simp) (AllReadyH.cons rfl (fun K hK => ?_) (AllReadyH.cons rfl (fun K hK => ?_) AllReadyH.nil))
  ·
    have hPrev := hHeld
    clear hHeld
    obtain ⟨w3, cc0, hcv, hbv, hrv⟩ := conv_strN w2 dat
    obtain ⟨bb0, hbb⟩ : ∃ bb0, bb0 = w2.heap.size := ⟨_, rfl⟩
    rw [← hbb] at hcv hrv
    obtain ⟨cr0, hcr⟩ : ∃ cr0, cr0 = (L2 w0 p n d q r (M ++ [BP])).length + 1 := ⟨_, rfl⟩
    obtain ⟨P0, hP⟩ : ∃ P0 : PartT, P0 = (fun W C => FrC W C cr0 (fun w => RB w (some ⟨bb0, 0, none⟩) dat.length dat)) := ⟨_, rfl⟩
    have HP0 : Hid (∀ w C, P0 w C → RB w (some ⟨bb0, 0, none⟩) dat.length dat) := Lib.hid (fun w C h => by rw [hP] at h; exact h.now)
    obtain ⟨C3, G3⟩ : ∃ C3, Hid (GS w0 w3 C3 (L2 w0 p n d q r ((M ++ [BP]) ++ [P0]))) := ⟨paint C2 w2.heap.size cr0, Lib.hid (by
      have h1 := G2.out.holdRb hbv hrv (by omega)
      rw [← hcr] at h1
      rw [hP]; exact h1)⟩
    clear hbv hrv hbb hcr hP
    go_simp
    refine hK.out _ _ (HS.out _ (HBP.out _ _ (GS.last (L := L2 w0 p n d q r M) (GS.front (L := L2 w0 p n d q r (M ++ [BP])) G3.out)))) (fun hHeld => ?_)
    clear hK K hPrev hcv
    try simp only [Act.put, List.setIfInBounds_toArray, List.set_cons_zero, List.set_cons_succ, List.getElem_toArray, List.getElem_cons_zero, List.getElem_cons_succ]
    refine wpAnyH_ready (rs := [6, 12]) (by kernel_rfl) (by simp) (AllReadyH.cons rfl (fun K hK => ?_) (AllReadyH.cons rfl (fun K hK => ?_) AllReadyH.nil))
    ·
      have hPrev := hHeld
      clear hHeld
      go_simp
      refine (HA.out _ _ ((M ++ [BP]) ++ [P0]) [.string (strB nm), .slice (some ⟨bb0, 0, none⟩) dat.length cc0] G3.out ⟨_, _, _, rfl, (HP0.out _ _ (GS.last (L := L2 w0 p n d q r (M ++ [BP])) G3.out))⟩).mono ?_
      rintro e w4 ⟨rfl, hg4⟩
      obtain ⟨C4, hC⟩ : ∃ C4, C4 = paint C3 w3.heap.size 1 := ⟨_, rfl⟩
      rw [← hC] at hg4
      have G4 := Lib.hid hg4
      clear hg4 hC
      refine hK.out _ _ (HS.out _ (HBP.out _ _ (GS.last (L := L2 w0 p (n + 2) d' q r M) (GS.front (L := L2 w0 p (n + 2) d' q r (M ++ [BP])) G4.out)))) (fun hHeld => ?_)
      clear hK K hPrev
      try simp only [Act.put, List.setIfInBounds_toArray, List.set_cons_zero, List.set_cons_succ, List.getElem_toArray, List.getElem_cons_zero, List.getElem_cons_succ]
      refine wpAnyH_ready (rs := [12]) (by kernel_rfl) (by simp) (AllReadyH.cons rfl (fun K hK => ?_) AllReadyH.nil)
      have hPrev := hHeld
      clear hHeld
      obtain ⟨w5, cc1, hcv, hbv, hrv⟩ := conv_strN w4 dat
      obtain ⟨bb1, hbb⟩ : ∃ bb1, bb1 = w4.heap.size := ⟨_, rfl⟩
      rw [← hbb] at hcv hrv
      obtain ⟨cr1, hcr⟩ : ∃ cr1, cr1 = (L2 w0 p (n + 2) d' q r ((M ++ [BP]) ++ [P0])).length + 1 := ⟨_, rfl⟩
      obtain ⟨P1, hP⟩ : ∃ P1 : PartT, P1 = (fun W C => FrC W C cr1 (fun w => RB w (some ⟨bb1, 0, none⟩) dat.length dat)) := ⟨_, rfl⟩
      have HP1 : Hid (∀ w C, P1 w C → RB w (some ⟨bb1, 0, none⟩) dat.length dat) := Lib.hid (fun w C h => by rw [hP] at h; exact h.now)
      obtain ⟨C5, G5⟩ : ∃ C5, Hid (GS w0 w5 C5 (L2 w0 p (n + 2) d' q r (((M ++ [BP]) ++ [P0]) ++ [P1]))) := ⟨paint C4 w4.heap.size cr1, Lib.hid (by
        have h1 := G4.out.holdRb hbv hrv (by omega)
        rw [← hcr] at h1
        rw [hP]; exact h1)⟩
      clear hbv hrv hbb hcr hP
      go_simp
      refine hK.out _ _ (HS.out _ (HBP.out _ _ (GS.last (L := L2 w0 p (n + 2) d' q r M) (GS.front (L := L2 w0 p (n + 2) d' q r (M ++ [BP])) (GS.front (L := L2 w0 p (n + 2) d' q r ((M ++ [BP]) ++ [P0])) G5.out))))) (fun hHeld => ?_)
      clear hK K hPrev hcv
      try simp only [Act.put, List.setIfInBounds_toArray, List.set_cons_zero, List.set_cons_succ, List.getElem_toArray, List.getElem_cons_zero, List.getElem_cons_succ]
      refine wpAnyH_ready (rs := [13]) (by kernel_rfl) (by simp) (AllReadyH.cons rfl (fun K hK => ?_) AllReadyH.nil)
      have hPrev := hHeld
      clear hHeld
      go_simp
      refine (HB.out _ _ (((M ++ [BP]) ++ [P0]) ++ [P1]) [.string (strB nm), .slice (some ⟨bb1, 0, none⟩) dat.length cc1] G5.out ⟨_, _, _, rfl, (HP1.out _ _ (GS.last (L := L2 w0 p (n + 2) d' q r ((M ++ [BP]) ++ [P0])) G5.out))⟩).mono ?_
      rintro e w6 ⟨rfl, hg6⟩
      obtain ⟨C6, hC⟩ : ∃ C6, C6 = paint C5 w5.heap.size 2 := ⟨_, rfl⟩
      rw [← hC] at hg6
      have G6 := Lib.hid hg6
      clear hg6 hC
      refine hK.out _ _ (HS.out _ (HBP.out _ _ (GS.last (L := L2 w0 p (n + 2) d' q r' M) (GS.front (L := L2 w0 p (n + 2) d' q r' (M ++ [BP])) (GS.front (L := L2 w0 p (n + 2) d' q r' ((M ++ [BP]) ++ [P0])) G6.out))))) (fun hHeld => ?_)
      clear hK K hPrev
      try simp only [Act.put, List.setIfInBounds_toArray, List.set_cons_zero, List.set_cons_succ, List.getElem_toArray, List.getElem_cons_zero, List.getElem_cons_succ]
      refine wpAnyH_take (i := 14) (v := ?_) rfl (by kernel_rfl) (by kernel_rfl) (by kernel_rfl) (fun _ _ _ h => h) (Or.inl ⟨by rfl, ?_⟩) (by assumption) ?_
      rotate_left 1
      · intro w hSw; (try dsimp only at hSw); go_simp <;> with_reducible rfl
      try simp only [Act.put, List.setIfInBounds_toArray, List.set_cons_zero, List.set_cons_succ, List.getElem_toArray, List.getElem_cons_zero, List.getElem_cons_succ]
      refine wpAnyH_take (i := 15) (v := ?_) rfl (by kernel_rfl) (by kernel_rfl) (by kernel_rfl) (fun _ _ _ h => h) (Or.inl ⟨by rfl, ?_⟩) (by assumption) ?_
      rotate_left 1
      · intro w hSw; (try dsimp only at hSw); go_simp <;> with_reducible rfl
      try simp only [Act.put, List.setIfInBounds_toArray, List.set_cons_zero, List.set_cons_succ, List.getElem_toArray, List.getElem_cons_zero, List.getElem_cons_succ]
      refine wpAnyH_done (by kernel_rfl) ?_ _
      have HF : Hid (OtherQ w0 p q n M (.returned (.bool true)) w6) := Lib.hid ⟨rfl, _, d', r', HAL.out, (GS.front (L := L2 w0 p (n + 2) d' q r' M) (GS.front (L := L2 w0 p (n + 2) d' q r' (M ++ [BP])) (GS.front (L := L2 w0 p (n + 2) d' q r' ((M ++ [BP]) ++ [P0])) G6.out)))⟩
      clear hHeld
      go_wp2_with fail
      go_ret
      exact HF.out
    ·
      have hPrev := hHeld
      clear hHeld
      obtain ⟨w4, cc1, hcv, hbv, hrv⟩ := conv_strN w3 dat
      obtain ⟨bb1, hbb⟩ : ∃ bb1, bb1 = w3.heap.size := ⟨_, rfl⟩
      rw [← hbb] at hcv hrv
      obtain ⟨cr1, hcr⟩ : ∃ cr1, cr1 = (L2 w0 p n d q r ((M ++ [BP]) ++ [P0])).length + 1 := ⟨_, rfl⟩
      obtain ⟨P1, hP⟩ : ∃ P1 : PartT, P1 = (fun W C => FrC W C cr1 (fun w => RB w (some ⟨bb1, 0, none⟩) dat.length dat)) := ⟨_, rfl⟩
      have HP1 : Hid (∀ w C, P1 w C → RB w (some ⟨bb1, 0, none⟩) dat.length dat) := Lib.hid (fun w C h => by rw [hP] at h; exact h.now)
      obtain ⟨C4, G4⟩ : ∃ C4, Hid (GS w0 w4 C4 (L2 w0 p n d q r (((M ++ [BP]) ++ [P0]) ++ [P1]))) := ⟨paint C3 w3.heap.size cr1, Lib.hid (by
        have h1 := G3.out.holdRb hbv hrv (by omega)
        rw [← hcr] at h1
        rw [hP]; exact h1)⟩
      clear hbv hrv hbb hcr hP
      go_simp
      refine hK.out _ _ (HS.out _ (HBP.out _ _ (GS.last (L := L2 w0 p n d q r M) (GS.front (L := L2 w0 p n d q r (M ++ [BP])) (GS.front (L := L2 w0 p n d q r ((M ++ [BP]) ++ [P0])) G4.out))))) (fun hHeld => ?_)
      clear hK K hPrev hcv
      try simp only [Act.put, List.setIfInBounds_toArray, List.set_cons_zero, List.set_cons_succ, List.getElem_toArray, List.getElem_cons_zero, List.getElem_cons_succ]
      refine wpAnyH_ready (rs := [6]) (by kernel_rfl) (by simp) (AllReadyH.cons rfl (fun K hK => ?_) AllReadyH.nil)
      have hPrev := hHeld
      clear hHeld
      go_simp
      refine (HA.out _ _ (((M ++ [BP]) ++ [P0]) ++ [P1]) [.string (strB nm), .slice (some ⟨bb0, 0, none⟩) dat.length cc0] G4.out ⟨_, _, _, rfl, (HP0.out _ _ (GS.last (L := L2 w0 p n d q r (M ++ [BP])) (GS.front (L := L2 w0 p n d q r ((M ++ [BP]) ++ [P0])) G4.out)))⟩).mono ?_
      rintro e w5 ⟨rfl, hg5⟩
      obtain ⟨C5, hC⟩ : ∃ C5, C5 = paint C4 w4.heap.size 1 := ⟨_, rfl⟩
      rw [← hC] at hg5
      have G5 := Lib.hid hg5
      clear hg5 hC
      refine hK.out _ _ (HS.out _ (HBP.out _ _ (GS.last (L := L2 w0 p (n + 2) d' q r M) (GS.front (L := L2 w0 p (n + 2) d' q r (M ++ [BP])) (GS.front (L := L2 w0 p (n + 2) d' q r ((M ++ [BP]) ++ [P0])) G5.out))))) (fun hHeld => ?_)
      clear hK K hPrev
      try simp only [Act.put, List.setIfInBounds_toArray, List.set_cons_zero, List.set_cons_succ, List.getElem_toArray, List.getElem_cons_zero, List.getElem_cons_succ]
      refine wpAnyH_ready (rs := [13]) (by kernel_rfl) (by simp) (AllReadyH.cons rfl (fun K hK => ?_) AllReadyH.nil)
      have hPrev := hHeld
      clear hHeld
      go_simp
      refine (HB.out _ _ (((M ++ [BP]) ++ [P0]) ++ [P1]) [.string (strB nm), .slice (some ⟨bb1, 0, none⟩) dat.length cc1] G5.out ⟨_, _, _, rfl, (HP1.out _ _ (GS.last (L := L2 w0 p (n + 2) d' q r ((M ++ [BP]) ++ [P0])) G5.out))⟩).mono ?_
      rintro e w6 ⟨rfl, hg6⟩
      obtain ⟨C6, hC⟩ : ∃ C6, C6 = paint C5 w5.heap.size 2 := ⟨_, rfl⟩
      rw [← hC] at hg6
      have G6 := Lib.hid hg6
      clear hg6 hC
      refine hK.out _ _ (HS.out _ (HBP.out _ _ (GS.last (L := L2 w0 p (n + 2) d' q r' M) (GS.front (L := L2 w0 p (n + 2) d' q r' (M ++ [BP])) (GS.front (L := L2 w0 p (n + 2) d' q r' ((M ++ [BP]) ++ [P0])) G6.out))))) (fun hHeld => ?_)
      clear hK K hPrev
      try simp only [Act.put, List.setIfInBounds_toArray, List.set_cons_zero, List.set_cons_succ, List.getElem_toArray, List.getElem_cons_zero, List.getElem_cons_succ]
      refine wpAnyH_take (i := 14) (v := ?_) rfl (by kernel_rfl) (by kernel_rfl) (by kernel_rfl) (fun _ _ _ h => h) (Or.inl ⟨by rfl, ?_⟩) (by assumption) ?_
      rotate_left 1
      · intro w hSw; (try dsimp only at hSw); go_simp <;> with_reducible rfl
      try simp only [Act.put, List.setIfInBounds_toArray, List.set_cons_zero, List.set_cons_succ, List.getElem_toArray, List.getElem_cons_zero, List.getElem_cons_succ]
      refine wpAnyH_take (i := 15) (v := ?_) rfl (by kernel_rfl) (by kernel_rfl) (by kernel_rfl) (fun _ _ _ h => h) (Or.inl ⟨by rfl, ?_⟩) (by assumption) ?_
      rotate_left 1
      · intro w hSw; (try dsimp only at hSw); go_simp <;> with_reducible rfl
      try simp only [Act.put, List.setIfInBounds_toArray, List.set_cons_zero, List.set_cons_succ, List.getElem_toArray, List.getElem_cons_zero, List.getElem_cons_succ]
      refine wpAnyH_done (by kernel_rfl) ?_ _
      have HF : Hid (OtherQ w0 p q n M (.returned (.bool true)) w6) := Lib.hid ⟨rfl, _, d', r', HAL.out, (GS.front (L := L2 w0 p (n + 2) d' q r' M) (GS.front (L := L2 w0 p (n + 2) d' q r' (M ++ [BP])) (GS.front (L := L2 w0 p (n + 2) d' q r' ((M ++ [BP]) ++ [P0])) G6.out)))⟩
      clear hHeld
      go_wp2_with fail
      go_ret
      exact HF.out
  ·
    have hPrev := hHeld
    clear hHeld
    obtain ⟨w3, cc1, hcv, hbv, hrv⟩ := conv_strN w2 dat
    obtain ⟨bb1, hbb⟩ : ∃ bb1, bb1 = w2.heap.size := ⟨_, rfl⟩
    rw [← hbb] at hcv hrv
    obtain ⟨cr1, hcr⟩ : ∃ cr1, cr1 = (L2 w0 p n d q r (M ++ [BP])).length + 1 := ⟨_, rfl⟩
    obtain ⟨P1, hP⟩ : ∃ P1 : PartT, P1 = (fun W C => FrC W C cr1 (fun w => RB w (some ⟨bb1, 0, none⟩) dat.length dat)) := ⟨_, rfl⟩
    have HP1 : Hid (∀ w C, P1 w C → RB w (some ⟨bb1, 0, none⟩) dat.length dat) := Lib.hid (fun w C h => by rw [hP] at h; exact h.now)
    obtain ⟨C3, G3⟩ : ∃ C3, Hid (GS w0 w3 C3 (L2 w0 p n d q r ((M ++ [BP]) ++ [P1]))) := ⟨paint C2 w2.heap.size cr1, Lib.hid (by
      have h1 := G2.out.holdRb hbv hrv (by omega)
      rw [← hcr] at h1
      rw [hP]; exact h1)⟩
    clear hbv hrv hbb hcr hP
    go_simp
    refine hK.out _ _ (HS.out _ (HBP.out _ _ (GS.last (L := L2 w0 p n d q r M) (GS.front (L := L2 w0 p n d q r (M ++ [BP])) G3.out)))) (fun hHeld => ?_)
    clear hK K hPrev hcv
    try simp only [Act.put, List.setIfInBounds_toArray, List.set_cons_zero, List.set_cons_succ, List.getElem_toArray, List.getElem_cons_zero, List.getElem_cons_succ]
    refine wpAnyH_ready (rs := [5]) (by kernel_rfl) (by simp) (AllReadyH.cons rfl (fun K hK => ?_) AllReadyH.nil)
    have hPrev := hHeld
    clear hHeld
    obtain ⟨w4, cc0, hcv, hbv, hrv⟩ := conv_strN w3 dat
    obtain ⟨bb0, hbb⟩ : ∃ bb0, bb0 = w3.heap.size := ⟨_, rfl⟩
    rw [← hbb] at hcv hrv
    obtain ⟨cr0, hcr⟩ : ∃ cr0, cr0 = (L2 w0 p n d q r ((M ++ [BP]) ++ [P1])).length + 1 := ⟨_, rfl⟩
    obtain ⟨P0, hP⟩ : ∃ P0 : PartT, P0 = (fun W C => FrC W C cr0 (fun w => RB w (some ⟨bb0, 0, none⟩) dat.length dat)) := ⟨_, rfl⟩
    have HP0 : Hid (∀ w C, P0 w C → RB w (some ⟨bb0, 0, none⟩) dat.length dat) := Lib.hid (fun w C h => by rw [hP] at h; exact h.now)
    obtain ⟨C4, G4⟩ : ∃ C4, Hid (GS w0 w4 C4 (L2 w0 p n d q r (((M ++ [BP]) ++ [P1]) ++ [P0]))) := ⟨paint C3 w3.heap.size cr0, Lib.hid (by
      have h1 := G3.out.holdRb hbv hrv (by omega)
      rw [← hcr] at h1
      rw [hP]; exact h1)⟩
    clear hbv hrv hbb hcr hP
    go_simp
    refine hK.out _ _ (HS.out _ (HBP.out _ _ (GS.last (L := L2 w0 p n d q r M) (GS.front (L := L2 w0 p n d q r (M ++ [BP])) (GS.front (L := L2 w0 p n d q r ((M ++ [BP]) ++ [P1])) G4.out))))) (fun hHeld => ?_)
    clear hK K hPrev hcv
    try simp only [Act.put, List.setIfInBounds_toArray, List.set_cons_zero, List.set_cons_succ, List.getElem_toArray, List.getElem_cons_zero, List.getElem_cons_succ]
    refine wpAnyH_ready (rs := [6]) (by kernel_rfl) (by simp) (AllReadyH.cons rfl (fun K hK => ?_) AllReadyH.nil)
    have hPrev := hHeld
    clear hHeld
    go_simp
    refine (HA.out _ _ (((M ++ [BP]) ++ [P1]) ++ [P0]) [.string (strB nm), .slice (some ⟨bb0, 0, none⟩) dat.length cc0] G4.out ⟨_, _, _, rfl, (HP0.out _ _ (GS.last (L := L2 w0 p n d q r ((M ++ [BP]) ++ [P1])) G4.out))⟩).mono ?_
    rintro e w5 ⟨rfl, hg5⟩
    obtain ⟨C5, hC⟩ : ∃ C5, C5 = paint C4 w4.heap.size 1 := ⟨_, rfl⟩
    rw [← hC] at hg5
    have G5 := Lib.hid hg5
    clear hg5 hC
    refine hK.out _ _ (HS.out _ (HBP.out _ _ (GS.last (L := L2 w0 p (n + 2) d' q r M) (GS.front (L := L2 w0 p (n + 2) d' q r (M ++ [BP])) (GS.front (L := L2 w0 p (n + 2) d' q r ((M ++ [BP]) ++ [P1])) G5.out))))) (fun hHeld => ?_)
    clear hK K hPrev
    try simp only [Act.put, List.setIfInBounds_toArray, List.set_cons_zero, List.set_cons_succ, List.getElem_toArray, List.getElem_cons_zero, List.getElem_cons_succ]
    refine wpAnyH_ready (rs := [13]) (by kernel_rfl) (by simp) (AllReadyH.cons rfl (fun K hK => ?_) AllReadyH.nil)
    have hPrev := hHeld
    clear hHeld
    go_simp
    refine (HB.out _ _ (((M ++ [BP]) ++ [P1]) ++ [P0]) [.string (strB nm), .slice (some ⟨bb1, 0, none⟩) dat.length cc1] G5.out ⟨_, _, _, rfl, (HP1.out _ _ (GS.last (L := L2 w0 p (n + 2) d' q r (M ++ [BP])) (GS.front (L := L2 w0 p (n + 2) d' q r ((M ++ [BP]) ++ [P1])) G5.out)))⟩).mono ?_
    rintro e w6 ⟨rfl, hg6⟩
    obtain ⟨C6, hC⟩ : ∃ C6, C6 = paint C5 w5.heap.size 2 := ⟨_, rfl⟩
    rw [← hC] at hg6
    have G6 := Lib.hid hg6
    clear hg6 hC
    refine hK.out _ _ (HS.out _ (HBP.out _ _ (GS.last (L := L2 w0 p (n + 2) d' q r' M) (GS.front (L := L2 w0 p (n + 2) d' q r' (M ++ [BP])) (GS.front (L := L2 w0 p (n + 2) d' q r' ((M ++ [BP]) ++ [P1])) G6.out))))) (fun hHeld => ?_)
    clear hK K hPrev
    try simp only [Act.put, List.setIfInBounds_toArray, List.set_cons_zero, List.set_cons_succ, List.getElem_toArray, List.getElem_cons_zero, List.getElem_cons_succ]
    refine wpAnyH_take (i := 14) (v := ?_) rfl (by kernel_rfl) (by kernel_rfl) (by kernel_rfl) (fun _ _ _ h => h) (Or.inl ⟨by rfl, ?_⟩) (by assumption) ?_
    rotate_left 1
    · intro w hSw; (try dsimp only at hSw); go_simp <;> with_reducible rfl
    try simp only [Act.put, List.setIfInBounds_toArray, List.set_cons_zero, List.set_cons_succ, List.getElem_toArray, List.getElem_cons_zero, List.getElem_cons_succ]
    refine wpAnyH_take (i := 15) (v := ?_) rfl (by kernel_rfl) (by kernel_rfl) (by kernel_rfl) (fun _ _ _ h => h) (Or.inl ⟨by rfl, ?_⟩) (by assumption) ?_
    rotate_left 1
    · intro w hSw; (try dsimp only at hSw); go_simp <;> with_reducible rfl
    try simp only [Act.put, List.setIfInBounds_toArray, List.set_cons_zero, List.set_cons_succ, List.getElem_toArray, List.getElem_cons_zero, List.getElem_cons_succ]
    refine wpAnyH_done (by kernel_rfl) ?_ _
    have HF : Hid (OtherQ w0 p q n M (.returned (.bool true)) w6) := Lib.hid ⟨rfl, _, d', r', HAL.out, (GS.front (L := L2 w0 p (n + 2) d' q r' M) (GS.front (L := L2 w0 p (n + 2) d' q r' (M ++ [BP])) (GS.front (L := L2 w0 p (n + 2) d' q r' ((M ++ [BP]) ++ [P1])) G6.out)))⟩
    clear hHeld
    go_wp2_with fail
    go_ret
    exact HF.out
set_option maxRecDepth 20000 in
set_option maxHeartbeats 4000000 in
theorem other_crash {w0 W : World} {C : Nat → Nat} {p q n : Nat} {d : Dk} {r : Rd} {M : List PartT} (hG : GS w0 W C (L2 w0 p n d q r M)) (al : Alike d r n) (hn : n + 2 < 1000000) (nm ot dat : List UInt8) (A : Option Addr) (m cp : Nat) (two : Bool) {ks : List Int} (hr : RI w0 A m ks) (hm : m ≤ maxLen) : Calls Tryz.prog 18 #[.agg #[.int .i64 9, .string (strB nm), .string (strB ot), .string (strB dat), .slice A m cp, .bool two], .pointer (some ⟨p, 0, none⟩), .pointer (some ⟨q, 0, none⟩)] W (OtherQ w0 p q n M) := by
  obtain ⟨w1, hw1⟩ : ∃ w1, w1 = W.alloc (.cells #[.int .i64 9, .string (strB nm), .string (strB ot), .string (strB dat), .slice A m cp, .bool two] 54) := ⟨_, rfl⟩
  obtain ⟨g, hg⟩ : ∃ g, g = W.heap.size := ⟨_, rfl⟩
  have hb : Below W.heap.size W w1 := by rw [hw1]; exact (Below.refl _ _).alloc (Nat.le_refl _) _
  have K1 : Hid (Blk w1 g 54 #[.int .i64 9, .string (strB nm), .string (strB ot), .string (strB dat), .slice A m cp, .bool two]) := Lib.hid (by rw [hw1, hg]; exact Blk.new W _ _ rfl)
  obtain ⟨cB, hcB⟩ : ∃ cB, cB = (L2 w0 p n d q r M).length + 1 := ⟨_, rfl⟩
  obtain ⟨C1, hC1⟩ : ∃ C1, C1 = paint C W.heap.size cB := ⟨_, rfl⟩
  obtain ⟨BP, hBP⟩ : ∃ BP : PartT, BP = (fun W C => FrC W C cB (fun w => Blk w g 54 #[.int .i64 9, .string (strB nm), .string (strB ot), .string (strB dat), .slice A m cp, .bool two])) := ⟨_, rfl⟩
  have G1 : Hid (GS w0 w1 C1 (L2 w0 p n d q r (M ++ [BP]))) := Lib.hid (by
    have h1 := hG.holdBlk hb K1.out (by omega)
    rw [← hcB] at h1
    rw [hBP, hC1]; exact h1)
  have HDK : Hid (d.Ok n) := Lib.hid (DC.ok (hG.at_ (k := 0) rfl : DCp w0 1 p n d W C))
  have HBP : Hid (∀ w C, BP w C → Blk w g 54 #[.int .i64 9, .string (strB nm), .string (strB ot), .string (strB dat), .slice A m cp, .bool two]) := Lib.hid (fun w C h => by rw [hBP] at h; exact h.now)
  have HS : Hid (∀ w', Blk w' g 54 #[.int .i64 9, .string (strB nm), .string (strB ot), .string (strB dat), .slice A m cp, .bool two] → (fun w' => w'.cell? ⟨g, 0, none⟩ = some (.int .i64 9) ∧ w'.cell? ⟨g, 1, none⟩ = some (.string (strB nm)) ∧ w'.cell? ⟨g, 2, none⟩ = some (.string (strB ot)) ∧ w'.cell? ⟨g, 3, none⟩ = some (.string (strB dat)) ∧ w'.cell? ⟨g, 4, none⟩ = some (.slice A m cp) ∧ w'.cell? ⟨g, 5, none⟩ = some (.bool two)) w') := Lib.hid (fun w' hb => ⟨(hb.cell 0).trans rfl, (hb.cell 1).trans rfl, (hb.cell 2).trans rfl, (hb.cell 3).trans rfl, (hb.cell 4).trans rfl, (hb.cell 5).trans rfl⟩)
  have HN := Lib.hid hn

  have HCA := Lib.hid (fun (w : World) (C3 : Nat → Nat) (h : GS w0 w C3 (L2 w0 p n d q r (M ++ [BP]))) => pair_crash (k := 0) (cp := cp) al (by omega : n + 1 < 1000000) ks h rfl (h.came hr).1 hm (fun h0 ad e e2 => by rw [(h.came hr).2 h0 ad e] at e2; cases e2))
  have HCB := Lib.hid (fun (w : World) (C3 : Nat → Nat) (d' : Dk) (h : GS w0 w C3 (L2 w0 p (n + 1) d' q r (M ++ [BP]))) => rcrash_g (k := 1) (q := q) (cp := cp) al.rok ks h rfl (h.came hr).1 hm (fun h0 ad e e2 => by rw [(h.came hr).2 h0 ad e] at e2; cases e2))
  have HM : Hid (∀ (w : World) (C3 : Nat → Nat) (d' : Dk), Alike d' (r.crash ks) (n + 1) → GS w0 w C3 (L2 w0 p (n + 1) d' q (r.crash ks) (M ++ [BP])) → OtherQ w0 p q n M (.returned (.bool true)) w) := Lib.hid (fun w C3 d' ha h => ⟨rfl, C3, d', _, ha.more (by omega) (by omega), by
    have h1 : GS w0 w C3 (L2 w0 p (n + 1) d' q (r.crash ks) M) := GS.front (L := L2 w0 p (n + 1) d' q (r.crash ks) M) h
    exact h1.as (k := 0) rfl (T' := DCp w0 1 p (n + 2) d') ((h1.at_ (k := 0) rfl : DCp w0 1 p (n + 1) d' w C3).more (by omega) HN.out) (Stb.dcp _ _ _ _ _) rfl⟩)
  clear hb hG al hn hBP hC1 hcB hr
  go_enter Tryz.func18, Tryz.ntmps18
  go_upto_region 16 with fail
  rw [← hw1, ← hg]
  clear hw1 hg
  obtain ⟨z0, z1, z2, z3, z4, z5⟩ := HS.out _ K1.out
  go_wp2_with fail
  refine (HCA.out _ _ G1.out).mono ?_
  rintro e w3 ⟨d', hal, rfl, hg3⟩
  have G3 := Lib.hid (show GS w0 w3 _ (L2 w0 p (n + 1) d' q r (M ++ [BP])) from hg3)
  have HAL := Lib.hid hal
  clear hg3 hal z0 z1 z2 z3 z4 z5 K1 G1 HCA
  obtain ⟨z0, z1, z2, z3, z4, z5⟩ := HS.out _ (HBP.out _ _ (GS.last (L := L2 w0 p (n + 1) d' q r M) G3.out))
  go_wp2_with fail
  refine (HCB.out _ _ _ G3.out).mono ?_
  rintro e w4 ⟨rfl, hg4⟩
  have HF := Lib.hid (HM.out _ _ d' HAL.out (show GS w0 w4 _ (L2 w0 p (n + 1) d' q (r.crash ks) (M ++ [BP])) from hg4))
  clear hg4 HM z0 z1 z2 z3 z4 z5
  go_wp2_with fail
  go_ret
  exact HF.out
set_option maxRecDepth 20000 in
set_option maxHeartbeats 4000000 in
theorem other_else {w0 W : World} {C : Nat → Nat} {p q n : Nat} {d : Dk} {r : Rd} {M : List PartT} (hG : GS w0 W C (L2 w0 p n d q r M)) (al : Alike d r n) (hn : n + 2 < 1000000) (k : Int) (nm ot dat : List UInt8) (A : Option Addr) (m cp : Nat) (two : Bool) (h3 : (k == 3) = false) (h4 : (k == 4) = false) (h5 : (k == 5) = false) (h6 : (k == 6) = false) (h7 : (k == 7) = false) (h8 : (k == 8) = false) (h9 : (k == 9) = false) : Calls Tryz.prog 18 #[.agg #[.int .i64 k, .string (strB nm), .string (strB ot), .string (strB dat), .slice A m cp, .bool two], .pointer (some ⟨p, 0, none⟩), .pointer (some ⟨q, 0, none⟩)] W (OtherQ w0 p q n M) := by
  obtain ⟨w1, hw1⟩ : ∃ w1, w1 = W.alloc (.cells #[.int .i64 k, .string (strB nm), .string (strB ot), .string (strB dat), .slice A m cp, .bool two] 54) := ⟨_, rfl⟩
  obtain ⟨g, hg⟩ : ∃ g, g = W.heap.size := ⟨_, rfl⟩
  have hb : Below W.heap.size W w1 := by rw [hw1]; exact (Below.refl _ _).alloc (Nat.le_refl _) _
  have K1 : Hid (Blk w1 g 54 #[.int .i64 k, .string (strB nm), .string (strB ot), .string (strB dat), .slice A m cp, .bool two]) := Lib.hid (by rw [hw1, hg]; exact Blk.new W _ _ rfl)
  obtain ⟨cB, hcB⟩ : ∃ cB, cB = (L2 w0 p n d q r M).length + 1 := ⟨_, rfl⟩
  obtain ⟨C1, hC1⟩ : ∃ C1, C1 = paint C W.heap.size cB := ⟨_, rfl⟩
  obtain ⟨BP, hBP⟩ : ∃ BP : PartT, BP = (fun W C => FrC W C cB (fun w => Blk w g 54 #[.int .i64 k, .string (strB nm), .string (strB ot), .string (strB dat), .slice A m cp, .bool two])) := ⟨_, rfl⟩
  have G1 : Hid (GS w0 w1 C1 (L2 w0 p n d q r (M ++ [BP]))) := Lib.hid (by
    have h1 := hG.holdBlk hb K1.out (by omega)
    rw [← hcB] at h1
    rw [hBP, hC1]; exact h1)
  have HDK : Hid (d.Ok n) := Lib.hid (DC.ok (hG.at_ (k := 0) rfl : DCp w0 1 p n d W C))
  have HBP : Hid (∀ w C, BP w C → Blk w g 54 #[.int .i64 k, .string (strB nm), .string (strB ot), .string (strB dat), .slice A m cp, .bool two]) := Lib.hid (fun w C h => by rw [hBP] at h; exact h.now)
  have HS : Hid (∀ w', Blk w' g 54 #[.int .i64 k, .string (strB nm), .string (strB ot), .string (strB dat), .slice A m cp, .bool two] → (fun w' => w'.cell? ⟨g, 0, none⟩ = some (.int .i64 k) ∧ w'.cell? ⟨g, 1, none⟩ = some (.string (strB nm)) ∧ w'.cell? ⟨g, 2, none⟩ = some (.string (strB ot)) ∧ w'.cell? ⟨g, 3, none⟩ = some (.string (strB dat)) ∧ w'.cell? ⟨g, 4, none⟩ = some (.slice A m cp) ∧ w'.cell? ⟨g, 5, none⟩ = some (.bool two)) w') := Lib.hid (fun w' hb => ⟨(hb.cell 0).trans rfl, (hb.cell 1).trans rfl, (hb.cell 2).trans rfl, (hb.cell 3).trans rfl, (hb.cell 4).trans rfl, (hb.cell 5).trans rfl⟩)
  have HN := Lib.hid hn

  have HF : Hid (OtherQ w0 p q n M (.returned (.bool true)) w1) := Lib.hid ⟨rfl, C1, d, r, al.more (by omega) (by omega), by
    have h1 : GS w0 w1 C1 (L2 w0 p n d q r M) := GS.front (L := L2 w0 p n d q r M) G1.out
    exact h1.as (k := 0) rfl (T' := DCp w0 1 p (n + 2) d) ((h1.at_ (k := 0) rfl : DCp w0 1 p n d w1 C1).more (by omega) HN.out) (Stb.dcp _ _ _ _ _) rfl⟩
  clear hb hG al hn hBP hC1 hcB
  go_enter Tryz.func18, Tryz.ntmps18
  go_upto_region 18 with fail
  rw [← hw1, ← hg]
  clear hw1 hg
  go_wp2_with fail
  go_ret
  exact HF.out
theorem other_any {w0 W : World} {C : Nat → Nat} {p q n : Nat} {d : Dk} {r : Rd} {M : List PartT} (hG : GS w0 W C (L2 w0 p n d q r M)) (al : Alike d r n) (hn : n + 2 < 1000000) (k : Int) (nm ot dat : List UInt8) (A : Option Addr) (m cp : Nat) (two : Bool) (hdat : dat.length ≤ 1000000000) {ks : List Int} (hr : RI w0 A m ks) (hm : m ≤ maxLen) : Calls Tryz.prog 18 #[.agg #[.int .i64 k, .string (strB nm), .string (strB ot), .string (strB dat), .slice A m cp, .bool two], .pointer (some ⟨p, 0, none⟩), .pointer (some ⟨q, 0, none⟩)] W (OtherQ w0 p q n M) := by
  by_cases h3 : k = 3
  · subst h3; exact other_create hG al hn nm ot dat A m cp two
  by_cases h4 : k = 4
  · subst h4; exact other_append hG al hn nm ot dat A m cp two hdat
  by_cases h5 : k = 5
  · subst h5; exact other_cut hG al hn nm ot dat A m cp two
  by_cases h6 : k = 6
  · subst h6; exact other_rename hG al hn nm ot dat A m cp two
  by_cases h7 : k = 7
  · subst h7; exact other_remove hG al hn nm ot dat A m cp two
  by_cases h8 : k = 8
  · subst h8; exact other_sync hG al hn nm ot dat A m cp two
  by_cases h9 : k = 9
  · subst h9; exact other_crash hG al hn nm ot dat A m cp two hr hm
  exact other_else hG al hn k nm ot dat A m cp two (by simpa using h3) (by simpa using h4) (by simpa using h5) (by simpa using h6) (by simpa using h7) (by simpa using h8) (by simpa using h9)
end Go.Proofs.YtlojmmcagglpoaaGreat
