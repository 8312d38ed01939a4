/- THE WALKS of writes (package heronlaw17; printed by a program of ours). -/
import Derived.Test.YtlojmmcagglpoaaGreatUTk
import Derived.Test.YtlojmmcagglpoaaGreatUBigApp
import Derived.Test.YtlojmmcagglpoaaGreatUFwOp
import Derived.Test.YtlojmmcagglpoaaGreatUPair2
import Derived.Deep.RegionHeld
import Derived.Deep.RegionHeld3
import Derived.Deep.DrawnRows
namespace Go.Proofs.YtlojmmcagglpoaaGreat
open Go.RowKit Go.Maps
theorem pair_append_big {w0 : World} {p q n : Nat} {d : Dk} {r : Rd} (al : Alike d r n) (hok : d.Ok n) (hn : n + 2 < 1000000) (nm l : List UInt8) (hl : l.length ≤ 140737488351232) : PairC w0 p q n d r (n + 2) 47 64 (fun W a => ∃ A m cp, a = [.string (strB nm), .slice A m cp] ∧ RB W A m l) := by
  obtain ⟨h1, h2⟩ := al.append hok (by omega) nm l
  refine ⟨(d.append nm l).1, _, _, h2, fun W C L k a hg hk ha => ?_, fun W C L k a hg hk ha => ?_⟩ <;> obtain ⟨A, m, cp, rfl, hr⟩ := ha
  · exact (append_gb (hg.at_ hk) hn nm A m cp l hr (by rw [← hr.1]; exact hl)).mono fun e w' hq => hg.dstep hk hq
  · rw [h1]
    exact (rappend_any (hg.at_ hk) hg.bel.size al.rok nm A m cp l hr (by rw [← hr.1]; exact hl)).mono fun e w' hq => hg.rstep hk hq
end Go.Proofs.YtlojmmcagglpoaaGreat
namespace Go.Proofs.YtlojmmcagglpoaaGreat
open Go.RowKit Go.Maps
attribute [local go_sem ↓] Go.wp_at_zero Go.wp_at_succ
abbrev wT (g : Nat) (k : Int) (nm ot dat : List UInt8) (A : Option Addr) (m cp : Nat) (nn e0 e1 e2 e3 e4 e5 e6 e7 e8 : Int) : World → Prop := fun w' => w'.cell? ⟨g, 0, none⟩ = some (.int .i64 k) ∧ w'.cell? ⟨g, 1, none⟩ = some (.string (strB nm)) ∧ w'.cell? ⟨g, 2, none⟩ = some (.string (strB ot)) ∧ w'.cell? ⟨g, 3, none⟩ = some (.string (strB dat)) ∧ w'.cell? ⟨g, 4, none⟩ = some (.slice A m cp) ∧ w'.cell? ⟨g, 5, none⟩ = some (.int .i64 nn) ∧ w'.cell? ⟨g, 6, none⟩ = some (.int .i64 e0) ∧ w'.cell? ⟨g, 7, none⟩ = some (.int .i64 e1) ∧ w'.cell? ⟨g, 8, none⟩ = some (.int .i64 e2) ∧ w'.cell? ⟨g, 9, none⟩ = some (.int .i64 e3) ∧ w'.cell? ⟨g, 10, none⟩ = some (.int .i64 e4) ∧ w'.cell? ⟨g, 11, none⟩ = some (.int .i64 e5) ∧ w'.cell? ⟨g, 12, none⟩ = some (.int .i64 e6) ∧ w'.cell? ⟨g, 13, none⟩ = some (.int .i64 e7) ∧ w'.cell? ⟨g, 14, none⟩ = some (.int .i64 e8)
def WrQ (w0 : World) (p q n : Nat) (M : List PartT) (e : Ending) (w' : World) : Prop := e = .returned (.bool true) ∧ ∃ C' d' r', Alike d' r' (n + 2) ∧ GS w0 w' C' (L2 w0 p (n + 2) d' q r' M)
set_option maxRecDepth 20000 in
set_option maxHeartbeats 4000000 in
theorem writes_create {w0 W : World} {C : Nat → Nat} {p q n : Nat} {d : Dk} {r : Rd} {M : List PartT} (hG : GS w0 W C (L2 w0 p n d q r M)) (al : Alike d r n) (hn : n + 2 < 1000000) (nm ot dat : List UInt8) (A : Option Addr) (m cp : Nat) (nn e0 e1 e2 e3 e4 e5 e6 e7 e8 : Int) : Calls Tryz.prog 38 #[.pointer (some ⟨p, 0, none⟩), .pointer (some ⟨q, 0, none⟩), .agg #[.int .i64 0, .string (strB nm), .string (strB ot), .string (strB dat), .slice A m cp, .int .i64 nn, .int .i64 e0, .int .i64 e1, .int .i64 e2, .int .i64 e3, .int .i64 e4, .int .i64 e5, .int .i64 e6, .int .i64 e7, .int .i64 e8]] W (WrQ w0 p q n M) := by
  obtain ⟨w1, hw1⟩ : ∃ w1, w1 = W.alloc (.cells #[.int .i64 0, .string (strB nm), .string (strB ot), .string (strB dat), .slice A m cp, .int .i64 nn, .int .i64 e0, .int .i64 e1, .int .i64 e2, .int .i64 e3, .int .i64 e4, .int .i64 e5, .int .i64 e6, .int .i64 e7, .int .i64 e8] 111) := ⟨_, rfl⟩
  obtain ⟨g, hg⟩ : ∃ g, g = W.heap.size := ⟨_, rfl⟩
  have hb : Below W.heap.size W w1 := by rw [hw1]; exact (Below.refl _ _).alloc (Nat.le_refl _) _
  have K1 : Hid (Blk w1 g 111 #[.int .i64 0, .string (strB nm), .string (strB ot), .string (strB dat), .slice A m cp, .int .i64 nn, .int .i64 e0, .int .i64 e1, .int .i64 e2, .int .i64 e3, .int .i64 e4, .int .i64 e5, .int .i64 e6, .int .i64 e7, .int .i64 e8]) := Lib.hid (by rw [hw1, hg]; exact Blk.new W _ _ rfl)
  obtain ⟨cB, hcB⟩ : ∃ cB, cB = (L2 w0 p n d q r M).length + 1 := ⟨_, rfl⟩
  obtain ⟨C1, hC1⟩ : ∃ C1, C1 = paint C W.heap.size cB := ⟨_, rfl⟩
  obtain ⟨BP, hBP⟩ : ∃ BP : PartT, BP = (fun W C => FrC W C cB (fun w => Blk w g 111 #[.int .i64 0, .string (strB nm), .string (strB ot), .string (strB dat), .slice A m cp, .int .i64 nn, .int .i64 e0, .int .i64 e1, .int .i64 e2, .int .i64 e3, .int .i64 e4, .int .i64 e5, .int .i64 e6, .int .i64 e7, .int .i64 e8])) := ⟨_, rfl⟩
  have G1 : Hid (GS w0 w1 C1 (L2 w0 p n d q r (M ++ [BP]))) := Lib.hid (by
    have h1 := hG.holdBlk hb K1.out (by omega)
    rw [← hcB] at h1
    rw [hBP, hC1]; exact h1)
  have HDK : Hid (d.Ok n) := Lib.hid (DC.ok (hG.at_ (k := 0) rfl : DCp w0 1 p n d W C))
  have HBP : Hid (∀ w C, BP w C → Blk w g 111 #[.int .i64 0, .string (strB nm), .string (strB ot), .string (strB dat), .slice A m cp, .int .i64 nn, .int .i64 e0, .int .i64 e1, .int .i64 e2, .int .i64 e3, .int .i64 e4, .int .i64 e5, .int .i64 e6, .int .i64 e7, .int .i64 e8]) := Lib.hid (fun w C h => by rw [hBP] at h; exact h.now)
  have HS : Hid (∀ w', Blk w' g 111 #[.int .i64 0, .string (strB nm), .string (strB ot), .string (strB dat), .slice A m cp, .int .i64 nn, .int .i64 e0, .int .i64 e1, .int .i64 e2, .int .i64 e3, .int .i64 e4, .int .i64 e5, .int .i64 e6, .int .i64 e7, .int .i64 e8] → (wT g 0 nm ot dat A m cp nn e0 e1 e2 e3 e4 e5 e6 e7 e8) w') := Lib.hid (fun w' hb => ⟨(hb.cell 0).trans rfl, (hb.cell 1).trans rfl, (hb.cell 2).trans rfl, (hb.cell 3).trans rfl, (hb.cell 4).trans rfl, (hb.cell 5).trans rfl, (hb.cell 6).trans rfl, (hb.cell 7).trans rfl, (hb.cell 8).trans rfl, (hb.cell 9).trans rfl, (hb.cell 10).trans rfl, (hb.cell 11).trans rfl, (hb.cell 12).trans rfl, (hb.cell 13).trans rfl, (hb.cell 14).trans rfl⟩)
  have HN := Lib.hid hn
  obtain ⟨v, d', r', al', hA, hB⟩ := PairC.two (p := p) (q := q) (w0 := w0) (pair_create al HDK.out hn nm)
  have HA := Lib.hid hA; have HB := Lib.hid hB; have HAL := Lib.hid al'
  clear hb hG al hn hA hB al' hBP hC1 hcB
  go_enter Tryz.func38, Tryz.ntmps38
  go_upto_region 3 with fail
  rw [← hw1, ← hg]
  clear hw1 hg
  refine wp_region_any (by kernel_rfl) ?_
  change wpAny _ _ _ _ _ _ _ (World.drew _)
  refine wpAny_of_held (S := wT g 0 nm ot dat A m cp nn e0 e1 e2 e3 e4 e5 e6 e7 e8) _ _ _ _ ?_
  obtain ⟨w2, hw2⟩ : ∃ w2, w2 = w1.drew := ⟨_, rfl⟩
  have G2 : Hid (GS w0 w2 C1 (L2 w0 p n d q r (M ++ [BP]))) := Lib.hid (by rw [hw2]; exact G1.out.keep (Below.refl _ _).drew)
  rw [← hw2]
  clear hw2 K1 G1
  have hHeld : (wT g 0 nm ot dat A m cp nn e0 e1 e2 e3 e4 e5 e6 e7 e8) w2 := HS.out _ (HBP.out _ _ (GS.last (L := L2 w0 p n d q r M) G2.out))
  refine tkh 0 (v := ?_) rfl ?_ ?_; rotate_left
  · intro w hSw; (try dsimp only at hSw); go_simp <;> with_reducible rfl
  try simp only [Act.put, pz]
  refine tkh 1 (v := ?_) rfl ?_ ?_; rotate_left
  · intro w hSw; (try dsimp only at hSw); go_simp <;> with_reducible rfl
  try simp only [Act.put, pz]
  refine tkh 2 (v := ?_) rfl ?_ ?_; rotate_left
  · intro w hSw; obtain ⟨z0, z1, z2, z3, z4, z5, z6, z7, z8, z9, z10, z11, z12, z13, z14⟩ := hSw; go_simp <;> with_reducible rfl
  try simp only [Act.put, pz]
  refine tkh 4 (v := ?_) rfl ?_ ?_; rotate_left
  · intro w hSw; (try dsimp only at hSw); go_simp <;> with_reducible rfl
  try simp only [Act.put, pz]
  refine tkh 5 (v := ?_) rfl ?_ ?_; rotate_left
  · intro w hSw; (try dsimp only at hSw); go_simp <;> with_reducible rfl
  try simp only [Act.put, pz]
  refine tkh 6 (v := ?_) rfl ?_ ?_; rotate_left
  · intro w hSw; obtain ⟨z0, z1, z2, z3, z4, z5, z6, z7, z8, z9, z10, z11, z12, z13, z14⟩ := hSw; go_simp <;> with_reducible rfl
  try simp only [Act.put, pz]
  refine wpAnyH_ready (rs := [3]) (by kernel_rfl) (by simp) (AllReadyH.cons rfl (fun K hK => ?_) AllReadyH.nil)
  have hPrev := hHeld
  clear hHeld
  go_simp
  refine (HA.out _ _ (M ++ [BP]) [.string (strB nm)] G2.out rfl).mono ?_
  rintro e w3 ⟨rfl, hg3⟩
  have G3 := Lib.hid hg3
  clear hg3 HA
  refine hK.out _ _ (HS.out _ (HBP.out _ _ (GS.last (L := L2 w0 p (n + 2) d' q r M) G3.out))) (fun hHeld => ?_)
  clear hK K hPrev
  try simp only [Act.put, pz]
  refine wpAnyH_ready (rs := [7]) (by kernel_rfl) (by simp) (AllReadyH.cons rfl (fun K hK => ?_) AllReadyH.nil)
  have hPrev := hHeld
  clear hHeld
  go_simp
  refine (HB.out _ _ (M ++ [BP]) [.string (strB nm)] G3.out rfl).mono ?_
  rintro e w4 ⟨rfl, hg4⟩
  have G4 := Lib.hid hg4
  clear hg4 HB
  refine hK.out _ _ (HS.out _ (HBP.out _ _ (GS.last (L := L2 w0 p (n + 2) d' q r' M) G4.out))) (fun hHeld => ?_)
  clear hK K hPrev
  try simp only [Act.put, pz]
  refine tkh 8 (v := ?_) rfl ?_ ?_; rotate_left
  · intro w hSw; (try dsimp only at hSw); go_simp <;> with_reducible rfl
  try simp only [Act.put, pz]
  refine tkh 9 (v := ?_) rfl ?_ ?_; rotate_left
  · intro w hSw; (try dsimp only at hSw); go_simp <;> with_reducible rfl
  try simp only [Act.put, pz]
  refine wpAnyH_done (by kernel_rfl) ?_ _
  have HF : Hid (WrQ w0 p q n M (.returned (.bool true)) w4) := Lib.hid ⟨rfl, _, d', r', HAL.out, GS.front (L := L2 w0 p (n + 2) d' q r' M) G4.out⟩
  clear hHeld
  go_wp2_with fail
  go_ret
  exact HF.out
set_option maxRecDepth 20000 in
set_option maxHeartbeats 4000000 in
theorem writes_cut {w0 W : World} {C : Nat → Nat} {p q n : Nat} {d : Dk} {r : Rd} {M : List PartT} (hG : GS w0 W C (L2 w0 p n d q r M)) (al : Alike d r n) (hn : n + 2 < 1000000) (nm ot dat : List UInt8) (A : Option Addr) (m cp : Nat) (nn e0 e1 e2 e3 e4 e5 e6 e7 e8 : Int) : Calls Tryz.prog 38 #[.pointer (some ⟨p, 0, none⟩), .pointer (some ⟨q, 0, none⟩), .agg #[.int .i64 2, .string (strB nm), .string (strB ot), .string (strB dat), .slice A m cp, .int .i64 nn, .int .i64 e0, .int .i64 e1, .int .i64 e2, .int .i64 e3, .int .i64 e4, .int .i64 e5, .int .i64 e6, .int .i64 e7, .int .i64 e8]] W (WrQ w0 p q n M) := by
  obtain ⟨w1, hw1⟩ : ∃ w1, w1 = W.alloc (.cells #[.int .i64 2, .string (strB nm), .string (strB ot), .string (strB dat), .slice A m cp, .int .i64 nn, .int .i64 e0, .int .i64 e1, .int .i64 e2, .int .i64 e3, .int .i64 e4, .int .i64 e5, .int .i64 e6, .int .i64 e7, .int .i64 e8] 111) := ⟨_, rfl⟩
  obtain ⟨g, hg⟩ : ∃ g, g = W.heap.size := ⟨_, rfl⟩
  have hb : Below W.heap.size W w1 := by rw [hw1]; exact (Below.refl _ _).alloc (Nat.le_refl _) _
  have K1 : Hid (Blk w1 g 111 #[.int .i64 2, .string (strB nm), .string (strB ot), .string (strB dat), .slice A m cp, .int .i64 nn, .int .i64 e0, .int .i64 e1, .int .i64 e2, .int .i64 e3, .int .i64 e4, .int .i64 e5, .int .i64 e6, .int .i64 e7, .int .i64 e8]) := Lib.hid (by rw [hw1, hg]; exact Blk.new W _ _ rfl)
  obtain ⟨cB, hcB⟩ : ∃ cB, cB = (L2 w0 p n d q r M).length + 1 := ⟨_, rfl⟩
  obtain ⟨C1, hC1⟩ : ∃ C1, C1 = paint C W.heap.size cB := ⟨_, rfl⟩
  obtain ⟨BP, hBP⟩ : ∃ BP : PartT, BP = (fun W C => FrC W C cB (fun w => Blk w g 111 #[.int .i64 2, .string (strB nm), .string (strB ot), .string (strB dat), .slice A m cp, .int .i64 nn, .int .i64 e0, .int .i64 e1, .int .i64 e2, .int .i64 e3, .int .i64 e4, .int .i64 e5, .int .i64 e6, .int .i64 e7, .int .i64 e8])) := ⟨_, rfl⟩
  have G1 : Hid (GS w0 w1 C1 (L2 w0 p n d q r (M ++ [BP]))) := Lib.hid (by
    have h1 := hG.holdBlk hb K1.out (by omega)
    rw [← hcB] at h1
    rw [hBP, hC1]; exact h1)
  have HDK : Hid (d.Ok n) := Lib.hid (DC.ok (hG.at_ (k := 0) rfl : DCp w0 1 p n d W C))
  have HBP : Hid (∀ w C, BP w C → Blk w g 111 #[.int .i64 2, .string (strB nm), .string (strB ot), .string (strB dat), .slice A m cp, .int .i64 nn, .int .i64 e0, .int .i64 e1, .int .i64 e2, .int .i64 e3, .int .i64 e4, .int .i64 e5, .int .i64 e6, .int .i64 e7, .int .i64 e8]) := Lib.hid (fun w C h => by rw [hBP] at h; exact h.now)
  have HS : Hid (∀ w', Blk w' g 111 #[.int .i64 2, .string (strB nm), .string (strB ot), .string (strB dat), .slice A m cp, .int .i64 nn, .int .i64 e0, .int .i64 e1, .int .i64 e2, .int .i64 e3, .int .i64 e4, .int .i64 e5, .int .i64 e6, .int .i64 e7, .int .i64 e8] → (wT g 2 nm ot dat A m cp nn e0 e1 e2 e3 e4 e5 e6 e7 e8) w') := Lib.hid (fun w' hb => ⟨(hb.cell 0).trans rfl, (hb.cell 1).trans rfl, (hb.cell 2).trans rfl, (hb.cell 3).trans rfl, (hb.cell 4).trans rfl, (hb.cell 5).trans rfl, (hb.cell 6).trans rfl, (hb.cell 7).trans rfl, (hb.cell 8).trans rfl, (hb.cell 9).trans rfl, (hb.cell 10).trans rfl, (hb.cell 11).trans rfl, (hb.cell 12).trans rfl, (hb.cell 13).trans rfl, (hb.cell 14).trans rfl⟩)
  have HN := Lib.hid hn
  obtain ⟨v, d', r', al', hA, hB⟩ := PairC.two (p := p) (q := q) (w0 := w0) (pair_cut al HDK.out hn nm)
  have HA := Lib.hid hA; have HB := Lib.hid hB; have HAL := Lib.hid al'
  clear hb hG al hn hA hB al' hBP hC1 hcB
  go_enter Tryz.func38, Tryz.ntmps38
  go_upto_region 7 with fail
  rw [← hw1, ← hg]
  clear hw1 hg
  refine wp_region_any (by kernel_rfl) ?_
  change wpAny _ _ _ _ _ _ _ (World.drew _)
  refine wpAny_of_held (S := wT g 2 nm ot dat A m cp nn e0 e1 e2 e3 e4 e5 e6 e7 e8) _ _ _ _ ?_
  obtain ⟨w2, hw2⟩ : ∃ w2, w2 = w1.drew := ⟨_, rfl⟩
  have G2 : Hid (GS w0 w2 C1 (L2 w0 p n d q r (M ++ [BP]))) := Lib.hid (by rw [hw2]; exact G1.out.keep (Below.refl _ _).drew)
  rw [← hw2]
  clear hw2 K1 G1
  have hHeld : (wT g 2 nm ot dat A m cp nn e0 e1 e2 e3 e4 e5 e6 e7 e8) w2 := HS.out _ (HBP.out _ _ (GS.last (L := L2 w0 p n d q r M) G2.out))
  refine tkh 0 (v := ?_) rfl ?_ ?_; rotate_left
  · intro w hSw; (try dsimp only at hSw); go_simp <;> with_reducible rfl
  try simp only [Act.put, pz]
  refine tkh 1 (v := ?_) rfl ?_ ?_; rotate_left
  · intro w hSw; (try dsimp only at hSw); go_simp <;> with_reducible rfl
  try simp only [Act.put, pz]
  refine tkh 2 (v := ?_) rfl ?_ ?_; rotate_left
  · intro w hSw; obtain ⟨z0, z1, z2, z3, z4, z5, z6, z7, z8, z9, z10, z11, z12, z13, z14⟩ := hSw; go_simp <;> with_reducible rfl
  try simp only [Act.put, pz]
  refine tkh 4 (v := ?_) rfl ?_ ?_; rotate_left
  · intro w hSw; (try dsimp only at hSw); go_simp <;> with_reducible rfl
  try simp only [Act.put, pz]
  refine tkh 5 (v := ?_) rfl ?_ ?_; rotate_left
  · intro w hSw; (try dsimp only at hSw); go_simp <;> with_reducible rfl
  try simp only [Act.put, pz]
  refine tkh 6 (v := ?_) rfl ?_ ?_; rotate_left
  · intro w hSw; obtain ⟨z0, z1, z2, z3, z4, z5, z6, z7, z8, z9, z10, z11, z12, z13, z14⟩ := hSw; go_simp <;> with_reducible rfl
  try simp only [Act.put, pz]
  refine wpAnyH_ready (rs := [3]) (by kernel_rfl) (by simp) (AllReadyH.cons rfl (fun K hK => ?_) AllReadyH.nil)
  have hPrev := hHeld
  clear hHeld
  go_simp
  refine (HA.out _ _ (M ++ [BP]) [.string (strB nm)] G2.out rfl).mono ?_
  rintro e w3 ⟨rfl, hg3⟩
  have G3 := Lib.hid hg3
  clear hg3 HA
  refine hK.out _ _ (HS.out _ (HBP.out _ _ (GS.last (L := L2 w0 p (n + 2) d' q r M) G3.out))) (fun hHeld => ?_)
  clear hK K hPrev
  try simp only [Act.put, pz]
  refine wpAnyH_ready (rs := [7]) (by kernel_rfl) (by simp) (AllReadyH.cons rfl (fun K hK => ?_) AllReadyH.nil)
  have hPrev := hHeld
  clear hHeld
  go_simp
  refine (HB.out _ _ (M ++ [BP]) [.string (strB nm)] G3.out rfl).mono ?_
  rintro e w4 ⟨rfl, hg4⟩
  have G4 := Lib.hid hg4
  clear hg4 HB
  refine hK.out _ _ (HS.out _ (HBP.out _ _ (GS.last (L := L2 w0 p (n + 2) d' q r' M) G4.out))) (fun hHeld => ?_)
  clear hK K hPrev
  try simp only [Act.put, pz]
  refine tkh 8 (v := ?_) rfl ?_ ?_; rotate_left
  · intro w hSw; (try dsimp only at hSw); go_simp <;> with_reducible rfl
  try simp only [Act.put, pz]
  refine tkh 9 (v := ?_) rfl ?_ ?_; rotate_left
  · intro w hSw; (try dsimp only at hSw); go_simp <;> with_reducible rfl
  try simp only [Act.put, pz]
  refine wpAnyH_done (by kernel_rfl) ?_ _
  have HF : Hid (WrQ w0 p q n M (.returned (.bool true)) w4) := Lib.hid ⟨rfl, _, d', r', HAL.out, GS.front (L := L2 w0 p (n + 2) d' q r' M) G4.out⟩
  clear hHeld
  go_wp2_with fail
  go_ret
  exact HF.out
set_option maxRecDepth 20000 in
set_option maxHeartbeats 4000000 in
theorem writes_rename {w0 W : World} {C : Nat → Nat} {p q n : Nat} {d : Dk} {r : Rd} {M : List PartT} (hG : GS w0 W C (L2 w0 p n d q r M)) (al : Alike d r n) (hn : n + 2 < 1000000) (nm ot dat : List UInt8) (A : Option Addr) (m cp : Nat) (nn e0 e1 e2 e3 e4 e5 e6 e7 e8 : Int) : Calls Tryz.prog 38 #[.pointer (some ⟨p, 0, none⟩), .pointer (some ⟨q, 0, none⟩), .agg #[.int .i64 3, .string (strB nm), .string (strB ot), .string (strB dat), .slice A m cp, .int .i64 nn, .int .i64 e0, .int .i64 e1, .int .i64 e2, .int .i64 e3, .int .i64 e4, .int .i64 e5, .int .i64 e6, .int .i64 e7, .int .i64 e8]] W (WrQ w0 p q n M) := by
  obtain ⟨w1, hw1⟩ : ∃ w1, w1 = W.alloc (.cells #[.int .i64 3, .string (strB nm), .string (strB ot), .string (strB dat), .slice A m cp, .int .i64 nn, .int .i64 e0, .int .i64 e1, .int .i64 e2, .int .i64 e3, .int .i64 e4, .int .i64 e5, .int .i64 e6, .int .i64 e7, .int .i64 e8] 111) := ⟨_, rfl⟩
  obtain ⟨g, hg⟩ : ∃ g, g = W.heap.size := ⟨_, rfl⟩
  have hb : Below W.heap.size W w1 := by rw [hw1]; exact (Below.refl _ _).alloc (Nat.le_refl _) _
  have K1 : Hid (Blk w1 g 111 #[.int .i64 3, .string (strB nm), .string (strB ot), .string (strB dat), .slice A m cp, .int .i64 nn, .int .i64 e0, .int .i64 e1, .int .i64 e2, .int .i64 e3, .int .i64 e4, .int .i64 e5, .int .i64 e6, .int .i64 e7, .int .i64 e8]) := Lib.hid (by rw [hw1, hg]; exact Blk.new W _ _ rfl)
  obtain ⟨cB, hcB⟩ : ∃ cB, cB = (L2 w0 p n d q r M).length + 1 := ⟨_, rfl⟩
  obtain ⟨C1, hC1⟩ : ∃ C1, C1 = paint C W.heap.size cB := ⟨_, rfl⟩
  obtain ⟨BP, hBP⟩ : ∃ BP : PartT, BP = (fun W C => FrC W C cB (fun w => Blk w g 111 #[.int .i64 3, .string (strB nm), .string (strB ot), .string (strB dat), .slice A m cp, .int .i64 nn, .int .i64 e0, .int .i64 e1, .int .i64 e2, .int .i64 e3, .int .i64 e4, .int .i64 e5, .int .i64 e6, .int .i64 e7, .int .i64 e8])) := ⟨_, rfl⟩
  have G1 : Hid (GS w0 w1 C1 (L2 w0 p n d q r (M ++ [BP]))) := Lib.hid (by
    have h1 := hG.holdBlk hb K1.out (by omega)
    rw [← hcB] at h1
    rw [hBP, hC1]; exact h1)
  have HDK : Hid (d.Ok n) := Lib.hid (DC.ok (hG.at_ (k := 0) rfl : DCp w0 1 p n d W C))
  have HBP : Hid (∀ w C, BP w C → Blk w g 111 #[.int .i64 3, .string (strB nm), .string (strB ot), .string (strB dat), .slice A m cp, .int .i64 nn, .int .i64 e0, .int .i64 e1, .int .i64 e2, .int .i64 e3, .int .i64 e4, .int .i64 e5, .int .i64 e6, .int .i64 e7, .int .i64 e8]) := Lib.hid (fun w C h => by rw [hBP] at h; exact h.now)
  have HS : Hid (∀ w', Blk w' g 111 #[.int .i64 3, .string (strB nm), .string (strB ot), .string (strB dat), .slice A m cp, .int .i64 nn, .int .i64 e0, .int .i64 e1, .int .i64 e2, .int .i64 e3, .int .i64 e4, .int .i64 e5, .int .i64 e6, .int .i64 e7, .int .i64 e8] → (wT g 3 nm ot dat A m cp nn e0 e1 e2 e3 e4 e5 e6 e7 e8) w') := Lib.hid (fun w' hb => ⟨(hb.cell 0).trans rfl, (hb.cell 1).trans rfl, (hb.cell 2).trans rfl, (hb.cell 3).trans rfl, (hb.cell 4).trans rfl, (hb.cell 5).trans rfl, (hb.cell 6).trans rfl, (hb.cell 7).trans rfl, (hb.cell 8).trans rfl, (hb.cell 9).trans rfl, (hb.cell 10).trans rfl, (hb.cell 11).trans rfl, (hb.cell 12).trans rfl, (hb.cell 13).trans rfl, (hb.cell 14).trans rfl⟩)
  have HN := Lib.hid hn
  obtain ⟨v, d', r', al', hA, hB⟩ := PairC.two (p := p) (q := q) (w0 := w0) (pair_rename al HDK.out hn nm ot)
  have HA := Lib.hid hA; have HB := Lib.hid hB; have HAL := Lib.hid al'
  clear hb hG al hn hA hB al' hBP hC1 hcB
  go_enter Tryz.func38, Tryz.ntmps38
  go_upto_region 9 with fail
  rw [← hw1, ← hg]
  clear hw1 hg
  refine wp_region_any (by kernel_rfl) ?_
  change wpAny _ _ _ _ _ _ _ (World.drew _)
  refine wpAny_of_held (S := wT g 3 nm ot dat A m cp nn e0 e1 e2 e3 e4 e5 e6 e7 e8) _ _ _ _ ?_
  obtain ⟨w2, hw2⟩ : ∃ w2, w2 = w1.drew := ⟨_, rfl⟩
  have G2 : Hid (GS w0 w2 C1 (L2 w0 p n d q r (M ++ [BP]))) := Lib.hid (by rw [hw2]; exact G1.out.keep (Below.refl _ _).drew)
  rw [← hw2]
  clear hw2 K1 G1
  have hHeld : (wT g 3 nm ot dat A m cp nn e0 e1 e2 e3 e4 e5 e6 e7 e8) w2 := HS.out _ (HBP.out _ _ (GS.last (L := L2 w0 p n d q r M) G2.out))
  refine tkh 0 (v := ?_) rfl ?_ ?_; rotate_left
  · intro w hSw; (try dsimp only at hSw); go_simp <;> with_reducible rfl
  try simp only [Act.put, pz]
  refine tkh 1 (v := ?_) rfl ?_ ?_; rotate_left
  · intro w hSw; (try dsimp only at hSw); go_simp <;> with_reducible rfl
  try simp only [Act.put, pz]
  refine tkh 2 (v := ?_) rfl ?_ ?_; rotate_left
  · intro w hSw; obtain ⟨z0, z1, z2, z3, z4, z5, z6, z7, z8, z9, z10, z11, z12, z13, z14⟩ := hSw; go_simp <;> with_reducible rfl
  try simp only [Act.put, pz]
  refine tkh 3 (v := ?_) rfl ?_ ?_; rotate_left
  · intro w hSw; (try dsimp only at hSw); go_simp <;> with_reducible rfl
  try simp only [Act.put, pz]
  refine tkh 4 (v := ?_) rfl ?_ ?_; rotate_left
  · intro w hSw; obtain ⟨z0, z1, z2, z3, z4, z5, z6, z7, z8, z9, z10, z11, z12, z13, z14⟩ := hSw; go_simp <;> with_reducible rfl
  try simp only [Act.put, pz]
  refine tkh 6 (v := ?_) rfl ?_ ?_; rotate_left
  · intro w hSw; (try dsimp only at hSw); go_simp <;> with_reducible rfl
  try simp only [Act.put, pz]
  refine tkh 7 (v := ?_) rfl ?_ ?_; rotate_left
  · intro w hSw; (try dsimp only at hSw); go_simp <;> with_reducible rfl
  try simp only [Act.put, pz]
  refine tkh 8 (v := ?_) rfl ?_ ?_; rotate_left
  · intro w hSw; obtain ⟨z0, z1, z2, z3, z4, z5, z6, z7, z8, z9, z10, z11, z12, z13, z14⟩ := hSw; go_simp <;> with_reducible rfl
  try simp only [Act.put, pz]
  refine tkh 9 (v := ?_) rfl ?_ ?_; rotate_left
  · intro w hSw; (try dsimp only at hSw); go_simp <;> with_reducible rfl
  try simp only [Act.put, pz]
  refine tkh 10 (v := ?_) rfl ?_ ?_; rotate_left
  · intro w hSw; obtain ⟨z0, z1, z2, z3, z4, z5, z6, z7, z8, z9, z10, z11, z12, z13, z14⟩ := hSw; go_simp <;> with_reducible rfl
  try simp only [Act.put, pz]
  refine wpAnyH_ready (rs := [5]) (by kernel_rfl) (by simp) (AllReadyH.cons rfl (fun K hK => ?_) AllReadyH.nil)
  have hPrev := hHeld
  clear hHeld
  go_simp
  refine (HA.out _ _ (M ++ [BP]) [.string (strB nm), .string (strB ot)] G2.out rfl).mono ?_
  rintro e w3 ⟨rfl, hg3⟩
  have G3 := Lib.hid hg3
  clear hg3 HA
  refine hK.out _ _ (HS.out _ (HBP.out _ _ (GS.last (L := L2 w0 p (n + 2) d' q r M) G3.out))) (fun hHeld => ?_)
  clear hK K hPrev
  try simp only [Act.put, pz]
  refine wpAnyH_ready (rs := [11]) (by kernel_rfl) (by simp) (AllReadyH.cons rfl (fun K hK => ?_) AllReadyH.nil)
  have hPrev := hHeld
  clear hHeld
  go_simp
  refine (HB.out _ _ (M ++ [BP]) [.string (strB nm), .string (strB ot)] G3.out rfl).mono ?_
  rintro e w4 ⟨rfl, hg4⟩
  have G4 := Lib.hid hg4
  clear hg4 HB
  refine hK.out _ _ (HS.out _ (HBP.out _ _ (GS.last (L := L2 w0 p (n + 2) d' q r' M) G4.out))) (fun hHeld => ?_)
  clear hK K hPrev
  try simp only [Act.put, pz]
  refine tkh 12 (v := ?_) rfl ?_ ?_; rotate_left
  · intro w hSw; (try dsimp only at hSw); go_simp <;> with_reducible rfl
  try simp only [Act.put, pz]
  refine tkh 13 (v := ?_) rfl ?_ ?_; rotate_left
  · intro w hSw; (try dsimp only at hSw); go_simp <;> with_reducible rfl
  try simp only [Act.put, pz]
  refine wpAnyH_done (by kernel_rfl) ?_ _
  have HF : Hid (WrQ w0 p q n M (.returned (.bool true)) w4) := Lib.hid ⟨rfl, _, d', r', HAL.out, GS.front (L := L2 w0 p (n + 2) d' q r' M) G4.out⟩
  clear hHeld
  go_wp2_with fail
  go_ret
  exact HF.out
set_option maxRecDepth 20000 in
set_option maxHeartbeats 4000000 in
theorem writes_remove {w0 W : World} {C : Nat → Nat} {p q n : Nat} {d : Dk} {r : Rd} {M : List PartT} (hG : GS w0 W C (L2 w0 p n d q r M)) (al : Alike d r n) (hn : n + 2 < 1000000) (nm ot dat : List UInt8) (A : Option Addr) (m cp : Nat) (nn e0 e1 e2 e3 e4 e5 e6 e7 e8 : Int) : Calls Tryz.prog 38 #[.pointer (some ⟨p, 0, none⟩), .pointer (some ⟨q, 0, none⟩), .agg #[.int .i64 4, .string (strB nm), .string (strB ot), .string (strB dat), .slice A m cp, .int .i64 nn, .int .i64 e0, .int .i64 e1, .int .i64 e2, .int .i64 e3, .int .i64 e4, .int .i64 e5, .int .i64 e6, .int .i64 e7, .int .i64 e8]] W (WrQ w0 p q n M) := by
  obtain ⟨w1, hw1⟩ : ∃ w1, w1 = W.alloc (.cells #[.int .i64 4, .string (strB nm), .string (strB ot), .string (strB dat), .slice A m cp, .int .i64 nn, .int .i64 e0, .int .i64 e1, .int .i64 e2, .int .i64 e3, .int .i64 e4, .int .i64 e5, .int .i64 e6, .int .i64 e7, .int .i64 e8] 111) := ⟨_, rfl⟩
  obtain ⟨g, hg⟩ : ∃ g, g = W.heap.size := ⟨_, rfl⟩
  have hb : Below W.heap.size W w1 := by rw [hw1]; exact (Below.refl _ _).alloc (Nat.le_refl _) _
  have K1 : Hid (Blk w1 g 111 #[.int .i64 4, .string (strB nm), .string (strB ot), .string (strB dat), .slice A m cp, .int .i64 nn, .int .i64 e0, .int .i64 e1, .int .i64 e2, .int .i64 e3, .int .i64 e4, .int .i64 e5, .int .i64 e6, .int .i64 e7, .int .i64 e8]) := Lib.hid (by rw [hw1, hg]; exact Blk.new W _ _ rfl)
  obtain ⟨cB, hcB⟩ : ∃ cB, cB = (L2 w0 p n d q r M).length + 1 := ⟨_, rfl⟩
  obtain ⟨C1, hC1⟩ : ∃ C1, C1 = paint C W.heap.size cB := ⟨_, rfl⟩
  obtain ⟨BP, hBP⟩ : ∃ BP : PartT, BP = (fun W C => FrC W C cB (fun w => Blk w g 111 #[.int .i64 4, .string (strB nm), .string (strB ot), .string (strB dat), .slice A m cp, .int .i64 nn, .int .i64 e0, .int .i64 e1, .int .i64 e2, .int .i64 e3, .int .i64 e4, .int .i64 e5, .int .i64 e6, .int .i64 e7, .int .i64 e8])) := ⟨_, rfl⟩
  have G1 : Hid (GS w0 w1 C1 (L2 w0 p n d q r (M ++ [BP]))) := Lib.hid (by
    have h1 := hG.holdBlk hb K1.out (by omega)
    rw [← hcB] at h1
    rw [hBP, hC1]; exact h1)
  have HDK : Hid (d.Ok n) := Lib.hid (DC.ok (hG.at_ (k := 0) rfl : DCp w0 1 p n d W C))
  have HBP : Hid (∀ w C, BP w C → Blk w g 111 #[.int .i64 4, .string (strB nm), .string (strB ot), .string (strB dat), .slice A m cp, .int .i64 nn, .int .i64 e0, .int .i64 e1, .int .i64 e2, .int .i64 e3, .int .i64 e4, .int .i64 e5, .int .i64 e6, .int .i64 e7, .int .i64 e8]) := Lib.hid (fun w C h => by rw [hBP] at h; exact h.now)
  have HS : Hid (∀ w', Blk w' g 111 #[.int .i64 4, .string (strB nm), .string (strB ot), .string (strB dat), .slice A m cp, .int .i64 nn, .int .i64 e0, .int .i64 e1, .int .i64 e2, .int .i64 e3, .int .i64 e4, .int .i64 e5, .int .i64 e6, .int .i64 e7, .int .i64 e8] → (wT g 4 nm ot dat A m cp nn e0 e1 e2 e3 e4 e5 e6 e7 e8) w') := Lib.hid (fun w' hb => ⟨(hb.cell 0).trans rfl, (hb.cell 1).trans rfl, (hb.cell 2).trans rfl, (hb.cell 3).trans rfl, (hb.cell 4).trans rfl, (hb.cell 5).trans rfl, (hb.cell 6).trans rfl, (hb.cell 7).trans rfl, (hb.cell 8).trans rfl, (hb.cell 9).trans rfl, (hb.cell 10).trans rfl, (hb.cell 11).trans rfl, (hb.cell 12).trans rfl, (hb.cell 13).trans rfl, (hb.cell 14).trans rfl⟩)
  have HN := Lib.hid hn
  obtain ⟨v, d', r', al', hA, hB⟩ := PairC.two (p := p) (q := q) (w0 := w0) (pair_remove al HDK.out hn nm)
  have HA := Lib.hid hA; have HB := Lib.hid hB; have HAL := Lib.hid al'
  clear hb hG al hn hA hB al' hBP hC1 hcB
  go_enter Tryz.func38, Tryz.ntmps38
  go_upto_region 11 with fail
  rw [← hw1, ← hg]
  clear hw1 hg
  refine wp_region_any (by kernel_rfl) ?_
  change wpAny _ _ _ _ _ _ _ (World.drew _)
  refine wpAny_of_held (S := wT g 4 nm ot dat A m cp nn e0 e1 e2 e3 e4 e5 e6 e7 e8) _ _ _ _ ?_
  obtain ⟨w2, hw2⟩ : ∃ w2, w2 = w1.drew := ⟨_, rfl⟩
  have G2 : Hid (GS w0 w2 C1 (L2 w0 p n d q r (M ++ [BP]))) := Lib.hid (by rw [hw2]; exact G1.out.keep (Below.refl _ _).drew)
  rw [← hw2]
  clear hw2 K1 G1
  have hHeld : (wT g 4 nm ot dat A m cp nn e0 e1 e2 e3 e4 e5 e6 e7 e8) w2 := HS.out _ (HBP.out _ _ (GS.last (L := L2 w0 p n d q r M) G2.out))
  refine tkh 0 (v := ?_) rfl ?_ ?_; rotate_left
  · intro w hSw; (try dsimp only at hSw); go_simp <;> with_reducible rfl
  try simp only [Act.put, pz]
  refine tkh 1 (v := ?_) rfl ?_ ?_; rotate_left
  · intro w hSw; (try dsimp only at hSw); go_simp <;> with_reducible rfl
  try simp only [Act.put, pz]
  refine tkh 2 (v := ?_) rfl ?_ ?_; rotate_left
  · intro w hSw; obtain ⟨z0, z1, z2, z3, z4, z5, z6, z7, z8, z9, z10, z11, z12, z13, z14⟩ := hSw; go_simp <;> with_reducible rfl
  try simp only [Act.put, pz]
  refine tkh 4 (v := ?_) rfl ?_ ?_; rotate_left
  · intro w hSw; (try dsimp only at hSw); go_simp <;> with_reducible rfl
  try simp only [Act.put, pz]
  refine tkh 5 (v := ?_) rfl ?_ ?_; rotate_left
  · intro w hSw; (try dsimp only at hSw); go_simp <;> with_reducible rfl
  try simp only [Act.put, pz]
  refine tkh 6 (v := ?_) rfl ?_ ?_; rotate_left
  · intro w hSw; obtain ⟨z0, z1, z2, z3, z4, z5, z6, z7, z8, z9, z10, z11, z12, z13, z14⟩ := hSw; go_simp <;> with_reducible rfl
  try simp only [Act.put, pz]
  refine wpAnyH_ready (rs := [3]) (by kernel_rfl) (by simp) (AllReadyH.cons rfl (fun K hK => ?_) AllReadyH.nil)
  have hPrev := hHeld
  clear hHeld
  go_simp
  refine (HA.out _ _ (M ++ [BP]) [.string (strB nm)] G2.out rfl).mono ?_
  rintro e w3 ⟨rfl, hg3⟩
  have G3 := Lib.hid hg3
  clear hg3 HA
  refine hK.out _ _ (HS.out _ (HBP.out _ _ (GS.last (L := L2 w0 p (n + 2) d' q r M) G3.out))) (fun hHeld => ?_)
  clear hK K hPrev
  try simp only [Act.put, pz]
  refine wpAnyH_ready (rs := [7]) (by kernel_rfl) (by simp) (AllReadyH.cons rfl (fun K hK => ?_) AllReadyH.nil)
  have hPrev := hHeld
  clear hHeld
  go_simp
  refine (HB.out _ _ (M ++ [BP]) [.string (strB nm)] G3.out rfl).mono ?_
  rintro e w4 ⟨rfl, hg4⟩
  have G4 := Lib.hid hg4
  clear hg4 HB
  refine hK.out _ _ (HS.out _ (HBP.out _ _ (GS.last (L := L2 w0 p (n + 2) d' q r' M) G4.out))) (fun hHeld => ?_)
  clear hK K hPrev
  try simp only [Act.put, pz]
  refine tkh 8 (v := ?_) rfl ?_ ?_; rotate_left
  · intro w hSw; (try dsimp only at hSw); go_simp <;> with_reducible rfl
  try simp only [Act.put, pz]
  refine tkh 9 (v := ?_) rfl ?_ ?_; rotate_left
  · intro w hSw; (try dsimp only at hSw); go_simp <;> with_reducible rfl
  try simp only [Act.put, pz]
  refine wpAnyH_done (by kernel_rfl) ?_ _
  have HF : Hid (WrQ w0 p q n M (.returned (.bool true)) w4) := Lib.hid ⟨rfl, _, d', r', HAL.out, GS.front (L := L2 w0 p (n + 2) d' q r' M) G4.out⟩
  clear hHeld
  go_wp2_with fail
  go_ret
  exact HF.out
set_option maxRecDepth 20000 in
set_option maxHeartbeats 4000000 in
theorem writes_sync {w0 W : World} {C : Nat → Nat} {p q n : Nat} {d : Dk} {r : Rd} {M : List PartT} (hG : GS w0 W C (L2 w0 p n d q r M)) (al : Alike d r n) (hn : n + 2 < 1000000) (nm ot dat : List UInt8) (A : Option Addr) (m cp : Nat) (nn e0 e1 e2 e3 e4 e5 e6 e7 e8 : Int) : Calls Tryz.prog 38 #[.pointer (some ⟨p, 0, none⟩), .pointer (some ⟨q, 0, none⟩), .agg #[.int .i64 5, .string (strB nm), .string (strB ot), .string (strB dat), .slice A m cp, .int .i64 nn, .int .i64 e0, .int .i64 e1, .int .i64 e2, .int .i64 e3, .int .i64 e4, .int .i64 e5, .int .i64 e6, .int .i64 e7, .int .i64 e8]] W (WrQ w0 p q n M) := by
  obtain ⟨w1, hw1⟩ : ∃ w1, w1 = W.alloc (.cells #[.int .i64 5, .string (strB nm), .string (strB ot), .string (strB dat), .slice A m cp, .int .i64 nn, .int .i64 e0, .int .i64 e1, .int .i64 e2, .int .i64 e3, .int .i64 e4, .int .i64 e5, .int .i64 e6, .int .i64 e7, .int .i64 e8] 111) := ⟨_, rfl⟩
  obtain ⟨g, hg⟩ : ∃ g, g = W.heap.size := ⟨_, rfl⟩
  have hb : Below W.heap.size W w1 := by rw [hw1]; exact (Below.refl _ _).alloc (Nat.le_refl _) _
  have K1 : Hid (Blk w1 g 111 #[.int .i64 5, .string (strB nm), .string (strB ot), .string (strB dat), .slice A m cp, .int .i64 nn, .int .i64 e0, .int .i64 e1, .int .i64 e2, .int .i64 e3, .int .i64 e4, .int .i64 e5, .int .i64 e6, .int .i64 e7, .int .i64 e8]) := Lib.hid (by rw [hw1, hg]; exact Blk.new W _ _ rfl)
  obtain ⟨cB, hcB⟩ : ∃ cB, cB = (L2 w0 p n d q r M).length + 1 := ⟨_, rfl⟩
  obtain ⟨C1, hC1⟩ : ∃ C1, C1 = paint C W.heap.size cB := ⟨_, rfl⟩
  obtain ⟨BP, hBP⟩ : ∃ BP : PartT, BP = (fun W C => FrC W C cB (fun w => Blk w g 111 #[.int .i64 5, .string (strB nm), .string (strB ot), .string (strB dat), .slice A m cp, .int .i64 nn, .int .i64 e0, .int .i64 e1, .int .i64 e2, .int .i64 e3, .int .i64 e4, .int .i64 e5, .int .i64 e6, .int .i64 e7, .int .i64 e8])) := ⟨_, rfl⟩
  have G1 : Hid (GS w0 w1 C1 (L2 w0 p n d q r (M ++ [BP]))) := Lib.hid (by
    have h1 := hG.holdBlk hb K1.out (by omega)
    rw [← hcB] at h1
    rw [hBP, hC1]; exact h1)
  have HDK : Hid (d.Ok n) := Lib.hid (DC.ok (hG.at_ (k := 0) rfl : DCp w0 1 p n d W C))
  have HBP : Hid (∀ w C, BP w C → Blk w g 111 #[.int .i64 5, .string (strB nm), .string (strB ot), .string (strB dat), .slice A m cp, .int .i64 nn, .int .i64 e0, .int .i64 e1, .int .i64 e2, .int .i64 e3, .int .i64 e4, .int .i64 e5, .int .i64 e6, .int .i64 e7, .int .i64 e8]) := Lib.hid (fun w C h => by rw [hBP] at h; exact h.now)
  have HS : Hid (∀ w', Blk w' g 111 #[.int .i64 5, .string (strB nm), .string (strB ot), .string (strB dat), .slice A m cp, .int .i64 nn, .int .i64 e0, .int .i64 e1, .int .i64 e2, .int .i64 e3, .int .i64 e4, .int .i64 e5, .int .i64 e6, .int .i64 e7, .int .i64 e8] → (wT g 5 nm ot dat A m cp nn e0 e1 e2 e3 e4 e5 e6 e7 e8) w') := Lib.hid (fun w' hb => ⟨(hb.cell 0).trans rfl, (hb.cell 1).trans rfl, (hb.cell 2).trans rfl, (hb.cell 3).trans rfl, (hb.cell 4).trans rfl, (hb.cell 5).trans rfl, (hb.cell 6).trans rfl, (hb.cell 7).trans rfl, (hb.cell 8).trans rfl, (hb.cell 9).trans rfl, (hb.cell 10).trans rfl, (hb.cell 11).trans rfl, (hb.cell 12).trans rfl, (hb.cell 13).trans rfl, (hb.cell 14).trans rfl⟩)
  have HN := Lib.hid hn
  obtain ⟨v, d', r', al', hA, hB⟩ := PairC.two (p := p) (q := q) (w0 := w0) (pair_sync al HDK.out hn nm)
  have HA := Lib.hid hA; have HB := Lib.hid hB; have HAL := Lib.hid al'
  clear hb hG al hn hA hB al' hBP hC1 hcB
  go_enter Tryz.func38, Tryz.ntmps38
  go_upto_region 13 with fail
  rw [← hw1, ← hg]
  clear hw1 hg
  refine wp_region_any (by kernel_rfl) ?_
  change wpAny _ _ _ _ _ _ _ (World.drew _)
  refine wpAny_of_held (S := wT g 5 nm ot dat A m cp nn e0 e1 e2 e3 e4 e5 e6 e7 e8) _ _ _ _ ?_
  obtain ⟨w2, hw2⟩ : ∃ w2, w2 = w1.drew := ⟨_, rfl⟩
  have G2 : Hid (GS w0 w2 C1 (L2 w0 p n d q r (M ++ [BP]))) := Lib.hid (by rw [hw2]; exact G1.out.keep (Below.refl _ _).drew)
  rw [← hw2]
  clear hw2 K1 G1
  have hHeld : (wT g 5 nm ot dat A m cp nn e0 e1 e2 e3 e4 e5 e6 e7 e8) w2 := HS.out _ (HBP.out _ _ (GS.last (L := L2 w0 p n d q r M) G2.out))
  refine tkh 0 (v := ?_) rfl ?_ ?_; rotate_left
  · intro w hSw; (try dsimp only at hSw); go_simp <;> with_reducible rfl
  try simp only [Act.put, pz]
  refine tkh 1 (v := ?_) rfl ?_ ?_; rotate_left
  · intro w hSw; (try dsimp only at hSw); go_simp <;> with_reducible rfl
  try simp only [Act.put, pz]
  refine tkh 2 (v := ?_) rfl ?_ ?_; rotate_left
  · intro w hSw; obtain ⟨z0, z1, z2, z3, z4, z5, z6, z7, z8, z9, z10, z11, z12, z13, z14⟩ := hSw; go_simp <;> with_reducible rfl
  try simp only [Act.put, pz]
  refine tkh 4 (v := ?_) rfl ?_ ?_; rotate_left
  · intro w hSw; (try dsimp only at hSw); go_simp <;> with_reducible rfl
  try simp only [Act.put, pz]
  refine tkh 5 (v := ?_) rfl ?_ ?_; rotate_left
  · intro w hSw; (try dsimp only at hSw); go_simp <;> with_reducible rfl
  try simp only [Act.put, pz]
  refine tkh 6 (v := ?_) rfl ?_ ?_; rotate_left
  · intro w hSw; obtain ⟨z0, z1, z2, z3, z4, z5, z6, z7, z8, z9, z10, z11, z12, z13, z14⟩ := hSw; go_simp <;> with_reducible rfl
  try simp only [Act.put, pz]
  refine wpAnyH_ready (rs := [3]) (by kernel_rfl) (by simp) (AllReadyH.cons rfl (fun K hK => ?_) AllReadyH.nil)
  have hPrev := hHeld
  clear hHeld
  go_simp
  refine (HA.out _ _ (M ++ [BP]) [.string (strB nm)] G2.out rfl).mono ?_
  rintro e w3 ⟨rfl, hg3⟩
  have G3 := Lib.hid hg3
  clear hg3 HA
  refine hK.out _ _ (HS.out _ (HBP.out _ _ (GS.last (L := L2 w0 p (n + 2) d' q r M) G3.out))) (fun hHeld => ?_)
  clear hK K hPrev
  try simp only [Act.put, pz]
  refine wpAnyH_ready (rs := [7]) (by kernel_rfl) (by simp) (AllReadyH.cons rfl (fun K hK => ?_) AllReadyH.nil)
  have hPrev := hHeld
  clear hHeld
  go_simp
  refine (HB.out _ _ (M ++ [BP]) [.string (strB nm)] G3.out rfl).mono ?_
  rintro e w4 ⟨rfl, hg4⟩
  have G4 := Lib.hid hg4
  clear hg4 HB
  refine hK.out _ _ (HS.out _ (HBP.out _ _ (GS.last (L := L2 w0 p (n + 2) d' q r' M) G4.out))) (fun hHeld => ?_)
  clear hK K hPrev
  try simp only [Act.put, pz]
  refine tkh 8 (v := ?_) rfl ?_ ?_; rotate_left
  · intro w hSw; (try dsimp only at hSw); go_simp <;> with_reducible rfl
  try simp only [Act.put, pz]
  refine tkh 9 (v := ?_) rfl ?_ ?_; rotate_left
  · intro w hSw; (try dsimp only at hSw); go_simp <;> with_reducible rfl
  try simp only [Act.put, pz]
  refine wpAnyH_done (by kernel_rfl) ?_ _
  have HF : Hid (WrQ w0 p q n M (.returned (.bool true)) w4) := Lib.hid ⟨rfl, _, d', r', HAL.out, GS.front (L := L2 w0 p (n + 2) d' q r' M) G4.out⟩
  clear hHeld
  go_wp2_with fail
  go_ret
  exact HF.out
set_option maxRecDepth 20000 in
set_option maxHeartbeats 4000000 in
theorem writes_append {w0 W : World} {C : Nat → Nat} {p q n : Nat} {d : Dk} {r : Rd} {M : List PartT} (hG : GS w0 W C (L2 w0 p n d q r M)) (al : Alike d r n) (hn : n + 2 < 1000000) (nm ot dat : List UInt8) (A : Option Addr) (m cp : Nat) (nn e0 e1 e2 e3 e4 e5 e6 e7 e8 : Int) (hdat : dat.length ≤ 140737488351232) : Calls Tryz.prog 38 #[.pointer (some ⟨p, 0, none⟩), .pointer (some ⟨q, 0, none⟩), .agg #[.int .i64 1, .string (strB nm), .string (strB ot), .string (strB dat), .slice A m cp, .int .i64 nn, .int .i64 e0, .int .i64 e1, .int .i64 e2, .int .i64 e3, .int .i64 e4, .int .i64 e5, .int .i64 e6, .int .i64 e7, .int .i64 e8]] W (WrQ w0 p q n M) := by
  obtain ⟨w1, hw1⟩ : ∃ w1, w1 = W.alloc (.cells #[.int .i64 1, .string (strB nm), .string (strB ot), .string (strB dat), .slice A m cp, .int .i64 nn, .int .i64 e0, .int .i64 e1, .int .i64 e2, .int .i64 e3, .int .i64 e4, .int .i64 e5, .int .i64 e6, .int .i64 e7, .int .i64 e8] 111) := ⟨_, rfl⟩
  obtain ⟨g, hg⟩ : ∃ g, g = W.heap.size := ⟨_, rfl⟩
  have hb : Below W.heap.size W w1 := by rw [hw1]; exact (Below.refl _ _).alloc (Nat.le_refl _) _
  have K1 : Hid (Blk w1 g 111 #[.int .i64 1, .string (strB nm), .string (strB ot), .string (strB dat), .slice A m cp, .int .i64 nn, .int .i64 e0, .int .i64 e1, .int .i64 e2, .int .i64 e3, .int .i64 e4, .int .i64 e5, .int .i64 e6, .int .i64 e7, .int .i64 e8]) := Lib.hid (by rw [hw1, hg]; exact Blk.new W _ _ rfl)
  obtain ⟨cB, hcB⟩ : ∃ cB, cB = (L2 w0 p n d q r M).length + 1 := ⟨_, rfl⟩
  obtain ⟨C1, hC1⟩ : ∃ C1, C1 = paint C W.heap.size cB := ⟨_, rfl⟩
  obtain ⟨BP, hBP⟩ : ∃ BP : PartT, BP = (fun W C => FrC W C cB (fun w => Blk w g 111 #[.int .i64 1, .string (strB nm), .string (strB ot), .string (strB dat), .slice A m cp, .int .i64 nn, .int .i64 e0, .int .i64 e1, .int .i64 e2, .int .i64 e3, .int .i64 e4, .int .i64 e5, .int .i64 e6, .int .i64 e7, .int .i64 e8])) := ⟨_, rfl⟩
  have G1 : Hid (GS w0 w1 C1 (L2 w0 p n d q r (M ++ [BP]))) := Lib.hid (by
    have h1 := hG.holdBlk hb K1.out (by omega)
    rw [← hcB] at h1
    rw [hBP, hC1]; exact h1)
  have HDK : Hid (d.Ok n) := Lib.hid (DC.ok (hG.at_ (k := 0) rfl : DCp w0 1 p n d W C))
  have HBP : Hid (∀ w C, BP w C → Blk w g 111 #[.int .i64 1, .string (strB nm), .string (strB ot), .string (strB dat), .slice A m cp, .int .i64 nn, .int .i64 e0, .int .i64 e1, .int .i64 e2, .int .i64 e3, .int .i64 e4, .int .i64 e5, .int .i64 e6, .int .i64 e7, .int .i64 e8]) := Lib.hid (fun w C h => by rw [hBP] at h; exact h.now)
  have HS : Hid (∀ w', Blk w' g 111 #[.int .i64 1, .string (strB nm), .string (strB ot), .string (strB dat), .slice A m cp, .int .i64 nn, .int .i64 e0, .int .i64 e1, .int .i64 e2, .int .i64 e3, .int .i64 e4, .int .i64 e5, .int .i64 e6, .int .i64 e7, .int .i64 e8] → (wT g 1 nm ot dat A m cp nn e0 e1 e2 e3 e4 e5 e6 e7 e8) w') := Lib.hid (fun w' hb => ⟨(hb.cell 0).trans rfl, (hb.cell 1).trans rfl, (hb.cell 2).trans rfl, (hb.cell 3).trans rfl, (hb.cell 4).trans rfl, (hb.cell 5).trans rfl, (hb.cell 6).trans rfl, (hb.cell 7).trans rfl, (hb.cell 8).trans rfl, (hb.cell 9).trans rfl, (hb.cell 10).trans rfl, (hb.cell 11).trans rfl, (hb.cell 12).trans rfl, (hb.cell 13).trans rfl, (hb.cell 14).trans rfl⟩)
  have HN := Lib.hid hn
  obtain ⟨v, d', r', al', hA, hB⟩ := PairC.two (p := p) (q := q) (w0 := w0) (pair_append_big al HDK.out hn nm dat hdat)
  have HA := Lib.hid hA; have HB := Lib.hid hB; have HAL := Lib.hid al'
  have HX : Hid (∀ w3 C3 e v2 c1, GsQ w0 v2 C3 (L2 w0 p (n + 2) d' q r' (M ++ [BP] ++ [fun W C => FrC W C c1 (fun w => True)])) e w3 → True) := Lib.hid (fun _ _ _ _ _ _ => trivial)
  clear HX
  clear hb hG al hn hA hB al' hBP hC1 hcB
  go_enter Tryz.func38, Tryz.ntmps38
  go_upto_region 5 with fail
  rw [← hw1, ← hg]
  clear hw1 hg
  refine wp_region_any (by kernel_rfl) ?_
  change wpAny _ _ _ _ _ _ _ (World.drew _)
  refine wpAny_of_held (S := wT g 1 nm ot dat A m cp nn e0 e1 e2 e3 e4 e5 e6 e7 e8) _ _ _ _ ?_
  obtain ⟨w2, hw2⟩ : ∃ w2, w2 = w1.drew := ⟨_, rfl⟩
  have G2 : Hid (GS w0 w2 C1 (L2 w0 p n d q r (M ++ [BP]))) := Lib.hid (by rw [hw2]; exact G1.out.keep (Below.refl _ _).drew)
  rw [← hw2]
  clear hw2 K1 G1
  have hHeld : (wT g 1 nm ot dat A m cp nn e0 e1 e2 e3 e4 e5 e6 e7 e8) w2 := HS.out _ (HBP.out _ _ (GS.last (L := L2 w0 p n d q r M) G2.out))
  refine tkh 0 (v := ?_) rfl ?_ ?_; rotate_left
  · intro w hSw; (try dsimp only at hSw); go_simp <;> with_reducible rfl
  try simp only [Act.put, pz]
  refine tkh 1 (v := ?_) rfl ?_ ?_; rotate_left
  · intro w hSw; (try dsimp only at hSw); go_simp <;> with_reducible rfl
  try simp only [Act.put, pz]
  refine tkh 2 (v := ?_) rfl ?_ ?_; rotate_left
  · intro w hSw; obtain ⟨z0, z1, z2, z3, z4, z5, z6, z7, z8, z9, z10, z11, z12, z13, z14⟩ := hSw; go_simp <;> with_reducible rfl
  try simp only [Act.put, pz]
  refine tkh 3 (v := ?_) rfl ?_ ?_; rotate_left
  · intro w hSw; (try dsimp only at hSw); go_simp <;> with_reducible rfl
  try simp only [Act.put, pz]
  refine tkh 4 (v := ?_) rfl ?_ ?_; rotate_left
  · intro w hSw; obtain ⟨z0, z1, z2, z3, z4, z5, z6, z7, z8, z9, z10, z11, z12, z13, z14⟩ := hSw; go_simp <;> with_reducible rfl
  try simp only [Act.put, pz]
  refine tkh 7 (v := ?_) rfl ?_ ?_; rotate_left
  · intro w hSw; (try dsimp only at hSw); go_simp <;> with_reducible rfl
  try simp only [Act.put, pz]
  refine tkh 8 (v := ?_) rfl ?_ ?_; rotate_left
  · intro w hSw; (try dsimp only at hSw); go_simp <;> with_reducible rfl
  try simp only [Act.put, pz]
  refine tkh 9 (v := ?_) rfl ?_ ?_; rotate_left
  · intro w hSw; obtain ⟨z0, z1, z2, z3, z4, z5, z6, z7, z8, z9, z10, z11, z12, z13, z14⟩ := hSw; go_simp <;> with_reducible rfl
  try simp only [Act.put, pz]
  refine tkh 10 (v := ?_) rfl ?_ ?_; rotate_left
  · intro w hSw; (try dsimp only at hSw); go_simp <;> with_reducible rfl
  try simp only [Act.put, pz]
  refine tkh 11 (v := ?_) rfl ?_ ?_; rotate_left
  · intro w hSw; obtain ⟨z0, z1, z2, z3, z4, z5, z6, z7, z8, z9, z10, z11, z12, z13, z14⟩ := hSw; go_simp <;> with_reducible rfl
  try simp only [Act.put, pz]
  obtain ⟨C2, hC2⟩ : ∃ C2, C2 = C1 := ⟨_, rfl⟩
  rw [← hC2] at G2
  clear hC2
  refine wpAnyH_ready (rs := [5, 12]) (by kernel_rfl) (by simp) (AllReadyH.cons rfl (fun K hK => ?_) (AllReadyH.cons rfl (fun K hK => ?_) AllReadyH.nil))
  ·
    have hPrev := hHeld
    clear hHeld
    obtain ⟨w3, cc0, hcv, hbv, hrv⟩ := conv_strN w2 dat
    obtain ⟨bb0, hbb⟩ : ∃ bb0, bb0 = w2.heap.size := ⟨_, rfl⟩
    rw [← hbb] at hcv hrv
    obtain ⟨cr0, hcr⟩ : ∃ cr0, cr0 = (L2 w0 p n d q r (M ++ [BP])).length + 1 := ⟨_, rfl⟩
    obtain ⟨P0, hP⟩ : ∃ P0 : PartT, P0 = (fun W C => FrC W C cr0 (fun w => RB w (some ⟨bb0, 0, none⟩) dat.length dat)) := ⟨_, rfl⟩
    have HP0 : Hid (∀ w C, P0 w C → RB w (some ⟨bb0, 0, none⟩) dat.length dat) := Lib.hid (fun w C h => by rw [hP] at h; exact h.now)
    obtain ⟨C3, G3⟩ : ∃ C3, Hid (GS w0 w3 C3 (L2 w0 p n d q r ((M ++ [BP]) ++ [P0]))) := ⟨paint C2 w2.heap.size cr0, Lib.hid (by
      have h1 := G2.out.holdRb hbv hrv (by omega)
      rw [← hcr] at h1
      rw [hP]; exact h1)⟩
    clear hbv hrv hbb hcr hP
    go_simp
    refine hK.out _ _ (HS.out _ (HBP.out _ _ (GS.last (L := L2 w0 p n d q r M) (GS.front (L := L2 w0 p n d q r (M ++ [BP])) G3.out)))) (fun hHeld => ?_)
    clear hK K hPrev hcv
    try simp only [Act.put, pz]
    refine wpAnyH_ready (rs := [6, 12]) (by kernel_rfl) (by simp) (AllReadyH.cons rfl (fun K hK => ?_) (AllReadyH.cons rfl (fun K hK => ?_) AllReadyH.nil))
    ·
      have hPrev := hHeld
      clear hHeld
      go_simp
      refine (HA.out _ _ ((M ++ [BP]) ++ [P0]) [.string (strB nm), .slice (some ⟨bb0, 0, none⟩) dat.length cc0] G3.out ⟨_, _, _, rfl, (HP0.out _ _ (GS.last (L := L2 w0 p n d q r (M ++ [BP])) G3.out))⟩).mono ?_
      rintro e w4 ⟨rfl, hg4⟩
      obtain ⟨C4, hC⟩ : ∃ C4, C4 = paint C3 w3.heap.size 1 := ⟨_, rfl⟩
      rw [← hC] at hg4
      have G4 := Lib.hid hg4
      clear hg4 hC
      refine hK.out _ _ (HS.out _ (HBP.out _ _ (GS.last (L := L2 w0 p (n + 2) d' q r M) (GS.front (L := L2 w0 p (n + 2) d' q r (M ++ [BP])) G4.out)))) (fun hHeld => ?_)
      clear hK K hPrev
      try simp only [Act.put, pz]
      refine wpAnyH_ready (rs := [12]) (by kernel_rfl) (by simp) (AllReadyH.cons rfl (fun K hK => ?_) AllReadyH.nil)
      have hPrev := hHeld
      clear hHeld
      obtain ⟨w5, cc1, hcv, hbv, hrv⟩ := conv_strN w4 dat
      obtain ⟨bb1, hbb⟩ : ∃ bb1, bb1 = w4.heap.size := ⟨_, rfl⟩
      rw [← hbb] at hcv hrv
      obtain ⟨cr1, hcr⟩ : ∃ cr1, cr1 = (L2 w0 p (n + 2) d' q r ((M ++ [BP]) ++ [P0])).length + 1 := ⟨_, rfl⟩
      obtain ⟨P1, hP⟩ : ∃ P1 : PartT, P1 = (fun W C => FrC W C cr1 (fun w => RB w (some ⟨bb1, 0, none⟩) dat.length dat)) := ⟨_, rfl⟩
      have HP1 : Hid (∀ w C, P1 w C → RB w (some ⟨bb1, 0, none⟩) dat.length dat) := Lib.hid (fun w C h => by rw [hP] at h; exact h.now)
      obtain ⟨C5, G5⟩ : ∃ C5, Hid (GS w0 w5 C5 (L2 w0 p (n + 2) d' q r (((M ++ [BP]) ++ [P0]) ++ [P1]))) := ⟨paint C4 w4.heap.size cr1, Lib.hid (by
        have h1 := G4.out.holdRb hbv hrv (by omega)
        rw [← hcr] at h1
        rw [hP]; exact h1)⟩
      clear hbv hrv hbb hcr hP
      go_simp
      refine hK.out _ _ (HS.out _ (HBP.out _ _ (GS.last (L := L2 w0 p (n + 2) d' q r M) (GS.front (L := L2 w0 p (n + 2) d' q r (M ++ [BP])) (GS.front (L := L2 w0 p (n + 2) d' q r ((M ++ [BP]) ++ [P0])) G5.out))))) (fun hHeld => ?_)
      clear hK K hPrev hcv
      try simp only [Act.put, pz]
      refine wpAnyH_ready (rs := [13]) (by kernel_rfl) (by simp) (AllReadyH.cons rfl (fun K hK => ?_) AllReadyH.nil)
      have hPrev := hHeld
      clear hHeld
      go_simp
      refine (HB.out _ _ (((M ++ [BP]) ++ [P0]) ++ [P1]) [.string (strB nm), .slice (some ⟨bb1, 0, none⟩) dat.length cc1] G5.out ⟨_, _, _, rfl, (HP1.out _ _ (GS.last (L := L2 w0 p (n + 2) d' q r ((M ++ [BP]) ++ [P0])) G5.out))⟩).mono ?_
      rintro e w6 ⟨rfl, hg6⟩
      obtain ⟨C6, hC⟩ : ∃ C6, C6 = paint C5 w5.heap.size 2 := ⟨_, rfl⟩
      rw [← hC] at hg6
      have G6 := Lib.hid hg6
      clear hg6 hC
      refine hK.out _ _ (HS.out _ (HBP.out _ _ (GS.last (L := L2 w0 p (n + 2) d' q r' M) (GS.front (L := L2 w0 p (n + 2) d' q r' (M ++ [BP])) (GS.front (L := L2 w0 p (n + 2) d' q r' ((M ++ [BP]) ++ [P0])) G6.out))))) (fun hHeld => ?_)
      clear hK K hPrev
      try simp only [Act.put, pz]
      refine tkh 14 (v := ?_) rfl ?_ ?_; rotate_left
      · intro w hSw; (try dsimp only at hSw); go_simp <;> with_reducible rfl
      try simp only [Act.put, pz]
      refine tkh 15 (v := ?_) rfl ?_ ?_; rotate_left
      · intro w hSw; (try dsimp only at hSw); go_simp <;> with_reducible rfl
      try simp only [Act.put, pz]
      refine wpAnyH_done (by kernel_rfl) ?_ _
      have HF : Hid (WrQ w0 p q n M (.returned (.bool true)) w6) := Lib.hid ⟨rfl, _, d', r', HAL.out, (GS.front (L := L2 w0 p (n + 2) d' q r' M) (GS.front (L := L2 w0 p (n + 2) d' q r' (M ++ [BP])) (GS.front (L := L2 w0 p (n + 2) d' q r' ((M ++ [BP]) ++ [P0])) G6.out)))⟩
      clear hHeld
      go_wp2_with fail
      go_ret
      exact HF.out
    ·
      have hPrev := hHeld
      clear hHeld
      obtain ⟨w4, cc1, hcv, hbv, hrv⟩ := conv_strN w3 dat
      obtain ⟨bb1, hbb⟩ : ∃ bb1, bb1 = w3.heap.size := ⟨_, rfl⟩
      rw [← hbb] at hcv hrv
      obtain ⟨cr1, hcr⟩ : ∃ cr1, cr1 = (L2 w0 p n d q r ((M ++ [BP]) ++ [P0])).length + 1 := ⟨_, rfl⟩
      obtain ⟨P1, hP⟩ : ∃ P1 : PartT, P1 = (fun W C => FrC W C cr1 (fun w => RB w (some ⟨bb1, 0, none⟩) dat.length dat)) := ⟨_, rfl⟩
      have HP1 : Hid (∀ w C, P1 w C → RB w (some ⟨bb1, 0, none⟩) dat.length dat) := Lib.hid (fun w C h => by rw [hP] at h; exact h.now)
      obtain ⟨C4, G4⟩ : ∃ C4, Hid (GS w0 w4 C4 (L2 w0 p n d q r (((M ++ [BP]) ++ [P0]) ++ [P1]))) := ⟨paint C3 w3.heap.size cr1, Lib.hid (by
        have h1 := G3.out.holdRb hbv hrv (by omega)
        rw [← hcr] at h1
        rw [hP]; exact h1)⟩
      clear hbv hrv hbb hcr hP
      go_simp
      refine hK.out _ _ (HS.out _ (HBP.out _ _ (GS.last (L := L2 w0 p n d q r M) (GS.front (L := L2 w0 p n d q r (M ++ [BP])) (GS.front (L := L2 w0 p n d q r ((M ++ [BP]) ++ [P0])) G4.out))))) (fun hHeld => ?_)
      clear hK K hPrev hcv
      try simp only [Act.put, pz]
      refine wpAnyH_ready (rs := [6]) (by kernel_rfl) (by simp) (AllReadyH.cons rfl (fun K hK => ?_) AllReadyH.nil)
      have hPrev := hHeld
      clear hHeld
      go_simp
      refine (HA.out _ _ (((M ++ [BP]) ++ [P0]) ++ [P1]) [.string (strB nm), .slice (some ⟨bb0, 0, none⟩) dat.length cc0] G4.out ⟨_, _, _, rfl, (HP0.out _ _ (GS.last (L := L2 w0 p n d q r (M ++ [BP])) (GS.front (L := L2 w0 p n d q r ((M ++ [BP]) ++ [P0])) G4.out)))⟩).mono ?_
      rintro e w5 ⟨rfl, hg5⟩
      obtain ⟨C5, hC⟩ : ∃ C5, C5 = paint C4 w4.heap.size 1 := ⟨_, rfl⟩
      rw [← hC] at hg5
      have G5 := Lib.hid hg5
      clear hg5 hC
      refine hK.out _ _ (HS.out _ (HBP.out _ _ (GS.last (L := L2 w0 p (n + 2) d' q r M) (GS.front (L := L2 w0 p (n + 2) d' q r (M ++ [BP])) (GS.front (L := L2 w0 p (n + 2) d' q r ((M ++ [BP]) ++ [P0])) G5.out))))) (fun hHeld => ?_)
      clear hK K hPrev
      try simp only [Act.put, pz]
      refine wpAnyH_ready (rs := [13]) (by kernel_rfl) (by simp) (AllReadyH.cons rfl (fun K hK => ?_) AllReadyH.nil)
      have hPrev := hHeld
      clear hHeld
      go_simp
      refine (HB.out _ _ (((M ++ [BP]) ++ [P0]) ++ [P1]) [.string (strB nm), .slice (some ⟨bb1, 0, none⟩) dat.length cc1] G5.out ⟨_, _, _, rfl, (HP1.out _ _ (GS.last (L := L2 w0 p (n + 2) d' q r ((M ++ [BP]) ++ [P0])) G5.out))⟩).mono ?_
      rintro e w6 ⟨rfl, hg6⟩
      obtain ⟨C6, hC⟩ : ∃ C6, C6 = paint C5 w5.heap.size 2 := ⟨_, rfl⟩
      rw [← hC] at hg6
      have G6 := Lib.hid hg6
      clear hg6 hC
      refine hK.out _ _ (HS.out _ (HBP.out _ _ (GS.last (L := L2 w0 p (n + 2) d' q r' M) (GS.front (L := L2 w0 p (n + 2) d' q r' (M ++ [BP])) (GS.front (L := L2 w0 p (n + 2) d' q r' ((M ++ [BP]) ++ [P0])) G6.out))))) (fun hHeld => ?_)
      clear hK K hPrev
      try simp only [Act.put, pz]
      refine tkh 14 (v := ?_) rfl ?_ ?_; rotate_left
      · intro w hSw; (try dsimp only at hSw); go_simp <;> with_reducible rfl
      try simp only [Act.put, pz]
      refine tkh 15 (v := ?_) rfl ?_ ?_; rotate_left
      · intro w hSw; (try dsimp only at hSw); go_simp <;> with_reducible rfl
      try simp only [Act.put, pz]
      refine wpAnyH_done (by kernel_rfl) ?_ _
      have HF : Hid (WrQ w0 p q n M (.returned (.bool true)) w6) := Lib.hid ⟨rfl, _, d', r', HAL.out, (GS.front (L := L2 w0 p (n + 2) d' q r' M) (GS.front (L := L2 w0 p (n + 2) d' q r' (M ++ [BP])) (GS.front (L := L2 w0 p (n + 2) d' q r' ((M ++ [BP]) ++ [P0])) G6.out)))⟩
      clear hHeld
      go_wp2_with fail
      go_ret
      exact HF.out
  ·
    have hPrev := hHeld
    clear hHeld
    obtain ⟨w3, cc1, hcv, hbv, hrv⟩ := conv_strN w2 dat
    obtain ⟨bb1, hbb⟩ : ∃ bb1, bb1 = w2.heap.size := ⟨_, rfl⟩
    rw [← hbb] at hcv hrv
    obtain ⟨cr1, hcr⟩ : ∃ cr1, cr1 = (L2 w0 p n d q r (M ++ [BP])).length + 1 := ⟨_, rfl⟩
    obtain ⟨P1, hP⟩ : ∃ P1 : PartT, P1 = (fun W C => FrC W C cr1 (fun w => RB w (some ⟨bb1, 0, none⟩) dat.length dat)) := ⟨_, rfl⟩
    have HP1 : Hid (∀ w C, P1 w C → RB w (some ⟨bb1, 0, none⟩) dat.length dat) := Lib.hid (fun w C h => by rw [hP] at h; exact h.now)
    obtain ⟨C3, G3⟩ : ∃ C3, Hid (GS w0 w3 C3 (L2 w0 p n d q r ((M ++ [BP]) ++ [P1]))) := ⟨paint C2 w2.heap.size cr1, Lib.hid (by
      have h1 := G2.out.holdRb hbv hrv (by omega)
      rw [← hcr] at h1
      rw [hP]; exact h1)⟩
    clear hbv hrv hbb hcr hP
    go_simp
    refine hK.out _ _ (HS.out _ (HBP.out _ _ (GS.last (L := L2 w0 p n d q r M) (GS.front (L := L2 w0 p n d q r (M ++ [BP])) G3.out)))) (fun hHeld => ?_)
    clear hK K hPrev hcv
    try simp only [Act.put, pz]
    refine wpAnyH_ready (rs := [5]) (by kernel_rfl) (by simp) (AllReadyH.cons rfl (fun K hK => ?_) AllReadyH.nil)
    have hPrev := hHeld
    clear hHeld
    obtain ⟨w4, cc0, hcv, hbv, hrv⟩ := conv_strN w3 dat
    obtain ⟨bb0, hbb⟩ : ∃ bb0, bb0 = w3.heap.size := ⟨_, rfl⟩
    rw [← hbb] at hcv hrv
    obtain ⟨cr0, hcr⟩ : ∃ cr0, cr0 = (L2 w0 p n d q r ((M ++ [BP]) ++ [P1])).length + 1 := ⟨_, rfl⟩
    obtain ⟨P0, hP⟩ : ∃ P0 : PartT, P0 = (fun W C => FrC W C cr0 (fun w => RB w (some ⟨bb0, 0, none⟩) dat.length dat)) := ⟨_, rfl⟩
    have HP0 : Hid (∀ w C, P0 w C → RB w (some ⟨bb0, 0, none⟩) dat.length dat) := Lib.hid (fun w C h => by rw [hP] at h; exact h.now)
    obtain ⟨C4, G4⟩ : ∃ C4, Hid (GS w0 w4 C4 (L2 w0 p n d q r (((M ++ [BP]) ++ [P1]) ++ [P0]))) := ⟨paint C3 w3.heap.size cr0, Lib.hid (by
      have h1 := G3.out.holdRb hbv hrv (by omega)
      rw [← hcr] at h1
      rw [hP]; exact h1)⟩
    clear hbv hrv hbb hcr hP
    go_simp
    refine hK.out _ _ (HS.out _ (HBP.out _ _ (GS.last (L := L2 w0 p n d q r M) (GS.front (L := L2 w0 p n d q r (M ++ [BP])) (GS.front (L := L2 w0 p n d q r ((M ++ [BP]) ++ [P1])) G4.out))))) (fun hHeld => ?_)
    clear hK K hPrev hcv
    try simp only [Act.put, pz]
    refine wpAnyH_ready (rs := [6]) (by kernel_rfl) (by simp) (AllReadyH.cons rfl (fun K hK => ?_) AllReadyH.nil)
    have hPrev := hHeld
    clear hHeld
    go_simp
    refine (HA.out _ _ (((M ++ [BP]) ++ [P1]) ++ [P0]) [.string (strB nm), .slice (some ⟨bb0, 0, none⟩) dat.length cc0] G4.out ⟨_, _, _, rfl, (HP0.out _ _ (GS.last (L := L2 w0 p n d q r ((M ++ [BP]) ++ [P1])) G4.out))⟩).mono ?_
    rintro e w5 ⟨rfl, hg5⟩
    obtain ⟨C5, hC⟩ : ∃ C5, C5 = paint C4 w4.heap.size 1 := ⟨_, rfl⟩
    rw [← hC] at hg5
    have G5 := Lib.hid hg5
    clear hg5 hC
    refine hK.out _ _ (HS.out _ (HBP.out _ _ (GS.last (L := L2 w0 p (n + 2) d' q r M) (GS.front (L := L2 w0 p (n + 2) d' q r (M ++ [BP])) (GS.front (L := L2 w0 p (n + 2) d' q r ((M ++ [BP]) ++ [P1])) G5.out))))) (fun hHeld => ?_)
    clear hK K hPrev
    try simp only [Act.put, pz]
    refine wpAnyH_ready (rs := [13]) (by kernel_rfl) (by simp) (AllReadyH.cons rfl (fun K hK => ?_) AllReadyH.nil)
    have hPrev := hHeld
    clear hHeld
    go_simp
    refine (HB.out _ _ (((M ++ [BP]) ++ [P1]) ++ [P0]) [.string (strB nm), .slice (some ⟨bb1, 0, none⟩) dat.length cc1] G5.out ⟨_, _, _, rfl, (HP1.out _ _ (GS.last (L := L2 w0 p (n + 2) d' q r (M ++ [BP])) (GS.front (L := L2 w0 p (n + 2) d' q r ((M ++ [BP]) ++ [P1])) G5.out)))⟩).mono ?_
    rintro e w6 ⟨rfl, hg6⟩
    obtain ⟨C6, hC⟩ : ∃ C6, C6 = paint C5 w5.heap.size 2 := ⟨_, rfl⟩
    rw [← hC] at hg6
    have G6 := Lib.hid hg6
    clear hg6 hC
    refine hK.out _ _ (HS.out _ (HBP.out _ _ (GS.last (L := L2 w0 p (n + 2) d' q r' M) (GS.front (L := L2 w0 p (n + 2) d' q r' (M ++ [BP])) (GS.front (L := L2 w0 p (n + 2) d' q r' ((M ++ [BP]) ++ [P1])) G6.out))))) (fun hHeld => ?_)
    clear hK K hPrev
    try simp only [Act.put, pz]
    refine tkh 14 (v := ?_) rfl ?_ ?_; rotate_left
    · intro w hSw; (try dsimp only at hSw); go_simp <;> with_reducible rfl
    try simp only [Act.put, pz]
    refine tkh 15 (v := ?_) rfl ?_ ?_; rotate_left
    · intro w hSw; (try dsimp only at hSw); go_simp <;> with_reducible rfl
    try simp only [Act.put, pz]
    refine wpAnyH_done (by kernel_rfl) ?_ _
    have HF : Hid (WrQ w0 p q n M (.returned (.bool true)) w6) := Lib.hid ⟨rfl, _, d', r', HAL.out, (GS.front (L := L2 w0 p (n + 2) d' q r' M) (GS.front (L := L2 w0 p (n + 2) d' q r' (M ++ [BP])) (GS.front (L := L2 w0 p (n + 2) d' q r' ((M ++ [BP]) ++ [P1])) G6.out)))⟩
    clear hHeld
    go_wp2_with fail
    go_ret
    exact HF.out
set_option maxRecDepth 20000 in
set_option maxHeartbeats 4000000 in
theorem writes_crash {w0 W : World} {C : Nat → Nat} {p q n : Nat} {d : Dk} {r : Rd} {M : List PartT} (hG : GS w0 W C (L2 w0 p n d q r M)) (al : Alike d r n) (hn : n + 2 < 1000000) (nm ot dat : List UInt8) (A : Option Addr) (m cp : Nat) (nn e0 e1 e2 e3 e4 e5 e6 e7 e8 : Int) {ks : List Int} (hr : RI w0 A m ks) (hm : m * 8 ≤ 140737488355328) : Calls Tryz.prog 38 #[.pointer (some ⟨p, 0, none⟩), .pointer (some ⟨q, 0, none⟩), .agg #[.int .i64 6, .string (strB nm), .string (strB ot), .string (strB dat), .slice A m cp, .int .i64 nn, .int .i64 e0, .int .i64 e1, .int .i64 e2, .int .i64 e3, .int .i64 e4, .int .i64 e5, .int .i64 e6, .int .i64 e7, .int .i64 e8]] W (WrQ w0 p q n M) := by
  obtain ⟨w1, hw1⟩ : ∃ w1, w1 = W.alloc (.cells #[.int .i64 6, .string (strB nm), .string (strB ot), .string (strB dat), .slice A m cp, .int .i64 nn, .int .i64 e0, .int .i64 e1, .int .i64 e2, .int .i64 e3, .int .i64 e4, .int .i64 e5, .int .i64 e6, .int .i64 e7, .int .i64 e8] 111) := ⟨_, rfl⟩
  obtain ⟨g, hg⟩ : ∃ g, g = W.heap.size := ⟨_, rfl⟩
  have hb : Below W.heap.size W w1 := by rw [hw1]; exact (Below.refl _ _).alloc (Nat.le_refl _) _
  have K1 : Hid (Blk w1 g 111 #[.int .i64 6, .string (strB nm), .string (strB ot), .string (strB dat), .slice A m cp, .int .i64 nn, .int .i64 e0, .int .i64 e1, .int .i64 e2, .int .i64 e3, .int .i64 e4, .int .i64 e5, .int .i64 e6, .int .i64 e7, .int .i64 e8]) := Lib.hid (by rw [hw1, hg]; exact Blk.new W _ _ rfl)
  obtain ⟨cB, hcB⟩ : ∃ cB, cB = (L2 w0 p n d q r M).length + 1 := ⟨_, rfl⟩
  obtain ⟨C1, hC1⟩ : ∃ C1, C1 = paint C W.heap.size cB := ⟨_, rfl⟩
  obtain ⟨BP, hBP⟩ : ∃ BP : PartT, BP = (fun W C => FrC W C cB (fun w => Blk w g 111 #[.int .i64 6, .string (strB nm), .string (strB ot), .string (strB dat), .slice A m cp, .int .i64 nn, .int .i64 e0, .int .i64 e1, .int .i64 e2, .int .i64 e3, .int .i64 e4, .int .i64 e5, .int .i64 e6, .int .i64 e7, .int .i64 e8])) := ⟨_, rfl⟩
  have G1 : Hid (GS w0 w1 C1 (L2 w0 p n d q r (M ++ [BP]))) := Lib.hid (by
    have h1 := hG.holdBlk hb K1.out (by omega)
    rw [← hcB] at h1
    rw [hBP, hC1]; exact h1)
  have HDK : Hid (d.Ok n) := Lib.hid (DC.ok (hG.at_ (k := 0) rfl : DCp w0 1 p n d W C))
  have HBP : Hid (∀ w C, BP w C → Blk w g 111 #[.int .i64 6, .string (strB nm), .string (strB ot), .string (strB dat), .slice A m cp, .int .i64 nn, .int .i64 e0, .int .i64 e1, .int .i64 e2, .int .i64 e3, .int .i64 e4, .int .i64 e5, .int .i64 e6, .int .i64 e7, .int .i64 e8]) := Lib.hid (fun w C h => by rw [hBP] at h; exact h.now)
  have HS : Hid (∀ w', Blk w' g 111 #[.int .i64 6, .string (strB nm), .string (strB ot), .string (strB dat), .slice A m cp, .int .i64 nn, .int .i64 e0, .int .i64 e1, .int .i64 e2, .int .i64 e3, .int .i64 e4, .int .i64 e5, .int .i64 e6, .int .i64 e7, .int .i64 e8] → (wT g 6 nm ot dat A m cp nn e0 e1 e2 e3 e4 e5 e6 e7 e8) w') := Lib.hid (fun w' hb => ⟨(hb.cell 0).trans rfl, (hb.cell 1).trans rfl, (hb.cell 2).trans rfl, (hb.cell 3).trans rfl, (hb.cell 4).trans rfl, (hb.cell 5).trans rfl, (hb.cell 6).trans rfl, (hb.cell 7).trans rfl, (hb.cell 8).trans rfl, (hb.cell 9).trans rfl, (hb.cell 10).trans rfl, (hb.cell 11).trans rfl, (hb.cell 12).trans rfl, (hb.cell 13).trans rfl, (hb.cell 14).trans rfl⟩)
  have HN := Lib.hid hn
  have HCA := Lib.hid (fun (w : World) (C3 : Nat → Nat) (A5 : Option Addr) (cp5 : Nat) (h : GS w0 w C3 (L2 w0 p n d q r (M ++ [BP]))) (hr5 : RI w A5 m ks) (hc5 : 0 < m → ∀ ad, A5 = some ad → C3 ad.block ≠ 1) => pair_crash (k := 0) (cp := cp5) al (by omega : n + 1 < 1000000) ks h rfl hr5 (by unfold maxLen; omega) hc5)
  have HCB := Lib.hid (fun (w : World) (C3 : Nat → Nat) (d' : Dk) (h : GS w0 w C3 (L2 w0 p (n + 1) d' q r (M ++ [BP]))) => rcrash_g (k := 1) (q := q) (cp := cp) al.rok ks h rfl (h.came hr).1 (by unfold maxLen; omega) (fun h0 ad e e2 => by rw [(h.came hr).2 h0 ad e] at e2; cases e2))
  have HM : Hid (∀ (w : World) (C3 : Nat → Nat) (d' : Dk), Alike d' (r.crash ks) (n + 1) → GS w0 w C3 (L2 w0 p (n + 1) d' q (r.crash ks) (M ++ [BP])) → WrQ w0 p q n M (.returned (.bool true)) w) := Lib.hid (fun w C3 d' ha h => ⟨rfl, C3, d', _, ha.more (by omega) (by omega), by
    have h1 : GS w0 w C3 (L2 w0 p (n + 1) d' q (r.crash ks) M) := GS.front (L := L2 w0 p (n + 1) d' q (r.crash ks) M) h
    exact h1.as (k := 0) rfl (T' := DCp w0 1 p (n + 2) d') ((h1.at_ (k := 0) rfl : DCp w0 1 p (n + 1) d' w C3).more (by omega) HN.out) (Stb.dcp _ _ _ _ _) rfl⟩)
  have HR := Lib.hid (G1.out.came hr).1
  have HMB := Lib.hid hm
  clear hb hG al hn hBP hC1 hcB hr hm
  go_enter Tryz.func38, Tryz.ntmps38
  go_upto_region 15 with fail
  rw [← hw1, ← hg]
  clear hw1 hg
  obtain ⟨z0, z1, z2, z3, z4, z5, z6, z7, z8, z9, z10, z11, z12, z13, z14⟩ := HS.out _ K1.out
  have z4' : (w1.alloc (.cells #[] 3)).cell? ⟨g, 4, none⟩ = some (.slice A m cp) := cell_later ((Below.refl _ w1).alloc (Nat.le_refl _) _) z4
  have O2 : Hid ((w1.alloc (.cells #[] 3)).ownsRow w1.heap.size 3 1 (.slice (some ⟨w1.heap.size, 0, none⟩) 0 0) 0 []) := Lib.hid (World.ownsRow_made w1 #[] 0 (Nat.le_refl _) (Nat.zero_le _) rfl)
  have B2 : Hid (Below w1.heap.size w1 (w1.alloc (.cells #[] 3))) := Lib.hid ((Below.refl _ _).alloc (Nat.le_refl _) _)
  have R2 := Lib.hid (HR.out.keep B2.out)
  have HNX : Hid ((ks.map iV').length = m * 1 ∧ (A = none → m = 0) ∧ ∀ ad, A = some ad → ∀ (j : Nat) (u : Value), (ks.map iV')[j]? = some u → (w1.alloc (.cells #[] 3)).cell? (ad.add j) = some u) := Lib.hid ⟨by rw [List.length_map, R2.out.1, Nat.mul_one], fun e => (by
    rcases Nat.eq_zero_or_pos m with h | h
    · exact h
    · obtain ⟨b, off, e', _⟩ := R2.out.2 h
      rw [e] at e'
      cases e'), fun ad e j u hj => by
    rw [List.getElem?_map] at hj
    obtain ⟨k, hk, rfl⟩ := Option.map_eq_some_iff.1 hj
    have hjl := (List.getElem?_eq_some_iff.1 hk).1
    obtain ⟨b, off, e', _, hc⟩ := R2.out.2 (by rw [R2.out.1] at hjl; omega)
    rw [e] at e'
    obtain rfl := Option.some.inj e'
    have : (⟨b, off, none⟩ : Addr).add j = ⟨b, off + j, none⟩ := by
      unfold Addr.add
      by_cases h : j = 0
      · subst h; simp
      · simp [h]
    rw [this]
    exact hc j k hk⟩
  have hmb := HMB.out
  go_wp2_with ((at_builtin; go_must (refine append_row rfl (.tmp 88) (.tmp 90) 39 3 rfl Tryz.underlying39 infoI rfl (by decide) w1.heap.size (.slice (some ⟨w1.heap.size, 0, none⟩) 0 0) 0 [] rfl O2.out A m cp (ks.map iV') rfl HNX.out.1 HNX.out.2.1 HNX.out.2.2 (fun u hu => by obtain ⟨k, _, rfl⟩ := List.mem_map.1 hu; rfl) (by omega) (by unfold maxLen; omega) B2.out.size ?_); intro v5 w5 ho5 hg5 ha5; refine halt ?_))
  refine unhalt ?_
  have O5 : Hid (w5.ownsRow w1.heap.size 3 1 v5 m (ks.map iV')) := Lib.hid (by simpa using ho5)
  have B5 := Lib.hid (B2.out.grown hg5 B2.out.size (fun j hj => (World.ownsRow.lt O2.out j hj).1))
  obtain ⟨A5, cp5, hv5, _⟩ := own_form O5.out
  subst hv5
  have R5 := Lib.hid (ri_of_row R2.out.1 O5.out)
  have G5 : Hid (GS w0 w5 (paint C1 w1.heap.size 99) (L2 w0 p n d q r (M ++ [BP]))) := Lib.hid (G1.out.keep2 B5.out (sam_paint _ _ _))
  have CX := Lib.hid (HCA.out w5 _ A5 cp5 G5.out R5.out (fun h0 ad e => by
    have h1 := (World.ownsRow.lt O5.out ad.block (by rw [e]; rfl)).1
    rw [paint_new _ _ h1]; decide))
  clear ho5 hg5 ha5 HNX R2 O2 B2 z4' z0 z1 z2 z3 z4 z5 z6 z7 z8 z9 z10 z11 z12 z13 z14 K1 HR G1 HCA hmb
  go_wp2_with fail
  refine CX.out.mono ?_
  rintro e w3 ⟨d', hal, rfl, hg3⟩
  have G3 := Lib.hid (show GS w0 w3 _ (L2 w0 p (n + 1) d' q r (M ++ [BP])) from hg3)
  have HAL := Lib.hid hal
  clear hg3 hal CX G5
  obtain ⟨z0, z1, z2, z3, z4, z5, z6, z7, z8, z9, z10, z11, z12, z13, z14⟩ := HS.out _ (HBP.out _ _ (GS.last (L := L2 w0 p (n + 1) d' q r M) G3.out))
  go_wp2_with fail
  refine (HCB.out _ _ _ G3.out).mono ?_
  rintro e w4 ⟨rfl, hg4⟩
  have HF := Lib.hid (HM.out _ _ d' HAL.out (show GS w0 w4 _ (L2 w0 p (n + 1) d' q (r.crash ks) (M ++ [BP])) from hg4))
  clear hg4 HM z0 z1 z2 z3 z4 z5 z6 z7 z8 z9 z10 z11 z12 z13 z14
  go_wp2_with fail
  go_ret
  exact HF.out
set_option maxRecDepth 20000 in
set_option maxHeartbeats 4000000 in
theorem writes_else {w0 W : World} {C : Nat → Nat} {p q n : Nat} {d : Dk} {r : Rd} {M : List PartT} (hG : GS w0 W C (L2 w0 p n d q r M)) (al : Alike d r n) (hn : n + 2 < 1000000) (k : Int) (nm ot dat : List UInt8) (A : Option Addr) (m cp : Nat) (nn e0 e1 e2 e3 e4 e5 e6 e7 e8 : Int) (h0 : (k == 0) = false) (h1 : (k == 1) = false) (h2 : (k == 2) = false) (h3 : (k == 3) = false) (h4 : (k == 4) = false) (h5 : (k == 5) = false) (h6 : (k == 6) = false) : Calls Tryz.prog 38 #[.pointer (some ⟨p, 0, none⟩), .pointer (some ⟨q, 0, none⟩), .agg #[.int .i64 k, .string (strB nm), .string (strB ot), .string (strB dat), .slice A m cp, .int .i64 nn, .int .i64 e0, .int .i64 e1, .int .i64 e2, .int .i64 e3, .int .i64 e4, .int .i64 e5, .int .i64 e6, .int .i64 e7, .int .i64 e8]] W (WrQ w0 p q n M) := by
  obtain ⟨w1, hw1⟩ : ∃ w1, w1 = W.alloc (.cells #[.int .i64 k, .string (strB nm), .string (strB ot), .string (strB dat), .slice A m cp, .int .i64 nn, .int .i64 e0, .int .i64 e1, .int .i64 e2, .int .i64 e3, .int .i64 e4, .int .i64 e5, .int .i64 e6, .int .i64 e7, .int .i64 e8] 111) := ⟨_, rfl⟩
  obtain ⟨g, hg⟩ : ∃ g, g = W.heap.size := ⟨_, rfl⟩
  have hb : Below W.heap.size W w1 := by rw [hw1]; exact (Below.refl _ _).alloc (Nat.le_refl _) _
  have K1 : Hid (Blk w1 g 111 #[.int .i64 k, .string (strB nm), .string (strB ot), .string (strB dat), .slice A m cp, .int .i64 nn, .int .i64 e0, .int .i64 e1, .int .i64 e2, .int .i64 e3, .int .i64 e4, .int .i64 e5, .int .i64 e6, .int .i64 e7, .int .i64 e8]) := Lib.hid (by rw [hw1, hg]; exact Blk.new W _ _ rfl)
  obtain ⟨cB, hcB⟩ : ∃ cB, cB = (L2 w0 p n d q r M).length + 1 := ⟨_, rfl⟩
  obtain ⟨C1, hC1⟩ : ∃ C1, C1 = paint C W.heap.size cB := ⟨_, rfl⟩
  obtain ⟨BP, hBP⟩ : ∃ BP : PartT, BP = (fun W C => FrC W C cB (fun w => Blk w g 111 #[.int .i64 k, .string (strB nm), .string (strB ot), .string (strB dat), .slice A m cp, .int .i64 nn, .int .i64 e0, .int .i64 e1, .int .i64 e2, .int .i64 e3, .int .i64 e4, .int .i64 e5, .int .i64 e6, .int .i64 e7, .int .i64 e8])) := ⟨_, rfl⟩
  have G1 : Hid (GS w0 w1 C1 (L2 w0 p n d q r (M ++ [BP]))) := Lib.hid (by
    have h1 := hG.holdBlk hb K1.out (by omega)
    rw [← hcB] at h1
    rw [hBP, hC1]; exact h1)
  have HDK : Hid (d.Ok n) := Lib.hid (DC.ok (hG.at_ (k := 0) rfl : DCp w0 1 p n d W C))
  have HBP : Hid (∀ w C, BP w C → Blk w g 111 #[.int .i64 k, .string (strB nm), .string (strB ot), .string (strB dat), .slice A m cp, .int .i64 nn, .int .i64 e0, .int .i64 e1, .int .i64 e2, .int .i64 e3, .int .i64 e4, .int .i64 e5, .int .i64 e6, .int .i64 e7, .int .i64 e8]) := Lib.hid (fun w C h => by rw [hBP] at h; exact h.now)
  have HS : Hid (∀ w', Blk w' g 111 #[.int .i64 k, .string (strB nm), .string (strB ot), .string (strB dat), .slice A m cp, .int .i64 nn, .int .i64 e0, .int .i64 e1, .int .i64 e2, .int .i64 e3, .int .i64 e4, .int .i64 e5, .int .i64 e6, .int .i64 e7, .int .i64 e8] → (wT g k nm ot dat A m cp nn e0 e1 e2 e3 e4 e5 e6 e7 e8) w') := Lib.hid (fun w' hb => ⟨(hb.cell 0).trans rfl, (hb.cell 1).trans rfl, (hb.cell 2).trans rfl, (hb.cell 3).trans rfl, (hb.cell 4).trans rfl, (hb.cell 5).trans rfl, (hb.cell 6).trans rfl, (hb.cell 7).trans rfl, (hb.cell 8).trans rfl, (hb.cell 9).trans rfl, (hb.cell 10).trans rfl, (hb.cell 11).trans rfl, (hb.cell 12).trans rfl, (hb.cell 13).trans rfl, (hb.cell 14).trans rfl⟩)
  have HN := Lib.hid hn
  have HF : Hid (WrQ w0 p q n M (.returned (.bool true)) w1) := Lib.hid ⟨rfl, C1, d, r, al.more (by omega) (by omega), by
    have h1 : GS w0 w1 C1 (L2 w0 p n d q r M) := GS.front (L := L2 w0 p n d q r M) G1.out
    exact h1.as (k := 0) rfl (T' := DCp w0 1 p (n + 2) d) ((h1.at_ (k := 0) rfl : DCp w0 1 p n d w1 C1).more (by omega) HN.out) (Stb.dcp _ _ _ _ _) rfl⟩
  clear hb hG al hn hBP hC1 hcB
  go_enter Tryz.func38, Tryz.ntmps38
  go_upto_region 17 with fail
  rw [← hw1, ← hg]
  clear hw1 hg
  go_wp2_with fail
  go_ret
  exact HF.out
theorem writes_any {w0 W : World} {C : Nat → Nat} {p q n : Nat} {d : Dk} {r : Rd} {M : List PartT} (hG : GS w0 W C (L2 w0 p n d q r M)) (al : Alike d r n) (hn : n + 2 < 1000000) (o : O17) (ho : o.In w0) : Calls Tryz.prog 38 #[.pointer (some ⟨p, 0, none⟩), .pointer (some ⟨q, 0, none⟩), .agg (oC17 o)] W (WrQ w0 p q n M) := by
  obtain ⟨k, nm, ot, dat, A, m, cp, ks, nn, mr⟩ := o
  obtain ⟨e0, e1, e2, e3, e4, e5, e6, e7, e8, _, _⟩ := mr
  have hs := ho.s
  have hr := ho.r
  have hm := ho.m
  unfold oC17
  simp only at hs hr hm ⊢
  by_cases h0 : k = 0
  · subst h0; exact writes_create hG al hn nm ot dat A m cp nn e0 e1 e2 e3 e4 e5 e6 e7 e8
  by_cases h1 : k = 1
  · subst h1; exact writes_append hG al hn nm ot dat A m cp nn e0 e1 e2 e3 e4 e5 e6 e7 e8 hs
  by_cases h2 : k = 2
  · subst h2; exact writes_cut hG al hn nm ot dat A m cp nn e0 e1 e2 e3 e4 e5 e6 e7 e8
  by_cases h3 : k = 3
  · subst h3; exact writes_rename hG al hn nm ot dat A m cp nn e0 e1 e2 e3 e4 e5 e6 e7 e8
  by_cases h4 : k = 4
  · subst h4; exact writes_remove hG al hn nm ot dat A m cp nn e0 e1 e2 e3 e4 e5 e6 e7 e8
  by_cases h5 : k = 5
  · subst h5; exact writes_sync hG al hn nm ot dat A m cp nn e0 e1 e2 e3 e4 e5 e6 e7 e8
  by_cases h6 : k = 6
  · subst h6; exact writes_crash hG al hn nm ot dat A m cp nn e0 e1 e2 e3 e4 e5 e6 e7 e8 hr hm
  exact writes_else hG al hn k nm ot dat A m cp nn e0 e1 e2 e3 e4 e5 e6 e7 e8 (by simpa using h0) (by simpa using h1) (by simpa using h2) (by simpa using h3) (by simpa using h4) (by simpa using h5) (by simpa using h6)
end Go.Proofs.YtlojmmcagglpoaaGreat
