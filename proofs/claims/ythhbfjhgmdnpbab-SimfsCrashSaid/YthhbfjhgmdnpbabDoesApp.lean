/- THE WALK of does at an Append (package heronlaw14; printed by a program of ours). -/
import Derived.Test.YthhbfjhgmdnpbabDoes
import Derived.Deep.RegionHeld
import Derived.Deep.RegionHeld3
import Derived.Deep.DrawnRows
namespace Go.Proofs.Ythhbfjhgmdnpbab
open Go.RowKit Go.Maps
attribute [local go_sem ↓] Go.wp_at_zero Go.wp_at_succ
set_option maxRecDepth 20000 in
set_option maxHeartbeats 4000000 in
theorem does_append {W : World} {N : Nat} {C : Nat → Nat} {c p n : Nat} {d : Dk} (h : DC W N C c p n d) (hn : n + 2 < 1000000) (o : O14) (hk : o.k = 1) (hs : o.s.size ≤ 140737488355328) : Calls Try.prog 6 #[.pointer (some ⟨p, 0, none⟩), .agg (oC o)] W (DoesQ W N C c p n d o) := by
  obtain ⟨w1, hw1⟩ : ∃ w1, w1 = W.alloc (.cells (oC o) 31) := ⟨_, rfl⟩
  obtain ⟨g, hg⟩ : ∃ g, g = W.heap.size := ⟨_, rfl⟩
  have hb : Below W.heap.size W w1 := by rw [hw1]; exact (Below.refl _ _).alloc (Nat.le_refl _) _
  obtain ⟨lt, hlt⟩ : ∃ lt, lt = repL o.s.data.toList (textK o.s.size o.times 70000) := ⟨_, rfl⟩
  have HLT : Hid (lt = repL o.s.data.toList (textK o.s.size o.times 70000)) := Lib.hid hlt
  have HT : Hid (∀ w', Calls Try.prog 22 #[.agg #[.int .i64 1, o.c1, .string (strB o.a), .string (strB o.b), .string o.s, .int .i64 o.times, o.c6, o.c7, o.c8, o.c9, .slice o.A o.m o.cp], .int .i64 70000] w' (TextQ w' lt)) := Lib.hid (fun w' => by rw [hlt]; exact text_any _ _ _ _ _ _ _ _ _ o.s o.times 70000 (by decide) hs w')
  have HLL : Hid (lt.length ≤ 1000000000) := Lib.hid (by
    rw [hlt, repL_len]
    have e1 : o.s.data.toList.length = o.s.size := rfl
    rw [e1]
    unfold textK
    split
    · simp
    · have h1 : min o.times.toNat (70000 / o.s.size) * o.s.size ≤ 70000 := Nat.le_trans (Nat.mul_le_mul_right _ (Nat.min_le_right _ _)) (Nat.div_mul_le_self _ _)
      omega)
  have H := Lib.hid h
  have HB := Lib.hid hb
  have HK := Lib.hid hk
  have HG := Lib.hid hg
  have K1 : Hid (Blk w1 g 31 (oC o)) := Lib.hid (by rw [hw1, hg]; exact Blk.new W _ _ rfl)
  have HS : Hid (∀ w', Blk w' g 31 (oC o) → (fun w' => w'.cell? ⟨g, 0, none⟩ = some (.int .i64 1) ∧ w'.cell? ⟨g, 1, none⟩ = some (o.c1) ∧ w'.cell? ⟨g, 2, none⟩ = some (.string (strB o.a)) ∧ w'.cell? ⟨g, 3, none⟩ = some (.string (strB o.b)) ∧ w'.cell? ⟨g, 4, none⟩ = some (.string o.s) ∧ w'.cell? ⟨g, 5, none⟩ = some (.int .i64 o.times) ∧ w'.cell? ⟨g, 6, none⟩ = some (o.c6) ∧ w'.cell? ⟨g, 7, none⟩ = some (o.c7) ∧ w'.cell? ⟨g, 8, none⟩ = some (o.c8) ∧ w'.cell? ⟨g, 9, none⟩ = some (o.c9) ∧ w'.cell? ⟨g, 10, none⟩ = some (.slice o.A o.m o.cp)) w') := Lib.hid (fun w' hb => ⟨(hb.cell 0).trans (by unfold oC; rw [hk]; rfl), (hb.cell 1).trans rfl, (hb.cell 2).trans rfl, (hb.cell 3).trans rfl, (hb.cell 4).trans rfl, (hb.cell 5).trans rfl, (hb.cell 6).trans rfl, (hb.cell 7).trans rfl, (hb.cell 8).trans rfl, (hb.cell 9).trans rfl, (hb.cell 10).trans rfl⟩)
  have HAP : Hid (∀ w3 A cp, Below W.heap.size W w3 → RB w3 A lt.length lt → Calls Try.prog 14 #[.pointer (some ⟨p, 0, none⟩), .string (strB o.a), .slice A lt.length cp] w3 (StepQ w3 N (paint C W.heap.size (c + 1)) c p (n + 2) (d.append o.a lt))) := Lib.hid (fun w3 A cp hb hr => append_g (h.keep hb (sam_paint C W.heap.size (c + 1))) hn o.a A lt.length cp lt hr HLL.out)
  unfold oC at hw1 ⊢
  rw [hk] at hw1 ⊢
  clear hb h hk hlt
  go_enter Try.func6, Try.ntmps6
  go_upto_region 6 with fail
  rw [← hw1, ← hg]
  clear hw1 hg
  refine wp_region_any (by kernel_rfl) ?_
  change wpAny _ _ _ _ _ _ _ (World.drew _)
  refine wpAny_of_held (S := fun w' => w'.cell? ⟨g, 0, none⟩ = some (.int .i64 1) ∧ w'.cell? ⟨g, 1, none⟩ = some (o.c1) ∧ w'.cell? ⟨g, 2, none⟩ = some (.string (strB o.a)) ∧ w'.cell? ⟨g, 3, none⟩ = some (.string (strB o.b)) ∧ w'.cell? ⟨g, 4, none⟩ = some (.string o.s) ∧ w'.cell? ⟨g, 5, none⟩ = some (.int .i64 o.times) ∧ w'.cell? ⟨g, 6, none⟩ = some (o.c6) ∧ w'.cell? ⟨g, 7, none⟩ = some (o.c7) ∧ w'.cell? ⟨g, 8, none⟩ = some (o.c8) ∧ w'.cell? ⟨g, 9, none⟩ = some (o.c9) ∧ w'.cell? ⟨g, 10, none⟩ = some (.slice o.A o.m o.cp)) _ _ _ _ ?_
  obtain ⟨w0, hw0⟩ : ∃ w0, w0 = w1.drew := ⟨_, rfl⟩
  have B0 : Hid (Below W.heap.size W w0) := Lib.hid (by rw [hw0]; exact HB.out.drew)
  have K0 : Hid (Blk w0 g 31 (oC o)) := Lib.hid (by rw [hw0]; exact K1.out)
  rw [← hw0]
  clear hw0 K1
  have hHeld : (fun w' => w'.cell? ⟨g, 0, none⟩ = some (.int .i64 1) ∧ w'.cell? ⟨g, 1, none⟩ = some (o.c1) ∧ w'.cell? ⟨g, 2, none⟩ = some (.string (strB o.a)) ∧ w'.cell? ⟨g, 3, none⟩ = some (.string (strB o.b)) ∧ w'.cell? ⟨g, 4, none⟩ = some (.string o.s) ∧ w'.cell? ⟨g, 5, none⟩ = some (.int .i64 o.times) ∧ w'.cell? ⟨g, 6, none⟩ = some (o.c6) ∧ w'.cell? ⟨g, 7, none⟩ = some (o.c7) ∧ w'.cell? ⟨g, 8, none⟩ = some (o.c8) ∧ w'.cell? ⟨g, 9, none⟩ = some (o.c9) ∧ w'.cell? ⟨g, 10, none⟩ = some (.slice o.A o.m o.cp)) w0 := HS.out _ K0.out
  refine wpAnyH_take (i := 0) (v := ?_) rfl (by kernel_rfl) (by kernel_rfl) (by kernel_rfl) (fun _ _ _ h => h) (Or.inl ⟨by rfl, ?_⟩) (by assumption) ?_
  rotate_left 1
  · intro w hSw; (try dsimp only at hSw); go_simp <;> with_reducible rfl
  try simp only [Act.put, List.setIfInBounds_toArray, List.set_cons_zero, List.set_cons_succ, List.getElem_toArray, List.getElem_cons_zero]
  refine wpAnyH_take (i := 1) (v := ?_) rfl (by kernel_rfl) (by kernel_rfl) (by kernel_rfl) (fun _ _ _ h => h) (Or.inl ⟨by rfl, ?_⟩) (by assumption) ?_
  rotate_left 1
  · intro w hSw; (try dsimp only at hSw); go_simp <;> with_reducible rfl
  try simp only [Act.put, List.setIfInBounds_toArray, List.set_cons_zero, List.set_cons_succ, List.getElem_toArray, List.getElem_cons_zero, List.getElem_cons_succ]
  refine wpAnyH_take (i := 2) (v := ?_) rfl (by kernel_rfl) (by kernel_rfl) (by kernel_rfl) (fun _ _ _ h => h) (Or.inl ⟨by rfl, ?_⟩) (by assumption) ?_
  rotate_left 1
  · intro w hSw; obtain ⟨z0, z1, z2, z3, z4, z5, z6, z7, z8, z9, z10⟩ := hSw; (try dsimp only at hSw); go_simp <;> with_reducible rfl
  try simp only [Act.put, List.setIfInBounds_toArray, List.set_cons_zero, List.set_cons_succ, List.getElem_toArray, List.getElem_cons_zero, List.getElem_cons_succ]
  refine wpAnyH_take (i := 3) (v := ?_) rfl (by kernel_rfl) (by kernel_rfl) (by kernel_rfl) (fun _ _ _ h => h) (Or.inl ⟨by rfl, ?_⟩) (by assumption) ?_
  rotate_left 1
  · intro w hSw; obtain ⟨z0, z1, z2, z3, z4, z5, z6, z7, z8, z9, z10⟩ := hSw; (try dsimp only at hSw); go_simp <;> with_reducible rfl
  try simp only [Act.put, List.setIfInBounds_toArray, List.set_cons_zero, List.set_cons_succ, List.getElem_toArray, List.getElem_cons_zero, List.getElem_cons_succ]
  refine wpAnyH_ready (rs := [4]) (by kernel_rfl) (by simp) (AllReadyH.cons rfl (fun K hK => ?_) AllReadyH.nil)
  have hPrev := hHeld
  clear hHeld
  go_simp
  refine (HT.out w0).mono ?_
  rintro e w3 ⟨v3, rfl, ho, hb3⟩
  obtain ⟨A3, cp3, rfl, _, _, hr3⟩ := ho.form
  have B3 := Lib.hid (B0.out.trans (hb3.mono B0.out.size))
  have K3 := Lib.hid (K0.out.keep hb3)
  have CA := Lib.hid (HAP.out w3 A3 cp3 B3.out hr3)
  clear ho hb3 hr3 HAP HT
  refine hK.out _ _ (HS.out _ K3.out) (fun hHeld => ?_)
  clear hK K hPrev
  try simp only [Act.put, List.setIfInBounds_toArray, List.set_cons_zero, List.set_cons_succ, List.getElem_toArray, List.getElem_cons_zero, List.getElem_cons_succ]
  refine wpAnyH_ready (rs := [5]) (by kernel_rfl) (by simp) (AllReadyH.cons rfl (fun K hK => ?_) AllReadyH.nil)
  have hPrev := hHeld
  clear hHeld
  go_simp
  refine CA.out.mono ?_
  intro e w4 hq
  have he := hq.1
  have K4 := Lib.hid (K3.out.chg hq.2.2 (fun e => by rw [HG.out, paint_new C (c + 1) (Nat.le_refl _)] at e; omega))
  have HF : Hid (DoesQ W N C c p n d o (.returned (.tuple #[.int .i64 (d.append o.a lt).1, .bool false])) w4) := Lib.hid ⟨_, false, _, rfl, .inr (.inl ⟨HK.out, by rw [← HLT.out], rfl⟩), hq.2.1.repaint (C := C) (h0 := W.heap.size) (fun b hb => by rw [paint_old _ _ (Nat.lt_of_lt_of_le hb B3.out.size), paint_old _ _ hb]), (Chg.of_below B3.out _).trans hq.2.2 (fun b hb e => by rw [paint_old C (c + 1) hb] at e; exact e)⟩
  subst he
  clear hq CA
  refine hK.out _ _ (HS.out _ K4.out) (fun hHeld => ?_)
  clear hK K hPrev
  try simp only [Act.put, List.setIfInBounds_toArray, List.set_cons_zero, List.set_cons_succ, List.getElem_toArray, List.getElem_cons_zero, List.getElem_cons_succ]
  refine wpAnyH_take (i := 6) (v := ?_) rfl (by kernel_rfl) (by kernel_rfl) (by kernel_rfl) (fun _ _ _ h => h) (Or.inl ⟨by rfl, ?_⟩) (by assumption) ?_
  rotate_left 1
  · intro w hSw; (try dsimp only at hSw); go_simp <;> with_reducible rfl
  try simp only [Act.put, List.setIfInBounds_toArray, List.set_cons_zero, List.set_cons_succ, List.getElem_toArray, List.getElem_cons_zero, List.getElem_cons_succ]
  refine wpAnyH_take (i := 7) (v := ?_) rfl (by kernel_rfl) (by kernel_rfl) (by kernel_rfl) (fun _ _ _ h => h) (Or.inl ⟨by rfl, ?_⟩) (by assumption) ?_
  rotate_left 1
  · intro w hSw; (try dsimp only at hSw); go_simp <;> with_reducible rfl
  try simp only [Act.put, List.setIfInBounds_toArray, List.set_cons_zero, List.set_cons_succ, List.getElem_toArray, List.getElem_cons_zero, List.getElem_cons_succ]
  refine wpAnyH_done (by kernel_rfl) ?_ _
  go_wp2_with fail
  go_ret2
  exact HF.out
end Go.Proofs.Ythhbfjhgmdnpbab
