/- THE WALK of kept (printed by a program of ours). -/
import Derived.Test.YtnglgppdkohhpaaDoorTbCopy
import Derived.Test.YtnglgppdkohhpaaDoorTbSame
namespace Go.Proofs.YtnglgppdkohhpaaDoor
open Go.RowKit
theorem front_facts {r c : Nat} (h : r + 1 ≤ c) (hr : r ≤ 1048576) : ∃ r1 : Nat, RowKit.wrap64 ((r : Int) + 1) = (r1 : Int) ∧ (r1 : Int) ≤ (c : Int) ∧ (0 : Int) ≤ (r1 : Int) ∧ (0 : Int) ≤ (r : Int) ∧ (r : Int) < (r1 : Int) ∧ r1 ≤ c ∧ r < r1 := by
  refine ⟨r + 1, by unfold RowKit.wrap64; omega, by omega, by omega, by omega, by omega, by omega, by omega⟩
set_option maxRecDepth 100000 in
set_option maxHeartbeats 8000000 in
theorem kept_any (cs : Array Value) (t : Tb) (w : World) (N0 : Nat) (vn vf ve : Value) (vs : List Value) (z : Value) (h : TB w cs t) (hc : CP w N0 vn vf ve t vs z) (hs : t.nx.length ≤ 1048576 ∧ t.fo.length ≤ 1048576 ∧ t.en.length ≤ 1048576 ∧ ∀ l ∈ t.nx, l.length ≤ 1048576) :
    Calls Tryd.prog 11 #[.agg (dcells t.cls vn vf ve), .agg cs] w (RightP true w) := by
  have TB0 := Lib.hid h; have HS := Lib.hid hs
  have htc := hc.tb h.hc h.hu (fun l hl => by have := hs.2.2.2 l hl; omega) ⟨by omega, by omega, by omega⟩
  obtain ⟨gn, kn, rfl, pn⟩ := hc.on.form
  obtain ⟨gf, kf, rfl, pf⟩ := hc.of_.form
  obtain ⟨ge, ke, rfl, pe⟩ := hc.oe.form
  obtain ⟨Az, kz, rfl, hkz⟩ := hc.hz
  obtain ⟨n, hn⟩ : ∃ n, n = t.nx.length := ⟨_, rfl⟩
  obtain ⟨f, hf⟩ : ∃ f, f = t.fo.length := ⟨_, rfl⟩
  obtain ⟨g, hg⟩ : ∃ g, g = t.en.length := ⟨_, rfl⟩
  have hvl : vs.length = n := by rw [hn]; exact hc.len
  rw [hvl] at pn hc htc ⊢
  rw [List.length_map, ← hf] at pf hc htc ⊢
  rw [List.length_map, ← hg] at pe hc htc ⊢
  have HCP := Lib.hid hc; have TC := Lib.hid htc
  obtain ⟨-, hkn, hkn2, -, hgn, qn, -⟩ := pn.cell
  obtain ⟨-, hkf, hkf2, -, hgf, qf, -⟩ := pf.cell
  obtain ⟨-, hke, hke2, -, hge, qe, -⟩ := pe.cell
  have xn := qn n (.slice Az 1 kz) (by rw [List.getElem?_append_right (by omega), hvl, Nat.sub_self]; rfl)
  have xf := qf f (.int .u32 77) (by rw [List.getElem?_append_right (by rw [List.length_map]; omega), List.length_map, hf, Nat.sub_self]; rfl)
  have xe := qe g (.int .u32 77) (by rw [List.getElem?_append_right (by rw [List.length_map]; omega), List.length_map, hg, Nat.sub_self]; rfl)
  have XN := Lib.hid xn; have XF := Lib.hid xf; have XE := Lib.hid xe
  have QN := Lib.hid qn
  have HN : Hid (n = t.nx.length ∧ f = t.fo.length ∧ g = t.en.length ∧ vs.length = n) := Lib.hid ⟨hn, hf, hg, hvl⟩
  have hnb : n ≤ 1048576 := by rw [hn]; exact hs.1
  have hfb : f ≤ 1048576 := by rw [hf]; exact hs.2.1
  have hgb : g ≤ 1048576 := by rw [hg]; exact hs.2.2.1
  have dco : Hid ((dcells t.cls (.slice (some ⟨gn, 0, none⟩) n kn) (.slice (some ⟨gf, 0, none⟩) f kf) (.slice (some ⟨ge, 0, none⟩) g ke))[256]? = some (.slice (some ⟨gn, 0, none⟩) n kn) ∧ (dcells t.cls (.slice (some ⟨gn, 0, none⟩) n kn) (.slice (some ⟨gf, 0, none⟩) f kf) (.slice (some ⟨ge, 0, none⟩) g ke))[257]? = some (.slice (some ⟨gf, 0, none⟩) f kf) ∧ (dcells t.cls (.slice (some ⟨gn, 0, none⟩) n kn) (.slice (some ⟨gf, 0, none⟩) f kf) (.slice (some ⟨ge, 0, none⟩) g ke))[258]? = some (.slice (some ⟨ge, 0, none⟩) g ke)) := Lib.hid ⟨dcells_nx TB0.out.hc, dcells_fo TB0.out.hc, dcells_en TB0.out.hc⟩
  obtain ⟨dc, hdc⟩ : ∃ dc, dc = dcells t.cls (.slice (some ⟨gn, 0, none⟩) n kn) (.slice (some ⟨gf, 0, none⟩) f kf) (.slice (some ⟨ge, 0, none⟩) g ke) := ⟨_, rfl⟩
  rw [← hdc] at dco TC ⊢
  clear h hs htc hc pn pf pe hn hf hg hvl qn qf qe hdc xn xf xe
  go_enter Tryd.func11, Tryd.ntmps11
  go_upto_region 1 with fail
  obtain ⟨w1, hw1⟩ : ∃ w1, w1 = (w.alloc (.cells dc 26)).alloc (.cells cs 26) := ⟨_, rfl⟩
  obtain ⟨b, hb⟩ : ∃ b, b = w.heap.size := ⟨_, rfl⟩
  obtain ⟨b2, hb2⟩ : ∃ b2, b2 = w.heap.size + 1 := ⟨_, rfl⟩
  have B1 : Hid (Below w.heap.size w w1) := Lib.hid (by rw [hw1]; exact (below_alloc _ _).trans ((below_alloc _ _).mono (by simp)))
  have D1 : Hid (DX w1 b dc t) := Lib.hid (by rw [hw1, hb]; exact (DX.new TC.out).keep (below_alloc _ _))
  have E1 : Hid (DX w1 b2 cs t) := Lib.hid (by rw [hw1, hb2]; exact ⟨Blk.new _ _ _ (by simp), (TB0.out.keep (below_alloc _ _)).keep (below_alloc _ _)⟩)
  rw [← hw1, ← hb2, ← hb]
  clear hw1 hb hb2
  obtain ⟨An, cn, Af, cf, Ae, ce, c1, c2, c3, _, _, _, _, _, _⟩ := E1.out.open_
  rw [← HN.out.1] at c1
  rw [← HN.out.2.1] at c2
  rw [← HN.out.2.2.1] at c3
  have LD : Hid (∀ w', Below w1.heap.size w1 w' → w'.rangeAt b 0 dc.toList ∧ w'.rangeAt b2 0 cs.toList ∧ w'.cell? ⟨b, 256, none⟩ = some (.slice (some ⟨gn, 0, none⟩) n kn) ∧ w'.cell? ⟨b, 257, none⟩ = some (.slice (some ⟨gf, 0, none⟩) f kf) ∧ w'.cell? ⟨b, 258, none⟩ = some (.slice (some ⟨ge, 0, none⟩) g ke) ∧ w'.cell? ⟨b2, 256, none⟩ = some (.slice An n cn) ∧ w'.cell? ⟨b2, 257, none⟩ = some (.slice Af f cf) ∧ w'.cell? ⟨b2, 258, none⟩ = some (.slice Ae g ce) ∧ w'.cell? ⟨gn, n, none⟩ = some (.slice Az 1 kz) ∧ w'.cell? ⟨gf, f, none⟩ = some (.int .u32 77) ∧ w'.cell? ⟨ge, g, none⟩ = some (.int .u32 77)) := Lib.hid (fun w' hb => by
    have hd := (D1.out.keep hb).blk
    refine ⟨rangeAt_blk hd, rangeAt_blk (E1.out.keep hb).blk, (hd.cell 256).trans dco.out.1, (hd.cell 257).trans dco.out.2.1, (hd.cell 258).trans dco.out.2.2, cell_later hb c1, cell_later hb c2, cell_later hb c3, cell_later hb (cell_later B1.out XN.out), cell_later hb (cell_later B1.out XF.out), cell_later hb (cell_later B1.out XE.out)⟩)
  have li : Hid ((Tryd.prog.info? 26).map (·.size) = some dc.toList.length) := Lib.hid (by rw [size259, Array.length_toList, TC.out.size])
  have li2 : Hid ((Tryd.prog.info? 26).map (·.size) = some cs.toList.length) := Lib.hid (by rw [size259, Array.length_toList, TB0.out.size])
  have e1 : IntKind.i64.wrap ((f : Int) + 1) = (f : Int) + 1 := IntWalk.i64_in _ (by omega)
  have e2 : IntKind.i64.wrap ((g : Int) + 1) = (g : Int) + 1 := IntWalk.i64_in _ (by omega)
  have e3 : IntKind.i64.wrap ((n : Int) + 1) = (n : Int) + 1 := IntWalk.i64_in _ (by omega)
  have i1 : (f : Int) + 1 ≤ (kf : Int) := by omega
  have i2 : (g : Int) + 1 ≤ (ke : Int) := by omega
  have i3 : (n : Int) + 1 ≤ (kn : Int) := by omega
  have j1 : (0 : Int) ≤ (f : Int) + 1 := by omega
  have j2 : (0 : Int) ≤ (g : Int) + 1 := by omega
  have j3 : (0 : Int) ≤ (n : Int) + 1 := by omega
  have k1 : (0 : Int) ≤ (f : Int) := by omega
  have k2 : (0 : Int) ≤ (g : Int) := by omega
  have k3 : (0 : Int) ≤ (n : Int) := by omega
  have l1 : (f : Int) < (f : Int) + 1 := by omega
  have l2 : (g : Int) < (g : Int) + 1 := by omega
  have l3 : (n : Int) < (n : Int) + 1 := by omega
  clear c1 c2 c3
  refine wp_region_any (by kernel_rfl) ?_
  change wpAny _ _ _ _ _ _ _ (World.drew _)
  refine wpAny_of_held (S := fun w' => Below w1.heap.size w1 w') _ _ _ _ ?_
  have hHeld : Below w1.heap.size w1 w1.drew := Below.drew (Below.refl _ _)
  refine wpAnyH_take (i := 0) (v := _) rfl (by kernel_rfl) (by kernel_rfl) (by kernel_rfl) (fun _ _ _ h => h) (yieldsIf_load_mid (by rfl) _ _ rfl _ _ rfl dc.toList _ (fun w hw => (LD.out w hw).1) Tryd.underlying26 rfl (li.out)) (by assumption) ?_
  try simp only [Act.put, List.setIfInBounds_toArray, List.set_cons_zero, List.set_cons_succ, List.getElem_toArray, List.getElem_cons_zero]
  refine wpAnyH_take (i := 1) (v := _) rfl (by kernel_rfl) (by kernel_rfl) (by kernel_rfl) (fun _ _ _ h => h) (yieldsIf_load_mid (by rfl) _ _ rfl _ _ rfl cs.toList _ (fun w hw => (LD.out w hw).2.1) Tryd.underlying26 rfl (li2.out)) (by assumption) ?_
  try simp only [Act.put, List.setIfInBounds_toArray, List.set_cons_zero, List.set_cons_succ, List.getElem_toArray, List.getElem_cons_zero, List.getElem_cons_succ]
  refine wpAnyH_ready (rs := [2]) (by kernel_rfl) (by simp) (AllReadyH.cons rfl (fun K hK => ?_) AllReadyH.nil)
  have hPrev := hHeld
  clear hHeld
  go_simp
  go_at_call 15
  have cq := rsame_any dc cs t t _ (D1.out.tb.keep hPrev) (E1.out.tb.keep hPrev)
  rw [sameB_true rfl] at cq
  refine cq.mono ?_
  rintro e w9 ⟨rfl, hb9⟩
  have hB9 : Below w1.heap.size w1 w9 := hPrev.trans (hb9.mono hPrev.size)
  clear hb9 cq
  go_wp2_with fail
  refine hK.out _ _ (hB9) (fun hHeld => ?_)
  clear hK K hPrev
  try simp only [Act.put, List.setIfInBounds_toArray, List.set_cons_zero, List.set_cons_succ, List.getElem_toArray, List.getElem_cons_zero, List.getElem_cons_succ]
  refine wpAnyH_take (i := 3) (v := ?_) rfl (by kernel_rfl) (by kernel_rfl) (by kernel_rfl) (fun _ _ _ h => h) (Or.inl ⟨by rfl, ?_⟩) (by assumption) ?_
  rotate_left 1
  · intro w hSw; (try dsimp only at hSw); go_simp <;> with_reducible rfl
  try simp only [Act.put, List.setIfInBounds_toArray, List.set_cons_zero, List.set_cons_succ, List.getElem_toArray, List.getElem_cons_zero, List.getElem_cons_succ]
  refine wpAnyH_take (i := 4) (v := ?_) rfl (by kernel_rfl) (by kernel_rfl) (by kernel_rfl) (fun _ _ _ h => h) (Or.inl ⟨by rfl, ?_⟩) (by assumption) ?_
  rotate_left 1
  · intro w hSw; (try dsimp only at hSw); go_simp <;> with_reducible rfl
  try simp only [Act.put, List.setIfInBounds_toArray, List.set_cons_zero, List.set_cons_succ, List.getElem_toArray, List.getElem_cons_zero, List.getElem_cons_succ]
  refine wpAnyH_take (i := 5) (v := ?_) rfl (by kernel_rfl) (by kernel_rfl) (by kernel_rfl) (fun _ _ _ h => h) (Or.inl ⟨by rfl, ?_⟩) (by assumption) ?_
  rotate_left 1
  · intro w hSw; (try dsimp only at hSw); go_simp <;> with_reducible rfl
  try simp only [Act.put, List.setIfInBounds_toArray, List.set_cons_zero, List.set_cons_succ, List.getElem_toArray, List.getElem_cons_zero, List.getElem_cons_succ]
  refine wpAnyH_take (i := 6) (v := ?_) rfl (by kernel_rfl) (by kernel_rfl) (by kernel_rfl) (fun _ _ _ h => h) (Or.inl ⟨by rfl, ?_⟩) (by assumption) ?_
  rotate_left 1
  · intro w hSw; have hS2 := (LD.out w hSw).2.2.2.1; (try dsimp only at hSw); go_simp <;> with_reducible rfl
  try simp only [Act.put, List.setIfInBounds_toArray, List.set_cons_zero, List.set_cons_succ, List.getElem_toArray, List.getElem_cons_zero, List.getElem_cons_succ]
  refine wpAnyH_take (i := 7) (v := ?_) rfl (by kernel_rfl) (by kernel_rfl) (by kernel_rfl) (fun _ _ _ h => h) (Or.inl ⟨by rfl, ?_⟩) (by assumption) ?_
  rotate_left 1
  · intro w hSw; (try dsimp only at hSw); go_simp <;> with_reducible rfl
  try simp only [Act.put, List.setIfInBounds_toArray, List.set_cons_zero, List.set_cons_succ, List.getElem_toArray, List.getElem_cons_zero, List.getElem_cons_succ]
  refine wpAnyH_take (i := 8) (v := ?_) rfl (by kernel_rfl) (by kernel_rfl) (by kernel_rfl) (fun _ _ _ h => h) (Or.inl ⟨by rfl, ?_⟩) (by assumption) ?_
  rotate_left 1
  · intro w hSw; have hS2 := (LD.out w hSw).2.2.2.2.2.2.1; (try dsimp only at hSw); go_simp <;> with_reducible rfl
  try simp only [Act.put, List.setIfInBounds_toArray, List.set_cons_zero, List.set_cons_succ, List.getElem_toArray, List.getElem_cons_zero, List.getElem_cons_succ]
  refine wpAnyH_take (i := 9) (v := ?_) rfl (by kernel_rfl) (by kernel_rfl) (by kernel_rfl) (fun _ _ _ h => h) (Or.inl ⟨by rfl, ?_⟩) (by assumption) ?_
  rotate_left 1
  · intro w hSw; (try dsimp only at hSw); go_simp <;> with_reducible rfl
  try simp only [Act.put, List.setIfInBounds_toArray, List.set_cons_zero, List.set_cons_succ, List.getElem_toArray, List.getElem_cons_zero, List.getElem_cons_succ]
  refine wpAnyH_take (i := 10) (v := ?_) rfl (by kernel_rfl) (by kernel_rfl) (by kernel_rfl) (fun _ _ _ h => h) (Or.inl ⟨by rfl, ?_⟩) (by assumption) ?_
  rotate_left 1
  · intro w hSw; (try dsimp only at hSw); go_simp <;> with_reducible rfl
  try simp only [Act.put, List.setIfInBounds_toArray, List.set_cons_zero, List.set_cons_succ, List.getElem_toArray, List.getElem_cons_zero, List.getElem_cons_succ]
  refine wpAnyH_take (i := 11) (v := ?_) rfl (by kernel_rfl) (by kernel_rfl) (by kernel_rfl) (fun _ _ _ h => h) (Or.inl ⟨by rfl, ?_⟩) (by assumption) ?_
  rotate_left 1
  · intro w hSw; (try dsimp only at hSw); go_simp <;> with_reducible rfl
  try simp only [Act.put, List.setIfInBounds_toArray, List.set_cons_zero, List.set_cons_succ, List.getElem_toArray, List.getElem_cons_zero, List.getElem_cons_succ]
  refine wpAnyH_take (i := 12) (v := ?_) rfl (by kernel_rfl) (by kernel_rfl) (by kernel_rfl) (fun _ _ _ h => h) (Or.inl ⟨by rfl, ?_⟩) (by assumption) ?_
  rotate_left 1
  · intro w hSw; (try dsimp only at hSw); go_simp <;> with_reducible rfl
  try simp only [Act.put, List.setIfInBounds_toArray, List.set_cons_zero, List.set_cons_succ, List.getElem_toArray, List.getElem_cons_zero, List.getElem_cons_succ]
  refine wpAnyH_take (i := 13) (v := ?_) rfl (by kernel_rfl) (by kernel_rfl) (by kernel_rfl) (fun _ _ _ h => h) (Or.inl ⟨by rfl, ?_⟩) (by assumption) ?_
  rotate_left 1
  · intro w hSw; have hS2 := (LD.out w hSw).2.2.2.2.2.2.1; (try dsimp only at hSw); go_simp <;> with_reducible rfl
  try simp only [Act.put, List.setIfInBounds_toArray, List.set_cons_zero, List.set_cons_succ, List.getElem_toArray, List.getElem_cons_zero, List.getElem_cons_succ]
  refine wpAnyH_take (i := 14) (v := ?_) rfl (by kernel_rfl) (by kernel_rfl) (by kernel_rfl) (fun _ _ _ h => h) (Or.inl ⟨by rfl, ?_⟩) (by assumption) ?_
  rotate_left 1
  · intro w hSw; (try dsimp only at hSw); go_simp <;> with_reducible rfl
  try simp only [Act.put, List.setIfInBounds_toArray, List.set_cons_zero, List.set_cons_succ, List.getElem_toArray, List.getElem_cons_zero, List.getElem_cons_succ]
  refine wpAnyH_take (i := 15) (v := ?_) rfl (by kernel_rfl) (by kernel_rfl) (by kernel_rfl) (fun _ _ _ h => h) (Or.inl ⟨by rfl, ?_⟩) (by assumption) ?_
  rotate_left 1
  · intro w hSw; (try dsimp only at hSw); go_simp <;> with_reducible rfl
  try simp only [Act.put, List.setIfInBounds_toArray, List.set_cons_zero, List.set_cons_succ, List.getElem_toArray, List.getElem_cons_zero, List.getElem_cons_succ]
  refine wpAnyH_take (i := 16) (v := ?_) rfl (by kernel_rfl) (by kernel_rfl) (by kernel_rfl) (fun _ _ _ h => h) (Or.inl ⟨by rfl, ?_⟩) (by assumption) ?_
  rotate_left 1
  · intro w hSw; have hS2 := (LD.out w hSw).2.2.2.2.2.2.2.2.2.1; (try dsimp only at hSw); go_simp <;> with_reducible rfl
  try simp only [Act.put, List.setIfInBounds_toArray, List.set_cons_zero, List.set_cons_succ, List.getElem_toArray, List.getElem_cons_zero, List.getElem_cons_succ]
  refine wpAnyH_take (i := 17) (v := ?_) rfl (by kernel_rfl) (by kernel_rfl) (by kernel_rfl) (fun _ _ _ h => h) (Or.inl ⟨by rfl, ?_⟩) (by assumption) ?_
  rotate_left 1
  · intro w hSw; (try dsimp only at hSw); go_simp <;> with_reducible rfl
  try simp only [Act.put, List.setIfInBounds_toArray, List.set_cons_zero, List.set_cons_succ, List.getElem_toArray, List.getElem_cons_zero, List.getElem_cons_succ]
  refine wpAnyH_take (i := 18) (v := ?_) rfl (by kernel_rfl) (by kernel_rfl) (by kernel_rfl) (fun _ _ _ h => h) (Or.inl ⟨by rfl, ?_⟩) (by assumption) ?_
  rotate_left 1
  · intro w hSw; (try dsimp only at hSw); go_simp <;> with_reducible rfl
  try simp only [Act.put, List.setIfInBounds_toArray, List.set_cons_zero, List.set_cons_succ, List.getElem_toArray, List.getElem_cons_zero, List.getElem_cons_succ]
  refine wpAnyH_take (i := 19) (v := ?_) rfl (by kernel_rfl) (by kernel_rfl) (by kernel_rfl) (fun _ _ _ h => h) (Or.inl ⟨by rfl, ?_⟩) (by assumption) ?_
  rotate_left 1
  · intro w hSw; (try dsimp only at hSw); go_simp <;> with_reducible rfl
  try simp only [Act.put, List.setIfInBounds_toArray, List.set_cons_zero, List.set_cons_succ, List.getElem_toArray, List.getElem_cons_zero, List.getElem_cons_succ]
  refine wpAnyH_take (i := 20) (v := ?_) rfl (by kernel_rfl) (by kernel_rfl) (by kernel_rfl) (fun _ _ _ h => h) (Or.inl ⟨by rfl, ?_⟩) (by assumption) ?_
  rotate_left 1
  · intro w hSw; (try dsimp only at hSw); go_simp <;> with_reducible rfl
  try simp only [Act.put, List.setIfInBounds_toArray, List.set_cons_zero, List.set_cons_succ, List.getElem_toArray, List.getElem_cons_zero, List.getElem_cons_succ]
  refine wpAnyH_take (i := 21) (v := ?_) rfl (by kernel_rfl) (by kernel_rfl) (by kernel_rfl) (fun _ _ _ h => h) (Or.inl ⟨by rfl, ?_⟩) (by assumption) ?_
  rotate_left 1
  · intro w hSw; have hS2 := (LD.out w hSw).2.2.2.2.1; (try dsimp only at hSw); go_simp <;> with_reducible rfl
  try simp only [Act.put, List.setIfInBounds_toArray, List.set_cons_zero, List.set_cons_succ, List.getElem_toArray, List.getElem_cons_zero, List.getElem_cons_succ]
  refine wpAnyH_take (i := 22) (v := ?_) rfl (by kernel_rfl) (by kernel_rfl) (by kernel_rfl) (fun _ _ _ h => h) (Or.inl ⟨by rfl, ?_⟩) (by assumption) ?_
  rotate_left 1
  · intro w hSw; (try dsimp only at hSw); go_simp <;> with_reducible rfl
  try simp only [Act.put, List.setIfInBounds_toArray, List.set_cons_zero, List.set_cons_succ, List.getElem_toArray, List.getElem_cons_zero, List.getElem_cons_succ]
  refine wpAnyH_take (i := 23) (v := ?_) rfl (by kernel_rfl) (by kernel_rfl) (by kernel_rfl) (fun _ _ _ h => h) (Or.inl ⟨by rfl, ?_⟩) (by assumption) ?_
  rotate_left 1
  · intro w hSw; have hS2 := (LD.out w hSw).2.2.2.2.2.2.2.1; (try dsimp only at hSw); go_simp <;> with_reducible rfl
  try simp only [Act.put, List.setIfInBounds_toArray, List.set_cons_zero, List.set_cons_succ, List.getElem_toArray, List.getElem_cons_zero, List.getElem_cons_succ]
  refine wpAnyH_take (i := 24) (v := ?_) rfl (by kernel_rfl) (by kernel_rfl) (by kernel_rfl) (fun _ _ _ h => h) (Or.inl ⟨by rfl, ?_⟩) (by assumption) ?_
  rotate_left 1
  · intro w hSw; (try dsimp only at hSw); go_simp <;> with_reducible rfl
  try simp only [Act.put, List.setIfInBounds_toArray, List.set_cons_zero, List.set_cons_succ, List.getElem_toArray, List.getElem_cons_zero, List.getElem_cons_succ]
  refine wpAnyH_take (i := 25) (v := ?_) rfl (by kernel_rfl) (by kernel_rfl) (by kernel_rfl) (fun _ _ _ h => h) (Or.inl ⟨by rfl, ?_⟩) (by assumption) ?_
  rotate_left 1
  · intro w hSw; (try dsimp only at hSw); go_simp <;> with_reducible rfl
  try simp only [Act.put, List.setIfInBounds_toArray, List.set_cons_zero, List.set_cons_succ, List.getElem_toArray, List.getElem_cons_zero, List.getElem_cons_succ]
  refine wpAnyH_take (i := 26) (v := ?_) rfl (by kernel_rfl) (by kernel_rfl) (by kernel_rfl) (fun _ _ _ h => h) (Or.inl ⟨by rfl, ?_⟩) (by assumption) ?_
  rotate_left 1
  · intro w hSw; (try dsimp only at hSw); go_simp <;> with_reducible rfl
  try simp only [Act.put, List.setIfInBounds_toArray, List.set_cons_zero, List.set_cons_succ, List.getElem_toArray, List.getElem_cons_zero, List.getElem_cons_succ]
  refine wpAnyH_take (i := 27) (v := ?_) rfl (by kernel_rfl) (by kernel_rfl) (by kernel_rfl) (fun _ _ _ h => h) (Or.inl ⟨by rfl, ?_⟩) (by assumption) ?_
  rotate_left 1
  · intro w hSw; (try dsimp only at hSw); go_simp <;> with_reducible rfl
  try simp only [Act.put, List.setIfInBounds_toArray, List.set_cons_zero, List.set_cons_succ, List.getElem_toArray, List.getElem_cons_zero, List.getElem_cons_succ]
  refine wpAnyH_take (i := 28) (v := ?_) rfl (by kernel_rfl) (by kernel_rfl) (by kernel_rfl) (fun _ _ _ h => h) (Or.inl ⟨by rfl, ?_⟩) (by assumption) ?_
  rotate_left 1
  · intro w hSw; have hS2 := (LD.out w hSw).2.2.2.2.2.2.2.1; (try dsimp only at hSw); go_simp <;> with_reducible rfl
  try simp only [Act.put, List.setIfInBounds_toArray, List.set_cons_zero, List.set_cons_succ, List.getElem_toArray, List.getElem_cons_zero, List.getElem_cons_succ]
  refine wpAnyH_take (i := 29) (v := ?_) rfl (by kernel_rfl) (by kernel_rfl) (by kernel_rfl) (fun _ _ _ h => h) (Or.inl ⟨by rfl, ?_⟩) (by assumption) ?_
  rotate_left 1
  · intro w hSw; (try dsimp only at hSw); go_simp <;> with_reducible rfl
  try simp only [Act.put, List.setIfInBounds_toArray, List.set_cons_zero, List.set_cons_succ, List.getElem_toArray, List.getElem_cons_zero, List.getElem_cons_succ]
  refine wpAnyH_take (i := 30) (v := ?_) rfl (by kernel_rfl) (by kernel_rfl) (by kernel_rfl) (fun _ _ _ h => h) (Or.inl ⟨by rfl, ?_⟩) (by assumption) ?_
  rotate_left 1
  · intro w hSw; (try dsimp only at hSw); go_simp <;> with_reducible rfl
  try simp only [Act.put, List.setIfInBounds_toArray, List.set_cons_zero, List.set_cons_succ, List.getElem_toArray, List.getElem_cons_zero, List.getElem_cons_succ]
  refine wpAnyH_take (i := 31) (v := ?_) rfl (by kernel_rfl) (by kernel_rfl) (by kernel_rfl) (fun _ _ _ h => h) (Or.inl ⟨by rfl, ?_⟩) (by assumption) ?_
  rotate_left 1
  · intro w hSw; have hS2 := (LD.out w hSw).2.2.2.2.2.2.2.2.2.2; (try dsimp only at hSw); go_simp <;> with_reducible rfl
  try simp only [Act.put, List.setIfInBounds_toArray, List.set_cons_zero, List.set_cons_succ, List.getElem_toArray, List.getElem_cons_zero, List.getElem_cons_succ]
  refine wpAnyH_take (i := 32) (v := ?_) rfl (by kernel_rfl) (by kernel_rfl) (by kernel_rfl) (fun _ _ _ h => h) (Or.inl ⟨by rfl, ?_⟩) (by assumption) ?_
  rotate_left 1
  · intro w hSw; (try dsimp only at hSw); go_simp <;> with_reducible rfl
  try simp only [Act.put, List.setIfInBounds_toArray, List.set_cons_zero, List.set_cons_succ, List.getElem_toArray, List.getElem_cons_zero, List.getElem_cons_succ]
  refine wpAnyH_take (i := 33) (v := ?_) rfl (by kernel_rfl) (by kernel_rfl) (by kernel_rfl) (fun _ _ _ h => h) (Or.inl ⟨by rfl, ?_⟩) (by assumption) ?_
  rotate_left 1
  · intro w hSw; (try dsimp only at hSw); go_simp <;> with_reducible rfl
  try simp only [Act.put, List.setIfInBounds_toArray, List.set_cons_zero, List.set_cons_succ, List.getElem_toArray, List.getElem_cons_zero, List.getElem_cons_succ]
  refine wpAnyH_take (i := 34) (v := ?_) rfl (by kernel_rfl) (by kernel_rfl) (by kernel_rfl) (fun _ _ _ h => h) (Or.inl ⟨by rfl, ?_⟩) (by assumption) ?_
  rotate_left 1
  · intro w hSw; (try dsimp only at hSw); go_simp <;> with_reducible rfl
  try simp only [Act.put, List.setIfInBounds_toArray, List.set_cons_zero, List.set_cons_succ, List.getElem_toArray, List.getElem_cons_zero, List.getElem_cons_succ]
  refine wpAnyH_take (i := 35) (v := ?_) rfl (by kernel_rfl) (by kernel_rfl) (by kernel_rfl) (fun _ _ _ h => h) (Or.inl ⟨by rfl, ?_⟩) (by assumption) ?_
  rotate_left 1
  · intro w hSw; (try dsimp only at hSw); go_simp <;> with_reducible rfl
  try simp only [Act.put, List.setIfInBounds_toArray, List.set_cons_zero, List.set_cons_succ, List.getElem_toArray, List.getElem_cons_zero, List.getElem_cons_succ]
  refine wpAnyH_take (i := 36) (v := ?_) rfl (by kernel_rfl) (by kernel_rfl) (by kernel_rfl) (fun _ _ _ h => h) (Or.inl ⟨by rfl, ?_⟩) (by assumption) ?_
  rotate_left 1
  · intro w hSw; have hS2 := (LD.out w hSw).2.2.1; (try dsimp only at hSw); go_simp <;> with_reducible rfl
  try simp only [Act.put, List.setIfInBounds_toArray, List.set_cons_zero, List.set_cons_succ, List.getElem_toArray, List.getElem_cons_zero, List.getElem_cons_succ]
  refine wpAnyH_take (i := 37) (v := ?_) rfl (by kernel_rfl) (by kernel_rfl) (by kernel_rfl) (fun _ _ _ h => h) (Or.inl ⟨by rfl, ?_⟩) (by assumption) ?_
  rotate_left 1
  · intro w hSw; (try dsimp only at hSw); go_simp <;> with_reducible rfl
  try simp only [Act.put, List.setIfInBounds_toArray, List.set_cons_zero, List.set_cons_succ, List.getElem_toArray, List.getElem_cons_zero, List.getElem_cons_succ]
  refine wpAnyH_take (i := 38) (v := ?_) rfl (by kernel_rfl) (by kernel_rfl) (by kernel_rfl) (fun _ _ _ h => h) (Or.inl ⟨by rfl, ?_⟩) (by assumption) ?_
  rotate_left 1
  · intro w hSw; have hS2 := (LD.out w hSw).2.2.2.2.2.1; (try dsimp only at hSw); go_simp <;> with_reducible rfl
  try simp only [Act.put, List.setIfInBounds_toArray, List.set_cons_zero, List.set_cons_succ, List.getElem_toArray, List.getElem_cons_zero, List.getElem_cons_succ]
  refine wpAnyH_take (i := 39) (v := ?_) rfl (by kernel_rfl) (by kernel_rfl) (by kernel_rfl) (fun _ _ _ h => h) (Or.inl ⟨by rfl, ?_⟩) (by assumption) ?_
  rotate_left 1
  · intro w hSw; (try dsimp only at hSw); go_simp <;> with_reducible rfl
  try simp only [Act.put, List.setIfInBounds_toArray, List.set_cons_zero, List.set_cons_succ, List.getElem_toArray, List.getElem_cons_zero, List.getElem_cons_succ]
  refine wpAnyH_take (i := 40) (v := ?_) rfl (by kernel_rfl) (by kernel_rfl) (by kernel_rfl) (fun _ _ _ h => h) (Or.inl ⟨by rfl, ?_⟩) (by assumption) ?_
  rotate_left 1
  · intro w hSw; (try dsimp only at hSw); go_simp <;> with_reducible rfl
  try simp only [Act.put, List.setIfInBounds_toArray, List.set_cons_zero, List.set_cons_succ, List.getElem_toArray, List.getElem_cons_zero, List.getElem_cons_succ]
  refine wpAnyH_take (i := 41) (v := ?_) rfl (by kernel_rfl) (by kernel_rfl) (by kernel_rfl) (fun _ _ _ h => h) (Or.inl ⟨by rfl, ?_⟩) (by assumption) ?_
  rotate_left 1
  · intro w hSw; (try dsimp only at hSw); go_simp <;> with_reducible rfl
  try simp only [Act.put, List.setIfInBounds_toArray, List.set_cons_zero, List.set_cons_succ, List.getElem_toArray, List.getElem_cons_zero, List.getElem_cons_succ]
  refine wpAnyH_take (i := 42) (v := ?_) rfl (by kernel_rfl) (by kernel_rfl) (by kernel_rfl) (fun _ _ _ h => h) (Or.inl ⟨by rfl, ?_⟩) (by assumption) ?_
  rotate_left 1
  · intro w hSw; (try dsimp only at hSw); go_simp <;> with_reducible rfl
  try simp only [Act.put, List.setIfInBounds_toArray, List.set_cons_zero, List.set_cons_succ, List.getElem_toArray, List.getElem_cons_zero, List.getElem_cons_succ]
  refine wpAnyH_take (i := 43) (v := ?_) rfl (by kernel_rfl) (by kernel_rfl) (by kernel_rfl) (fun _ _ _ h => h) (Or.inl ⟨by rfl, ?_⟩) (by assumption) ?_
  rotate_left 1
  · intro w hSw; have hS2 := (LD.out w hSw).2.2.2.2.2.1; (try dsimp only at hSw); go_simp <;> with_reducible rfl
  try simp only [Act.put, List.setIfInBounds_toArray, List.set_cons_zero, List.set_cons_succ, List.getElem_toArray, List.getElem_cons_zero, List.getElem_cons_succ]
  refine wpAnyH_take (i := 44) (v := ?_) rfl (by kernel_rfl) (by kernel_rfl) (by kernel_rfl) (fun _ _ _ h => h) (Or.inl ⟨by rfl, ?_⟩) (by assumption) ?_
  rotate_left 1
  · intro w hSw; (try dsimp only at hSw); go_simp <;> with_reducible rfl
  try simp only [Act.put, List.setIfInBounds_toArray, List.set_cons_zero, List.set_cons_succ, List.getElem_toArray, List.getElem_cons_zero, List.getElem_cons_succ]
  refine wpAnyH_take (i := 45) (v := ?_) rfl (by kernel_rfl) (by kernel_rfl) (by kernel_rfl) (fun _ _ _ h => h) (Or.inl ⟨by rfl, ?_⟩) (by assumption) ?_
  rotate_left 1
  · intro w hSw; (try dsimp only at hSw); go_simp <;> with_reducible rfl
  try simp only [Act.put, List.setIfInBounds_toArray, List.set_cons_zero, List.set_cons_succ, List.getElem_toArray, List.getElem_cons_zero, List.getElem_cons_succ]
  refine wpAnyH_take (i := 46) (v := ?_) rfl (by kernel_rfl) (by kernel_rfl) (by kernel_rfl) (fun _ _ _ h => h) (Or.inl ⟨by rfl, ?_⟩) (by assumption) ?_
  rotate_left 1
  · intro w hSw; have hS2 := (LD.out w hSw).2.2.2.2.2.2.2.2.1; (try dsimp only at hSw); go_simp <;> with_reducible rfl
  try simp only [Act.put, List.setIfInBounds_toArray, List.set_cons_zero, List.set_cons_succ, List.getElem_toArray, List.getElem_cons_zero, List.getElem_cons_succ]
  refine wpAnyH_take (i := 47) (v := ?_) rfl (by kernel_rfl) (by kernel_rfl) (by kernel_rfl) (fun _ _ _ h => h) (Or.inl ⟨by rfl, ?_⟩) (by assumption) ?_
  rotate_left 1
  · intro w hSw; (try dsimp only at hSw); go_simp <;> with_reducible rfl
  try simp only [Act.put, List.setIfInBounds_toArray, List.set_cons_zero, List.set_cons_succ, List.getElem_toArray, List.getElem_cons_zero, List.getElem_cons_succ]
  refine wpAnyH_take (i := 48) (v := ?_) rfl (by kernel_rfl) (by kernel_rfl) (by kernel_rfl) (fun _ _ _ h => h) (Or.inl ⟨by rfl, ?_⟩) (by assumption) ?_
  rotate_left 1
  · intro w hSw; (try dsimp only at hSw); go_simp <;> with_reducible rfl
  try simp only [Act.put, List.setIfInBounds_toArray, List.set_cons_zero, List.set_cons_succ, List.getElem_toArray, List.getElem_cons_zero, List.getElem_cons_succ]
  refine wpAnyH_take (i := 49) (v := ?_) rfl (by kernel_rfl) (by kernel_rfl) (by kernel_rfl) (fun _ _ _ h => h) (Or.inl ⟨by rfl, ?_⟩) (by assumption) ?_
  rotate_left 1
  · intro w hSw; (try dsimp only at hSw); go_simp <;> with_reducible rfl
  try simp only [Act.put, List.setIfInBounds_toArray, List.set_cons_zero, List.set_cons_succ, List.getElem_toArray, List.getElem_cons_zero, List.getElem_cons_succ]
  refine wpAnyH_done (by kernel_rfl) ?_ _
  have BW9 : Hid (Below w1.heap.size w1 w9) := Lib.hid hHeld
  have cb9 : w9.cell? ⟨b, 256, none⟩ = some (.slice (some ⟨gn, 0, none⟩) n kn) := (LD.out w9 hHeld).2.2.1
  clear hHeld hB9 e1 e2 e3 i1 i2 i3 j1 j2 j3 k1 k2 k3 l1 l2 l3
  go_wp2_with fail
  go_loopw [60] (fun iv W => ∃ k : Nat, k ≤ n ∧ iv = .int .i64 (k : Int) ∧ Hid (Below w1.heap.size w1 W)) (fun iv _ => n - (intOf iv).toNat)
  case atStart => exact ⟨0, Nat.zero_le _, rfl, BW9⟩
  case round =>
    obtain ⟨k, hk, rfl, BK⟩ := hrel
    have BR : Hid (Below w.heap.size w wr) := Lib.hid (B1.out.trans (BK.out.mono B1.out.size))
    by_cases hlt : k < n
    · have cb : wr.cell? ⟨b, 256, none⟩ = some (.slice (some ⟨gn, 0, none⟩) n kn) := (LD.out wr BK.out).2.2.1
      obtain ⟨v, hv⟩ : ∃ v, vs[k]? = some v := ⟨_, List.getElem?_eq_getElem (by rw [HN.out.2.2.2]; exact hlt)⟩
      obtain ⟨row, hrow⟩ : ∃ row, t.nx[k]? = some row := ⟨_, List.getElem?_eq_getElem (by rw [← HN.out.1]; exact hlt)⟩
      obtain ⟨gr, cr, rfl, pr⟩ := (HCP.out.rows k v row hv hrow).form
      have hrb : row.length ≤ 1048576 := HS.out.2.2.2 row (List.mem_of_getElem? hrow)
      obtain ⟨-, hcr, hcr2, -, hgr, qr, -⟩ := pr.cell
      rw [List.length_map] at pr hv
      obtain ⟨r, hr⟩ : ∃ r, r = row.length := ⟨_, rfl⟩
      have xr := qr r (.int .i64 (-77)) (by rw [List.getElem?_append_right (by rw [List.length_map]; omega), List.length_map, hr, Nat.sub_self]; rfl)
      rw [List.length_map, ← hr] at hcr
      rw [← hr] at hv hrb
      have cn1 : wr.cell? ⟨gn, k, none⟩ = some (.slice (some ⟨gr, 0, none⟩) r cr) := cell_later BR.out (QN.out k _ (by rw [List.getElem?_append_left (by rw [HN.out.2.2.2]; exact hlt), hv]))
      have cr1 : wr.cell? ⟨gr, r, none⟩ = some (.int .i64 (-77)) := cell_later BR.out xr
      have hk0 : (0 : Int) ≤ (k : Int) := Int.natCast_nonneg k
      have hkn0 : (k : Int) < (n : Int) := Int.ofNat_lt.2 hlt
      obtain ⟨r1, e1, i1, j1, k1, l1, m1, n1⟩ := front_facts hcr hrb
      clear hcr2 hgr hcr
      clear hv hrow pr qr hr xr
      go_wp2_with fail
      go_roundw
      case rel =>
        first
          | exact ⟨k + 1, by omega, by go_num, BK⟩
          | ((repeat apply Exists.intro); exact ⟨⟨k + 1, by omega, by go_num, BK⟩, rfl⟩)
      case measure => simp [intOf]; omega
    · obtain rfl : k = n := by omega
      go_wp2_with fail
      go_ret
      exact ⟨rfl, BR.out⟩
end Go.Proofs.YtnglgppdkohhpaaDoor
