/- The drawn region of table.read that appends to three lists: every order (printed by a program of ours). -/
import Derived.Test.YtnglgppdkohhpaaDoorTbR26A
namespace Go.Proofs.YtnglgppdkohhpaaDoor
open Go.RowKit
attribute [local go_sem ↓] Go.wp_at_zero Go.wp_at_succ
set_option maxRecDepth 1000000 in
set_option maxHeartbeats 8000000 in
theorem read_region {u0 u1 u2 u4 u5 u6 u7 u8 u9 u10 u11 u13 u14 u15 u17 u19 u20 u21 u22 u23 u24 u25 u26 u27 u28 u29 u30 u31 u32 u33 u34 u35 u36 u37 u38 u39 u40 u41 u42 u43 u44 u45 u46 u47 u48 u49 u50 u51 u52 u53 u54 u55 u56 u57 u58 u59 u60 u61 u62 u63 u64 u65 u66 u67 u68 u69 u70 u71 u72 u73 u74 u75 u76 u77 u78 u79 u80 u81 u82 u83 u84 u85 u86 u87 u88 u89 u90 u91 u92 u93 u94 u95 u96 u97 u98 u99 u100 u101 u102 u103 u104 u105 u106 u107 u108 u109 u110 u111 u112 u113 u114 u115 u116 u117 u118 u119 u120 u121 u122 : Value} {Q : Exit → Act → World → Prop} {wB wS : World} {N0 bR bD i m g H0 x y : Nat} {l : List UInt8} {row cl : List Int} {vn vf ve : Value} {t : Tb} {gs : List Nat}
    (ST : Hid (St26 wS wB wS N0 bR bD l i m g H0 row (dcells cl vn vf ve) vn vf ve t gs)) (HC : Hid (cl.length = 256)) (HG : Hid (row.length = m ∧ N0 ≤ g ∧ ∀ s : Nat, gs[s]? ≠ some g)) (hx : x < 4294967296) (hy : y < 4294967296)
    (HV : Hid ((∀ k, vn.ownBlock = some k → k < H0) ∧ (∀ k, vf.ownBlock = some k → k < H0) ∧ ∀ k, ve.ownBlock = some k → k < H0))
    (hN4 : Hid (((gs.map (rowV m)).length + 1) * 24 ≤ 140737488355328 ∧ (gs.map (rowV m)).length + 1 ≤ maxLen)) (hN10 : Hid (((t.fo.map uV).length + 1) * 4 ≤ 140737488355328 ∧ (t.fo.map uV).length + 1 ≤ maxLen)) (hN16 : Hid (((t.en.map uV).length + 1) * 4 ≤ 140737488355328 ∧ (t.en.map uV).length + 1 ≤ maxLen))
    (hQ : Hid (∀ (z101 z102 z103 z104 z105 z106 z107 z108 z109 z110 z111 z112 z113 z114 z115 z116 z117 z118 z119 z120 : Value) (vn' vf' ve' : Value) (W : World), Fin26 wS wB N0 bR bD l i m cl ⟨t.cls, t.nx ++ [row], t.fo ++ [x], t.en ++ [y]⟩ (gs ++ [g]) vn' vf' ve' W → Q .normal ⟨#[u0, u1, u2, .pointer (some ⟨bD, 0, none⟩), u4, u5, u6, u7, u8, u9, u10, u11, .slice (some ⟨g, 0, none⟩) m m, u13, u14, u15, .int .u64 (x : Int), u17, .int .u64 (y : Int), u19, u20, u21, u22, u23, u24, u25, u26, u27, u28, u29, u30, u31, u32, u33, u34, u35, u36, u37, u38, u39, u40, u41, u42, u43, u44, u45, u46, u47, u48, u49, u50, u51, u52, u53, u54, u55, u56, u57, u58, u59, u60, u61, u62, u63, u64, u65, u66, u67, u68, u69, u70, u71, u72, u73, u74, u75, u76, u77, u78, u79, u80, u81, u82, u83, u84, u85, u86, u87, u88, u89, u90, u91, u92, u93, u94, u95, u96, u97, u98, u99, u100, z101, z102, z103, z104, z105, z106, z107, z108, z109, z110, z111, z112, z113, z114, z115, z116, z117, z118, z119, z120, u121, u122], []⟩ W)) :
    Code.wp Tryd.prog reg26 Q ⟨#[u0, u1, u2, .pointer (some ⟨bD, 0, none⟩), u4, u5, u6, u7, u8, u9, u10, u11, .slice (some ⟨g, 0, none⟩) m m, u13, u14, u15, .int .u64 (x : Int), u17, .int .u64 (y : Int), u19, u20, u21, u22, u23, u24, u25, u26, u27, u28, u29, u30, u31, u32, u33, u34, u35, u36, u37, u38, u39, u40, u41, u42, u43, u44, u45, u46, u47, u48, u49, u50, u51, u52, u53, u54, u55, u56, u57, u58, u59, u60, u61, u62, u63, u64, u65, u66, u67, u68, u69, u70, u71, u72, u73, u74, u75, u76, u77, u78, u79, u80, u81, u82, u83, u84, u85, u86, u87, u88, u89, u90, u91, u92, u93, u94, u95, u96, u97, u98, u99, u100, u101, u102, u103, u104, u105, u106, u107, u108, u109, u110, u111, u112, u113, u114, u115, u116, u117, u118, u119, u120, u121, u122], []⟩ wS := by
  have hwx : IntKind.u32.wrap (x : Int) = (x : Int) := by simp [IntKind.wrap, IntKind.bits, IntKind.signed]; omega
  have hwy : IntKind.u32.wrap (y : Int) = (y : Int) := by simp [IntKind.wrap, IntKind.bits, IntKind.signed]; omega
  conv => arg 2; whnf
  refine wp_region_noPanic ?_
  refine wp_region_any (by kernel_rfl) ?_
  change wpAny _ _ _ _ _ _ _ (World.drew _)
  refine any_of_L (S := S26 bD vn vf ve) _ _ _ _ ?_
  obtain ⟨w0, hw0⟩ : ∃ w', w' = wS.drew := ⟨_, rfl⟩
  rw [← hw0]
  have ST0 : Hid (St26 wS wB w0 N0 bR bD l i m g H0 row (dcells cl vn vf ve) vn vf ve t gs) := Lib.hid (by rw [hw0]; exact ST.out.keep (Below.drew (Below.refl _ _)))
  clear hw0 ST
  obtain ⟨c4, c10, c16⟩ := ST0.out.cells HC.out
  refine anyL_take (i := 0) 1 (v := ?_) (fun _ => True) rfl rfl (by kernel_rfl) (by kernel_rfl) (by kernel_rfl) (by kernel_rfl) (by kernel_rfl) (fun _ _ _ h => h) (fun _ _ _ _ => trivial) (S26.irr (i := 0) (by decide) (by decide) (by decide)).1 (S26.irr (i := 0) (by decide) (by decide) (by decide)).2 (Or.inl ⟨by rfl, ?_⟩) (S26.of c4.out c10.out c16.out) ?_
  rotate_left 1
  · intro w hSw; (try dsimp only at hSw); go_simp <;> with_reducible rfl
  try simp only [Act.put, List.setIfInBounds_toArray, List.set_cons_zero, List.set_cons_succ, List.getElem_toArray, List.getElem_cons_zero]
  refine anyL_take (i := 1) 4 (v := ?_) (fun w' => w'.cell? ⟨bD, 256, none⟩ = some vn) rfl rfl (by kernel_rfl) (by kernel_rfl) (by kernel_rfl) (by kernel_rfl) (by kernel_rfl) (fun _ _ _ h => h) (fun _ _ h0 h => h.1 h0) (S26.irr (i := 1) (by decide) (by decide) (by decide)).1 (S26.irr (i := 1) (by decide) (by decide) (by decide)).2 (Or.inl ⟨by rfl, ?_⟩) (S26.of c4.out c10.out c16.out) ?_
  rotate_left 1
  · intro w hSw; (try dsimp only at hSw); go_simp <;> with_reducible rfl
  try simp only [Act.put, List.setIfInBounds_toArray, List.set_cons_zero, List.set_cons_succ, List.getElem_toArray, List.getElem_cons_zero, List.getElem_cons_succ]
  refine anyL_take (i := 2) 3 (v := ?_) (fun _ => True) rfl rfl (by kernel_rfl) (by kernel_rfl) (by kernel_rfl) (by kernel_rfl) (by kernel_rfl) (fun _ _ _ h => h) (fun _ _ _ _ => trivial) (S26.irr (i := 2) (by decide) (by decide) (by decide)).1 (S26.irr (i := 2) (by decide) (by decide) (by decide)).2 (Or.inl ⟨by rfl, ?_⟩) (S26.of c4.out c10.out c16.out) ?_
  rotate_left 1
  · intro w hSw; (try dsimp only at hSw); go_simp <;> with_reducible rfl
  try simp only [Act.put, List.setIfInBounds_toArray, List.set_cons_zero, List.set_cons_succ, List.getElem_toArray, List.getElem_cons_zero, List.getElem_cons_succ]
  refine anyL_take (i := 5) 6 (v := ?_) (fun _ => True) rfl rfl (by kernel_rfl) (by kernel_rfl) (by kernel_rfl) (by kernel_rfl) (by kernel_rfl) (fun _ _ _ h => h) (fun _ _ _ _ => trivial) (S26.irr (i := 5) (by decide) (by decide) (by decide)).1 (S26.irr (i := 5) (by decide) (by decide) (by decide)).2 (Or.inl ⟨by rfl, ?_⟩) (S26.of c4.out c10.out c16.out) ?_
  rotate_left 1
  · intro w hSw; (try dsimp only at hSw); go_simp <;> with_reducible rfl
  try simp only [Act.put, List.setIfInBounds_toArray, List.set_cons_zero, List.set_cons_succ, List.getElem_toArray, List.getElem_cons_zero, List.getElem_cons_succ]
  refine anyL_take (i := 6) 10 (v := ?_) (fun w' => w'.cell? ⟨bD, 257, none⟩ = some vf) rfl rfl (by kernel_rfl) (by kernel_rfl) (by kernel_rfl) (by kernel_rfl) (by kernel_rfl) (fun _ _ _ h => h) (fun _ _ h0 h => h.2.1 h0) (S26.irr (i := 6) (by decide) (by decide) (by decide)).1 (S26.irr (i := 6) (by decide) (by decide) (by decide)).2 (Or.inl ⟨by rfl, ?_⟩) (S26.of c4.out c10.out c16.out) ?_
  rotate_left 1
  · intro w hSw; (try dsimp only at hSw); go_simp <;> with_reducible rfl
  try simp only [Act.put, List.setIfInBounds_toArray, List.set_cons_zero, List.set_cons_succ, List.getElem_toArray, List.getElem_cons_zero, List.getElem_cons_succ]
  refine anyL_take (i := 7) 8 (v := ?_) (fun _ => True) rfl rfl (by kernel_rfl) (by kernel_rfl) (by kernel_rfl) (by kernel_rfl) (by kernel_rfl) (fun _ _ _ h => h) (fun _ _ _ _ => trivial) (S26.irr (i := 7) (by decide) (by decide) (by decide)).1 (S26.irr (i := 7) (by decide) (by decide) (by decide)).2 (Or.inl ⟨by rfl, ?_⟩) (S26.of c4.out c10.out c16.out) ?_
  rotate_left 1
  · intro w hSw; (try dsimp only at hSw); go_simp <;> with_reducible rfl
  try simp only [Act.put, List.setIfInBounds_toArray, List.set_cons_zero, List.set_cons_succ, List.getElem_toArray, List.getElem_cons_zero, List.getElem_cons_succ]
  refine anyL_take (i := 8) 9 (v := ?_) (fun _ => True) rfl rfl (by kernel_rfl) (by kernel_rfl) (by kernel_rfl) (by kernel_rfl) (by kernel_rfl) (fun _ _ _ h => h) (fun _ _ _ _ => trivial) (S26.irr (i := 8) (by decide) (by decide) (by decide)).1 (S26.irr (i := 8) (by decide) (by decide) (by decide)).2 (Or.inl ⟨by rfl, ?_⟩) (S26.of c4.out c10.out c16.out) ?_
  rotate_left 1
  · intro w hSw; (try dsimp only at hSw); go_simp <;> with_reducible rfl
  try simp only [Act.put, List.setIfInBounds_toArray, List.set_cons_zero, List.set_cons_succ, List.getElem_toArray, List.getElem_cons_zero, List.getElem_cons_succ]
  refine anyL_take (i := 11) 12 (v := ?_) (fun _ => True) rfl rfl (by kernel_rfl) (by kernel_rfl) (by kernel_rfl) (by kernel_rfl) (by kernel_rfl) (fun _ _ _ h => h) (fun _ _ _ _ => trivial) (S26.irr (i := 11) (by decide) (by decide) (by decide)).1 (S26.irr (i := 11) (by decide) (by decide) (by decide)).2 (Or.inl ⟨by rfl, ?_⟩) (S26.of c4.out c10.out c16.out) ?_
  rotate_left 1
  · intro w hSw; (try dsimp only at hSw); go_simp <;> with_reducible rfl
  try simp only [Act.put, List.setIfInBounds_toArray, List.set_cons_zero, List.set_cons_succ, List.getElem_toArray, List.getElem_cons_zero, List.getElem_cons_succ]
  refine anyL_take (i := 12) 16 (v := ?_) (fun w' => w'.cell? ⟨bD, 258, none⟩ = some ve) rfl rfl (by kernel_rfl) (by kernel_rfl) (by kernel_rfl) (by kernel_rfl) (by kernel_rfl) (fun _ _ _ h => h) (fun _ _ h0 h => h.2.2 h0) (S26.irr (i := 12) (by decide) (by decide) (by decide)).1 (S26.irr (i := 12) (by decide) (by decide) (by decide)).2 (Or.inl ⟨by rfl, ?_⟩) (S26.of c4.out c10.out c16.out) ?_
  rotate_left 1
  · intro w hSw; (try dsimp only at hSw); go_simp <;> with_reducible rfl
  try simp only [Act.put, List.setIfInBounds_toArray, List.set_cons_zero, List.set_cons_succ, List.getElem_toArray, List.getElem_cons_zero, List.getElem_cons_succ]
  refine anyL_take (i := 13) 14 (v := ?_) (fun _ => True) rfl rfl (by kernel_rfl) (by kernel_rfl) (by kernel_rfl) (by kernel_rfl) (by kernel_rfl) (fun _ _ _ h => h) (fun _ _ _ _ => trivial) (S26.irr (i := 13) (by decide) (by decide) (by decide)).1 (S26.irr (i := 13) (by decide) (by decide) (by decide)).2 (Or.inl ⟨by rfl, ?_⟩) (S26.of c4.out c10.out c16.out) ?_
  rotate_left 1
  · intro w hSw; (try dsimp only at hSw); go_simp <;> with_reducible rfl
  try simp only [Act.put, List.setIfInBounds_toArray, List.set_cons_zero, List.set_cons_succ, List.getElem_toArray, List.getElem_cons_zero, List.getElem_cons_succ]
  refine anyL_take (i := 14) 15 (v := ?_) (fun _ => True) rfl rfl (by kernel_rfl) (by kernel_rfl) (by kernel_rfl) (by kernel_rfl) (by kernel_rfl) (fun _ _ _ h => h) (fun _ _ _ _ => trivial) (S26.irr (i := 14) (by decide) (by decide) (by decide)).1 (S26.irr (i := 14) (by decide) (by decide) (by decide)).2 (Or.inl ⟨by rfl, ?_⟩) (S26.of c4.out c10.out c16.out) ?_
  rotate_left 1
  · intro w hSw; (try dsimp only at hSw); go_simp <;> with_reducible rfl
  try simp only [Act.put, List.setIfInBounds_toArray, List.set_cons_zero, List.set_cons_succ, List.getElem_toArray, List.getElem_cons_zero, List.getElem_cons_succ]
  refine anyL_ready (rs := [3, 9, 15]) (by kernel_rfl) (by simp) (AllL.cons rfl (fun K hK => ?_) (AllL.cons rfl (fun K hK => ?_) (AllL.cons rfl (fun K hK => ?_) AllL.nil)))
  ·
    go_simp
    refine hK.out _ _ (S26.of (cell_later (below_alloc _ _) c4.out) (cell_later (below_alloc _ _) c10.out) (cell_later (below_alloc _ _) c16.out)) ?_
    clear hK K
    obtain ⟨w1, hw⟩ : ∃ w', w' = w0.alloc (.cells #[.slice (some ⟨g, 0, none⟩) m m] 35) := ⟨_, rfl⟩
    obtain ⟨gb1, hgb⟩ : ∃ gb, gb = w0.heap.size := ⟨_, rfl⟩
    have ST1 : Hid (St26 wS wB w1 N0 bR bD l i m g H0 row (dcells cl vn vf ve) vn vf ve _ _) := Lib.hid (by rw [hw]; exact ST0.out.alloc _)
    have BB1 : Hid (Blk w1 gb1 35 #[.slice (some ⟨g, 0, none⟩) m m] ∧ H0 ≤ gb1) := Lib.hid ⟨by rw [hw, hgb]; exact Blk.new _ _ _ rfl, by rw [hgb]; exact ST0.out.h0⟩
    rw [← hw, ← hgb]
    clear hw hgb ST0 c4 c10 c16
    obtain ⟨c4, c10, c16⟩ := ST1.out.cells HC.out
    try simp only [Act.put, List.setIfInBounds_toArray, List.set_cons_zero, List.set_cons_succ, List.getElem_toArray, List.getElem_cons_zero, List.getElem_cons_succ]
    refine anyL_ready (rs := [4, 9, 15]) (by kernel_rfl) (by simp) (AllL.cons rfl (fun K hK => ?_) (AllL.cons rfl (fun K hK => ?_) (AllL.cons rfl (fun K hK => ?_) AllL.nil)))
    ·
      refine step_append_one rfl (.tmp 102) (.tmp 104) 23 35 rfl Tryd.underlying23 infoRow rfl N0 vn (gs.map (rowV m)) rfl ST1.out.ol.on gb1 1 (rowV m g) rfl ((BB1.out.1.cell 0).trans rfl) rfl hN4.out.1 hN4.out.2 (ST1.out.base) ?_
      intro v' w2 ho hg ha
      obtain ⟨A1, cp1, hv, _⟩ := own_form ho
      obtain ⟨L1, hL⟩ : ∃ L, L = ((gs.map (rowV m)) ++ [(rowV m g)]).length := ⟨_, rfl⟩
      rw [← hL] at hv
      clear hL
      rw [hv] at ho ha ⊢
      clear hv
      have ST2 := Lib.hid (ST1.out.appN HG.out.1 HG.out.2.1 HG.out.2.2 ho hg)
      clear ho hg ha ST1 BB1 c4 c10 c16
      obtain ⟨c4, c10, c16⟩ := ST2.out.cells HC.out
      refine hK.out _ _ (S26.of c4.out c10.out c16.out) ?_
      clear hK K
      try simp only [Act.put, List.setIfInBounds_toArray, List.set_cons_zero, List.set_cons_succ, List.getElem_toArray, List.getElem_cons_zero, List.getElem_cons_succ]
      refine anyL_take (i := 17) 18 (v := ?_) (fun _ => True) rfl rfl (by kernel_rfl) (by kernel_rfl) (by kernel_rfl) (by kernel_rfl) (by kernel_rfl) (fun _ _ _ h => h) (fun _ _ _ _ => trivial) (S26.irr (i := 17) (by decide) (by decide) (by decide)).1 (S26.irr (i := 17) (by decide) (by decide) (by decide)).2 (Or.inl ⟨by rfl, ?_⟩) (S26.of c4.out c10.out c16.out) ?_
      rotate_left 1
      · intro w hSw; (try dsimp only at hSw); go_simp <;> with_reducible rfl
      try simp only [Act.put, List.setIfInBounds_toArray, List.set_cons_zero, List.set_cons_succ, List.getElem_toArray, List.getElem_cons_zero, List.getElem_cons_succ]
      refine anyL_ready (rs := [9, 15]) (by kernel_rfl) (by simp) (AllL.cons rfl (fun K hK => ?_) (AllL.cons rfl (fun K hK => ?_) AllL.nil))
      ·
        go_simp
        refine hK.out _ _ (S26.of (cell_later (below_alloc _ _) c4.out) (cell_later (below_alloc _ _) c10.out) (cell_later (below_alloc _ _) c16.out)) ?_
        clear hK K
        obtain ⟨w3, hw⟩ : ∃ w', w' = w2.alloc (.cells #[.int .u32 (x : Int)] 34) := ⟨_, rfl⟩
        obtain ⟨gb2, hgb⟩ : ∃ gb, gb = w2.heap.size := ⟨_, rfl⟩
        have ST3 : Hid (St26 wS wB w3 N0 bR bD l i m g H0 row (dcells cl vn vf ve) (.slice A1 _ cp1) vf ve _ _) := Lib.hid (by rw [hw]; exact ST2.out.alloc _)
        have BB2 : Hid (Blk w3 gb2 34 #[.int .u32 (x : Int)] ∧ H0 ≤ gb2) := Lib.hid ⟨by rw [hw, hgb]; exact Blk.new _ _ _ rfl, by rw [hgb]; exact ST2.out.h0⟩
        rw [← hw, ← hgb]
        clear hw hgb ST2 c4 c10 c16
        obtain ⟨c4, c10, c16⟩ := ST3.out.cells HC.out
        try simp only [Act.put, List.setIfInBounds_toArray, List.set_cons_zero, List.set_cons_succ, List.getElem_toArray, List.getElem_cons_zero, List.getElem_cons_succ]
        refine anyL_ready (rs := [10, 15]) (by kernel_rfl) (by simp) (AllL.cons rfl (fun K hK => ?_) (AllL.cons rfl (fun K hK => ?_) AllL.nil))
        ·
          refine step_append_one rfl (.tmp 107) (.tmp 110) 24 34 rfl Tryd.underlying24 infoU32 rfl N0 vf (t.fo.map uV) rfl ST3.out.ol.of_ gb2 1 (uV x) rfl ((BB2.out.1.cell 0).trans rfl) rfl hN10.out.1 hN10.out.2 (ST3.out.base) ?_
          intro v' w4 ho hg ha
          obtain ⟨A2, cp2, hv, _⟩ := own_form ho
          obtain ⟨L2, hL⟩ : ∃ L, L = ((t.fo.map uV) ++ [(uV x)]).length := ⟨_, rfl⟩
          rw [← hL] at hv
          clear hL
          rw [hv] at ho ha ⊢
          clear hv
          have ST4 := Lib.hid (ST3.out.appF ho hg ha)
          clear ho hg ha ST3 BB2 c4 c10 c16
          obtain ⟨c4, c10, c16⟩ := ST4.out.cells HC.out
          refine hK.out _ _ (S26.of c4.out c10.out c16.out) ?_
          clear hK K
          try simp only [Act.put, List.setIfInBounds_toArray, List.set_cons_zero, List.set_cons_succ, List.getElem_toArray, List.getElem_cons_zero, List.getElem_cons_succ]
          refine anyL_ready (rs := [15]) (by kernel_rfl) (by simp) (AllL.cons rfl (fun K hK => ?_) AllL.nil)
          go_simp
          refine hK.out _ _ (S26.of (cell_later (below_alloc _ _) c4.out) (cell_later (below_alloc _ _) c10.out) (cell_later (below_alloc _ _) c16.out)) ?_
          clear hK K
          obtain ⟨w5, hw⟩ : ∃ w', w' = w4.alloc (.cells #[.int .u32 (y : Int)] 34) := ⟨_, rfl⟩
          obtain ⟨gb3, hgb⟩ : ∃ gb, gb = w4.heap.size := ⟨_, rfl⟩
          have ST5 : Hid (St26 wS wB w5 N0 bR bD l i m g H0 row (dcells cl vn vf ve) (.slice A1 _ cp1) (.slice A2 _ cp2) ve _ _) := Lib.hid (by rw [hw]; exact ST4.out.alloc _)
          have BB3 : Hid (Blk w5 gb3 34 #[.int .u32 (y : Int)] ∧ H0 ≤ gb3) := Lib.hid ⟨by rw [hw, hgb]; exact Blk.new _ _ _ rfl, by rw [hgb]; exact ST4.out.h0⟩
          rw [← hw, ← hgb]
          clear hw hgb ST4 c4 c10 c16
          obtain ⟨c4, c10, c16⟩ := ST5.out.cells HC.out
          try simp only [Act.put, List.setIfInBounds_toArray, List.set_cons_zero, List.set_cons_succ, List.getElem_toArray, List.getElem_cons_zero, List.getElem_cons_succ]
          refine anyL_ready (rs := [16]) (by kernel_rfl) (by simp) (AllL.cons rfl (fun K hK => ?_) AllL.nil)
          refine step_append_one rfl (.tmp 113) (.tmp 116) 24 34 rfl Tryd.underlying24 infoU32 rfl N0 ve (t.en.map uV) rfl ST5.out.ol.oe gb3 1 (uV y) rfl ((BB3.out.1.cell 0).trans rfl) rfl hN16.out.1 hN16.out.2 (ST5.out.base) ?_
          intro v' w6 ho hg ha
          obtain ⟨A3, cp3, hv, _⟩ := own_form ho
          obtain ⟨L3, hL⟩ : ∃ L, L = ((t.en.map uV) ++ [(uV y)]).length := ⟨_, rfl⟩
          rw [← hL] at hv
          clear hL
          rw [hv] at ho ha ⊢
          clear hv
          have ST6 := Lib.hid (ST5.out.appE ho hg ha)
          clear ho hg ha ST5 BB3 c4 c10 c16
          obtain ⟨c4, c10, c16⟩ := ST6.out.cells HC.out
          refine hK.out _ _ (S26.of c4.out c10.out c16.out) ?_
          clear hK K
          try simp only [Act.put, List.setIfInBounds_toArray, List.set_cons_zero, List.set_cons_succ, List.getElem_toArray, List.getElem_cons_zero, List.getElem_cons_succ]
          obtain ⟨F1, hF1⟩ := ST6.out.fin HC.out
          have FIN := Lib.hid hF1; clear hF1
          have k4 := c4.out; have k10 := c10.out; have k16 := c16.out
          have f4 := ST6.out.bd.frozen 256; have f10 := ST6.out.bd.frozen 257; have f16 := ST6.out.bd.frozen 258
          refine anyL_ready (rs := [18]) (by kernel_rfl) (by simp) (AllL.cons rfl (fun K hK => ?_) AllL.nil)
          go_simp
          refine hK.out _ _ (S26.none (by kernel_rfl) (by kernel_rfl) (by kernel_rfl)) ?_
          clear hK K
          try simp only [Act.put, List.setIfInBounds_toArray, List.set_cons_zero, List.set_cons_succ, List.getElem_toArray, List.getElem_cons_zero, List.getElem_cons_succ]
          refine anyL_take (i := 19) 20 (v := ?_) (fun _ => True) rfl rfl (by kernel_rfl) (by kernel_rfl) (by kernel_rfl) (by kernel_rfl) (by kernel_rfl) (fun _ _ _ h => h) (fun _ _ _ _ => trivial) (S26.irr (i := 19) (by decide) (by decide) (by decide)).1 (S26.irr (i := 19) (by decide) (by decide) (by decide)).2 (Or.inl ⟨by rfl, ?_⟩) (S26.none (by kernel_rfl) (by kernel_rfl) (by kernel_rfl)) ?_
          rotate_left 1
          · intro w hSw; (try dsimp only at hSw); go_simp <;> with_reducible rfl
          try simp only [Act.put, List.setIfInBounds_toArray, List.set_cons_zero, List.set_cons_succ, List.getElem_toArray, List.getElem_cons_zero, List.getElem_cons_succ]
          refine anyL_ready (rs := [20]) (by kernel_rfl) (by simp) (AllL.cons rfl (fun K hK => ?_) AllL.nil)
          go_simp
          refine hK.out _ _ (S26.none (by kernel_rfl) (by kernel_rfl) (by kernel_rfl)) ?_
          clear hK K
          try simp only [Act.put, List.setIfInBounds_toArray, List.set_cons_zero, List.set_cons_succ, List.getElem_toArray, List.getElem_cons_zero, List.getElem_cons_succ]
          refine anyL_take (i := 21) 22 (v := ?_) (fun _ => True) rfl rfl (by kernel_rfl) (by kernel_rfl) (by kernel_rfl) (by kernel_rfl) (by kernel_rfl) (fun _ _ _ h => h) (fun _ _ _ _ => trivial) (S26.irr (i := 21) (by decide) (by decide) (by decide)).1 (S26.irr (i := 21) (by decide) (by decide) (by decide)).2 (Or.inl ⟨by rfl, ?_⟩) (S26.none (by kernel_rfl) (by kernel_rfl) (by kernel_rfl)) ?_
          rotate_left 1
          · intro w hSw; (try dsimp only at hSw); go_simp <;> with_reducible rfl
          try simp only [Act.put, List.setIfInBounds_toArray, List.set_cons_zero, List.set_cons_succ, List.getElem_toArray, List.getElem_cons_zero, List.getElem_cons_succ]
          refine anyL_ready (rs := [22]) (by kernel_rfl) (by simp) (AllL.cons rfl (fun K hK => ?_) AllL.nil)
          go_simp
          refine hK.out _ _ (S26.none (by kernel_rfl) (by kernel_rfl) (by kernel_rfl)) ?_
          clear hK K
          try simp only [Act.put, List.setIfInBounds_toArray, List.set_cons_zero, List.set_cons_succ, List.getElem_toArray, List.getElem_cons_zero, List.getElem_cons_succ]
          refine anyL_done (by kernel_rfl) ?_ _
          exact hQ.out _ _ _ _ _ _ _ _ _ _ _ _ _ _ _ _ _ _ _ _ _ _ _ _ FIN.out
        ·
          go_simp
          refine hK.out _ _ (S26.of (cell_later (below_alloc _ _) c4.out) (cell_later (below_alloc _ _) c10.out) (cell_later (below_alloc _ _) c16.out)) ?_
          clear hK K
          obtain ⟨w4, hw⟩ : ∃ w', w' = w3.alloc (.cells #[.int .u32 (y : Int)] 34) := ⟨_, rfl⟩
          obtain ⟨gb3, hgb⟩ : ∃ gb, gb = w3.heap.size := ⟨_, rfl⟩
          have ST4 : Hid (St26 wS wB w4 N0 bR bD l i m g H0 row (dcells cl vn vf ve) (.slice A1 _ cp1) vf ve _ _) := Lib.hid (by rw [hw]; exact ST3.out.alloc _)
          have BB3 : Hid (Blk w4 gb3 34 #[.int .u32 (y : Int)] ∧ H0 ≤ gb3) := Lib.hid ⟨by rw [hw, hgb]; exact Blk.new _ _ _ rfl, by rw [hgb]; exact ST3.out.h0⟩
          have BB2' := BB2; clear BB2
          have BB2 : Hid (Blk w4 gb2 _ _ ∧ H0 ≤ gb2) := Lib.hid (by rw [hw]; exact ⟨BB2'.out.1.alloc _, BB2'.out.2⟩)
          clear BB2'
          rw [← hw, ← hgb]
          clear hw hgb ST3 c4 c10 c16
          obtain ⟨c4, c10, c16⟩ := ST4.out.cells HC.out
          try simp only [Act.put, List.setIfInBounds_toArray, List.set_cons_zero, List.set_cons_succ, List.getElem_toArray, List.getElem_cons_zero, List.getElem_cons_succ]
          refine anyL_ready (rs := [10]) (by kernel_rfl) (by simp) (AllL.cons rfl (fun K hK => ?_) AllL.nil)
          refine step_append_one rfl (.tmp 107) (.tmp 110) 24 34 rfl Tryd.underlying24 infoU32 rfl N0 vf (t.fo.map uV) rfl ST4.out.ol.of_ gb2 1 (uV x) rfl ((BB2.out.1.cell 0).trans rfl) rfl hN10.out.1 hN10.out.2 (ST4.out.base) ?_
          intro v' w5 ho hg ha
          obtain ⟨A2, cp2, hv, _⟩ := own_form ho
          obtain ⟨L2, hL⟩ : ∃ L, L = ((t.fo.map uV) ++ [(uV x)]).length := ⟨_, rfl⟩
          rw [← hL] at hv
          clear hL
          rw [hv] at ho ha ⊢
          clear hv
          have ST5 := Lib.hid (ST4.out.appF ho hg ha)
          have BB3' := BB3; clear BB3
          have BB3 : Hid (Blk w5 gb3 _ _ ∧ H0 ≤ gb3) := Lib.hid ⟨BB3'.out.1.grown hg (fun e => by have := HV.out.2.1 _ e; have := BB3'.out.2; omega), BB3'.out.2⟩
          clear BB3'
          clear ho hg ha ST4 BB2 c4 c10 c16
          obtain ⟨c4, c10, c16⟩ := ST5.out.cells HC.out
          refine hK.out _ _ (S26.of c4.out c10.out c16.out) ?_
          clear hK K
          try simp only [Act.put, List.setIfInBounds_toArray, List.set_cons_zero, List.set_cons_succ, List.getElem_toArray, List.getElem_cons_zero, List.getElem_cons_succ]
          refine anyL_ready (rs := [16]) (by kernel_rfl) (by simp) (AllL.cons rfl (fun K hK => ?_) AllL.nil)
          refine step_append_one rfl (.tmp 113) (.tmp 116) 24 34 rfl Tryd.underlying24 infoU32 rfl N0 ve (t.en.map uV) rfl ST5.out.ol.oe gb3 1 (uV y) rfl ((BB3.out.1.cell 0).trans rfl) rfl hN16.out.1 hN16.out.2 (ST5.out.base) ?_
          intro v' w6 ho hg ha
          obtain ⟨A3, cp3, hv, _⟩ := own_form ho
          obtain ⟨L3, hL⟩ : ∃ L, L = ((t.en.map uV) ++ [(uV y)]).length := ⟨_, rfl⟩
          rw [← hL] at hv
          clear hL
          rw [hv] at ho ha ⊢
          clear hv
          have ST6 := Lib.hid (ST5.out.appE ho hg ha)
          clear ho hg ha ST5 BB3 c4 c10 c16
          obtain ⟨c4, c10, c16⟩ := ST6.out.cells HC.out
          refine hK.out _ _ (S26.of c4.out c10.out c16.out) ?_
          clear hK K
          try simp only [Act.put, List.setIfInBounds_toArray, List.set_cons_zero, List.set_cons_succ, List.getElem_toArray, List.getElem_cons_zero, List.getElem_cons_succ]
          obtain ⟨F1, hF1⟩ := ST6.out.fin HC.out
          have FIN := Lib.hid hF1; clear hF1
          have k4 := c4.out; have k10 := c10.out; have k16 := c16.out
          have f4 := ST6.out.bd.frozen 256; have f10 := ST6.out.bd.frozen 257; have f16 := ST6.out.bd.frozen 258
          refine anyL_ready (rs := [18]) (by kernel_rfl) (by simp) (AllL.cons rfl (fun K hK => ?_) AllL.nil)
          go_simp
          refine hK.out _ _ (S26.none (by kernel_rfl) (by kernel_rfl) (by kernel_rfl)) ?_
          clear hK K
          try simp only [Act.put, List.setIfInBounds_toArray, List.set_cons_zero, List.set_cons_succ, List.getElem_toArray, List.getElem_cons_zero, List.getElem_cons_succ]
          refine anyL_take (i := 19) 20 (v := ?_) (fun _ => True) rfl rfl (by kernel_rfl) (by kernel_rfl) (by kernel_rfl) (by kernel_rfl) (by kernel_rfl) (fun _ _ _ h => h) (fun _ _ _ _ => trivial) (S26.irr (i := 19) (by decide) (by decide) (by decide)).1 (S26.irr (i := 19) (by decide) (by decide) (by decide)).2 (Or.inl ⟨by rfl, ?_⟩) (S26.none (by kernel_rfl) (by kernel_rfl) (by kernel_rfl)) ?_
          rotate_left 1
          · intro w hSw; (try dsimp only at hSw); go_simp <;> with_reducible rfl
          try simp only [Act.put, List.setIfInBounds_toArray, List.set_cons_zero, List.set_cons_succ, List.getElem_toArray, List.getElem_cons_zero, List.getElem_cons_succ]
          refine anyL_ready (rs := [20]) (by kernel_rfl) (by simp) (AllL.cons rfl (fun K hK => ?_) AllL.nil)
          go_simp
          refine hK.out _ _ (S26.none (by kernel_rfl) (by kernel_rfl) (by kernel_rfl)) ?_
          clear hK K
          try simp only [Act.put, List.setIfInBounds_toArray, List.set_cons_zero, List.set_cons_succ, List.getElem_toArray, List.getElem_cons_zero, List.getElem_cons_succ]
          refine anyL_take (i := 21) 22 (v := ?_) (fun _ => True) rfl rfl (by kernel_rfl) (by kernel_rfl) (by kernel_rfl) (by kernel_rfl) (by kernel_rfl) (fun _ _ _ h => h) (fun _ _ _ _ => trivial) (S26.irr (i := 21) (by decide) (by decide) (by decide)).1 (S26.irr (i := 21) (by decide) (by decide) (by decide)).2 (Or.inl ⟨by rfl, ?_⟩) (S26.none (by kernel_rfl) (by kernel_rfl) (by kernel_rfl)) ?_
          rotate_left 1
          · intro w hSw; (try dsimp only at hSw); go_simp <;> with_reducible rfl
          try simp only [Act.put, List.setIfInBounds_toArray, List.set_cons_zero, List.set_cons_succ, List.getElem_toArray, List.getElem_cons_zero, List.getElem_cons_succ]
          refine anyL_ready (rs := [22]) (by kernel_rfl) (by simp) (AllL.cons rfl (fun K hK => ?_) AllL.nil)
          go_simp
          refine hK.out _ _ (S26.none (by kernel_rfl) (by kernel_rfl) (by kernel_rfl)) ?_
          clear hK K
          try simp only [Act.put, List.setIfInBounds_toArray, List.set_cons_zero, List.set_cons_succ, List.getElem_toArray, List.getElem_cons_zero, List.getElem_cons_succ]
          refine anyL_done (by kernel_rfl) ?_ _
          exact hQ.out _ _ _ _ _ _ _ _ _ _ _ _ _ _ _ _ _ _ _ _ _ _ _ _ FIN.out
      ·
        go_simp
        refine hK.out _ _ (S26.of (cell_later (below_alloc _ _) c4.out) (cell_later (below_alloc _ _) c10.out) (cell_later (below_alloc _ _) c16.out)) ?_
        clear hK K
        obtain ⟨w3, hw⟩ : ∃ w', w' = w2.alloc (.cells #[.int .u32 (y : Int)] 34) := ⟨_, rfl⟩
        obtain ⟨gb3, hgb⟩ : ∃ gb, gb = w2.heap.size := ⟨_, rfl⟩
        have ST3 : Hid (St26 wS wB w3 N0 bR bD l i m g H0 row (dcells cl vn vf ve) (.slice A1 _ cp1) vf ve _ _) := Lib.hid (by rw [hw]; exact ST2.out.alloc _)
        have BB3 : Hid (Blk w3 gb3 34 #[.int .u32 (y : Int)] ∧ H0 ≤ gb3) := Lib.hid ⟨by rw [hw, hgb]; exact Blk.new _ _ _ rfl, by rw [hgb]; exact ST2.out.h0⟩
        rw [← hw, ← hgb]
        clear hw hgb ST2 c4 c10 c16
        obtain ⟨c4, c10, c16⟩ := ST3.out.cells HC.out
        try simp only [Act.put, List.setIfInBounds_toArray, List.set_cons_zero, List.set_cons_succ, List.getElem_toArray, List.getElem_cons_zero, List.getElem_cons_succ]
        refine anyL_ready (rs := [9]) (by kernel_rfl) (by simp) (AllL.cons rfl (fun K hK => ?_) AllL.nil)
        go_simp
        refine hK.out _ _ (S26.of (cell_later (below_alloc _ _) c4.out) (cell_later (below_alloc _ _) c10.out) (cell_later (below_alloc _ _) c16.out)) ?_
        clear hK K
        obtain ⟨w4, hw⟩ : ∃ w', w' = w3.alloc (.cells #[.int .u32 (x : Int)] 34) := ⟨_, rfl⟩
        obtain ⟨gb2, hgb⟩ : ∃ gb, gb = w3.heap.size := ⟨_, rfl⟩
        have ST4 : Hid (St26 wS wB w4 N0 bR bD l i m g H0 row (dcells cl vn vf ve) (.slice A1 _ cp1) vf ve _ _) := Lib.hid (by rw [hw]; exact ST3.out.alloc _)
        have BB2 : Hid (Blk w4 gb2 34 #[.int .u32 (x : Int)] ∧ H0 ≤ gb2) := Lib.hid ⟨by rw [hw, hgb]; exact Blk.new _ _ _ rfl, by rw [hgb]; exact ST3.out.h0⟩
        have BB3' := BB3; clear BB3
        have BB3 : Hid (Blk w4 gb3 _ _ ∧ H0 ≤ gb3) := Lib.hid (by rw [hw]; exact ⟨BB3'.out.1.alloc _, BB3'.out.2⟩)
        clear BB3'
        rw [← hw, ← hgb]
        clear hw hgb ST3 c4 c10 c16
        obtain ⟨c4, c10, c16⟩ := ST4.out.cells HC.out
        try simp only [Act.put, List.setIfInBounds_toArray, List.set_cons_zero, List.set_cons_succ, List.getElem_toArray, List.getElem_cons_zero, List.getElem_cons_succ]
        refine anyL_ready (rs := [10]) (by kernel_rfl) (by simp) (AllL.cons rfl (fun K hK => ?_) AllL.nil)
        refine step_append_one rfl (.tmp 107) (.tmp 110) 24 34 rfl Tryd.underlying24 infoU32 rfl N0 vf (t.fo.map uV) rfl ST4.out.ol.of_ gb2 1 (uV x) rfl ((BB2.out.1.cell 0).trans rfl) rfl hN10.out.1 hN10.out.2 (ST4.out.base) ?_
        intro v' w5 ho hg ha
        obtain ⟨A2, cp2, hv, _⟩ := own_form ho
        obtain ⟨L2, hL⟩ : ∃ L, L = ((t.fo.map uV) ++ [(uV x)]).length := ⟨_, rfl⟩
        rw [← hL] at hv
        clear hL
        rw [hv] at ho ha ⊢
        clear hv
        have ST5 := Lib.hid (ST4.out.appF ho hg ha)
        have BB3' := BB3; clear BB3
        have BB3 : Hid (Blk w5 gb3 _ _ ∧ H0 ≤ gb3) := Lib.hid ⟨BB3'.out.1.grown hg (fun e => by have := HV.out.2.1 _ e; have := BB3'.out.2; omega), BB3'.out.2⟩
        clear BB3'
        clear ho hg ha ST4 BB2 c4 c10 c16
        obtain ⟨c4, c10, c16⟩ := ST5.out.cells HC.out
        refine hK.out _ _ (S26.of c4.out c10.out c16.out) ?_
        clear hK K
        try simp only [Act.put, List.setIfInBounds_toArray, List.set_cons_zero, List.set_cons_succ, List.getElem_toArray, List.getElem_cons_zero, List.getElem_cons_succ]
        refine anyL_ready (rs := [16]) (by kernel_rfl) (by simp) (AllL.cons rfl (fun K hK => ?_) AllL.nil)
        refine step_append_one rfl (.tmp 113) (.tmp 116) 24 34 rfl Tryd.underlying24 infoU32 rfl N0 ve (t.en.map uV) rfl ST5.out.ol.oe gb3 1 (uV y) rfl ((BB3.out.1.cell 0).trans rfl) rfl hN16.out.1 hN16.out.2 (ST5.out.base) ?_
        intro v' w6 ho hg ha
        obtain ⟨A3, cp3, hv, _⟩ := own_form ho
        obtain ⟨L3, hL⟩ : ∃ L, L = ((t.en.map uV) ++ [(uV y)]).length := ⟨_, rfl⟩
        rw [← hL] at hv
        clear hL
        rw [hv] at ho ha ⊢
        clear hv
        have ST6 := Lib.hid (ST5.out.appE ho hg ha)
        clear ho hg ha ST5 BB3 c4 c10 c16
        obtain ⟨c4, c10, c16⟩ := ST6.out.cells HC.out
        refine hK.out _ _ (S26.of c4.out c10.out c16.out) ?_
        clear hK K
        try simp only [Act.put, List.setIfInBounds_toArray, List.set_cons_zero, List.set_cons_succ, List.getElem_toArray, List.getElem_cons_zero, List.getElem_cons_succ]
        obtain ⟨F1, hF1⟩ := ST6.out.fin HC.out
        have FIN := Lib.hid hF1; clear hF1
        have k4 := c4.out; have k10 := c10.out; have k16 := c16.out
        have f4 := ST6.out.bd.frozen 256; have f10 := ST6.out.bd.frozen 257; have f16 := ST6.out.bd.frozen 258
        refine anyL_ready (rs := [18]) (by kernel_rfl) (by simp) (AllL.cons rfl (fun K hK => ?_) AllL.nil)
        go_simp
        refine hK.out _ _ (S26.none (by kernel_rfl) (by kernel_rfl) (by kernel_rfl)) ?_
        clear hK K
        try simp only [Act.put, List.setIfInBounds_toArray, List.set_cons_zero, List.set_cons_succ, List.getElem_toArray, List.getElem_cons_zero, List.getElem_cons_succ]
        refine anyL_take (i := 19) 20 (v := ?_) (fun _ => True) rfl rfl (by kernel_rfl) (by kernel_rfl) (by kernel_rfl) (by kernel_rfl) (by kernel_rfl) (fun _ _ _ h => h) (fun _ _ _ _ => trivial) (S26.irr (i := 19) (by decide) (by decide) (by decide)).1 (S26.irr (i := 19) (by decide) (by decide) (by decide)).2 (Or.inl ⟨by rfl, ?_⟩) (S26.none (by kernel_rfl) (by kernel_rfl) (by kernel_rfl)) ?_
        rotate_left 1
        · intro w hSw; (try dsimp only at hSw); go_simp <;> with_reducible rfl
        try simp only [Act.put, List.setIfInBounds_toArray, List.set_cons_zero, List.set_cons_succ, List.getElem_toArray, List.getElem_cons_zero, List.getElem_cons_succ]
        refine anyL_ready (rs := [20]) (by kernel_rfl) (by simp) (AllL.cons rfl (fun K hK => ?_) AllL.nil)
        go_simp
        refine hK.out _ _ (S26.none (by kernel_rfl) (by kernel_rfl) (by kernel_rfl)) ?_
        clear hK K
        try simp only [Act.put, List.setIfInBounds_toArray, List.set_cons_zero, List.set_cons_succ, List.getElem_toArray, List.getElem_cons_zero, List.getElem_cons_succ]
        refine anyL_take (i := 21) 22 (v := ?_) (fun _ => True) rfl rfl (by kernel_rfl) (by kernel_rfl) (by kernel_rfl) (by kernel_rfl) (by kernel_rfl) (fun _ _ _ h => h) (fun _ _ _ _ => trivial) (S26.irr (i := 21) (by decide) (by decide) (by decide)).1 (S26.irr (i := 21) (by decide) (by decide) (by decide)).2 (Or.inl ⟨by rfl, ?_⟩) (S26.none (by kernel_rfl) (by kernel_rfl) (by kernel_rfl)) ?_
        rotate_left 1
        · intro w hSw; (try dsimp only at hSw); go_simp <;> with_reducible rfl
        try simp only [Act.put, List.setIfInBounds_toArray, List.set_cons_zero, List.set_cons_succ, List.getElem_toArray, List.getElem_cons_zero, List.getElem_cons_succ]
        refine anyL_ready (rs := [22]) (by kernel_rfl) (by simp) (AllL.cons rfl (fun K hK => ?_) AllL.nil)
        go_simp
        refine hK.out _ _ (S26.none (by kernel_rfl) (by kernel_rfl) (by kernel_rfl)) ?_
        clear hK K
        try simp only [Act.put, List.setIfInBounds_toArray, List.set_cons_zero, List.set_cons_succ, List.getElem_toArray, List.getElem_cons_zero, List.getElem_cons_succ]
        refine anyL_done (by kernel_rfl) ?_ _
        exact hQ.out _ _ _ _ _ _ _ _ _ _ _ _ _ _ _ _ _ _ _ _ _ _ _ _ FIN.out
    ·
      go_simp
      refine hK.out _ _ (S26.of (cell_later (below_alloc _ _) c4.out) (cell_later (below_alloc _ _) c10.out) (cell_later (below_alloc _ _) c16.out)) ?_
      clear hK K
      obtain ⟨w2, hw⟩ : ∃ w', w' = w1.alloc (.cells #[.int .u32 (x : Int)] 34) := ⟨_, rfl⟩
      obtain ⟨gb2, hgb⟩ : ∃ gb, gb = w1.heap.size := ⟨_, rfl⟩
      have ST2 : Hid (St26 wS wB w2 N0 bR bD l i m g H0 row (dcells cl vn vf ve) vn vf ve _ _) := Lib.hid (by rw [hw]; exact ST1.out.alloc _)
      have BB2 : Hid (Blk w2 gb2 34 #[.int .u32 (x : Int)] ∧ H0 ≤ gb2) := Lib.hid ⟨by rw [hw, hgb]; exact Blk.new _ _ _ rfl, by rw [hgb]; exact ST1.out.h0⟩
      have BB1' := BB1; clear BB1
      have BB1 : Hid (Blk w2 gb1 _ _ ∧ H0 ≤ gb1) := Lib.hid (by rw [hw]; exact ⟨BB1'.out.1.alloc _, BB1'.out.2⟩)
      clear BB1'
      rw [← hw, ← hgb]
      clear hw hgb ST1 c4 c10 c16
      obtain ⟨c4, c10, c16⟩ := ST2.out.cells HC.out
      try simp only [Act.put, List.setIfInBounds_toArray, List.set_cons_zero, List.set_cons_succ, List.getElem_toArray, List.getElem_cons_zero, List.getElem_cons_succ]
      refine anyL_ready (rs := [4, 15]) (by kernel_rfl) (by simp) (AllL.cons rfl (fun K hK => ?_) (AllL.cons rfl (fun K hK => ?_) AllL.nil))
      ·
        refine step_append_one rfl (.tmp 102) (.tmp 104) 23 35 rfl Tryd.underlying23 infoRow rfl N0 vn (gs.map (rowV m)) rfl ST2.out.ol.on gb1 1 (rowV m g) rfl ((BB1.out.1.cell 0).trans rfl) rfl hN4.out.1 hN4.out.2 (ST2.out.base) ?_
        intro v' w3 ho hg ha
        obtain ⟨A1, cp1, hv, _⟩ := own_form ho
        obtain ⟨L1, hL⟩ : ∃ L, L = ((gs.map (rowV m)) ++ [(rowV m g)]).length := ⟨_, rfl⟩
        rw [← hL] at hv
        clear hL
        rw [hv] at ho ha ⊢
        clear hv
        have ST3 := Lib.hid (ST2.out.appN HG.out.1 HG.out.2.1 HG.out.2.2 ho hg)
        have BB2' := BB2; clear BB2
        have BB2 : Hid (Blk w3 gb2 _ _ ∧ H0 ≤ gb2) := Lib.hid ⟨BB2'.out.1.grown hg (fun e => by have := HV.out.1 _ e; have := BB2'.out.2; omega), BB2'.out.2⟩
        clear BB2'
        clear ho hg ha ST2 BB1 c4 c10 c16
        obtain ⟨c4, c10, c16⟩ := ST3.out.cells HC.out
        refine hK.out _ _ (S26.of c4.out c10.out c16.out) ?_
        clear hK K
        try simp only [Act.put, List.setIfInBounds_toArray, List.set_cons_zero, List.set_cons_succ, List.getElem_toArray, List.getElem_cons_zero, List.getElem_cons_succ]
        refine anyL_take (i := 17) 18 (v := ?_) (fun _ => True) rfl rfl (by kernel_rfl) (by kernel_rfl) (by kernel_rfl) (by kernel_rfl) (by kernel_rfl) (fun _ _ _ h => h) (fun _ _ _ _ => trivial) (S26.irr (i := 17) (by decide) (by decide) (by decide)).1 (S26.irr (i := 17) (by decide) (by decide) (by decide)).2 (Or.inl ⟨by rfl, ?_⟩) (S26.of c4.out c10.out c16.out) ?_
        rotate_left 1
        · intro w hSw; (try dsimp only at hSw); go_simp <;> with_reducible rfl
        try simp only [Act.put, List.setIfInBounds_toArray, List.set_cons_zero, List.set_cons_succ, List.getElem_toArray, List.getElem_cons_zero, List.getElem_cons_succ]
        refine anyL_ready (rs := [10, 15]) (by kernel_rfl) (by simp) (AllL.cons rfl (fun K hK => ?_) (AllL.cons rfl (fun K hK => ?_) AllL.nil))
        ·
          refine step_append_one rfl (.tmp 107) (.tmp 110) 24 34 rfl Tryd.underlying24 infoU32 rfl N0 vf (t.fo.map uV) rfl ST3.out.ol.of_ gb2 1 (uV x) rfl ((BB2.out.1.cell 0).trans rfl) rfl hN10.out.1 hN10.out.2 (ST3.out.base) ?_
          intro v' w4 ho hg ha
          obtain ⟨A2, cp2, hv, _⟩ := own_form ho
          obtain ⟨L2, hL⟩ : ∃ L, L = ((t.fo.map uV) ++ [(uV x)]).length := ⟨_, rfl⟩
          rw [← hL] at hv
          clear hL
          rw [hv] at ho ha ⊢
          clear hv
          have ST4 := Lib.hid (ST3.out.appF ho hg ha)
          clear ho hg ha ST3 BB2 c4 c10 c16
          obtain ⟨c4, c10, c16⟩ := ST4.out.cells HC.out
          refine hK.out _ _ (S26.of c4.out c10.out c16.out) ?_
          clear hK K
          try simp only [Act.put, List.setIfInBounds_toArray, List.set_cons_zero, List.set_cons_succ, List.getElem_toArray, List.getElem_cons_zero, List.getElem_cons_succ]
          refine anyL_ready (rs := [15]) (by kernel_rfl) (by simp) (AllL.cons rfl (fun K hK => ?_) AllL.nil)
          go_simp
          refine hK.out _ _ (S26.of (cell_later (below_alloc _ _) c4.out) (cell_later (below_alloc _ _) c10.out) (cell_later (below_alloc _ _) c16.out)) ?_
          clear hK K
          obtain ⟨w5, hw⟩ : ∃ w', w' = w4.alloc (.cells #[.int .u32 (y : Int)] 34) := ⟨_, rfl⟩
          obtain ⟨gb3, hgb⟩ : ∃ gb, gb = w4.heap.size := ⟨_, rfl⟩
          have ST5 : Hid (St26 wS wB w5 N0 bR bD l i m g H0 row (dcells cl vn vf ve) (.slice A1 _ cp1) (.slice A2 _ cp2) ve _ _) := Lib.hid (by rw [hw]; exact ST4.out.alloc _)
          have BB3 : Hid (Blk w5 gb3 34 #[.int .u32 (y : Int)] ∧ H0 ≤ gb3) := Lib.hid ⟨by rw [hw, hgb]; exact Blk.new _ _ _ rfl, by rw [hgb]; exact ST4.out.h0⟩
          rw [← hw, ← hgb]
          clear hw hgb ST4 c4 c10 c16
          obtain ⟨c4, c10, c16⟩ := ST5.out.cells HC.out
          try simp only [Act.put, List.setIfInBounds_toArray, List.set_cons_zero, List.set_cons_succ, List.getElem_toArray, List.getElem_cons_zero, List.getElem_cons_succ]
          refine anyL_ready (rs := [16]) (by kernel_rfl) (by simp) (AllL.cons rfl (fun K hK => ?_) AllL.nil)
          refine step_append_one rfl (.tmp 113) (.tmp 116) 24 34 rfl Tryd.underlying24 infoU32 rfl N0 ve (t.en.map uV) rfl ST5.out.ol.oe gb3 1 (uV y) rfl ((BB3.out.1.cell 0).trans rfl) rfl hN16.out.1 hN16.out.2 (ST5.out.base) ?_
          intro v' w6 ho hg ha
          obtain ⟨A3, cp3, hv, _⟩ := own_form ho
          obtain ⟨L3, hL⟩ : ∃ L, L = ((t.en.map uV) ++ [(uV y)]).length := ⟨_, rfl⟩
          rw [← hL] at hv
          clear hL
          rw [hv] at ho ha ⊢
          clear hv
          have ST6 := Lib.hid (ST5.out.appE ho hg ha)
          clear ho hg ha ST5 BB3 c4 c10 c16
          obtain ⟨c4, c10, c16⟩ := ST6.out.cells HC.out
          refine hK.out _ _ (S26.of c4.out c10.out c16.out) ?_
          clear hK K
          try simp only [Act.put, List.setIfInBounds_toArray, List.set_cons_zero, List.set_cons_succ, List.getElem_toArray, List.getElem_cons_zero, List.getElem_cons_succ]
          obtain ⟨F1, hF1⟩ := ST6.out.fin HC.out
          have FIN := Lib.hid hF1; clear hF1
          have k4 := c4.out; have k10 := c10.out; have k16 := c16.out
          have f4 := ST6.out.bd.frozen 256; have f10 := ST6.out.bd.frozen 257; have f16 := ST6.out.bd.frozen 258
          refine anyL_ready (rs := [18]) (by kernel_rfl) (by simp) (AllL.cons rfl (fun K hK => ?_) AllL.nil)
          go_simp
          refine hK.out _ _ (S26.none (by kernel_rfl) (by kernel_rfl) (by kernel_rfl)) ?_
          clear hK K
          try simp only [Act.put, List.setIfInBounds_toArray, List.set_cons_zero, List.set_cons_succ, List.getElem_toArray, List.getElem_cons_zero, List.getElem_cons_succ]
          refine anyL_take (i := 19) 20 (v := ?_) (fun _ => True) rfl rfl (by kernel_rfl) (by kernel_rfl) (by kernel_rfl) (by kernel_rfl) (by kernel_rfl) (fun _ _ _ h => h) (fun _ _ _ _ => trivial) (S26.irr (i := 19) (by decide) (by decide) (by decide)).1 (S26.irr (i := 19) (by decide) (by decide) (by decide)).2 (Or.inl ⟨by rfl, ?_⟩) (S26.none (by kernel_rfl) (by kernel_rfl) (by kernel_rfl)) ?_
          rotate_left 1
          · intro w hSw; (try dsimp only at hSw); go_simp <;> with_reducible rfl
          try simp only [Act.put, List.setIfInBounds_toArray, List.set_cons_zero, List.set_cons_succ, List.getElem_toArray, List.getElem_cons_zero, List.getElem_cons_succ]
          refine anyL_ready (rs := [20]) (by kernel_rfl) (by simp) (AllL.cons rfl (fun K hK => ?_) AllL.nil)
          go_simp
          refine hK.out _ _ (S26.none (by kernel_rfl) (by kernel_rfl) (by kernel_rfl)) ?_
          clear hK K
          try simp only [Act.put, List.setIfInBounds_toArray, List.set_cons_zero, List.set_cons_succ, List.getElem_toArray, List.getElem_cons_zero, List.getElem_cons_succ]
          refine anyL_take (i := 21) 22 (v := ?_) (fun _ => True) rfl rfl (by kernel_rfl) (by kernel_rfl) (by kernel_rfl) (by kernel_rfl) (by kernel_rfl) (fun _ _ _ h => h) (fun _ _ _ _ => trivial) (S26.irr (i := 21) (by decide) (by decide) (by decide)).1 (S26.irr (i := 21) (by decide) (by decide) (by decide)).2 (Or.inl ⟨by rfl, ?_⟩) (S26.none (by kernel_rfl) (by kernel_rfl) (by kernel_rfl)) ?_
          rotate_left 1
          · intro w hSw; (try dsimp only at hSw); go_simp <;> with_reducible rfl
          try simp only [Act.put, List.setIfInBounds_toArray, List.set_cons_zero, List.set_cons_succ, List.getElem_toArray, List.getElem_cons_zero, List.getElem_cons_succ]
          refine anyL_ready (rs := [22]) (by kernel_rfl) (by simp) (AllL.cons rfl (fun K hK => ?_) AllL.nil)
          go_simp
          refine hK.out _ _ (S26.none (by kernel_rfl) (by kernel_rfl) (by kernel_rfl)) ?_
          clear hK K
          try simp only [Act.put, List.setIfInBounds_toArray, List.set_cons_zero, List.set_cons_succ, List.getElem_toArray, List.getElem_cons_zero, List.getElem_cons_succ]
          refine anyL_done (by kernel_rfl) ?_ _
          exact hQ.out _ _ _ _ _ _ _ _ _ _ _ _ _ _ _ _ _ _ _ _ _ _ _ _ FIN.out
        ·
          go_simp
          refine hK.out _ _ (S26.of (cell_later (below_alloc _ _) c4.out) (cell_later (below_alloc _ _) c10.out) (cell_later (below_alloc _ _) c16.out)) ?_
          clear hK K
          obtain ⟨w4, hw⟩ : ∃ w', w' = w3.alloc (.cells #[.int .u32 (y : Int)] 34) := ⟨_, rfl⟩
          obtain ⟨gb3, hgb⟩ : ∃ gb, gb = w3.heap.size := ⟨_, rfl⟩
          have ST4 : Hid (St26 wS wB w4 N0 bR bD l i m g H0 row (dcells cl vn vf ve) (.slice A1 _ cp1) vf ve _ _) := Lib.hid (by rw [hw]; exact ST3.out.alloc _)
          have BB3 : Hid (Blk w4 gb3 34 #[.int .u32 (y : Int)] ∧ H0 ≤ gb3) := Lib.hid ⟨by rw [hw, hgb]; exact Blk.new _ _ _ rfl, by rw [hgb]; exact ST3.out.h0⟩
          have BB2' := BB2; clear BB2
          have BB2 : Hid (Blk w4 gb2 _ _ ∧ H0 ≤ gb2) := Lib.hid (by rw [hw]; exact ⟨BB2'.out.1.alloc _, BB2'.out.2⟩)
          clear BB2'
          rw [← hw, ← hgb]
          clear hw hgb ST3 c4 c10 c16
          obtain ⟨c4, c10, c16⟩ := ST4.out.cells HC.out
          try simp only [Act.put, List.setIfInBounds_toArray, List.set_cons_zero, List.set_cons_succ, List.getElem_toArray, List.getElem_cons_zero, List.getElem_cons_succ]
          refine anyL_ready (rs := [10]) (by kernel_rfl) (by simp) (AllL.cons rfl (fun K hK => ?_) AllL.nil)
          refine step_append_one rfl (.tmp 107) (.tmp 110) 24 34 rfl Tryd.underlying24 infoU32 rfl N0 vf (t.fo.map uV) rfl ST4.out.ol.of_ gb2 1 (uV x) rfl ((BB2.out.1.cell 0).trans rfl) rfl hN10.out.1 hN10.out.2 (ST4.out.base) ?_
          intro v' w5 ho hg ha
          obtain ⟨A2, cp2, hv, _⟩ := own_form ho
          obtain ⟨L2, hL⟩ : ∃ L, L = ((t.fo.map uV) ++ [(uV x)]).length := ⟨_, rfl⟩
          rw [← hL] at hv
          clear hL
          rw [hv] at ho ha ⊢
          clear hv
          have ST5 := Lib.hid (ST4.out.appF ho hg ha)
          have BB3' := BB3; clear BB3
          have BB3 : Hid (Blk w5 gb3 _ _ ∧ H0 ≤ gb3) := Lib.hid ⟨BB3'.out.1.grown hg (fun e => by have := HV.out.2.1 _ e; have := BB3'.out.2; omega), BB3'.out.2⟩
          clear BB3'
          clear ho hg ha ST4 BB2 c4 c10 c16
          obtain ⟨c4, c10, c16⟩ := ST5.out.cells HC.out
          refine hK.out _ _ (S26.of c4.out c10.out c16.out) ?_
          clear hK K
          try simp only [Act.put, List.setIfInBounds_toArray, List.set_cons_zero, List.set_cons_succ, List.getElem_toArray, List.getElem_cons_zero, List.getElem_cons_succ]
          refine anyL_ready (rs := [16]) (by kernel_rfl) (by simp) (AllL.cons rfl (fun K hK => ?_) AllL.nil)
          refine step_append_one rfl (.tmp 113) (.tmp 116) 24 34 rfl Tryd.underlying24 infoU32 rfl N0 ve (t.en.map uV) rfl ST5.out.ol.oe gb3 1 (uV y) rfl ((BB3.out.1.cell 0).trans rfl) rfl hN16.out.1 hN16.out.2 (ST5.out.base) ?_
          intro v' w6 ho hg ha
          obtain ⟨A3, cp3, hv, _⟩ := own_form ho
          obtain ⟨L3, hL⟩ : ∃ L, L = ((t.en.map uV) ++ [(uV y)]).length := ⟨_, rfl⟩
          rw [← hL] at hv
          clear hL
          rw [hv] at ho ha ⊢
          clear hv
          have ST6 := Lib.hid (ST5.out.appE ho hg ha)
          clear ho hg ha ST5 BB3 c4 c10 c16
          obtain ⟨c4, c10, c16⟩ := ST6.out.cells HC.out
          refine hK.out _ _ (S26.of c4.out c10.out c16.out) ?_
          clear hK K
          try simp only [Act.put, List.setIfInBounds_toArray, List.set_cons_zero, List.set_cons_succ, List.getElem_toArray, List.getElem_cons_zero, List.getElem_cons_succ]
          obtain ⟨F1, hF1⟩ := ST6.out.fin HC.out
          have FIN := Lib.hid hF1; clear hF1
          have k4 := c4.out; have k10 := c10.out; have k16 := c16.out
          have f4 := ST6.out.bd.frozen 256; have f10 := ST6.out.bd.frozen 257; have f16 := ST6.out.bd.frozen 258
          refine anyL_ready (rs := [18]) (by kernel_rfl) (by simp) (AllL.cons rfl (fun K hK => ?_) AllL.nil)
          go_simp
          refine hK.out _ _ (S26.none (by kernel_rfl) (by kernel_rfl) (by kernel_rfl)) ?_
          clear hK K
          try simp only [Act.put, List.setIfInBounds_toArray, List.set_cons_zero, List.set_cons_succ, List.getElem_toArray, List.getElem_cons_zero, List.getElem_cons_succ]
          refine anyL_take (i := 19) 20 (v := ?_) (fun _ => True) rfl rfl (by kernel_rfl) (by kernel_rfl) (by kernel_rfl) (by kernel_rfl) (by kernel_rfl) (fun _ _ _ h => h) (fun _ _ _ _ => trivial) (S26.irr (i := 19) (by decide) (by decide) (by decide)).1 (S26.irr (i := 19) (by decide) (by decide) (by decide)).2 (Or.inl ⟨by rfl, ?_⟩) (S26.none (by kernel_rfl) (by kernel_rfl) (by kernel_rfl)) ?_
          rotate_left 1
          · intro w hSw; (try dsimp only at hSw); go_simp <;> with_reducible rfl
          try simp only [Act.put, List.setIfInBounds_toArray, List.set_cons_zero, List.set_cons_succ, List.getElem_toArray, List.getElem_cons_zero, List.getElem_cons_succ]
          refine anyL_ready (rs := [20]) (by kernel_rfl) (by simp) (AllL.cons rfl (fun K hK => ?_) AllL.nil)
          go_simp
          refine hK.out _ _ (S26.none (by kernel_rfl) (by kernel_rfl) (by kernel_rfl)) ?_
          clear hK K
          try simp only [Act.put, List.setIfInBounds_toArray, List.set_cons_zero, List.set_cons_succ, List.getElem_toArray, List.getElem_cons_zero, List.getElem_cons_succ]
          refine anyL_take (i := 21) 22 (v := ?_) (fun _ => True) rfl rfl (by kernel_rfl) (by kernel_rfl) (by kernel_rfl) (by kernel_rfl) (by kernel_rfl) (fun _ _ _ h => h) (fun _ _ _ _ => trivial) (S26.irr (i := 21) (by decide) (by decide) (by decide)).1 (S26.irr (i := 21) (by decide) (by decide) (by decide)).2 (Or.inl ⟨by rfl, ?_⟩) (S26.none (by kernel_rfl) (by kernel_rfl) (by kernel_rfl)) ?_
          rotate_left 1
          · intro w hSw; (try dsimp only at hSw); go_simp <;> with_reducible rfl
          try simp only [Act.put, List.setIfInBounds_toArray, List.set_cons_zero, List.set_cons_succ, List.getElem_toArray, List.getElem_cons_zero, List.getElem_cons_succ]
          refine anyL_ready (rs := [22]) (by kernel_rfl) (by simp) (AllL.cons rfl (fun K hK => ?_) AllL.nil)
          go_simp
          refine hK.out _ _ (S26.none (by kernel_rfl) (by kernel_rfl) (by kernel_rfl)) ?_
          clear hK K
          try simp only [Act.put, List.setIfInBounds_toArray, List.set_cons_zero, List.set_cons_succ, List.getElem_toArray, List.getElem_cons_zero, List.getElem_cons_succ]
          refine anyL_done (by kernel_rfl) ?_ _
          exact hQ.out _ _ _ _ _ _ _ _ _ _ _ _ _ _ _ _ _ _ _ _ _ _ _ _ FIN.out
      ·
        go_simp
        refine hK.out _ _ (S26.of (cell_later (below_alloc _ _) c4.out) (cell_later (below_alloc _ _) c10.out) (cell_later (below_alloc _ _) c16.out)) ?_
        clear hK K
        obtain ⟨w3, hw⟩ : ∃ w', w' = w2.alloc (.cells #[.int .u32 (y : Int)] 34) := ⟨_, rfl⟩
        obtain ⟨gb3, hgb⟩ : ∃ gb, gb = w2.heap.size := ⟨_, rfl⟩
        have ST3 : Hid (St26 wS wB w3 N0 bR bD l i m g H0 row (dcells cl vn vf ve) vn vf ve _ _) := Lib.hid (by rw [hw]; exact ST2.out.alloc _)
        have BB3 : Hid (Blk w3 gb3 34 #[.int .u32 (y : Int)] ∧ H0 ≤ gb3) := Lib.hid ⟨by rw [hw, hgb]; exact Blk.new _ _ _ rfl, by rw [hgb]; exact ST2.out.h0⟩
        have BB1' := BB1; clear BB1
        have BB1 : Hid (Blk w3 gb1 _ _ ∧ H0 ≤ gb1) := Lib.hid (by rw [hw]; exact ⟨BB1'.out.1.alloc _, BB1'.out.2⟩)
        clear BB1'
        have BB2' := BB2; clear BB2
        have BB2 : Hid (Blk w3 gb2 _ _ ∧ H0 ≤ gb2) := Lib.hid (by rw [hw]; exact ⟨BB2'.out.1.alloc _, BB2'.out.2⟩)
        clear BB2'
        rw [← hw, ← hgb]
        clear hw hgb ST2 c4 c10 c16
        obtain ⟨c4, c10, c16⟩ := ST3.out.cells HC.out
        try simp only [Act.put, List.setIfInBounds_toArray, List.set_cons_zero, List.set_cons_succ, List.getElem_toArray, List.getElem_cons_zero, List.getElem_cons_succ]
        refine anyL_ready (rs := [4]) (by kernel_rfl) (by simp) (AllL.cons rfl (fun K hK => ?_) AllL.nil)
        refine step_append_one rfl (.tmp 102) (.tmp 104) 23 35 rfl Tryd.underlying23 infoRow rfl N0 vn (gs.map (rowV m)) rfl ST3.out.ol.on gb1 1 (rowV m g) rfl ((BB1.out.1.cell 0).trans rfl) rfl hN4.out.1 hN4.out.2 (ST3.out.base) ?_
        intro v' w4 ho hg ha
        obtain ⟨A1, cp1, hv, _⟩ := own_form ho
        obtain ⟨L1, hL⟩ : ∃ L, L = ((gs.map (rowV m)) ++ [(rowV m g)]).length := ⟨_, rfl⟩
        rw [← hL] at hv
        clear hL
        rw [hv] at ho ha ⊢
        clear hv
        have ST4 := Lib.hid (ST3.out.appN HG.out.1 HG.out.2.1 HG.out.2.2 ho hg)
        have BB2' := BB2; clear BB2
        have BB2 : Hid (Blk w4 gb2 _ _ ∧ H0 ≤ gb2) := Lib.hid ⟨BB2'.out.1.grown hg (fun e => by have := HV.out.1 _ e; have := BB2'.out.2; omega), BB2'.out.2⟩
        clear BB2'
        have BB3' := BB3; clear BB3
        have BB3 : Hid (Blk w4 gb3 _ _ ∧ H0 ≤ gb3) := Lib.hid ⟨BB3'.out.1.grown hg (fun e => by have := HV.out.1 _ e; have := BB3'.out.2; omega), BB3'.out.2⟩
        clear BB3'
        clear ho hg ha ST3 BB1 c4 c10 c16
        obtain ⟨c4, c10, c16⟩ := ST4.out.cells HC.out
        refine hK.out _ _ (S26.of c4.out c10.out c16.out) ?_
        clear hK K
        try simp only [Act.put, List.setIfInBounds_toArray, List.set_cons_zero, List.set_cons_succ, List.getElem_toArray, List.getElem_cons_zero, List.getElem_cons_succ]
        refine anyL_take (i := 17) 18 (v := ?_) (fun _ => True) rfl rfl (by kernel_rfl) (by kernel_rfl) (by kernel_rfl) (by kernel_rfl) (by kernel_rfl) (fun _ _ _ h => h) (fun _ _ _ _ => trivial) (S26.irr (i := 17) (by decide) (by decide) (by decide)).1 (S26.irr (i := 17) (by decide) (by decide) (by decide)).2 (Or.inl ⟨by rfl, ?_⟩) (S26.of c4.out c10.out c16.out) ?_
        rotate_left 1
        · intro w hSw; (try dsimp only at hSw); go_simp <;> with_reducible rfl
        try simp only [Act.put, List.setIfInBounds_toArray, List.set_cons_zero, List.set_cons_succ, List.getElem_toArray, List.getElem_cons_zero, List.getElem_cons_succ]
        refine anyL_ready (rs := [10]) (by kernel_rfl) (by simp) (AllL.cons rfl (fun K hK => ?_) AllL.nil)
        refine step_append_one rfl (.tmp 107) (.tmp 110) 24 34 rfl Tryd.underlying24 infoU32 rfl N0 vf (t.fo.map uV) rfl ST4.out.ol.of_ gb2 1 (uV x) rfl ((BB2.out.1.cell 0).trans rfl) rfl hN10.out.1 hN10.out.2 (ST4.out.base) ?_
        intro v' w5 ho hg ha
        obtain ⟨A2, cp2, hv, _⟩ := own_form ho
        obtain ⟨L2, hL⟩ : ∃ L, L = ((t.fo.map uV) ++ [(uV x)]).length := ⟨_, rfl⟩
        rw [← hL] at hv
        clear hL
        rw [hv] at ho ha ⊢
        clear hv
        have ST5 := Lib.hid (ST4.out.appF ho hg ha)
        have BB3' := BB3; clear BB3
        have BB3 : Hid (Blk w5 gb3 _ _ ∧ H0 ≤ gb3) := Lib.hid ⟨BB3'.out.1.grown hg (fun e => by have := HV.out.2.1 _ e; have := BB3'.out.2; omega), BB3'.out.2⟩
        clear BB3'
        clear ho hg ha ST4 BB2 c4 c10 c16
        obtain ⟨c4, c10, c16⟩ := ST5.out.cells HC.out
        refine hK.out _ _ (S26.of c4.out c10.out c16.out) ?_
        clear hK K
        try simp only [Act.put, List.setIfInBounds_toArray, List.set_cons_zero, List.set_cons_succ, List.getElem_toArray, List.getElem_cons_zero, List.getElem_cons_succ]
        refine anyL_ready (rs := [16]) (by kernel_rfl) (by simp) (AllL.cons rfl (fun K hK => ?_) AllL.nil)
        refine step_append_one rfl (.tmp 113) (.tmp 116) 24 34 rfl Tryd.underlying24 infoU32 rfl N0 ve (t.en.map uV) rfl ST5.out.ol.oe gb3 1 (uV y) rfl ((BB3.out.1.cell 0).trans rfl) rfl hN16.out.1 hN16.out.2 (ST5.out.base) ?_
        intro v' w6 ho hg ha
        obtain ⟨A3, cp3, hv, _⟩ := own_form ho
        obtain ⟨L3, hL⟩ : ∃ L, L = ((t.en.map uV) ++ [(uV y)]).length := ⟨_, rfl⟩
        rw [← hL] at hv
        clear hL
        rw [hv] at ho ha ⊢
        clear hv
        have ST6 := Lib.hid (ST5.out.appE ho hg ha)
        clear ho hg ha ST5 BB3 c4 c10 c16
        obtain ⟨c4, c10, c16⟩ := ST6.out.cells HC.out
        refine hK.out _ _ (S26.of c4.out c10.out c16.out) ?_
        clear hK K
        try simp only [Act.put, List.setIfInBounds_toArray, List.set_cons_zero, List.set_cons_succ, List.getElem_toArray, List.getElem_cons_zero, List.getElem_cons_succ]
        obtain ⟨F1, hF1⟩ := ST6.out.fin HC.out
        have FIN := Lib.hid hF1; clear hF1
        have k4 := c4.out; have k10 := c10.out; have k16 := c16.out
        have f4 := ST6.out.bd.frozen 256; have f10 := ST6.out.bd.frozen 257; have f16 := ST6.out.bd.frozen 258
        refine anyL_ready (rs := [18]) (by kernel_rfl) (by simp) (AllL.cons rfl (fun K hK => ?_) AllL.nil)
        go_simp
        refine hK.out _ _ (S26.none (by kernel_rfl) (by kernel_rfl) (by kernel_rfl)) ?_
        clear hK K
        try simp only [Act.put, List.setIfInBounds_toArray, List.set_cons_zero, List.set_cons_succ, List.getElem_toArray, List.getElem_cons_zero, List.getElem_cons_succ]
        refine anyL_take (i := 19) 20 (v := ?_) (fun _ => True) rfl rfl (by kernel_rfl) (by kernel_rfl) (by kernel_rfl) (by kernel_rfl) (by kernel_rfl) (fun _ _ _ h => h) (fun _ _ _ _ => trivial) (S26.irr (i := 19) (by decide) (by decide) (by decide)).1 (S26.irr (i := 19) (by decide) (by decide) (by decide)).2 (Or.inl ⟨by rfl, ?_⟩) (S26.none (by kernel_rfl) (by kernel_rfl) (by kernel_rfl)) ?_
        rotate_left 1
        · intro w hSw; (try dsimp only at hSw); go_simp <;> with_reducible rfl
        try simp only [Act.put, List.setIfInBounds_toArray, List.set_cons_zero, List.set_cons_succ, List.getElem_toArray, List.getElem_cons_zero, List.getElem_cons_succ]
        refine anyL_ready (rs := [20]) (by kernel_rfl) (by simp) (AllL.cons rfl (fun K hK => ?_) AllL.nil)
        go_simp
        refine hK.out _ _ (S26.none (by kernel_rfl) (by kernel_rfl) (by kernel_rfl)) ?_
        clear hK K
        try simp only [Act.put, List.setIfInBounds_toArray, List.set_cons_zero, List.set_cons_succ, List.getElem_toArray, List.getElem_cons_zero, List.getElem_cons_succ]
        refine anyL_take (i := 21) 22 (v := ?_) (fun _ => True) rfl rfl (by kernel_rfl) (by kernel_rfl) (by kernel_rfl) (by kernel_rfl) (by kernel_rfl) (fun _ _ _ h => h) (fun _ _ _ _ => trivial) (S26.irr (i := 21) (by decide) (by decide) (by decide)).1 (S26.irr (i := 21) (by decide) (by decide) (by decide)).2 (Or.inl ⟨by rfl, ?_⟩) (S26.none (by kernel_rfl) (by kernel_rfl) (by kernel_rfl)) ?_
        rotate_left 1
        · intro w hSw; (try dsimp only at hSw); go_simp <;> with_reducible rfl
        try simp only [Act.put, List.setIfInBounds_toArray, List.set_cons_zero, List.set_cons_succ, List.getElem_toArray, List.getElem_cons_zero, List.getElem_cons_succ]
        refine anyL_ready (rs := [22]) (by kernel_rfl) (by simp) (AllL.cons rfl (fun K hK => ?_) AllL.nil)
        go_simp
        refine hK.out _ _ (S26.none (by kernel_rfl) (by kernel_rfl) (by kernel_rfl)) ?_
        clear hK K
        try simp only [Act.put, List.setIfInBounds_toArray, List.set_cons_zero, List.set_cons_succ, List.getElem_toArray, List.getElem_cons_zero, List.getElem_cons_succ]
        refine anyL_done (by kernel_rfl) ?_ _
        exact hQ.out _ _ _ _ _ _ _ _ _ _ _ _ _ _ _ _ _ _ _ _ _ _ _ _ FIN.out
    ·
      go_simp
      refine hK.out _ _ (S26.of (cell_later (below_alloc _ _) c4.out) (cell_later (below_alloc _ _) c10.out) (cell_later (below_alloc _ _) c16.out)) ?_
      clear hK K
      obtain ⟨w2, hw⟩ : ∃ w', w' = w1.alloc (.cells #[.int .u32 (y : Int)] 34) := ⟨_, rfl⟩
      obtain ⟨gb3, hgb⟩ : ∃ gb, gb = w1.heap.size := ⟨_, rfl⟩
      have ST2 : Hid (St26 wS wB w2 N0 bR bD l i m g H0 row (dcells cl vn vf ve) vn vf ve _ _) := Lib.hid (by rw [hw]; exact ST1.out.alloc _)
      have BB3 : Hid (Blk w2 gb3 34 #[.int .u32 (y : Int)] ∧ H0 ≤ gb3) := Lib.hid ⟨by rw [hw, hgb]; exact Blk.new _ _ _ rfl, by rw [hgb]; exact ST1.out.h0⟩
      have BB1' := BB1; clear BB1
      have BB1 : Hid (Blk w2 gb1 _ _ ∧ H0 ≤ gb1) := Lib.hid (by rw [hw]; exact ⟨BB1'.out.1.alloc _, BB1'.out.2⟩)
      clear BB1'
      rw [← hw, ← hgb]
      clear hw hgb ST1 c4 c10 c16
      obtain ⟨c4, c10, c16⟩ := ST2.out.cells HC.out
      try simp only [Act.put, List.setIfInBounds_toArray, List.set_cons_zero, List.set_cons_succ, List.getElem_toArray, List.getElem_cons_zero, List.getElem_cons_succ]
      refine anyL_ready (rs := [4, 9]) (by kernel_rfl) (by simp) (AllL.cons rfl (fun K hK => ?_) (AllL.cons rfl (fun K hK => ?_) AllL.nil))
      ·
        refine step_append_one rfl (.tmp 102) (.tmp 104) 23 35 rfl Tryd.underlying23 infoRow rfl N0 vn (gs.map (rowV m)) rfl ST2.out.ol.on gb1 1 (rowV m g) rfl ((BB1.out.1.cell 0).trans rfl) rfl hN4.out.1 hN4.out.2 (ST2.out.base) ?_
        intro v' w3 ho hg ha
        obtain ⟨A1, cp1, hv, _⟩ := own_form ho
        obtain ⟨L1, hL⟩ : ∃ L, L = ((gs.map (rowV m)) ++ [(rowV m g)]).length := ⟨_, rfl⟩
        rw [← hL] at hv
        clear hL
        rw [hv] at ho ha ⊢
        clear hv
        have ST3 := Lib.hid (ST2.out.appN HG.out.1 HG.out.2.1 HG.out.2.2 ho hg)
        have BB3' := BB3; clear BB3
        have BB3 : Hid (Blk w3 gb3 _ _ ∧ H0 ≤ gb3) := Lib.hid ⟨BB3'.out.1.grown hg (fun e => by have := HV.out.1 _ e; have := BB3'.out.2; omega), BB3'.out.2⟩
        clear BB3'
        clear ho hg ha ST2 BB1 c4 c10 c16
        obtain ⟨c4, c10, c16⟩ := ST3.out.cells HC.out
        refine hK.out _ _ (S26.of c4.out c10.out c16.out) ?_
        clear hK K
        try simp only [Act.put, List.setIfInBounds_toArray, List.set_cons_zero, List.set_cons_succ, List.getElem_toArray, List.getElem_cons_zero, List.getElem_cons_succ]
        refine anyL_take (i := 17) 18 (v := ?_) (fun _ => True) rfl rfl (by kernel_rfl) (by kernel_rfl) (by kernel_rfl) (by kernel_rfl) (by kernel_rfl) (fun _ _ _ h => h) (fun _ _ _ _ => trivial) (S26.irr (i := 17) (by decide) (by decide) (by decide)).1 (S26.irr (i := 17) (by decide) (by decide) (by decide)).2 (Or.inl ⟨by rfl, ?_⟩) (S26.of c4.out c10.out c16.out) ?_
        rotate_left 1
        · intro w hSw; (try dsimp only at hSw); go_simp <;> with_reducible rfl
        try simp only [Act.put, List.setIfInBounds_toArray, List.set_cons_zero, List.set_cons_succ, List.getElem_toArray, List.getElem_cons_zero, List.getElem_cons_succ]
        refine anyL_ready (rs := [9]) (by kernel_rfl) (by simp) (AllL.cons rfl (fun K hK => ?_) AllL.nil)
        go_simp
        refine hK.out _ _ (S26.of (cell_later (below_alloc _ _) c4.out) (cell_later (below_alloc _ _) c10.out) (cell_later (below_alloc _ _) c16.out)) ?_
        clear hK K
        obtain ⟨w4, hw⟩ : ∃ w', w' = w3.alloc (.cells #[.int .u32 (x : Int)] 34) := ⟨_, rfl⟩
        obtain ⟨gb2, hgb⟩ : ∃ gb, gb = w3.heap.size := ⟨_, rfl⟩
        have ST4 : Hid (St26 wS wB w4 N0 bR bD l i m g H0 row (dcells cl vn vf ve) (.slice A1 _ cp1) vf ve _ _) := Lib.hid (by rw [hw]; exact ST3.out.alloc _)
        have BB2 : Hid (Blk w4 gb2 34 #[.int .u32 (x : Int)] ∧ H0 ≤ gb2) := Lib.hid ⟨by rw [hw, hgb]; exact Blk.new _ _ _ rfl, by rw [hgb]; exact ST3.out.h0⟩
        have BB3' := BB3; clear BB3
        have BB3 : Hid (Blk w4 gb3 _ _ ∧ H0 ≤ gb3) := Lib.hid (by rw [hw]; exact ⟨BB3'.out.1.alloc _, BB3'.out.2⟩)
        clear BB3'
        rw [← hw, ← hgb]
        clear hw hgb ST3 c4 c10 c16
        obtain ⟨c4, c10, c16⟩ := ST4.out.cells HC.out
        try simp only [Act.put, List.setIfInBounds_toArray, List.set_cons_zero, List.set_cons_succ, List.getElem_toArray, List.getElem_cons_zero, List.getElem_cons_succ]
        refine anyL_ready (rs := [10]) (by kernel_rfl) (by simp) (AllL.cons rfl (fun K hK => ?_) AllL.nil)
        refine step_append_one rfl (.tmp 107) (.tmp 110) 24 34 rfl Tryd.underlying24 infoU32 rfl N0 vf (t.fo.map uV) rfl ST4.out.ol.of_ gb2 1 (uV x) rfl ((BB2.out.1.cell 0).trans rfl) rfl hN10.out.1 hN10.out.2 (ST4.out.base) ?_
        intro v' w5 ho hg ha
        obtain ⟨A2, cp2, hv, _⟩ := own_form ho
        obtain ⟨L2, hL⟩ : ∃ L, L = ((t.fo.map uV) ++ [(uV x)]).length := ⟨_, rfl⟩
        rw [← hL] at hv
        clear hL
        rw [hv] at ho ha ⊢
        clear hv
        have ST5 := Lib.hid (ST4.out.appF ho hg ha)
        have BB3' := BB3; clear BB3
        have BB3 : Hid (Blk w5 gb3 _ _ ∧ H0 ≤ gb3) := Lib.hid ⟨BB3'.out.1.grown hg (fun e => by have := HV.out.2.1 _ e; have := BB3'.out.2; omega), BB3'.out.2⟩
        clear BB3'
        clear ho hg ha ST4 BB2 c4 c10 c16
        obtain ⟨c4, c10, c16⟩ := ST5.out.cells HC.out
        refine hK.out _ _ (S26.of c4.out c10.out c16.out) ?_
        clear hK K
        try simp only [Act.put, List.setIfInBounds_toArray, List.set_cons_zero, List.set_cons_succ, List.getElem_toArray, List.getElem_cons_zero, List.getElem_cons_succ]
        refine anyL_ready (rs := [16]) (by kernel_rfl) (by simp) (AllL.cons rfl (fun K hK => ?_) AllL.nil)
        refine step_append_one rfl (.tmp 113) (.tmp 116) 24 34 rfl Tryd.underlying24 infoU32 rfl N0 ve (t.en.map uV) rfl ST5.out.ol.oe gb3 1 (uV y) rfl ((BB3.out.1.cell 0).trans rfl) rfl hN16.out.1 hN16.out.2 (ST5.out.base) ?_
        intro v' w6 ho hg ha
        obtain ⟨A3, cp3, hv, _⟩ := own_form ho
        obtain ⟨L3, hL⟩ : ∃ L, L = ((t.en.map uV) ++ [(uV y)]).length := ⟨_, rfl⟩
        rw [← hL] at hv
        clear hL
        rw [hv] at ho ha ⊢
        clear hv
        have ST6 := Lib.hid (ST5.out.appE ho hg ha)
        clear ho hg ha ST5 BB3 c4 c10 c16
        obtain ⟨c4, c10, c16⟩ := ST6.out.cells HC.out
        refine hK.out _ _ (S26.of c4.out c10.out c16.out) ?_
        clear hK K
        try simp only [Act.put, List.setIfInBounds_toArray, List.set_cons_zero, List.set_cons_succ, List.getElem_toArray, List.getElem_cons_zero, List.getElem_cons_succ]
        obtain ⟨F1, hF1⟩ := ST6.out.fin HC.out
        have FIN := Lib.hid hF1; clear hF1
        have k4 := c4.out; have k10 := c10.out; have k16 := c16.out
        have f4 := ST6.out.bd.frozen 256; have f10 := ST6.out.bd.frozen 257; have f16 := ST6.out.bd.frozen 258
        refine anyL_ready (rs := [18]) (by kernel_rfl) (by simp) (AllL.cons rfl (fun K hK => ?_) AllL.nil)
        go_simp
        refine hK.out _ _ (S26.none (by kernel_rfl) (by kernel_rfl) (by kernel_rfl)) ?_
        clear hK K
        try simp only [Act.put, List.setIfInBounds_toArray, List.set_cons_zero, List.set_cons_succ, List.getElem_toArray, List.getElem_cons_zero, List.getElem_cons_succ]
        refine anyL_take (i := 19) 20 (v := ?_) (fun _ => True) rfl rfl (by kernel_rfl) (by kernel_rfl) (by kernel_rfl) (by kernel_rfl) (by kernel_rfl) (fun _ _ _ h => h) (fun _ _ _ _ => trivial) (S26.irr (i := 19) (by decide) (by decide) (by decide)).1 (S26.irr (i := 19) (by decide) (by decide) (by decide)).2 (Or.inl ⟨by rfl, ?_⟩) (S26.none (by kernel_rfl) (by kernel_rfl) (by kernel_rfl)) ?_
        rotate_left 1
        · intro w hSw; (try dsimp only at hSw); go_simp <;> with_reducible rfl
        try simp only [Act.put, List.setIfInBounds_toArray, List.set_cons_zero, List.set_cons_succ, List.getElem_toArray, List.getElem_cons_zero, List.getElem_cons_succ]
        refine anyL_ready (rs := [20]) (by kernel_rfl) (by simp) (AllL.cons rfl (fun K hK => ?_) AllL.nil)
        go_simp
        refine hK.out _ _ (S26.none (by kernel_rfl) (by kernel_rfl) (by kernel_rfl)) ?_
        clear hK K
        try simp only [Act.put, List.setIfInBounds_toArray, List.set_cons_zero, List.set_cons_succ, List.getElem_toArray, List.getElem_cons_zero, List.getElem_cons_succ]
        refine anyL_take (i := 21) 22 (v := ?_) (fun _ => True) rfl rfl (by kernel_rfl) (by kernel_rfl) (by kernel_rfl) (by kernel_rfl) (by kernel_rfl) (fun _ _ _ h => h) (fun _ _ _ _ => trivial) (S26.irr (i := 21) (by decide) (by decide) (by decide)).1 (S26.irr (i := 21) (by decide) (by decide) (by decide)).2 (Or.inl ⟨by rfl, ?_⟩) (S26.none (by kernel_rfl) (by kernel_rfl) (by kernel_rfl)) ?_
        rotate_left 1
        · intro w hSw; (try dsimp only at hSw); go_simp <;> with_reducible rfl
        try simp only [Act.put, List.setIfInBounds_toArray, List.set_cons_zero, List.set_cons_succ, List.getElem_toArray, List.getElem_cons_zero, List.getElem_cons_succ]
        refine anyL_ready (rs := [22]) (by kernel_rfl) (by simp) (AllL.cons rfl (fun K hK => ?_) AllL.nil)
        go_simp
        refine hK.out _ _ (S26.none (by kernel_rfl) (by kernel_rfl) (by kernel_rfl)) ?_
        clear hK K
        try simp only [Act.put, List.setIfInBounds_toArray, List.set_cons_zero, List.set_cons_succ, List.getElem_toArray, List.getElem_cons_zero, List.getElem_cons_succ]
        refine anyL_done (by kernel_rfl) ?_ _
        exact hQ.out _ _ _ _ _ _ _ _ _ _ _ _ _ _ _ _ _ _ _ _ _ _ _ _ FIN.out
      ·
        go_simp
        refine hK.out _ _ (S26.of (cell_later (below_alloc _ _) c4.out) (cell_later (below_alloc _ _) c10.out) (cell_later (below_alloc _ _) c16.out)) ?_
        clear hK K
        obtain ⟨w3, hw⟩ : ∃ w', w' = w2.alloc (.cells #[.int .u32 (x : Int)] 34) := ⟨_, rfl⟩
        obtain ⟨gb2, hgb⟩ : ∃ gb, gb = w2.heap.size := ⟨_, rfl⟩
        have ST3 : Hid (St26 wS wB w3 N0 bR bD l i m g H0 row (dcells cl vn vf ve) vn vf ve _ _) := Lib.hid (by rw [hw]; exact ST2.out.alloc _)
        have BB2 : Hid (Blk w3 gb2 34 #[.int .u32 (x : Int)] ∧ H0 ≤ gb2) := Lib.hid ⟨by rw [hw, hgb]; exact Blk.new _ _ _ rfl, by rw [hgb]; exact ST2.out.h0⟩
        have BB1' := BB1; clear BB1
        have BB1 : Hid (Blk w3 gb1 _ _ ∧ H0 ≤ gb1) := Lib.hid (by rw [hw]; exact ⟨BB1'.out.1.alloc _, BB1'.out.2⟩)
        clear BB1'
        have BB3' := BB3; clear BB3
        have BB3 : Hid (Blk w3 gb3 _ _ ∧ H0 ≤ gb3) := Lib.hid (by rw [hw]; exact ⟨BB3'.out.1.alloc _, BB3'.out.2⟩)
        clear BB3'
        rw [← hw, ← hgb]
        clear hw hgb ST2 c4 c10 c16
        obtain ⟨c4, c10, c16⟩ := ST3.out.cells HC.out
        try simp only [Act.put, List.setIfInBounds_toArray, List.set_cons_zero, List.set_cons_succ, List.getElem_toArray, List.getElem_cons_zero, List.getElem_cons_succ]
        refine anyL_ready (rs := [4]) (by kernel_rfl) (by simp) (AllL.cons rfl (fun K hK => ?_) AllL.nil)
        refine step_append_one rfl (.tmp 102) (.tmp 104) 23 35 rfl Tryd.underlying23 infoRow rfl N0 vn (gs.map (rowV m)) rfl ST3.out.ol.on gb1 1 (rowV m g) rfl ((BB1.out.1.cell 0).trans rfl) rfl hN4.out.1 hN4.out.2 (ST3.out.base) ?_
        intro v' w4 ho hg ha
        obtain ⟨A1, cp1, hv, _⟩ := own_form ho
        obtain ⟨L1, hL⟩ : ∃ L, L = ((gs.map (rowV m)) ++ [(rowV m g)]).length := ⟨_, rfl⟩
        rw [← hL] at hv
        clear hL
        rw [hv] at ho ha ⊢
        clear hv
        have ST4 := Lib.hid (ST3.out.appN HG.out.1 HG.out.2.1 HG.out.2.2 ho hg)
        have BB2' := BB2; clear BB2
        have BB2 : Hid (Blk w4 gb2 _ _ ∧ H0 ≤ gb2) := Lib.hid ⟨BB2'.out.1.grown hg (fun e => by have := HV.out.1 _ e; have := BB2'.out.2; omega), BB2'.out.2⟩
        clear BB2'
        have BB3' := BB3; clear BB3
        have BB3 : Hid (Blk w4 gb3 _ _ ∧ H0 ≤ gb3) := Lib.hid ⟨BB3'.out.1.grown hg (fun e => by have := HV.out.1 _ e; have := BB3'.out.2; omega), BB3'.out.2⟩
        clear BB3'
        clear ho hg ha ST3 BB1 c4 c10 c16
        obtain ⟨c4, c10, c16⟩ := ST4.out.cells HC.out
        refine hK.out _ _ (S26.of c4.out c10.out c16.out) ?_
        clear hK K
        try simp only [Act.put, List.setIfInBounds_toArray, List.set_cons_zero, List.set_cons_succ, List.getElem_toArray, List.getElem_cons_zero, List.getElem_cons_succ]
        refine anyL_take (i := 17) 18 (v := ?_) (fun _ => True) rfl rfl (by kernel_rfl) (by kernel_rfl) (by kernel_rfl) (by kernel_rfl) (by kernel_rfl) (fun _ _ _ h => h) (fun _ _ _ _ => trivial) (S26.irr (i := 17) (by decide) (by decide) (by decide)).1 (S26.irr (i := 17) (by decide) (by decide) (by decide)).2 (Or.inl ⟨by rfl, ?_⟩) (S26.of c4.out c10.out c16.out) ?_
        rotate_left 1
        · intro w hSw; (try dsimp only at hSw); go_simp <;> with_reducible rfl
        try simp only [Act.put, List.setIfInBounds_toArray, List.set_cons_zero, List.set_cons_succ, List.getElem_toArray, List.getElem_cons_zero, List.getElem_cons_succ]
        refine anyL_ready (rs := [10]) (by kernel_rfl) (by simp) (AllL.cons rfl (fun K hK => ?_) AllL.nil)
        refine step_append_one rfl (.tmp 107) (.tmp 110) 24 34 rfl Tryd.underlying24 infoU32 rfl N0 vf (t.fo.map uV) rfl ST4.out.ol.of_ gb2 1 (uV x) rfl ((BB2.out.1.cell 0).trans rfl) rfl hN10.out.1 hN10.out.2 (ST4.out.base) ?_
        intro v' w5 ho hg ha
        obtain ⟨A2, cp2, hv, _⟩ := own_form ho
        obtain ⟨L2, hL⟩ : ∃ L, L = ((t.fo.map uV) ++ [(uV x)]).length := ⟨_, rfl⟩
        rw [← hL] at hv
        clear hL
        rw [hv] at ho ha ⊢
        clear hv
        have ST5 := Lib.hid (ST4.out.appF ho hg ha)
        have BB3' := BB3; clear BB3
        have BB3 : Hid (Blk w5 gb3 _ _ ∧ H0 ≤ gb3) := Lib.hid ⟨BB3'.out.1.grown hg (fun e => by have := HV.out.2.1 _ e; have := BB3'.out.2; omega), BB3'.out.2⟩
        clear BB3'
        clear ho hg ha ST4 BB2 c4 c10 c16
        obtain ⟨c4, c10, c16⟩ := ST5.out.cells HC.out
        refine hK.out _ _ (S26.of c4.out c10.out c16.out) ?_
        clear hK K
        try simp only [Act.put, List.setIfInBounds_toArray, List.set_cons_zero, List.set_cons_succ, List.getElem_toArray, List.getElem_cons_zero, List.getElem_cons_succ]
        refine anyL_ready (rs := [16]) (by kernel_rfl) (by simp) (AllL.cons rfl (fun K hK => ?_) AllL.nil)
        refine step_append_one rfl (.tmp 113) (.tmp 116) 24 34 rfl Tryd.underlying24 infoU32 rfl N0 ve (t.en.map uV) rfl ST5.out.ol.oe gb3 1 (uV y) rfl ((BB3.out.1.cell 0).trans rfl) rfl hN16.out.1 hN16.out.2 (ST5.out.base) ?_
        intro v' w6 ho hg ha
        obtain ⟨A3, cp3, hv, _⟩ := own_form ho
        obtain ⟨L3, hL⟩ : ∃ L, L = ((t.en.map uV) ++ [(uV y)]).length := ⟨_, rfl⟩
        rw [← hL] at hv
        clear hL
        rw [hv] at ho ha ⊢
        clear hv
        have ST6 := Lib.hid (ST5.out.appE ho hg ha)
        clear ho hg ha ST5 BB3 c4 c10 c16
        obtain ⟨c4, c10, c16⟩ := ST6.out.cells HC.out
        refine hK.out _ _ (S26.of c4.out c10.out c16.out) ?_
        clear hK K
        try simp only [Act.put, List.setIfInBounds_toArray, List.set_cons_zero, List.set_cons_succ, List.getElem_toArray, List.getElem_cons_zero, List.getElem_cons_succ]
        obtain ⟨F1, hF1⟩ := ST6.out.fin HC.out
        have FIN := Lib.hid hF1; clear hF1
        have k4 := c4.out; have k10 := c10.out; have k16 := c16.out
        have f4 := ST6.out.bd.frozen 256; have f10 := ST6.out.bd.frozen 257; have f16 := ST6.out.bd.frozen 258
        refine anyL_ready (rs := [18]) (by kernel_rfl) (by simp) (AllL.cons rfl (fun K hK => ?_) AllL.nil)
        go_simp
        refine hK.out _ _ (S26.none (by kernel_rfl) (by kernel_rfl) (by kernel_rfl)) ?_
        clear hK K
        try simp only [Act.put, List.setIfInBounds_toArray, List.set_cons_zero, List.set_cons_succ, List.getElem_toArray, List.getElem_cons_zero, List.getElem_cons_succ]
        refine anyL_take (i := 19) 20 (v := ?_) (fun _ => True) rfl rfl (by kernel_rfl) (by kernel_rfl) (by kernel_rfl) (by kernel_rfl) (by kernel_rfl) (fun _ _ _ h => h) (fun _ _ _ _ => trivial) (S26.irr (i := 19) (by decide) (by decide) (by decide)).1 (S26.irr (i := 19) (by decide) (by decide) (by decide)).2 (Or.inl ⟨by rfl, ?_⟩) (S26.none (by kernel_rfl) (by kernel_rfl) (by kernel_rfl)) ?_
        rotate_left 1
        · intro w hSw; (try dsimp only at hSw); go_simp <;> with_reducible rfl
        try simp only [Act.put, List.setIfInBounds_toArray, List.set_cons_zero, List.set_cons_succ, List.getElem_toArray, List.getElem_cons_zero, List.getElem_cons_succ]
        refine anyL_ready (rs := [20]) (by kernel_rfl) (by simp) (AllL.cons rfl (fun K hK => ?_) AllL.nil)
        go_simp
        refine hK.out _ _ (S26.none (by kernel_rfl) (by kernel_rfl) (by kernel_rfl)) ?_
        clear hK K
        try simp only [Act.put, List.setIfInBounds_toArray, List.set_cons_zero, List.set_cons_succ, List.getElem_toArray, List.getElem_cons_zero, List.getElem_cons_succ]
        refine anyL_take (i := 21) 22 (v := ?_) (fun _ => True) rfl rfl (by kernel_rfl) (by kernel_rfl) (by kernel_rfl) (by kernel_rfl) (by kernel_rfl) (fun _ _ _ h => h) (fun _ _ _ _ => trivial) (S26.irr (i := 21) (by decide) (by decide) (by decide)).1 (S26.irr (i := 21) (by decide) (by decide) (by decide)).2 (Or.inl ⟨by rfl, ?_⟩) (S26.none (by kernel_rfl) (by kernel_rfl) (by kernel_rfl)) ?_
        rotate_left 1
        · intro w hSw; (try dsimp only at hSw); go_simp <;> with_reducible rfl
        try simp only [Act.put, List.setIfInBounds_toArray, List.set_cons_zero, List.set_cons_succ, List.getElem_toArray, List.getElem_cons_zero, List.getElem_cons_succ]
        refine anyL_ready (rs := [22]) (by kernel_rfl) (by simp) (AllL.cons rfl (fun K hK => ?_) AllL.nil)
        go_simp
        refine hK.out _ _ (S26.none (by kernel_rfl) (by kernel_rfl) (by kernel_rfl)) ?_
        clear hK K
        try simp only [Act.put, List.setIfInBounds_toArray, List.set_cons_zero, List.set_cons_succ, List.getElem_toArray, List.getElem_cons_zero, List.getElem_cons_succ]
        refine anyL_done (by kernel_rfl) ?_ _
        exact hQ.out _ _ _ _ _ _ _ _ _ _ _ _ _ _ _ _ _ _ _ _ _ _ _ _ FIN.out
  ·
    go_simp
    refine hK.out _ _ (S26.of (cell_later (below_alloc _ _) c4.out) (cell_later (below_alloc _ _) c10.out) (cell_later (below_alloc _ _) c16.out)) ?_
    clear hK K
    obtain ⟨w1, hw⟩ : ∃ w', w' = w0.alloc (.cells #[.int .u32 (x : Int)] 34) := ⟨_, rfl⟩
    obtain ⟨gb2, hgb⟩ : ∃ gb, gb = w0.heap.size := ⟨_, rfl⟩
    have ST1 : Hid (St26 wS wB w1 N0 bR bD l i m g H0 row (dcells cl vn vf ve) vn vf ve _ _) := Lib.hid (by rw [hw]; exact ST0.out.alloc _)
    have BB2 : Hid (Blk w1 gb2 34 #[.int .u32 (x : Int)] ∧ H0 ≤ gb2) := Lib.hid ⟨by rw [hw, hgb]; exact Blk.new _ _ _ rfl, by rw [hgb]; exact ST0.out.h0⟩
    rw [← hw, ← hgb]
    clear hw hgb ST0 c4 c10 c16
    obtain ⟨c4, c10, c16⟩ := ST1.out.cells HC.out
    try simp only [Act.put, List.setIfInBounds_toArray, List.set_cons_zero, List.set_cons_succ, List.getElem_toArray, List.getElem_cons_zero, List.getElem_cons_succ]
    refine anyL_ready (rs := [3, 15]) (by kernel_rfl) (by simp) (AllL.cons rfl (fun K hK => ?_) (AllL.cons rfl (fun K hK => ?_) AllL.nil))
    ·
      go_simp
      refine hK.out _ _ (S26.of (cell_later (below_alloc _ _) c4.out) (cell_later (below_alloc _ _) c10.out) (cell_later (below_alloc _ _) c16.out)) ?_
      clear hK K
      obtain ⟨w2, hw⟩ : ∃ w', w' = w1.alloc (.cells #[.slice (some ⟨g, 0, none⟩) m m] 35) := ⟨_, rfl⟩
      obtain ⟨gb1, hgb⟩ : ∃ gb, gb = w1.heap.size := ⟨_, rfl⟩
      have ST2 : Hid (St26 wS wB w2 N0 bR bD l i m g H0 row (dcells cl vn vf ve) vn vf ve _ _) := Lib.hid (by rw [hw]; exact ST1.out.alloc _)
      have BB1 : Hid (Blk w2 gb1 35 #[.slice (some ⟨g, 0, none⟩) m m] ∧ H0 ≤ gb1) := Lib.hid ⟨by rw [hw, hgb]; exact Blk.new _ _ _ rfl, by rw [hgb]; exact ST1.out.h0⟩
      have BB2' := BB2; clear BB2
      have BB2 : Hid (Blk w2 gb2 _ _ ∧ H0 ≤ gb2) := Lib.hid (by rw [hw]; exact ⟨BB2'.out.1.alloc _, BB2'.out.2⟩)
      clear BB2'
      rw [← hw, ← hgb]
      clear hw hgb ST1 c4 c10 c16
      obtain ⟨c4, c10, c16⟩ := ST2.out.cells HC.out
      try simp only [Act.put, List.setIfInBounds_toArray, List.set_cons_zero, List.set_cons_succ, List.getElem_toArray, List.getElem_cons_zero, List.getElem_cons_succ]
      refine anyL_ready (rs := [4, 15]) (by kernel_rfl) (by simp) (AllL.cons rfl (fun K hK => ?_) (AllL.cons rfl (fun K hK => ?_) AllL.nil))
      ·
        refine step_append_one rfl (.tmp 102) (.tmp 104) 23 35 rfl Tryd.underlying23 infoRow rfl N0 vn (gs.map (rowV m)) rfl ST2.out.ol.on gb1 1 (rowV m g) rfl ((BB1.out.1.cell 0).trans rfl) rfl hN4.out.1 hN4.out.2 (ST2.out.base) ?_
        intro v' w3 ho hg ha
        obtain ⟨A1, cp1, hv, _⟩ := own_form ho
        obtain ⟨L1, hL⟩ : ∃ L, L = ((gs.map (rowV m)) ++ [(rowV m g)]).length := ⟨_, rfl⟩
        rw [← hL] at hv
        clear hL
        rw [hv] at ho ha ⊢
        clear hv
        have ST3 := Lib.hid (ST2.out.appN HG.out.1 HG.out.2.1 HG.out.2.2 ho hg)
        have BB2' := BB2; clear BB2
        have BB2 : Hid (Blk w3 gb2 _ _ ∧ H0 ≤ gb2) := Lib.hid ⟨BB2'.out.1.grown hg (fun e => by have := HV.out.1 _ e; have := BB2'.out.2; omega), BB2'.out.2⟩
        clear BB2'
        clear ho hg ha ST2 BB1 c4 c10 c16
        obtain ⟨c4, c10, c16⟩ := ST3.out.cells HC.out
        refine hK.out _ _ (S26.of c4.out c10.out c16.out) ?_
        clear hK K
        try simp only [Act.put, List.setIfInBounds_toArray, List.set_cons_zero, List.set_cons_succ, List.getElem_toArray, List.getElem_cons_zero, List.getElem_cons_succ]
        refine anyL_take (i := 17) 18 (v := ?_) (fun _ => True) rfl rfl (by kernel_rfl) (by kernel_rfl) (by kernel_rfl) (by kernel_rfl) (by kernel_rfl) (fun _ _ _ h => h) (fun _ _ _ _ => trivial) (S26.irr (i := 17) (by decide) (by decide) (by decide)).1 (S26.irr (i := 17) (by decide) (by decide) (by decide)).2 (Or.inl ⟨by rfl, ?_⟩) (S26.of c4.out c10.out c16.out) ?_
        rotate_left 1
        · intro w hSw; (try dsimp only at hSw); go_simp <;> with_reducible rfl
        try simp only [Act.put, List.setIfInBounds_toArray, List.set_cons_zero, List.set_cons_succ, List.getElem_toArray, List.getElem_cons_zero, List.getElem_cons_succ]
        refine anyL_ready (rs := [10, 15]) (by kernel_rfl) (by simp) (AllL.cons rfl (fun K hK => ?_) (AllL.cons rfl (fun K hK => ?_) AllL.nil))
        ·
          refine step_append_one rfl (.tmp 107) (.tmp 110) 24 34 rfl Tryd.underlying24 infoU32 rfl N0 vf (t.fo.map uV) rfl ST3.out.ol.of_ gb2 1 (uV x) rfl ((BB2.out.1.cell 0).trans rfl) rfl hN10.out.1 hN10.out.2 (ST3.out.base) ?_
          intro v' w4 ho hg ha
          obtain ⟨A2, cp2, hv, _⟩ := own_form ho
          obtain ⟨L2, hL⟩ : ∃ L, L = ((t.fo.map uV) ++ [(uV x)]).length := ⟨_, rfl⟩
          rw [← hL] at hv
          clear hL
          rw [hv] at ho ha ⊢
          clear hv
          have ST4 := Lib.hid (ST3.out.appF ho hg ha)
          clear ho hg ha ST3 BB2 c4 c10 c16
          obtain ⟨c4, c10, c16⟩ := ST4.out.cells HC.out
          refine hK.out _ _ (S26.of c4.out c10.out c16.out) ?_
          clear hK K
          try simp only [Act.put, List.setIfInBounds_toArray, List.set_cons_zero, List.set_cons_succ, List.getElem_toArray, List.getElem_cons_zero, List.getElem_cons_succ]
          refine anyL_ready (rs := [15]) (by kernel_rfl) (by simp) (AllL.cons rfl (fun K hK => ?_) AllL.nil)
          go_simp
          refine hK.out _ _ (S26.of (cell_later (below_alloc _ _) c4.out) (cell_later (below_alloc _ _) c10.out) (cell_later (below_alloc _ _) c16.out)) ?_
          clear hK K
          obtain ⟨w5, hw⟩ : ∃ w', w' = w4.alloc (.cells #[.int .u32 (y : Int)] 34) := ⟨_, rfl⟩
          obtain ⟨gb3, hgb⟩ : ∃ gb, gb = w4.heap.size := ⟨_, rfl⟩
          have ST5 : Hid (St26 wS wB w5 N0 bR bD l i m g H0 row (dcells cl vn vf ve) (.slice A1 _ cp1) (.slice A2 _ cp2) ve _ _) := Lib.hid (by rw [hw]; exact ST4.out.alloc _)
          have BB3 : Hid (Blk w5 gb3 34 #[.int .u32 (y : Int)] ∧ H0 ≤ gb3) := Lib.hid ⟨by rw [hw, hgb]; exact Blk.new _ _ _ rfl, by rw [hgb]; exact ST4.out.h0⟩
          rw [← hw, ← hgb]
          clear hw hgb ST4 c4 c10 c16
          obtain ⟨c4, c10, c16⟩ := ST5.out.cells HC.out
          try simp only [Act.put, List.setIfInBounds_toArray, List.set_cons_zero, List.set_cons_succ, List.getElem_toArray, List.getElem_cons_zero, List.getElem_cons_succ]
          refine anyL_ready (rs := [16]) (by kernel_rfl) (by simp) (AllL.cons rfl (fun K hK => ?_) AllL.nil)
          refine step_append_one rfl (.tmp 113) (.tmp 116) 24 34 rfl Tryd.underlying24 infoU32 rfl N0 ve (t.en.map uV) rfl ST5.out.ol.oe gb3 1 (uV y) rfl ((BB3.out.1.cell 0).trans rfl) rfl hN16.out.1 hN16.out.2 (ST5.out.base) ?_
          intro v' w6 ho hg ha
          obtain ⟨A3, cp3, hv, _⟩ := own_form ho
          obtain ⟨L3, hL⟩ : ∃ L, L = ((t.en.map uV) ++ [(uV y)]).length := ⟨_, rfl⟩
          rw [← hL] at hv
          clear hL
          rw [hv] at ho ha ⊢
          clear hv
          have ST6 := Lib.hid (ST5.out.appE ho hg ha)
          clear ho hg ha ST5 BB3 c4 c10 c16
          obtain ⟨c4, c10, c16⟩ := ST6.out.cells HC.out
          refine hK.out _ _ (S26.of c4.out c10.out c16.out) ?_
          clear hK K
          try simp only [Act.put, List.setIfInBounds_toArray, List.set_cons_zero, List.set_cons_succ, List.getElem_toArray, List.getElem_cons_zero, List.getElem_cons_succ]
          obtain ⟨F1, hF1⟩ := ST6.out.fin HC.out
          have FIN := Lib.hid hF1; clear hF1
          have k4 := c4.out; have k10 := c10.out; have k16 := c16.out
          have f4 := ST6.out.bd.frozen 256; have f10 := ST6.out.bd.frozen 257; have f16 := ST6.out.bd.frozen 258
          refine anyL_ready (rs := [18]) (by kernel_rfl) (by simp) (AllL.cons rfl (fun K hK => ?_) AllL.nil)
          go_simp
          refine hK.out _ _ (S26.none (by kernel_rfl) (by kernel_rfl) (by kernel_rfl)) ?_
          clear hK K
          try simp only [Act.put, List.setIfInBounds_toArray, List.set_cons_zero, List.set_cons_succ, List.getElem_toArray, List.getElem_cons_zero, List.getElem_cons_succ]
          refine anyL_take (i := 19) 20 (v := ?_) (fun _ => True) rfl rfl (by kernel_rfl) (by kernel_rfl) (by kernel_rfl) (by kernel_rfl) (by kernel_rfl) (fun _ _ _ h => h) (fun _ _ _ _ => trivial) (S26.irr (i := 19) (by decide) (by decide) (by decide)).1 (S26.irr (i := 19) (by decide) (by decide) (by decide)).2 (Or.inl ⟨by rfl, ?_⟩) (S26.none (by kernel_rfl) (by kernel_rfl) (by kernel_rfl)) ?_
          rotate_left 1
          · intro w hSw; (try dsimp only at hSw); go_simp <;> with_reducible rfl
          try simp only [Act.put, List.setIfInBounds_toArray, List.set_cons_zero, List.set_cons_succ, List.getElem_toArray, List.getElem_cons_zero, List.getElem_cons_succ]
          refine anyL_ready (rs := [20]) (by kernel_rfl) (by simp) (AllL.cons rfl (fun K hK => ?_) AllL.nil)
          go_simp
          refine hK.out _ _ (S26.none (by kernel_rfl) (by kernel_rfl) (by kernel_rfl)) ?_
          clear hK K
          try simp only [Act.put, List.setIfInBounds_toArray, List.set_cons_zero, List.set_cons_succ, List.getElem_toArray, List.getElem_cons_zero, List.getElem_cons_succ]
          refine anyL_take (i := 21) 22 (v := ?_) (fun _ => True) rfl rfl (by kernel_rfl) (by kernel_rfl) (by kernel_rfl) (by kernel_rfl) (by kernel_rfl) (fun _ _ _ h => h) (fun _ _ _ _ => trivial) (S26.irr (i := 21) (by decide) (by decide) (by decide)).1 (S26.irr (i := 21) (by decide) (by decide) (by decide)).2 (Or.inl ⟨by rfl, ?_⟩) (S26.none (by kernel_rfl) (by kernel_rfl) (by kernel_rfl)) ?_
          rotate_left 1
          · intro w hSw; (try dsimp only at hSw); go_simp <;> with_reducible rfl
          try simp only [Act.put, List.setIfInBounds_toArray, List.set_cons_zero, List.set_cons_succ, List.getElem_toArray, List.getElem_cons_zero, List.getElem_cons_succ]
          refine anyL_ready (rs := [22]) (by kernel_rfl) (by simp) (AllL.cons rfl (fun K hK => ?_) AllL.nil)
          go_simp
          refine hK.out _ _ (S26.none (by kernel_rfl) (by kernel_rfl) (by kernel_rfl)) ?_
          clear hK K
          try simp only [Act.put, List.setIfInBounds_toArray, List.set_cons_zero, List.set_cons_succ, List.getElem_toArray, List.getElem_cons_zero, List.getElem_cons_succ]
          refine anyL_done (by kernel_rfl) ?_ _
          exact hQ.out _ _ _ _ _ _ _ _ _ _ _ _ _ _ _ _ _ _ _ _ _ _ _ _ FIN.out
        ·
          go_simp
          refine hK.out _ _ (S26.of (cell_later (below_alloc _ _) c4.out) (cell_later (below_alloc _ _) c10.out) (cell_later (below_alloc _ _) c16.out)) ?_
          clear hK K
          obtain ⟨w4, hw⟩ : ∃ w', w' = w3.alloc (.cells #[.int .u32 (y : Int)] 34) := ⟨_, rfl⟩
          obtain ⟨gb3, hgb⟩ : ∃ gb, gb = w3.heap.size := ⟨_, rfl⟩
          have ST4 : Hid (St26 wS wB w4 N0 bR bD l i m g H0 row (dcells cl vn vf ve) (.slice A1 _ cp1) vf ve _ _) := Lib.hid (by rw [hw]; exact ST3.out.alloc _)
          have BB3 : Hid (Blk w4 gb3 34 #[.int .u32 (y : Int)] ∧ H0 ≤ gb3) := Lib.hid ⟨by rw [hw, hgb]; exact Blk.new _ _ _ rfl, by rw [hgb]; exact ST3.out.h0⟩
          have BB2' := BB2; clear BB2
          have BB2 : Hid (Blk w4 gb2 _ _ ∧ H0 ≤ gb2) := Lib.hid (by rw [hw]; exact ⟨BB2'.out.1.alloc _, BB2'.out.2⟩)
          clear BB2'
          rw [← hw, ← hgb]
          clear hw hgb ST3 c4 c10 c16
          obtain ⟨c4, c10, c16⟩ := ST4.out.cells HC.out
          try simp only [Act.put, List.setIfInBounds_toArray, List.set_cons_zero, List.set_cons_succ, List.getElem_toArray, List.getElem_cons_zero, List.getElem_cons_succ]
          refine anyL_ready (rs := [10]) (by kernel_rfl) (by simp) (AllL.cons rfl (fun K hK => ?_) AllL.nil)
          refine step_append_one rfl (.tmp 107) (.tmp 110) 24 34 rfl Tryd.underlying24 infoU32 rfl N0 vf (t.fo.map uV) rfl ST4.out.ol.of_ gb2 1 (uV x) rfl ((BB2.out.1.cell 0).trans rfl) rfl hN10.out.1 hN10.out.2 (ST4.out.base) ?_
          intro v' w5 ho hg ha
          obtain ⟨A2, cp2, hv, _⟩ := own_form ho
          obtain ⟨L2, hL⟩ : ∃ L, L = ((t.fo.map uV) ++ [(uV x)]).length := ⟨_, rfl⟩
          rw [← hL] at hv
          clear hL
          rw [hv] at ho ha ⊢
          clear hv
          have ST5 := Lib.hid (ST4.out.appF ho hg ha)
          have BB3' := BB3; clear BB3
          have BB3 : Hid (Blk w5 gb3 _ _ ∧ H0 ≤ gb3) := Lib.hid ⟨BB3'.out.1.grown hg (fun e => by have := HV.out.2.1 _ e; have := BB3'.out.2; omega), BB3'.out.2⟩
          clear BB3'
          clear ho hg ha ST4 BB2 c4 c10 c16
          obtain ⟨c4, c10, c16⟩ := ST5.out.cells HC.out
          refine hK.out _ _ (S26.of c4.out c10.out c16.out) ?_
          clear hK K
          try simp only [Act.put, List.setIfInBounds_toArray, List.set_cons_zero, List.set_cons_succ, List.getElem_toArray, List.getElem_cons_zero, List.getElem_cons_succ]
          refine anyL_ready (rs := [16]) (by kernel_rfl) (by simp) (AllL.cons rfl (fun K hK => ?_) AllL.nil)
          refine step_append_one rfl (.tmp 113) (.tmp 116) 24 34 rfl Tryd.underlying24 infoU32 rfl N0 ve (t.en.map uV) rfl ST5.out.ol.oe gb3 1 (uV y) rfl ((BB3.out.1.cell 0).trans rfl) rfl hN16.out.1 hN16.out.2 (ST5.out.base) ?_
          intro v' w6 ho hg ha
          obtain ⟨A3, cp3, hv, _⟩ := own_form ho
          obtain ⟨L3, hL⟩ : ∃ L, L = ((t.en.map uV) ++ [(uV y)]).length := ⟨_, rfl⟩
          rw [← hL] at hv
          clear hL
          rw [hv] at ho ha ⊢
          clear hv
          have ST6 := Lib.hid (ST5.out.appE ho hg ha)
          clear ho hg ha ST5 BB3 c4 c10 c16
          obtain ⟨c4, c10, c16⟩ := ST6.out.cells HC.out
          refine hK.out _ _ (S26.of c4.out c10.out c16.out) ?_
          clear hK K
          try simp only [Act.put, List.setIfInBounds_toArray, List.set_cons_zero, List.set_cons_succ, List.getElem_toArray, List.getElem_cons_zero, List.getElem_cons_succ]
          obtain ⟨F1, hF1⟩ := ST6.out.fin HC.out
          have FIN := Lib.hid hF1; clear hF1
          have k4 := c4.out; have k10 := c10.out; have k16 := c16.out
          have f4 := ST6.out.bd.frozen 256; have f10 := ST6.out.bd.frozen 257; have f16 := ST6.out.bd.frozen 258
          refine anyL_ready (rs := [18]) (by kernel_rfl) (by simp) (AllL.cons rfl (fun K hK => ?_) AllL.nil)
          go_simp
          refine hK.out _ _ (S26.none (by kernel_rfl) (by kernel_rfl) (by kernel_rfl)) ?_
          clear hK K
          try simp only [Act.put, List.setIfInBounds_toArray, List.set_cons_zero, List.set_cons_succ, List.getElem_toArray, List.getElem_cons_zero, List.getElem_cons_succ]
          refine anyL_take (i := 19) 20 (v := ?_) (fun _ => True) rfl rfl (by kernel_rfl) (by kernel_rfl) (by kernel_rfl) (by kernel_rfl) (by kernel_rfl) (fun _ _ _ h => h) (fun _ _ _ _ => trivial) (S26.irr (i := 19) (by decide) (by decide) (by decide)).1 (S26.irr (i := 19) (by decide) (by decide) (by decide)).2 (Or.inl ⟨by rfl, ?_⟩) (S26.none (by kernel_rfl) (by kernel_rfl) (by kernel_rfl)) ?_
          rotate_left 1
          · intro w hSw; (try dsimp only at hSw); go_simp <;> with_reducible rfl
          try simp only [Act.put, List.setIfInBounds_toArray, List.set_cons_zero, List.set_cons_succ, List.getElem_toArray, List.getElem_cons_zero, List.getElem_cons_succ]
          refine anyL_ready (rs := [20]) (by kernel_rfl) (by simp) (AllL.cons rfl (fun K hK => ?_) AllL.nil)
          go_simp
          refine hK.out _ _ (S26.none (by kernel_rfl) (by kernel_rfl) (by kernel_rfl)) ?_
          clear hK K
          try simp only [Act.put, List.setIfInBounds_toArray, List.set_cons_zero, List.set_cons_succ, List.getElem_toArray, List.getElem_cons_zero, List.getElem_cons_succ]
          refine anyL_take (i := 21) 22 (v := ?_) (fun _ => True) rfl rfl (by kernel_rfl) (by kernel_rfl) (by kernel_rfl) (by kernel_rfl) (by kernel_rfl) (fun _ _ _ h => h) (fun _ _ _ _ => trivial) (S26.irr (i := 21) (by decide) (by decide) (by decide)).1 (S26.irr (i := 21) (by decide) (by decide) (by decide)).2 (Or.inl ⟨by rfl, ?_⟩) (S26.none (by kernel_rfl) (by kernel_rfl) (by kernel_rfl)) ?_
          rotate_left 1
          · intro w hSw; (try dsimp only at hSw); go_simp <;> with_reducible rfl
          try simp only [Act.put, List.setIfInBounds_toArray, List.set_cons_zero, List.set_cons_succ, List.getElem_toArray, List.getElem_cons_zero, List.getElem_cons_succ]
          refine anyL_ready (rs := [22]) (by kernel_rfl) (by simp) (AllL.cons rfl (fun K hK => ?_) AllL.nil)
          go_simp
          refine hK.out _ _ (S26.none (by kernel_rfl) (by kernel_rfl) (by kernel_rfl)) ?_
          clear hK K
          try simp only [Act.put, List.setIfInBounds_toArray, List.set_cons_zero, List.set_cons_succ, List.getElem_toArray, List.getElem_cons_zero, List.getElem_cons_succ]
          refine anyL_done (by kernel_rfl) ?_ _
          exact hQ.out _ _ _ _ _ _ _ _ _ _ _ _ _ _ _ _ _ _ _ _ _ _ _ _ FIN.out
      ·
        go_simp
        refine hK.out _ _ (S26.of (cell_later (below_alloc _ _) c4.out) (cell_later (below_alloc _ _) c10.out) (cell_later (below_alloc _ _) c16.out)) ?_
        clear hK K
        obtain ⟨w3, hw⟩ : ∃ w', w' = w2.alloc (.cells #[.int .u32 (y : Int)] 34) := ⟨_, rfl⟩
        obtain ⟨gb3, hgb⟩ : ∃ gb, gb = w2.heap.size := ⟨_, rfl⟩
        have ST3 : Hid (St26 wS wB w3 N0 bR bD l i m g H0 row (dcells cl vn vf ve) vn vf ve _ _) := Lib.hid (by rw [hw]; exact ST2.out.alloc _)
        have BB3 : Hid (Blk w3 gb3 34 #[.int .u32 (y : Int)] ∧ H0 ≤ gb3) := Lib.hid ⟨by rw [hw, hgb]; exact Blk.new _ _ _ rfl, by rw [hgb]; exact ST2.out.h0⟩
        have BB1' := BB1; clear BB1
        have BB1 : Hid (Blk w3 gb1 _ _ ∧ H0 ≤ gb1) := Lib.hid (by rw [hw]; exact ⟨BB1'.out.1.alloc _, BB1'.out.2⟩)
        clear BB1'
        have BB2' := BB2; clear BB2
        have BB2 : Hid (Blk w3 gb2 _ _ ∧ H0 ≤ gb2) := Lib.hid (by rw [hw]; exact ⟨BB2'.out.1.alloc _, BB2'.out.2⟩)
        clear BB2'
        rw [← hw, ← hgb]
        clear hw hgb ST2 c4 c10 c16
        obtain ⟨c4, c10, c16⟩ := ST3.out.cells HC.out
        try simp only [Act.put, List.setIfInBounds_toArray, List.set_cons_zero, List.set_cons_succ, List.getElem_toArray, List.getElem_cons_zero, List.getElem_cons_succ]
        refine anyL_ready (rs := [4]) (by kernel_rfl) (by simp) (AllL.cons rfl (fun K hK => ?_) AllL.nil)
        refine step_append_one rfl (.tmp 102) (.tmp 104) 23 35 rfl Tryd.underlying23 infoRow rfl N0 vn (gs.map (rowV m)) rfl ST3.out.ol.on gb1 1 (rowV m g) rfl ((BB1.out.1.cell 0).trans rfl) rfl hN4.out.1 hN4.out.2 (ST3.out.base) ?_
        intro v' w4 ho hg ha
        obtain ⟨A1, cp1, hv, _⟩ := own_form ho
        obtain ⟨L1, hL⟩ : ∃ L, L = ((gs.map (rowV m)) ++ [(rowV m g)]).length := ⟨_, rfl⟩
        rw [← hL] at hv
        clear hL
        rw [hv] at ho ha ⊢
        clear hv
        have ST4 := Lib.hid (ST3.out.appN HG.out.1 HG.out.2.1 HG.out.2.2 ho hg)
        have BB2' := BB2; clear BB2
        have BB2 : Hid (Blk w4 gb2 _ _ ∧ H0 ≤ gb2) := Lib.hid ⟨BB2'.out.1.grown hg (fun e => by have := HV.out.1 _ e; have := BB2'.out.2; omega), BB2'.out.2⟩
        clear BB2'
        have BB3' := BB3; clear BB3
        have BB3 : Hid (Blk w4 gb3 _ _ ∧ H0 ≤ gb3) := Lib.hid ⟨BB3'.out.1.grown hg (fun e => by have := HV.out.1 _ e; have := BB3'.out.2; omega), BB3'.out.2⟩
        clear BB3'
        clear ho hg ha ST3 BB1 c4 c10 c16
        obtain ⟨c4, c10, c16⟩ := ST4.out.cells HC.out
        refine hK.out _ _ (S26.of c4.out c10.out c16.out) ?_
        clear hK K
        try simp only [Act.put, List.setIfInBounds_toArray, List.set_cons_zero, List.set_cons_succ, List.getElem_toArray, List.getElem_cons_zero, List.getElem_cons_succ]
        refine anyL_take (i := 17) 18 (v := ?_) (fun _ => True) rfl rfl (by kernel_rfl) (by kernel_rfl) (by kernel_rfl) (by kernel_rfl) (by kernel_rfl) (fun _ _ _ h => h) (fun _ _ _ _ => trivial) (S26.irr (i := 17) (by decide) (by decide) (by decide)).1 (S26.irr (i := 17) (by decide) (by decide) (by decide)).2 (Or.inl ⟨by rfl, ?_⟩) (S26.of c4.out c10.out c16.out) ?_
        rotate_left 1
        · intro w hSw; (try dsimp only at hSw); go_simp <;> with_reducible rfl
        try simp only [Act.put, List.setIfInBounds_toArray, List.set_cons_zero, List.set_cons_succ, List.getElem_toArray, List.getElem_cons_zero, List.getElem_cons_succ]
        refine anyL_ready (rs := [10]) (by kernel_rfl) (by simp) (AllL.cons rfl (fun K hK => ?_) AllL.nil)
        refine step_append_one rfl (.tmp 107) (.tmp 110) 24 34 rfl Tryd.underlying24 infoU32 rfl N0 vf (t.fo.map uV) rfl ST4.out.ol.of_ gb2 1 (uV x) rfl ((BB2.out.1.cell 0).trans rfl) rfl hN10.out.1 hN10.out.2 (ST4.out.base) ?_
        intro v' w5 ho hg ha
        obtain ⟨A2, cp2, hv, _⟩ := own_form ho
        obtain ⟨L2, hL⟩ : ∃ L, L = ((t.fo.map uV) ++ [(uV x)]).length := ⟨_, rfl⟩
        rw [← hL] at hv
        clear hL
        rw [hv] at ho ha ⊢
        clear hv
        have ST5 := Lib.hid (ST4.out.appF ho hg ha)
        have BB3' := BB3; clear BB3
        have BB3 : Hid (Blk w5 gb3 _ _ ∧ H0 ≤ gb3) := Lib.hid ⟨BB3'.out.1.grown hg (fun e => by have := HV.out.2.1 _ e; have := BB3'.out.2; omega), BB3'.out.2⟩
        clear BB3'
        clear ho hg ha ST4 BB2 c4 c10 c16
        obtain ⟨c4, c10, c16⟩ := ST5.out.cells HC.out
        refine hK.out _ _ (S26.of c4.out c10.out c16.out) ?_
        clear hK K
        try simp only [Act.put, List.setIfInBounds_toArray, List.set_cons_zero, List.set_cons_succ, List.getElem_toArray, List.getElem_cons_zero, List.getElem_cons_succ]
        refine anyL_ready (rs := [16]) (by kernel_rfl) (by simp) (AllL.cons rfl (fun K hK => ?_) AllL.nil)
        refine step_append_one rfl (.tmp 113) (.tmp 116) 24 34 rfl Tryd.underlying24 infoU32 rfl N0 ve (t.en.map uV) rfl ST5.out.ol.oe gb3 1 (uV y) rfl ((BB3.out.1.cell 0).trans rfl) rfl hN16.out.1 hN16.out.2 (ST5.out.base) ?_
        intro v' w6 ho hg ha
        obtain ⟨A3, cp3, hv, _⟩ := own_form ho
        obtain ⟨L3, hL⟩ : ∃ L, L = ((t.en.map uV) ++ [(uV y)]).length := ⟨_, rfl⟩
        rw [← hL] at hv
        clear hL
        rw [hv] at ho ha ⊢
        clear hv
        have ST6 := Lib.hid (ST5.out.appE ho hg ha)
        clear ho hg ha ST5 BB3 c4 c10 c16
        obtain ⟨c4, c10, c16⟩ := ST6.out.cells HC.out
        refine hK.out _ _ (S26.of c4.out c10.out c16.out) ?_
        clear hK K
        try simp only [Act.put, List.setIfInBounds_toArray, List.set_cons_zero, List.set_cons_succ, List.getElem_toArray, List.getElem_cons_zero, List.getElem_cons_succ]
        obtain ⟨F1, hF1⟩ := ST6.out.fin HC.out
        have FIN := Lib.hid hF1; clear hF1
        have k4 := c4.out; have k10 := c10.out; have k16 := c16.out
        have f4 := ST6.out.bd.frozen 256; have f10 := ST6.out.bd.frozen 257; have f16 := ST6.out.bd.frozen 258
        refine anyL_ready (rs := [18]) (by kernel_rfl) (by simp) (AllL.cons rfl (fun K hK => ?_) AllL.nil)
        go_simp
        refine hK.out _ _ (S26.none (by kernel_rfl) (by kernel_rfl) (by kernel_rfl)) ?_
        clear hK K
        try simp only [Act.put, List.setIfInBounds_toArray, List.set_cons_zero, List.set_cons_succ, List.getElem_toArray, List.getElem_cons_zero, List.getElem_cons_succ]
        refine anyL_take (i := 19) 20 (v := ?_) (fun _ => True) rfl rfl (by kernel_rfl) (by kernel_rfl) (by kernel_rfl) (by kernel_rfl) (by kernel_rfl) (fun _ _ _ h => h) (fun _ _ _ _ => trivial) (S26.irr (i := 19) (by decide) (by decide) (by decide)).1 (S26.irr (i := 19) (by decide) (by decide) (by decide)).2 (Or.inl ⟨by rfl, ?_⟩) (S26.none (by kernel_rfl) (by kernel_rfl) (by kernel_rfl)) ?_
        rotate_left 1
        · intro w hSw; (try dsimp only at hSw); go_simp <;> with_reducible rfl
        try simp only [Act.put, List.setIfInBounds_toArray, List.set_cons_zero, List.set_cons_succ, List.getElem_toArray, List.getElem_cons_zero, List.getElem_cons_succ]
        refine anyL_ready (rs := [20]) (by kernel_rfl) (by simp) (AllL.cons rfl (fun K hK => ?_) AllL.nil)
        go_simp
        refine hK.out _ _ (S26.none (by kernel_rfl) (by kernel_rfl) (by kernel_rfl)) ?_
        clear hK K
        try simp only [Act.put, List.setIfInBounds_toArray, List.set_cons_zero, List.set_cons_succ, List.getElem_toArray, List.getElem_cons_zero, List.getElem_cons_succ]
        refine anyL_take (i := 21) 22 (v := ?_) (fun _ => True) rfl rfl (by kernel_rfl) (by kernel_rfl) (by kernel_rfl) (by kernel_rfl) (by kernel_rfl) (fun _ _ _ h => h) (fun _ _ _ _ => trivial) (S26.irr (i := 21) (by decide) (by decide) (by decide)).1 (S26.irr (i := 21) (by decide) (by decide) (by decide)).2 (Or.inl ⟨by rfl, ?_⟩) (S26.none (by kernel_rfl) (by kernel_rfl) (by kernel_rfl)) ?_
        rotate_left 1
        · intro w hSw; (try dsimp only at hSw); go_simp <;> with_reducible rfl
        try simp only [Act.put, List.setIfInBounds_toArray, List.set_cons_zero, List.set_cons_succ, List.getElem_toArray, List.getElem_cons_zero, List.getElem_cons_succ]
        refine anyL_ready (rs := [22]) (by kernel_rfl) (by simp) (AllL.cons rfl (fun K hK => ?_) AllL.nil)
        go_simp
        refine hK.out _ _ (S26.none (by kernel_rfl) (by kernel_rfl) (by kernel_rfl)) ?_
        clear hK K
        try simp only [Act.put, List.setIfInBounds_toArray, List.set_cons_zero, List.set_cons_succ, List.getElem_toArray, List.getElem_cons_zero, List.getElem_cons_succ]
        refine anyL_done (by kernel_rfl) ?_ _
        exact hQ.out _ _ _ _ _ _ _ _ _ _ _ _ _ _ _ _ _ _ _ _ _ _ _ _ FIN.out
    ·
      go_simp
      refine hK.out _ _ (S26.of (cell_later (below_alloc _ _) c4.out) (cell_later (below_alloc _ _) c10.out) (cell_later (below_alloc _ _) c16.out)) ?_
      clear hK K
      obtain ⟨w2, hw⟩ : ∃ w', w' = w1.alloc (.cells #[.int .u32 (y : Int)] 34) := ⟨_, rfl⟩
      obtain ⟨gb3, hgb⟩ : ∃ gb, gb = w1.heap.size := ⟨_, rfl⟩
      have ST2 : Hid (St26 wS wB w2 N0 bR bD l i m g H0 row (dcells cl vn vf ve) vn vf ve _ _) := Lib.hid (by rw [hw]; exact ST1.out.alloc _)
      have BB3 : Hid (Blk w2 gb3 34 #[.int .u32 (y : Int)] ∧ H0 ≤ gb3) := Lib.hid ⟨by rw [hw, hgb]; exact Blk.new _ _ _ rfl, by rw [hgb]; exact ST1.out.h0⟩
      have BB2' := BB2; clear BB2
      have BB2 : Hid (Blk w2 gb2 _ _ ∧ H0 ≤ gb2) := Lib.hid (by rw [hw]; exact ⟨BB2'.out.1.alloc _, BB2'.out.2⟩)
      clear BB2'
      rw [← hw, ← hgb]
      clear hw hgb ST1 c4 c10 c16
      obtain ⟨c4, c10, c16⟩ := ST2.out.cells HC.out
      try simp only [Act.put, List.setIfInBounds_toArray, List.set_cons_zero, List.set_cons_succ, List.getElem_toArray, List.getElem_cons_zero, List.getElem_cons_succ]
      refine anyL_ready (rs := [3]) (by kernel_rfl) (by simp) (AllL.cons rfl (fun K hK => ?_) AllL.nil)
      go_simp
      refine hK.out _ _ (S26.of (cell_later (below_alloc _ _) c4.out) (cell_later (below_alloc _ _) c10.out) (cell_later (below_alloc _ _) c16.out)) ?_
      clear hK K
      obtain ⟨w3, hw⟩ : ∃ w', w' = w2.alloc (.cells #[.slice (some ⟨g, 0, none⟩) m m] 35) := ⟨_, rfl⟩
      obtain ⟨gb1, hgb⟩ : ∃ gb, gb = w2.heap.size := ⟨_, rfl⟩
      have ST3 : Hid (St26 wS wB w3 N0 bR bD l i m g H0 row (dcells cl vn vf ve) vn vf ve _ _) := Lib.hid (by rw [hw]; exact ST2.out.alloc _)
      have BB1 : Hid (Blk w3 gb1 35 #[.slice (some ⟨g, 0, none⟩) m m] ∧ H0 ≤ gb1) := Lib.hid ⟨by rw [hw, hgb]; exact Blk.new _ _ _ rfl, by rw [hgb]; exact ST2.out.h0⟩
      have BB2' := BB2; clear BB2
      have BB2 : Hid (Blk w3 gb2 _ _ ∧ H0 ≤ gb2) := Lib.hid (by rw [hw]; exact ⟨BB2'.out.1.alloc _, BB2'.out.2⟩)
      clear BB2'
      have BB3' := BB3; clear BB3
      have BB3 : Hid (Blk w3 gb3 _ _ ∧ H0 ≤ gb3) := Lib.hid (by rw [hw]; exact ⟨BB3'.out.1.alloc _, BB3'.out.2⟩)
      clear BB3'
      rw [← hw, ← hgb]
      clear hw hgb ST2 c4 c10 c16
      obtain ⟨c4, c10, c16⟩ := ST3.out.cells HC.out
      try simp only [Act.put, List.setIfInBounds_toArray, List.set_cons_zero, List.set_cons_succ, List.getElem_toArray, List.getElem_cons_zero, List.getElem_cons_succ]
      refine anyL_ready (rs := [4]) (by kernel_rfl) (by simp) (AllL.cons rfl (fun K hK => ?_) AllL.nil)
      refine step_append_one rfl (.tmp 102) (.tmp 104) 23 35 rfl Tryd.underlying23 infoRow rfl N0 vn (gs.map (rowV m)) rfl ST3.out.ol.on gb1 1 (rowV m g) rfl ((BB1.out.1.cell 0).trans rfl) rfl hN4.out.1 hN4.out.2 (ST3.out.base) ?_
      intro v' w4 ho hg ha
      obtain ⟨A1, cp1, hv, _⟩ := own_form ho
      obtain ⟨L1, hL⟩ : ∃ L, L = ((gs.map (rowV m)) ++ [(rowV m g)]).length := ⟨_, rfl⟩
      rw [← hL] at hv
      clear hL
      rw [hv] at ho ha ⊢
      clear hv
      have ST4 := Lib.hid (ST3.out.appN HG.out.1 HG.out.2.1 HG.out.2.2 ho hg)
      have BB2' := BB2; clear BB2
      have BB2 : Hid (Blk w4 gb2 _ _ ∧ H0 ≤ gb2) := Lib.hid ⟨BB2'.out.1.grown hg (fun e => by have := HV.out.1 _ e; have := BB2'.out.2; omega), BB2'.out.2⟩
      clear BB2'
      have BB3' := BB3; clear BB3
      have BB3 : Hid (Blk w4 gb3 _ _ ∧ H0 ≤ gb3) := Lib.hid ⟨BB3'.out.1.grown hg (fun e => by have := HV.out.1 _ e; have := BB3'.out.2; omega), BB3'.out.2⟩
      clear BB3'
      clear ho hg ha ST3 BB1 c4 c10 c16
      obtain ⟨c4, c10, c16⟩ := ST4.out.cells HC.out
      refine hK.out _ _ (S26.of c4.out c10.out c16.out) ?_
      clear hK K
      try simp only [Act.put, List.setIfInBounds_toArray, List.set_cons_zero, List.set_cons_succ, List.getElem_toArray, List.getElem_cons_zero, List.getElem_cons_succ]
      refine anyL_take (i := 17) 18 (v := ?_) (fun _ => True) rfl rfl (by kernel_rfl) (by kernel_rfl) (by kernel_rfl) (by kernel_rfl) (by kernel_rfl) (fun _ _ _ h => h) (fun _ _ _ _ => trivial) (S26.irr (i := 17) (by decide) (by decide) (by decide)).1 (S26.irr (i := 17) (by decide) (by decide) (by decide)).2 (Or.inl ⟨by rfl, ?_⟩) (S26.of c4.out c10.out c16.out) ?_
      rotate_left 1
      · intro w hSw; (try dsimp only at hSw); go_simp <;> with_reducible rfl
      try simp only [Act.put, List.setIfInBounds_toArray, List.set_cons_zero, List.set_cons_succ, List.getElem_toArray, List.getElem_cons_zero, List.getElem_cons_succ]
      refine anyL_ready (rs := [10]) (by kernel_rfl) (by simp) (AllL.cons rfl (fun K hK => ?_) AllL.nil)
      refine step_append_one rfl (.tmp 107) (.tmp 110) 24 34 rfl Tryd.underlying24 infoU32 rfl N0 vf (t.fo.map uV) rfl ST4.out.ol.of_ gb2 1 (uV x) rfl ((BB2.out.1.cell 0).trans rfl) rfl hN10.out.1 hN10.out.2 (ST4.out.base) ?_
      intro v' w5 ho hg ha
      obtain ⟨A2, cp2, hv, _⟩ := own_form ho
      obtain ⟨L2, hL⟩ : ∃ L, L = ((t.fo.map uV) ++ [(uV x)]).length := ⟨_, rfl⟩
      rw [← hL] at hv
      clear hL
      rw [hv] at ho ha ⊢
      clear hv
      have ST5 := Lib.hid (ST4.out.appF ho hg ha)
      have BB3' := BB3; clear BB3
      have BB3 : Hid (Blk w5 gb3 _ _ ∧ H0 ≤ gb3) := Lib.hid ⟨BB3'.out.1.grown hg (fun e => by have := HV.out.2.1 _ e; have := BB3'.out.2; omega), BB3'.out.2⟩
      clear BB3'
      clear ho hg ha ST4 BB2 c4 c10 c16
      obtain ⟨c4, c10, c16⟩ := ST5.out.cells HC.out
      refine hK.out _ _ (S26.of c4.out c10.out c16.out) ?_
      clear hK K
      try simp only [Act.put, List.setIfInBounds_toArray, List.set_cons_zero, List.set_cons_succ, List.getElem_toArray, List.getElem_cons_zero, List.getElem_cons_succ]
      refine anyL_ready (rs := [16]) (by kernel_rfl) (by simp) (AllL.cons rfl (fun K hK => ?_) AllL.nil)
      refine step_append_one rfl (.tmp 113) (.tmp 116) 24 34 rfl Tryd.underlying24 infoU32 rfl N0 ve (t.en.map uV) rfl ST5.out.ol.oe gb3 1 (uV y) rfl ((BB3.out.1.cell 0).trans rfl) rfl hN16.out.1 hN16.out.2 (ST5.out.base) ?_
      intro v' w6 ho hg ha
      obtain ⟨A3, cp3, hv, _⟩ := own_form ho
      obtain ⟨L3, hL⟩ : ∃ L, L = ((t.en.map uV) ++ [(uV y)]).length := ⟨_, rfl⟩
      rw [← hL] at hv
      clear hL
      rw [hv] at ho ha ⊢
      clear hv
      have ST6 := Lib.hid (ST5.out.appE ho hg ha)
      clear ho hg ha ST5 BB3 c4 c10 c16
      obtain ⟨c4, c10, c16⟩ := ST6.out.cells HC.out
      refine hK.out _ _ (S26.of c4.out c10.out c16.out) ?_
      clear hK K
      try simp only [Act.put, List.setIfInBounds_toArray, List.set_cons_zero, List.set_cons_succ, List.getElem_toArray, List.getElem_cons_zero, List.getElem_cons_succ]
      obtain ⟨F1, hF1⟩ := ST6.out.fin HC.out
      have FIN := Lib.hid hF1; clear hF1
      have k4 := c4.out; have k10 := c10.out; have k16 := c16.out
      have f4 := ST6.out.bd.frozen 256; have f10 := ST6.out.bd.frozen 257; have f16 := ST6.out.bd.frozen 258
      refine anyL_ready (rs := [18]) (by kernel_rfl) (by simp) (AllL.cons rfl (fun K hK => ?_) AllL.nil)
      go_simp
      refine hK.out _ _ (S26.none (by kernel_rfl) (by kernel_rfl) (by kernel_rfl)) ?_
      clear hK K
      try simp only [Act.put, List.setIfInBounds_toArray, List.set_cons_zero, List.set_cons_succ, List.getElem_toArray, List.getElem_cons_zero, List.getElem_cons_succ]
      refine anyL_take (i := 19) 20 (v := ?_) (fun _ => True) rfl rfl (by kernel_rfl) (by kernel_rfl) (by kernel_rfl) (by kernel_rfl) (by kernel_rfl) (fun _ _ _ h => h) (fun _ _ _ _ => trivial) (S26.irr (i := 19) (by decide) (by decide) (by decide)).1 (S26.irr (i := 19) (by decide) (by decide) (by decide)).2 (Or.inl ⟨by rfl, ?_⟩) (S26.none (by kernel_rfl) (by kernel_rfl) (by kernel_rfl)) ?_
      rotate_left 1
      · intro w hSw; (try dsimp only at hSw); go_simp <;> with_reducible rfl
      try simp only [Act.put, List.setIfInBounds_toArray, List.set_cons_zero, List.set_cons_succ, List.getElem_toArray, List.getElem_cons_zero, List.getElem_cons_succ]
      refine anyL_ready (rs := [20]) (by kernel_rfl) (by simp) (AllL.cons rfl (fun K hK => ?_) AllL.nil)
      go_simp
      refine hK.out _ _ (S26.none (by kernel_rfl) (by kernel_rfl) (by kernel_rfl)) ?_
      clear hK K
      try simp only [Act.put, List.setIfInBounds_toArray, List.set_cons_zero, List.set_cons_succ, List.getElem_toArray, List.getElem_cons_zero, List.getElem_cons_succ]
      refine anyL_take (i := 21) 22 (v := ?_) (fun _ => True) rfl rfl (by kernel_rfl) (by kernel_rfl) (by kernel_rfl) (by kernel_rfl) (by kernel_rfl) (fun _ _ _ h => h) (fun _ _ _ _ => trivial) (S26.irr (i := 21) (by decide) (by decide) (by decide)).1 (S26.irr (i := 21) (by decide) (by decide) (by decide)).2 (Or.inl ⟨by rfl, ?_⟩) (S26.none (by kernel_rfl) (by kernel_rfl) (by kernel_rfl)) ?_
      rotate_left 1
      · intro w hSw; (try dsimp only at hSw); go_simp <;> with_reducible rfl
      try simp only [Act.put, List.setIfInBounds_toArray, List.set_cons_zero, List.set_cons_succ, List.getElem_toArray, List.getElem_cons_zero, List.getElem_cons_succ]
      refine anyL_ready (rs := [22]) (by kernel_rfl) (by simp) (AllL.cons rfl (fun K hK => ?_) AllL.nil)
      go_simp
      refine hK.out _ _ (S26.none (by kernel_rfl) (by kernel_rfl) (by kernel_rfl)) ?_
      clear hK K
      try simp only [Act.put, List.setIfInBounds_toArray, List.set_cons_zero, List.set_cons_succ, List.getElem_toArray, List.getElem_cons_zero, List.getElem_cons_succ]
      refine anyL_done (by kernel_rfl) ?_ _
      exact hQ.out _ _ _ _ _ _ _ _ _ _ _ _ _ _ _ _ _ _ _ _ _ _ _ _ FIN.out
  ·
    go_simp
    refine hK.out _ _ (S26.of (cell_later (below_alloc _ _) c4.out) (cell_later (below_alloc _ _) c10.out) (cell_later (below_alloc _ _) c16.out)) ?_
    clear hK K
    obtain ⟨w1, hw⟩ : ∃ w', w' = w0.alloc (.cells #[.int .u32 (y : Int)] 34) := ⟨_, rfl⟩
    obtain ⟨gb3, hgb⟩ : ∃ gb, gb = w0.heap.size := ⟨_, rfl⟩
    have ST1 : Hid (St26 wS wB w1 N0 bR bD l i m g H0 row (dcells cl vn vf ve) vn vf ve _ _) := Lib.hid (by rw [hw]; exact ST0.out.alloc _)
    have BB3 : Hid (Blk w1 gb3 34 #[.int .u32 (y : Int)] ∧ H0 ≤ gb3) := Lib.hid ⟨by rw [hw, hgb]; exact Blk.new _ _ _ rfl, by rw [hgb]; exact ST0.out.h0⟩
    rw [← hw, ← hgb]
    clear hw hgb ST0 c4 c10 c16
    obtain ⟨c4, c10, c16⟩ := ST1.out.cells HC.out
    try simp only [Act.put, List.setIfInBounds_toArray, List.set_cons_zero, List.set_cons_succ, List.getElem_toArray, List.getElem_cons_zero, List.getElem_cons_succ]
    refine anyL_ready (rs := [3, 9]) (by kernel_rfl) (by simp) (AllL.cons rfl (fun K hK => ?_) (AllL.cons rfl (fun K hK => ?_) AllL.nil))
    ·
      go_simp
      refine hK.out _ _ (S26.of (cell_later (below_alloc _ _) c4.out) (cell_later (below_alloc _ _) c10.out) (cell_later (below_alloc _ _) c16.out)) ?_
      clear hK K
      obtain ⟨w2, hw⟩ : ∃ w', w' = w1.alloc (.cells #[.slice (some ⟨g, 0, none⟩) m m] 35) := ⟨_, rfl⟩
      obtain ⟨gb1, hgb⟩ : ∃ gb, gb = w1.heap.size := ⟨_, rfl⟩
      have ST2 : Hid (St26 wS wB w2 N0 bR bD l i m g H0 row (dcells cl vn vf ve) vn vf ve _ _) := Lib.hid (by rw [hw]; exact ST1.out.alloc _)
      have BB1 : Hid (Blk w2 gb1 35 #[.slice (some ⟨g, 0, none⟩) m m] ∧ H0 ≤ gb1) := Lib.hid ⟨by rw [hw, hgb]; exact Blk.new _ _ _ rfl, by rw [hgb]; exact ST1.out.h0⟩
      have BB3' := BB3; clear BB3
      have BB3 : Hid (Blk w2 gb3 _ _ ∧ H0 ≤ gb3) := Lib.hid (by rw [hw]; exact ⟨BB3'.out.1.alloc _, BB3'.out.2⟩)
      clear BB3'
      rw [← hw, ← hgb]
      clear hw hgb ST1 c4 c10 c16
      obtain ⟨c4, c10, c16⟩ := ST2.out.cells HC.out
      try simp only [Act.put, List.setIfInBounds_toArray, List.set_cons_zero, List.set_cons_succ, List.getElem_toArray, List.getElem_cons_zero, List.getElem_cons_succ]
      refine anyL_ready (rs := [4, 9]) (by kernel_rfl) (by simp) (AllL.cons rfl (fun K hK => ?_) (AllL.cons rfl (fun K hK => ?_) AllL.nil))
      ·
        refine step_append_one rfl (.tmp 102) (.tmp 104) 23 35 rfl Tryd.underlying23 infoRow rfl N0 vn (gs.map (rowV m)) rfl ST2.out.ol.on gb1 1 (rowV m g) rfl ((BB1.out.1.cell 0).trans rfl) rfl hN4.out.1 hN4.out.2 (ST2.out.base) ?_
        intro v' w3 ho hg ha
        obtain ⟨A1, cp1, hv, _⟩ := own_form ho
        obtain ⟨L1, hL⟩ : ∃ L, L = ((gs.map (rowV m)) ++ [(rowV m g)]).length := ⟨_, rfl⟩
        rw [← hL] at hv
        clear hL
        rw [hv] at ho ha ⊢
        clear hv
        have ST3 := Lib.hid (ST2.out.appN HG.out.1 HG.out.2.1 HG.out.2.2 ho hg)
        have BB3' := BB3; clear BB3
        have BB3 : Hid (Blk w3 gb3 _ _ ∧ H0 ≤ gb3) := Lib.hid ⟨BB3'.out.1.grown hg (fun e => by have := HV.out.1 _ e; have := BB3'.out.2; omega), BB3'.out.2⟩
        clear BB3'
        clear ho hg ha ST2 BB1 c4 c10 c16
        obtain ⟨c4, c10, c16⟩ := ST3.out.cells HC.out
        refine hK.out _ _ (S26.of c4.out c10.out c16.out) ?_
        clear hK K
        try simp only [Act.put, List.setIfInBounds_toArray, List.set_cons_zero, List.set_cons_succ, List.getElem_toArray, List.getElem_cons_zero, List.getElem_cons_succ]
        refine anyL_take (i := 17) 18 (v := ?_) (fun _ => True) rfl rfl (by kernel_rfl) (by kernel_rfl) (by kernel_rfl) (by kernel_rfl) (by kernel_rfl) (fun _ _ _ h => h) (fun _ _ _ _ => trivial) (S26.irr (i := 17) (by decide) (by decide) (by decide)).1 (S26.irr (i := 17) (by decide) (by decide) (by decide)).2 (Or.inl ⟨by rfl, ?_⟩) (S26.of c4.out c10.out c16.out) ?_
        rotate_left 1
        · intro w hSw; (try dsimp only at hSw); go_simp <;> with_reducible rfl
        try simp only [Act.put, List.setIfInBounds_toArray, List.set_cons_zero, List.set_cons_succ, List.getElem_toArray, List.getElem_cons_zero, List.getElem_cons_succ]
        refine anyL_ready (rs := [9]) (by kernel_rfl) (by simp) (AllL.cons rfl (fun K hK => ?_) AllL.nil)
        go_simp
        refine hK.out _ _ (S26.of (cell_later (below_alloc _ _) c4.out) (cell_later (below_alloc _ _) c10.out) (cell_later (below_alloc _ _) c16.out)) ?_
        clear hK K
        obtain ⟨w4, hw⟩ : ∃ w', w' = w3.alloc (.cells #[.int .u32 (x : Int)] 34) := ⟨_, rfl⟩
        obtain ⟨gb2, hgb⟩ : ∃ gb, gb = w3.heap.size := ⟨_, rfl⟩
        have ST4 : Hid (St26 wS wB w4 N0 bR bD l i m g H0 row (dcells cl vn vf ve) (.slice A1 _ cp1) vf ve _ _) := Lib.hid (by rw [hw]; exact ST3.out.alloc _)
        have BB2 : Hid (Blk w4 gb2 34 #[.int .u32 (x : Int)] ∧ H0 ≤ gb2) := Lib.hid ⟨by rw [hw, hgb]; exact Blk.new _ _ _ rfl, by rw [hgb]; exact ST3.out.h0⟩
        have BB3' := BB3; clear BB3
        have BB3 : Hid (Blk w4 gb3 _ _ ∧ H0 ≤ gb3) := Lib.hid (by rw [hw]; exact ⟨BB3'.out.1.alloc _, BB3'.out.2⟩)
        clear BB3'
        rw [← hw, ← hgb]
        clear hw hgb ST3 c4 c10 c16
        obtain ⟨c4, c10, c16⟩ := ST4.out.cells HC.out
        try simp only [Act.put, List.setIfInBounds_toArray, List.set_cons_zero, List.set_cons_succ, List.getElem_toArray, List.getElem_cons_zero, List.getElem_cons_succ]
        refine anyL_ready (rs := [10]) (by kernel_rfl) (by simp) (AllL.cons rfl (fun K hK => ?_) AllL.nil)
        refine step_append_one rfl (.tmp 107) (.tmp 110) 24 34 rfl Tryd.underlying24 infoU32 rfl N0 vf (t.fo.map uV) rfl ST4.out.ol.of_ gb2 1 (uV x) rfl ((BB2.out.1.cell 0).trans rfl) rfl hN10.out.1 hN10.out.2 (ST4.out.base) ?_
        intro v' w5 ho hg ha
        obtain ⟨A2, cp2, hv, _⟩ := own_form ho
        obtain ⟨L2, hL⟩ : ∃ L, L = ((t.fo.map uV) ++ [(uV x)]).length := ⟨_, rfl⟩
        rw [← hL] at hv
        clear hL
        rw [hv] at ho ha ⊢
        clear hv
        have ST5 := Lib.hid (ST4.out.appF ho hg ha)
        have BB3' := BB3; clear BB3
        have BB3 : Hid (Blk w5 gb3 _ _ ∧ H0 ≤ gb3) := Lib.hid ⟨BB3'.out.1.grown hg (fun e => by have := HV.out.2.1 _ e; have := BB3'.out.2; omega), BB3'.out.2⟩
        clear BB3'
        clear ho hg ha ST4 BB2 c4 c10 c16
        obtain ⟨c4, c10, c16⟩ := ST5.out.cells HC.out
        refine hK.out _ _ (S26.of c4.out c10.out c16.out) ?_
        clear hK K
        try simp only [Act.put, List.setIfInBounds_toArray, List.set_cons_zero, List.set_cons_succ, List.getElem_toArray, List.getElem_cons_zero, List.getElem_cons_succ]
        refine anyL_ready (rs := [16]) (by kernel_rfl) (by simp) (AllL.cons rfl (fun K hK => ?_) AllL.nil)
        refine step_append_one rfl (.tmp 113) (.tmp 116) 24 34 rfl Tryd.underlying24 infoU32 rfl N0 ve (t.en.map uV) rfl ST5.out.ol.oe gb3 1 (uV y) rfl ((BB3.out.1.cell 0).trans rfl) rfl hN16.out.1 hN16.out.2 (ST5.out.base) ?_
        intro v' w6 ho hg ha
        obtain ⟨A3, cp3, hv, _⟩ := own_form ho
        obtain ⟨L3, hL⟩ : ∃ L, L = ((t.en.map uV) ++ [(uV y)]).length := ⟨_, rfl⟩
        rw [← hL] at hv
        clear hL
        rw [hv] at ho ha ⊢
        clear hv
        have ST6 := Lib.hid (ST5.out.appE ho hg ha)
        clear ho hg ha ST5 BB3 c4 c10 c16
        obtain ⟨c4, c10, c16⟩ := ST6.out.cells HC.out
        refine hK.out _ _ (S26.of c4.out c10.out c16.out) ?_
        clear hK K
        try simp only [Act.put, List.setIfInBounds_toArray, List.set_cons_zero, List.set_cons_succ, List.getElem_toArray, List.getElem_cons_zero, List.getElem_cons_succ]
        obtain ⟨F1, hF1⟩ := ST6.out.fin HC.out
        have FIN := Lib.hid hF1; clear hF1
        have k4 := c4.out; have k10 := c10.out; have k16 := c16.out
        have f4 := ST6.out.bd.frozen 256; have f10 := ST6.out.bd.frozen 257; have f16 := ST6.out.bd.frozen 258
        refine anyL_ready (rs := [18]) (by kernel_rfl) (by simp) (AllL.cons rfl (fun K hK => ?_) AllL.nil)
        go_simp
        refine hK.out _ _ (S26.none (by kernel_rfl) (by kernel_rfl) (by kernel_rfl)) ?_
        clear hK K
        try simp only [Act.put, List.setIfInBounds_toArray, List.set_cons_zero, List.set_cons_succ, List.getElem_toArray, List.getElem_cons_zero, List.getElem_cons_succ]
        refine anyL_take (i := 19) 20 (v := ?_) (fun _ => True) rfl rfl (by kernel_rfl) (by kernel_rfl) (by kernel_rfl) (by kernel_rfl) (by kernel_rfl) (fun _ _ _ h => h) (fun _ _ _ _ => trivial) (S26.irr (i := 19) (by decide) (by decide) (by decide)).1 (S26.irr (i := 19) (by decide) (by decide) (by decide)).2 (Or.inl ⟨by rfl, ?_⟩) (S26.none (by kernel_rfl) (by kernel_rfl) (by kernel_rfl)) ?_
        rotate_left 1
        · intro w hSw; (try dsimp only at hSw); go_simp <;> with_reducible rfl
        try simp only [Act.put, List.setIfInBounds_toArray, List.set_cons_zero, List.set_cons_succ, List.getElem_toArray, List.getElem_cons_zero, List.getElem_cons_succ]
        refine anyL_ready (rs := [20]) (by kernel_rfl) (by simp) (AllL.cons rfl (fun K hK => ?_) AllL.nil)
        go_simp
        refine hK.out _ _ (S26.none (by kernel_rfl) (by kernel_rfl) (by kernel_rfl)) ?_
        clear hK K
        try simp only [Act.put, List.setIfInBounds_toArray, List.set_cons_zero, List.set_cons_succ, List.getElem_toArray, List.getElem_cons_zero, List.getElem_cons_succ]
        refine anyL_take (i := 21) 22 (v := ?_) (fun _ => True) rfl rfl (by kernel_rfl) (by kernel_rfl) (by kernel_rfl) (by kernel_rfl) (by kernel_rfl) (fun _ _ _ h => h) (fun _ _ _ _ => trivial) (S26.irr (i := 21) (by decide) (by decide) (by decide)).1 (S26.irr (i := 21) (by decide) (by decide) (by decide)).2 (Or.inl ⟨by rfl, ?_⟩) (S26.none (by kernel_rfl) (by kernel_rfl) (by kernel_rfl)) ?_
        rotate_left 1
        · intro w hSw; (try dsimp only at hSw); go_simp <;> with_reducible rfl
        try simp only [Act.put, List.setIfInBounds_toArray, List.set_cons_zero, List.set_cons_succ, List.getElem_toArray, List.getElem_cons_zero, List.getElem_cons_succ]
        refine anyL_ready (rs := [22]) (by kernel_rfl) (by simp) (AllL.cons rfl (fun K hK => ?_) AllL.nil)
        go_simp
        refine hK.out _ _ (S26.none (by kernel_rfl) (by kernel_rfl) (by kernel_rfl)) ?_
        clear hK K
        try simp only [Act.put, List.setIfInBounds_toArray, List.set_cons_zero, List.set_cons_succ, List.getElem_toArray, List.getElem_cons_zero, List.getElem_cons_succ]
        refine anyL_done (by kernel_rfl) ?_ _
        exact hQ.out _ _ _ _ _ _ _ _ _ _ _ _ _ _ _ _ _ _ _ _ _ _ _ _ FIN.out
      ·
        go_simp
        refine hK.out _ _ (S26.of (cell_later (below_alloc _ _) c4.out) (cell_later (below_alloc _ _) c10.out) (cell_later (below_alloc _ _) c16.out)) ?_
        clear hK K
        obtain ⟨w3, hw⟩ : ∃ w', w' = w2.alloc (.cells #[.int .u32 (x : Int)] 34) := ⟨_, rfl⟩
        obtain ⟨gb2, hgb⟩ : ∃ gb, gb = w2.heap.size := ⟨_, rfl⟩
        have ST3 : Hid (St26 wS wB w3 N0 bR bD l i m g H0 row (dcells cl vn vf ve) vn vf ve _ _) := Lib.hid (by rw [hw]; exact ST2.out.alloc _)
        have BB2 : Hid (Blk w3 gb2 34 #[.int .u32 (x : Int)] ∧ H0 ≤ gb2) := Lib.hid ⟨by rw [hw, hgb]; exact Blk.new _ _ _ rfl, by rw [hgb]; exact ST2.out.h0⟩
        have BB1' := BB1; clear BB1
        have BB1 : Hid (Blk w3 gb1 _ _ ∧ H0 ≤ gb1) := Lib.hid (by rw [hw]; exact ⟨BB1'.out.1.alloc _, BB1'.out.2⟩)
        clear BB1'
        have BB3' := BB3; clear BB3
        have BB3 : Hid (Blk w3 gb3 _ _ ∧ H0 ≤ gb3) := Lib.hid (by rw [hw]; exact ⟨BB3'.out.1.alloc _, BB3'.out.2⟩)
        clear BB3'
        rw [← hw, ← hgb]
        clear hw hgb ST2 c4 c10 c16
        obtain ⟨c4, c10, c16⟩ := ST3.out.cells HC.out
        try simp only [Act.put, List.setIfInBounds_toArray, List.set_cons_zero, List.set_cons_succ, List.getElem_toArray, List.getElem_cons_zero, List.getElem_cons_succ]
        refine anyL_ready (rs := [4]) (by kernel_rfl) (by simp) (AllL.cons rfl (fun K hK => ?_) AllL.nil)
        refine step_append_one rfl (.tmp 102) (.tmp 104) 23 35 rfl Tryd.underlying23 infoRow rfl N0 vn (gs.map (rowV m)) rfl ST3.out.ol.on gb1 1 (rowV m g) rfl ((BB1.out.1.cell 0).trans rfl) rfl hN4.out.1 hN4.out.2 (ST3.out.base) ?_
        intro v' w4 ho hg ha
        obtain ⟨A1, cp1, hv, _⟩ := own_form ho
        obtain ⟨L1, hL⟩ : ∃ L, L = ((gs.map (rowV m)) ++ [(rowV m g)]).length := ⟨_, rfl⟩
        rw [← hL] at hv
        clear hL
        rw [hv] at ho ha ⊢
        clear hv
        have ST4 := Lib.hid (ST3.out.appN HG.out.1 HG.out.2.1 HG.out.2.2 ho hg)
        have BB2' := BB2; clear BB2
        have BB2 : Hid (Blk w4 gb2 _ _ ∧ H0 ≤ gb2) := Lib.hid ⟨BB2'.out.1.grown hg (fun e => by have := HV.out.1 _ e; have := BB2'.out.2; omega), BB2'.out.2⟩
        clear BB2'
        have BB3' := BB3; clear BB3
        have BB3 : Hid (Blk w4 gb3 _ _ ∧ H0 ≤ gb3) := Lib.hid ⟨BB3'.out.1.grown hg (fun e => by have := HV.out.1 _ e; have := BB3'.out.2; omega), BB3'.out.2⟩
        clear BB3'
        clear ho hg ha ST3 BB1 c4 c10 c16
        obtain ⟨c4, c10, c16⟩ := ST4.out.cells HC.out
        refine hK.out _ _ (S26.of c4.out c10.out c16.out) ?_
        clear hK K
        try simp only [Act.put, List.setIfInBounds_toArray, List.set_cons_zero, List.set_cons_succ, List.getElem_toArray, List.getElem_cons_zero, List.getElem_cons_succ]
        refine anyL_take (i := 17) 18 (v := ?_) (fun _ => True) rfl rfl (by kernel_rfl) (by kernel_rfl) (by kernel_rfl) (by kernel_rfl) (by kernel_rfl) (fun _ _ _ h => h) (fun _ _ _ _ => trivial) (S26.irr (i := 17) (by decide) (by decide) (by decide)).1 (S26.irr (i := 17) (by decide) (by decide) (by decide)).2 (Or.inl ⟨by rfl, ?_⟩) (S26.of c4.out c10.out c16.out) ?_
        rotate_left 1
        · intro w hSw; (try dsimp only at hSw); go_simp <;> with_reducible rfl
        try simp only [Act.put, List.setIfInBounds_toArray, List.set_cons_zero, List.set_cons_succ, List.getElem_toArray, List.getElem_cons_zero, List.getElem_cons_succ]
        refine anyL_ready (rs := [10]) (by kernel_rfl) (by simp) (AllL.cons rfl (fun K hK => ?_) AllL.nil)
        refine step_append_one rfl (.tmp 107) (.tmp 110) 24 34 rfl Tryd.underlying24 infoU32 rfl N0 vf (t.fo.map uV) rfl ST4.out.ol.of_ gb2 1 (uV x) rfl ((BB2.out.1.cell 0).trans rfl) rfl hN10.out.1 hN10.out.2 (ST4.out.base) ?_
        intro v' w5 ho hg ha
        obtain ⟨A2, cp2, hv, _⟩ := own_form ho
        obtain ⟨L2, hL⟩ : ∃ L, L = ((t.fo.map uV) ++ [(uV x)]).length := ⟨_, rfl⟩
        rw [← hL] at hv
        clear hL
        rw [hv] at ho ha ⊢
        clear hv
        have ST5 := Lib.hid (ST4.out.appF ho hg ha)
        have BB3' := BB3; clear BB3
        have BB3 : Hid (Blk w5 gb3 _ _ ∧ H0 ≤ gb3) := Lib.hid ⟨BB3'.out.1.grown hg (fun e => by have := HV.out.2.1 _ e; have := BB3'.out.2; omega), BB3'.out.2⟩
        clear BB3'
        clear ho hg ha ST4 BB2 c4 c10 c16
        obtain ⟨c4, c10, c16⟩ := ST5.out.cells HC.out
        refine hK.out _ _ (S26.of c4.out c10.out c16.out) ?_
        clear hK K
        try simp only [Act.put, List.setIfInBounds_toArray, List.set_cons_zero, List.set_cons_succ, List.getElem_toArray, List.getElem_cons_zero, List.getElem_cons_succ]
        refine anyL_ready (rs := [16]) (by kernel_rfl) (by simp) (AllL.cons rfl (fun K hK => ?_) AllL.nil)
        refine step_append_one rfl (.tmp 113) (.tmp 116) 24 34 rfl Tryd.underlying24 infoU32 rfl N0 ve (t.en.map uV) rfl ST5.out.ol.oe gb3 1 (uV y) rfl ((BB3.out.1.cell 0).trans rfl) rfl hN16.out.1 hN16.out.2 (ST5.out.base) ?_
        intro v' w6 ho hg ha
        obtain ⟨A3, cp3, hv, _⟩ := own_form ho
        obtain ⟨L3, hL⟩ : ∃ L, L = ((t.en.map uV) ++ [(uV y)]).length := ⟨_, rfl⟩
        rw [← hL] at hv
        clear hL
        rw [hv] at ho ha ⊢
        clear hv
        have ST6 := Lib.hid (ST5.out.appE ho hg ha)
        clear ho hg ha ST5 BB3 c4 c10 c16
        obtain ⟨c4, c10, c16⟩ := ST6.out.cells HC.out
        refine hK.out _ _ (S26.of c4.out c10.out c16.out) ?_
        clear hK K
        try simp only [Act.put, List.setIfInBounds_toArray, List.set_cons_zero, List.set_cons_succ, List.getElem_toArray, List.getElem_cons_zero, List.getElem_cons_succ]
        obtain ⟨F1, hF1⟩ := ST6.out.fin HC.out
        have FIN := Lib.hid hF1; clear hF1
        have k4 := c4.out; have k10 := c10.out; have k16 := c16.out
        have f4 := ST6.out.bd.frozen 256; have f10 := ST6.out.bd.frozen 257; have f16 := ST6.out.bd.frozen 258
        refine anyL_ready (rs := [18]) (by kernel_rfl) (by simp) (AllL.cons rfl (fun K hK => ?_) AllL.nil)
        go_simp
        refine hK.out _ _ (S26.none (by kernel_rfl) (by kernel_rfl) (by kernel_rfl)) ?_
        clear hK K
        try simp only [Act.put, List.setIfInBounds_toArray, List.set_cons_zero, List.set_cons_succ, List.getElem_toArray, List.getElem_cons_zero, List.getElem_cons_succ]
        refine anyL_take (i := 19) 20 (v := ?_) (fun _ => True) rfl rfl (by kernel_rfl) (by kernel_rfl) (by kernel_rfl) (by kernel_rfl) (by kernel_rfl) (fun _ _ _ h => h) (fun _ _ _ _ => trivial) (S26.irr (i := 19) (by decide) (by decide) (by decide)).1 (S26.irr (i := 19) (by decide) (by decide) (by decide)).2 (Or.inl ⟨by rfl, ?_⟩) (S26.none (by kernel_rfl) (by kernel_rfl) (by kernel_rfl)) ?_
        rotate_left 1
        · intro w hSw; (try dsimp only at hSw); go_simp <;> with_reducible rfl
        try simp only [Act.put, List.setIfInBounds_toArray, List.set_cons_zero, List.set_cons_succ, List.getElem_toArray, List.getElem_cons_zero, List.getElem_cons_succ]
        refine anyL_ready (rs := [20]) (by kernel_rfl) (by simp) (AllL.cons rfl (fun K hK => ?_) AllL.nil)
        go_simp
        refine hK.out _ _ (S26.none (by kernel_rfl) (by kernel_rfl) (by kernel_rfl)) ?_
        clear hK K
        try simp only [Act.put, List.setIfInBounds_toArray, List.set_cons_zero, List.set_cons_succ, List.getElem_toArray, List.getElem_cons_zero, List.getElem_cons_succ]
        refine anyL_take (i := 21) 22 (v := ?_) (fun _ => True) rfl rfl (by kernel_rfl) (by kernel_rfl) (by kernel_rfl) (by kernel_rfl) (by kernel_rfl) (fun _ _ _ h => h) (fun _ _ _ _ => trivial) (S26.irr (i := 21) (by decide) (by decide) (by decide)).1 (S26.irr (i := 21) (by decide) (by decide) (by decide)).2 (Or.inl ⟨by rfl, ?_⟩) (S26.none (by kernel_rfl) (by kernel_rfl) (by kernel_rfl)) ?_
        rotate_left 1
        · intro w hSw; (try dsimp only at hSw); go_simp <;> with_reducible rfl
        try simp only [Act.put, List.setIfInBounds_toArray, List.set_cons_zero, List.set_cons_succ, List.getElem_toArray, List.getElem_cons_zero, List.getElem_cons_succ]
        refine anyL_ready (rs := [22]) (by kernel_rfl) (by simp) (AllL.cons rfl (fun K hK => ?_) AllL.nil)
        go_simp
        refine hK.out _ _ (S26.none (by kernel_rfl) (by kernel_rfl) (by kernel_rfl)) ?_
        clear hK K
        try simp only [Act.put, List.setIfInBounds_toArray, List.set_cons_zero, List.set_cons_succ, List.getElem_toArray, List.getElem_cons_zero, List.getElem_cons_succ]
        refine anyL_done (by kernel_rfl) ?_ _
        exact hQ.out _ _ _ _ _ _ _ _ _ _ _ _ _ _ _ _ _ _ _ _ _ _ _ _ FIN.out
    ·
      go_simp
      refine hK.out _ _ (S26.of (cell_later (below_alloc _ _) c4.out) (cell_later (below_alloc _ _) c10.out) (cell_later (below_alloc _ _) c16.out)) ?_
      clear hK K
      obtain ⟨w2, hw⟩ : ∃ w', w' = w1.alloc (.cells #[.int .u32 (x : Int)] 34) := ⟨_, rfl⟩
      obtain ⟨gb2, hgb⟩ : ∃ gb, gb = w1.heap.size := ⟨_, rfl⟩
      have ST2 : Hid (St26 wS wB w2 N0 bR bD l i m g H0 row (dcells cl vn vf ve) vn vf ve _ _) := Lib.hid (by rw [hw]; exact ST1.out.alloc _)
      have BB2 : Hid (Blk w2 gb2 34 #[.int .u32 (x : Int)] ∧ H0 ≤ gb2) := Lib.hid ⟨by rw [hw, hgb]; exact Blk.new _ _ _ rfl, by rw [hgb]; exact ST1.out.h0⟩
      have BB3' := BB3; clear BB3
      have BB3 : Hid (Blk w2 gb3 _ _ ∧ H0 ≤ gb3) := Lib.hid (by rw [hw]; exact ⟨BB3'.out.1.alloc _, BB3'.out.2⟩)
      clear BB3'
      rw [← hw, ← hgb]
      clear hw hgb ST1 c4 c10 c16
      obtain ⟨c4, c10, c16⟩ := ST2.out.cells HC.out
      try simp only [Act.put, List.setIfInBounds_toArray, List.set_cons_zero, List.set_cons_succ, List.getElem_toArray, List.getElem_cons_zero, List.getElem_cons_succ]
      refine anyL_ready (rs := [3]) (by kernel_rfl) (by simp) (AllL.cons rfl (fun K hK => ?_) AllL.nil)
      go_simp
      refine hK.out _ _ (S26.of (cell_later (below_alloc _ _) c4.out) (cell_later (below_alloc _ _) c10.out) (cell_later (below_alloc _ _) c16.out)) ?_
      clear hK K
      obtain ⟨w3, hw⟩ : ∃ w', w' = w2.alloc (.cells #[.slice (some ⟨g, 0, none⟩) m m] 35) := ⟨_, rfl⟩
      obtain ⟨gb1, hgb⟩ : ∃ gb, gb = w2.heap.size := ⟨_, rfl⟩
      have ST3 : Hid (St26 wS wB w3 N0 bR bD l i m g H0 row (dcells cl vn vf ve) vn vf ve _ _) := Lib.hid (by rw [hw]; exact ST2.out.alloc _)
      have BB1 : Hid (Blk w3 gb1 35 #[.slice (some ⟨g, 0, none⟩) m m] ∧ H0 ≤ gb1) := Lib.hid ⟨by rw [hw, hgb]; exact Blk.new _ _ _ rfl, by rw [hgb]; exact ST2.out.h0⟩
      have BB2' := BB2; clear BB2
      have BB2 : Hid (Blk w3 gb2 _ _ ∧ H0 ≤ gb2) := Lib.hid (by rw [hw]; exact ⟨BB2'.out.1.alloc _, BB2'.out.2⟩)
      clear BB2'
      have BB3' := BB3; clear BB3
      have BB3 : Hid (Blk w3 gb3 _ _ ∧ H0 ≤ gb3) := Lib.hid (by rw [hw]; exact ⟨BB3'.out.1.alloc _, BB3'.out.2⟩)
      clear BB3'
      rw [← hw, ← hgb]
      clear hw hgb ST2 c4 c10 c16
      obtain ⟨c4, c10, c16⟩ := ST3.out.cells HC.out
      try simp only [Act.put, List.setIfInBounds_toArray, List.set_cons_zero, List.set_cons_succ, List.getElem_toArray, List.getElem_cons_zero, List.getElem_cons_succ]
      refine anyL_ready (rs := [4]) (by kernel_rfl) (by simp) (AllL.cons rfl (fun K hK => ?_) AllL.nil)
      refine step_append_one rfl (.tmp 102) (.tmp 104) 23 35 rfl Tryd.underlying23 infoRow rfl N0 vn (gs.map (rowV m)) rfl ST3.out.ol.on gb1 1 (rowV m g) rfl ((BB1.out.1.cell 0).trans rfl) rfl hN4.out.1 hN4.out.2 (ST3.out.base) ?_
      intro v' w4 ho hg ha
      obtain ⟨A1, cp1, hv, _⟩ := own_form ho
      obtain ⟨L1, hL⟩ : ∃ L, L = ((gs.map (rowV m)) ++ [(rowV m g)]).length := ⟨_, rfl⟩
      rw [← hL] at hv
      clear hL
      rw [hv] at ho ha ⊢
      clear hv
      have ST4 := Lib.hid (ST3.out.appN HG.out.1 HG.out.2.1 HG.out.2.2 ho hg)
      have BB2' := BB2; clear BB2
      have BB2 : Hid (Blk w4 gb2 _ _ ∧ H0 ≤ gb2) := Lib.hid ⟨BB2'.out.1.grown hg (fun e => by have := HV.out.1 _ e; have := BB2'.out.2; omega), BB2'.out.2⟩
      clear BB2'
      have BB3' := BB3; clear BB3
      have BB3 : Hid (Blk w4 gb3 _ _ ∧ H0 ≤ gb3) := Lib.hid ⟨BB3'.out.1.grown hg (fun e => by have := HV.out.1 _ e; have := BB3'.out.2; omega), BB3'.out.2⟩
      clear BB3'
      clear ho hg ha ST3 BB1 c4 c10 c16
      obtain ⟨c4, c10, c16⟩ := ST4.out.cells HC.out
      refine hK.out _ _ (S26.of c4.out c10.out c16.out) ?_
      clear hK K
      try simp only [Act.put, List.setIfInBounds_toArray, List.set_cons_zero, List.set_cons_succ, List.getElem_toArray, List.getElem_cons_zero, List.getElem_cons_succ]
      refine anyL_take (i := 17) 18 (v := ?_) (fun _ => True) rfl rfl (by kernel_rfl) (by kernel_rfl) (by kernel_rfl) (by kernel_rfl) (by kernel_rfl) (fun _ _ _ h => h) (fun _ _ _ _ => trivial) (S26.irr (i := 17) (by decide) (by decide) (by decide)).1 (S26.irr (i := 17) (by decide) (by decide) (by decide)).2 (Or.inl ⟨by rfl, ?_⟩) (S26.of c4.out c10.out c16.out) ?_
      rotate_left 1
      · intro w hSw; (try dsimp only at hSw); go_simp <;> with_reducible rfl
      try simp only [Act.put, List.setIfInBounds_toArray, List.set_cons_zero, List.set_cons_succ, List.getElem_toArray, List.getElem_cons_zero, List.getElem_cons_succ]
      refine anyL_ready (rs := [10]) (by kernel_rfl) (by simp) (AllL.cons rfl (fun K hK => ?_) AllL.nil)
      refine step_append_one rfl (.tmp 107) (.tmp 110) 24 34 rfl Tryd.underlying24 infoU32 rfl N0 vf (t.fo.map uV) rfl ST4.out.ol.of_ gb2 1 (uV x) rfl ((BB2.out.1.cell 0).trans rfl) rfl hN10.out.1 hN10.out.2 (ST4.out.base) ?_
      intro v' w5 ho hg ha
      obtain ⟨A2, cp2, hv, _⟩ := own_form ho
      obtain ⟨L2, hL⟩ : ∃ L, L = ((t.fo.map uV) ++ [(uV x)]).length := ⟨_, rfl⟩
      rw [← hL] at hv
      clear hL
      rw [hv] at ho ha ⊢
      clear hv
      have ST5 := Lib.hid (ST4.out.appF ho hg ha)
      have BB3' := BB3; clear BB3
      have BB3 : Hid (Blk w5 gb3 _ _ ∧ H0 ≤ gb3) := Lib.hid ⟨BB3'.out.1.grown hg (fun e => by have := HV.out.2.1 _ e; have := BB3'.out.2; omega), BB3'.out.2⟩
      clear BB3'
      clear ho hg ha ST4 BB2 c4 c10 c16
      obtain ⟨c4, c10, c16⟩ := ST5.out.cells HC.out
      refine hK.out _ _ (S26.of c4.out c10.out c16.out) ?_
      clear hK K
      try simp only [Act.put, List.setIfInBounds_toArray, List.set_cons_zero, List.set_cons_succ, List.getElem_toArray, List.getElem_cons_zero, List.getElem_cons_succ]
      refine anyL_ready (rs := [16]) (by kernel_rfl) (by simp) (AllL.cons rfl (fun K hK => ?_) AllL.nil)
      refine step_append_one rfl (.tmp 113) (.tmp 116) 24 34 rfl Tryd.underlying24 infoU32 rfl N0 ve (t.en.map uV) rfl ST5.out.ol.oe gb3 1 (uV y) rfl ((BB3.out.1.cell 0).trans rfl) rfl hN16.out.1 hN16.out.2 (ST5.out.base) ?_
      intro v' w6 ho hg ha
      obtain ⟨A3, cp3, hv, _⟩ := own_form ho
      obtain ⟨L3, hL⟩ : ∃ L, L = ((t.en.map uV) ++ [(uV y)]).length := ⟨_, rfl⟩
      rw [← hL] at hv
      clear hL
      rw [hv] at ho ha ⊢
      clear hv
      have ST6 := Lib.hid (ST5.out.appE ho hg ha)
      clear ho hg ha ST5 BB3 c4 c10 c16
      obtain ⟨c4, c10, c16⟩ := ST6.out.cells HC.out
      refine hK.out _ _ (S26.of c4.out c10.out c16.out) ?_
      clear hK K
      try simp only [Act.put, List.setIfInBounds_toArray, List.set_cons_zero, List.set_cons_succ, List.getElem_toArray, List.getElem_cons_zero, List.getElem_cons_succ]
      obtain ⟨F1, hF1⟩ := ST6.out.fin HC.out
      have FIN := Lib.hid hF1; clear hF1
      have k4 := c4.out; have k10 := c10.out; have k16 := c16.out
      have f4 := ST6.out.bd.frozen 256; have f10 := ST6.out.bd.frozen 257; have f16 := ST6.out.bd.frozen 258
      refine anyL_ready (rs := [18]) (by kernel_rfl) (by simp) (AllL.cons rfl (fun K hK => ?_) AllL.nil)
      go_simp
      refine hK.out _ _ (S26.none (by kernel_rfl) (by kernel_rfl) (by kernel_rfl)) ?_
      clear hK K
      try simp only [Act.put, List.setIfInBounds_toArray, List.set_cons_zero, List.set_cons_succ, List.getElem_toArray, List.getElem_cons_zero, List.getElem_cons_succ]
      refine anyL_take (i := 19) 20 (v := ?_) (fun _ => True) rfl rfl (by kernel_rfl) (by kernel_rfl) (by kernel_rfl) (by kernel_rfl) (by kernel_rfl) (fun _ _ _ h => h) (fun _ _ _ _ => trivial) (S26.irr (i := 19) (by decide) (by decide) (by decide)).1 (S26.irr (i := 19) (by decide) (by decide) (by decide)).2 (Or.inl ⟨by rfl, ?_⟩) (S26.none (by kernel_rfl) (by kernel_rfl) (by kernel_rfl)) ?_
      rotate_left 1
      · intro w hSw; (try dsimp only at hSw); go_simp <;> with_reducible rfl
      try simp only [Act.put, List.setIfInBounds_toArray, List.set_cons_zero, List.set_cons_succ, List.getElem_toArray, List.getElem_cons_zero, List.getElem_cons_succ]
      refine anyL_ready (rs := [20]) (by kernel_rfl) (by simp) (AllL.cons rfl (fun K hK => ?_) AllL.nil)
      go_simp
      refine hK.out _ _ (S26.none (by kernel_rfl) (by kernel_rfl) (by kernel_rfl)) ?_
      clear hK K
      try simp only [Act.put, List.setIfInBounds_toArray, List.set_cons_zero, List.set_cons_succ, List.getElem_toArray, List.getElem_cons_zero, List.getElem_cons_succ]
      refine anyL_take (i := 21) 22 (v := ?_) (fun _ => True) rfl rfl (by kernel_rfl) (by kernel_rfl) (by kernel_rfl) (by kernel_rfl) (by kernel_rfl) (fun _ _ _ h => h) (fun _ _ _ _ => trivial) (S26.irr (i := 21) (by decide) (by decide) (by decide)).1 (S26.irr (i := 21) (by decide) (by decide) (by decide)).2 (Or.inl ⟨by rfl, ?_⟩) (S26.none (by kernel_rfl) (by kernel_rfl) (by kernel_rfl)) ?_
      rotate_left 1
      · intro w hSw; (try dsimp only at hSw); go_simp <;> with_reducible rfl
      try simp only [Act.put, List.setIfInBounds_toArray, List.set_cons_zero, List.set_cons_succ, List.getElem_toArray, List.getElem_cons_zero, List.getElem_cons_succ]
      refine anyL_ready (rs := [22]) (by kernel_rfl) (by simp) (AllL.cons rfl (fun K hK => ?_) AllL.nil)
      go_simp
      refine hK.out _ _ (S26.none (by kernel_rfl) (by kernel_rfl) (by kernel_rfl)) ?_
      clear hK K
      try simp only [Act.put, List.setIfInBounds_toArray, List.set_cons_zero, List.set_cons_succ, List.getElem_toArray, List.getElem_cons_zero, List.getElem_cons_succ]
      refine anyL_done (by kernel_rfl) ?_ _
      exact hQ.out _ _ _ _ _ _ _ _ _ _ _ _ _ _ _ _ _ _ _ _ _ _ _ _ FIN.out
end Go.Proofs.YtnglgppdkohhpaaDoor
