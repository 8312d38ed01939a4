/- THE WALK of step, one of its arms: copy (package heronlaw14; printed by a program of ours). -/
import Derived.Test.YtlojmmcagglpoaaGreatQKeepRow
import Derived.Test.YtlojmmcagglpoaaGreatQPlayBook
import Derived.Test.YtlojmmcagglpoaaGreatQStepQ
import Derived.Deep.RegionHeld
import Derived.Deep.RegionHeld3
import Derived.Deep.DrawnRows
import Derived.Deep.DeepMust
namespace Go.Proofs.YtlojmmcagglpoaaGreat
open Go.RowKit Go.Maps
section
variable {w0 W W1 W2 : World} {C : Nat → Nat} {P p q n c p2 : Nat} {h : Hd} {ps qs : List Nat} {v : Value} {L : List PartT} {d : Dk} {r : Rd}
theorem GS.copyD (hG : GS w0 W C L) (hd : DC W w0.heap.size C c p n d) (hc : L.length + 1 ≠ c) : Calls Tryz.prog 40 #[.pointer (some ⟨p, 0, none⟩)] W fun e w' => ∃ p2, e = .returned (.pointer (some ⟨p2, 0, none⟩)) ∧ GS w0 w' (paint C W.heap.size (L.length + 1)) (L ++ [DCp w0 (L.length + 1) p2 n d]) := by
  refine (copy_c hd _ hc).mono ?_
  rintro e w' ⟨p2, he, _, _, hd2, hb⟩
  exact ⟨p2, he, hG.add hb (hd2.less hG.bel.size) (Stb.dcp _ _ _ _ _)⟩
theorem GS.copyR (hG : GS w0 W C L) (hr : RC W w0.heap.size C c q r) (hok : r.Ok n) : Calls Tryz.prog 41 #[.pointer (some ⟨q, 0, none⟩)] W fun e w' => ∃ p2, e = .returned (.pointer (some ⟨p2, 0, none⟩)) ∧ GS w0 w' (paint C W.heap.size (L.length + 1)) (L ++ [RCp w0 (L.length + 1) p2 r]) ∧ Below W.heap.size W w' := by
  refine (rcopy_any hr hok (L.length + 1)).mono ?_
  rintro e w' ⟨p2, he, _, hd2, hb⟩
  exact ⟨p2, he, hG.add hb (hd2.less hG.bel.size) (Stb.rcp _ _ _ _), hb⟩
theorem Pp.growD (hp : Pp w0 P h ps qs W C) (hb1 : Below W.heap.size W W1) (ho : W2.ownsRow w0.heap.size 25 1 v (ps.length + 1) (ps.map ptV ++ [ptV p2])) (hg : W1.grownBy W2 h.d.ownBlock) (ha : v.ownBlock = h.d.ownBlock ∨ v.ownBlock = some W1.heap.size) :
    Pp w0 P { h with d := v } (ps ++ [p2]) qs (W2.setCell ⟨P, 0, none⟩ v) (paint C W.heap.size 1) ∧ Chg (fun b => C b = 1) W (W2.setCell ⟨P, 0, none⟩ v) := by
  have hc1 : Chg (fun b => h.d.ownBlock = some b) W W2 := (Chg.of_below hb1 _).grown hg (fun k e _ => e)
  have hB := hp.1.1.chg hc1 (hp.1.1.apart hp.2.1.1 (by decide))
  have hR := hc1.own hp.2.2.1 (fun k hk e => by
    rcases own_apart hp.2.2.1 hp.2.1.1 (by decide) with h1 | h1
    · rw [h1] at hk; cases hk
    · exact h1 (hk.trans e.symm))
  have hch : Chg (fun k => k = P) W2 (W2.setCell ⟨P, 0, none⟩ v) := Chg.setCell (S := fun k => k = P) (Chg.refl _ _) (.inl rfl) _
  refine ⟨⟨⟨hB.set_ 0 v, by rw [paint_old _ _ hp.1.1.lt]; exact hp.1.2⟩, ⟨?_, fun k hk => ?_⟩, ⟨hch.own hR (fun k hk e => hB.apart hR (by decide) (by rw [hk, e])), fun k hk => ?_⟩⟩, (hc1.mono (S' := fun b => C b = 1) (fun b _ e => hp.2.1.2 b e)).trans hch (fun b _ e => by subst e; exact hp.1.2)⟩
  · rw [List.length_append, List.map_append]
    exact hch.own ho (fun k hk e => hB.apart ho (by decide) (by rw [hk, e]))
  · rcases ha with e | e
    · rw [e] at hk
      rw [paint_old _ _ (hp.2.1.1.lt k hk).2]; exact hp.2.1.2 k hk
    · rw [e] at hk
      obtain rfl := Option.some.inj hk
      exact paint_new _ _ hb1.size
  · rw [paint_old _ _ (hp.2.2.1.lt k hk).2]; exact hp.2.2.2 k hk
theorem Pp.growR (hp : Pp w0 P h ps qs W C) (hb1 : Below W.heap.size W W1) (ho : W2.ownsRow w0.heap.size 28 1 v (qs.length + 1) (qs.map ptV ++ [ptV p2])) (hg : W1.grownBy W2 h.r.ownBlock) (ha : v.ownBlock = h.r.ownBlock ∨ v.ownBlock = some W1.heap.size) :
    Pp w0 P { h with r := v } ps (qs ++ [p2]) (W2.setCell ⟨P, 1, none⟩ v) (paint C W.heap.size 1) ∧ Chg (fun b => C b = 1) W (W2.setCell ⟨P, 1, none⟩ v) := by
  have hc1 : Chg (fun b => h.r.ownBlock = some b) W W2 := (Chg.of_below hb1 _).grown hg (fun k e _ => e)
  have hB := hp.1.1.chg hc1 (hp.1.1.apart hp.2.2.1 (by decide))
  have hR := hc1.own hp.2.1.1 (fun k hk e => by
    rcases own_apart hp.2.1.1 hp.2.2.1 (by decide) with h1 | h1
    · rw [h1] at hk; cases hk
    · exact h1 (hk.trans e.symm))
  have hch : Chg (fun k => k = P) W2 (W2.setCell ⟨P, 1, none⟩ v) := Chg.setCell (S := fun k => k = P) (Chg.refl _ _) (.inl rfl) _
  refine ⟨⟨⟨hB.set_ 1 v, by rw [paint_old _ _ hp.1.1.lt]; exact hp.1.2⟩, ⟨hch.own hR (fun k hk e => hB.apart hR (by decide) (by rw [hk, e])), fun k hk => ?_⟩, ⟨?_, fun k hk => ?_⟩⟩, (hc1.mono (S' := fun b => C b = 1) (fun b _ e => hp.2.2.2 b e)).trans hch (fun b _ e => by subst e; exact hp.1.2)⟩
  · rw [paint_old _ _ (hp.2.1.1.lt k hk).2]; exact hp.2.1.2 k hk
  · rw [List.length_append, List.map_append]
    exact hch.own ho (fun k hk e => hB.apart ho (by decide) (by rw [hk, e]))
  · rcases ha with e | e
    · rw [e] at hk
      rw [paint_old _ _ (hp.2.2.1.lt k hk).2]; exact hp.2.2.2 k hk
    · rw [e] at hk
      obtain rfl := Option.some.inj hk
      exact paint_new _ _ hb1.size
/-- the play's own part turned -/
theorem GS.turnP {h' : Hd} {ps' qs' : List Nat} (hG : GS w0 W C (Pp w0 P h ps qs :: L)) (hT : Pp w0 P h' ps' qs' W2 (paint C W.heap.size 1) ∧ Chg (fun b => C b = 1) W W2) : GS w0 W2 (paint C W.heap.size 1) (Pp w0 P h' ps' qs' :: L) :=
  hG.turn (k := 0) (by simp) hT.2 hT.1 (Stb.pp _ _ _ _ _) rfl
end
theorem get_snoc1 {β : Type} {l : List β} {a u : β} {j : Nat} (h : (l ++ [a])[j]? = some u) : (j < l.length ∧ l[j]? = some u) ∨ (j = l.length ∧ u = a) := by
  by_cases hj : j < l.length
  · rw [List.getElem?_append_left hj] at h; exact .inl ⟨hj, h⟩
  · rw [List.getElem?_append_right (by omega)] at h
    have hlt := (List.getElem?_eq_some_iff.1 h).1
    have h0 : j - l.length = 0 := by simp at hlt; omega
    rw [h0] at h
    exact .inr ⟨by simp at hlt; omega, (by simpa using h.symm)⟩
theorem infoDP : (Tryz.prog.info? 25).map (fun i => (i.zero, i.size, i.bytes)) = some (some (.pointer none), 1, 8) := by kernel_rfl
theorem infoRP : (Tryz.prog.info? 28).map (fun i => (i.zero, i.size, i.bytes)) = some (some (.pointer none), 1, 8) := by kernel_rfl
end Go.Proofs.YtlojmmcagglpoaaGreat
namespace Go.Proofs.YtlojmmcagglpoaaGreat
open Go.RowKit Go.Maps
attribute [local go_sem ↓] Go.wp_at_zero Go.wp_at_succ
set_option maxRecDepth 20000 in
set_option maxHeartbeats 4000000 in
theorem step_copy {w0 W : World} {C : Nat → Nat} {P : Nat} {h : Hd} {bs : List (List UInt8)} {ns : List (List (List UInt8))} {ds : List DE} {i : Nat} (hG : GS w0 W C (LP w0 P h bs ns ds)) (hI : InvP i ds bs ns) (c1 : Int) (nm ot : List UInt8) (sa : ByteArray) (tm c6 c7 c8 c9 : Int) (A : Option Addr) (m cp : Nat) : Calls Tryz.prog 10 #[.pointer (some ⟨P, 0, none⟩), .agg #[.int .i64 11, .int .i64 c1, .string (strB nm), .string (strB ot), .string sa, .int .i64 tm, .int .i64 c6, .int .i64 c7, .int .i64 c8, .int .i64 c9, .slice A m cp]] W (StpQ w0 P i) := by
  obtain ⟨w1, hw1⟩ : ∃ w1, w1 = W.alloc (.cells #[.int .i64 11, .int .i64 c1, .string (strB nm), .string (strB ot), .string sa, .int .i64 tm, .int .i64 c6, .int .i64 c7, .int .i64 c8, .int .i64 c9, .slice A m cp] 41) := ⟨_, rfl⟩
  obtain ⟨g, hg⟩ : ∃ g, g = W.heap.size := ⟨_, rfl⟩
  have hb : Below W.heap.size W w1 := by rw [hw1]; exact (Below.refl _ _).alloc (Nat.le_refl _) _
  have K1 : Hid (Blk w1 g 41 #[.int .i64 11, .int .i64 c1, .string (strB nm), .string (strB ot), .string sa, .int .i64 tm, .int .i64 c6, .int .i64 c7, .int .i64 c8, .int .i64 c9, .slice A m cp]) := Lib.hid (by rw [hw1, hg]; exact Blk.new W _ _ rfl)
  obtain ⟨cB, hcB⟩ : ∃ cB, cB = (LP w0 P h bs ns ds).length + 1 := ⟨_, rfl⟩
  obtain ⟨C1, hC1⟩ : ∃ C1, C1 = paint C W.heap.size cB := ⟨_, rfl⟩
  obtain ⟨BP, hBP⟩ : ∃ BP : PartT, BP = (fun W C => FrC W C cB (fun w => Blk w g 41 #[.int .i64 11, .int .i64 c1, .string (strB nm), .string (strB ot), .string sa, .int .i64 tm, .int .i64 c6, .int .i64 c7, .int .i64 c8, .int .i64 c9, .slice A m cp])) := ⟨_, rfl⟩
  have G1 : Hid (GS w0 w1 C1 (LP w0 P h bs ns ds ++ [BP])) := Lib.hid (by
    have h1 := hG.holdBlk hb K1.out (by omega)
    rw [← hcB] at h1
    rw [hBP, hC1]; exact h1)
  have HBP : Hid (∀ w C, BP w C → Blk w g 41 #[.int .i64 11, .int .i64 c1, .string (strB nm), .string (strB ot), .string sa, .int .i64 tm, .int .i64 c6, .int .i64 c7, .int .i64 c8, .int .i64 c9, .slice A m cp]) := Lib.hid (fun w C h => by rw [hBP] at h; exact h.now)
  have HZ : Hid (∀ w', Blk w' g 41 #[.int .i64 11, .int .i64 c1, .string (strB nm), .string (strB ot), .string sa, .int .i64 tm, .int .i64 c6, .int .i64 c7, .int .i64 c8, .int .i64 c9, .slice A m cp] → (fun w' => w'.cell? ⟨g, 0, none⟩ = some (.int .i64 11) ∧ w'.cell? ⟨g, 1, none⟩ = some (.int .i64 c1) ∧ w'.cell? ⟨g, 2, none⟩ = some (.string (strB nm)) ∧ w'.cell? ⟨g, 3, none⟩ = some (.string (strB ot)) ∧ w'.cell? ⟨g, 4, none⟩ = some (.string sa) ∧ w'.cell? ⟨g, 5, none⟩ = some (.int .i64 tm) ∧ w'.cell? ⟨g, 6, none⟩ = some (.int .i64 c6) ∧ w'.cell? ⟨g, 7, none⟩ = some (.int .i64 c7) ∧ w'.cell? ⟨g, 8, none⟩ = some (.int .i64 c8) ∧ w'.cell? ⟨g, 9, none⟩ = some (.int .i64 c9) ∧ w'.cell? ⟨g, 10, none⟩ = some (.slice A m cp)) w') := Lib.hid (fun w' hb => ⟨(hb.cell 0).trans rfl, (hb.cell 1).trans rfl, (hb.cell 2).trans rfl, (hb.cell 3).trans rfl, (hb.cell 4).trans rfl, (hb.cell 5).trans rfl, (hb.cell 6).trans rfl, (hb.cell 7).trans rfl, (hb.cell 8).trans rfl, (hb.cell 9).trans rfl, (hb.cell 10).trans rfl⟩)
  obtain ⟨gd, cd, gr, cr, hd, hr, hcd, hcr⟩ := LP.rows (M := [BP]) G1.out hI.pos
  have HPD : Hid (∀ w C, GS w0 w C (LP w0 P h bs ns ds ++ [BP]) → w.cell? ⟨P, 0, none⟩ = some (.slice (some ⟨gd, 0, none⟩) ds.length cd) ∧ w.cell? ⟨P, 1, none⟩ = some (.slice (some ⟨gr, 0, none⟩) ds.length cr)) := Lib.hid (fun w C hq => ⟨by rw [← hd]; exact ((LP.pp hq).1.1.cell 0).trans rfl, by rw [← hr]; exact ((LP.pp hq).1.1.cell 1).trans rfl⟩)
  have HRW : Hid (∀ w C, GS w0 w C (LP w0 P h bs ns ds ++ [BP]) → ∀ (j : Nat) (x : DE), ds[j]? = some x → w.cell? ⟨gd, j, none⟩ = some (.pointer (some ⟨x.p, 0, none⟩)) ∧ w.cell? ⟨gr, j, none⟩ = some (.pointer (some ⟨x.q, 0, none⟩))) := Lib.hid (fun w C hq j x hx => LP.cells hq hd hr hx)
  have HCN : Hid (∀ b, g ≤ b → 5 < C1 b) := Lib.hid (fun b hq => by rw [hC1, paint_new C cB (by omega), hcB]; unfold LP; simp only [List.length_cons]; omega)
  have CM := Lib.hid (mod_any c1 ds.length hI.pos (by have := hI.eight; omega))
  have HI := Lib.hid hI
  have hpos := hI.pos
  have HS : Hid (∀ w' C', GS w0 w' C' (LP w0 P h bs ns ds ++ [BP]) → (fun w' => w'.cell? ⟨P, 0, none⟩ = some (.slice (some ⟨gd, 0, none⟩) ds.length cd) ∧ w'.cell? ⟨g, 0, none⟩ = some (.int .i64 11) ∧ w'.cell? ⟨g, 1, none⟩ = some (.int .i64 c1) ∧ w'.cell? ⟨g, 2, none⟩ = some (.string (strB nm)) ∧ w'.cell? ⟨g, 3, none⟩ = some (.string (strB ot)) ∧ w'.cell? ⟨g, 4, none⟩ = some (.string sa) ∧ w'.cell? ⟨g, 5, none⟩ = some (.int .i64 tm) ∧ w'.cell? ⟨g, 6, none⟩ = some (.int .i64 c6) ∧ w'.cell? ⟨g, 7, none⟩ = some (.int .i64 c7) ∧ w'.cell? ⟨g, 8, none⟩ = some (.int .i64 c8) ∧ w'.cell? ⟨g, 9, none⟩ = some (.int .i64 c9) ∧ w'.cell? ⟨g, 10, none⟩ = some (.slice A m cp)) w') := Lib.hid (fun w' C' hq => ⟨(HPD.out _ _ hq).1, HZ.out _ (HBP.out _ _ hq.last)⟩)
  have HHD := Lib.hid hd
  have HHR := Lib.hid hr
  clear hb hG hBP hC1 hcB hI hd hr
  go_enter Tryz.func10, Tryz.ntmps10
  go_upto_region 1 with fail
  rw [← hw1, ← hg]
  clear hw1 hg
  refine wp_region_any (by kernel_rfl) ?_
  change wpAny _ _ _ _ _ _ _ (World.drew _)
  refine wpAny_of_held (S := fun w' => w'.cell? ⟨P, 0, none⟩ = some (.slice (some ⟨gd, 0, none⟩) ds.length cd) ∧ w'.cell? ⟨g, 0, none⟩ = some (.int .i64 11) ∧ w'.cell? ⟨g, 1, none⟩ = some (.int .i64 c1) ∧ w'.cell? ⟨g, 2, none⟩ = some (.string (strB nm)) ∧ w'.cell? ⟨g, 3, none⟩ = some (.string (strB ot)) ∧ w'.cell? ⟨g, 4, none⟩ = some (.string sa) ∧ w'.cell? ⟨g, 5, none⟩ = some (.int .i64 tm) ∧ w'.cell? ⟨g, 6, none⟩ = some (.int .i64 c6) ∧ w'.cell? ⟨g, 7, none⟩ = some (.int .i64 c7) ∧ w'.cell? ⟨g, 8, none⟩ = some (.int .i64 c8) ∧ w'.cell? ⟨g, 9, none⟩ = some (.int .i64 c9) ∧ w'.cell? ⟨g, 10, none⟩ = some (.slice A m cp)) _ _ _ _ ?_
  obtain ⟨w2, hw2⟩ : ∃ w2, w2 = w1.drew := ⟨_, rfl⟩
  have G2 : Hid (GS w0 w2 C1 (LP w0 P h bs ns ds ++ [BP])) := Lib.hid (by rw [hw2]; exact G1.out.keep (Below.refl _ _).drew)
  rw [← hw2]
  clear hw2 K1 G1
  have hHeld : (fun w' => w'.cell? ⟨P, 0, none⟩ = some (.slice (some ⟨gd, 0, none⟩) ds.length cd) ∧ w'.cell? ⟨g, 0, none⟩ = some (.int .i64 11) ∧ w'.cell? ⟨g, 1, none⟩ = some (.int .i64 c1) ∧ w'.cell? ⟨g, 2, none⟩ = some (.string (strB nm)) ∧ w'.cell? ⟨g, 3, none⟩ = some (.string (strB ot)) ∧ w'.cell? ⟨g, 4, none⟩ = some (.string sa) ∧ w'.cell? ⟨g, 5, none⟩ = some (.int .i64 tm) ∧ w'.cell? ⟨g, 6, none⟩ = some (.int .i64 c6) ∧ w'.cell? ⟨g, 7, none⟩ = some (.int .i64 c7) ∧ w'.cell? ⟨g, 8, none⟩ = some (.int .i64 c8) ∧ w'.cell? ⟨g, 9, none⟩ = some (.int .i64 c9) ∧ w'.cell? ⟨g, 10, none⟩ = some (.slice A m cp)) w2 := HS.out _ _ G2.out
  refine wpAnyH_take (i := 0) (v := ?_) rfl (by kernel_rfl) (by kernel_rfl) (by kernel_rfl) (fun _ _ _ h => h) (Or.inl ⟨by rfl, ?_⟩) (by assumption) ?_
  rotate_left 1
  · intro w hSw; (try dsimp only at hSw); go_simp <;> with_reducible rfl
  try simp only [Act.put, List.setIfInBounds_toArray, List.set_cons_zero, List.set_cons_succ, List.getElem_toArray, List.getElem_cons_zero]
  refine wpAnyH_take (i := 1) (v := ?_) rfl (by kernel_rfl) (by kernel_rfl) (by kernel_rfl) (fun _ _ _ h => h) (Or.inl ⟨by rfl, ?_⟩) (by assumption) ?_
  rotate_left 1
  · intro w hSw; obtain ⟨y0, z0, z1, z2, z3, z4, z5, z6, z7, z8, z9, z10⟩ := hSw; (try dsimp only at hSw); go_simp <;> with_reducible rfl
  try simp only [Act.put, List.setIfInBounds_toArray, List.set_cons_zero, List.set_cons_succ, List.getElem_toArray, List.getElem_cons_zero, List.getElem_cons_succ]
  refine wpAnyH_take (i := 2) (v := ?_) rfl (by kernel_rfl) (by kernel_rfl) (by kernel_rfl) (fun _ _ _ h => h) (Or.inl ⟨by rfl, ?_⟩) (by assumption) ?_
  rotate_left 1
  · intro w hSw; (try dsimp only at hSw); go_simp <;> with_reducible rfl
  try simp only [Act.put, List.setIfInBounds_toArray, List.set_cons_zero, List.set_cons_succ, List.getElem_toArray, List.getElem_cons_zero, List.getElem_cons_succ]
  refine wpAnyH_take (i := 3) (v := ?_) rfl (by kernel_rfl) (by kernel_rfl) (by kernel_rfl) (fun _ _ _ h => h) (Or.inl ⟨by rfl, ?_⟩) (by assumption) ?_
  rotate_left 1
  · intro w hSw; (try dsimp only at hSw); go_simp <;> with_reducible rfl
  try simp only [Act.put, List.setIfInBounds_toArray, List.set_cons_zero, List.set_cons_succ, List.getElem_toArray, List.getElem_cons_zero, List.getElem_cons_succ]
  refine wpAnyH_take (i := 4) (v := ?_) rfl (by kernel_rfl) (by kernel_rfl) (by kernel_rfl) (fun _ _ _ h => h) (Or.inl ⟨by rfl, ?_⟩) (by assumption) ?_
  rotate_left 1
  · intro w hSw; (try dsimp only at hSw); go_simp <;> with_reducible rfl
  try simp only [Act.put, List.setIfInBounds_toArray, List.set_cons_zero, List.set_cons_succ, List.getElem_toArray, List.getElem_cons_zero, List.getElem_cons_succ]
  refine wpAnyH_take (i := 5) (v := ?_) rfl (by kernel_rfl) (by kernel_rfl) (by kernel_rfl) (fun _ _ _ h => h) (Or.inl ⟨by rfl, ?_⟩) (by assumption) ?_
  rotate_left 1
  · intro w hSw; obtain ⟨y0, z0, z1, z2, z3, z4, z5, z6, z7, z8, z9, z10⟩ := hSw; (try dsimp only at hSw); go_simp <;> with_reducible rfl
  try simp only [Act.put, List.setIfInBounds_toArray, List.set_cons_zero, List.set_cons_succ, List.getElem_toArray, List.getElem_cons_zero, List.getElem_cons_succ]
  refine wpAnyH_take (i := 6) (v := ?_) rfl (by kernel_rfl) (by kernel_rfl) (by kernel_rfl) (fun _ _ _ h => h) (Or.inl ⟨by rfl, ?_⟩) (by assumption) ?_
  rotate_left 1
  · intro w hSw; (try dsimp only at hSw); go_simp <;> with_reducible rfl
  try simp only [Act.put, List.setIfInBounds_toArray, List.set_cons_zero, List.set_cons_succ, List.getElem_toArray, List.getElem_cons_zero, List.getElem_cons_succ]
  refine wpAnyH_ready (rs := [7]) (by kernel_rfl) (by simp) (AllReadyH.cons rfl (fun K hK => ?_) AllReadyH.nil)
  have hPrev := hHeld
  clear hHeld
  go_simp
  refine (CM.out w2).mono ?_
  rintro e w2 ⟨j, hj, rfl, rfl⟩
  refine hK.out _ _ (HS.out _ _ G2.out) (fun hHeld => ?_)
  clear hK K hPrev
  try simp only [Act.put, List.setIfInBounds_toArray, List.set_cons_zero, List.set_cons_succ, List.getElem_toArray, List.getElem_cons_zero, List.getElem_cons_succ]
  refine wpAnyH_take (i := 8) (v := ?_) rfl (by kernel_rfl) (by kernel_rfl) (by kernel_rfl) (fun _ _ _ h => h) (Or.inl ⟨by rfl, ?_⟩) (by assumption) ?_
  rotate_left 1
  · intro w hSw; (try dsimp only at hSw); go_simp <;> with_reducible rfl
  try simp only [Act.put, List.setIfInBounds_toArray, List.set_cons_zero, List.set_cons_succ, List.getElem_toArray, List.getElem_cons_zero, List.getElem_cons_succ]
  refine wpAnyH_done (by kernel_rfl) ?_ _
  obtain ⟨x, hx⟩ : ∃ x, ds[j]? = some x := ⟨_, List.getElem?_eq_getElem hj⟩
  obtain ⟨y0, y1⟩ := HPD.out _ _ G2.out
  obtain ⟨x0, x1⟩ := HRW.out _ _ G2.out j x hx
  obtain ⟨z0, z1, z2, z3, z4, z5, z6, z7, z8, z9, z10⟩ := HZ.out _ (HBP.out _ _ G2.out.last)
  have HX := Lib.hid hx
  clear hHeld hx CM
  go_upto_region 28 with fail
  by_cases hfull : 8 ≤ ds.length
  · have HF : Hid (StpQ w0 P i (.returned (.bool true)) w2) := Lib.hid (StpQ.same HI.out G2.out.front)
    go_wp2_with fail
    go_ret
    exact HF.out
  have HAL := Lib.hid (HI.out.al j x HX.out)
  have CD := Lib.hid (GS.copyD G2.out.front (LP.dk G2.out HX.out) (by rw [LP.len]; omega))
  go_wp2_with fail
  refine CD.out.mono ?_
  rintro e w3 ⟨p2, rfl, hg3⟩
  obtain ⟨C3, hC3⟩ : ∃ C3, C3 = paint C1 w2.heap.size ((LP w0 P h bs ns ds).length + 1) := ⟨_, rfl⟩
  obtain ⟨R0, hR0⟩ : ∃ R0, R0 = (Bp w0 h.b bs :: Sp w0 h.s bs :: Np w0 h.n ns :: Ep w0 h.e ns :: DLp w0 0 ds) ++ [DCp w0 ((LP w0 P h bs ns ds).length + 1) p2 x.n x.d] := ⟨_, rfl⟩
  have G3 : Hid (GS w0 w3 C3 (Pp w0 P h (ds.map DE.p) (ds.map DE.q) :: R0)) := Lib.hid (by rw [hC3, hR0]; exact hg3)
  have RC3 : Hid (RC w3 w0.heap.size C3 (6 + 2 * j + 1) x.q x.r) := Lib.hid (by rw [hC3]; exact LP.rd hg3 HX.out)
  have PP3 : Hid (Pp w0 P h (ds.map DE.p) (ds.map DE.q) w3 C3) := Lib.hid (G3.out.at_ (k := 0) rfl)
  have HR0 := Lib.hid hR0
  clear hg3 hC3 hR0 G2 CD z0 z1 z2 z3 z4 z5 z6 z7 z8 z9 z10 y0 y1 x0 x1
  have y0 : w3.cell? ⟨P, 0, none⟩ = some (.slice (some ⟨gd, 0, none⟩) ds.length cd) := by rw [← HHD.out]; exact (PP3.out.1.1.cell 0).trans rfl
  have B4 := Lib.hid ((Below.refl w3.heap.size w3).alloc (Nat.le_refl _) (.cells #[.pointer (some ⟨p2, 0, none⟩)] 25))
  have y0' : (w3.alloc (.cells #[.pointer (some ⟨p2, 0, none⟩)] 25)).cell? ⟨P, 0, none⟩ = some (.slice (some ⟨gd, 0, none⟩) ds.length cd) := cell_later B4.out y0
  have K4 : Hid (Blk (w3.alloc (.cells #[.pointer (some ⟨p2, 0, none⟩)] 25)) w3.heap.size 25 #[.pointer (some ⟨p2, 0, none⟩)]) := Lib.hid (Blk.new _ _ _ rfl)
  have O4 : Hid ((w3.alloc (.cells #[.pointer (some ⟨p2, 0, none⟩)] 25)).ownsRow w0.heap.size 25 1 (.slice (some ⟨gd, 0, none⟩) ds.length cd) ds.length ((ds.map DE.p).map ptV)) := Lib.hid (by
    have h1 := own_keep PP3.out.2.1.1 B4.out
    rw [HHD.out, List.length_map] at h1
    exact h1)
  have HB4 : Hid (w0.heap.size ≤ (w3.alloc (.cells #[.pointer (some ⟨p2, 0, none⟩)] 25)).heap.size) := Lib.hid (Nat.le_trans G3.out.bel.size B4.out.size)
  go_wp2_with ((at_builtin; go_must (refine append_row rfl (.tmp 245) (.tmp 247) 27 25 rfl Tryz.underlying27 infoDP rfl (by decide) w0.heap.size (.slice (some ⟨gd, 0, none⟩) ds.length cd) ds.length ((ds.map DE.p).map ptV) rfl O4.out (some ⟨w3.heap.size, 0, none⟩) 1 1 [.pointer (some ⟨p2, 0, none⟩)] rfl rfl (fun e => by cases e) (news_at K4.out) (fun u hu => by rw [List.mem_singleton.1 hu]; rfl) (by omega) (by unfold maxLen; omega) HB4.out ?_); intro v5 w5 ho5 hg5 ha5; refine halt ?_))
  refine unhalt ?_
  obtain ⟨A5, cp5, hv5, _⟩ := own_form ho5
  subst hv5
  have GR := PP3.out.growD (p2 := p2) (v := .slice A5 (ds.length + 1) cp5) B4.out (by rw [List.length_map]; exact ho5) (by rw [HHD.out]; exact hg5) (by rw [HHD.out]; exact ha5)
  obtain ⟨w6, hw6⟩ : ∃ w6, w6 = w5.setCell ⟨P, 0, none⟩ (.slice A5 (ds.length + 1) cp5) := ⟨_, rfl⟩
  obtain ⟨C6, hC6⟩ : ∃ C6, C6 = paint C3 w3.heap.size 1 := ⟨_, rfl⟩
  obtain ⟨h6, hh6⟩ : ∃ h6 : Hd, h6 = { h with d := .slice A5 (ds.length + 1) cp5 } := ⟨_, rfl⟩
  have G6 : Hid (GS w0 w6 C6 (Pp w0 P h6 (ds.map DE.p ++ [p2]) (ds.map DE.q) :: R0)) := Lib.hid (by rw [hw6, hC6, hh6]; exact GS.turnP G3.out GR)
  have RC6 : Hid (RC w6 w0.heap.size C6 (6 + 2 * j + 1) x.q x.r) := Lib.hid (by rw [hw6, hC6]; exact RC3.out.step GR.2 (sam_paint _ _ _) (fun b hb => by omega))
  have HH6 : Hid (h6.r = .slice (some ⟨gr, 0, none⟩) ds.length cr ∧ h6.b = h.b ∧ h6.s = h.s ∧ h6.n = h.n ∧ h6.e = h.e) := Lib.hid (by rw [hh6]; exact ⟨HHR.out, rfl, rfl, rfl, rfl⟩)
  have p5 := PP3.out.1.1.chg (S := fun b => h.d.ownBlock = some b) ((Chg.of_below B4.out _).grown (by rw [HHD.out]; exact hg5) (fun k e _ => e)) (PP3.out.1.1.apart PP3.out.2.1.1 (by decide))
  have q5 : w5.cell? ⟨P, 0, none⟩ = some (.slice (some ⟨gd, 0, none⟩) ds.length cd) := by rw [← HHD.out]; exact (p5.cell 0).trans rfl
  have f5 := p5.frozen 0
  clear ho5 hg5 ha5 GR p5 y0 y0' K4 O4 B4 HB4 hC6 hh6 PP3 RC3 G3
  go_upto_region 32 with fail
  rw [← hw6]
  clear hw6 q5 f5
  have PP6 : Hid (Pp w0 P h6 (ds.map DE.p ++ [p2]) (ds.map DE.q) w6 C6) := Lib.hid (G6.out.at_ (k := 0) rfl)
  have y1 : w6.cell? ⟨P, 1, none⟩ = some (.slice (some ⟨gr, 0, none⟩) ds.length cr) := by rw [← HH6.out.1]; exact (PP6.out.1.1.cell 1).trans rfl
  have G6d : Hid (GS w0 w6.drew C6 (Pp w0 P h6 (ds.map DE.p ++ [p2]) (ds.map DE.q) :: R0)) := Lib.hid (G6.out.keep (Below.refl _ _).drew)
  have CR := Lib.hid (GS.copyR G6d.out (RC6.out.keep (Below.refl _ _).drew (Sam.refl _ _)) HAL.out.1.rok)
  have x1 : w6.drew.cell? ⟨P, 1, none⟩ = some (.slice (some ⟨gr, 0, none⟩) ds.length cr) := y1
  clear y1 RC6
  refine wp_region_any (by kernel_rfl) ?_
  change wpAny _ _ _ _ _ _ _ (World.drew _)
  refine any_of_L (S := SL 11 (fun w' => w'.cell? ⟨P, 1, none⟩ = some (.slice (some ⟨gr, 0, none⟩) ds.length cr))) _ _ _ _ ?_
  have hT0 : (fun w' => w'.cell? ⟨P, 1, none⟩ = some (.slice (some ⟨gr, 0, none⟩) ds.length cr)) w6.drew := x1
  refine anyC_take (i := 0) 11 [9, 10, 11] (v := ?_) (fun w' => w'.cell? ⟨P, 1, none⟩ = some (.slice (some ⟨gr, 0, none⟩) ds.length cr)) rfl (by kernel_rfl) (by kernel_rfl) (by kernel_rfl) (by kernel_rfl) (by kernel_rfl) (fun _ _ _ h => h) (fun _ _ h0 h => h h0) (SL.irr (i := 0) (by decide)).1 (SL.irr (i := 0) (by decide)).2 (Or.inl ⟨by rfl, ?_⟩) (SL.of hT0) ?_
  rotate_left 1
  · intro w hSw; (try dsimp only at hSw); go_simp <;> with_reducible rfl
  try simp only [Act.put, List.setIfInBounds_toArray, List.set_cons_zero, List.set_cons_succ, List.getElem_toArray, List.getElem_cons_zero]
  refine anyC_take (i := 1) 11 [2, 3, 4, 8, 11] (v := ?_) (fun w' => w'.cell? ⟨P, 1, none⟩ = some (.slice (some ⟨gr, 0, none⟩) ds.length cr)) rfl (by kernel_rfl) (by kernel_rfl) (by kernel_rfl) (by kernel_rfl) (by kernel_rfl) (fun _ _ _ h => h) (fun _ _ h0 h => h h0) (SL.irr (i := 1) (by decide)).1 (SL.irr (i := 1) (by decide)).2 (Or.inl ⟨by rfl, ?_⟩) (SL.of hT0) ?_
  rotate_left 1
  · intro w hSw; (try dsimp only at hSw); go_simp <;> with_reducible rfl
  try simp only [Act.put, List.setIfInBounds_toArray, List.set_cons_zero, List.set_cons_succ, List.getElem_toArray, List.getElem_cons_zero, List.getElem_cons_succ]
  refine anyC_take (i := 2) 11 [3, 4, 8, 11] (v := ?_) (fun w' => w'.cell? ⟨P, 1, none⟩ = some (.slice (some ⟨gr, 0, none⟩) ds.length cr)) rfl (by kernel_rfl) (by kernel_rfl) (by kernel_rfl) (by kernel_rfl) (by kernel_rfl) (fun _ _ _ h => h) (fun _ _ h0 h => h h0) (SL.irr (i := 2) (by decide)).1 (SL.irr (i := 2) (by decide)).2 (Or.inl ⟨by rfl, ?_⟩) (SL.of hT0) ?_
  rotate_left 1
  · intro w hSw; (try dsimp only at hSw); go_simp <;> with_reducible rfl
  try simp only [Act.put, List.setIfInBounds_toArray, List.set_cons_zero, List.set_cons_succ, List.getElem_toArray, List.getElem_cons_zero, List.getElem_cons_succ]
  refine anyC_take (i := 3) 11 [4, 8, 11] (v := ?_) (fun w' => w'.cell? ⟨P, 1, none⟩ = some (.slice (some ⟨gr, 0, none⟩) ds.length cr)) rfl (by kernel_rfl) (by kernel_rfl) (by kernel_rfl) (by kernel_rfl) (by kernel_rfl) (fun _ _ _ h => h) (fun _ _ h0 h => h h0) (SL.irr (i := 3) (by decide)).1 (SL.irr (i := 3) (by decide)).2 (Or.inl ⟨by rfl, ?_⟩) (SL.of hT0) ?_
  rotate_left 1
  · intro w hSw; (try dsimp only at hSw); go_simp <;> with_reducible rfl
  try simp only [Act.put, List.setIfInBounds_toArray, List.set_cons_zero, List.set_cons_succ, List.getElem_toArray, List.getElem_cons_zero, List.getElem_cons_succ]
  refine anyC_take (i := 4) 11 [8, 11] (v := ?_) (fun w' => w'.cell? ⟨P, 1, none⟩ = some (.slice (some ⟨gr, 0, none⟩) ds.length cr)) rfl (by kernel_rfl) (by kernel_rfl) (by kernel_rfl) (by kernel_rfl) (by kernel_rfl) (fun _ _ _ h => h) (fun _ _ h0 h => h h0) (SL.irr (i := 4) (by decide)).1 (SL.irr (i := 4) (by decide)).2 (Or.inl ⟨by rfl, ?_⟩) (SL.of hT0) ?_
  rotate_left 1
  · intro w hSw; (try dsimp only at hSw); go_simp <;> with_reducible rfl
  try simp only [Act.put, List.setIfInBounds_toArray, List.set_cons_zero, List.set_cons_succ, List.getElem_toArray, List.getElem_cons_zero, List.getElem_cons_succ]
  refine anyC_take (i := 5) 11 [6, 7, 8, 11] (v := ?_) (fun w' => w'.cell? ⟨P, 1, none⟩ = some (.slice (some ⟨gr, 0, none⟩) ds.length cr)) rfl (by kernel_rfl) (by kernel_rfl) (by kernel_rfl) (by kernel_rfl) (by kernel_rfl) (fun _ _ _ h => h) (fun _ _ h0 h => h h0) (SL.irr (i := 5) (by decide)).1 (SL.irr (i := 5) (by decide)).2 (Or.inl ⟨by rfl, ?_⟩) (SL.of hT0) ?_
  rotate_left 1
  · intro w hSw; (try dsimp only at hSw); go_simp <;> with_reducible rfl
  try simp only [Act.put, List.setIfInBounds_toArray, List.set_cons_zero, List.set_cons_succ, List.getElem_toArray, List.getElem_cons_zero, List.getElem_cons_succ]
  refine anyL_ready (rs := [6]) (by kernel_rfl) (by simp) (AllL.cons rfl (fun K hK => ?_) AllL.nil)
  go_simp
  refine CR.out.mono ?_
  rintro e w7 ⟨q2, rfl, hg7, hb7⟩
  obtain ⟨C7, hC7⟩ : ∃ C7, C7 = paint C6 w6.drew.heap.size ((Pp w0 P h6 (ds.map DE.p ++ [p2]) (ds.map DE.q) :: R0).length + 1) := ⟨_, rfl⟩
  obtain ⟨R1, hR1⟩ : ∃ R1, R1 = R0 ++ [RCp w0 ((Pp w0 P h6 (ds.map DE.p ++ [p2]) (ds.map DE.q) :: R0).length + 1) q2 x.r] := ⟨_, rfl⟩
  have G7 : Hid (GS w0 w7 C7 (Pp w0 P h6 (ds.map DE.p ++ [p2]) (ds.map DE.q) :: R1)) := Lib.hid (by rw [hC7, hR1]; exact hg7)
  have HR1 := Lib.hid hR1
  have PP7 : Hid (Pp w0 P h6 (ds.map DE.p ++ [p2]) (ds.map DE.q) w7 C7) := Lib.hid (G7.out.at_ (k := 0) rfl)
  have y7 : w7.cell? ⟨P, 1, none⟩ = some (.slice (some ⟨gr, 0, none⟩) ds.length cr) := by rw [← HH6.out.1]; exact (PP7.out.1.1.cell 1).trans rfl
  clear hg7 hb7 hC7 hR1 CR hT0 x1 G6 G6d PP6
  refine hK.out _ _ (SL.of y7) ?_
  clear hK K
  try simp only [Act.put, List.setIfInBounds_toArray, List.set_cons_zero, List.set_cons_succ, List.getElem_toArray, List.getElem_cons_zero, List.getElem_cons_succ]
  obtain ⟨w8, hw8⟩ : ∃ w8, w8 = w7.alloc (.cells #[.pointer (some ⟨q2, 0, none⟩)] 28) := ⟨_, rfl⟩
  have B8 : Hid (Below w7.heap.size w7 w8) := Lib.hid (by rw [hw8]; exact (Below.refl _ _).alloc (Nat.le_refl _) _)
  have K8 : Hid (Blk w8 w7.heap.size 28 #[.pointer (some ⟨q2, 0, none⟩)]) := Lib.hid (by rw [hw8]; exact Blk.new _ _ _ rfl)
  have O8 : Hid (w8.ownsRow w0.heap.size 28 1 (.slice (some ⟨gr, 0, none⟩) ds.length cr) ds.length ((ds.map DE.q).map ptV)) := Lib.hid (by
    have h1 := own_keep PP7.out.2.2.1 B8.out
    rw [HH6.out.1, List.length_map] at h1
    exact h1)
  have HB8 : Hid (w0.heap.size ≤ w8.heap.size) := Lib.hid (Nat.le_trans G7.out.bel.size B8.out.size)
  have y8 : w8.cell? ⟨P, 1, none⟩ = some (.slice (some ⟨gr, 0, none⟩) ds.length cr) := cell_later B8.out y7
  refine anyL_ready (rs := [7]) (by kernel_rfl) (by simp) (AllL.cons rfl (fun K hK => ?_) AllL.nil)
  go_simp
  rw [← hw8]
  refine hK.out _ _ (SL.of y8) ?_
  clear hK K hw8 y7 y8
  try simp only [Act.put, List.setIfInBounds_toArray, List.set_cons_zero, List.set_cons_succ, List.getElem_toArray, List.getElem_cons_zero, List.getElem_cons_succ]
  refine anyL_ready (rs := [8]) (by kernel_rfl) (by simp) (AllL.cons rfl (fun K hK => ?_) AllL.nil)
  refine step_append_row rfl (.tmp 255) (.tmp 258) 30 28 rfl Tryz.underlying30 infoRP rfl (by decide) w0.heap.size (.slice (some ⟨gr, 0, none⟩) ds.length cr) ds.length ((ds.map DE.q).map ptV) rfl O8.out (some ⟨w7.heap.size, 0, none⟩) 1 1 [.pointer (some ⟨q2, 0, none⟩)] rfl rfl (fun e => by cases e) (news_at K8.out) (fun u hu => by rw [List.mem_singleton.1 hu]; rfl) (by omega) (by unfold maxLen; omega) HB8.out ?_
  intro v9 w9 ho9 hg9 ha9
  obtain ⟨A9, cp9, hv9, _⟩ := own_form ho9
  subst hv9
  have GR := PP7.out.growR (p2 := q2) (v := .slice A9 (ds.length + 1) cp9) B8.out (by rw [List.length_map]; exact ho9) (by rw [HH6.out.1]; exact hg9) (by rw [HH6.out.1]; exact ha9)
  obtain ⟨w10, hw10⟩ : ∃ w10, w10 = w9.setCell ⟨P, 1, none⟩ (.slice A9 (ds.length + 1) cp9) := ⟨_, rfl⟩
  have p9 := PP7.out.1.1.chg (S := fun b => h6.r.ownBlock = some b) ((Chg.of_below B8.out _).grown (by rw [HH6.out.1]; exact hg9) (fun k e _ => e)) (PP7.out.1.1.apart PP7.out.2.2.1 (by decide))
  have q9 : w9.cell? ⟨P, 1, none⟩ = some (.slice (some ⟨gr, 0, none⟩) ds.length cr) := by rw [← HH6.out.1]; exact (p9.cell 1).trans rfl
  have f9 := p9.frozen 1
  have hT0 : (fun w' => w'.cell? ⟨P, 1, none⟩ = some (.slice (some ⟨gr, 0, none⟩) ds.length cr)) w9 := q9
  have HF : Hid (StpQ w0 P i (.returned (.bool true)) w10) := Lib.hid (by
    have G10 := GS.turnP G7.out GR
    rw [← hw10] at G10
    refine ⟨rfl, paint C7 w7.heap.size 1, { h6 with r := .slice A9 (ds.length + 1) cp9 }, bs, ns, ds ++ [⟨p2, x.n, q2, x.d, x.r⟩], ⟨by simp, by rw [List.length_append]; simp only [List.length_cons, List.length_nil]; omega, HI.out.up.bl, HI.out.up.nl, HI.out.bb, HI.out.nb, fun k y hy => ?_⟩, ?_⟩
    · rcases get_snoc1 hy with ⟨_, h1⟩ | ⟨_, rfl⟩
      · exact HI.out.up.al k y h1
      · exact ⟨HAL.out.1, by have := HAL.out.2; show x.n ≤ _; omega⟩
    · have e1 : (LP w0 P h bs ns ds).length + 1 = 6 + 2 * (0 + ds.length) := by rw [LP.len]; omega
      have e2 : (Pp w0 P h6 (ds.map DE.p ++ [p2]) (ds.map DE.q) :: R0).length + 1 = 7 + 2 * (0 + ds.length) := by
        rw [HR0.out]; simp only [List.length_cons, List.length_append, DLp.len, List.length_nil]; omega
      rw [HR1.out, e2, HR0.out, e1] at G10
      unfold LP
      rw [List.map_append, List.map_append, DLp.snoc]
      simp only [HH6.out.2.1, HH6.out.2.2.1, HH6.out.2.2.2.1, HH6.out.2.2.2.2, List.cons_append, List.append_assoc, List.nil_append, List.map_cons, List.map_nil] at G10 ⊢
      exact G10)
  clear ho9 hg9 ha9 GR p9 O8 K8 HB8
  refine hK.out _ _ (SL.of hT0) ?_
  clear hK K
  try simp only [Act.put, List.setIfInBounds_toArray, List.set_cons_zero, List.set_cons_succ, List.getElem_toArray, List.getElem_cons_zero, List.getElem_cons_succ]
  refine anyC_take (i := 9) 11 [10, 11] (v := ?_) (fun w' => w'.cell? ⟨P, 1, none⟩ = some (.slice (some ⟨gr, 0, none⟩) ds.length cr)) rfl (by kernel_rfl) (by kernel_rfl) (by kernel_rfl) (by kernel_rfl) (by kernel_rfl) (fun _ _ _ h => h) (fun _ _ h0 h => h h0) (SL.irr (i := 9) (by decide)).1 (SL.irr (i := 9) (by decide)).2 (Or.inl ⟨by rfl, ?_⟩) (SL.of hT0) ?_
  rotate_left 1
  · intro w hSw; (try dsimp only at hSw); go_simp <;> with_reducible rfl
  try simp only [Act.put, List.setIfInBounds_toArray, List.set_cons_zero, List.set_cons_succ, List.getElem_toArray, List.getElem_cons_zero, List.getElem_cons_succ]
  refine anyC_take (i := 10) 11 [11] (v := ?_) (fun w' => w'.cell? ⟨P, 1, none⟩ = some (.slice (some ⟨gr, 0, none⟩) ds.length cr)) rfl (by kernel_rfl) (by kernel_rfl) (by kernel_rfl) (by kernel_rfl) (by kernel_rfl) (fun _ _ _ h => h) (fun _ _ h0 h => h h0) (SL.irr (i := 10) (by decide)).1 (SL.irr (i := 10) (by decide)).2 (Or.inl ⟨by rfl, ?_⟩) (SL.of hT0) ?_
  rotate_left 1
  · intro w hSw; (try dsimp only at hSw); go_simp <;> with_reducible rfl
  try simp only [Act.put, List.setIfInBounds_toArray, List.set_cons_zero, List.set_cons_succ, List.getElem_toArray, List.getElem_cons_zero, List.getElem_cons_succ]
  refine anyL_ready (rs := [11]) (by kernel_rfl) (by simp) (AllL.cons rfl (fun K hK => ?_) AllL.nil)
  go_simp
  refine hK.out _ _ (SL.fin (by kernel_rfl)) ?_
  clear hK K hT0
  try simp only [Act.put, List.setIfInBounds_toArray, List.set_cons_zero, List.set_cons_succ, List.getElem_toArray, List.getElem_cons_zero, List.getElem_cons_succ]
  refine anyL_done (by kernel_rfl) ?_ _
  rw [← hw10]
  clear hw10 q9 f9
  go_wp2_with fail
  go_ret
  exact HF.out
end Go.Proofs.YtlojmmcagglpoaaGreat
