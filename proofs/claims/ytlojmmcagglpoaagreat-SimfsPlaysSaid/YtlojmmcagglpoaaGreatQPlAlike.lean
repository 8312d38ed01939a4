/- THE WALK of alike (package heronlaw14; printed by a program of ours). -/
import Derived.Test.YtlojmmcagglpoaaGreatQStepQ
import Derived.Test.YtlojmmcagglpoaaGreatQStr
import Derived.Deep.RegionHeld
import Derived.Deep.RegionHeld3
import Derived.Deep.DrawnRows
namespace Go.Proofs.YtlojmmcagglpoaaGreat
open Go.RowKit
theorem sti_len {r : Rd} {n : Nat} (hok : r.Ok n) (nm : List UInt8) : 0 ≤ (r.sti nm).2.2.2.1 ∧ okInt (r.sti nm).2.2.2.1 := by
  have z : (0 : Int) ≤ 0 ∧ okInt 0 := ⟨by decide, by decide, by decide⟩
  unfold Rd.sti
  split
  · split
    · exact z
    · split
      · rename_i y x hy hx
        have h1 := hok.bl y (List.mem_of_getElem? hy)
        exact ⟨by simp only; omega, by unfold okInt; simp only; omega⟩
      · exact z
  · exact z
theorem inode_ok {r : Rd} {n : Nat} (hok : r.Ok n) (i : Int) : 0 ≤ (r.inode i).2.2.2.1 ∧ okInt (r.inode i).2.2.2.1 := by
  unfold Rd.inode
  split
  · exact sti_len hok _
  · exact ⟨by decide, by decide, by decide⟩
theorem read_inode {r : Rd} {n : Nat} (hok : r.Ok n) (i : Int) : (r.read i (r.inode i).2.2.1 0 (r.inode i).2.2.2.1).2 = (r.inode i).2.2.2.2 := by
  have h0 := (inode_ok hok i).1
  unfold Rd.read
  rw [if_neg (by omega)]
  by_cases h1 : (r.inode i).2.2.2.2 = 0
  · rw [if_neg (by rw [h1]; simp), if_neg (by simp), h1]
    split <;> rfl
  · rw [if_pos h1]
end Go.Proofs.YtlojmmcagglpoaaGreat
namespace Go.Proofs.YtlojmmcagglpoaaGreat
open Go.RowKit Go.Maps
attribute [local go_sem ↓] Go.wp_at_zero Go.wp_at_succ
theorem RC.len {W : World} {N : Nat} {C : Nat → Nat} {c q : Nat} {r : Rd} (h : RC W N C c q r) : ∃ A cp, W.cell? ⟨q, 0, none⟩ = some (.slice A r.is.length cp) := by
  obtain ⟨us, vi, vn, hw⟩ := h
  obtain ⟨A, cp, e, _⟩ := own_form hw.ri
  have hl : us.length = r.is.length := by rw [← hw.is, List.length_map]
  refine ⟨A, cp, ?_⟩
  rw [hw.bd.cell 0, ← hl, ← e]; rfl
def AlP (W : World) (e : Ending) (w' : World) : Prop := e = .returned (.bool true) ∧ Below W.heap.size W w'
set_option maxRecDepth 20000 in
set_option maxHeartbeats 4000000 in
theorem alike14 {w0 W : World} {C : Nat → Nat} {P : Nat} {h : Hd} {bs : List (List UInt8)} {ns : List (List (List UInt8))} {ds : List DE} {i : Nat} (hG : GS w0 W C (LP w0 P h bs ns ds)) (hI : InvP i ds bs ns) (hi : i ≤ 120) : Calls Tryz.prog 11 #[.pointer (some ⟨P, 0, none⟩)] W (AlP W) := by
  have HG : Hid (∀ w, Below W.heap.size W w → GS w0 w C (LP w0 P h bs ns ds ++ [])) := Lib.hid (fun w hb => by rw [List.append_nil]; exact hG.keep hb)
  obtain ⟨gd, cd, gr, cr, hd, hr, hcd, hcr⟩ := LP.rows (HG.out W (Below.refl _ _)) hI.pos
  have HPD : Hid (∀ w, Below W.heap.size W w → w.cell? ⟨P, 0, none⟩ = some (.slice (some ⟨gd, 0, none⟩) ds.length cd) ∧ w.cell? ⟨P, 1, none⟩ = some (.slice (some ⟨gr, 0, none⟩) ds.length cr)) := Lib.hid (fun w hb => ⟨by rw [← hd]; exact ((LP.pp (HG.out w hb)).1.1.cell 0).trans rfl, by rw [← hr]; exact ((LP.pp (HG.out w hb)).1.1.cell 1).trans rfl⟩)
  have HRW : Hid (∀ w, Below W.heap.size W w → ∀ (j : Nat) (x : DE), ds[j]? = some x → w.cell? ⟨gd, j, none⟩ = some (.pointer (some ⟨x.p, 0, none⟩)) ∧ w.cell? ⟨gr, j, none⟩ = some (.pointer (some ⟨x.q, 0, none⟩))) := Lib.hid (fun w hb j x hx => LP.cells (HG.out w hb) hd hr hx)
  have HI := Lib.hid hI
  have h8 := hI.eight
  clear hG hd hr hI
  go_enter Tryz.func11, Tryz.ntmps11
  go_wp2_with fail
  go_loopw [3] (fun iv w => ∃ k : Nat, k ≤ ds.length ∧ iv = .int .i64 (k : Int) ∧ Hid (Below W.heap.size W w)) (fun iv _ => ds.length - (intOf iv).toNat)
  case atStart => exact ⟨0, Nat.zero_le _, rfl, Lib.hid (Below.refl _ _)⟩
  case round =>
    obtain ⟨k, hk, rfl, BR⟩ := hrel
    obtain ⟨y0, y1⟩ := HPD.out wr BR.out
    by_cases hlt : k < ds.length
    · obtain ⟨x, hx⟩ : ∃ x, ds[k]? = some x := ⟨_, List.getElem?_eq_getElem hlt⟩
      obtain ⟨x0, x1⟩ := HRW.out wr BR.out k x hx
      have HX := Lib.hid hx
      have HAL := Lib.hid (HI.out.al k x hx)
      have HT : Hid (∀ w, Below W.heap.size W w → (fun w' => w'.cell? ⟨P, 0, none⟩ = some (.slice (some ⟨gd, 0, none⟩) ds.length cd) ∧ w'.cell? ⟨P, 1, none⟩ = some (.slice (some ⟨gr, 0, none⟩) ds.length cr) ∧ w'.cell? ⟨gd, k, none⟩ = some (.pointer (some ⟨x.p, 0, none⟩)) ∧ w'.cell? ⟨gr, k, none⟩ = some (.pointer (some ⟨x.q, 0, none⟩))) w) := Lib.hid (fun w hb => ⟨(HPD.out w hb).1, (HPD.out w hb).2, (HRW.out w hb k x HX.out).1, (HRW.out w hb k x HX.out).2⟩)
      clear hx
      go_upto_region 4 with fail
      refine wp_region_any (by kernel_rfl) ?_
      change wpAny _ _ _ _ _ _ _ (World.drew _)
      refine wpAny_of_held (S := fun w' => w'.cell? ⟨P, 0, none⟩ = some (.slice (some ⟨gd, 0, none⟩) ds.length cd) ∧ w'.cell? ⟨P, 1, none⟩ = some (.slice (some ⟨gr, 0, none⟩) ds.length cr) ∧ w'.cell? ⟨gd, k, none⟩ = some (.pointer (some ⟨x.p, 0, none⟩)) ∧ w'.cell? ⟨gr, k, none⟩ = some (.pointer (some ⟨x.q, 0, none⟩))) _ _ _ _ ?_
      obtain ⟨w2, hw2⟩ : ∃ w2, w2 = wr.drew := ⟨_, rfl⟩
      have B2 : Hid (Below W.heap.size W w2) := Lib.hid (by rw [hw2]; exact BR.out.drew)
      rw [← hw2]
      clear hw2 y0 y1 x0 x1
      have hHeld : (fun w' => w'.cell? ⟨P, 0, none⟩ = some (.slice (some ⟨gd, 0, none⟩) ds.length cd) ∧ w'.cell? ⟨P, 1, none⟩ = some (.slice (some ⟨gr, 0, none⟩) ds.length cr) ∧ w'.cell? ⟨gd, k, none⟩ = some (.pointer (some ⟨x.p, 0, none⟩)) ∧ w'.cell? ⟨gr, k, none⟩ = some (.pointer (some ⟨x.q, 0, none⟩))) w2 := HT.out _ B2.out
      refine wpAnyH_take (i := 0) (v := ?_) rfl (by kernel_rfl) (by kernel_rfl) (by kernel_rfl) (fun _ _ _ h => h) (Or.inl ⟨by rfl, ?_⟩) (by assumption) ?_
      rotate_left 1
      · intro w hSw; (try dsimp only at hSw); go_simp <;> with_reducible rfl
      try simp only [Act.put, List.setIfInBounds_toArray, List.set_cons_zero, List.set_cons_succ, List.getElem_toArray, List.getElem_cons_zero]
      refine wpAnyH_take (i := 1) (v := ?_) rfl (by kernel_rfl) (by kernel_rfl) (by kernel_rfl) (fun _ _ _ h => h) (Or.inl ⟨by rfl, ?_⟩) (by assumption) ?_
      rotate_left 1
      · intro w hSw; (try dsimp only at hSw); go_simp <;> with_reducible rfl
      try simp only [Act.put, List.setIfInBounds_toArray, List.set_cons_zero, List.set_cons_succ, List.getElem_toArray, List.getElem_cons_zero, List.getElem_cons_succ]
      refine wpAnyH_take (i := 2) (v := ?_) rfl (by kernel_rfl) (by kernel_rfl) (by kernel_rfl) (fun _ _ _ h => h) (Or.inl ⟨by rfl, ?_⟩) (by assumption) ?_
      rotate_left 1
      · intro w hSw; (try dsimp only at hSw); go_simp <;> with_reducible rfl
      try simp only [Act.put, List.setIfInBounds_toArray, List.set_cons_zero, List.set_cons_succ, List.getElem_toArray, List.getElem_cons_zero, List.getElem_cons_succ]
      refine wpAnyH_take (i := 3) (v := ?_) rfl (by kernel_rfl) (by kernel_rfl) (by kernel_rfl) (fun _ _ _ h => h) (Or.inl ⟨by rfl, ?_⟩) (by assumption) ?_
      rotate_left 1
      · intro w hSw; obtain ⟨y0, y1, x0, x1⟩ := hSw; (try dsimp only at hSw); go_simp <;> with_reducible rfl
      try simp only [Act.put, List.setIfInBounds_toArray, List.set_cons_zero, List.set_cons_succ, List.getElem_toArray, List.getElem_cons_zero, List.getElem_cons_succ]
      refine wpAnyH_take (i := 4) (v := ?_) rfl (by kernel_rfl) (by kernel_rfl) (by kernel_rfl) (fun _ _ _ h => h) (Or.inl ⟨by rfl, ?_⟩) (by assumption) ?_
      rotate_left 1
      · intro w hSw; (try dsimp only at hSw); go_simp <;> with_reducible rfl
      try simp only [Act.put, List.setIfInBounds_toArray, List.set_cons_zero, List.set_cons_succ, List.getElem_toArray, List.getElem_cons_zero, List.getElem_cons_succ]
      refine wpAnyH_take (i := 5) (v := ?_) rfl (by kernel_rfl) (by kernel_rfl) (by kernel_rfl) (fun _ _ _ h => h) (Or.inl ⟨by rfl, ?_⟩) (by assumption) ?_
      rotate_left 1
      · intro w hSw; (try dsimp only at hSw); go_simp <;> with_reducible rfl
      try simp only [Act.put, List.setIfInBounds_toArray, List.set_cons_zero, List.set_cons_succ, List.getElem_toArray, List.getElem_cons_zero, List.getElem_cons_succ]
      refine wpAnyH_take (i := 6) (v := ?_) rfl (by kernel_rfl) (by kernel_rfl) (by kernel_rfl) (fun _ _ _ h => h) (Or.inl ⟨by rfl, ?_⟩) (by assumption) ?_
      rotate_left 1
      · intro w hSw; obtain ⟨y0, y1, x0, x1⟩ := hSw; (try dsimp only at hSw); go_simp <;> with_reducible rfl
      try simp only [Act.put, List.setIfInBounds_toArray, List.set_cons_zero, List.set_cons_succ, List.getElem_toArray, List.getElem_cons_zero, List.getElem_cons_succ]
      refine wpAnyH_take (i := 8) (v := ?_) rfl (by kernel_rfl) (by kernel_rfl) (by kernel_rfl) (fun _ _ _ h => h) (Or.inl ⟨by rfl, ?_⟩) (by assumption) ?_
      rotate_left 1
      · intro w hSw; (try dsimp only at hSw); go_simp <;> with_reducible rfl
      try simp only [Act.put, List.setIfInBounds_toArray, List.set_cons_zero, List.set_cons_succ, List.getElem_toArray, List.getElem_cons_zero, List.getElem_cons_succ]
      refine wpAnyH_take (i := 9) (v := ?_) rfl (by kernel_rfl) (by kernel_rfl) (by kernel_rfl) (fun _ _ _ h => h) (Or.inl ⟨by rfl, ?_⟩) (by assumption) ?_
      rotate_left 1
      · intro w hSw; (try dsimp only at hSw); go_simp <;> with_reducible rfl
      try simp only [Act.put, List.setIfInBounds_toArray, List.set_cons_zero, List.set_cons_succ, List.getElem_toArray, List.getElem_cons_zero, List.getElem_cons_succ]
      refine wpAnyH_take (i := 10) (v := ?_) rfl (by kernel_rfl) (by kernel_rfl) (by kernel_rfl) (fun _ _ _ h => h) (Or.inl ⟨by rfl, ?_⟩) (by assumption) ?_
      rotate_left 1
      · intro w hSw; (try dsimp only at hSw); go_simp <;> with_reducible rfl
      try simp only [Act.put, List.setIfInBounds_toArray, List.set_cons_zero, List.set_cons_succ, List.getElem_toArray, List.getElem_cons_zero, List.getElem_cons_succ]
      refine wpAnyH_take (i := 11) (v := ?_) rfl (by kernel_rfl) (by kernel_rfl) (by kernel_rfl) (fun _ _ _ h => h) (Or.inl ⟨by rfl, ?_⟩) (by assumption) ?_
      rotate_left 1
      · intro w hSw; obtain ⟨y0, y1, x0, x1⟩ := hSw; (try dsimp only at hSw); go_simp <;> with_reducible rfl
      try simp only [Act.put, List.setIfInBounds_toArray, List.set_cons_zero, List.set_cons_succ, List.getElem_toArray, List.getElem_cons_zero, List.getElem_cons_succ]
      refine wpAnyH_take (i := 12) (v := ?_) rfl (by kernel_rfl) (by kernel_rfl) (by kernel_rfl) (fun _ _ _ h => h) (Or.inl ⟨by rfl, ?_⟩) (by assumption) ?_
      rotate_left 1
      · intro w hSw; (try dsimp only at hSw); go_simp <;> with_reducible rfl
      try simp only [Act.put, List.setIfInBounds_toArray, List.set_cons_zero, List.set_cons_succ, List.getElem_toArray, List.getElem_cons_zero, List.getElem_cons_succ]
      refine wpAnyH_take (i := 13) (v := ?_) rfl (by kernel_rfl) (by kernel_rfl) (by kernel_rfl) (fun _ _ _ h => h) (Or.inl ⟨by rfl, ?_⟩) (by assumption) ?_
      rotate_left 1
      · intro w hSw; (try dsimp only at hSw); go_simp <;> with_reducible rfl
      try simp only [Act.put, List.setIfInBounds_toArray, List.set_cons_zero, List.set_cons_succ, List.getElem_toArray, List.getElem_cons_zero, List.getElem_cons_succ]
      refine wpAnyH_take (i := 14) (v := ?_) rfl (by kernel_rfl) (by kernel_rfl) (by kernel_rfl) (fun _ _ _ h => h) (Or.inl ⟨by rfl, ?_⟩) (by assumption) ?_
      rotate_left 1
      · intro w hSw; obtain ⟨y0, y1, x0, x1⟩ := hSw; (try dsimp only at hSw); go_simp <;> with_reducible rfl
      try simp only [Act.put, List.setIfInBounds_toArray, List.set_cons_zero, List.set_cons_succ, List.getElem_toArray, List.getElem_cons_zero, List.getElem_cons_succ]
      obtain ⟨l, hl⟩ : ∃ l, l = x.r.all := ⟨_, rfl⟩
      have HLN : Hid (l.length ≤ 1000000) := Lib.hid (by rw [hl]; exact Nat.le_trans x.r.all_len (Nat.le_trans HAL.out.1.rok.nl HAL.out.1.rok.big))
      have CN := Lib.hid (ask_names HAL.out.1 (by have := HAL.out.2; omega) (LP.dk (HG.out w2 B2.out) HX.out))
      rw [← hl] at CN
      have HLE := Lib.hid hl
      clear hl
      refine wpAnyH_ready (rs := [7]) (by kernel_rfl) (by simp) (AllReadyH.cons rfl (fun K hK => ?_) AllReadyH.nil)
      have hPrev := hHeld
      clear hHeld
      go_simp
      refine CN.out.mono ?_
      rintro e w3 ⟨v3, rfl, ho3, hb3⟩
      obtain ⟨A3, cp3, rfl, hc3, _⟩ := own_form ho3
      have B3 : Hid (Below W.heap.size W w3) := Lib.hid (B2.out.trans (hb3.mono B2.out.size))
      have O3 := Lib.hid ho3
      have CA := Lib.hid (ask_all HAL.out.1.rok (LP.rd (HG.out w3 B3.out) HX.out))
      rw [← HLE.out] at CA
      clear ho3 hb3 CN
      refine hK.out _ _ (HT.out _ B3.out) (fun hHeld => ?_)
      clear hK K hPrev
      try simp only [Act.put, List.setIfInBounds_toArray, List.set_cons_zero, List.set_cons_succ, List.getElem_toArray, List.getElem_cons_zero, List.getElem_cons_succ]
      refine wpAnyH_ready (rs := [15]) (by kernel_rfl) (by simp) (AllReadyH.cons rfl (fun K hK => ?_) AllReadyH.nil)
      have hPrev := hHeld
      clear hHeld
      go_simp
      refine CA.out.mono ?_
      rintro e w4 ⟨v4, rfl, ho4, hb4⟩
      obtain ⟨A4, cp4, rfl, hc4, _⟩ := own_form ho4
      have B4 : Hid (Below W.heap.size W w4) := Lib.hid (B3.out.trans (hb4.mono B3.out.size))
      have CT : Hid (Calls Tryz.prog 58 #[.slice A3 l.length cp3, .slice A4 l.length cp4] w4 fun e w' => e = .returned (.bool true) ∧ ∃ m, w' = w4.drewN m) := Lib.hid ((texts_any A3 A4 l.length l.length cp3 cp4 l l w4 (TX.of_own rfl (own_keep O3.out hb4)) (TX.of_own rfl ho4) (by have := HLN.out; omega) (by have := HLN.out; omega) hc3 hc4).mono (fun e w' hq => ⟨by rw [hq.1, decide_eq_true rfl], hq.2⟩))
      clear ho4 hb4 CA
      refine hK.out _ _ (HT.out _ B4.out) (fun hHeld => ?_)
      clear hK K hPrev
      try simp only [Act.put, List.setIfInBounds_toArray, List.set_cons_zero, List.set_cons_succ, List.getElem_toArray, List.getElem_cons_zero, List.getElem_cons_succ]
      refine wpAnyH_ready (rs := [16]) (by kernel_rfl) (by simp) (AllReadyH.cons rfl (fun K hK => ?_) AllReadyH.nil)
      have hPrev := hHeld
      clear hHeld
      go_simp
      refine CT.out.mono ?_
      rintro e w5 ⟨rfl, q5, rfl⟩
      have B5 : Hid (Below W.heap.size W (w4.drewN q5)) := Lib.hid (below_drewN B4.out q5)
      refine hK.out _ _ (HT.out _ B5.out) (fun hHeld => ?_)
      clear hK K hPrev
      try simp only [Act.put, List.setIfInBounds_toArray, List.set_cons_zero, List.set_cons_succ, List.getElem_toArray, List.getElem_cons_zero, List.getElem_cons_succ]
      refine wpAnyH_take (i := 17) (v := ?_) rfl (by kernel_rfl) (by kernel_rfl) (by kernel_rfl) (fun _ _ _ h => h) (Or.inl ⟨by rfl, ?_⟩) (by assumption) ?_
      rotate_left 1
      · intro w hSw; (try dsimp only at hSw); go_simp <;> with_reducible rfl
      try simp only [Act.put, List.setIfInBounds_toArray, List.set_cons_zero, List.set_cons_succ, List.getElem_toArray, List.getElem_cons_zero, List.getElem_cons_succ]
      refine wpAnyH_done (by kernel_rfl) ?_ _
      obtain ⟨w6, hw6⟩ : ∃ w6, w6 = w4.drewN q5 := ⟨_, rfl⟩
      rw [← hw6] at B5 ⊢
      have HL2 : Hid (∀ w, Below W.heap.size W w → ∃ A cp, w.cell? ⟨x.q, 0, none⟩ = some (.slice A x.r.is.length cp)) := Lib.hid (fun w hb => (LP.rd (HG.out w hb) HX.out).len)
      have hil : x.r.is.length ≤ 1000000 := Nat.le_trans HAL.out.1.rok.il HAL.out.1.rok.big
      obtain ⟨I, hI⟩ : ∃ I, I = x.r.is.length := ⟨_, rfl⟩
      rw [← hI] at hil HL2
      clear hHeld hw6 CT B4 B3 O3 B2 hI HLE HLN hc3 hc4
      go_wp2_with fail
      go_loopw [4] (fun iv w => ∃ n : Nat, n ≤ I + 2 ∧ iv = .int .i64 (n : Int) ∧ Hid (Below W.heap.size W w)) (fun iv _ => I + 2 - (intOf iv).toNat)
      case atStart => exact ⟨0, Nat.zero_le _, rfl, B5⟩
      case round =>
        clear B5
        obtain ⟨n, hn, rfl, BN⟩ := hrel
        obtain ⟨y0, y1⟩ := HPD.out _ BN.out
        obtain ⟨x0, x1⟩ := HRW.out _ BN.out k x HX.out
        obtain ⟨Ai, ci, z0⟩ := HL2.out _ BN.out
        by_cases hnlt : n ≤ I + 1
        · have CR := Lib.hid (ask_rinode HAL.out.1.rok (n : Int) (LP.rd (HG.out _ BN.out) HX.out))
          obtain ⟨⟨t0, t1, t2, t3, t4⟩, ht⟩ : ∃ t, t = x.r.inode (n : Int) := ⟨_, rfl⟩
          have hok3 : okInt t3 := by have h1 := (inode_ok HAL.out.1.rok (n : Int)).2; rw [← ht] at h1; exact h1
          have HT2 := Lib.hid ht
          rw [← ht] at CR
          obtain ⟨w2, hw2⟩ : ∃ w2 : World, w2 = wr := ⟨_, rfl⟩
          subst hw2
          have hnI : (n : Int) ≤ (I : Int) + 1 := by omega
          have hkd : (k : Int) < (ds.length : Int) := by omega
          clear ht
          go_wp2_with fail
          refine CR.out.mono ?_
          rintro e w3 ⟨rfl, hb3⟩
          simp only
          obtain ⟨w4, hw4⟩ : ∃ w4, w4 = w3.alloc (.cells #[.int .i64 t0, .int .i64 t1, .int .i64 t2, .int .i64 t3] 119) := ⟨_, rfl⟩
          obtain ⟨g4, hg4⟩ : ∃ g4, g4 = w3.heap.size := ⟨_, rfl⟩
          have B4 : Hid (Below W.heap.size W w4) := Lib.hid (by rw [hw4]; exact (BN.out.trans (hb3.mono BN.out.size)).alloc (Nat.le_trans BN.out.size hb3.size) _)
          have K4 : Hid (Blk w4 g4 119 #[.int .i64 t0, .int .i64 t1, .int .i64 t2, .int .i64 t3]) := Lib.hid (by rw [hw4]; exact Blk.new w3 _ _ hg4)
          clear y0 y1 x0 x1 z0
          obtain ⟨y0, y1⟩ := HPD.out _ B4.out
          obtain ⟨x0, x1⟩ := HRW.out _ B4.out k x HX.out
          have CD := Lib.hid (ask_inode HAL.out.1 (n : Int) ⟨by omega, by omega⟩ (LP.dk (HG.out _ B4.out) HX.out))
          rw [← HT2.out] at CD
          clear hb3 CR
          go_upto_region 10 with fail
          rw [← hw4, ← hg4]
          clear hw4 hg4
          go_wp2_with fail
          refine CD.out.mono ?_
          rintro e w5 ⟨rfl, hb5⟩
          simp only
          obtain ⟨w6, hw6⟩ : ∃ w6, w6 = w5.alloc (.cells #[.int .i64 t0, .int .i64 t1, .int .i64 t2, .int .i64 t3] 119) := ⟨_, rfl⟩
          obtain ⟨g6, hg6⟩ : ∃ g6, g6 = w5.heap.size := ⟨_, rfl⟩
          have B6 : Hid (Below W.heap.size W w6) := Lib.hid (by rw [hw6]; exact (B4.out.trans (hb5.mono B4.out.size)).alloc (Nat.le_trans B4.out.size hb5.size) _)
          have K6 : Hid (Blk w6 g6 119 #[.int .i64 t0, .int .i64 t1, .int .i64 t2, .int .i64 t3]) := Lib.hid (by rw [hw6]; exact Blk.new w5 _ _ hg6)
          have K46 : Hid (Blk w6 g4 119 #[.int .i64 t0, .int .i64 t1, .int .i64 t2, .int .i64 t3]) := Lib.hid (by rw [hw6]; exact (K4.out.keep hb5).alloc _)
          have e0 : w6.cell? ⟨g4, 0, none⟩ = some (.int .i64 t0) := (K46.out.cell 0).trans rfl
          have e1 : w6.cell? ⟨g4, 1, none⟩ = some (.int .i64 t1) := (K46.out.cell 1).trans rfl
          have e2 : w6.cell? ⟨g4, 2, none⟩ = some (.int .i64 t2) := (K46.out.cell 2).trans rfl
          have e3 : w6.cell? ⟨g4, 3, none⟩ = some (.int .i64 t3) := (K46.out.cell 3).trans rfl
          have f0 : w6.cell? ⟨g6, 0, none⟩ = some (.int .i64 t0) := (K6.out.cell 0).trans rfl
          have f1 : w6.cell? ⟨g6, 1, none⟩ = some (.int .i64 t1) := (K6.out.cell 1).trans rfl
          have f2 : w6.cell? ⟨g6, 2, none⟩ = some (.int .i64 t2) := (K6.out.cell 2).trans rfl
          have f3 : w6.cell? ⟨g6, 3, none⟩ = some (.int .i64 t3) := (K6.out.cell 3).trans rfl
          have es : ∀ w, (binOp .neq 119 (.agg #[.int .i64 t0, .int .i64 t1, .int .i64 t2, .int .i64 t3]) (.agg #[.int .i64 t0, .int .i64 t1, .int .i64 t2, .int .i64 t3])).run Tryz.prog w = .ok (.bool false) w := fun w => by rw [neq_stat]; unfold eqS4; simp
          clear hb5 CD K4 K6 B4 BN y0 y1 x0 x1
          go_upto_region 11 with fail
          rw [← hw6, ← hg6]
          clear hw6 hg6
          go_upto_region 13 with fail
          clear es f0 f1 f2 f3 e0 e1 e2 e3
          have HK4 : Hid (∀ w, Below w6.heap.size w6 w → w.cell? ⟨g4, 2, none⟩ = some (.int .i64 t2) ∧ w.cell? ⟨g4, 3, none⟩ = some (.int .i64 t3)) := Lib.hid (fun w hb => ⟨((K46.out.keep hb).cell 2).trans rfl, ((K46.out.keep hb).cell 3).trans rfl⟩)

          have CA := Lib.hid (fun w hb => ask_rread (W := w) HAL.out.1 (DC.ok (LP.dk (HG.out w hb) HX.out)) (n : Int) t2 0 t3 ⟨by decide, by decide⟩ hok3 (LP.rd (HG.out w hb) HX.out))
          have CB := Lib.hid (fun w hb => ask_read (W := w) HAL.out.1 (n : Int) t2 0 t3 ⟨by omega, by omega⟩ ⟨by decide, by decide⟩ hok3 (LP.dk (HG.out w hb) HX.out))
          obtain ⟨⟨lb, er⟩, hbs⟩ : ∃ y, y = x.r.read (n : Int) t2 0 t3 := ⟨_, rfl⟩
          have HE : er = t4 := by have h1 := read_inode HAL.out.1.rok (n : Int); rw [← HT2.out] at h1; simp only at h1; rw [← hbs] at h1; exact h1
          subst HE
          rw [← hbs] at CA CB
          have HLB : Hid (lb.length ≤ 1048576) := Lib.hid (by have h1 := read_len HAL.out.1.rok (n : Int) t2 0 t3; rw [← hbs] at h1; exact h1)
          clear hbs
          refine wp_region_any (by kernel_rfl) ?_
          change wpAny _ _ _ _ _ _ _ (World.drew _)
          refine wpAny_of_held (S := fun w' => w'.cell? ⟨P, 1, none⟩ = some (.slice (some ⟨gr, 0, none⟩) ds.length cr) ∧ w'.cell? ⟨gr, k, none⟩ = some (.pointer (some ⟨x.q, 0, none⟩)) ∧ w'.cell? ⟨g4, 2, none⟩ = some (.int .i64 t2) ∧ w'.cell? ⟨g4, 3, none⟩ = some (.int .i64 t3)) _ _ _ _ ?_
          obtain ⟨w7, hw7⟩ : ∃ w7, w7 = w6.drew := ⟨_, rfl⟩
          have B7 : Hid (Below W.heap.size W w7 ∧ Below w6.heap.size w6 w7) := Lib.hid (by rw [hw7]; exact ⟨B6.out.drew, (Below.refl _ _).drew⟩)
          rw [← hw7]
          clear hw7
          have hHeld : (fun w' => w'.cell? ⟨P, 1, none⟩ = some (.slice (some ⟨gr, 0, none⟩) ds.length cr) ∧ w'.cell? ⟨gr, k, none⟩ = some (.pointer (some ⟨x.q, 0, none⟩)) ∧ w'.cell? ⟨g4, 2, none⟩ = some (.int .i64 t2) ∧ w'.cell? ⟨g4, 3, none⟩ = some (.int .i64 t3)) w7 := ⟨(HPD.out _ B7.out.1).2, (HRW.out _ B7.out.1 k x HX.out).2, HK4.out _ B7.out.2⟩
          refine wpAnyH_take (i := 0) (v := ?_) rfl (by kernel_rfl) (by kernel_rfl) (by kernel_rfl) (fun _ _ _ h => h) (Or.inl ⟨by rfl, ?_⟩) (by assumption) ?_
          rotate_left 1
          · intro w hSw; (try dsimp only at hSw); go_simp <;> with_reducible rfl
          try simp only [Act.put, List.setIfInBounds_toArray, List.set_cons_zero, List.set_cons_succ, List.getElem_toArray, List.getElem_cons_zero]
          refine wpAnyH_take (i := 1) (v := ?_) rfl (by kernel_rfl) (by kernel_rfl) (by kernel_rfl) (fun _ _ _ h => h) (Or.inl ⟨by rfl, ?_⟩) (by assumption) ?_
          rotate_left 1
          · intro w hSw; (try dsimp only at hSw); go_simp <;> with_reducible rfl
          try simp only [Act.put, List.setIfInBounds_toArray, List.set_cons_zero, List.set_cons_succ, List.getElem_toArray, List.getElem_cons_zero, List.getElem_cons_succ]
          refine wpAnyH_take (i := 2) (v := ?_) rfl (by kernel_rfl) (by kernel_rfl) (by kernel_rfl) (fun _ _ _ h => h) (Or.inl ⟨by rfl, ?_⟩) (by assumption) ?_
          rotate_left 1
          · intro w hSw; (try dsimp only at hSw); go_simp <;> with_reducible rfl
          try simp only [Act.put, List.setIfInBounds_toArray, List.set_cons_zero, List.set_cons_succ, List.getElem_toArray, List.getElem_cons_zero, List.getElem_cons_succ]
          refine wpAnyH_take (i := 3) (v := ?_) rfl (by kernel_rfl) (by kernel_rfl) (by kernel_rfl) (fun _ _ _ h => h) (Or.inl ⟨by rfl, ?_⟩) (by assumption) ?_
          rotate_left 1
          · intro w hSw; obtain ⟨q0, q1, q2, q3⟩ := hSw; (try dsimp only at hSw); go_simp <;> with_reducible rfl
          try simp only [Act.put, List.setIfInBounds_toArray, List.set_cons_zero, List.set_cons_succ, List.getElem_toArray, List.getElem_cons_zero, List.getElem_cons_succ]
          refine wpAnyH_take (i := 4) (v := ?_) rfl (by kernel_rfl) (by kernel_rfl) (by kernel_rfl) (fun _ _ _ h => h) (Or.inl ⟨by rfl, ?_⟩) (by assumption) ?_
          rotate_left 1
          · intro w hSw; (try dsimp only at hSw); go_simp <;> with_reducible rfl
          try simp only [Act.put, List.setIfInBounds_toArray, List.set_cons_zero, List.set_cons_succ, List.getElem_toArray, List.getElem_cons_zero, List.getElem_cons_succ]
          refine wpAnyH_take (i := 5) (v := ?_) rfl (by kernel_rfl) (by kernel_rfl) (by kernel_rfl) (fun _ _ _ h => h) (Or.inl ⟨by rfl, ?_⟩) (by assumption) ?_
          rotate_left 1
          · intro w hSw; (try dsimp only at hSw); go_simp <;> with_reducible rfl
          try simp only [Act.put, List.setIfInBounds_toArray, List.set_cons_zero, List.set_cons_succ, List.getElem_toArray, List.getElem_cons_zero, List.getElem_cons_succ]
          refine wpAnyH_take (i := 6) (v := ?_) rfl (by kernel_rfl) (by kernel_rfl) (by kernel_rfl) (fun _ _ _ h => h) (Or.inl ⟨by rfl, ?_⟩) (by assumption) ?_
          rotate_left 1
          · intro w hSw; obtain ⟨q0, q1, q2, q3⟩ := hSw; (try dsimp only at hSw); go_simp <;> with_reducible rfl
          try simp only [Act.put, List.setIfInBounds_toArray, List.set_cons_zero, List.set_cons_succ, List.getElem_toArray, List.getElem_cons_zero, List.getElem_cons_succ]
          refine wpAnyH_take (i := 7) (v := ?_) rfl (by kernel_rfl) (by kernel_rfl) (by kernel_rfl) (fun _ _ _ h => h) (Or.inl ⟨by rfl, ?_⟩) (by assumption) ?_
          rotate_left 1
          · intro w hSw; (try dsimp only at hSw); go_simp <;> with_reducible rfl
          try simp only [Act.put, List.setIfInBounds_toArray, List.set_cons_zero, List.set_cons_succ, List.getElem_toArray, List.getElem_cons_zero, List.getElem_cons_succ]
          refine wpAnyH_take (i := 8) (v := ?_) rfl (by kernel_rfl) (by kernel_rfl) (by kernel_rfl) (fun _ _ _ h => h) (Or.inl ⟨by rfl, ?_⟩) (by assumption) ?_
          rotate_left 1
          · intro w hSw; (try dsimp only at hSw); go_simp <;> with_reducible rfl
          try simp only [Act.put, List.setIfInBounds_toArray, List.set_cons_zero, List.set_cons_succ, List.getElem_toArray, List.getElem_cons_zero, List.getElem_cons_succ]
          refine wpAnyH_take (i := 9) (v := ?_) rfl (by kernel_rfl) (by kernel_rfl) (by kernel_rfl) (fun _ _ _ h => h) (Or.inl ⟨by rfl, ?_⟩) (by assumption) ?_
          rotate_left 1
          · intro w hSw; obtain ⟨q0, q1, q2, q3⟩ := hSw; (try dsimp only at hSw); go_simp <;> with_reducible rfl
          try simp only [Act.put, List.setIfInBounds_toArray, List.set_cons_zero, List.set_cons_succ, List.getElem_toArray, List.getElem_cons_zero, List.getElem_cons_succ]
          refine wpAnyH_take (i := 10) (v := ?_) rfl (by kernel_rfl) (by kernel_rfl) (by kernel_rfl) (fun _ _ _ h => h) (Or.inl ⟨by rfl, ?_⟩) (by assumption) ?_
          rotate_left 1
          · intro w hSw; (try dsimp only at hSw); go_simp <;> with_reducible rfl
          try simp only [Act.put, List.setIfInBounds_toArray, List.set_cons_zero, List.set_cons_succ, List.getElem_toArray, List.getElem_cons_zero, List.getElem_cons_succ]
          refine wpAnyH_take (i := 11) (v := ?_) rfl (by kernel_rfl) (by kernel_rfl) (by kernel_rfl) (fun _ _ _ h => h) (Or.inl ⟨by rfl, ?_⟩) (by assumption) ?_
          rotate_left 1
          · intro w hSw; obtain ⟨q0, q1, q2, q3⟩ := hSw; (try dsimp only at hSw); go_simp <;> with_reducible rfl
          try simp only [Act.put, List.setIfInBounds_toArray, List.set_cons_zero, List.set_cons_succ, List.getElem_toArray, List.getElem_cons_zero, List.getElem_cons_succ]
          refine wpAnyH_ready (rs := [12]) (by kernel_rfl) (by simp) (AllReadyH.cons rfl (fun K hK => ?_) AllReadyH.nil)
          have hPrev := hHeld
          clear hHeld
          go_simp
          refine (CA.out _ B7.out.1).mono ?_
          rintro e w8 ⟨v8, rfl, ho8, hb8⟩
          dsimp only at ho8
          simp only
          obtain ⟨A8, cp8, rfl, _, _, hr8⟩ := ho8.form
          have R8 := Lib.hid hr8
          have B8 : Hid (Below W.heap.size W w8 ∧ Below w6.heap.size w6 w8) := Lib.hid ⟨B7.out.1.trans (hb8.mono B7.out.1.size), B7.out.2.trans (hb8.mono B7.out.2.size)⟩
          clear hr8 ho8 hb8
          refine hK.out _ _ (⟨(HPD.out _ B8.out.1).2, (HRW.out _ B8.out.1 k x HX.out).2, HK4.out _ B8.out.2⟩) (fun hHeld => ?_)
          clear hK K hPrev
          try simp only [Act.put, List.setIfInBounds_toArray, List.set_cons_zero, List.set_cons_succ, List.getElem_toArray, List.getElem_cons_zero, List.getElem_cons_succ]
          refine wpAnyH_take (i := 13) (v := ?_) rfl (by kernel_rfl) (by kernel_rfl) (by kernel_rfl) (fun _ _ _ h => h) (Or.inl ⟨by rfl, ?_⟩) (by assumption) ?_
          rotate_left 1
          · intro w hSw; (try dsimp only at hSw); go_simp <;> with_reducible rfl
          try simp only [Act.put, List.setIfInBounds_toArray, List.set_cons_zero, List.set_cons_succ, List.getElem_toArray, List.getElem_cons_zero, List.getElem_cons_succ]
          refine wpAnyH_take (i := 14) (v := ?_) rfl (by kernel_rfl) (by kernel_rfl) (by kernel_rfl) (fun _ _ _ h => h) (Or.inl ⟨by rfl, ?_⟩) (by assumption) ?_
          rotate_left 1
          · intro w hSw; (try dsimp only at hSw); go_simp <;> with_reducible rfl
          try simp only [Act.put, List.setIfInBounds_toArray, List.set_cons_zero, List.set_cons_succ, List.getElem_toArray, List.getElem_cons_zero, List.getElem_cons_succ]
          refine wpAnyH_take (i := 15) (v := ?_) rfl (by kernel_rfl) (by kernel_rfl) (by kernel_rfl) (fun _ _ _ h => h) (Or.inl ⟨by rfl, ?_⟩) (by assumption) ?_
          rotate_left 1
          · intro w hSw; (try dsimp only at hSw); go_simp <;> with_reducible rfl
          try simp only [Act.put, List.setIfInBounds_toArray, List.set_cons_zero, List.set_cons_succ, List.getElem_toArray, List.getElem_cons_zero, List.getElem_cons_succ]
          refine wpAnyH_take (i := 16) (v := ?_) rfl (by kernel_rfl) (by kernel_rfl) (by kernel_rfl) (fun _ _ _ h => h) (Or.inl ⟨by rfl, ?_⟩) (by assumption) ?_
          rotate_left 1
          · intro w hSw; (try dsimp only at hSw); go_simp <;> with_reducible rfl
          try simp only [Act.put, List.setIfInBounds_toArray, List.set_cons_zero, List.set_cons_succ, List.getElem_toArray, List.getElem_cons_zero, List.getElem_cons_succ]
          refine wpAnyH_take (i := 17) (v := ?_) rfl (by kernel_rfl) (by kernel_rfl) (by kernel_rfl) (fun _ _ _ h => h) (Or.inl ⟨by rfl, ?_⟩) (by assumption) ?_
          rotate_left 1
          · intro w hSw; (try dsimp only at hSw); go_simp <;> with_reducible rfl
          try simp only [Act.put, List.setIfInBounds_toArray, List.set_cons_zero, List.set_cons_succ, List.getElem_toArray, List.getElem_cons_zero, List.getElem_cons_succ]
          refine wpAnyH_done (by kernel_rfl) ?_ _
          clear hHeld B7 CA
          go_upto_region 14 with fail
          refine wp_region_any (by kernel_rfl) ?_
          change wpAny _ _ _ _ _ _ _ (World.drew _)
          refine wpAny_of_held (S := fun w' => w'.cell? ⟨P, 0, none⟩ = some (.slice (some ⟨gd, 0, none⟩) ds.length cd) ∧ w'.cell? ⟨gd, k, none⟩ = some (.pointer (some ⟨x.p, 0, none⟩)) ∧ w'.cell? ⟨g4, 2, none⟩ = some (.int .i64 t2) ∧ w'.cell? ⟨g4, 3, none⟩ = some (.int .i64 t3)) _ _ _ _ ?_
          obtain ⟨w9, hw9⟩ : ∃ w9, w9 = w8.drew := ⟨_, rfl⟩
          have B9 : Hid (Below W.heap.size W w9 ∧ Below w6.heap.size w6 w9 ∧ Below w8.heap.size w8 w9) := Lib.hid (by rw [hw9]; exact ⟨B8.out.1.drew, B8.out.2.drew, (Below.refl _ _).drew⟩)
          rw [← hw9]
          clear hw9
          have hHeld : (fun w' => w'.cell? ⟨P, 0, none⟩ = some (.slice (some ⟨gd, 0, none⟩) ds.length cd) ∧ w'.cell? ⟨gd, k, none⟩ = some (.pointer (some ⟨x.p, 0, none⟩)) ∧ w'.cell? ⟨g4, 2, none⟩ = some (.int .i64 t2) ∧ w'.cell? ⟨g4, 3, none⟩ = some (.int .i64 t3)) w9 := ⟨(HPD.out _ B9.out.1).1, (HRW.out _ B9.out.1 k x HX.out).1, HK4.out _ B9.out.2.1⟩
          refine wpAnyH_take (i := 0) (v := ?_) rfl (by kernel_rfl) (by kernel_rfl) (by kernel_rfl) (fun _ _ _ h => h) (Or.inl ⟨by rfl, ?_⟩) (by assumption) ?_
          rotate_left 1
          · intro w hSw; (try dsimp only at hSw); go_simp <;> with_reducible rfl
          try simp only [Act.put, List.setIfInBounds_toArray, List.set_cons_zero, List.set_cons_succ, List.getElem_toArray, List.getElem_cons_zero]
          refine wpAnyH_take (i := 1) (v := ?_) rfl (by kernel_rfl) (by kernel_rfl) (by kernel_rfl) (fun _ _ _ h => h) (Or.inl ⟨by rfl, ?_⟩) (by assumption) ?_
          rotate_left 1
          · intro w hSw; (try dsimp only at hSw); go_simp <;> with_reducible rfl
          try simp only [Act.put, List.setIfInBounds_toArray, List.set_cons_zero, List.set_cons_succ, List.getElem_toArray, List.getElem_cons_zero, List.getElem_cons_succ]
          refine wpAnyH_take (i := 2) (v := ?_) rfl (by kernel_rfl) (by kernel_rfl) (by kernel_rfl) (fun _ _ _ h => h) (Or.inl ⟨by rfl, ?_⟩) (by assumption) ?_
          rotate_left 1
          · intro w hSw; (try dsimp only at hSw); go_simp <;> with_reducible rfl
          try simp only [Act.put, List.setIfInBounds_toArray, List.set_cons_zero, List.set_cons_succ, List.getElem_toArray, List.getElem_cons_zero, List.getElem_cons_succ]
          refine wpAnyH_take (i := 3) (v := ?_) rfl (by kernel_rfl) (by kernel_rfl) (by kernel_rfl) (fun _ _ _ h => h) (Or.inl ⟨by rfl, ?_⟩) (by assumption) ?_
          rotate_left 1
          · intro w hSw; obtain ⟨q0, q1, q2, q3⟩ := hSw; (try dsimp only at hSw); go_simp <;> with_reducible rfl
          try simp only [Act.put, List.setIfInBounds_toArray, List.set_cons_zero, List.set_cons_succ, List.getElem_toArray, List.getElem_cons_zero, List.getElem_cons_succ]
          refine wpAnyH_take (i := 4) (v := ?_) rfl (by kernel_rfl) (by kernel_rfl) (by kernel_rfl) (fun _ _ _ h => h) (Or.inl ⟨by rfl, ?_⟩) (by assumption) ?_
          rotate_left 1
          · intro w hSw; (try dsimp only at hSw); go_simp <;> with_reducible rfl
          try simp only [Act.put, List.setIfInBounds_toArray, List.set_cons_zero, List.set_cons_succ, List.getElem_toArray, List.getElem_cons_zero, List.getElem_cons_succ]
          refine wpAnyH_take (i := 5) (v := ?_) rfl (by kernel_rfl) (by kernel_rfl) (by kernel_rfl) (fun _ _ _ h => h) (Or.inl ⟨by rfl, ?_⟩) (by assumption) ?_
          rotate_left 1
          · intro w hSw; (try dsimp only at hSw); go_simp <;> with_reducible rfl
          try simp only [Act.put, List.setIfInBounds_toArray, List.set_cons_zero, List.set_cons_succ, List.getElem_toArray, List.getElem_cons_zero, List.getElem_cons_succ]
          refine wpAnyH_take (i := 6) (v := ?_) rfl (by kernel_rfl) (by kernel_rfl) (by kernel_rfl) (fun _ _ _ h => h) (Or.inl ⟨by rfl, ?_⟩) (by assumption) ?_
          rotate_left 1
          · intro w hSw; obtain ⟨q0, q1, q2, q3⟩ := hSw; (try dsimp only at hSw); go_simp <;> with_reducible rfl
          try simp only [Act.put, List.setIfInBounds_toArray, List.set_cons_zero, List.set_cons_succ, List.getElem_toArray, List.getElem_cons_zero, List.getElem_cons_succ]
          refine wpAnyH_take (i := 7) (v := ?_) rfl (by kernel_rfl) (by kernel_rfl) (by kernel_rfl) (fun _ _ _ h => h) (Or.inl ⟨by rfl, ?_⟩) (by assumption) ?_
          rotate_left 1
          · intro w hSw; (try dsimp only at hSw); go_simp <;> with_reducible rfl
          try simp only [Act.put, List.setIfInBounds_toArray, List.set_cons_zero, List.set_cons_succ, List.getElem_toArray, List.getElem_cons_zero, List.getElem_cons_succ]
          refine wpAnyH_take (i := 8) (v := ?_) rfl (by kernel_rfl) (by kernel_rfl) (by kernel_rfl) (fun _ _ _ h => h) (Or.inl ⟨by rfl, ?_⟩) (by assumption) ?_
          rotate_left 1
          · intro w hSw; (try dsimp only at hSw); go_simp <;> with_reducible rfl
          try simp only [Act.put, List.setIfInBounds_toArray, List.set_cons_zero, List.set_cons_succ, List.getElem_toArray, List.getElem_cons_zero, List.getElem_cons_succ]
          refine wpAnyH_take (i := 9) (v := ?_) rfl (by kernel_rfl) (by kernel_rfl) (by kernel_rfl) (fun _ _ _ h => h) (Or.inl ⟨by rfl, ?_⟩) (by assumption) ?_
          rotate_left 1
          · intro w hSw; obtain ⟨q0, q1, q2, q3⟩ := hSw; (try dsimp only at hSw); go_simp <;> with_reducible rfl
          try simp only [Act.put, List.setIfInBounds_toArray, List.set_cons_zero, List.set_cons_succ, List.getElem_toArray, List.getElem_cons_zero, List.getElem_cons_succ]
          refine wpAnyH_take (i := 10) (v := ?_) rfl (by kernel_rfl) (by kernel_rfl) (by kernel_rfl) (fun _ _ _ h => h) (Or.inl ⟨by rfl, ?_⟩) (by assumption) ?_
          rotate_left 1
          · intro w hSw; (try dsimp only at hSw); go_simp <;> with_reducible rfl
          try simp only [Act.put, List.setIfInBounds_toArray, List.set_cons_zero, List.set_cons_succ, List.getElem_toArray, List.getElem_cons_zero, List.getElem_cons_succ]
          refine wpAnyH_take (i := 11) (v := ?_) rfl (by kernel_rfl) (by kernel_rfl) (by kernel_rfl) (fun _ _ _ h => h) (Or.inl ⟨by rfl, ?_⟩) (by assumption) ?_
          rotate_left 1
          · intro w hSw; obtain ⟨q0, q1, q2, q3⟩ := hSw; (try dsimp only at hSw); go_simp <;> with_reducible rfl
          try simp only [Act.put, List.setIfInBounds_toArray, List.set_cons_zero, List.set_cons_succ, List.getElem_toArray, List.getElem_cons_zero, List.getElem_cons_succ]
          refine wpAnyH_ready (rs := [12]) (by kernel_rfl) (by simp) (AllReadyH.cons rfl (fun K hK => ?_) AllReadyH.nil)
          have hPrev := hHeld
          clear hHeld
          go_simp
          refine (CB.out _ B9.out.1).mono ?_
          rintro e w10 ⟨v10, rfl, ho10, hb10⟩
          dsimp only at ho10
          simp only
          obtain ⟨A10, cp10, rfl, _, _, hr10⟩ := ho10.form
          have v10 := conv_bytes w10 A10 lb.length cp10 lb hr10
          have v8 := conv_bytes w10 A8 lb.length cp8 lb ((R8.out.keep B9.out.2.2).keep hb10)
          have B10 : Hid (Below W.heap.size W w10 ∧ Below w6.heap.size w6 w10) := Lib.hid ⟨B9.out.1.trans (hb10.mono B9.out.1.size), B9.out.2.1.trans (hb10.mono B9.out.2.1.size)⟩
          clear hr10 ho10 hb10
          refine hK.out _ _ (⟨(HPD.out _ B10.out.1).1, (HRW.out _ B10.out.1 k x HX.out).1, HK4.out _ B10.out.2⟩) (fun hHeld => ?_)
          clear hK K hPrev
          try simp only [Act.put, List.setIfInBounds_toArray, List.set_cons_zero, List.set_cons_succ, List.getElem_toArray, List.getElem_cons_zero, List.getElem_cons_succ]
          refine wpAnyH_take (i := 13) (v := ?_) rfl (by kernel_rfl) (by kernel_rfl) (by kernel_rfl) (fun _ _ _ h => h) (Or.inl ⟨by rfl, ?_⟩) (by assumption) ?_
          rotate_left 1
          · intro w hSw; (try dsimp only at hSw); go_simp <;> with_reducible rfl
          try simp only [Act.put, List.setIfInBounds_toArray, List.set_cons_zero, List.set_cons_succ, List.getElem_toArray, List.getElem_cons_zero, List.getElem_cons_succ]
          refine wpAnyH_take (i := 14) (v := ?_) rfl (by kernel_rfl) (by kernel_rfl) (by kernel_rfl) (fun _ _ _ h => h) (Or.inl ⟨by rfl, ?_⟩) (by assumption) ?_
          rotate_left 1
          · intro w hSw; (try dsimp only at hSw); go_simp <;> with_reducible rfl
          try simp only [Act.put, List.setIfInBounds_toArray, List.set_cons_zero, List.set_cons_succ, List.getElem_toArray, List.getElem_cons_zero, List.getElem_cons_succ]
          refine wpAnyH_take (i := 15) (v := ?_) rfl (by kernel_rfl) (by kernel_rfl) (by kernel_rfl) (fun _ _ _ h => h) (Or.inl ⟨by rfl, ?_⟩) (by assumption) ?_
          rotate_left 1
          · intro w hSw; (try dsimp only at hSw); go_simp <;> with_reducible rfl
          try simp only [Act.put, List.setIfInBounds_toArray, List.set_cons_zero, List.set_cons_succ, List.getElem_toArray, List.getElem_cons_zero, List.getElem_cons_succ]
          refine wpAnyH_take (i := 16) (v := ?_) rfl (by kernel_rfl) (by kernel_rfl) (by kernel_rfl) (fun _ _ _ h => h) (Or.inl ⟨by rfl, ?_⟩) (by assumption) ?_
          rotate_left 1
          · intro w hSw; (try dsimp only at hSw); go_simp <;> with_reducible rfl
          try simp only [Act.put, List.setIfInBounds_toArray, List.set_cons_zero, List.set_cons_succ, List.getElem_toArray, List.getElem_cons_zero, List.getElem_cons_succ]
          refine wpAnyH_take (i := 17) (v := ?_) rfl (by kernel_rfl) (by kernel_rfl) (by kernel_rfl) (fun _ _ _ h => h) (Or.inl ⟨by rfl, ?_⟩) (by assumption) ?_
          rotate_left 1
          · intro w hSw; (try dsimp only at hSw); go_simp <;> with_reducible rfl
          try simp only [Act.put, List.setIfInBounds_toArray, List.set_cons_zero, List.set_cons_succ, List.getElem_toArray, List.getElem_cons_zero, List.getElem_cons_succ]
          refine wpAnyH_done (by kernel_rfl) ?_ _
          have BF : Hid (Below W.heap.size W w10) := Lib.hid B10.out.1
          clear hHeld B9 B10 B8 R8 CB K46 HK4 HT2 B6
          go_wp2_with fail
          go_roundw
          case rel => exact ⟨n + 1, by omega, by simp, BF⟩
          case measure => simp [intOf]; omega
        · obtain rfl : n = I + 2 := by omega
          clear hnlt
          go_wp2_with fail
          go_roundw
          case rel => exact ⟨k + 1, by omega, by simp, BN⟩
          case measure => simp [intOf]; omega
    · have HF : Hid (AlP W (.returned (.bool true)) wr) := Lib.hid ⟨rfl, BR.out⟩
      go_wp2_with fail
      go_ret
      exact HF.out
end Go.Proofs.YtlojmmcagglpoaaGreat
