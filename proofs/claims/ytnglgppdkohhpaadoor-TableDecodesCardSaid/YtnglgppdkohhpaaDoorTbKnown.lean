/- THE WALK of known: the chapter's first example. -/
import Derived.Test.YtnglgppdkohhpaaDoorTbRun
namespace Go.Proofs.YtnglgppdkohhpaaDoor
open Go.RowKit
attribute [local go_sem ↓] Go.wp_at_zero Go.wp_at_succ
theorem SomeT.tb {t : Tb} {w w' : World} {e : Ending} (hs : Sound t) (hf : Fits t) (h : SomeT t w e w') : ∃ cs, e = .returned (.tuple #[.agg cs, .int .i64 0]) ∧ TB w' cs t ∧ Below w.heap.size w w' := by
  obtain ⟨vn, vf, ve, N0, m, gs, rfl, h1, h2, h3, h4, h5⟩ := h
  exact ⟨_, rfl, h2.tb hs.hc hs.hu (by omega) ⟨by omega, by have := hf.f; omega, by have := hf.e; omega⟩, h5⟩
theorem one_len284 : (encT oneT).length = 284 := by
  rw [encT_length one_sound.hc one_fits]; rfl
theorem one_front : (encT oneT).take 14 = [72, 69, 82, 79, 78, 68, 70, 49, 1, 0, 0, 0, 1, 0] := by
  have e : encT oneT = frontB oneT ++ (intsB oneT.cls 1 ++ (rowsB oneT oneT.nx.length ++ leB (crcMore 0 (bodyT oneT)) 4)) := by
    unfold encT; generalize leB (crcMore 0 (bodyT oneT)) 4 = z; unfold bodyT headB
    simp only [List.append_assoc]
  rw [e, List.take_left' (frontB_length oneT)]
  rfl
set_option maxRecDepth 100000 in
set_option maxHeartbeats 4000000 in
theorem known_any (w : World) (hT : CrcTab w) : Calls Tryd.prog 7 #[] w (RightP true w) := by
  have hz := zero_run
  have HCT := Lib.hid hT
  clear hT
  obtain ⟨zc, hzc⟩ : ∃ zc, zc = dcells zcls nilV nilV nilV := ⟨_, rfl⟩
  have HZC := Lib.hid hzc
  rw [← hzc] at hz
  clear hzc
  go_enter Tryd.func7, Tryd.ntmps7
  go_wp2_with fail
  refine (one_any w).mono ?_
  rintro e w1 ⟨cs, rfl, htb, hb1⟩
  have CE := Lib.hid (tencode_ok cs oneT w1 (HCT.out.keep hb1) htb one_fits)
  have B1 := Lib.hid hb1
  clear htb hb1
  go_wp2_with fail
  refine CE.out.mono ?_
  rintro e w2 ⟨v2, rfl, ho2, hb2⟩
  obtain ⟨D2, dc2, rfl, hcap, hmx, hr2⟩ := ho2.form
  rw [one_len284] at hr2 hcap ⊢
  have B2 : Hid (Below w.heap.size w w2) := Lib.hid (B1.out.trans (hb2.mono B1.out.size))
  have R2 := Lib.hid hr2
  have HCAP := Lib.hid hcap
  have CD := Lib.hid (decode_yes D2 284 dc2 w2 (HCT.out.keep B2.out) one_sound one_fits hr2)
  clear ho2 hb2 hmx hr2 CE B1 hcap
  go_wp2_with fail
  refine CD.out.mono ?_
  rintro e w3 hs3
  obtain ⟨cs3, rfl, htb3, hb3⟩ := hs3.tb one_sound one_fits
  have B3 : Hid (Below w.heap.size w w3) := Lib.hid (B2.out.trans (hb3.mono B2.out.size))
  have T3 := Lib.hid htb3
  have R3 := Lib.hid (R2.out.keep hb3)
  have ds : Hid (cs3.size = 259) := Lib.hid htb3.size
  clear hs3 htb3 hb3 CD R2 B2
  have HO : Hid (cs3.all (·.oneCell') = true) := Lib.hid (by
    obtain ⟨_, _, _, _, _, _, e, _⟩ := T3.out.ex
    rw [e]; exact dcells_one rfl rfl rfl)
  have di : Hid ((Tryd.prog.info? 26).map (·.size) = some cs3.size) := Lib.hid (by rw [size259, ds.out])
  have BA : Hid (Blk (w3.alloc (.cells zc 26)) w3.heap.size 26 zc) := Lib.hid (Blk.new _ _ _ rfl)
  have BAs : Hid (Blk ((w3.alloc (.cells zc 26)).setCells w3.heap.size 0 cs3.toList) w3.heap.size 26 cs3) := Lib.hid (Blk.setAll BA.out cs3 (by rw [ds.out, HZC.out, zsize]))
  go_upto_region 3 with (with_reducible refine wpList_store_mid rfl _ _ _ rfl w3.heap.size 0 cs3 rfl (by first | (simp [Act.eval]; done) | simp [Act.eval]) (there_blk BA.out _ (by rw [ds.out, HZC.out, zsize]; exact Nat.le_refl _)) di.out HO.out ?_)
  obtain ⟨w4, hw4⟩ : ∃ w4, w4 = (w3.alloc (.cells zc 26)).setCells w3.heap.size 0 cs3.toList := ⟨_, rfl⟩
  have hb4 : Below w3.heap.size w3 w4 := by
    rw [hw4]
    have hc := Chg.setCells (S := fun b => b = w3.heap.size) cs3.toList 0 (Chg.refl (fun b => b = w3.heap.size) (w3.alloc (.cells zc 26))) rfl
    exact (below_alloc _ _).trans (hc.below (fun k hk e => by omega) (by simp))
  obtain ⟨b4, hb4e⟩ : ∃ b4, b4 = w3.heap.size := ⟨_, rfl⟩
  have D4 : Hid (DX w4 b4 cs3 oneT) := Lib.hid ⟨by rw [hw4, hb4e]; exact BAs.out, T3.out.keep hb4⟩
  have R4 := Lib.hid (R3.out.keep hb4)
  have B4 : Hid (Below w.heap.size w w4) := Lib.hid (B3.out.trans (hb4.mono B3.out.size))
  rw [← hw4, ← hb4e]
  clear hw4 hb4 hb4e BA BAs T3 R3 B3 di hz
  have hc14 : (14 : Int) ≤ (dc2 : Int) := by have := HCAP.out; omega
  have CV : Hid (∀ w', Below w4.heap.size w4 w' → ∀ A n c, A = D2 → n = 14 → (convert 28 9 (.slice A n c)).run Tryd.prog w' = .ok (.string (strOf ((encT oneT).take 14))) w') := Lib.hid (fun w' hb A n c e1 e2 => by
    subst e1 e2
    exact conv_bytes w' _ 14 c _ ((R4.out.keep hb).take (by omega)))
  have s14 : (strOf ((encT oneT).take 14)).toList = [72, 69, 82, 79, 78, 68, 70, 49, 1, 0, 0, 0, 1, 0] := by rw [strOf_toList, one_front]
  have LI : Hid ((Tryd.prog.info? 26).map (·.size) = some cs3.toList.length) := Lib.hid (by rw [size259, Array.length_toList, ds.out])
  have LD : Hid (∀ w', Below w4.heap.size w4 w' → w'.rangeAt b4 0 cs3.toList) := Lib.hid (fun w' hb => rangeAt_blk (D4.out.keep hb).blk)
  refine wp_region_any (by kernel_rfl) ?_
  change wpAny _ _ _ _ _ _ _ (World.drew _)
  refine wpAny_of_held (S := fun w' => Below w4.heap.size w4 w') _ _ _ _ ?_
  have hHeld : Below w4.heap.size w4 w4.drew := Below.drew (Below.refl _ _)
  refine wpAnyH_take (i := 0) (v := ?_) rfl (by kernel_rfl) (by kernel_rfl) (by kernel_rfl) (fun _ _ _ h => h) (Or.inl ⟨by rfl, ?_⟩) (by assumption) ?_
  rotate_left 1
  · intro w hSw; (try dsimp only at hSw); go_simp <;> with_reducible rfl
  try simp only [Act.put, List.setIfInBounds_toArray, List.set_cons_zero, List.set_cons_succ, List.getElem_toArray, List.getElem_cons_zero]
  refine wpAnyH_take (i := 1) (v := ?_) rfl (by kernel_rfl) (by kernel_rfl) (by kernel_rfl) (fun _ _ _ h => h) (Or.inl ⟨by rfl, ?_⟩) (by assumption) ?_
  rotate_left 1
  · intro w hSw; (try dsimp only at hSw); go_simp <;> with_reducible rfl
  try simp only [Act.put, List.setIfInBounds_toArray, List.set_cons_zero, List.set_cons_succ, List.getElem_toArray, List.getElem_cons_zero, List.getElem_cons_succ]
  refine wpAnyH_take (i := 2) (v := ?_) rfl (by kernel_rfl) (by kernel_rfl) (by kernel_rfl) (fun _ _ _ h => h) (Or.inl ⟨by rfl, ?_⟩) (by assumption) ?_
  rotate_left 1
  · intro w hSw; (try dsimp only at hSw); go_simp <;> with_reducible rfl
  try simp only [Act.put, List.setIfInBounds_toArray, List.set_cons_zero, List.set_cons_succ, List.getElem_toArray, List.getElem_cons_zero, List.getElem_cons_succ]
  refine wpAnyH_take (i := 3) (v := ?_) rfl (by kernel_rfl) (by kernel_rfl) (by kernel_rfl) (fun _ _ _ h => h) (Or.inl ⟨by rfl, ?_⟩) (by assumption) ?_
  rotate_left 1
  · intro w hSw; (try dsimp only at hSw); go_simp <;> with_reducible rfl
  try simp only [Act.put, List.setIfInBounds_toArray, List.set_cons_zero, List.set_cons_succ, List.getElem_toArray, List.getElem_cons_zero, List.getElem_cons_succ]
  refine wpAnyH_take (i := 4) (v := ?_) rfl (by kernel_rfl) (by kernel_rfl) (by kernel_rfl) (fun _ _ _ h => h) (Or.inl ⟨by rfl, ?_⟩) (by assumption) ?_
  rotate_left 1
  · intro w hSw; (try dsimp only at hSw); go_simp <;> with_reducible rfl
  try simp only [Act.put, List.setIfInBounds_toArray, List.set_cons_zero, List.set_cons_succ, List.getElem_toArray, List.getElem_cons_zero, List.getElem_cons_succ]
  refine wpAnyH_take (i := 5) (v := ?_) rfl (by kernel_rfl) (by kernel_rfl) (by kernel_rfl) (fun _ _ _ h => h) (Or.inl ⟨by rfl, ?_⟩) (by assumption) ?_
  rotate_left 1
  · intro w hSw; (try dsimp only at hSw); go_simp <;> with_reducible rfl
  try simp only [Act.put, List.setIfInBounds_toArray, List.set_cons_zero, List.set_cons_succ, List.getElem_toArray, List.getElem_cons_zero, List.getElem_cons_succ]
  refine wpAnyH_take (i := 6) (v := ?_) rfl (by kernel_rfl) (by kernel_rfl) (by kernel_rfl) (fun _ _ _ h => h) (Or.inl ⟨by rfl, ?_⟩) (by assumption) ?_
  rotate_left 1
  · intro w hSw; (try dsimp only at hSw); go_simp <;> with_reducible rfl
  try simp only [Act.put, List.setIfInBounds_toArray, List.set_cons_zero, List.set_cons_succ, List.getElem_toArray, List.getElem_cons_zero, List.getElem_cons_succ]
  refine wpAnyH_take (i := 7) (v := ?_) rfl (by kernel_rfl) (by kernel_rfl) (by kernel_rfl) (fun _ _ _ h => h) (Or.inl ⟨by rfl, ?_⟩) (by assumption) ?_
  rotate_left 1
  · intro w hSw; (try dsimp only at hSw); go_simp <;> with_reducible rfl
  try simp only [Act.put, List.setIfInBounds_toArray, List.set_cons_zero, List.set_cons_succ, List.getElem_toArray, List.getElem_cons_zero, List.getElem_cons_succ]
  refine wpAnyH_take (i := 8) (v := ?_) rfl (by kernel_rfl) (by kernel_rfl) (by kernel_rfl) (fun _ _ _ h => h) (Or.inl ⟨by rfl, ?_⟩) (by assumption) ?_
  rotate_left 1
  · intro w hSw; (try dsimp only at hSw); go_simp <;> with_reducible rfl
  try simp only [Act.put, List.setIfInBounds_toArray, List.set_cons_zero, List.set_cons_succ, List.getElem_toArray, List.getElem_cons_zero, List.getElem_cons_succ]
  refine wpAnyH_take (i := 9) (v := ?_) rfl (by kernel_rfl) (by kernel_rfl) (by kernel_rfl) (fun _ _ _ h => h) (Or.inl ⟨by rfl, ?_⟩) (by assumption) ?_
  rotate_left 1
  · intro w hSw; (try dsimp only at hSw); go_simp <;> with_reducible rfl
  try simp only [Act.put, List.setIfInBounds_toArray, List.set_cons_zero, List.set_cons_succ, List.getElem_toArray, List.getElem_cons_zero, List.getElem_cons_succ]
  refine wpAnyH_take (i := 10) (v := ?_) rfl (by kernel_rfl) (by kernel_rfl) (by kernel_rfl) (fun _ _ _ h => h) (Or.inl ⟨by rfl, ?_⟩) (by assumption) ?_
  rotate_left 1
  · intro w hSw; have hS2 := CV.out w hSw _ 14 dc2 rfl rfl; (try dsimp only at hSw); go_simp <;> with_reducible rfl
  try simp only [Act.put, List.setIfInBounds_toArray, List.set_cons_zero, List.set_cons_succ, List.getElem_toArray, List.getElem_cons_zero, List.getElem_cons_succ]
  refine wpAnyH_take (i := 11) (v := ?_) rfl (by kernel_rfl) (by kernel_rfl) (by kernel_rfl) (fun _ _ _ h => h) (Or.inl ⟨by rfl, ?_⟩) (by assumption) ?_
  rotate_left 1
  · intro w hSw; (try dsimp only at hSw); go_simp <;> with_reducible rfl
  try simp only [Act.put, List.setIfInBounds_toArray, List.set_cons_zero, List.set_cons_succ, List.getElem_toArray, List.getElem_cons_zero, List.getElem_cons_succ]
  refine wpAnyH_take (i := 12) (v := ?_) rfl (by kernel_rfl) (by kernel_rfl) (by kernel_rfl) (fun _ _ _ h => h) (Or.inl ⟨by rfl, ?_⟩) (by assumption) ?_
  rotate_left 1
  · intro w hSw; (try dsimp only at hSw); go_simp <;> with_reducible rfl
  try simp only [Act.put, List.setIfInBounds_toArray, List.set_cons_zero, List.set_cons_succ, List.getElem_toArray, List.getElem_cons_zero, List.getElem_cons_succ]
  refine wpAnyH_take (i := 13) (v := ?_) rfl (by kernel_rfl) (by kernel_rfl) (by kernel_rfl) (fun _ _ _ h => h) (Or.inl ⟨by rfl, ?_⟩) (by assumption) ?_
  rotate_left 1
  · intro w hSw; (try dsimp only at hSw); go_simp <;> with_reducible rfl
  try simp only [Act.put, List.setIfInBounds_toArray, List.set_cons_zero, List.set_cons_succ, List.getElem_toArray, List.getElem_cons_zero, List.getElem_cons_succ]
  refine wpAnyH_take (i := 14) (v := ?_) rfl (by kernel_rfl) (by kernel_rfl) (by kernel_rfl) (fun _ _ _ h => h) (Or.inl ⟨by rfl, ?_⟩) (by assumption) ?_
  rotate_left 1
  · intro w hSw; (try dsimp only at hSw); go_simp <;> with_reducible rfl
  try simp only [Act.put, List.setIfInBounds_toArray, List.set_cons_zero, List.set_cons_succ, List.getElem_toArray, List.getElem_cons_zero, List.getElem_cons_succ]
  refine wpAnyH_take (i := 15) (v := ?_) rfl (by kernel_rfl) (by kernel_rfl) (by kernel_rfl) (fun _ _ _ h => h) (Or.inl ⟨by rfl, ?_⟩) (by assumption) ?_
  rotate_left 1
  · intro w hSw; (try dsimp only at hSw); go_simp <;> with_reducible rfl
  try simp only [Act.put, List.setIfInBounds_toArray, List.set_cons_zero, List.set_cons_succ, List.getElem_toArray, List.getElem_cons_zero, List.getElem_cons_succ]
  refine wpAnyH_take (i := 16) (v := ?_) rfl (by kernel_rfl) (by kernel_rfl) (by kernel_rfl) (fun _ _ _ h => h) (Or.inl ⟨by rfl, ?_⟩) (by assumption) ?_
  rotate_left 1
  · intro w hSw; (try dsimp only at hSw); go_simp <;> with_reducible rfl
  try simp only [Act.put, List.setIfInBounds_toArray, List.set_cons_zero, List.set_cons_succ, List.getElem_toArray, List.getElem_cons_zero, List.getElem_cons_succ]
  refine wpAnyH_take (i := 17) (v := ?_) rfl (by kernel_rfl) (by kernel_rfl) (by kernel_rfl) (fun _ _ _ h => h) (Or.inl ⟨by rfl, ?_⟩) (by assumption) ?_
  rotate_left 1
  · intro w hSw; (try dsimp only at hSw); go_simp <;> with_reducible rfl
  try simp only [Act.put, List.setIfInBounds_toArray, List.set_cons_zero, List.set_cons_succ, List.getElem_toArray, List.getElem_cons_zero, List.getElem_cons_succ]
  refine wpAnyH_take (i := 18) (v := _) rfl (by kernel_rfl) (by kernel_rfl) (by kernel_rfl) (fun _ _ _ h => h) (yieldsIf_load_mid (by rfl) _ _ rfl _ _ rfl cs3.toList _ (fun w hw => LD.out w hw) Tryd.underlying26 rfl (LI.out)) (by assumption) ?_
  try simp only [Act.put, List.setIfInBounds_toArray, List.set_cons_zero, List.set_cons_succ, List.getElem_toArray, List.getElem_cons_zero, List.getElem_cons_succ]
  refine wpAnyH_ready (rs := [19]) (by kernel_rfl) (by simp) (AllReadyH.cons rfl (fun K hK => ?_) AllReadyH.nil)
  have hPrev := hHeld
  clear hHeld
  go_simp
  go_at_call 18
  refine (one_any _).mono ?_
  rintro e w5 ⟨cs5, rfl, htb5, hb5⟩
  have T5 := Lib.hid htb5
  have hB5 : Below w4.heap.size w4 w5 := hPrev.trans (hb5.mono hPrev.size)
  have T35 := Lib.hid (D4.out.tb.keep hB5)
  clear htb5 hb5
  go_wp2_with fail
  refine hK.out _ _ (hB5) (fun hHeld => ?_)
  clear hK K hPrev
  try simp only [Act.put, List.setIfInBounds_toArray, List.set_cons_zero, List.set_cons_succ, List.getElem_toArray, List.getElem_cons_zero, List.getElem_cons_succ]
  refine wpAnyH_ready (rs := [20]) (by kernel_rfl) (by simp) (AllReadyH.cons rfl (fun K hK => ?_) AllReadyH.nil)
  have hPrev := hHeld
  clear hHeld
  go_simp
  go_at_call 15
  have cq := rsame_any cs3 cs5 oneT oneT w5 T35.out T5.out
  rw [sameB_true rfl] at cq
  refine cq.mono ?_
  rintro e w6 ⟨rfl, hb6⟩
  have hB6 : Below w4.heap.size w4 w6 := hPrev.trans (hb6.mono hPrev.size)
  clear hb6 cq
  go_wp2_with fail
  refine hK.out _ _ (hB6) (fun hHeld => ?_)
  clear hK K hPrev
  try simp only [Act.put, List.setIfInBounds_toArray, List.set_cons_zero, List.set_cons_succ, List.getElem_toArray, List.getElem_cons_zero, List.getElem_cons_succ]
  refine wpAnyH_take (i := 21) (v := ?_) rfl (by kernel_rfl) (by kernel_rfl) (by kernel_rfl) (fun _ _ _ h => h) (Or.inl ⟨by rfl, ?_⟩) (by assumption) ?_
  rotate_left 1
  · intro w hSw; (try dsimp only at hSw); go_simp <;> with_reducible rfl
  try simp only [Act.put, List.setIfInBounds_toArray, List.set_cons_zero, List.set_cons_succ, List.getElem_toArray, List.getElem_cons_zero, List.getElem_cons_succ]
  refine wpAnyH_take (i := 22) (v := ?_) rfl (by kernel_rfl) (by kernel_rfl) (by kernel_rfl) (fun _ _ _ h => h) (Or.inl ⟨by rfl, ?_⟩) (by assumption) ?_
  rotate_left 1
  · intro w hSw; (try dsimp only at hSw); go_simp <;> with_reducible rfl
  try simp only [Act.put, List.setIfInBounds_toArray, List.set_cons_zero, List.getElem_toArray, List.getElem_cons_zero, List.getElem_cons_succ]
  refine wpAnyH_done (by kernel_rfl) ?_ _
  have B9 : Hid (Below w.heap.size w w6) := Lib.hid (B4.out.trans (hHeld.mono B4.out.size))
  clear hHeld hB5 hB6
  go_wp2_with fail
  go_ret
  exact ⟨rfl, B9.out⟩
end Go.Proofs.YtnglgppdkohhpaaDoor
