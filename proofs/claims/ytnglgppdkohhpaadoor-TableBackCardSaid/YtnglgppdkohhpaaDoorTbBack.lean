/- THE WALK of TableBack (printed by a program of ours). -/
import Derived.Test.YtnglgppdkohhpaaDoorTbKnown
namespace Go.Proofs.YtnglgppdkohhpaaDoor
open Go.RowKit
attribute [local go_sem ↓] Go.wp_at_zero Go.wp_at_succ
theorem enc_eqB {t t' : Tb} (hs : Sound t) (h : Fits t) (hs' : Sound t') (h' : Fits t') : (encT t == encT t') = sameB t t' := by
  by_cases e : t = t'
  · subst e; rw [sameB_true rfl]; exact beq_self_eq_true _
  · rw [sameB_false e]; exact beq_eq_false_iff_ne.2 (fun he => e (enc_inj hs h hs' h' he))
set_option maxRecDepth 100000 in
set_option maxHeartbeats 4000000 in
theorem back_any (cs cs' : Array Value) (t t' : Tb) (s : ByteArray) (w : World) (hT : CrcTab w) (h : TB w cs t) (h' : TB w cs' t') :
    Calls Tryd.prog 6 #[.agg cs, .agg cs', .string s] w (RightP true w) := by
  have HT := Lib.hid h; have HT' := Lib.hid h'; have HCT := Lib.hid hT
  clear h h' hT
  obtain ⟨w2, hw2⟩ : ∃ w2, w2 = (w.alloc (.cells cs 26)).alloc (.cells cs' 26) := ⟨_, rfl⟩
  obtain ⟨b, hb⟩ : ∃ b, b = w.heap.size := ⟨_, rfl⟩
  obtain ⟨b', hb'⟩ : ∃ b', b' = w.heap.size + 1 := ⟨_, rfl⟩
  have B2 : Hid (Below w.heap.size w w2) := Lib.hid (by rw [hw2]; exact (below_alloc _ _).trans ((below_alloc _ _).mono (by simp)))
  have D2 : Hid (DX w2 b cs t) := Lib.hid ⟨by rw [hw2, hb]; exact (Blk.new _ _ _ rfl).alloc _, HT.out.keep B2.out⟩
  have E2 : Hid (DX w2 b' cs' t') := Lib.hid ⟨by rw [hw2, hb']; exact Blk.new _ _ _ (by simp), HT'.out.keep B2.out⟩
  have li : Hid ((Tryd.prog.info? 26).map (·.size) = some cs.toList.length) := Lib.hid (by rw [size259, Array.length_toList, HT.out.size])
  have li' : Hid ((Tryd.prog.info? 26).map (·.size) = some cs'.toList.length) := Lib.hid (by rw [size259, Array.length_toList, HT'.out.size])
  go_enter Tryd.func6, Tryd.ntmps6
  go_upto_region 1 with fail
  rw [← hw2, ← hb', ← hb]
  clear hw2 hb hb'
  go_wp2_with fail
  refine (known_any w2 (HCT.out.keep B2.out)).mono ?_
  rintro e w3 ⟨rfl, hb3⟩
  have B3 : Hid (Below w.heap.size w w3) := Lib.hid (B2.out.trans (hb3.mono B2.out.size))
  have D3 := Lib.hid (D2.out.keep hb3); have E3 := Lib.hid (E2.out.keep hb3)
  clear hb3 B2 D2 E2
  go_upto_if 21 with fail
  go_cut [2] (fun s2 wx => ∃ s' : ByteArray, s2 = .string s' ∧ s'.size ≤ 281474976710656 ∧ wx = w3)
  case first =>
    by_cases hl : 300 < s.size
    · have h300 : (300 : Int) ≤ (s.size : Int) := by omega
      go_wp2_with fail
      go_meet
      exact ⟨s.extract 0 300, rfl, by simp; omega, rfl⟩
    · go_wp2_with fail
      go_meet
      exact ⟨s, rfl, by omega, rfl⟩
  case rest =>
    obtain ⟨s', rfl, hs', hcut⟩ := hcut
    rw [hcut]
    clear hcut wc
    by_cases hf : Fits t
    · skip
      have HF := Lib.hid hf
      have CE := Lib.hid (tencode_ok cs t w3 (HCT.out.keep B3.out) D3.out.tb hf)
      have CR : Hid (∀ w', Below w3.heap.size w3 w' → Calls Tryd.prog 19 #[.agg cs] w' (RightP true w')) := Lib.hid (fun w' hb => by have := right_any cs t w' (D3.out.tb.keep hb); rw [rightB_true hf] at this; exact this)
      have RG := Lib.hid (rangeAt_blk D3.out.blk)
      clear hf
      go_wp2_with (with_reducible refine wpList_load_mid rfl _ _ rfl b 0 rfl cs.toList _ RG.out Tryd.underlying26 rfl li.out ?_)
      refine CE.out.mono ?_
      rintro e w4 ⟨v4, rfl, ho4, hb4⟩
      obtain ⟨D, dc, rfl, _, _, hr4⟩ := ho4.form
      have hL := encT_length HT.out.hc HF.out
      obtain ⟨L, hLe⟩ : ∃ L, L = (encT t).length := ⟨_, rfl⟩
      rw [← hLe] at hr4 hL ⊢
      have HL := Lib.hid hL
      have R4 := Lib.hid hr4
      have B4 : Hid (Below w.heap.size w w4) := Lib.hid (B3.out.trans (hb4.mono B3.out.size))
      have D4 := Lib.hid (D3.out.keep hb4); have E4 := Lib.hid (E3.out.keep hb4)
      have C4 := Lib.hid (CR.out w4 (hb4.mono (Nat.le_refl _)))
      have RG4 := Lib.hid (rangeAt_blk D4.out.blk)
      clear ho4 hr4 hb4 hL hLe CE CR RG D3 E3 B3
      go_wp2_with (first | (go_at_call 19; refine C4.out.mono ?_; rintro e w5 ⟨rfl, hb5⟩; have B5 : Hid (Below w.heap.size w w5) := Lib.hid (B4.out.trans (hb5.mono B4.out.size)); have D5 := Lib.hid (D4.out.keep hb5); have E5 := Lib.hid (E4.out.keep hb5); have R5 := Lib.hid (R4.out.keep hb5); clear hb5 B4 D4 E4 R4 RG4 C4) | (with_reducible refine wpList_load_mid rfl _ _ rfl b 0 rfl cs.toList _ RG4.out Tryd.underlying26 rfl li.out ?_))
      have CD := Lib.hid (decode_yes D L dc w5 (HCT.out.keep B5.out) ⟨HT.out.hc, HT.out.hu⟩ HF.out R5.out)
      refine CD.out.mono ?_
      rintro e w6 hs6
      obtain ⟨cs3, rfl, htb3, hb6⟩ := hs6.tb ⟨HT.out.hc, HT.out.hu⟩ HF.out
      have B6 : Hid (Below w.heap.size w w6) := Lib.hid (B5.out.trans (hb6.mono B5.out.size))
      have D6 := Lib.hid (D5.out.keep hb6); have E6 := Lib.hid (E5.out.keep hb6); have R6 := Lib.hid (R5.out.keep hb6); have T6 := Lib.hid htb3
      have ds : Hid (cs3.size = 259) := Lib.hid htb3.size
      clear hs6 htb3 hb6 CD R5 B5 D5 E5
      have HO : Hid (cs3.all (·.oneCell') = true) := Lib.hid (by
        obtain ⟨_, _, _, _, _, _, e, _⟩ := T6.out.ex
        rw [e]; exact dcells_one rfl rfl rfl)
      have hz := zero_run
      obtain ⟨zc, hzc⟩ : ∃ zc, zc = dcells zcls nilV nilV nilV := ⟨_, rfl⟩
      have HZC := Lib.hid hzc
      rw [← hzc] at hz
      clear hzc
      have di : Hid ((Tryd.prog.info? 26).map (·.size) = some cs3.size) := Lib.hid (by rw [size259, ds.out])
      have li3 : Hid ((Tryd.prog.info? 26).map (·.size) = some cs3.toList.length) := Lib.hid (by rw [size259, Array.length_toList, ds.out])
      have BA : Hid (Blk (w6.alloc (.cells zc 26)) w6.heap.size 26 zc) := Lib.hid (Blk.new _ _ _ rfl)
      have BAs : Hid (Blk ((w6.alloc (.cells zc 26)).setCells w6.heap.size 0 cs3.toList) w6.heap.size 26 cs3) := Lib.hid (Blk.setAll BA.out cs3 (by rw [ds.out, HZC.out, zsize]))
      go_upto_region 11 with (with_reducible refine wpList_store_mid rfl _ _ _ rfl w6.heap.size 0 cs3 rfl (by first | (simp [Act.eval]; done) | simp [Act.eval, Act.put]) (there_blk BA.out _ (by rw [ds.out, HZC.out, zsize]; exact Nat.le_refl _)) di.out HO.out ?_)
      obtain ⟨w7, hw7⟩ : ∃ w7, w7 = (w6.alloc (.cells zc 26)).setCells w6.heap.size 0 cs3.toList := ⟨_, rfl⟩
      have hb7 : Below w6.heap.size w6 w7 := by
        rw [hw7]
        have hc := Chg.setCells (S := fun b => b = w6.heap.size) cs3.toList 0 (Chg.refl (fun b => b = w6.heap.size) (w6.alloc (.cells zc 26))) rfl
        exact (below_alloc _ _).trans (hc.below (fun k hk e => by omega) (by simp))
      obtain ⟨b9, hb9⟩ : ∃ b9, b9 = w6.heap.size := ⟨_, rfl⟩
      have X7 : Hid (DX w7 b9 cs3 t) := Lib.hid ⟨by rw [hw7, hb9]; exact BAs.out, T6.out.keep hb7⟩
      have D7 := Lib.hid (D6.out.keep hb7); have E7 := Lib.hid (E6.out.keep hb7); have R7 := Lib.hid (R6.out.keep hb7)
      have B7 : Hid (Below w.heap.size w w7) := Lib.hid (B6.out.trans (hb7.mono B6.out.size))
      rw [← hw7, ← hb9]
      clear hw7 hb7 hb9 BA BAs T6 R6 B6 D6 E6 hz di
      obtain ⟨rv, hrv⟩ : ∃ rv, rv = runT t s'.data.toList := ⟨_, rfl⟩
      have HRV := Lib.hid hrv
      clear hrv
      have RGA := Lib.hid (rangeAt_blk D7.out.blk)
      go_upto_region 12 with (first | (go_at_call 20; refine (run_any cs t s' w7 D7.out.tb HF.out hs').mono ?_; rintro e wr1 ⟨rfl, hbr⟩; rw [← HRV.out]; have D7b := Lib.hid (D7.out.keep hbr); have E7b := Lib.hid (E7.out.keep hbr); have R7b := Lib.hid (R7.out.keep hbr); have X7b := Lib.hid (X7.out.keep hbr); have B7b : Hid (Below w.heap.size w wr1) := Lib.hid (B7.out.trans (hbr.mono B7.out.size)); clear hbr D7 E7 R7 X7 B7 RGA) | (with_reducible refine wpList_load_mid rfl _ _ rfl b 0 rfl cs.toList _ RGA.out Tryd.underlying26 rfl li.out ?_))
      have RGB := Lib.hid (rangeAt_blk X7b.out.blk)
      go_upto_region 13 with (first | (go_at_call 20; refine (run_any cs3 t s' wr1 X7b.out.tb HF.out hs').mono ?_; rintro e w8 ⟨rfl, hbr⟩; rw [← HRV.out]; have D8 := Lib.hid (D7b.out.keep hbr); have E8 := Lib.hid (E7b.out.keep hbr); have R8 := Lib.hid (R7b.out.keep hbr); have X8 := Lib.hid (X7b.out.keep hbr); have B8 : Hid (Below w.heap.size w w8) := Lib.hid (B7b.out.trans (hbr.mono B7b.out.size)); clear hbr D7b E7b R7b X7b B7b RGB) | (with_reducible refine wpList_load_mid rfl _ _ rfl b9 0 rfl cs3.toList _ RGB.out Tryd.underlying26 rfl li3.out ?_))
      have T8 : Hid (TB w8 cs3 t) := Lib.hid X8.out.tb
      obtain ⟨An, cn, Af, cf, Ae, ce, c1, _, _, _, _, _, r1, _, _⟩ := D8.out.open_
      obtain ⟨n, hn⟩ : ∃ n, n = t.nx.length := ⟨_, rfl⟩
      obtain ⟨m, hm⟩ : ∃ m, m = many t := ⟨_, rfl⟩
      have HNM : Hid (n = t.nx.length ∧ m = many t ∧ 1 ≤ n ∧ n ≤ 4096 ∧ m ≤ 256) := Lib.hid ⟨hn, hm, by rw [hn]; exact HF.out.n1, by rw [hn]; exact HF.out.n2, by rw [hm]; exact HF.out.m2⟩
      rw [← hn] at c1 r1
      obtain ⟨b0, off, rfl, hb0, l0, A0, c0', hl0, hlc, c4, _⟩ := r1.at_ (k := 0) (by have := HNM.out; omega)
      have hlm : l0.length = m := by rw [hm]; exact (HF.out.r 0 l0 hl0).1
      rw [hlm, Nat.add_zero] at c4
      have LD : Hid (∀ w', Below w8.heap.size w8 w' → w'.rangeAt b9 0 cs3.toList ∧ w'.rangeAt b 0 cs.toList ∧ w'.cell? ⟨b, 256, none⟩ = some (.slice (some ⟨b0, off, none⟩) n cn) ∧ w'.cell? ⟨b0, off, none⟩ = some (.slice A0 m c0')) := Lib.hid (fun w' hb => ⟨rangeAt_blk (X8.out.keep hb).blk, rangeAt_blk (D8.out.keep hb).blk, cell_later hb c1, cell_later hb c4⟩)
      obtain ⟨m2, hm2⟩ : ∃ m2, m2 = 2 * m := ⟨_, rfl⟩
      obtain ⟨ps, hps⟩ : ∃ ps, ps = 2 * m + 8 := ⟨_, rfl⟩
      obtain ⟨qp, hqp⟩ : ∃ qp, qp = n * ps := ⟨_, rfl⟩
      have hle : qp ≤ 2129920 := by rw [hqp, hps]; exact rows_le HNM.out.2.2.2.1 HNM.out.2.2.2.2
      have hLq : L = 274 + qp := by rw [HL.out, hqp, hps, ← hn, ← hm]
      have e0 : IntKind.i64.wrap (2 * (m : Int)) = (m2 : Int) := by rw [IntWalk.i64_in _ (by have := HNM.out; omega)]; omega
      have e1 : IntKind.i64.wrap (8 + (m2 : Int)) = (ps : Int) := by rw [IntWalk.i64_in _ (by have := HNM.out; omega)]; omega
      have e2 : IntKind.i64.wrap ((n : Int) * (ps : Int)) = (qp : Int) := by rw [← Int.natCast_mul, ← hqp]; exact IntWalk.i64_in _ (by omega)
      have e3 : IntKind.i64.wrap (274 + (qp : Int)) = (L : Int) := by rw [IntWalk.i64_in _ (by omega)]; omega
      have e4 : ((rv : Int) != (rv : Int)) = false := by simp
      have e5 : ((L : Int) != (L : Int)) = false := by simp
      have hn0 : 0 < n := by have := HNM.out; omega
      clear hn hm hl0 hlc hlm r1 hb0 hle hLq hm2 hps hqp c1 c4
      refine wp_region_any (by kernel_rfl) ?_
      change wpAny _ _ _ _ _ _ _ (World.drew _)
      refine wpAny_of_held (S := fun w' => Below w8.heap.size w8 w') _ _ _ _ ?_
      have hHeld : Below w8.heap.size w8 w8.drew := Below.drew (Below.refl _ _)
      refine wpAnyH_take (i := 0) (v := ?_) rfl (by kernel_rfl) (by kernel_rfl) (by kernel_rfl) (fun _ _ _ h => h) (Or.inl ⟨by rfl, ?_⟩) (by assumption) ?_
      rotate_left 1
      · intro w hSw; (try dsimp only at hSw); go_simp <;> with_reducible rfl
      try simp only [Act.put, List.setIfInBounds_toArray, List.set_cons_zero, List.set_cons_succ, List.getElem_toArray, List.getElem_cons_zero, List.getElem_cons_succ]
      refine wpAnyH_take (i := 1) (v := ?_) rfl (by kernel_rfl) (by kernel_rfl) (by kernel_rfl) (fun _ _ _ h => h) (Or.inl ⟨by rfl, ?_⟩) (by assumption) ?_
      rotate_left 1
      · intro w hSw; (try dsimp only at hSw); go_simp <;> with_reducible rfl
      try simp only [Act.put, List.setIfInBounds_toArray, List.set_cons_zero, List.set_cons_succ, List.getElem_toArray, List.getElem_cons_zero, List.getElem_cons_succ]
      refine wpAnyH_take (i := 2) (v := ?_) rfl (by kernel_rfl) (by kernel_rfl) (by kernel_rfl) (fun _ _ _ h => h) (Or.inl ⟨by rfl, ?_⟩) (by assumption) ?_
      rotate_left 1
      · intro w hSw; (try dsimp only at hSw); go_simp <;> with_reducible rfl
      try simp only [Act.put, List.setIfInBounds_toArray, List.set_cons_zero, List.set_cons_succ, List.getElem_toArray, List.getElem_cons_zero, List.getElem_cons_succ]
      refine wpAnyH_take (i := 3) (v := ?_) rfl (by kernel_rfl) (by kernel_rfl) (by kernel_rfl) (fun _ _ _ h => h) (Or.inl ⟨by rfl, ?_⟩) (by assumption) ?_
      rotate_left 1
      · intro w hSw; (try dsimp only at hSw); go_simp <;> with_reducible rfl
      try simp only [Act.put, List.setIfInBounds_toArray, List.set_cons_zero, List.set_cons_succ, List.getElem_toArray, List.getElem_cons_zero, List.getElem_cons_succ]
      refine wpAnyH_take (i := 4) (v := ?_) rfl (by kernel_rfl) (by kernel_rfl) (by kernel_rfl) (fun _ _ _ h => h) (Or.inl ⟨by rfl, ?_⟩) (by assumption) ?_
      rotate_left 1
      · intro w hSw; (try dsimp only at hSw); go_simp <;> with_reducible rfl
      try simp only [Act.put, List.setIfInBounds_toArray, List.set_cons_zero, List.set_cons_succ, List.getElem_toArray, List.getElem_cons_zero, List.getElem_cons_succ]
      refine wpAnyH_take (i := 5) (v := ?_) rfl (by kernel_rfl) (by kernel_rfl) (by kernel_rfl) (fun _ _ _ h => h) (Or.inl ⟨by rfl, ?_⟩) (by assumption) ?_
      rotate_left 1
      · intro w hSw; (try dsimp only at hSw); go_simp <;> with_reducible rfl
      try simp only [Act.put, List.setIfInBounds_toArray, List.set_cons_zero, List.set_cons_succ, List.getElem_toArray, List.getElem_cons_zero, List.getElem_cons_succ]
      refine wpAnyH_take (i := 6) (v := ?_) rfl (by kernel_rfl) (by kernel_rfl) (by kernel_rfl) (fun _ _ _ h => h) (Or.inl ⟨by rfl, ?_⟩) (by assumption) ?_
      rotate_left 1
      · intro w hSw; (try dsimp only at hSw); go_simp <;> with_reducible rfl
      try simp only [Act.put, List.setIfInBounds_toArray, List.set_cons_zero, List.set_cons_succ, List.getElem_toArray, List.getElem_cons_zero, List.getElem_cons_succ]
      refine wpAnyH_take (i := 7) (v := ?_) rfl (by kernel_rfl) (by kernel_rfl) (by kernel_rfl) (fun _ _ _ h => h) (Or.inl ⟨by rfl, ?_⟩) (by assumption) ?_
      rotate_left 1
      · intro w hSw; (try dsimp only at hSw); go_simp <;> with_reducible rfl
      try simp only [Act.put, List.setIfInBounds_toArray, List.set_cons_zero, List.set_cons_succ, List.getElem_toArray, List.getElem_cons_zero, List.getElem_cons_succ]
      refine wpAnyH_take (i := 8) (v := ?_) rfl (by kernel_rfl) (by kernel_rfl) (by kernel_rfl) (fun _ _ _ h => h) (Or.inl ⟨by rfl, ?_⟩) (by assumption) ?_
      rotate_left 1
      · intro w hSw; (try dsimp only at hSw); go_simp <;> with_reducible rfl
      try simp only [Act.put, List.setIfInBounds_toArray, List.set_cons_zero, List.set_cons_succ, List.getElem_toArray, List.getElem_cons_zero, List.getElem_cons_succ]
      refine wpAnyH_take (i := 9) (v := ?_) rfl (by kernel_rfl) (by kernel_rfl) (by kernel_rfl) (fun _ _ _ h => h) (Or.inl ⟨by rfl, ?_⟩) (by assumption) ?_
      rotate_left 1
      · intro w hSw; (try dsimp only at hSw); go_simp <;> with_reducible rfl
      try simp only [Act.put, List.setIfInBounds_toArray, List.set_cons_zero, List.set_cons_succ, List.getElem_toArray, List.getElem_cons_zero, List.getElem_cons_succ]
      refine wpAnyH_take (i := 10) (v := ?_) rfl (by kernel_rfl) (by kernel_rfl) (by kernel_rfl) (fun _ _ _ h => h) (Or.inl ⟨by rfl, ?_⟩) (by assumption) ?_
      rotate_left 1
      · intro w hSw; (try dsimp only at hSw); go_simp <;> with_reducible rfl
      try simp only [Act.put, List.setIfInBounds_toArray, List.set_cons_zero, List.set_cons_succ, List.getElem_toArray, List.getElem_cons_zero, List.getElem_cons_succ]
      refine wpAnyH_take (i := 11) (v := ?_) rfl (by kernel_rfl) (by kernel_rfl) (by kernel_rfl) (fun _ _ _ h => h) (Or.inl ⟨by rfl, ?_⟩) (by assumption) ?_
      rotate_left 1
      · intro w hSw; (try dsimp only at hSw); go_simp <;> with_reducible rfl
      try simp only [Act.put, List.setIfInBounds_toArray, List.set_cons_zero, List.set_cons_succ, List.getElem_toArray, List.getElem_cons_zero, List.getElem_cons_succ]
      refine wpAnyH_take (i := 12) (v := ?_) rfl (by kernel_rfl) (by kernel_rfl) (by kernel_rfl) (fun _ _ _ h => h) (Or.inl ⟨by rfl, ?_⟩) (by assumption) ?_
      rotate_left 1
      · intro w hSw; (try dsimp only at hSw); go_simp <;> with_reducible rfl
      try simp only [Act.put, List.setIfInBounds_toArray, List.set_cons_zero, List.set_cons_succ, List.getElem_toArray, List.getElem_cons_zero, List.getElem_cons_succ]
      refine wpAnyH_take (i := 13) (v := ?_) rfl (by kernel_rfl) (by kernel_rfl) (by kernel_rfl) (fun _ _ _ h => h) (Or.inl ⟨by rfl, ?_⟩) (by assumption) ?_
      rotate_left 1
      · intro w hSw; (try dsimp only at hSw); go_simp <;> with_reducible rfl
      try simp only [Act.put, List.setIfInBounds_toArray, List.set_cons_zero, List.set_cons_succ, List.getElem_toArray, List.getElem_cons_zero, List.getElem_cons_succ]
      refine wpAnyH_take (i := 14) (v := ?_) rfl (by kernel_rfl) (by kernel_rfl) (by kernel_rfl) (fun _ _ _ h => h) (Or.inl ⟨by rfl, ?_⟩) (by assumption) ?_
      rotate_left 1
      · intro w hSw; (try dsimp only at hSw); go_simp <;> with_reducible rfl
      try simp only [Act.put, List.setIfInBounds_toArray, List.set_cons_zero, List.set_cons_succ, List.getElem_toArray, List.getElem_cons_zero, List.getElem_cons_succ]
      refine wpAnyH_take (i := 15) (v := ?_) rfl (by kernel_rfl) (by kernel_rfl) (by kernel_rfl) (fun _ _ _ h => h) (Or.inl ⟨by rfl, ?_⟩) (by assumption) ?_
      rotate_left 1
      · intro w hSw; (try dsimp only at hSw); go_simp <;> with_reducible rfl
      try simp only [Act.put, List.setIfInBounds_toArray, List.set_cons_zero, List.set_cons_succ, List.getElem_toArray, List.getElem_cons_zero, List.getElem_cons_succ]
      refine wpAnyH_take (i := 16) (v := _) rfl (by kernel_rfl) (by kernel_rfl) (by kernel_rfl) (fun _ _ _ h => h) (yieldsIf_load_mid (by rfl) _ _ rfl _ _ rfl cs3.toList _ (fun w hw => (LD.out w hw).1) Tryd.underlying26 rfl (li3.out)) (by assumption) ?_
      try simp only [Act.put, List.setIfInBounds_toArray, List.set_cons_zero, List.set_cons_succ, List.getElem_toArray, List.getElem_cons_zero, List.getElem_cons_succ]
      refine wpAnyH_take (i := 17) (v := _) rfl (by kernel_rfl) (by kernel_rfl) (by kernel_rfl) (fun _ _ _ h => h) (yieldsIf_load_mid (by rfl) _ _ rfl _ _ rfl cs.toList _ (fun w hw => (LD.out w hw).2.1) Tryd.underlying26 rfl (li.out)) (by assumption) ?_
      try simp only [Act.put, List.setIfInBounds_toArray, List.set_cons_zero, List.set_cons_succ, List.getElem_toArray, List.getElem_cons_zero, List.getElem_cons_succ]
      refine wpAnyH_ready (rs := [18]) (by kernel_rfl) (by simp) (AllReadyH.cons rfl (fun K hK => ?_) AllReadyH.nil)
      have hPrev := hHeld
      clear hHeld
      go_simp
      go_at_call 21
      have cq := same_any cs3 cs t t _ (T8.out.keep hPrev) (D8.out.tb.keep hPrev)
      rw [sameB_true rfl] at cq
      refine cq.mono ?_
      rintro e w9 ⟨rfl, hb9⟩
      have hB9 : Below w8.heap.size w8 w9 := hPrev.trans (hb9.mono hPrev.size)
      clear hb9 cq
      go_wp2_with fail
      refine hK.out _ _ (hB9) (fun hHeld => ?_)
      clear hK K hPrev
      try simp only [Act.put, List.setIfInBounds_toArray, List.set_cons_zero, List.set_cons_succ, List.getElem_toArray, List.getElem_cons_zero, List.getElem_cons_succ]
      refine wpAnyH_take (i := 19) (v := ?_) rfl (by kernel_rfl) (by kernel_rfl) (by kernel_rfl) (fun _ _ _ h => h) (Or.inl ⟨by rfl, ?_⟩) (by assumption) ?_
      rotate_left 1
      · intro w hSw; (try dsimp only at hSw); go_simp <;> with_reducible rfl
      try simp only [Act.put, List.setIfInBounds_toArray, List.set_cons_zero, List.set_cons_succ, List.getElem_toArray, List.getElem_cons_zero, List.getElem_cons_succ]
      refine wpAnyH_take (i := 20) (v := ?_) rfl (by kernel_rfl) (by kernel_rfl) (by kernel_rfl) (fun _ _ _ h => h) (Or.inl ⟨by rfl, ?_⟩) (by assumption) ?_
      rotate_left 1
      · intro w hSw; (try dsimp only at hSw); go_simp <;> with_reducible rfl
      try simp only [Act.put, List.setIfInBounds_toArray, List.set_cons_zero, List.set_cons_succ, List.getElem_toArray, List.getElem_cons_zero, List.getElem_cons_succ]
      refine wpAnyH_take (i := 21) (v := ?_) rfl (by kernel_rfl) (by kernel_rfl) (by kernel_rfl) (fun _ _ _ h => h) (Or.inl ⟨by rfl, ?_⟩) (by assumption) ?_
      rotate_left 1
      · intro w hSw; (try dsimp only at hSw); go_simp <;> with_reducible rfl
      try simp only [Act.put, List.setIfInBounds_toArray, List.set_cons_zero, List.set_cons_succ, List.getElem_toArray, List.getElem_cons_zero, List.getElem_cons_succ]
      refine wpAnyH_take (i := 22) (v := ?_) rfl (by kernel_rfl) (by kernel_rfl) (by kernel_rfl) (fun _ _ _ h => h) (Or.inl ⟨by rfl, ?_⟩) (by assumption) ?_
      rotate_left 1
      · intro w hSw; (try dsimp only at hSw); go_simp <;> with_reducible rfl
      try simp only [Act.put, List.setIfInBounds_toArray, List.set_cons_zero, List.set_cons_succ, List.getElem_toArray, List.getElem_cons_zero, List.getElem_cons_succ]
      refine wpAnyH_take (i := 23) (v := ?_) rfl (by kernel_rfl) (by kernel_rfl) (by kernel_rfl) (fun _ _ _ h => h) (Or.inl ⟨by rfl, ?_⟩) (by assumption) ?_
      rotate_left 1
      · intro w hSw; (try dsimp only at hSw); go_simp <;> with_reducible rfl
      try simp only [Act.put, List.setIfInBounds_toArray, List.set_cons_zero, List.set_cons_succ, List.getElem_toArray, List.getElem_cons_zero, List.getElem_cons_succ]
      refine wpAnyH_take (i := 24) (v := ?_) rfl (by kernel_rfl) (by kernel_rfl) (by kernel_rfl) (fun _ _ _ h => h) (Or.inl ⟨by rfl, ?_⟩) (by assumption) ?_
      rotate_left 1
      · intro w hSw; (try dsimp only at hSw); go_simp <;> with_reducible rfl
      try simp only [Act.put, List.setIfInBounds_toArray, List.set_cons_zero, List.set_cons_succ, List.getElem_toArray, List.getElem_cons_zero, List.getElem_cons_succ]
      refine wpAnyH_take (i := 25) (v := ?_) rfl (by kernel_rfl) (by kernel_rfl) (by kernel_rfl) (fun _ _ _ h => h) (Or.inl ⟨by rfl, ?_⟩) (by assumption) ?_
      rotate_left 1
      · intro w hSw; have hS2 := (LD.out w hSw).2.2.1; (try dsimp only at hSw); go_simp <;> with_reducible rfl
      try simp only [Act.put, List.setIfInBounds_toArray, List.set_cons_zero, List.set_cons_succ, List.getElem_toArray, List.getElem_cons_zero, List.getElem_cons_succ]
      refine wpAnyH_take (i := 26) (v := ?_) rfl (by kernel_rfl) (by kernel_rfl) (by kernel_rfl) (fun _ _ _ h => h) (Or.inl ⟨by rfl, ?_⟩) (by assumption) ?_
      rotate_left 1
      · intro w hSw; (try dsimp only at hSw); go_simp <;> with_reducible rfl
      try simp only [Act.put, List.setIfInBounds_toArray, List.set_cons_zero, List.set_cons_succ, List.getElem_toArray, List.getElem_cons_zero, List.getElem_cons_succ]
      refine wpAnyH_take (i := 27) (v := ?_) rfl (by kernel_rfl) (by kernel_rfl) (by kernel_rfl) (fun _ _ _ h => h) (Or.inl ⟨by rfl, ?_⟩) (by assumption) ?_
      rotate_left 1
      · intro w hSw; (try dsimp only at hSw); go_simp <;> with_reducible rfl
      try simp only [Act.put, List.setIfInBounds_toArray, List.set_cons_zero, List.set_cons_succ, List.getElem_toArray, List.getElem_cons_zero, List.getElem_cons_succ]
      refine wpAnyH_take (i := 28) (v := ?_) rfl (by kernel_rfl) (by kernel_rfl) (by kernel_rfl) (fun _ _ _ h => h) (Or.inl ⟨by rfl, ?_⟩) (by assumption) ?_
      rotate_left 1
      · intro w hSw; have hS2 := (LD.out w hSw).2.2.1; (try dsimp only at hSw); go_simp <;> with_reducible rfl
      try simp only [Act.put, List.setIfInBounds_toArray, List.set_cons_zero, List.set_cons_succ, List.getElem_toArray, List.getElem_cons_zero, List.getElem_cons_succ]
      refine wpAnyH_take (i := 29) (v := ?_) rfl (by kernel_rfl) (by kernel_rfl) (by kernel_rfl) (fun _ _ _ h => h) (Or.inl ⟨by rfl, ?_⟩) (by assumption) ?_
      rotate_left 1
      · intro w hSw; (try dsimp only at hSw); go_simp <;> with_reducible rfl
      try simp only [Act.put, List.setIfInBounds_toArray, List.set_cons_zero, List.set_cons_succ, List.getElem_toArray, List.getElem_cons_zero, List.getElem_cons_succ]
      refine wpAnyH_take (i := 30) (v := ?_) rfl (by kernel_rfl) (by kernel_rfl) (by kernel_rfl) (fun _ _ _ h => h) (Or.inl ⟨by rfl, ?_⟩) (by assumption) ?_
      rotate_left 1
      · intro w hSw; have hS2 := (LD.out w hSw).2.2.2; (try dsimp only at hSw); go_simp <;> with_reducible rfl
      try simp only [Act.put, List.setIfInBounds_toArray, List.set_cons_zero, List.set_cons_succ, List.getElem_toArray, List.getElem_cons_zero, List.getElem_cons_succ]
      refine wpAnyH_take (i := 31) (v := ?_) rfl (by kernel_rfl) (by kernel_rfl) (by kernel_rfl) (fun _ _ _ h => h) (Or.inl ⟨by rfl, ?_⟩) (by assumption) ?_
      rotate_left 1
      · intro w hSw; (try dsimp only at hSw); go_simp <;> with_reducible rfl
      try simp only [Act.put, List.setIfInBounds_toArray, List.set_cons_zero, List.set_cons_succ, List.getElem_toArray, List.getElem_cons_zero, List.getElem_cons_succ]
      refine wpAnyH_take (i := 32) (v := ?_) rfl (by kernel_rfl) (by kernel_rfl) (by kernel_rfl) (fun _ _ _ h => h) (Or.inl ⟨by rfl, ?_⟩) (by assumption) ?_
      rotate_left 1
      · intro w hSw; (try dsimp only at hSw); go_simp <;> with_reducible rfl
      try simp only [Act.put, List.setIfInBounds_toArray, List.set_cons_zero, List.set_cons_succ, List.getElem_toArray, List.getElem_cons_zero, List.getElem_cons_succ]
      refine wpAnyH_take (i := 33) (v := ?_) rfl (by kernel_rfl) (by kernel_rfl) (by kernel_rfl) (fun _ _ _ h => h) (Or.inl ⟨by rfl, ?_⟩) (by assumption) ?_
      rotate_left 1
      · intro w hSw; (try dsimp only at hSw); go_simp <;> with_reducible rfl
      try simp only [Act.put, List.setIfInBounds_toArray, List.set_cons_zero, List.set_cons_succ, List.getElem_toArray, List.getElem_cons_zero, List.getElem_cons_succ]
      refine wpAnyH_take (i := 34) (v := ?_) rfl (by kernel_rfl) (by kernel_rfl) (by kernel_rfl) (fun _ _ _ h => h) (Or.inl ⟨by rfl, ?_⟩) (by assumption) ?_
      rotate_left 1
      · intro w hSw; (try dsimp only at hSw); go_simp <;> with_reducible rfl
      try simp only [Act.put, List.setIfInBounds_toArray, List.set_cons_zero, List.set_cons_succ, List.getElem_toArray, List.getElem_cons_zero, List.getElem_cons_succ]
      refine wpAnyH_take (i := 35) (v := ?_) rfl (by kernel_rfl) (by kernel_rfl) (by kernel_rfl) (fun _ _ _ h => h) (Or.inl ⟨by rfl, ?_⟩) (by assumption) ?_
      rotate_left 1
      · intro w hSw; (try dsimp only at hSw); go_simp <;> with_reducible rfl
      try simp only [Act.put, List.setIfInBounds_toArray, List.set_cons_zero, List.set_cons_succ, List.getElem_toArray, List.getElem_cons_zero, List.getElem_cons_succ]
      refine wpAnyH_take (i := 36) (v := ?_) rfl (by kernel_rfl) (by kernel_rfl) (by kernel_rfl) (fun _ _ _ h => h) (Or.inl ⟨by rfl, ?_⟩) (by assumption) ?_
      rotate_left 1
      · intro w hSw; (try dsimp only at hSw); go_simp <;> with_reducible rfl
      try simp only [Act.put, List.setIfInBounds_toArray, List.set_cons_zero, List.set_cons_succ, List.getElem_toArray, List.getElem_cons_zero, List.getElem_cons_succ]
      refine wpAnyH_take (i := 37) (v := ?_) rfl (by kernel_rfl) (by kernel_rfl) (by kernel_rfl) (fun _ _ _ h => h) (Or.inl ⟨by rfl, ?_⟩) (by assumption) ?_
      rotate_left 1
      · intro w hSw; (try dsimp only at hSw); go_simp <;> with_reducible rfl
      try simp only [Act.put, List.setIfInBounds_toArray, List.set_cons_zero, List.set_cons_succ, List.getElem_toArray, List.getElem_cons_zero, List.getElem_cons_succ]
      refine wpAnyH_done (by kernel_rfl) ?_ _
      have B9 : Hid (Below w.heap.size w w9) := Lib.hid (B8.out.trans (hHeld.mono B8.out.size))
      have D9 := Lib.hid (D8.out.keep hHeld); have E9 := Lib.hid (E8.out.keep hHeld); have R9 := Lib.hid (R8.out.keep hHeld)
      clear hHeld hB9 LD D8 E8 R8 X8 B8 T8 e0 e1 e2 e3 e4 e5 hn0
      have RG9 := Lib.hid (rangeAt_blk E9.out.blk)
      by_cases hf' : Fits t'
      · have HF' := Lib.hid hf'
        have CE := Lib.hid (tencode_ok cs' t' w9 (HCT.out.keep B9.out) E9.out.tb hf')
        clear hf'
        go_wp2_with (with_reducible refine wpList_load_mid rfl _ _ rfl b' 0 rfl cs'.toList _ RG9.out Tryd.underlying26 rfl li'.out ?_)
        refine CE.out.mono ?_
        rintro e w10 ⟨v10, rfl, ho, hb10⟩
        obtain ⟨D', dc', rfl, _, _, hr10⟩ := ho.form
        obtain ⟨L', hL'⟩ : ∃ L, L = (encT t').length := ⟨_, rfl⟩
        rw [← hL'] at hr10 ⊢
        have D10 := Lib.hid (D9.out.keep hb10); have E10 := Lib.hid (E9.out.keep hb10); have R10 := Lib.hid (R9.out.keep hb10); have Q10 := Lib.hid hr10
        have B10 : Hid (Below w.heap.size w w10) := Lib.hid (B9.out.trans (hb10.mono B9.out.size))
        clear ho hr10 hb10 hL' CE RG9 D9 E9 R9 B9
        have CV : Hid (∀ w', Below w10.heap.size w10 w' → (convert 28 9 (.slice D L dc)).run Tryd.prog w' = .ok (.string (strOf (encT t))) w') := Lib.hid (fun w' hb => conv_bytes w' D L dc _ (R10.out.keep hb))
        have CV2 : Hid (∀ w', Below w10.heap.size w10 w' → (convert 28 9 (.slice D' L' dc')).run Tryd.prog w' = .ok (.string (strOf (encT t'))) w') := Lib.hid (fun w' hb => conv_bytes w' D' L' dc' _ (Q10.out.keep hb))
        have LD : Hid (∀ w', Below w10.heap.size w10 w' → w'.rangeAt b 0 cs.toList ∧ w'.rangeAt b' 0 cs'.toList) := Lib.hid (fun w' hb => ⟨rangeAt_blk (D10.out.keep hb).blk, rangeAt_blk (E10.out.keep hb).blk⟩)
        have s1 := strOf_toList (encT t)
        have s2 := strOf_toList (encT t')
        obtain ⟨bv, hbv⟩ : ∃ bv, bv = sameB t t' := ⟨_, rfl⟩
        have HBV := Lib.hid hbv
        have hq := enc_eqB ⟨HT.out.hc, HT.out.hu⟩ HF.out ⟨HT'.out.hc, HT'.out.hu⟩ HF'.out
        rw [← hbv] at hq
        have hbb : (bv == bv) = true := beq_self_eq_true bv
        clear hbv
        go_upto_region 16 with fail
        refine wp_region_any (by kernel_rfl) ?_
        change wpAny _ _ _ _ _ _ _ (World.drew _)
        refine wpAny_of_held (S := fun w' => Below w10.heap.size w10 w') _ _ _ _ ?_
        have hHeld : Below w10.heap.size w10 w10.drew := Below.drew (Below.refl _ _)
        refine wpAnyH_take (i := 0) (v := ?_) rfl (by kernel_rfl) (by kernel_rfl) (by kernel_rfl) (fun _ _ _ h => h) (Or.inl ⟨by rfl, ?_⟩) (by assumption) ?_
        rotate_left 1
        · intro w hSw; (try dsimp only at hSw); go_simp <;> with_reducible rfl
        try simp only [Act.put, List.setIfInBounds_toArray, List.set_cons_zero, List.set_cons_succ, List.getElem_toArray, List.getElem_cons_zero, List.getElem_cons_succ]
        refine wpAnyH_take (i := 1) (v := ?_) rfl (by kernel_rfl) (by kernel_rfl) (by kernel_rfl) (fun _ _ _ h => h) (Or.inl ⟨by rfl, ?_⟩) (by assumption) ?_
        rotate_left 1
        · intro w hSw; (try dsimp only at hSw); go_simp <;> with_reducible rfl
        try simp only [Act.put, List.setIfInBounds_toArray, List.set_cons_zero, List.set_cons_succ, List.getElem_toArray, List.getElem_cons_zero, List.getElem_cons_succ]
        refine wpAnyH_take (i := 2) (v := ?_) rfl (by kernel_rfl) (by kernel_rfl) (by kernel_rfl) (fun _ _ _ h => h) (Or.inl ⟨by rfl, ?_⟩) (by assumption) ?_
        rotate_left 1
        · intro w hSw; (try dsimp only at hSw); go_simp <;> with_reducible rfl
        try simp only [Act.put, List.setIfInBounds_toArray, List.set_cons_zero, List.set_cons_succ, List.getElem_toArray, List.getElem_cons_zero, List.getElem_cons_succ]
        refine wpAnyH_take (i := 3) (v := ?_) rfl (by kernel_rfl) (by kernel_rfl) (by kernel_rfl) (fun _ _ _ h => h) (Or.inl ⟨by rfl, ?_⟩) (by assumption) ?_
        rotate_left 1
        · intro w hSw; (try dsimp only at hSw); go_simp <;> with_reducible rfl
        try simp only [Act.put, List.setIfInBounds_toArray, List.set_cons_zero, List.set_cons_succ, List.getElem_toArray, List.getElem_cons_zero, List.getElem_cons_succ]
        refine wpAnyH_take (i := 4) (v := ?_) rfl (by kernel_rfl) (by kernel_rfl) (by kernel_rfl) (fun _ _ _ h => h) (Or.inl ⟨by rfl, ?_⟩) (by assumption) ?_
        rotate_left 1
        · intro w hSw; have hS2 := CV.out w hSw; (try dsimp only at hSw); go_simp <;> with_reducible rfl
        try simp only [Act.put, List.setIfInBounds_toArray, List.set_cons_zero, List.set_cons_succ, List.getElem_toArray, List.getElem_cons_zero, List.getElem_cons_succ]
        refine wpAnyH_take (i := 5) (v := ?_) rfl (by kernel_rfl) (by kernel_rfl) (by kernel_rfl) (fun _ _ _ h => h) (Or.inl ⟨by rfl, ?_⟩) (by assumption) ?_
        rotate_left 1
        · intro w hSw; (try dsimp only at hSw); go_simp <;> with_reducible rfl
        try simp only [Act.put, List.setIfInBounds_toArray, List.set_cons_zero, List.set_cons_succ, List.getElem_toArray, List.getElem_cons_zero, List.getElem_cons_succ]
        refine wpAnyH_take (i := 6) (v := ?_) rfl (by kernel_rfl) (by kernel_rfl) (by kernel_rfl) (fun _ _ _ h => h) (Or.inl ⟨by rfl, ?_⟩) (by assumption) ?_
        rotate_left 1
        · intro w hSw; have hS2 := CV2.out w hSw; (try dsimp only at hSw); go_simp <;> with_reducible rfl
        try simp only [Act.put, List.setIfInBounds_toArray, List.set_cons_zero, List.set_cons_succ, List.getElem_toArray, List.getElem_cons_zero, List.getElem_cons_succ]
        refine wpAnyH_take (i := 7) (v := ?_) rfl (by kernel_rfl) (by kernel_rfl) (by kernel_rfl) (fun _ _ _ h => h) (Or.inl ⟨by rfl, ?_⟩) (by assumption) ?_
        rotate_left 1
        · intro w hSw; (try dsimp only at hSw); go_simp <;> with_reducible rfl
        try simp only [Act.put, List.setIfInBounds_toArray, List.set_cons_zero, List.set_cons_succ, List.getElem_toArray, List.getElem_cons_zero, List.getElem_cons_succ]
        refine wpAnyH_take (i := 8) (v := _) rfl (by kernel_rfl) (by kernel_rfl) (by kernel_rfl) (fun _ _ _ h => h) (yieldsIf_load_mid (by rfl) _ _ rfl _ _ rfl cs.toList _ (fun w hw => (LD.out w hw).1) Tryd.underlying26 rfl (li.out)) (by assumption) ?_
        try simp only [Act.put, List.setIfInBounds_toArray, List.set_cons_zero, List.set_cons_succ, List.getElem_toArray, List.getElem_cons_zero, List.getElem_cons_succ]
        refine wpAnyH_take (i := 9) (v := _) rfl (by kernel_rfl) (by kernel_rfl) (by kernel_rfl) (fun _ _ _ h => h) (yieldsIf_load_mid (by rfl) _ _ rfl _ _ rfl cs'.toList _ (fun w hw => (LD.out w hw).2) Tryd.underlying26 rfl (li'.out)) (by assumption) ?_
        try simp only [Act.put, List.setIfInBounds_toArray, List.set_cons_zero, List.set_cons_succ, List.getElem_toArray, List.getElem_cons_zero, List.getElem_cons_succ]
        refine wpAnyH_ready (rs := [10]) (by kernel_rfl) (by simp) (AllReadyH.cons rfl (fun K hK => ?_) AllReadyH.nil)
        have hPrev := hHeld
        clear hHeld
        go_simp
        go_at_call 21
        have cq := same_any cs cs' t t' _ (D10.out.tb.keep hPrev) (E10.out.tb.keep hPrev)
        rw [← HBV.out] at cq
        refine cq.mono ?_
        rintro e w11 ⟨rfl, hb11⟩
        have hB11 : Below w10.heap.size w10 w11 := hPrev.trans (hb11.mono hPrev.size)
        clear hb11 cq
        go_wp2_with fail
        refine hK.out _ _ (hB11) (fun hHeld => ?_)
        clear hK K hPrev
        try simp only [Act.put, List.setIfInBounds_toArray, List.set_cons_zero, List.set_cons_succ, List.getElem_toArray, List.getElem_cons_zero, List.getElem_cons_succ]
        refine wpAnyH_take (i := 11) (v := ?_) rfl (by kernel_rfl) (by kernel_rfl) (by kernel_rfl) (fun _ _ _ h => h) (Or.inl ⟨by rfl, ?_⟩) (by assumption) ?_
        rotate_left 1
        · intro w hSw; (try dsimp only at hSw); go_simp <;> with_reducible rfl
        try simp only [Act.put, List.setIfInBounds_toArray, List.set_cons_zero, List.set_cons_succ, List.getElem_toArray, List.getElem_cons_zero, List.getElem_cons_succ]
        refine wpAnyH_take (i := 12) (v := ?_) rfl (by kernel_rfl) (by kernel_rfl) (by kernel_rfl) (fun _ _ _ h => h) (Or.inl ⟨by rfl, ?_⟩) (by assumption) ?_
        rotate_left 1
        · intro w hSw; (try dsimp only at hSw); go_simp <;> with_reducible rfl
        try simp only [Act.put, List.setIfInBounds_toArray, List.set_cons_zero, List.set_cons_succ, List.getElem_toArray, List.getElem_cons_zero, List.getElem_cons_succ]
        refine wpAnyH_take (i := 13) (v := ?_) rfl (by kernel_rfl) (by kernel_rfl) (by kernel_rfl) (fun _ _ _ h => h) (Or.inl ⟨by rfl, ?_⟩) (by assumption) ?_
        rotate_left 1
        · intro w hSw; (try dsimp only at hSw); go_simp <;> with_reducible rfl
        try simp only [Act.put, List.setIfInBounds_toArray, List.set_cons_zero, List.set_cons_succ, List.getElem_toArray, List.getElem_cons_zero, List.getElem_cons_succ]
        refine wpAnyH_done (by kernel_rfl) ?_ _
        have B11 : Hid (Below w.heap.size w w11) := Lib.hid (B10.out.trans (hHeld.mono B10.out.size))
        clear hHeld hB11
        go_wp2_with fail
        go_ret
        exact ⟨rfl, B11.out⟩
      · have CE := Lib.hid (tencode_bad cs' t' w9 E9.out.tb (rightB_false hf'))
        clear hf'
        go_wp2_with (with_reducible refine wpList_load_mid rfl _ _ rfl b' 0 rfl cs'.toList _ RG9.out Tryd.underlying26 rfl li'.out ?_)
        refine CE.out.mono ?_
        rintro e w10 ⟨rfl, hb10⟩
        have B10 : Hid (Below w.heap.size w w10) := Lib.hid (B9.out.trans (hb10.mono B9.out.size))
        clear hb10
        go_upto_region 16 with fail
        go_quiet (fail)
        have B11 : Hid (Below w.heap.size w (w10.drewN nq)) := Lib.hid (below_drewN B10.out _)
        go_wp2_with fail
        go_ret
        exact ⟨rfl, B11.out⟩
    · have CE := Lib.hid (tencode_bad cs t w3 D3.out.tb (rightB_false hf))
      have RG := Lib.hid (rangeAt_blk D3.out.blk)
      go_wp2_with (with_reducible refine wpList_load_mid rfl _ _ rfl b 0 rfl cs.toList _ RG.out Tryd.underlying26 rfl li.out ?_)
      refine CE.out.mono ?_
      rintro e w4 ⟨rfl, hb4⟩
      have B4 : Hid (Below w.heap.size w w4) := Lib.hid (B3.out.trans (hb4.mono B3.out.size))
      have D4 := Lib.hid (D3.out.keep hb4)
      have CR : Hid (Calls Tryd.prog 19 #[.agg cs] w4 (RightP false w4)) := Lib.hid (by have := right_any cs t w4 D4.out.tb; rw [rightB_false hf] at this; exact this)
      have RG4 := Lib.hid (rangeAt_blk D4.out.blk)
      clear hb4 CE RG hf
      go_wp2_with (first | (go_at_call 19; refine CR.out.mono ?_; rintro e w5 ⟨rfl, hb5⟩; have B5 : Hid (Below w.heap.size w w5) := Lib.hid (B4.out.trans (hb5.mono B4.out.size)); clear hb5) | (with_reducible refine wpList_load_mid rfl _ _ rfl b 0 rfl cs.toList _ RG4.out Tryd.underlying26 rfl li.out ?_))
      go_ret
      exact ⟨rfl, B5.out⟩
end Go.Proofs.YtnglgppdkohhpaaDoor
