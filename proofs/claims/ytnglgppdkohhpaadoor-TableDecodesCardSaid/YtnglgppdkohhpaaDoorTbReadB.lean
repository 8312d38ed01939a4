/- THE WALK of table.read where the length does not fit. -/
import Derived.Test.YtnglgppdkohhpaaDoorTbRead
namespace Go.Proofs.YtnglgppdkohhpaaDoor
open Go.RowKit
def ZeroQ (w : World) (e : Ending) (w' : World) : Prop := e = .returned (.agg (dcells zcls nilV nilV nilV)) ∧ Below w.heap.size w w'
set_option maxRecDepth 100000 in
set_option maxHeartbeats 4000000 in
theorem tread_bad (A : Option Addr) (n cap : Nat) (l : List UInt8) (w : World) (hr : RB w A n l) (hn : n ≤ 141836999983104) (h : 274 ≤ l.length) (hbad : ¬ okLen l) :
    Calls Tryd.prog 30 #[.slice A n cap] w (ZeroQ w) := by
  have hz := zero_run
  have HR := Lib.hid hr; have HOK := Lib.hid hbad
  have HLN : Hid (l.length = n ∧ 274 ≤ l.length ∧ n ≤ 141836999983104) := Lib.hid ⟨hr.1, h, hn⟩
  clear hr hbad h
  go_enter Tryd.func30, Tryd.ntmps30
  go_wp2_with fail
  go_step3
  go_upto_region 2 with fail
  obtain ⟨w2, hw2⟩ : ∃ w2, w2 = (w.alloc (.cells (dcells zcls nilV nilV nilV) 26)).alloc (.cells (dcells zcls nilV nilV nilV) 26) := ⟨_, rfl⟩
  obtain ⟨b2, hb2⟩ : ∃ b2, b2 = w.heap.size := ⟨_, rfl⟩
  obtain ⟨bD, hbD⟩ : ∃ bD, bD = w.heap.size + 1 := ⟨_, rfl⟩
  rw [← hw2, ← hbD, ← hb2]
  have HB2 : Hid (Below w.heap.size w w2) := Lib.hid (by rw [hw2]; exact (below_alloc _ _).trans ((below_alloc _ _).mono (by simp)))
  have ZB : Hid (Blk w2 b2 26 (dcells zcls nilV nilV nilV) ∧ Blk w2 bD 26 (dcells zcls nilV nilV nilV) ∧ b2 ≠ bD ∧ w.heap.size ≤ b2 ∧ w.heap.size ≤ bD) := Lib.hid ⟨by rw [hw2, hb2]; exact (Blk.new _ _ _ rfl).alloc _, by rw [hw2, hbD]; exact Blk.new _ _ _ (by simp), by omega, by omega, by omega⟩
  clear hw2 hb2 hbD hz
  go_wp2_with fail
  refine (read_any_big A n cap l w2 (HR.out.keep HB2.out) hn).mono ?_
  rintro e w3 ⟨bR, D, dc, rfl, hbR, hrd, hob, hb3⟩
  obtain ⟨N0, hN0⟩ : ∃ N0, N0 = w3.heap.size := ⟨_, rfl⟩
  have SX : Hid (RdS w w3 N0 bR bD b2 l 0 (dcells zcls nilV nilV nilV)) := Lib.hid (by
    have hz := ZB.out
    have h1 := hz.1.lt; have h2 := hz.2.1.lt; have h3 := hrd.blk.lt; have h4 := hb3.size; have h5 := HB2.out.size
    refine ⟨⟨⟨D, dc, by simpa using hrd, fun ad e => ?_⟩, Nat.zero_le _, by omega, HB2.out.trans (hb3.mono HB2.out.size)⟩, hz.2.1.keep hb3, hz.1.keep hb3, by omega⟩
    have := hob.lt ad.block (by rw [e]; rfl)
    omega)
  clear hbR hrd hob hb3 ZB HB2 hN0 HR
  have h0 := HLN.out.2.1
  go_wp2_with fail
  refine (SX.out.take 8 (by omega)).mono ?_
  rintro e w4 ⟨⟨vt, rfl⟩, s4⟩
  have S4 := Lib.hid s4; clear s4 SX
  go_wp2_with fail
  refine (S4.out.num 4 (by decide) (by decide) (by omega)).mono ?_
  rintro e w5 ⟨rfl, s5, _⟩
  have S5 : Hid (RdS w w5 N0 bR bD b2 l 12 (dcells zcls nilV nilV nilV)) := Lib.hid s5
  obtain ⟨q, hq⟩ : ∃ q, q = nSt l := ⟨_, rfl⟩
  rw [show numAt l (0 + 8) 4 = q from hq.symm]
  have hq4 : q < 4294967296 := by rw [hq]; exact leV_lt4 l 8 4
  have HQ := Lib.hid hq
  clear s5 S4 hq
  go_wp2_with fail
  refine (S5.out.num 2 (by decide) (by decide) (by omega)).mono ?_
  rintro e w6 ⟨rfl, s6, _⟩
  have S6 : Hid (RdS w w6 N0 bR bD b2 l 14 (dcells zcls nilV nilV nilV)) := Lib.hid s6
  obtain ⟨m, hm⟩ : ∃ m, m = nCl l := ⟨_, rfl⟩
  rw [show numAt l 12 2 = m from hm.symm]
  have hm4 : m < 65536 := by rw [hm]; exact leV_lt4 l 12 2
  have HM := Lib.hid hm
  clear s6 S5 hm

  have LI : Hid ((Tryd.prog.info? 26).map (·.size) = some (dcells zcls nilV nilV nilV).toList.length) := Lib.hid (by rw [size259, Array.length_toList, dcells_size (by decide)])
  have LI2 : Hid ((Tryd.prog.info? 26).map (·.size) = some (dcells zcls nilV nilV nilV).size) := Lib.hid (by rw [size259, dcells_size (by decide)])
  have RG := Lib.hid (rangeAt_blk S6.out.bd)
  have TH : Hid (w6.there b2 0 (dcells zcls nilV nilV nilV).size) := Lib.hid (there_blk S6.out.bz _ (Nat.le_refl _))
  have ONE : Hid ((dcells zcls nilV nilV nilV).all (·.oneCell') = true) := Lib.hid (dcells_one rfl rfl rfl)
  obtain ⟨dc2, hdc⟩ : ∃ dc2, dc2 = dcells zcls nilV nilV nilV := ⟨_, rfl⟩
  have HDC := Lib.hid hdc
  rw [← hdc] at LI LI2 RG TH ONE
  clear hdc
  by_cases h1 : 4096 < q
  · go_wp2_with (first | (with_reducible refine wpList_load_mid rfl _ _ rfl bD 0 rfl dc2.toList _ RG.out Tryd.underlying26 rfl LI.out ?_) | (with_reducible refine wpList_store_mid rfl _ _ _ rfl b2 0 dc2 rfl (by simp [Act.eval, Act.put]) TH.out LI2.out ONE.out ?_))
    try rw [Exit.noGoto_ret]
    have hb3 : Blk (w6.setCells b2 0 dc2.toList) b2 26 dc2 := Blk.setAll S6.out.bz dc2 (by rw [HDC.out])
    have hc3 : Chg (fun b => b = b2) w6 (w6.setCells b2 0 dc2.toList) := Chg.setCells (S := fun b => b = b2) _ _ (Chg.refl _ w6) rfl
    refine bodyPost_ret (v := .agg dc2) (results_cell_row rfl _ _ b2 _ dc2 (0, 0) _ rfl hb3 Tryd.underlying26 rfl LI2.out) rfl ?_
    have hl := S6.out.lo
    exact ⟨by rw [HDC.out], S6.out.rp.bl.trans (hc3.below (fun b hb e => by omega) S6.out.rp.bl.size)⟩
  by_cases h2 : 256 < m
  · go_wp2_with (first | (with_reducible refine wpList_load_mid rfl _ _ rfl bD 0 rfl dc2.toList _ RG.out Tryd.underlying26 rfl LI.out ?_) | (with_reducible refine wpList_store_mid rfl _ _ _ rfl b2 0 dc2 rfl (by simp [Act.eval, Act.put]) TH.out LI2.out ONE.out ?_))
    try rw [Exit.noGoto_ret]
    have hb3 : Blk (w6.setCells b2 0 dc2.toList) b2 26 dc2 := Blk.setAll S6.out.bz dc2 (by rw [HDC.out])
    have hc3 : Chg (fun b => b = b2) w6 (w6.setCells b2 0 dc2.toList) := Chg.setCells (S := fun b => b = b2) _ _ (Chg.refl _ w6) rfl
    refine bodyPost_ret (v := .agg dc2) (results_cell_row rfl _ _ b2 _ dc2 (0, 0) _ rfl hb3 Tryd.underlying26 rfl LI2.out) rfl ?_
    have hl := S6.out.lo
    exact ⟨by rw [HDC.out], S6.out.rp.bl.trans (hc3.below (fun b hb e => by omega) S6.out.rp.bl.size)⟩
  · obtain ⟨ps, hps⟩ : ∃ ps, ps = 2 * m + 8 := ⟨_, rfl⟩
    have hne : l.length ≠ 274 + q * ps := fun e => HOK.out ⟨by rw [← HQ.out]; omega, by rw [← HM.out]; omega, by rw [← HQ.out, ← HM.out, ← hps]; exact e⟩
    have hqp : q * ps ≤ 2129920 := by rw [hps]; exact rows_le (by omega) (by omega)
    obtain ⟨qp, hqpe⟩ : ∃ qp, qp = q * ps := ⟨_, rfl⟩
    obtain ⟨N, hN⟩ : ∃ N, N = 274 + qp := ⟨_, rfl⟩
    rw [← hqpe] at hqp
    have e1 : wrap64 ((q : Int) * (ps : Int)) = (qp : Int) := by
      rw [← Int.natCast_mul, ← hqpe]; unfold wrap64; omega
    have e2 : wrap64 (274 + (qp : Int)) = (N : Int) := by
      clear e1; rw [hN]; unfold wrap64; omega
    have e3 : ((n : Int) != (N : Int)) = true := by
      have hx := HLN.out.1
      rw [← hqpe, ← hN, hx] at hne
      clear e1 e2
      rw [bne_iff_ne]; omega
    have HPS := Lib.hid hps
    clear hps hne hqpe hN hqp
    go_wp2_with (first | (go_at_call 25; refine (per_any m ps _ (by omega) HPS.out).mono ?_; rintro e w7 ⟨rfl, rfl⟩) | (with_reducible refine wpList_load_mid rfl _ _ rfl bD 0 rfl dc2.toList _ RG.out Tryd.underlying26 rfl LI.out ?_) | (with_reducible refine wpList_store_mid rfl _ _ _ rfl b2 0 dc2 rfl (by simp [Act.eval, Act.put]) TH.out LI2.out ONE.out ?_))
    try rw [Exit.noGoto_ret]
    have hb3 : Blk (w6.setCells b2 0 dc2.toList) b2 26 dc2 := Blk.setAll S6.out.bz dc2 (by rw [HDC.out])
    have hc3 : Chg (fun b => b = b2) w6 (w6.setCells b2 0 dc2.toList) := Chg.setCells (S := fun b => b = b2) _ _ (Chg.refl _ w6) rfl
    refine bodyPost_ret (v := .agg dc2) (results_cell_row rfl _ _ b2 _ dc2 (0, 0) _ rfl hb3 Tryd.underlying26 rfl LI2.out) rfl ?_
    have hl := S6.out.lo
    exact ⟨by rw [HDC.out], S6.out.rp.bl.trans (hc3.below (fun b hb e => by omega) S6.out.rp.bl.size)⟩
end Go.Proofs.YtnglgppdkohhpaaDoor
