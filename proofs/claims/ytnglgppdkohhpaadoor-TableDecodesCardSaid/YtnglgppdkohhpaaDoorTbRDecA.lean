/- THE WALK of the reference's Decode: bytes whose length does not fit. -/
import Derived.Test.YtnglgppdkohhpaaDoorTbRL
import Derived.Test.YtnglgppdkohhpaaDoorTbDec
namespace Go.Proofs.YtnglgppdkohhpaaDoor
open Go.RowKit
set_option maxRecDepth 100000 in
set_option maxHeartbeats 4000000 in
theorem rdecode_short (A : Option Addr) (n cap : Nat) (w : World) (hn : n < 274) :
    Calls Tryd.prog 13 #[.slice A n cap] w (NoneT w) := by
  have hz := zero_run
  go_enter Tryd.func13, Tryd.ntmps13
  go_upto_region 1 with fail
  obtain ⟨w1, hw1⟩ : ∃ w1, w1 = w.alloc (.cells (dcells zcls nilV nilV nilV) 26) := ⟨_, rfl⟩
  obtain ⟨b2, hb2⟩ : ∃ b2, b2 = w.heap.size := ⟨_, rfl⟩
  rw [← hw1, ← hb2]
  have HB1 : Hid (Below w.heap.size w w1) := Lib.hid (by rw [hw1]; exact below_alloc _ _)
  have Z1 : Hid (Blk w1 b2 26 (dcells zcls nilV nilV nilV) ∧ w.heap.size ≤ b2) := Lib.hid ⟨by rw [hw1, hb2]; exact Blk.new _ _ _ rfl, by omega⟩
  clear hw1 hb2
  have zi : Hid ((Tryd.prog.info? 26).map (·.size) = some (dcells zcls nilV nilV nilV).size) := Lib.hid (by rw [size259, zsize])
  obtain ⟨zc, hzc⟩ : ∃ zc, zc = dcells zcls nilV nilV nilV := ⟨_, rfl⟩
  have HZC := Lib.hid hzc
  rw [← hzc] at zi Z1 hz
  clear hzc
  have ZB : Hid (Blk w1 b2 26 zc) := Lib.hid Z1.out.1
  have BW := HB1
  obtain ⟨WW, hWW⟩ : ∃ WW, WW = w1 := ⟨_, rfl⟩
  rw [← hWW] at ZB BW ⊢
  clear hWW
  go_wp2_with (with_reducible refine wpList_store_mid rfl _ _ _ rfl b2 0 zc rfl (by simp [Act.eval]) (there_blk ZB.out _ (Nat.le_refl _)) zi.out (by rw [HZC.out]; exact zone) ?_)
  have hb3 : Blk (WW.setCells b2 0 zc.toList) b2 26 zc := Blk.setAll ZB.out zc rfl
  have hc3 : Chg (fun b => b = b2) WW (WW.setCells b2 0 zc.toList) := Chg.setCells (S := fun b => b = b2) _ _ (Chg.refl _ WW) rfl
  refine bodyPost_ret (ret_cell rfl rfl rfl hb3 (by rw [HZC.out]; exact zsize)) rfl ?_
  exact ⟨by rw [HZC.out], BW.out.trans (hc3.below (fun b hb e => by have := Z1.out.2; omega) BW.out.size)⟩
set_option maxRecDepth 100000 in
set_option maxHeartbeats 4000000 in
theorem rdecode_len (A : Option Addr) (n cap : Nat) (l : List UInt8) (w : World) (hr : RB w A n l) (hb : n ≤ 141836999983104) (hn : 274 ≤ n) (hok : ¬ okLen l) :
    Calls Tryd.prog 13 #[.slice A n cap] w (NoneT w) := by
  have hz := zero_run
  have hln := hr.1
  have HR := Lib.hid hr; have HOK := Lib.hid hok
  clear hr hok
  go_enter Tryd.func13, Tryd.ntmps13
  go_upto_region 1 with fail
  obtain ⟨w1, hw1⟩ : ∃ w1, w1 = w.alloc (.cells (dcells zcls nilV nilV nilV) 26) := ⟨_, rfl⟩
  obtain ⟨b2, hb2⟩ : ∃ b2, b2 = w.heap.size := ⟨_, rfl⟩
  rw [← hw1, ← hb2]
  have HB1 : Hid (Below w.heap.size w w1) := Lib.hid (by rw [hw1]; exact below_alloc _ _)
  have Z1 : Hid (Blk w1 b2 26 (dcells zcls nilV nilV nilV) ∧ w.heap.size ≤ b2) := Lib.hid ⟨by rw [hw1, hb2]; exact Blk.new _ _ _ rfl, by omega⟩
  clear hw1 hb2
  have zi : Hid ((Tryd.prog.info? 26).map (·.size) = some (dcells zcls nilV nilV nilV).size) := Lib.hid (by rw [size259, zsize])
  obtain ⟨zc, hzc⟩ : ∃ zc, zc = dcells zcls nilV nilV nilV := ⟨_, rfl⟩
  have HZC := Lib.hid hzc
  rw [← hzc] at zi Z1 hz
  clear hzc
  have ZB : Hid (Blk w1 b2 26 zc) := Lib.hid Z1.out.1
  have BW := HB1
  obtain ⟨WW, hWW⟩ : ∃ WW, WW = w1 := ⟨_, rfl⟩
  rw [← hWW] at ZB BW ⊢
  clear hWW
  have N1 : Hid (Calls Tryd.prog 29 #[.slice A n cap, .int .i64 8, .int .i64 4] WW (fun e w' => e = .returned (.int .i64 (numAt l 8 4 : Int)) ∧ w' = WW)) := Lib.hid (rnumber_any A n cap l 8 4 WW (HR.out.keep BW.out) (by omega) (by omega) (by omega))
  have N2 : Hid (Calls Tryd.prog 29 #[.slice A n cap, .int .i64 12, .int .i64 2] WW (fun e w' => e = .returned (.int .i64 (numAt l 12 2 : Int)) ∧ w' = WW)) := Lib.hid (rnumber_any A n cap l 12 2 WW (HR.out.keep BW.out) (by omega) (by omega) (by omega))
  obtain ⟨s, hs⟩ : ∃ s, s = numAt l 8 4 := ⟨_, rfl⟩
  obtain ⟨m, hm⟩ : ∃ m, m = numAt l 12 2 := ⟨_, rfl⟩
  rw [← hs] at N1
  rw [← hm] at N2
  have hs4 : s < 4294967296 := by rw [hs]; exact leV_lt4 l 8 4
  have hbad : 4096 < s ∨ 256 < m ∨ (s ≤ 4096 ∧ m ≤ 256 ∧ n ≠ 274 + s * (8 + 2 * m)) := by
    have h := HOK.out
    unfold okLen nSt nCl at h
    rw [← hs, ← hm, HR.out.1] at h
    by_cases h1 : s ≤ 4096
    · by_cases h2 : m ≤ 256
      · refine .inr (.inr ⟨h1, h2, fun e => h ?_⟩)
        refine ⟨h1, h2, ?_⟩
        rw [Nat.add_comm (2 * m) 8]; omega
      · omega
    · omega
  clear hs hm
  go_wp2_with fail
  refine N1.out.mono ?_
  rintro e w' ⟨rfl, hww⟩
  rw [hww]
  clear hww w'
  go_wp2_with fail
  refine N2.out.mono ?_
  rintro e w' ⟨rfl, hww⟩
  rw [hww]
  clear hww w'
  rcases hbad with hbad | hbad | ⟨h1, h2, h3⟩
  · go_wp2_with (with_reducible refine wpList_store_mid rfl _ _ _ rfl b2 0 zc rfl (by simp [Act.eval]) (there_blk ZB.out _ (Nat.le_refl _)) zi.out (by rw [HZC.out]; exact zone) ?_)
    have hb3 : Blk (WW.setCells b2 0 zc.toList) b2 26 zc := Blk.setAll ZB.out zc rfl
    have hc3 : Chg (fun b => b = b2) WW (WW.setCells b2 0 zc.toList) := Chg.setCells (S := fun b => b = b2) _ _ (Chg.refl _ WW) rfl
    refine bodyPost_ret (ret_cell rfl rfl rfl hb3 (by rw [HZC.out]; exact zsize)) rfl ?_
    exact ⟨by rw [HZC.out], BW.out.trans (hc3.below (fun b hb e => by have := Z1.out.2; omega) BW.out.size)⟩
  · by_cases hs1 : 4096 < s
    · go_wp2_with (with_reducible refine wpList_store_mid rfl _ _ _ rfl b2 0 zc rfl (by simp [Act.eval]) (there_blk ZB.out _ (Nat.le_refl _)) zi.out (by rw [HZC.out]; exact zone) ?_)
      have hb3 : Blk (WW.setCells b2 0 zc.toList) b2 26 zc := Blk.setAll ZB.out zc rfl
      have hc3 : Chg (fun b => b = b2) WW (WW.setCells b2 0 zc.toList) := Chg.setCells (S := fun b => b = b2) _ _ (Chg.refl _ WW) rfl
      refine bodyPost_ret (ret_cell rfl rfl rfl hb3 (by rw [HZC.out]; exact zsize)) rfl ?_
      exact ⟨by rw [HZC.out], BW.out.trans (hc3.below (fun b hb e => by have := Z1.out.2; omega) BW.out.size)⟩
    · go_wp2_with (with_reducible refine wpList_store_mid rfl _ _ _ rfl b2 0 zc rfl (by simp [Act.eval]) (there_blk ZB.out _ (Nat.le_refl _)) zi.out (by rw [HZC.out]; exact zone) ?_)
      have hb3 : Blk (WW.setCells b2 0 zc.toList) b2 26 zc := Blk.setAll ZB.out zc rfl
      have hc3 : Chg (fun b => b = b2) WW (WW.setCells b2 0 zc.toList) := Chg.setCells (S := fun b => b = b2) _ _ (Chg.refl _ WW) rfl
      refine bodyPost_ret (ret_cell rfl rfl rfl hb3 (by rw [HZC.out]; exact zsize)) rfl ?_
      exact ⟨by rw [HZC.out], BW.out.trans (hc3.below (fun b hb e => by have := Z1.out.2; omega) BW.out.size)⟩
  · obtain ⟨q, hq⟩ : ∃ q, q = s * (8 + 2 * m) := ⟨_, rfl⟩
    have hqb : q ≤ 4096 * 520 := by rw [hq]; exact Nat.mul_le_mul h1 (by omega)
    rw [← hq] at h3
    have e1 : RowKit.wrap64 (2 * (m : Int)) = 2 * (m : Int) := by unfold RowKit.wrap64; omega
    have e2 : RowKit.wrap64 (8 + 2 * (m : Int)) = 8 + 2 * (m : Int) := by unfold RowKit.wrap64; omega
    have e3 : RowKit.wrap64 ((s : Int) * (8 + 2 * (m : Int))) = (q : Int) := by
      have : (s : Int) * (8 + 2 * (m : Int)) = (q : Int) := by rw [hq]; push_cast; rfl
      rw [this]; unfold RowKit.wrap64; omega
    have e4 : ((n : Int) != 274 + (q : Int)) = true := by rw [bne_iff_ne]; omega
    clear hq
    go_wp2_with (with_reducible refine wpList_store_mid rfl _ _ _ rfl b2 0 zc rfl (by simp [Act.eval]) (there_blk ZB.out _ (Nat.le_refl _)) zi.out (by rw [HZC.out]; exact zone) ?_)
    have hb3 : Blk (WW.setCells b2 0 zc.toList) b2 26 zc := Blk.setAll ZB.out zc rfl
    have hc3 : Chg (fun b => b = b2) WW (WW.setCells b2 0 zc.toList) := Chg.setCells (S := fun b => b = b2) _ _ (Chg.refl _ WW) rfl
    refine bodyPost_ret (ret_cell rfl rfl rfl hb3 (by rw [HZC.out]; exact zsize)) rfl ?_
    exact ⟨by rw [HZC.out], BW.out.trans (hc3.below (fun b hb e => by have := Z1.out.2; omega) BW.out.size)⟩
end Go.Proofs.YtnglgppdkohhpaaDoor
