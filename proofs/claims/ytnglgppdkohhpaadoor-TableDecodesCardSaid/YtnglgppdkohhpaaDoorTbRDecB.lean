/- THE WALK of the reference's Decode: bytes whose length fits. -/
import Derived.Test.YtnglgppdkohhpaaDoorTbRDec
import Derived.Deep.DeepCutAuto
import Derived.Deep.CutBlock
namespace Go.Proofs.YtnglgppdkohhpaaDoor
open Go.RowKit
set_option maxRecDepth 100000 in
set_option maxHeartbeats 4000000 in
theorem rdecode_main (A : Option Addr) (n cap : Nat) (l : List UInt8) (w : World) (hr : RB w A n l) (hn : n ≤ 141836999983104) (h : 274 ≤ n) (hok : okLen l) :
    Calls Tryd.prog 13 #[.slice A n cap] w (RDecQ l w) := by
  have hz := zero_run
  have HR := Lib.hid hr; have HOK := Lib.hid hok
  have HLN : Hid (l.length = n ∧ 274 ≤ n ∧ n ≤ 141836999983104) := Lib.hid ⟨hr.1, h, hn⟩
  clear hr hok
  obtain ⟨zc, hzc⟩ : ∃ zc, zc = dcells zcls nilV nilV nilV := ⟨_, rfl⟩
  have HZC := Lib.hid hzc
  rw [← hzc] at hz
  clear hzc
  obtain ⟨m, hm⟩ : ∃ m, m = nCl l := ⟨_, rfl⟩
  obtain ⟨q, hq⟩ : ∃ q, q = nSt l := ⟨_, rfl⟩
  obtain ⟨ps, hps⟩ : ∃ ps, ps = 2 * m + 8 := ⟨_, rfl⟩
  have HQ : Hid (m = nCl l ∧ q = nSt l ∧ ps = 2 * m + 8) := Lib.hid ⟨hm, hq, hps⟩
  have hm2 : m ≤ 256 := by rw [hm]; exact HOK.out.2.1
  have hq2 : q ≤ 4096 := by rw [hq]; exact HOK.out.1
  have hlen : l.length = 274 + q * ps := by rw [hps, hm, hq]; exact HOK.out.2.2
  have hqp : q * ps ≤ 2129920 := by rw [hps]; exact rows_le hq2 hm2
  have HL : Hid (l.length = 274 + q * ps ∧ q * ps ≤ 2129920) := Lib.hid ⟨hlen, hqp⟩
  have hn3 : n ≤ 2130194 := by have := HLN.out.1; omega
  have CN : Hid (∀ W o k, Below w.heap.size w W → k ≤ 4 → o + k ≤ n → Calls Tryd.prog 29 #[.slice A n cap, .int .i64 (o : Int), .int .i64 (k : Int)] W (fun e w' => e = .returned (.int .i64 (numAt l o k : Int)) ∧ w' = W)) := Lib.hid (fun W o k hb hk ho => rnumber_any A n cap l o k W (HR.out.keep hb) (by omega) hk ho)
  go_enter Tryd.func13, Tryd.ntmps13
  go_upto_region 1 with fail
  have B1 : Hid (Below w.heap.size w (w.alloc (.cells zc 26))) := Lib.hid (below_alloc _ _)
  have N1 : Hid (Calls Tryd.prog 29 #[.slice A n cap, .int .i64 8, .int .i64 4] (w.alloc (.cells zc 26)) (fun e w' => e = .returned (.int .i64 (q : Int)) ∧ w' = w.alloc (.cells zc 26))) := Lib.hid (by
    have := CN.out _ 8 4 B1.out (by omega) (by omega)
    rw [hq]; exact this)
  have N2 : Hid (Calls Tryd.prog 29 #[.slice A n cap, .int .i64 12, .int .i64 2] (w.alloc (.cells zc 26)) (fun e w' => e = .returned (.int .i64 (m : Int)) ∧ w' = w.alloc (.cells zc 26))) := Lib.hid (by
    have := CN.out _ 12 2 B1.out (by omega) (by omega)
    rw [hm]; exact this)
  obtain ⟨w1, hw1⟩ : ∃ w1, w1 = w.alloc (.cells zc 26) := ⟨_, rfl⟩
  obtain ⟨b2, hb2⟩ : ∃ b2, b2 = w.heap.size := ⟨_, rfl⟩
  have Z1 : Hid (Blk w1 b2 26 zc ∧ b2 < w1.heap.size ∧ w.heap.size ≤ b2) := Lib.hid ⟨by rw [hw1, hb2]; exact Blk.new _ _ _ rfl, by rw [hw1, hb2]; simp, by omega⟩
  rw [← hw1, ← hb2]
  rw [← hw1] at B1 N1 N2
  clear hw1 hb2 hm hq hps hlen
  go_wp2_with fail
  refine N1.out.mono ?_
  rintro e w' ⟨rfl, hww⟩
  rw [hww]
  clear hww w'
  go_wp2_with fail
  refine N2.out.mono ?_
  rintro e w' ⟨rfl, hww⟩
  rw [hww]
  clear hww w' N1 N2
  obtain ⟨qp, hqpe⟩ : ∃ qp, qp = q * ps := ⟨_, rfl⟩
  have e1 : RowKit.wrap64 (2 * (m : Int)) = 2 * (m : Int) := by unfold RowKit.wrap64; omega
  have e2 : RowKit.wrap64 (8 + 2 * (m : Int)) = 8 + 2 * (m : Int) := by unfold RowKit.wrap64; omega
  have e3 : RowKit.wrap64 ((q : Int) * (8 + 2 * (m : Int))) = (qp : Int) := by
    have e : (8 + 2 * (m : Int)) = (ps : Int) := by have := HQ.out.2.2; omega
    rw [e, ← Int.natCast_mul, ← hqpe]; unfold RowKit.wrap64; omega
  have e4 : 274 + (qp : Int) = (n : Int) := by have := HLN.out; have := HL.out; rw [← hqpe] at this; omega
  clear hqpe hqp
  go_upto_region 8 with fail
  obtain ⟨w2, hw2⟩ : ∃ w2, w2 = w1.alloc (.cells zc 26) := ⟨_, rfl⟩
  obtain ⟨bD, hbD⟩ : ∃ bD, bD = w1.heap.size := ⟨_, rfl⟩
  obtain ⟨N0, hN0⟩ : ∃ N0, N0 = w2.heap.size := ⟨_, rfl⟩
  have S2 : Hid (DR w w2 N0 b2 bD (dcells zcls nilV nilV nilV)) := Lib.hid (by
    have hb := B1.out.size
    have hz1 := Z1.out
    have hs2 : w2.heap.size = w1.heap.size + 1 := by rw [hw2]; simp
    rw [← HZC.out]
    exact ⟨by rw [hw2, hbD]; exact Blk.new _ _ _ rfl, by rw [hw2, ← HZC.out]; exact hz1.1.keep (below_alloc _ _), by rw [hw2]; exact B1.out.trans ((below_alloc _ _).mono hb), by omega⟩)
  rw [← hw2, ← hbD]
  clear hw2 hbD hN0 Z1 B1 e1 e2 e3 e4
  go_wp2_with fail
  go_loopw [7] (fun iv W => ∃ k : Nat, k ≤ 256 ∧ iv = .int .i64 (k : Int) ∧ ∃ cl, Hid (DR w W N0 b2 bD (dcells cl nilV nilV nilV)) ∧ Hid (cl.length = 256 ∧ ∀ j : Nat, j < k → cl[j]? = some (numAt l (14 + j) 1 : Int))) (fun iv _ => 256 - (intOf iv).toNat)
  case atStart => exact ⟨0, by omega, rfl, zcls, S2, Lib.hid ⟨zlen, fun j hj => absurd hj (by omega)⟩⟩
  case round =>
    obtain ⟨k, hk, rfl, cl, SK, HCL⟩ := hrel
    by_cases hlt : k < 256
    · obtain ⟨bb, off, rfl, hbb, c, hc, hcell⟩ := (HR.out.keep SK.out.bl).at_ (k := 14 + k) (by omega)
      have hcb := c.toNat_lt
      have HX : Hid (c.toNat = numAt l (14 + k) 1) := Lib.hid (by
        have := numAt_low l (14 + k) 1 0 (by omega) (by have := HLN.out.1; omega)
        unfold numAt
        rw [show 14 + k + 0 = 14 + k from rfl, List.getD_eq_getElem?_getD, hc] at this
        simpa [leV] using this.symm)
      have ck : (wr.cell? ⟨bD, k, none⟩).isSome = true := by
        rw [SK.out.bd.cell, dcells_cls k _ (List.getElem?_eq_getElem (by rw [HCL.out.1]; exact hlt))]; rfl
      obtain ⟨vk, hvk⟩ := Option.isSome_iff_exists.1 ck
      have fk := SK.out.bd.frozen k
      clear ck hc
      go_wp2_with fail
      have SZ : Hid (DR w (wr.setCell ⟨bD, k, none⟩ (.int .i64 (c.toNat : Int))) N0 b2 bD (dcells (cl.set k (c.toNat : Int)) nilV nilV nilV)) := Lib.hid (by
        have := SK.out.set k (iV (c.toNat : Int))
        rwa [dcells_cl hlt HCL.out.1] at this)
      have HC2 : Hid ((cl.set k (c.toNat : Int)).length = 256 ∧ ∀ j : Nat, j < k + 1 → (cl.set k (c.toNat : Int))[j]? = some (numAt l (14 + j) 1 : Int)) := Lib.hid ⟨by rw [List.length_set]; exact HCL.out.1, fun j hj => by
        by_cases e : j = k
        · subst e; rw [List.getElem?_set_self (by rw [HCL.out.1]; exact hlt), HX.out]
        · rw [List.getElem?_set_ne (fun h => e h.symm)]; exact HCL.out.2 j (by omega)⟩
      clear hvk fk hcell
      go_roundw
      case rel =>
        first
          | exact ⟨k + 1, by omega, by go_num, _, SZ, HC2⟩
          | ((repeat apply Exists.intro); exact ⟨⟨k + 1, by omega, by go_num, _, SZ, HC2⟩, rfl⟩)
      case measure => simp [intOf]; omega
    · obtain rfl : k = 256 := by omega
      have hcl : cl = clsAt l := by
        apply List.ext_getElem?
        intro j
        by_cases hj : j < 256
        · rw [HCL.out.2 j hj]; unfold clsAt; rw [List.getElem?_map, List.getElem?_range hj]; rfl
        · rw [List.getElem?_eq_none (by rw [HCL.out.1]; omega), List.getElem?_eq_none (by unfold clsAt; simp; omega)]
      have S7 : Hid (DR w wr N0 b2 bD (dcells (clsAt l) nilV nilV nilV)) := Lib.hid (by have := SK.out; rw [hcl] at this; exact this)
      have O7 : Hid (RL wr N0 nilV nilV nilV (tabAt l m 0) []) := Lib.hid (RL.nil wr N0 (clsAt l))
      have HCC : Hid ((clsAt l).length = 256) := Lib.hid (by unfold clsAt; simp)
      clear SK HCL hcl S2
      go_wp2_with fail
      go_loopw [8, 9, 10, 11] (fun av iv _ _ W => ∃ s : Nat, s ≤ q ∧ iv = .int .i64 (s : Int) ∧ ∃ p : Nat, Hid (p = 270 + s * ps) ∧ av = .int .i64 (p : Int) ∧ ∃ vn vf ve vs, Hid (DR w W N0 b2 bD (dcells (clsAt l) vn vf ve)) ∧ Hid (RL W N0 vn vf ve (tabAt l m s) vs)) (fun _ iv _ _ _ => q - (intOf iv).toNat)
      case atStart => exact ⟨0, Nat.zero_le _, rfl, 270, Lib.hid (by omega), rfl, _, _, _, _, S7, O7⟩
      case round =>
        obtain ⟨s, hs, rfl, p, HP, rfl, vn, vf, ve, vs, SS, OS⟩ := hrel
        clear S7 O7
        by_cases hlt2 : s < q
        · have HOF : Hid (p + ps + 4 ≤ n) := Lib.hid (by
            have h1 : (s + 1) * ps ≤ q * ps := Nat.mul_le_mul_right _ hlt2
            have h2 : (s + 1) * ps = s * ps + ps := Nat.succ_mul _ _
            have := HL.out.1; have := HP.out; have := HLN.out.1; omega)
          have HPS : Hid (ps = 2 * m + 8) := Lib.hid HQ.out.2.2
          have HN0 : Hid (N0 ≤ wr.heap.size) := Lib.hid SS.out.lo.2.2.2.2.2
          obtain ⟨H0, hH0⟩ : ∃ H0, H0 = wr.heap.size := ⟨_, rfl⟩
          have HH0 := Lib.hid hH0
          clear hH0
          obtain ⟨w8, hw8⟩ : ∃ w8, w8 = wr := ⟨_, rfl⟩
          rw [← hw8]
          rw [← hw8] at SS OS HH0 HN0
          clear hw8
          go_wp2_with fail
          go_loopw [8, 10, 11] (fun av rv iv W => ∃ k : Nat, k ≤ m ∧ iv = .int .i64 (k : Int) ∧ ∃ o : Nat, Hid (o = p + 2 * k) ∧ av = .int .i64 (o : Int) ∧ Hid (Below H0 w8 W) ∧ Hid (W.ownsRow H0 3 1 rv ((rowAt l k p).map iV).length ((rowAt l k p).map iV))) (fun _ _ iv _ => m - (intOf iv).toNat)
          case atStart => exact ⟨0, Nat.zero_le _, rfl, p, Lib.hid rfl, rfl, Lib.hid (Below.refl _ _), Lib.hid (World.ownsRow_nil _ _ _ 1)⟩
          case round =>
            obtain ⟨k, hk, rfl, o, HO, rfl, BK, RK⟩ := hrel
            have DK : Hid (DR w wr N0 b2 bD (dcells (clsAt l) vn vf ve)) := Lib.hid (SS.out.keep (by rw [← HH0.out]; exact BK.out))
            have OK : Hid (RL wr N0 vn vf ve (tabAt l m s) vs) := Lib.hid (OS.out.keep (by rw [← HH0.out]; exact BK.out))
            have ho4 : o ≤ 3000000 := by have := HO.out; have := HOF.out; have := HPS.out; omega
            by_cases hlt3 : k < m
            · obtain ⟨x, hx⟩ : ∃ x, x = numAt l o 2 := ⟨_, rfl⟩
              have hxl : x < 65536 := by rw [hx]; exact leV_lt4 l o 2
              have CX : Hid (Calls Tryd.prog 29 #[.slice A n cap, .int .i64 (o : Int), .int .i64 2] wr (fun e w' => e = .returned (.int .i64 (x : Int)) ∧ w' = wr)) := Lib.hid (by
                rw [hx]; exact CN.out wr o 2 DK.out.bl (by omega) (by have := HO.out; have := HOF.out; have := HPS.out; omega))
              have HX := Lib.hid hx
              clear hx
              go_wp2_with fail
              refine CX.out.mono ?_
              rintro e w' ⟨rfl, hww⟩
              rw [hww]
              clear hww w' CX
              have BA : Hid (Below H0 w8 (wr.alloc (.cells #[.int .i64 (x : Int)] 3))) := Lib.hid (BK.out.alloc (by have := BK.out.size; have := HH0.out; omega) _)
              have RA : Hid ((wr.alloc (.cells #[.int .i64 (x : Int)] 3)).ownsRow H0 3 1 u10 ((rowAt l k p).map iV).length ((rowAt l k p).map iV)) := Lib.hid (own_keep RK.out (below_alloc _ _))
              have CA : Hid ((wr.alloc (.cells #[.int .i64 (x : Int)] 3)).cell? ⟨wr.heap.size, 0, none⟩ = some (.int .i64 (x : Int))) := Lib.hid ((Blk.new wr 3 _ rfl).cell 0)
              have HLR : Hid (((rowAt l k p).map iV).length = k) := Lib.hid (by rw [List.length_map, rowAt_length])
              have HSZ : Hid (H0 ≤ (wr.alloc (.cells #[.int .i64 (x : Int)] 3)).heap.size) := Lib.hid (by have := BK.out.size; have := HH0.out; simp; omega)
              go_wp2_with ((at_builtin; go_must (refine append_cell rfl (.tmp 69) (.tmp 71) 35 3 rfl Tryd.underlying35 infoInt rfl H0 u10 ((rowAt l k p).map iV) rfl RA.out wr.heap.size 1 (.int .i64 (x : Int)) rfl CA.out rfl (by rw [HLR.out]; omega) (by rw [HLR.out]; unfold maxLen; omega) HSZ.out ?_); intro v9 w9 ho9 hg9 ha9; refine halt ?_))
              refine unhalt ?_
              have R9 : Hid (w9.ownsRow H0 3 1 v9 ((rowAt l (k + 1) p).map iV).length ((rowAt l (k + 1) p).map iV)) := Lib.hid (by
                rw [rowAt_succ, ← HO.out, ← HX.out, List.map_append]; exact ho9)
              have B9 : Hid (Below H0 w8 w9) := Lib.hid (BA.out.grown hg9 HSZ.out (fun j hj => (RA.out.lt j hj).1))
              clear ho9 hg9 ha9 RA CA BA HSZ
              go_wp2_with fail
              go_roundw
              case rel =>
                have HO2 : Hid (o + 2 = p + 2 * (k + 1)) := Lib.hid (by have := HO.out; omega)
                first
                  | exact ⟨k + 1, by omega, by go_num, o + 2, HO2, by go_num, B9, R9⟩
                  | ((repeat apply Exists.intro); exact ⟨⟨k + 1, by omega, by go_num, o + 2, HO2, by go_num, B9, R9⟩, rfl⟩)
              case measure => simp [intOf]; omega
            · obtain rfl : k = m := by omega
              clear SS OS
              have RK2 : Hid (wr.ownsRow N0 3 1 u10 ((rowAt l k p).map iV).length ((rowAt l k p).map iV)) := Lib.hid (own_less RK.out (by have := HN0.out; have := HH0.out; omega))
              obtain ⟨A10, c10, hu, -⟩ := own_form RK2.out
              rw [List.length_map, rowAt_length] at hu
              subst hu
              have HLV : Hid (vs.length = s ∧ (tabAt l k s).fo.length = s ∧ (tabAt l k s).en.length = s) := Lib.hid ⟨by rw [OK.out.len]; unfold tabAt; simp, by unfold tabAt; simp, by unfold tabAt; simp⟩
              have RA : Hid ((wr.alloc (.cells #[(.slice A10 k c10)] 35)).ownsRow N0 3 1 (.slice A10 k c10) ((rowAt l k p).map iV).length ((rowAt l k p).map iV)) := Lib.hid (own_keep RK2.out (below_alloc _ _))
              have hc23 : wr.cell? ⟨bD, 256, none⟩ = some vn := by rw [DK.out.bd.cell]; exact dcells_nx HCC.out
              have fk23 := DK.out.bd.frozen 256
              have DA23 : Hid (DR w (wr.alloc (.cells #[(.slice A10 k c10)] 35)) N0 b2 bD (dcells (clsAt l) vn vf ve)) := Lib.hid (DK.out.keep (below_alloc _ _))
              have OA23 : Hid (RL (wr.alloc (.cells #[(.slice A10 k c10)] 35)) N0 vn vf ve (tabAt l k s) vs) := Lib.hid (OK.out.keep (below_alloc _ _))
              have CA23 : Hid ((wr.alloc (.cells #[(.slice A10 k c10)] 35)).cell? ⟨wr.heap.size, 0, none⟩ = some ((.slice A10 k c10))) := Lib.hid ((Blk.new wr 35 _ rfl).cell 0)
              have HZ23 : Hid (N0 ≤ (wr.alloc (.cells #[(.slice A10 k c10)] 35)).heap.size) := Lib.hid DA23.out.lo.2.2.2.2.2
              go_wp2_with ((at_builtin; go_must (refine append_cell rfl (.tmp 76) (.tmp 78) 23 35 rfl Tryd.underlying23 infoRow rfl N0 vn (vs) rfl OA23.out.on wr.heap.size 1 ((.slice A10 k c10)) rfl CA23.out (own_one RK2.out) (by rw [HLV.out.1]; omega) (by rw [HLV.out.1]; unfold maxLen; omega) HZ23.out ?_); intro v23 w23 ho23 hg23 ha23; refine halt ?_))
              refine unhalt ?_
              obtain ⟨A23, c23, hv23, -⟩ := own_form ho23
              obtain ⟨n23, hn23⟩ : ∃ n, n = (vs ++ [Value.slice A10 k c10]).length := ⟨_, rfl⟩
              rw [← hn23] at hv23
              clear hn23
              subst hv23
              have DB23 : Hid (DR w w23 N0 b2 bD (dcells (clsAt l) vn vf ve)) := Lib.hid (DA23.out.grown hg23 (fun j hj => (OA23.out.on.lt j hj).1))
              have OB23 : Hid (RL w23 N0 (.slice A23 n23 c23) vf ve { tabAt l k s with nx := (tabAt l k s).nx ++ [rowAt l k p] } (vs ++ [.slice A10 k c10])) := Lib.hid (OA23.out.appN RA.out ho23 hg23)
              have hd23 : w23.cell? ⟨bD, 256, none⟩ = some vn := by rw [DB23.out.bd.cell]; exact dcells_nx HCC.out
              have fd23 := DB23.out.bd.frozen 256
              have DC23 : Hid (DR w (w23.setCell ⟨bD, 256, none⟩ (.slice A23 n23 c23)) N0 b2 bD (dcells (clsAt l) (.slice A23 n23 c23) vf ve)) := Lib.hid (by have := DB23.out.set 256 (.slice A23 n23 c23); rwa [dcells_set_nx HCC.out] at this)
              have OC23 : Hid (RL (w23.setCell ⟨bD, 256, none⟩ (.slice A23 n23 c23)) N0 (.slice A23 n23 c23) vf ve { tabAt l k s with nx := (tabAt l k s).nx ++ [rowAt l k p] } (vs ++ [.slice A10 k c10])) := Lib.hid (OB23.out.set_far DB23.out.lo.2.1 256 (.slice A23 n23 c23))
              clear hc23 fk23 ho23 hg23 ha23 DA23 OA23 CA23 HZ23 DB23 OB23 DK OK
              clear RK RK2 RA BK
              go_wp2_with fail
              obtain ⟨wA, hwA⟩ : ∃ wA, wA = w23.setCell ⟨bD, 256, none⟩ (.slice A23 n23 c23) := ⟨_, rfl⟩
              rw [← hwA]
              rw [← hwA] at DC23 OC23
              clear hwA
              clear hd23 fd23
              obtain ⟨t1, ht1⟩ : ∃ t1 : Tb, t1 = { tabAt l k s with nx := (tabAt l k s).nx ++ [rowAt l k p] } := ⟨_, rfl⟩
              have HT1 := Lib.hid ht1
              rw [← ht1] at OC23
              have HL1 : Hid (t1.fo.length = s ∧ t1.en.length = s) := Lib.hid (by rw [ht1]; exact HLV.out.2)
              clear ht1
              obtain ⟨x, hx⟩ : ∃ x, x = numAt l o 4 := ⟨_, rfl⟩
              have hxl : x < 4294967296 := by rw [hx]; exact leV_lt4 l o 4
              obtain ⟨y, hy⟩ : ∃ y, y = numAt l (o + 4) 4 := ⟨_, rfl⟩
              have hyl : y < 4294967296 := by rw [hy]; exact leV_lt4 l (o + 4) 4
              have CX : Hid (Calls Tryd.prog 29 #[.slice A n cap, .int .i64 (o : Int), .int .i64 4] wA (fun e w' => e = .returned (.int .i64 (x : Int)) ∧ w' = wA)) := Lib.hid (by rw [hx]; exact CN.out wA o 4 DC23.out.bl (by omega) (by have := HO.out; have := HOF.out; have := HPS.out; omega))
              have CY : Hid (Calls Tryd.prog 29 #[.slice A n cap, .int .i64 ((o : Int) + 4), .int .i64 4] wA (fun e w' => e = .returned (.int .i64 (y : Int)) ∧ w' = wA)) := Lib.hid (by have h := CN.out wA (o + 4) 4 DC23.out.bl (by omega) (by have := HO.out; have := HOF.out; have := HPS.out; omega); rw [← hy] at h; exact h)
              have HX := Lib.hid hx
              have HY := Lib.hid hy
              clear hx hy
              refine CX.out.mono ?_
              rintro e w' ⟨rfl, hww⟩
              rw [hww]
              clear hww w' CX
              go_wp2_with fail
              refine CY.out.mono ?_
              rintro e w' ⟨rfl, hww⟩
              rw [hww]
              clear hww w' CY
              have hc26 : wA.cell? ⟨bD, 257, none⟩ = some vf := by rw [DC23.out.bd.cell]; exact dcells_fo HCC.out
              have fk26 := DC23.out.bd.frozen 257
              have DA26 : Hid (DR w (wA.alloc (.cells #[.int .u32 (x : Int)] 34)) N0 b2 bD (dcells (clsAt l) (.slice A23 n23 c23) vf ve)) := Lib.hid (DC23.out.keep (below_alloc _ _))
              have OA26 : Hid (RL (wA.alloc (.cells #[.int .u32 (x : Int)] 34)) N0 (.slice A23 n23 c23) vf ve t1 (vs ++ [.slice A10 k c10])) := Lib.hid (OC23.out.keep (below_alloc _ _))
              have CA26 : Hid ((wA.alloc (.cells #[.int .u32 (x : Int)] 34)).cell? ⟨wA.heap.size, 0, none⟩ = some (.int .u32 (x : Int))) := Lib.hid ((Blk.new wA 34 _ rfl).cell 0)
              have HZ26 : Hid (N0 ≤ (wA.alloc (.cells #[.int .u32 (x : Int)] 34)).heap.size) := Lib.hid DA26.out.lo.2.2.2.2.2
              go_wp2_with ((at_builtin; go_must (refine append_cell rfl (.tmp 89) (.tmp 92) 24 34 rfl Tryd.underlying24 infoU rfl N0 vf (t1.fo.map uV) rfl OA26.out.of_ wA.heap.size 1 (.int .u32 (x : Int)) rfl CA26.out rfl (by rw [List.length_map, HL1.out.1]; omega) (by rw [List.length_map, HL1.out.1]; unfold maxLen; omega) HZ26.out ?_); intro v26 w26 ho26 hg26 ha26; refine halt ?_))
              refine unhalt ?_
              obtain ⟨A26, c26, hv26, -⟩ := own_form ho26
              obtain ⟨n26, hn26⟩ : ∃ n, n = (t1.fo.map uV ++ [Value.int .u32 (x : Int)]).length := ⟨_, rfl⟩
              rw [← hn26] at hv26
              clear hn26
              subst hv26
              have DB26 : Hid (DR w w26 N0 b2 bD (dcells (clsAt l) (.slice A23 n23 c23) vf ve)) := Lib.hid (DA26.out.grown hg26 (fun j hj => (OA26.out.of_.lt j hj).1))
              have OB26 : Hid (RL w26 N0 (.slice A23 n23 c23) (.slice A26 n26 c26) ve { t1 with fo := t1.fo ++ [x] } (vs ++ [.slice A10 k c10])) := Lib.hid (OA26.out.appF ho26 hg26 ha26)
              have hd26 : w26.cell? ⟨bD, 257, none⟩ = some vf := by rw [DB26.out.bd.cell]; exact dcells_fo HCC.out
              have fd26 := DB26.out.bd.frozen 257
              have DC26 : Hid (DR w (w26.setCell ⟨bD, 257, none⟩ (.slice A26 n26 c26)) N0 b2 bD (dcells (clsAt l) (.slice A23 n23 c23) (.slice A26 n26 c26) ve)) := Lib.hid (by have := DB26.out.set 257 (.slice A26 n26 c26); rwa [dcells_set_fo HCC.out] at this)
              have OC26 : Hid (RL (w26.setCell ⟨bD, 257, none⟩ (.slice A26 n26 c26)) N0 (.slice A23 n23 c23) (.slice A26 n26 c26) ve { t1 with fo := t1.fo ++ [x] } (vs ++ [.slice A10 k c10])) := Lib.hid (OB26.out.set_far DB26.out.lo.2.1 257 (.slice A26 n26 c26))
              clear hc26 fk26 ho26 hg26 ha26 DA26 OA26 CA26 HZ26 DB26 OB26 DC23 OC23
              obtain ⟨t2, ht2⟩ : ∃ t2 : Tb, t2 = { t1 with fo := t1.fo ++ [x] } := ⟨_, rfl⟩
              have HT2 := Lib.hid ht2
              rw [← ht2] at OC26
              have HL2 : Hid (t2.en.length = s) := Lib.hid (by rw [ht2]; exact HL1.out.2)
              clear ht2
              go_upto_region 27 with fail
              obtain ⟨wB, hwB⟩ : ∃ wB, wB = w26.setCell ⟨bD, 257, none⟩ (.slice A26 n26 c26) := ⟨_, rfl⟩
              rw [← hwB]
              rw [← hwB] at DC26 OC26
              clear hwB
              clear hd26 fd26
              have hc27 : wB.cell? ⟨bD, 258, none⟩ = some ve := by rw [DC26.out.bd.cell]; exact dcells_en HCC.out
              have fk27 := DC26.out.bd.frozen 258
              have DA27 : Hid (DR w (wB.alloc (.cells #[.int .u32 (y : Int)] 34)) N0 b2 bD (dcells (clsAt l) (.slice A23 n23 c23) (.slice A26 n26 c26) ve)) := Lib.hid (DC26.out.keep (below_alloc _ _))
              have OA27 : Hid (RL (wB.alloc (.cells #[.int .u32 (y : Int)] 34)) N0 (.slice A23 n23 c23) (.slice A26 n26 c26) ve t2 (vs ++ [.slice A10 k c10])) := Lib.hid (OC26.out.keep (below_alloc _ _))
              have CA27 : Hid ((wB.alloc (.cells #[.int .u32 (y : Int)] 34)).cell? ⟨wB.heap.size, 0, none⟩ = some (.int .u32 (y : Int))) := Lib.hid ((Blk.new wB 34 _ rfl).cell 0)
              have HZ27 : Hid (N0 ≤ (wB.alloc (.cells #[.int .u32 (y : Int)] 34)).heap.size) := Lib.hid DA27.out.lo.2.2.2.2.2
              go_wp2_with ((at_builtin; go_must (refine append_cell rfl (.tmp 96) (.tmp 99) 24 34 rfl Tryd.underlying24 infoU rfl N0 ve (t2.en.map uV) rfl OA27.out.oe wB.heap.size 1 (.int .u32 (y : Int)) rfl CA27.out rfl (by rw [List.length_map, HL2.out]; omega) (by rw [List.length_map, HL2.out]; unfold maxLen; omega) HZ27.out ?_); intro v27 w27 ho27 hg27 ha27; refine halt ?_))
              refine unhalt ?_
              obtain ⟨A27, c27, hv27, -⟩ := own_form ho27
              obtain ⟨n27, hn27⟩ : ∃ n, n = (t2.en.map uV ++ [Value.int .u32 (y : Int)]).length := ⟨_, rfl⟩
              rw [← hn27] at hv27
              clear hn27
              subst hv27
              have DB27 : Hid (DR w w27 N0 b2 bD (dcells (clsAt l) (.slice A23 n23 c23) (.slice A26 n26 c26) ve)) := Lib.hid (DA27.out.grown hg27 (fun j hj => (OA27.out.oe.lt j hj).1))
              have OB27 : Hid (RL w27 N0 (.slice A23 n23 c23) (.slice A26 n26 c26) (.slice A27 n27 c27) { t2 with en := t2.en ++ [y] } (vs ++ [.slice A10 k c10])) := Lib.hid (OA27.out.appE ho27 hg27 ha27)
              have hd27 : w27.cell? ⟨bD, 258, none⟩ = some ve := by rw [DB27.out.bd.cell]; exact dcells_en HCC.out
              have fd27 := DB27.out.bd.frozen 258
              have DC27 : Hid (DR w (w27.setCell ⟨bD, 258, none⟩ (.slice A27 n27 c27)) N0 b2 bD (dcells (clsAt l) (.slice A23 n23 c23) (.slice A26 n26 c26) (.slice A27 n27 c27))) := Lib.hid (by have := DB27.out.set 258 (.slice A27 n27 c27); rwa [dcells_set_en HCC.out] at this)
              have OC27 : Hid (RL (w27.setCell ⟨bD, 258, none⟩ (.slice A27 n27 c27)) N0 (.slice A23 n23 c23) (.slice A26 n26 c26) (.slice A27 n27 c27) { t2 with en := t2.en ++ [y] } (vs ++ [.slice A10 k c10])) := Lib.hid (OB27.out.set_far DB27.out.lo.2.1 258 (.slice A27 n27 c27))
              clear hc27 fk27 ho27 hg27 ha27 DA27 OA27 CA27 HZ27 DB27 OB27 DC26 OC26
              go_wp2_with fail
              have SN : Hid (DR w (w27.setCell ⟨bD, 258, none⟩ (.slice A27 n27 c27)) N0 b2 bD (dcells (clsAt l) (.slice A23 n23 c23) (.slice A26 n26 c26) (.slice A27 n27 c27))) := DC27
              have HP2 : Hid (o + 8 = 270 + (s + 1) * ps) := Lib.hid (by have h7 : (s + 1) * ps = s * ps + ps := Nat.succ_mul _ _; have := HP.out; have := HO.out; have := HPS.out; omega)
              have ON : Hid (RL (w27.setCell ⟨bD, 258, none⟩ (.slice A27 n27 c27)) N0 (.slice A23 n23 c23) (.slice A26 n26 c26) (.slice A27 n27 c27) (tabAt l k (s + 1)) (vs ++ [.slice A10 k c10])) := Lib.hid (by
                have h := OC27.out
                have e1 : o = 270 + s * (2 * k + 8) + 2 * k := by rw [HO.out, HP.out, HPS.out]
                rw [HT2.out, HT1.out, HX.out, HY.out, e1] at h
                rw [tabAt_succ]
                have e2 : p = 270 + s * (2 * k + 8) := by rw [HP.out, HPS.out]
                rw [e2] at h
                exact h)
              clear hd27 fd27 DC27 OC27 HX HY HT1 HT2 HL1 HL2 hxl hyl
              go_roundw
              case rel =>
                first
                  | exact ⟨s + 1, by omega, by go_num, o + 8, HP2, by go_num, _, _, _, _, SN, ON⟩
                  | ((repeat apply Exists.intro); exact ⟨⟨s + 1, by omega, by go_num, o + 8, HP2, by go_num, _, _, _, _, SN, ON⟩, rfl⟩)
              case measure => simp [intOf]; omega
        · obtain rfl : s = q := by omega
          have hsd := tab_sound l m s
          have hlt9 : (tabAt l m s).nx.length = s ∧ (tabAt l m s).fo.length = s ∧ (tabAt l m s).en.length = s := by unfold tabAt; simp
          have hrw : ∀ row ∈ (tabAt l m s).nx, row.length ≤ 1000000 := fun row hr => by
            unfold tabAt at hr
            obtain ⟨j, _, rfl⟩ := List.mem_map.1 hr
            rw [rowAt_length]; omega
          have MK0 : ∀ W, RL W N0 vn vf ve (tabAt l m s) vs → TB W (dcells (clsAt l) vn vf ve) (tabAt l m s) := fun W h => h.tb hsd.hc hsd.hu hrw ⟨by omega, by omega, by omega⟩
          have ds : Hid ((dcells (clsAt l) vn vf ve).size = 259 ∧ (dcells (clsAt l) vn vf ve).all (·.oneCell') = true) := Lib.hid ⟨dcells_size HCC.out, dcells_one (own_one OS.out.on) (own_one OS.out.of_) (own_one OS.out.oe)⟩
          have KS : Hid (Sound (tabAt l m s) ∧ tabAt l m s = tabAt l (nCl l) (nSt l)) := Lib.hid ⟨hsd, by rw [← HQ.out.1, ← HQ.out.2.1]⟩
          have NE : Hid (encT (tabAt l m s) ≠ l ∨ ¬ Fits (tabAt l m s) → ¬ IsEnc l) := Lib.hid (fun h => by
            rintro ⟨t, h1, h2, rfl⟩
            have e := enc_tab h1 h2
            rw [KS.out.2, e] at h
            rcases h with h | h
            · exact h rfl
            · exact h h2)
          obtain ⟨t, ht⟩ : ∃ t, t = tabAt l m s := ⟨_, rfl⟩
          obtain ⟨dc, hdc⟩ : ∃ dc, dc = dcells (clsAt l) vn vf ve := ⟨_, rfl⟩
          rw [← ht, ← hdc] at MK0
          rw [← ht] at KS NE OS
          rw [← hdc] at ds SS
          have MK := Lib.hid MK0
          clear hsd hlt9 hrw MK0 ht hdc
          have di : Hid ((Tryd.prog.info? 26).map (·.size) = some dc.size) := Lib.hid (by rw [size259, ds.out.1])
          have dl : Hid ((Tryd.prog.info? 26).map (·.size) = some dc.toList.length) := Lib.hid (by rw [size259, Array.length_toList, ds.out.1])
          have zi : Hid ((Tryd.prog.info? 26).map (·.size) = some zc.size ∧ zc.all (·.oneCell') = true) := Lib.hid (by rw [HZC.out]; exact ⟨by rw [size259, zsize], zone⟩)
          have RG := Lib.hid (rangeAt_blk SS.out.bd)
          have CE := Lib.hid (renc_any dc t wr (MK.out wr OS.out))
          go_wp2_with (with_reducible refine wpList_load_mid rfl _ _ rfl bD 0 rfl dc.toList _ RG.out Tryd.underlying26 rfl dl.out ?_)
          refine CE.out.mono ?_
          rintro e w4 ⟨v4, k4, rfl, hc4, hb4⟩
          have D4 : Hid (DR w w4 N0 b2 bD dc) := Lib.hid (SS.out.keep hb4)
          have O4 : Hid (RL w4 N0 vn vf ve t vs) := Lib.hid (OS.out.keep hb4)
          have Z4 : Hid (Blk w4 b2 26 zc) := Lib.hid (by have := D4.out.bz; rwa [← HZC.out] at this)
          have LB : Hid (w.heap.size ≤ b2 ∧ b2 < N0) := Lib.hid ⟨D4.out.lo.2.2.2.1, D4.out.lo.1⟩
          have RG4 := Lib.hid (rangeAt_blk D4.out.bd)
          have RL4 : Hid (RB w4 A n l) := Lib.hid (HR.out.keep D4.out.bl)
          have NO : Hid (∀ e w5, (¬ IsEnc l) → e = .returned (.tuple #[.agg zc, .int .i64 120]) → Below w.heap.size w w5 → RDecQ l w e w5) := Lib.hid (fun e w5 h1 h2 h3 => .inr ⟨h1, by rw [h2, HZC.out], h3⟩)
          clear RG CE hb4 SS OS
          rcases hc4 with ⟨hf, rfl, ho4⟩ | ⟨hf, rfl, rfl⟩
          · obtain ⟨D5, dc4, rfl, _, _, hr4⟩ := ho4.form
            have HF := Lib.hid hf
            obtain ⟨l4, hl4⟩ : ∃ l4, l4 = encT t := ⟨_, rfl⟩
            rw [← hl4] at hr4 NE ⊢
            have HL4 := Lib.hid hl4
            clear hl4 hf ho4
            have c1 := conv_bytes w4 D5 l4.length dc4 l4 hr4
            have c2 := conv_bytes w4 A n cap l RL4.out
            have s1 := strOf_toList l4
            have s2 := strOf_toList l
            clear hr4
            by_cases he : l4 = l
            · have h4 : (l4 == l) = true := by rw [he]; exact beq_self_eq_true l
              have h5 : (l4 != l) = false := by rw [he]; exact bne_self_eq_false l
              have HE := Lib.hid he
              clear he
              go_wp2_with (first | (with_reducible refine wpList_load_mid rfl _ _ rfl bD 0 rfl dc.toList _ RG4.out Tryd.underlying26 rfl dl.out ?_) | (with_reducible refine wpList_store_mid rfl _ _ _ rfl b2 0 dc rfl (by first | (simp [Act.eval]; done) | simp [Act.eval, Act.put]) (there_blk Z4.out _ (by rw [ds.out.1, HZC.out, zsize]; exact Nat.le_refl _)) di.out ds.out.2 ?_))
              have hb5 : Blk (w4.setCells b2 0 dc.toList) b2 26 dc := Blk.setAll Z4.out dc (by rw [ds.out.1, HZC.out, zsize])
              have hc5 : Chg (fun b => b = b2) w4 (w4.setCells b2 0 dc.toList) := Chg.setCells (S := fun b => b = b2) _ _ (Chg.refl _ w4) rfl
              refine bodyPost_ret (ret_cell rfl rfl rfl hb5 ds.out.1) rfl ?_
              exact .inl ⟨dc, t, KS.out.1, HF.out, by rw [← HE.out, HL4.out], rfl, MK.out _ (O4.out.chg hc5 (fun b hb _ e => by have := LB.out; omega)), D4.out.bl.trans (hc5.below (fun b hb e => by have := LB.out; omega) D4.out.bl.size)⟩
            · have h4 : (l4 == l) = false := beq_eq_false_iff_ne.2 he
              have h5 : (l4 != l) = true := bne_iff_ne.2 he
              have HE := Lib.hid he
              clear he
              go_wp2_with (with_reducible refine wpList_store_mid rfl _ _ _ rfl b2 0 zc rfl (by simp [Act.eval]) (there_blk Z4.out _ (Nat.le_refl _)) zi.out.1 zi.out.2 ?_)
              have hb5 : Blk (w4.setCells b2 0 zc.toList) b2 26 zc := Blk.setAll Z4.out zc rfl
              have hc5 : Chg (fun b => b = b2) w4 (w4.setCells b2 0 zc.toList) := Chg.setCells (S := fun b => b = b2) _ _ (Chg.refl _ w4) rfl
              refine bodyPost_ret (ret_cell rfl rfl rfl hb5 (by rw [HZC.out]; exact zsize)) rfl ?_
              exact NO.out _ _ (NE.out (.inl HE.out)) rfl (D4.out.bl.trans (hc5.below (fun b hb e => by have := LB.out; omega) D4.out.bl.size))
          · have HF := Lib.hid hf
            clear hf
            go_wp2_with (with_reducible refine wpList_store_mid rfl _ _ _ rfl b2 0 zc rfl (by simp [Act.eval]) (there_blk Z4.out _ (Nat.le_refl _)) zi.out.1 zi.out.2 ?_)
            have hb5 : Blk (w4.setCells b2 0 zc.toList) b2 26 zc := Blk.setAll Z4.out zc rfl
            have hc5 : Chg (fun b => b = b2) w4 (w4.setCells b2 0 zc.toList) := Chg.setCells (S := fun b => b = b2) _ _ (Chg.refl _ w4) rfl
            refine bodyPost_ret (ret_cell rfl rfl rfl hb5 (by rw [HZC.out]; exact zsize)) rfl ?_
            exact NO.out _ _ (NE.out (.inr HF.out)) rfl (D4.out.bl.trans (hc5.below (fun b hb e => by have := LB.out; omega) D4.out.bl.size))
end Go.Proofs.YtnglgppdkohhpaaDoor
