/- THE WALKS of bytes.Equal and table.Decode (printed by a program of ours). -/
import Derived.Test.YtnglgppdkohhpaaDoorTbParse
import Derived.Test.YtnglgppdkohhpaaDoorStr
import Derived.Laws.ResultCell
namespace Go.Proofs.YtnglgppdkohhpaaDoor
open Go.RowKit
theorem strOf_toList (l : List UInt8) : (strOf l).toList = l := by rw [ByteArray.toList_eq]; simp [strOf]
theorem equal_any (A A' : Option Addr) (n n' c c' : Nat) (l l' : List UInt8) (w : World) (h : RB w A n l) (h' : RB w A' n' l') :
    Calls Tryd.prog 31 #[.slice A n c, .slice A' n' c'] w fun e w' => e = .returned (.bool (l == l')) ∧ w = w' := by
  have c1 := conv_bytes w A n c l h
  have c2 := conv_bytes w A' n' c' l' h'
  have s1 := strOf_toList l
  have s2 := strOf_toList l'
  clear h h'
  go_enter Tryd.func31, Tryd.ntmps31
  go_wp2_with fail
  go_ret
  exact ⟨rfl, rfl⟩
/-- a block of a table's cells, and what a result's cell yields -/
theorem ret_cell {w : World} {b : Nat} {dc : Array Value} {u : Tmp} {p : Tmp} {k : Int} {fn : Func} {tmps : Array Value} (hf : fn.results = #[.cell p 26, .tmp u]) (hp : tmps.getD p undef = .pointer (some ⟨b, 0, none⟩)) (hu : tmps.getD u undef = .int .i64 k) (h : Blk w b 26 dc) (hs : dc.size = 259) :
    (results fn tmps).run Tryd.prog w = .ok (.tuple #[.agg dc, .int .i64 k]) w := by
  rw [results_cell_tmp hf, hp, hu]
  simp only [asAddr, Sem.run_pure, Result.andThen, run_loadVar_row w b 26 26 dc (0, 0) _ h Tryd.underlying26 rfl (by rw [size259, hs])]
def NoneT (w : World) (e : Ending) (w' : World) : Prop := e = .returned (.tuple #[.agg (dcells zcls nilV nilV nilV), .int .i64 120]) ∧ Below w.heap.size w w'
def SomeT (t : Tb) (w : World) (e : Ending) (w' : World) : Prop :=
  ∃ vn vf ve N0 m gs, e = .returned (.tuple #[.agg (dcells t.cls vn vf ve), .int .i64 0]) ∧ w.heap.size ≤ N0 ∧ OL w' N0 vn vf ve t m gs ∧ m ≤ 256 ∧ t.nx.length ≤ 4096 ∧ Below w.heap.size w w'
theorem zlen : zcls.length = 256 := by unfold zcls; exact List.length_replicate
theorem zero_sound : Sound zeroT := ⟨zlen, ⟨fun _ hx => absurd hx List.not_mem_nil, fun _ hx => absurd hx List.not_mem_nil⟩⟩
theorem zsize : (dcells zcls nilV nilV nilV).size = 259 := dcells_size zlen
theorem zone : (dcells zcls nilV nilV nilV).all (·.oneCell') = true := dcells_one rfl rfl rfl
set_option maxRecDepth 100000 in
set_option maxHeartbeats 4000000 in
theorem tdecode_short (A : Option Addr) (n cap : Nat) (w : World) (hn : n < 274) :
    Calls Tryd.prog 14 #[.slice A n cap] w (NoneT w) := by
  have hz := zero_run
  go_enter Tryd.func14, Tryd.ntmps14
  go_upto_region 1 with fail
  obtain ⟨w1, hw1⟩ : ∃ w1, w1 = w.alloc (.cells (dcells zcls nilV nilV nilV) 26) := ⟨_, rfl⟩
  obtain ⟨b2, hb2⟩ : ∃ b2, b2 = w.heap.size := ⟨_, rfl⟩
  rw [← hw1, ← hb2]
  have HB1 : Hid (Below w.heap.size w w1) := Lib.hid (by rw [hw1]; exact below_alloc _ _)
  have Z1 : Hid (Blk w1 b2 26 (dcells zcls nilV nilV nilV) ∧ w.heap.size ≤ b2) := Lib.hid ⟨by rw [hw1, hb2]; exact Blk.new _ _ _ rfl, by omega⟩
  clear hw1 hb2
  have zi : Hid ((Tryd.prog.info? 26).map (·.size) = some (dcells zcls nilV nilV nilV).size) := Lib.hid (by rw [size259, zsize])
  obtain ⟨zc, hzc⟩ : ∃ zc, zc = dcells zcls nilV nilV nilV := ⟨_, rfl⟩
  have HZC := Lib.hid hzc
  rw [← hzc] at zi Z1 hz
  clear hzc
  have ZB : Hid (Blk w1 b2 26 zc) := Lib.hid Z1.out.1
  have BW := HB1
  obtain ⟨WW, hWW⟩ : ∃ WW, WW = w1 := ⟨_, rfl⟩
  rw [← hWW] at ZB BW ⊢
  clear hWW
  go_wp2_with (with_reducible refine wpList_store_mid rfl _ _ _ rfl b2 0 zc rfl (by simp [Act.eval]) (there_blk ZB.out _ (Nat.le_refl _)) zi.out (by rw [HZC.out]; exact zone) ?_)
  have hb3 : Blk (WW.setCells b2 0 zc.toList) b2 26 zc := Blk.setAll ZB.out zc rfl
  have hc3 : Chg (fun b => b = b2) WW (WW.setCells b2 0 zc.toList) := Chg.setCells (S := fun b => b = b2) _ _ (Chg.refl _ WW) rfl
  refine bodyPost_ret (ret_cell rfl rfl rfl hb3 (by rw [HZC.out]; exact zsize)) rfl ?_
  exact ⟨by rw [HZC.out], BW.out.trans (hc3.below (fun b hb e => by have := Z1.out.2; omega) BW.out.size)⟩
/-- what is read: a table, in memory of its own -/
def ReadX (l : List UInt8) (w : World) (t : Tb) (e : Ending) (w' : World) : Prop :=
  ∃ vn vf ve N0 m gs, e = .returned (.agg (dcells t.cls vn vf ve)) ∧ w.heap.size ≤ N0 ∧ OL w' N0 vn vf ve t m gs ∧ m ≤ 256 ∧ t.nx.length ≤ 4096 ∧ t.fo.length ≤ 4096 ∧ t.en.length ≤ 4096 ∧ Sound t ∧ Below w.heap.size w w' ∧ l.length = l.length
open Classical in
noncomputable def readT (l : List UInt8) : Tb := if okLen l then tabAt l (nCl l) (nSt l) else zeroT
theorem tab_sound (l : List UInt8) (m s : Nat) : Sound (tabAt l m s) := by
  refine ⟨by unfold tabAt clsAt; simp, ?_, ?_⟩
  all_goals
    intro x hx
    unfold tabAt at hx
    obtain ⟨j, _, rfl⟩ := List.mem_map.1 hx
    have := leV_lt4 l
    first
      | exact this (270 + j * (2 * m + 8) + 2 * m) 4
      | exact this (270 + j * (2 * m + 8) + 2 * m + 4) 4
theorem read_x (A : Option Addr) (n cap : Nat) (l : List UInt8) (w : World) (hr : RB w A n l) (hn : n ≤ 141836999983104) (h : 274 ≤ l.length) :
    Calls Tryd.prog 30 #[.slice A n cap] w (ReadX l w (readT l)) := by
  unfold readT
  by_cases hok : okLen l
  · rw [if_pos hok]
    refine (tread_ok A n cap l w hr hn h hok).mono ?_
    rintro e w' ⟨vn, vf, ve, N0, gs, rfl, h1, h2, h3⟩
    refine ⟨vn, vf, ve, N0, _, gs, rfl, h1, h2, hok.2.1, ?_, ?_, ?_, tab_sound _ _ _, h3, rfl⟩
    all_goals (unfold tabAt; simp; exact hok.1)
  · rw [if_neg hok]
    refine (tread_bad A n cap l w hr hn h hok).mono ?_
    rintro e w' ⟨rfl, h3⟩
    exact ⟨nilV, nilV, nilV, w.heap.size, 0, [], rfl, Nat.le_refl _, OL.nil w' _ zcls 0, by omega, Nat.zero_le _, Nat.zero_le _, Nat.zero_le _, zero_sound, h3, rfl⟩
set_option maxRecDepth 100000 in
set_option maxHeartbeats 4000000 in
theorem tdecode_ok (A : Option Addr) (n cap : Nat) (l : List UInt8) (w : World) (hT : CrcTab w) (hr : RB w A n l) (hn : n ≤ 141836999983104) (h : 274 ≤ l.length) (hf : Fits (readT l)) (he : encT (readT l) = l) :
    Calls Tryd.prog 14 #[.slice A n cap] w (SomeT (readT l) w) := by
  have HF := Lib.hid hf; have HE := Lib.hid he
  clear hf he
  have hlen := hr.1
  have HR := Lib.hid hr; have HCT := Lib.hid hT
  clear hr hT
  have hz := zero_run
  go_enter Tryd.func14, Tryd.ntmps14
  go_upto_region 1 with fail
  obtain ⟨w1, hw1⟩ : ∃ w1, w1 = w.alloc (.cells (dcells zcls nilV nilV nilV) 26) := ⟨_, rfl⟩
  obtain ⟨b2, hb2⟩ : ∃ b2, b2 = w.heap.size := ⟨_, rfl⟩
  rw [← hw1, ← hb2]
  have HB1 : Hid (Below w.heap.size w w1) := Lib.hid (by rw [hw1]; exact below_alloc _ _)
  have Z1 : Hid (Blk w1 b2 26 (dcells zcls nilV nilV nilV) ∧ w.heap.size ≤ b2) := Lib.hid ⟨by rw [hw1, hb2]; exact Blk.new _ _ _ rfl, by omega⟩
  clear hw1 hb2
  have zi : Hid ((Tryd.prog.info? 26).map (·.size) = some (dcells zcls nilV nilV nilV).size) := Lib.hid (by rw [size259, zsize])
  obtain ⟨zc, hzc⟩ : ∃ zc, zc = dcells zcls nilV nilV nilV := ⟨_, rfl⟩
  have HZC := Lib.hid hzc
  rw [← hzc] at zi Z1 hz
  clear hzc
  have h274 : ¬ n < 274 := by omega
  go_wp2_with fail
  refine (read_x A n cap l w1 (HR.out.keep HB1.out) hn (by omega)).mono ?_
  rintro e w2 ⟨vn, vf, ve, N0, m, gs, rfl, hN0, hol, hm, hq1, hq2, hq3, hsd, hb2, _⟩
  have HO := Lib.hid hol
  have B2 : Hid (Below w.heap.size w w2) := Lib.hid (HB1.out.trans (hb2.mono HB1.out.size))
  have Z2 : Hid (Blk w2 b2 26 zc) := Lib.hid (Z1.out.1.keep hb2)
  have HQ : Hid (w.heap.size ≤ N0 ∧ b2 < N0 ∧ m ≤ 256 ∧ (readT l).nx.length ≤ 4096 ∧ (readT l).fo.length ≤ 4096 ∧ (readT l).en.length ≤ 4096 ∧ Sound (readT l)) := Lib.hid ⟨Nat.le_trans HB1.out.size hN0, by have := Z1.out.1.lt; omega, hm, hq1, hq2, hq3, hsd⟩
  have TB2 : Hid (TB w2 (dcells (readT l).cls vn vf ve) (readT l)) := Lib.hid (hol.tb hsd.hc hsd.hu (by omega) ⟨by omega, by omega, by omega⟩)
  have ds : Hid ((dcells (readT l).cls vn vf ve).size = 259 ∧ (dcells (readT l).cls vn vf ve).all (·.oneCell') = true) := Lib.hid ⟨dcells_size hsd.hc, dcells_one (own_one hol.on) (own_one hol.of_) (own_one hol.oe)⟩
  obtain ⟨dc, hdc⟩ : ∃ dc, dc = dcells (readT l).cls vn vf ve := ⟨_, rfl⟩
  have HDC := Lib.hid hdc
  rw [← hdc] at TB2 ds ⊢
  clear hdc hol hb2 hm hq1 hq2 hq3 hsd hN0
  have di : Hid ((Tryd.prog.info? 26).map (·.size) = some dc.size) := Lib.hid (by rw [size259, ds.out.1])
  have dl : Hid ((Tryd.prog.info? 26).map (·.size) = some dc.toList.length) := Lib.hid (by rw [size259, Array.length_toList, ds.out.1])
  have BA : Hid (Blk (w2.alloc (.cells zc 26)) w2.heap.size 26 zc) := Lib.hid (Blk.new _ _ _ rfl)
  have BAs : Hid (Blk ((w2.alloc (.cells zc 26)).setCells w2.heap.size 0 dc.toList) w2.heap.size 26 dc) := Lib.hid (Blk.setAll BA.out dc (by rw [ds.out.1, HZC.out, zsize]))
  go_upto_region 4 with (first | (with_reducible refine wpList_store_mid rfl _ _ _ rfl w2.heap.size 0 dc rfl (by simp [Act.eval]) (there_blk BA.out _ (by rw [ds.out.1, HZC.out, zsize]; exact Nat.le_refl _)) di.out ds.out.2 ?_))
  obtain ⟨w3, hw3⟩ : ∃ w3, w3 = (w2.alloc (.cells zc 26)).setCells w2.heap.size 0 dc.toList := ⟨_, rfl⟩
  have hb3 : Below w2.heap.size w2 w3 := by
    rw [hw3]
    have hc := Chg.setCells (S := fun b => b = w2.heap.size) dc.toList 0 (Chg.refl (fun b => b = w2.heap.size) (w2.alloc (.cells zc 26))) rfl
    exact (below_alloc _ _).trans (hc.below (fun k hk e => by omega) (by simp))
  obtain ⟨b4, hb4⟩ : ∃ b4, b4 = w2.heap.size := ⟨_, rfl⟩
  have D3 : Hid (DX w3 b4 dc (readT l)) := Lib.hid ⟨by rw [hw3, hb4]; exact BAs.out, TB2.out.keep hb3⟩
  have O3 : Hid (OL w3 N0 vn vf ve (readT l) m gs) := Lib.hid (HO.out.keep hb3)
  have Z3 : Hid (Blk w3 b2 26 zc) := Lib.hid (Z2.out.keep hb3)
  have B3 : Hid (Below w.heap.size w w3) := Lib.hid (B2.out.trans (hb3.mono B2.out.size))
  rw [← hw3, ← hb4]
  clear hw3 hb3 hb4 BA BAs TB2 HO Z2 B2
  have RG := Lib.hid (rangeAt_blk D3.out.blk)
  have CE := Lib.hid (tencode_ok dc _ w3 (HCT.out.keep B3.out) D3.out.tb HF.out)
  go_wp2_with (with_reducible refine wpList_load_mid rfl _ _ rfl b4 0 rfl dc.toList _ RG.out Tryd.underlying26 rfl dl.out ?_)
  refine CE.out.mono ?_
  rintro e w4 ⟨v4, rfl, ho4, hb4⟩
  obtain ⟨D4, dc4, rfl, _, _, hr4⟩ := ho4.form
  rw [HE.out] at hr4
  have R4 := Lib.hid hr4
  have RL : Hid (RB w4 A n l) := Lib.hid ((HR.out.keep B3.out).keep (hb4.mono (Nat.le_refl _)))
  have ll : Hid ((encT (readT l)).length = l.length) := Lib.hid (by rw [HE.out])
  obtain ⟨L, hL⟩ : ∃ L, L = (encT (readT l)).length := ⟨_, rfl⟩
  have DX4 := Lib.hid (D3.out.keep hb4)
  have O4 : Hid (OL w4 N0 vn vf ve (readT l) m gs) := Lib.hid (O3.out.keep hb4)
  have Z4 : Hid (Blk w4 b2 26 zc) := Lib.hid (Z3.out.keep hb4)
  have B4 : Hid (Below w.heap.size w w4) := Lib.hid (B3.out.trans (hb4.mono B3.out.size))
  rw [← hL]
  have R5 : Hid (RB w4 D4 L l) := Lib.hid (by rw [hL, ll.out]; exact R4.out)
  have CQ := Lib.hid (equal_any D4 A L n dc4 cap l l w4 R5.out RL.out)
  have hbb : (l == l) = true := beq_self_eq_true l
  rw [hbb] at CQ
  have RG4 := Lib.hid (rangeAt_blk DX4.out.blk)
  clear hL ho4 hr4 hb4 R4 RL ll hbb D3 O3 Z3 B3 RG CE
  go_wp2_with (first | (go_at_call 31; refine CQ.out.mono ?_; rintro e wq ⟨rfl, rfl⟩) | (with_reducible refine wpList_load_mid rfl _ _ rfl b4 0 rfl dc.toList _ RG4.out Tryd.underlying26 rfl dl.out ?_) | (with_reducible refine wpList_store_mid rfl _ _ _ rfl b2 0 dc rfl (by first | (simp [Act.eval]; done) | simp [Act.eval, Act.put]) (there_blk Z4.out _ (by rw [ds.out.1, HZC.out, zsize]; exact Nat.le_refl _)) di.out ds.out.2 ?_))
  have hb5 : Blk (w4.setCells b2 0 dc.toList) b2 26 dc := Blk.setAll Z4.out dc (by rw [ds.out.1, HZC.out, zsize])
  have hc5 : Chg (fun b => b = b2) w4 (w4.setCells b2 0 dc.toList) := Chg.setCells (S := fun b => b = b2) _ _ (Chg.refl _ w4) rfl
  refine bodyPost_ret (ret_cell rfl rfl rfl hb5 ds.out.1) rfl ?_
  have hq := HQ.out
  exact ⟨vn, vf, ve, N0, m, gs, by rw [HDC.out], hq.1, O4.out.chg hc5 (fun b hb _ e => by omega), hq.2.2.1, hq.2.2.2.1, B4.out.trans (hc5.below (fun b hb e => by have := Z1.out.2; omega) B4.out.size)⟩
set_option maxRecDepth 100000 in
set_option maxHeartbeats 4000000 in
theorem tdecode_no (A : Option Addr) (n cap : Nat) (l : List UInt8) (w : World) (hT : CrcTab w) (hr : RB w A n l) (hn : n ≤ 141836999983104) (h : 274 ≤ l.length) (hf : Fits (readT l)) (he : encT (readT l) ≠ l) :
    Calls Tryd.prog 14 #[.slice A n cap] w (NoneT w) := by
  have HF := Lib.hid hf; have HE := Lib.hid he
  clear hf he
  have hlen := hr.1
  have HR := Lib.hid hr; have HCT := Lib.hid hT
  clear hr hT
  have hz := zero_run
  go_enter Tryd.func14, Tryd.ntmps14
  go_upto_region 1 with fail
  obtain ⟨w1, hw1⟩ : ∃ w1, w1 = w.alloc (.cells (dcells zcls nilV nilV nilV) 26) := ⟨_, rfl⟩
  obtain ⟨b2, hb2⟩ : ∃ b2, b2 = w.heap.size := ⟨_, rfl⟩
  rw [← hw1, ← hb2]
  have HB1 : Hid (Below w.heap.size w w1) := Lib.hid (by rw [hw1]; exact below_alloc _ _)
  have Z1 : Hid (Blk w1 b2 26 (dcells zcls nilV nilV nilV) ∧ w.heap.size ≤ b2) := Lib.hid ⟨by rw [hw1, hb2]; exact Blk.new _ _ _ rfl, by omega⟩
  clear hw1 hb2
  have zi : Hid ((Tryd.prog.info? 26).map (·.size) = some (dcells zcls nilV nilV nilV).size) := Lib.hid (by rw [size259, zsize])
  obtain ⟨zc, hzc⟩ : ∃ zc, zc = dcells zcls nilV nilV nilV := ⟨_, rfl⟩
  have HZC := Lib.hid hzc
  rw [← hzc] at zi Z1 hz
  clear hzc
  have h274 : ¬ n < 274 := by omega
  go_wp2_with fail
  refine (read_x A n cap l w1 (HR.out.keep HB1.out) hn (by omega)).mono ?_
  rintro e w2 ⟨vn, vf, ve, N0, m, gs, rfl, hN0, hol, hm, hq1, hq2, hq3, hsd, hb2, _⟩
  have HO := Lib.hid hol
  have B2 : Hid (Below w.heap.size w w2) := Lib.hid (HB1.out.trans (hb2.mono HB1.out.size))
  have Z2 : Hid (Blk w2 b2 26 zc) := Lib.hid (Z1.out.1.keep hb2)
  have HQ : Hid (w.heap.size ≤ N0 ∧ b2 < N0 ∧ m ≤ 256 ∧ (readT l).nx.length ≤ 4096 ∧ (readT l).fo.length ≤ 4096 ∧ (readT l).en.length ≤ 4096 ∧ Sound (readT l)) := Lib.hid ⟨Nat.le_trans HB1.out.size hN0, by have := Z1.out.1.lt; omega, hm, hq1, hq2, hq3, hsd⟩
  have TB2 : Hid (TB w2 (dcells (readT l).cls vn vf ve) (readT l)) := Lib.hid (hol.tb hsd.hc hsd.hu (by omega) ⟨by omega, by omega, by omega⟩)
  have ds : Hid ((dcells (readT l).cls vn vf ve).size = 259 ∧ (dcells (readT l).cls vn vf ve).all (·.oneCell') = true) := Lib.hid ⟨dcells_size hsd.hc, dcells_one (own_one hol.on) (own_one hol.of_) (own_one hol.oe)⟩
  obtain ⟨dc, hdc⟩ : ∃ dc, dc = dcells (readT l).cls vn vf ve := ⟨_, rfl⟩
  have HDC := Lib.hid hdc
  rw [← hdc] at TB2 ds ⊢
  clear hdc hol hb2 hm hq1 hq2 hq3 hsd hN0
  have di : Hid ((Tryd.prog.info? 26).map (·.size) = some dc.size) := Lib.hid (by rw [size259, ds.out.1])
  have dl : Hid ((Tryd.prog.info? 26).map (·.size) = some dc.toList.length) := Lib.hid (by rw [size259, Array.length_toList, ds.out.1])
  have BA : Hid (Blk (w2.alloc (.cells zc 26)) w2.heap.size 26 zc) := Lib.hid (Blk.new _ _ _ rfl)
  have BAs : Hid (Blk ((w2.alloc (.cells zc 26)).setCells w2.heap.size 0 dc.toList) w2.heap.size 26 dc) := Lib.hid (Blk.setAll BA.out dc (by rw [ds.out.1, HZC.out, zsize]))
  go_upto_region 4 with (first | (with_reducible refine wpList_store_mid rfl _ _ _ rfl w2.heap.size 0 dc rfl (by simp [Act.eval]) (there_blk BA.out _ (by rw [ds.out.1, HZC.out, zsize]; exact Nat.le_refl _)) di.out ds.out.2 ?_))
  obtain ⟨w3, hw3⟩ : ∃ w3, w3 = (w2.alloc (.cells zc 26)).setCells w2.heap.size 0 dc.toList := ⟨_, rfl⟩
  have hb3 : Below w2.heap.size w2 w3 := by
    rw [hw3]
    have hc := Chg.setCells (S := fun b => b = w2.heap.size) dc.toList 0 (Chg.refl (fun b => b = w2.heap.size) (w2.alloc (.cells zc 26))) rfl
    exact (below_alloc _ _).trans (hc.below (fun k hk e => by omega) (by simp))
  obtain ⟨b4, hb4⟩ : ∃ b4, b4 = w2.heap.size := ⟨_, rfl⟩
  have D3 : Hid (DX w3 b4 dc (readT l)) := Lib.hid ⟨by rw [hw3, hb4]; exact BAs.out, TB2.out.keep hb3⟩
  have O3 : Hid (OL w3 N0 vn vf ve (readT l) m gs) := Lib.hid (HO.out.keep hb3)
  have Z3 : Hid (Blk w3 b2 26 zc) := Lib.hid (Z2.out.keep hb3)
  have B3 : Hid (Below w.heap.size w w3) := Lib.hid (B2.out.trans (hb3.mono B2.out.size))
  rw [← hw3, ← hb4]
  clear hw3 hb3 hb4 BA BAs TB2 HO Z2 B2
  have RG := Lib.hid (rangeAt_blk D3.out.blk)
  have CE := Lib.hid (tencode_ok dc _ w3 (HCT.out.keep B3.out) D3.out.tb HF.out)
  go_wp2_with (with_reducible refine wpList_load_mid rfl _ _ rfl b4 0 rfl dc.toList _ RG.out Tryd.underlying26 rfl dl.out ?_)
  refine CE.out.mono ?_
  rintro e w4 ⟨v4, rfl, ho4, hb4⟩
  obtain ⟨D4, dc4, rfl, _, _, hr4⟩ := ho4.form
  have RL : Hid (RB w4 A n l) := Lib.hid ((HR.out.keep B3.out).keep (hb4.mono (Nat.le_refl _)))
  have ZB : Hid (Blk w4 b2 26 zc) := Lib.hid (Z3.out.keep hb4)
  have BW : Hid (Below w.heap.size w w4) := Lib.hid (B3.out.trans (hb4.mono B3.out.size))
  have CQ := Lib.hid (equal_any D4 A _ n dc4 cap _ l w4 hr4 RL.out)
  have hbb : (encT (readT l) == l) = false := beq_eq_false_iff_ne.2 HE.out
  rw [hbb] at CQ
  obtain ⟨L, hL⟩ : ∃ L, L = (encT (readT l)).length := ⟨_, rfl⟩
  rw [← hL] at CQ ⊢
  obtain ⟨WW, hWW⟩ : ∃ WW, WW = w4 := ⟨_, rfl⟩
  rw [← hWW] at ZB BW CQ ⊢
  clear hL ho4 hr4 hb4 RL hbb D3 O3 Z3 B3 RG CE hWW
  go_wp2_with (first | (go_at_call 31; refine CQ.out.mono ?_; rintro e wq ⟨rfl, rfl⟩) | (with_reducible refine wpList_store_mid rfl _ _ _ rfl b2 0 zc rfl (by simp [Act.eval]) (there_blk ZB.out _ (Nat.le_refl _)) zi.out (by rw [HZC.out]; exact zone) ?_))
  have hb3 : Blk (WW.setCells b2 0 zc.toList) b2 26 zc := Blk.setAll ZB.out zc rfl
  have hc3 : Chg (fun b => b = b2) WW (WW.setCells b2 0 zc.toList) := Chg.setCells (S := fun b => b = b2) _ _ (Chg.refl _ WW) rfl
  refine bodyPost_ret (ret_cell rfl rfl rfl hb3 (by rw [HZC.out]; exact zsize)) rfl ?_
  exact ⟨by rw [HZC.out], BW.out.trans (hc3.below (fun b hb e => by have := Z1.out.2; omega) BW.out.size)⟩
set_option maxRecDepth 100000 in
set_option maxHeartbeats 4000000 in
theorem tdecode_unfit (A : Option Addr) (n cap : Nat) (l : List UInt8) (w : World) (hT : CrcTab w) (hr : RB w A n l) (hn : n ≤ 141836999983104) (h : 274 ≤ l.length) (hf : ¬ Fits (readT l)) :
    Calls Tryd.prog 14 #[.slice A n cap] w (NoneT w) := by
  have HF := Lib.hid hf
  clear hf
  have hlen := hr.1
  have HR := Lib.hid hr; have HCT := Lib.hid hT
  clear hr hT
  have hz := zero_run
  go_enter Tryd.func14, Tryd.ntmps14
  go_upto_region 1 with fail
  obtain ⟨w1, hw1⟩ : ∃ w1, w1 = w.alloc (.cells (dcells zcls nilV nilV nilV) 26) := ⟨_, rfl⟩
  obtain ⟨b2, hb2⟩ : ∃ b2, b2 = w.heap.size := ⟨_, rfl⟩
  rw [← hw1, ← hb2]
  have HB1 : Hid (Below w.heap.size w w1) := Lib.hid (by rw [hw1]; exact below_alloc _ _)
  have Z1 : Hid (Blk w1 b2 26 (dcells zcls nilV nilV nilV) ∧ w.heap.size ≤ b2) := Lib.hid ⟨by rw [hw1, hb2]; exact Blk.new _ _ _ rfl, by omega⟩
  clear hw1 hb2
  have zi : Hid ((Tryd.prog.info? 26).map (·.size) = some (dcells zcls nilV nilV nilV).size) := Lib.hid (by rw [size259, zsize])
  obtain ⟨zc, hzc⟩ : ∃ zc, zc = dcells zcls nilV nilV nilV := ⟨_, rfl⟩
  have HZC := Lib.hid hzc
  rw [← hzc] at zi Z1 hz
  clear hzc
  have h274 : ¬ n < 274 := by omega
  go_wp2_with fail
  refine (read_x A n cap l w1 (HR.out.keep HB1.out) hn (by omega)).mono ?_
  rintro e w2 ⟨vn, vf, ve, N0, m, gs, rfl, hN0, hol, hm, hq1, hq2, hq3, hsd, hb2, _⟩
  have HO := Lib.hid hol
  have B2 : Hid (Below w.heap.size w w2) := Lib.hid (HB1.out.trans (hb2.mono HB1.out.size))
  have Z2 : Hid (Blk w2 b2 26 zc) := Lib.hid (Z1.out.1.keep hb2)
  have HQ : Hid (w.heap.size ≤ N0 ∧ b2 < N0 ∧ m ≤ 256 ∧ (readT l).nx.length ≤ 4096 ∧ (readT l).fo.length ≤ 4096 ∧ (readT l).en.length ≤ 4096 ∧ Sound (readT l)) := Lib.hid ⟨Nat.le_trans HB1.out.size hN0, by have := Z1.out.1.lt; omega, hm, hq1, hq2, hq3, hsd⟩
  have TB2 : Hid (TB w2 (dcells (readT l).cls vn vf ve) (readT l)) := Lib.hid (hol.tb hsd.hc hsd.hu (by omega) ⟨by omega, by omega, by omega⟩)
  have ds : Hid ((dcells (readT l).cls vn vf ve).size = 259 ∧ (dcells (readT l).cls vn vf ve).all (·.oneCell') = true) := Lib.hid ⟨dcells_size hsd.hc, dcells_one (own_one hol.on) (own_one hol.of_) (own_one hol.oe)⟩
  obtain ⟨dc, hdc⟩ : ∃ dc, dc = dcells (readT l).cls vn vf ve := ⟨_, rfl⟩
  have HDC := Lib.hid hdc
  rw [← hdc] at TB2 ds ⊢
  clear hdc hol hb2 hm hq1 hq2 hq3 hsd hN0
  have di : Hid ((Tryd.prog.info? 26).map (·.size) = some dc.size) := Lib.hid (by rw [size259, ds.out.1])
  have dl : Hid ((Tryd.prog.info? 26).map (·.size) = some dc.toList.length) := Lib.hid (by rw [size259, Array.length_toList, ds.out.1])
  have BA : Hid (Blk (w2.alloc (.cells zc 26)) w2.heap.size 26 zc) := Lib.hid (Blk.new _ _ _ rfl)
  have BAs : Hid (Blk ((w2.alloc (.cells zc 26)).setCells w2.heap.size 0 dc.toList) w2.heap.size 26 dc) := Lib.hid (Blk.setAll BA.out dc (by rw [ds.out.1, HZC.out, zsize]))
  go_upto_region 4 with (first | (with_reducible refine wpList_store_mid rfl _ _ _ rfl w2.heap.size 0 dc rfl (by simp [Act.eval]) (there_blk BA.out _ (by rw [ds.out.1, HZC.out, zsize]; exact Nat.le_refl _)) di.out ds.out.2 ?_))
  obtain ⟨w3, hw3⟩ : ∃ w3, w3 = (w2.alloc (.cells zc 26)).setCells w2.heap.size 0 dc.toList := ⟨_, rfl⟩
  have hb3 : Below w2.heap.size w2 w3 := by
    rw [hw3]
    have hc := Chg.setCells (S := fun b => b = w2.heap.size) dc.toList 0 (Chg.refl (fun b => b = w2.heap.size) (w2.alloc (.cells zc 26))) rfl
    exact (below_alloc _ _).trans (hc.below (fun k hk e => by omega) (by simp))
  obtain ⟨b4, hb4⟩ : ∃ b4, b4 = w2.heap.size := ⟨_, rfl⟩
  have D3 : Hid (DX w3 b4 dc (readT l)) := Lib.hid ⟨by rw [hw3, hb4]; exact BAs.out, TB2.out.keep hb3⟩
  have O3 : Hid (OL w3 N0 vn vf ve (readT l) m gs) := Lib.hid (HO.out.keep hb3)
  have Z3 : Hid (Blk w3 b2 26 zc) := Lib.hid (Z2.out.keep hb3)
  have B3 : Hid (Below w.heap.size w w3) := Lib.hid (B2.out.trans (hb3.mono B2.out.size))
  rw [← hw3, ← hb4]
  clear hw3 hb3 hb4 BA BAs TB2 HO Z2 B2
  have RG := Lib.hid (rangeAt_blk D3.out.blk)
  have CE := Lib.hid (tencode_bad dc _ w3 D3.out.tb (rightB_false HF.out))
  go_wp2_with (with_reducible refine wpList_load_mid rfl _ _ rfl b4 0 rfl dc.toList _ RG.out Tryd.underlying26 rfl dl.out ?_)
  refine CE.out.mono ?_
  rintro e w4 ⟨rfl, hb4⟩
  have ZB : Hid (Blk w4 b2 26 zc) := Lib.hid (Z3.out.keep hb4)
  have BW : Hid (Below w.heap.size w w4) := Lib.hid (B3.out.trans (hb4.mono B3.out.size))
  obtain ⟨WW, hWW⟩ : ∃ WW, WW = w4 := ⟨_, rfl⟩
  rw [← hWW] at ZB BW ⊢
  clear hb4 D3 O3 Z3 B3 RG CE hWW
  go_wp2_with (with_reducible refine wpList_store_mid rfl _ _ _ rfl b2 0 zc rfl (by simp [Act.eval]) (there_blk ZB.out _ (Nat.le_refl _)) zi.out (by rw [HZC.out]; exact zone) ?_)
  have hb3 : Blk (WW.setCells b2 0 zc.toList) b2 26 zc := Blk.setAll ZB.out zc rfl
  have hc3 : Chg (fun b => b = b2) WW (WW.setCells b2 0 zc.toList) := Chg.setCells (S := fun b => b = b2) _ _ (Chg.refl _ WW) rfl
  refine bodyPost_ret (ret_cell rfl rfl rfl hb3 (by rw [HZC.out]; exact zsize)) rfl ?_
  exact ⟨by rw [HZC.out], BW.out.trans (hc3.below (fun b hb e => by have := Z1.out.2; omega) BW.out.size)⟩
/-- the bytes are a table's -/
def IsEnc (l : List UInt8) : Prop := ∃ t, Sound t ∧ Fits t ∧ l = encT t
theorem readT_enc {t : Tb} (hs : Sound t) (h : Fits t) : readT (encT t) = t := by unfold readT; rw [if_pos (enc_okLen hs h)]; exact enc_tab hs h
theorem decode_yes {t : Tb} (A : Option Addr) (n cap : Nat) (w : World) (hT : CrcTab w) (hs : Sound t) (hf : Fits t) (hr : RB w A n (encT t)) :
    Calls Tryd.prog 14 #[.slice A n cap] w (SomeT t w) := by
  have e := readT_enc hs hf
  have hl := encT_length hs.hc hf
  have hle := rows_le hf.n2 hf.m2
  have := tdecode_ok A n cap (encT t) w hT hr (by have := hr.1; omega) (by omega) (by rw [e]; exact hf) (by rw [e])
  rw [e] at this
  exact this
theorem readT_sound (l : List UInt8) : Sound (readT l) := by
  unfold readT
  by_cases h : okLen l
  · rw [if_pos h]; exact tab_sound _ _ _
  · rw [if_neg h]; exact zero_sound
theorem decode_none (A : Option Addr) (n cap : Nat) (l : List UInt8) (w : World) (hT : CrcTab w) (hr : RB w A n l) (hn : n ≤ 141836999983104) (h : ¬ IsEnc l) :
    Calls Tryd.prog 14 #[.slice A n cap] w (NoneT w) := by
  have hl := hr.1
  by_cases h1 : n < 274
  · exact tdecode_short A n cap w h1
  · by_cases hf : Fits (readT l)
    · exact tdecode_no A n cap l w hT hr hn (by omega) hf (fun e => h ⟨readT l, readT_sound l, hf, e.symm⟩)
    · exact tdecode_unfit A n cap l w hT hr hn (by omega) hf
end Go.Proofs.YtnglgppdkohhpaaDoor
