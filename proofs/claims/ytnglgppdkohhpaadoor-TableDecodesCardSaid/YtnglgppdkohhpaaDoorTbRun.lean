/- THE WALK of subset.Run. -/
import Derived.Test.YtnglgppdkohhpaaDoorTbSame
namespace Go.Proofs.YtnglgppdkohhpaaDoor
open Go.RowKit
def stepT (t : Tb) (s : Nat) (c : UInt8) : Nat := ((t.nx.getD s []).getD (t.cls.getD c.toNat 0).toNat 0).toNat
def runT (t : Tb) (l : List UInt8) : Nat := t.en.getD (l.foldl (stepT t) 0) 0
def RunQ (t : Tb) (l : List UInt8) (w : World) (e : Ending) (w' : World) : Prop := e = .returned (.tuple #[.int .u32 (runT t l : Int), .int .i64 0]) ∧ Below w.heap.size w w'
theorem fold_snoc (t : Tb) (s : ByteArray) (k : Nat) (h : k < s.size) : (s.data.toList.take (k + 1)).foldl (stepT t) 0 = stepT t ((s.data.toList.take k).foldl (stepT t) 0) s[k] := by
  have e : s.data.toList[k]? = some s[k] := by
    rw [Array.getElem?_toList]
    exact Array.getElem?_eq_getElem h
  rw [take_snoc e, List.foldl_append]; rfl
set_option maxRecDepth 100000 in
set_option maxHeartbeats 4000000 in
theorem run_any (cs : Array Value) (t : Tb) (s : ByteArray) (w : World) (h : TB w cs t) (hf : Fits t) (hs : s.size ≤ 281474976710656) :
    Calls Tryd.prog 20 #[.agg cs, .string s] w (RunQ t s.data.toList w) := by
  have HF := Lib.hid hf; have HT := Lib.hid h
  obtain ⟨w1, hw1⟩ : ∃ w1, w1 = w.alloc (.cells cs 26) := ⟨_, rfl⟩
  obtain ⟨b, hbb⟩ : ∃ b, b = w.heap.size := ⟨_, rfl⟩
  have D : Hid (DX w1 b cs t) := Lib.hid (by rw [hw1, hbb]; exact DX.new h)
  have HB : Hid (Below w.heap.size w w1) := Lib.hid (by rw [hw1]; exact below_alloc _ _)
  clear h hf
  go_enter Tryd.func20, Tryd.ntmps20
  go_upto_region 1 with fail
  rw [← hw1, ← hbb]
  clear hw1 hbb
  have LI : Hid ((Tryd.prog.info? 26).map (·.size) = some cs.toList.length) := Lib.hid (by rw [size259, Array.length_toList, D.out.tb.size])
  have CR : Hid (Calls Tryd.prog 19 #[.agg cs] w1 (RightP true w1)) := Lib.hid (by have := right_any cs _ w1 D.out.tb; rw [rightB_true HF.out] at this; exact this)
  have RG := Lib.hid (rangeAt_blk D.out.blk)
  go_wp2_with (with_reducible refine wpList_load_mid rfl _ _ rfl b 0 rfl cs.toList _ RG.out Tryd.underlying26 rfl LI.out ?_)
  refine CR.out.mono ?_
  rintro e w2 ⟨rfl, hb2⟩
  have B2 : Hid (Below w.heap.size w w2) := Lib.hid (HB.out.trans (hb2.mono HB.out.size))
  have D2 := Lib.hid (D.out.keep hb2)
  clear hb2 CR LI RG D HB
  obtain ⟨An, cn, Af, cf, Ae, ce, c1, c2, c3, l1, l2, l3, r1, r2, r3⟩ := D2.out.open_
  obtain ⟨n, hn⟩ : ∃ n, n = t.nx.length := ⟨_, rfl⟩
  obtain ⟨m, hm⟩ : ∃ m, m = many t := ⟨_, rfl⟩
  have HN : Hid (n = t.nx.length ∧ t.en.length = n ∧ m = many t) := Lib.hid ⟨hn, by rw [hn]; exact HF.out.e, hm⟩
  rw [← hn] at c1 r1
  rw [HN.out.2.1] at c3 r3
  have hn1 : 1 ≤ n := by rw [hn]; exact HF.out.n1
  have hn2 : n ≤ 4096 := by rw [hn]; exact HF.out.n2
  have hm2 : m ≤ 256 := by rw [hm]; exact HF.out.m2
  have R1 := Lib.hid r1; have R3 := Lib.hid r3
  clear r1 r2 r3 c2 l1 l2 l3 hn hm
  go_wp2_with fail
  go_loopw [13, 6] (fun iv sv W => ∃ k q : Nat, k ≤ s.size ∧ iv = .int .i64 (k : Int) ∧ sv = .int .i64 (q : Int) ∧ q < n ∧ Hid (q = (s.data.toList.take k).foldl (stepT t) 0) ∧ Hid (Below w2.heap.size w2 W)) (fun iv _ _ => s.size - (intOf iv).toNat)
  case atStart => exact ⟨0, 0, Nat.zero_le _, rfl, rfl, by omega, Lib.hid rfl, Lib.hid (Below.refl _ _)⟩
  case round =>
    obtain ⟨k, q, hk, rfl, rfl, hq, HQ, BK⟩ := hrel
    by_cases hlt : k < s.size
    · have d1 : wr.cell? ⟨b, 256, none⟩ = some (.slice An n cn) := cell_later BK.out c1
      obtain ⟨bn, on, rfl, hbn, row, A1, v1, hrow, hrc, k1, rr⟩ := (R1.out.keep BK.out).at_ hq
      have hrl : row.length = m := by rw [HN.out.2.2]; exact (HF.out.r q row hrow).1
      have hx256 : s[k].toNat < 256 := s[k].toNat_lt
      obtain ⟨x, hx⟩ : ∃ x, t.cls[s[k].toNat]? = some x := ⟨_, List.getElem?_eq_getElem (by rw [HT.out.hc]; exact hx256)⟩
      have hxb := HF.out.c _ x hx
      rw [← HN.out.2.2] at hxb
      obtain ⟨hx0, hx1⟩ := hxb
      obtain ⟨c, rfl⟩ := Int.eq_ofNat_of_zero_le hx0
      have k2 : wr.cell? ⟨b, s[k].toNat, none⟩ = some (.int .i64 (c : Int)) := (D2.out.keep BK.out).cls hx
      obtain ⟨bx, ox, rfl, hbx, y, hy, k3⟩ := rr.at_ (k := c) (by omega)
      simp only [iV] at k3
      have hyb := withinB_range ((HF.out.r q row hrow).2.2 c y hy)
      rw [← HN.out.1] at hyb
      obtain ⟨hy0, hy1⟩ := hyb
      obtain ⟨z, rfl⟩ := Int.eq_ofNat_of_zero_le hy0
      rw [hrl] at k1 hrc
      have HV : Hid (stepT t q s[k] = z) := Lib.hid (by
        unfold stepT
        rw [List.getD_eq_getElem?_getD (l := t.nx), hrow, Option.getD_some, List.getD_eq_getElem?_getD (l := t.cls), hx, Option.getD_some, Int.toNat_natCast, List.getD_eq_getElem?_getD, hy]; rfl)
      have hq0 : (0 : Int) ≤ (q : Int) := by omega
      have hqn : (q : Int) < (n : Int) := by omega
      have hc0 : (0 : Int) ≤ (c : Int) := by omega
      have hcm : (c : Int) < (m : Int) := by omega
      have hk0 : (0 : Int) ≤ (k : Int) := by omega
      have hks : (k : Int) < (s.size : Int) := by omega
      have hzn : z < n := by omega
      clear hrow hx hy rr hx1 hy1 hbn hbx hrl
      go_upto_region 7 with fail
      go_quiet (fail)
      have BN : Hid (Below w2.heap.size w2 (wr.drewN nq)) := Lib.hid (below_drewN BK.out _)
      have HQ2 : Hid (z = (s.data.toList.take (k + 1)).foldl (stepT t) 0) := Lib.hid (by rw [fold_snoc t s k hlt, ← HQ.out]; exact HV.out.symm)
      clear k1 k2 k3 d1 HV
      go_wp2_with fail
      go_roundw
      case rel =>
        first
          | exact ⟨k + 1, z, by omega, by go_num, rfl, hzn, HQ2, BN⟩
          | ((repeat apply Exists.intro); exact ⟨⟨k + 1, z, by omega, by go_num, rfl, hzn, HQ2, BN⟩, rfl⟩)
      case measure => simp [intOf]; omega
    · obtain rfl : k = s.size := by omega
      have d3 : wr.cell? ⟨b, 258, none⟩ = some (.slice Ae n ce) := cell_later BK.out c3
      obtain ⟨be, oe, rfl, hbe, y, hy, e3⟩ := (R3.out.keep BK.out).at_ hq
      simp only [uV] at e3
      have hq0 : (0 : Int) ≤ (q : Int) := by omega
      have hqn : (q : Int) < (n : Int) := by omega
      have BR : Hid (Below w.heap.size w wr) := Lib.hid (B2.out.trans (BK.out.mono B2.out.size))
      have HR : Hid (runT t s.data.toList = y) := Lib.hid (by
        have h1 := HQ.out
        rw [List.take_of_length_le (by rw [Array.length_toList]; exact Nat.le_refl _)] at h1
        unfold runT
        rw [← h1]
        exact getD_some hy)
      clear hy hbe
      go_wp2_with fail
      go_ret2
      refine ⟨?_, BR.out⟩
      rw [HR.out]; rfl
end Go.Proofs.YtnglgppdkohhpaaDoor
