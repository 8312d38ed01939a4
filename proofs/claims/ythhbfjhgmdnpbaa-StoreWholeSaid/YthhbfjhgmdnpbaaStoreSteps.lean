/- THE WALK of the law StoreSteps. -/
import Derived.Test.YthhbfjhgmdnpbaaStoreOwn
import Derived.Test.YthhbfjhgmdnpbaaStepsLaw
import Derived.Test.YthhbfjhgmdnpbaaNames
namespace Go.Proofs.Ythhbfjhgmdnpbaa
open Go.RowKit Go.Maps
theorem SS.disk {w0 W w' : World} {C : Nat → Nat} {p n n' g : Nat} {d : Dk} {v : Value} {r : Wr} (h : SS w0 W C p n g d v r) {q : Int × Dk} {e : Ending} (hq : StepQ W w0.heap.size C 1 p n' q e w') : SS w0 w' (paint C W.heap.size 1) p n' g q.2 v r :=
  ⟨h.bel.trans (hq.2.2.below (fun k hk e => by have := h.sam k hk; rw [e] at this; cases this) h.bel.size), h.sam.trans (sam_paint _ _ _) h.bel.size, hq.2.1, h.wc.step hq.2.2 (sam_paint _ _ _) (fun b hb => by rw [hb]; decide), h.rok⟩
theorem SS.begun {w0 W w' : World} {C : Nat → Nat} {p n g : Nat} {d : Dk} {v : Value} {r : Wr} (h : SS w0 W C p n g d v r) {q : Int × Wr} {e : Ending} (hq : BegQ W w0.heap.size C 2 g q e w') (ho : q.2.Ok) : ∃ v', SS w0 w' (paint C W.heap.size 2) p n g d v' q.2 := by
  obtain ⟨_, ⟨v', hw⟩, hc⟩ := hq
  exact ⟨v', h.bel.trans (hc.below (fun k hk e => by have := h.wc.lo; omega) h.bel.size), h.sam.trans (sam_paint _ _ _) h.bel.size, h.dc.step hc (sam_paint _ _ _) (fun b hb => by rw [hb, h.wc.col.1]; decide), hw, ho⟩
theorem SS.keep2 {w0 W w' : World} {C C' : Nat → Nat} {p n g : Nat} {d : Dk} {v : Value} {r : Wr} (h : SS w0 W C p n g d v r) (hb : Below W.heap.size W w') (hs : Sam W.heap.size C C') : SS w0 w' C' p n g d v r :=
  ⟨h.bel.trans (hb.mono h.bel.size), h.sam.trans hs h.bel.size, h.dc.keep hb hs, h.wc.keep hb hs, h.rok⟩
theorem empty_str (s : ByteArray) : s.toList.isEmpty = decide (s = ⟨#[]⟩) := by
  rw [ByteArray.toList_eq]
  by_cases h : s = ⟨#[]⟩
  · subst h; rfl
  · rw [decide_eq_false h]
    cases hc : s.data.toList with
    | nil =>
      refine absurd (ByteArray.ext (Array.eq_empty_of_size_eq_zero ?_)) h
      have := congrArg List.length hc
      simpa using this
    | cons a t => rfl
/-- a block of the colour 3 -/
def K3 (W : World) (C : Nat → Nat) (b : Nat) (t : TypeId) (cs : Array Value) : Prop := Blk W b t cs ∧ C b = 3
theorem K3.chg {W w' : World} {C : Nat → Nat} {b : Nat} {t : TypeId} {cs : Array Value} (h : K3 W C b t cs) {c c' : Nat} (hc : Chg (fun q => C q = c) W w') (hne : c ≠ 3) : K3 w' (paint C W.heap.size c') b t cs :=
  ⟨h.1.chg hc (fun e => hne (by rw [← e, h.2])), by rw [paint_old C c' h.1.lt]; exact h.2⟩
theorem K3.keep {W w' : World} {C : Nat → Nat} {b : Nat} {t : TypeId} {cs : Array Value} (h : K3 W C b t cs) (hb : Below W.heap.size W w') : K3 w' C b t cs := ⟨h.1.chg (Chg.of_below hb (fun _ => False)) (fun e => e.elim), h.2⟩
set_option maxRecDepth 20000 in
set_option maxHeartbeats 4000000 in
theorem steps_law (s0 s1 s2 : ByteArray) (w : World) : Calls Try.prog 4 #[.string s0, .string s1, .string s2] w (TrueQ w) := by
  have CK := Lib.hid (known_any w)
  have HNU := Lib.hid num_any
  go_enter Try.func4, Try.ntmps4
  go_wp2_with fail
  refine CK.out.mono ?_
  rintro e wk ⟨rfl, hbk⟩
  have BK := Lib.hid hbk
  have CN := Lib.hid (new_c wk (fun _ => 0) 1)
  clear hbk CK
  go_wp2_with fail
  refine CN.out.mono ?_
  rintro e w1 ⟨p, rfl, hp, hd, hb⟩
  have D1 : Hid (DS w w1 (paint (fun _ => 0) wk.heap.size 1) p 0 emptyD) := Lib.hid ⟨BK.out.trans (hb.mono BK.out.size), (sam_paint (fun _ => 0) wk.heap.size 1).mono BK.out.size, by
    obtain ⟨h0, bf, bn, bs, fl, h1, h2⟩ := hd
    have h3 : DW w1 w.heap.size p 0 emptyD bf bn bs fl := ⟨h1.bd, h1.mf, h1.mn, h1.ms, ⟨Nat.le_trans BK.out.size h1.lo.1, Nat.le_trans BK.out.size h1.lo.2.1, Nat.le_trans BK.out.size h1.lo.2.2.1, Nat.le_trans BK.out.size h1.lo.2.2.2.1, h1.lo.2.2.2.2⟩, h1.hf, fun i g x hi hx => (by cases hx), h1.ap, h1.ab⟩
    exact ⟨h0, bf, bn, bs, fl, h3, h2⟩⟩
  have CW := Lib.hid (snew_any w1 (paint (fun _ => 0) wk.heap.size 1) 2 nName nScr okNm okSc)
  clear hd hb hp CN
  go_wp2_with fail
  refine CW.out.mono ?_
  rintro e w2 ⟨hb2, ⟨h0, _⟩ | ⟨_, g, rfl, hw⟩⟩
  · exact absurd (show newE nName nScr = 0 by unfold newE; rw [mayNm, maySc]; simp [neNS]) h0
  have S2 : Hid (SS w w2 (paint (paint (fun _ => 0) wk.heap.size 1) w1.heap.size 2) p 0 g emptyD (.slice none 0 0) ⟨nName, nScr, [], false, 0⟩) := Lib.hid ⟨D1.out.bel.trans (hb2.mono D1.out.bel.size), D1.out.sam.trans (sam_paint _ _ _) D1.out.bel.size, D1.out.dc.keep hb2 (sam_paint _ _ _), ⟨hw.blk, hw.own.less D1.out.bel.size, Nat.le_trans D1.out.bel.size hw.lo, hw.col⟩, ⟨okNm, okSc, by decide, fun _ => by decide⟩⟩
  obtain ⟨C2, hC2⟩ : ∃ C2, C2 = paint (paint (fun _ => 0) wk.heap.size 1) w1.heap.size 2 := ⟨_, rfl⟩
  rw [← hC2] at S2
  clear hb2 hw hC2 CW D1
  go_wp2_with fail
  refine (HNU.out _ _).mono ?_
  rintro e w2' ⟨rfl, rfl⟩
  go_wp2_with fail
  obtain ⟨w3, hw3⟩ : ∃ w3, w3 = w2.alloc (.cells #[.string s1, .string s2] 9) := ⟨_, rfl⟩
  obtain ⟨b3, hb3⟩ : ∃ b3, b3 = w2.heap.size := ⟨_, rfl⟩
  have BK3 : Hid (K3 w3 (paint C2 w2.heap.size 3) b3 9 #[.string s1, .string s2]) := Lib.hid ⟨by rw [hw3]; exact Blk.new w2 _ _ hb3, by rw [hb3]; exact paint_new C2 3 (Nat.le_refl _)⟩
  have S3 : Hid (SS w w3 (paint C2 w2.heap.size 3) p 0 g emptyD (.slice none 0 0) ⟨nName, nScr, [], false, 0⟩) := Lib.hid (S2.out.keep2 (by rw [hw3]; exact (Below.refl _ _).alloc (Nat.le_refl _) _) (sam_paint _ _ _))
  rw [← hw3, ← hb3]
  clear hw3 hb3 S2
  obtain ⟨ee, hee⟩ : ∃ ee, ee = !decide (s1 = ⟨#[]⟩) := ⟨_, rfl⟩
  have HEE := Lib.hid hee
  clear hee
  have HCL : Hid (∀ W C, K3 W C b3 9 #[.string s1, .string s2] → ∀ k, k < 2 → ∃ s : ByteArray, W.cell? ⟨b3, k, none⟩ = some (.string s) ∧ (k = 0 → s = s1)) := Lib.hid (fun W C hK k hk => by
    rcases (by omega : k = 0 ∨ k = 1) with rfl | rfl
    · exact ⟨s1, (hK.1.cell 0).trans rfl, fun _ => rfl⟩
    · exact ⟨s2, (hK.1.cell 1).trans rfl, by omega⟩)
  go_loopw [45] (fun s45 W => ∃ k : Nat, k ≤ 2 ∧ s45 = .int .i64 (k : Int) ∧ ∃ C d, Hid (SS w W C p (4 * k) g d (.slice none 0 0) ⟨nName, nScr, [], false, 0⟩) ∧ Hid (Pre k d ee) ∧ Hid (K3 W C b3 9 #[.string s1, .string s2])) (fun s45 _ => 2 - (intOf s45).toNat)
  case atStart => exact ⟨0, by omega, rfl, _, _, S3, Lib.hid (Pre.zero _), BK3⟩
  case round =>
    obtain ⟨k, hk, rfl, C, d, SR, PR, BR⟩ := hrel
    clear S3 BK3
    by_cases hlt : k < 2
    · obtain ⟨s, c0, hs1⟩ := HCL.out _ _ BR.out k hlt
      have cN : (wr.alloc (.cells #[.string ⟨#[110, 97, 109, 101]⟩, .string ⟨#[115, 99, 114, 97, 116, 99, 104]⟩] 9)).cell? ⟨wr.heap.size, k, none⟩ = some (.string (strB (nAt k))) := by
        rcases (by omega : k = 0 ∨ k = 1) with rfl | rfl <;> simp [nAt] <;> rfl
      have hki : (k : Int) < 2 := by omega
      have hki0 : (0 : Int) ≤ (k : Int) := by omega
      have HS1 := Lib.hid hs1
      clear hs1
      go_upto_region 11 with fail
      obtain ⟨w4, hw4⟩ : ∃ w4, w4 = wr.alloc (.cells #[.string ⟨#[110, 97, 109, 101]⟩, .string ⟨#[115, 99, 114, 97, 116, 99, 104]⟩] 9) := ⟨_, rfl⟩
      have hB4 : Below wr.heap.size wr w4 := by rw [hw4]; exact (Below.refl _ _).alloc (Nat.le_refl _) _
      have S4 := Lib.hid (SR.out.keep hB4)
      have B4 := Lib.hid (BR.out.keep hB4)
      rw [← hw4]
      clear hw4 hB4 cN c0 SR BR
      by_cases hse : s = ⟨#[]⟩
      · have P5 : Hid (Pre (k + 1) d ee) := Lib.hid (PR.out.skip hlt (fun hk0 => by rw [HEE.out, ← HS1.out hk0, hse]; simp))
        have S5 : Hid (SS w w4 C p (4 * (k + 1)) g d (.slice none 0 0) ⟨nName, nScr, [], false, 0⟩) := Lib.hid ⟨S4.out.bel, S4.out.sam, S4.out.dc.more (by omega) (by omega), S4.out.wc, S4.out.rok⟩
        subst hse
        clear S4 PR
        go_wp2_with fail
        go_roundw
        case rel => exact ⟨k + 1, by omega, by go_num, _, _, S5, P5, B4⟩
        case measure => simp [intOf]; omega
      · have hsz : 0 < s.size := by
          rcases Nat.eq_zero_or_pos s.size with h | h
          · exact absurd (ByteArray.ext (Array.eq_empty_of_size_eq_zero h)) hse
          · exact h
        have hbne : ¬ s.toList = [] := by
          rw [ByteArray.toList_eq]
          intro h
          have h2 : s.data.toList.length = s.size := rfl
          rw [h] at h2
          simp at h2; omega
        have HEK : Hid (k = 0 → ee = true) := Lib.hid (fun hk0 => by rw [HEE.out, ← HS1.out hk0]; simp [hse])
        clear hse
        obtain ⟨k0, hk0⟩ : ∃ k0, k0 = min s.size 3000 := ⟨_, rfl⟩
        have hmin0 : ∀ w : World, (Builtin.min_ #[3, 3] 3 #[.int .i64 (s.size : Int), .int .i64 3000]).run Try.prog w = .ok (.int .i64 (k0 : Int)) w := by
          intro w; rw [run_min_int2]; congr 2; omega
        have hb0 : (1 : Int) ≤ (k0 : Int) := by omega
        have hb1 : (k0 : Int) ≤ (s.size : Int) := by omega
        have CC := Lib.hid (create_c S4.out.dc (by omega) (nAt k) (okAt k))
        have hns := PR.out.at_ S4.out.dc.ok hlt
        rw [Dk.create_ok _ (mayAt k) hns] at CC
        have HK := Lib.hid hk0
        clear hk0 hns
        go_wp2_with fail
        refine CC.out.mono ?_
        rintro e w5 hq
        have he := hq.1
        have S5 := Lib.hid (S4.out.disk hq)
        have B5 := Lib.hid (B4.out.chg (c' := 1) hq.2.2 (by decide))
        subst he
        obtain ⟨C5, hC5⟩ : ∃ C5, C5 = paint C w4.heap.size 1 := ⟨_, rfl⟩
        rw [← hC5] at S5 B5
        obtain ⟨l, hl, hln⟩ : ∃ l : List UInt8, s.extract 1 k0 = strB l ∧ l.length ≤ 3000 := ⟨_, rfl, by have := HK.out; show (s.extract 1 k0).data.toList.length ≤ _; simp; omega⟩
        obtain ⟨hmk, d6, hap, hP6⟩ := PR.out.more S4.out.dc.ok S5.out.dc.ok hlt HEK.out hln
        obtain ⟨w6, b6, c6, hcv, hB6, hR6⟩ := conv_str w5 l
        rw [← hl] at hcv
        have S6 := Lib.hid (S5.out.keep hB6)
        have B6 := Lib.hid (B5.out.keep hB6)
        have CA := Lib.hid (append_c S6.out.dc (by omega) (nAt k) (okAt k) (some ⟨b6, 0, none⟩) l.length c6 l hR6 (by omega))
        simp only at CA
        rw [hap] at CA
        have P6 := Lib.hid hP6
        obtain ⟨m0, hm0⟩ : ∃ m0, m0 = l.length := ⟨_, rfl⟩
        rw [← hm0] at hcv CA
        clear hq hl hln hmk hap hP6 hB6 hR6 hC5 S4 CC PR B4 B5 S5 hm0 HK
        go_wp2_with fail
        refine (HNU.out _ _).mono ?_
        rintro e w5' ⟨rfl, rfl⟩
        go_wp2_with fail
        refine CA.out.mono ?_
        rintro e w7 hq
        have he := hq.1
        have S7 : Hid (SS w w7 (paint C5 w6.heap.size 1) p (4 * (k + 1)) g d6 (.slice none 0 0) ⟨nName, nScr, [], false, 0⟩) := Lib.hid (S6.out.disk hq)
        subst he
        have B7 := Lib.hid (B6.out.chg (c' := 1) hq.2.2 (by decide))
        clear hq hcv CA S6 B6
        go_wp2_with fail
        refine (HNU.out _ _).mono ?_
        rintro e w7' ⟨rfl, rfl⟩
        go_wp2_with fail
        go_roundw
        case rel => exact ⟨k + 1, by omega, by go_num, _, _, S7, P6, B7⟩
        case measure => simp [intOf]; omega
    · obtain rfl : k = 2 := by omega
      clear HCL BR
      go_wp2_with fail
      obtain ⟨l0, hl0, hln0⟩ : ∃ l0 : List UInt8, s0.extract 0 (min (s0.size : Int) 5000).toNat = strB l0 ∧ l0.length ≤ 5000 := ⟨_, rfl, by show (s0.extract 0 (min (s0.size : Int) 5000).toNat).data.toList.length ≤ _; simp; omega⟩
      rw [hl0]
      have HLN := Lib.hid hln0
      clear hl0 hln0
      have CS := Lib.hid (wstep_any wr w.heap.size w.heap.size C 1 2 p (4 * 2) g d _ _ (by decide) SR.out.dc (by omega) SR.out.wc SR.out.rok)
      have hidle : (⟨nName, nScr, [], false, 0⟩ : Wr).step d = ((false, 0), d, ⟨nName, nScr, [], false, 0⟩) := rfl
      refine CS.out.mono ?_
      intro e w4 hq
      obtain ⟨v4, hs4⟩ := SR.out.step hq
      have he := hq.1
      rw [hidle] at he hs4
      simp only at he hs4
      have S4 := Lib.hid hs4
      subst he
      obtain ⟨C4, hC4⟩ : ∃ C4, C4 = paint C wr.heap.size 1 := ⟨_, rfl⟩
      rw [← hC4] at S4
      clear hq hs4 hC4 CS SR hidle
      have CL := Lib.hid (load_c S4.out.dc nName okNm)
      obtain ⟨z, hz⟩ : ∃ z, z = (d.load nName).2 := ⟨_, rfl⟩
      have hze : (z = 0) = (ee = true) := by
        rw [hz]
        have := PR.out.nm
        cases hf : d.file nName with
        | none => rw [hf] at this; rw [Dk.load_no mayNm hf]; simp at this; simp [← this]
        | some ix => obtain ⟨i, x⟩ := ix; rw [hf] at this; rw [Dk.load_ok mayNm hf]; simp at this; simp [← this]
      go_wp2_with fail
      refine CL.out.mono ?_
      rintro e w5 ⟨va, rfl, hoa, hba⟩
      rw [← hz]
      have hzz : (z == 0) = !s1.toList.isEmpty := by
        rw [empty_str, ← HEE.out, Bool.eq_iff_iff, beq_iff_eq]
        exact Iff.of_eq hze
      clear hze HEE
      have S5 := Lib.hid (S4.out.keep hba)
      clear hoa hba CL hz S4
      have CY := Lib.hid (busy_any w5 w.heap.size C4 2 g v4 _ S5.out.wc)
      obtain ⟨w6, b6, c6, hcv, hB6, hR6⟩ := conv_str w5 l0
      have S6 := Lib.hid (S5.out.keep hB6)
      have CB := Lib.hid (begin_any w6 w.heap.size C4 2 g v4 ⟨nName, nScr, [], false, 0⟩ S6.out.wc S6.out.bel.size (some ⟨b6, 0, none⟩) l0.length c6 l0 hR6 (by have := HLN.out; omega))
      have hbg : (⟨nName, nScr, [], false, 0⟩ : Wr).begin l0 = (0, wrAt nName nScr l0 0) := by
        unfold Wr.begin wrAt
        rw [if_neg (by decide), if_neg (by have := HLN.out; omega), if_neg (by decide)]
      rw [hbg] at CB
      obtain ⟨m0, hm0⟩ : ∃ m0, m0 = l0.length := ⟨_, rfl⟩
      rw [← hm0] at hcv CB
      clear hB6 hR6 hbg hm0
      go_wp2_with fail
      refine (HNU.out _ _).mono ?_
      rintro e w5' ⟨rfl, rfl⟩
      go_wp2_with fail
      refine CY.out.mono ?_
      rintro e w5' ⟨rfl, rfl⟩
      go_wp2_with fail
      refine (HNU.out _ _).mono ?_
      rintro e w5' ⟨rfl, rfl⟩
      clear CY S5
      go_wp2_with fail
      refine CB.out.mono ?_
      rintro e w7 hq
      have ho7 : (wrAt nName nScr l0 0).Ok := ⟨okNm, okSc, by show l0.length ≤ _; have := HLN.out; omega, fun _ => by show 0 ≤ 3; decide⟩
      obtain ⟨v7, hs7⟩ := S6.out.begun hq ho7
      have he := hq.1
      have S7 : Hid (SS w w7 (paint C4 w6.heap.size 2) p (10 + 2 * 0) g d v7 (wrAt nName nScr l0 0)) := Lib.hid hs7
      subst he
      clear hq hs7 ho7 CB S6 hcv hzz
      go_wp2_with fail
      refine (HNU.out _ _).mono ?_
      rintro e w7' ⟨rfl, rfl⟩
      go_wp2_with fail
      go_loopw [16] (fun s16 W => ∃ k : Nat, k ≤ 4 ∧ s16 = .int .i64 (k : Int) ∧ ∃ C v d', Hid (SS w W C p (10 + 2 * k) g d' v (wrAt nName nScr l0 k)) ∧ Hid (Wrote k d d' nName nScr l0)) (fun s16 _ => 4 - (intOf s16).toNat)
      case atStart => exact ⟨0, by omega, rfl, _, _, _, S7, Lib.hid (Wrote.zero _ _ _ _)⟩
      case round =>
        obtain ⟨k, hk4, rfl, C, v, d', SR, WR⟩ := hrel
        clear S7
        by_cases hlt : k < 4
        · have hki : (k : Int) < 4 := by omega
          have CY := Lib.hid (busy_any wr w.heap.size C 2 g v _ SR.out.wc)
          have hbt : (wrAt nName nScr l0 k).busy = true := by unfold wrAt; rw [if_neg (by omega)]
          rw [hbt] at CY
          obtain ⟨wn, hwn⟩ : ∃ wn, wn = wr.alloc (.cells #[.int .u8 110, .int .u8 111] 5 (2, 3)) := ⟨_, rfl⟩
          obtain ⟨bn, hbn⟩ : ∃ bn, bn = wr.heap.size := ⟨_, rfl⟩
          have Bn : Hid (Below wr.heap.size wr wn) := Lib.hid (by rw [hwn]; exact (Below.refl _ _).alloc (Nat.le_refl _) _)
          have Rn : Hid (RB wn (some ⟨bn, 0, none⟩) 2 [110, 111]) := Lib.hid (by rw [hwn, hbn]; exact RB.new wr 5 (2, 3) #[.int .u8 110, .int .u8 111] [110, 111] rfl 2 rfl)
          have Sn := Lib.hid (SR.out.keep Bn.out)
          have CB := Lib.hid (begin_any wn w.heap.size C 2 g v _ Sn.out.wc Sn.out.bel.size (some ⟨bn, 0, none⟩) 2 2 [110, 111] Rn.out (by decide))
          have hbg : (wrAt nName nScr l0 k).begin [110, 111] = (220, wrAt nName nScr l0 k) := by unfold Wr.begin; rw [if_pos hbt]
          rw [hbg] at CB
          clear hbt hbg Bn Rn SR
          have kc := fun (w : World) (C : Array Value) (n c g : Nat) (hg : g = w.heap.size) => Joins.run_convert_bytes_const_at (P := Try.prog) w 29 5 C n c g hg Try.underlying29 Try.underlying5
          go_wp2_with fail
          refine CY.out.mono ?_
          rintro e wr' ⟨rfl, rfl⟩
          clear CY
          go_wp2_with fail
          clear kc
          rw [← hwn, ← hbn]
          refine CB.out.mono ?_
          rintro e w8 hq
          obtain ⟨v8, hs8⟩ := Sn.out.begun hq Sn.out.rok
          have he := hq.1
          have S8 := Lib.hid hs8
          subst he
          obtain ⟨C8, hC8⟩ : ∃ C8, C8 = paint C wn.heap.size 2 := ⟨_, rfl⟩
          rw [← hC8] at S8
          simp only at S8
          clear hq hs8 CB Sn hwn hbn hC8
          have hws := Lib.hid (wrote_step S8.out.dc.ok WR.out mayNm maySc neNS (by have := HLN.out; omega) hlt)
          have CS := Lib.hid (wstep_any w8 w.heap.size w.heap.size C8 1 2 p (10 + 2 * k) g d' v8 _ (by decide) S8.out.dc (by omega) S8.out.wc S8.out.rok)
          go_wp2_with fail
          refine (HNU.out _ _).mono ?_
          rintro e w8' ⟨rfl, rfl⟩
          go_wp2_with fail
          refine CS.out.mono ?_
          intro e w9 hq
          obtain ⟨v9, hs9⟩ := S8.out.step hq
          have he := hq.1
          rw [hws.out.1] at he
          simp only at he
          have S9 : Hid (SS w w9 (paint C8 w8.heap.size 1) p (10 + 2 * (k + 1)) g ((wrAt nName nScr l0 k).step d').2.1 v9 (wrAt nName nScr l0 (k + 1))) := Lib.hid (by rw [← hws.out.2.1]; exact hs9)
          have W9 := Lib.hid hws.out.2.2
          subst he
          clear hq hs9 CS S8
          obtain ⟨bb, hbb⟩ : ∃ bb, bb = decide (k = 3) := ⟨_, rfl⟩
          have hb2 : ((k : Int) == 3) = bb := by rw [hbb]; by_cases h : k = 3 <;> simp [h]; omega
          rw [← hbb]
          clear hbb
          go_wp2_with fail
          refine (HNU.out _ _).mono ?_
          rintro e w9' ⟨rfl, rfl⟩
          go_wp2_with fail
          go_roundw
          case rel =>
            first
              | exact ⟨k + 1, by omega, by go_num, _, _, _, S9, W9⟩
              | ((repeat apply Exists.intro); exact ⟨⟨k + 1, by omega, by go_num, _, _, _, S9, W9⟩, rfl⟩)
          case measure => simp [intOf]; omega
        · obtain rfl : k = 4 := by omega
          obtain ⟨hno, i, x, hf, hx, _⟩ := WR.out.all rfl
          have CL := Lib.hid (load_c SR.out.dc nName okNm)
          have CT := Lib.hid (fun W hb => stat_c (SR.out.dc.keep (w' := W) hb (Sam.refl _ _)) nName okNm)
          rw [Dk.load_ok mayNm hf, hx] at CL
          rw [Dk.stat_ok mayNm hf, hx] at CT
          clear hno hf hx
          go_wp2_with fail
          refine CL.out.mono ?_
          rintro e w8 ⟨va8, rfl, hoa, hba⟩
          obtain ⟨Aa, ca, rfl, _, _, hra⟩ := hoa.form
          have BA := Lib.hid hba
          have RA := Lib.hid hra
          have S8 := Lib.hid (SR.out.keep2 hba (sam_paint C wr.heap.size 4))
          have HAA : Hid (∀ ad, Aa = some ad → paint C wr.heap.size 4 ad.block = 4 ∧ ad.block < w8.heap.size) := Lib.hid (fun ad e => by
            have := hoa.lt ad.block (by rw [e]; rfl)
            exact ⟨paint_new C 4 this.1, this.2⟩)
          obtain ⟨C8, hC8⟩ : ∃ C8, C8 = paint C wr.heap.size 4 := ⟨_, rfl⟩
          rw [← hC8] at S8 HAA
          clear hoa hba hra CL hC8
          go_wp2_with fail
          refine (CT.out _ BA.out).mono ?_
          rintro e w9 ⟨rfl, hbb⟩
          have S9 := Lib.hid (S8.out.keep hbb)
          have HAB : Hid (w8.heap.size ≤ w9.heap.size) := Lib.hid hbb.size
          have R9 := Lib.hid (RA.out.keep hbb)
          clear CT hbb RA BA SR S8
          simp only
          unfold statV
          go_upto_region 29 with fail
          obtain ⟨wA, hwA⟩ : ∃ wA, wA = w9.alloc (.cells #[.int .i64 i, .int .i64 ((d'.se nName).getD 0), .int .i64 (x.ge : Int), .int .i64 (l0.length : Int)] 42) := ⟨_, rfl⟩
          obtain ⟨bA, hbA⟩ : ∃ bA, bA = w9.heap.size := ⟨_, rfl⟩
          have hBA : Below w9.heap.size w9 wA := by rw [hwA]; exact (Below.refl _ _).alloc (Nat.le_refl _) _
          have SA := Lib.hid (S9.out.keep2 hBA (sam_paint C8 w9.heap.size 3))
          have RA := Lib.hid (R9.out.keep hBA)
          have KA : Hid (Blk wA bA 42 #[.int .i64 i, .int .i64 ((d'.se nName).getD 0), .int .i64 (x.ge : Int), .int .i64 (l0.length : Int)] ∧ paint C8 w9.heap.size 3 bA = 3) := Lib.hid ⟨by rw [hwA]; exact Blk.new w9 _ _ hbA, by rw [hbA]; exact paint_new C8 3 (Nat.le_refl _)⟩
          obtain ⟨CA, hCA⟩ : ∃ CA, CA = paint C8 w9.heap.size 3 := ⟨_, rfl⟩
          rw [← hCA] at SA KA
          rw [← hwA, ← hbA]
          have HAC : Hid (∀ ad, Aa = some ad → CA ad.block = 4) := Lib.hid (fun ad e => by
            rw [hCA, paint_old C8 3 (Nat.lt_of_lt_of_le (HAA.out ad e).2 HAB.out)]
            exact (HAA.out ad e).1)
          clear hBA S9 R9 hwA hbA hCA
          have CS := Lib.hid (wstep_any wA w.heap.size w.heap.size CA 1 2 p (10 + 2 * 4) g d' v _ (by decide) SA.out.dc (by omega) SA.out.wc SA.out.rok)
          have hidle : (wrAt nName nScr l0 4).step d' = ((false, 0), d', wrAt nName nScr l0 4) := rfl
          go_wp2_with fail
          refine CS.out.mono ?_
          intro e wB hq
          obtain ⟨vB, hsB⟩ := SA.out.step hq
          have he := hq.1
          rw [hidle] at he hsB
          simp only at he hsB
          have SB := Lib.hid hsB
          have KB : Hid (Blk wB bA 42 #[.int .i64 i, .int .i64 ((d'.se nName).getD 0), .int .i64 (x.ge : Int), .int .i64 (l0.length : Int)]) := Lib.hid (KA.out.1.chg hq.2.2.2 (fun e => by
            rcases e with e | e
            · have := KA.out.2; rw [e] at this; cases this
            · have := KA.out.2; have h2 := SA.out.wc.col.1; rw [← e, this] at h2; cases h2))
          have RB' : Hid (RB wB Aa l0.length l0) := Lib.hid (hq.2.2.2.rb RA.out (fun _ ad hk hb => by
            have h4 := HAC.out ad hk
            rcases hb with e | e
            · rw [e] at h4; cases h4
            · have h2 := SA.out.wc.col.1; rw [← e, h4] at h2; cases h2))
          subst he
          clear hq hsB CS SA KA RA hidle HAC HAA HAB
          have CY := Lib.hid (busy_any wB w.heap.size _ 2 g vB _ SB.out.wc)
          have hbf : (wrAt nName nScr l0 4).busy = false := rfl
          rw [hbf] at CY
          have cv : (convert 29 9 (.slice Aa l0.length ca)).run Try.prog wB = .ok (.string (strB l0)) wB := conv_bytes wB Aa l0.length ca l0 RB'.out
          have c3 : wB.cell? ⟨bA, 3, none⟩ = some (.int .i64 (l0.length : Int)) := (KB.out.cell 3).trans rfl
          have hsz : (strB l0).size = l0.length := by simp [strB, ByteArray.size]
          have CN := Lib.hid (names_c SB.out.dc (by omega))
          clear KB RB' hbf
          go_wp2_with fail
          refine (HNU.out _ _).mono ?_
          rintro e wB' ⟨rfl, rfl⟩
          go_wp2_with fail
          refine (HNU.out _ _).mono ?_
          rintro e wB' ⟨rfl, rfl⟩
          go_wp2_with fail
          refine (HNU.out _ _).mono ?_
          rintro e wB' ⟨rfl, rfl⟩
          go_wp2_with fail
          refine CY.out.mono ?_
          rintro e wB' ⟨rfl, rfl⟩
          go_wp2_with fail
          refine CN.out.mono ?_
          rintro e wC ⟨vN, ss, rfl, hnd, hmem, hown, hbC⟩
          have h1 := one_name SB.out.dc.ok PR.out WR.out hnd hmem
          obtain ⟨AN, cN, rfl, _⟩ := own_form hown
          rw [h1]
          have HF : Hid (TrueQ w (.returned (.bool true)) wC) := Lib.hid ⟨rfl, SB.out.bel.trans (hbC.mono SB.out.bel.size)⟩
          clear hnd hmem hown hbC h1 CN CY
          go_wp2_with fail
          go_ret
          exact HF.out
end Go.Proofs.Ythhbfjhgmdnpbaa
