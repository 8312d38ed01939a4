/- THE WALK of the law StoreWhole (printed by a program of ours). -/
import Derived.Test.YthhbfjhgmdnpbaaStoreSteps
import Derived.Test.YthhbfjhgmdnpbaaWholeLaw
import Derived.Test.YthhbfjhgmdnpbaaCrash
namespace Go.Proofs.Ythhbfjhgmdnpbaa
open Go.RowKit Go.Maps
/-- a try that came in -/
structure Ty where
  s : ByteArray
  st : Int
  A : Option Addr
  m : Nat
  cp : Nat
  ks : List Int
/-- the slice (A, n) reads as tries -/
def TS (W : World) (A : Option Addr) (n : Nat) (l : List Ty) : Prop :=
  l.length = n ∧ (∀ x ∈ l, x.m ≤ maxLen ∧ RI W x.A x.m x.ks) ∧ (0 < n → ∃ b off, A = some ⟨b, off, none⟩ ∧ b < W.heap.size ∧ ∀ (j : Nat) (x : Ty), l[j]? = some x →
    W.cell? ⟨b, off + j * 3, none⟩ = some (.string x.s) ∧ W.cell? ⟨b, off + j * 3 + 1, none⟩ = some (.int .i64 x.st) ∧ W.cell? ⟨b, off + j * 3 + 2, none⟩ = some (.slice x.A x.m x.cp))
theorem K3.to {W w' : World} {C C' : Nat → Nat} {b : Nat} {t : TypeId} {cs : Array Value} (h : K3 W C b t cs) {S : Nat → Prop} (hc : Chg S W w') (hS : ¬ S b) (hs : Sam W.heap.size C C') : K3 w' C' b t cs := ⟨h.1.chg hc hS, by rw [hs b h.1.lt]; exact h.2⟩
theorem K3.keep2 {W w' : World} {C C' : Nat → Nat} {b : Nat} {t : TypeId} {cs : Array Value} (h : K3 W C b t cs) (hb : Below W.heap.size W w') (hs : Sam W.heap.size C C') : K3 w' C' b t cs := h.to (Chg.of_below hb (fun _ => False)) (fun e => e.elim) hs
set_option maxRecDepth 20000 in
set_option maxHeartbeats 8000000 in
theorem whole_any (A0 : Option Addr) (n0 cp0 : Nat) (l : List Ty) (s1 : ByteArray) (w : World) (hr : TS w A0 n0 l) (hc : n0 ≤ cp0) : Calls Try.prog 5 #[.slice A0 n0 cp0, .string s1] w (TrueQ w) := by
  have CK := Lib.hid (known_any w)
  have HNU := Lib.hid num_any
  have HR := Lib.hid hr
  clear hr
  go_enter Try.func5, Try.ntmps5
  go_wp2_with fail
  refine CK.out.mono ?_
  rintro e wk ⟨rfl, hbk⟩
  have BK := Lib.hid hbk
  have CN := Lib.hid (new_c wk (fun _ => 0) 1)
  clear hbk CK
  go_wp2_with fail
  refine CN.out.mono ?_
  rintro e w1 ⟨p, rfl, hp, hd, hb⟩
  have D1 : Hid (DS w w1 (paint (fun _ => 0) wk.heap.size 1) p 0 emptyD) := Lib.hid ⟨BK.out.trans (hb.mono BK.out.size), (sam_paint (fun _ => 0) wk.heap.size 1).mono BK.out.size, by
    obtain ⟨h0, bf, bn, bs, fl, h1, h2⟩ := hd
    have h3 : DW w1 w.heap.size p 0 emptyD bf bn bs fl := ⟨h1.bd, h1.mf, h1.mn, h1.ms, ⟨Nat.le_trans BK.out.size h1.lo.1, Nat.le_trans BK.out.size h1.lo.2.1, Nat.le_trans BK.out.size h1.lo.2.2.1, Nat.le_trans BK.out.size h1.lo.2.2.2.1, h1.lo.2.2.2.2⟩, h1.hf, fun i g x hi hx => (by cases hx), h1.ap, h1.ab⟩
    exact ⟨h0, bf, bn, bs, fl, h3, h2⟩⟩
  obtain ⟨C1, hC1⟩ : ∃ C1, C1 = paint (fun _ => 0) wk.heap.size 1 := ⟨_, rfl⟩
  rw [← hC1] at D1
  clear hd hb hp CN hC1
  go_upto_region 5 with fail
  obtain ⟨lo, hlo, hlon⟩ : ∃ lo : List UInt8, s1.extract 0 (min (s1.size : Int) 3000).toNat = strB lo ∧ lo.length ≤ 3000 := ⟨_, rfl, by show (s1.extract 0 (min (s1.size : Int) 3000).toNat).data.toList.length ≤ _; simp; omega⟩
  rw [hlo]
  have HLO := Lib.hid hlon
  clear hlo hlon
  have CC := Lib.hid (create_c D1.out.dc (by omega) nOther okOt)
  rw [Dk.create_ok nOther mayOt rfl] at CC
  have HM1 : Hid ((emptyD.made nOther).file nOther = some (1, ⟨nOther, [], 0, 0⟩)) := Lib.hid (by rw [Dk.Ok.empty.file_made (emptyD_ns nOther), if_pos rfl]; rfl)
  have HM0 : Hid ((emptyD.made nOther).file nName = none) := Lib.hid (by rw [Dk.Ok.empty.file_made (emptyD_ns nOther), if_neg neON.symm]; rfl)
  go_wp2_with fail
  refine CC.out.mono ?_
  rintro e w2 hq
  have he := hq.1
  have D2 := Lib.hid (D1.out.step hq)
  subst he
  obtain ⟨C2, hC2⟩ : ∃ C2, C2 = paint C1 w1.heap.size 1 := ⟨_, rfl⟩
  rw [← hC2] at D2
  simp only at D2
  obtain ⟨d2, hd2⟩ : ∃ d2, d2 = emptyD.made nOther := ⟨_, rfl⟩
  rw [← hd2] at D2 HM1 HM0
  clear hq CC D1 hC2 hd2
  obtain ⟨w3, b3, c3, hcv, hB3, hR3⟩ := conv_str w2 lo
  have D3 := Lib.hid (D2.out.keep hB3)
  have CA := Lib.hid (append_c D3.out.dc (by omega) nOther okOt (some ⟨b3, 0, none⟩) lo.length c3 lo hR3 (by have := HLO.out; omega))
  rw [Dk.append_ok mayOt HM1.out (by have := HLO.out; simp; omega)] at CA
  obtain ⟨m0, hm0⟩ : ∃ m0, m0 = lo.length := ⟨_, rfl⟩
  rw [← hm0] at hcv CA
  clear hB3 hR3 hm0
  go_wp2_with fail
  refine (HNU.out _ _).mono ?_
  rintro e w2' ⟨rfl, rfl⟩
  go_wp2_with fail
  refine CA.out.mono ?_
  rintro e w4 hq
  have he := hq.1
  have D4 := Lib.hid (D3.out.step hq)
  subst he
  obtain ⟨C4, hC4⟩ : ∃ C4, C4 = paint C2 w3.heap.size 1 := ⟨_, rfl⟩
  rw [← hC4] at D4
  simp only at D4
  have HM4 : Hid ((d2.app 1 ⟨nOther, [], 0, 0⟩ lo).file nOther = some (1, ⟨nOther, [] ++ lo, 0, 0⟩) ∧ (d2.app 1 ⟨nOther, [], 0, 0⟩ lo).file nName = none) := Lib.hid ⟨by rw [D3.out.dc.ok.file_app HM1.out, if_pos rfl], by rw [D3.out.dc.ok.file_app HM1.out, if_neg neON.symm]; exact HM0.out⟩
  obtain ⟨d4, hd4⟩ : ∃ d4, d4 = d2.app 1 ⟨nOther, [], 0, 0⟩ lo := ⟨_, rfl⟩
  rw [← hd4] at D4 HM4
  clear hq CA D3 D2 HM1 HM0 hC4 hd4 hcv
  have CY := Lib.hid (sync_c D4.out.dc (by omega) nOther okOt)
  unfold Dk.sync at CY
  rw [Dk.edits_ok mayOt HM4.out.1] at CY
  go_wp2_with fail
  refine (HNU.out _ _).mono ?_
  rintro e w4' ⟨rfl, rfl⟩
  go_wp2_with fail
  refine CY.out.mono ?_
  rintro e w5 hq
  have he := hq.1
  have D5 := Lib.hid (D4.out.step hq)
  subst he
  simp only at D5
  have I5 : Hid (Inv (d4.edit 1 { (⟨nOther, [] ++ lo, 0, 0⟩ : Fl) with la := (⟨nOther, [] ++ lo, 0, 0⟩ : Fl).by_.length }) [] lo false) := Lib.hid ⟨fun e => (by cases e), fun _ => ⟨by rw [D4.out.dc.ok.file_edit HM4.out.1, if_neg neON.symm]; exact HM4.out.2, rfl⟩, _, _, by rw [D4.out.dc.ok.file_edit HM4.out.1, if_pos rfl], rfl, rfl⟩
  obtain ⟨C5, hC5⟩ : ∃ C5, C5 = paint C4 w4.heap.size 1 := ⟨_, rfl⟩
  obtain ⟨d5, hd5⟩ : ∃ d5, d5 = d4.edit 1 { (⟨nOther, [] ++ lo, 0, 0⟩ : Fl) with la := (⟨nOther, [] ++ lo, 0, 0⟩ : Fl).by_.length } := ⟨_, rfl⟩
  rw [← hC5] at D5
  rw [← hd5] at D5 I5
  clear hq CY D4 HM4 hC5 hd5
  go_wp2_with fail
  refine (HNU.out _ _).mono ?_
  rintro e w5' ⟨rfl, rfl⟩
  obtain ⟨L, hL⟩ : ∃ L, L = min n0 60 := ⟨_, rfl⟩
  have hmin : ∀ w : World, (Builtin.min_ #[3, 3] 3 #[.int .i64 (n0 : Int), .int .i64 60]).run Try.prog w = .ok (.int .i64 (L : Int)) w := by
    intro w; rw [run_min_int2]; congr 2; omega
  have hb1 : (L : Int) ≤ (cp0 : Int) := by omega
  have hb0 : (0 : Int) ≤ (L : Int) := by omega
  have hL60 : L ≤ 60 := by omega
  have HLN : Hid (L ≤ n0) := Lib.hid (by omega)
  clear hL
  go_wp2_with fail
  clear hmin hb1 hb0
  go_loopw [6, 7, 59] (fun s6 s7 s59 W => ∃ r : Nat, r ≤ L ∧ s59 = .int .i64 (r : Int) ∧ ∃ C d now is, s6 = .string (strB now) ∧ s7 = .bool is ∧ Hid (DS w W C p (10 * (r + 1)) d) ∧ Hid (Inv d now lo is)) (fun _ _ s59 _ => L - (intOf s59).toNat)
  case atStart => exact ⟨0, Nat.zero_le _, rfl, C5, d5, [], false, rfl, rfl, Lib.hid ⟨D5.out.bel, D5.out.sam, D5.out.dc.more (by omega) (by omega)⟩, I5⟩
  case round =>
    obtain ⟨r, hr, rfl, C, d, now, is, rfl, rfl, DR, IR⟩ := hrel
    clear D5 I5
    by_cases hlt : r < L
    · obtain ⟨b, off, rfl, hbl, hcell⟩ := HR.out.2.2 (by have := HLN.out; omega)
      obtain ⟨x, hx⟩ : ∃ x, l[r]? = some x := ⟨_, List.getElem?_eq_getElem (by rw [HR.out.1]; have := HLN.out; omega)⟩
      obtain ⟨q0, q1, q2⟩ := hcell r x hx
      have c0 : wr.cell? ⟨b, off + r * 3, none⟩ = some (.string x.s) := cell_later DR.out.bel q0
      have c1 : wr.cell? ⟨b, off + r * 3 + 1, none⟩ = some (.int .i64 x.st) := cell_later DR.out.bel q1
      have c2 : wr.cell? ⟨b, off + r * 3 + 2, none⟩ = some (.slice x.A x.m x.cp) := cell_later DR.out.bel q2
      have XK : Hid (x.m ≤ maxLen ∧ RI w x.A x.m x.ks) := Lib.hid (HR.out.2.1 x (List.mem_of_getElem? hx))
      have hki : (r : Int) < (L : Int) := by omega
      have hki0 : (0 : Int) ≤ (r : Int) := by omega
      obtain ⟨xs, st, xA, xm, xc, ks⟩ := x
      simp only at c0 c1 c2 XK
      clear hbl hcell hx q0 q1 q2
      go_upto_region 12 with fail
      obtain ⟨w6, hw6⟩ : ∃ w6, w6 = wr.alloc (.cells #[.string xs, .int .i64 st, .slice xA xm xc] 50) := ⟨_, rfl⟩
      obtain ⟨b9, hb9⟩ : ∃ b9, b9 = wr.heap.size := ⟨_, rfl⟩
      have hB6 : Below wr.heap.size wr w6 := by rw [hw6]; exact (Below.refl _ _).alloc (Nat.le_refl _) _
      have D6 := Lib.hid (DR.out.keep2 hB6 (sam_paint C wr.heap.size 3))
      have K6 : Hid (K3 w6 (paint C wr.heap.size 3) b9 50 #[.string xs, .int .i64 st, .slice xA xm xc]) := Lib.hid ⟨by rw [hw6]; exact Blk.new wr _ _ hb9, by rw [hb9]; exact paint_new C 3 (Nat.le_refl _)⟩
      obtain ⟨C6, hC6⟩ : ∃ C6, C6 = paint C wr.heap.size 3 := ⟨_, rfl⟩
      rw [← hC6] at D6 K6
      rw [← hw6, ← hb9]
      obtain ⟨ld, hld, hldn⟩ : ∃ ld : List UInt8, xs.extract 0 (min (xs.size : Int) 5000).toNat = strB ld ∧ ld.length ≤ 5000 := ⟨_, rfl, by show (xs.extract 0 (min (xs.size : Int) 5000).toNat).data.toList.length ≤ _; simp; omega⟩
      rw [hld]
      have HLD := Lib.hid hldn
      clear hw6 hb9 hB6 hC6 hld hldn DR c0 c1 c2
      have CW := Lib.hid (snew_any w6 C6 2 nName nScr okNm okSc)
      go_wp2_with fail
      refine CW.out.mono ?_
      rintro e w7 ⟨hb7, ⟨h0, _⟩ | ⟨_, g, rfl, hw⟩⟩
      · exact absurd (show newE nName nScr = 0 by unfold newE; rw [mayNm, maySc]; simp [neNS]) h0
      have S7 : Hid (SS w w7 (paint C6 w6.heap.size 2) p (10 * (r + 1)) g d (.slice none 0 0) ⟨nName, nScr, [], false, 0⟩) := Lib.hid ⟨D6.out.bel.trans (hb7.mono D6.out.bel.size), D6.out.sam.trans (sam_paint _ _ _) D6.out.bel.size, D6.out.dc.keep hb7 (sam_paint _ _ _), ⟨hw.blk, hw.own.less D6.out.bel.size, Nat.le_trans D6.out.bel.size hw.lo, hw.col⟩, ⟨okNm, okSc, by decide, fun _ => by decide⟩⟩
      have K7 := Lib.hid (K6.out.keep2 hb7 (sam_paint C6 w6.heap.size 2))
      obtain ⟨C7, hC7⟩ : ∃ C7, C7 = paint C6 w6.heap.size 2 := ⟨_, rfl⟩
      rw [← hC7] at S7 K7
      clear hb7 hw hC7 CW D6 K6
      obtain ⟨w8, b8, c8, hcv, hB8, hR8⟩ := conv_str w7 ld
      have S8 := Lib.hid (S7.out.keep hB8)
      have K8 := Lib.hid (K7.out.keep hB8)
      have CB := Lib.hid (begin_any w8 w.heap.size C7 2 g (.slice none 0 0) ⟨nName, nScr, [], false, 0⟩ S8.out.wc S8.out.bel.size (some ⟨b8, 0, none⟩) ld.length c8 ld hR8 (by have := HLD.out; omega))
      have hbg : (⟨nName, nScr, [], false, 0⟩ : Wr).begin ld = (0, wrAt nName nScr ld 0) := by
        unfold Wr.begin wrAt
        rw [if_neg (by decide), if_neg (by have := HLD.out; omega), if_neg (by decide)]
      rw [hbg] at CB
      obtain ⟨m1, hm1⟩ : ∃ m1, m1 = ld.length := ⟨_, rfl⟩
      rw [← hm1] at hcv CB
      clear hB8 hR8 hbg hm1 S7 K7
      go_wp2_with fail
      refine (HNU.out _ _).mono ?_
      rintro e w7' ⟨rfl, rfl⟩
      go_wp2_with fail
      refine CB.out.mono ?_
      rintro e w9 hq
      have ho9 : (wrAt nName nScr ld 0).Ok := ⟨okNm, okSc, by show ld.length ≤ _; have := HLD.out; omega, fun _ => by show 0 ≤ 3; decide⟩
      obtain ⟨v9, hs9⟩ := S8.out.begun hq ho9
      have he := hq.1
      have S9 : Hid (SS w w9 (paint C7 w8.heap.size 2) p (10 * (r + 1) + 2 * 0) g d v9 (wrAt nName nScr ld 0)) := Lib.hid hs9
      have K9 := Lib.hid (K8.out.to hq.2.2 (fun e => by have h1 := K8.out.2; have h2 := S8.out.wc.col.1; rw [e, h2] at h1; cases h1) (sam_paint C7 w8.heap.size 2))
      subst he
      clear hq hs9 ho9 CB S8 K8 hcv
      go_wp2_with fail
      refine (HNU.out _ _).mono ?_
      rintro e w9' ⟨rfl, rfl⟩
      go_wp2_with fail
      go_loopw [13] (fun s13 W => ∃ k : Nat, k ≤ 4 ∧ s13 = .int .i64 (k : Int) ∧ ((k : Int) ≤ st ∨ k = 0) ∧ ∃ C v d', Hid (SS w W C p (10 * (r + 1) + 2 * k) g d' v (wrAt nName nScr ld k)) ∧ Hid (Wrote k d d' nName nScr ld) ∧ Hid (K3 W C b9 50 #[.string xs, .int .i64 st, .slice xA xm xc])) (fun s13 _ => 4 - (intOf s13).toNat)
      case atStart => exact ⟨0, by omega, rfl, .inr rfl, _, _, _, S9, Lib.hid (Wrote.zero _ _ _ _), K9⟩
      case round =>
        obtain ⟨k, hk4, rfl, hkst, C, v, d', SR, WR, KR⟩ := hrel
        clear S9 K9
        have c91 : wr.cell? ⟨b9, 1, none⟩ = some (.int .i64 st) := (KR.out.1.cell 1).trans rfl
        by_cases hk3 : k < 4
        · by_cases hks : (k : Int) < st
          · have hki : (k : Int) < 4 := by omega
            have hws := Lib.hid (wrote_step SR.out.dc.ok WR.out mayNm maySc neNS (by have := HLD.out; omega) hk3)
            have CS := Lib.hid (wstep_any wr w.heap.size w.heap.size C 1 2 p (10 * (r + 1) + 2 * k) g d' v _ (by decide) SR.out.dc (by omega) SR.out.wc SR.out.rok)
            go_wp2_with fail
            refine CS.out.mono ?_
            intro e w10 hq
            obtain ⟨v10, hs10⟩ := SR.out.step hq
            have he := hq.1
            rw [hws.out.1] at he
            simp only at he
            have S10 : Hid (SS w w10 (paint C wr.heap.size 1) p (10 * (r + 1) + 2 * (k + 1)) g ((wrAt nName nScr ld k).step d').2.1 v10 (wrAt nName nScr ld (k + 1))) := Lib.hid (by rw [← hws.out.2.1]; exact hs10)
            have W10 := Lib.hid hws.out.2.2
            have K10 := Lib.hid (KR.out.to hq.2.2.2 (fun e => by
              have h1 := KR.out.2
              rcases e with e | e
              · rw [e] at h1; cases h1
              · have h2 := SR.out.wc.col.1; rw [e, h2] at h1; cases h1) (sam_paint C wr.heap.size 1))
            subst he
            obtain ⟨C10, hC10⟩ : ∃ C10, C10 = paint C wr.heap.size 1 := ⟨_, rfl⟩
            obtain ⟨d10, hd10⟩ : ∃ d10, d10 = ((wrAt nName nScr ld k).step d').2.1 := ⟨_, rfl⟩
            rw [← hC10] at S10 K10
            rw [← hd10] at S10 W10
            clear hq hs10 CS SR KR WR hws hC10 hd10 c91
            have CY := Lib.hid (busy_any w10 w.heap.size C10 2 g v10 _ S10.out.wc)
            have CL := Lib.hid (load_c S10.out.dc nName okNm)
            by_cases h3 : k = 3
            · have hdec : decide (k = 3) = true := by simp [h3]
              have hb2 : ((k : Int) == 3) = true := by rw [h3]; rfl
              have hby : (wrAt nName nScr ld (k + 1)).busy = false := by unfold wrAt; rw [if_pos (by omega)]
              have hld : d10.load nName = (ld, 0) := by
                have h4 := W10.out
                rw [show k + 1 = 4 from by omega] at h4
                rw [(IR.out.all h4).1.load]; rfl
              rw [hdec]
              rw [hby] at CY
              rw [hld] at CL
              clear hdec hby hld
              go_wp2_with fail
              refine (HNU.out _ _).mono ?_
              rintro e w10' ⟨rfl, rfl⟩
              go_wp2_with fail
              refine CY.out.mono ?_
              rintro e w10' ⟨rfl, rfl⟩
              go_wp2_with fail
              refine CL.out.mono ?_
              rintro e w11 ⟨va, rfl, hoa, hba⟩
              obtain ⟨Aa, ca, rfl, _, _, hra⟩ := hoa.form
              have cv : (convert 29 9 (.slice Aa ld.length ca)).run Try.prog w11 = .ok (.string (strB ld)) w11 := conv_bytes w11 Aa ld.length ca ld hra
              have S11 := Lib.hid (S10.out.keep hba)
              have K11 := Lib.hid (K10.out.keep hba)
              clear hoa hba hra CY CL S10 K10
              go_wp2_with fail
              refine (HNU.out _ _).mono ?_
              rintro e w11' ⟨rfl, rfl⟩
              go_wp2_with fail
              go_roundw
              case rel => exact ⟨k + 1, by omega, by go_num, .inl (by omega), _, _, _, S11, W10, K11⟩
              case measure => simp [intOf]; omega
            · have hdec : decide (k = 3) = false := by simp [h3]
              have hb2 : ((k : Int) == 3) = false := by simp; omega
              have hby : (wrAt nName nScr ld (k + 1)).busy = true := by unfold wrAt; rw [if_neg (by omega)]
              have hld := (IR.out.wrote W10.out (by omega)).load
              obtain ⟨z, hz⟩ : ∃ z : Int, z = if is = true then 0 else 141 := ⟨_, rfl⟩
              rw [← hz] at hld
              have hzz : (z == 0) = is := by rw [hz]; cases is <;> rfl
              rw [hdec]
              rw [hby] at CY
              rw [hld] at CL
              clear hdec hby hld hz
              go_wp2_with fail
              refine (HNU.out _ _).mono ?_
              rintro e w10' ⟨rfl, rfl⟩
              go_wp2_with fail
              refine CY.out.mono ?_
              rintro e w10' ⟨rfl, rfl⟩
              go_wp2_with fail
              refine CL.out.mono ?_
              rintro e w11 ⟨va, rfl, hoa, hba⟩
              obtain ⟨Aa, ca, rfl, _, _, hra⟩ := hoa.form
              have cv : (convert 29 9 (.slice Aa now.length ca)).run Try.prog w11 = .ok (.string (strB now)) w11 := conv_bytes w11 Aa now.length ca now hra
              have S11 := Lib.hid (S10.out.keep hba)
              have K11 := Lib.hid (K10.out.keep hba)
              clear hoa hba hra CY CL S10 K10
              go_wp2_with fail
              refine (HNU.out _ _).mono ?_
              rintro e w11' ⟨rfl, rfl⟩
              go_wp2_with fail
              go_roundw
              case rel => exact ⟨k + 1, by omega, by go_num, .inl (by omega), _, _, _, S11, W10, K11⟩
              case measure => simp [intOf]; omega
          · have h4 : ¬ (4 : Int) ≤ st := by omega
            have h5 : st ≤ 4 := by omega
            have IW := Lib.hid (IR.out.wrote WR.out hk3)
            have c92 : wr.cell? ⟨b9, 2, none⟩ = some (.slice xA xm xc) := (KR.out.1.cell 2).trans rfl
            clear WR KR IR
            have CX := Lib.hid (crash_c (cp := xc) SR.out.dc (by omega) (keep := ks) (XK.out.2.keep SR.out.bel) XK.out.1 (fun h0 ad e => by
              obtain ⟨b', off', e', hlt', _⟩ := XK.out.2.2 h0
              rw [e] at e'
              have hb' : ad.block = b' := by rw [Option.some.inj e']
              rw [SR.out.sam ad.block (by rw [hb']; exact hlt')]; show (0 : Nat) ≠ 1; decide))
            go_wp2_with fail
            refine CX.out.mono ?_
            rintro e wZ ⟨ss, rfl, _, _, hdc, hch⟩
            have DZ := Lib.hid (show DS w wZ (paint C wr.heap.size 1) p (10 * (r + 1 + 1)) (crashD ks ss d' ss.length).1 from ⟨SR.out.bel.trans (hch.below (fun k hk e => by have := SR.out.sam k hk; rw [e] at this; cases this) SR.out.bel.size), SR.out.sam.trans (sam_paint _ _ _) SR.out.bel.size, hdc.more (by omega) (by omega)⟩)
            have IZ := Lib.hid (IW.out.crash SR.out.dc.ok ks ss ss.length)
            obtain ⟨dZ, hdZ⟩ : ∃ dZ, dZ = (crashD ks ss d' ss.length).1 := ⟨_, rfl⟩
            rw [← hdZ] at DZ IZ
            clear hdc hch hdZ CX SR
            obtain ⟨z, hz⟩ : ∃ z : Int, z = if is = true then 0 else 141 := ⟨_, rfl⟩
            have hldN : dZ.load nName = (now, z) := by rw [hz]; exact IZ.out.load
            have hzz : (z == 0) = is := by rw [hz]; cases is <;> rfl
            have CL := Lib.hid (load_c DZ.out.dc nName okNm)
            have CO := Lib.hid (fun W hb => load_c (DZ.out.dc.keep (w' := W) hb (Sam.refl _ _)) nOther okOt)
            rw [hldN] at CL
            rw [IZ.out.loadO] at CO
            clear hldN hz
            go_wp2_with fail
            refine CL.out.mono ?_
            rintro e w20 ⟨va, rfl, hoa, hba⟩
            obtain ⟨Aa, ca, rfl, _, _, hra⟩ := hoa.form
            have BA := Lib.hid hba
            have RA := Lib.hid hra
            clear hoa hba hra CL
            go_wp2_with fail
            refine (CO.out _ BA.out).mono ?_
            rintro e w21 ⟨vb, rfl, hob, hbb⟩
            obtain ⟨Ab, cb, rfl, _, _, hrb⟩ := hob.form
            have cvA : (convert 29 9 (.slice Aa now.length ca)).run Try.prog w21 = .ok (.string (strB now)) w21 := conv_bytes w21 Aa now.length ca now (RA.out.keep hbb)
            have cvB : (convert 29 9 (.slice Ab lo.length cb)).run Try.prog w21 = .ok (.string (strB lo)) w21 := conv_bytes w21 Ab lo.length cb lo hrb
            have DY := Lib.hid ((DZ.out.keep BA.out).keep hbb)
            clear hob hbb hrb CO RA BA DZ
            go_wp2_with fail
            refine (HNU.out _ _).mono ?_
            rintro e w21' ⟨rfl, rfl⟩
            go_wp2_with fail
            refine (HNU.out _ _).mono ?_
            rintro e w21' ⟨rfl, rfl⟩
            go_wp2_with fail
            go_roundw
            case rel => exact ⟨r + 1, by omega, by go_num, _, _, now, is, rfl, rfl, DY, IZ⟩
            case measure => simp [intOf]; omega
        · obtain rfl : k = 4 := by omega
          have h4 : (4 : Int) ≤ st := by omega
          obtain ⟨hIA, hno⟩ := IR.out.all WR.out
          have IW := Lib.hid hIA
          have c92 : wr.cell? ⟨b9, 2, none⟩ = some (.slice xA xm xc) := (KR.out.1.cell 2).trans rfl
          have CT := Lib.hid (stat_c SR.out.dc nScr okSc)
          rw [Dk.stat_no maySc hno] at CT
          unfold statV at CT
          clear hno hIA WR IR
          by_cases h5 : st ≤ 4
          · have hks4 : ¬ (4 : Int) < st := by omega
            go_upto_region 26 with fail
            go_wp2_with fail
            refine CT.out.mono ?_
            rintro e w19 ⟨rfl, hb19⟩
            have SR' := Lib.hid (SR.out.keep hb19)
            have KR' := Lib.hid (KR.out.keep hb19)
            simp only
            clear hb19 CT SR KR c92
            go_upto_region 27 with fail
            obtain ⟨wr, hwr⟩ : ∃ wr, wr = w19.alloc (.cells #[.int .i64 0, .int .i64 0, .int .i64 0, .int .i64 0] 42) := ⟨_, rfl⟩
            have hbr : Below w19.heap.size w19 wr := by rw [hwr]; exact (Below.refl _ _).alloc (Nat.le_refl _) _
            have SR := Lib.hid (SR'.out.keep hbr)
            have KR := Lib.hid (KR'.out.keep hbr)
            have c91 : wr.cell? ⟨b9, 1, none⟩ = some (.int .i64 st) := (KR.out.1.cell 1).trans rfl
            have c92 : wr.cell? ⟨b9, 2, none⟩ = some (.slice xA xm xc) := (KR.out.1.cell 2).trans rfl
            rw [← hwr]
            clear hwr hbr SR' KR' KR
            go_wp2_with fail
            refine (HNU.out _ _).mono ?_
            rintro e wr' ⟨rfl, rfl⟩
            have CX := Lib.hid (crash_c (cp := xc) SR.out.dc (by omega) (keep := ks) (XK.out.2.keep SR.out.bel) XK.out.1 (fun h0 ad e => by
              obtain ⟨b', off', e', hlt', _⟩ := XK.out.2.2 h0
              rw [e] at e'
              have hb' : ad.block = b' := by rw [Option.some.inj e']
              rw [SR.out.sam ad.block (by rw [hb']; exact hlt')]; show (0 : Nat) ≠ 1; decide))
            go_wp2_with fail
            refine CX.out.mono ?_
            rintro e wZ ⟨ss, rfl, _, _, hdc, hch⟩
            have DZ := Lib.hid (show DS w wZ (paint C wr.heap.size 1) p (10 * (r + 1 + 1)) (crashD ks ss d' ss.length).1 from ⟨SR.out.bel.trans (hch.below (fun k hk e => by have := SR.out.sam k hk; rw [e] at this; cases this) SR.out.bel.size), SR.out.sam.trans (sam_paint _ _ _) SR.out.bel.size, hdc.more (by omega) (by omega)⟩)
            have IZ := Lib.hid (IW.out.crash SR.out.dc.ok ks ss ss.length)
            obtain ⟨dZ, hdZ⟩ : ∃ dZ, dZ = (crashD ks ss d' ss.length).1 := ⟨_, rfl⟩
            rw [← hdZ] at DZ IZ
            clear hdc hch hdZ CX SR
            obtain ⟨z, hz⟩ : ∃ z : Int, z = if true = true then 0 else 141 := ⟨_, rfl⟩
            have hldN : dZ.load nName = (ld, z) := by rw [hz]; exact IZ.out.load
            have hzz : (z == 0) = true := by rw [hz]; rfl
            have CL := Lib.hid (load_c DZ.out.dc nName okNm)
            have CO := Lib.hid (fun W hb => load_c (DZ.out.dc.keep (w' := W) hb (Sam.refl _ _)) nOther okOt)
            rw [hldN] at CL
            rw [IZ.out.loadO] at CO
            clear hldN hz
            go_wp2_with fail
            refine CL.out.mono ?_
            rintro e w20 ⟨va, rfl, hoa, hba⟩
            obtain ⟨Aa, ca, rfl, _, _, hra⟩ := hoa.form
            have BA := Lib.hid hba
            have RA := Lib.hid hra
            clear hoa hba hra CL
            go_wp2_with fail
            refine (CO.out _ BA.out).mono ?_
            rintro e w21 ⟨vb, rfl, hob, hbb⟩
            obtain ⟨Ab, cb, rfl, _, _, hrb⟩ := hob.form
            have cvA : (convert 29 9 (.slice Aa ld.length ca)).run Try.prog w21 = .ok (.string (strB ld)) w21 := conv_bytes w21 Aa ld.length ca ld (RA.out.keep hbb)
            have cvB : (convert 29 9 (.slice Ab lo.length cb)).run Try.prog w21 = .ok (.string (strB lo)) w21 := conv_bytes w21 Ab lo.length cb lo hrb
            have DY := Lib.hid ((DZ.out.keep BA.out).keep hbb)
            clear hob hbb hrb CO RA BA DZ
            go_wp2_with fail
            refine (HNU.out _ _).mono ?_
            rintro e w21' ⟨rfl, rfl⟩
            go_wp2_with fail
            refine (HNU.out _ _).mono ?_
            rintro e w21' ⟨rfl, rfl⟩
            go_wp2_with fail
            go_roundw
            case rel => exact ⟨r + 1, by omega, by go_num, _, _, ld, true, rfl, rfl, DY, IZ⟩
            case measure => simp [intOf]; omega
          · have hks4 : (4 : Int) < st := by omega
            go_upto_region 26 with fail
            go_wp2_with fail
            refine CT.out.mono ?_
            rintro e w19 ⟨rfl, hb19⟩
            have SR' := Lib.hid (SR.out.keep hb19)
            have KR' := Lib.hid (KR.out.keep hb19)
            simp only
            clear hb19 CT SR KR c92
            go_upto_region 27 with fail
            obtain ⟨wr, hwr⟩ : ∃ wr, wr = w19.alloc (.cells #[.int .i64 0, .int .i64 0, .int .i64 0, .int .i64 0] 42) := ⟨_, rfl⟩
            have hbr : Below w19.heap.size w19 wr := by rw [hwr]; exact (Below.refl _ _).alloc (Nat.le_refl _) _
            have SR := Lib.hid (SR'.out.keep hbr)
            have KR := Lib.hid (KR'.out.keep hbr)
            have c91 : wr.cell? ⟨b9, 1, none⟩ = some (.int .i64 st) := (KR.out.1.cell 1).trans rfl
            have c92 : wr.cell? ⟨b9, 2, none⟩ = some (.slice xA xm xc) := (KR.out.1.cell 2).trans rfl
            rw [← hwr]
            clear hwr hbr SR' KR' KR
            go_wp2_with fail
            refine (HNU.out _ _).mono ?_
            rintro e wr' ⟨rfl, rfl⟩
            have h6 : ¬ st ≤ 4 := by omega
            have DZ := Lib.hid (show DS w wr C p (10 * (r + 1 + 1)) d' from ⟨SR.out.bel, SR.out.sam, SR.out.dc.more (by omega) (by omega)⟩)
            obtain ⟨dZ, hdZ⟩ : ∃ dZ, dZ = d' := ⟨_, rfl⟩
            rw [← hdZ] at DZ IW
            clear hdZ SR
            obtain ⟨z, hz⟩ : ∃ z : Int, z = if true = true then 0 else 141 := ⟨_, rfl⟩
            have hldN : dZ.load nName = (ld, z) := by rw [hz]; exact IW.out.load
            have hzz : (z == 0) = true := by rw [hz]; rfl
            have CL := Lib.hid (load_c DZ.out.dc nName okNm)
            have CO := Lib.hid (fun W hb => load_c (DZ.out.dc.keep (w' := W) hb (Sam.refl _ _)) nOther okOt)
            rw [hldN] at CL
            rw [IW.out.loadO] at CO
            clear hldN hz
            go_wp2_with fail
            refine CL.out.mono ?_
            rintro e w20 ⟨va, rfl, hoa, hba⟩
            obtain ⟨Aa, ca, rfl, _, _, hra⟩ := hoa.form
            have BA := Lib.hid hba
            have RA := Lib.hid hra
            clear hoa hba hra CL
            go_wp2_with fail
            refine (CO.out _ BA.out).mono ?_
            rintro e w21 ⟨vb, rfl, hob, hbb⟩
            obtain ⟨Ab, cb, rfl, _, _, hrb⟩ := hob.form
            have cvA : (convert 29 9 (.slice Aa ld.length ca)).run Try.prog w21 = .ok (.string (strB ld)) w21 := conv_bytes w21 Aa ld.length ca ld (RA.out.keep hbb)
            have cvB : (convert 29 9 (.slice Ab lo.length cb)).run Try.prog w21 = .ok (.string (strB lo)) w21 := conv_bytes w21 Ab lo.length cb lo hrb
            have DY := Lib.hid ((DZ.out.keep BA.out).keep hbb)
            clear hob hbb hrb CO RA BA DZ
            go_wp2_with fail
            refine (HNU.out _ _).mono ?_
            rintro e w21' ⟨rfl, rfl⟩
            go_wp2_with fail
            refine (HNU.out _ _).mono ?_
            rintro e w21' ⟨rfl, rfl⟩
            go_wp2_with fail
            go_roundw
            case rel => exact ⟨r + 1, by omega, by go_num, _, _, ld, true, rfl, rfl, DY, IW⟩
            case measure => simp [intOf]; omega
    · obtain rfl : r = L := by omega
      have HF : Hid (TrueQ w (.returned (.bool true)) wr) := Lib.hid ⟨rfl, DR.out.bel⟩
      go_wp2_with fail
      go_ret
      exact HF.out
end Go.Proofs.Ythhbfjhgmdnpbaa
