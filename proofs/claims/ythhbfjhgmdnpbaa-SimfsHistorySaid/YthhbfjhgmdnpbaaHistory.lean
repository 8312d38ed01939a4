/- THE WALK of the law SimfsHistory (printed by a program of ours). -/
import Derived.Test.YthhbfjhgmdnpbaaSimFixed
import Derived.Test.YthhbfjhgmdnpbaaSeenAt
import Derived.Test.YthhbfjhgmdnpbaaHistLaw
import Derived.RegionTactic
import Derived.Deep.RegionHeld
import Derived.Deep.RegionHeld3
import Derived.Deep.DrawnRows
import Derived.Deep.CutBlock
namespace Go.Proofs.Ythhbfjhgmdnpbaa
open Go.RowKit Go.Maps
attribute [local go_sem ↓] Go.wp_at_zero Go.wp_at_succ
set_option maxRecDepth 20000 in
set_option maxHeartbeats 8000000 in
theorem history_any (A0 : Option Addr) (n0 cp0 : Nat) (l : List O14) (w : World) (hr : SO w A0 n0 l) (_hc : n0 ≤ cp0) (_hcm : cp0 ≤ maxLen) : Calls Try.prog 6 #[.slice A0 n0 cp0] w (TruQ w) := by
  have CK := Lib.hid (fixed14 w)
  have HR := Lib.hid hr
  clear hr
  go_enter Try.func6, Try.ntmps6
  go_wp2_with fail
  refine CK.out.mono ?_
  rintro e wk ⟨rfl, hbk⟩
  have BK := Lib.hid hbk
  have CN := Lib.hid (new_c wk (fun _ => 0) 1)
  clear hbk CK
  go_wp2_with fail
  refine CN.out.mono ?_
  rintro e w1 ⟨p, rfl, hp, hd, hb⟩
  have D1 := Lib.hid (DS.made BK.out hd hb)
  clear hd hb hp CN BK
  go_wp2_with fail
  go_loopw [4, 5] (fun s4 s5 W => ∃ i md : Nat, s5 = .int .i64 (i : Int) ∧ s4 = .int .i64 (md : Int) ∧ i ≤ n0 ∧ i ≤ 80 ∧ md ≤ 2 * i ∧ ∃ C d, Hid (DS w W C p (2 * i) d) ∧ Hid (md = d.no)) (fun _ s5 _ => 80 - (intOf s5).toNat)
  case atStart => exact ⟨0, 0, rfl, rfl, Nat.zero_le _, Nat.zero_le _, Nat.zero_le _, _, _, D1, Lib.hid rfl⟩
  case round =>
   as_aux_lemma =>
    obtain ⟨i, md, rfl, rfl, hin, hi8, hmd, C, d, DR, HM⟩ := hrel
    clear D1
    go_upto_region 6 with fail
    go_cut [27] (fun s wx => ∃ b : Bool, s = .bool b ∧ (b = true ↔ i < n0 ∧ i < 80) ∧ wx = wr)
    case first =>
      by_cases hlt : i < n0
      · by_cases h80 : i < 80
        · go_wp2_with fail
          go_meet
          exact ⟨true, by rw [decide_eq_true (by omega)], by simp [hlt, h80], rfl⟩
        · go_wp2_with fail
          go_meet
          exact ⟨false, by rw [decide_eq_false (by omega)], by simp [h80], rfl⟩
      · go_wp2_with fail
        go_meet
        exact ⟨false, rfl, by simp [hlt], rfl⟩
    case rest =>
     as_aux_lemma =>
      obtain ⟨b, rfl, hb0, hcut⟩ := hcut
      rw [hcut]
      clear hcut wc
      cases b
      case false =>
        have HF : Hid (TruQ w (.returned (.bool true)) wr) := Lib.hid ⟨rfl, DR.out.bel⟩
        clear hb0
        go_wp2_with fail
        go_ret
        exact HF.out
      case true =>
        obtain ⟨hlt, h80⟩ := hb0.1 rfl
        clear hb0
        obtain ⟨b, off, rfl, hbl, hcell⟩ := HR.out.2.2 (by omega)
        obtain ⟨o, ho⟩ : ∃ o, l[i]? = some o := ⟨_, List.getElem?_eq_getElem (by rw [HR.out.1]; exact hlt)⟩
        obtain ⟨hIn, ⟨x1, e1⟩, ⟨x6, e6⟩, ⟨x7, e7⟩, ⟨x8, e8⟩, ⟨x9, e9⟩⟩ := HR.out.2.1 o (List.mem_of_getElem? ho)
        have HX : Hid (oC o = #[.int .i64 o.k, .int .i64 x1, .string (strB o.a), .string (strB o.b), .string o.s, .int .i64 o.times, .int .i64 x6, .int .i64 x7, .int .i64 x8, .int .i64 x9, .slice o.A o.m o.cp]) := Lib.hid (by unfold oC; rw [e1, e6, e7, e8, e9])
        have HIN := Lib.hid hIn
        have hcc := hcell i o ho
        rw [HX.out] at hcc
        have c0 : wr.cell? ⟨b, off + i * 11, none⟩ = some (.int .i64 o.k) := cell_later DR.out.bel (hcc 0 _ rfl)
        have c1 : wr.cell? ⟨b, off + i * 11 + 1, none⟩ = some (.int .i64 x1) := cell_later DR.out.bel (hcc 1 _ rfl)
        have c2 : wr.cell? ⟨b, off + i * 11 + 2, none⟩ = some (.string (strB o.a)) := cell_later DR.out.bel (hcc 2 _ rfl)
        have c3 : wr.cell? ⟨b, off + i * 11 + 3, none⟩ = some (.string (strB o.b)) := cell_later DR.out.bel (hcc 3 _ rfl)
        have c4 : wr.cell? ⟨b, off + i * 11 + 4, none⟩ = some (.string o.s) := cell_later DR.out.bel (hcc 4 _ rfl)
        have c5 : wr.cell? ⟨b, off + i * 11 + 5, none⟩ = some (.int .i64 o.times) := cell_later DR.out.bel (hcc 5 _ rfl)
        have c6 : wr.cell? ⟨b, off + i * 11 + 6, none⟩ = some (.int .i64 x6) := cell_later DR.out.bel (hcc 6 _ rfl)
        have c7 : wr.cell? ⟨b, off + i * 11 + 7, none⟩ = some (.int .i64 x7) := cell_later DR.out.bel (hcc 7 _ rfl)
        have c8 : wr.cell? ⟨b, off + i * 11 + 8, none⟩ = some (.int .i64 x8) := cell_later DR.out.bel (hcc 8 _ rfl)
        have c9 : wr.cell? ⟨b, off + i * 11 + 9, none⟩ = some (.int .i64 x9) := cell_later DR.out.bel (hcc 9 _ rfl)
        have c10 : wr.cell? ⟨b, off + i * 11 + 10, none⟩ = some (.slice o.A o.m o.cp) := cell_later DR.out.bel (hcc 10 _ rfl)
        have hi0 : (0 : Int) ≤ (i : Int) := by omega
        have hi1 : (i : Int) < (n0 : Int) := by omega
        clear hbl hcell ho hIn e1 e6 e7 e8 e9 hcc
        go_upto_region 9 with fail
        obtain ⟨w2, hw2⟩ : ∃ w2, w2 = wr.alloc (.cells #[.int .i64 o.k, .int .i64 x1, .string (strB o.a), .string (strB o.b), .string o.s, .int .i64 o.times, .int .i64 x6, .int .i64 x7, .int .i64 x8, .int .i64 x9, .slice o.A o.m o.cp] 55) := ⟨_, rfl⟩
        obtain ⟨qb, hqb⟩ : ∃ qb, qb = wr.heap.size := ⟨_, rfl⟩
        have hbw2 : Below wr.heap.size wr w2 := by rw [hw2]; exact below_alloc' _ _
        have D2 := Lib.hid (DR.out.keep2 hbw2 (sam_paint C wr.heap.size 3))
        have kw2 := Fr.blk (C := paint C wr.heap.size 3) (show Blk w2 qb 55 #[.int .i64 o.k, .int .i64 x1, .string (strB o.a), .string (strB o.b), .string o.s, .int .i64 o.times, .int .i64 x6, .int .i64 x7, .int .i64 x8, .int .i64 x9, .slice o.A o.m o.cp] by rw [hw2]; exact Blk.new wr _ _ hqb) (by rw [hqb]; exact paint_new C 3 (Nat.le_refl _))
        have H2 := Lib.hid (kw2)
        obtain ⟨C2, hC2⟩ : ∃ C2, C2 = paint C wr.heap.size 3 := ⟨_, rfl⟩
        rw [← hC2] at D2 H2
        rw [← hw2, ← hqb]
        clear hw2 hqb hbw2 hC2 kw2 DR
        have hmd1 : (md : Int) ≤ 1000 := by omega
        obtain ⟨m7, hm7⟩ : ∃ m7, m7 = md + 1 := ⟨_, rfl⟩
        have HMm7 : Hid (m7 = md + 1 ∧ 0 < m7) := Lib.hid ⟨hm7, by omega⟩
        have cs := seen_any D2.out.dc m7 (by omega)
        rw [show (m7 : Int) = (md : Int) + 1 from by omega] at cs
        have CS := Lib.hid cs
        clear hm7 cs c0 c1 c2 c3 c4 c5 c6 c7 c8 c9 c10 hi0 hi1
        go_wp2_with fail
        refine CS.out.mono ?_
        rintro e w3 ⟨v, rfl, hrow, hbr⟩
        clear CS
        obtain ⟨Ag7, c7, rfl, hc7, _, hAg7⟩ := own_form hrow
        obtain ⟨g7, rfl, _⟩ : ∃ g, Ag7 = some ⟨g, 0, none⟩ ∧ True := by
          rcases hAg7 with ⟨_, h⟩ | ⟨g, h, _⟩
          · have := HMm7.out; omega
          · exact ⟨g, h, trivial⟩
        have D3 := Lib.hid (D2.out.keep2 hbr (sam_paint C2 w2.heap.size 3))
        have H3 := Lib.hid ((H2.out.keep hbr (sam_paint C2 w2.heap.size 3)).and (Fr.own hrow (fun k hk => paint_new C2 3 (hrow.lt k hk).1)))
        obtain ⟨C3, hC3⟩ : ∃ C3, C3 = paint C2 w2.heap.size 3 := ⟨_, rfl⟩
        rw [← hC3] at D3 H3
        clear hrow hbr hAg7 hC3 D2 H2
        have z0 : w3.cell? ⟨qb, 0, none⟩ = some (.int .i64 o.k) := ((H3.out.now.1).cell 0).trans rfl
        have z2 : w3.cell? ⟨qb, 2, none⟩ = some (.string (strB o.a)) := ((H3.out.now.1).cell 2).trans rfl
        have z3 : w3.cell? ⟨qb, 3, none⟩ = some (.string (strB o.b)) := ((H3.out.now.1).cell 3).trans rfl
        go_upto_if 42 with fail
        go_cut [8] (fun s wx => s = .string (strB (toOf o)) ∧ wx = w3)
        case first =>
          by_cases k3 : o.k = 3
          · have hk : (o.k == 3) = true := by simp [k3]
            have ht : Hid (toOf o = o.b) := Lib.hid (by unfold toOf; rw [if_pos k3])
            clear k3
            go_wp2_with fail
            go_meet
            exact ⟨by rw [ht.out], rfl⟩
          · have hk : (o.k == 3) = false := by simp [k3]
            have ht : Hid (toOf o = o.a) := Lib.hid (by unfold toOf; rw [if_neg k3])
            clear k3
            go_wp2_with fail
            go_meet
            exact ⟨by rw [ht.out], rfl⟩
        case rest =>
         as_aux_lemma =>
          obtain ⟨rfl, hcut⟩ := hcut
          rw [hcut]
          clear hcut wc z0 z2 z3
          have DR0 : Hid (∀ u, d.se (toOf o) = some u → 1 ≤ u ∧ u ≤ 1000) := Lib.hid (fun u hu => by have := D3.out.dc.ok.ser _ u hu; omega)
          obtain ⟨nmT, hto⟩ : ∃ nmT, nmT = toOf o := ⟨_, rfl⟩
          have HTO := Lib.hid hto
          rw [← hto] at DR0 ⊢
          obtain ⟨⟨si, ss, sg, sn, se⟩, hst⟩ : ∃ st, st = d.sti nmT := ⟨_, rfl⟩
          have HST := Lib.hid hst
          have ct := stat_g D3.out.dc nmT
          rw [Dk.stat_sti, ← hst] at ct
          unfold statV at ct
          have CT := Lib.hid ct
          clear ct hst hto
          go_wp2_with fail
          refine CT.out.mono ?_
          rintro e w4 ⟨rfl, hbr⟩
          have D4 := Lib.hid (D3.out.keep hbr)
          have H4 := Lib.hid (H3.out.keep hbr (Sam.refl _ _))
          simp only
          clear hbr CT D3 H3
          go_upto_region 14 with fail
          obtain ⟨w5, hw5⟩ : ∃ w5, w5 = w4.alloc (.cells #[.int .i64 si, .int .i64 ss, .int .i64 sg, .int .i64 sn] 42) := ⟨_, rfl⟩
          obtain ⟨sb, hsb⟩ : ∃ sb, sb = w4.heap.size := ⟨_, rfl⟩
          have hbw5 : Below w4.heap.size w4 w5 := by rw [hw5]; exact below_alloc' _ _
          have D5 := Lib.hid (D4.out.keep2 hbw5 (sam_paint C3 w4.heap.size 3))
          have kw5 := Fr.blk (C := paint C3 w4.heap.size 3) (show Blk w5 sb 42 #[.int .i64 si, .int .i64 ss, .int .i64 sg, .int .i64 sn] by rw [hw5]; exact Blk.new w4 _ _ hsb) (by rw [hsb]; exact paint_new C3 3 (Nat.le_refl _))
          have H5 := Lib.hid ((H4.out.keep hbw5 (sam_paint C3 w4.heap.size 3)).and kw5)
          obtain ⟨C5, hC5⟩ : ∃ C5, C5 = paint C3 w4.heap.size 3 := ⟨_, rfl⟩
          rw [← hC5] at D5 H5
          rw [← hw5, ← hsb]
          clear hw5 hsb hbw5 hC5 kw5 D4 H4
          have z0 : w5.cell? ⟨qb, 0, none⟩ = some (.int .i64 o.k) := ((H5.out.now.1.1).cell 0).trans rfl
          have z1 : w5.cell? ⟨qb, 1, none⟩ = some (.int .i64 x1) := ((H5.out.now.1.1).cell 1).trans rfl
          have z2 : w5.cell? ⟨qb, 2, none⟩ = some (.string (strB o.a)) := ((H5.out.now.1.1).cell 2).trans rfl
          have z3 : w5.cell? ⟨qb, 3, none⟩ = some (.string (strB o.b)) := ((H5.out.now.1.1).cell 3).trans rfl
          have z4 : w5.cell? ⟨qb, 4, none⟩ = some (.string o.s) := ((H5.out.now.1.1).cell 4).trans rfl
          have z5 : w5.cell? ⟨qb, 5, none⟩ = some (.int .i64 o.times) := ((H5.out.now.1.1).cell 5).trans rfl
          have z6 : w5.cell? ⟨qb, 6, none⟩ = some (.int .i64 x6) := ((H5.out.now.1.1).cell 6).trans rfl
          have z7 : w5.cell? ⟨qb, 7, none⟩ = some (.int .i64 x7) := ((H5.out.now.1.1).cell 7).trans rfl
          have z8 : w5.cell? ⟨qb, 8, none⟩ = some (.int .i64 x8) := ((H5.out.now.1.1).cell 8).trans rfl
          have z9 : w5.cell? ⟨qb, 9, none⟩ = some (.int .i64 x9) := ((H5.out.now.1.1).cell 9).trans rfl
          have z10 : w5.cell? ⟨qb, 10, none⟩ = some (.slice o.A o.m o.cp) := ((H5.out.now.1.1).cell 10).trans rfl
          have cd := does_any D5.out.dc (by omega) o (HIN.out.keep D5.out.bel)
          rw [HX.out] at cd
          have CD := Lib.hid cd
          clear cd
          go_wp2_with fail
          refine CD.out.mono ?_
          rintro e w6 ⟨r, ar, d2, rfl, hdr, hdc, hch⟩
          have HH := Lib.hid (hist_any D5.out.dc.ok hdr)
          have D6 : Hid (DS w w6 (paint C5 w5.heap.size 1) p (2 * i + 2) d2) := Lib.hid ⟨D5.out.bel.trans (hch.below (fun k hk e => by have := D5.out.sam k hk; rw [e] at this; cases this) D5.out.bel.size), D5.out.sam.trans (sam_paint _ _ _) D5.out.bel.size, hdc⟩
          have H6 := Lib.hid (H5.out.step hch (sam_paint C5 w5.heap.size 1) (fun b hb e => by rw [hb] at e; cases e))
          obtain ⟨C6, hC6⟩ : ∃ C6, C6 = paint C5 w5.heap.size 1 := ⟨_, rfl⟩
          rw [← hC6] at D6 H6
          obtain ⟨md2, hmd2⟩ : ∃ md2, md2 = d2.no := ⟨_, rfl⟩
          have hmd3 : md2 ≤ 2 * i + 2 := by rw [hmd2]; exact D6.out.dc.ok.no
          have HM2 : Hid (md2 = d2.no ∧ md2 = if o.k = 0 ∧ r = 0 then md + 1 else md) := Lib.hid ⟨hmd2, by rw [hmd2, HH.out.no, HM.out]⟩
          clear hdr hdc hch CD D5 H5 hC6 hmd2 z0 z1 z2 z3 z4 z5 z6 z7 z8 z9 z10
          have z0 : w6.cell? ⟨qb, 0, none⟩ = some (.int .i64 o.k) := ((H6.out.now.1.1).cell 0).trans rfl
          go_upto_region 15 with fail
          go_cut [63] (fun s wx => s = .bool (decide (o.k = 0 ∧ r = 0)) ∧ wx = w6)
          case first =>
            by_cases k0 : o.k = 0
            · have hk : (o.k == 0) = true := by simp [k0]
              by_cases r0 : r = 0
              · have hr : (r == 0) = true := by simp [r0]
                have ht : Hid (decide (o.k = 0 ∧ r = 0) = true) := Lib.hid (decide_eq_true ⟨k0, r0⟩)
                clear k0 r0
                go_wp2_with fail
                go_meet
                exact ⟨by rw [ht.out], rfl⟩
              · have hr : (r == 0) = false := by simp [r0]
                have ht : Hid (decide (o.k = 0 ∧ r = 0) = false) := Lib.hid (decide_eq_false (fun e => r0 e.2))
                clear k0 r0
                go_wp2_with fail
                go_meet
                exact ⟨by rw [ht.out], rfl⟩
            · have hk : (o.k == 0) = false := by simp [k0]
              have ht : Hid (decide (o.k = 0 ∧ r = 0) = false) := Lib.hid (decide_eq_false (fun e => k0 e.1))
              clear k0
              go_wp2_with fail
              go_meet
              exact ⟨by rw [ht.out], rfl⟩
          case rest =>
           as_aux_lemma =>
            obtain ⟨rfl, hcut⟩ := hcut
            rw [hcut]
            clear hcut wc
            go_upto_if 63 with fail
            go_cut [4] (fun s wx => s = .int .i64 (md2 : Int) ∧ wx = w6)
            case first =>
              by_cases kr : o.k = 0 ∧ r = 0
              · rw [decide_eq_true kr]
                have ht : Hid (md2 = md + 1) := Lib.hid (by rw [HM2.out.2, if_pos kr])
                clear kr
                go_wp2_with fail
                go_meet
                exact ⟨by rw [ht.out]; rfl, rfl⟩
              · rw [decide_eq_false kr]
                have ht : Hid (md2 = md) := Lib.hid (by rw [HM2.out.2, if_neg kr])
                clear kr
                go_wp2_with fail
                go_meet
                exact ⟨by rw [ht.out], rfl⟩
            case rest =>
             as_aux_lemma =>
              obtain ⟨rfl, hcut⟩ := hcut
              rw [hcut]
              clear hcut wc
              obtain ⟨m13, hm13⟩ : ∃ m13, m13 = md2 + 1 := ⟨_, rfl⟩
              have HMm13 : Hid (m13 = md2 + 1 ∧ 0 < m13 ∧ m7 ≤ m13 ∧ m7 = md + 1) := Lib.hid ⟨hm13, by omega, by
                have h1 := HM2.out.2
                have h2 := HMm7.out.1
                split at h1 <;> omega, HMm7.out.1⟩
              have cs := seen_any D6.out.dc m13 (by omega)
              rw [show (m13 : Int) = (md2 : Int) + 1 from by omega] at cs
              have CS := Lib.hid cs
              clear hm13 cs z0
              go_wp2_with fail
              refine CS.out.mono ?_
              rintro e w7 ⟨v, rfl, hrow, hbr⟩
              clear CS
              obtain ⟨Ag13, c13, rfl, hc13, _, hAg13⟩ := own_form hrow
              obtain ⟨g13, rfl, _⟩ : ∃ g, Ag13 = some ⟨g, 0, none⟩ ∧ True := by
                rcases hAg13 with ⟨_, h⟩ | ⟨g, h, _⟩
                · have := HMm13.out; omega
                · exact ⟨g, h, trivial⟩
              have D7 := Lib.hid (D6.out.keep2 hbr (sam_paint C6 w6.heap.size 3))
              have H7 := Lib.hid ((H6.out.keep hbr (sam_paint C6 w6.heap.size 3)).and (Fr.own hrow (fun k hk => paint_new C6 3 (hrow.lt k hk).1)))
              obtain ⟨C7, hC7⟩ : ∃ C7, C7 = paint C6 w6.heap.size 3 := ⟨_, rfl⟩
              rw [← hC7] at D7 H7
              clear hrow hbr hAg13 hC7 D6 H6
              obtain ⟨PP, hPP⟩ : ∃ PP : World → Prop, PP = (fun w => (((Blk w qb 55 #[.int .i64 o.k, .int .i64 x1, .string (strB o.a), .string (strB o.b), .string o.s, .int .i64 o.times, .int .i64 x6, .int .i64 x7, .int .i64 x8, .int .i64 x9, .slice o.A o.m o.cp] ∧ w.ownsRow w2.heap.size 62 5 (.slice (some ⟨g7, 0, none⟩) m7 c7) m7 (seenV d m7)) ∧ Blk w sb 42 #[.int .i64 si, .int .i64 ss, .int .i64 sg, .int .i64 sn]) ∧ w.ownsRow w6.heap.size 62 5 (.slice (some ⟨g13, 0, none⟩) m13 c13) m13 (seenV d2 m13))) := ⟨_, rfl⟩
              have HPP := Lib.hid hPP
              rw [← hPP] at H7
              clear hPP
              go_wp2_with fail
              go_loopw [14] (fun s14 W => ∃ k : Nat, s14 = .int .i64 (k : Int) ∧ k ≤ m7 ∧ ∃ Cx, Hid (DS w W Cx p (2 * i + 2) d2) ∧ Hid (Fr W Cx PP)) (fun s14 _ => m7 - (intOf s14).toNat)
              case atStart => exact ⟨0, rfl, Nat.zero_le _, _, D7, H7⟩
              case round =>
               as_aux_lemma =>
                obtain ⟨k, rfl, hk7, Cx, DX, HX2⟩ := hrel
                clear D7 H7
                by_cases hkm : k < m7
                · have hk0 : (0 : Int) ≤ (k : Int) := by omega
                  have hk1 : (k : Int) < (m7 : Int) := by omega
                  have hk2 : (k : Int) < (m13 : Int) := by have := HMm13.out.2.2.1; omega
                  have hk3 : (k : Int) ≤ 1000 := by have := HMm7.out.1; omega
                  have hmd4 : (md2 : Int) ≤ 1000 := by omega
                  have hmd5 : (0 : Int) ≤ (md2 : Int) := by omega
                  have hwr : IntKind.i64.wrap ((md2 : Int) - 1) = (md2 : Int) - 1 := by rw [IntKind.wrap_i64]; omega
                  obtain ⟨fa, hfa⟩ : ∃ fa, fa = fvOf d ((k : Int) + 1) := ⟨_, rfl⟩
                  obtain ⟨fb, hfb⟩ : ∃ fb, fb = fvOf d2 ((k : Int) + 1) := ⟨_, rfl⟩
                  have HFA : Hid (fa = fvOf d ((k : Int) + 1) ∧ fb = fvOf d2 ((k : Int) + 1)) := Lib.hid ⟨hfa, hfb⟩
                  have HT : Hid (∀ w', Below wr.heap.size wr w' → (fun w' => w'.cell? ⟨qb, 0, none⟩ = some (.int .i64 o.k) ∧ w'.cell? ⟨g7, k * 5, none⟩ = some (.int .i64 fa.i) ∧ w'.cell? ⟨g7, k * 5 + 1, none⟩ = some (.int .i64 fa.s) ∧ w'.cell? ⟨g7, k * 5 + 2, none⟩ = some (.int .i64 fa.g) ∧ w'.cell? ⟨g7, k * 5 + 3, none⟩ = some (.int .i64 fa.n) ∧ w'.cell? ⟨g7, k * 5 + 4, none⟩ = some (.string (strB fa.b)) ∧ w'.cell? ⟨g13, k * 5, none⟩ = some (.int .i64 fb.i) ∧ w'.cell? ⟨g13, k * 5 + 1, none⟩ = some (.int .i64 fb.s) ∧ w'.cell? ⟨g13, k * 5 + 2, none⟩ = some (.int .i64 fb.g) ∧ w'.cell? ⟨g13, k * 5 + 3, none⟩ = some (.int .i64 fb.n) ∧ w'.cell? ⟨g13, k * 5 + 4, none⟩ = some (.string (strB fb.b))) w') := Lib.hid (fun w' hb => by
                    have h1 := (HX2.out.keep hb (Sam.refl _ _)).now
                    rw [HPP.out] at h1
                    obtain ⟨⟨⟨hq, h7⟩, _⟩, h13⟩ := h1
                    obtain ⟨a0, a1, a2, a3, a4⟩ := seen_cells h7 hkm
                    obtain ⟨b0, b1, b2, b3, b4⟩ := seen_cells h13 (show k < m13 by omega)
                    rw [← hfa] at a0 a1 a2 a3 a4
                    rw [← hfb] at b0 b1 b2 b3 b4
                    exact ⟨(hq.cell 0).trans rfl, a0, a1, a2, a3, a4, b0, b1, b2, b3, b4⟩)
                  clear hfa hfb
                  go_upto_region 21 with fail
                  go_cut [102] (fun s wx => s = .bool false ∧ Below wr.heap.size wr wx)
                  case first =>
                   as_aux_lemma =>
                    by_cases kl : k < md2
                    · have t1 : decide ((k : Int) < (md2 : Int)) = true := decide_eq_true (by omega)
                      by_cases k0 : o.k = 0
                      · have hk : (o.k == 0) = true := by simp [k0]
                        by_cases kz : k + 1 = md2
                        · have t2 : ((k : Int) == (md2 : Int) - 1) = true := by simp; omega
                          clear k0
                          refine wp_region_any (by kernel_rfl) ?_
                          change wpAny _ _ _ _ _ _ _ (World.drew _)
                          refine wpAny_of_held (S := fun w' => w'.cell? ⟨qb, 0, none⟩ = some (.int .i64 o.k) ∧ w'.cell? ⟨g7, k * 5, none⟩ = some (.int .i64 fa.i) ∧ w'.cell? ⟨g7, k * 5 + 1, none⟩ = some (.int .i64 fa.s) ∧ w'.cell? ⟨g7, k * 5 + 2, none⟩ = some (.int .i64 fa.g) ∧ w'.cell? ⟨g7, k * 5 + 3, none⟩ = some (.int .i64 fa.n) ∧ w'.cell? ⟨g7, k * 5 + 4, none⟩ = some (.string (strB fa.b)) ∧ w'.cell? ⟨g13, k * 5, none⟩ = some (.int .i64 fb.i) ∧ w'.cell? ⟨g13, k * 5 + 1, none⟩ = some (.int .i64 fb.s) ∧ w'.cell? ⟨g13, k * 5 + 2, none⟩ = some (.int .i64 fb.g) ∧ w'.cell? ⟨g13, k * 5 + 3, none⟩ = some (.int .i64 fb.n) ∧ w'.cell? ⟨g13, k * 5 + 4, none⟩ = some (.string (strB fb.b))) _ _ _ _ ?_
                          obtain ⟨wd, hwd⟩ : ∃ wd, wd = wr.drew := ⟨_, rfl⟩
                          have BD : Hid (Below wr.heap.size wr wd) := Lib.hid (by rw [hwd]; exact (Below.refl _ _).drew)
                          rw [← hwd]
                          clear hwd
                          have hHeld : (fun w' => w'.cell? ⟨qb, 0, none⟩ = some (.int .i64 o.k) ∧ w'.cell? ⟨g7, k * 5, none⟩ = some (.int .i64 fa.i) ∧ w'.cell? ⟨g7, k * 5 + 1, none⟩ = some (.int .i64 fa.s) ∧ w'.cell? ⟨g7, k * 5 + 2, none⟩ = some (.int .i64 fa.g) ∧ w'.cell? ⟨g7, k * 5 + 3, none⟩ = some (.int .i64 fa.n) ∧ w'.cell? ⟨g7, k * 5 + 4, none⟩ = some (.string (strB fa.b)) ∧ w'.cell? ⟨g13, k * 5, none⟩ = some (.int .i64 fb.i) ∧ w'.cell? ⟨g13, k * 5 + 1, none⟩ = some (.int .i64 fb.s) ∧ w'.cell? ⟨g13, k * 5 + 2, none⟩ = some (.int .i64 fb.g) ∧ w'.cell? ⟨g13, k * 5 + 3, none⟩ = some (.int .i64 fb.n) ∧ w'.cell? ⟨g13, k * 5 + 4, none⟩ = some (.string (strB fb.b))) wd := HT.out _ BD.out
                          refine wpAnyH_take (i := 0) (v := ?_) rfl (by kernel_rfl) (by kernel_rfl) (by kernel_rfl) (fun _ _ _ h => h) (Or.inl ⟨by rfl, ?_⟩) (by assumption) ?_
                          rotate_left 1
                          · intro w hSw; (try dsimp only at hSw); go_simp <;> with_reducible rfl
                          try simp only [Act.put, List.setIfInBounds_toArray, List.set_cons_zero, List.set_cons_succ, List.getElem_toArray, List.getElem_cons_zero]
                          refine wpAnyH_take (i := 1) (v := ?_) rfl (by kernel_rfl) (by kernel_rfl) (by kernel_rfl) (fun _ _ _ h => h) (Or.inl ⟨by rfl, ?_⟩) (by assumption) ?_
                          rotate_left 1
                          · intro w hSw; (try dsimp only at hSw); go_simp <;> with_reducible rfl
                          try simp only [Act.put, List.setIfInBounds_toArray, List.set_cons_zero, List.set_cons_succ, List.getElem_toArray, List.getElem_cons_zero, List.getElem_cons_succ]
                          refine wpAnyH_take (i := 2) (v := .bool true) rfl (by kernel_rfl) (by kernel_rfl) (by kernel_rfl) (fun _ _ _ h => h) (Or.inl ⟨by rfl, ?_⟩) (by assumption) ?_
                          · intro w hSw; (try dsimp only at hSw); go_simp <;> (first | omega | simpa using hk | simpa using hr | (simp; omega) | (rw [hwr]; omega))
                          try simp only [Act.put, List.setIfInBounds_toArray, List.set_cons_zero, List.set_cons_succ, List.getElem_toArray, List.getElem_cons_zero, List.getElem_cons_succ]
                          refine wpAnyH_take (i := 3) (v := ?_) rfl (by kernel_rfl) (by kernel_rfl) (by kernel_rfl) (fun _ _ _ h => h) (Or.inl ⟨by rfl, ?_⟩) (by assumption) ?_
                          rotate_left 1
                          · intro w hSw; (try dsimp only at hSw); go_simp <;> with_reducible rfl
                          try simp only [Act.put, List.setIfInBounds_toArray, List.set_cons_zero, List.set_cons_succ, List.getElem_toArray, List.getElem_cons_zero, List.getElem_cons_succ]
                          refine wpAnyH_take (i := 4) (v := ?_) rfl (by kernel_rfl) (by kernel_rfl) (by kernel_rfl) (fun _ _ _ h => h) (Or.inl ⟨by rfl, ?_⟩) (by assumption) ?_
                          rotate_left 1
                          · intro w hSw; (try dsimp only at hSw); go_simp <;> with_reducible rfl
                          try simp only [Act.put, List.setIfInBounds_toArray, List.set_cons_zero, List.set_cons_succ, List.getElem_toArray, List.getElem_cons_zero, List.getElem_cons_succ]
                          refine wpAnyH_take (i := 5) (v := ?_) rfl (by kernel_rfl) (by kernel_rfl) (by kernel_rfl) (fun _ _ _ h => h) (Or.inl ⟨by rfl, ?_⟩) (by assumption) ?_
                          rotate_left 1
                          · intro w hSw; obtain ⟨zk, a0, a1, a2, a3, a4, b0, b1, b2, b3, b4⟩ := hSw; (try dsimp only at hSw); go_simp <;> with_reducible rfl
                          try simp only [Act.put, List.setIfInBounds_toArray, List.set_cons_zero, List.set_cons_succ, List.getElem_toArray, List.getElem_cons_zero, List.getElem_cons_succ]
                          refine wpAnyH_take (i := 6) (v := .bool true) rfl (by kernel_rfl) (by kernel_rfl) (by kernel_rfl) (fun _ _ _ h => h) (Or.inl ⟨by rfl, ?_⟩) (by assumption) ?_
                          · intro w hSw; obtain ⟨zk, a0, a1, a2, a3, a4, b0, b1, b2, b3, b4⟩ := hSw; go_simp <;> (first | omega | simpa using hk)
                          try simp only [Act.put, List.setIfInBounds_toArray, List.set_cons_zero, List.set_cons_succ, List.getElem_toArray, List.getElem_cons_zero, List.getElem_cons_succ]
                          refine wpAnyH_take (i := 7) (v := ?_) rfl (by kernel_rfl) (by kernel_rfl) (by kernel_rfl) (fun _ _ _ h => h) (Or.inl ⟨by rfl, ?_⟩) (by assumption) ?_
                          rotate_left 1
                          · intro w hSw; (try dsimp only at hSw); go_simp <;> with_reducible rfl
                          try simp only [Act.put, List.setIfInBounds_toArray, List.set_cons_zero, List.set_cons_succ, List.getElem_toArray, List.getElem_cons_zero, List.getElem_cons_succ]
                          refine wpAnyH_take (i := 8) (v := ?_) rfl (by kernel_rfl) (by kernel_rfl) (by kernel_rfl) (fun _ _ _ h => h) (Or.inl ⟨by rfl, ?_⟩) (by assumption) ?_
                          rotate_left 1
                          · intro w hSw; (try dsimp only at hSw); go_simp <;> with_reducible rfl
                          try simp only [Act.put, List.setIfInBounds_toArray, List.set_cons_zero, List.set_cons_succ, List.getElem_toArray, List.getElem_cons_zero, List.getElem_cons_succ]
                          refine wpAnyH_take (i := 9) (v := ?_) rfl (by kernel_rfl) (by kernel_rfl) (by kernel_rfl) (fun _ _ _ h => h) (Or.inl ⟨by rfl, ?_⟩) (by assumption) ?_
                          rotate_left 1
                          · intro w hSw; (try dsimp only at hSw); go_simp <;> with_reducible rfl
                          try simp only [Act.put, List.setIfInBounds_toArray, List.set_cons_zero, List.set_cons_succ, List.getElem_toArray, List.getElem_cons_zero, List.getElem_cons_succ]
                          refine wpAnyH_take (i := 10) (v := ?_) rfl (by kernel_rfl) (by kernel_rfl) (by kernel_rfl) (fun _ _ _ h => h) (Or.inl ⟨by rfl, ?_⟩) (by assumption) ?_
                          rotate_left 1
                          · intro w hSw; (try dsimp only at hSw); go_simp <;> with_reducible rfl
                          try simp only [Act.put, List.setIfInBounds_toArray, List.set_cons_zero, List.set_cons_succ, List.getElem_toArray, List.getElem_cons_zero, List.getElem_cons_succ]
                          refine wpAnyH_take (i := 11) (v := .bool true) rfl (by kernel_rfl) (by kernel_rfl) (by kernel_rfl) (fun _ _ _ h => h) (Or.inl ⟨by rfl, ?_⟩) (by assumption) ?_
                          · intro w hSw; (try dsimp only at hSw); go_simp <;> (first | omega | simpa using hk | simpa using hr | (simp; omega) | (rw [hwr]; omega))
                          try simp only [Act.put, List.setIfInBounds_toArray, List.set_cons_zero, List.set_cons_succ, List.getElem_toArray, List.getElem_cons_zero, List.getElem_cons_succ]
                          refine wpAnyH_take (i := 12) (v := ?_) rfl (by kernel_rfl) (by kernel_rfl) (by kernel_rfl) (fun _ _ _ h => h) (Or.inl ⟨by rfl, ?_⟩) (by assumption) ?_
                          rotate_left 1
                          · intro w hSw; (try dsimp only at hSw); go_simp <;> with_reducible rfl
                          try simp only [Act.put, List.setIfInBounds_toArray, List.set_cons_zero, List.set_cons_succ, List.getElem_toArray, List.getElem_cons_zero, List.getElem_cons_succ]
                          refine wpAnyH_take (i := 13) (v := ?_) rfl (by kernel_rfl) (by kernel_rfl) (by kernel_rfl) (fun _ _ _ h => h) (Or.inl ⟨by rfl, ?_⟩) (by assumption) ?_
                          rotate_left 1
                          · intro w hSw; (try dsimp only at hSw); go_simp <;> with_reducible rfl
                          try simp only [Act.put, List.setIfInBounds_toArray, List.set_cons_zero, List.set_cons_succ, List.getElem_toArray, List.getElem_cons_zero, List.getElem_cons_succ]
                          refine wpAnyH_take (i := 14) (v := ?_) rfl (by kernel_rfl) (by kernel_rfl) (by kernel_rfl) (fun _ _ _ h => h) (Or.inl ⟨by rfl, ?_⟩) (by assumption) ?_
                          rotate_left 1
                          · intro w hSw; (try dsimp only at hSw); go_simp <;> with_reducible rfl
                          try simp only [Act.put, List.setIfInBounds_toArray, List.set_cons_zero, List.set_cons_succ, List.getElem_toArray, List.getElem_cons_zero, List.getElem_cons_succ]
                          refine wpAnyH_take (i := 15) (v := ?_) rfl (by kernel_rfl) (by kernel_rfl) (by kernel_rfl) (fun _ _ _ h => h) (Or.inl ⟨by rfl, ?_⟩) (by assumption) ?_
                          rotate_left 1
                          · intro w hSw; (try dsimp only at hSw); go_simp <;> with_reducible rfl
                          try simp only [Act.put, List.setIfInBounds_toArray, List.set_cons_zero, List.set_cons_succ, List.getElem_toArray, List.getElem_cons_zero, List.getElem_cons_succ]
                          refine wpAnyH_take (i := 16) (v := undef) rfl (by kernel_rfl) (by kernel_rfl) (by kernel_rfl) (fun _ _ _ h => h) (Or.inr ⟨by rfl, rfl⟩) (by assumption) ?_
                          try simp only [Act.put, List.setIfInBounds_toArray, List.set_cons_zero, List.set_cons_succ, List.getElem_toArray, List.getElem_cons_zero, List.getElem_cons_succ]
                          refine wpAnyH_take (i := 17) (v := undef) rfl (by kernel_rfl) (by kernel_rfl) (by kernel_rfl) (fun _ _ _ h => h) (Or.inr ⟨by rfl, rfl⟩) (by assumption) ?_
                          try simp only [Act.put, List.setIfInBounds_toArray, List.set_cons_zero, List.set_cons_succ, List.getElem_toArray, List.getElem_cons_zero, List.getElem_cons_succ]
                          refine wpAnyH_take (i := 18) (v := undef) rfl (by kernel_rfl) (by kernel_rfl) (by kernel_rfl) (fun _ _ _ h => h) (Or.inr ⟨by rfl, rfl⟩) (by assumption) ?_
                          try simp only [Act.put, List.setIfInBounds_toArray, List.set_cons_zero, List.set_cons_succ, List.getElem_toArray, List.getElem_cons_zero, List.getElem_cons_succ]
                          refine wpAnyH_take (i := 19) (v := undef) rfl (by kernel_rfl) (by kernel_rfl) (by kernel_rfl) (fun _ _ _ h => h) (Or.inr ⟨by rfl, rfl⟩) (by assumption) ?_
                          try simp only [Act.put, List.setIfInBounds_toArray, List.set_cons_zero, List.set_cons_succ, List.getElem_toArray, List.getElem_cons_zero, List.getElem_cons_succ]
                          refine wpAnyH_take (i := 20) (v := undef) rfl (by kernel_rfl) (by kernel_rfl) (by kernel_rfl) (fun _ _ _ h => h) (Or.inr ⟨by rfl, rfl⟩) (by assumption) ?_
                          try simp only [Act.put, List.setIfInBounds_toArray, List.set_cons_zero, List.set_cons_succ, List.getElem_toArray, List.getElem_cons_zero, List.getElem_cons_succ]
                          refine wpAnyH_take (i := 21) (v := undef) rfl (by kernel_rfl) (by kernel_rfl) (by kernel_rfl) (fun _ _ _ h => h) (Or.inr ⟨by rfl, rfl⟩) (by assumption) ?_
                          try simp only [Act.put, List.setIfInBounds_toArray, List.set_cons_zero, List.set_cons_succ, List.getElem_toArray, List.getElem_cons_zero, List.getElem_cons_succ]
                          refine wpAnyH_take (i := 22) (v := undef) rfl (by kernel_rfl) (by kernel_rfl) (by kernel_rfl) (fun _ _ _ h => h) (Or.inr ⟨by rfl, rfl⟩) (by assumption) ?_
                          try simp only [Act.put, List.setIfInBounds_toArray, List.set_cons_zero, List.set_cons_succ, List.getElem_toArray, List.getElem_cons_zero, List.getElem_cons_succ]
                          refine wpAnyH_take (i := 23) (v := undef) rfl (by kernel_rfl) (by kernel_rfl) (by kernel_rfl) (fun _ _ _ h => h) (Or.inr ⟨by rfl, rfl⟩) (by assumption) ?_
                          try simp only [Act.put, List.setIfInBounds_toArray, List.set_cons_zero, List.set_cons_succ, List.getElem_toArray, List.getElem_cons_zero, List.getElem_cons_succ]
                          refine wpAnyH_take (i := 24) (v := undef) rfl (by kernel_rfl) (by kernel_rfl) (by kernel_rfl) (fun _ _ _ h => h) (Or.inr ⟨by rfl, rfl⟩) (by assumption) ?_
                          try simp only [Act.put, List.setIfInBounds_toArray, List.set_cons_zero, List.set_cons_succ, List.getElem_toArray, List.getElem_cons_zero, List.getElem_cons_succ]
                          refine wpAnyH_take (i := 25) (v := undef) rfl (by kernel_rfl) (by kernel_rfl) (by kernel_rfl) (fun _ _ _ h => h) (Or.inr ⟨by rfl, rfl⟩) (by assumption) ?_
                          try simp only [Act.put, List.setIfInBounds_toArray, List.set_cons_zero, List.set_cons_succ, List.getElem_toArray, List.getElem_cons_zero, List.getElem_cons_succ]
                          refine wpAnyH_take (i := 26) (v := ?_) rfl (by kernel_rfl) (by kernel_rfl) (by kernel_rfl) (fun _ _ _ h => h) (Or.inl ⟨by rfl, ?_⟩) (by assumption) ?_
                          rotate_left 1
                          · intro w hSw; (try dsimp only at hSw); go_simp <;> with_reducible rfl
                          try simp only [Act.put, List.setIfInBounds_toArray, List.set_cons_zero, List.set_cons_succ, List.getElem_toArray, List.getElem_cons_zero, List.getElem_cons_succ]
                          refine wpAnyH_done (by kernel_rfl) ?_ _
                          go_wp2_with fail
                          go_meet
                          exact ⟨rfl, BD.out⟩
                        · have t2 : ((k : Int) == (md2 : Int) - 1) = false := by simp; omega
                          have HGR : Hid (∀ W, Calls Try.prog 24 #[fvV fa, fvV fb] W (fun e w' => e = .returned (.bool true) ∧ Below W.heap.size W w')) := Lib.hid (fun W => by
                            have h1 : grownB fa fb = true := by
                              rw [HFA.out.1, HFA.out.2]
                              refine grown_of HH.out.grow (by omega) ?_
                              have h2 := HM2.out.2
                              have h3 := HM.out
                              split at h2 <;> omega
                            have h2 := grown_any fa fb W
                            rw [h1] at h2
                            exact h2)
                          unfold fvV at HGR
                          clear k0
                          refine wp_region_any (by kernel_rfl) ?_
                          change wpAny _ _ _ _ _ _ _ (World.drew _)
                          refine wpAny_of_held (S := fun w' => w'.cell? ⟨qb, 0, none⟩ = some (.int .i64 o.k) ∧ w'.cell? ⟨g7, k * 5, none⟩ = some (.int .i64 fa.i) ∧ w'.cell? ⟨g7, k * 5 + 1, none⟩ = some (.int .i64 fa.s) ∧ w'.cell? ⟨g7, k * 5 + 2, none⟩ = some (.int .i64 fa.g) ∧ w'.cell? ⟨g7, k * 5 + 3, none⟩ = some (.int .i64 fa.n) ∧ w'.cell? ⟨g7, k * 5 + 4, none⟩ = some (.string (strB fa.b)) ∧ w'.cell? ⟨g13, k * 5, none⟩ = some (.int .i64 fb.i) ∧ w'.cell? ⟨g13, k * 5 + 1, none⟩ = some (.int .i64 fb.s) ∧ w'.cell? ⟨g13, k * 5 + 2, none⟩ = some (.int .i64 fb.g) ∧ w'.cell? ⟨g13, k * 5 + 3, none⟩ = some (.int .i64 fb.n) ∧ w'.cell? ⟨g13, k * 5 + 4, none⟩ = some (.string (strB fb.b))) _ _ _ _ ?_
                          obtain ⟨wd, hwd⟩ : ∃ wd, wd = wr.drew := ⟨_, rfl⟩
                          have BD : Hid (Below wr.heap.size wr wd) := Lib.hid (by rw [hwd]; exact (Below.refl _ _).drew)
                          rw [← hwd]
                          clear hwd
                          have hHeld : (fun w' => w'.cell? ⟨qb, 0, none⟩ = some (.int .i64 o.k) ∧ w'.cell? ⟨g7, k * 5, none⟩ = some (.int .i64 fa.i) ∧ w'.cell? ⟨g7, k * 5 + 1, none⟩ = some (.int .i64 fa.s) ∧ w'.cell? ⟨g7, k * 5 + 2, none⟩ = some (.int .i64 fa.g) ∧ w'.cell? ⟨g7, k * 5 + 3, none⟩ = some (.int .i64 fa.n) ∧ w'.cell? ⟨g7, k * 5 + 4, none⟩ = some (.string (strB fa.b)) ∧ w'.cell? ⟨g13, k * 5, none⟩ = some (.int .i64 fb.i) ∧ w'.cell? ⟨g13, k * 5 + 1, none⟩ = some (.int .i64 fb.s) ∧ w'.cell? ⟨g13, k * 5 + 2, none⟩ = some (.int .i64 fb.g) ∧ w'.cell? ⟨g13, k * 5 + 3, none⟩ = some (.int .i64 fb.n) ∧ w'.cell? ⟨g13, k * 5 + 4, none⟩ = some (.string (strB fb.b))) wd := HT.out _ BD.out
                          refine wpAnyH_take (i := 0) (v := ?_) rfl (by kernel_rfl) (by kernel_rfl) (by kernel_rfl) (fun _ _ _ h => h) (Or.inl ⟨by rfl, ?_⟩) (by assumption) ?_
                          rotate_left 1
                          · intro w hSw; (try dsimp only at hSw); go_simp <;> with_reducible rfl
                          try simp only [Act.put, List.setIfInBounds_toArray, List.set_cons_zero, List.set_cons_succ, List.getElem_toArray, List.getElem_cons_zero]
                          refine wpAnyH_take (i := 1) (v := ?_) rfl (by kernel_rfl) (by kernel_rfl) (by kernel_rfl) (fun _ _ _ h => h) (Or.inl ⟨by rfl, ?_⟩) (by assumption) ?_
                          rotate_left 1
                          · intro w hSw; (try dsimp only at hSw); go_simp <;> with_reducible rfl
                          try simp only [Act.put, List.setIfInBounds_toArray, List.set_cons_zero, List.set_cons_succ, List.getElem_toArray, List.getElem_cons_zero, List.getElem_cons_succ]
                          refine wpAnyH_take (i := 2) (v := .bool true) rfl (by kernel_rfl) (by kernel_rfl) (by kernel_rfl) (fun _ _ _ h => h) (Or.inl ⟨by rfl, ?_⟩) (by assumption) ?_
                          · intro w hSw; (try dsimp only at hSw); go_simp <;> (first | omega | simpa using hk | simpa using hr | (simp; omega) | (rw [hwr]; omega))
                          try simp only [Act.put, List.setIfInBounds_toArray, List.set_cons_zero, List.set_cons_succ, List.getElem_toArray, List.getElem_cons_zero, List.getElem_cons_succ]
                          refine wpAnyH_take (i := 3) (v := ?_) rfl (by kernel_rfl) (by kernel_rfl) (by kernel_rfl) (fun _ _ _ h => h) (Or.inl ⟨by rfl, ?_⟩) (by assumption) ?_
                          rotate_left 1
                          · intro w hSw; (try dsimp only at hSw); go_simp <;> with_reducible rfl
                          try simp only [Act.put, List.setIfInBounds_toArray, List.set_cons_zero, List.set_cons_succ, List.getElem_toArray, List.getElem_cons_zero, List.getElem_cons_succ]
                          refine wpAnyH_take (i := 4) (v := ?_) rfl (by kernel_rfl) (by kernel_rfl) (by kernel_rfl) (fun _ _ _ h => h) (Or.inl ⟨by rfl, ?_⟩) (by assumption) ?_
                          rotate_left 1
                          · intro w hSw; (try dsimp only at hSw); go_simp <;> with_reducible rfl
                          try simp only [Act.put, List.setIfInBounds_toArray, List.set_cons_zero, List.set_cons_succ, List.getElem_toArray, List.getElem_cons_zero, List.getElem_cons_succ]
                          refine wpAnyH_take (i := 5) (v := ?_) rfl (by kernel_rfl) (by kernel_rfl) (by kernel_rfl) (fun _ _ _ h => h) (Or.inl ⟨by rfl, ?_⟩) (by assumption) ?_
                          rotate_left 1
                          · intro w hSw; obtain ⟨zk, a0, a1, a2, a3, a4, b0, b1, b2, b3, b4⟩ := hSw; (try dsimp only at hSw); go_simp <;> with_reducible rfl
                          try simp only [Act.put, List.setIfInBounds_toArray, List.set_cons_zero, List.set_cons_succ, List.getElem_toArray, List.getElem_cons_zero, List.getElem_cons_succ]
                          refine wpAnyH_take (i := 6) (v := .bool true) rfl (by kernel_rfl) (by kernel_rfl) (by kernel_rfl) (fun _ _ _ h => h) (Or.inl ⟨by rfl, ?_⟩) (by assumption) ?_
                          · intro w hSw; obtain ⟨zk, a0, a1, a2, a3, a4, b0, b1, b2, b3, b4⟩ := hSw; go_simp <;> (first | omega | simpa using hk)
                          try simp only [Act.put, List.setIfInBounds_toArray, List.set_cons_zero, List.set_cons_succ, List.getElem_toArray, List.getElem_cons_zero, List.getElem_cons_succ]
                          refine wpAnyH_take (i := 7) (v := ?_) rfl (by kernel_rfl) (by kernel_rfl) (by kernel_rfl) (fun _ _ _ h => h) (Or.inl ⟨by rfl, ?_⟩) (by assumption) ?_
                          rotate_left 1
                          · intro w hSw; (try dsimp only at hSw); go_simp <;> with_reducible rfl
                          try simp only [Act.put, List.setIfInBounds_toArray, List.set_cons_zero, List.set_cons_succ, List.getElem_toArray, List.getElem_cons_zero, List.getElem_cons_succ]
                          refine wpAnyH_take (i := 8) (v := ?_) rfl (by kernel_rfl) (by kernel_rfl) (by kernel_rfl) (fun _ _ _ h => h) (Or.inl ⟨by rfl, ?_⟩) (by assumption) ?_
                          rotate_left 1
                          · intro w hSw; (try dsimp only at hSw); go_simp <;> with_reducible rfl
                          try simp only [Act.put, List.setIfInBounds_toArray, List.set_cons_zero, List.set_cons_succ, List.getElem_toArray, List.getElem_cons_zero, List.getElem_cons_succ]
                          refine wpAnyH_take (i := 9) (v := ?_) rfl (by kernel_rfl) (by kernel_rfl) (by kernel_rfl) (fun _ _ _ h => h) (Or.inl ⟨by rfl, ?_⟩) (by assumption) ?_
                          rotate_left 1
                          · intro w hSw; (try dsimp only at hSw); go_simp <;> with_reducible rfl
                          try simp only [Act.put, List.setIfInBounds_toArray, List.set_cons_zero, List.set_cons_succ, List.getElem_toArray, List.getElem_cons_zero, List.getElem_cons_succ]
                          refine wpAnyH_take (i := 10) (v := ?_) rfl (by kernel_rfl) (by kernel_rfl) (by kernel_rfl) (fun _ _ _ h => h) (Or.inl ⟨by rfl, ?_⟩) (by assumption) ?_
                          rotate_left 1
                          · intro w hSw; (try dsimp only at hSw); go_simp <;> with_reducible rfl
                          try simp only [Act.put, List.setIfInBounds_toArray, List.set_cons_zero, List.set_cons_succ, List.getElem_toArray, List.getElem_cons_zero, List.getElem_cons_succ]
                          refine wpAnyH_take (i := 11) (v := .bool false) rfl (by kernel_rfl) (by kernel_rfl) (by kernel_rfl) (fun _ _ _ h => h) (Or.inl ⟨by rfl, ?_⟩) (by assumption) ?_
                          · intro w hSw; (try dsimp only at hSw); go_simp <;> (first | omega | simpa using hk | simpa using hr | (simp; omega) | (rw [hwr]; omega))
                          try simp only [Act.put, List.setIfInBounds_toArray, List.set_cons_zero, List.set_cons_succ, List.getElem_toArray, List.getElem_cons_zero, List.getElem_cons_succ]
                          refine wpAnyH_take (i := 12) (v := ?_) rfl (by kernel_rfl) (by kernel_rfl) (by kernel_rfl) (fun _ _ _ h => h) (Or.inl ⟨by rfl, ?_⟩) (by assumption) ?_
                          rotate_left 1
                          · intro w hSw; (try dsimp only at hSw); go_simp <;> with_reducible rfl
                          try simp only [Act.put, List.setIfInBounds_toArray, List.set_cons_zero, List.set_cons_succ, List.getElem_toArray, List.getElem_cons_zero, List.getElem_cons_succ]
                          refine wpAnyH_take (i := 13) (v := ?_) rfl (by kernel_rfl) (by kernel_rfl) (by kernel_rfl) (fun _ _ _ h => h) (Or.inl ⟨by rfl, ?_⟩) (by assumption) ?_
                          rotate_left 1
                          · intro w hSw; (try dsimp only at hSw); go_simp <;> with_reducible rfl
                          try simp only [Act.put, List.setIfInBounds_toArray, List.set_cons_zero, List.set_cons_succ, List.getElem_toArray, List.getElem_cons_zero, List.getElem_cons_succ]
                          refine wpAnyH_take (i := 14) (v := ?_) rfl (by kernel_rfl) (by kernel_rfl) (by kernel_rfl) (fun _ _ _ h => h) (Or.inl ⟨by rfl, ?_⟩) (by assumption) ?_
                          rotate_left 1
                          · intro w hSw; (try dsimp only at hSw); go_simp <;> with_reducible rfl
                          try simp only [Act.put, List.setIfInBounds_toArray, List.set_cons_zero, List.set_cons_succ, List.getElem_toArray, List.getElem_cons_zero, List.getElem_cons_succ]
                          refine wpAnyH_take (i := 15) (v := ?_) rfl (by kernel_rfl) (by kernel_rfl) (by kernel_rfl) (fun _ _ _ h => h) (Or.inl ⟨by rfl, ?_⟩) (by assumption) ?_
                          rotate_left 1
                          · intro w hSw; (try dsimp only at hSw); go_simp <;> with_reducible rfl
                          try simp only [Act.put, List.setIfInBounds_toArray, List.set_cons_zero, List.set_cons_succ, List.getElem_toArray, List.getElem_cons_zero, List.getElem_cons_succ]
                          refine wpAnyH_take (i := 16) (v := ?_) rfl (by kernel_rfl) (by kernel_rfl) (by kernel_rfl) (fun _ _ _ h => h) (Or.inl ⟨by rfl, ?_⟩) (by assumption) ?_
                          rotate_left 1
                          · intro w hSw; (try dsimp only at hSw); go_simp <;> with_reducible rfl
                          try simp only [Act.put, List.setIfInBounds_toArray, List.set_cons_zero, List.set_cons_succ, List.getElem_toArray, List.getElem_cons_zero, List.getElem_cons_succ]
                          refine wpAnyH_take (i := 17) (v := ?_) rfl (by kernel_rfl) (by kernel_rfl) (by kernel_rfl) (fun _ _ _ h => h) (Or.inl ⟨by rfl, ?_⟩) (by assumption) ?_
                          rotate_left 1
                          · intro w hSw; (try dsimp only at hSw); go_simp <;> with_reducible rfl
                          try simp only [Act.put, List.setIfInBounds_toArray, List.set_cons_zero, List.set_cons_succ, List.getElem_toArray, List.getElem_cons_zero, List.getElem_cons_succ]
                          refine wpAnyH_take (i := 18) (v := ?_) rfl (by kernel_rfl) (by kernel_rfl) (by kernel_rfl) (fun _ _ _ h => h) (Or.inl ⟨by rfl, ?_⟩) (by assumption) ?_
                          rotate_left 1
                          · intro w hSw; (try dsimp only at hSw); go_simp <;> with_reducible rfl
                          try simp only [Act.put, List.setIfInBounds_toArray, List.set_cons_zero, List.set_cons_succ, List.getElem_toArray, List.getElem_cons_zero, List.getElem_cons_succ]
                          refine wpAnyH_take (i := 19) (v := ?_) rfl (by kernel_rfl) (by kernel_rfl) (by kernel_rfl) (fun _ _ _ h => h) (Or.inl ⟨by rfl, ?_⟩) (by assumption) ?_
                          rotate_left 1
                          · intro w hSw; obtain ⟨zk, a0, a1, a2, a3, a4, b0, b1, b2, b3, b4⟩ := hSw; (try dsimp only at hSw); go_simp <;> with_reducible rfl
                          try simp only [Act.put, List.setIfInBounds_toArray, List.set_cons_zero, List.set_cons_succ, List.getElem_toArray, List.getElem_cons_zero, List.getElem_cons_succ]
                          refine wpAnyH_take (i := 20) (v := ?_) rfl (by kernel_rfl) (by kernel_rfl) (by kernel_rfl) (fun _ _ _ h => h) (Or.inl ⟨by rfl, ?_⟩) (by assumption) ?_
                          rotate_left 1
                          · intro w hSw; (try dsimp only at hSw); go_simp <;> with_reducible rfl
                          try simp only [Act.put, List.setIfInBounds_toArray, List.set_cons_zero, List.set_cons_succ, List.getElem_toArray, List.getElem_cons_zero, List.getElem_cons_succ]
                          refine wpAnyH_take (i := 21) (v := ?_) rfl (by kernel_rfl) (by kernel_rfl) (by kernel_rfl) (fun _ _ _ h => h) (Or.inl ⟨by rfl, ?_⟩) (by assumption) ?_
                          rotate_left 1
                          · intro w hSw; (try dsimp only at hSw); go_simp <;> with_reducible rfl
                          try simp only [Act.put, List.setIfInBounds_toArray, List.set_cons_zero, List.set_cons_succ, List.getElem_toArray, List.getElem_cons_zero, List.getElem_cons_succ]
                          refine wpAnyH_take (i := 22) (v := ?_) rfl (by kernel_rfl) (by kernel_rfl) (by kernel_rfl) (fun _ _ _ h => h) (Or.inl ⟨by rfl, ?_⟩) (by assumption) ?_
                          rotate_left 1
                          · intro w hSw; (try dsimp only at hSw); go_simp <;> with_reducible rfl
                          try simp only [Act.put, List.setIfInBounds_toArray, List.set_cons_zero, List.set_cons_succ, List.getElem_toArray, List.getElem_cons_zero, List.getElem_cons_succ]
                          refine wpAnyH_take (i := 23) (v := ?_) rfl (by kernel_rfl) (by kernel_rfl) (by kernel_rfl) (fun _ _ _ h => h) (Or.inl ⟨by rfl, ?_⟩) (by assumption) ?_
                          rotate_left 1
                          · intro w hSw; obtain ⟨zk, a0, a1, a2, a3, a4, b0, b1, b2, b3, b4⟩ := hSw; (try dsimp only at hSw); go_simp <;> with_reducible rfl
                          try simp only [Act.put, List.setIfInBounds_toArray, List.set_cons_zero, List.set_cons_succ, List.getElem_toArray, List.getElem_cons_zero, List.getElem_cons_succ]
                          refine wpAnyH_ready (rs := [24]) (by kernel_rfl) (by simp) (AllReadyH.cons rfl (fun K hK => ?_) AllReadyH.nil)
                          have hPrev := hHeld
                          clear hHeld
                          go_simp
                          refine (HGR.out _).mono ?_
                          rintro e w9 ⟨rfl, hb9⟩
                          have B9 : Hid (Below wr.heap.size wr w9) := Lib.hid (BD.out.trans (hb9.mono BD.out.size))
                          clear hb9
                          refine hK.out _ _ (HT.out _ B9.out) (fun hHeld => ?_)
                          clear hK K hPrev
                          try simp only [Act.put, List.setIfInBounds_toArray, List.set_cons_zero, List.set_cons_succ, List.getElem_toArray, List.getElem_cons_zero, List.getElem_cons_succ]
                          refine wpAnyH_take (i := 25) (v := ?_) rfl (by kernel_rfl) (by kernel_rfl) (by kernel_rfl) (fun _ _ _ h => h) (Or.inl ⟨by rfl, ?_⟩) (by assumption) ?_
                          rotate_left 1
                          · intro w hSw; (try dsimp only at hSw); go_simp <;> with_reducible rfl
                          try simp only [Act.put, List.setIfInBounds_toArray, List.set_cons_zero, List.set_cons_succ, List.getElem_toArray, List.getElem_cons_zero, List.getElem_cons_succ]
                          refine wpAnyH_take (i := 26) (v := ?_) rfl (by kernel_rfl) (by kernel_rfl) (by kernel_rfl) (fun _ _ _ h => h) (Or.inl ⟨by rfl, ?_⟩) (by assumption) ?_
                          rotate_left 1
                          · intro w hSw; (try dsimp only at hSw); go_simp <;> with_reducible rfl
                          try simp only [Act.put, List.setIfInBounds_toArray, List.set_cons_zero, List.set_cons_succ, List.getElem_toArray, List.getElem_cons_zero, List.getElem_cons_succ]
                          refine wpAnyH_done (by kernel_rfl) ?_ _
                          go_wp2_with fail
                          go_meet
                          exact ⟨rfl, B9.out⟩
                      · have hk : (o.k == 0) = false := by simp [k0]
                        have HGR : Hid (∀ W, Calls Try.prog 24 #[fvV fa, fvV fb] W (fun e w' => e = .returned (.bool true) ∧ Below W.heap.size W w')) := Lib.hid (fun W => by
                          have h1 : grownB fa fb = true := by
                            rw [HFA.out.1, HFA.out.2]
                            refine grown_of HH.out.grow (by omega) ?_
                            have h2 := HM2.out.2
                            have h3 := HM.out
                            rw [if_neg (fun e => k0 e.1)] at h2; omega
                          have h2 := grown_any fa fb W
                          rw [h1] at h2
                          exact h2)
                        unfold fvV at HGR
                        clear k0
                        refine wp_region_any (by kernel_rfl) ?_
                        change wpAny _ _ _ _ _ _ _ (World.drew _)
                        refine wpAny_of_held (S := fun w' => w'.cell? ⟨qb, 0, none⟩ = some (.int .i64 o.k) ∧ w'.cell? ⟨g7, k * 5, none⟩ = some (.int .i64 fa.i) ∧ w'.cell? ⟨g7, k * 5 + 1, none⟩ = some (.int .i64 fa.s) ∧ w'.cell? ⟨g7, k * 5 + 2, none⟩ = some (.int .i64 fa.g) ∧ w'.cell? ⟨g7, k * 5 + 3, none⟩ = some (.int .i64 fa.n) ∧ w'.cell? ⟨g7, k * 5 + 4, none⟩ = some (.string (strB fa.b)) ∧ w'.cell? ⟨g13, k * 5, none⟩ = some (.int .i64 fb.i) ∧ w'.cell? ⟨g13, k * 5 + 1, none⟩ = some (.int .i64 fb.s) ∧ w'.cell? ⟨g13, k * 5 + 2, none⟩ = some (.int .i64 fb.g) ∧ w'.cell? ⟨g13, k * 5 + 3, none⟩ = some (.int .i64 fb.n) ∧ w'.cell? ⟨g13, k * 5 + 4, none⟩ = some (.string (strB fb.b))) _ _ _ _ ?_
                        obtain ⟨wd, hwd⟩ : ∃ wd, wd = wr.drew := ⟨_, rfl⟩
                        have BD : Hid (Below wr.heap.size wr wd) := Lib.hid (by rw [hwd]; exact (Below.refl _ _).drew)
                        rw [← hwd]
                        clear hwd
                        have hHeld : (fun w' => w'.cell? ⟨qb, 0, none⟩ = some (.int .i64 o.k) ∧ w'.cell? ⟨g7, k * 5, none⟩ = some (.int .i64 fa.i) ∧ w'.cell? ⟨g7, k * 5 + 1, none⟩ = some (.int .i64 fa.s) ∧ w'.cell? ⟨g7, k * 5 + 2, none⟩ = some (.int .i64 fa.g) ∧ w'.cell? ⟨g7, k * 5 + 3, none⟩ = some (.int .i64 fa.n) ∧ w'.cell? ⟨g7, k * 5 + 4, none⟩ = some (.string (strB fa.b)) ∧ w'.cell? ⟨g13, k * 5, none⟩ = some (.int .i64 fb.i) ∧ w'.cell? ⟨g13, k * 5 + 1, none⟩ = some (.int .i64 fb.s) ∧ w'.cell? ⟨g13, k * 5 + 2, none⟩ = some (.int .i64 fb.g) ∧ w'.cell? ⟨g13, k * 5 + 3, none⟩ = some (.int .i64 fb.n) ∧ w'.cell? ⟨g13, k * 5 + 4, none⟩ = some (.string (strB fb.b))) wd := HT.out _ BD.out
                        refine wpAnyH_take (i := 0) (v := ?_) rfl (by kernel_rfl) (by kernel_rfl) (by kernel_rfl) (fun _ _ _ h => h) (Or.inl ⟨by rfl, ?_⟩) (by assumption) ?_
                        rotate_left 1
                        · intro w hSw; (try dsimp only at hSw); go_simp <;> with_reducible rfl
                        try simp only [Act.put, List.setIfInBounds_toArray, List.set_cons_zero, List.set_cons_succ, List.getElem_toArray, List.getElem_cons_zero]
                        refine wpAnyH_take (i := 1) (v := ?_) rfl (by kernel_rfl) (by kernel_rfl) (by kernel_rfl) (fun _ _ _ h => h) (Or.inl ⟨by rfl, ?_⟩) (by assumption) ?_
                        rotate_left 1
                        · intro w hSw; (try dsimp only at hSw); go_simp <;> with_reducible rfl
                        try simp only [Act.put, List.setIfInBounds_toArray, List.set_cons_zero, List.set_cons_succ, List.getElem_toArray, List.getElem_cons_zero, List.getElem_cons_succ]
                        refine wpAnyH_take (i := 2) (v := .bool true) rfl (by kernel_rfl) (by kernel_rfl) (by kernel_rfl) (fun _ _ _ h => h) (Or.inl ⟨by rfl, ?_⟩) (by assumption) ?_
                        · intro w hSw; (try dsimp only at hSw); go_simp <;> (first | omega | simpa using hk | simpa using hr | (simp; omega) | (rw [hwr]; omega))
                        try simp only [Act.put, List.setIfInBounds_toArray, List.set_cons_zero, List.set_cons_succ, List.getElem_toArray, List.getElem_cons_zero, List.getElem_cons_succ]
                        refine wpAnyH_take (i := 3) (v := ?_) rfl (by kernel_rfl) (by kernel_rfl) (by kernel_rfl) (fun _ _ _ h => h) (Or.inl ⟨by rfl, ?_⟩) (by assumption) ?_
                        rotate_left 1
                        · intro w hSw; (try dsimp only at hSw); go_simp <;> with_reducible rfl
                        try simp only [Act.put, List.setIfInBounds_toArray, List.set_cons_zero, List.set_cons_succ, List.getElem_toArray, List.getElem_cons_zero, List.getElem_cons_succ]
                        refine wpAnyH_take (i := 4) (v := ?_) rfl (by kernel_rfl) (by kernel_rfl) (by kernel_rfl) (fun _ _ _ h => h) (Or.inl ⟨by rfl, ?_⟩) (by assumption) ?_
                        rotate_left 1
                        · intro w hSw; (try dsimp only at hSw); go_simp <;> with_reducible rfl
                        try simp only [Act.put, List.setIfInBounds_toArray, List.set_cons_zero, List.set_cons_succ, List.getElem_toArray, List.getElem_cons_zero, List.getElem_cons_succ]
                        refine wpAnyH_take (i := 5) (v := ?_) rfl (by kernel_rfl) (by kernel_rfl) (by kernel_rfl) (fun _ _ _ h => h) (Or.inl ⟨by rfl, ?_⟩) (by assumption) ?_
                        rotate_left 1
                        · intro w hSw; obtain ⟨zk, a0, a1, a2, a3, a4, b0, b1, b2, b3, b4⟩ := hSw; (try dsimp only at hSw); go_simp <;> with_reducible rfl
                        try simp only [Act.put, List.setIfInBounds_toArray, List.set_cons_zero, List.set_cons_succ, List.getElem_toArray, List.getElem_cons_zero, List.getElem_cons_succ]
                        refine wpAnyH_take (i := 6) (v := .bool false) rfl (by kernel_rfl) (by kernel_rfl) (by kernel_rfl) (fun _ _ _ h => h) (Or.inl ⟨by rfl, ?_⟩) (by assumption) ?_
                        · intro w hSw; obtain ⟨zk, a0, a1, a2, a3, a4, b0, b1, b2, b3, b4⟩ := hSw; go_simp <;> (first | omega | simpa using hk)
                        try simp only [Act.put, List.setIfInBounds_toArray, List.set_cons_zero, List.set_cons_succ, List.getElem_toArray, List.getElem_cons_zero, List.getElem_cons_succ]
                        refine wpAnyH_take (i := 7) (v := ?_) rfl (by kernel_rfl) (by kernel_rfl) (by kernel_rfl) (fun _ _ _ h => h) (Or.inl ⟨by rfl, ?_⟩) (by assumption) ?_
                        rotate_left 1
                        · intro w hSw; (try dsimp only at hSw); go_simp <;> with_reducible rfl
                        try simp only [Act.put, List.setIfInBounds_toArray, List.set_cons_zero, List.set_cons_succ, List.getElem_toArray, List.getElem_cons_zero, List.getElem_cons_succ]
                        refine wpAnyH_take (i := 8) (v := undef) rfl (by kernel_rfl) (by kernel_rfl) (by kernel_rfl) (fun _ _ _ h => h) (Or.inr ⟨by rfl, rfl⟩) (by assumption) ?_
                        try simp only [Act.put, List.setIfInBounds_toArray, List.set_cons_zero, List.set_cons_succ, List.getElem_toArray, List.getElem_cons_zero, List.getElem_cons_succ]
                        refine wpAnyH_take (i := 9) (v := undef) rfl (by kernel_rfl) (by kernel_rfl) (by kernel_rfl) (fun _ _ _ h => h) (Or.inr ⟨by rfl, rfl⟩) (by assumption) ?_
                        try simp only [Act.put, List.setIfInBounds_toArray, List.set_cons_zero, List.set_cons_succ, List.getElem_toArray, List.getElem_cons_zero, List.getElem_cons_succ]
                        refine wpAnyH_take (i := 10) (v := undef) rfl (by kernel_rfl) (by kernel_rfl) (by kernel_rfl) (fun _ _ _ h => h) (Or.inr ⟨by rfl, rfl⟩) (by assumption) ?_
                        try simp only [Act.put, List.setIfInBounds_toArray, List.set_cons_zero, List.set_cons_succ, List.getElem_toArray, List.getElem_cons_zero, List.getElem_cons_succ]
                        refine wpAnyH_take (i := 11) (v := undef) rfl (by kernel_rfl) (by kernel_rfl) (by kernel_rfl) (fun _ _ _ h => h) (Or.inr ⟨by rfl, rfl⟩) (by assumption) ?_
                        try simp only [Act.put, List.setIfInBounds_toArray, List.set_cons_zero, List.set_cons_succ, List.getElem_toArray, List.getElem_cons_zero, List.getElem_cons_succ]
                        refine wpAnyH_take (i := 12) (v := ?_) rfl (by kernel_rfl) (by kernel_rfl) (by kernel_rfl) (fun _ _ _ h => h) (Or.inl ⟨by rfl, ?_⟩) (by assumption) ?_
                        rotate_left 1
                        · intro w hSw; (try dsimp only at hSw); go_simp <;> with_reducible rfl
                        try simp only [Act.put, List.setIfInBounds_toArray, List.set_cons_zero, List.set_cons_succ, List.getElem_toArray, List.getElem_cons_zero, List.getElem_cons_succ]
                        refine wpAnyH_take (i := 13) (v := ?_) rfl (by kernel_rfl) (by kernel_rfl) (by kernel_rfl) (fun _ _ _ h => h) (Or.inl ⟨by rfl, ?_⟩) (by assumption) ?_
                        rotate_left 1
                        · intro w hSw; (try dsimp only at hSw); go_simp <;> with_reducible rfl
                        try simp only [Act.put, List.setIfInBounds_toArray, List.set_cons_zero, List.set_cons_succ, List.getElem_toArray, List.getElem_cons_zero, List.getElem_cons_succ]
                        refine wpAnyH_take (i := 14) (v := ?_) rfl (by kernel_rfl) (by kernel_rfl) (by kernel_rfl) (fun _ _ _ h => h) (Or.inl ⟨by rfl, ?_⟩) (by assumption) ?_
                        rotate_left 1
                        · intro w hSw; (try dsimp only at hSw); go_simp <;> with_reducible rfl
                        try simp only [Act.put, List.setIfInBounds_toArray, List.set_cons_zero, List.set_cons_succ, List.getElem_toArray, List.getElem_cons_zero, List.getElem_cons_succ]
                        refine wpAnyH_take (i := 15) (v := ?_) rfl (by kernel_rfl) (by kernel_rfl) (by kernel_rfl) (fun _ _ _ h => h) (Or.inl ⟨by rfl, ?_⟩) (by assumption) ?_
                        rotate_left 1
                        · intro w hSw; (try dsimp only at hSw); go_simp <;> with_reducible rfl
                        try simp only [Act.put, List.setIfInBounds_toArray, List.set_cons_zero, List.set_cons_succ, List.getElem_toArray, List.getElem_cons_zero, List.getElem_cons_succ]
                        refine wpAnyH_take (i := 16) (v := ?_) rfl (by kernel_rfl) (by kernel_rfl) (by kernel_rfl) (fun _ _ _ h => h) (Or.inl ⟨by rfl, ?_⟩) (by assumption) ?_
                        rotate_left 1
                        · intro w hSw; (try dsimp only at hSw); go_simp <;> with_reducible rfl
                        try simp only [Act.put, List.setIfInBounds_toArray, List.set_cons_zero, List.set_cons_succ, List.getElem_toArray, List.getElem_cons_zero, List.getElem_cons_succ]
                        refine wpAnyH_take (i := 17) (v := ?_) rfl (by kernel_rfl) (by kernel_rfl) (by kernel_rfl) (fun _ _ _ h => h) (Or.inl ⟨by rfl, ?_⟩) (by assumption) ?_
                        rotate_left 1
                        · intro w hSw; (try dsimp only at hSw); go_simp <;> with_reducible rfl
                        try simp only [Act.put, List.setIfInBounds_toArray, List.set_cons_zero, List.set_cons_succ, List.getElem_toArray, List.getElem_cons_zero, List.getElem_cons_succ]
                        refine wpAnyH_take (i := 18) (v := ?_) rfl (by kernel_rfl) (by kernel_rfl) (by kernel_rfl) (fun _ _ _ h => h) (Or.inl ⟨by rfl, ?_⟩) (by assumption) ?_
                        rotate_left 1
                        · intro w hSw; (try dsimp only at hSw); go_simp <;> with_reducible rfl
                        try simp only [Act.put, List.setIfInBounds_toArray, List.set_cons_zero, List.set_cons_succ, List.getElem_toArray, List.getElem_cons_zero, List.getElem_cons_succ]
                        refine wpAnyH_take (i := 19) (v := ?_) rfl (by kernel_rfl) (by kernel_rfl) (by kernel_rfl) (fun _ _ _ h => h) (Or.inl ⟨by rfl, ?_⟩) (by assumption) ?_
                        rotate_left 1
                        · intro w hSw; obtain ⟨zk, a0, a1, a2, a3, a4, b0, b1, b2, b3, b4⟩ := hSw; (try dsimp only at hSw); go_simp <;> with_reducible rfl
                        try simp only [Act.put, List.setIfInBounds_toArray, List.set_cons_zero, List.set_cons_succ, List.getElem_toArray, List.getElem_cons_zero, List.getElem_cons_succ]
                        refine wpAnyH_take (i := 20) (v := ?_) rfl (by kernel_rfl) (by kernel_rfl) (by kernel_rfl) (fun _ _ _ h => h) (Or.inl ⟨by rfl, ?_⟩) (by assumption) ?_
                        rotate_left 1
                        · intro w hSw; (try dsimp only at hSw); go_simp <;> with_reducible rfl
                        try simp only [Act.put, List.setIfInBounds_toArray, List.set_cons_zero, List.set_cons_succ, List.getElem_toArray, List.getElem_cons_zero, List.getElem_cons_succ]
                        refine wpAnyH_take (i := 21) (v := ?_) rfl (by kernel_rfl) (by kernel_rfl) (by kernel_rfl) (fun _ _ _ h => h) (Or.inl ⟨by rfl, ?_⟩) (by assumption) ?_
                        rotate_left 1
                        · intro w hSw; (try dsimp only at hSw); go_simp <;> with_reducible rfl
                        try simp only [Act.put, List.setIfInBounds_toArray, List.set_cons_zero, List.set_cons_succ, List.getElem_toArray, List.getElem_cons_zero, List.getElem_cons_succ]
                        refine wpAnyH_take (i := 22) (v := ?_) rfl (by kernel_rfl) (by kernel_rfl) (by kernel_rfl) (fun _ _ _ h => h) (Or.inl ⟨by rfl, ?_⟩) (by assumption) ?_
                        rotate_left 1
                        · intro w hSw; (try dsimp only at hSw); go_simp <;> with_reducible rfl
                        try simp only [Act.put, List.setIfInBounds_toArray, List.set_cons_zero, List.set_cons_succ, List.getElem_toArray, List.getElem_cons_zero, List.getElem_cons_succ]
                        refine wpAnyH_take (i := 23) (v := ?_) rfl (by kernel_rfl) (by kernel_rfl) (by kernel_rfl) (fun _ _ _ h => h) (Or.inl ⟨by rfl, ?_⟩) (by assumption) ?_
                        rotate_left 1
                        · intro w hSw; obtain ⟨zk, a0, a1, a2, a3, a4, b0, b1, b2, b3, b4⟩ := hSw; (try dsimp only at hSw); go_simp <;> with_reducible rfl
                        try simp only [Act.put, List.setIfInBounds_toArray, List.set_cons_zero, List.set_cons_succ, List.getElem_toArray, List.getElem_cons_zero, List.getElem_cons_succ]
                        refine wpAnyH_ready (rs := [24]) (by kernel_rfl) (by simp) (AllReadyH.cons rfl (fun K hK => ?_) AllReadyH.nil)
                        have hPrev := hHeld
                        clear hHeld
                        go_simp
                        refine (HGR.out _).mono ?_
                        rintro e w9 ⟨rfl, hb9⟩
                        have B9 : Hid (Below wr.heap.size wr w9) := Lib.hid (BD.out.trans (hb9.mono BD.out.size))
                        clear hb9
                        refine hK.out _ _ (HT.out _ B9.out) (fun hHeld => ?_)
                        clear hK K hPrev
                        try simp only [Act.put, List.setIfInBounds_toArray, List.set_cons_zero, List.set_cons_succ, List.getElem_toArray, List.getElem_cons_zero, List.getElem_cons_succ]
                        refine wpAnyH_take (i := 25) (v := ?_) rfl (by kernel_rfl) (by kernel_rfl) (by kernel_rfl) (fun _ _ _ h => h) (Or.inl ⟨by rfl, ?_⟩) (by assumption) ?_
                        rotate_left 1
                        · intro w hSw; (try dsimp only at hSw); go_simp <;> with_reducible rfl
                        try simp only [Act.put, List.setIfInBounds_toArray, List.set_cons_zero, List.set_cons_succ, List.getElem_toArray, List.getElem_cons_zero, List.getElem_cons_succ]
                        refine wpAnyH_take (i := 26) (v := ?_) rfl (by kernel_rfl) (by kernel_rfl) (by kernel_rfl) (fun _ _ _ h => h) (Or.inl ⟨by rfl, ?_⟩) (by assumption) ?_
                        rotate_left 1
                        · intro w hSw; (try dsimp only at hSw); go_simp <;> with_reducible rfl
                        try simp only [Act.put, List.setIfInBounds_toArray, List.set_cons_zero, List.set_cons_succ, List.getElem_toArray, List.getElem_cons_zero, List.getElem_cons_succ]
                        refine wpAnyH_done (by kernel_rfl) ?_ _
                        go_wp2_with fail
                        go_meet
                        exact ⟨rfl, B9.out⟩
                    · have t1 : decide ((k : Int) < (md2 : Int)) = false := decide_eq_false (by omega)
                      refine wp_region_any (by kernel_rfl) ?_
                      change wpAny _ _ _ _ _ _ _ (World.drew _)
                      refine wpAny_of_held (S := fun w' => w'.cell? ⟨qb, 0, none⟩ = some (.int .i64 o.k) ∧ w'.cell? ⟨g7, k * 5, none⟩ = some (.int .i64 fa.i) ∧ w'.cell? ⟨g7, k * 5 + 1, none⟩ = some (.int .i64 fa.s) ∧ w'.cell? ⟨g7, k * 5 + 2, none⟩ = some (.int .i64 fa.g) ∧ w'.cell? ⟨g7, k * 5 + 3, none⟩ = some (.int .i64 fa.n) ∧ w'.cell? ⟨g7, k * 5 + 4, none⟩ = some (.string (strB fa.b)) ∧ w'.cell? ⟨g13, k * 5, none⟩ = some (.int .i64 fb.i) ∧ w'.cell? ⟨g13, k * 5 + 1, none⟩ = some (.int .i64 fb.s) ∧ w'.cell? ⟨g13, k * 5 + 2, none⟩ = some (.int .i64 fb.g) ∧ w'.cell? ⟨g13, k * 5 + 3, none⟩ = some (.int .i64 fb.n) ∧ w'.cell? ⟨g13, k * 5 + 4, none⟩ = some (.string (strB fb.b))) _ _ _ _ ?_
                      obtain ⟨wd, hwd⟩ : ∃ wd, wd = wr.drew := ⟨_, rfl⟩
                      have BD : Hid (Below wr.heap.size wr wd) := Lib.hid (by rw [hwd]; exact (Below.refl _ _).drew)
                      rw [← hwd]
                      clear hwd
                      have hHeld : (fun w' => w'.cell? ⟨qb, 0, none⟩ = some (.int .i64 o.k) ∧ w'.cell? ⟨g7, k * 5, none⟩ = some (.int .i64 fa.i) ∧ w'.cell? ⟨g7, k * 5 + 1, none⟩ = some (.int .i64 fa.s) ∧ w'.cell? ⟨g7, k * 5 + 2, none⟩ = some (.int .i64 fa.g) ∧ w'.cell? ⟨g7, k * 5 + 3, none⟩ = some (.int .i64 fa.n) ∧ w'.cell? ⟨g7, k * 5 + 4, none⟩ = some (.string (strB fa.b)) ∧ w'.cell? ⟨g13, k * 5, none⟩ = some (.int .i64 fb.i) ∧ w'.cell? ⟨g13, k * 5 + 1, none⟩ = some (.int .i64 fb.s) ∧ w'.cell? ⟨g13, k * 5 + 2, none⟩ = some (.int .i64 fb.g) ∧ w'.cell? ⟨g13, k * 5 + 3, none⟩ = some (.int .i64 fb.n) ∧ w'.cell? ⟨g13, k * 5 + 4, none⟩ = some (.string (strB fb.b))) wd := HT.out _ BD.out
                      refine wpAnyH_take (i := 0) (v := ?_) rfl (by kernel_rfl) (by kernel_rfl) (by kernel_rfl) (fun _ _ _ h => h) (Or.inl ⟨by rfl, ?_⟩) (by assumption) ?_
                      rotate_left 1
                      · intro w hSw; (try dsimp only at hSw); go_simp <;> with_reducible rfl
                      try simp only [Act.put, List.setIfInBounds_toArray, List.set_cons_zero, List.set_cons_succ, List.getElem_toArray, List.getElem_cons_zero]
                      refine wpAnyH_take (i := 1) (v := ?_) rfl (by kernel_rfl) (by kernel_rfl) (by kernel_rfl) (fun _ _ _ h => h) (Or.inl ⟨by rfl, ?_⟩) (by assumption) ?_
                      rotate_left 1
                      · intro w hSw; (try dsimp only at hSw); go_simp <;> with_reducible rfl
                      try simp only [Act.put, List.setIfInBounds_toArray, List.set_cons_zero, List.set_cons_succ, List.getElem_toArray, List.getElem_cons_zero, List.getElem_cons_succ]
                      refine wpAnyH_take (i := 2) (v := .bool false) rfl (by kernel_rfl) (by kernel_rfl) (by kernel_rfl) (fun _ _ _ h => h) (Or.inl ⟨by rfl, ?_⟩) (by assumption) ?_
                      · intro w hSw; (try dsimp only at hSw); go_simp <;> (first | omega | simpa using hk | simpa using hr | (simp; omega) | (rw [hwr]; omega))
                      try simp only [Act.put, List.setIfInBounds_toArray, List.set_cons_zero, List.set_cons_succ, List.getElem_toArray, List.getElem_cons_zero, List.getElem_cons_succ]
                      refine wpAnyH_take (i := 3) (v := ?_) rfl (by kernel_rfl) (by kernel_rfl) (by kernel_rfl) (fun _ _ _ h => h) (Or.inl ⟨by rfl, ?_⟩) (by assumption) ?_
                      rotate_left 1
                      · intro w hSw; (try dsimp only at hSw); go_simp <;> with_reducible rfl
                      try simp only [Act.put, List.setIfInBounds_toArray, List.set_cons_zero, List.set_cons_succ, List.getElem_toArray, List.getElem_cons_zero, List.getElem_cons_succ]
                      refine wpAnyH_take (i := 4) (v := undef) rfl (by kernel_rfl) (by kernel_rfl) (by kernel_rfl) (fun _ _ _ h => h) (Or.inr ⟨by rfl, rfl⟩) (by assumption) ?_
                      try simp only [Act.put, List.setIfInBounds_toArray, List.set_cons_zero, List.set_cons_succ, List.getElem_toArray, List.getElem_cons_zero, List.getElem_cons_succ]
                      refine wpAnyH_take (i := 5) (v := undef) rfl (by kernel_rfl) (by kernel_rfl) (by kernel_rfl) (fun _ _ _ h => h) (Or.inr ⟨by rfl, rfl⟩) (by assumption) ?_
                      try simp only [Act.put, List.setIfInBounds_toArray, List.set_cons_zero, List.set_cons_succ, List.getElem_toArray, List.getElem_cons_zero, List.getElem_cons_succ]
                      refine wpAnyH_take (i := 6) (v := undef) rfl (by kernel_rfl) (by kernel_rfl) (by kernel_rfl) (fun _ _ _ h => h) (Or.inr ⟨by rfl, rfl⟩) (by assumption) ?_
                      try simp only [Act.put, List.setIfInBounds_toArray, List.set_cons_zero, List.set_cons_succ, List.getElem_toArray, List.getElem_cons_zero, List.getElem_cons_succ]
                      refine wpAnyH_take (i := 7) (v := undef) rfl (by kernel_rfl) (by kernel_rfl) (by kernel_rfl) (fun _ _ _ h => h) (Or.inr ⟨by rfl, rfl⟩) (by assumption) ?_
                      try simp only [Act.put, List.setIfInBounds_toArray, List.set_cons_zero, List.set_cons_succ, List.getElem_toArray, List.getElem_cons_zero, List.getElem_cons_succ]
                      refine wpAnyH_take (i := 8) (v := undef) rfl (by kernel_rfl) (by kernel_rfl) (by kernel_rfl) (fun _ _ _ h => h) (Or.inr ⟨by rfl, rfl⟩) (by assumption) ?_
                      try simp only [Act.put, List.setIfInBounds_toArray, List.set_cons_zero, List.set_cons_succ, List.getElem_toArray, List.getElem_cons_zero, List.getElem_cons_succ]
                      refine wpAnyH_take (i := 9) (v := undef) rfl (by kernel_rfl) (by kernel_rfl) (by kernel_rfl) (fun _ _ _ h => h) (Or.inr ⟨by rfl, rfl⟩) (by assumption) ?_
                      try simp only [Act.put, List.setIfInBounds_toArray, List.set_cons_zero, List.set_cons_succ, List.getElem_toArray, List.getElem_cons_zero, List.getElem_cons_succ]
                      refine wpAnyH_take (i := 10) (v := undef) rfl (by kernel_rfl) (by kernel_rfl) (by kernel_rfl) (fun _ _ _ h => h) (Or.inr ⟨by rfl, rfl⟩) (by assumption) ?_
                      try simp only [Act.put, List.setIfInBounds_toArray, List.set_cons_zero, List.set_cons_succ, List.getElem_toArray, List.getElem_cons_zero, List.getElem_cons_succ]
                      refine wpAnyH_take (i := 11) (v := undef) rfl (by kernel_rfl) (by kernel_rfl) (by kernel_rfl) (fun _ _ _ h => h) (Or.inr ⟨by rfl, rfl⟩) (by assumption) ?_
                      try simp only [Act.put, List.setIfInBounds_toArray, List.set_cons_zero, List.set_cons_succ, List.getElem_toArray, List.getElem_cons_zero, List.getElem_cons_succ]
                      refine wpAnyH_take (i := 12) (v := undef) rfl (by kernel_rfl) (by kernel_rfl) (by kernel_rfl) (fun _ _ _ h => h) (Or.inr ⟨by rfl, rfl⟩) (by assumption) ?_
                      try simp only [Act.put, List.setIfInBounds_toArray, List.set_cons_zero, List.set_cons_succ, List.getElem_toArray, List.getElem_cons_zero, List.getElem_cons_succ]
                      refine wpAnyH_take (i := 13) (v := undef) rfl (by kernel_rfl) (by kernel_rfl) (by kernel_rfl) (fun _ _ _ h => h) (Or.inr ⟨by rfl, rfl⟩) (by assumption) ?_
                      try simp only [Act.put, List.setIfInBounds_toArray, List.set_cons_zero, List.set_cons_succ, List.getElem_toArray, List.getElem_cons_zero, List.getElem_cons_succ]
                      refine wpAnyH_take (i := 14) (v := ?_) rfl (by kernel_rfl) (by kernel_rfl) (by kernel_rfl) (fun _ _ _ h => h) (Or.inl ⟨by rfl, ?_⟩) (by assumption) ?_
                      rotate_left 1
                      · intro w hSw; (try dsimp only at hSw); go_simp <;> with_reducible rfl
                      try simp only [Act.put, List.setIfInBounds_toArray, List.set_cons_zero, List.set_cons_succ, List.getElem_toArray, List.getElem_cons_zero, List.getElem_cons_succ]
                      refine wpAnyH_take (i := 15) (v := ?_) rfl (by kernel_rfl) (by kernel_rfl) (by kernel_rfl) (fun _ _ _ h => h) (Or.inl ⟨by rfl, ?_⟩) (by assumption) ?_
                      rotate_left 1
                      · intro w hSw; (try dsimp only at hSw); go_simp <;> with_reducible rfl
                      try simp only [Act.put, List.setIfInBounds_toArray, List.set_cons_zero, List.set_cons_succ, List.getElem_toArray, List.getElem_cons_zero, List.getElem_cons_succ]
                      refine wpAnyH_take (i := 16) (v := undef) rfl (by kernel_rfl) (by kernel_rfl) (by kernel_rfl) (fun _ _ _ h => h) (Or.inr ⟨by rfl, rfl⟩) (by assumption) ?_
                      try simp only [Act.put, List.setIfInBounds_toArray, List.set_cons_zero, List.set_cons_succ, List.getElem_toArray, List.getElem_cons_zero, List.getElem_cons_succ]
                      refine wpAnyH_take (i := 17) (v := undef) rfl (by kernel_rfl) (by kernel_rfl) (by kernel_rfl) (fun _ _ _ h => h) (Or.inr ⟨by rfl, rfl⟩) (by assumption) ?_
                      try simp only [Act.put, List.setIfInBounds_toArray, List.set_cons_zero, List.set_cons_succ, List.getElem_toArray, List.getElem_cons_zero, List.getElem_cons_succ]
                      refine wpAnyH_take (i := 18) (v := undef) rfl (by kernel_rfl) (by kernel_rfl) (by kernel_rfl) (fun _ _ _ h => h) (Or.inr ⟨by rfl, rfl⟩) (by assumption) ?_
                      try simp only [Act.put, List.setIfInBounds_toArray, List.set_cons_zero, List.set_cons_succ, List.getElem_toArray, List.getElem_cons_zero, List.getElem_cons_succ]
                      refine wpAnyH_take (i := 19) (v := undef) rfl (by kernel_rfl) (by kernel_rfl) (by kernel_rfl) (fun _ _ _ h => h) (Or.inr ⟨by rfl, rfl⟩) (by assumption) ?_
                      try simp only [Act.put, List.setIfInBounds_toArray, List.set_cons_zero, List.set_cons_succ, List.getElem_toArray, List.getElem_cons_zero, List.getElem_cons_succ]
                      refine wpAnyH_take (i := 20) (v := undef) rfl (by kernel_rfl) (by kernel_rfl) (by kernel_rfl) (fun _ _ _ h => h) (Or.inr ⟨by rfl, rfl⟩) (by assumption) ?_
                      try simp only [Act.put, List.setIfInBounds_toArray, List.set_cons_zero, List.set_cons_succ, List.getElem_toArray, List.getElem_cons_zero, List.getElem_cons_succ]
                      refine wpAnyH_take (i := 21) (v := undef) rfl (by kernel_rfl) (by kernel_rfl) (by kernel_rfl) (fun _ _ _ h => h) (Or.inr ⟨by rfl, rfl⟩) (by assumption) ?_
                      try simp only [Act.put, List.setIfInBounds_toArray, List.set_cons_zero, List.set_cons_succ, List.getElem_toArray, List.getElem_cons_zero, List.getElem_cons_succ]
                      refine wpAnyH_take (i := 22) (v := undef) rfl (by kernel_rfl) (by kernel_rfl) (by kernel_rfl) (fun _ _ _ h => h) (Or.inr ⟨by rfl, rfl⟩) (by assumption) ?_
                      try simp only [Act.put, List.setIfInBounds_toArray, List.set_cons_zero, List.set_cons_succ, List.getElem_toArray, List.getElem_cons_zero, List.getElem_cons_succ]
                      refine wpAnyH_take (i := 23) (v := undef) rfl (by kernel_rfl) (by kernel_rfl) (by kernel_rfl) (fun _ _ _ h => h) (Or.inr ⟨by rfl, rfl⟩) (by assumption) ?_
                      try simp only [Act.put, List.setIfInBounds_toArray, List.set_cons_zero, List.set_cons_succ, List.getElem_toArray, List.getElem_cons_zero, List.getElem_cons_succ]
                      refine wpAnyH_take (i := 24) (v := undef) rfl (by kernel_rfl) (by kernel_rfl) (by kernel_rfl) (fun _ _ _ h => h) (Or.inr ⟨by rfl, rfl⟩) (by assumption) ?_
                      try simp only [Act.put, List.setIfInBounds_toArray, List.set_cons_zero, List.set_cons_succ, List.getElem_toArray, List.getElem_cons_zero, List.getElem_cons_succ]
                      refine wpAnyH_take (i := 25) (v := undef) rfl (by kernel_rfl) (by kernel_rfl) (by kernel_rfl) (fun _ _ _ h => h) (Or.inr ⟨by rfl, rfl⟩) (by assumption) ?_
                      try simp only [Act.put, List.setIfInBounds_toArray, List.set_cons_zero, List.set_cons_succ, List.getElem_toArray, List.getElem_cons_zero, List.getElem_cons_succ]
                      refine wpAnyH_take (i := 26) (v := ?_) rfl (by kernel_rfl) (by kernel_rfl) (by kernel_rfl) (fun _ _ _ h => h) (Or.inl ⟨by rfl, ?_⟩) (by assumption) ?_
                      rotate_left 1
                      · intro w hSw; (try dsimp only at hSw); go_simp <;> with_reducible rfl
                      try simp only [Act.put, List.setIfInBounds_toArray, List.set_cons_zero, List.set_cons_succ, List.getElem_toArray, List.getElem_cons_zero, List.getElem_cons_succ]
                      refine wpAnyH_done (by kernel_rfl) ?_ _
                      go_wp2_with fail
                      go_meet
                      exact ⟨rfl, BD.out⟩
                  case rest =>
                   as_aux_lemma =>
                    obtain ⟨rfl, hcut⟩ := hcut
                    have B8 := Lib.hid hcut
                    clear hcut
                    obtain ⟨w8, hw8⟩ : ∃ w8, w8 = wc := ⟨_, rfl⟩
                    rw [← hw8] at B8 ⊢
                    clear hw8 wc
                    have HT8 : Hid (∀ w', Below w8.heap.size w8 w' → (fun w' => w'.cell? ⟨qb, 0, none⟩ = some (.int .i64 o.k) ∧ w'.cell? ⟨g7, k * 5, none⟩ = some (.int .i64 fa.i) ∧ w'.cell? ⟨g7, k * 5 + 1, none⟩ = some (.int .i64 fa.s) ∧ w'.cell? ⟨g7, k * 5 + 2, none⟩ = some (.int .i64 fa.g) ∧ w'.cell? ⟨g7, k * 5 + 3, none⟩ = some (.int .i64 fa.n) ∧ w'.cell? ⟨g7, k * 5 + 4, none⟩ = some (.string (strB fa.b)) ∧ w'.cell? ⟨g13, k * 5, none⟩ = some (.int .i64 fb.i) ∧ w'.cell? ⟨g13, k * 5 + 1, none⟩ = some (.int .i64 fb.s) ∧ w'.cell? ⟨g13, k * 5 + 2, none⟩ = some (.int .i64 fb.g) ∧ w'.cell? ⟨g13, k * 5 + 3, none⟩ = some (.int .i64 fb.n) ∧ w'.cell? ⟨g13, k * 5 + 4, none⟩ = some (.string (strB fb.b))) w') := Lib.hid (fun w' hb => HT.out w' (B8.out.trans (hb.mono B8.out.size)))
                    have D8 := Lib.hid (DX.out.keep B8.out)
                    have H8 := Lib.hid (HX2.out.keep B8.out (Sam.refl _ _))
                    clear HT
                    go_upto_region 23 with fail
                    go_cut [115] (fun s wx => s = .bool false ∧ Below w8.heap.size w8 wx)
                    case first =>
                     as_aux_lemma =>
                      by_cases r0 : r = 0
                      · have hr : (r == 0) = true := by simp [r0]
                        clear r0
                        refine wp_region_any (by kernel_rfl) ?_
                        change wpAny _ _ _ _ _ _ _ (World.drew _)
                        refine wpAny_of_held (S := fun w' => w'.cell? ⟨qb, 0, none⟩ = some (.int .i64 o.k) ∧ w'.cell? ⟨g7, k * 5, none⟩ = some (.int .i64 fa.i) ∧ w'.cell? ⟨g7, k * 5 + 1, none⟩ = some (.int .i64 fa.s) ∧ w'.cell? ⟨g7, k * 5 + 2, none⟩ = some (.int .i64 fa.g) ∧ w'.cell? ⟨g7, k * 5 + 3, none⟩ = some (.int .i64 fa.n) ∧ w'.cell? ⟨g7, k * 5 + 4, none⟩ = some (.string (strB fa.b)) ∧ w'.cell? ⟨g13, k * 5, none⟩ = some (.int .i64 fb.i) ∧ w'.cell? ⟨g13, k * 5 + 1, none⟩ = some (.int .i64 fb.s) ∧ w'.cell? ⟨g13, k * 5 + 2, none⟩ = some (.int .i64 fb.g) ∧ w'.cell? ⟨g13, k * 5 + 3, none⟩ = some (.int .i64 fb.n) ∧ w'.cell? ⟨g13, k * 5 + 4, none⟩ = some (.string (strB fb.b))) _ _ _ _ ?_
                        obtain ⟨wd, hwd⟩ : ∃ wd, wd = w8.drew := ⟨_, rfl⟩
                        have BD : Hid (Below w8.heap.size w8 wd) := Lib.hid (by rw [hwd]; exact (Below.refl _ _).drew)
                        rw [← hwd]
                        clear hwd
                        have hHeld : (fun w' => w'.cell? ⟨qb, 0, none⟩ = some (.int .i64 o.k) ∧ w'.cell? ⟨g7, k * 5, none⟩ = some (.int .i64 fa.i) ∧ w'.cell? ⟨g7, k * 5 + 1, none⟩ = some (.int .i64 fa.s) ∧ w'.cell? ⟨g7, k * 5 + 2, none⟩ = some (.int .i64 fa.g) ∧ w'.cell? ⟨g7, k * 5 + 3, none⟩ = some (.int .i64 fa.n) ∧ w'.cell? ⟨g7, k * 5 + 4, none⟩ = some (.string (strB fa.b)) ∧ w'.cell? ⟨g13, k * 5, none⟩ = some (.int .i64 fb.i) ∧ w'.cell? ⟨g13, k * 5 + 1, none⟩ = some (.int .i64 fb.s) ∧ w'.cell? ⟨g13, k * 5 + 2, none⟩ = some (.int .i64 fb.g) ∧ w'.cell? ⟨g13, k * 5 + 3, none⟩ = some (.int .i64 fb.n) ∧ w'.cell? ⟨g13, k * 5 + 4, none⟩ = some (.string (strB fb.b))) wd := HT8.out _ BD.out
                        refine wpAnyH_take (i := 0) (v := ?_) rfl (by kernel_rfl) (by kernel_rfl) (by kernel_rfl) (fun _ _ _ h => h) (Or.inl ⟨by rfl, ?_⟩) (by assumption) ?_
                        rotate_left 1
                        · intro w hSw; (try dsimp only at hSw); go_simp <;> with_reducible rfl
                        try simp only [Act.put, List.setIfInBounds_toArray, List.set_cons_zero, List.set_cons_succ, List.getElem_toArray, List.getElem_cons_zero]
                        refine wpAnyH_take (i := 1) (v := .bool false) rfl (by kernel_rfl) (by kernel_rfl) (by kernel_rfl) (fun _ _ _ h => h) (Or.inl ⟨by rfl, ?_⟩) (by assumption) ?_
                        · intro w hSw; (try dsimp only at hSw); go_simp <;> (first | simpa using hr | omega)
                        try simp only [Act.put, List.setIfInBounds_toArray, List.set_cons_zero, List.set_cons_succ, List.getElem_toArray, List.getElem_cons_zero, List.getElem_cons_succ]
                        refine wpAnyH_take (i := 2) (v := ?_) rfl (by kernel_rfl) (by kernel_rfl) (by kernel_rfl) (fun _ _ _ h => h) (Or.inl ⟨by rfl, ?_⟩) (by assumption) ?_
                        rotate_left 1
                        · intro w hSw; (try dsimp only at hSw); go_simp <;> with_reducible rfl
                        try simp only [Act.put, List.setIfInBounds_toArray, List.set_cons_zero, List.set_cons_succ, List.getElem_toArray, List.getElem_cons_zero, List.getElem_cons_succ]
                        refine wpAnyH_take (i := 3) (v := undef) rfl (by kernel_rfl) (by kernel_rfl) (by kernel_rfl) (fun _ _ _ h => h) (Or.inr ⟨by rfl, rfl⟩) (by assumption) ?_
                        try simp only [Act.put, List.setIfInBounds_toArray, List.set_cons_zero, List.set_cons_succ, List.getElem_toArray, List.getElem_cons_zero, List.getElem_cons_succ]
                        refine wpAnyH_take (i := 4) (v := undef) rfl (by kernel_rfl) (by kernel_rfl) (by kernel_rfl) (fun _ _ _ h => h) (Or.inr ⟨by rfl, rfl⟩) (by assumption) ?_
                        try simp only [Act.put, List.setIfInBounds_toArray, List.set_cons_zero, List.set_cons_succ, List.getElem_toArray, List.getElem_cons_zero, List.getElem_cons_succ]
                        refine wpAnyH_take (i := 5) (v := undef) rfl (by kernel_rfl) (by kernel_rfl) (by kernel_rfl) (fun _ _ _ h => h) (Or.inr ⟨by rfl, rfl⟩) (by assumption) ?_
                        try simp only [Act.put, List.setIfInBounds_toArray, List.set_cons_zero, List.set_cons_succ, List.getElem_toArray, List.getElem_cons_zero, List.getElem_cons_succ]
                        refine wpAnyH_take (i := 6) (v := undef) rfl (by kernel_rfl) (by kernel_rfl) (by kernel_rfl) (fun _ _ _ h => h) (Or.inr ⟨by rfl, rfl⟩) (by assumption) ?_
                        try simp only [Act.put, List.setIfInBounds_toArray, List.set_cons_zero, List.set_cons_succ, List.getElem_toArray, List.getElem_cons_zero, List.getElem_cons_succ]
                        refine wpAnyH_take (i := 7) (v := undef) rfl (by kernel_rfl) (by kernel_rfl) (by kernel_rfl) (fun _ _ _ h => h) (Or.inr ⟨by rfl, rfl⟩) (by assumption) ?_
                        try simp only [Act.put, List.setIfInBounds_toArray, List.set_cons_zero, List.set_cons_succ, List.getElem_toArray, List.getElem_cons_zero, List.getElem_cons_succ]
                        refine wpAnyH_take (i := 8) (v := undef) rfl (by kernel_rfl) (by kernel_rfl) (by kernel_rfl) (fun _ _ _ h => h) (Or.inr ⟨by rfl, rfl⟩) (by assumption) ?_
                        try simp only [Act.put, List.setIfInBounds_toArray, List.set_cons_zero, List.set_cons_succ, List.getElem_toArray, List.getElem_cons_zero, List.getElem_cons_succ]
                        refine wpAnyH_take (i := 9) (v := undef) rfl (by kernel_rfl) (by kernel_rfl) (by kernel_rfl) (fun _ _ _ h => h) (Or.inr ⟨by rfl, rfl⟩) (by assumption) ?_
                        try simp only [Act.put, List.setIfInBounds_toArray, List.set_cons_zero, List.set_cons_succ, List.getElem_toArray, List.getElem_cons_zero, List.getElem_cons_succ]
                        refine wpAnyH_take (i := 10) (v := undef) rfl (by kernel_rfl) (by kernel_rfl) (by kernel_rfl) (fun _ _ _ h => h) (Or.inr ⟨by rfl, rfl⟩) (by assumption) ?_
                        try simp only [Act.put, List.setIfInBounds_toArray, List.set_cons_zero, List.set_cons_succ, List.getElem_toArray, List.getElem_cons_zero, List.getElem_cons_succ]
                        refine wpAnyH_take (i := 11) (v := undef) rfl (by kernel_rfl) (by kernel_rfl) (by kernel_rfl) (fun _ _ _ h => h) (Or.inr ⟨by rfl, rfl⟩) (by assumption) ?_
                        try simp only [Act.put, List.setIfInBounds_toArray, List.set_cons_zero, List.set_cons_succ, List.getElem_toArray, List.getElem_cons_zero, List.getElem_cons_succ]
                        refine wpAnyH_take (i := 12) (v := ?_) rfl (by kernel_rfl) (by kernel_rfl) (by kernel_rfl) (fun _ _ _ h => h) (Or.inl ⟨by rfl, ?_⟩) (by assumption) ?_
                        rotate_left 1
                        · intro w hSw; (try dsimp only at hSw); go_simp <;> with_reducible rfl
                        try simp only [Act.put, List.setIfInBounds_toArray, List.set_cons_zero, List.set_cons_succ, List.getElem_toArray, List.getElem_cons_zero, List.getElem_cons_succ]
                        refine wpAnyH_done (by kernel_rfl) ?_ _
                        go_wp2_with fail
                        go_meet
                        exact ⟨rfl, BD.out⟩
                      · have hr : (r == 0) = false := by simp [r0]
                        have hne := fun w => neq_file fa fb w
                        have hfe : eqF fa fb = true := by
                          rw [HFA.out.1, HFA.out.2, HH.out.same r0]; exact eqF_self _
                        rw [hfe] at hne
                        unfold fvV at hne
                        have hq := guard_file
                        clear r0 hfe
                        refine wp_region_any (by kernel_rfl) ?_
                        change wpAny _ _ _ _ _ _ _ (World.drew _)
                        refine wpAny_of_held (S := fun w' => w'.cell? ⟨qb, 0, none⟩ = some (.int .i64 o.k) ∧ w'.cell? ⟨g7, k * 5, none⟩ = some (.int .i64 fa.i) ∧ w'.cell? ⟨g7, k * 5 + 1, none⟩ = some (.int .i64 fa.s) ∧ w'.cell? ⟨g7, k * 5 + 2, none⟩ = some (.int .i64 fa.g) ∧ w'.cell? ⟨g7, k * 5 + 3, none⟩ = some (.int .i64 fa.n) ∧ w'.cell? ⟨g7, k * 5 + 4, none⟩ = some (.string (strB fa.b)) ∧ w'.cell? ⟨g13, k * 5, none⟩ = some (.int .i64 fb.i) ∧ w'.cell? ⟨g13, k * 5 + 1, none⟩ = some (.int .i64 fb.s) ∧ w'.cell? ⟨g13, k * 5 + 2, none⟩ = some (.int .i64 fb.g) ∧ w'.cell? ⟨g13, k * 5 + 3, none⟩ = some (.int .i64 fb.n) ∧ w'.cell? ⟨g13, k * 5 + 4, none⟩ = some (.string (strB fb.b))) _ _ _ _ ?_
                        obtain ⟨wd, hwd⟩ : ∃ wd, wd = w8.drew := ⟨_, rfl⟩
                        have BD : Hid (Below w8.heap.size w8 wd) := Lib.hid (by rw [hwd]; exact (Below.refl _ _).drew)
                        rw [← hwd]
                        clear hwd
                        have hHeld : (fun w' => w'.cell? ⟨qb, 0, none⟩ = some (.int .i64 o.k) ∧ w'.cell? ⟨g7, k * 5, none⟩ = some (.int .i64 fa.i) ∧ w'.cell? ⟨g7, k * 5 + 1, none⟩ = some (.int .i64 fa.s) ∧ w'.cell? ⟨g7, k * 5 + 2, none⟩ = some (.int .i64 fa.g) ∧ w'.cell? ⟨g7, k * 5 + 3, none⟩ = some (.int .i64 fa.n) ∧ w'.cell? ⟨g7, k * 5 + 4, none⟩ = some (.string (strB fa.b)) ∧ w'.cell? ⟨g13, k * 5, none⟩ = some (.int .i64 fb.i) ∧ w'.cell? ⟨g13, k * 5 + 1, none⟩ = some (.int .i64 fb.s) ∧ w'.cell? ⟨g13, k * 5 + 2, none⟩ = some (.int .i64 fb.g) ∧ w'.cell? ⟨g13, k * 5 + 3, none⟩ = some (.int .i64 fb.n) ∧ w'.cell? ⟨g13, k * 5 + 4, none⟩ = some (.string (strB fb.b))) wd := HT8.out _ BD.out
                        refine wpAnyH_take (i := 0) (v := ?_) rfl (by kernel_rfl) (by kernel_rfl) (by kernel_rfl) (fun _ _ _ h => h) (Or.inl ⟨by rfl, ?_⟩) (by assumption) ?_
                        rotate_left 1
                        · intro w hSw; (try dsimp only at hSw); go_simp <;> with_reducible rfl
                        try simp only [Act.put, List.setIfInBounds_toArray, List.set_cons_zero, List.set_cons_succ, List.getElem_toArray, List.getElem_cons_zero]
                        refine wpAnyH_take (i := 1) (v := .bool true) rfl (by kernel_rfl) (by kernel_rfl) (by kernel_rfl) (fun _ _ _ h => h) (Or.inl ⟨by rfl, ?_⟩) (by assumption) ?_
                        · intro w hSw; (try dsimp only at hSw); go_simp <;> (first | simpa using hr | omega)
                        try simp only [Act.put, List.setIfInBounds_toArray, List.set_cons_zero, List.set_cons_succ, List.getElem_toArray, List.getElem_cons_zero, List.getElem_cons_succ]
                        refine wpAnyH_take (i := 2) (v := ?_) rfl (by kernel_rfl) (by kernel_rfl) (by kernel_rfl) (fun _ _ _ h => h) (Or.inl ⟨by rfl, ?_⟩) (by assumption) ?_
                        rotate_left 1
                        · intro w hSw; (try dsimp only at hSw); go_simp <;> with_reducible rfl
                        try simp only [Act.put, List.setIfInBounds_toArray, List.set_cons_zero, List.set_cons_succ, List.getElem_toArray, List.getElem_cons_zero, List.getElem_cons_succ]
                        refine wpAnyH_take (i := 3) (v := ?_) rfl (by kernel_rfl) (by kernel_rfl) (by kernel_rfl) (fun _ _ _ h => h) (Or.inl ⟨by rfl, ?_⟩) (by assumption) ?_
                        rotate_left 1
                        · intro w hSw; (try dsimp only at hSw); go_simp <;> with_reducible rfl
                        try simp only [Act.put, List.setIfInBounds_toArray, List.set_cons_zero, List.set_cons_succ, List.getElem_toArray, List.getElem_cons_zero, List.getElem_cons_succ]
                        refine wpAnyH_take (i := 4) (v := ?_) rfl (by kernel_rfl) (by kernel_rfl) (by kernel_rfl) (fun _ _ _ h => h) (Or.inl ⟨by rfl, ?_⟩) (by assumption) ?_
                        rotate_left 1
                        · intro w hSw; (try dsimp only at hSw); go_simp <;> with_reducible rfl
                        try simp only [Act.put, List.setIfInBounds_toArray, List.set_cons_zero, List.set_cons_succ, List.getElem_toArray, List.getElem_cons_zero, List.getElem_cons_succ]
                        refine wpAnyH_take (i := 5) (v := ?_) rfl (by kernel_rfl) (by kernel_rfl) (by kernel_rfl) (fun _ _ _ h => h) (Or.inl ⟨by rfl, ?_⟩) (by assumption) ?_
                        rotate_left 1
                        · intro w hSw; (try dsimp only at hSw); go_simp <;> with_reducible rfl
                        try simp only [Act.put, List.setIfInBounds_toArray, List.set_cons_zero, List.set_cons_succ, List.getElem_toArray, List.getElem_cons_zero, List.getElem_cons_succ]
                        refine wpAnyH_take (i := 6) (v := ?_) rfl (by kernel_rfl) (by kernel_rfl) (by kernel_rfl) (fun _ _ _ h => h) (Or.inl ⟨by rfl, ?_⟩) (by assumption) ?_
                        rotate_left 1
                        · intro w hSw; obtain ⟨zk, a0, a1, a2, a3, a4, b0, b1, b2, b3, b4⟩ := hSw; (try dsimp only at hSw); go_simp <;> with_reducible rfl
                        try simp only [Act.put, List.setIfInBounds_toArray, List.set_cons_zero, List.set_cons_succ, List.getElem_toArray, List.getElem_cons_zero, List.getElem_cons_succ]
                        refine wpAnyH_take (i := 7) (v := ?_) rfl (by kernel_rfl) (by kernel_rfl) (by kernel_rfl) (fun _ _ _ h => h) (Or.inl ⟨by rfl, ?_⟩) (by assumption) ?_
                        rotate_left 1
                        · intro w hSw; (try dsimp only at hSw); go_simp <;> with_reducible rfl
                        try simp only [Act.put, List.setIfInBounds_toArray, List.set_cons_zero, List.set_cons_succ, List.getElem_toArray, List.getElem_cons_zero, List.getElem_cons_succ]
                        refine wpAnyH_take (i := 8) (v := ?_) rfl (by kernel_rfl) (by kernel_rfl) (by kernel_rfl) (fun _ _ _ h => h) (Or.inl ⟨by rfl, ?_⟩) (by assumption) ?_
                        rotate_left 1
                        · intro w hSw; (try dsimp only at hSw); go_simp <;> with_reducible rfl
                        try simp only [Act.put, List.setIfInBounds_toArray, List.set_cons_zero, List.set_cons_succ, List.getElem_toArray, List.getElem_cons_zero, List.getElem_cons_succ]
                        refine wpAnyH_take (i := 9) (v := ?_) rfl (by kernel_rfl) (by kernel_rfl) (by kernel_rfl) (fun _ _ _ h => h) (Or.inl ⟨by rfl, ?_⟩) (by assumption) ?_
                        rotate_left 1
                        · intro w hSw; (try dsimp only at hSw); go_simp <;> with_reducible rfl
                        try simp only [Act.put, List.setIfInBounds_toArray, List.set_cons_zero, List.set_cons_succ, List.getElem_toArray, List.getElem_cons_zero, List.getElem_cons_succ]
                        refine wpAnyH_take (i := 10) (v := ?_) rfl (by kernel_rfl) (by kernel_rfl) (by kernel_rfl) (fun _ _ _ h => h) (Or.inl ⟨by rfl, ?_⟩) (by assumption) ?_
                        rotate_left 1
                        · intro w hSw; obtain ⟨zk, a0, a1, a2, a3, a4, b0, b1, b2, b3, b4⟩ := hSw; (try dsimp only at hSw); go_simp <;> with_reducible rfl
                        try simp only [Act.put, List.setIfInBounds_toArray, List.set_cons_zero, List.set_cons_succ, List.getElem_toArray, List.getElem_cons_zero, List.getElem_cons_succ]
                        refine wpAnyH_take (i := 11) (v := .bool false) rfl (by kernel_rfl) (by kernel_rfl) (by kernel_rfl) (fun _ _ _ h => h) (Or.inl ⟨by rfl, ?_⟩) (by assumption) ?_
                        · intro w hSw; (try dsimp only at hSw); go_simp <;> (first | rfl | simp [*])
                        try simp only [Act.put, List.setIfInBounds_toArray, List.set_cons_zero, List.set_cons_succ, List.getElem_toArray, List.getElem_cons_zero, List.getElem_cons_succ]
                        refine wpAnyH_take (i := 12) (v := ?_) rfl (by kernel_rfl) (by kernel_rfl) (by kernel_rfl) (fun _ _ _ h => h) (Or.inl ⟨by rfl, ?_⟩) (by assumption) ?_
                        rotate_left 1
                        · intro w hSw; (try dsimp only at hSw); go_simp <;> with_reducible rfl
                        try simp only [Act.put, List.setIfInBounds_toArray, List.set_cons_zero, List.set_cons_succ, List.getElem_toArray, List.getElem_cons_zero, List.getElem_cons_succ]
                        refine wpAnyH_done (by kernel_rfl) ?_ _
                        go_wp2_with fail
                        go_meet
                        exact ⟨rfl, BD.out⟩
                    case rest =>
                     as_aux_lemma =>
                      obtain ⟨rfl, hcut⟩ := hcut
                      have B9 := Lib.hid hcut
                      clear hcut
                      obtain ⟨w9, hw9⟩ : ∃ w9, w9 = wc := ⟨_, rfl⟩
                      rw [← hw9] at B9 ⊢
                      have D9 := Lib.hid (D8.out.keep B9.out)
                      have H9 := Lib.hid (H8.out.keep B9.out (Sam.refl _ _))
                      clear hw9 wc HT8 DX HX2 D8 H8 B8 B9
                      go_wp2_with fail
                      go_roundw
                      case rel => exact ⟨k + 1, by go_num, by omega, _, D9, H9⟩
                      case measure => simp [intOf]; omega
                · obtain rfl : k = m7 := by omega
                  have hnk : ¬ (k : Int) < (k : Int) := by omega
                  have hmd4 : (md2 : Int) < (m13 : Int) := by have := HMm13.out.1; omega
                  have hmd5 : (0 : Int) ≤ (md2 : Int) := by omega
                  have hmd6 : (md2 : Int) ≤ 1000 := by omega
                  have h1 := HX2.out.now
                  rw [HPP.out] at h1
                  obtain ⟨⟨⟨hq, _⟩, _⟩, h13⟩ := h1
                  obtain ⟨x0, _⟩ := seen_cells h13 (show md2 < m13 by omega)
                  have hend : (fvOf d2 ((md2 : Int) + 1)).i = 0 := by
                    unfold fvOf
                    cases hx : d2.fs ((md2 : Int) + 1) with
                    | none => rfl
                    | some y =>
                      have h2 := (DX.out.dc.ok.lo hx).2
                      have h3 := HM2.out.1
                      omega
                  rw [hend] at x0
                  have zk : wr.cell? ⟨qb, 0, none⟩ = some (.int .i64 o.k) := (hq.cell 0).trans rfl
                  have HZ : Hid (ar = true → o.k = 0 → ∃ m0 : Nat, (m0 : Int) = (md2 : Int) - 1 ∧ wr.cell? ⟨g13, m0 * 5 + 3, none⟩ = some (.int .i64 0)) := Lib.hid (fun ha hk => by
                    obtain ⟨x, hx, hxb⟩ := HH.out.zero ha hk
                    have h2 := (DX.out.dc.ok.lo hx).1
                    have h3 := HM2.out.1
                    obtain ⟨m0, hm0⟩ : ∃ m0, md2 = m0 + 1 := ⟨md2 - 1, by omega⟩
                    refine ⟨m0, by omega, ?_⟩
                    have h4 := (seen_cells h13 (show m0 < m13 by omega)).2.2.2.1
                    have h5 : (fvOf d2 ((m0 : Int) + 1)).n = 0 := by
                      unfold fvOf
                      rw [show (m0 : Int) + 1 = (d2.no : Int) by omega, hx]
                      simp [hxb]
                    rw [h5] at h4
                    exact h4)
                  have HWR : Hid (wr = wr) := Lib.hid rfl
                  clear hq h13 hend
                  go_upto_region 25 with fail
                  go_cut [140] (fun s wx => s = .bool false ∧ wx = wr)
                  case first =>
                   as_aux_lemma =>
                    cases ar
                    case false =>
                      go_wp2_with fail
                      go_meet
                      exact ⟨rfl, rfl⟩
                    case true =>
                      by_cases k0 : o.k = 0
                      · obtain ⟨m0, hm0, x3⟩ := HZ.out rfl k0
                        have hk : (o.k == 0) = true := by simp [k0]
                        have hm1 : (md2 : Int) - 1 < (m13 : Int) := by omega
                        have hm2 : (0 : Int) ≤ (md2 : Int) - 1 := by omega
                        have hm3 : m0 = md2 - 1 := by omega
                        rw [hm3] at x3
                        clear k0 hm0 hm3
                        go_wp2_with fail
                        go_meet
                        exact ⟨rfl, rfl⟩
                      · have hk : (o.k == 0) = false := by simp [k0]
                        clear k0
                        go_wp2_with fail
                        go_meet
                        exact ⟨rfl, rfl⟩
                  case rest =>
                   as_aux_lemma =>
                    obtain ⟨rfl, hcut⟩ := hcut
                    rw [hcut]
                    clear hcut wc x0 zk HZ HWR
                    obtain ⟨⟨ti, ts, tg, tn, te⟩, htt⟩ : ∃ st, st = d2.sti nmT := ⟨_, rfl⟩
                    have ct := stat_g DX.out.dc nmT
                    rw [Dk.stat_sti, ← htt] at ct
                    unfold statV at ct
                    have CT := Lib.hid ct
                    have HA : Hid ((ar = true → te = 0 ∧ (se = 0 → ts = ss + 1)) ∧ (ar = false → se = 0 → te = 0 → ts = ss) ∧ (ar = true → o.k = 0 → ti = (md2 : Int)) ∧ (se = 0 → 0 ≤ ss ∧ ss ≤ 1000)) := Lib.hid (by
                      have e1 : d2.sti nmT = (ti, ts, tg, tn, te) := htt.symm
                      have e2 : d.sti nmT = (si, ss, sg, sn, se) := HST.out.symm
                      have s1 := d.sti_ser nmT
                      have s2 := d2.sti_ser nmT
                      rw [e1] at s2
                      rw [e2] at s1
                      simp only at s1 s2
                      have h1 := HH.out.arr
                      have h2 := HH.out.se0
                      have h3 := HH.out.ino
                      rw [← HTO.out, e1] at h1 h3
                      simp only at h1 h3
                      refine ⟨fun a => ⟨(h1 a).1, fun e => by rw [s2 (h1 a).1, s1 e]; exact (h1 a).2⟩, fun a e e' => by rw [s1 e, s2 e', h2 a], fun a k => by rw [h3 a k, HM2.out.1], fun e => ?_⟩
                      rw [s1 e]
                      cases hv : d.se nmT with
                      | none => exact ⟨by decide, by decide⟩
                      | some u =>
                        have := DR0.out u hv
                        exact ⟨by simp; omega, by simp; omega⟩)
                    clear ct htt
                    go_wp2_with fail
                    refine CT.out.mono ?_
                    rintro e w9 ⟨rfl, hbr⟩
                    have D9 := Lib.hid (DX.out.keep hbr)
                    have H9 := Lib.hid (HX2.out.keep hbr (Sam.refl _ _))
                    simp only
                    clear hbr CT DX HX2
                    go_upto_region 28 with fail
                    obtain ⟨w10, hw10⟩ : ∃ w10, w10 = w9.alloc (.cells #[.int .i64 ti, .int .i64 ts, .int .i64 tg, .int .i64 tn] 42) := ⟨_, rfl⟩
                    obtain ⟨tb, htb⟩ : ∃ tb, tb = w9.heap.size := ⟨_, rfl⟩
                    have hb10 : Below w9.heap.size w9 w10 := by rw [hw10]; exact below_alloc' _ _
                    have D10 := Lib.hid (D9.out.keep hb10)
                    have h1 := (H9.out.keep hb10 (Sam.refl _ _)).now
                    rw [HPP.out] at h1
                    obtain ⟨⟨⟨hq, _⟩, hs⟩, _⟩ := h1
                    have zk : w10.cell? ⟨qb, 0, none⟩ = some (.int .i64 o.k) := (hq.cell 0).trans rfl
                    have y1 : w10.cell? ⟨sb, 1, none⟩ = some (.int .i64 ss) := (hs.cell 1).trans rfl
                    have hT : Blk w10 tb 42 #[.int .i64 ti, .int .i64 ts, .int .i64 tg, .int .i64 tn] := by rw [hw10]; exact Blk.new w9 _ _ htb
                    have u0 : w10.cell? ⟨tb, 0, none⟩ = some (.int .i64 ti) := (hT.cell 0).trans rfl
                    have u1 : w10.cell? ⟨tb, 1, none⟩ = some (.int .i64 ts) := (hT.cell 1).trans rfl
                    rw [← hw10, ← htb]
                    clear hw10 htb hb10 hq hs hT D9 H9
                    go_cut [182] (fun s wx => s = .bool false ∧ wx = w10)
                    case first =>
                     as_aux_lemma =>
                      cases ar
                      case false =>
                        by_cases e0 : se = 0
                        · have he : (se == 0) = true := by simp [e0]
                          by_cases f0 : te = 0
                          · have hf : (te == 0) = true := by simp [f0]
                            obtain rfl := HA.out.2.1 rfl e0 f0
                            clear e0 f0
                            go_wp2_with fail
                            go_meet
                            exact ⟨rfl, rfl⟩
                          · have hf : (te == 0) = false := by simp [f0]
                            clear e0 f0
                            go_wp2_with fail
                            go_meet
                            exact ⟨rfl, rfl⟩
                        · have he : (se == 0) = false := by simp [e0]
                          clear e0
                          go_wp2_with fail
                          go_meet
                          exact ⟨rfl, rfl⟩
                      case true =>
                        have hf0 := (HA.out.1 rfl).1
                        subst hf0
                        by_cases e0 : se = 0
                        · have he : (se == 0) = true := by simp [e0]
                          obtain ⟨b1, b2⟩ := HA.out.2.2.2 e0
                          obtain rfl := (HA.out.1 rfl).2 e0
                          clear e0
                          go_wp2_with fail
                          go_meet
                          exact ⟨rfl, rfl⟩
                        · have he : (se == 0) = false := by simp [e0]
                          clear e0
                          go_wp2_with fail
                          go_meet
                          exact ⟨rfl, rfl⟩
                    case rest =>
                     as_aux_lemma =>
                      obtain ⟨rfl, hcut⟩ := hcut
                      rw [hcut]
                      clear hcut wc y1 u1
                      go_upto_region 30 with fail
                      go_cut [194] (fun s wx => s = .bool false ∧ wx = w10)
                      case first =>
                       as_aux_lemma =>
                        cases ar
                        case false =>
                          go_wp2_with fail
                          go_meet
                          exact ⟨rfl, rfl⟩
                        case true =>
                          by_cases k0 : o.k = 0
                          · have hk : (o.k == 0) = true := by simp [k0]
                            have ht := HA.out.2.2.1 rfl k0
                            subst ht
                            clear k0
                            go_wp2_with fail
                            go_meet
                            exact ⟨rfl, rfl⟩
                          · have hk : (o.k == 0) = false := by simp [k0]
                            clear k0
                            go_wp2_with fail
                            go_meet
                            exact ⟨rfl, rfl⟩
                      case rest =>
                       as_aux_lemma =>
                        obtain ⟨rfl, hcut⟩ := hcut
                        rw [hcut]
                        clear hcut wc zk u0
                        have HE : Hid (DS w w10 Cx p (2 * (i + 1)) d2 ∧ md2 = d2.no) := Lib.hid ⟨by rw [show 2 * (i + 1) = 2 * i + 2 from by omega]; exact D10.out, HM2.out.1⟩
                        go_wp2_with fail
                        go_roundw
                        case rel => exact ⟨i + 1, md2, by go_num, rfl, by omega, by omega, by omega, _, d2, Lib.hid HE.out.1, Lib.hid HE.out.2⟩
                        case measure => simp [intOf]; omega
end Go.Proofs.Ythhbfjhgmdnpbaa
