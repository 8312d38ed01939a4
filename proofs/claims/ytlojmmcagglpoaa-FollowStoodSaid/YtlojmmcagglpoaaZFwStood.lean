/- THE WALK of the law FollowStood (printed by a program of ours). -/
import Derived.Test.YtlojmmcagglpoaaZFwFL
import Derived.Test.YtlojmmcagglpoaaZMayAll
import Derived.RegionTactic
import Derived.Deep.CutBlock
import Derived.Deep.MidRow
import Derived.Deep.DeepMust
namespace Go.Proofs.Ytlojmmcagglpoaa
open Go.RowKit Go.Maps
theorem mark_err {S : List UInt8 → T5} (hS : ∀ nm, (S nm).2.2.2.2 ≠ 140 ∨ mayB nm = false) {L : Nat} {c : Int} : mayPB S ⟨L, nA, nA1, c⟩ = true := by
  have h1 : (S nA).2.2.2.2 ≠ 140 := (hS nA).resolve_right (by rw [mayA]; decide)
  have h2 : (S nA1).2.2.2.2 ≠ 140 := (hS nA1).resolve_right (by rw [mayA1]; decide)
  unfold mayPB
  simp [h1, h2]
theorem Dk.sti_140 (d : Dk) (nm : List UInt8) : (d.sti nm).2.2.2.2 ≠ 140 ∨ mayB nm = false := by
  unfold Dk.sti
  split
  · refine .inl ?_
    cases d.file nm with
    | none => exact (by decide : (141 : Int) ≠ 140)
    | some q => exact (by decide : (0 : Int) ≠ 140)
  · rename_i h
    exact .inr (by simpa using h)
theorem may_nums {L : Nat} {c : Int} (h1 : 1 ≤ L) (h2 : L ≤ 40) (h3 : 1 ≤ c) (h4 : c ≤ 40) : mayNB (L : Int) c fw0 = true := by
  unfold mayNB
  rw [decide_eq_true (by omega), decide_eq_true (by omega), decide_eq_true (by omega), decide_eq_true (by omega)]
  rfl
def mNeg : FwS := ⟨-1, 0, 0, 0, 0, 0, 0, 0, 0, [], 0⟩
set_option maxRecDepth 20000 in
set_option maxHeartbeats 8000000 in
theorem stood_any (a b : Int) (A0 : Option Addr) (n0 cp0 : Nat) (l : List O17) (w : World) (hr : SF w A0 n0 l) : Calls Try.prog 6 #[.int .i64 a, .int .i64 b, .slice A0 n0 cp0] w (TruQ w) := by
  have CK := Lib.hid (fixed17 w)
  have HR := Lib.hid hr
  clear hr
  go_enter Try.func6, Try.ntmps6
  go_wp2_with fail
  refine CK.out.mono ?_
  rintro e wk ⟨rfl, hbk⟩
  have BK := Lib.hid hbk
  have CM := Lib.hid (mod17 a 40 (by decide) (by decide) wk)
  clear hbk CK
  go_wp2_with fail
  refine CM.out.mono ?_
  rintro e wk' ⟨j, hj, rfl, rfl⟩
  obtain ⟨L, hL, hL1, hL2⟩ : ∃ L : Nat, (1 : Int) + (j : Int) = (L : Int) ∧ 1 ≤ L ∧ L ≤ 40 := ⟨j + 1, by omega, by omega, by omega⟩
  have CM := Lib.hid (mod17 b 40 (by decide) (by decide) wk')
  go_upto_region 4 with fail
  clear hL hj
  go_wp2_with fail
  refine CM.out.mono ?_
  rintro e wk ⟨i, hi, rfl, rfl⟩
  obtain ⟨H, hH, hH1, hH2⟩ : ∃ H : Nat, (1 : Int) + (i : Int) = (H : Int) ∧ 1 ≤ H ∧ H ≤ 40 := ⟨i + 1, by omega, by omega, by omega⟩
  have CN := Lib.hid (new_c wk (fun _ => 0) 1)
  go_upto_region 5 with fail
  clear hH hi CM
  go_wp2_with fail
  refine CN.out.mono ?_
  rintro e w1 ⟨p, rfl, hp, hd, hb⟩
  have D1 := Lib.hid (DS.made BK.out hd hb)
  obtain ⟨C1, hC1⟩ : ∃ C1, C1 = paint (fun _ => 0) wk.heap.size 1 := ⟨_, rfl⟩
  have N1 : Hid (∀ b, C1 b ≠ 2) := Lib.hid (fun b => by rw [hC1]; unfold paint; split; exact (by decide : (0 : Nat) ≠ 2); decide)
  rw [← hC1] at D1
  obtain ⟨k, hk⟩ : ∃ k : FwK, k = ⟨L, nA, nA1, (H : Int)⟩ := ⟨_, rfl⟩
  have HK : Hid (k.line = L ∧ k.ch = (H : Int) ∧ 1 ≤ L ∧ L ≤ 40 ∧ 1 ≤ H ∧ H ≤ 40) := Lib.hid ⟨by rw [hk], by rw [hk], hL1, hL2, hH1, hH2⟩
  have h40 : (H : Int) ≤ 40 := by omega
  have h01 : (1 : Int) ≤ (H : Int) := by omega
  have cw := D1.out.newC (P := fun _ => True) (fun b _ => N1.out b) ⟨trivial, fun _ _ _ => trivial⟩ ⟨L, nA, nA1, (H : Int)⟩ fw0 (mark_err emptyD.sti_140) (may_nums hL1 hL2 h01 h40)
  rw [bornF] at cw
  have CW : Hid (Calls Try.prog 10 #[.agg #[.string ⟨#[97]⟩, .string ⟨#[97, 46, 49]⟩], .int .i64 (L : Int), .int .i64 (H : Int), .agg #[.int .i64 0, .int .i64 0, .int .i64 0, .int .i64 0, .int .i64 0, .int .i64 0, .int .i64 0, .int .i64 0, .int .i64 0], .pointer (some ⟨p, 0, none⟩)] w1 fun e w' => ∃ fl rb C3, e = .returned (.tuple #[.pointer (some ⟨fl, 0, none⟩), .int .i64 0]) ∧ FG w w' C3 p 0 emptyD fl rb k fw0 (fun _ => True) ∧ Below w1.heap.size w1 w') := Lib.hid (by rw [hk]; exact cw)
  clear cw h40 h01
  clear hd hb hp CN hC1 hk hL1 hL2 hH1 hH2 BK N1
  go_wp2_with fail
  refine CW.out.mono ?_
  rintro e w2 ⟨fl, rb, C2, rfl, hg, _⟩
  have G2 := Lib.hid hg
  clear hg CW D1
  obtain ⟨w3, hw3⟩ : ∃ w3, w3 = w2.alloc (.cells mNeg.mark 37) := ⟨_, rfl⟩
  obtain ⟨lb, hlb⟩ : ∃ lb, lb = w2.heap.size := ⟨_, rfl⟩
  have G3 := Lib.hid (G2.out.last (m := mNeg) (lb := lb) (w' := w3) (by rw [hw3]; exact below_alloc' _ _) (by rw [hw3]; exact Blk.new _ _ _ hlb) (by rw [hlb]; exact Nat.le_refl _))
  have I3 : Hid (FIv emptyD fw0 mNeg.se mNeg.ge mNeg.off) := Lib.hid ⟨FwS.okM_ok (by decide), by show (0 : Int) ≤ emptyD.no; omega, fun h => absurd rfl h, fun c hc => (by cases hc), fun _ => rfl, by show 0 ≤ 1048576; omega, by decide, fun h => absurd rfl h⟩
  unfold FwS.mark mNeg at hw3
  go_upto_region 10 with fail
  rw [← hw3, ← hlb]
  clear hw3 hlb G2
  go_wp2_with fail
  go_loopw [11] (fun s11 W => ∃ i : Nat, s11 = .int .i64 (i : Int) ∧ i ≤ n0 ∧ i ≤ 120 ∧ ∃ C n d f m, n ≤ 2 * i ∧ f.lc ≤ 10 * i ∧ Hid (FL w W C p n d fl rb k f (fun _ => True) lb m) ∧ Hid (FIv d f m.se m.ge m.off)) (fun s11 _ => 120 - (intOf s11).toNat)
  case atStart => exact ⟨0, rfl, Nat.zero_le _, Nat.zero_le _, _, _, _, _, _, Nat.le_refl _, Nat.le_refl _, G3, I3⟩
  case round =>
   as_aux_lemma =>
    obtain ⟨i, rfl, hin, hi8, C, n, d, f, m, hn, hlc, GR, IR⟩ := hrel
    clear G3 I3
    go_upto_region 11 with fail
    go_cut [51] (fun s wx => ∃ b : Bool, s = .bool b ∧ (b = true ↔ i < n0 ∧ i < 120) ∧ wx = wr)
    case first =>
      by_cases hlt : i < n0
      · by_cases h80 : i < 120
        · go_wp2_with fail
          go_meet
          exact ⟨true, by rw [decide_eq_true (by omega)], by simp [hlt, h80], rfl⟩
        · go_wp2_with fail
          go_meet
          exact ⟨false, by rw [decide_eq_false (by omega)], by simp [h80], rfl⟩
      · go_wp2_with fail
        go_meet
        exact ⟨false, rfl, by simp [hlt], rfl⟩
    case rest =>
     as_aux_lemma =>
      obtain ⟨b, rfl, hb0, hcut⟩ := hcut
      rw [hcut]
      clear hcut wc
      cases b
      case false =>
        have HF : Hid (TruQ w (.returned (.bool true)) wr) := Lib.hid ⟨rfl, GR.out.g.ds.bel⟩
        clear hb0
        go_wp2_with fail
        go_ret
        exact HF.out
      case true =>
        obtain ⟨hlt, h80⟩ := hb0.1 rfl
        clear hb0
        obtain ⟨sb, off, rfl, hbl, hcell⟩ := HR.out.at_ (by omega)
        obtain ⟨o, ho⟩ : ∃ o, l[i]? = some o := ⟨_, List.getElem?_eq_getElem (by rw [HR.out.len]; exact hlt)⟩
        have HIN := Lib.hid (HR.out.in_ o (List.mem_of_getElem? ho))
        have HC : Hid (∀ wx, Below w.heap.size w wx → ∀ (q : Nat) (u : Value), (oC17 o)[q]? = some u → wx.cell? ⟨sb, off + i * 15 + q, none⟩ = some u) := Lib.hid (fun wx hb q u hu => cell_later hb (hcell i o ho q u hu))
        have hi0 : (0 : Int) ≤ (i : Int) := by omega
        have hi1 : (i : Int) < (n0 : Int) := by omega
        have HI := Lib.hid (And.intro hi0 (And.intro hi1 (And.intro hlt h80)))
        clear hbl hcell ho
        have c0 : wr.cell? ⟨sb, off + i * 15, none⟩ = some (.int .i64 o.k) := HC.out wr GR.out.g.ds.bel 0 _ rfl
        by_cases h7 : o.k < 7
        · have HK7 := Lib.hid h7
          have c1 : wr.cell? ⟨sb, off + i * 15 + 1, none⟩ = some (.string (strB o.a)) := HC.out wr GR.out.g.ds.bel 1 _ rfl
          have c2 : wr.cell? ⟨sb, off + i * 15 + 2, none⟩ = some (.string (strB o.b)) := HC.out wr GR.out.g.ds.bel 2 _ rfl
          have c3 : wr.cell? ⟨sb, off + i * 15 + 3, none⟩ = some (.string (strB o.s)) := HC.out wr GR.out.g.ds.bel 3 _ rfl
          have c4 : wr.cell? ⟨sb, off + i * 15 + 4, none⟩ = some (.slice o.A o.m o.cp) := HC.out wr GR.out.g.ds.bel 4 _ rfl
          have c5 : wr.cell? ⟨sb, off + i * 15 + 5, none⟩ = some (.int .i64 o.n) := HC.out wr GR.out.g.ds.bel 5 _ rfl
          have c6 : wr.cell? ⟨sb, off + i * 15 + 6, none⟩ = some (.int .i64 o.mr.se) := HC.out wr GR.out.g.ds.bel 6 _ rfl
          have c7 : wr.cell? ⟨sb, off + i * 15 + 7, none⟩ = some (.int .i64 o.mr.ino) := HC.out wr GR.out.g.ds.bel 7 _ rfl
          have c8 : wr.cell? ⟨sb, off + i * 15 + 8, none⟩ = some (.int .i64 o.mr.ge) := HC.out wr GR.out.g.ds.bel 8 _ rfl
          have c9 : wr.cell? ⟨sb, off + i * 15 + 9, none⟩ = some (.int .i64 o.mr.off) := HC.out wr GR.out.g.ds.bel 9 _ rfl
          have c10 : wr.cell? ⟨sb, off + i * 15 + 10, none⟩ = some (.int .i64 o.mr.mi) := HC.out wr GR.out.g.ds.bel 10 _ rfl
          have c11 : wr.cell? ⟨sb, off + i * 15 + 11, none⟩ = some (.int .i64 o.mr.go) := HC.out wr GR.out.g.ds.bel 11 _ rfl
          have c12 : wr.cell? ⟨sb, off + i * 15 + 12, none⟩ = some (.int .i64 o.mr.cu) := HC.out wr GR.out.g.ds.bel 12 _ rfl
          have c13 : wr.cell? ⟨sb, off + i * 15 + 13, none⟩ = some (.int .i64 o.mr.ta) := HC.out wr GR.out.g.ds.bel 13 _ rfl
          have c14 : wr.cell? ⟨sb, off + i * 15 + 14, none⟩ = some (.int .i64 o.mr.lo) := HC.out wr GR.out.g.ds.bel 14 _ rfl
          have cd := does17_any GR.out.g.ds.dc (by omega) o (HIN.out.keep GR.out.g.ds.bel) h7
          unfold oC17 at cd
          have CD := Lib.hid cd
          clear cd
          go_wp2_with fail
          refine CD.out.mono ?_
          intro e w4 hq
          obtain ⟨d4, hm4, g4⟩ := GR.out.did hq
          obtain ⟨_, rfl, _⟩ := hq
          have G4 := Lib.hid g4
          have I4 := Lib.hid (IR.out.mv hm4)
          clear hm4 g4 CD GR IR c0 c1 c2 c3 c4 c5 c6 c7 c8 c9 c10 c11 c12 c13 c14
          go_wp2_with fail
          go_roundw
          case rel => exact ⟨i + 1, by go_num, by omega, by omega, _, _, _, _, _, by omega, by omega, G4, I4⟩
          case measure => simp [intOf]; omega
        · go_upto_region 15 with fail
          clear c0
          clear HIN
          go_wp2_with fail
          go_loopw [12] (fun s12 W => ∃ kk : Nat, s12 = .int .i64 (kk : Int) ∧ kk ≤ 6 ∧ ∃ C f m, f.lc ≤ 10 * i + kk ∧ Hid (FL w W C p n d fl rb k f (fun _ => True) lb m) ∧ Hid (FIv d f m.se m.ge m.off)) (fun s12 _ => 6 - (intOf s12).toNat)
          case atStart => exact ⟨0, rfl, Nat.zero_le _, _, _, _, by omega, GR, IR⟩
          case round =>
           as_aux_lemma =>
            clear GR IR hlc C f m
            obtain ⟨kk, rfl, hk6, C, f, m, hlc, GR, IR⟩ := hrel
            have c5 : wr.cell? ⟨sb, off + i * 15 + 5, none⟩ = some (.int .i64 o.n) := HC.out wr GR.out.g.ds.bel 5 _ rfl
            obtain ⟨hi0, hi1, _, _⟩ := HI.out
            have CM := Lib.hid (mod17 o.n 6 (by decide) (by decide) wr)
            go_wp2_with fail
            refine CM.out.mono ?_
            intro e wx hmod
            obtain ⟨j6, hj6, rfl, hwx⟩ := hmod
            subst hwx
            clear CM c5
            by_cases hkj : kk < 1 + j6
            · have hkj2 : (kk : Int) < 1 + (j6 : Int) := by omega
              have CK := GR.out.g.markC
              unfold FwS.mark at CK
              have CM := Lib.hid CK
              clear CK
              go_wp2_with fail
              refine CM.out.mono ?_
              rintro e w2 ⟨rfl, hb2⟩
              have G2 := Lib.hid (GR.out.below hb2)
              clear CM hb2 GR
              clear hi0 hi1 hkj2
              obtain ⟨w3, hw3⟩ : ∃ w3, w3 = w2.alloc (.cells #[.int .i64 f.se, .int .i64 f.ino, .int .i64 f.ge, .int .i64 f.off, .int .i64 f.mi, .int .i64 f.go, .int .i64 f.cu, .int .i64 f.ta, .int .i64 f.lo] 37) := ⟨_, rfl⟩
              obtain ⟨b13, hb13⟩ : ∃ b13, b13 = w2.heap.size := ⟨_, rfl⟩
              have G3 := Lib.hid (G2.out.new (b := b13) (t := 37) (cs := #[.int .i64 f.se, .int .i64 f.ino, .int .i64 f.ge, .int .i64 f.off, .int .i64 f.mi, .int .i64 f.go, .int .i64 f.cu, .int .i64 f.ta, .int .i64 f.lo]) (w' := w3) (by rw [hw3]; exact below_alloc' _ _) (by rw [hw3]; exact Blk.new _ _ _ hb13) (by rw [hb13]; exact Nat.le_refl _))
              obtain ⟨C3, hC3⟩ : ∃ C3, C3 = paint C w2.heap.size 3 := ⟨_, rfl⟩
              rw [← hC3] at G3
              go_upto_region 19 with fail
              rw [← hw3, ← hb13]
              clear hw3 hb13 hC3 G2
              have SL := step_law G3.out.g.ds.dc.ok IR.out k (by have := HK.out; omega)
              have CS := G3.out.stepC IR.out.ok (by have := HK.out; exact ⟨by omega, by omega⟩) IR.out.ul (by have := HK.out; omega) (by omega)
              have hlc2 := stepF_lc d.sti d.ini d.read k f
              obtain ⟨⟨g, r⟩, hy⟩ : ∃ y, y = stepF d.sti d.ini d.read k f := ⟨_, rfl⟩
              rw [← hy] at CS SL hlc2
              simp only at CS SL hlc2
              have HLC : Hid (g.lc ≤ 10 * i + kk + 1) := Lib.hid (by omega)
              obtain ⟨hloss, hsome, hnone⟩ := SL
              have LS := Lib.hid hloss
              obtain ⟨hx0, hx1, hx2, hx3, hx4⟩ : ¬ g.mi < f.mi ∧ ¬ g.go < f.go ∧ ¬ g.cu < f.cu ∧ ¬ g.ta < f.ta ∧ ¬ g.lo < f.lo := ⟨Int.not_lt.2 hloss.mi, Int.not_lt.2 hloss.go, Int.not_lt.2 hloss.cu, Int.not_lt.2 hloss.ta, Int.not_lt.2 hloss.lo⟩
              clear hy hlc2 hloss
              cases r
              case none =>
                have IG := Lib.hid (hnone rfl)
                clear hsome hnone
                unfold lineO zeroL at CS
                simp only [Option.isSome_none] at CS

                have CT := Lib.hid CS
                clear CS
                go_wp2_with fail
                refine CT.out.mono ?_
                rintro e w4 ⟨rfl, hg4⟩
                have G4 := Lib.hid hg4
                obtain ⟨C4, hC4⟩ : ∃ C4, C4 = paint C3 w3.heap.size 2 := ⟨_, rfl⟩
                rw [← hC4] at G4
                clear hg4 CT G3 hC4
                obtain ⟨w5, hw5⟩ : ∃ w5, w5 = w4.alloc (.cells #[.int .i64 0, .int .i64 0, .int .i64 0, .int .i64 0, .int .i64 0, .int .i64 0, .int .i64 0, .int .i64 0, .int .i64 0, .string ⟨#[]⟩] 42) := ⟨_, rfl⟩
                obtain ⟨b14, hb14⟩ : ∃ b14, b14 = w4.heap.size := ⟨_, rfl⟩
                have G5 := Lib.hid (G4.out.new (b := b14) (t := 42) (cs := #[.int .i64 0, .int .i64 0, .int .i64 0, .int .i64 0, .int .i64 0, .int .i64 0, .int .i64 0, .int .i64 0, .int .i64 0, .string ⟨#[]⟩]) (w' := w5) (by rw [hw5]; exact below_alloc' _ _) (by rw [hw5]; exact Blk.new _ _ _ hb14) (by rw [hb14]; exact Nat.le_refl _))
                obtain ⟨C5, hC5⟩ : ∃ C5, C5 = paint C4 w4.heap.size 3 := ⟨_, rfl⟩
                rw [← hC5] at G5
                go_upto_region 20 with fail
                rw [← hw5, ← hb14]
                clear hw5 hb14 hC5 G4
                have CK := G5.out.g.markC
                unfold FwS.mark at CK
                have CM := Lib.hid CK
                clear CK
                go_wp2_with fail
                refine CM.out.mono ?_
                rintro e w6 ⟨rfl, hb6⟩
                have G6 := Lib.hid (G5.out.below hb6)
                clear CM hb6 G5
                obtain ⟨w7, hw7⟩ : ∃ w7, w7 = w6.alloc (.cells #[.int .i64 g.se, .int .i64 g.ino, .int .i64 g.ge, .int .i64 g.off, .int .i64 g.mi, .int .i64 g.go, .int .i64 g.cu, .int .i64 g.ta, .int .i64 g.lo] 37) := ⟨_, rfl⟩
                obtain ⟨b16, hb16⟩ : ∃ b16, b16 = w6.heap.size := ⟨_, rfl⟩
                have G7 := Lib.hid (G6.out.new (b := b16) (t := 37) (cs := #[.int .i64 g.se, .int .i64 g.ino, .int .i64 g.ge, .int .i64 g.off, .int .i64 g.mi, .int .i64 g.go, .int .i64 g.cu, .int .i64 g.ta, .int .i64 g.lo]) (w' := w7) (by rw [hw7]; exact below_alloc' _ _) (by rw [hw7]; exact Blk.new _ _ _ hb16) (by rw [hb16]; exact Nat.le_refl _))
                obtain ⟨C7, hC7⟩ : ∃ C7, C7 = paint C5 w6.heap.size 3 := ⟨_, rfl⟩
                rw [← hC7] at G7
                go_upto_region 21 with fail
                rw [← hw7, ← hb16]
                clear hw7 hb16 hC7 G6
                have x0 : w7.cell? ⟨b13, 0, none⟩ = some (.int .i64 f.se) := (G7.out.g.h.now.2.1.1.2.cell 0).trans rfl
                have x1 : w7.cell? ⟨b13, 1, none⟩ = some (.int .i64 f.ino) := (G7.out.g.h.now.2.1.1.2.cell 1).trans rfl
                have x2 : w7.cell? ⟨b13, 2, none⟩ = some (.int .i64 f.ge) := (G7.out.g.h.now.2.1.1.2.cell 2).trans rfl
                have x3 : w7.cell? ⟨b13, 3, none⟩ = some (.int .i64 f.off) := (G7.out.g.h.now.2.1.1.2.cell 3).trans rfl
                have x4 : w7.cell? ⟨b13, 4, none⟩ = some (.int .i64 f.mi) := (G7.out.g.h.now.2.1.1.2.cell 4).trans rfl
                have x5 : w7.cell? ⟨b13, 5, none⟩ = some (.int .i64 f.go) := (G7.out.g.h.now.2.1.1.2.cell 5).trans rfl
                have x6 : w7.cell? ⟨b13, 6, none⟩ = some (.int .i64 f.cu) := (G7.out.g.h.now.2.1.1.2.cell 6).trans rfl
                have x7 : w7.cell? ⟨b13, 7, none⟩ = some (.int .i64 f.ta) := (G7.out.g.h.now.2.1.1.2.cell 7).trans rfl
                have x8 : w7.cell? ⟨b13, 8, none⟩ = some (.int .i64 f.lo) := (G7.out.g.h.now.2.1.1.2.cell 8).trans rfl
                obtain ⟨w8, hw8⟩ : ∃ w8, w8 = w7.alloc (.cells #[.int .i64 f.mi, .int .i64 f.go, .int .i64 f.cu, .int .i64 f.ta, .int .i64 f.lo] 35) := ⟨_, rfl⟩
                obtain ⟨b17, hb17⟩ : ∃ b17, b17 = w7.heap.size := ⟨_, rfl⟩
                have G8 := Lib.hid (G7.out.new (b := b17) (t := 35) (cs := #[.int .i64 f.mi, .int .i64 f.go, .int .i64 f.cu, .int .i64 f.ta, .int .i64 f.lo]) (w' := w8) (by rw [hw8]; exact below_alloc' _ _) (by rw [hw8]; exact Blk.new _ _ _ hb17) (by rw [hb17]; exact Nat.le_refl _))
                obtain ⟨C8, hC8⟩ : ∃ C8, C8 = paint C7 w7.heap.size 3 := ⟨_, rfl⟩
                rw [← hC8] at G8
                go_upto_region 22 with fail
                rw [← hw8, ← hb17]
                clear hw8 hb17 hC8 G7
                clear x0 x1 x2 x3 x4 x5 x6 x7 x8
                have x0 : w8.cell? ⟨b16, 0, none⟩ = some (.int .i64 g.se) := (G8.out.g.h.now.2.1.2.cell 0).trans rfl
                have x1 : w8.cell? ⟨b16, 1, none⟩ = some (.int .i64 g.ino) := (G8.out.g.h.now.2.1.2.cell 1).trans rfl
                have x2 : w8.cell? ⟨b16, 2, none⟩ = some (.int .i64 g.ge) := (G8.out.g.h.now.2.1.2.cell 2).trans rfl
                have x3 : w8.cell? ⟨b16, 3, none⟩ = some (.int .i64 g.off) := (G8.out.g.h.now.2.1.2.cell 3).trans rfl
                have x4 : w8.cell? ⟨b16, 4, none⟩ = some (.int .i64 g.mi) := (G8.out.g.h.now.2.1.2.cell 4).trans rfl
                have x5 : w8.cell? ⟨b16, 5, none⟩ = some (.int .i64 g.go) := (G8.out.g.h.now.2.1.2.cell 5).trans rfl
                have x6 : w8.cell? ⟨b16, 6, none⟩ = some (.int .i64 g.cu) := (G8.out.g.h.now.2.1.2.cell 6).trans rfl
                have x7 : w8.cell? ⟨b16, 7, none⟩ = some (.int .i64 g.ta) := (G8.out.g.h.now.2.1.2.cell 7).trans rfl
                have x8 : w8.cell? ⟨b16, 8, none⟩ = some (.int .i64 g.lo) := (G8.out.g.h.now.2.1.2.cell 8).trans rfl
                obtain ⟨w9, hw9⟩ : ∃ w9, w9 = w8.alloc (.cells #[.int .i64 g.mi, .int .i64 g.go, .int .i64 g.cu, .int .i64 g.ta, .int .i64 g.lo] 35) := ⟨_, rfl⟩
                obtain ⟨b18, hb18⟩ : ∃ b18, b18 = w8.heap.size := ⟨_, rfl⟩
                have G9 := Lib.hid (G8.out.new (b := b18) (t := 35) (cs := #[.int .i64 g.mi, .int .i64 g.go, .int .i64 g.cu, .int .i64 g.ta, .int .i64 g.lo]) (w' := w9) (by rw [hw9]; exact below_alloc' _ _) (by rw [hw9]; exact Blk.new _ _ _ hb18) (by rw [hb18]; exact Nat.le_refl _))
                obtain ⟨C9, hC9⟩ : ∃ C9, C9 = paint C8 w8.heap.size 3 := ⟨_, rfl⟩
                rw [← hC9] at G9
                go_upto_region 23 with fail
                rw [← hw9, ← hb18]
                clear hw9 hb18 hC9 G8
                clear x0 x1 x2 x3 x4 x5 x6 x7 x8
                have x0 : w9.cell? ⟨b17, 0, none⟩ = some (.int .i64 f.mi) := (G9.out.g.h.now.2.1.2.cell 0).trans rfl
                have x1 : w9.cell? ⟨b17, 1, none⟩ = some (.int .i64 f.go) := (G9.out.g.h.now.2.1.2.cell 1).trans rfl
                have x2 : w9.cell? ⟨b17, 2, none⟩ = some (.int .i64 f.cu) := (G9.out.g.h.now.2.1.2.cell 2).trans rfl
                have x3 : w9.cell? ⟨b17, 3, none⟩ = some (.int .i64 f.ta) := (G9.out.g.h.now.2.1.2.cell 3).trans rfl
                have x4 : w9.cell? ⟨b17, 4, none⟩ = some (.int .i64 f.lo) := (G9.out.g.h.now.2.1.2.cell 4).trans rfl
                have y0 : w9.cell? ⟨b18, 0, none⟩ = some (.int .i64 g.mi) := (G9.out.g.h.now.2.2.cell 0).trans rfl
                have y1 : w9.cell? ⟨b18, 1, none⟩ = some (.int .i64 g.go) := (G9.out.g.h.now.2.2.cell 1).trans rfl
                have y2 : w9.cell? ⟨b18, 2, none⟩ = some (.int .i64 g.cu) := (G9.out.g.h.now.2.2.cell 2).trans rfl
                have y3 : w9.cell? ⟨b18, 3, none⟩ = some (.int .i64 g.ta) := (G9.out.g.h.now.2.2.cell 3).trans rfl
                have y4 : w9.cell? ⟨b18, 4, none⟩ = some (.int .i64 g.lo) := (G9.out.g.h.now.2.2.cell 4).trans rfl
                have CH := Lib.hid G9.out.g.heldC
                obtain ⟨hq, hhq⟩ : ∃ hq, hq = (heldOf k.line g.u).length := ⟨_, rfl⟩
                have hqL : ¬ (L : Int) < (hq : Int) := by have h1 := heldOf_le k.line g.u; rw [HK.out.1] at h1; rw [hhq, HK.out.1]; omega
                rw [← hhq] at CH
                clear hhq
                go_cut [129] (fun s wx => s = .bool false ∧ wx = w9)
                case first =>
                 as_aux_lemma =>
                  go_wp2_with fail
                  refine CH.out.mono ?_
                  rintro e w9' ⟨rfl, rfl⟩
                  clear CH
                  have hqn : ¬ L < hq := by omega
                  go_wp2_with fail
                  go_meet
                  exact ⟨by simp [hx0, hx1, hx2, hx3, hx4], rfl⟩
                case rest =>
                 as_aux_lemma =>
                  obtain ⟨rfl, hcut⟩ := hcut
                  rw [hcut]
                  clear hcut wc CH x0 x1 x2 x3 x4 y0 y1 y2 y3 y4 hx0 hx1 hx2 hx3 hx4 hqL
                  go_upto_region 25 with fail

                  have z0 : w9.cell? ⟨b14, 0, none⟩ = some (.int .i64 0) := (G9.out.g.h.now.2.1.1.1.2.cell 0).trans rfl
                  have z1 : w9.cell? ⟨b14, 1, none⟩ = some (.int .i64 0) := (G9.out.g.h.now.2.1.1.1.2.cell 1).trans rfl
                  have z2 : w9.cell? ⟨b14, 2, none⟩ = some (.int .i64 0) := (G9.out.g.h.now.2.1.1.1.2.cell 2).trans rfl
                  have z3 : w9.cell? ⟨b14, 3, none⟩ = some (.int .i64 0) := (G9.out.g.h.now.2.1.1.1.2.cell 3).trans rfl
                  have z4 : w9.cell? ⟨b14, 4, none⟩ = some (.int .i64 0) := (G9.out.g.h.now.2.1.1.1.2.cell 4).trans rfl
                  have z5 : w9.cell? ⟨b14, 5, none⟩ = some (.int .i64 0) := (G9.out.g.h.now.2.1.1.1.2.cell 5).trans rfl
                  have z6 : w9.cell? ⟨b14, 6, none⟩ = some (.int .i64 0) := (G9.out.g.h.now.2.1.1.1.2.cell 6).trans rfl
                  have z7 : w9.cell? ⟨b14, 7, none⟩ = some (.int .i64 0) := (G9.out.g.h.now.2.1.1.1.2.cell 7).trans rfl
                  have z8 : w9.cell? ⟨b14, 8, none⟩ = some (.int .i64 0) := (G9.out.g.h.now.2.1.1.1.2.cell 8).trans rfl
                  have z9 : w9.cell? ⟨b14, 9, none⟩ = some (.string ⟨#[]⟩) := (G9.out.g.h.now.2.1.1.1.2.cell 9).trans rfl
                  have GE := Lib.hid (G9.out.mono (Q := fun _ => True) (fun _ _ => trivial))
                  clear G9 IR
                  go_wp2_with fail
                  go_roundw
                  case rel => exact ⟨kk + 1, by go_num, by omega, _, _, _, HLC.out, GE, IG⟩
                  case measure => simp [intOf]; omega
              case some tx =>
                obtain ⟨hi, ho⟩ := hsome tx rfl
                have IG := Lib.hid hi
                have LO := Lib.hid ho
                clear hsome hnone hi ho
                unfold lineO lineA at CS
                simp only [Option.isSome_some] at CS
                rw [show strOf tx = strB tx from rfl] at CS
                have CT := Lib.hid CS
                clear CS
                go_wp2_with fail
                refine CT.out.mono ?_
                rintro e w4 ⟨rfl, hg4⟩
                have G4 := Lib.hid hg4
                obtain ⟨C4, hC4⟩ : ∃ C4, C4 = paint C3 w3.heap.size 2 := ⟨_, rfl⟩
                rw [← hC4] at G4
                clear hg4 CT G3 hC4
                obtain ⟨w5, hw5⟩ : ∃ w5, w5 = w4.alloc (.cells #[.int .i64 f.se, .int .i64 f.ino, .int .i64 f.ge, .int .i64 f.off, .int .i64 f.mi, .int .i64 f.go, .int .i64 f.cu, .int .i64 f.ta, .int .i64 f.lo, .string (strB tx)] 42) := ⟨_, rfl⟩
                obtain ⟨b14, hb14⟩ : ∃ b14, b14 = w4.heap.size := ⟨_, rfl⟩
                have G5 := Lib.hid (G4.out.new (b := b14) (t := 42) (cs := #[.int .i64 f.se, .int .i64 f.ino, .int .i64 f.ge, .int .i64 f.off, .int .i64 f.mi, .int .i64 f.go, .int .i64 f.cu, .int .i64 f.ta, .int .i64 f.lo, .string (strB tx)]) (w' := w5) (by rw [hw5]; exact below_alloc' _ _) (by rw [hw5]; exact Blk.new _ _ _ hb14) (by rw [hb14]; exact Nat.le_refl _))
                obtain ⟨C5, hC5⟩ : ∃ C5, C5 = paint C4 w4.heap.size 3 := ⟨_, rfl⟩
                rw [← hC5] at G5
                go_upto_region 20 with fail
                rw [← hw5, ← hb14]
                clear hw5 hb14 hC5 G4
                have CK := G5.out.g.markC
                unfold FwS.mark at CK
                have CM := Lib.hid CK
                clear CK
                go_wp2_with fail
                refine CM.out.mono ?_
                rintro e w6 ⟨rfl, hb6⟩
                have G6 := Lib.hid (G5.out.below hb6)
                clear CM hb6 G5
                obtain ⟨w7, hw7⟩ : ∃ w7, w7 = w6.alloc (.cells #[.int .i64 g.se, .int .i64 g.ino, .int .i64 g.ge, .int .i64 g.off, .int .i64 g.mi, .int .i64 g.go, .int .i64 g.cu, .int .i64 g.ta, .int .i64 g.lo] 37) := ⟨_, rfl⟩
                obtain ⟨b16, hb16⟩ : ∃ b16, b16 = w6.heap.size := ⟨_, rfl⟩
                have G7 := Lib.hid (G6.out.new (b := b16) (t := 37) (cs := #[.int .i64 g.se, .int .i64 g.ino, .int .i64 g.ge, .int .i64 g.off, .int .i64 g.mi, .int .i64 g.go, .int .i64 g.cu, .int .i64 g.ta, .int .i64 g.lo]) (w' := w7) (by rw [hw7]; exact below_alloc' _ _) (by rw [hw7]; exact Blk.new _ _ _ hb16) (by rw [hb16]; exact Nat.le_refl _))
                obtain ⟨C7, hC7⟩ : ∃ C7, C7 = paint C5 w6.heap.size 3 := ⟨_, rfl⟩
                rw [← hC7] at G7
                go_upto_region 21 with fail
                rw [← hw7, ← hb16]
                clear hw7 hb16 hC7 G6
                have x0 : w7.cell? ⟨b13, 0, none⟩ = some (.int .i64 f.se) := (G7.out.g.h.now.2.1.1.2.cell 0).trans rfl
                have x1 : w7.cell? ⟨b13, 1, none⟩ = some (.int .i64 f.ino) := (G7.out.g.h.now.2.1.1.2.cell 1).trans rfl
                have x2 : w7.cell? ⟨b13, 2, none⟩ = some (.int .i64 f.ge) := (G7.out.g.h.now.2.1.1.2.cell 2).trans rfl
                have x3 : w7.cell? ⟨b13, 3, none⟩ = some (.int .i64 f.off) := (G7.out.g.h.now.2.1.1.2.cell 3).trans rfl
                have x4 : w7.cell? ⟨b13, 4, none⟩ = some (.int .i64 f.mi) := (G7.out.g.h.now.2.1.1.2.cell 4).trans rfl
                have x5 : w7.cell? ⟨b13, 5, none⟩ = some (.int .i64 f.go) := (G7.out.g.h.now.2.1.1.2.cell 5).trans rfl
                have x6 : w7.cell? ⟨b13, 6, none⟩ = some (.int .i64 f.cu) := (G7.out.g.h.now.2.1.1.2.cell 6).trans rfl
                have x7 : w7.cell? ⟨b13, 7, none⟩ = some (.int .i64 f.ta) := (G7.out.g.h.now.2.1.1.2.cell 7).trans rfl
                have x8 : w7.cell? ⟨b13, 8, none⟩ = some (.int .i64 f.lo) := (G7.out.g.h.now.2.1.1.2.cell 8).trans rfl
                obtain ⟨w8, hw8⟩ : ∃ w8, w8 = w7.alloc (.cells #[.int .i64 f.mi, .int .i64 f.go, .int .i64 f.cu, .int .i64 f.ta, .int .i64 f.lo] 35) := ⟨_, rfl⟩
                obtain ⟨b17, hb17⟩ : ∃ b17, b17 = w7.heap.size := ⟨_, rfl⟩
                have G8 := Lib.hid (G7.out.new (b := b17) (t := 35) (cs := #[.int .i64 f.mi, .int .i64 f.go, .int .i64 f.cu, .int .i64 f.ta, .int .i64 f.lo]) (w' := w8) (by rw [hw8]; exact below_alloc' _ _) (by rw [hw8]; exact Blk.new _ _ _ hb17) (by rw [hb17]; exact Nat.le_refl _))
                obtain ⟨C8, hC8⟩ : ∃ C8, C8 = paint C7 w7.heap.size 3 := ⟨_, rfl⟩
                rw [← hC8] at G8
                go_upto_region 22 with fail
                rw [← hw8, ← hb17]
                clear hw8 hb17 hC8 G7
                clear x0 x1 x2 x3 x4 x5 x6 x7 x8
                have x0 : w8.cell? ⟨b16, 0, none⟩ = some (.int .i64 g.se) := (G8.out.g.h.now.2.1.2.cell 0).trans rfl
                have x1 : w8.cell? ⟨b16, 1, none⟩ = some (.int .i64 g.ino) := (G8.out.g.h.now.2.1.2.cell 1).trans rfl
                have x2 : w8.cell? ⟨b16, 2, none⟩ = some (.int .i64 g.ge) := (G8.out.g.h.now.2.1.2.cell 2).trans rfl
                have x3 : w8.cell? ⟨b16, 3, none⟩ = some (.int .i64 g.off) := (G8.out.g.h.now.2.1.2.cell 3).trans rfl
                have x4 : w8.cell? ⟨b16, 4, none⟩ = some (.int .i64 g.mi) := (G8.out.g.h.now.2.1.2.cell 4).trans rfl
                have x5 : w8.cell? ⟨b16, 5, none⟩ = some (.int .i64 g.go) := (G8.out.g.h.now.2.1.2.cell 5).trans rfl
                have x6 : w8.cell? ⟨b16, 6, none⟩ = some (.int .i64 g.cu) := (G8.out.g.h.now.2.1.2.cell 6).trans rfl
                have x7 : w8.cell? ⟨b16, 7, none⟩ = some (.int .i64 g.ta) := (G8.out.g.h.now.2.1.2.cell 7).trans rfl
                have x8 : w8.cell? ⟨b16, 8, none⟩ = some (.int .i64 g.lo) := (G8.out.g.h.now.2.1.2.cell 8).trans rfl
                obtain ⟨w9, hw9⟩ : ∃ w9, w9 = w8.alloc (.cells #[.int .i64 g.mi, .int .i64 g.go, .int .i64 g.cu, .int .i64 g.ta, .int .i64 g.lo] 35) := ⟨_, rfl⟩
                obtain ⟨b18, hb18⟩ : ∃ b18, b18 = w8.heap.size := ⟨_, rfl⟩
                have G9 := Lib.hid (G8.out.new (b := b18) (t := 35) (cs := #[.int .i64 g.mi, .int .i64 g.go, .int .i64 g.cu, .int .i64 g.ta, .int .i64 g.lo]) (w' := w9) (by rw [hw9]; exact below_alloc' _ _) (by rw [hw9]; exact Blk.new _ _ _ hb18) (by rw [hb18]; exact Nat.le_refl _))
                obtain ⟨C9, hC9⟩ : ∃ C9, C9 = paint C8 w8.heap.size 3 := ⟨_, rfl⟩
                rw [← hC9] at G9
                go_upto_region 23 with fail
                rw [← hw9, ← hb18]
                clear hw9 hb18 hC9 G8
                clear x0 x1 x2 x3 x4 x5 x6 x7 x8
                have x0 : w9.cell? ⟨b17, 0, none⟩ = some (.int .i64 f.mi) := (G9.out.g.h.now.2.1.2.cell 0).trans rfl
                have x1 : w9.cell? ⟨b17, 1, none⟩ = some (.int .i64 f.go) := (G9.out.g.h.now.2.1.2.cell 1).trans rfl
                have x2 : w9.cell? ⟨b17, 2, none⟩ = some (.int .i64 f.cu) := (G9.out.g.h.now.2.1.2.cell 2).trans rfl
                have x3 : w9.cell? ⟨b17, 3, none⟩ = some (.int .i64 f.ta) := (G9.out.g.h.now.2.1.2.cell 3).trans rfl
                have x4 : w9.cell? ⟨b17, 4, none⟩ = some (.int .i64 f.lo) := (G9.out.g.h.now.2.1.2.cell 4).trans rfl
                have y0 : w9.cell? ⟨b18, 0, none⟩ = some (.int .i64 g.mi) := (G9.out.g.h.now.2.2.cell 0).trans rfl
                have y1 : w9.cell? ⟨b18, 1, none⟩ = some (.int .i64 g.go) := (G9.out.g.h.now.2.2.cell 1).trans rfl
                have y2 : w9.cell? ⟨b18, 2, none⟩ = some (.int .i64 g.cu) := (G9.out.g.h.now.2.2.cell 2).trans rfl
                have y3 : w9.cell? ⟨b18, 3, none⟩ = some (.int .i64 g.ta) := (G9.out.g.h.now.2.2.cell 3).trans rfl
                have y4 : w9.cell? ⟨b18, 4, none⟩ = some (.int .i64 g.lo) := (G9.out.g.h.now.2.2.cell 4).trans rfl
                have CH := Lib.hid G9.out.g.heldC
                obtain ⟨hq, hhq⟩ : ∃ hq, hq = (heldOf k.line g.u).length := ⟨_, rfl⟩
                have hqL : ¬ (L : Int) < (hq : Int) := by have h1 := heldOf_le k.line g.u; rw [HK.out.1] at h1; rw [hhq, HK.out.1]; omega
                rw [← hhq] at CH
                clear hhq
                go_cut [129] (fun s wx => s = .bool false ∧ wx = w9)
                case first =>
                 as_aux_lemma =>
                  go_wp2_with fail
                  refine CH.out.mono ?_
                  rintro e w9' ⟨rfl, rfl⟩
                  clear CH
                  have hqn : ¬ L < hq := by omega
                  go_wp2_with fail
                  go_meet
                  exact ⟨by simp [hx0, hx1, hx2, hx3, hx4], rfl⟩
                case rest =>
                 as_aux_lemma =>
                  obtain ⟨rfl, hcut⟩ := hcut
                  rw [hcut]
                  clear hcut wc CH x0 x1 x2 x3 x4 y0 y1 y2 y3 y4 hx0 hx1 hx2 hx3 hx4 hqL
                  go_upto_region 25 with fail
                  go_upto_region 28 with fail
                  go_cut [170] (fun s wx => s = .bool false ∧ Below w9.heap.size w9 wx)
                  case first =>
                   as_aux_lemma =>
                    clear IG
                    have x0 : w9.cell? ⟨b13, 0, none⟩ = some (.int .i64 f.se) := (G9.out.g.h.now.2.1.1.1.1.2.cell 0).trans rfl
                    have x1 : w9.cell? ⟨b13, 1, none⟩ = some (.int .i64 f.ino) := (G9.out.g.h.now.2.1.1.1.1.2.cell 1).trans rfl
                    have x2 : w9.cell? ⟨b13, 2, none⟩ = some (.int .i64 f.ge) := (G9.out.g.h.now.2.1.1.1.1.2.cell 2).trans rfl
                    have x3 : w9.cell? ⟨b13, 3, none⟩ = some (.int .i64 f.off) := (G9.out.g.h.now.2.1.1.1.1.2.cell 3).trans rfl
                    have x4 : w9.cell? ⟨b13, 4, none⟩ = some (.int .i64 f.mi) := (G9.out.g.h.now.2.1.1.1.1.2.cell 4).trans rfl
                    have x5 : w9.cell? ⟨b13, 5, none⟩ = some (.int .i64 f.go) := (G9.out.g.h.now.2.1.1.1.1.2.cell 5).trans rfl
                    have x6 : w9.cell? ⟨b13, 6, none⟩ = some (.int .i64 f.cu) := (G9.out.g.h.now.2.1.1.1.1.2.cell 6).trans rfl
                    have x7 : w9.cell? ⟨b13, 7, none⟩ = some (.int .i64 f.ta) := (G9.out.g.h.now.2.1.1.1.1.2.cell 7).trans rfl
                    have x8 : w9.cell? ⟨b13, 8, none⟩ = some (.int .i64 f.lo) := (G9.out.g.h.now.2.1.1.1.1.2.cell 8).trans rfl
                    have z0 : w9.cell? ⟨b14, 0, none⟩ = some (.int .i64 f.se) := (G9.out.g.h.now.2.1.1.1.2.cell 0).trans rfl
                    have z1 : w9.cell? ⟨b14, 1, none⟩ = some (.int .i64 f.ino) := (G9.out.g.h.now.2.1.1.1.2.cell 1).trans rfl
                    have z2 : w9.cell? ⟨b14, 2, none⟩ = some (.int .i64 f.ge) := (G9.out.g.h.now.2.1.1.1.2.cell 2).trans rfl
                    have z3 : w9.cell? ⟨b14, 3, none⟩ = some (.int .i64 f.off) := (G9.out.g.h.now.2.1.1.1.2.cell 3).trans rfl
                    have z4 : w9.cell? ⟨b14, 4, none⟩ = some (.int .i64 f.mi) := (G9.out.g.h.now.2.1.1.1.2.cell 4).trans rfl
                    have z5 : w9.cell? ⟨b14, 5, none⟩ = some (.int .i64 f.go) := (G9.out.g.h.now.2.1.1.1.2.cell 5).trans rfl
                    have z6 : w9.cell? ⟨b14, 6, none⟩ = some (.int .i64 f.cu) := (G9.out.g.h.now.2.1.1.1.2.cell 6).trans rfl
                    have z7 : w9.cell? ⟨b14, 7, none⟩ = some (.int .i64 f.ta) := (G9.out.g.h.now.2.1.1.1.2.cell 7).trans rfl
                    have z8 : w9.cell? ⟨b14, 8, none⟩ = some (.int .i64 f.lo) := (G9.out.g.h.now.2.1.1.1.2.cell 8).trans rfl
                    have z9 : w9.cell? ⟨b14, 9, none⟩ = some (.string (strB tx)) := (G9.out.g.h.now.2.1.1.1.2.cell 9).trans rfl
                    have cs := stands17 (asks_dc w.heap.size C9 1 p n d) (fun w' hb => G9.out.g.ds.dc.keep hb (Sam.refl _ _)) f IR.out.ok tx (by have h1 := LO.out.len; have := HK.out; omega) LO.out.read LO.out.nn LO.out.prev
                    unfold lineA at cs
                    have CS := Lib.hid cs
                    clear cs
                    go_wp2_with fail
                    refine CS.out.mono ?_
                    rintro e w10 ⟨rfl, hb10⟩
                    have B10 := Lib.hid hb10
                    have G10 := Lib.hid (G9.out.below hb10)
                    clear CS hb10 G9 x0 x1 x2 x3 x4 x5 x6 x7 x8 z0 z1 z2 z3 z4 z5 z6 z7 z8 z9
                    have z0 : w10.cell? ⟨b14, 0, none⟩ = some (.int .i64 f.se) := (G10.out.g.h.now.2.1.1.1.2.cell 0).trans rfl
                    have z1 : w10.cell? ⟨b14, 1, none⟩ = some (.int .i64 f.ino) := (G10.out.g.h.now.2.1.1.1.2.cell 1).trans rfl
                    have z2 : w10.cell? ⟨b14, 2, none⟩ = some (.int .i64 f.ge) := (G10.out.g.h.now.2.1.1.1.2.cell 2).trans rfl
                    have z3 : w10.cell? ⟨b14, 3, none⟩ = some (.int .i64 f.off) := (G10.out.g.h.now.2.1.1.1.2.cell 3).trans rfl
                    have z4 : w10.cell? ⟨b14, 4, none⟩ = some (.int .i64 f.mi) := (G10.out.g.h.now.2.1.1.1.2.cell 4).trans rfl
                    have z5 : w10.cell? ⟨b14, 5, none⟩ = some (.int .i64 f.go) := (G10.out.g.h.now.2.1.1.1.2.cell 5).trans rfl
                    have z6 : w10.cell? ⟨b14, 6, none⟩ = some (.int .i64 f.cu) := (G10.out.g.h.now.2.1.1.1.2.cell 6).trans rfl
                    have z7 : w10.cell? ⟨b14, 7, none⟩ = some (.int .i64 f.ta) := (G10.out.g.h.now.2.1.1.1.2.cell 7).trans rfl
                    have z8 : w10.cell? ⟨b14, 8, none⟩ = some (.int .i64 f.lo) := (G10.out.g.h.now.2.1.1.1.2.cell 8).trans rfl
                    have z9 : w10.cell? ⟨b14, 9, none⟩ = some (.string (strB tx)) := (G10.out.g.h.now.2.1.1.1.2.cell 9).trans rfl
                    have y0 : w10.cell? ⟨lb, 0, none⟩ = some (.int .i64 m.se) := (G10.out.hlb.cell 0).trans rfl
                    have y1 : w10.cell? ⟨lb, 1, none⟩ = some (.int .i64 m.ino) := (G10.out.hlb.cell 1).trans rfl
                    have y2 : w10.cell? ⟨lb, 2, none⟩ = some (.int .i64 m.ge) := (G10.out.hlb.cell 2).trans rfl
                    have y3 : w10.cell? ⟨lb, 3, none⟩ = some (.int .i64 m.off) := (G10.out.hlb.cell 3).trans rfl
                    have y4 : w10.cell? ⟨lb, 4, none⟩ = some (.int .i64 m.mi) := (G10.out.hlb.cell 4).trans rfl
                    have y5 : w10.cell? ⟨lb, 5, none⟩ = some (.int .i64 m.go) := (G10.out.hlb.cell 5).trans rfl
                    have y6 : w10.cell? ⟨lb, 6, none⟩ = some (.int .i64 m.cu) := (G10.out.hlb.cell 6).trans rfl
                    have y7 : w10.cell? ⟨lb, 7, none⟩ = some (.int .i64 m.ta) := (G10.out.hlb.cell 7).trans rfl
                    have y8 : w10.cell? ⟨lb, 8, none⟩ = some (.int .i64 m.lo) := (G10.out.hlb.cell 8).trans rfl
                    have ca := ahead17 w10 m f LO.out.lt
                    unfold FwS.mark at ca
                    have CA := Lib.hid ca
                    clear ca
                    obtain ⟨q, hq⟩ : ∃ q, q = (strB tx).size := ⟨_, rfl⟩
                    have HQ : Hid (q = tx.length) := Lib.hid hq
                    have hqL : ¬ (L : Int) < (q : Int) := by have h1 := LO.out.len; rw [HK.out.1] at h1; rw [HQ.out]; omega
                    have hsz : (strB tx).size = q := hq.symm
                    have hqN : q ≤ 40 := by have := HK.out; omega
                    clear hq
                    go_wp2_with fail
                    refine CA.out.mono ?_
                    rintro e w11 ⟨rfl, hb11⟩
                    have B11 := Lib.hid (B10.out.trans (hb11.mono B10.out.size))
                    have G11 := Lib.hid (G10.out.below hb11)
                    have hqn : ¬ L < q := by omega
                    clear CA hb11 G10 hqL z0 z1 z2 z3 z4 z5 z6 z7 z8 z9 y0 y1 y2 y3 y4 y5 y6 y7 y8
                    have hgo : g.off = f.off + (q : Int) + 1 := by rw [HQ.out]; exact LO.out.off
                    have hof := IR.out.ok.off
                    have hw1 := IntWalk.i64_in (f.off + (q : Int)) (by have := hof.1; have := hof.2; omega)
                    have hw2 := IntWalk.i64_in (f.off + (q : Int) + 1) (by have := hof.1; have := hof.2; omega)
                    have x3 : w11.cell? ⟨b16, 3, none⟩ = some (.int .i64 (f.off + (q : Int) + 1)) := ((G11.out.g.h.now.2.1.1.2.cell 3).trans rfl).trans (by rw [← hgo]; rfl)
                    have y3 : w11.cell? ⟨b13, 3, none⟩ = some (.int .i64 f.off) := (G11.out.g.h.now.2.1.1.1.1.2.cell 3).trans rfl
                    have z9 : w11.cell? ⟨b14, 9, none⟩ = some (.string (strB tx)) := (G11.out.g.h.now.2.1.1.1.2.cell 9).trans rfl
                    clear hgo hof G11
                    go_wp2_with fail
                    go_meet
                    exact ⟨rfl, B11.out⟩
                  case rest =>
                   as_aux_lemma =>
                    obtain ⟨rfl, hcut⟩ := hcut
                    have G11 := Lib.hid (G9.out.below hcut)
                    obtain ⟨w11, hw11⟩ : ∃ w11, w11 = wc := ⟨_, rfl⟩
                    rw [← hw11] at G11 ⊢
                    clear hcut hw11 wc G9
                    go_upto_region 30 with fail
                    have z0 : w11.cell? ⟨b14, 0, none⟩ = some (.int .i64 f.se) := (G11.out.g.h.now.2.1.1.1.2.cell 0).trans rfl
                    have z1 : w11.cell? ⟨b14, 1, none⟩ = some (.int .i64 f.ino) := (G11.out.g.h.now.2.1.1.1.2.cell 1).trans rfl
                    have z2 : w11.cell? ⟨b14, 2, none⟩ = some (.int .i64 f.ge) := (G11.out.g.h.now.2.1.1.1.2.cell 2).trans rfl
                    have z3 : w11.cell? ⟨b14, 3, none⟩ = some (.int .i64 f.off) := (G11.out.g.h.now.2.1.1.1.2.cell 3).trans rfl
                    have z4 : w11.cell? ⟨b14, 4, none⟩ = some (.int .i64 f.mi) := (G11.out.g.h.now.2.1.1.1.2.cell 4).trans rfl
                    have z5 : w11.cell? ⟨b14, 5, none⟩ = some (.int .i64 f.go) := (G11.out.g.h.now.2.1.1.1.2.cell 5).trans rfl
                    have z6 : w11.cell? ⟨b14, 6, none⟩ = some (.int .i64 f.cu) := (G11.out.g.h.now.2.1.1.1.2.cell 6).trans rfl
                    have z7 : w11.cell? ⟨b14, 7, none⟩ = some (.int .i64 f.ta) := (G11.out.g.h.now.2.1.1.1.2.cell 7).trans rfl
                    have z8 : w11.cell? ⟨b14, 8, none⟩ = some (.int .i64 f.lo) := (G11.out.g.h.now.2.1.1.1.2.cell 8).trans rfl
                    obtain ⟨w12, hw12⟩ : ∃ w12, w12 = w11.setCells lb 0 (#[.int .i64 f.se, .int .i64 f.ino, .int .i64 f.ge, .int .i64 f.off, .int .i64 f.mi, .int .i64 f.go, .int .i64 f.cu, .int .i64 f.ta, .int .i64 f.lo] : Array Value).toList := ⟨_, rfl⟩
                    have G12 : Hid (FL w w12 C9 p n d fl rb k g (fun _ => True) lb f) := Lib.hid (by
                      rw [hw12]
                      exact (G11.out.mono (Q := fun _ => True) (fun _ _ => trivial)).put (G11.out.hlb.setAll f.mark rfl) (Chg.setCells _ 0 (Chg.refl _ _) rfl))
                    have TH : Hid (w11.there lb 0 (#[.int .i64 f.se, .int .i64 f.ino, .int .i64 f.ge, .int .i64 f.off, .int .i64 f.mi, .int .i64 f.go, .int .i64 f.cu, .int .i64 f.ta, .int .i64 f.lo] : Array Value).size) := Lib.hid (there_blk G11.out.hlb 9 (Nat.le_refl _))
                    have DI : Hid ((Try.prog.info? 37).map (·.size) = some (#[.int .i64 f.se, .int .i64 f.ino, .int .i64 f.ge, .int .i64 f.off, .int .i64 f.mi, .int .i64 f.go, .int .i64 f.cu, .int .i64 f.ta, .int .i64 f.lo] : Array Value).size) := Lib.hid (by kernel_rfl)
                    have ONE : Hid ((#[.int .i64 f.se, .int .i64 f.ino, .int .i64 f.ge, .int .i64 f.off, .int .i64 f.mi, .int .i64 f.go, .int .i64 f.cu, .int .i64 f.ta, .int .i64 f.lo] : Array Value).all (·.oneCell') = true) := Lib.hid (by simp [Value.oneCell'])
                    clear G11 IR
                    go_wp2_with (with_reducible refine wpList_store_mid rfl 37 (.tmp 10) (.tmp 172) rfl lb 0 #[.int .i64 f.se, .int .i64 f.ino, .int .i64 f.ge, .int .i64 f.off, .int .i64 f.mi, .int .i64 f.go, .int .i64 f.cu, .int .i64 f.ta, .int .i64 f.lo] rfl (by simp [Act.eval]) TH.out DI.out ONE.out ?_; refine halt ?_)
                    refine unhalt ?_
                    rw [← hw12]
                    clear hw12 TH DI ONE z0 z1 z2 z3 z4 z5 z6 z7 z8
                    go_wp2_with fail
                    go_roundw
                    case rel => exact ⟨kk + 1, by go_num, by omega, _, _, _, HLC.out, G12, IG⟩
                    case measure => simp [intOf]; omega
            · have hnk : ¬ (kk : Int) < 1 + (j6 : Int) := by omega
              clear hi0 hi1
              go_wp2_with fail
              go_roundw
              case rel => exact ⟨i + 1, by go_num, by omega, by omega, _, _, _, _, _, by omega, by omega, GR, IR⟩
              case measure => simp [intOf]; omega
end Go.Proofs.Ytlojmmcagglpoaa
