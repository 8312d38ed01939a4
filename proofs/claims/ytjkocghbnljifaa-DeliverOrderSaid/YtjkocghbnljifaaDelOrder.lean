/- THE WALK of the law DeliverOrder. -/
import Derived.Test.YtjkocghbnljifaaDelR25
import Derived.Deep.CutBlock
import Derived.Deep.RegionLaw
namespace Go.Proofs.Ytjkocghbnljifaa
open Go.RowKit
set_option maxRecDepth 100000 in
set_option maxHeartbeats 8000000 in
theorem order_any (s0 s1 s2 s3 : Int) (A : Option Addr) (n cp : Nat) (l : List Od) (w : World) (h : ODS w A n l) (hc : n ≤ cp) :
    Calls Try.prog 4 #[.agg #[.int .i64 s0, .int .i64 s1, .int .i64 s2, .int .i64 s3], .slice A n cp] w (WNo w) := by
  have H := Lib.hid h
  clear h
  obtain ⟨w1, hw1⟩ : ∃ w1, w1 = w.alloc (.cells #[.int .i64 s0, .int .i64 s1, .int .i64 s2, .int .i64 s3] 23) := ⟨_, rfl⟩
  obtain ⟨s, hs⟩ : ∃ s, s = w.heap.size := ⟨_, rfl⟩
  have B1 : Hid (Below w.heap.size w w1) := Lib.hid (by rw [hw1]; exact below_alloc _ _)
  have S1 : Hid (Blk w1 s 23 #[.int .i64 s0, .int .i64 s1, .int .i64 s2, .int .i64 s3]) := Lib.hid (by rw [hw1, hs]; exact Blk.new w _ _ rfl)
  have HS := Lib.hid hs
  have CF := Lib.hid (fixed_any w1)
  go_enter Try.func4, Try.ntmps4
  go_upto_region 1 with fail
  rw [← hw1, ← hs]
  clear hw1 hs
  go_wp2_with fail
  refine CF.out.mono ?_
  rintro e w2 ⟨rfl, hb2⟩
  have B2 : Hid (Below w.heap.size w w2) := Lib.hid (B1.out.trans (hb2.mono B1.out.size))
  have S2 := Lib.hid (S1.out.keep hb2)
  clear hb2 B1 S1 CF
  have c0 : w2.cell? ⟨s, 0, none⟩ = some (.int .i64 s0) := S2.out.cell 0
  have c1 : w2.cell? ⟨s, 1, none⟩ = some (.int .i64 s1) := S2.out.cell 1
  have c2 : w2.cell? ⟨s, 2, none⟩ = some (.int .i64 s2) := S2.out.cell 2
  have c3 : w2.cell? ⟨s, 3, none⟩ = some (.int .i64 s3) := S2.out.cell 3
  have f0 : w2.frozen? ⟨s, 0, none⟩ = false := S2.out.frozen 0
  have f1 : w2.frozen? ⟨s, 1, none⟩ = false := S2.out.frozen 1
  have f2 : w2.frozen? ⟨s, 2, none⟩ = false := S2.out.frozen 2
  have f3 : w2.frozen? ⟨s, 3, none⟩ = false := S2.out.frozen 3
  obtain ⟨N, ba, mo, ji, HN⟩ : ∃ N ba mo ji : Nat, Hid ((1 + (modN s0 64 : Int) = (N : Int) ∧ 1 ≤ N ∧ N ≤ 64) ∧ (modN s1 1099511627777 = ba ∧ ba ≤ 1099511627776) ∧ (modN s2 1099511627777 = mo ∧ mo ≤ 1099511627776) ∧ (modN s3 1099511627777 = ji ∧ ji ≤ 1099511627776)) :=
    ⟨1 + modN s0 64, _, _, _, Lib.hid (by
      have h0 := modN_lt s0 (n := 64) (by omega)
      have h1 := modN_lt s1 (n := 1099511627777) (by omega)
      have h2 := modN_lt s2 (n := 1099511627777) (by omega)
      have h3 := modN_lt s3 (n := 1099511627777) (by omega)
      exact ⟨⟨by omega, by omega, by omega⟩, ⟨rfl, by omega⟩, ⟨rfl, by omega⟩, ⟨rfl, by omega⟩⟩)⟩
  go_wp2_with fail
  refine (mod_any s0 64 _ (by decide) (by decide)).mono ?_
  rintro e w3 ⟨rfl, rfl⟩
  have e0 : 1 + (modN s0 64 : Int) = (N : Int) := HN.out.1.1
  have e1 : 1 + N ≤ 65 := by have := HN.out; omega
  go_wp2_with fail
  refine (mod_any s1 1099511627777 _ (by decide) (by decide)).mono ?_
  rintro e w4 ⟨rfl, rfl⟩
  rw [HN.out.2.1.1]
  go_wp2_with fail
  refine (mod_any s2 1099511627777 _ (by decide) (by decide)).mono ?_
  rintro e w4 ⟨rfl, rfl⟩
  rw [HN.out.2.2.1.1]
  go_wp2_with fail
  refine (mod_any s3 1099511627777 _ (by decide) (by decide)).mono ?_
  rintro e w4 ⟨rfl, rfl⟩
  rw [HN.out.2.2.2.1]
  go_upto_region 7 with fail
  obtain ⟨w3, hw3⟩ : ∃ w3, w3 = (((w2.setCell ⟨s, 0, none⟩ (.int .i64 (N : Int))).setCell ⟨s, 1, none⟩ (.int .i64 (ba : Int))).setCell ⟨s, 2, none⟩ (.int .i64 (mo : Int))).setCell ⟨s, 3, none⟩ (.int .i64 (ji : Int)) := ⟨_, rfl⟩
  rw [← hw3]
  have S3 : Hid (Blk w3 s 23 #[.int .i64 (N : Int), .int .i64 (ba : Int), .int .i64 (mo : Int), .int .i64 (ji : Int)]) := Lib.hid (by
    have := (((S2.out.set_ 0 (.int .i64 (N : Int))).set_ 1 (.int .i64 (ba : Int))).set_ 2 (.int .i64 (mo : Int))).set_ 3 (.int .i64 (ji : Int))
    rw [hw3]
    simpa using this)
  have hcs : Chg (fun k => k = s) w2 w3 := by
    rw [hw3]
    exact Chg.setCell (S := fun k => k = s) (p := ⟨s, 3, none⟩) (Chg.setCell (S := fun k => k = s) (p := ⟨s, 2, none⟩) (Chg.setCell (S := fun k => k = s) (p := ⟨s, 1, none⟩) (Chg.setCell (S := fun k => k = s) (p := ⟨s, 0, none⟩) (Chg.refl _ w2) (.inl rfl) _) (.inl rfl) _) (.inl rfl) _) (.inl rfl) _
  have B3 : Hid (Below w.heap.size w w3) := Lib.hid (B2.out.trans (hcs.below (fun k hk e => by have := HS.out; omega) B2.out.size))
  have C7 := Lib.hid (dnew_ok N ba mo ji w3 HN.out.1.2.1 HN.out.1.2.2 HN.out.2.1.2 HN.out.2.2.1.2 HN.out.2.2.2.2)
  clear hw3 hcs B2 S2 c0 c1 c2 c3 f0 f1 f2 f3 e0 e1
  have c0 : w3.cell? ⟨s, 0, none⟩ = some (.int .i64 (N : Int)) := S3.out.cell 0
  have c1 : w3.cell? ⟨s, 1, none⟩ = some (.int .i64 (ba : Int)) := S3.out.cell 1
  have c2 : w3.cell? ⟨s, 2, none⟩ = some (.int .i64 (mo : Int)) := S3.out.cell 2
  have c3 : w3.cell? ⟨s, 3, none⟩ = some (.int .i64 (ji : Int)) := S3.out.cell 3
  go_wp2_with fail
  refine C7.out.mono ?_
  rintro e w4 ⟨d, g, p, xs, rfl, hd, hg, hp, hdv, hb4⟩
  have S4 := Lib.hid (S3.out.keep hb4)
  have D4 := Lib.hid hdv
  have HSD : Hid ((s ≠ d ∧ s ≠ g ∧ s ≠ p) ∧ (w.heap.size ≤ s ∧ w.heap.size ≤ d ∧ w.heap.size ≤ g ∧ w.heap.size ≤ p)) := Lib.hid (by have h1 := S3.out.lt; have h2 := B3.out.size; have h3 := HS.out; omega)
  have B4 : Hid (Below w.heap.size w w4) := Lib.hid (B3.out.trans (hb4.mono B3.out.size))
  clear hd hg hp hdv hb4 S3 B3 C7 c0 c1 c2 c3
  have c0 : w4.cell? ⟨s, 0, none⟩ = some (.int .i64 (N : Int)) := S4.out.cell 0
  have c1 : w4.cell? ⟨s, 1, none⟩ = some (.int .i64 (ba : Int)) := S4.out.cell 1
  have c2 : w4.cell? ⟨s, 2, none⟩ = some (.int .i64 (mo : Int)) := S4.out.cell 2
  have c3 : w4.cell? ⟨s, 3, none⟩ = some (.int .i64 (ji : Int)) := S4.out.cell 3
  go_upto_region 11 with fail
  obtain ⟨w5, hw5⟩ : ∃ w5, w5 = w4.alloc (.cells #[.int .i64 (N : Int), .int .i64 (ba : Int), .int .i64 (mo : Int), .int .i64 (ji : Int), .slice none 0 0, .int .i64 0, .bool false, .int .i64 0, .int .i64 0] 60) := ⟨_, rfl⟩
  obtain ⟨v, hv⟩ : ∃ v, v = w4.heap.size := ⟨_, rfl⟩
  rw [← hw5, ← hv]
  have hbw : Below w4.heap.size w4 w5 := by rw [hw5]; exact below_alloc _ _
  have HO : Hid (OM w w5 s d v N ba mo ji 0 0) := Lib.hid (by
    have hV : Blk w5 v 60 #[.int .i64 (N : Int), .int .i64 (ba : Int), .int .i64 (mo : Int), .int .i64 (ji : Int), .slice none 0 0, .int .i64 0, .bool false, .int .i64 0, .int .i64 0] := by rw [hw5, hv]; exact Blk.new w4 _ _ rfl
    have h1 := D4.out.blk.lt; have h2 := D4.out.ring.blk.lt; have h3 := D4.out.ring.arr.lt; have h4 := S4.out.lt; have h5 := HSD.out; have h6 := B4.out.size
    refine ⟨g, p, none, 0, 0, [], 0, 0, ⟨0, xs, [], false, 0, 0, 0, 0, ⟨D4.out.keep hbw, hV, AW.nil _ _, rfl, Nat.le_refl _, fun k hk => ?_, ⟨by omega, by omega, by omega⟩, (fun e => by cases e), rfl⟩, Nat.le_refl _, Nat.le_refl _⟩, S4.out.keep hbw, ⟨h5.1.1, h5.1.2.1, h5.1.2.2, by omega, fun k hk => ?_⟩, ⟨h5.2.1, h5.2.2.1, h5.2.2.2.1, h5.2.2.2.2, by omega⟩, B4.out.trans (hbw.mono B4.out.size), Nat.le_refl _, Nat.le_refl _, Nat.zero_le _, Nat.zero_le _⟩
    · obtain ⟨ad, e, _⟩ := hk; cases e
    · obtain ⟨ad, e, _⟩ := hk; cases e)
  clear hw5 hv hbw S4 D4 HSD B4 c0 c1 c2 c3 p g xs
  go_wp2_with fail
  go_loopw [8, 9] (fun nv iv W => ∃ now i : Nat, nv = .int .i64 (now : Int) ∧ iv = .int .i64 (i : Int) ∧ i ≤ n ∧ i ≤ 300 ∧ OM w W s d v N ba mo ji now i) (fun _ iv _ => 300 - (intOf iv).toNat)
  case atStart => exact ⟨0, 0, rfl, rfl, Nat.zero_le _, Nat.zero_le _, HO.out⟩
  case round =>
    obtain ⟨now, i, rfl, rfl, hin, hi3, hom⟩ := hrel
    have HM := Lib.hid hom
    clear hom HO
    go_upto_region 13 with fail
    go_cut [65] (fun s wx => ∃ b : Bool, s = .bool b ∧ (b = true ↔ i < n ∧ i < 300) ∧ wx = wr)
    case first =>
      by_cases hlt : i < n
      · by_cases h300 : i < 300
        · go_wp2_with fail
          go_meet
          exact ⟨true, by rw [decide_eq_true (by omega)], by simp [hlt, h300], rfl⟩
        · go_wp2_with fail
          go_meet
          exact ⟨false, by rw [decide_eq_false (by omega)], by simp [h300], rfl⟩
      · go_wp2_with fail
        go_meet
        exact ⟨false, rfl, by simp [hlt], rfl⟩
    case rest =>
      obtain ⟨b, rfl, hb0, hcut⟩ := hcut
      rw [hcut]
      clear hcut wc
      cases b
      case false =>
        clear hb0
        as_aux_lemma =>
          have hnow : now ≤ 322122547200 := by obtain ⟨_, _, _, _, _, _, _, _, _, _, _, _, _, _, _, _, hh⟩ := HM.out; omega
          obtain ⟨g, p, A0, m, c, pl, R, M, ⟨f, xs, q, se, re, wt, tk, tr, h1, hre, hwt⟩, h2, h3, h4, h5, h6, h7, h8, h9⟩ := HM.out
          have HD1 := Lib.hid h1
          have HK := Lib.hid (And.intro h4 h5)
          have HBB : Hid (re ≤ 300 ∧ wt ≤ now + mo + ji ∧ mo ≤ 1099511627776 ∧ ji ≤ 1099511627776) := Lib.hid (by have := HN.out; omega)
          have v6 : wr.cell? ⟨v, 6, none⟩ = some (.bool se) := h1.wv.cell 6
          have hse := h1.hse
          clear h1 h2 h3 h4 h5 h6 h7 h8 h9 hre hwt HM
          go_upto_region 31 with fail
          go_cut [186] (fun s wx => s = .bool false ∧ ∃ f xs q re wt tk tr, Hid (DS w.heap.size wx d g p N f xs q ba mo ji false re wt v A0 m c pl tk tr) ∧ Hid (re ≤ 300 ∧ wt ≤ now + mo + ji) ∧ Hid (Below w.heap.size w wx))
          case first =>
            cases se
            case false =>
              go_wp2_with fail
              go_meet
              exact ⟨rfl, f, xs, q, re, wt, tk, tr, HD1, Lib.hid ⟨HBB.out.1, HBB.out.2.1⟩, Lib.hid HK.out.2⟩
            case true =>
              obtain ⟨x, q', rfl⟩ := List.exists_cons_of_ne_nil (hse rfl)
              have CA := Lib.hid (wans_yes w.heap.size d g p N f ba mo ji re wt v m c tk xs q' pl x A0 tr ⟨0, th0, 0, true, 0⟩ rfl now wr HD1.out)
              simp only [Od.cells, th0] at CA
              go_wp2_with fail
              refine CA.out.mono ?_
              rintro e w8 ⟨rfl, f', xs', hd8, hc8⟩
              have HD8 := Lib.hid hd8; have HC8 := Lib.hid hc8
              clear hd8 hc8 CA
              go_wp2_with fail
              go_meet
              exact ⟨rfl, f', xs', q', 0, 0, tk + 1, 0, HD8, Lib.hid ⟨by omega, by omega⟩, Lib.hid (HK.out.2.trans (HC8.out.below (fun k hk e => by have := HK.out.1; rcases e with e | e | e | e <;> omega) HK.out.2.size))⟩
          case rest =>
            clear v6 HD1 hse
            obtain ⟨rfl, f0, xs0, q0, re0, wt0, tk0, tr0, D0, BB, B0⟩ := hcut
            obtain ⟨w7, hw7⟩ : ∃ w7, w7 = wc := ⟨_, rfl⟩
            subst hw7
            have v8 : w7.cell? ⟨v, 8, none⟩ = some (.int .i64 (wt0 : Int)) := D0.out.wv.cell 8
            obtain ⟨T, hT⟩ : ∃ T : Nat, max (now : Int) (wt0 : Int) = (T : Int) := ⟨max now wt0, by omega⟩
            have HT : Hid (wt0 ≤ T ∧ T ≤ 2305843009213693952) := Lib.hid (by have := HBB.out; have := BB.out; omega)
            have HR0 : Hid (re0 ≤ 300) := Lib.hid BB.out.1
            clear BB HBB
            go_wp2_with fail
            clear hT v8
            go_loopg [] (m - tk0) (fun gh W => ∃ f xs q re wt tk tr, gh = m - tk ∧ Hid (DS w.heap.size W d g p N f xs q ba mo ji false re wt v A0 m c pl tk tr) ∧ Hid (re ≤ 300 ∧ wt ≤ T) ∧ Hid (Below w.heap.size w W))
            case atStart => exact ⟨f0, xs0, q0, re0, wt0, tk0, tr0, rfl, D0, Lib.hid ⟨HR0.out, HT.out.1⟩, B0⟩
            case round =>
              obtain ⟨f, xs, q, re, wt, tk, tr, rfl, D, BB, B⟩ := hrel
              have htk := D.out.htk
              have v4 : wr.cell? ⟨v, 4, none⟩ = some (.slice A0 m c) := D.out.wv.cell 4
              have v5 : wr.cell? ⟨v, 5, none⟩ = some (.int .i64 (tk : Int)) := D.out.wv.cell 5
              go_upto_region 34 with fail
              go_cut [202] (fun s wx => ∃ b : Bool, s = .bool b ∧ (b = true ↔ tk < m) ∧ ∃ md, wx = wr.drewN md)
              case first =>
                by_cases hlt : tk < m
                · go_quiet (fail)
                  go_wp2_with fail
                  go_meet
                  exact ⟨true, rfl, by simp [hlt], _, rfl⟩
                · go_quiet (fail)
                  go_wp2_with fail
                  go_meet
                  exact ⟨false, rfl, by simp [hlt], _, rfl⟩
              case rest =>
                obtain ⟨b, rfl, hb0, md, hw⟩ := hcut
                have D1 : Hid (DS w.heap.size wc d g p N f xs q ba mo ji false re wt v A0 m c pl tk tr) := Lib.hid (by rw [hw]; exact D.out.keep (below_drewN (Below.refl _ _) _))
                have B1 : Hid (Below w.heap.size w wc) := Lib.hid (by rw [hw]; exact below_drewN B.out _)
                clear hw D B v4 v5 wr
                obtain ⟨w7, hw7⟩ : ∃ w7, w7 = wc := ⟨_, rfl⟩
                subst hw7
                have hlq := D1.out.len
                cases b
                case true =>
                  have hlt := hb0.1 rfl
                  clear hb0
                  obtain ⟨x, q', rfl⟩ := List.exists_cons_of_ne_nil (l := q) (fun e => by rw [e] at hlq; simp at hlq; omega)
                  have CS := Lib.hid (wsend_ok w.heap.size d g p N f ba mo ji re wt v m c tk xs q' pl x A0 tr T w7 D1.out BB.out.2 HT.out.2 (by have := BB.out; omega))
                  clear hlq
                  go_wp2_with fail
                  refine CS.out.mono ?_
                  rintro e w8 ⟨rfl, hd8, hc8⟩
                  have v6 : w8.cell? ⟨v, 6, none⟩ = some (.bool true) := hd8.wv.cell 6
                  have CA := Lib.hid (wans_yes w.heap.size d g p N f ba mo ji re wt v m c tk xs q' pl x A0 _ ⟨0, th0, 0, true, 0⟩ rfl T w8 hd8)
                  simp only [Od.cells, th0] at CA
                  have B2 : Hid (Below w.heap.size w w8) := Lib.hid (B1.out.trans (hc8.below (fun k hk e => by have := HK.out.1; rcases e with e | e | e | e <;> omega) B1.out.size))
                  clear hd8 hc8 CS D1 B1
                  go_wp2_with fail
                  refine CA.out.mono ?_
                  rintro e w9 ⟨rfl, f', xs', hd9, hc9⟩
                  have D3 := Lib.hid hd9
                  have B3 : Hid (Below w.heap.size w w9) := Lib.hid (B2.out.trans (hc9.below (fun k hk e => by have := HK.out.1; rcases e with e | e | e | e <;> omega) B2.out.size))
                  clear hd9 hc9 CA B2 v6
                  go_wp2_with fail
                  go_roundg (m - (tk + 1))
                  case measure => omega
                  case rel => exact ⟨f', xs', q', 0, 0, tk + 1, 0, rfl, D3, Lib.hid ⟨by omega, by omega⟩, B3⟩
                case false =>
                  have hnl : ¬ tk < m := fun e => by have := hb0.2 e; cases this
                  clear hb0
                  obtain rfl : q = [] := List.eq_nil_of_length_eq_zero (by omega)
                  have CS : Hid (Calls Try.prog 18 #[.pointer (some ⟨d, 0, none⟩), .int .i64 (T : Int)] w7 fun e w' => e = .returned (.tuple #[.agg #[.int .i64 0, .int .i64 0, .int .i64 0, .int .i64 0, .int .i64 0, .int .i64 0, .int .i64 0, .int .i64 0, .int .i64 0, .int .i64 0, .string ByteArray.empty, .int .u32 0], .int .i64 0, .bool false]) ∧ Below w7.heap.size w7 w') := Lib.hid ((send_nil d g p N f ba mo ji xs false re wt T w7 D1.out.dv).mono fun _ _ h => h)
                  clear hlq
                  go_wp2_with fail
                  refine CS.out.mono ?_
                  rintro e w8 ⟨rfl, hb8⟩
                  have D2 := Lib.hid (D1.out.keep hb8)
                  have B2 := Lib.hid (B1.out.trans (hb8.mono B1.out.size))
                  clear hb8 CS D1 B1
                  go_upto_region 38 with fail
                  obtain ⟨w9, hw9⟩ : ∃ w9, w9 = w8.alloc (.cells #[.int .i64 0, .int .i64 0, .int .i64 0, .int .i64 0, .int .i64 0, .int .i64 0, .int .i64 0, .int .i64 0, .int .i64 0, .int .i64 0, .string ByteArray.empty, .int .u32 0] 44) := ⟨_, rfl⟩
                  rw [← hw9]
                  have hb9 : Below w8.heap.size w8 w9 := by rw [hw9]; exact below_alloc _ _
                  have CQ := Lib.hid (queue_any d g p N f ba mo ji xs [] false re wt w9 (D2.out.keep hb9).dv)
                  have B3 := Lib.hid (B2.out.trans (hb9.mono B2.out.size))
                  clear hb9 hw9 D2 B2
                  go_wp2_with fail
                  refine CQ.out.mono ?_
                  rintro e wq ⟨a, rfl, ha, hba, hbq⟩
                  have B4 := Lib.hid (B3.out.trans (hbq.mono B3.out.size))
                  clear hba hbq CQ ha B3
                  go_wp2_with fail
                  go_ret
                  exact ⟨rfl, B4.out⟩
      case true =>
        obtain ⟨hlt, h300⟩ := hb0.1 rfl
        clear hb0
        obtain ⟨x, hx⟩ : ∃ x, l[i]? = some x := ⟨_, List.getElem?_eq_getElem (by rw [H.out.1]; exact hlt)⟩
        have hww := Lib.hid (let ⟨_, _, _, _, _, _, _, _, _, _, _, _, h5, _⟩ := HM.out; h5 : Below w.heap.size w wr)
        obtain ⟨bb, off, rfl, hbb, hcl⟩ := (H.out.keep hww.out).2 i x hx
        obtain ⟨ok_, ⟨ap, am0, am1, am2, am3, am4, am5, am6, am7, am8, at_, ar⟩, on, oy, oj⟩ := x
        have c0 : wr.cell? ⟨bb, off + i * 16, none⟩ = some (.int .i64 ok_) := hcl 0 _ rfl
        have c1 : wr.cell? ⟨bb, off + i * 16 + 1, none⟩ = some (.int .i64 ap) := hcl 1 _ rfl
        have c2 : wr.cell? ⟨bb, off + i * 16 + 2, none⟩ = some (.int .i64 am0) := hcl 2 _ rfl
        have c3 : wr.cell? ⟨bb, off + i * 16 + 3, none⟩ = some (.int .i64 am1) := hcl 3 _ rfl
        have c4 : wr.cell? ⟨bb, off + i * 16 + 4, none⟩ = some (.int .i64 am2) := hcl 4 _ rfl
        have c5 : wr.cell? ⟨bb, off + i * 16 + 5, none⟩ = some (.int .i64 am3) := hcl 5 _ rfl
        have c6 : wr.cell? ⟨bb, off + i * 16 + 6, none⟩ = some (.int .i64 am4) := hcl 6 _ rfl
        have c7 : wr.cell? ⟨bb, off + i * 16 + 7, none⟩ = some (.int .i64 am5) := hcl 7 _ rfl
        have c8 : wr.cell? ⟨bb, off + i * 16 + 8, none⟩ = some (.int .i64 am6) := hcl 8 _ rfl
        have c9 : wr.cell? ⟨bb, off + i * 16 + 9, none⟩ = some (.int .i64 am7) := hcl 9 _ rfl
        have c10 : wr.cell? ⟨bb, off + i * 16 + 10, none⟩ = some (.int .i64 am8) := hcl 10 _ rfl
        have c11 : wr.cell? ⟨bb, off + i * 16 + 11, none⟩ = some (.string at_) := hcl 11 _ rfl
        have c12 : wr.cell? ⟨bb, off + i * 16 + 12, none⟩ = some (.int .u32 ar) := hcl 12 _ rfl
        have c13 : wr.cell? ⟨bb, off + i * 16 + 13, none⟩ = some (.int .i64 on) := hcl 13 _ rfl
        have c14 : wr.cell? ⟨bb, off + i * 16 + 14, none⟩ = some (.bool oy) := hcl 14 _ rfl
        have c15 : wr.cell? ⟨bb, off + i * 16 + 15, none⟩ = some (.int .i64 oj) := hcl 15 _ rfl
        clear hcl hx
        go_upto_region 16 with fail
        obtain ⟨w6, hw6⟩ : ∃ w6, w6 = wr.alloc (.cells #[.int .i64 ok_, .int .i64 ap, .int .i64 am0, .int .i64 am1, .int .i64 am2, .int .i64 am3, .int .i64 am4, .int .i64 am5, .int .i64 am6, .int .i64 am7, .int .i64 am8, .string at_, .int .u32 ar, .int .i64 on, .bool oy, .int .i64 oj] 46) := ⟨_, rfl⟩
        obtain ⟨z, hz⟩ : ∃ z, z = wr.heap.size := ⟨_, rfl⟩
        rw [← hw6, ← hz]
        have Z6 : Hid (Blk w6 z 46 #[.int .i64 ok_, .int .i64 ap, .int .i64 am0, .int .i64 am1, .int .i64 am2, .int .i64 am3, .int .i64 am4, .int .i64 am5, .int .i64 am6, .int .i64 am7, .int .i64 am8, .string at_, .int .u32 ar, .int .i64 on, .bool oy, .int .i64 oj]) := Lib.hid (by rw [hw6, hz]; exact Blk.new wr _ _ rfl)
        have hb6 : Below wr.heap.size wr w6 := by rw [hw6]; exact below_alloc _ _
        have M6 : Hid (OM w w6 s d v N ba mo ji now i) := Lib.hid (HM.out.keep hb6)
        have HZ : Hid (wr.heap.size ≤ z ∧ Below w.heap.size w wr) := Lib.hid ⟨by omega, hww.out⟩
        clear hw6 hz hb6 c0 c1 c2 c3 c4 c5 c6 c7 c8 c9 c10 c11 c12 c13 c14 c15 HM hww hbb
        have y0 : w6.cell? ⟨z, 0, none⟩ = some (.int .i64 ok_) := Z6.out.cell 0
        have y13 : w6.cell? ⟨z, 13, none⟩ = some (.int .i64 on) := Z6.out.cell 13
        have hin2 : now ≤ i * 1073741824 := by obtain ⟨_, _, _, _, _, _, _, _, _, _, _, _, _, _, _, _, hh⟩ := M6.out; exact hh
        obtain ⟨dn, hdn⟩ : ∃ dn, dn = modN on 1073741824 := ⟨_, rfl⟩
        have hdl : dn < 1073741824 := by rw [hdn]; exact modN_lt on (by decide)
        obtain ⟨kk, hkk⟩ : ∃ kk, kk = modN ok_ 4 := ⟨_, rfl⟩
        have hkl : kk < 4 := by rw [hkk]; exact modN_lt ok_ (by decide)
        have hnb : now + dn ≤ 9223372036854775807 := by omega
        go_wp2_with fail
        refine (mod_any on 1073741824 _ (by decide) (by decide)).mono ?_
        rintro e w7 ⟨rfl, rfl⟩
        rw [← hdn]
        clear hdn
        go_wp2_with fail
        refine (mod_any ok_ 4 _ (by decide) (by decide)).mono ?_
        rintro e w7 ⟨rfl, rfl⟩
        rw [← hkk]
        clear hkk
        go_upto_block 2 with fail
        have HNB := Lib.hid (And.intro hnb (And.intro hin2 hdl))
        clear hin2
        go_cut [11] (fun okv wx => okv = .bool true ∧ OM w wx s d v N ba mo ji (now + dn) (i + 1))
        case first =>
          by_cases hk0 : kk = 0
          ·
            as_aux_lemma =>
              subst hk0
              obtain ⟨g, p, A0, m, c, pl, R, M, ⟨f, xs, q, se, re, wt, tk, tr, h1, hre, hwt⟩, h2, h3, h4, h5, h6, h7, h8, h9⟩ := M6.out
              have HD := Lib.hid h1
              have HS6 := Lib.hid h2
              have HK : Hid ((s ≠ d ∧ s ≠ g ∧ s ≠ p ∧ s ≠ v ∧ ∀ k, inB A0 k → k ≠ s) ∧ (w.heap.size ≤ s ∧ w.heap.size ≤ d ∧ w.heap.size ≤ g ∧ w.heap.size ≤ p ∧ w.heap.size ≤ v) ∧ Below w.heap.size w w6) := Lib.hid ⟨h3, h4, h5⟩
              have HBD : Hid (m + 1 ≤ i + 1 ∧ re ≤ i + 1 ∧ wt ≤ now + dn + mo + ji ∧ now + dn ≤ (i + 1) * 1073741824) := Lib.hid (by have := HNB.out; omega)
              have HLQ : Hid (q.length = m - tk ∧ q.length ≤ N) := Lib.hid ⟨h1.len, h1.dv.ring.hq⟩
              have htm : tk ≤ m := h1.htk
              have hm3 : m ≤ 300 := by omega
              have v4 : w6.cell? ⟨v, 4, none⟩ = some (.slice A0 m c) := h1.wv.cell 4
              have v5 : w6.cell? ⟨v, 5, none⟩ = some (.int .i64 (tk : Int)) := h1.wv.cell 5
              have s0 : w6.cell? ⟨s, 0, none⟩ = some (.int .i64 (N : Int)) := h2.cell 0
              have HAZ := Lib.hid (h1.away Z6.out)
              obtain ⟨bv, hbv⟩ : ∃ bv, bv = decide (m - tk = N) := ⟨_, rfl⟩
              have tb : ((m : Int) - (tk : Int) == (N : Int)) = bv := by
                rw [hbv]
                by_cases e : m - tk = N
                · rw [decide_eq_true e, beq_iff_eq]; omega
                · rw [decide_eq_false e, beq_eq_false_iff_ne]; omega
              have HBV := Lib.hid hbv
              clear h1 h2 h3 h4 h5 h6 h7 h8 h9 hre hwt hbv
              go_upto_region 21 with fail
              go_cut [12] (fun s wx => s = .bool bv ∧ ∃ md, wx = w6.drewN md)
              case first =>
                go_quiet (fail)
                go_wp2_with fail
                go_meet
                exact ⟨rfl, _, rfl⟩
              case rest =>
                obtain ⟨rfl, md, hw⟩ := hcut
                have hbw : Below w6.heap.size w6 wc := by rw [hw]; exact below_drewN (Below.refl _ _) _
                have H7 := Lib.hid (HD.out.keep hbw)
                have S7 := Lib.hid (HS6.out.keep hbw)
                have M7 := Lib.hid (M6.out.keep hbw)
                have Z7 := Lib.hid (Z6.out.keep hbw)
                have B7 : Hid (Below w.heap.size w wc) := Lib.hid (HK.out.2.2.trans (hbw.mono HK.out.2.2.size))
                clear hbw hw v4 v5 s0 HD HS6 Z6 tb
                obtain ⟨w7, hw7⟩ : ∃ w7, w7 = wc := ⟨_, rfl⟩
                subst hw7
                have y1 : w7.cell? ⟨z, 1, none⟩ = some (.int .i64 ap) := Z7.out.cell 1
                have y2 : w7.cell? ⟨z, 2, none⟩ = some (.int .i64 am0) := Z7.out.cell 2
                have y3 : w7.cell? ⟨z, 3, none⟩ = some (.int .i64 am1) := Z7.out.cell 3
                have y4 : w7.cell? ⟨z, 4, none⟩ = some (.int .i64 am2) := Z7.out.cell 4
                have y5 : w7.cell? ⟨z, 5, none⟩ = some (.int .i64 am3) := Z7.out.cell 5
                have y6 : w7.cell? ⟨z, 6, none⟩ = some (.int .i64 am4) := Z7.out.cell 6
                have y7 : w7.cell? ⟨z, 7, none⟩ = some (.int .i64 am5) := Z7.out.cell 7
                have y8 : w7.cell? ⟨z, 8, none⟩ = some (.int .i64 am6) := Z7.out.cell 8
                have y9 : w7.cell? ⟨z, 9, none⟩ = some (.int .i64 am7) := Z7.out.cell 9
                have y10 : w7.cell? ⟨z, 10, none⟩ = some (.int .i64 am8) := Z7.out.cell 10
                have y11 : w7.cell? ⟨z, 11, none⟩ = some (.string at_) := Z7.out.cell 11
                have y12 : w7.cell? ⟨z, 12, none⟩ = some (.int .u32 ar) := Z7.out.cell 12
                cases bv
                case true =>
                  have hfull : q.length = N := by have := of_decide_eq_true HBV.out.symm; have := HLQ.out.1; omega
                  have CP := Lib.hid (dpush_full d g p N f ba mo ji xs q se re wt ⟨ap, am0, am1, am2, am3, am4, am5, am6, am7, am8, at_, ar⟩ w7 H7.out.dv hfull)
                  simp only [Th.cells] at CP
                  clear hfull
                  go_wp2_with fail
                  refine CP.out.mono ?_
                  rintro e w8 ⟨rfl, hb8⟩
                  have HB8 := Lib.hid hb8
                  clear hb8 CP y1 y2 y3 y4 y5 y6 y7 y8 y9 y10 y11 y12
                  go_wp2_with fail
                  go_meet
                  exact ⟨rfl, M7.out.later HB8.out (by omega) (by omega) HBD.out.2.2.2⟩
                case false =>
                  have hlt : q.length < N := by have := of_decide_eq_false HBV.out.symm; have := HLQ.out; omega
                  have CP := Lib.hid (dpush_ok d g p N f ba mo ji xs q se re wt ⟨ap, am0, am1, am2, am3, am4, am5, am6, am7, am8, at_, ar⟩ w7 H7.out.dv hlt)
                  simp only [Th.cells] at CP
                  clear hlt
                  go_wp2_with fail
                  refine CP.out.mono ?_
                  rintro e w8 ⟨rfl, xs', hd8, hc8⟩
                  have hz := HAZ.out
                  have HD8 := Lib.hid hd8; have HC8 := Lib.hid hc8
                  have Z8 : Hid (Blk w8 z 46 _) := Lib.hid (Z7.out.chg hc8 (fun e => by rcases e with e | e; exact hz.1 e; exact hz.2.1 e))
                  have W8 := Lib.hid (H7.out.wv.chg hc8 (fun e => by rcases e with e | e; exact H7.out.av.2.1 e; exact H7.out.av.2.2 e))
                  have A8 := Lib.hid (H7.out.al.chg hc8 (fun k hk e => by rcases e with e | e; exact (H7.out.ap k hk).2.1 e; exact (H7.out.ap k hk).2.2.1 e))
                  clear hd8 hc8 CP y1 y2 y3 y4 y5 y6 y7 y8 y9 y10 y11 y12 hz
                  have y1 : w8.cell? ⟨z, 1, none⟩ = some (.int .i64 ap) := Z8.out.cell 1
                  have y2 : w8.cell? ⟨z, 2, none⟩ = some (.int .i64 am0) := Z8.out.cell 2
                  have y3 : w8.cell? ⟨z, 3, none⟩ = some (.int .i64 am1) := Z8.out.cell 3
                  have y4 : w8.cell? ⟨z, 4, none⟩ = some (.int .i64 am2) := Z8.out.cell 4
                  have y5 : w8.cell? ⟨z, 5, none⟩ = some (.int .i64 am3) := Z8.out.cell 5
                  have y6 : w8.cell? ⟨z, 6, none⟩ = some (.int .i64 am4) := Z8.out.cell 6
                  have y7 : w8.cell? ⟨z, 7, none⟩ = some (.int .i64 am5) := Z8.out.cell 7
                  have y8 : w8.cell? ⟨z, 8, none⟩ = some (.int .i64 am6) := Z8.out.cell 8
                  have y9 : w8.cell? ⟨z, 9, none⟩ = some (.int .i64 am7) := Z8.out.cell 9
                  have y10 : w8.cell? ⟨z, 10, none⟩ = some (.int .i64 am8) := Z8.out.cell 10
                  have y11 : w8.cell? ⟨z, 11, none⟩ = some (.string at_) := Z8.out.cell 11
                  have y12 : w8.cell? ⟨z, 12, none⟩ = some (.int .u32 ar) := Z8.out.cell 12
                  have v4 : w8.cell? ⟨v, 4, none⟩ = some (.slice A0 m c) := W8.out.cell 4
                  have hmx : m ≤ 100000 := by omega
                  have v4a : (w8.alloc (.cells #[.int .i64 ap, .int .i64 am0, .int .i64 am1, .int .i64 am2, .int .i64 am3, .int .i64 am4, .int .i64 am5, .int .i64 am6, .int .i64 am7, .int .i64 am8, .string at_, .int .u32 ar] 44)).cell? ⟨v, 4, none⟩ = some (.slice A0 m c) := (W8.out.keep (below_alloc _ _)).cell 4
                  have HW : Hid (∀ W1, Below (w8.alloc (.cells #[.int .i64 ap, .int .i64 am0, .int .i64 am1, .int .i64 am2, .int .i64 am3, .int .i64 am4, .int .i64 am5, .int .i64 am6, .int .i64 am7, .int .i64 am8, .string at_, .int .u32 ar] 44)).heap.size (w8.alloc (.cells #[.int .i64 ap, .int .i64 am0, .int .i64 am1, .int .i64 am2, .int .i64 am3, .int .i64 am4, .int .i64 am5, .int .i64 am6, .int .i64 am7, .int .i64 am8, .string at_, .int .u32 ar] 44)) W1 → AW W1 w.heap.size A0 m c pl ∧ w.heap.size ≤ W1.heap.size ∧ Blk W1 w8.heap.size 44 (Th.cells ⟨ap, am0, am1, am2, am3, am4, am5, am6, am7, am8, at_, ar⟩)) := Lib.hid (fun W1 hb => by
                    have hb1 : Below w8.heap.size w8 W1 := (below_alloc _ _).trans (hb.mono (by simp))
                    exact ⟨A8.out.keep hb1, Nat.le_trans B7.out.size (Nat.le_trans HC8.out.size hb1.size), Blk.keep (Blk.new w8 _ _ rfl) hb⟩)
                  have FIN : Hid (∀ W1, Below (w8.alloc (.cells #[.int .i64 ap, .int .i64 am0, .int .i64 am1, .int .i64 am2, .int .i64 am3, .int .i64 am4, .int .i64 am5, .int .i64 am6, .int .i64 am7, .int .i64 am8, .string at_, .int .u32 ar] 44)).heap.size (w8.alloc (.cells #[.int .i64 ap, .int .i64 am0, .int .i64 am1, .int .i64 am2, .int .i64 am3, .int .i64 am4, .int .i64 am5, .int .i64 am6, .int .i64 am7, .int .i64 am8, .string at_, .int .u32 ar] 44)) W1 → ∀ A' c' w', AW w' w.heap.size A' (m + 1) c' (pl ++ [⟨ap, am0, am1, am2, am3, am4, am5, am6, am7, am8, at_, ar⟩]) → Chg (inB A0) W1 w' → (∀ k, inB A' k → inB A0 k ∨ W1.heap.size ≤ k) →
                      w'.cell? ⟨v, 4, none⟩ = some (.slice A0 m c) ∧ w'.frozen? ⟨v, 4, none⟩ = false ∧ OM w (w'.setCell ⟨v, 4, none⟩ (.slice A' (m + 1) c')) s d v N ba mo ji (now + dn) (i + 1)) := Lib.hid (fun W1 hb A' c' w' k1 k2 k3 => by
                    have hbx : Below w8.heap.size w8 W1 := (below_alloc _ _).trans (hb.mono (by simp))
                    have hv := (W8.out.keep hbx).chg k2 (fun e => (H7.out.ap v e).2.2.2 rfl)
                    exact ⟨hv.cell 4, hv.frozen 4, OM.push ⟨ap, am0, am1, am2, am3, am4, am5, am6, am7, am8, at_, ar⟩ S7.out HK.out.1 HK.out.2.1 B7.out H7.out HD8.out HC8.out hbx k1 k2 k3 HBD.out.1 HBD.out.2.1 HBD.out.2.2.1 HBD.out.2.2.2⟩)
                  clear A8 W8 Z8 HD8 HC8
                  go_upto_region 25 with fail
                  refine push_region (fun W => OM w W s d v N ba mo ji (now + dn) (i + 1)) w8 v4 v4a hmx y1 y2 y3 y4 y5 y6 y7 y8 y9 y10 y11 y12 HW FIN (Lib.hid ?_)
                  intro x118 x119 x120 x121 x122 x123 x124 x125 x126 x127 x128 W hF
                  have F3 := Lib.hid hF
                  clear hF FIN HW v4 v4a y1 y2 y3 y4 y5 y6 y7 y8 y9 y10 y11 y12
                  go_wp2_with fail
                  go_meet
                  exact ⟨rfl, F3.out⟩
          · by_cases hk1 : kk = 1
            · obtain ⟨g, p, A0, m, c, pl, R, M, h1, h2, h3, h4, h5, h6, h7, h8, h9⟩ := M6.out
              have CS := Lib.hid (wsend_any w.heap.size d g p v N ba mo ji m c R M A0 pl (now + dn) w6 h1 (by have := HNB.out; omega) (by omega))
              have HK := Lib.hid (And.intro h2 (And.intro h3 (And.intro h4 (And.intro h5 (And.intro h6 (And.intro h7 (And.intro h8 h9)))))))
              clear h1 h2 h3 h4 h5 h6 h7 h8 h9
              rw [Int.natCast_add] at CS
              subst hk1
              go_wp2_with fail
              refine CS.out.mono ?_
              rintro e w8 ⟨rfl, hd8, hc8⟩
              have HD8 := Lib.hid hd8; have HC8 := Lib.hid hc8
              clear hd8 hc8 CS
              go_wp2_with fail
              go_meet
              obtain ⟨h2, h3, h4, h5, h6, h7, h8, h9⟩ := HK.out
              exact ⟨rfl, OM.turn h2 h3 h4 h5 HD8.out HC8.out (by omega) (by omega) (by omega) (by have := HNB.out; omega)⟩
            ·
              as_aux_lemma =>
                have t0 : ((kk : Int) == 0) = false := by rw [beq_eq_false_iff_ne]; omega
                have t1 : ((kk : Int) == 1) = false := by rw [beq_eq_false_iff_ne]; omega
                obtain ⟨g, p, A0, m, c, pl, R, M, h1, h2, h3, h4, h5, h6, h7, h8, h9⟩ := M6.out
                have CS := Lib.hid (wans_any w.heap.size d g p v N ba mo ji m c R M A0 pl ⟨ok_, ⟨ap, am0, am1, am2, am3, am4, am5, am6, am7, am8, at_, ar⟩, on, oy, oj⟩ (now + dn) w6 h1 (by have := HNB.out; omega) (by omega) (by have := HN.out; omega) (by have := HN.out; omega) (by have := HN.out; omega))
                have HK := Lib.hid (And.intro h2 (And.intro h3 (And.intro h4 (And.intro h5 (And.intro h6 (And.intro h7 (And.intro h8 h9)))))))
                clear h1 h2 h3 h4 h5 h6 h7 h8 h9
                simp only [Od.cells] at CS
                rw [Int.natCast_add] at CS
                have y1 : w6.cell? ⟨z, 1, none⟩ = some (.int .i64 ap) := Z6.out.cell 1
                have y2 : w6.cell? ⟨z, 2, none⟩ = some (.int .i64 am0) := Z6.out.cell 2
                have y3 : w6.cell? ⟨z, 3, none⟩ = some (.int .i64 am1) := Z6.out.cell 3
                have y4 : w6.cell? ⟨z, 4, none⟩ = some (.int .i64 am2) := Z6.out.cell 4
                have y5 : w6.cell? ⟨z, 5, none⟩ = some (.int .i64 am3) := Z6.out.cell 5
                have y6 : w6.cell? ⟨z, 6, none⟩ = some (.int .i64 am4) := Z6.out.cell 6
                have y7 : w6.cell? ⟨z, 7, none⟩ = some (.int .i64 am5) := Z6.out.cell 7
                have y8 : w6.cell? ⟨z, 8, none⟩ = some (.int .i64 am6) := Z6.out.cell 8
                have y9 : w6.cell? ⟨z, 9, none⟩ = some (.int .i64 am7) := Z6.out.cell 9
                have y10 : w6.cell? ⟨z, 10, none⟩ = some (.int .i64 am8) := Z6.out.cell 10
                have y11 : w6.cell? ⟨z, 11, none⟩ = some (.string at_) := Z6.out.cell 11
                have y12 : w6.cell? ⟨z, 12, none⟩ = some (.int .u32 ar) := Z6.out.cell 12
                have y14 : w6.cell? ⟨z, 14, none⟩ = some (.bool oy) := Z6.out.cell 14
                have y15 : w6.cell? ⟨z, 15, none⟩ = some (.int .i64 oj) := Z6.out.cell 15
                go_wp2_with fail
                refine CS.out.mono ?_
                rintro e w8 ⟨rfl, hd8, hc8⟩
                have HD8 := Lib.hid hd8; have HC8 := Lib.hid hc8
                clear hd8 hc8 CS y1 y2 y3 y4 y5 y6 y7 y8 y9 y10 y11 y12 y14 y15
                go_wp2_with fail
                go_meet
                obtain ⟨h2, h3, h4, h5, h6, h7, h8, h9⟩ := HK.out
                exact ⟨rfl, OM.turn h2 h3 h4 h5 HD8.out HC8.out (by omega) (by omega) (by omega) (by have := HNB.out; omega)⟩
        case rest =>
          as_aux_lemma =>
            obtain ⟨rfl, hom⟩ := hcut
            obtain ⟨w7, hw7⟩ : ∃ w7, w7 = wc := ⟨_, rfl⟩
            subst hw7
            have HO7 := Lib.hid hom
            obtain ⟨g, p, A0, m, c, pl, R, M, ⟨f, xs, q, se, re, wt, tk, tr, h1, hre, hwt⟩, h2, h3, h4, h5, h6, h7, h8, h9⟩ := hom
            have HD := Lib.hid h1
            have HS7 := Lib.hid h2
            have HLQ : Hid (q.length = m - tk ∧ tk ≤ m ∧ m ≤ c ∧ c ≤ maxLen ∧ m ≤ 300) := Lib.hid ⟨h1.len, h1.htk, h1.al.2.1, h1.al.2.2.1, by omega⟩
            have v4 : w7.cell? ⟨v, 4, none⟩ = some (.slice A0 m c) := h1.wv.cell 4
            have v5 : w7.cell? ⟨v, 5, none⟩ = some (.int .i64 (tk : Int)) := h1.wv.cell 5
            have hnm := HNB.out
            have hnow : now + dn ≤ 9223372036854775807 := by omega
            clear h1 h2 h3 h4 h5 h6 h7 h8 h9 hre hwt hnm
            go_upto_region 28 with fail
            go_cut [14] (fun s wx => ∃ A' c', s = .slice A' (m - tk) c' ∧ m - tk ≤ c' ∧ Hid (AS w7 A' (m - tk) q) ∧ ∃ md, wx = w7.drewN md)
            case first =>
              have hAS := HD.out.al.as
              rcases HD.out.al.2.2.2 with ⟨rfl, rfl⟩ | ⟨gb, off, cur, rfl, hgb, hB, hs, hc⟩
              · have := HLQ.out
                obtain rfl : m = 0 := by omega
                obtain rfl : tk = 0 := by omega
                have HA := Lib.hid (hAS.drop (k := 0) none (fun g off e _ => by cases e))
                clear hAS
                go_quiet (fail)
                go_wp2_with fail
                go_meet
                exact ⟨_, _, rfl, by omega, Lib.hid (by have := HA.out; rw [← HD.out.hq] at this; exact this), _, rfl⟩
              · have hmc := HLQ.out
                simp only [maxLen] at hmc
                have htm : tk ≤ m := hmc.2.1
                have hmc2 : m ≤ c := hmc.2.2.1
                clear hB hs hc hgb
                by_cases htc : c = tk
                · have HA := Lib.hid (hAS.drop (k := tk) (some ⟨gb, off, none⟩) (fun g off e h => by omega))
                  clear hAS
                  go_quiet (fail)
                  go_wp2_with fail
                  go_meet
                  exact ⟨_, _, rfl, by omega, Lib.hid (by have := HA.out; rw [← HD.out.hq] at this; exact this), _, rfl⟩
                · have HA := Lib.hid (hAS.drop (k := tk) (some ⟨gb, off + tk * 12, none⟩) (fun g off' e h => by injection e with e; injection e with e1 e2; subst e1; subst e2; rfl))
                  clear hAS
                  go_quiet (fail)
                  go_wp2_with fail
                  go_meet
                  exact ⟨_, _, rfl, by omega, Lib.hid (by have := HA.out; rw [← HD.out.hq] at this; exact this), _, rfl⟩
            case rest =>
              obtain ⟨A', c', rfl, hc', HA, md, hw⟩ := hcut
              have hbw : Below w7.heap.size w7 wc := by rw [hw]; exact below_drewN (Below.refl _ _) _
              have H8 := Lib.hid (HD.out.keep hbw)
              have S8 := Lib.hid (HS7.out.keep hbw)
              have A8 := Lib.hid (HA.out.keep hbw)
              have M8 := Lib.hid (HO7.out.keep hbw)
              clear hbw hw v4 v5 HD HS7 HA HO7
              obtain ⟨w8, hw8⟩ : ∃ w8, w8 = wc := ⟨_, rfl⟩
              subst hw8
              have kq : ∀ t : Nat, Below w8.heap.size w8 (w8.drewN t) := fun t => below_drewN (Below.refl _ _) _
              obtain ⟨L, hL⟩ : ∃ L, L = m - tk := ⟨_, rfl⟩
              rw [← hL] at A8 hc' HLQ ⊢
              have HLM : Hid (L ≤ 300) := Lib.hid (by have := HLQ.out; omega)
              have HL := Lib.hid hL
              clear hL
              have CQ : Hid (∀ t : Nat, Calls Try.prog 12 #[.pointer (some ⟨d, 0, none⟩)] (w8.drewN t) fun e w' => ∃ a, e = .returned (.slice (some ⟨a, 0, none⟩) L L) ∧ AS w' (some ⟨a, 0, none⟩) L q ∧ Below w8.heap.size w8 w') := Lib.hid (fun t => (queue_any d g p N f ba mo ji xs q se re wt (w8.drewN t) (H8.out.keep (kq t)).dv).mono (by
                rintro e w' ⟨a, rfl, ha, hb, hc⟩
                have h1 := HLQ.out.1
                have h2 := AS.of_blk hb
                rw [h1] at h2 ⊢
                exact ⟨a, rfl, h2, (kq t).trans (hc.mono (kq t).size)⟩))
              obtain ⟨bv, hbv⟩ : ∃ bv, bv = decide (L = N) := ⟨_, rfl⟩
              have tb : ((L : Int) == (N : Int)) = bv := by
                rw [hbv]
                by_cases e : L = N
                · subst e; simp
                · rw [decide_eq_false e, beq_eq_false_iff_ne]; omega
              have CF : Hid (∀ w', Below w8.heap.size w8 w' → Calls Try.prog 10 #[.pointer (some ⟨g, 0, none⟩)] w' fun e w'' => e = .returned (.bool bv) ∧ ∃ m, w'' = w'.drewN m) := Lib.hid (fun w' hb => by
                have := fullT_any g p N f xs q w' (H8.out.keep hb).dv.ring
                rw [HLQ.out.1, ← hbv] at this
                exact this)
              have CW : Hid (∀ w', Below w8.heap.size w8 w' → Calls Try.prog 9 #[.pointer (some ⟨d, 0, none⟩)] w' fun e w'' => e = .returned (.int .i64 wt) ∧ w' = w'') := Lib.hid (fun w' hb => wait_any d g p N f ba mo ji xs q se re wt w' (H8.out.keep hb).dv)
              have KP : Hid (∀ w', Below w8.heap.size w8 w' → w'.cell? ⟨d, 0, none⟩ = some (.pointer (some ⟨g, 0, none⟩)) ∧ w'.cell? ⟨v, 8, none⟩ = some (.int .i64 (wt : Int)) ∧ w'.cell? ⟨s, 0, none⟩ = some (.int .i64 (N : Int))) := Lib.hid (fun w' hb => ⟨(H8.out.keep hb).dv.blk.cell 0, (H8.out.keep hb).wv.cell 8, (S8.out.keep hb).cell 0⟩)
              obtain ⟨d0, d1, d2⟩ := KP.out w8 (Below.refl _ _)
              have hLm : L ≤ 1048576 := by have := HLM.out; omega
              have B0 : Hid (Below w8.heap.size w8 w8) := Lib.hid (Below.refl _ _)
              clear hbv
              go_upto_region 29 with fail
              go_region_held3 (fun w' => w'.cell? ⟨d, 0, none⟩ = some (.pointer (some ⟨g, 0, none⟩)) ∧ w'.cell? ⟨v, 8, none⟩ = some (.int .i64 (wt : Int)) ∧ w'.cell? ⟨s, 0, none⟩ = some (.int .i64 (N : Int))) (first | go_keep | exact ⟨d0, d1, d2⟩)
                (first
                  | (go_at_call 12; refine (CQ.out 1).mono ?_; rintro e wa ⟨aq, rfl, haq, hbq⟩; obtain ⟨d0, d1, d2⟩ := KP.out _ hbq; have BQ : Hid (∀ t : Nat, Below w8.heap.size w8 (wa.drewN t)) := Lib.hid (fun t => below_drewN hbq t); have SQ : Hid (∀ t : Nat, Calls Try.prog 11 #[.slice (some ⟨aq, 0, none⟩) L L, .slice A' L c'] (wa.drewN t) (SameP (wa.drewN t))) := Lib.hid (fun t => same_al _ _ L _ _ q _ (haq.keep (below_drewN (Below.refl _ _) t)) (A8.out.keep (BQ.out t)) hLm (Nat.le_refl _) hc'); clear hbq haq)
                  | (go_at_call 11; refine (SQ.out 0).mono ?_; rintro e wb ⟨rfl, ms, hwb⟩; have BS : Hid (∀ t : Nat, Below w8.heap.size w8 (wb.drewN t)) := Lib.hid (fun t => by rw [hwb]; exact below_drewN (below_drewN (BQ.out 0) _) _); obtain ⟨d0, d1, d2⟩ := KP.out wb (BS.out 0); clear hwb)
                  | (go_at_call 10; refine (CF.out _ (BS.out 0)).mono ?_; rintro e wf ⟨rfl, mf, hwf⟩; have BF : Hid (∀ t : Nat, Below w8.heap.size w8 (wf.drewN t)) := Lib.hid (fun t => by rw [hwf]; exact below_drewN (below_drewN (BS.out 0) _) _); obtain ⟨d0, d1, d2⟩ := KP.out wf (BF.out 0); clear hwf)
                  | (go_at_call 9; refine (CW.out _ (BF.out 0)).mono ?_; rintro e ww ⟨rfl, rfl⟩))
              have MF := Lib.hid (M8.out.keep (BF.out 0))
              clear CQ CF CW KP BF BS BQ SQ d0 d1 d2 tb M8 B0 kq hLm
              go_wp2_with fail
              go_roundw
              case rel => exact ⟨now + dn, i + 1, by simp, by simp, by omega, by omega, MF.out⟩
              case measure => simp [intOf]; omega
end Go.Proofs.Ytjkocghbnljifaa
