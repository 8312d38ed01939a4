/- DeliverPlays, walked (printed by a program of ours). -/
import Derived.Test.YtjkocghbnljifaaDpR13
import Derived.Test.YtjkocghbnljifaaDelFixed
namespace Go.Proofs.Ytjkocghbnljifaa
open Go.RowKit
set_option maxRecDepth 100000 in
set_option maxHeartbeats 8000000 in
theorem plays_bad (s0 s1 s2 s3 : Int) (A : Option Addr) (n cp : Nat) (w : World) (hbad : s0 < 1 ∨ 64 < s0 ∨ dlB s1 = false ∨ dlB s2 = false ∨ dlB s3 = false) :
    Calls Try.prog 3 #[.agg #[.int .i64 s0, .int .i64 s1, .int .i64 s2, .int .i64 s3], .slice A n cp] w (WNo w) := by
  have HB := Lib.hid hbad
  clear hbad
  obtain ⟨w1, hw1⟩ : ∃ w1, w1 = w.alloc (.cells #[.int .i64 s0, .int .i64 s1, .int .i64 s2, .int .i64 s3] 23) := ⟨_, rfl⟩
  obtain ⟨s, hs⟩ : ∃ s, s = w.heap.size := ⟨_, rfl⟩
  have B1 : Hid (Below w.heap.size w w1) := Lib.hid (by rw [hw1]; exact below_alloc _ _)
  have S1 : Hid (Blk w1 s 23 #[.int .i64 s0, .int .i64 s1, .int .i64 s2, .int .i64 s3]) := Lib.hid (by rw [hw1, hs]; exact Blk.new w _ _ rfl)
  have CF := Lib.hid (fixed_any w1)
  go_enter Try.func3, Try.ntmps3
  go_upto_region 1 with fail
  rw [← hw1, ← hs]
  clear hw1 hs
  go_wp2_with fail
  refine CF.out.mono ?_
  rintro e w2 ⟨rfl, hb2⟩
  have B2 : Hid (Below w.heap.size w w2) := Lib.hid (B1.out.trans (hb2.mono B1.out.size))
  have S2 := Lib.hid (S1.out.keep hb2)
  clear hb2 B1 S1 CF
  have c0 : w2.cell? ⟨s, 0, none⟩ = some (.int .i64 s0) := S2.out.cell 0
  have c1 : w2.cell? ⟨s, 1, none⟩ = some (.int .i64 s1) := S2.out.cell 1
  have c2 : w2.cell? ⟨s, 2, none⟩ = some (.int .i64 s2) := S2.out.cell 2
  have c3 : w2.cell? ⟨s, 3, none⟩ = some (.int .i64 s3) := S2.out.cell 3
  go_wp2_with fail
  refine (rnew_bad s0 s1 s2 s3 _ HB.out).mono ?_
  rintro e w3 ⟨rfl, rfl⟩
  go_wp2_with fail
  refine (dnew_bad s0 s1 s2 s3 _ HB.out).mono ?_
  rintro e w4 ⟨rfl, hb4⟩
  have B4 := Lib.hid (B2.out.trans (hb4.mono B2.out.size))
  clear hb4
  go_wp2_with fail
  go_ret
  exact ⟨rfl, B4.out⟩
theorem PL.start {w w5 : World} {d g p r k N ba mo ji : Nat} {xs : List Th} (hdv : DV w5 d g p N 0 xs [] ba mo ji false 0 0) (hrv : RV w5 r r none 0 0 [] N ba mo ji false 0 0) (hk : Blk w5 k 36 #[.slice none 0 0, .slice none 0 0]) (hb : Below w.heap.size w w5) (h0 : w.heap.size ≤ r) (h1 : r < d ∧ r < g ∧ r < p ∧ d < k ∧ g < k ∧ p < k) (hN : 1 ≤ N ∧ N ≤ 64) :
    PL w w5 d r k N ba mo ji 0 := by
  refine ⟨fun b => if b = r then 1 else if b = k then 3 else 0, g, p, 0, xs, [], none, 0, 0, false, 0, 0, .slice none 0 0, .slice none 0 0, [], [], ⟨hdv, ⟨hrv.blk, AW.nil _ _, (fun k hk => by obtain ⟨ad, e, _⟩ := hk; cases e)⟩, hk, RWs.nil _ _ _, WSs.nil _ _ _, ?_, ?_, (fun b hb => by obtain ⟨ad, e, _⟩ := hb; cases e), ?_, ?_, hb, (fun e => by cases e), hN⟩, Nat.le_refl _, Nat.le_refl _⟩
  · refine ⟨?_, ?_, ?_⟩ <;> rw [if_neg (by omega), if_neg (by omega)]
  · simp
  · show (if k = r then 1 else if k = k then 3 else 0) = 3
    rw [if_neg (by omega), if_pos rfl]
  · omega
theorem PL.below {w0 w : World} {d r k N ba mo ji i : Nat} (h : PL w0 w d r k N ba mo ji i) : Below w0.heap.size w0 w := by
  obtain ⟨C, g, p, f, xs, q, A, m, c, se, re, wt, vr, vw, rs, us, hp, h1, h2⟩ := h
  exact hp.bl
theorem PL.ends {w0 w : World} {d r k N ba mo ji i : Nat} (h : PL w0 w d r k N ba mo ji i) (hi : i ≤ 300) :
    Calls Try.prog 13 #[.pointer (some ⟨k, 0, none⟩)] w (Whole w0 w) := by
  obtain ⟨C, g, p, f, xs, q, A, m, c, se, re, wt, vr, vw, rs, us, hp, h1, h2⟩ := h
  exact whole_any hp.kb hp.lo.2.2.2.2 hp.ck hp.rw hp.ws (by omega) hp.bl.size
set_option maxRecDepth 100000 in
set_option maxHeartbeats 8000000 in
theorem plays_good (N ba mo ji : Nat) (A : Option Addr) (n cp : Nat) (l : List Od) (w : World) (h : ODS w A n l) (k1 : 1 ≤ N) (k2 : N ≤ 64) (k3 : ba ≤ 1099511627776) (k4 : mo ≤ 1099511627776) (k5 : ji ≤ 1099511627776) :
    Calls Try.prog 3 #[.agg #[.int .i64 (N : Int), .int .i64 (ba : Int), .int .i64 (mo : Int), .int .i64 (ji : Int)], .slice A n cp] w (WNo w) := by
  have H := Lib.hid h
  have HN : Hid (1 ≤ N ∧ N ≤ 64 ∧ ba ≤ 1099511627776 ∧ mo ≤ 1099511627776 ∧ ji ≤ 1099511627776) := Lib.hid ⟨k1, k2, k3, k4, k5⟩
  clear h k1 k2 k3 k4 k5
  obtain ⟨w1, hw1⟩ : ∃ w1, w1 = w.alloc (.cells #[.int .i64 (N : Int), .int .i64 (ba : Int), .int .i64 (mo : Int), .int .i64 (ji : Int)] 23) := ⟨_, rfl⟩
  obtain ⟨s, hs⟩ : ∃ s, s = w.heap.size := ⟨_, rfl⟩
  have B1 : Hid (Below w.heap.size w w1) := Lib.hid (by rw [hw1]; exact below_alloc _ _)
  have S1 : Hid (Blk w1 s 23 #[.int .i64 (N : Int), .int .i64 (ba : Int), .int .i64 (mo : Int), .int .i64 (ji : Int)]) := Lib.hid (by rw [hw1, hs]; exact Blk.new w _ _ rfl)
  have CF := Lib.hid (fixed_any w1)
  go_enter Try.func3, Try.ntmps3
  go_upto_region 1 with fail
  rw [← hw1, ← hs]
  clear hw1 hs
  go_wp2_with fail
  refine CF.out.mono ?_
  rintro e w2 ⟨rfl, hb2⟩
  have B2 : Hid (Below w.heap.size w w2) := Lib.hid (B1.out.trans (hb2.mono B1.out.size))
  have S2 := Lib.hid (S1.out.keep hb2)
  clear hb2 B1 S1 CF
  have c0 : w2.cell? ⟨s, 0, none⟩ = some (.int .i64 (N : Int)) := S2.out.cell 0
  have c1 : w2.cell? ⟨s, 1, none⟩ = some (.int .i64 (ba : Int)) := S2.out.cell 1
  have c2 : w2.cell? ⟨s, 2, none⟩ = some (.int .i64 (mo : Int)) := S2.out.cell 2
  have c3 : w2.cell? ⟨s, 3, none⟩ = some (.int .i64 (ji : Int)) := S2.out.cell 3
  have C3 := Lib.hid (rnew_ok N ba mo ji w2 HN.out.1 HN.out.2.1 HN.out.2.2.1 HN.out.2.2.2.1 HN.out.2.2.2.2)
  go_wp2_with fail
  refine C3.out.mono ?_
  rintro e w3 ⟨rfl, hrv, hb3⟩
  obtain ⟨r, hr⟩ : ∃ r, r = w2.heap.size := ⟨_, rfl⟩
  rw [← hr]
  have R3 : Hid (RV w3 r r none 0 0 [] N ba mo ji false 0 0) := Lib.hid (by rw [hr]; exact hrv)
  have HR : Hid (w.heap.size ≤ r ∧ r < w3.heap.size) := Lib.hid ⟨by rw [hr]; exact B2.out.size, R3.out.blk.lt⟩
  have B3 : Hid (Below w.heap.size w w3) := Lib.hid (B2.out.trans (hb3.mono B2.out.size))
  have S3 := Lib.hid (S2.out.keep hb3)
  clear hrv hb3 hr B2 S2 C3 c0 c1 c2 c3
  have c0 : w3.cell? ⟨s, 0, none⟩ = some (.int .i64 (N : Int)) := S3.out.cell 0
  have c1 : w3.cell? ⟨s, 1, none⟩ = some (.int .i64 (ba : Int)) := S3.out.cell 1
  have c2 : w3.cell? ⟨s, 2, none⟩ = some (.int .i64 (mo : Int)) := S3.out.cell 2
  have c3 : w3.cell? ⟨s, 3, none⟩ = some (.int .i64 (ji : Int)) := S3.out.cell 3
  have C4 := Lib.hid (dnew_ok N ba mo ji w3 HN.out.1 HN.out.2.1 HN.out.2.2.1 HN.out.2.2.2.1 HN.out.2.2.2.2)
  go_wp2_with fail
  refine C4.out.mono ?_
  rintro e w4 ⟨d, g, p, xs, rfl, hd, hg, hp, hdv, hb4⟩
  have R4 := Lib.hid (R3.out.keep hb4)
  have D4 := Lib.hid hdv
  have HD : Hid (r < d ∧ r < g ∧ r < p) := Lib.hid (by have := HR.out; omega)
  have B4 : Hid (Below w.heap.size w w4) := Lib.hid (B3.out.trans (hb4.mono B3.out.size))
  clear hd hg hp hdv hb4 S3 R3 B3 C4 c0 c1 c2 c3
  go_upto_region 10 with fail
  obtain ⟨w5, hw5⟩ : ∃ w5, w5 = w4.alloc (.cells #[.slice none 0 0, .slice none 0 0] 36) := ⟨_, rfl⟩
  obtain ⟨k, hk⟩ : ∃ k, k = w4.heap.size := ⟨_, rfl⟩
  rw [← hw5, ← hk]
  have hbw : Below w4.heap.size w4 w5 := by rw [hw5]; exact below_alloc _ _
  have HO : Hid (PL w w5 d r k N ba mo ji 0) := Lib.hid (by
    have hV : Blk w5 k 36 #[.slice none 0 0, .slice none 0 0] := by rw [hw5, hk]; exact Blk.new w4 _ _ rfl
    have h1 := D4.out.blk.lt; have h2 := D4.out.ring.blk.lt; have h3 := D4.out.ring.arr.lt; have h4 := HD.out
    exact PL.start (D4.out.keep hbw) (R4.out.keep hbw) hV (B4.out.trans (hbw.mono B4.out.size)) HR.out.1 (by omega) ⟨HN.out.1, HN.out.2.1⟩)
  clear hw5 hk hbw R4 D4 HD B4 HR p g xs
  go_wp2_with fail
  go_loopw [10] (fun iv W => ∃ i : Nat, iv = .int .i64 (i : Int) ∧ i ≤ n ∧ i ≤ 300 ∧ PL w W d r k N ba mo ji i) (fun iv _ => 300 - (intOf iv).toNat)
  case atStart => exact ⟨0, rfl, Nat.zero_le _, Nat.zero_le _, HO.out⟩
  case round =>
    obtain ⟨i, rfl, hin, hi3, hom⟩ := hrel
    have HM := Lib.hid hom
    clear hom HO
    go_upto_region 11 with fail
    go_cut [58] (fun s wx => ∃ b : Bool, s = .bool b ∧ (b = true ↔ i < n ∧ i < 300) ∧ wx = wr)
    case first =>
      by_cases hlt : i < n
      · by_cases h300 : i < 300
        · go_wp2_with fail
          go_meet
          exact ⟨true, by rw [decide_eq_true (by omega)], by simp [hlt, h300], rfl⟩
        · go_wp2_with fail
          go_meet
          exact ⟨false, by rw [decide_eq_false (by omega)], by simp [h300], rfl⟩
      · go_wp2_with fail
        go_meet
        exact ⟨false, rfl, by simp [hlt], rfl⟩
    case rest =>
      obtain ⟨b, rfl, hb0, hcut⟩ := hcut
      rw [hcut]
      clear hcut wc
      cases b
      case false =>
        clear hb0
        have CW := Lib.hid (HM.out.ends hi3)
        go_wp2_with fail
        refine CW.out.mono ?_
        rintro e w9 ⟨rfl, hb9⟩
        go_wp2_with fail
        go_ret
        exact ⟨rfl, HM.out.below.trans hb9⟩
      case true =>
        obtain ⟨hlt, h300⟩ := hb0.1 rfl
        clear hb0
        obtain ⟨x, hx⟩ : ∃ x, l[i]? = some x := ⟨_, List.getElem?_eq_getElem (by rw [H.out.1]; exact hlt)⟩
        have hww := Lib.hid HM.out.below
        obtain ⟨bb, off, rfl, hbb, hcl⟩ := (H.out.keep hww.out).2 i x hx
        have CS : Hid (∀ W', Below wr.heap.size wr W' → Calls Try.prog 8 #[.pointer (some ⟨k, 0, none⟩), .pointer (some ⟨d, 0, none⟩), .pointer (some ⟨r, 0, none⟩), .agg x.cells] W' (StepP w d r k N ba mo ji (i + 1))) := Lib.hid (fun W' hb => step_any (HM.out.keep hb) hi3 x)
        obtain ⟨ok_, ⟨ap, am0, am1, am2, am3, am4, am5, am6, am7, am8, at_, ar⟩, on, oy, oj⟩ := x
        simp only [Od.cells] at CS
        have c0 : wr.cell? ⟨bb, off + i * 16, none⟩ = some (.int .i64 ok_) := hcl 0 _ rfl
        have c1 : wr.cell? ⟨bb, off + i * 16 + 1, none⟩ = some (.int .i64 ap) := hcl 1 _ rfl
        have c2 : wr.cell? ⟨bb, off + i * 16 + 2, none⟩ = some (.int .i64 am0) := hcl 2 _ rfl
        have c3 : wr.cell? ⟨bb, off + i * 16 + 3, none⟩ = some (.int .i64 am1) := hcl 3 _ rfl
        have c4 : wr.cell? ⟨bb, off + i * 16 + 4, none⟩ = some (.int .i64 am2) := hcl 4 _ rfl
        have c5 : wr.cell? ⟨bb, off + i * 16 + 5, none⟩ = some (.int .i64 am3) := hcl 5 _ rfl
        have c6 : wr.cell? ⟨bb, off + i * 16 + 6, none⟩ = some (.int .i64 am4) := hcl 6 _ rfl
        have c7 : wr.cell? ⟨bb, off + i * 16 + 7, none⟩ = some (.int .i64 am5) := hcl 7 _ rfl
        have c8 : wr.cell? ⟨bb, off + i * 16 + 8, none⟩ = some (.int .i64 am6) := hcl 8 _ rfl
        have c9 : wr.cell? ⟨bb, off + i * 16 + 9, none⟩ = some (.int .i64 am7) := hcl 9 _ rfl
        have c10 : wr.cell? ⟨bb, off + i * 16 + 10, none⟩ = some (.int .i64 am8) := hcl 10 _ rfl
        have c11 : wr.cell? ⟨bb, off + i * 16 + 11, none⟩ = some (.string at_) := hcl 11 _ rfl
        have c12 : wr.cell? ⟨bb, off + i * 16 + 12, none⟩ = some (.int .u32 ar) := hcl 12 _ rfl
        have c13 : wr.cell? ⟨bb, off + i * 16 + 13, none⟩ = some (.int .i64 on) := hcl 13 _ rfl
        have c14 : wr.cell? ⟨bb, off + i * 16 + 14, none⟩ = some (.bool oy) := hcl 14 _ rfl
        have c15 : wr.cell? ⟨bb, off + i * 16 + 15, none⟩ = some (.int .i64 oj) := hcl 15 _ rfl
        clear hcl hx hbb HM
        have hi0 : (0 : Int) ≤ (i : Int) := by omega
        have hiI : (i : Int) < (n : Int) := by omega
        go_upto_region 13 with fail
        refine ask_region wr c0 c1 c2 c3 c4 c5 c6 c7 c8 c9 c10 c11 c12 c13 c14 c15 hi0 hiI CS (Lib.hid ?_)
        intro x61 x62 x63 x64 x65 x66 x67 x68 x69 x70 x71 x72 x73 x74 x75 x76 x77 x78 x79 x80 x81 x82 x83 x84 x85 x86 x87 x88 x89 x90 x91 x92 x93 x94 x95 x96 x97 x98 x99 x100 x101 x102 x103 x104 x105 W hP
        have HP := Lib.hid hP
        clear hP CS c0 c1 c2 c3 c4 c5 c6 c7 c8 c9 c10 c11 c12 c13 c14 c15
        go_wp2_with fail
        go_roundw
        case rel => exact ⟨i + 1, by simp, by omega, by omega, HP.out⟩
        case measure => simp [intOf]; omega
theorem plays_any (s0 s1 s2 s3 : Int) (A : Option Addr) (n cp : Nat) (l : List Od) (w : World) (h : ODS w A n l) (_ : n ≤ cp) :
    Calls Try.prog 3 #[.agg #[.int .i64 s0, .int .i64 s1, .int .i64 s2, .int .i64 s3], .slice A n cp] w (WNo w) := by
  by_cases hb : s0 < 1 ∨ 64 < s0 ∨ dlB s1 = false ∨ dlB s2 = false ∨ dlB s3 = false
  · exact plays_bad s0 s1 s2 s3 A n cp w hb
  · have hd : ∀ x, ¬ dlB x = false → 0 ≤ x ∧ x ≤ 1099511627776 := fun x hx => by
      unfold dlB at hx
      simpa using hx
    have h1 := hd s1 (fun e => hb (.inr (.inr (.inl e))))
    have h2 := hd s2 (fun e => hb (.inr (.inr (.inr (.inl e)))))
    have h3 := hd s3 (fun e => hb (.inr (.inr (.inr (.inr e)))))
    obtain ⟨N, rfl⟩ : ∃ N : Nat, s0 = (N : Int) := ⟨s0.toNat, by omega⟩
    obtain ⟨ba, rfl⟩ : ∃ N : Nat, s1 = (N : Int) := ⟨s1.toNat, by omega⟩
    obtain ⟨mo, rfl⟩ : ∃ N : Nat, s2 = (N : Int) := ⟨s2.toNat, by omega⟩
    obtain ⟨ji, rfl⟩ : ∃ N : Nat, s3 = (N : Int) := ⟨s3.toNat, by omega⟩
    exact plays_good N ba mo ji A n cp l w h (by omega) (by omega) (by omega) (by omega) (by omega)
end Go.Proofs.Ytjkocghbnljifaa
