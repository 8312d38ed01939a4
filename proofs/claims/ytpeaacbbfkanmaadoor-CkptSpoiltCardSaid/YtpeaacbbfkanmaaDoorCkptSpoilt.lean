/- THE WALK of the law CkptSpoilt. -/
import Derived.Test.YtpeaacbbfkanmaaDoorCkptOf
import Derived.Test.YtpeaacbbfkanmaaDoorCkptResid
import Derived.RegionTactic
import Derived.Deep.CutBlock
import Derived.BigRegion
import Derived.ChangeAlike
namespace Go.Proofs.YtpeaacbbfkanmaaDoor
open Go.RowKit
theorem xor_bit (c : UInt8) (j : Nat) (hj : j < 8) : bits .xor .u8 (c.toNat : Int) ((2 : Int) ^ j % 256) = ((UInt8.ofNat (c.toNat ^^^ 2 ^ j)).toNat : Int) := by
  have h2 : 2 ^ j < 2 ^ 8 := Nat.pow_lt_pow_right (by omega) hj
  have h2 : 2 ^ j < 256 := h2
  have hb : c.toNat ^^^ 2 ^ j < 256 := Nat.xor_lt_two_pow (n := 8) c.toNat_lt (by simpa using h2)
  rw [UInt8.toNat_ofNat_of_lt' hb, ← u8_xor_nat _ _ c.toNat_lt h2]
  congr 1
  have e : ((2 ^ j : Nat) : Int) = (2 : Int) ^ j := by simp
  rw [← e]
  generalize 2 ^ j = q at *
  omega
def SpPost (w : World) (e : Ending) (w' : World) : Prop := e = .returned (.bool true) ∧ Below w.heap.size w w'
theorem dec_none (D : Option Addr) (n dc : Nat) (b : List UInt8) (many : Nat) (w : World) (hT : CrcTab w) (hr : RB w D n b) (hcap : n ≤ dc) (hn : n ≤ 140737488355328) (h : decB b many = false) :
    Calls Tryd.prog 13 #[.slice D n dc, .int .i64 (many : Int)] w (NonePost w) := by
  by_cases hm : 4 ≤ n ∧ 1 ≤ many ∧ many ≤ 8
  · refine (decode_any D n dc b many w hT hr hcap hm.1 hm.2.1 hm.2.2 hn).mono ?_
    intro e w' hpost
    exact hpost.2 h
  · exact decode_args D n dc b many w hr (by omega)
theorem dec_good (D : Option Addr) (n dc : Nat) (l : List Mk) (w : World) (hT : CrcTab w) (hr : RB w D n (encB l)) (hcap : n ≤ dc) (hmay : mayB l = true) :
    Calls Tryd.prog 13 #[.slice D n dc, .int .i64 (l.length : Int)] w (MarksPost l w) := by
  obtain ⟨_, hp1, hp8⟩ := mayB_parts hmay
  have hn := hr.1
  rw [encB_length] at hn
  refine (decode_any D n dc (encB l) l.length w hT hr hcap (by omega) (by omega) (by omega) (by omega)).mono ?_
  intro e w' hpost
  have h := hpost.1 (decB_enc hmay)
  rwa [parse_encB hmay] at h
set_option maxRecDepth 100000 in
set_option maxHeartbeats 4000000 in
theorem spoilt_any (A0 A4 : Option Addr) (n0 c0 n4 c4 : Nat) (l0 : List Mk) (more : List UInt8) (at_ cut : Int) (mask : Nat) (w : World) (hT : CrcTab w) (hl0 : MS w A0 n0 l0) (hm : RB w A4 n4 more) (hc0 : n0 ≤ c0) (_hc4 : n4 ≤ c4) (hn0 : n0 ≤ 9223372036854775807) (hn4 : n4 ≤ 140737488351232) (h0 : ∀ m ∈ l0, M64 m) (hs : mask < 4294967296) (_ha1 : -9223372036854775808 ≤ at_) (_ha2 : at_ ≤ 9223372036854775807) (_hb1 : -9223372036854775808 ≤ cut) (_hb2 : cut ≤ 9223372036854775807) :
    Calls Tryd.prog 6 #[.slice A0 n0 c0, .int .i64 at_, .int .u32 (mask : Int), .int .i64 cut, .slice A4 n4 c4] w (SpPost w) := by
  have Q0 := Lib.hid (lawmay_any A0 n0 c0 l0 w hl0 hc0 hn0 h0)
  have HT := Lib.hid hT; have HM := Lib.hid hm; have HS := Lib.hid hs
  have MA := Lib.hid (mayOf_may h0)
  obtain ⟨la, hla⟩ : ∃ la, la = mayOf l0 := ⟨_, rfl⟩
  rw [← hla] at Q0 MA
  clear hT hl0 h0 hla hn0 hm hs
  go_enter Tryd.func6, Tryd.ntmps6
  go_wp2_with fail
  refine Q0.out.mono ?_
  intro e w1 hpost
  obtain ⟨v11, rfl, ho9, hbw1⟩ := hpost
  have B1 := Lib.hid hbw1
  obtain ⟨A9, ca, rfl, hca, hmsa, _⟩ := ho9.form
  obtain ⟨na, hna⟩ : ∃ na, na = la.length := ⟨_, rfl⟩
  have hp := (mayB_parts MA.out).2
  rw [← hna] at hp hca hmsa ⊢
  have NA := Lib.hid hna; have MSA := Lib.hid hmsa
  clear ho9 hbw1 hmsa hna
  go_wp2_with fail
  refine (encode_ok A9 na ca la _ (HT.out.keep B1.out) MSA.out hca MA.out).mono ?_
  intro e w2 hpost
  obtain ⟨v12, rfl, hx2, hbw2⟩ := hpost
  have B2 := Lib.hid (B1.out.trans (hbw2.mono B1.out.size))
  obtain ⟨AX, cx, rfl, hcx, _, hrx⟩ := hx2.form
  obtain ⟨nx, hnx⟩ : ∃ nx, nx = (encB la).length := ⟨_, rfl⟩
  have hnx2 : nx = 13 + 72 * na := by rw [hnx, encB_length, NA.out]
  have hx1 : 13 ≤ nx := by omega
  have hx9 : nx ≤ 600 := by omega
  rw [← hnx] at hcx hrx ⊢
  have RX2 := Lib.hid hrx; have NX := Lib.hid hnx
  clear hbw2 hx2 hrx hnx hnx2
  go_wp2_with fail
  refine (known_any _ (HT.out.keep B2.out)).mono ?_
  rintro e w3 ⟨rfl, hbw3⟩
  have B3 := Lib.hid (B2.out.trans (hbw3.mono B2.out.size)); have RX3 := Lib.hid (RX2.out.keep hbw3)
  clear hbw3 RX2 B2 MSA
  have tz : ((nx : Int) == 0) = false := by simp; omega
  have tw : RowKit.wrap64 (8 * (nx : Int)) = (8 * (nx : Int)) := by unfold RowKit.wrap64; omega
  go_upto_if 53 with fail
  go_cut [15] (fun s wx => (∃ f : Nat, f < 8 * nx ∧ s = .int .i64 (f : Int)) ∧ wx = w3)
  case first =>
    have hr1 : at_.tmod (8 * (nx : Int)) < (8 * (nx : Int)) := Int.tmod_lt_of_pos _ (by omega)
    have hr2 : -(8 * (nx : Int)) < at_.tmod (8 * (nx : Int)) := Int.lt_tmod_of_pos _ (by omega)
    obtain ⟨r, hr⟩ : ∃ r, r = at_.tmod (8 * (nx : Int)) := ⟨_, rfl⟩
    rw [← hr] at hr1 hr2 ⊢
    clear hr
    by_cases hneg : r < 0
    · obtain ⟨k, rfl⟩ : ∃ k : Nat, r = -(k : Int) := ⟨(-r).toNat, by omega⟩
      go_wp2_with fail
      go_meet
      exact ⟨⟨k, by omega, by simp⟩, rfl⟩
    · obtain ⟨k, rfl⟩ := Int.eq_ofNat_of_zero_le (show 0 ≤ r by omega)
      go_wp2_with fail
      go_meet
      exact ⟨⟨k, by omega, rfl⟩, rfl⟩
  case rest =>
    obtain ⟨⟨f, hf, rfl⟩, hcut⟩ := hcut
    rw [hcut]
    clear hcut wc tw tz
    have HL0 := Lib.hid (show ([] : List UInt8).length + nx ≤ 140737488355328 from by simp; omega)
    go_wp2_with ((at_builtin; go_must (refine append_bytes rfl (.tmp 56) (.tmp 57) rfl w.heap.size (.slice none 0 0) [] rfl (OB.nil w3 w.heap.size) AX nx cx (encB la) rfl RX3.out HL0.out B3.out.size ?_); intro v4 w4 ho4 hg4 ha4; refine halt ?_))
    refine unhalt ?_
    have B4 : Hid (Below w.heap.size w w4) := Lib.hid (B3.out.grown hg4 B3.out.size (fun q hq => by cases hq))
    have hb34 : Below w3.heap.size w3 w4 := (Below.refl _ _).grown hg4 (Nat.le_refl _) (fun q hq => by cases hq)
    have RX4 := Lib.hid (RX3.out.keep hb34)
    rw [List.nil_append] at ho4
    obtain ⟨D, dc, rfl, hdc, _, _⟩ := ho4.form
    rw [← NX.out] at hdc ho4 ⊢
    have hD : ∃ g, D = some ⟨g, 0, none⟩ := by
      rcases ho4.2 with ⟨e, _⟩ | ⟨g, cap, cur, e, _⟩
      · injection e with _ e2 _; omega
      · injection e with e _ _; exact ⟨g, e⟩
    obtain ⟨g, rfl⟩ := hD
    have O4 := Lib.hid ho4
    have hgw3 : g = w3.heap.size := by
      rcases ha4 with h | h
      · cases h
      · exact Option.some.inj h
    have HAG : Hid (∀ ad, AX = some ad → ad.block ≠ g) := Lib.hid (fun ad e h => by
      obtain ⟨b, off, e2, hb, _⟩ := RX3.out.2 (by omega)
      rw [e] at e2
      obtain rfl := Option.some.inj e2
      have h : b = g := h
      omega)
    have HGW : Hid (w.heap.size ≤ g) := Lib.hid (by rw [hgw3]; exact B3.out.size)
    clear ho4 hg4 ha4 hb34 HL0 RX3 B3 hgw3
    have HLF := Lib.hid (fun k => (flips_length (encB la) (f : Int) mask k).trans NX.out.symm)
    go_upto_block 0 with fail
    go_cut [17, 18] (fun t i W => t = .bool (flips (encB la) (f : Int) mask 32).2 ∧ Hid (OB W w.heap.size (.slice (some ⟨g, 0, none⟩) nx dc) (flips (encB la) (f : Int) mask 32).1) ∧ Hid (Chg (fun q => q = g) w4 W))
    case first =>
      go_wp2_with fail
      go_loopw [17, 18] (fun t i W => ∃ k : Nat, k ≤ 32 ∧ i = .int .i64 k ∧ t = .bool (flips (encB la) (f : Int) mask k).2 ∧ OB W w.heap.size (.slice (some ⟨g, 0, none⟩) nx dc) (flips (encB la) (f : Int) mask k).1 ∧ Hid (Chg (fun q => q = g) w4 W)) (fun _ i _ => 32 - (intOf i).toNat)
      case atStart => exact ⟨0, by omega, rfl, rfl, O4.out, Lib.hid (Chg.refl _ _)⟩
      case round =>
        obtain ⟨k, hk, rfl, rfl, ho, HCH⟩ := hrel
        have hlen := HLF.out k
        have hbit : bits .and .u32 ((mask : Int) / 2 ^ k) 1 = ((mask / 2 ^ k % 2 : Nat) : Int) := by
          have h := u32_and_nat (mask / 2 ^ k) 1 (Nat.lt_of_le_of_lt (Nat.div_le_self _ _) HS.out) (by omega)
          rw [nat_mask1] at h
          rw [← h]; congr 1
        by_cases hlt : k < 32
        · by_cases hin : f + k < 8 * nx
          · by_cases hm : mask / 2 ^ k % 2 = 1
            · have hc : flipIf (encB la) (f : Int) mask k = true := by
                unfold flipIf
                rw [decide_eq_true_eq]
                exact ⟨by omega, by rw [← NX.out]; omega, hm⟩
              rw [hm] at hbit
              have hbit' : bits .and .u32 ((mask : Int) / 2 ^ k) 1 = 1 := hbit
              clear hbit
              have HC := Lib.hid hc; clear hc
              have HM1 := Lib.hid hm; clear hm
              have hgt : (flips (encB la) (f : Int) mask k).1[(f + k) / 8]? = some ((flips (encB la) (f : Int) mask k).1.getD ((f + k) / 8) 0) := by
                rw [List.getD_eq_getElem?_getD, List.getElem?_eq_getElem (by rw [hlen]; omega)]; rfl
              clear hlen
              have hcell := ho.cellAt hgt
              have hfr := ho.frozenAt ((f + k) / 8)
              have hxb := xor_bit ((flips (encB la) (f : Int) mask k).1.getD ((f + k) / 8) 0) ((f + k) % 8) (by omega)
              have hsto := ho.stored ((f + k) / 8) (UInt8.ofNat (((flips (encB la) (f : Int) mask k).1.getD ((f + k) / 8) 0).toNat ^^^ 2 ^ ((f + k) % 8)))
              have hstep : flips (encB la) (f : Int) mask (k + 1) = ((flips (encB la) (f : Int) mask k).1.set ((f + k) / 8) (UInt8.ofNat (((flips (encB la) (f : Int) mask k).1.getD ((f + k) / 8) 0).toNat ^^^ 2 ^ ((f + k) % 8))), true) := by
                rw [flips, if_pos HC.out]
                unfold flipBit
                rw [show ((f : Int) + k).toNat = f + k from by omega]
              generalize UInt8.ofNat (((flips (encB la) (f : Int) mask k).1.getD ((f + k) / 8) 0).toNat ^^^ 2 ^ ((f + k) % 8)) = c' at *
              have HS1 := Lib.hid hsto; clear hsto
              have HT' := Lib.hid hstep; clear hstep
              have tin : ((f : Int) + (k : Int)) < 8 * (nx : Int) := by omega
              clear hgt ho
              generalize (flips (encB la) (f : Int) mask k).1.getD ((f + k) / 8) 0 = c at *
              have hcb := c.toNat_lt
              go_wp2_with fail
              go_region
              go_wp2_with fail
              go_roundw
              case rel => exact ⟨k + 1, by omega, by go_num, by rw [HT'.out], by rw [HT'.out]; exact HS1.out.1.drew, Lib.hid (Chg.drew (HCH.out.setCell (.inl rfl) _))⟩
              case measure => simp [intOf]; omega
            · have hm0 : mask / 2 ^ k % 2 = 0 := by
                rcases Nat.mod_two_eq_zero_or_one (mask / 2 ^ k) with h | h
                · exact h
                · exact absurd h hm
              have hc : ¬ flipIf (encB la) (f : Int) mask k = true := by
                unfold flipIf
                rw [decide_eq_true_eq]
                exact fun h => hm h.2.2
              have hstep : flips (encB la) (f : Int) mask (k + 1) = flips (encB la) (f : Int) mask k := by rw [flips, if_neg hc]
              have HT' := Lib.hid hstep
              rw [hm0] at hbit
              have hbit' : bits .and .u32 ((mask : Int) / 2 ^ k) 1 = 0 := hbit
              have HO := Lib.hid ho
              have tin : ((f : Int) + (k : Int)) < 8 * (nx : Int) := by omega
              clear hbit hm hm0 hc hstep hlen ho
              go_wp2_with fail
              go_roundw
              case rel => exact ⟨k + 1, by omega, by go_num, by rw [HT'.out], by rw [HT'.out]; exact HO.out, HCH⟩
              case measure => simp [intOf]; omega
          · have he : flips (encB la) (f : Int) mask 32 = flips (encB la) (f : Int) mask k := by
              have := flips_end (encB la) f mask k (by rw [← NX.out]; omega) (32 - k)
              rwa [show k + (32 - k) = 32 from by omega] at this
            have HE := Lib.hid he
            have HO := Lib.hid ho
            have tin : ¬ (((f : Int) + (k : Int)) < 8 * (nx : Int)) := by omega
            clear hbit hlen ho he
            go_wp2_with fail
            go_meet
            exact ⟨by rw [HE.out], Lib.hid (by rw [HE.out]; exact HO.out), HCH⟩
        · obtain rfl : k = 32 := by omega
          have HO := Lib.hid ho
          clear hbit hlen ho
          go_wp2_with fail
          go_meet
          exact ⟨rfl, HO, HCH⟩
    case rest =>
      obtain ⟨rfl, O5, C5⟩ := hcut
      have B5 : Hid (Below w.heap.size w wc) := Lib.hid (B4.out.trans (C5.out.below (B := w.heap.size) (fun q hq e => by subst e; have := HGW.out; omega) B4.out.size))
      have RX5 : Hid (RB wc AX nx (encB la)) := Lib.hid (C5.out.rb RX4.out (fun _ ad e h => HAG.out ad e h))
      clear C5 B4 RX4 HAG
      obtain ⟨b2, hb2⟩ : ∃ b2, b2 = (flips (encB la) (f : Int) mask 32).1 := ⟨_, rfl⟩
      obtain ⟨ch, hch⟩ : ∃ ch, ch = (flips (encB la) (f : Int) mask 32).2 := ⟨_, rfl⟩
      have hlaw1 : ch = true → decB b2 na = false := fun h => by rw [hb2]; exact spoilt_burst la f mask na (by rw [← hch]; exact h)
      have hlaw2 : ch = false → b2 = encB la := fun h => by rw [hb2]; exact flips_same (encB la) f mask 32 (by rw [← hch]; exact h)
      rw [← hb2] at O5
      rw [← hch]
      have L1 := Lib.hid hlaw1; have L2 := Lib.hid hlaw2
      clear hb2 hch hlaw1 hlaw2
      obtain ⟨w5, hw5⟩ : ∃ w5, w5 = wc := ⟨_, rfl⟩
      subst hw5
      have T5 := Lib.hid (HT.out.keep B5.out)
      go_upto_region 18 with fail
      go_cut [19, 20] (fun s19 s20 wx => Below w5.heap.size w5 wx ∧ ((ch = true ∧ s20 = .int .i64 210 ∧ s19 = .slice none 0 0) ∨ (ch = false ∧ s20 = .int .i64 0 ∧ ∃ g, s19 = .slice (some ⟨g, 0, none⟩) na na)))
      case first =>
        cases ch with
        | true =>
          have DN := Lib.hid (dec_none (some ⟨g, 0, none⟩) nx dc b2 na w5 T5.out O5.out.rb hdc (by omega) (L1.out rfl))
          go_wp2_with fail
          refine DN.out.mono ?_
          rintro e w6 ⟨rfl, hb6⟩
          have HB6 := Lib.hid hb6
          clear hb6
          go_wp2_with fail
          go_meet
          exact ⟨HB6.out, .inl ⟨trivial, rfl, rfl⟩⟩
        | false =>
          have hg := dec_good (some ⟨g, 0, none⟩) nx dc la w5 T5.out (by rw [← L2.out rfl]; exact O5.out.rb) hdc MA.out
          rw [← NA.out] at hg
          have DN := Lib.hid hg
          clear hg
          go_wp2_with fail
          refine DN.out.mono ?_
          intro e w6 hpost
          obtain ⟨g6, C6, rfl, _, _, _, _, hb6⟩ := hpost
          rw [← NA.out]
          have HB6 := Lib.hid hb6
          clear hb6
          go_wp2_with fail
          go_meet
          exact ⟨HB6.out, .inr ⟨trivial, rfl, g6, rfl⟩⟩
      case rest =>
        obtain ⟨hb6, hcut⟩ := hcut
        have B6 := Lib.hid (B5.out.trans (hb6.mono B5.out.size)); have RX6 := Lib.hid (RX5.out.keep hb6)
        have HCUT := Lib.hid hcut
        clear hb6 hcut B5 RX5 O5 T5 L1 L2
        obtain ⟨w6, hw6⟩ : ∃ w6, w6 = wc := ⟨_, rfl⟩
        subst hw6
        go_upto_region 19 with fail
        go_cut [118] (fun s wx => s = .bool false ∧ wx = w6)
        case first =>
          rcases HCUT.out with ⟨rfl, rfl, rfl⟩ | ⟨rfl, rfl, g6, rfl⟩
          · clear HCUT
            go_wp2_with fail
            go_meet
            exact ⟨rfl, rfl⟩
          · clear HCUT
            go_wp2_with fail
            go_meet
            exact ⟨rfl, rfl⟩
        case rest =>
          obtain ⟨rfl, hcut⟩ := hcut
          rw [hcut]
          clear hcut HCUT wc
          have tz : ((nx : Int) == 0) = false := by simp; omega
          go_upto_if 124 with fail
          go_cut [21] (fun s wx => (∃ n : Nat, n < nx ∧ s = .int .i64 (n : Int)) ∧ wx = w6)
          case first =>
            have hr1 : cut.tmod (nx : Int) < (nx : Int) := Int.tmod_lt_of_pos _ (by omega)
            have hr2 : -(nx : Int) < cut.tmod (nx : Int) := Int.lt_tmod_of_pos _ (by omega)
            obtain ⟨r, hr⟩ : ∃ r, r = cut.tmod (nx : Int) := ⟨_, rfl⟩
            rw [← hr] at hr1 hr2 ⊢
            clear hr
            by_cases hneg : r < 0
            · obtain ⟨k, rfl⟩ : ∃ k : Nat, r = -(k : Int) := ⟨(-r).toNat, by omega⟩
              go_wp2_with fail
              go_meet
              exact ⟨⟨k, by omega, by simp⟩, rfl⟩
            · obtain ⟨k, rfl⟩ := Int.eq_ofNat_of_zero_le (show 0 ≤ r by omega)
              go_wp2_with fail
              go_meet
              exact ⟨⟨k, by omega, rfl⟩, rfl⟩
          case rest =>
            obtain ⟨⟨n, hn, rfl⟩, hcut⟩ := hcut
            rw [hcut]
            clear hcut wc tz
            have SC := Lib.hid (fun k => spoilt_cut MA.out n k (by rw [← NX.out]; exact hn))
            have hncx : n ≤ cx := by omega
            go_wp2_with fail
            go_loopw [22] (fun iv W => ∃ k : Nat, k ≤ na + 2 ∧ iv = .int .i64 (k : Int) ∧ Hid (Below w6.heap.size w6 W)) (fun iv _ => na + 2 - (intOf iv).toNat)
            case atStart => exact ⟨0, by omega, rfl, Lib.hid (Below.refl _ _)⟩
            case round =>
              obtain ⟨k, hk, rfl, BB⟩ := hrel
              have B7 := Lib.hid (B6.out.trans (BB.out.mono B6.out.size)); have RX7 := Lib.hid (RX6.out.keep BB.out)
              have T7 := Lib.hid (HT.out.keep B7.out)
              by_cases hlt : k ≤ na + 1
              · have DN := Lib.hid (dec_none AX n cx ((encB la).take n) k wr T7.out (RX7.out.take (by omega)) hncx (by omega) (SC.out k))
                have tl : (k : Int) ≤ (na : Int) + 1 := by omega
                go_wp2_with fail
                refine DN.out.mono ?_
                rintro e w8 ⟨rfl, hb8⟩
                have B8 := Lib.hid (BB.out.trans (hb8.mono BB.out.size))
                clear hb8
                go_wp2_with fail
                go_roundw
                case rel => exact ⟨k + 1, by omega, by go_num, B8⟩
                case measure => simp [intOf]; omega
              · obtain rfl : k = na + 2 := by omega
                have tl : ¬ ((((na + 2 : Nat) : Int)) ≤ (na : Int) + 1) := by omega
                have HL0 := Lib.hid (show ([] : List UInt8).length + nx ≤ 140737488355328 from by simp; omega)
                go_wp2_with ((at_builtin; go_must (refine append_bytes rfl (.tmp 144) (.tmp 145) rfl w.heap.size (.slice none 0 0) [] rfl (OB.nil wr w.heap.size) AX nx cx (encB la) rfl RX7.out HL0.out B7.out.size ?_); intro v9 w9 ho9 hg9 ha9; refine halt ?_))
                refine unhalt ?_
                have B9 : Hid (Below w.heap.size w w9) := Lib.hid (B7.out.grown hg9 B7.out.size (fun q hq => by cases hq))
                rw [List.nil_append] at ho9
                have O9 := Lib.hid ho9
                have HM9 := Lib.hid (HM.out.keep B9.out)
                clear ho9 hg9 ha9
                have HL1 := Lib.hid (show (encB la).length + n4 ≤ 140737488355328 from by rw [← NX.out]; omega)
                go_wp2_with ((at_builtin; go_must (refine append_bytes rfl (.tmp 148) (.tmp 149) rfl w.heap.size v9 (encB la) rfl O9.out A4 n4 c4 more rfl HM9.out HL1.out B9.out.size ?_); intro v10 w10 ho10 hg10 ha10; refine halt ?_))
                refine unhalt ?_
                have B10 : Hid (Below w.heap.size w w10) := Lib.hid (B9.out.grown hg10 B9.out.size (fun q hq => (O9.out.lt q hq).1))
                have T10 := Lib.hid (HT.out.keep B10.out)
                obtain ⟨D2, dc2, rfl, hdc2, _, hr10⟩ := ho10.form
                have hml := HM.out.1
                have hle : (encB la ++ more).length = nx + n4 := by rw [List.length_append, ← NX.out, hml]
                rw [hle] at hdc2 hr10 ⊢
                have R10 := Lib.hid hr10
                clear ho10 hg10 ha10 hr10 hle
                by_cases hmo : more = []
                · subst hmo
                  obtain rfl : n4 = 0 := hml.symm
                  have hr := R10.out
                  rw [List.append_nil] at hr
                  have hgd := dec_good D2 (nx + 0) dc2 la w10 T10.out hr hdc2 MA.out
                  rw [← NA.out] at hgd
                  have DG := Lib.hid hgd
                  clear hgd hr hml
                  go_wp2_with fail
                  refine DG.out.mono ?_
                  intro e w11 hpost
                  obtain ⟨g6, C6, rfl, _, _, _, _, hb6⟩ := hpost
                  have HF : Hid (SpPost w (.returned (.bool true)) w11) := Lib.hid ⟨rfl, B10.out.trans (hb6.mono B10.out.size)⟩
                  clear hb6
                  go_wp2_with fail
                  go_ret
                  exact HF.out
                · have hn40 : ((n4 : Int) == 0) = false := by
                    have : 0 < more.length := List.length_pos_iff.2 hmo
                    simp; omega
                  have hsm := spoilt_more la more hmo
                  rw [← NA.out] at hsm
                  have DN := Lib.hid (dec_none D2 (nx + n4) dc2 (encB la ++ more) na w10 T10.out R10.out hdc2 (by omega) hsm)
                  clear hsm hmo hml
                  go_wp2_with fail
                  refine DN.out.mono ?_
                  rintro e w11 ⟨rfl, hb6⟩
                  have HF : Hid (SpPost w (.returned (.bool true)) w11) := Lib.hid ⟨rfl, B10.out.trans (hb6.mono B10.out.size)⟩
                  clear hb6
                  go_wp2_with fail
                  go_ret
                  exact HF.out
end Go.Proofs.YtpeaacbbfkanmaaDoor
