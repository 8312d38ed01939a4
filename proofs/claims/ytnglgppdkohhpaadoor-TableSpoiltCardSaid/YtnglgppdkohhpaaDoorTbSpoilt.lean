/- THE WALK of the law TableSpoilt (printed by a program of ours). -/
import Derived.Test.YtnglgppdkohhpaaDoorTbResid
import Derived.Test.YtnglgppdkohhpaaDoorTbKnown
import Derived.Test.YtnglgppdkohhpaaDoorTbBig
import Derived.RegionTactic
import Derived.Deep.CutBlock
import Derived.BigRegion
import Derived.ChangeAlike
namespace Go.Proofs.YtnglgppdkohhpaaDoor
open Go.RowKit
theorem xor_bit (c : UInt8) (j : Nat) (hj : j < 8) : bits .xor .u8 (c.toNat : Int) ((2 : Int) ^ j % 256) = ((UInt8.ofNat (c.toNat ^^^ 2 ^ j)).toNat : Int) := by
  have h2 : 2 ^ j < 2 ^ 8 := Nat.pow_lt_pow_right (by omega) hj
  have h2 : 2 ^ j < 256 := h2
  have hb : c.toNat ^^^ 2 ^ j < 256 := Nat.xor_lt_two_pow (n := 8) c.toNat_lt (by simpa using h2)
  rw [UInt8.toNat_ofNat_of_lt' hb, ← u8_xor_nat _ _ c.toNat_lt h2]
  congr 1
  have e : ((2 ^ j : Nat) : Int) = (2 : Int) ^ j := by simp
  rw [← e]
  generalize 2 ^ j = q at *
  omega
theorem OB.drew' {w : World} {base : Nat} {v : Value} {l : List UInt8} (h : OB w base v l) : OB w.drew base v l := h
theorem tb_size_one {w : World} {cs : Array Value} {t : Tb} (h : TB w cs t) : cs.size = 259 ∧ cs.all (·.oneCell') = true := by
  refine ⟨h.size, ?_⟩
  obtain ⟨_, _, _, _, _, _, e, _⟩ := h.ex
  rw [e]; exact dcells_one rfl rfl rfl
def EncAny (t : Tb) (w : World) (e : Ending) (w' : World) : Prop := ∃ (v : Value) (k : Int), e = .returned (.tuple #[v, .int .i64 k]) ∧ ((Fits t ∧ k = 0 ∧ OB w' w.heap.size v (encT t)) ∨ (¬ Fits t ∧ k = 70)) ∧ Below w.heap.size w w'
theorem enc_any (cs : Array Value) (t : Tb) (w : World) (hT : CrcTab w) (h : TB w cs t) : Calls Tryd.prog 10 #[.agg cs] w (EncAny t w) := by
  by_cases hf : Fits t
  · refine (tencode_ok cs t w hT h hf).mono ?_
    rintro e w' ⟨v, rfl, h1, h2⟩
    exact ⟨v, 0, rfl, .inl ⟨hf, rfl, h1⟩, h2⟩
  · refine (tencode_bad cs t w h (rightB_false hf)).mono ?_
    rintro e w' ⟨rfl, h2⟩
    exact ⟨_, 70, rfl, .inr ⟨hf, rfl⟩, h2⟩
def ImgQ (w : World) (ta : Tb) (A : Option Addr) (n c : Nat) (W : World) : Prop := Sound ta ∧ Fits ta ∧ RB W A n (encT ta) ∧ n ≤ c ∧ n = (encT ta).length ∧ Below w.heap.size w W
set_option maxRecDepth 100000 in
set_option maxHeartbeats 8000000 in
theorem spoilt_any (cs : Array Value) (t : Tb) (A4 : Option Addr) (n4 c4 : Nat) (more : List UInt8) (at_ cut : Int) (mask : Nat) (w : World) (hT : CrcTab w) (ht : TB w cs t) (hm : RB w A4 n4 more) (hs : mask < 4294967296) (hn4 : n4 ≤ 140737488355328) :
    Calls Tryd.prog 5 #[.agg cs, .int .i64 at_, .int .u32 (mask : Int), .int .i64 cut, .slice A4 n4 c4] w (RightP true w) := by
  have HT := Lib.hid hT; have HM := Lib.hid hm; have HS := Lib.hid hs; have TB0 := Lib.hid ht
  clear hT hm hs ht
  have hz := zero_run
  have ZS : Hid ((dcells zcls nilV nilV nilV).size = 259 ∧ (dcells zcls nilV nilV nilV).all (·.oneCell') = true) := Lib.hid ⟨zsize, zone⟩
  obtain ⟨zc, hzc⟩ : ∃ zc, zc = dcells zcls nilV nilV nilV := ⟨_, rfl⟩
  have HZC := Lib.hid hzc
  rw [← hzc] at hz ZS
  clear hzc
  have li : Hid ((Tryd.prog.info? 26).map (·.size) = some cs.toList.length) := Lib.hid (by rw [size259, Array.length_toList, TB0.out.size])
  obtain ⟨w1, hw1⟩ : ∃ w1, w1 = w.alloc (.cells cs 26) := ⟨_, rfl⟩
  obtain ⟨b, hb⟩ : ∃ b, b = w.heap.size := ⟨_, rfl⟩
  have B1 : Hid (Below w.heap.size w w1) := Lib.hid (by rw [hw1]; exact below_alloc _ _)
  have D1 : Hid (DX w1 b cs t) := Lib.hid (by rw [hw1, hb]; exact DX.new TB0.out)
  have HB : Hid (w.heap.size ≤ b) := Lib.hid (by omega)
  go_enter Tryd.func5, Tryd.ntmps5
  go_upto_region 1 with fail
  rw [← hw1, ← hb]
  clear hw1 hb
  go_wp2_with fail
  refine (known_any w1 (HT.out.keep B1.out)).mono ?_
  rintro e w2 ⟨rfl, hb2⟩
  have B2 : Hid (Below w.heap.size w w2) := Lib.hid (B1.out.trans (hb2.mono B1.out.size))
  have D2 := Lib.hid (D1.out.keep hb2)
  clear hb2 B1 D1
  go_upto_region 3 with fail
  have RG2 := Lib.hid (rangeAt_blk D2.out.blk)
  have CE := Lib.hid (enc_any cs t w2 (HT.out.keep B2.out) D2.out.tb)
  go_upto_if 34 with (first | (go_at_call 10; refine CE.out.mono ?_; intro e w3 hp; obtain ⟨v, k, rfl, hor, hb3⟩ := hp; have HOR := Lib.hid hor; have B3 : Hid (Below w.heap.size w w3) := Lib.hid (B2.out.trans (hb3.mono B2.out.size)); have D3 := Lib.hid (D2.out.keep hb3); have HB3 : Hid (w.heap.size ≤ w2.heap.size) := Lib.hid B2.out.size; clear hor hb3 B2 D2 RG2 CE) | (with_reducible refine wpList_load_mid rfl _ _ rfl b 0 rfl cs.toList _ RG2.out Tryd.underlying26 rfl li.out ?_))
  go_cut [11, 12] (fun s11 s12 W => ∃ (ta : Tb) (AX : Option Addr) (nx cx : Nat), s11 = .slice AX nx cx ∧ s12 = .int .i64 0 ∧ ImgQ w ta AX nx cx W)
  case first =>
    rcases HOR.out with ⟨hf, rfl, ho⟩ | ⟨hf, rfl⟩
    · obtain ⟨AX, cx, rfl, hcx, _, hrx⟩ := ho.form
      obtain ⟨nx, hnx⟩ : ∃ nx, nx = (encT t).length := ⟨_, rfl⟩
      rw [← hnx] at hrx hcx ⊢
      have HI : Hid (ImgQ w t AX nx cx w3) := Lib.hid ⟨TB0.out.sound, hf, hrx, hcx, hnx, B3.out⟩
      clear HOR ho hf hrx hcx hnx
      go_wp2_with fail
      go_meet
      exact ⟨t, AX, nx, cx, rfl, rfl, HI.out⟩
    · clear HOR hf
      go_upto_region 6 with (first | (go_at_call 18; refine (one_any2 w3).mono ?_; rintro e w4 ⟨cs1, rfl, hb4, htb4⟩; have X4 := Lib.hid htb4; have B4 : Hid (Below w.heap.size w w4) := Lib.hid (B3.out.trans (hb4.mono B3.out.size)); have D4 := Lib.hid (D3.out.keep hb4); have HBL : Hid (b < w3.heap.size) := Lib.hid D3.out.blk.lt; have ds1 : Hid (cs1.size = 259 ∧ cs1.all (·.oneCell') = true) := Lib.hid (tb_size_one (htb4 (fun _ => False) w4 (Chg.refl _ _) (fun _ h => h.elim))); have di1 : Hid ((Tryd.prog.info? 26).map (·.size) = some cs1.size) := Lib.hid (by rw [size259, ds1.out.1]); clear htb4 hb4 B3 D3) | (with_reducible refine wpList_store_mid rfl _ _ _ rfl b 0 cs1 rfl (by first | (simp [Act.eval]; done) | simp [Act.eval, Act.put]) (there_blk D4.out.blk _ (by rw [ds1.out.1, TB0.out.size]; exact Nat.le_refl _)) di1.out ds1.out.2 ?_))
      have hc5 : Chg (fun k => k = b) w4 (w4.setCells b 0 cs1.toList) := Chg.setCells (S := fun k => k = b) _ _ (Chg.refl _ w4) rfl
      have hb5 : Blk (w4.setCells b 0 cs1.toList) b 26 cs1 := Blk.setAll D4.out.blk cs1 (by rw [ds1.out.1, TB0.out.size])
      obtain ⟨w5, hw5⟩ : ∃ w5, w5 = w4.setCells b 0 cs1.toList := ⟨_, rfl⟩
      rw [← hw5] at hc5 hb5 ⊢
      have B5 : Hid (Below w.heap.size w w5) := Lib.hid (B4.out.trans (hc5.below (fun k hk e => by have := HB.out; omega) B4.out.size))
      have T5 : Hid (TB w5 cs1 oneT) := Lib.hid (X4.out (fun k => k = b) w5 hc5 (fun k e => by rw [e]; exact HBL.out))
      have RG5 := Lib.hid (rangeAt_blk hb5)
      have li1 : Hid ((Tryd.prog.info? 26).map (·.size) = some cs1.toList.length) := Lib.hid (by rw [size259, Array.length_toList, ds1.out.1])
      have CE5 := Lib.hid (tencode_ok cs1 oneT w5 (HT.out.keep B5.out) T5.out one_fits)
      clear hw5 hc5 hb5 X4 B4 D4 HBL di1
      go_wp2_with (with_reducible refine wpList_load_mid rfl _ _ rfl b 0 rfl cs1.toList _ RG5.out Tryd.underlying26 rfl li1.out ?_)
      refine CE5.out.mono ?_
      rintro e w6 ⟨v6, rfl, ho6, hb6⟩
      obtain ⟨AX, cx, rfl, hcx, _, hrx⟩ := ho6.form
      obtain ⟨nx, hnx⟩ : ∃ nx, nx = (encT oneT).length := ⟨_, rfl⟩
      rw [← hnx] at hrx hcx ⊢
      have HI : Hid (ImgQ w oneT AX nx cx w6) := Lib.hid ⟨one_sound, one_fits, hrx, hcx, hnx, B5.out.trans (hb6.mono B5.out.size)⟩
      clear CE5 ho6 hrx hcx hnx hb6
      go_wp2_with fail
      go_meet
      exact ⟨oneT, AX, nx, cx, rfl, rfl, HI.out⟩
  case rest =>
    obtain ⟨ta, AX, nx, cx, rfl, rfl, hI⟩ := hcut
    obtain ⟨hsa, hfa, hrx, hcx, hnx, hbx⟩ := hI
    have hnl := encT_length hsa.hc hfa
    have hle := rows_le hfa.n2 hfa.m2
    have hx1 : 13 ≤ nx := by omega
    have hx9 : nx ≤ 2130194 := by omega
    obtain ⟨w3', hw3⟩ : ∃ w3, w3 = wc := ⟨_, rfl⟩
    subst hw3
    have RX3 := Lib.hid hrx; have NX := Lib.hid hnx; have SA := Lib.hid (And.intro hsa hfa); have B3' := Lib.hid hbx
    clear hsa hfa hrx hnx hbx hnl hle HOR B3 D3 HB3 li
    have tz : ((nx : Int) == 0) = false := by simp; omega
    have tw : RowKit.wrap64 (8 * (nx : Int)) = (8 * (nx : Int)) := by unfold RowKit.wrap64; omega
    go_upto_if 55 with fail
    go_cut [14] (fun s wx => (∃ f : Nat, f < 8 * nx ∧ s = .int .i64 (f : Int)) ∧ wx = w3')
    case first =>
      have hr1 : at_.tmod (8 * (nx : Int)) < (8 * (nx : Int)) := Int.tmod_lt_of_pos _ (by omega)
      have hr2 : -(8 * (nx : Int)) < at_.tmod (8 * (nx : Int)) := Int.lt_tmod_of_pos _ (by omega)
      obtain ⟨r, hr⟩ : ∃ r, r = at_.tmod (8 * (nx : Int)) := ⟨_, rfl⟩
      rw [← hr] at hr1 hr2 ⊢
      clear hr
      by_cases hneg : r < 0
      · obtain ⟨k, rfl⟩ : ∃ k : Nat, r = -(k : Int) := ⟨(-r).toNat, by omega⟩
        go_wp2_with fail
        go_meet
        exact ⟨⟨k, by omega, by simp⟩, rfl⟩
      · obtain ⟨k, rfl⟩ := Int.eq_ofNat_of_zero_le (show 0 ≤ r by omega)
        go_wp2_with fail
        go_meet
        exact ⟨⟨k, by omega, rfl⟩, rfl⟩
    case rest =>
      obtain ⟨⟨f, hf, rfl⟩, hcut⟩ := hcut
      rw [hcut]
      clear hcut wc tw tz
      have HL0 := Lib.hid (show ([] : List UInt8).length + nx ≤ 140737488355328 from by simp; omega)
      go_wp2_with ((at_builtin; go_must (refine append_bytes rfl (.tmp 58) (.tmp 59) rfl w.heap.size (.slice none 0 0) [] rfl (OB.nil w3' w.heap.size) AX nx cx (encT ta) rfl RX3.out HL0.out B3'.out.size ?_); intro v4 w4 ho4 hg4 ha4; refine halt ?_))
      refine unhalt ?_
      have B4 : Hid (Below w.heap.size w w4) := Lib.hid (B3'.out.grown hg4 B3'.out.size (fun q hq => by cases hq))
      have hb34 : Below w3'.heap.size w3' w4 := (Below.refl _ _).grown hg4 (Nat.le_refl _) (fun q hq => by cases hq)
      have RX4 := Lib.hid (RX3.out.keep hb34)
      rw [List.nil_append] at ho4
      obtain ⟨D, dc, rfl, hdc, hdl, hdr⟩ := ho4.form
      clear hdl hdr
      rw [← NX.out] at hdc ho4 ⊢
      have hD : ∃ g, D = some ⟨g, 0, none⟩ := by
        rcases ho4.2 with ⟨e, _⟩ | ⟨g, cap, cur, e, _⟩
        · injection e with _ e2 _; omega
        · injection e with e _ _; exact ⟨g, e⟩
      obtain ⟨g, rfl⟩ := hD
      have O4 := Lib.hid ho4
      have hgw3' : g = w3'.heap.size := by
        rcases ha4 with h | h
        · cases h
        · exact Option.some.inj h
      have HAG : Hid (∀ ad, AX = some ad → ad.block ≠ g) := Lib.hid (fun ad e h => by
        obtain ⟨b, off, e2, hb, _⟩ := RX3.out.2 (by omega)
        rw [e] at e2
        obtain rfl := Option.some.inj e2
        have h : b = g := h
        omega)
      have HGW : Hid (w.heap.size ≤ g) := Lib.hid (by rw [hgw3']; exact B3'.out.size)
      clear ho4 hg4 ha4 hb34 HL0 RX3 B3' hgw3'
      have HLF := Lib.hid (fun k => (flips_length (encT ta) (f : Int) mask k).trans NX.out.symm)
      go_upto_block 0 with fail
      go_cut [16, 17] (fun t i W => t = .bool (flips (encT ta) (f : Int) mask 32).2 ∧ Hid (OB W w.heap.size (.slice (some ⟨g, 0, none⟩) nx dc) (flips (encT ta) (f : Int) mask 32).1) ∧ Hid (Chg (fun q => q = g) w4 W))
      case first =>
        go_wp2_with fail
        go_loopw [16, 17] (fun t i W => ∃ k : Nat, k ≤ 32 ∧ i = .int .i64 k ∧ t = .bool (flips (encT ta) (f : Int) mask k).2 ∧ OB W w.heap.size (.slice (some ⟨g, 0, none⟩) nx dc) (flips (encT ta) (f : Int) mask k).1 ∧ Hid (Chg (fun q => q = g) w4 W)) (fun _ i _ => 32 - (intOf i).toNat)
        case atStart => exact ⟨0, by omega, rfl, rfl, O4.out, Lib.hid (Chg.refl _ _)⟩
        case round =>
          obtain ⟨k, hk, rfl, rfl, ho, HCH⟩ := hrel
          have hlen := HLF.out k
          have hbit : bits .and .u32 ((mask : Int) / 2 ^ k) 1 = ((mask / 2 ^ k % 2 : Nat) : Int) := by
            have h := u32_and_nat (mask / 2 ^ k) 1 (Nat.lt_of_le_of_lt (Nat.div_le_self _ _) HS.out) (by omega)
            rw [nat_mask1] at h
            rw [← h]; congr 1
          by_cases hlt : k < 32
          · by_cases hin : f + k < 8 * nx
            · by_cases hm : mask / 2 ^ k % 2 = 1
              · have hc : flipIf (encT ta) (f : Int) mask k = true := by
                  unfold flipIf
                  rw [decide_eq_true_eq]
                  exact ⟨by omega, by rw [← NX.out]; omega, hm⟩
                rw [hm] at hbit
                have hbit' : bits .and .u32 ((mask : Int) / 2 ^ k) 1 = 1 := hbit
                clear hbit
                have HC := Lib.hid hc; clear hc
                have HM1 := Lib.hid hm; clear hm
                have hgt : (flips (encT ta) (f : Int) mask k).1[(f + k) / 8]? = some ((flips (encT ta) (f : Int) mask k).1.getD ((f + k) / 8) 0) := by
                  rw [List.getD_eq_getElem?_getD, List.getElem?_eq_getElem (by rw [hlen]; omega)]; rfl
                clear hlen
                have hcell := ho.cellAt hgt
                have hfr := ho.frozenAt ((f + k) / 8)
                have hxb := xor_bit ((flips (encT ta) (f : Int) mask k).1.getD ((f + k) / 8) 0) ((f + k) % 8) (by omega)
                have hsto := ho.stored ((f + k) / 8) (UInt8.ofNat (((flips (encT ta) (f : Int) mask k).1.getD ((f + k) / 8) 0).toNat ^^^ 2 ^ ((f + k) % 8)))
                have hstep : flips (encT ta) (f : Int) mask (k + 1) = ((flips (encT ta) (f : Int) mask k).1.set ((f + k) / 8) (UInt8.ofNat (((flips (encT ta) (f : Int) mask k).1.getD ((f + k) / 8) 0).toNat ^^^ 2 ^ ((f + k) % 8))), true) := by
                  rw [flips, if_pos HC.out]
                  unfold flipBit
                  rw [show ((f : Int) + k).toNat = f + k from by omega]
                generalize UInt8.ofNat (((flips (encT ta) (f : Int) mask k).1.getD ((f + k) / 8) 0).toNat ^^^ 2 ^ ((f + k) % 8)) = c' at *
                have HS1 := Lib.hid hsto; clear hsto
                have HT' := Lib.hid hstep; clear hstep
                have tin : ((f : Int) + (k : Int)) < 8 * (nx : Int) := by omega
                clear hgt ho
                generalize (flips (encT ta) (f : Int) mask k).1.getD ((f + k) / 8) 0 = c at *
                have hcb := c.toNat_lt
                go_wp2_with fail
                go_region
                go_wp2_with fail
                go_roundw
                case rel => exact ⟨k + 1, by omega, by go_num, by rw [HT'.out], by rw [HT'.out]; exact HS1.out.1.drew, Lib.hid (Chg.drew (HCH.out.setCell (.inl rfl) _))⟩
                case measure => simp [intOf]; omega
              · have hm0 : mask / 2 ^ k % 2 = 0 := by
                  rcases Nat.mod_two_eq_zero_or_one (mask / 2 ^ k) with h | h
                  · exact h
                  · exact absurd h hm
                have hc : ¬ flipIf (encT ta) (f : Int) mask k = true := by
                  unfold flipIf
                  rw [decide_eq_true_eq]
                  exact fun h => hm h.2.2
                have hstep : flips (encT ta) (f : Int) mask (k + 1) = flips (encT ta) (f : Int) mask k := by rw [flips, if_neg hc]
                have HT' := Lib.hid hstep
                rw [hm0] at hbit
                have hbit' : bits .and .u32 ((mask : Int) / 2 ^ k) 1 = 0 := hbit
                have HO := Lib.hid ho
                have tin : ((f : Int) + (k : Int)) < 8 * (nx : Int) := by omega
                clear hbit hm hm0 hc hstep hlen ho
                go_wp2_with fail
                go_roundw
                case rel => exact ⟨k + 1, by omega, by go_num, by rw [HT'.out], by rw [HT'.out]; exact HO.out, HCH⟩
                case measure => simp [intOf]; omega
            · have he : flips (encT ta) (f : Int) mask 32 = flips (encT ta) (f : Int) mask k := by
                have := flips_end (encT ta) f mask k (by rw [← NX.out]; omega) (32 - k)
                rwa [show k + (32 - k) = 32 from by omega] at this
              have HE := Lib.hid he
              have HO := Lib.hid ho
              have tin : ¬ (((f : Int) + (k : Int)) < 8 * (nx : Int)) := by omega
              clear hbit hlen ho he
              go_wp2_with fail
              go_meet
              exact ⟨by rw [HE.out], Lib.hid (by rw [HE.out]; exact HO.out), HCH⟩
          · obtain rfl : k = 32 := by omega
            have HO := Lib.hid ho
            clear hbit hlen ho
            go_wp2_with fail
            go_meet
            exact ⟨rfl, HO, HCH⟩
      case rest =>
        obtain ⟨rfl, O5, C5⟩ := hcut
        have B5 : Hid (Below w.heap.size w wc) := Lib.hid (B4.out.trans (C5.out.below (B := w.heap.size) (fun q hq e => by subst e; have := HGW.out; omega) B4.out.size))
        have RX5 : Hid (RB wc AX nx (encT ta)) := Lib.hid (C5.out.rb RX4.out (fun _ ad e h => HAG.out ad e h))
        clear C5 B4 RX4 HAG
        obtain ⟨b2, hb2⟩ : ∃ b2, b2 = (flips (encT ta) (f : Int) mask 32).1 := ⟨_, rfl⟩
        obtain ⟨ch, hch⟩ : ∃ ch, ch = (flips (encT ta) (f : Int) mask 32).2 := ⟨_, rfl⟩
        have hlaw1 : ch = true → ¬ IsEnc b2 := fun h => by rw [hb2]; exact spoilt_burst ta f mask (by rw [← hch]; exact h)
        have hlaw2 : ch = false → b2 = encT ta := fun h => by rw [hb2]; exact flips_same (encT ta) f mask 32 (by rw [← hch]; exact h)
        rw [← hb2] at O5
        rw [← hch]
        have L1 := Lib.hid hlaw1; have L2 := Lib.hid hlaw2
        clear hb2 hch hlaw1 hlaw2
        obtain ⟨w5, hw5⟩ : ∃ w5, w5 = wc := ⟨_, rfl⟩
        subst hw5
        have T5 := Lib.hid (HT.out.keep B5.out)
        have zD := ZS
        go_upto_region 22 with fail
        go_cut [18, 19] (fun s18 s19 W => Below w5.heap.size w5 W ∧ ∃ bz, s18 = .pointer (some ⟨bz, 0, none⟩) ∧ ((ch = true ∧ s19 = .int .i64 120 ∧ W.cell? ⟨bz, 256, none⟩ = some (.slice none 0 0)) ∨ (ch = false ∧ s19 = .int .i64 0)))
        case first =>
          cases ch with
          | true =>
            have DN := Lib.hid (decode_none (some ⟨g, 0, none⟩) nx dc b2 w5 T5.out O5.out.rb (by omega) (L1.out rfl))
            go_wp2_with fail
            refine DN.out.mono ?_
            rintro e w6 ⟨rfl, hb6⟩
            rw [← HZC.out]
            have zA : Hid (Blk (w6.alloc (.cells zc 26)) w6.heap.size 26 zc) := Lib.hid (Blk.new _ _ _ rfl)
            have zS : Hid (Blk ((w6.alloc (.cells zc 26)).setCells w6.heap.size 0 zc.toList) w6.heap.size 26 zc) := Lib.hid (Blk.setAll zA.out zc rfl)
            have zI : Hid ((Tryd.prog.info? 26).map (·.size) = some zc.size) := Lib.hid (by rw [size259, zD.out.1])
            have zB : Hid (Below w6.heap.size w6 ((w6.alloc (.cells zc 26)).setCells w6.heap.size 0 zc.toList)) := Lib.hid ((below_alloc _ _).trans ((Chg.setCells (S := fun b => b = w6.heap.size) zc.toList 0 (Chg.refl (fun b => b = w6.heap.size) (w6.alloc (.cells zc 26))) rfl).below (fun k hk e => by omega) (by simp)))
            have HB6 := Lib.hid hb6
            clear hb6
            go_wp2_with (with_reducible refine wpList_store_mid rfl _ _ _ rfl w6.heap.size 0 zc rfl (by first | (simp [Act.eval]; done) | simp [Act.eval, Act.put]) (there_blk zA.out _ (Nat.le_refl _)) zI.out zD.out.2 ?_)
            have cz : ((w6.alloc (.cells zc 26)).setCells w6.heap.size 0 zc.toList).cell? ⟨w6.heap.size, 256, none⟩ = some (.slice none 0 0) := (zS.out.cell 256).trans (by rw [HZC.out]; exact dcells_nx zlen)
            go_meet
            exact ⟨HB6.out.trans (zB.out.mono HB6.out.size), _, rfl, .inl (by first | exact ⟨rfl, rfl, cz⟩ | exact ⟨trivial, rfl, cz⟩ | exact ⟨rfl, cz⟩)⟩
          | false =>
            have DN := Lib.hid (decode_yes (some ⟨g, 0, none⟩) nx dc w5 T5.out SA.out.1 SA.out.2 (by rw [← L2.out rfl]; exact O5.out.rb))
            go_wp2_with fail
            refine DN.out.mono ?_
            intro e w6 hs6
            obtain ⟨cs6, rfl, htb6, hb6⟩ := hs6.tb SA.out.1 SA.out.2
            have yD := Lib.hid (tb_size_one htb6)
            have yA : Hid (Blk (w6.alloc (.cells zc 26)) w6.heap.size 26 zc) := Lib.hid (Blk.new _ _ _ rfl)
            have yS : Hid (Blk ((w6.alloc (.cells zc 26)).setCells w6.heap.size 0 cs6.toList) w6.heap.size 26 cs6) := Lib.hid (Blk.setAll yA.out cs6 (by rw [yD.out.1, ZS.out.1]))
            have yI : Hid ((Tryd.prog.info? 26).map (·.size) = some cs6.size) := Lib.hid (by rw [size259, yD.out.1])
            have yB : Hid (Below w6.heap.size w6 ((w6.alloc (.cells zc 26)).setCells w6.heap.size 0 cs6.toList)) := Lib.hid ((below_alloc _ _).trans ((Chg.setCells (S := fun b => b = w6.heap.size) cs6.toList 0 (Chg.refl (fun b => b = w6.heap.size) (w6.alloc (.cells zc 26))) rfl).below (fun k hk e => by omega) (by simp)))
            have HB6 := Lib.hid hb6
            clear hb6 hs6 htb6
            go_wp2_with (with_reducible refine wpList_store_mid rfl _ _ _ rfl w6.heap.size 0 cs6 rfl (by first | (simp [Act.eval]; done) | simp [Act.eval, Act.put]) (there_blk yA.out _ (by rw [yD.out.1, ZS.out.1]; exact Nat.le_refl _)) yI.out yD.out.2 ?_)
            go_meet
            exact ⟨HB6.out.trans (yB.out.mono HB6.out.size), _, rfl, .inr (by first | exact ⟨rfl, rfl⟩ | exact ⟨trivial, rfl⟩ | rfl)⟩
        case rest =>
          obtain ⟨hb6, bz, rfl, hcut⟩ := hcut
          have B6 : Hid (Below w.heap.size w wc) := Lib.hid (B5.out.trans (hb6.mono B5.out.size)); have RX6 := Lib.hid (RX5.out.keep hb6)
          have HCUT := Lib.hid hcut
          clear hb6 hcut B5 RX5 O5 T5 L1 L2
          obtain ⟨w6, hw6⟩ : ∃ w6, w6 = wc := ⟨_, rfl⟩
          subst hw6
          go_upto_region 23 with fail
          go_cut [119] (fun s wx => s = .bool false ∧ wx = w6)
          case first =>
            rcases HCUT.out with ⟨rfl, rfl, cz⟩ | ⟨rfl, rfl⟩
            · clear HCUT
              go_wp2_with fail
              go_meet
              exact ⟨rfl, rfl⟩
            · clear HCUT
              go_wp2_with fail
              go_meet
              exact ⟨rfl, rfl⟩
          case rest =>
            obtain ⟨rfl, hcut⟩ := hcut
            rw [hcut]
            clear hcut HCUT wc
            have tz : ((nx : Int) == 0) = false := by simp; omega
            go_upto_if 125 with fail
            go_cut [20] (fun s wx => (∃ n : Nat, n < nx ∧ s = .int .i64 (n : Int)) ∧ wx = w6)
            case first =>
              have hr1 : cut.tmod (nx : Int) < (nx : Int) := Int.tmod_lt_of_pos _ (by omega)
              have hr2 : -(nx : Int) < cut.tmod (nx : Int) := Int.lt_tmod_of_pos _ (by omega)
              obtain ⟨r, hr⟩ : ∃ r, r = cut.tmod (nx : Int) := ⟨_, rfl⟩
              rw [← hr] at hr1 hr2 ⊢
              clear hr
              by_cases hneg : r < 0
              · obtain ⟨k, rfl⟩ : ∃ k : Nat, r = -(k : Int) := ⟨(-r).toNat, by omega⟩
                go_wp2_with fail
                go_meet
                exact ⟨⟨k, by omega, by simp⟩, rfl⟩
              · obtain ⟨k, rfl⟩ := Int.eq_ofNat_of_zero_le (show 0 ≤ r by omega)
                go_wp2_with fail
                go_meet
                exact ⟨⟨k, by omega, rfl⟩, rfl⟩
            case rest =>
              obtain ⟨⟨n, hn, rfl⟩, hcut⟩ := hcut
              rw [hcut]
              clear hcut wc tz
              have SC := Lib.hid (spoilt_cut SA.out.1 SA.out.2 n (by rw [← NX.out]; exact hn))
              have hncx : n ≤ cx := by omega
              have DN := Lib.hid (decode_none AX n cx ((encT ta).take n) w6 (HT.out.keep B6.out) (RX6.out.take (by omega)) (by omega) SC.out)
              go_wp2_with fail
              refine DN.out.mono ?_
              rintro e w7 ⟨rfl, hb7⟩
              rw [← HZC.out]
              have zA : Hid (Blk (w7.alloc (.cells zc 26)) w7.heap.size 26 zc) := Lib.hid (Blk.new _ _ _ rfl)
              have zS : Hid (Blk ((w7.alloc (.cells zc 26)).setCells w7.heap.size 0 zc.toList) w7.heap.size 26 zc) := Lib.hid (Blk.setAll zA.out zc rfl)
              have zI : Hid ((Tryd.prog.info? 26).map (·.size) = some zc.size) := Lib.hid (by rw [size259, zD.out.1])
              have zB : Hid (Below w7.heap.size w7 ((w7.alloc (.cells zc 26)).setCells w7.heap.size 0 zc.toList)) := Lib.hid ((below_alloc _ _).trans ((Chg.setCells (S := fun b => b = w7.heap.size) zc.toList 0 (Chg.refl (fun b => b = w7.heap.size) (w7.alloc (.cells zc 26))) rfl).below (fun k hk e => by omega) (by simp)))
              have HB7 := Lib.hid hb7
              clear hb7 DN
              go_upto_region 29 with (with_reducible refine wpList_store_mid rfl _ _ _ rfl w7.heap.size 0 zc rfl (by first | (simp [Act.eval]; done) | simp [Act.eval, Act.put]) (there_blk zA.out _ (Nat.le_refl _)) zI.out zD.out.2 ?_)
              obtain ⟨w8, hw8⟩ : ∃ w8, w8 = (w7.alloc (.cells zc 26)).setCells w7.heap.size 0 zc.toList := ⟨_, rfl⟩
              have hb8 : Below w6.heap.size w6 w8 := by rw [hw8]; exact HB7.out.trans (zB.out.mono HB7.out.size)
              have B8 : Hid (Below w.heap.size w w8) := Lib.hid (B6.out.trans (hb8.mono B6.out.size))
              have RX8 := Lib.hid (RX6.out.keep hb8)
              rw [← hw8]
              clear hw8 hb8 B6 RX6 HB7 zA zS zI zB
              have HL0 := Lib.hid (show ([] : List UInt8).length + nx ≤ 140737488355328 from by simp; omega)
              go_wp2_with ((at_builtin; go_must (refine append_bytes rfl (.tmp 135) (.tmp 136) rfl w.heap.size (.slice none 0 0) [] rfl (OB.nil w8 w.heap.size) AX nx cx (encT ta) rfl RX8.out HL0.out B8.out.size ?_); intro v9 w9 ho9 hg9 ha9; refine halt ?_))
              refine unhalt ?_
              have B9 : Hid (Below w.heap.size w w9) := Lib.hid (B8.out.grown hg9 B8.out.size (fun q hq => by cases hq))
              rw [List.nil_append] at ho9
              have O9 := Lib.hid ho9
              have HM9 := Lib.hid (HM.out.keep B9.out)
              clear ho9 hg9 ha9
              have HL1 := Lib.hid (show (encT ta).length + n4 ≤ 141836999983104 from by rw [← NX.out]; omega)
              go_wp2_with ((at_builtin; go_must (refine append_bytes_big rfl (.tmp 139) (.tmp 140) rfl w.heap.size v9 (encT ta) rfl O9.out A4 n4 c4 more rfl HM9.out HL1.out B9.out.size ?_); intro v10 w10 ho10 hg10 ha10; refine halt ?_))
              refine unhalt ?_
              have B10 : Hid (Below w.heap.size w w10) := Lib.hid (B9.out.grown hg10 B9.out.size (fun q hq => (O9.out.lt q hq).1))
              have T10 := Lib.hid (HT.out.keep B10.out)
              obtain ⟨D2, dc2, rfl, hdc2, _, hr10⟩ := ho10.form
              have hml := HM.out.1
              have hle : (encT ta ++ more).length = nx + n4 := by rw [List.length_append, ← NX.out, hml]
              rw [hle] at hdc2 hr10 ⊢
              have R10 := Lib.hid hr10
              clear ho10 hg10 ha10 hr10 hle
              by_cases hmo : more = []
              · subst hmo
                obtain rfl : n4 = 0 := hml.symm
                have hr := R10.out
                rw [List.append_nil] at hr
                have DN := Lib.hid (decode_yes D2 (nx + 0) dc2 w10 T10.out SA.out.1 SA.out.2 hr)
                clear hr hml
                go_wp2_with fail
                refine DN.out.mono ?_
                intro e w11 hs6
                obtain ⟨cs6, rfl, htb6, hb6⟩ := hs6.tb SA.out.1 SA.out.2
                have yD := Lib.hid (tb_size_one htb6)
                have yA : Hid (Blk (w11.alloc (.cells zc 26)) w11.heap.size 26 zc) := Lib.hid (Blk.new _ _ _ rfl)
                have yS : Hid (Blk ((w11.alloc (.cells zc 26)).setCells w11.heap.size 0 cs6.toList) w11.heap.size 26 cs6) := Lib.hid (Blk.setAll yA.out cs6 (by rw [yD.out.1, ZS.out.1]))
                have yI : Hid ((Tryd.prog.info? 26).map (·.size) = some cs6.size) := Lib.hid (by rw [size259, yD.out.1])
                have yB : Hid (Below w11.heap.size w11 ((w11.alloc (.cells zc 26)).setCells w11.heap.size 0 cs6.toList)) := Lib.hid ((below_alloc _ _).trans ((Chg.setCells (S := fun b => b = w11.heap.size) cs6.toList 0 (Chg.refl (fun b => b = w11.heap.size) (w11.alloc (.cells zc 26))) rfl).below (fun k hk e => by omega) (by simp)))
                have HB6 : Hid (Below w.heap.size w w11) := Lib.hid (B10.out.trans (hb6.mono B10.out.size))
                clear hb6 hs6 htb6
                go_wp2_with (with_reducible refine wpList_store_mid rfl _ _ _ rfl w11.heap.size 0 cs6 rfl (by first | (simp [Act.eval]; done) | simp [Act.eval, Act.put]) (there_blk yA.out _ (by rw [yD.out.1, ZS.out.1]; exact Nat.le_refl _)) yI.out yD.out.2 ?_)
                go_ret
                exact ⟨rfl, HB6.out.trans (yB.out.mono HB6.out.size)⟩
              · have hn40 : ((n4 : Int) == 0) = false := by
                  have : 0 < more.length := List.length_pos_iff.2 hmo
                  simp; omega
                have hsm := spoilt_more SA.out.1 SA.out.2 more hmo
                have DN := Lib.hid (decode_none D2 (nx + n4) dc2 (encT ta ++ more) w10 T10.out R10.out (by omega) hsm)
                clear hsm hmo hml
                go_wp2_with fail
                refine DN.out.mono ?_
                rintro e w11 ⟨rfl, hb6⟩
                rw [← HZC.out]
                have zA : Hid (Blk (w11.alloc (.cells zc 26)) w11.heap.size 26 zc) := Lib.hid (Blk.new _ _ _ rfl)
                have zS : Hid (Blk ((w11.alloc (.cells zc 26)).setCells w11.heap.size 0 zc.toList) w11.heap.size 26 zc) := Lib.hid (Blk.setAll zA.out zc rfl)
                have zI : Hid ((Tryd.prog.info? 26).map (·.size) = some zc.size) := Lib.hid (by rw [size259, zD.out.1])
                have zB : Hid (Below w11.heap.size w11 ((w11.alloc (.cells zc 26)).setCells w11.heap.size 0 zc.toList)) := Lib.hid ((below_alloc _ _).trans ((Chg.setCells (S := fun b => b = w11.heap.size) zc.toList 0 (Chg.refl (fun b => b = w11.heap.size) (w11.alloc (.cells zc 26))) rfl).below (fun k hk e => by omega) (by simp)))
                have HB6 : Hid (Below w.heap.size w w11) := Lib.hid (B10.out.trans (hb6.mono B10.out.size))
                clear hb6
                go_wp2_with (with_reducible refine wpList_store_mid rfl _ _ _ rfl w11.heap.size 0 zc rfl (by first | (simp [Act.eval]; done) | simp [Act.eval, Act.put]) (there_blk zA.out _ (Nat.le_refl _)) zI.out zD.out.2 ?_)
                go_ret
                exact ⟨rfl, HB6.out.trans (zB.out.mono HB6.out.size)⟩
end Go.Proofs.YtnglgppdkohhpaaDoor
