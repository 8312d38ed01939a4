/- THE WALK of the law CkptDecodes. -/
import Derived.Test.YtpeaacbbfkanmaaDoorCkptDecAll
import Derived.Test.YtpeaacbbfkanmaaDoorCkptEncodes
import Derived.BigQuiet
namespace Go.Proofs.YtpeaacbbfkanmaaDoor
open Go.RowKit
theorem quiet3 {P : Program} {f : FuncId} {args : Array Value} {w : World} {n : Nat} {v : Value} (h : Calls P f args (w.drewN n) fun e w' => e = .returned v ∧ ∃ m, w' = (w.drewN n).drewN m) :
    Calls P f args (w.drewN n) fun e w'' => e = .returned v ∧ ∃ m, w'' = w.drewN m := h.mono fun _ _ ⟨he, m, hm⟩ => ⟨he, n + m, hm.trans (by simp)⟩
set_option maxRecDepth 100000 in
set_option maxHeartbeats 8000000 in
theorem decodes_any (A0 : Option Addr) (n0 c0 : Nat) (b : List UInt8) (many : Int) (w : World) (hT : CrcTab w) (hr : RB w A0 n0 b) (hc : n0 ≤ c0) (hn : n0 ≤ 140737488351232) :
    Calls Tryd.prog 4 #[.slice A0 n0 c0, .int .i64 many] w (EPost w) := by
  have hln := hr.1
  have HR := Lib.hid hr; have HT := Lib.hid hT; have HLN := Lib.hid hln
  clear hr hT hln
  go_enter Tryd.func4, Tryd.ntmps4
  go_wp2_with fail
  refine (known_any _ HT.out).mono ?_
  rintro e w1 ⟨rfl, hb1⟩
  have B1 := Lib.hid hb1; have R1 := Lib.hid (HR.out.keep hb1)
  clear hb1
  go_wp2_with fail
  refine (refDec_all A0 n0 c0 b many _ R1.out hc (by omega)).mono ?_
  intro e w2 hpost
  obtain ⟨v5, rfl, ho5, hb2⟩ := hpost
  have B2 := Lib.hid (B1.out.trans (hb2.mono B1.out.size)); have R2 := Lib.hid (R1.out.keep hb2)
  obtain ⟨L, hL⟩ : ∃ L, L = decL b many := ⟨_, rfl⟩
  obtain ⟨er, hEr⟩ : ∃ er, er = decE b many := ⟨_, rfl⟩
  rw [← hL] at ho5
  rw [← hEr]
  have HL := Lib.hid hL; have HER := Lib.hid hEr
  obtain ⟨A5, c5, rfl, hc5, _, _⟩ := ho5.form
  obtain ⟨nl, hnl⟩ : ∃ nl, nl = L.length := ⟨_, rfl⟩
  have nlE := Lib.hid hnl
  have nlB : Hid (nl ≤ 8) := Lib.hid (by rw [hnl, hL]; exact decL_len b many)
  have hnlb := nlB.out
  rw [← hnl] at ho5 hc5 ⊢
  have V2 := Lib.hid ho5
  have S1 := Lib.hid B2.out.size
  clear hL hEr hnl ho5 hb2 R1 B1
  have HL0 := Lib.hid (show ([] : List UInt8).length + n0 ≤ 140737488355328 from by simp; omega)
  go_wp2_with ((at_builtin; go_must (refine append_bytes rfl (.tmp 25) (.tmp 26) rfl w2.heap.size (.slice none 0 0) [] rfl (OB.nil w2 w2.heap.size) A0 n0 c0 b rfl R2.out HL0.out (Nat.le_refl _) ?_); intro v7 w3 ho7 hg7 ha7; refine halt ?_))
  refine unhalt ?_
  have hb3 : Below w2.heap.size w2 w3 := (Below.refl _ _).grown hg7 (Nat.le_refl _) (fun q hq => by cases hq)
  rw [List.nil_append] at ho7
  have hb4 : Below w3.heap.size w3 (w3.alloc (.cells #[.int .u8 165] 5)) := (Below.refl _ _).alloc (Nat.le_refl _) _
  have O4 : Hid (OB (w3.alloc (.cells #[.int .u8 165] 5)) w2.heap.size v7 b) := Lib.hid (ho7.keep hb4)
  have R4 : Hid (RB (w3.alloc (.cells #[.int .u8 165] 5)) (some ⟨w3.heap.size, 0, none⟩) 1 [165]) := Lib.hid (RB.new' w3 5 (0, 0) #[.int .u8 165] [165] rfl 1 w3.heap.size rfl rfl)
  have B4 : Hid (Below w2.heap.size w2 (w3.alloc (.cells #[.int .u8 165] 5))) := Lib.hid (hb3.trans (hb4.mono hb3.size))
  have HL1 := Lib.hid (show b.length + 1 ≤ 140737488355328 from by rw [HLN.out]; omega)
  clear ho7 hg7 ha7 hb3 hb4 HL0
  go_wp2_with ((at_builtin; go_must (refine append_bytes rfl (.tmp 28) (.tmp 29) rfl w2.heap.size v7 b rfl O4.out (some ⟨w3.heap.size, 0, none⟩) 1 1 [165] rfl R4.out HL1.out B4.out.size ?_); intro v8 w4 ho8 hg8 ha8; refine halt ?_))
  refine unhalt ?_
  have hb5 : Below w2.heap.size w2 w4 := B4.out.grown hg8 B4.out.size (fun q hq => (O4.out.lt q hq).1)
  obtain ⟨bf, hbf⟩ : ∃ bf, bf = b ++ [165] := ⟨_, rfl⟩
  rw [← hbf] at ho8
  obtain ⟨A7, c7, rfl, hc7, _, _⟩ := ho8.form
  have hbl : bf.length = n0 + 1 := by rw [hbf, List.length_append, HLN.out]; rfl
  rw [hbl] at hc7 ho8 ⊢
  obtain ⟨g7, rfl⟩ := ob_some ho8 (by omega)
  have O5 := Lib.hid ho8; have HBF := Lib.hid hbf; have HBL := Lib.hid hbl
  have V4 := Lib.hid (V2.out.keep hb5); have B5 := Lib.hid (B2.out.trans (hb5.mono B2.out.size)); have R5 := Lib.hid (R2.out.keep hb5)
  have S2 := Lib.hid hb5.size
  have HG7 : Hid (w2.heap.size ≤ g7 ∧ g7 < w4.heap.size) := Lib.hid (ho8.lt g7 rfl)
  have hrb := fun (W : World) (q : List UInt8) (h : OB W w2.heap.size (.slice (some ⟨g7, 0, none⟩) (n0 + 1) c7) q) => h.rb.take (k := n0) (by omega)
  have HRB := Lib.hid hrb
  have htk : bf.take n0 = b := by rw [hbf]; exact List.take_left' HLN.out
  have HTK := Lib.hid htk
  have hr5 : RB w4 (some ⟨g7, 0, none⟩) n0 b := by have := HRB.out w4 bf ho8; rwa [htk] at this
  have hc07 : n0 ≤ c7 := by omega
  have EX := Lib.hid (dec_all (some ⟨g7, 0, none⟩) n0 c7 b many w4 (HT.out.keep B5.out) hr5 hc07 (by omega))
  clear ho8 hg8 ha8 hb5 hbf hbl hrb htk hr5 O4 R4 B4 R2 B2 HL1
  go_wp2_with fail
  refine EX.out.mono ?_
  intro e w5 hpost
  obtain ⟨vx, rfl, hox, hb6⟩ := hpost
  rw [← HL.out] at hox
  rw [← HER.out]
  obtain ⟨A8, c8, rfl, hc8, _, _⟩ := hox.form
  rw [← nlE.out] at hox hc8 ⊢
  have OX5 := Lib.hid hox
  have O6 := Lib.hid (O5.out.keep hb6); have V5 := Lib.hid (V4.out.keep hb6); have B6 := Lib.hid (B5.out.trans (hb6.mono B5.out.size)); have R6 := Lib.hid (R5.out.keep hb6)
  have S3 := Lib.hid hb6.size
  have hr6 : RB w5 (some ⟨g7, 0, none⟩) n0 b := by have := HRB.out w5 bf O6.out; rwa [HTK.out] at this
  have EY := Lib.hid (dec_all (some ⟨g7, 0, none⟩) n0 c7 b many w5 (HT.out.keep B6.out) hr6 hc07 (by omega))
  clear hox hb6 EX O5 V4 R5 hr6
  go_wp2_with fail
  refine EY.out.mono ?_
  intro e w6 hpost
  obtain ⟨vy, rfl, hoy, hb7⟩ := hpost
  rw [← HL.out] at hoy
  rw [← HER.out]
  obtain ⟨A10, c10, rfl, hc10, _, _⟩ := hoy.form
  rw [← nlE.out] at hoy hc10 ⊢
  have OY6 := Lib.hid hoy
  have OX6 := Lib.hid (OX5.out.keep hb7)
  have O7 := Lib.hid (O6.out.keep hb7); have V6 := Lib.hid (V5.out.keep hb7); have B7 := Lib.hid (B6.out.trans (hb7.mono B6.out.size)); have R7 := Lib.hid (R6.out.keep hb7)
  have S4 := Lib.hid hb7.size
  have hr7 : RB w6 (some ⟨g7, 0, none⟩) n0 b := by have := HRB.out w6 bf O7.out; rwa [HTK.out] at this
  have q1 : ∀ k, (convert 24 9 (.slice (some ⟨g7, 0, none⟩) n0 c7)).run Tryd.prog (w6.drewN k) = .ok (.string (strOf b)) (w6.drewN k) := fun k => conv_bytes (w6.drewN k) (some ⟨g7, 0, none⟩) n0 c7 b (hr7.drewN k)
  have q2 : ∀ k, (convert 24 9 (.slice A0 n0 c0)).run Tryd.prog (w6.drewN k) = .ok (.string (strOf b)) (w6.drewN k) := fun k => conv_bytes (w6.drewN k) A0 n0 c0 b (R7.out.drewN k)
  have hss : sameB L L = true := (sameB_iff L L).2 rfl
  have hs1 := fun k => same_any A8 A5 nl nl c8 c5 L L (w6.drewN k) (om_ms OX6.out) (om_ms V6.out) (by omega) (by omega) hc8 hc5
  have hs2 := fun k => same_any A10 A5 nl nl c10 c5 L L (w6.drewN k) (om_ms OY6.out) (om_ms V6.out) (by omega) (by omega) hc10 hc5
  rw [hss] at hs1 hs2
  unfold SamePost at hs1 hs2
  have SM1 := Lib.hid hs1; have SM2 := Lib.hid hs2
  have c165 : w6.cell? ⟨g7, n0, none⟩ = some (.int .u8 165) := O7.out.cellAt (c := 165) (by rw [HBF.out, List.getElem?_append_right (by rw [HLN.out]; exact Nat.le_refl _), HLN.out, Nat.sub_self]; rfl)
  have ter : (er == er) = true := by simp
  have HSS := Lib.hid hss
  have hi1 : (n0 : Int) < ((n0 + 1 : Nat) : Int) := by omega
  have hi2 : (n0 : Int) < (n0 : Int) + 1 := by omega
  have hi0 : (0 : Int) ≤ (n0 : Int) := by omega
  clear hoy hb7 EY O6 V5 R6 hr7 hs1 hs2 hss
  go_upto_region 9 with fail
  go_cut [86] (fun s wx => s = .bool false ∧ ∃ m, wx = w6.drewN m)
  case first =>
    go_quiet ((first | (with_reducible exact quiet3 (SM1.out _)) | (with_reducible exact quiet3 (SM2.out _))))
    go_wp2_with fail
    go_meet
    exact ⟨rfl, _, rfl⟩
  case rest =>
    obtain ⟨rfl, md, hw7⟩ := hcut
    obtain ⟨w7, hw7'⟩ : ∃ w7, w7 = wc := ⟨_, rfl⟩
    subst hw7'
    have OX7 : Hid (OM w7 w4.heap.size (.slice A8 nl c8) L) := Lib.hid (by rw [hw7]; exact OX6.out)
    have OY7 : Hid (OM w7 w5.heap.size (.slice A10 nl c10) L) := Lib.hid (by rw [hw7]; exact OY6.out)
    have V7 : Hid (OM w7 w1.heap.size (.slice A5 nl c5) L) := Lib.hid (by rw [hw7]; exact V6.out)
    have O8 : Hid (OB w7 w2.heap.size (.slice (some ⟨g7, 0, none⟩) (n0 + 1) c7) bf) := Lib.hid (by rw [hw7]; exact O7.out)
    have B8 : Hid (Below w.heap.size w w7) := Lib.hid (by rw [hw7]; exact below_drewN B7.out _)
    have S7 : Hid (w7.heap.size = w6.heap.size) := Lib.hid (by rw [hw7]; rfl)
    have PXY : Hid (Apt (.slice A8 nl c8) (.slice A10 nl c10)) := Lib.hid (aptM_later OX5.out OY6.out (Nat.le_refl _))
    have PVX : Hid (Apt (.slice A5 nl c5) (.slice A8 nl c8)) := Lib.hid (aptM_later V2.out OX5.out S2.out)
    clear hw7 q1 q2 SM1 SM2 c165 O7 V6 OX6 B7 R7 hi0 hi1 hi2
    go_wp2_with fail
    go_loopw [89] (fun iv W => ∃ k : Nat, k ≤ nl ∧ iv = .int .i64 (k : Int) ∧ Hid (OM W w4.heap.size (.slice A8 nl c8) (List.replicate k (offM (-5)) ++ L.drop k)) ∧ Hid (Chg (fun q => (Value.slice A8 nl c8).ownBlock = some q) w7 W)) (fun iv _ => nl - (intOf iv).toNat)
    case atStart => exact ⟨0, Nat.zero_le _, rfl, Lib.hid (by simpa using OX7.out), Lib.hid (Chg.refl _ _)⟩
    case round =>
      obtain ⟨k, hk, rfl, HO, HC⟩ := hrel
      by_cases hlt : k < nl
      · obtain ⟨hlen, g, hg⟩ := om_some HO.out (by omega)
        have hklt : k < (List.replicate k (offM (-5)) ++ L.drop k).length := by rw [← hlen]; exact hlt
        obtain ⟨m, hm⟩ : ∃ m, (List.replicate k (offM (-5)) ++ L.drop k)[k]? = some m := ⟨_, List.getElem?_eq_getElem hklt⟩
        have ho := HO.out
        rw [hg] at ho
        have d0 : wr.cell? ⟨g, k * 9, none⟩ = some (.int .i64 m.a0) := ho.at_ hm (j := 0) rfl
        have d1 : wr.cell? ⟨g, k * 9 + 1, none⟩ = some (.int .i64 m.a1) := ho.at_ hm (j := 1) rfl
        have d2 : wr.cell? ⟨g, k * 9 + 2, none⟩ = some (.int .i64 m.a2) := ho.at_ hm (j := 2) rfl
        have d3 : wr.cell? ⟨g, k * 9 + 3, none⟩ = some (.int .i64 m.a3) := ho.at_ hm (j := 3) rfl
        have d4 : wr.cell? ⟨g, k * 9 + 4, none⟩ = some (.int .i64 m.a4) := ho.at_ hm (j := 4) rfl
        have d5 : wr.cell? ⟨g, k * 9 + 5, none⟩ = some (.int .i64 m.a5) := ho.at_ hm (j := 5) rfl
        have d6 : wr.cell? ⟨g, k * 9 + 6, none⟩ = some (.int .i64 m.a6) := ho.at_ hm (j := 6) rfl
        have d7 : wr.cell? ⟨g, k * 9 + 7, none⟩ = some (.int .i64 m.a7) := ho.at_ hm (j := 7) rfl
        have d8 : wr.cell? ⟨g, k * 9 + 8, none⟩ = some (.int .i64 m.a8) := ho.at_ hm (j := 8) rfl
        have f0 : wr.frozen? ⟨g, k * 9, none⟩ = false := ho.frozen _
        have f1 : wr.frozen? ⟨g, k * 9 + 1, none⟩ = false := ho.frozen _
        have f2 : wr.frozen? ⟨g, k * 9 + 2, none⟩ = false := ho.frozen _
        have f3 : wr.frozen? ⟨g, k * 9 + 3, none⟩ = false := ho.frozen _
        have f4 : wr.frozen? ⟨g, k * 9 + 4, none⟩ = false := ho.frozen _
        have f5 : wr.frozen? ⟨g, k * 9 + 5, none⟩ = false := ho.frozen _
        have f6 : wr.frozen? ⟨g, k * 9 + 6, none⟩ = false := ho.frozen _
        have f7 : wr.frozen? ⟨g, k * 9 + 7, none⟩ = false := ho.frozen _
        have f8 : wr.frozen? ⟨g, k * 9 + 8, none⟩ = false := ho.frozen _
        have hst := om_set9 ho hklt (-5)
        rw [fillM_step L (offM (-5)) (by rw [← nlE.out]; exact hlt), ← hg] at hst
        have HS1 := Lib.hid hst
        have HC1 : Hid (Chg (fun q => (Value.slice A8 nl c8).ownBlock = some q) w7 (set9 wr g k (-5))) := Lib.hid (chg_set9 HC.out (by rw [hg]; rfl) k (-5))
        unfold set9 at HS1 HC1
        clear hlen hklt hm ho hst
        subst hg
        go_wp2_with fail
        go_roundw
        first
          | (case rel => exact ⟨k + 1, by omega, by go_num, HS1, HC1⟩)
          | (case rel => (repeat apply Exists.intro); exact ⟨⟨k + 1, by omega, by go_num, HS1, HC1⟩, rfl⟩)
        case measure => simp [intOf]; omega
      · obtain rfl : nl = k := by omega
        have HO2 := HO.out
        rw [List.drop_of_length_le (by rw [← nlE.out]; exact Nat.le_refl _), List.append_nil] at HO2
        obtain ⟨w8, hw8⟩ : ∃ w8, w8 = wr := ⟨_, rfl⟩
        subst hw8
        have OX8 := Lib.hid HO2
        have OY8 : Hid (OM w8 w5.heap.size (.slice A10 nl c10) L) := Lib.hid (HC.out.own OY7.out (fun q hq h => PXY.out q h hq))
        have V8 : Hid (OM w8 w1.heap.size (.slice A5 nl c5) L) := Lib.hid (HC.out.own V7.out (fun q hq h => PVX.out q hq h))
        have O9 : Hid (OB w8 w2.heap.size (.slice (some ⟨g7, 0, none⟩) (n0 + 1) c7) bf) := Lib.hid (HC.out.ob O8.out (fun q hq h => by
          have e1 : g7 = q := Option.some.inj hq
          have := (OX5.out.lt q h).1
          have := HG7.out
          omega))
        have B9 : Hid (Below w.heap.size w w8) := Lib.hid (B8.out.trans (HC.out.below (B := w.heap.size) (fun q hq h => by
          have := (OX5.out.lt q h).1
          have := B5.out.size
          omega) B8.out.size))
        have S8 : Hid (w6.heap.size ≤ w8.heap.size) := Lib.hid (by have := HC.out.size; rw [S7.out] at this; exact this)
        have hsm := same_any A10 A5 nl nl c10 c5 L L w8 (om_ms OY8.out) (om_ms V8.out) (by omega) (by omega) hc10 hc5
        rw [HSS.out] at hsm
        have SM := Lib.hid hsm
        clear HO HO2 HC OX7 OY7 V7 O8 PVX hsm
        go_wp2_with fail
        refine SM.out.mono ?_
        rintro e w9 ⟨rfl, md2, hw9⟩
        have OX9 : Hid (OM w9 w4.heap.size (.slice A8 nl c8) (List.replicate nl (offM (-5)))) := Lib.hid (by rw [hw9]; exact OX8.out)
        have OY9 : Hid (OM w9 w5.heap.size (.slice A10 nl c10) L) := Lib.hid (by rw [hw9]; exact OY8.out)
        have O10 : Hid (OB w9 w2.heap.size (.slice (some ⟨g7, 0, none⟩) (n0 + 1) c7) bf) := Lib.hid (by rw [hw9]; exact O9.out)
        have B10 : Hid (Below w.heap.size w w9) := Lib.hid (by rw [hw9]; exact below_drewN B9.out _)
        have S9 : Hid (w6.heap.size ≤ w9.heap.size) := Lib.hid (by rw [hw9]; exact S8.out)
        clear hw9 SM OX8 OY8 V8 O9 B9
        go_wp2_with fail
        go_loopw [103] (fun iv W => ∃ k : Nat, k ≤ n0 + 1 ∧ iv = .int .i64 (k : Int) ∧ Hid (OB W w2.heap.size (.slice (some ⟨g7, 0, none⟩) (n0 + 1) c7) ((bf.take k).map turnC ++ bf.drop k)) ∧ Hid (Chg (fun q => q = g7) w9 W)) (fun iv _ => n0 + 1 - (intOf iv).toNat)
        case atStart => exact ⟨0, Nat.zero_le _, rfl, Lib.hid (by simpa using O10.out), Lib.hid (Chg.refl _ _)⟩
        case round =>
          obtain ⟨k, hk, rfl, HO, HC⟩ := hrel
          by_cases hlt : k < n0 + 1
          · obtain ⟨c, hcc⟩ : ∃ c, bf[k]? = some c := ⟨_, List.getElem?_eq_getElem (by rw [HBL.out]; exact hlt)⟩
            obtain ⟨hat, hset⟩ := turnB_step bf hcc
            have d0 : wr.cell? ⟨g7, k, none⟩ = some (.int .u8 (c.toNat : Int)) := HO.out.cellAt hat
            have f0 : wr.frozen? ⟨g7, k, none⟩ = false := HO.out.frozenAt k
            have hst := (HO.out.stored k (turnC c)).1
            rw [hset] at hst
            have htb := turnC_bits c
            have HS1 := Lib.hid hst
            have HC1 : Hid (Chg (fun q => q = g7) w9 (wr.setCell ⟨g7, k, none⟩ (.int .u8 ((turnC c).toNat : Int)))) := Lib.hid (HC.out.setCell (.inl rfl) _)
            clear hcc hat hset hst
            go_wp2_with fail
            go_roundw
            first
              | (case rel => exact ⟨k + 1, by omega, by go_num, HS1, HC1⟩)
              | (case rel => (repeat apply Exists.intro); exact ⟨⟨k + 1, by omega, by go_num, HS1, HC1⟩, rfl⟩)
            case measure => simp [intOf]; omega
          · obtain rfl : n0 + 1 = k := by omega
            have ho := HO.out
            rw [List.take_of_length_le (by rw [HBL.out]; exact Nat.le_refl _), List.drop_of_length_le (by rw [HBL.out]; exact Nat.le_refl _), List.append_nil] at ho
            obtain ⟨w10, hw10⟩ : ∃ w10, w10 = wr := ⟨_, rfl⟩
            subst hw10
            have OX10 : Hid (OM w10 w4.heap.size (.slice A8 nl c8) (List.replicate nl (offM (-5)))) := Lib.hid (HC.out.own OX9.out (fun q hq h => by
              have := (OX5.out.lt q hq).1
              have := HG7.out
              omega))
            have OY10 : Hid (OM w10 w5.heap.size (.slice A10 nl c10) L) := Lib.hid (HC.out.own OY9.out (fun q hq h => by
              have := (OY6.out.lt q hq).1
              have := HG7.out
              have := S3.out
              omega))
            have B11 : Hid (Below w.heap.size w w10) := Lib.hid (B10.out.trans (HC.out.below (B := w.heap.size) (fun q hq h => by
              have := HG7.out
              have := S1.out
              omega) B10.out.size))
            have S10 : Hid (w6.heap.size ≤ w10.heap.size) := Lib.hid (Nat.le_trans S9.out HC.out.size)
            obtain ⟨b2, hb2⟩ : ∃ b2, b2 = (bf.map turnC).take n0 := ⟨_, rfl⟩
            have hr2 := HRB.out w10 _ ho
            rw [← hb2] at hr2
            have R10 := Lib.hid hr2
            have EZ := Lib.hid (dec_all (some ⟨g7, 0, none⟩) n0 c7 b2 many w10 (HT.out.keep B11.out) hr2 hc07 (by omega))
            clear ho HO HC hb2 hr2 OX9 OY9 O10 B10
            go_wp2_with fail
            refine EZ.out.mono ?_
            intro e w11 hpost
            obtain ⟨vz, rfl, hoz, hb11⟩ := hpost
            obtain ⟨L2, hL2⟩ : ∃ L2, L2 = decL b2 many := ⟨_, rfl⟩
            obtain ⟨er2, hEr2⟩ : ∃ er2, er2 = decE b2 many := ⟨_, rfl⟩
            rw [← hL2] at hoz
            rw [← hEr2]
            have HL2 := Lib.hid hL2; have HER2 := Lib.hid hEr2
            obtain ⟨A12, c12, rfl, hc12, _, _⟩ := hoz.form
            obtain ⟨n2, hn2⟩ : ∃ n2, n2 = L2.length := ⟨_, rfl⟩
            have n2E := Lib.hid hn2
            have hn2b : n2 ≤ 8 := by rw [hn2, hL2]; exact decL_len b2 many
            rw [← hn2] at hoz hc12 ⊢
            have OZ11 := Lib.hid hoz
            have OX11 := Lib.hid (OX10.out.keep hb11); have OY11 := Lib.hid (OY10.out.keep hb11); have B12 := Lib.hid (B11.out.trans (hb11.mono B11.out.size)); have R11 := Lib.hid (R10.out.keep hb11)
            have S11 : Hid (w6.heap.size ≤ w11.heap.size) := Lib.hid (Nat.le_trans S10.out hb11.size)
            have EN := Lib.hid (refDec_all (some ⟨g7, 0, none⟩) n0 c7 b2 many w11 R11.out hc07 (by omega))
            clear hoz hb11 hL2 hEr2 hn2 EZ OX10 OY10 R10
            go_wp2_with fail
            refine EN.out.mono ?_
            intro e w12 hpost
            obtain ⟨vw, rfl, how, hb12⟩ := hpost
            rw [← HL2.out] at how
            rw [← HER2.out]
            obtain ⟨A13, c13, rfl, hc13, _, _⟩ := how.form
            rw [← n2E.out] at how hc13 ⊢
            have OX12 := Lib.hid (OX11.out.keep hb12); have OY12 := Lib.hid (OY11.out.keep hb12); have OZ12 := Lib.hid (OZ11.out.keep hb12); have B13 := Lib.hid (B12.out.trans (hb12.mono B12.out.size))
            have S12 : Hid (w6.heap.size ≤ w12.heap.size) := Lib.hid (Nat.le_trans S11.out hb12.size)
            have hs2 : sameB L2 L2 = true := (sameB_iff L2 L2).2 rfl
            have hsm := same_any A12 A13 n2 n2 c12 c13 L2 L2 w12 (om_ms OZ12.out) (om_ms how) (by omega) (by omega) hc12 hc13
            rw [hs2] at hsm
            have SM := Lib.hid hsm
            have ter2 : (er2 == er2) = true := by simp
            clear how hb12 EN OX11 OY11 R11 hs2 hsm
            go_wp2_with fail
            refine SM.out.mono ?_
            rintro e w13 ⟨rfl, md3, hw13⟩
            have OX13 : Hid (OM w13 w4.heap.size (.slice A8 nl c8) (List.replicate nl (offM (-5)))) := Lib.hid (by rw [hw13]; exact OX12.out)
            have OY13 : Hid (OM w13 w5.heap.size (.slice A10 nl c10) L) := Lib.hid (by rw [hw13]; exact OY12.out)
            have B14 : Hid (Below w.heap.size w w13) := Lib.hid (by rw [hw13]; exact below_drewN B13.out _)
            have S13 : Hid (w6.heap.size ≤ w13.heap.size) := Lib.hid (by rw [hw13]; exact S12.out)
            clear hw13 SM OX12 OY12 OZ12 B13
            go_wp2_with fail
            go_loopw [144] (fun iv W => ∃ k : Nat, k ≤ nl ∧ iv = .int .i64 (k : Int) ∧ Hid (OM W w5.heap.size (.slice A10 nl c10) (List.replicate k (offM (-6)) ++ L.drop k)) ∧ Hid (Chg (fun q => (Value.slice A10 nl c10).ownBlock = some q) w13 W)) (fun iv _ => nl - (intOf iv).toNat)
            case atStart => exact ⟨0, Nat.zero_le _, rfl, Lib.hid (by simpa using OY13.out), Lib.hid (Chg.refl _ _)⟩
            case round =>
              obtain ⟨k, hk, rfl, HO, HC⟩ := hrel
              by_cases hlt : k < nl
              · obtain ⟨hlen, g, hg⟩ := om_some HO.out (by omega)
                have hklt : k < (List.replicate k (offM (-6)) ++ L.drop k).length := by rw [← hlen]; exact hlt
                obtain ⟨m, hm⟩ : ∃ m, (List.replicate k (offM (-6)) ++ L.drop k)[k]? = some m := ⟨_, List.getElem?_eq_getElem hklt⟩
                have ho := HO.out
                rw [hg] at ho
                have d0 : wr.cell? ⟨g, k * 9, none⟩ = some (.int .i64 m.a0) := ho.at_ hm (j := 0) rfl
                have d1 : wr.cell? ⟨g, k * 9 + 1, none⟩ = some (.int .i64 m.a1) := ho.at_ hm (j := 1) rfl
                have d2 : wr.cell? ⟨g, k * 9 + 2, none⟩ = some (.int .i64 m.a2) := ho.at_ hm (j := 2) rfl
                have d3 : wr.cell? ⟨g, k * 9 + 3, none⟩ = some (.int .i64 m.a3) := ho.at_ hm (j := 3) rfl
                have d4 : wr.cell? ⟨g, k * 9 + 4, none⟩ = some (.int .i64 m.a4) := ho.at_ hm (j := 4) rfl
                have d5 : wr.cell? ⟨g, k * 9 + 5, none⟩ = some (.int .i64 m.a5) := ho.at_ hm (j := 5) rfl
                have d6 : wr.cell? ⟨g, k * 9 + 6, none⟩ = some (.int .i64 m.a6) := ho.at_ hm (j := 6) rfl
                have d7 : wr.cell? ⟨g, k * 9 + 7, none⟩ = some (.int .i64 m.a7) := ho.at_ hm (j := 7) rfl
                have d8 : wr.cell? ⟨g, k * 9 + 8, none⟩ = some (.int .i64 m.a8) := ho.at_ hm (j := 8) rfl
                have f0 : wr.frozen? ⟨g, k * 9, none⟩ = false := ho.frozen _
                have f1 : wr.frozen? ⟨g, k * 9 + 1, none⟩ = false := ho.frozen _
                have f2 : wr.frozen? ⟨g, k * 9 + 2, none⟩ = false := ho.frozen _
                have f3 : wr.frozen? ⟨g, k * 9 + 3, none⟩ = false := ho.frozen _
                have f4 : wr.frozen? ⟨g, k * 9 + 4, none⟩ = false := ho.frozen _
                have f5 : wr.frozen? ⟨g, k * 9 + 5, none⟩ = false := ho.frozen _
                have f6 : wr.frozen? ⟨g, k * 9 + 6, none⟩ = false := ho.frozen _
                have f7 : wr.frozen? ⟨g, k * 9 + 7, none⟩ = false := ho.frozen _
                have f8 : wr.frozen? ⟨g, k * 9 + 8, none⟩ = false := ho.frozen _
                have hst := om_set9 ho hklt (-6)
                rw [fillM_step L (offM (-6)) (by rw [← nlE.out]; exact hlt), ← hg] at hst
                have HS1 := Lib.hid hst
                have HC1 : Hid (Chg (fun q => (Value.slice A10 nl c10).ownBlock = some q) w13 (set9 wr g k (-6))) := Lib.hid (chg_set9 HC.out (by rw [hg]; rfl) k (-6))
                unfold set9 at HS1 HC1
                clear hlen hklt hm ho hst
                subst hg
                go_wp2_with fail
                go_roundw
                first
                  | (case rel => exact ⟨k + 1, by omega, by go_num, HS1, HC1⟩)
                  | (case rel => (repeat apply Exists.intro); exact ⟨⟨k + 1, by omega, by go_num, HS1, HC1⟩, rfl⟩)
                case measure => simp [intOf]; omega
              · obtain rfl : nl = k := by omega
                have HO2 := HO.out
                rw [List.drop_of_length_le (by rw [← nlE.out]; exact Nat.le_refl _), List.append_nil] at HO2
                obtain ⟨w14, hw14⟩ : ∃ w14, w14 = wr := ⟨_, rfl⟩
                subst hw14
                have OY14 : Hid (OM w14 w5.heap.size (.slice A10 nl c10) (List.replicate (nl + 0) (offM (-6)))) := Lib.hid HO2
                have OX14 : Hid (OM w14 w4.heap.size (.slice A8 nl c8) (List.replicate (nl + 0) (offM (-5)))) := Lib.hid (HC.out.own OX13.out (fun q hq h => PXY.out q hq h))
                have B15 : Hid (Below w.heap.size w w14) := Lib.hid (B14.out.trans (HC.out.below (B := w.heap.size) (fun q hq h => by
                  have := (OY6.out.lt q h).1
                  have := S3.out
                  have := B5.out.size
                  omega) B14.out.size))
                have S14 : Hid (w6.heap.size ≤ w14.heap.size) := Lib.hid (Nat.le_trans S13.out HC.out.size)
                have OX14B : Hid (w4.heap.size ≤ w14.heap.size) := Lib.hid (by have := S14.out; have := S3.out; have := S4.out; omega)
                clear HO HO2 HC OX13 OY13
                go_wp2_with fail
                go_loopw [8, 152] (fun sv iv W => ∃ j : Nat, j ≤ 3 ∧ iv = .int .i64 (j : Int) ∧ Hid (OM W w4.heap.size sv (List.replicate (nl + j) (offM (-5)))) ∧ Hid (Chg (fun q => (Value.slice A8 nl c8).ownBlock = some q) w14 W) ∧ Hid (FreshV w14 (Value.slice A8 nl c8) sv)) (fun _ iv _ => 3 - (intOf iv).toNat)
                case atStart => exact ⟨0, by omega, rfl, OX14, Lib.hid (Chg.refl _ _), Lib.hid (fun q hq => .inl hq)⟩
                case round =>
                  obtain ⟨j, hj, rfl, HO, HC, HF⟩ := hrel
                  by_cases hlt : j < 3
                  · have hb0 : Below wr.heap.size wr (wr.alloc (.cells #[.int .i64 0, .int .i64 0, .int .i64 0, .int .i64 (-5), .int .i64 0, .int .i64 0, .int .i64 0, .int .i64 0, .int .i64 0] 31)) := (Below.refl _ _).alloc (Nat.le_refl _) _
                    have O1 := Lib.hid (HO.out.keep hb0)
                    have R1 : Hid (MS (wr.alloc (.cells #[.int .i64 0, .int .i64 0, .int .i64 0, .int .i64 (-5), .int .i64 0, .int .i64 0, .int .i64 0, .int .i64 0, .int .i64 0] 31)) (some ⟨wr.heap.size, 0, none⟩) 1 [offM (-5)]) := Lib.hid (MS.new wr (offM (-5)) rfl)
                    have C1 := Lib.hid (HC.out.alloc (.cells #[.int .i64 0, .int .i64 0, .int .i64 0, .int .i64 (-5), .int .i64 0, .int .i64 0, .int .i64 0, .int .i64 0, .int .i64 0] 31))
                    have HBS : Hid (w4.heap.size ≤ (wr.alloc (.cells #[.int .i64 0, .int .i64 0, .int .i64 0, .int .i64 (-5), .int .i64 0, .int .i64 0, .int .i64 0, .int .i64 0, .int .i64 0] 31)).heap.size) := Lib.hid (by have := HC.out.size; have := OX14B.out; simp; omega)
                    have HLL : Hid ((List.replicate (nl + j) (offM (-5))).length + 1 ≤ 1048600) := Lib.hid (by have := nlB.out; simp; omega)
                    have HW := Lib.hid hb0.size
                    clear hb0
                    go_wp2_with ((at_builtin; go_must (refine append_marks rfl (.tmp 154) (.tmp 156) rfl w4.heap.size u8 (List.replicate (nl + j) (offM (-5))) rfl O1.out (some ⟨wr.heap.size, 0, none⟩) 1 1 [offM (-5)] rfl R1.out HLL.out HBS.out ?_); intro v' w' ho' hg' ha'; refine halt ?_))
                    refine unhalt ?_
                    have HN : Hid (OM w' w4.heap.size v' (List.replicate (nl + (j + 1)) (offM (-5)))) := Lib.hid (by rw [← Nat.add_assoc, List.replicate_succ']; exact ho')
                    have HC1 : Hid (Chg (fun q => (Value.slice A8 nl c8).ownBlock = some q) w14 w') := Lib.hid (C1.out.grown hg' (fun q hq hlt => by
                      rcases HF.out q hq with h | h
                      · exact h
                      · omega))
                    have HF1 : Hid (FreshV w14 (Value.slice A8 nl c8) v') := Lib.hid (fun q hq => by
                      rcases ha' with h | h
                      · rw [h] at hq; exact HF.out q hq
                      · right
                        rw [hq] at h
                        have := Option.some.inj h
                        have := C1.out.size
                        omega)
                    clear ho' hg' ha'
                    go_wp2_with fail
                    go_roundw
                    first
                      | (case rel => exact ⟨j + 1, by omega, by go_num, HN, HC1, HF1⟩)
                      | (case rel => (repeat apply Exists.intro); exact ⟨⟨j + 1, by omega, by go_num, HN, HC1, HF1⟩, rfl⟩)
                    case measure => simp [intOf]; omega
                  · obtain rfl : 3 = j := by omega
                    obtain ⟨w15, hw15⟩ : ∃ w15, w15 = wr := ⟨_, rfl⟩
                    subst hw15
                    obtain ⟨A15, c15, rfl, hc15, _, _⟩ := HO.out.form
                    have OX15 := HO
                    rw [List.length_replicate] at OX15 HF hc15 ⊢
                    have OY15 : Hid (OM w15 w5.heap.size (.slice A10 nl c10) (List.replicate (nl + 0) (offM (-6)))) := Lib.hid (HC.out.own OY14.out (fun q hq h => PXY.out q h hq))
                    have PXY2 : Hid (Apt (.slice A15 (nl + 3) c15) (.slice A10 nl c10)) := Lib.hid (apt_fresh HF.out PXY.out (fun q hq => (OY14.out.lt q hq).2))
                    have B16 : Hid (Below w.heap.size w w15) := Lib.hid (B15.out.trans (HC.out.below (B := w.heap.size) (fun q hq h => by
                      have := (OX5.out.lt q h).1
                      have := B5.out.size
                      omega) B15.out.size))
                    have OY15B : Hid (w5.heap.size ≤ w15.heap.size) := Lib.hid (by have := HC.out.size; have := S14.out; have := S4.out; omega)
                    clear HO HC HF OX14 OY14 PXY
                    go_wp2_with fail
                    go_loopw [10, 159] (fun sv iv W => ∃ j : Nat, j ≤ 3 ∧ iv = .int .i64 (j : Int) ∧ Hid (OM W w5.heap.size sv (List.replicate (nl + j) (offM (-6)))) ∧ Hid (Chg (fun q => (Value.slice A10 nl c10).ownBlock = some q) w15 W) ∧ Hid (FreshV w15 (Value.slice A10 nl c10) sv)) (fun _ iv _ => 3 - (intOf iv).toNat)
                    case atStart => exact ⟨0, by omega, rfl, OY15, Lib.hid (Chg.refl _ _), Lib.hid (fun q hq => .inl hq)⟩
                    case round =>
                      obtain ⟨j, hj, rfl, HO, HC, HF⟩ := hrel
                      by_cases hlt : j < 3
                      · have hb0 : Below wr.heap.size wr (wr.alloc (.cells #[.int .i64 0, .int .i64 0, .int .i64 0, .int .i64 (-6), .int .i64 0, .int .i64 0, .int .i64 0, .int .i64 0, .int .i64 0] 31)) := (Below.refl _ _).alloc (Nat.le_refl _) _
                        have O1 := Lib.hid (HO.out.keep hb0)
                        have R1 : Hid (MS (wr.alloc (.cells #[.int .i64 0, .int .i64 0, .int .i64 0, .int .i64 (-6), .int .i64 0, .int .i64 0, .int .i64 0, .int .i64 0, .int .i64 0] 31)) (some ⟨wr.heap.size, 0, none⟩) 1 [offM (-6)]) := Lib.hid (MS.new wr (offM (-6)) rfl)
                        have C1 := Lib.hid (HC.out.alloc (.cells #[.int .i64 0, .int .i64 0, .int .i64 0, .int .i64 (-6), .int .i64 0, .int .i64 0, .int .i64 0, .int .i64 0, .int .i64 0] 31))
                        have HBS : Hid (w5.heap.size ≤ (wr.alloc (.cells #[.int .i64 0, .int .i64 0, .int .i64 0, .int .i64 (-6), .int .i64 0, .int .i64 0, .int .i64 0, .int .i64 0, .int .i64 0] 31)).heap.size) := Lib.hid (by have := HC.out.size; have := OY15B.out; simp; omega)
                        have HLL : Hid ((List.replicate (nl + j) (offM (-6))).length + 1 ≤ 1048600) := Lib.hid (by have := nlB.out; simp; omega)
                        have HW := Lib.hid hb0.size
                        clear hb0
                        go_wp2_with ((at_builtin; go_must (refine append_marks rfl (.tmp 161) (.tmp 163) rfl w5.heap.size u10 (List.replicate (nl + j) (offM (-6))) rfl O1.out (some ⟨wr.heap.size, 0, none⟩) 1 1 [offM (-6)] rfl R1.out HLL.out HBS.out ?_); intro v' w' ho' hg' ha'; refine halt ?_))
                        refine unhalt ?_
                        have HN : Hid (OM w' w5.heap.size v' (List.replicate (nl + (j + 1)) (offM (-6)))) := Lib.hid (by rw [← Nat.add_assoc, List.replicate_succ']; exact ho')
                        have HC1 : Hid (Chg (fun q => (Value.slice A10 nl c10).ownBlock = some q) w15 w') := Lib.hid (C1.out.grown hg' (fun q hq hlt => by
                          rcases HF.out q hq with h | h
                          · exact h
                          · omega))
                        have HF1 : Hid (FreshV w15 (Value.slice A10 nl c10) v') := Lib.hid (fun q hq => by
                          rcases ha' with h | h
                          · rw [h] at hq; exact HF.out q hq
                          · right
                            rw [hq] at h
                            have := Option.some.inj h
                            have := C1.out.size
                            omega)
                        clear ho' hg' ha'
                        go_wp2_with fail
                        go_roundw
                        first
                          | (case rel => exact ⟨j + 1, by omega, by go_num, HN, HC1, HF1⟩)
                          | (case rel => (repeat apply Exists.intro); exact ⟨⟨j + 1, by omega, by go_num, HN, HC1, HF1⟩, rfl⟩)
                        case measure => simp [intOf]; omega
                      · obtain rfl : 3 = j := by omega
                        obtain ⟨w16, hw16⟩ : ∃ w16, w16 = wr := ⟨_, rfl⟩
                        subst hw16
                        obtain ⟨A16, c16, rfl, hc16, _, _⟩ := HO.out.form
                        have OY16 := HO
                        rw [List.length_replicate] at OY16 HF hc16 ⊢
                        have OX16 : Hid (OM w16 w4.heap.size (.slice A15 (nl + 3) c15) (List.replicate (nl + 3) (offM (-5)))) := Lib.hid (HC.out.own OX15.out (fun q hq h => PXY2.out q hq h))
                        have B17 : Hid (Below w.heap.size w w16) := Lib.hid (B16.out.trans (HC.out.below (B := w.heap.size) (fun q hq h => by
                          have := (OY6.out.lt q h).1
                          have := S3.out
                          have := B5.out.size
                          omega) B16.out.size))
                        have F1 := Lib.hid (bears_any A15 (nl + 3) c15 _ (-5) w16 (om_ms OX16.out) (fun m hm => List.eq_of_mem_replicate hm) (by omega) hc15)
                        have F2 := Lib.hid (bears_any A16 (nl + 3) c16 _ (-6) w16 (om_ms OY16.out) (fun m hm => List.eq_of_mem_replicate hm) (by omega) hc16)
                        clear HO HC HF
                        go_wp2_with fail
                        refine F1.out.mono ?_
                        rintro e w' ⟨rfl, rfl⟩
                        go_wp2_with fail
                        refine F2.out.mono ?_
                        rintro e w' ⟨rfl, rfl⟩
                        have HF : Hid (EPost w (.returned (.bool true)) w16) := Lib.hid ⟨rfl, B17.out⟩
                        go_wp2_with fail
                        go_ret
                        exact HF.out
end Go.Proofs.YtpeaacbbfkanmaaDoor
