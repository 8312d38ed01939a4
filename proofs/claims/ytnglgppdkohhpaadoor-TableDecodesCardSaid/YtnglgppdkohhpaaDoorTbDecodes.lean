/- THE WALK of the law TableDecodes, its first half (printed by a program of ours). -/
import Derived.Test.YtnglgppdkohhpaaDoorTbDecTail
import Derived.Test.YtnglgppdkohhpaaDoorTbKnown
import Derived.Test.YtnglgppdkohhpaaDoorTbSame
import Derived.BigQuiet
namespace Go.Proofs.YtnglgppdkohhpaaDoor
open Go.RowKit
theorem ob_some {w : World} {base n c : Nat} {A : Option Addr} {l : List UInt8} (h : OB w base (.slice A n c) l) (hn : 0 < n) : ∃ g, A = some ⟨g, 0, none⟩ := by
  have hl := h.len
  rcases h.2 with ⟨e, h0⟩ | ⟨g, cap, cur, e, _⟩
  · omega
  · injection e with e _ _
    exact ⟨g, e⟩
/-- a byte turned -/
def turnC (c : UInt8) : UInt8 := UInt8.ofNat (c.toNat ^^^ 40)
theorem turnC_bits (c : UInt8) : bits .xor .u8 (c.toNat : Int) 40 = ((turnC c).toNat : Int) := by
  have h := u8_xor_nat c.toNat 40 c.toNat_lt (by omega)
  have hb : c.toNat ^^^ 40 < 256 := Nat.xor_lt_two_pow (n := 8) c.toNat_lt (by omega)
  unfold turnC
  rw [UInt8.toNat_ofNat_of_lt' hb, ← h]
  rfl
theorem turnB_step (l : List UInt8) {k : Nat} {c : UInt8} (hc : l[k]? = some c) : ((l.take k).map turnC ++ l.drop k)[k]? = some c ∧ ((l.take k).map turnC ++ l.drop k).set k (turnC c) = (l.take (k + 1)).map turnC ++ l.drop (k + 1) := by
  obtain ⟨hk, rfl⟩ := List.getElem?_eq_some_iff.1 hc
  have hl : ((l.take k).map turnC).length = k := by rw [List.length_map, List.length_take, Nat.min_eq_left (by omega)]
  constructor
  · rw [List.getElem?_append_right (by omega), hl, Nat.sub_self, List.drop_eq_getElem_cons hk]; rfl
  · rw [List.set_append_right _ _ (by omega), hl, Nat.sub_self, List.drop_eq_getElem_cons hk, List.set_cons_zero, take_snoc (List.getElem?_eq_getElem hk), List.map_append, List.append_assoc]
    rfl
set_option maxRecDepth 100000 in
set_option maxHeartbeats 8000000 in
theorem tdecodes_any (A0 : Option Addr) (n0 c0 : Nat) (b : List UInt8) (w : World) (hT : CrcTab w) (hr : RB w A0 n0 b) (_hc : n0 ≤ c0) (hn : n0 ≤ 140737488351232) :
    Calls Tryd.prog 4 #[.slice A0 n0 c0] w (RightP true w) := by
  have hln := hr.1
  have HR := Lib.hid hr; have HT := Lib.hid hT; have HLN := Lib.hid hln
  clear hr hT hln
  have hz := zero_run
  obtain ⟨zc, hzc⟩ : ∃ zc, zc = dcells zcls nilV nilV nilV := ⟨_, rfl⟩
  have HZC := Lib.hid hzc
  rw [← hzc] at hz
  clear hzc
  go_enter Tryd.func4, Tryd.ntmps4
  go_wp2_with fail
  refine (known_any _ HT.out).mono ?_
  rintro e w1 ⟨rfl, hb1⟩
  have B1 := Lib.hid hb1; have R1 := Lib.hid (HR.out.keep hb1)
  clear hb1
  go_wp2_with fail
  refine (rdec_both A0 n0 c0 b _ R1.out (by omega)).mono ?_
  rintro e w2 ⟨cs3, rfl, htb, hb2⟩
  obtain ⟨er, hEr⟩ : ∃ er, er = decE b := ⟨_, rfl⟩
  obtain ⟨t, ht⟩ : ∃ t, t = decT b := ⟨_, rfl⟩
  rw [← hEr]
  rw [← ht] at htb
  have HER := Lib.hid hEr; have HTT := Lib.hid ht
  have T2 := Lib.hid htb
  have B2 : Hid (Below w.heap.size w w2) := Lib.hid (B1.out.trans (hb2.mono B1.out.size))
  have S2 := Lib.hid B2.out.size
  have W2H := B2
  have R2 := Lib.hid (R1.out.keep hb2)
  have ds3 : Hid (cs3.size = 259 ∧ cs3.all (·.oneCell') = true) := Lib.hid (tb_size_one htb)
  have di3 : Hid ((Tryd.prog.info? 26).map (·.size) = some cs3.size) := Lib.hid (by rw [size259, ds3.out.1])
  have li3 : Hid ((Tryd.prog.info? 26).map (·.size) = some cs3.toList.length) := Lib.hid (by rw [size259, Array.length_toList, ds3.out.1])
  clear hEr ht htb hb2 B1 R1
  have BA3 : Hid (Blk (w2.alloc (.cells zc 26)) w2.heap.size 26 zc) := Lib.hid (Blk.new _ _ _ rfl)
  have BAs3 : Hid (Blk ((w2.alloc (.cells zc 26)).setCells w2.heap.size 0 cs3.toList) w2.heap.size 26 cs3) := Lib.hid (Blk.setAll BA3.out cs3 (by rw [ds3.out.1, HZC.out, zsize]))
  go_upto_region 4 with (with_reducible refine wpList_store_mid rfl _ _ _ rfl w2.heap.size 0 cs3 rfl (by simp [Act.eval]) (there_blk BA3.out _ (by rw [ds3.out.1, HZC.out, zsize]; exact Nat.le_refl _)) di3.out ds3.out.2 ?_)
  obtain ⟨w3, hw3⟩ : ∃ w3, w3 = (w2.alloc (.cells zc 26)).setCells w2.heap.size 0 cs3.toList := ⟨_, rfl⟩
  have hbw3 : Below w2.heap.size w2 w3 := by
    rw [hw3]
    have hc := Chg.setCells (S := fun b => b = w2.heap.size) cs3.toList 0 (Chg.refl (fun b => b = w2.heap.size) (w2.alloc (.cells zc 26))) rfl
    exact (below_alloc _ _).trans (hc.below (fun k hk e => by omega) (by simp))
  obtain ⟨b3, hb3⟩ : ∃ b3, b3 = w2.heap.size := ⟨_, rfl⟩
  have X3 : Hid (Blk w3 b3 26 cs3) := Lib.hid (by rw [hw3, hb3]; exact BAs3.out)
  have HBX3 : Hid (b3 = w2.heap.size ∧ b3 < w3.heap.size) := Lib.hid ⟨hb3, X3.out.lt⟩
  rw [← hw3, ← hb3]
  clear hw3 hb3 BA3 BAs3
  have R3 := Lib.hid (R2.out.keep hbw3)
  have Q3 := Lib.hid hbw3
  clear hbw3 R2
  have HL0 := Lib.hid (show ([] : List UInt8).length + n0 ≤ 140737488355328 from by simp; omega)
  go_wp2_with ((at_builtin; go_must (refine append_bytes rfl (.tmp 36) (.tmp 37) rfl w3.heap.size (.slice none 0 0) [] rfl (OB.nil w3 w3.heap.size) A0 n0 c0 b rfl R3.out HL0.out (Nat.le_refl _) ?_); intro v5 w4 ho5 hg5 ha5; refine halt ?_))
  refine unhalt ?_
  have hb4 : Below w3.heap.size w3 w4 := (Below.refl _ _).grown hg5 (Nat.le_refl _) (fun q hq => by cases hq)
  rw [List.nil_append] at ho5
  have hb5 : Below w4.heap.size w4 (w4.alloc (.cells #[.int .u8 165] 5)) := below_alloc _ _
  have O4 : Hid (OB (w4.alloc (.cells #[.int .u8 165] 5)) w3.heap.size v5 b) := Lib.hid (ho5.keep hb5)
  have R4 : Hid (RB (w4.alloc (.cells #[.int .u8 165] 5)) (some ⟨w4.heap.size, 0, none⟩) 1 [165]) := Lib.hid (RB.new' w4 5 (0, 0) #[.int .u8 165] [165] rfl 1 w4.heap.size rfl rfl)
  have B4 : Hid (Below w3.heap.size w3 (w4.alloc (.cells #[.int .u8 165] 5))) := Lib.hid (hb4.trans (hb5.mono hb4.size))
  have HL1 := Lib.hid (show b.length + 1 ≤ 140737488355328 from by rw [HLN.out]; omega)
  clear ho5 hg5 ha5 hb4 hb5 HL0
  go_wp2_with ((at_builtin; go_must (refine append_bytes rfl (.tmp 39) (.tmp 40) rfl w3.heap.size v5 b rfl O4.out (some ⟨w4.heap.size, 0, none⟩) 1 1 [165] rfl R4.out HL1.out B4.out.size ?_); intro v6 w5 ho6 hg6 ha6; refine halt ?_))
  refine unhalt ?_
  have hb6 : Below w3.heap.size w3 w5 := B4.out.grown hg6 B4.out.size (fun q hq => (O4.out.lt q hq).1)
  obtain ⟨bf, hbf⟩ : ∃ bf, bf = b ++ [165] := ⟨_, rfl⟩
  rw [← hbf] at ho6
  obtain ⟨A7, c7, rfl, hc7, _, _⟩ := ho6.form
  have hbl : bf.length = n0 + 1 := by rw [hbf, List.length_append, HLN.out]; rfl
  rw [hbl] at hc7 ho6 ⊢
  obtain ⟨g7, rfl⟩ := ob_some ho6 (by omega)
  have O5 := Lib.hid ho6; have HBF := Lib.hid hbf; have HBL := Lib.hid hbl
  have R5 := Lib.hid (R3.out.keep hb6)
  have X35 := Lib.hid (X3.out.keep hb6)
  have Q5 : Hid (Below w2.heap.size w2 w5) := Lib.hid (Q3.out.trans (hb6.mono Q3.out.size))
  have HG7 : Hid (w3.heap.size ≤ g7 ∧ g7 < w5.heap.size) := Lib.hid (ho6.lt g7 rfl)
  have hrb := fun (W : World) (q : List UInt8) (h : OB W w3.heap.size (.slice (some ⟨g7, 0, none⟩) (n0 + 1) c7) q) => h.rb.take (k := n0) (by omega)
  have HRB := Lib.hid hrb
  have htk : bf.take n0 = b := by rw [hbf]; exact List.take_left' HLN.out
  have HTK := Lib.hid htk
  have hr5 : RB w5 (some ⟨g7, 0, none⟩) n0 b := by have := HRB.out w5 bf ho6; rwa [htk] at this
  have hc07 : n0 ≤ c7 := by omega
  have BW5 : Hid (Below w.heap.size w w5) := Lib.hid (B2.out.trans (Q5.out.mono B2.out.size))
  have EX := Lib.hid (tdec_both (some ⟨g7, 0, none⟩) n0 c7 b w5 (HT.out.keep BW5.out) hr5 (by omega))
  clear ho6 hg6 ha6 hb6 hbf hbl hrb htk hr5 O4 R4 B4 R3 HL1 X3 Q3 B2
  go_wp2_with fail
  refine EX.out.mono ?_
  rintro e w6 ⟨vn1, vf1, ve1, N1, m1, gs1, rfl, hN1, hol1, hm1, hsz1, hb7⟩
  rw [← HTT.out] at hol1 hsz1 ⊢
  rw [← HER.out]
  have HSZ := Lib.hid hsz1
  obtain ⟨cx, hcx⟩ : ∃ cx, cx = dcells t.cls vn1 vf1 ve1 := ⟨_, rfl⟩
  rw [← hcx]
  have HCX := Lib.hid hcx
  have L6 := Lib.hid hol1
  have htx := hol1.tb (by rw [HTT.out]; exact (decT_sound b).hc) (by rw [HTT.out]; exact (decT_sound b).hu) (by omega) ⟨by omega, by omega, by omega⟩
  rw [← hcx] at htx
  have ds6 : Hid (cx.size = 259 ∧ cx.all (·.oneCell') = true) := Lib.hid (tb_size_one htx)
  have di6 : Hid ((Tryd.prog.info? 26).map (·.size) = some cx.size) := Lib.hid (by rw [size259, ds6.out.1])
  have li6 : Hid ((Tryd.prog.info? 26).map (·.size) = some cx.toList.length) := Lib.hid (by rw [size259, Array.length_toList, ds6.out.1])
  have HN1 : Hid (w5.heap.size ≤ N1 ∧ m1 ≤ 256) := Lib.hid ⟨hN1, hm1⟩
  have MX : Hid (∀ W, OL W N1 vn1 vf1 ve1 t m1 gs1 → TB W cx t) := Lib.hid (fun W h => by
    have := h.tb (by rw [HTT.out]; exact (decT_sound b).hc) (by rw [HTT.out]; exact (decT_sound b).hu) (by omega) ⟨by omega, by omega, by omega⟩
    rwa [← hcx] at this)
  have O6 := Lib.hid (O5.out.keep hb7); have R6 := Lib.hid (R5.out.keep hb7); have X36 := Lib.hid (X35.out.keep hb7)
  have Q6 : Hid (Below w2.heap.size w2 w6) := Lib.hid (Q5.out.trans (hb7.mono Q5.out.size))
  have S6 := Lib.hid hb7.size
  have WB5 := Lib.hid hb7
  clear hol1 hcx htx hN1 hm1 hsz1 hb7 EX O5 R5 X35 Q5
  have BA6 : Hid (Blk (w6.alloc (.cells zc 26)) w6.heap.size 26 zc) := Lib.hid (Blk.new _ _ _ rfl)
  have BAs6 : Hid (Blk ((w6.alloc (.cells zc 26)).setCells w6.heap.size 0 cx.toList) w6.heap.size 26 cx) := Lib.hid (Blk.setAll BA6.out cx (by rw [ds6.out.1, HZC.out, zsize]))
  go_upto_region 8 with (with_reducible refine wpList_store_mid rfl _ _ _ rfl w6.heap.size 0 cx rfl (by simp [Act.eval]) (there_blk BA6.out _ (by rw [ds6.out.1, HZC.out, zsize]; exact Nat.le_refl _)) di6.out ds6.out.2 ?_)
  obtain ⟨w7, hw7⟩ : ∃ w7, w7 = (w6.alloc (.cells zc 26)).setCells w6.heap.size 0 cx.toList := ⟨_, rfl⟩
  have hbw7 : Below w6.heap.size w6 w7 := by
    rw [hw7]
    have hc := Chg.setCells (S := fun b => b = w6.heap.size) cx.toList 0 (Chg.refl (fun b => b = w6.heap.size) (w6.alloc (.cells zc 26))) rfl
    exact (below_alloc _ _).trans (hc.below (fun k hk e => by omega) (by simp))
  obtain ⟨b6, hb6⟩ : ∃ b6, b6 = w6.heap.size := ⟨_, rfl⟩
  have X6 : Hid (Blk w7 b6 26 cx) := Lib.hid (by rw [hw7, hb6]; exact BAs6.out)
  have HBX6 : Hid (b6 = w6.heap.size ∧ b6 < w7.heap.size) := Lib.hid ⟨hb6, X6.out.lt⟩
  rw [← hw7, ← hb6]
  clear hw7 hb6 BA6 BAs6
  have L7 := Lib.hid (L6.out.keep hbw7); have HBX1 := Lib.hid (L6.out.keep hbw7).blks; have O7 := Lib.hid (O6.out.keep hbw7); have R7 := Lib.hid (R6.out.keep hbw7); have X37 := Lib.hid (X36.out.keep hbw7)
  have Q7 : Hid (Below w2.heap.size w2 w7) := Lib.hid (Q6.out.trans (hbw7.mono Q6.out.size))
  have BW7 : Hid (Below w.heap.size w w7) := Lib.hid (BW5.out.trans ((show Below w5.heap.size w5 w7 from WB5.out.trans (hbw7.mono WB5.out.size)).mono BW5.out.size))
  have hr7 : RB w7 (some ⟨g7, 0, none⟩) n0 b := by have := HRB.out w7 bf O7.out; rwa [HTK.out] at this
  have EY := Lib.hid (tdec_both (some ⟨g7, 0, none⟩) n0 c7 b w7 (HT.out.keep BW7.out) hr7 (by omega))
  clear hbw7 hr7 L6 O6 R6 X36 Q6
  go_wp2_with fail
  refine EY.out.mono ?_
  rintro e w8 ⟨vn2, vf2, ve2, N2, m2, gs2, rfl, hN2, hol2, hm2, _, hb9⟩
  rw [← HTT.out] at hol2 ⊢
  rw [← HER.out]
  obtain ⟨cy, hcy⟩ : ∃ cy, cy = dcells t.cls vn2 vf2 ve2 := ⟨_, rfl⟩
  rw [← hcy]
  have HCY := Lib.hid hcy
  have M8 := Lib.hid hol2
  have MY : Hid (∀ W, OL W N2 vn2 vf2 ve2 t m2 gs2 → TB W cy t) := Lib.hid (fun W h => by
    have := h.tb (by rw [HTT.out]; exact (decT_sound b).hc) (by rw [HTT.out]; exact (decT_sound b).hu) (by omega) ⟨by have := HSZ.out; omega, by have := HSZ.out; omega, by have := HSZ.out; omega⟩
    rwa [← hcy] at this)
  have ds8 : Hid (cy.size = 259 ∧ cy.all (·.oneCell') = true) := Lib.hid (tb_size_one (MY.out w8 hol2))
  have di8 : Hid ((Tryd.prog.info? 26).map (·.size) = some cy.size) := Lib.hid (by rw [size259, ds8.out.1])
  have li8 : Hid ((Tryd.prog.info? 26).map (·.size) = some cy.toList.length) := Lib.hid (by rw [size259, Array.length_toList, ds8.out.1])
  have HN2 : Hid (w7.heap.size ≤ N2 ∧ m2 ≤ 256) := Lib.hid ⟨hN2, hm2⟩
  have L8 := Lib.hid (L7.out.keep hb9); have O8 := Lib.hid (O7.out.keep hb9); have R8 := Lib.hid (R7.out.keep hb9); have X38 := Lib.hid (X37.out.keep hb9); have X68 := Lib.hid (X6.out.keep hb9)
  have Q8 : Hid (Below w2.heap.size w2 w8) := Lib.hid (Q7.out.trans (hb9.mono Q7.out.size))
  have S8 := Lib.hid hb9.size
  clear hol2 hcy hN2 hm2 EY L7 O7 R7 X37 X6 Q7 hb9
  have BA8 : Hid (Blk (w8.alloc (.cells zc 26)) w8.heap.size 26 zc) := Lib.hid (Blk.new _ _ _ rfl)
  have BAs8 : Hid (Blk ((w8.alloc (.cells zc 26)).setCells w8.heap.size 0 cy.toList) w8.heap.size 26 cy) := Lib.hid (Blk.setAll BA8.out cy (by rw [ds8.out.1, HZC.out, zsize]))
  go_upto_region 9 with (with_reducible refine wpList_store_mid rfl _ _ _ rfl w8.heap.size 0 cy rfl (by simp [Act.eval]) (there_blk BA8.out _ (by rw [ds8.out.1, HZC.out, zsize]; exact Nat.le_refl _)) di8.out ds8.out.2 ?_)
  obtain ⟨w9, hw9⟩ : ∃ w9, w9 = (w8.alloc (.cells zc 26)).setCells w8.heap.size 0 cy.toList := ⟨_, rfl⟩
  have hbw9 : Below w8.heap.size w8 w9 := by
    rw [hw9]
    have hc := Chg.setCells (S := fun b => b = w8.heap.size) cy.toList 0 (Chg.refl (fun b => b = w8.heap.size) (w8.alloc (.cells zc 26))) rfl
    exact (below_alloc _ _).trans (hc.below (fun k hk e => by omega) (by simp))
  obtain ⟨b8, hb8⟩ : ∃ b8, b8 = w8.heap.size := ⟨_, rfl⟩
  have X8 : Hid (Blk w9 b8 26 cy) := Lib.hid (by rw [hw9, hb8]; exact BAs8.out)
  have HBX8 : Hid (b8 = w8.heap.size ∧ b8 < w9.heap.size) := Lib.hid ⟨hb8, X8.out.lt⟩
  rw [← hw9, ← hb8]
  clear hw9 hb8 BA8 BAs8
  have L9 := Lib.hid (L8.out.keep hbw9); have M9 := Lib.hid (M8.out.keep hbw9); have O9 := Lib.hid (O8.out.keep hbw9); have R9 := Lib.hid (R8.out.keep hbw9); have X39 := Lib.hid (X38.out.keep hbw9); have X69 := Lib.hid (X68.out.keep hbw9)
  have Q9 : Hid (Below w2.heap.size w2 w9) := Lib.hid (Q8.out.trans (hbw9.mono Q8.out.size))
  have T9 : Hid (TB w9 cs3 t) := Lib.hid (T2.out.keep Q9.out)
  have S9 := Lib.hid hbw9.size
  clear hbw9 L8 M8 O8 R8 X38 X68 Q8
  have LD : Hid (∀ w', Below w9.heap.size w9 w' → w'.rangeAt b6 0 cx.toList ∧ w'.rangeAt b3 0 cs3.toList ∧ w'.rangeAt b8 0 cy.toList ∧ w'.cell? ⟨g7, n0, none⟩ = some (.int .u8 165)) := Lib.hid (fun w' hb => ⟨rangeAt_blk (X69.out.keep hb), rangeAt_blk (X39.out.keep hb), rangeAt_blk (X8.out.keep hb), cell_later hb (O9.out.cellAt (c := 165) (by rw [HBF.out, List.getElem?_append_right (by rw [HLN.out]; exact Nat.le_refl _), HLN.out, Nat.sub_self]; rfl))⟩)
  have hr9 : RB w9 (some ⟨g7, 0, none⟩) n0 b := by have := HRB.out w9 bf O9.out; rwa [HTK.out] at this
  have CV : Hid (∀ w', Below w9.heap.size w9 w' → (convert 28 9 (.slice (some ⟨g7, 0, none⟩) n0 c7)).run Tryd.prog w' = .ok (.string (strOf b)) w') := Lib.hid (fun w' hb => conv_bytes w' _ n0 c7 _ (hr9.keep hb))
  have CV2 : Hid (∀ w', Below w9.heap.size w9 w' → (convert 28 9 (.slice A0 n0 c0)).run Tryd.prog w' = .ok (.string (strOf b)) w') := Lib.hid (fun w' hb => conv_bytes w' A0 n0 c0 _ (R9.out.keep hb))
  have SA1 : Hid (∀ w', Below w9.heap.size w9 w' → Calls Tryd.prog 15 #[.agg cx, .agg cs3] w' (RightP true w')) := Lib.hid (fun w' hb => by
    have := rsame_any cx cs3 t t w' ((MX.out w9 L9.out).keep hb) (T9.out.keep hb)
    rwa [sameB_true rfl] at this)
  have SA2 : Hid (∀ w', Below w9.heap.size w9 w' → Calls Tryd.prog 15 #[.agg cy, .agg cs3] w' (RightP true w')) := Lib.hid (fun w' hb => by
    have := rsame_any cy cs3 t t w' ((MY.out w9 M9.out).keep hb) (T9.out.keep hb)
    rwa [sameB_true rfl] at this)
  have ter : (er == er) = true := by simp
  have tem : (er != er) = false := by simp
  have hi1 : (n0 : Int) < ((n0 + 1 : Nat) : Int) := by omega
  have hi2 : (n0 : Int) < (n0 : Int) + 1 := by omega
  have hi3 : (n0 : Int) ≤ (c7 : Int) := by omega
  have hi0 : (0 : Int) ≤ (n0 : Int) := by omega
  clear hr9
  refine wp_region_any (by kernel_rfl) ?_
  change wpAny _ _ _ _ _ _ _ (World.drew _)
  refine wpAny_of_held (S := fun w' => Below w9.heap.size w9 w') _ _ _ _ ?_
  have hHeld : Below w9.heap.size w9 w9.drew := Below.drew (Below.refl _ _)
  refine wpAnyH_take (i := 0) (v := _) rfl (by kernel_rfl) (by kernel_rfl) (by kernel_rfl) (fun _ _ _ h => h) (yieldsIf_load_mid (by rfl) _ _ rfl _ _ rfl cx.toList _ (fun w hw => (LD.out w hw).1) Tryd.underlying26 rfl (li6.out)) (by assumption) ?_
  try simp only [Act.put, List.setIfInBounds_toArray, List.set_cons_zero, List.set_cons_succ, List.getElem_toArray, List.getElem_cons_zero]
  refine wpAnyH_take (i := 1) (v := _) rfl (by kernel_rfl) (by kernel_rfl) (by kernel_rfl) (fun _ _ _ h => h) (yieldsIf_load_mid (by rfl) _ _ rfl _ _ rfl cs3.toList _ (fun w hw => (LD.out w hw).2.1) Tryd.underlying26 rfl (li3.out)) (by assumption) ?_
  try simp only [Act.put, List.setIfInBounds_toArray, List.set_cons_zero, List.set_cons_succ, List.getElem_toArray, List.getElem_cons_zero, List.getElem_cons_succ]
  refine wpAnyH_ready (rs := [2]) (by kernel_rfl) (by simp) (AllReadyH.cons rfl (fun K hK => ?_) AllReadyH.nil)
  have hPrev := hHeld
  clear hHeld
  go_simp
  go_at_call 15
  refine (SA1.out _ hPrev).mono ?_
  rintro e wq ⟨rfl, hbq⟩
  have hBQ : Below w9.heap.size w9 wq := hPrev.trans (hbq.mono hPrev.size)
  clear hbq
  go_wp2_with fail
  refine hK.out _ _ (hBQ) (fun hHeld => ?_)
  clear hK K hPrev
  try simp only [Act.put, List.setIfInBounds_toArray, List.set_cons_zero, List.set_cons_succ, List.getElem_toArray, List.getElem_cons_zero, List.getElem_cons_succ]
  refine wpAnyH_take (i := 3) (v := ?_) rfl (by kernel_rfl) (by kernel_rfl) (by kernel_rfl) (fun _ _ _ h => h) (Or.inl ⟨by rfl, ?_⟩) (by assumption) ?_
  rotate_left 1
  · intro w hSw; (try dsimp only at hSw); go_simp <;> with_reducible rfl
  try simp only [Act.put, List.setIfInBounds_toArray, List.set_cons_zero, List.set_cons_succ, List.getElem_toArray, List.getElem_cons_zero, List.getElem_cons_succ]
  refine wpAnyH_take (i := 4) (v := ?_) rfl (by kernel_rfl) (by kernel_rfl) (by kernel_rfl) (fun _ _ _ h => h) (Or.inl ⟨by rfl, ?_⟩) (by assumption) ?_
  rotate_left 1
  · intro w hSw; (try dsimp only at hSw); go_simp <;> with_reducible rfl
  try simp only [Act.put, List.setIfInBounds_toArray, List.set_cons_zero, List.set_cons_succ, List.getElem_toArray, List.getElem_cons_zero, List.getElem_cons_succ]
  refine wpAnyH_take (i := 5) (v := _) rfl (by kernel_rfl) (by kernel_rfl) (by kernel_rfl) (fun _ _ _ h => h) (yieldsIf_load_mid (by rfl) _ _ rfl _ _ rfl cy.toList _ (fun w hw => (LD.out w hw).2.2.1) Tryd.underlying26 rfl (li8.out)) (by assumption) ?_
  try simp only [Act.put, List.setIfInBounds_toArray, List.set_cons_zero, List.set_cons_succ, List.getElem_toArray, List.getElem_cons_zero, List.getElem_cons_succ]
  refine wpAnyH_take (i := 6) (v := _) rfl (by kernel_rfl) (by kernel_rfl) (by kernel_rfl) (fun _ _ _ h => h) (yieldsIf_load_mid (by rfl) _ _ rfl _ _ rfl cs3.toList _ (fun w hw => (LD.out w hw).2.1) Tryd.underlying26 rfl (li3.out)) (by assumption) ?_
  try simp only [Act.put, List.setIfInBounds_toArray, List.set_cons_zero, List.set_cons_succ, List.getElem_toArray, List.getElem_cons_zero, List.getElem_cons_succ]
  refine wpAnyH_ready (rs := [7]) (by kernel_rfl) (by simp) (AllReadyH.cons rfl (fun K hK => ?_) AllReadyH.nil)
  have hPrev := hHeld
  clear hHeld
  go_simp
  go_at_call 15
  refine (SA2.out _ hPrev).mono ?_
  rintro e wr9 ⟨rfl, hbq⟩
  have hBQ : Below w9.heap.size w9 wr9 := hPrev.trans (hbq.mono hPrev.size)
  clear hbq
  go_wp2_with fail
  refine hK.out _ _ (hBQ) (fun hHeld => ?_)
  clear hK K hPrev
  try simp only [Act.put, List.setIfInBounds_toArray, List.set_cons_zero, List.set_cons_succ, List.getElem_toArray, List.getElem_cons_zero, List.getElem_cons_succ]
  refine wpAnyH_take (i := 8) (v := ?_) rfl (by kernel_rfl) (by kernel_rfl) (by kernel_rfl) (fun _ _ _ h => h) (Or.inl ⟨by rfl, ?_⟩) (by assumption) ?_
  rotate_left 1
  · intro w hSw; (try dsimp only at hSw); go_simp <;> with_reducible rfl
  try simp only [Act.put, List.setIfInBounds_toArray, List.set_cons_zero, List.set_cons_succ, List.getElem_toArray, List.getElem_cons_zero, List.getElem_cons_succ]
  refine wpAnyH_take (i := 9) (v := ?_) rfl (by kernel_rfl) (by kernel_rfl) (by kernel_rfl) (fun _ _ _ h => h) (Or.inl ⟨by rfl, ?_⟩) (by assumption) ?_
  rotate_left 1
  · intro w hSw; (try dsimp only at hSw); go_simp <;> with_reducible rfl
  try simp only [Act.put, List.setIfInBounds_toArray, List.set_cons_zero, List.set_cons_succ, List.getElem_toArray, List.getElem_cons_zero, List.getElem_cons_succ]
  refine wpAnyH_take (i := 10) (v := ?_) rfl (by kernel_rfl) (by kernel_rfl) (by kernel_rfl) (fun _ _ _ h => h) (Or.inl ⟨by rfl, ?_⟩) (by assumption) ?_
  rotate_left 1
  · intro w hSw; (try dsimp only at hSw); go_simp <;> with_reducible rfl
  try simp only [Act.put, List.setIfInBounds_toArray, List.set_cons_zero, List.set_cons_succ, List.getElem_toArray, List.getElem_cons_zero, List.getElem_cons_succ]
  refine wpAnyH_take (i := 11) (v := ?_) rfl (by kernel_rfl) (by kernel_rfl) (by kernel_rfl) (fun _ _ _ h => h) (Or.inl ⟨by rfl, ?_⟩) (by assumption) ?_
  rotate_left 1
  · intro w hSw; (try dsimp only at hSw); go_simp <;> with_reducible rfl
  try simp only [Act.put, List.setIfInBounds_toArray, List.set_cons_zero, List.set_cons_succ, List.getElem_toArray, List.getElem_cons_zero, List.getElem_cons_succ]
  refine wpAnyH_take (i := 12) (v := ?_) rfl (by kernel_rfl) (by kernel_rfl) (by kernel_rfl) (fun _ _ _ h => h) (Or.inl ⟨by rfl, ?_⟩) (by assumption) ?_
  rotate_left 1
  · intro w hSw; (try dsimp only at hSw); go_simp <;> with_reducible rfl
  try simp only [Act.put, List.setIfInBounds_toArray, List.set_cons_zero, List.set_cons_succ, List.getElem_toArray, List.getElem_cons_zero, List.getElem_cons_succ]
  refine wpAnyH_take (i := 13) (v := ?_) rfl (by kernel_rfl) (by kernel_rfl) (by kernel_rfl) (fun _ _ _ h => h) (Or.inl ⟨by rfl, ?_⟩) (by assumption) ?_
  rotate_left 1
  · intro w hSw; (try dsimp only at hSw); go_simp <;> with_reducible rfl
  try simp only [Act.put, List.setIfInBounds_toArray, List.set_cons_zero, List.set_cons_succ, List.getElem_toArray, List.getElem_cons_zero, List.getElem_cons_succ]
  refine wpAnyH_take (i := 14) (v := ?_) rfl (by kernel_rfl) (by kernel_rfl) (by kernel_rfl) (fun _ _ _ h => h) (Or.inl ⟨by rfl, ?_⟩) (by assumption) ?_
  rotate_left 1
  · intro w hSw; (try dsimp only at hSw); go_simp <;> with_reducible rfl
  try simp only [Act.put, List.setIfInBounds_toArray, List.set_cons_zero, List.set_cons_succ, List.getElem_toArray, List.getElem_cons_zero, List.getElem_cons_succ]
  refine wpAnyH_take (i := 15) (v := ?_) rfl (by kernel_rfl) (by kernel_rfl) (by kernel_rfl) (fun _ _ _ h => h) (Or.inl ⟨by rfl, ?_⟩) (by assumption) ?_
  rotate_left 1
  · intro w hSw; (try dsimp only at hSw); go_simp <;> with_reducible rfl
  try simp only [Act.put, List.setIfInBounds_toArray, List.set_cons_zero, List.set_cons_succ, List.getElem_toArray, List.getElem_cons_zero, List.getElem_cons_succ]
  refine wpAnyH_take (i := 16) (v := ?_) rfl (by kernel_rfl) (by kernel_rfl) (by kernel_rfl) (fun _ _ _ h => h) (Or.inl ⟨by rfl, ?_⟩) (by assumption) ?_
  rotate_left 1
  · intro w hSw; (try dsimp only at hSw); go_simp <;> with_reducible rfl
  try simp only [Act.put, List.setIfInBounds_toArray, List.set_cons_zero, List.set_cons_succ, List.getElem_toArray, List.getElem_cons_zero, List.getElem_cons_succ]
  refine wpAnyH_take (i := 17) (v := ?_) rfl (by kernel_rfl) (by kernel_rfl) (by kernel_rfl) (fun _ _ _ h => h) (Or.inl ⟨by rfl, ?_⟩) (by assumption) ?_
  rotate_left 1
  · intro w hSw; (try dsimp only at hSw); go_simp <;> with_reducible rfl
  try simp only [Act.put, List.setIfInBounds_toArray, List.set_cons_zero, List.set_cons_succ, List.getElem_toArray, List.getElem_cons_zero, List.getElem_cons_succ]
  refine wpAnyH_take (i := 18) (v := ?_) rfl (by kernel_rfl) (by kernel_rfl) (by kernel_rfl) (fun _ _ _ h => h) (Or.inl ⟨by rfl, ?_⟩) (by assumption) ?_
  rotate_left 1
  · intro w hSw; (try dsimp only at hSw); go_simp <;> with_reducible rfl
  try simp only [Act.put, List.setIfInBounds_toArray, List.set_cons_zero, List.set_cons_succ, List.getElem_toArray, List.getElem_cons_zero, List.getElem_cons_succ]
  refine wpAnyH_take (i := 19) (v := ?_) rfl (by kernel_rfl) (by kernel_rfl) (by kernel_rfl) (fun _ _ _ h => h) (Or.inl ⟨by rfl, ?_⟩) (by assumption) ?_
  rotate_left 1
  · intro w hSw; (try dsimp only at hSw); go_simp <;> with_reducible rfl
  try simp only [Act.put, List.setIfInBounds_toArray, List.set_cons_zero, List.set_cons_succ, List.getElem_toArray, List.getElem_cons_zero, List.getElem_cons_succ]
  refine wpAnyH_take (i := 20) (v := ?_) rfl (by kernel_rfl) (by kernel_rfl) (by kernel_rfl) (fun _ _ _ h => h) (Or.inl ⟨by rfl, ?_⟩) (by assumption) ?_
  rotate_left 1
  · intro w hSw; (try dsimp only at hSw); go_simp <;> with_reducible rfl
  try simp only [Act.put, List.setIfInBounds_toArray, List.set_cons_zero, List.set_cons_succ, List.getElem_toArray, List.getElem_cons_zero, List.getElem_cons_succ]
  refine wpAnyH_take (i := 21) (v := ?_) rfl (by kernel_rfl) (by kernel_rfl) (by kernel_rfl) (fun _ _ _ h => h) (Or.inl ⟨by rfl, ?_⟩) (by assumption) ?_
  rotate_left 1
  · intro w hSw; (try dsimp only at hSw); go_simp <;> with_reducible rfl
  try simp only [Act.put, List.setIfInBounds_toArray, List.set_cons_zero, List.set_cons_succ, List.getElem_toArray, List.getElem_cons_zero, List.getElem_cons_succ]
  refine wpAnyH_take (i := 22) (v := ?_) rfl (by kernel_rfl) (by kernel_rfl) (by kernel_rfl) (fun _ _ _ h => h) (Or.inl ⟨by rfl, ?_⟩) (by assumption) ?_
  rotate_left 1
  · intro w hSw; (try dsimp only at hSw); go_simp <;> with_reducible rfl
  try simp only [Act.put, List.setIfInBounds_toArray, List.set_cons_zero, List.set_cons_succ, List.getElem_toArray, List.getElem_cons_zero, List.getElem_cons_succ]
  refine wpAnyH_take (i := 23) (v := ?_) rfl (by kernel_rfl) (by kernel_rfl) (by kernel_rfl) (fun _ _ _ h => h) (Or.inl ⟨by rfl, ?_⟩) (by assumption) ?_
  rotate_left 1
  · intro w hSw; (try dsimp only at hSw); go_simp <;> with_reducible rfl
  try simp only [Act.put, List.setIfInBounds_toArray, List.set_cons_zero, List.set_cons_succ, List.getElem_toArray, List.getElem_cons_zero, List.getElem_cons_succ]
  refine wpAnyH_take (i := 24) (v := ?_) rfl (by kernel_rfl) (by kernel_rfl) (by kernel_rfl) (fun _ _ _ h => h) (Or.inl ⟨by rfl, ?_⟩) (by assumption) ?_
  rotate_left 1
  · intro w hSw; (try dsimp only at hSw); go_simp <;> with_reducible rfl
  try simp only [Act.put, List.setIfInBounds_toArray, List.set_cons_zero, List.set_cons_succ, List.getElem_toArray, List.getElem_cons_zero, List.getElem_cons_succ]
  refine wpAnyH_take (i := 25) (v := ?_) rfl (by kernel_rfl) (by kernel_rfl) (by kernel_rfl) (fun _ _ _ h => h) (Or.inl ⟨by rfl, ?_⟩) (by assumption) ?_
  rotate_left 1
  · intro w hSw; have hS2 := CV.out w hSw; (try dsimp only at hSw); go_simp <;> with_reducible rfl
  try simp only [Act.put, List.setIfInBounds_toArray, List.set_cons_zero, List.set_cons_succ, List.getElem_toArray, List.getElem_cons_zero, List.getElem_cons_succ]
  refine wpAnyH_take (i := 26) (v := ?_) rfl (by kernel_rfl) (by kernel_rfl) (by kernel_rfl) (fun _ _ _ h => h) (Or.inl ⟨by rfl, ?_⟩) (by assumption) ?_
  rotate_left 1
  · intro w hSw; (try dsimp only at hSw); go_simp <;> with_reducible rfl
  try simp only [Act.put, List.setIfInBounds_toArray, List.set_cons_zero, List.set_cons_succ, List.getElem_toArray, List.getElem_cons_zero, List.getElem_cons_succ]
  refine wpAnyH_take (i := 27) (v := ?_) rfl (by kernel_rfl) (by kernel_rfl) (by kernel_rfl) (fun _ _ _ h => h) (Or.inl ⟨by rfl, ?_⟩) (by assumption) ?_
  rotate_left 1
  · intro w hSw; have hS2 := CV2.out w hSw; (try dsimp only at hSw); go_simp <;> with_reducible rfl
  try simp only [Act.put, List.setIfInBounds_toArray, List.set_cons_zero, List.set_cons_succ, List.getElem_toArray, List.getElem_cons_zero, List.getElem_cons_succ]
  refine wpAnyH_take (i := 28) (v := ?_) rfl (by kernel_rfl) (by kernel_rfl) (by kernel_rfl) (fun _ _ _ h => h) (Or.inl ⟨by rfl, ?_⟩) (by assumption) ?_
  rotate_left 1
  · intro w hSw; (try dsimp only at hSw); go_simp <;> with_reducible rfl
  try simp only [Act.put, List.setIfInBounds_toArray, List.set_cons_zero, List.set_cons_succ, List.getElem_toArray, List.getElem_cons_zero, List.getElem_cons_succ]
  refine wpAnyH_take (i := 29) (v := ?_) rfl (by kernel_rfl) (by kernel_rfl) (by kernel_rfl) (fun _ _ _ h => h) (Or.inl ⟨by rfl, ?_⟩) (by assumption) ?_
  rotate_left 1
  · intro w hSw; (try dsimp only at hSw); go_simp <;> with_reducible rfl
  try simp only [Act.put, List.setIfInBounds_toArray, List.set_cons_zero, List.set_cons_succ, List.getElem_toArray, List.getElem_cons_zero, List.getElem_cons_succ]
  refine wpAnyH_take (i := 30) (v := ?_) rfl (by kernel_rfl) (by kernel_rfl) (by kernel_rfl) (fun _ _ _ h => h) (Or.inl ⟨by rfl, ?_⟩) (by assumption) ?_
  rotate_left 1
  · intro w hSw; (try dsimp only at hSw); go_simp <;> with_reducible rfl
  try simp only [Act.put, List.setIfInBounds_toArray, List.set_cons_zero, List.set_cons_succ, List.getElem_toArray, List.getElem_cons_zero, List.getElem_cons_succ]
  refine wpAnyH_take (i := 31) (v := ?_) rfl (by kernel_rfl) (by kernel_rfl) (by kernel_rfl) (fun _ _ _ h => h) (Or.inl ⟨by rfl, ?_⟩) (by assumption) ?_
  rotate_left 1
  · intro w hSw; (try dsimp only at hSw); go_simp <;> with_reducible rfl
  try simp only [Act.put, List.setIfInBounds_toArray, List.set_cons_zero, List.set_cons_succ, List.getElem_toArray, List.getElem_cons_zero, List.getElem_cons_succ]
  refine wpAnyH_take (i := 32) (v := ?_) rfl (by kernel_rfl) (by kernel_rfl) (by kernel_rfl) (fun _ _ _ h => h) (Or.inl ⟨by rfl, ?_⟩) (by assumption) ?_
  rotate_left 1
  · intro w hSw; (try dsimp only at hSw); go_simp <;> with_reducible rfl
  try simp only [Act.put, List.setIfInBounds_toArray, List.set_cons_zero, List.set_cons_succ, List.getElem_toArray, List.getElem_cons_zero, List.getElem_cons_succ]
  refine wpAnyH_take (i := 33) (v := ?_) rfl (by kernel_rfl) (by kernel_rfl) (by kernel_rfl) (fun _ _ _ h => h) (Or.inl ⟨by rfl, ?_⟩) (by assumption) ?_
  rotate_left 1
  · intro w hSw; (try dsimp only at hSw); go_simp <;> with_reducible rfl
  try simp only [Act.put, List.setIfInBounds_toArray, List.set_cons_zero, List.set_cons_succ, List.getElem_toArray, List.getElem_cons_zero, List.getElem_cons_succ]
  refine wpAnyH_take (i := 34) (v := ?_) rfl (by kernel_rfl) (by kernel_rfl) (by kernel_rfl) (fun _ _ _ h => h) (Or.inl ⟨by rfl, ?_⟩) (by assumption) ?_
  rotate_left 1
  · intro w hSw; (try dsimp only at hSw); go_simp <;> with_reducible rfl
  try simp only [Act.put, List.setIfInBounds_toArray, List.set_cons_zero, List.set_cons_succ, List.getElem_toArray, List.getElem_cons_zero, List.getElem_cons_succ]
  refine wpAnyH_take (i := 35) (v := ?_) rfl (by kernel_rfl) (by kernel_rfl) (by kernel_rfl) (fun _ _ _ h => h) (Or.inl ⟨by rfl, ?_⟩) (by assumption) ?_
  rotate_left 1
  · intro w hSw; have hS2 := (LD.out w hSw).2.2.2; (try dsimp only at hSw); go_simp <;> with_reducible rfl
  try simp only [Act.put, List.setIfInBounds_toArray, List.set_cons_zero, List.set_cons_succ, List.getElem_toArray, List.getElem_cons_zero, List.getElem_cons_succ]
  refine wpAnyH_take (i := 36) (v := ?_) rfl (by kernel_rfl) (by kernel_rfl) (by kernel_rfl) (fun _ _ _ h => h) (Or.inl ⟨by rfl, ?_⟩) (by assumption) ?_
  rotate_left 1
  · intro w hSw; (try dsimp only at hSw); go_simp <;> with_reducible rfl
  try simp only [Act.put, List.setIfInBounds_toArray, List.set_cons_zero, List.set_cons_succ, List.getElem_toArray, List.getElem_cons_zero, List.getElem_cons_succ]
  refine wpAnyH_take (i := 37) (v := ?_) rfl (by kernel_rfl) (by kernel_rfl) (by kernel_rfl) (fun _ _ _ h => h) (Or.inl ⟨by rfl, ?_⟩) (by assumption) ?_
  rotate_left 1
  · intro w hSw; (try dsimp only at hSw); go_simp <;> with_reducible rfl
  try simp only [Act.put, List.setIfInBounds_toArray, List.set_cons_zero, List.set_cons_succ, List.getElem_toArray, List.getElem_cons_zero, List.getElem_cons_succ]
  refine wpAnyH_done (by kernel_rfl) ?_ _
  obtain ⟨w10, hw10⟩ : ∃ w10, w10 = wr9 := ⟨_, rfl⟩
  rw [← hw10] at hHeld ⊢
  clear hw10 hBQ
  have L10 := Lib.hid (L9.out.keep hHeld); have M10 := Lib.hid (M9.out.keep hHeld); have O10 := Lib.hid (O9.out.keep hHeld); have X310 := Lib.hid (X39.out.keep hHeld); have X610 := Lib.hid (X69.out.keep hHeld); have X810 := Lib.hid (X8.out.keep hHeld)
  have Q10 : Hid (Below w2.heap.size w2 w10) := Lib.hid (Q9.out.trans (hHeld.mono Q9.out.size))
  have S10 := Lib.hid hHeld.size
  have HCH : Hid (w.heap.size ≤ w2.heap.size ∧ w2.heap.size = b3 ∧ b3 < w3.heap.size ∧ w3.heap.size ≤ g7 ∧ g7 < w5.heap.size ∧ w5.heap.size ≤ w6.heap.size ∧ w6.heap.size = b6 ∧ b6 < w7.heap.size ∧ w7.heap.size ≤ w8.heap.size ∧ w8.heap.size = b8 ∧ b8 < w9.heap.size ∧ w9.heap.size ≤ w10.heap.size) := Lib.hid (by
    have := S2.out; have := HBX3.out; have := HG7.out; have := S6.out; have := HBX6.out; have := S8.out; have := HBX8.out; have := S10.out
    omega)
  clear hHeld LD CV CV2 SA1 SA2 tem hi1 hi2 hi3 hi0 L9 M9 O9 R9 X39 X69 X8 Q9 T9 hz
  go_wp2_with fail
  go_loopw [98] (fun iv W => ∃ k : Nat, k ≤ n0 + 1 ∧ iv = .int .i64 (k : Int) ∧ Hid (OB W w3.heap.size (.slice (some ⟨g7, 0, none⟩) (n0 + 1) c7) ((bf.take k).map turnC ++ bf.drop k)) ∧ Hid (Chg (fun q => q = g7) w10 W)) (fun iv _ => n0 + 1 - (intOf iv).toNat)
  case atStart => exact ⟨0, Nat.zero_le _, rfl, Lib.hid (by simpa using O10.out), Lib.hid (Chg.refl _ _)⟩
  case round =>
    obtain ⟨k, hk, rfl, HO, HC⟩ := hrel
    by_cases hlt : k < n0 + 1
    · obtain ⟨c, hcc⟩ : ∃ c, bf[k]? = some c := ⟨_, List.getElem?_eq_getElem (by rw [HBL.out]; exact hlt)⟩
      obtain ⟨hat, hset⟩ := turnB_step bf hcc
      have d0 : wr.cell? ⟨g7, k, none⟩ = some (.int .u8 (c.toNat : Int)) := HO.out.cellAt hat
      have f0 : wr.frozen? ⟨g7, k, none⟩ = false := HO.out.frozenAt k
      have hst := (HO.out.stored k (turnC c)).1
      rw [hset] at hst
      have htb := turnC_bits c
      have HS1 := Lib.hid hst
      have HC1 : Hid (Chg (fun q => q = g7) w10 (wr.setCell ⟨g7, k, none⟩ (.int .u8 ((turnC c).toNat : Int)))) := Lib.hid (HC.out.setCell (.inl rfl) _)
      clear hcc hat hset hst
      go_wp2_with fail
      go_roundw
      first
        | (case rel => exact ⟨k + 1, by omega, by go_num, HS1, HC1⟩)
        | (case rel => (repeat apply Exists.intro); exact ⟨⟨k + 1, by omega, by go_num, HS1, HC1⟩, rfl⟩)
      case measure => simp [intOf]; omega
    · obtain rfl : n0 + 1 = k := by omega
      have ho := HO.out
      rw [List.take_of_length_le (by rw [HBL.out]; exact Nat.le_refl _), List.drop_of_length_le (by rw [HBL.out]; exact Nat.le_refl _), List.append_nil] at ho
      obtain ⟨w11, hw11⟩ : ∃ w11, w11 = wr := ⟨_, rfl⟩
      subst hw11
      have L11 := Lib.hid (L10.out.chg HC.out (fun q hq _ e => by have := HCH.out; have := HN1.out; omega))
      have M11 := Lib.hid (M10.out.chg HC.out (fun q hq _ e => by have := HCH.out; have := HN2.out; omega))
      have X311 := Lib.hid (X310.out.chg HC.out (fun e => by have := HCH.out; omega))
      have X611 := Lib.hid (X610.out.chg HC.out (fun e => by have := HCH.out; omega))
      have X811 := Lib.hid (X810.out.chg HC.out (fun e => by have := HCH.out; omega))
      have Q11 : Hid (Below w2.heap.size w2 w11) := Lib.hid (Q10.out.trans (HC.out.below (fun q hq e => by have := HCH.out; omega) Q10.out.size))
      have S11 : Hid (w10.heap.size ≤ w11.heap.size) := Lib.hid HC.out.size
      obtain ⟨bn, hbn⟩ : ∃ bn, bn = (bf.map turnC).take n0 := ⟨_, rfl⟩
      have hr2 := HRB.out w11 _ ho
      rw [← hbn] at hr2
      have R11 := Lib.hid hr2
      have W2B : Hid (Below w.heap.size w w2) := W2H
      have BW11 : Hid (Below w.heap.size w w11) := Lib.hid (W2B.out.trans (Q11.out.mono W2B.out.size))
      have EZ := Lib.hid (tdec_both (some ⟨g7, 0, none⟩) n0 c7 bn w11 (HT.out.keep BW11.out) hr2 (by omega))
      obtain ⟨er2, hEr2⟩ : ∃ er2, er2 = decE bn := ⟨_, rfl⟩
      obtain ⟨t2, ht2⟩ : ∃ t2, t2 = decT bn := ⟨_, rfl⟩
      have HER2 := Lib.hid hEr2; have HT2 := Lib.hid ht2
      have hz := zero_run
      rw [← HZC.out] at hz
      clear ho HO HC hbn hr2 hEr2 ht2 O10 L10 M10 X310 X610 X810 Q10
      go_wp2_with fail
      refine EZ.out.mono ?_
      rintro e w12 ⟨vn3, vf3, ve3, N3, m3, gs3, rfl, hN3, hol3, hm3, hsz3, hb12⟩
      rw [← HT2.out] at hol3 hsz3 ⊢
      rw [← HER2.out]
      obtain ⟨cz, hcz⟩ : ∃ cz, cz = dcells t2.cls vn3 vf3 ve3 := ⟨_, rfl⟩
      rw [← hcz]
      have htz := hol3.tb (by rw [HT2.out]; exact (decT_sound bn).hc) (by rw [HT2.out]; exact (decT_sound bn).hu) (by omega) ⟨by omega, by omega, by omega⟩
      rw [← hcz] at htz
      have TZ := Lib.hid htz
      have ds11 : Hid (cz.size = 259 ∧ cz.all (·.oneCell') = true) := Lib.hid (tb_size_one htz)
      have di11 : Hid ((Tryd.prog.info? 26).map (·.size) = some cz.size) := Lib.hid (by rw [size259, ds11.out.1])
      have li11 : Hid ((Tryd.prog.info? 26).map (·.size) = some cz.toList.length) := Lib.hid (by rw [size259, Array.length_toList, ds11.out.1])
      have L12 := Lib.hid (L11.out.keep hb12); have M12 := Lib.hid (M11.out.keep hb12); have X312 := Lib.hid (X311.out.keep hb12); have X612 := Lib.hid (X611.out.keep hb12); have X812 := Lib.hid (X811.out.keep hb12); have R12 := Lib.hid (R11.out.keep hb12)
      have Q12 : Hid (Below w2.heap.size w2 w12) := Lib.hid (Q11.out.trans (hb12.mono Q11.out.size))
      have S12 := Lib.hid hb12.size
      clear hol3 hcz htz hN3 hm3 hsz3 hb12 EZ L11 M11 X311 X611 X811 R11 Q11
      have BA11 : Hid (Blk (w12.alloc (.cells zc 26)) w12.heap.size 26 zc) := Lib.hid (Blk.new _ _ _ rfl)
      have BAs11 : Hid (Blk ((w12.alloc (.cells zc 26)).setCells w12.heap.size 0 cz.toList) w12.heap.size 26 cz) := Lib.hid (Blk.setAll BA11.out cz (by rw [ds11.out.1, HZC.out, zsize]))
      go_upto_region 17 with (with_reducible refine wpList_store_mid rfl _ _ _ rfl w12.heap.size 0 cz rfl (by simp [Act.eval]) (there_blk BA11.out _ (by rw [ds11.out.1, HZC.out, zsize]; exact Nat.le_refl _)) di11.out ds11.out.2 ?_)
      obtain ⟨w13, hw13⟩ : ∃ w13, w13 = (w12.alloc (.cells zc 26)).setCells w12.heap.size 0 cz.toList := ⟨_, rfl⟩
      have hbw13 : Below w12.heap.size w12 w13 := by
        rw [hw13]
        have hc := Chg.setCells (S := fun b => b = w12.heap.size) cz.toList 0 (Chg.refl (fun b => b = w12.heap.size) (w12.alloc (.cells zc 26))) rfl
        exact (below_alloc _ _).trans (hc.below (fun k hk e => by omega) (by simp))
      obtain ⟨b11, hb11⟩ : ∃ b11, b11 = w12.heap.size := ⟨_, rfl⟩
      have X11 : Hid (Blk w13 b11 26 cz) := Lib.hid (by rw [hw13, hb11]; exact BAs11.out)
      have HBX11 : Hid (b11 = w12.heap.size ∧ b11 < w13.heap.size) := Lib.hid ⟨hb11, X11.out.lt⟩
      rw [← hw13, ← hb11]
      clear hw13 hb11 BA11 BAs11
      have L13 := Lib.hid (L12.out.keep hbw13); have M13 := Lib.hid (M12.out.keep hbw13); have X313 := Lib.hid (X312.out.keep hbw13); have X613 := Lib.hid (X612.out.keep hbw13); have X813 := Lib.hid (X812.out.keep hbw13); have R13 := Lib.hid (R12.out.keep hbw13); have TZ13 := Lib.hid (TZ.out.keep hbw13)
      have Q13 : Hid (Below w2.heap.size w2 w13) := Lib.hid (Q12.out.trans (hbw13.mono Q12.out.size))
      have EN := Lib.hid (rdec_both (some ⟨g7, 0, none⟩) n0 c7 bn w13 R13.out (by omega))
      clear hbw13 L12 M12 X312 X612 X812 R12 Q12 TZ
      go_wp2_with fail
      refine EN.out.mono ?_
      rintro e w14 ⟨cn, rfl, htn, hb14⟩
      rw [← HT2.out] at htn
      rw [← HER2.out]
      have TN := Lib.hid htn
      have ds13 : Hid (cn.size = 259 ∧ cn.all (·.oneCell') = true) := Lib.hid (tb_size_one htn)
      have di13 : Hid ((Tryd.prog.info? 26).map (·.size) = some cn.size) := Lib.hid (by rw [size259, ds13.out.1])
      have li13 : Hid ((Tryd.prog.info? 26).map (·.size) = some cn.toList.length) := Lib.hid (by rw [size259, Array.length_toList, ds13.out.1])
      have L14 := Lib.hid (L13.out.keep hb14); have M14 := Lib.hid (M13.out.keep hb14); have X314 := Lib.hid (X313.out.keep hb14); have X614 := Lib.hid (X613.out.keep hb14); have X814 := Lib.hid (X813.out.keep hb14); have X1114 := Lib.hid (X11.out.keep hb14); have TZ14 := Lib.hid (TZ13.out.keep hb14)
      have Q14 : Hid (Below w2.heap.size w2 w14) := Lib.hid (Q13.out.trans (hb14.mono Q13.out.size))
      clear htn hb14 EN L13 M13 X313 X613 X813 R13 Q13 TZ13 X11
      have BA13 : Hid (Blk (w14.alloc (.cells zc 26)) w14.heap.size 26 zc) := Lib.hid (Blk.new _ _ _ rfl)
      have BAs13 : Hid (Blk ((w14.alloc (.cells zc 26)).setCells w14.heap.size 0 cn.toList) w14.heap.size 26 cn) := Lib.hid (Blk.setAll BA13.out cn (by rw [ds13.out.1, HZC.out, zsize]))
      go_upto_region 18 with (with_reducible refine wpList_store_mid rfl _ _ _ rfl w14.heap.size 0 cn rfl (by simp [Act.eval]) (there_blk BA13.out _ (by rw [ds13.out.1, HZC.out, zsize]; exact Nat.le_refl _)) di13.out ds13.out.2 ?_)
      obtain ⟨w15, hw15⟩ : ∃ w15, w15 = (w14.alloc (.cells zc 26)).setCells w14.heap.size 0 cn.toList := ⟨_, rfl⟩
      have hbw15 : Below w14.heap.size w14 w15 := by
        rw [hw15]
        have hc := Chg.setCells (S := fun b => b = w14.heap.size) cn.toList 0 (Chg.refl (fun b => b = w14.heap.size) (w14.alloc (.cells zc 26))) rfl
        exact (below_alloc _ _).trans (hc.below (fun k hk e => by omega) (by simp))
      obtain ⟨b13, hb13⟩ : ∃ b13, b13 = w14.heap.size := ⟨_, rfl⟩
      have X13 : Hid (Blk w15 b13 26 cn) := Lib.hid (by rw [hw15, hb13]; exact BAs13.out)
      have HBX13 : Hid (b13 = w14.heap.size ∧ b13 < w15.heap.size) := Lib.hid ⟨hb13, X13.out.lt⟩
      rw [← hw15, ← hb13]
      clear hw15 hb13 BA13 BAs13
      have L15 := Lib.hid (L14.out.keep hbw15); have M15 := Lib.hid (M14.out.keep hbw15); have X315 := Lib.hid (X314.out.keep hbw15); have X615 := Lib.hid (X614.out.keep hbw15); have X815 := Lib.hid (X814.out.keep hbw15); have X1115 := Lib.hid (X1114.out.keep hbw15); have TZ15 := Lib.hid (TZ14.out.keep hbw15); have TN15 := Lib.hid (TN.out.keep hbw15)
      have Q15 : Hid (Below w2.heap.size w2 w15) := Lib.hid (Q14.out.trans (hbw15.mono Q14.out.size))
      have RGA := Lib.hid (rangeAt_blk X1115.out); have RGB := Lib.hid (rangeAt_blk X13.out)
      have CS1 := Lib.hid (rsame_any cz cn t2 t2 w15 TZ15.out TN15.out)
      have ter2 : (er2 == er2) = true := by simp
      clear hbw15 L14 M14 X314 X614 X814 X1114 TZ14 TN Q14 hz
      go_wp2_with (first | (with_reducible refine wpList_load_mid rfl _ _ rfl b11 0 rfl cz.toList _ RGA.out Tryd.underlying26 rfl li11.out ?_) | (with_reducible refine wpList_load_mid rfl _ _ rfl b13 0 rfl cn.toList _ RGB.out Tryd.underlying26 rfl li13.out ?_))
      refine CS1.out.mono ?_
      rintro e w16 ⟨he16, hb16⟩
      rw [sameB_true rfl] at he16
      subst he16
      have L16 := Lib.hid (L15.out.keep hb16); have M16 := Lib.hid (M15.out.keep hb16); have X316 := Lib.hid (X315.out.keep hb16); have X616 := Lib.hid (X615.out.keep hb16); have X816 := Lib.hid (X815.out.keep hb16)
      have Q16 : Hid (Below w2.heap.size w2 w16) := Lib.hid (Q15.out.trans (hb16.mono Q15.out.size))
      have RGC := Lib.hid (rangeAt_blk X616.out); have RGD := Lib.hid (rangeAt_blk X316.out)
      have CS2 := Lib.hid (rsame_any cx cs3 t t w16 (MX.out w16 L16.out) (T2.out.keep Q16.out))
      clear hb16 L15 M15 X315 X615 X815 X1115 TZ15 TN15 Q15 RGA RGB CS1
      go_wp2_with fail
      refine wp_load_mid _ _ rfl b6 0 rfl cx.toList _ RGC.out Tryd.underlying26 rfl li6.out ?_
      rename_i hK
      refine hK _ _ ?_
      clear hK
      go_wp2_with fail
      refine wp_load_mid _ _ rfl b3 0 rfl cs3.toList _ RGD.out Tryd.underlying26 rfl li3.out ?_
      rename_i hK
      refine hK _ _ ?_
      clear hK
      go_wp2_with fail
      refine CS2.out.mono ?_
      rintro e w17 ⟨he17, hb17⟩
      rw [sameB_true rfl] at he17
      subst he17
      have L17 := Lib.hid (L16.out.keep hb17); have M17 := Lib.hid (M16.out.keep hb17); have X617 := Lib.hid (X616.out.keep hb17); have X817 := Lib.hid (X816.out.keep hb17)
      have Q17 : Hid (Below w2.heap.size w2 w17) := Lib.hid (Q16.out.trans (hb17.mono Q16.out.size))
      have B17 : Hid (Below w.heap.size w w17) := Lib.hid (W2B.out.trans (Q17.out.mono W2B.out.size))
      clear hb17 L16 M16 X316 X616 X816 Q16 RGC RGD CS2
      go_upto_region 20 with fail
      rename_i hK
      have hclsT : t.cls.length = 256 := by rw [HTT.out]; exact (decT_sound b).hc
      exact decodes_tail w w17 b6 b8 cx cy t vn1 vf1 ve1 vn2 vf2 ve2 w5.heap.size w7.heap.size m1 m2 gs1 gs2 X617.out X817.out HCX.out HCY.out hclsT (L17.out.less HN1.out.1) (M17.out.less HN2.out.1) B17.out (by have := HCH.out; omega) ⟨HN1.out.2, HN2.out.2⟩ HSZ.out (by have := HCH.out; have := X817.out.lt; omega) ⟨by have := HCH.out; omega, HBX1.out⟩ hK
end Go.Proofs.YtnglgppdkohhpaaDoor
