/- THE WALK of heronlaw02.fixed. -/
import Derived.Test.YtngaohmfedoeeaaRecLaw
namespace Go.Proofs.Ytngaohmfedoeeaa
open Go.RowKit
theorem RB.adv {w : World} {g : Nat} {A B : Option Addr} {n cap m : Nat} {l b : List UInt8} (h : RB w B m b) (hm : RD w g A n cap l) (k : Nat) : RB (advW w g A n cap k) B m b :=
  h.set_far (p := ⟨g, 0, none⟩) (hm.blk.nobytes h (fun i x => by
    match i with
    | 0 => simp
    | i + 1 => simp)) _
theorem below_adv {w0 w : World} {g : Nat} {A : Option Addr} {n cap : Nat} (h : Below w0.heap.size w0 w) (hg : w0.heap.size ≤ g) (k : Nat) : Below w0.heap.size w0 (advW w g A n cap k) := h.setCell hg _
theorem advW_size (w : World) (g : Nat) (A : Option Addr) (n cap k : Nat) : (advW w g A n cap k).heap.size = w.heap.size := by simp [advW, World.setCell]
theorem RD.keep {w w' : World} {g : Nat} {A : Option Addr} {n cap : Nat} {l : List UInt8} (h : RD w g A n cap l) (hb : Below w.heap.size w w') : RD w' g A n cap l :=
  ⟨(hb.block g h.blk.lt).trans h.blk, h.rd.keep hb, h.hc⟩
theorem RD.alloc {w : World} {g : Nat} {A : Option Addr} {n cap : Nat} {l : List UInt8} (h : RD w g A n cap l) (o : Obj) : RD (w.alloc o) g A n cap l := h.keep ((Below.refl _ _).alloc (Nat.le_refl _) _)
theorem OB.rb {w : World} {base n cap : Nat} {A : Option Addr} {l : List UInt8} (h : OB w base (.slice A n cap) l) : RB w A n l := by
  obtain ⟨A', c', e, _, _, hr⟩ := h.form
  injection e with e1 e2 e3
  subst e1; subst e2; exact hr
set_option maxRecDepth 100000 in
set_option maxHeartbeats 4000000 in
theorem fixed_any (w : World) : Calls Try.prog 6 #[] w fun e w' => e = .returned (.bool true) ∧ Below w.heap.size w w' := by
  go_enter Try.func6, Try.ntmps6
  go_wp2_with fail
  refine (num_ok 258 3 w (by omega) (by omega) (by decide)).mono ?_
  intro e w1 hpost
  obtain ⟨g1, rfl, hg1, ho1, hb1⟩ := hpost
  have R1 := Lib.hid ho1.rb; have B1 := Lib.hid hb1
  have s1 := hb1.size
  clear ho1 hb1
  go_wp2_with fail
  refine (read_any _ 7 7 [2, 1, 0, 0, 0, 97, 7] _ ?_ (by omega)).mono ?_
  · exact RB.new' _ _ _ _ _ rfl _ _ (by first | omega | (simp; done) | (simp; omega)) rfl
  intro e w2 hpost
  obtain ⟨g, D, dc, rfl, hg, hm, _, hb2⟩ := hpost
  have hg' : w.heap.size ≤ g := by have := hg; simp at this; omega
  have R2 := Lib.hid ((R1.out.alloc (.cells #[.int .u8 2, .int .u8 1, .int .u8 0, .int .u8 0, .int .u8 0, .int .u8 97, .int .u8 7] 5)).keep hb2)
  have B2 := Lib.hid ((B1.out.alloc s1 (.cells #[.int .u8 2, .int .u8 1, .int .u8 0, .int .u8 0, .int .u8 0, .int .u8 97, .int .u8 7] 5)).trans (hb2.mono (by simp; omega)))
  have M2 : Hid (RD w2 g D 7 dc [2, 1, 0, 0, 0, 97, 7]) := Lib.hid hm
  have hD : 7 ≤ dc := hm.hc
  clear hm hb2 hg R1 B1 s1
  go_wp2_with fail
  refine (rnum_ok g D 7 dc [2, 1, 0, 0, 0, 97, 7] 1 _ M2.out (by omega) (by omega) (by omega)).mono ?_
  rintro e w' ⟨rfl, rfl⟩
  rw [show leV (List.take 1 [2, 1, 0, 0, 0, 97, 7]) = 2 from by decide]
  have R3 := Lib.hid (R2.out.adv M2.out 1); have B3 := Lib.hid (below_adv (A := D) (n := 7) (cap := dc) B2.out hg' 1); have M3 : Hid (RD (advW w2 g D 7 dc 1) g (advA D dc 1) 6 (dc - 1) [1, 0, 0, 0, 97, 7]) := Lib.hid (M2.out.adv (k := 1) (by omega))
  have hc3 : 6 ≤ dc - 1 := by omega
  clear R2 B2 M2
  generalize advW w2 g D 7 dc 1 = w3 at *
  generalize advA D dc 1 = D3 at *
  generalize dc - 1 = c3 at *
  go_wp2_with fail
  refine (rtext_ok g D3 6 c3 [1, 0, 0, 0, 97, 7] 1 _ M3.out (by omega) (by decide) (by omega) (by omega)).mono ?_
  rintro e w' ⟨rfl, rfl⟩
  rw [show strOf (List.take 1 (List.drop 4 [1, 0, 0, 0, 97, 7])) = ⟨#[97]⟩ from rfl]
  have R4 := Lib.hid (R3.out.adv M3.out 5); have B4 := Lib.hid (below_adv (A := D3) (n := 6) (cap := c3) B3.out hg' 5); have M4 : Hid (RD (advW w3 g D3 6 c3 5) g (advA D3 c3 5) 1 (c3 - 5) [7]) := Lib.hid (M3.out.adv (k := 5) (by omega))
  have hc4 : 1 ≤ c3 - 5 := by omega
  clear R3 B3 M3
  rw [show advW w3 g D3 6 c3 (4 + 1) = advW w3 g D3 6 c3 5 from rfl]
  generalize advW w3 g D3 6 c3 5 = w4 at *
  generalize advA D3 c3 5 = D4 at *
  generalize c3 - 5 = c4 at *
  go_wp2_with fail
  refine (rnum_short g D4 1 c4 [7] 2 _ M4.out (by omega) (by omega) (by omega)).mono ?_
  rintro e w' ⟨rfl, rfl⟩
  go_wp2_with fail
  refine (rtake_ok g D4 1 c4 [7] 1 _ M4.out (by omega)).mono ?_
  rintro e w' ⟨rfl, rfl⟩
  have R5 := Lib.hid (R4.out.adv M4.out 1); have B5 := Lib.hid (below_adv (A := D4) (n := 1) (cap := c4) B4.out hg' 1); have M5 : Hid (RD (advW w4 g D4 1 c4 1) g (advA D4 c4 1) 0 (c4 - 1) []) := Lib.hid (M4.out.adv (k := 1) (by omega))
  have T5 := Lib.hid (M4.out.rd.adv M4.out 1)
  clear R4 B4 M4
  generalize advW w4 g D4 1 c4 1 = w5 at *
  generalize advA D4 c4 1 = D5 at *
  generalize c4 - 1 = c5 at *
  go_wp2_with fail
  refine (same_any _ _ _ _ _ _ (leB 258 3) [2, 1, 0] true _ (R5.out.alloc _) ?_ (by decide)).mono ?_
  · exact RB.new' _ _ _ _ _ rfl _ _ (by first | omega | (simp; done) | (simp; omega)) rfl
  rintro e w' ⟨rfl, rfl⟩
  go_wp2_with fail
  refine (same_any _ _ _ _ _ _ [7] [7] true _ ((T5.out.alloc _).alloc _) ?_ (by decide)).mono ?_
  · exact RB.new' _ _ _ _ _ rfl _ _ (by first | omega | (simp; done) | (simp; omega)) rfl
  rintro e w' ⟨rfl, rfl⟩
  go_wp2_with fail
  refine (left_any g D5 0 c5 [] _ ((M5.out.alloc _).alloc _)).mono ?_
  rintro e w' ⟨rfl, rfl⟩
  go_wp2_with fail
  refine (text_any _ _ (by decide)).mono ?_
  intro e w6 hpost
  obtain ⟨v6, rfl, ho6, hb6⟩ := hpost
  obtain ⟨A6, c6, rfl, _, _, hr6⟩ := ho6.form
  have hcv := conv_bytes _ _ _ c6 _ hr6
  have ht : textB (⟨#[97, 98]⟩ : ByteArray).data.toList = [2, 0, 0, 0, 97, 98] := by decide
  rw [ht] at hcv
  rw [ht]
  have hcv' : (convert 22 9 (.slice A6 6 c6)).run Try.prog w6 = .ok (.string ⟨#[2, 0, 0, 0, 97, 98]⟩) w6 := hcv
  rw [show ([2, 0, 0, 0, 97, 98] : List UInt8).length = 6 from rfl]
  have HB : Hid (Below w.heap.size w w6) := Lib.hid (((B5.out.alloc B5.out.size (.cells #[.int .u8 2, .int .u8 1, .int .u8 0] 5)).alloc (by have := B5.out.size; simp; omega) (.cells #[.int .u8 7] 5)).trans (hb6.mono (by have := B5.out.size; simp; omega)))
  clear ht hcv ho6 hb6 hr6 B5
  go_wp2_with fail
  go_ret
  exact ⟨rfl, HB.out⟩
end Go.Proofs.Ytngaohmfedoeeaa
