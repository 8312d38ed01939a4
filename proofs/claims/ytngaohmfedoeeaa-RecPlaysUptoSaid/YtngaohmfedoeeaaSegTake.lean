/- THE WALK of the book's take. -/
import Derived.Test.YtngaohmfedoeeaaSegBook
import Derived.Deep.RegionLaw
namespace Go.Proofs.Ytngaohmfedoeeaa
open Go.RowKit
def TakeP (C : Nat → Nat) (kb : Nat) (us : List Value) (ls : List (List UInt8)) (ss : List ByteArray) (w : World) (e : Ending) (w' : World) : Prop :=
  e = .returned (.bool true) ∧ ∃ C' vR vW, Blk w' kb 33 #[vR, vW] ∧ SL w' C' vR us ls ∧ WS w' C' vW ss ∧ Chg (fun b => C b = 6 ∨ C b = 7 ∨ C b = 8) w w' ∧ Sam w.heap.size C C'
set_option maxRecDepth 100000 in
set_option maxHeartbeats 4000000 in
theorem take_any (C : Nat → Nat) (kb : Nat) (vR vW u : Value) (us : List Value) (ls : List (List UInt8)) (ss : List ByteArray) (l : List UInt8) (Aw : Option Addr) (nw cw : Nat) (w : World)
    (hb : Blk w kb 33 #[vR, vW]) (hs : SL w C vR us ls) (hw : WS w C vW ss) (hu : SG w u l) (hc0 : ∀ b o, SegIn u b o → (C b = 9 ∨ C b = 3) ∧ ∀ (j : Nat) (x : Value), us[j]? = some x → ¬ SegIn x b o)
    (hr : RB w Aw nw l) (hck : C kb = 6) (hn : us.length ≤ 1000000) (hns : ss.length ≤ 1000000) (hwc : ∀ ad, 0 < nw → Aw = some ad → C ad.block ≠ 6 ∧ C ad.block ≠ 7 ∧ C ad.block ≠ 8) :
    Calls Try.prog 11 #[.pointer (some ⟨kb, 0, none⟩), u, .slice Aw nw cw] w (TakeP C kb (us ++ [u]) (ls ++ [l]) (ss ++ [strOf l]) w) := by
  obtain ⟨Au, cu, rfl, hcu, _⟩ := hu.form
  obtain ⟨AR, capR, rfl, hR1, _, _⟩ := hs.form
  obtain ⟨AW, capW, rfl, hW1, _, _⟩ := hw.form
  have hlen := hs.len
  rw [← hlen] at hs hR1 hb
  have HLN := Lib.hid hlen
  have c0 : w.cell? ⟨kb, 0, none⟩ = some (.slice AR us.length capR) := hb.cell 0
  have hal : Below w.heap.size w (w.alloc (.cells #[.slice Au l.length cu] 22)) := (Below.refl _ _).alloc (Nat.le_refl _) _
  have hstep : ∀ {w' : World}, Below w.heap.size w w' → SL w' C (.slice AR us.length capR) us ls ∧ WS w' C (.slice AW ss.length capW) ss := fun hb' => ⟨hs.step (Chg.of_below hb' (fun _ => False)) (Sam.refl _ _) (fun _ h => h.elim), hw.step (Chg.of_below hb' (fun _ => False)) (Sam.refl _ _) (fun _ h => h.elim)⟩
  have S1 := Lib.hid (hstep hal).1
  have W1 := Lib.hid (hstep hal).2
  have K1 := Lib.hid (hb.keep hal)
  have U1 := Lib.hid (hu.keep hal)
  have R1 := Lib.hid (hr.keep hal)
  have N1 : Hid (Blk (w.alloc (.cells #[.slice Au l.length cu] 22)) w.heap.size 22 #[.slice Au l.length cu]) := Lib.hid (Blk.new _ _ _ rfl)
  have HC0 := Lib.hid hc0; have HCK := Lib.hid hck; have HWC := Lib.hid hwc
  have HAL := Lib.hid hal
  have HKL := Lib.hid hb.lt
  have HRL : Hid (∀ ad, 0 < nw → Aw = some ad → ad.block < w.heap.size) := Lib.hid (fun ad hn e => by
    obtain ⟨b, off, e2, hlt, _⟩ := hr.2 hn
    rw [e] at e2
    obtain rfl := Option.some.inj e2
    exact hlt)
  clear hb hs hw hu hr hal hstep hc0 hck hlen hwc
  generalize hN : us.length = N at *
  generalize hM : ss.length = M at *
  generalize hL : l.length = L at *
  have HNN := Lib.hid hN; have HMM := Lib.hid hM; have HLL := Lib.hid hL
  clear hN hM hL
  go_enter Try.func11, Try.ntmps11
  obtain ⟨w1, hw1⟩ : ∃ w1, w1 = w.alloc (.cells #[.slice Au L cu] 22) := ⟨_, rfl⟩
  obtain ⟨b1, hb1⟩ : ∃ b1, b1 = w.heap.size := ⟨_, rfl⟩
  rw [← hw1] at S1 W1 K1 U1 R1 N1 HAL
  rw [← hb1] at N1
  have HW1 := Lib.hid hw1; have HB1 := Lib.hid hb1
  clear hw1 hb1
  go_wp2_with ((at_builtin; rw [← HW1.out, ← HB1.out]; go_must (refine append_one rfl (.tmp 11) (.tmp 13) 30 22 rfl Try.underlying30 infoB rfl 0 (.slice AR N capR) us rfl (by have := S1.out.own; rw [HNN.out] at this ⊢; exact this) b1 1 _ rfl (N1.out.cell 0) rfl (by rw [HNN.out]; omega) (by rw [HNN.out]; simp only [maxLen]; omega) (Nat.zero_le _) ?_); intro v2 w2 hv2 hg2 ha2; refine halt ?_))
  refine unhalt ?_
  have S2 := Lib.hid (S1.out.more U1.out HC0.out hv2 hg2 ha2)
  obtain ⟨C2, hC2⟩ : ∃ C2, C2 = paint C w1.heap.size 7 := ⟨_, rfl⟩
  have SM2 : Hid (Sam w1.heap.size C C2) := Lib.hid (by rw [hC2]; exact sam_paint _ _ _)
  rw [← hC2] at S2
  have hch2 : Chg (fun b => C b = 7) w1 w2 := (Chg.refl (fun b => C b = 7) w1).grown hg2 (fun b e _ => S1.out.memv b e)
  have W2 := Lib.hid (W1.out.step hch2 SM2.out (fun b e => by omega))
  have K2 := Lib.hid (K1.out.chg hch2 (by rw [HCK.out]; omega))
  have R2 := Lib.hid (hch2.rb R1.out (fun hn ad e => (HWC.out ad hn e).2.1))
  have CH2 := Lib.hid hch2
  have CK2 : Hid (C2 kb = 6) := Lib.hid ((SM2.out kb K1.out.lt).trans HCK.out)
  obtain ⟨A2, cap2, rfl, h21, _, _⟩ := S2.out.form
  have hl2 : (ls ++ [l]).length = N + 1 := by rw [List.length_append, ← HLN.out]; rfl
  rw [hl2] at S2 h21 ⊢
  have e0 : w2.cell? ⟨kb, 0, none⟩ = some (.slice AR N capR) := K2.out.cell 0
  have f0 := K2.out.frozen 0
  clear hv2 hg2 ha2 hC2 hch2 S1 W1 R1 N1 HW1 HB1 hl2 c0 U1
  go_upto_region 2 with fail
  obtain ⟨w3, hw3⟩ : ∃ w3, w3 = w2.setCell ⟨kb, 0, none⟩ (.slice A2 (N + 1) cap2) := ⟨_, rfl⟩
  have hs3 : Chg (fun b => b = kb) w2 (w2.setCell ⟨kb, 0, none⟩ (.slice A2 (N + 1) cap2)) := Chg.setCell (S := fun b => b = kb) (p := ⟨kb, 0, none⟩) (Chg.refl _ w2) (.inl rfl) _
  have CK := CK2.out
  have S3 := Lib.hid (S2.out.step hs3 (Sam.refl _ _) (fun b e => by subst e; omega))
  have W3 := Lib.hid (W2.out.step hs3 (Sam.refl _ _) (fun b e => by subst e; omega))
  have R3 := Lib.hid (hs3.rb R2.out (fun hn ad e h => (HWC.out ad hn e).1 (by rw [h]; exact HCK.out)))
  have K3 : Hid (Blk (w2.setCell ⟨kb, 0, none⟩ (.slice A2 (N + 1) cap2)) kb 33 #[.slice A2 (N + 1) cap2, .slice AW M capW]) := Lib.hid (by simpa using K2.out.set_ 0 (.slice A2 (N + 1) cap2))
  have CH3 : Hid (Chg (fun b => C b = 6 ∨ C b = 7 ∨ C b = 8) w1 (w2.setCell ⟨kb, 0, none⟩ (.slice A2 (N + 1) cap2))) := Lib.hid ((CH2.out.mono (fun b _ e => .inr (.inl e))).trans hs3 (fun b _ e => by rw [e]; exact .inl HCK.out))
  rw [← hw3] at S3 W3 R3 K3 CH3 ⊢
  clear hw3 hs3 e0 f0 S2 W2 R2 K2 CH2
  obtain ⟨st, hst⟩ : ∃ st, st = strOf l := ⟨_, rfl⟩
  have hcv : (convert 22 9 (.slice Aw nw cw)).run Try.prog w3.drew = .ok (.string st) w3.drew := by rw [hst]; exact conv_bytes _ _ _ _ _ (R3.out.drewN 1)
  have HST := Lib.hid hst
  have hal : Below w3.heap.size w3 (w3.alloc (.cells #[.string st] 9)).drew := ((Below.refl _ _).alloc (Nat.le_refl _) _).drew
  have hst4 : Chg (fun _ => False) w3 (w3.alloc (.cells #[.string st] 9)).drew := Chg.of_below hal _
  have S4 := Lib.hid (S3.out.step hst4 (Sam.refl _ _) (fun _ h => h.elim))
  have W4 := Lib.hid (W3.out.step hst4 (Sam.refl _ _) (fun _ h => h.elim))
  have K4 := Lib.hid (K3.out.keep hal)
  have R4 := Lib.hid (R3.out.keep hal)
  have CH4 := Lib.hid (CH3.out.trans hst4 (fun _ _ h => h.elim))
  have N4 : Hid ((w3.alloc (.cells #[.string st] 9)).drew.cell? ⟨w3.heap.size, 0, none⟩ = some (.string st)) := Lib.hid ((Blk.new w3 9 #[.string st] rfl).cell 0)
  have c1 : w3.cell? ⟨kb, 1, none⟩ = some (.slice AW M capW) := K3.out.cell 1
  have c1a : (w3.alloc (.cells #[.string st] 9)).cell? ⟨kb, 1, none⟩ = some (.slice AW M capW) := K4.out.cell 1
  have FIN : Hid (∀ (v5 : Value) (w5 : World), w5.ownsRow 0 9 1 v5 ((ss.map Value.string) ++ [Value.string st]).length ((ss.map Value.string) ++ [Value.string st]) → (w3.alloc (.cells #[.string st] 9)).drew.grownBy w5 (Value.slice AW M capW).ownBlock → (v5.ownBlock = (Value.slice AW M capW).ownBlock ∨ v5.ownBlock = some (w3.alloc (.cells #[.string st] 9)).drew.heap.size) →
      w5.cell? ⟨kb, 1, none⟩ = some (.slice AW M capW) ∧ w5.frozen? ⟨kb, 1, none⟩ = false ∧ RB w5 Aw nw l ∧ ∃ A5 cap5, v5 = .slice A5 (M + 1) cap5 ∧ ∃ C', Blk (w5.setCell ⟨kb, 1, none⟩ v5) kb 33 #[.slice A2 (N + 1) cap2, v5] ∧ SL (w5.setCell ⟨kb, 1, none⟩ v5) C' (.slice A2 (N + 1) cap2) (us ++ [.slice Au L cu]) (ls ++ [l]) ∧ WS (w5.setCell ⟨kb, 1, none⟩ v5) C' v5 (ss ++ [st]) ∧ Chg (fun b => C b = 6 ∨ C b = 7 ∨ C b = 8) w (w5.setCell ⟨kb, 1, none⟩ v5) ∧ Sam w.heap.size C C' ∧
        RB (w5.setCell ⟨kb, 1, none⟩ v5) Aw nw l ∧ RB (w5.setCell ⟨kb, 1, none⟩ v5) Au L l) := Lib.hid (fun v5 w5 hv hg ha => by
    have hv' : w5.ownsRow 0 9 1 v5 ((ss ++ [st]).map Value.string).length ((ss ++ [st]).map Value.string) := by rw [List.map_append]; exact hv
    obtain ⟨w4, hw4⟩ : ∃ w4, w4 = (w3.alloc (.cells #[.string st] 9)).drew := ⟨_, rfl⟩
    rw [← hw4] at hg ha
    have S4 := S4.out; have W4 := W4.out; have K4 := K4.out; have R4 := R4.out; have CH4 := CH4.out
    rw [← hw4] at S4 W4 K4 R4 CH4
    have hch5 : Chg (fun b => C2 b = 8) w4 w5 := (Chg.refl (fun b => C2 b = 8) w4).grown hg (fun b e _ => W4.memv b e)
    have CK := CK2.out
    have K5 := K4.chg hch5 (by omega)
    have hsw : w.heap.size ≤ w1.heap.size := HAL.out.size
    have hC2 : ∀ b, b < w.heap.size → C2 b = C b := fun b hb => SM2.out b (by omega)
    have R5 := hch5.rb R4 (fun hn ad e h => (HWC.out ad hn e).2.2 (by rw [← hC2 _ (HRL.out ad hn e)]; exact h))
    have W5 := W4.more hv' ha
    have S5 := S4.step hch5 (sam_paint C2 w4.heap.size 8) (fun b e => by omega)
    obtain ⟨A5, cap5, hv5, _⟩ := W5.form
    have hM1 : (ss ++ [st]).length = M + 1 := by rw [List.length_append, HMM.out]; rfl
    rw [hM1] at hv5
    have hK' : paint C2 w4.heap.size 8 kb = 6 := (sam_paint C2 _ 8 kb K4.lt).trans CK
    have hs6 : Chg (fun b => b = kb) w5 (w5.setCell ⟨kb, 1, none⟩ v5) := Chg.setCell (S := fun b => b = kb) (p := ⟨kb, 1, none⟩) (Chg.refl _ w5) (.inl rfl) _
    have S6 := S5.step hs6 (Sam.refl _ _) (fun b e => by subst e; omega)
    have hsz4 : w1.heap.size ≤ w4.heap.size := CH4.size
    refine ⟨K5.cell 1, K5.frozen 1, R5, A5, cap5, hv5, _, by simpa using K5.set_ 1 v5, S6, W5.step hs6 (Sam.refl _ _) (fun b e => by subst e; omega), ?_, ?_, hs6.rb R5 (fun hn ad e h => (HWC.out ad hn e).1 (by rw [h]; exact HCK.out)), ?_⟩
    · refine (((Chg.of_below HAL.out (fun b => C b = 6 ∨ C b = 7 ∨ C b = 8)).trans CH4 (fun _ _ h => h)).trans hch5 (fun b hb e => ?_)).trans hs6 (fun b _ e => by rw [e]; exact .inl HCK.out)
      rw [hC2 b hb] at e
      exact .inr (.inr e)
    · exact (SM2.out.mono hsw).trans (sam_paint C2 _ 8) (by omega)
    · have h1 : (us ++ [Value.slice Au L cu])[us.length]? = some (Value.slice Au L cu) := by simp
      have h2 : (ls ++ [l])[us.length]? = some l := by rw [HNN.out, HLN.out]; simp
      exact (S6.sg _ _ _ h1 h2).rb)
  have HO : Hid ((w3.alloc (.cells #[.string st] 9)).drew.ownsRow 0 9 1 (.slice AW M capW) (ss.map Value.string).length (ss.map Value.string)) := Lib.hid W4.out.own
  have HM5 : Hid (((ss.map Value.string).length + 1) * 16 ≤ 140737488355328 ∧ (ss.map Value.string).length + 1 ≤ maxLen) := Lib.hid (by rw [List.length_map, HMM.out]; simp only [maxLen]; omega)
  clear S3 W3 R3 K3 CH3 S4 W4 K4 R4 CH4 hal hst4 hst HNN
  go_region_law ((refine step_append_one rfl (.tmp 21) (.tmp 24) 31 9 rfl Try.underlying31 infoS rfl 0 (.slice AW M capW) (ss.map Value.string) rfl HO.out w3.heap.size 1 (.string st) rfl N4.out rfl HM5.out.1 HM5.out.2 (Nat.zero_le _) ?_; intro v5 w5 hv5 hg5 ha5; obtain ⟨f1, f2, f3, A5, cap5, rfl, fin⟩ := FIN.out v5 w5 hv5 hg5 ha5; have F3 := Lib.hid fin; clear hv5 hg5 ha5 f3 fin))
  all_goals
    obtain ⟨C', k6, s6, w6, c6, sm6, r6, u6⟩ := F3.out
    have CS := Lib.hid (same_any Au Aw L nw cu cw l l true _ u6 r6 (by simp))
    have HF : Hid (TakeP C kb (us ++ [.slice Au L cu]) (ls ++ [l]) (ss ++ [strOf l]) w (.returned (.bool true)) (w5.setCell ⟨kb, 1, none⟩ (.slice A5 (M + 1) cap5))) := Lib.hid (by rw [← HST.out]; exact ⟨rfl, C', _, _, k6, s6, w6, c6, sm6⟩)
    clear F3 k6 s6 w6 c6 sm6 r6 u6
    go_wp2_with fail
    refine CS.out.mono ?_
    rintro e w' ⟨rfl, rfl⟩
    go_wp2_with fail
    go_ret
    exact HF.out
end Go.Proofs.Ytngaohmfedoeeaa
