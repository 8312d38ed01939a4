/- THE WALK of known (package heronlaw22). -/
import Derived.Test.YtlojmmcagglpoaaGreatEDiskFile
import Derived.Test.YtlojmmcagglpoaaGreatEStoreStep
import Derived.Test.YtlojmmcagglpoaaGreatEStr
import Derived.Lib.SmallJoins
namespace Go.Proofs.YtlojmmcagglpoaaGreat
open Go.RowKit Go.Maps
theorem Dk.load_ok {d : Dk} {nm : List UInt8} (hm : mayB nm = true) {i : Int} {x : Fl} (hf : d.file nm = some (i, x)) : d.load nm = (x.by_, 0) := by unfold Dk.load; rw [if_pos hm, hf]
theorem Dk.load_no {d : Dk} {nm : List UInt8} (hm : mayB nm = true) (hf : d.file nm = none) : d.load nm = ([], 141) := by unfold Dk.load; rw [if_pos hm, hf]
theorem kept_zero (x : Fl) : (x.kept 0).by_ = [] ∧ (x.kept 0).nm = x.nm := by
  unfold Fl.kept
  by_cases h : 0 < x.by_.length
  · rw [if_pos h]; exact ⟨by simp, rfl⟩
  · rw [if_neg h]; exact ⟨List.eq_nil_of_length_eq_zero (by show x.by_.length = 0; omega), rfl⟩
/-- k steps of a writing of l are done on a disk that was d0 -/
structure Wrote (k : Nat) (d0 d : Dk) (nm sc l : List UInt8) : Prop where
  oth : ∀ m, m ≠ nm → m ≠ sc → d.file m = d0.file m
  own : k < 4 → d.file nm = d0.file nm
  ownS : k < 4 → d.se nm = d0.se nm
  one : 1 ≤ k → k < 4 → ∃ i x, d.file sc = some (i, x) ∧ x.by_ = (if k = 1 then [] else l) ∧ (k = 3 → x.la = l.length)
  all : k = 4 → d.file sc = none ∧ ∃ i x, d.file nm = some (i, x) ∧ x.by_ = l ∧ x.la = l.length
def wrAt (nm sc l : List UInt8) (k : Nat) : Wr := if k = 4 then ⟨nm, sc, [], false, 4⟩ else ⟨nm, sc, l, true, k⟩
theorem wrote_step {k n : Nat} {d0 d : Dk} {nm sc l : List UInt8} (hd : d.Ok n) (h : Wrote k d0 d nm sc l) (hm : mayB nm = true) (hm2 : mayB sc = true) (hne : nm ≠ sc) (hl : l.length ≤ 1048576) (hk : k < 4) :
    ((wrAt nm sc l k).step d).1 = (decide (k = 3), 0) ∧ ((wrAt nm sc l k).step d).2.2 = wrAt nm sc l (k + 1) ∧ Wrote (k + 1) d0 ((wrAt nm sc l k).step d).2.1 nm sc l := by
  have hw : wrAt nm sc l k = ⟨nm, sc, l, true, k⟩ := by unfold wrAt; rw [if_neg (by omega)]
  have key : ∀ d', (wrAt nm sc l k).op d = (0, d') → ((wrAt nm sc l k).step d).1 = (decide (k = 3), 0) ∧ ((wrAt nm sc l k).step d).2.2 = wrAt nm sc l (k + 1) ∧ ((wrAt nm sc l k).step d).2.1 = d' := fun d' e => by
    unfold Wr.step
    rw [e, hw]
    simp only [if_true]
    refine ⟨by simp, ?_, trivial⟩
    unfold wrAt
    by_cases h3 : k = 3
    · rw [if_pos (.inr h3), h3]; rfl
    · rw [if_neg (by simpa using h3), if_neg (by omega)]
  rcases (by omega : k = 0 ∨ k = 1 ∨ k = 2 ∨ k = 3) with rfl | rfl | rfl | rfl
  · cases hf : d.file sc with
    | none =>
      have hns := hd.none_file hf
      have hop : (wrAt nm sc l 0).op d = (0, d.made sc) := by
        rw [hw]
        show (if (d.stat sc).2 = 0 then d.cut sc else d.create sc) = _
        rw [Dk.stat_no hm2 hf, if_neg (by decide), Dk.create_ok sc hm2 hns]
      obtain ⟨a, b, c⟩ := key _ hop
      refine ⟨a, b, ?_⟩
      rw [c]
      have hfm := hd.file_made hns
      refine ⟨fun m h1 h2 => by rw [hfm, if_neg h2]; exact h.oth m h1 h2, fun _ => by rw [hfm, if_neg hne]; exact h.own (by omega), fun _ => ?_, fun _ _ => ⟨_, _, by rw [hfm, if_pos rfl], rfl, by omega⟩, by omega⟩
      rw [← h.ownS (by omega)]
      unfold Dk.made
      rw [Dk.named_se, if_neg hne]; rfl
    | some ix =>
      obtain ⟨i, x⟩ := ix
      have hop : (wrAt nm sc l 0).op d = (0, d.edit i (x.kept 0)) := by
        rw [hw]
        show (if (d.stat sc).2 = 0 then d.cut sc else d.create sc) = _
        rw [Dk.stat_ok hm2 hf, if_pos rfl]
        exact Dk.edits_ok hm2 hf _
      obtain ⟨a, b, c⟩ := key _ hop
      refine ⟨a, b, ?_⟩
      rw [c]
      have hfm := hd.file_edit hf (x.kept 0)
      exact ⟨fun m h1 h2 => by rw [hfm, if_neg h2]; exact h.oth m h1 h2, fun _ => by rw [hfm, if_neg hne]; exact h.own (by omega), fun _ => h.ownS (by omega), fun _ _ => ⟨_, _, by rw [hfm, if_pos rfl], (kept_zero x).1, by omega⟩, by omega⟩
  · obtain ⟨i, x, hf, hx, _⟩ := h.one (by omega) (by omega)
    rw [if_pos rfl] at hx
    have hop : (wrAt nm sc l 1).op d = (0, d.app i x l) := by
      rw [hw]
      exact Dk.append_ok hm2 hf (by rw [hx]; simpa using hl)
    obtain ⟨a, b, c⟩ := key _ hop
    refine ⟨a, b, ?_⟩
    rw [c]
    have hfm := hd.file_app hf l
    exact ⟨fun m h1 h2 => by rw [hfm, if_neg h2]; exact h.oth m h1 h2, fun _ => by rw [hfm, if_neg hne]; exact h.own (by omega), fun _ => h.ownS (by omega), fun _ _ => ⟨_, _, by rw [hfm, if_pos rfl], by rw [hx]; rfl, by omega⟩, by omega⟩
  · obtain ⟨i, x, hf, hx, _⟩ := h.one (by omega) (by omega)
    rw [if_neg (by omega)] at hx
    have hop : (wrAt nm sc l 2).op d = (0, d.edit i { x with la := x.by_.length }) := by
      rw [hw]
      exact Dk.edits_ok hm2 hf _
    obtain ⟨a, b, c⟩ := key _ hop
    refine ⟨a, b, ?_⟩
    rw [c]
    have hfm := hd.file_edit hf { x with la := x.by_.length }
    exact ⟨fun m h1 h2 => by rw [hfm, if_neg h2]; exact h.oth m h1 h2, fun _ => by rw [hfm, if_neg hne]; exact h.own (by omega), fun _ => h.ownS (by omega), fun _ _ => ⟨_, _, by rw [hfm, if_pos rfl], by rw [if_neg (by omega)]; exact hx, fun _ => by show x.by_.length = _; rw [hx]⟩, by omega⟩
  · obtain ⟨i, x, hf, hx, hla⟩ := h.one (by omega) (by omega)
    rw [if_neg (by omega)] at hx
    have hop : (wrAt nm sc l 3).op d = (0, d.ren sc nm i x) := by
      rw [hw]
      exact Dk.rename_ok hm2 hm (fun e => hne e.symm) hf
    obtain ⟨a, b, c⟩ := key _ hop
    refine ⟨a, b, ?_⟩
    rw [c]
    have hfm := hd.file_ren (fun e => hne e.symm) hf
    exact ⟨fun m h1 h2 => by rw [hfm, if_neg h1, if_neg h2]; exact h.oth m h1 h2, by omega, by omega, by omega, fun _ => ⟨by rw [hfm, if_neg (fun e => hne e.symm), if_pos rfl], i, { x with nm := nm }, by rw [hfm, if_pos rfl], hx, hla rfl⟩⟩
theorem Wrote.zero (d : Dk) (nm sc l : List UInt8) : Wrote 0 d d nm sc l := ⟨fun _ _ _ => rfl, fun _ => rfl, fun _ => rfl, by omega, by omega⟩
end Go.Proofs.YtlojmmcagglpoaaGreat
namespace Go.Proofs.YtlojmmcagglpoaaGreat
open Go.RowKit Go.Maps
/-- a disk of colour 1 and a writer of colour 2 in memory of the call's own -/
structure SS (w0 W : World) (C : Nat → Nat) (p n g : Nat) (d : Dk) (v : Value) (r : Wr) : Prop where
  bel : Below w0.heap.size w0 W
  sam : Sam w0.heap.size (fun _ => 0) C
  dc : DC W w0.heap.size C 1 p n d
  wc : WC W w0.heap.size C 2 g v r
  rok : r.Ok
theorem SS.keep {w0 W w' : World} {C : Nat → Nat} {p n g : Nat} {d : Dk} {v : Value} {r : Wr} (h : SS w0 W C p n g d v r) (hb : Below W.heap.size W w') : SS w0 w' C p n g d v r :=
  ⟨h.bel.trans (hb.mono h.bel.size), h.sam, h.dc.keep hb (Sam.refl _ _), h.wc.keep hb (Sam.refl _ _), h.rok⟩
theorem SS.step {w0 W w' : World} {C : Nat → Nat} {p n g : Nat} {d : Dk} {v : Value} {r : Wr} (h : SS w0 W C p n g d v r) {e : Ending} (hq : StepW W w0.heap.size w0.heap.size C 1 2 p (n + 2) g (r.step d) e w') : ∃ v', SS w0 w' (paint C W.heap.size 1) p (n + 2) g (r.step d).2.1 v' (r.step d).2.2 := by
  obtain ⟨_, h1, ⟨v', h2⟩, h3⟩ := hq
  refine ⟨v', (h.bel.trans (h3.below (fun k hk e => ?_) h.bel.size)), (h.sam.trans (sam_paint _ _ _) h.bel.size), h1, h2, h.rok.step d⟩
  rcases e with e | e
  · have := h.sam k hk
    rw [e] at this; cases this
  · have := h.wc.lo; omega
theorem num_any (W : World) (k : Int) : Calls Tryz.prog 60 #[.int .i64 k] W fun e w' => e = .returned (.int .i64 k) ∧ W = w' := by
  go_enter Tryz.func60, Tryz.ntmps60
  go_wp2_with fail
  go_ret
  exact ⟨rfl, rfl⟩
def TrueQ (w : World) (e : Ending) (w' : World) : Prop := e = .returned (.bool true) ∧ Below w.heap.size w w'
def nA : List UInt8 := [97]
def nB : List UInt8 := [98]
def nXY : List UInt8 := [120, 121]
theorem okA : okName nA := by unfold okName; decide
theorem okB : okName nB := by unfold okName; decide
theorem mayA : mayB nA = true := mayB_of (by decide)
theorem mayBB : mayB nB = true := mayB_of (by decide)
theorem neAB : nA ≠ nB := by decide
set_option maxRecDepth 20000 in
set_option maxHeartbeats 2000000 in
theorem known_any (w : World) : Calls Tryz.prog 13 #[] w (TrueQ w) := by
  have CN := Lib.hid (new_c w (fun _ => 0) 1)
  have HNU := Lib.hid num_any
  have kc := fun (w : World) (C : Array Value) (n c g : Nat) (hg : g = w.heap.size) => Joins.run_convert_bytes_const_at (P := Tryz.prog) w 61 5 C n c g hg Tryz.underlying61 Tryz.underlying5
  go_enter Tryz.func13, Tryz.ntmps13
  go_wp2_with fail
  refine CN.out.mono ?_
  rintro e w1 ⟨p, rfl, hp, hd, hb⟩
  have D1 := Lib.hid hd; have B1 := Lib.hid hb; have S1 : Hid (Sam w.heap.size (fun _ => 0) (paint (fun _ => 0) w.heap.size 1)) := Lib.hid (sam_paint _ _ _)
  have CW := Lib.hid (snew_any w1 (paint (fun _ => 0) w.heap.size 1) 2 nA nB okA okB)
  clear hd hb hp CN
  go_wp2_with fail
  refine CW.out.mono ?_
  rintro e w2 ⟨hb2, ⟨h0, _⟩ | ⟨_, g, rfl, hw⟩⟩
  · exact absurd (show newE nA nB = 0 by unfold newE; rw [mayA, mayBB]; simp [neAB]) h0
  obtain ⟨C2, hC2⟩ : ∃ C2, C2 = paint (paint (fun _ => 0) w.heap.size 1) w1.heap.size 2 := ⟨_, rfl⟩
  rw [← hC2] at hw
  have S2 : Hid (Sam w.heap.size (fun _ => 0) C2) := Lib.hid (by rw [hC2]; exact S1.out.trans (sam_paint _ _ _) B1.out.size)
  have D2 : Hid (DC w2 w.heap.size C2 1 p 0 emptyD) := Lib.hid (D1.out.keep hb2 (by rw [hC2]; exact sam_paint _ _ _))
  have B2 : Hid (Below w.heap.size w w2) := Lib.hid (B1.out.trans (hb2.mono B1.out.size))
  have W2 : Hid (WC w2 w.heap.size C2 2 g (.slice none 0 0) ⟨nA, nB, [], false, 0⟩) := Lib.hid ⟨hw.blk, hw.own.less B1.out.size, Nat.le_trans B1.out.size hw.lo, hw.col⟩
  clear hb2 hw hC2 CW D1 B1 S1
  go_wp2_with fail
  refine (HNU.out _ _).mono ?_
  rintro e w2' ⟨rfl, rfl⟩
  go_wp2_with fail
  obtain ⟨w3, hw3⟩ : ∃ w3, w3 = w2.alloc (.cells #[.int .u8 120, .int .u8 121] 5 (2, 3)) := ⟨_, rfl⟩
  obtain ⟨b3, hb3⟩ : ∃ b3, b3 = w2.heap.size := ⟨_, rfl⟩
  have B23 : Hid (Below w2.heap.size w2 w3) := Lib.hid (by rw [hw3]; exact (Below.refl _ _).alloc (Nat.le_refl _) _)
  have R3 : Hid (RB w3 (some ⟨b3, 0, none⟩) 2 nXY) := Lib.hid (by rw [hw3, hb3]; exact RB.new w2 5 (2, 3) #[.int .u8 120, .int .u8 121] nXY rfl 2 rfl)
  rw [← hw3, ← hb3]
  have D3 := Lib.hid (D2.out.keep B23.out (Sam.refl _ _))
  have W3 := Lib.hid (W2.out.keep B23.out (Sam.refl _ _))
  have B3 : Hid (Below w.heap.size w w3) := Lib.hid (B2.out.trans (B23.out.mono B2.out.size))
  clear hw3 hb3
  have CB := Lib.hid (begin_any w3 w.heap.size C2 2 g (.slice none 0 0) ⟨nA, nB, [], false, 0⟩ W3.out B3.out.size (some ⟨b3, 0, none⟩) 2 2 nXY R3.out (by decide))
  refine CB.out.mono ?_
  rintro e w4 ⟨rfl, ⟨v4, hw4⟩, hc4⟩
  have SS4 : Hid (SS w w4 (paint C2 w3.heap.size 2) p 0 g emptyD v4 (wrAt nA nB nXY 0)) := Lib.hid ⟨B3.out.trans (hc4.below (fun k hk e => by have := W3.out.lo; omega) B3.out.size), S2.out.trans (sam_paint _ _ _) B3.out.size, D3.out.step hc4 (sam_paint _ _ _) (fun b hb => by rw [hb, W3.out.col.1]; decide), hw4, ⟨okA, okB, by decide, fun _ => by decide⟩⟩
  have hr4 : ((⟨nA, nB, [], false, 0⟩ : Wr).begin nXY).1 = 0 := rfl
  rw [hr4]
  clear hr4 hw4 hc4 CB D3 W3 B3 R3 B23 D2 W2 B2 S2
  go_wp2_with fail
  refine (HNU.out _ _).mono ?_
  rintro e w4' ⟨rfl, rfl⟩
  go_wp2_with fail
  have CB := Lib.hid (busy_any w4 w.heap.size _ 2 g v4 _ SS4.out.wc)
  have hbt : (wrAt nA nB nXY 0).busy = true := rfl
  rw [hbt] at CB
  refine CB.out.mono ?_
  rintro e w4' ⟨rfl, rfl⟩
  clear CB hbt
  go_wp2_with fail
  go_loopw [4] (fun s4 W => ∃ k : Nat, k ≤ 4 ∧ s4 = .int .i64 (k : Int) ∧ ∃ C v d, Hid (SS w W C p (2 * k) g d v (wrAt nA nB nXY k)) ∧ Hid (Wrote k emptyD d nA nB nXY)) (fun s4 _ => 4 - (intOf s4).toNat)
  case atStart => exact ⟨0, by omega, rfl, _, _, _, SS4, Lib.hid (Wrote.zero _ _ _ _)⟩
  case round =>
    obtain ⟨k, hk, rfl, C, v, d, HS, HWR⟩ := hrel
    clear SS4
    by_cases hlt : k < 4
    · have hki : (k : Int) < 4 := by omega
      have hws := Lib.hid (wrote_step HS.out.dc.ok HWR.out mayA mayBB neAB (by decide) hlt)
      have CS := Lib.hid (wstep_any wr w.heap.size w.heap.size C 1 2 p (2 * k) g d v _ (by decide) HS.out.dc (by omega) HS.out.wc HS.out.rok)
      go_wp2_with fail
      refine CS.out.mono ?_
      intro e w5 hq
      obtain ⟨v5, hs5⟩ := HS.out.step hq
      have he := hq.1
      rw [hws.out.1] at he
      simp only at he
      have HS5 : Hid (SS w w5 (paint C wr.heap.size 1) p (2 * (k + 1)) g ((wrAt nA nB nXY k).step d).2.1 v5 (wrAt nA nB nXY (k + 1))) := Lib.hid (by rw [← hws.out.2.1]; exact hs5)
      have HW5 := Lib.hid hws.out.2.2
      subst he
      clear hq hs5 CS
      obtain ⟨bb, hbb⟩ : ∃ bb, bb = decide (k = 3) := ⟨_, rfl⟩
      have hb2 : ((k : Int) == 3) = bb := by rw [hbb]; by_cases h : k = 3 <;> simp [h]; omega
      rw [← hbb]
      clear hbb
      go_wp2_with fail
      refine (HNU.out _ _).mono ?_
      rintro e w5' ⟨rfl, rfl⟩
      go_wp2_with fail
      go_roundw
      case rel =>
        first
          | exact ⟨k + 1, by omega, by go_num, _, _, _, HS5, HW5⟩
          | ((repeat apply Exists.intro); exact ⟨⟨k + 1, by omega, by go_num, _, _, _, HS5, HW5⟩, rfl⟩)
      case measure => simp [intOf]; omega
    · obtain rfl : k = 4 := by omega
      obtain ⟨hno, i, x, hf, hx, _⟩ := HWR.out.all rfl
      have CA := Lib.hid (load_c HS.out.dc nA okA)
      have CB := Lib.hid (fun W hb => load_c (HS.out.dc.keep (w' := W) hb (Sam.refl _ _)) nB okB)
      rw [Dk.load_ok mayA hf, hx] at CA
      rw [Dk.load_no mayBB hno] at CB
      clear hno hf hx
      go_wp2_with fail
      refine CA.out.mono ?_
      rintro e w5 ⟨va, rfl, hoa, hba⟩
      obtain ⟨Aa, ca, rfl, _, _, hra⟩ := hoa.form
      have BA := Lib.hid hba
      have RA := Lib.hid hra
      clear hoa hba hra CA
      go_wp2_with fail
      refine (CB.out _ BA.out).mono ?_
      rintro e w6 ⟨vb, rfl, hob, hbb⟩
      have S6 := Lib.hid ((HS.out.keep BA.out).keep hbb)
      have cv := conv_bytes w6 Aa nXY.length ca nXY ((RA.out.keep hbb))
      have ecv : (strOf nXY).toList = [120, 121] := by rw [ByteArray.toList_eq]; rfl
      have CY := Lib.hid (busy_any w6 w.heap.size C 2 g v _ S6.out.wc)
      have hbf : (wrAt nA nB nXY 4).busy = false := rfl
      rw [hbf] at CY
      clear hob hbb CB RA BA hbf
      go_wp2_with fail
      refine (HNU.out _ _).mono ?_
      rintro e w6' ⟨rfl, rfl⟩
      go_wp2_with fail
      refine (HNU.out _ _).mono ?_
      rintro e w6' ⟨rfl, rfl⟩
      go_wp2_with fail
      refine CY.out.mono ?_
      rintro e w6' ⟨rfl, rfl⟩
      have HF : Hid (TrueQ w (.returned (.bool true)) w6) := Lib.hid ⟨rfl, S6.out.bel⟩
      go_wp2_with fail
      go_ret
      exact HF.out
end Go.Proofs.YtlojmmcagglpoaaGreat
