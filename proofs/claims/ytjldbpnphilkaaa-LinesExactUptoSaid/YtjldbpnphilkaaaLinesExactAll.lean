/- THE WALK of heronlaw16.LinesExact, both ways. -/
import Derived.Test.YtjldbpnphilkaaaLinesExact
namespace Go.Proofs.Ytjldbpnphilkaaa
open Go.RowKit
def badM (x : Int) : Prop := x < 0 ∨ 4096 < x
def GoodPost (w : World) (e : Ending) (w' : World) : Prop := ∃ g, e = .returned (.tuple #[.pointer (some ⟨g, 0, none⟩), .int .i64 0]) ∧ Below w.heap.size w w'
theorem new_good (x : Int) (w : World) (h : ¬ badM x) : Calls Try.prog 7 #[.int .i64 x] w (GoodPost w) := by
  unfold badM at h
  obtain ⟨M, rfl⟩ := Int.eq_ofNat_of_zero_le (show 0 ≤ x by omega)
  refine (new_ok M w (by omega)).mono ?_
  intro e w' hpost
  obtain ⟨g, _, rfl, _, hb, _⟩ := hpost
  exact ⟨g, rfl, hb⟩
theorem rnew_good (x : Int) (w : World) (h : ¬ badM x) : Calls Try.prog 8 #[.int .i64 x] w (GoodPost w) := by
  unfold badM at h
  obtain ⟨M, rfl⟩ := Int.eq_ofNat_of_zero_le (show 0 ≤ x by omega)
  refine (rnew_ok M w (by omega)).mono ?_
  intro e w' hpost
  obtain ⟨g, _, rfl, _, hb, _⟩ := hpost
  exact ⟨g, rfl, hb⟩
set_option maxRecDepth 100000 in
set_option maxHeartbeats 4000000 in
theorem exact_bad (x0 x1 : Int) (A : Option Addr) (n cap : Nat) (w : World) (hbad : badM x0 ∨ badM x1) :
    Calls Try.prog 3 #[.agg #[.int .i64 x0, .int .i64 x1], .slice A n cap] w fun e w' => e = .returned (.bool true) ∧ Below w.heap.size w w' := by
  have HBAD := Lib.hid hbad; clear hbad
  go_enter Try.func3, Try.ntmps3
  go_wp2_with fail
  refine (known_any _).mono ?_
  rintro e w1 ⟨rfl, hb1⟩
  have A1 : Blk (w.alloc (.cells #[.int .i64 x0, .int .i64 x1] 22)) w.heap.size 22 #[.int .i64 x0, .int .i64 x1] := Blk.new w _ _ rfl
  have Z1 : Below w.heap.size w w1 := ((Below.refl _ _).alloc (Nat.le_refl _) _).trans (hb1.mono (by simp))
  have hz1 : w.heap.size + 1 ≤ w1.heap.size := by have := hb1.size; simpa using this
  have hb2 : Below w1.heap.size w1 ((w1.alloc (.cells #[.pointer none, .pointer none] 26)).alloc (.cells #[.pointer none, .pointer none] 28)) := ((Below.refl _ _).alloc (Nat.le_refl _) _).alloc (by simp) _
  have A2 := Lib.hid ((A1.keep hb1).keep hb2)
  have P2 : Hid (Blk ((w1.alloc (.cells #[.pointer none, .pointer none] 26)).alloc (.cells #[.pointer none, .pointer none] 28)) w1.heap.size 26 #[.pointer none, .pointer none]) := Lib.hid ((Blk.new w1 _ _ rfl).alloc _)
  have Q2 : Hid (Blk ((w1.alloc (.cells #[.pointer none, .pointer none] 26)).alloc (.cells #[.pointer none, .pointer none] 28)) (w1.heap.size + 1) 28 #[.pointer none, .pointer none]) := Lib.hid (Blk.new _ _ _ (by simp))
  have B2 := Lib.hid (Z1.trans (hb2.mono Z1.size))
  clear A1 Z1 hb1 hb2
  go_wp2_with fail
  obtain ⟨w2, hw2⟩ : ∃ w2, w2 = (w1.alloc (.cells #[.pointer none, .pointer none] 26)).alloc (.cells #[.pointer none, .pointer none] 28) := ⟨_, rfl⟩
  obtain ⟨pa, hpa⟩ : ∃ pa, pa = w.heap.size := ⟨_, rfl⟩
  obtain ⟨pm, hpm⟩ : ∃ pm, pm = w1.heap.size := ⟨_, rfl⟩
  rw [← hw2] at A2 P2 Q2 B2 ⊢
  rw [← hpm] at P2 Q2 ⊢
  rw [← hpa] at A2 ⊢
  have hpm1 : w.heap.size ≤ pm := by omega
  have hne5 : pa ≠ pm := by omega
  have hne6 : pa ≠ pm + 1 := by omega
  have hne7 : pm ≠ pm + 1 := by omega
  clear hw2 hpa hpm hz1
  go_loopw [26] (fun iv W => ∃ k : Nat, k ≤ 2 ∧ iv = .int .i64 (k : Int) ∧ ∃ p0 p1 q0 q1 : Option Addr, Blk W pm 26 #[.pointer p0, .pointer p1] ∧ Blk W (pm + 1) 28 #[.pointer q0, .pointer q1] ∧ Blk W pa 22 #[.int .i64 x0, .int .i64 x1] ∧ Below w.heap.size w W ∧ Hid (badM x0 → p0 = none) ∧ Hid (badM x1 → p1 = none)) (fun iv _ => 2 - (intOf iv).toNat)
  case atStart => exact ⟨0, by omega, rfl, none, none, none, none, P2.out, Q2.out, A2.out, B2.out, Lib.hid (fun _ => rfl), Lib.hid (fun _ => rfl)⟩
  case round =>
    obtain ⟨k, hk, rfl, p0, p1, q0, q1, hp, hq, ha, hb, H0, H1⟩ := hrel
    have HP := Lib.hid hp; have HQ := Lib.hid hq; have HA := Lib.hid ha; have HB := Lib.hid hb
    clear hp hq ha hb
    by_cases hlt : k < 2
    · obtain rfl | rfl : k = 0 ∨ k = 1 := by omega
      · by_cases hv : badM x0
        · have HV := Lib.hid hv; clear hv
          have c0 : wr.cell? ⟨pa, 0, none⟩ = some (.int .i64 x0) := HA.out.cell 0
          go_wp2_with fail
          refine (new_bad x0 _ HV.out).mono ?_
          rintro e w' ⟨rfl, rfl⟩
          go_wp2_with fail
          refine (rnew_bad x0 _ HV.out).mono ?_
          rintro e w4 ⟨rfl, hw4⟩
          have B4 : Below wr.heap.size wr w4 := by rw [← hw4]; exact Below.refl _ _
          clear hw4 c0
          have P4 := HP.out.keep B4; have Q4 := HQ.out.keep B4; have A4 := HA.out.keep B4
          have e1 : w4.cell? ⟨pm, 0, none⟩ = some (.pointer p0) := P4.cell 0
          have e2 : w4.cell? ⟨pm + 1, 0, none⟩ = some (.pointer q0) := Q4.cell 0
          have f1 := P4.frozen 0
          have f2 := Q4.frozen 0
          have fin : ∀ a b : Option Addr, Blk ((w4.setCell ⟨pm, 0, none⟩ (.pointer a)).setCell ⟨pm + 1, 0, none⟩ (.pointer b)) pm 26 #[.pointer a, .pointer p1] ∧ Blk ((w4.setCell ⟨pm, 0, none⟩ (.pointer a)).setCell ⟨pm + 1, 0, none⟩ (.pointer b)) (pm + 1) 28 #[.pointer b, .pointer q1] ∧ Blk ((w4.setCell ⟨pm, 0, none⟩ (.pointer a)).setCell ⟨pm + 1, 0, none⟩ (.pointer b)) pa 22 #[.int .i64 x0, .int .i64 x1] ∧ Below w.heap.size w ((w4.setCell ⟨pm, 0, none⟩ (.pointer a)).setCell ⟨pm + 1, 0, none⟩ (.pointer b)) := fun a b =>
            ⟨(P4.set_ 0 _).far (p := ⟨pm + 1, 0, none⟩) hne7 _, (Q4.far (p := ⟨pm, 0, none⟩) (fun e => hne7 e.symm) _).set_ 0 _, (A4.far (p := ⟨pm, 0, none⟩) hne5 _).far (p := ⟨pm + 1, 0, none⟩) hne6 _, ((HB.out.trans (B4.mono HB.out.size)).setCell (by show w.heap.size ≤ pm; omega) _).setCell (by show w.heap.size ≤ pm + 1; omega) _⟩
          have FIN := Lib.hid fin
          clear fin P4 Q4 A4 B4
          go_wp2_with fail
          go_roundw
          case rel => exact ⟨1, by omega, by go_num, none, p1, none, q1, (FIN.out _ _).1, (FIN.out _ _).2.1, (FIN.out _ _).2.2.1, (FIN.out _ _).2.2.2, Lib.hid (fun _ => rfl), H1⟩
          case measure => simp [intOf]
        · have HV := Lib.hid hv; clear hv
          have c0 : wr.cell? ⟨pa, 0, none⟩ = some (.int .i64 x0) := HA.out.cell 0
          go_wp2_with fail
          refine (new_good x0 _ HV.out).mono ?_
          rintro e w3 ⟨g, rfl, hb3⟩
          have B3 := Lib.hid hb3
          have c0' : w3.cell? ⟨pa, 0, none⟩ = some (.int .i64 x0) := (HA.out.keep hb3).cell 0
          clear hb3 c0
          go_wp2_with fail
          refine (rnew_good x0 _ HV.out).mono ?_
          rintro e w4 ⟨g', rfl, hb4⟩
          have B4 := B3.out.trans (hb4.mono B3.out.size)
          clear c0' hb4
          have P4 := HP.out.keep B4; have Q4 := HQ.out.keep B4; have A4 := HA.out.keep B4
          have e1 : w4.cell? ⟨pm, 0, none⟩ = some (.pointer p0) := P4.cell 0
          have e2 : w4.cell? ⟨pm + 1, 0, none⟩ = some (.pointer q0) := Q4.cell 0
          have f1 := P4.frozen 0
          have f2 := Q4.frozen 0
          have fin : ∀ a b : Option Addr, Blk ((w4.setCell ⟨pm, 0, none⟩ (.pointer a)).setCell ⟨pm + 1, 0, none⟩ (.pointer b)) pm 26 #[.pointer a, .pointer p1] ∧ Blk ((w4.setCell ⟨pm, 0, none⟩ (.pointer a)).setCell ⟨pm + 1, 0, none⟩ (.pointer b)) (pm + 1) 28 #[.pointer b, .pointer q1] ∧ Blk ((w4.setCell ⟨pm, 0, none⟩ (.pointer a)).setCell ⟨pm + 1, 0, none⟩ (.pointer b)) pa 22 #[.int .i64 x0, .int .i64 x1] ∧ Below w.heap.size w ((w4.setCell ⟨pm, 0, none⟩ (.pointer a)).setCell ⟨pm + 1, 0, none⟩ (.pointer b)) := fun a b =>
            ⟨(P4.set_ 0 _).far (p := ⟨pm + 1, 0, none⟩) hne7 _, (Q4.far (p := ⟨pm, 0, none⟩) (fun e => hne7 e.symm) _).set_ 0 _, (A4.far (p := ⟨pm, 0, none⟩) hne5 _).far (p := ⟨pm + 1, 0, none⟩) hne6 _, ((HB.out.trans (B4.mono HB.out.size)).setCell (by show w.heap.size ≤ pm; omega) _).setCell (by show w.heap.size ≤ pm + 1; omega) _⟩
          have FIN := Lib.hid fin
          clear fin P4 Q4 A4 B4
          go_wp2_with fail
          go_roundw
          case rel => exact ⟨1, by omega, by go_num, _, p1, _, q1, (FIN.out _ _).1, (FIN.out _ _).2.1, (FIN.out _ _).2.2.1, (FIN.out _ _).2.2.2, Lib.hid (fun h => absurd h HV.out), H1⟩
          case measure => simp [intOf]
      · by_cases hv : badM x1
        · have HV := Lib.hid hv; clear hv
          have c0 : wr.cell? ⟨pa, 1, none⟩ = some (.int .i64 x1) := HA.out.cell 1
          go_wp2_with fail
          refine (new_bad x1 _ HV.out).mono ?_
          rintro e w' ⟨rfl, rfl⟩
          go_wp2_with fail
          refine (rnew_bad x1 _ HV.out).mono ?_
          rintro e w4 ⟨rfl, hw4⟩
          have B4 : Below wr.heap.size wr w4 := by rw [← hw4]; exact Below.refl _ _
          clear hw4 c0
          have P4 := HP.out.keep B4; have Q4 := HQ.out.keep B4; have A4 := HA.out.keep B4
          have e1 : w4.cell? ⟨pm, 1, none⟩ = some (.pointer p1) := P4.cell 1
          have e2 : w4.cell? ⟨pm + 1, 1, none⟩ = some (.pointer q1) := Q4.cell 1
          have f1 := P4.frozen 1
          have f2 := Q4.frozen 1
          have fin : ∀ a b : Option Addr, Blk ((w4.setCell ⟨pm, 1, none⟩ (.pointer a)).setCell ⟨pm + 1, 1, none⟩ (.pointer b)) pm 26 #[.pointer p0, .pointer a] ∧ Blk ((w4.setCell ⟨pm, 1, none⟩ (.pointer a)).setCell ⟨pm + 1, 1, none⟩ (.pointer b)) (pm + 1) 28 #[.pointer q0, .pointer b] ∧ Blk ((w4.setCell ⟨pm, 1, none⟩ (.pointer a)).setCell ⟨pm + 1, 1, none⟩ (.pointer b)) pa 22 #[.int .i64 x0, .int .i64 x1] ∧ Below w.heap.size w ((w4.setCell ⟨pm, 1, none⟩ (.pointer a)).setCell ⟨pm + 1, 1, none⟩ (.pointer b)) := fun a b =>
            ⟨(P4.set_ 1 _).far (p := ⟨pm + 1, 1, none⟩) hne7 _, (Q4.far (p := ⟨pm, 1, none⟩) (fun e => hne7 e.symm) _).set_ 1 _, (A4.far (p := ⟨pm, 1, none⟩) hne5 _).far (p := ⟨pm + 1, 1, none⟩) hne6 _, ((HB.out.trans (B4.mono HB.out.size)).setCell (by show w.heap.size ≤ pm; omega) _).setCell (by show w.heap.size ≤ pm + 1; omega) _⟩
          have FIN := Lib.hid fin
          clear fin P4 Q4 A4 B4
          go_wp2_with fail
          go_roundw
          case rel => exact ⟨2, by omega, by go_num, p0, none, q0, none, (FIN.out _ _).1, (FIN.out _ _).2.1, (FIN.out _ _).2.2.1, (FIN.out _ _).2.2.2, H0, Lib.hid (fun _ => rfl)⟩
          case measure => simp [intOf]
        · have HV := Lib.hid hv; clear hv
          have c0 : wr.cell? ⟨pa, 1, none⟩ = some (.int .i64 x1) := HA.out.cell 1
          go_wp2_with fail
          refine (new_good x1 _ HV.out).mono ?_
          rintro e w3 ⟨g, rfl, hb3⟩
          have B3 := Lib.hid hb3
          have c0' : w3.cell? ⟨pa, 1, none⟩ = some (.int .i64 x1) := (HA.out.keep hb3).cell 1
          clear hb3 c0
          go_wp2_with fail
          refine (rnew_good x1 _ HV.out).mono ?_
          rintro e w4 ⟨g', rfl, hb4⟩
          have B4 := B3.out.trans (hb4.mono B3.out.size)
          clear c0' hb4
          have P4 := HP.out.keep B4; have Q4 := HQ.out.keep B4; have A4 := HA.out.keep B4
          have e1 : w4.cell? ⟨pm, 1, none⟩ = some (.pointer p1) := P4.cell 1
          have e2 : w4.cell? ⟨pm + 1, 1, none⟩ = some (.pointer q1) := Q4.cell 1
          have f1 := P4.frozen 1
          have f2 := Q4.frozen 1
          have fin : ∀ a b : Option Addr, Blk ((w4.setCell ⟨pm, 1, none⟩ (.pointer a)).setCell ⟨pm + 1, 1, none⟩ (.pointer b)) pm 26 #[.pointer p0, .pointer a] ∧ Blk ((w4.setCell ⟨pm, 1, none⟩ (.pointer a)).setCell ⟨pm + 1, 1, none⟩ (.pointer b)) (pm + 1) 28 #[.pointer q0, .pointer b] ∧ Blk ((w4.setCell ⟨pm, 1, none⟩ (.pointer a)).setCell ⟨pm + 1, 1, none⟩ (.pointer b)) pa 22 #[.int .i64 x0, .int .i64 x1] ∧ Below w.heap.size w ((w4.setCell ⟨pm, 1, none⟩ (.pointer a)).setCell ⟨pm + 1, 1, none⟩ (.pointer b)) := fun a b =>
            ⟨(P4.set_ 1 _).far (p := ⟨pm + 1, 1, none⟩) hne7 _, (Q4.far (p := ⟨pm, 1, none⟩) (fun e => hne7 e.symm) _).set_ 1 _, (A4.far (p := ⟨pm, 1, none⟩) hne5 _).far (p := ⟨pm + 1, 1, none⟩) hne6 _, ((HB.out.trans (B4.mono HB.out.size)).setCell (by show w.heap.size ≤ pm; omega) _).setCell (by show w.heap.size ≤ pm + 1; omega) _⟩
          have FIN := Lib.hid fin
          clear fin P4 Q4 A4 B4
          go_wp2_with fail
          go_roundw
          case rel => exact ⟨2, by omega, by go_num, p0, _, q0, _, (FIN.out _ _).1, (FIN.out _ _).2.1, (FIN.out _ _).2.2.1, (FIN.out _ _).2.2.2, H0, Lib.hid (fun h => absurd h HV.out)⟩
          case measure => simp [intOf]
    · obtain rfl : k = 2 := by omega
      have c0 : wr.cell? ⟨pm, 0, none⟩ = some (.pointer p0) := HP.out.cell 0
      have c1 : wr.cell? ⟨pm, 1, none⟩ = some (.pointer p1) := HP.out.cell 1
      cases p0 with
      | none =>
        go_wp2_with fail
        go_ret
        exact ⟨rfl, HB.out⟩
      | some a =>
        have hp1 : p1 = none := by
          rcases HBAD.out with h | h
          · have := H0.out h; cases this
          · exact H1.out h
        subst hp1
        go_wp2_with fail
        go_ret
        exact ⟨rfl, HB.out⟩
theorem exact_any (x0 x1 : Int) (A : Option Addr) (n cap : Nat) (l : List LOp) (w : World) (hl : OS w A n l) (hcap : n ≤ cap) (hb : ∀ o ∈ l, o.b.length ≤ 1048576) (hn : n ≤ 1048576) :
    Calls Try.prog 3 #[.agg #[.int .i64 x0, .int .i64 x1], .slice A n cap] w fun e w' => e = .returned (.bool true) ∧ Below w.heap.size w w' := by
  by_cases h0 : badM x0
  · exact exact_bad x0 x1 A n cap w (.inl h0)
  · by_cases h1 : badM x1
    · exact exact_bad x0 x1 A n cap w (.inr h1)
    · unfold badM at h0 h1
      obtain ⟨M0, rfl⟩ := Int.eq_ofNat_of_zero_le (show 0 ≤ x0 by omega)
      obtain ⟨M1, rfl⟩ := Int.eq_ofNat_of_zero_le (show 0 ≤ x1 by omega)
      exact exact_good M0 M1 (by omega) (by omega) A n cap l w hl hcap hb hn
end Go.Proofs.Ytjldbpnphilkaaa
