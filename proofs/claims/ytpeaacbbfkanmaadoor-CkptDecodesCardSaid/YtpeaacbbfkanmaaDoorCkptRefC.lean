/- THE WALK of the reference's May. -/
import Derived.Test.YtpeaacbbfkanmaaDoorCkptRefB
namespace Go.Proofs.YtpeaacbbfkanmaaDoor
open Go.RowKit
set_option maxRecDepth 100000 in
set_option maxHeartbeats 4000000 in
theorem refMay_any (A : Option Addr) (n cap : Nat) (l : List Mk) (w : World) (hl : MS w A n l) (hcap : n ≤ cap) (hn : n ≤ 1048576) :
    Calls Tryd.prog 16 #[.slice A n cap] w (MayPost l w) := by
  have HL := Lib.hid hl; clear hl
  go_enter Tryd.func16, Tryd.ntmps16
  go_wp2_with fail
  go_loopw [3] (fun iv W => ∃ k : Nat, k ≤ n ∧ iv = .int .i64 (k : Int) ∧ Hid ((l.take k).all mayM = true) ∧ Below w.heap.size w W) (fun iv _ => n - (intOf iv).toNat)
  case atStart => exact ⟨0, Nat.zero_le _, rfl, Lib.hid rfl, Below.refl _ _⟩
  case round =>
    obtain ⟨k, hk, rfl, HK, hb⟩ := hrel
    have HB := Lib.hid hb; clear hb
    by_cases hlt : k < n
    · obtain ⟨bb, off, m, rfl, hbb, hm, c0, c1, c2, c3, c4, c5, c6, c7, c8⟩ := (HL.out.keep HB.out).at_ hlt
      have HM := Lib.hid hm; clear hm
      have CN := Lib.hid (fun w' => refNums_any m w')
      unfold Mk.cells at CN
      go_wp2_with fail
      refine (CN.out _).mono ?_
      rintro e w1 ⟨rfl, hb1⟩
      have O2 : Hid (Blk (w1.alloc (.cells m.cells 43)) w1.heap.size 43 m.cells) := Lib.hid (Blk.new _ _ _ rfl)
      have B2 : Hid (Below w.heap.size w (w1.alloc (.cells m.cells 43))) := Lib.hid ((HB.out.trans (hb1.mono HB.out.size)).alloc (by have := HB.out.size; have := hb1.size; omega) _)
      unfold Mk.cells at O2 B2
      have HB1 := Lib.hid hb1
      clear hb1 c0 c1 c2 c3 c4 c5 c6 c7 c8
      go_upto_region 5 with fail
      obtain ⟨w2, hw2⟩ : ∃ w2, w2 = w1.alloc (.cells #[.int .i64 m.a0, .int .i64 m.a1, .int .i64 m.a2, .int .i64 m.a3, .int .i64 m.a4, .int .i64 m.a5, .int .i64 m.a6, .int .i64 m.a7, .int .i64 m.a8] 43) := ⟨_, rfl⟩
      obtain ⟨po, hpo⟩ : ∃ po, po = w1.heap.size := ⟨_, rfl⟩
      rw [← hw2] at O2 B2 ⊢
      rw [← hpo] at O2 ⊢
      clear hpo hw2
      go_wp2_with fail
      go_loop [5] (fun iv => ∃ j : Nat, j ≤ 9 ∧ iv = .int .i64 (j : Int) ∧ Hid ((m.list.take j).all (fun x => !bigB x) = true)) (fun iv => 9 - (intOf iv).toNat)
      case atStart => exact ⟨0, by omega, rfl, Lib.hid rfl⟩
      case round =>
        obtain ⟨j, hj, rfl, HJ⟩ := hrel
        by_cases hlt9 : j < 9
        · have hjl : j < m.list.length := hlt9
          obtain ⟨x, hx⟩ : ∃ x, x = m.list[j] := ⟨_, rfl⟩
          have hxj : m.list[j]? = some x := by rw [hx]; exact List.getElem?_eq_getElem hjl
          have cx : w2.cell? ⟨po, j, none⟩ = some (.int .i64 x) := (O2.out.cell j).trans (list_cell m j x hxj)
          have HXJ := Lib.hid hxj
          clear hx hxj hjl
          by_cases hbig : bigB x = true
          · have hF : MayPost l w (.returned (.bool false)) w2 := ⟨by rw [bad_mark HM.out HXJ.out hbig], B2.out⟩
            have HF := Lib.hid hF; clear hF
            have hb' : x < 0 ∨ 4611686018427387904 < x := of_decide_eq_true hbig
            have HBG := Lib.hid hbig; clear hbig
            rcases hb' with h | h
            · go_wp2_with fail
              go_ret
              exact HF.out
            · have h' : ¬ x < 0 := by omega
              go_wp2_with fail
              go_ret
              exact HF.out
          · have hb' : ¬ (x < 0 ∨ 4611686018427387904 < x) := of_decide_eq_false (by simpa [bigB] using hbig)
            have h1 : ¬ x < 0 := fun h => hb' (.inl h)
            have h2 : ¬ (4611686018427387904 < x) := fun h => hb' (.inr h)
            have HJ2 := Lib.hid (show (m.list.take (j + 1)).all (fun x => !bigB x) = true from by
              rw [take_snoc HXJ.out, List.all_append, HJ.out]
              simp at hbig
              simp [hbig])
            clear hb' hbig
            go_wp2_with fail
            go_round
            case rel => exact ⟨j + 1, by omega, by go_num, HJ2⟩
            case measure => simp [intOf]; omega
        · obtain rfl : j = 9 := by omega
          obtain ⟨bb', off', m', e', _, hm', c0, c1, c2, c3, _⟩ := (HL.out.keep B2.out).at_ hlt
          have e1 := Option.some.inj e'
          simp only [Addr.mk.injEq, and_true] at e1
          obtain ⟨rfl, rfl⟩ := e1
          obtain rfl : m' = m := Option.some.inj (hm'.symm.trans HM.out)
          clear hm' e'
          go_upto_region 10 with fail
          go_cut [68] (fun s wx => s = .bool (oddB m') ∧ wx = w2)
          case first =>
            cases e1 : decide (0 < m'.a1) <;> cases e2 : (m'.a0 == 0) <;> cases e3 : (m'.a1 == 0) <;> cases e4 : decide (0 < m'.a2) <;> cases e5 : decide (0 < m'.a3)
            all_goals
              have HO : Hid (oddB m' = _) := Lib.hid (by unfold oddB; rw [e1, e2, e3, e4, e5])
              go_wp2_with fail
              go_meet
              exact ⟨by rw [HO.out]; rfl, rfl⟩
          case rest =>
            obtain ⟨rfl, hw⟩ := hcut
            rw [hw]
            clear hw wc c0 c1 c2 c3
            cases hod : oddB m' with
            | true =>
              have hF : MayPost l w (.returned (.bool false)) w2 := ⟨by rw [odd_mark HM.out hod], B2.out⟩
              have HF := Lib.hid hF
              have HOD := Lib.hid hod
              clear hF hod
              go_wp2_with fail
              go_ret
              exact HF.out
            | false =>
              have hK2 : (l.take (k + 1)).all mayM = true := by
                have h9 : m'.list.take 9 = m'.list := rfl
                have hj9 := HJ.out
                rw [h9] at hj9
                rw [take_snoc HM.out, List.all_append, HK.out]
                simp only [List.all_cons, List.all_nil, Bool.and_true, Bool.true_and]
                unfold mayM
                rw [hj9, hod]; rfl
              have HK2 := Lib.hid hK2
              clear hK2 hod
              go_wp2_with fail
              go_roundw
              first
                | (case rel => exact ⟨k + 1, by omega, by go_num, HK2, B2.out⟩)
                | (case rel => (repeat apply Exists.intro); exact ⟨⟨k + 1, by omega, by go_num, HK2, B2.out⟩, rfl⟩)
              case measure => simp [intOf]; omega
    · obtain rfl : k = n := by omega
      have htk : l.take k = l := List.take_of_length_le (by have := HL.out.1; omega)
      rw [htk] at HK
      have hln := HL.out.1
      have hmb : mayB l = (decide (1 ≤ k) && decide (k ≤ 8)) := by unfold mayB; rw [HK.out, hln]; rfl
      have HMB := Lib.hid hmb
      clear htk hln hmb
      by_cases h1 : 1 ≤ k
      · by_cases h8 : k ≤ 8
        · have hF : MayPost l w (.returned (.bool true)) wr := ⟨by rw [HMB.out]; simp [h1, h8], HB.out⟩
          have HF := Lib.hid hF; clear hF
          have t1 : decide ((k : Int) ≤ 8) = true := by simp; omega
          go_wp2_with fail
          go_ret
          exact HF.out
        · have hF : MayPost l w (.returned (.bool false)) wr := ⟨by rw [HMB.out]; simp [h8], HB.out⟩
          have HF := Lib.hid hF; clear hF
          have t1 : decide ((k : Int) ≤ 8) = false := by simp; omega
          go_wp2_with fail
          go_ret
          exact HF.out
      · have hF : MayPost l w (.returned (.bool false)) wr := ⟨by rw [HMB.out]; simp [h1], HB.out⟩
        have HF := Lib.hid hF; clear hF
        go_wp2_with fail
        go_ret
        exact HF.out
end Go.Proofs.YtpeaacbbfkanmaaDoor
