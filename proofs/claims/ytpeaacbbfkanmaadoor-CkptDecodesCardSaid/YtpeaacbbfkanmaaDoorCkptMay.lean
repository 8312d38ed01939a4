/- THE WALK of ckpt.may. -/
import Derived.Test.YtpeaacbbfkanmaaDoorCkptWalk
namespace Go.Proofs.YtpeaacbbfkanmaaDoor
open Go.RowKit
def MayPost (l : List Mk) (w : World) (e : Ending) (w' : World) : Prop := e = .returned (.bool (mayB l)) ∧ Below w.heap.size w w'
set_option maxRecDepth 100000 in
set_option maxHeartbeats 4000000 in
theorem may_any (A : Option Addr) (n cap : Nat) (l : List Mk) (w : World) (hl : MS w A n l) (hcap : n ≤ cap) (hn : n ≤ 1048576) :
    Calls Tryd.prog 20 #[.slice A n cap] w (MayPost l w) := by
  have HL := Lib.hid hl; clear hl
  go_enter Tryd.func20, Tryd.ntmps20
  go_wp2_with fail
  go_loopw [9] (fun iv W => ∃ k : Nat, k ≤ n ∧ iv = .int .i64 (k : Int) ∧ Hid ((l.take k).all mayM = true) ∧ Below w.heap.size w W) (fun iv _ => n - (intOf iv).toNat)
  case atStart => exact ⟨0, Nat.zero_le _, rfl, Lib.hid rfl, Below.refl _ _⟩
  case round =>
    obtain ⟨k, hk, rfl, HK, hb⟩ := hrel
    have HB := Lib.hid hb; clear hb
    by_cases hlt : k < n
    · obtain ⟨bb, off, m, rfl, hbb, hm, c0, c1, c2, c3, c4, c5, c6, c7, c8⟩ := (HL.out.keep HB.out).at_ hlt
      have HM := Lib.hid hm; clear hm
      have O1 : Hid (Blk (wr.alloc (.cells m.cells 31)) wr.heap.size 31 m.cells) := Lib.hid (Blk.new _ _ _ rfl)
      have B1 := Lib.hid (HB.out.alloc HB.out.size (.cells m.cells 31))
      unfold Mk.cells at O1 B1
      go_wp2_with fail
      obtain ⟨w1, hw1⟩ : ∃ w1, w1 = wr.alloc (.cells #[.int .i64 m.a0, .int .i64 m.a1, .int .i64 m.a2, .int .i64 m.a3, .int .i64 m.a4, .int .i64 m.a5, .int .i64 m.a6, .int .i64 m.a7, .int .i64 m.a8] 31) := ⟨_, rfl⟩
      obtain ⟨po, hpo⟩ : ∃ po, po = wr.heap.size := ⟨_, rfl⟩
      rw [← hw1] at O1 B1 ⊢
      rw [← hpo] at O1 ⊢
      clear hw1 hpo c0 c1 c2 c3 c4 c5 c6 c7 c8
      refine (numbers_any po 0 _).mono ?_
      rintro e w2 ⟨rfl, md, hw2⟩
      have hb2 : Below w1.heap.size w1 w2 := by rw [← hw2]; exact below_drewN ((Below.refl _ _).alloc (Nat.le_refl _) _) md
      have O2 := Lib.hid (O1.out.keep hb2)
      have P2 : Hid (Blk w2 w1.heap.size 52 (ptrs po 0)) := Lib.hid (by rw [← hw2]; exact (Blk.new w1 _ _ rfl).drewN md)
      have B2 := Lib.hid (B1.out.trans (hb2.mono B1.out.size))
      obtain ⟨ph, hph⟩ : ∃ ph, ph = w1.heap.size := ⟨_, rfl⟩
      rw [← hph] at P2 ⊢
      clear hw2 hb2 hph O1 B1
      go_wp2_with fail
      go_loop [15] (fun iv => ∃ j : Nat, j ≤ 9 ∧ iv = .int .i64 (j : Int) ∧ Hid ((m.list.take j).all (fun x => !bigB x) = true)) (fun iv => 9 - (intOf iv).toNat)
      case atStart => exact ⟨0, by omega, rfl, Lib.hid rfl⟩
      case round =>
        obtain ⟨j, hj, rfl, HJ⟩ := hrel
        by_cases hlt9 : j < 9
        · have hjl : j < m.list.length := hlt9
          obtain ⟨x, hx⟩ : ∃ x, x = m.list[j] := ⟨_, rfl⟩
          have hxj : m.list[j]? = some x := by rw [hx]; exact List.getElem?_eq_getElem hjl
          have cp : w2.cell? ⟨ph, j, none⟩ = some (.pointer (some ⟨po, j, none⟩)) := by
            have := (P2.out.cell j).trans (ptrs_at po 0 j hlt9)
            rwa [Nat.zero_add] at this
          have cx : w2.cell? ⟨po, j, none⟩ = some (.int .i64 x) := (O2.out.cell j).trans (list_cell m j x hxj)
          have HXJ := Lib.hid hxj
          clear hx hxj hjl
          by_cases hbig : bigB x = true
          · have hF : MayPost l w (.returned (.bool false)) w2 := ⟨by rw [bad_mark HM.out HXJ.out hbig], B2.out⟩
            have HF := Lib.hid hF; clear hF
            have hb' : x < 0 ∨ 4611686018427387904 < x := of_decide_eq_true hbig
            have HBG := Lib.hid hbig; clear hbig
            rcases hb' with h | h
            · go_wp2_with fail
              go_ret
              exact HF.out
            · have h' : ¬ x < 0 := by omega
              go_wp2_with fail
              go_ret
              exact HF.out
          · have hb' : ¬ (x < 0 ∨ 4611686018427387904 < x) := of_decide_eq_false (by simpa [bigB] using hbig)
            have h1 : ¬ x < 0 := fun h => hb' (.inl h)
            have h2 : ¬ (4611686018427387904 < x) := fun h => hb' (.inr h)
            have HJ2 := Lib.hid (show (m.list.take (j + 1)).all (fun x => !bigB x) = true from by
              rw [take_snoc HXJ.out, List.all_append, HJ.out]
              simp at hbig
              simp [hbig])
            clear hb' hbig
            go_wp2_with fail
            go_round
            case rel => exact ⟨j + 1, by omega, by go_num, HJ2⟩
            case measure => simp [intOf]; omega
        · obtain rfl : j = 9 := by omega
          have ca0 : w2.cell? ⟨po, 0, none⟩ = some (.int .i64 m.a0) := O2.out.cell 0
          have ca1 : w2.cell? ⟨po, 1, none⟩ = some (.int .i64 m.a1) := O2.out.cell 1
          have ca2 : w2.cell? ⟨po, 2, none⟩ = some (.int .i64 m.a2) := O2.out.cell 2
          have ca3 : w2.cell? ⟨po, 3, none⟩ = some (.int .i64 m.a3) := O2.out.cell 3
          go_upto_region 10 with fail
          go_cut [52] (fun s wx => s = .bool (oddB m) ∧ wx = w2)
          case first =>
            have d0 : ∀ b : Bool, ((m.a0 == 0) = b) → ((m.a0 == 0) = b) := fun _ h => h
            cases e1 : decide (0 < m.a1) <;> cases e2 : (m.a0 == 0) <;> cases e3 : (m.a1 == 0) <;> cases e4 : decide (0 < m.a2) <;> cases e5 : decide (0 < m.a3)
            all_goals
              have HO : Hid (oddB m = _) := Lib.hid (by unfold oddB; rw [e1, e2, e3, e4, e5])
              go_wp2_with fail
              go_meet
              exact ⟨by rw [HO.out]; rfl, rfl⟩
          case rest =>
            obtain ⟨rfl, hw⟩ := hcut
            rw [hw]
            clear hw wc ca0 ca1 ca2 ca3
            cases hod : oddB m with
            | true =>
              have hF : MayPost l w (.returned (.bool false)) w2 := ⟨by rw [odd_mark HM.out hod], B2.out⟩
              have HF := Lib.hid hF
              have HOD := Lib.hid hod
              clear hF hod
              go_wp2_with fail
              go_ret
              exact HF.out
            | false =>
              have hK2 : (l.take (k + 1)).all mayM = true := by
                have h9 : m.list.take 9 = m.list := rfl
                have hj9 := HJ.out
                rw [h9] at hj9
                rw [take_snoc HM.out, List.all_append, HK.out]
                simp only [List.all_cons, List.all_nil, Bool.and_true, Bool.true_and]
                unfold mayM
                rw [hj9, hod]; rfl
              have HK2 := Lib.hid hK2
              clear hK2 hod
              go_wp2_with fail
              go_roundw
              first
                | (case rel => exact ⟨k + 1, by omega, by go_num, HK2, B2.out⟩)
                | (case rel => (repeat apply Exists.intro); exact ⟨⟨k + 1, by omega, by go_num, HK2, B2.out⟩, rfl⟩)
              case measure => simp [intOf]; omega
    · obtain rfl : k = n := by omega
      have htk : l.take k = l := List.take_of_length_le (by have := HL.out.1; omega)
      rw [htk] at HK
      have hln := HL.out.1
      have hmb : mayB l = (decide (1 ≤ k) && decide (k ≤ 8)) := by unfold mayB; rw [HK.out, hln]; rfl
      have HMB := Lib.hid hmb
      clear htk hln hmb
      by_cases h1 : 1 ≤ k
      · by_cases h8 : k ≤ 8
        · have hF : MayPost l w (.returned (.bool true)) wr := ⟨by rw [HMB.out]; simp [h1, h8], HB.out⟩
          have HF := Lib.hid hF; clear hF
          have t1 : decide ((k : Int) ≤ 8) = true := by simp; omega
          go_wp2_with fail
          go_ret
          exact HF.out
        · have hF : MayPost l w (.returned (.bool false)) wr := ⟨by rw [HMB.out]; simp [h8], HB.out⟩
          have HF := Lib.hid hF; clear hF
          have t1 : decide ((k : Int) ≤ 8) = false := by simp; omega
          go_wp2_with fail
          go_ret
          exact HF.out
      · have hF : MayPost l w (.returned (.bool false)) wr := ⟨by rw [HMB.out]; simp [h1], HB.out⟩
        have HF := Lib.hid hF; clear hF
        go_wp2_with fail
        go_ret
        exact HF.out
end Go.Proofs.YtpeaacbbfkanmaaDoor
