/- THE WALK of the reference's Encode. -/
import Derived.Test.YtpeaacbbfkanmaaDoorCkptRefC
namespace Go.Proofs.YtpeaacbbfkanmaaDoor
open Go.RowKit
set_option maxRecDepth 100000 in
set_option maxHeartbeats 4000000 in
theorem refEnc_ok (A : Option Addr) (n cap : Nat) (l : List Mk) (w : World) (hl : MS w A n l) (hcap : n ≤ cap) (hmay : mayB l = true) :
    Calls Tryd.prog 8 #[.slice A n cap] w (EncPost l w) := by
  obtain ⟨hall, hp1, hp8⟩ := mayB_parts hmay
  have hln := hl.1
  have hn8 : n ≤ 8 := by omega
  have HL := Lib.hid hl; have HMAY := Lib.hid hmay; have HALL := Lib.hid hall; have HLN := Lib.hid hln
  clear hl hmay hall hln
  go_enter Tryd.func8, Tryd.ntmps8
  go_wp2_with fail
  refine (refMay_any A n cap l _ HL.out hcap (by omega)).mono ?_
  rintro e w1 ⟨rfl, hb1⟩
  rw [HMAY.out]
  have hnw : ((n : Int) % 256) = (n : Int) := by omega
  obtain ⟨c, hc⟩ : ∃ c : UInt8, c = UInt8.ofNat n := ⟨_, rfl⟩
  have hcn : (c.toNat : Int) = (n : Int) := by rw [hc, UInt8.toNat_ofNat']; omega
  have hb2 : Below w1.heap.size w1 ((w1.alloc (.cells #[.int .u8 72, .int .u8 69, .int .u8 82, .int .u8 79, .int .u8 78, .int .u8 67, .int .u8 75, .int .u8 49] 5 (8, 9))).alloc (.cells #[.int .u8 (n : Int)] 5)) := ((Below.refl _ _).alloc (Nat.le_refl _) _).alloc (by simp) _
  have B2 := Lib.hid (hb1.trans (hb2.mono hb1.size))
  have L2 : Hid (RB ((w1.alloc (.cells #[.int .u8 72, .int .u8 69, .int .u8 82, .int .u8 79, .int .u8 78, .int .u8 67, .int .u8 75, .int .u8 49] 5 (8, 9))).alloc (.cells #[.int .u8 (n : Int)] 5)) (some ⟨w1.heap.size, 0, none⟩) 8 magicB) := Lib.hid ((RB.new w1 5 (8, 9) #[.int .u8 72, .int .u8 69, .int .u8 82, .int .u8 79, .int .u8 78, .int .u8 67, .int .u8 75, .int .u8 49] magicB rfl 8 rfl).alloc _)
  have R2 : Hid (RB ((w1.alloc (.cells #[.int .u8 72, .int .u8 69, .int .u8 82, .int .u8 79, .int .u8 78, .int .u8 67, .int .u8 75, .int .u8 49] 5 (8, 9))).alloc (.cells #[.int .u8 (n : Int)] 5)) (some ⟨w1.heap.size + 1, 0, none⟩) 1 [c]) := Lib.hid (RB.new' _ 5 (0, 0) #[.int .u8 (n : Int)] [c] (by show [Value.int .u8 (n : Int)] = [byteV c]; unfold byteV; rw [hcn]) 1 (w1.heap.size + 1) (by simp) rfl)
  have HC : Hid (leB n 1 = [c]) := Lib.hid (by rw [hc]; simp [leB])
  have S1 := Lib.hid hb1.size
  have kc := fun (w : World) (C : Array Value) (n c g : Nat) (hg : g = w.heap.size) => Joins.run_convert_bytes_const_at (P := Tryd.prog) w 24 5 C n c g hg Tryd.underlying24 Tryd.underlying5
  clear hb1 hb2 hc hcn
  go_wp2_with ((at_builtin; go_must (refine append_full rfl (.tmp 15) (.tmp 19) rfl w1.heap.size 0 8 8 magicB rfl L2.out (w1.heap.size + 1) 0 1 1 [c] rfl R2.out (by decide) (by decide) ?_); intro v3 w3 ho3 hg3; refine halt ?_))
  refine unhalt ?_
  have O3 : Hid (OB w3 w.heap.size v3 (magicB ++ leB n 1)) := Lib.hid (by rw [HC.out]; exact OB.less ho3 B2.out.size)
  have B3 : Hid (Below w.heap.size w w3) := Lib.hid (B2.out.grown hg3 B2.out.size (fun q hq => by cases hq))
  clear ho3 hg3 L2 R2 B2 S1 kc
  go_wp2_with fail
  go_loopw [5, 6] (fun bv iv W => ∃ k : Nat, k ≤ n ∧ iv = .int .i64 (k : Int) ∧ OB W w.heap.size bv (magicB ++ leB n 1 ++ marksB (l.take k)) ∧ Below w.heap.size w W) (fun _ iv _ => n - (intOf iv).toNat)
  case atStart => exact ⟨0, Nat.zero_le _, rfl, by simpa [marksB] using O3.out, B3.out⟩
  case round =>
    obtain ⟨k, hk, rfl, hob, hb⟩ := hrel
    have HO := Lib.hid hob; have HB := Lib.hid hb; clear hob hb
    by_cases hlt : k < n
    · obtain ⟨bb, off, m, rfl, hbb, hm, c0, c1, c2, c3, c4, c5, c6, c7, c8⟩ := (HL.out.keep HB.out).at_ hlt
      have HM := Lib.hid hm; clear hm
      have CN := Lib.hid (fun w' => refNums_any m w')
      unfold Mk.cells at CN
      go_wp2_with fail
      refine (CN.out _).mono ?_
      rintro e w4 ⟨rfl, hb4⟩
      have hb5 : Below wr.heap.size wr (w4.alloc (.cells m.cells 43)) := hb4.alloc hb4.size _
      have O5 : Hid (Blk (w4.alloc (.cells m.cells 43)) w4.heap.size 43 m.cells) := Lib.hid (Blk.new _ _ _ rfl)
      have B5 : Hid (Below w.heap.size w (w4.alloc (.cells m.cells 43))) := Lib.hid (HB.out.trans (hb5.mono HB.out.size))
      have V5 := Lib.hid (HO.out.keep hb5)
      unfold Mk.cells at O5 B5 V5
      clear hb4 hb5 c0 c1 c2 c3 c4 c5 c6 c7 c8
      go_upto_region 10 with fail
      obtain ⟨w5, hw5⟩ : ∃ w5, w5 = w4.alloc (.cells #[.int .i64 m.a0, .int .i64 m.a1, .int .i64 m.a2, .int .i64 m.a3, .int .i64 m.a4, .int .i64 m.a5, .int .i64 m.a6, .int .i64 m.a7, .int .i64 m.a8] 43) := ⟨_, rfl⟩
      obtain ⟨po, hpo⟩ : ∃ po, po = w4.heap.size := ⟨_, rfl⟩
      rw [← hw5] at O5 B5 V5 ⊢
      rw [← hpo] at O5 ⊢
      clear hpo hw5
      have hmm : mayM m = true := List.all_eq_true.1 HALL.out m (List.mem_of_getElem? HM.out)
      have HMM := Lib.hid hmm; clear hmm
      go_wp2_with fail
      go_loopw [5, 8] (fun bv iv W => ∃ j : Nat, j ≤ 9 ∧ iv = .int .i64 (j : Int) ∧ OB W w.heap.size bv (magicB ++ leB n 1 ++ marksB (l.take k) ++ numsB (m.list.take j)) ∧ Below w.heap.size w W ∧ Blk W po 43 m.cells) (fun _ iv _ => 9 - (intOf iv).toNat)
      case atStart => exact ⟨0, by omega, rfl, by simpa [numsB] using V5.out, B5.out, O5.out⟩
      case round =>
        obtain ⟨j, hj, rfl, hob6, hb6, ho6⟩ := hrel
        have V6 := Lib.hid hob6; have B6 := Lib.hid hb6; have O6 := Lib.hid ho6
        clear hob6 hb6 ho6
        by_cases hlt9 : j < 9
        · have hjl : j < m.list.length := hlt9
          obtain ⟨x, hx⟩ : ∃ x, x = m.list[j] := ⟨_, rfl⟩
          have hxj : m.list[j]? = some x := by rw [hx]; exact List.getElem?_eq_getElem hjl
          have hxb : 0 ≤ x ∧ x ≤ 4611686018427387904 := by
            have h1 := HMM.out
            unfold mayM at h1
            simp only [Bool.and_eq_true] at h1
            have h2 := List.all_eq_true.1 h1.1 x (List.mem_of_getElem? hxj)
            simp [bigB] at h2
            omega
          obtain ⟨xn, rfl⟩ := Int.eq_ofNat_of_zero_le hxb.1
          have hxn : xn ≤ 4611686018427387904 := by omega
          have cx : wr.cell? ⟨po, j, none⟩ = some (.int .i64 (xn : Int)) := (O6.out.cell j).trans (list_cell m j _ hxj)
          have HXJ := Lib.hid hxj
          clear hx hxj hjl hxb
          have hlen : (magicB ++ leB n 1 ++ marksB (l.take k) ++ numsB (m.list.take j)).length ≤ 1048576 := by
            rw [List.length_append, List.length_append, List.length_append, marksB_length, numsB_length, leB_length, List.length_take, List.length_take]
            have : magicB.length = 8 := rfl
            omega
          have HLEN := Lib.hid hlen; clear hlen
          go_wp2_with fail
          refine (low_any w.heap.size _ _ 8 xn _ V6.out B6.out.size (by omega) (by omega) HLEN.out).mono ?_
          intro e w8 hpost
          obtain ⟨v8, rfl, ho8, hc8, hf8⟩ := hpost
          have O8 := Lib.hid (O6.out.chg hc8 (fun hs => O6.out.apart V6.out (by decide) hs))
          have B8 := Lib.hid (B6.out.trans (hc8.below (B := w.heap.size) (fun k hk hs => by have := (V6.out.lt k hs).1; omega) B6.out.size))
          have V8 := Lib.hid ho8
          clear ho8 hc8 hf8 cx
          go_wp2_with fail
          go_roundw
          case rel => exact ⟨j + 1, by omega, by go_num, by rw [numsB_snoc HXJ.out, ← List.append_assoc]; exact V8.out, B8.out, O8.out⟩
          case measure => simp [intOf]; omega
        · obtain rfl : j = 9 := by omega
          have e9 : m.list.take 9 = m.list := rfl
          rw [e9] at V6
          go_wp2_with fail
          go_roundw
          case rel => exact ⟨k + 1, by omega, by go_num, by rw [marksB_snoc HM.out, ← List.append_assoc]; exact V6.out, B6.out⟩
          case measure => simp [intOf]; omega
    · obtain rfl : k = n := by omega
      have htk : l.take k = l := List.take_of_length_le (by have := HLN.out; omega)
      have hbody : magicB ++ leB k 1 ++ marksB (l.take k) = bodyB l := by rw [htk]; unfold bodyB; rw [HLN.out]
      rw [hbody] at HO
      have hbl : (bodyB l).length ≤ 1048576 := by rw [bodyB_length, HLN.out]; omega
      have BL := Lib.hid hbl
      clear htk hbody hbl
      go_wp2_with fail
      refine (summed_any w.heap.size _ (bodyB l) _ HO.out HB.out.size BL.out).mono ?_
      intro e w10 hpost
      obtain ⟨v10, rfl, ho10, hb10⟩ := lay_below hpost HB.out HO.out (Nat.le_refl _)
      have hF : EncPost l w (.returned (.tuple #[v10, .int .i64 0])) w10 := ⟨v10, rfl, ho10, hb10⟩
      have HF := Lib.hid hF
      clear hpost ho10 hb10 hF
      go_wp2_with fail
      go_ret2
      exact HF.out
theorem refEnc_bad (A : Option Addr) (n cap : Nat) (l : List Mk) (w : World) (hl : MS w A n l) (hcap : n ≤ cap) (hn : n ≤ 1048576) (hmay : mayB l = false) :
    Calls Tryd.prog 8 #[.slice A n cap] w fun e w' => e = .returned (.tuple #[.slice none 0 0, .int .i64 1]) ∧ Below w.heap.size w w' := by
  have HL := Lib.hid hl; have HMAY := Lib.hid hmay
  clear hl hmay
  go_enter Tryd.func8, Tryd.ntmps8
  go_wp2_with fail
  refine (refMay_any A n cap l _ HL.out hcap hn).mono ?_
  rintro e w1 ⟨rfl, hb1⟩
  rw [HMAY.out]
  have B1 := Lib.hid hb1; clear hb1
  go_wp2_with fail
  go_ret2
  exact ⟨rfl, B1.out⟩
end Go.Proofs.YtpeaacbbfkanmaaDoor
