/- THE WALK of ckpt.Encode. -/
import Derived.Test.YtpeaacbbfkanmaaDoorCkptFull
namespace Go.Proofs.YtpeaacbbfkanmaaDoor
open Go.RowKit
def magicB : List UInt8 := [72, 69, 82, 79, 78, 67, 75, 49]
def numsB (l : List Int) : List UInt8 := (l.map fun x => leB x.toNat 8).flatten
def marksB (l : List Mk) : List UInt8 := (l.map fun m => numsB m.list).flatten
def bodyB (l : List Mk) : List UInt8 := magicB ++ leB l.length 1 ++ marksB l
def encB (l : List Mk) : List UInt8 := bodyB l ++ leB (crcMore 0 (bodyB l)) 4
theorem numsB_snoc {l : List Int} {k : Nat} {x : Int} (h : l[k]? = some x) : numsB (l.take (k + 1)) = numsB (l.take k) ++ leB x.toNat 8 := by
  unfold numsB; rw [take_snoc h]; simp
theorem marksB_snoc {l : List Mk} {k : Nat} {m : Mk} (h : l[k]? = some m) : marksB (l.take (k + 1)) = marksB (l.take k) ++ numsB m.list := by
  unfold marksB; rw [take_snoc h]; simp
theorem numsB_length (l : List Int) : (numsB l).length = 8 * l.length := by
  induction l with
  | nil => rfl
  | cons x l ih => simp only [numsB, List.map_cons, List.flatten_cons, List.length_append, leB_length, List.length_cons] at *; omega
theorem marksB_length (l : List Mk) : (marksB l).length = 72 * l.length := by
  induction l with
  | nil => rfl
  | cons m l ih =>
    have h1 : (numsB m.list).length = 72 := by rw [numsB_length]; rfl
    simp only [marksB, List.map_cons, List.flatten_cons, List.length_append, List.length_cons, h1] at *; omega
theorem CrcTab.keep {w w' : World} (h : CrcTab w) (hb : Below w.heap.size w w') : CrcTab w' := fun k hk => cell_later hb (h k hk)
def EncPost (l : List Mk) (w : World) (e : Ending) (w' : World) : Prop :=
  ∃ v, e = .returned (.tuple #[v, .int .i64 0]) ∧ OB w' w.heap.size v (encB l) ∧ Below w.heap.size w w'
theorem lay_below {base : Nat} {v : Value} {l : List UInt8} {w0 w w' : World} {e : Ending} {l0 : List UInt8} (h : LayPost base v l w e w') (hb : Below w0.heap.size w0 w) (hv : OB w base v l0) (hbase : w0.heap.size ≤ base) :
    ∃ v', e = .returned v' ∧ OB w' base v' l ∧ Below w0.heap.size w0 w' := by
  obtain ⟨v', rfl, ho, hc, _⟩ := h
  exact ⟨v', rfl, ho, hb.trans (hc.below (fun k hk hs => by have := (hv.lt k hs).1; omega) hb.size)⟩
set_option maxRecDepth 100000 in
set_option maxHeartbeats 4000000 in
theorem encode_ok (A : Option Addr) (n cap : Nat) (l : List Mk) (w : World) (hT : CrcTab w) (hl : MS w A n l) (hcap : n ≤ cap) (hmay : mayB l = true) :
    Calls Tryd.prog 9 #[.slice A n cap] w (EncPost l w) := by
  have hall : l.all mayM = true ∧ 1 ≤ l.length ∧ l.length ≤ 8 := by
    unfold mayB at hmay
    simp only [Bool.and_eq_true, decide_eq_true_eq] at hmay
    exact hmay
  have hln := hl.1
  have hn8 : n ≤ 8 := by omega
  have HL := Lib.hid hl; have HT := Lib.hid hT; have HMAY := Lib.hid hmay; have HALL := Lib.hid hall.1; have HLN := Lib.hid hln
  clear hl hT hmay hall hln
  have kc := fun (w : World) (C : Array Value) (n c g : Nat) (hg : g = w.heap.size) => Joins.run_convert_bytes_const_at (P := Tryd.prog) w 24 5 C n c g hg Tryd.underlying24 Tryd.underlying5
  go_enter Tryd.func9, Tryd.ntmps9
  go_wp2_with fail
  refine (may_any A n cap l _ HL.out hcap (by omega)).mono ?_
  rintro e w1 ⟨rfl, hb1⟩
  rw [HMAY.out]
  have B1 := Lib.hid hb1; clear hb1
  have hb1s := B1.out.size
  have hm1 : Below w1.heap.size w1 ((w1.alloc (.cells #[.int .u8 72, .int .u8 69, .int .u8 82, .int .u8 79, .int .u8 78, .int .u8 67, .int .u8 75, .int .u8 49] 5 (8, 9))).alloc (.cells #[.int .u64 (n : Int)] 48)) := ((Below.refl _ _).alloc (Nat.le_refl _) _).alloc (by simp) _
  have hr2 : RB ((w1.alloc (.cells #[.int .u8 72, .int .u8 69, .int .u8 82, .int .u8 79, .int .u8 78, .int .u8 67, .int .u8 75, .int .u8 49] 5 (8, 9))).alloc (.cells #[.int .u64 (n : Int)] 48)) (some ⟨w1.heap.size, 0, none⟩) 8 magicB := (RB.new w1 5 (8, 9) #[.int .u8 72, .int .u8 69, .int .u8 82, .int .u8 79, .int .u8 78, .int .u8 67, .int .u8 75, .int .u8 49] magicB rfl 8 rfl).alloc _
  have hc2 : ((w1.alloc (.cells #[.int .u8 72, .int .u8 69, .int .u8 82, .int .u8 79, .int .u8 78, .int .u8 67, .int .u8 75, .int .u8 49] 5 (8, 9))).alloc (.cells #[.int .u64 (n : Int)] 48)).cell? ⟨w1.heap.size + 1, 0, none⟩ = some (.int .u64 (n : Int)) := (Blk.new (w1.alloc (.cells #[.int .u8 72, .int .u8 69, .int .u8 82, .int .u8 79, .int .u8 78, .int .u8 67, .int .u8 75, .int .u8 49] 5 (8, 9))) 48 #[.int .u64 (n : Int)] (g := w1.heap.size + 1) (by simp)).cell 0
  have R2 := Lib.hid hr2; have C2 := Lib.hid hc2; have B2 := Lib.hid (B1.out.trans (hm1.mono hb1s))
  clear hr2 hc2 hm1
  go_wp2_with fail
  refine (lay_full w1.heap.size 8 magicB 1 n (w1.heap.size + 1) _ R2.out (by omega) (by omega) (by omega) (by omega) C2.out).mono ?_
  intro e w3 hpost
  obtain ⟨v3, rfl, ho3, hb3⟩ := hpost
  have O3 := Lib.hid (OB.less ho3 B2.out.size); have B3 := Lib.hid (B2.out.trans (hb3.mono B2.out.size))
  clear ho3 hb3 R2 C2 B2 B1 hb1s kc
  go_wp2_with fail
  go_loopw [4, 21] (fun bv iv W => ∃ k : Nat, k ≤ n ∧ iv = .int .i64 (k : Int) ∧ OB W w.heap.size bv (magicB ++ leB n 1 ++ marksB (l.take k)) ∧ Below w.heap.size w W) (fun _ iv _ => n - (intOf iv).toNat)
  case atStart => exact ⟨0, Nat.zero_le _, rfl, by simpa [marksB] using O3.out, B3.out⟩
  case round =>
    obtain ⟨k, hk, rfl, hob, hb⟩ := hrel
    have HO := Lib.hid hob; have HB := Lib.hid hb; clear hob hb
    by_cases hlt : k < n
    · obtain ⟨bb, off, m, rfl, hbb, hm, c0, c1, c2, c3, c4, c5, c6, c7, c8⟩ := (HL.out.keep HB.out).at_ hlt
      have HM := Lib.hid hm; clear hm
      have O1 : Hid (Blk (wr.alloc (.cells m.cells 31)) wr.heap.size 31 m.cells) := Lib.hid (Blk.new _ _ _ rfl)
      have B1 := Lib.hid ((Below.refl wr.heap.size wr).alloc (Nat.le_refl _) (.cells m.cells 31))
      unfold Mk.cells at O1 B1
      go_wp2_with fail
      obtain ⟨w4, hw4⟩ : ∃ w4, w4 = wr.alloc (.cells #[.int .i64 m.a0, .int .i64 m.a1, .int .i64 m.a2, .int .i64 m.a3, .int .i64 m.a4, .int .i64 m.a5, .int .i64 m.a6, .int .i64 m.a7, .int .i64 m.a8] 31) := ⟨_, rfl⟩
      obtain ⟨po, hpo⟩ : ∃ po, po = wr.heap.size := ⟨_, rfl⟩
      rw [← hw4] at O1 B1 ⊢
      rw [← hpo] at O1 ⊢
      clear hw4 hpo c0 c1 c2 c3 c4 c5 c6 c7 c8
      refine (numbers_any po 0 _).mono ?_
      rintro e w5 ⟨rfl, md, hw5⟩
      have hb5 : Below w4.heap.size w4 w5 := by rw [← hw5]; exact below_drewN ((Below.refl _ _).alloc (Nat.le_refl _) _) md
      have O5 := Lib.hid (O1.out.keep hb5)
      have P5 : Hid (Blk w5 w4.heap.size 52 (ptrs po 0)) := Lib.hid (by rw [← hw5]; exact (Blk.new w4 _ _ rfl).drewN md)
      have hbx : Below wr.heap.size wr w5 := B1.out.trans (hb5.mono B1.out.size)
      have B5 := Lib.hid (HB.out.trans (hbx.mono HB.out.size))
      have V5 := Lib.hid (HO.out.keep hbx)
      obtain ⟨ph, hph⟩ : ∃ ph, ph = w4.heap.size := ⟨_, rfl⟩
      rw [← hph] at P5 ⊢
      clear hw5 hb5 hph O1 B1 hbx
      have hmm : mayM m = true := by
        have := List.all_eq_true.1 HALL.out m (List.mem_of_getElem? HM.out)
        exact this
      have HMM := Lib.hid hmm; clear hmm
      go_wp2_with fail
      go_loopw [4, 27] (fun bv iv W => ∃ j : Nat, j ≤ 9 ∧ iv = .int .i64 (j : Int) ∧ OB W w.heap.size bv (magicB ++ leB n 1 ++ marksB (l.take k) ++ numsB (m.list.take j)) ∧ Below w.heap.size w W ∧ Blk W po 31 m.cells ∧ Blk W ph 52 (ptrs po 0)) (fun _ iv _ => 9 - (intOf iv).toNat)
      case atStart => exact ⟨0, by omega, rfl, by simpa [numsB] using V5.out, B5.out, O5.out, P5.out⟩
      case round =>
        obtain ⟨j, hj, rfl, hob6, hb6, ho6, hp6⟩ := hrel
        have V6 := Lib.hid hob6; have B6 := Lib.hid hb6; have O6 := Lib.hid ho6; have P6 := Lib.hid hp6
        clear hob6 hb6 ho6 hp6
        by_cases hlt9 : j < 9
        · have hjl : j < m.list.length := hlt9
          obtain ⟨x, hx⟩ : ∃ x, x = m.list[j] := ⟨_, rfl⟩
          have hxj : m.list[j]? = some x := by rw [hx]; exact List.getElem?_eq_getElem hjl
          have hxb : 0 ≤ x ∧ x ≤ 4611686018427387904 := by
            have h1 := HMM.out
            unfold mayM at h1
            simp only [Bool.and_eq_true] at h1
            have h2 := List.all_eq_true.1 h1.1 x (List.mem_of_getElem? hxj)
            simp [bigB] at h2
            omega
          obtain ⟨xn, rfl⟩ := Int.eq_ofNat_of_zero_le hxb.1
          have hxn : xn ≤ 4611686018427387904 := by omega
          have cp : wr.cell? ⟨ph, j, none⟩ = some (.pointer (some ⟨po, j, none⟩)) := by
            have := (P6.out.cell j).trans (ptrs_at po 0 j hlt9)
            rwa [Nat.zero_add] at this
          have cx : wr.cell? ⟨po, j, none⟩ = some (.int .i64 (xn : Int)) := (O6.out.cell j).trans (list_cell m j _ hxj)
          have HXJ := Lib.hid hxj
          clear hx hxj hjl hxb
          have hlen : (magicB ++ leB n 1 ++ marksB (l.take k) ++ numsB (m.list.take j)).length ≤ 1048576 := by
            rw [List.length_append, List.length_append, List.length_append, marksB_length, numsB_length, leB_length, List.length_take, List.length_take]
            have : magicB.length = 8 := rfl
            omega
          have HLEN := Lib.hid hlen; clear hlen
          have V7 := Lib.hid (V6.out.keep ((Below.refl _ _).alloc (Nat.le_refl _) (.cells #[.int .u64 (xn : Int)] 48)))
          have B7 := Lib.hid (B6.out.alloc B6.out.size (.cells #[.int .u64 (xn : Int)] 48))
          have c7 : (wr.alloc (.cells #[.int .u64 (xn : Int)] 48)).cell? ⟨wr.heap.size, 0, none⟩ = some (.int .u64 (xn : Int)) := by simp
          have C7 := Lib.hid c7; clear c7
          have hx8 : xn < 256 ^ 8 := by have : (256 : Nat) ^ 8 = 18446744073709551616 := by decide
                                        omega
          have HX8 := Lib.hid hx8; clear hx8
          go_wp2_with fail
          refine (lay_one w.heap.size _ _ 8 xn wr.heap.size _ V7.out B7.out.size (by omega) (by omega) HX8.out HLEN.out C7.out).mono ?_
          intro e w8 hpost
          obtain ⟨v8, rfl, ho8, hc8, hf8⟩ := hpost
          have O8 := Lib.hid ((O6.out.alloc (.cells #[.int .u64 (xn : Int)] 48)).chg hc8 (fun hs => (O6.out.alloc _).apart V7.out (by decide) hs))
          have P8 := Lib.hid ((P6.out.alloc (.cells #[.int .u64 (xn : Int)] 48)).chg hc8 (fun hs => (P6.out.alloc _).apart V7.out (by decide) hs))
          have B8 := Lib.hid (B7.out.trans (hc8.below (B := w.heap.size) (fun k hk hs => by have := (V7.out.lt k hs).1; omega) B7.out.size))
          have V8 := Lib.hid ho8
          clear ho8 hc8 hf8 V7 B7 C7 cp cx
          go_wp2_with fail
          go_roundw
          case rel => exact ⟨j + 1, by omega, by go_num, by rw [numsB_snoc HXJ.out, ← List.append_assoc]; exact V8.out, B8.out, O8.out, P8.out⟩
          case measure => simp [intOf]; omega
        · obtain rfl : j = 9 := by omega
          have e9 : m.list.take 9 = m.list := rfl
          rw [e9] at V6
          go_wp2_with fail
          go_roundw
          case rel => exact ⟨k + 1, by omega, by go_num, by rw [marksB_snoc HM.out, ← List.append_assoc]; exact V6.out, B6.out⟩
          case measure => simp [intOf]; omega
    · obtain rfl : k = n := by omega
      have htk : l.take k = l := List.take_of_length_le (by have := HLN.out; omega)
      have hbody : magicB ++ leB k 1 ++ marksB (l.take k) = bodyB l := by rw [htk]; unfold bodyB; rw [HLN.out]
      rw [hbody] at HO
      obtain ⟨D, dc, rfl, _, _, hrd⟩ := HO.out.form
      have hbl : (bodyB l).length ≤ 1000 := by
        unfold bodyB
        rw [List.length_append, List.length_append, marksB_length, leB_length, HLN.out]
        have : magicB.length = 8 := rfl
        omega
      have RDH := Lib.hid hrd
      have hcr := of_any D (bodyB l).length dc (bodyB l) wr (HT.out.keep HB.out) hrd (by omega)
      have CR := Lib.hid hcr
      have hcl : crcMore 0 (bodyB l) < 4294967296 := crcMore_lt _ (by omega)
      have BL := Lib.hid hbl
      obtain ⟨cv, hcv⟩ : ∃ cv, cv = crcMore 0 (bodyB l) := ⟨_, rfl⟩
      obtain ⟨bl, hble⟩ : ∃ bl, bl = (bodyB l).length := ⟨_, rfl⟩
      rw [← hcv] at CR hcl
      rw [← hble] at CR HO RDH ⊢
      have hEnc : encB l = bodyB l ++ leB cv 4 := by rw [hcv]; rfl
      have EN := Lib.hid hEnc; have HBLE := Lib.hid hble
      clear htk hbody hrd hcr hbl hcv hble hEnc
      have V9 := Lib.hid (HO.out.keep ((Below.refl _ _).alloc (Nat.le_refl _) (.cells #[.int .u64 (cv : Int)] 48)))
      have B9 := Lib.hid (HB.out.alloc HB.out.size (.cells #[.int .u64 (cv : Int)] 48))
      have c9 : (wr.alloc (.cells #[.int .u64 (cv : Int)] 48)).cell? ⟨wr.heap.size, 0, none⟩ = some (.int .u64 (cv : Int)) := by simp
      have C9 := Lib.hid c9; clear c9
      have H4 := Lib.hid (show cv < 256 ^ 4 from by have : (256 : Nat) ^ 4 = 4294967296 := by decide
                                                    omega)
      go_wp2_with fail
      refine CR.out.mono ?_
      rintro e w' ⟨rfl, rfl⟩
      go_wp2_with fail
      refine (lay_one w.heap.size _ (bodyB l) 4 cv wr.heap.size _ V9.out B9.out.size (by omega) (by omega) H4.out (by have := BL.out; omega) C9.out).mono ?_
      intro e w10 hpost
      obtain ⟨v10, rfl, ho10, hb10⟩ := lay_below hpost B9.out V9.out (Nat.le_refl _)
      have hF : EncPost l w (.returned (.tuple #[v10, .int .i64 0])) w10 := ⟨v10, rfl, by rw [EN.out]; exact ho10, hb10⟩
      have HF := Lib.hid hF
      clear hpost ho10 hb10 hF
      go_wp2_with fail
      go_ret2
      exact HF.out
theorem encode_bad (A : Option Addr) (n cap : Nat) (l : List Mk) (w : World) (hl : MS w A n l) (hcap : n ≤ cap) (hn : n ≤ 1048576) (hmay : mayB l = false) :
    Calls Tryd.prog 9 #[.slice A n cap] w fun e w' => e = .returned (.tuple #[.slice none 0 0, .int .i64 1]) ∧ Below w.heap.size w w' := by
  have HL := Lib.hid hl; have HMAY := Lib.hid hmay
  clear hl hmay
  go_enter Tryd.func9, Tryd.ntmps9
  go_wp2_with fail
  refine (may_any A n cap l _ HL.out hcap hn).mono ?_
  rintro e w1 ⟨rfl, hb1⟩
  rw [HMAY.out]
  have B1 := Lib.hid hb1; clear hb1
  go_wp2_with fail
  go_ret2
  exact ⟨rfl, B1.out⟩
end Go.Proofs.YtpeaacbbfkanmaaDoor
