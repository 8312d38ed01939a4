/- THE WALKS of an item's two methods: its bytes; is it what the reader takes next. -/
import Derived.Test.YtngaohmfedoeeaaRecApart
import Derived.Lib.ConvBytes
namespace Go.Proofs.Ytngaohmfedoeeaa
open Go.RowKit
theorem below_bytes (w : World) (e : TypeId) (s : ByteArray) : Below w.heap.size w (Lib.bytesWorld w e s) :=
  ⟨rfl, rfl, rfl, by rw [Lib.bytesWorld_size]; omega, fun k hk => Lib.bytesWorld_at_old w e s k hk⟩
theorem rb_bytes (w : World) (s : ByteArray) : RB (Lib.bytesWorld w 5 s) (some ⟨w.heap.size, 0, none⟩) s.size s.data.toList := by
  refine ⟨rfl, fun hp => ⟨w.heap.size, 0, rfl, by rw [Lib.bytesWorld_size]; omega, fun j c hj => ?_⟩⟩
  have hl := (List.getElem?_eq_some_iff.1 hj).1
  have hl' : s.data.toList.length = s.size := rfl
  rw [Nat.zero_add, Lib.bytesWorld_cell w _ s j (by omega)]
  simp [List.getD_eq_getElem?_getD, hj, byteV]
def encI (k n : Int) (v : Nat) (s : ByteArray) : List UInt8 :=
  if k = 0 then leB (valN n v) (widN n) else if k = 1 then textB s.data.toList else s.data.toList
def LaidPost (l : List UInt8) (w : World) (e : Ending) (w' : World) : Prop :=
  ∃ A c, e = .returned (.tuple #[.slice A l.length c, .bool true]) ∧ RB w' A l.length l ∧ Below w.heap.size w w'
set_option maxRecDepth 100000 in
set_option maxHeartbeats 2000000 in
theorem laid_any (k n : Int) (v : Nat) (s : ByteArray) (w : World) (hv : v < 18446744073709551616) (hs : s.size ≤ 1048576) :
    Calls Try.prog 23 #[.agg (itemV k n v s)] w (LaidPost (encI k n v s) w) := by
  have B0 : Blk (w.alloc (.cells #[.int .i64 k, .int .i64 n, .int .u64 (v : Int), .string s] 58)) w.heap.size 58 #[.int .i64 k, .int .i64 n, .int .u64 (v : Int), .string s] := Blk.new w _ _ rfl
  have hz0 : Below w.heap.size w (w.alloc (.cells #[.int .i64 k, .int .i64 n, .int .u64 (v : Int), .string s] 58)) := (Below.refl _ _).alloc (Nat.le_refl _) _
  have H0 := Lib.hid B0; have Z0 := Lib.hid hz0
  clear B0 hz0
  unfold itemV
  by_cases h0 : k = 0
  · subst h0
    have HE : Hid (encI 0 n v s = leB (valN n v) (widN n)) := Lib.hid rfl
    have CA := fun w' => value_any 0 n v s w' hv
    unfold ValPost itemV at CA
    have CW := fun w' => width_any n w'
    have hva := valN_lt n v
    have hwd := widN_bd n
    obtain ⟨x, hx⟩ : ∃ x, x = widN n := ⟨_, rfl⟩
    obtain ⟨p, hp⟩ : ∃ p, p = valN n v := ⟨_, rfl⟩
    rw [← hx, ← hp] at hva HE
    rw [← hx] at hwd CW
    rw [← hp] at CA
    have CN := fun w' => num_ok p x w' hwd.1 hwd.2 hva
    have C1 := Lib.hid CA; have C2 := Lib.hid CW; have C3 := Lib.hid CN
    clear CA CW CN hx hp hva hv
    go_enter Try.func23, Try.ntmps23
    go_upto_region 3 with fail
    have hne : (w.alloc (.cells #[.int .i64 0, .int .i64 n, .int .u64 (v : Int), .string s] 58)).heap.size ≠ w.heap.size := by have := H0.out.lt; omega
    obtain ⟨w2, hw2⟩ : ∃ w2, w2 = w.alloc (.cells #[.int .i64 0, .int .i64 n, .int .u64 (v : Int), .string s] 58) := ⟨_, rfl⟩
    obtain ⟨g, hg⟩ : ∃ g, g = w.heap.size := ⟨_, rfl⟩
    rw [← hw2] at H0 Z0 hne ⊢
    rw [← hg] at H0 hne ⊢
    have GG := Lib.hid hg; clear hg hw2
    obtain ⟨a0, a1, a2, a3⟩ := It.of H0.out
    go_region_held3 (fun w' => w'.cell? ⟨g, 0, none⟩ = some (.int .i64 0) ∧ w'.cell? ⟨g, 1, none⟩ = some (.int .i64 n) ∧ w'.cell? ⟨g, 2, none⟩ = some (.int .u64 (v : Int)) ∧ w'.cell? ⟨g, 3, none⟩ = some (.string s)) (first | go_keep | exact ⟨cell_later hbn (by go_keep), cell_later hbn (by go_keep), cell_later hbn (by go_keep), cell_later hbn (by go_keep)⟩)
      (first | (go_at_call 25; refine (C1.out _).mono ?_; rintro e w' ⟨rfl, m, rfl⟩) | (go_at_call 26; refine (C2.out _).mono ?_; rintro e w' ⟨rfl, rfl⟩) | (go_at_call 10; refine (C3.out _).mono ?_; rintro e wn ⟨g1, rfl, hg1, ho1, hbn⟩))
    have hbx : Below w2.heap.size w2 wn := Below.trans (b := _) (by repeat (first | exact Below.refl _ _ | assumption | refine below_drewN ?_ _ | refine Below.drew ?_ | refine Below.alloc ?_ (by first | omega | (simp; done) | (simp; omega)) _)) (hbn.mono (by first | omega | (simp; done) | (simp; omega)))
    have ZN := Lib.hid (Z0.out.trans (hbx.mono Z0.out.size)); have RN := Lib.hid ho1.rb
    clear hbx hbn ho1 hg1 Z0 a0 a1 a2 a3 hne
    go_wp2_with fail
    refine (C2.out _).mono ?_
    rintro e w' ⟨rfl, rfl⟩
    go_wp2_with fail
    have hF : LaidPost (encI 0 n v s) w (.returned (.tuple #[.slice (some ⟨g1, 0, none⟩) x x, .bool true])) wn := by
      rw [HE.out]
      exact ⟨some ⟨g1, 0, none⟩, x, by rw [leB_length], by rw [leB_length]; exact RN.out, ZN.out⟩
    have HF := Lib.hid hF; clear hF
    go_ret2
    exact HF.out
  · have t0 : (k == 0) = false := by simpa using h0
    by_cases h1 : k = 1
    · subst h1
      have HE : Hid (encI 1 n v s = textB s.data.toList) := Lib.hid rfl
      go_enter Try.func23, Try.ntmps23
      go_wp2_with fail
      refine (text_any s _ (by omega)).mono ?_
      intro e w8 hpost
      obtain ⟨v8, rfl, ho8, hb8⟩ := hpost
      obtain ⟨A8, c8, rfl, _, _, hr8⟩ := ho8.form
      have A9 := Lib.hid (H0.out.keep hb8); have Z9 := Lib.hid (Z0.out.trans (hb8.mono Z0.out.size))
      have hl : (textB s.data.toList).length = 4 + s.size := textB_length _
      have R8 := Lib.hid hr8
      clear hb8 hr8 ho8
      rw [hl]
      have a3 : w8.cell? ⟨w.heap.size, 3, none⟩ = some (.string s) := A9.out.cell 3
      have HL := Lib.hid hl; clear hl
      have q1 : IntKind.i64.wrap (4 + (s.size : Int)) = 4 + (s.size : Int) := IntWalk.i64_in _ (by omega)
      have q2 : (((4 + s.size : Nat) : Int) == 4 + (s.size : Int)) = true := by rw [beq_iff_eq]; omega
      have hF : ∀ m, LaidPost (encI 1 n v s) w (.returned (.tuple #[.slice A8 (4 + s.size) c8, .bool true])) (w8.drewN m) := fun m => by
        rw [HE.out]
        exact ⟨A8, c8, by rw [HL.out], R8.out.drewN m, below_drewN Z9.out m⟩
      have HF := Lib.hid hF; clear hF
      go_wp2_with fail
      go_quiet (fail)
      go_wp2_with fail
      go_ret2
      exact HF.out _
    · have t1 : (k == 1) = false := by simpa using h1
      have hE : encI k n v s = s.data.toList := by unfold encI; rw [if_neg h0, if_neg h1]
      have hcv := fun W => Lib.run_convert_string_bytes (P := Try.prog) W 9 22 5 s Try.underlying9 Try.underlying22 Try.underlying5
      have hF : ∀ c, LaidPost (encI k n v s) w (.returned (.tuple #[.slice (some ⟨w.heap.size + 1, 0, none⟩) s.size c, .bool true])) (Lib.bytesWorld (w.alloc (.cells #[.int .i64 k, .int .i64 n, .int .u64 (v : Int), .string s] 58)) 5 s) := fun c => by
        rw [hE]
        refine ⟨some ⟨w.heap.size + 1, 0, none⟩, c, rfl, ?_, Z0.out.trans ((below_bytes _ _ _).mono (by simp))⟩
        have := rb_bytes (w.alloc (.cells #[.int .i64 k, .int .i64 n, .int .u64 (v : Int), .string s] 58)) s
        simpa using this
      have HF := Lib.hid hF; clear hF hE
      go_enter Try.func23, Try.ntmps23
      go_wp2_with fail
      go_ret2
      exact HF.out _
end Go.Proofs.Ytngaohmfedoeeaa
