/- THE WALKS of strings.IndexByte and strings.IndexRune where the text is a NUL and a newline. -/
import Derived.Test.YtlojmmcagglpoaaGreatEBase
import Derived.Test.YtlojmmcagglpoaaGreatRows
import Derived.WalkKit
import Derived.WalkMore
import Derived.WalkSpells
import Derived.OwnWalk
import Derived.Lib.Hide
import Derived.Lib.Strings
import Derived.Lib.Slices
import Derived.Lib.Walk
import Derived.Lib.Bytealg
import Derived.Lib.IndexAny
import Derived.Lib.OthersKept
import Derived.Laws.RangeString
import Derived.Laws.Strings3
import Derived.Laws.Cover4
import Derived.Deep.LoopGhost
import Derived.RegionTactic
import Derived.BigQuiet
import Derived.Deep.QuietTactic
namespace Go.Proofs.YtlojmmcagglpoaaGreat
open Go.RowKit
set_option maxHeartbeats 1000000 in
set_option maxRecDepth 100000 in
theorem sbyte_any (s : ByteArray) (c : Int) (w : World) : Calls Tryz.prog 205 #[.string s, .int .u8 c] w fun e w' => e = .returned (.int .i64 (Lib.indexByte s.data.toList c.toNat.toUInt8)) ∧ w = w' := by
  go_enter Tryz.func205, Tryz.ntmps205
  go_wp2
  rw [run_callFunc_extern Tryz.func207 (by kernel_rfl) (by kernel_rfl) (by kernel_rfl) (e := Extern.BytealgIndexByte.indexByte) (by kernel_rfl), Lib.run_indexByteString]
  simp only [Result.andThen]
  rw [Oper.upon_value]
  go_wp2
  go_ret
  exact ⟨rfl, rfl⟩
set_option maxHeartbeats 1000000 in
theorem ibyte_any (s : ByteArray) (c : Int) (w : World) : Calls Tryz.prog 197 #[.string s, .int .u8 c] w fun e w' => e = .returned (.int .i64 (Lib.indexByte s.data.toList c.toNat.toUInt8)) ∧ w = w' := by
  go_enter Tryz.func197, Tryz.ntmps197
  go_wp2_with (go_at_call 205; refine (sbyte_any _ _ _).mono ?_; rintro e w' ⟨rfl, rfl⟩)
  go_ret
  exact ⟨rfl, rfl⟩
/-- a NUL and a newline -/
def two : ByteArray := ⟨#[0, 10]⟩
def IruQ (r : Nat) (w : World) (e : Ending) (w' : World) : Prop := ∃ k : Int, e = .returned (.int .i64 k) ∧ (0 ≤ k ↔ r = 0 ∨ r = 10) ∧ Below w.heap.size w w'
set_option maxHeartbeats 1000000 in
set_option maxRecDepth 100000 in
theorem irune_ascii (r : Nat) (w : World) (h : r < 128) : Calls Tryz.prog 183 #[.string two, .int .i32 (r : Int)] w (IruQ r w) := by
  have h1 : (0 : Int) ≤ (r : Int) := by omega
  have h2 : (r : Int) < 128 := by omega
  have hw : IntKind.u8.wrap (r : Int) = (r : Int) := by simp [IntKind.wrap, IntKind.bits, IntKind.signed]; omega
  have HF : Hid (∀ w : World, IruQ r w (.returned (.int .i64 (Lib.indexByte two.data.toList (r : Int).toNat.toUInt8))) w) := Lib.hid (fun w => ⟨_, rfl, by
    show 0 ≤ Lib.indexByte [0, 10] _ ↔ _
    have e : ((r : Int)).toNat.toUInt8 = UInt8.ofNat r := rfl
    rw [e]
    refine Iff.trans (decide_eq_true_iff (p := 0 ≤ Lib.indexByte [0, 10] (UInt8.ofNat r))).symm ?_
    rw [← Lib.contains_iff_indexByte]
    have : r = (UInt8.ofNat r).toNat := by rw [UInt8.toNat_ofNat_of_lt' (by show r < 256; omega)]
    generalize UInt8.ofNat r = u at *
    subst this
    simp [← UInt8.toNat_inj], Below.refl _ _⟩)
  go_enter Tryz.func183, Tryz.ntmps183
  go_wp2_with (go_at_call 197; refine (ibyte_any _ _ _).mono ?_; rintro e w' ⟨rfl, rfl⟩)
  go_ret
  exact HF.out _
set_option maxHeartbeats 1000000 in
set_option maxRecDepth 100000 in
theorem irune_bad (w : World) : Calls Tryz.prog 183 #[.string two, .int .i32 65533] w (IruQ 65533 w) := by
  have n0 : ∀ ty, (Instr.next (.pointer (some ⟨w.heap.size, 0, none⟩)) true ty).run Tryz.prog (w.iter two 0) = .ok (.tuple #[.bool true, .int .i64 0, .int .i32 0]) (w.iter two 1) := fun ty => run_next_ascii (P := Tryz.prog) w two 0 ty (by decide) (by decide)
  have n1 : ∀ ty, (Instr.next (.pointer (some ⟨w.heap.size, 0, none⟩)) true ty).run Tryz.prog (w.iter two 1) = .ok (.tuple #[.bool true, .int .i64 1, .int .i32 10]) (w.iter two 2) := fun ty => run_next_ascii (P := Tryz.prog) w two 1 ty (by decide) (by decide)
  have n2 : ∀ ty, (Instr.next (.pointer (some ⟨w.heap.size, 0, none⟩)) true ty).run Tryz.prog (w.iter two 2) = .ok (.tuple #[.bool false]) (w.iter two 2) := fun ty => run_next_end (P := Tryz.prog) w two 2 ty (by decide)
  go_enter Tryz.func183, Tryz.ntmps183
  go_wp2
  refine wp_loop_rounds 3 ?_
  rw [rounds_succ]
  go_wp2
  rw [rounds_succ]
  go_wp2
  rw [rounds_succ]
  go_wp2
  go_ret
  exact ⟨_, rfl, by decide, (Below.refl _ _).alloc (Nat.le_refl _) _⟩
set_option maxHeartbeats 1000000 in
theorem vrune_any (r : Nat) (w : World) (hv : r < 55296 ∨ (57343 < r ∧ r ≤ 1114111)) : Calls Tryz.prog 198 #[.int .i32 (r : Int)] w fun e w' => e = .returned (.bool true) ∧ w = w' := by
  go_enter Tryz.func198, Tryz.ntmps198
  have h0 : (0 : Int) ≤ (r : Int) := by omega
  by_cases h : r < 55296
  · have h1 : (r : Int) < 55296 := by omega
    go_wp2
    go_ret
    exact ⟨rfl, rfl⟩
  · have h1 : ¬ (r : Int) < 55296 := by omega
    have h2 : (57343 : Int) < (r : Int) := by omega
    have h3 : (r : Int) ≤ 1114111 := by omega
    go_wp2
    go_ret
    exact ⟨rfl, rfl⟩
set_option maxHeartbeats 1000000 in
set_option maxRecDepth 100000 in
theorem irune_far (r : Nat) (w : World) (h : 128 ≤ r) (hne : r ≠ 65533) (hv : r < 55296 ∨ (57343 < r ∧ r ≤ 1114111)) : Calls Tryz.prog 183 #[.string two, .int .i32 (r : Int)] w (IruQ r w) := by
  have h1 : (0 : Int) ≤ (r : Int) := by omega
  have h2 : ¬ (r : Int) < 128 := by omega
  have h3 : ((r : Int) == 65533) = false := by rw [beq_eq_false_iff_ne]; omega
  have CV := Lib.hid (fun w => vrune_any r w hv)
  go_enter Tryz.func183, Tryz.ntmps183
  go_wp2_with fail
  refine (CV.out _).mono ?_
  rintro e w2 ⟨rfl, rfl⟩
  go_wp2_with fail
  obtain ⟨z, hz⟩ : ∃ z, z = Utf8.encode (r : Int) := ⟨_, rfl⟩
  have hcv : ∀ w : World, (convert 21 9 (.int .i32 (r : Int))).run Tryz.prog w = .ok (.string z) w := fun w => by rw [hz]; rfl
  have HZ := Lib.hid hz
  clear hz
  by_cases h2k : r < 2048
  · have hz2 : z.size = 2 ∧ ∀ h : 1 < z.size, 128 ≤ (z[1]'h).toNat := by
      have hval : Utf8.valid (r : Int) = true := by unfold Utf8.valid; simp; omega
      have e : z = ⟨#[UInt8.ofNat (0xC0 + r / 64), UInt8.ofNat (0x80 + r % 64)]⟩ := by
        rw [HZ.out]
        unfold Utf8.encode
        rw [hval]
        simp only [if_true, Int.toNat_natCast]
        rw [if_neg (by omega), if_pos (by omega)]
      subst e
      refine ⟨rfl, fun h => ?_⟩
      show 128 ≤ (UInt8.ofNat (0x80 + r % 64)).toNat
      rw [UInt8.toNat_ofNat_of_lt' (by show _ < 256; omega)]; omega
    obtain ⟨hz1, hv2⟩ := hz2
    have hlz : 1 < z.size := by omega
    obtain ⟨v, hv3⟩ : ∃ v, z[1]'hlz = v := ⟨_, rfl⟩
    have hv4 := hv2 hlz
    rw [hv3] at hv4
    have hzi : ((z.size : Int) - 1) = 1 := by omega
    have htw : (1 : Int) < (two.size : Int) := by decide
    clear hv2
    go_step3
    go_wp2_with fail
    refine wp_loop_rounds 1 ?_
    rw [rounds_succ]
    go_wp2_with fail
    have hlz2 : (1 : Int) < (z.size : Int) := by omega
    have hg2 : two[1]'(by decide) = (10 : UInt8) := rfl
    go_step3
    go_wp2_with fail
    go_quiet (fail)
    obtain ⟨w1, hw1⟩ : ∃ w1, w1 = w.drewN nq := ⟨_, rfl⟩
    have HW1 := Lib.hid hw1
    rw [← hw1]
    clear hw1
    go_wp2_with fail
    have HIB := Lib.hid (fun (s : ByteArray) (c : Int) (k : Nat) => ibyte_any s c (w1.drewN k))
    have hb0 : (0 : Int) ≤ 1 + 1 := by decide
    have hb1 : (1 + 1 : Int) ≤ (two.size : Int) := by decide
    have hiw : IntKind.i64.wrap (1 + 1) = 2 := by decide
    have hb2 : (2 : Int) ≤ (two.size : Int) := by decide
    have hlt : Lib.indexByte (List.take (two.size - 2) (List.drop 2 two.data.toList)) v < 0 := by show (-1 : Int) < 0; decide
    go_quiet ((with_reducible exact quiet (HIB.out _ _ _)))
    go_wp2_with fail
    rw [Exit.noGoto_ret]
    go_wp2_with fail
    rw [Exit.noGoto_ret]
    go_wp2_with fail
    go_ret
    refine ⟨_, rfl, ?_, below_drewN (by rw [HW1.out]; exact below_drewN (Below.refl _ _) _) _⟩
    omega
  · have hsz : 3 ≤ z.size := by
      rw [HZ.out]
      unfold Utf8.encode
      have hval : Utf8.valid (r : Int) = true := by unfold Utf8.valid; simp; omega
      rw [hval]
      simp only [if_true, Int.toNat_natCast]
      rw [if_neg (by omega), if_neg (by omega)]
      split <;> simp [ByteArray.size]
    have hsz3 : ¬ ((z.size : Int) - 1 < (two.size : Int)) := by have : two.size = 2 := rfl; omega
    have hsz2 : z.size ≤ 4 := by rw [HZ.out]; exact encode_size_le _
    go_step3
    go_wp2_with fail
    refine wp_loop_rounds 1 ?_
    rw [rounds_succ]
    go_wp2_with fail
    rw [Exit.noGoto_ret]
    go_ret
    exact ⟨_, rfl, by omega, Below.refl _ _⟩
end Go.Proofs.YtlojmmcagglpoaaGreat
