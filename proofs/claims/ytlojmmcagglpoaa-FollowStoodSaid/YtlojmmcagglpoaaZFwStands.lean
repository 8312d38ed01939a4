/- THE WALK of stands (package heronlaw17; printed by a program of ours). -/
import Derived.Test.YtlojmmcagglpoaaZFwAhead
import Derived.Deep.QuietTactic
import Derived.BigQuiet
namespace Go.Proofs.Ytlojmmcagglpoaa
open Go.RowKit Go.Maps
attribute [local go_sem ↓] Go.wp_at_zero Go.wp_at_succ
set_option maxRecDepth 20000 in
set_option maxHeartbeats 4000000 in
theorem stands17 {W : World} {p : Nat} {D : World → Prop} {S : List UInt8 → T5} {I : Int → T5} {R : Int → Int → Int → Int → List UInt8 × Int} (ha : Asks p D S I R) (hD : ∀ w, Below W.heap.size W w → D w) (f : FwS) (hf : f.Ok) (tx : List UInt8) (hl : tx.length ≤ 4096) (h1 : R f.ino f.ge f.off ((tx.length : Int) + 1) = (tx ++ [10], 0)) (h2 : ∀ c ∈ tx, c ≠ 10) (h3 : f.off = 0 ∨ R f.ino f.ge (f.off - 1) 1 = ([10], 0)) : Calls Try.prog 32 #[.pointer (some ⟨p, 0, none⟩), .agg (lineA f (strB tx))] W fun e w' => e = .returned (.bool true) ∧ Below W.heap.size W w' := by
  obtain ⟨w1, hw1⟩ : ∃ w1, w1 = W.alloc (.cells (lineA f (strB tx)) 42) := ⟨_, rfl⟩
  obtain ⟨g, hg⟩ : ∃ g, g = W.heap.size := ⟨_, rfl⟩
  have B1 : Hid (Below W.heap.size W w1) := Lib.hid (by rw [hw1]; exact (Below.refl _ _).alloc (Nat.le_refl _) _)
  have Bw1 : Hid (Below w1.heap.size w1 w1) := Lib.hid (Below.refl _ _)
  have K1 : Hid (Blk w1 g 42 (lineA f (strB tx))) := Lib.hid (by rw [hw1]; exact Blk.new W _ _ hg)
  have HT : Hid (∀ w, Below w1.heap.size w1 w → (fun w' => w'.cell? ⟨g, 1, none⟩ = some (.int .i64 f.ino) ∧ w'.cell? ⟨g, 2, none⟩ = some (.int .i64 f.ge) ∧ w'.cell? ⟨g, 3, none⟩ = some (.int .i64 f.off) ∧ w'.cell? ⟨g, 9, none⟩ = some (.string (strB tx))) w) := Lib.hid (fun w hb => ⟨((K1.out.keep hb).cell 1).trans rfl, ((K1.out.keep hb).cell 2).trans rfl, ((K1.out.keep hb).cell 3).trans rfl, ((K1.out.keep hb).cell 9).trans rfl⟩)
  have HA := Lib.hid ha
  have HD := Lib.hid hD
  have HF := Lib.hid hf
  obtain ⟨L, hL⟩ : ∃ L, L = (strB tx).size := ⟨_, rfl⟩
  have hL2 : L = tx.length := hL
  have HL := Lib.hid hL
  have HL2 := Lib.hid hL2
  have HLL : L ≤ 4096 := by rw [hL2]; exact hl
  obtain ⟨tl, htl⟩ : ∃ tl, tl = tx ++ [10] := ⟨_, rfl⟩
  have HR1 : Hid (R f.ino f.ge f.off ((L : Int) + 1) = (tl, 0)) := Lib.hid (by rw [hL2, htl]; exact h1)
  have hcat : strB tx ++ (⟨#[10]⟩ : ByteArray) = strB tl := by
    rw [htl]
    apply ByteArray.ext
    rw [ByteArray.data_append]
    apply Array.toList_inj.1
    simp [strB]
  have HCAT := Lib.hid hcat
  have HN := Lib.hid h2
  have H3 := Lib.hid h3
  have hio := inM_ok hf.ino
  unfold lineA at hw1 ⊢
  clear ha hD h1 h2 h3 hl hL hL2 hf htl hcat
  go_enter Try.func32, Try.ntmps32
  go_upto_region 1 with fail
  rw [← hw1, ← hg]
  clear hw1 hg
  have HSZ : (strB tx).size = L := HL.out.symm
  have CR := Lib.hid (HA.out.read w1 f.ino f.ge f.off ((L : Int) + 1) hio ⟨by have := HF.out.off.1; omega, by have := HF.out.off.2; omega⟩ ⟨by omega, by omega⟩ (HD.out w1 B1.out))
  rw [HR1.out] at CR
  obtain ⟨q1, q2, q3, q9⟩ := HT.out w1 Bw1.out
  go_wp2_with fail
  refine CR.out.mono ?_
  rintro e w3 ⟨v3, rfl, ho3, hb3⟩
  dsimp only at ho3
  obtain ⟨A3, cA3, rfl, hcA3, _, hr3⟩ := ho3.form
  have B3 := Lib.hid hb3
  simp only
  have v1 : (convert 46 9 (.slice A3 tl.length cA3)).run Try.prog w3 = .ok (.string (strB tl)) w3 := conv_bytes w3 A3 _ cA3 tl hr3
  obtain ⟨_, _, _, y9⟩ := HT.out w3 B3.out
  clear hr3 ho3 hb3 CR q1 q2 q3 q9
  have hcat := HCAT.out
  go_upto_region 4 with fail
  have B3' := Lib.hid (B1.out.trans (B3.out.mono B1.out.size))
  clear v1 hcat hcA3 HCAT HR1 HL
  go_wp2_with fail
  go_loopw [7] (fun s7 W' => ∃ j : Nat, s7 = .int .i64 (j : Int) ∧ j ≤ L ∧ W' = w3) (fun s7 _ => L - (intOf s7).toNat)
  case atStart => exact ⟨0, rfl, Nat.zero_le _, rfl⟩
  case round =>
    obtain ⟨j, rfl, hj, hww⟩ := hrel
    subst hww
    by_cases hlt : j < L
    · have hlt' : (j : Int) < (L : Int) := by omega
      have hj0 : (0 : Int) ≤ (j : Int) := by omega
      have hm : ((((strB tx)[j]'(by rw [HSZ]; exact hlt)).toNat : Int) == (10 : Int)) = false := by
        rw [beq_eq_false_iff_ne]
        intro e
        have h1 : (strB tx)[j]'(by rw [HSZ]; exact hlt) = tx[j]'(by rw [← HL2.out]; exact hlt) := rfl
        rw [h1] at e
        have h3 : tx[j]'(by rw [← HL2.out]; exact hlt) = 10 := UInt8.toNat_inj.1 (by rw [show (10 : UInt8).toNat = 10 from rfl]; omega)
        exact HN.out _ (List.getElem_mem _) h3
      go_wp2_with fail
      go_roundw
      case rel => exact ⟨j + 1, by go_num, by omega, trivial⟩
      case measure => simp [intOf]; omega
    · obtain rfl : j = L := by omega
      have hnl : ¬ (j : Int) < (j : Int) := by omega
      rcases H3.out with h0 | h0
      · have z3 : wr.cell? ⟨g, 3, none⟩ = some (.int .i64 0) := by rw [← h0]; exact (HT.out wr B3.out).2.2.1
        go_wp2_with fail
        go_ret
        exact ⟨rfl, B3'.out⟩
      · by_cases hoff : f.off = 0
        · have z3 : wr.cell? ⟨g, 3, none⟩ = some (.int .i64 0) := by rw [← hoff]; exact (HT.out wr B3.out).2.2.1
          go_wp2_with fail
          go_ret
          exact ⟨rfl, B3'.out⟩
        · have hob : (f.off == 0) = false := beq_eq_false_iff_ne.2 hoff
          have CR := Lib.hid (HA.out.read wr f.ino f.ge (f.off - 1) 1 hio ⟨by have := HF.out.off.1; omega, by have := HF.out.off.2; omega⟩ ⟨by decide, by decide⟩ (HD.out wr B3'.out))
          obtain ⟨ten, hten⟩ : ∃ ten : List UInt8, ten = [10] := ⟨_, rfl⟩
          rw [h0, ← hten] at CR
          have HTEN := Lib.hid hten
          have hw := IntWalk.i64_in (f.off - 1) (by have := HF.out.off.1; have := HF.out.off.2; omega)
          obtain ⟨z1, z2, z3, z9⟩ := HT.out wr B3.out
          clear h0 hten hoff
          go_wp2_with fail
          refine CR.out.mono ?_
          rintro e w4 ⟨v4, rfl, ho4, hb4⟩
          dsimp only at ho4
          obtain ⟨A4, cA4, rfl, hcA4, _, hr4⟩ := ho4.form
          have B4 := Lib.hid (B3'.out.trans (hb4.mono B3'.out.size))
          simp only
          have v2 : (convert 46 9 (.slice A4 ten.length cA4)).run Try.prog w4 = .ok (.string ⟨#[10]⟩) w4 := by
            have h1 := conv_bytes w4 A4 _ cA4 ten hr4
            rw [h1, HTEN.out]
            rfl
          clear hr4 ho4 hb4 CR z1 z2 z3 z9 hw
          go_wp2_with fail
          go_ret
          exact ⟨rfl, B4.out⟩
end Go.Proofs.Ytlojmmcagglpoaa
