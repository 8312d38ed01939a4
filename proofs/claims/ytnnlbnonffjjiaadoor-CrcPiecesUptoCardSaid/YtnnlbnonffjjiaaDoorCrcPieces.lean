/- THE WALK of heronlaw01.CrcPieces. -/
import Derived.Test.YtnnlbnonffjjiaaDoorCrcKnown
import Derived.Test.YtnnlbnonffjjiaaDoorCrcMath
import Derived.Test.YtnnlbnonffjjiaaDoorMem
import Derived.Deep.QuietTactic
import Derived.BigQuiet
namespace Go.Proofs.YtnnlbnonffjjiaaDoor
open Go.RowKit
theorem crcMore_take_snoc (u : Nat) (p : List UInt8) (k : Nat) (c : UInt8) (h : p[k]? = some c) : crcMore u (p.take (k + 1)) = crcMore (crcMore u (p.take k)) [c] := by
  rw [take_snoc h, crcMore_append]
set_option maxHeartbeats 1000000 in
theorem pieces_any (A : Option Addr) (n cap : Nat) (ps : List (List UInt8)) (w : World) (hT : CrcTab w) (hr : RR w A n ps) (hncap : n ≤ cap) (hn : n ≤ 1048576) (hsum : (ps.map List.length).sum ≤ 1048576) :
    Calls Tryd.prog 4 #[.slice A n cap] w fun e w' => e = .returned (.bool true) ∧ Below w.heap.size w w' := by
  have HT := Lib.hid hT; clear hT
  have HR := Lib.hid hr; clear hr
  have hpl : ∀ p, p ∈ ps → p.length ≤ 1048576 := fun p hp => by
    have := le_sum ps hp; omega
  have HP := Lib.hid hpl; clear hpl
  have HS := Lib.hid hsum; clear hsum
  go_enter Tryd.func4, Tryd.ntmps4
  go_wp2_with fail
  refine (known_any _ HT.out).mono ?_
  rintro e w1 ⟨rfl, hb1⟩
  go_wp2_with fail
  go_loopw [3, 4, 5, 15] (fun v s t i W => ∃ k : Nat, k ≤ n ∧ i = .int .i64 k ∧ OB W w.heap.size v (ps.take k).flatten ∧ Below w.heap.size w W ∧ ∃ u : Nat, u < 4294967296 ∧ Hid (u = crcMore 0 (ps.take k).flatten) ∧ s = .int .u32 u ∧ t = .int .u32 u) (fun _ _ _ i _ => n - (intOf i).toNat)
  case atStart => exact ⟨0, Nat.zero_le _, rfl, OB.nil _ _, hb1, 0, by omega, (crcMore_nil 0).symm, rfl, rfl⟩
  case round =>
    obtain ⟨k, hk, rfl, ho, hb2, u, hu, HU, rfl, rfl⟩ := hrel
    have HO := Lib.hid ho; clear ho
    by_cases hlt : k < n
    · have hcell' := fun b off => (bcell hb2).1 b off
      obtain ⟨b, off, rfl, hb, p, A', c', hc, hpc, hcell, hp⟩ := HR.out.at_ hlt
      rw [← hb2.cell (p := ⟨b, off + k, none⟩) hb] at hcell
      clear hcell'
      have hpl := HP.out p (List.mem_of_getElem? hc)
      have HF := Lib.hid (flat_take ps k)
      have HC := Lib.hid hc; clear hc
      have HQ0 := Lib.hid hp; clear hp
      have HQ := Lib.hid (HQ0.out.keep hb2)
      have hL : (ps.take k).flatten.length + p.length ≤ 140737488355328 := by have := HF.out; have := HS.out; omega
      go_wp2_with ((at_builtin; go_must (refine append_bytes rfl (.tmp 19) (.tmp 20) rfl w.heap.size u3 _ rfl HO.out A' p.length c' p rfl HQ.out hL hb2.size ?_); intro v2 w2 ho2 hg2 ha2; refine halt ?_))
      refine unhalt ?_
      have hb3 : Below w.heap.size w w2 := hb2.grown hg2 hb2.size (fun j hj => (HO.out.lt j hj).1)
      clear HQ hL HO hg2 ha2 hcell hb2
      rw [← flat_snoc HC.out] at ho2
      have O2 := Lib.hid ho2; clear ho2
      have HQ := Lib.hid (HQ0.out.keep hb3)
      have T3 := Lib.hid (HT.out.keep hb3)
      go_wp2_with fail
      refine (more_any _ _ _ p u _ T3.out HQ.out (by omega) hu).mono ?_
      rintro e w' ⟨rfl, rfl⟩
      go_wp2_with fail
      go_loop [5, 27] (fun t i => ∃ j : Nat, j ≤ p.length ∧ i = .int .i64 j ∧ ∃ y : Nat, y < 4294967296 ∧ Hid (y = crcMore u (p.take j)) ∧ t = .int .u32 y) (fun _ i => p.length - (intOf i).toNat)
      case atStart => exact ⟨0, Nat.zero_le _, rfl, u, hu, (crcMore_nil u).symm, rfl⟩
      case round =>
        obtain ⟨j, hj, rfl, y, hy, HY, rfl⟩ := hrel
        by_cases hlt' : j < p.length
        · obtain ⟨b', off', rfl, hb', c, hcj, _⟩ := HQ.out.at_ hlt'
          have H1 := Lib.hid (HQ.out.one hcj)
          have HJ := Lib.hid hcj; clear hcj
          have hne : ¬ c' = j := by omega
          go_wp2_with fail
          refine (more_any _ _ _ [c] y _ T3.out H1.out (by omega) hy).mono ?_
          rintro e w' ⟨rfl, rfl⟩
          go_wp2_with fail
          go_round
          case rel => exact ⟨j + 1, by omega, by go_num, _, crcMore_lt [c] hy, by rw [HY.out, crcMore_take_snoc _ _ _ _ HJ.out]; rfl, rfl⟩
          case measure => simp [intOf]; omega
        · go_wp2_with fail
          go_roundw
          case rel => exact ⟨k + 1, by omega, by go_num, O2.out, hb3, _, crcMore_lt p hu, by rw [HU.out, flat_snoc HC.out, crcMore_append]; rfl, rfl, by
            rw [HY.out, List.take_of_length_le (by omega)]⟩
          case measure => simp [intOf]; omega
    · obtain rfl : k = n := by omega
      have hfl : (ps.take k).flatten = ps.flatten := by rw [List.take_of_length_le (by have := HR.out.1; omega)]
      have hflen : ps.flatten.length ≤ 1048576 := by have := flat_take ps k; rw [hfl] at this; have := HS.out; omega
      rw [hfl] at HU HO
      clear hfl
      obtain ⟨D, dc, rfl, hdc, hdm, hr2⟩ := HO.out.form
      have hall := crcAll_eq ps 0
      have hsplit : crcMore (crcMore 0 (ps.flatten.take (ps.flatten.length / 2))) (ps.flatten.drop (ps.flatten.length / 2)) = crcMore 0 ps.flatten := by
        rw [← crcMore_append, List.take_append_drop]
      have R3 := Lib.hid (HR.out.keep hb2)
      have HA := Lib.hid hall; clear hall
      have HX := Lib.hid hsplit; clear hsplit
      generalize ps.flatten = l at *
      have R2 := Lib.hid hr2; clear hr2
      have T3 := Lib.hid (HT.out.keep hb2)
      have R4 := Lib.hid (R2.out.take (k := l.length / 2) (by omega))
      have R5 := Lib.hid (R2.out.drop (k := l.length / 2) (by omega) hdc)
      have hh : l.length / 2 ≤ l.length := by omega
      obtain ⟨half, hhalf⟩ : ∃ m, m = l.length / 2 := ⟨_, rfl⟩
      rw [← hhalf] at HX R4 R5 hh
      have hhalf' : (l.length : Int) / 2 = (half : Int) := by omega
      have Hh := Lib.hid hhalf; clear hhalf
      go_wp2_with fail
      refine (of_any _ _ _ l _ T3.out R2.out (by omega)).mono ?_
      rintro e w' ⟨rfl, rfl⟩
      rw [← HU.out]
      go_wp2_with fail
      have hs1 := crcMore_lt (v := 0) (l.take half) (by omega)
      have q1 : ∀ m, Calls Tryd.prog 14 #[.slice A k cap] (wr.drewN m) fun e w' => e = .returned (.int .u32 (u : Int)) ∧ wr.drewN m = w' := fun m => by
        have := all_any A k cap ps (wr.drewN m) (T3.out.drewN m) (R3.out.drewN m) (by omega) (fun p hp => by have := HP.out p hp; omega)
        rw [HA.out, ← HU.out] at this; exact this
      have q4 : ∀ m, Calls Tryd.prog 10 #[.int .u32 (u : Int), .slice none 0 0] (wr.drewN m) fun e w' => e = .returned (.int .u32 (u : Int)) ∧ wr.drewN m = w' := fun m => by
        have := more_any none 0 0 [] u (wr.drewN m) (T3.out.drewN m) (RB.nil _ _) (by omega) hu
        rw [crcMore_nil] at this; exact this
      have Q1 := Lib.hid q1; clear q1
      have Q4 := Lib.hid q4; clear q4
      by_cases hdh : dc = half
      · subst hdh
        have q2 : ∀ m, Calls Tryd.prog 9 #[.slice D dc dc] (wr.drewN m) fun e w' => e = .returned (.int .u32 (crcMore 0 (l.take dc) : Int)) ∧ wr.drewN m = w' := fun m =>
          of_any D dc dc _ (wr.drewN m) (T3.out.drewN m) (R4.out.drewN m) (by omega)
        have q3 : ∀ m, Calls Tryd.prog 10 #[.int .u32 (crcMore 0 (l.take dc) : Int), .slice D 0 0] (wr.drewN m) fun e w' => e = .returned (.int .u32 (u : Int)) ∧ wr.drewN m = w' := fun m => by
          have h5 := R5.out
          rw [if_pos rfl, show l.length - dc = 0 from by omega] at h5
          have := more_any D 0 0 _ _ (wr.drewN m) (T3.out.drewN m) (h5.drewN m) (by omega) hs1
          rw [HX.out, ← HU.out] at this; exact this
        have Q2 := Lib.hid q2; clear q2
        have Q3 := Lib.hid q3; clear q3
        generalize crcMore 0 (l.take dc) = s1 at *
        clear R5
        go_quiet ((first | (go_at_call 14; exact quiet (Q1.out _)) | (go_at_call 9; exact quiet (Q2.out _)) | (with_reducible exact quiet (Q3.out _)) | (with_reducible exact quiet (Q4.out _))))
        go_wp2_with fail
        go_ret
        exact ⟨rfl, below_drewN hb2 _⟩
      · have q2 : ∀ m, Calls Tryd.prog 9 #[.slice D half dc] (wr.drewN m) fun e w' => e = .returned (.int .u32 (crcMore 0 (l.take half) : Int)) ∧ wr.drewN m = w' := fun m =>
          of_any D half dc _ (wr.drewN m) (T3.out.drewN m) (R4.out.drewN m) (by omega)
        have q3 : ∀ m, Calls Tryd.prog 10 #[.int .u32 (crcMore 0 (l.take half) : Int), .slice (D.map fun x => x.add half) (l.length - half) (dc - half)] (wr.drewN m) fun e w' => e = .returned (.int .u32 (u : Int)) ∧ wr.drewN m = w' := fun m => by
          have h5 := R5.out
          rw [if_neg hdh] at h5
          have := more_any _ (l.length - half) (dc - half) _ _ (wr.drewN m) (T3.out.drewN m) (h5.drewN m) (by omega) hs1
          rw [HX.out, ← HU.out] at this; exact this
        have Q2 := Lib.hid q2; clear q2
        have Q3 := Lib.hid q3; clear q3
        generalize crcMore 0 (l.take half) = s1 at *
        clear R5
        go_quiet ((first | (go_at_call 14; exact quiet (Q1.out _)) | (go_at_call 9; exact quiet (Q2.out _)) | (with_reducible exact quiet (Q3.out _)) | (with_reducible exact quiet (Q4.out _))))
        go_wp2_with fail
        go_ret
        exact ⟨rfl, below_drewN hb2 _⟩
end Go.Proofs.YtnnlbnonffjjiaaDoor
