/- A disk in memory answers a follower (package follow); what the law's mod answers (package heronlaw17). -/
import Derived.Test.YtlojmmcagglpoaaZDisk
import Derived.Test.YtlojmmcagglpoaaZFwLaw
import Derived.Lib.ConvBytes
namespace Go.Proofs.Ytlojmmcagglpoaa
open Go.RowKit
theorem below_bytes (w : World) (e : TypeId) (s : ByteArray) : Below w.heap.size w (Lib.bytesWorld w e s) :=
  ⟨rfl, rfl, rfl, by rw [Lib.bytesWorld_size]; omega, fun k hk => Lib.bytesWorld_at_old w e s k hk⟩
theorem rb_bytes (w : World) (s : ByteArray) : RB (Lib.bytesWorld w 5 s) (some ⟨w.heap.size, 0, none⟩) s.size s.data.toList := by
  refine ⟨rfl, fun hp => ⟨w.heap.size, 0, rfl, by rw [Lib.bytesWorld_size]; omega, fun j c hj => ?_⟩⟩
  have hl := (List.getElem?_eq_some_iff.1 hj).1
  have hl' : s.data.toList.length = s.size := rfl
  rw [Nat.zero_add, Lib.bytesWorld_cell w _ s j (by omega)]
  simp [List.getD_eq_getElem?_getD, hj, byteV]
theorem conv_str (w : World) (l : List UInt8) : ∃ w' b c, (convert 9 46 (.string (strB l))).run Try.prog w = .ok (.slice (some ⟨b, 0, none⟩) l.length c) w' ∧ Below w.heap.size w w' ∧ RB w' (some ⟨b, 0, none⟩) l.length l :=
  ⟨_, _, _, Lib.run_convert_string_bytes (P := Try.prog) w 9 46 5 (strB l) Try.underlying9 Try.underlying46 Try.underlying5, below_bytes _ _ _, rb_bytes w (strB l)⟩
end Go.Proofs.Ytlojmmcagglpoaa
namespace Go.Proofs.Ytlojmmcagglpoaa
open Go.RowKit Go.Maps
section
variable {W : World} {N : Nat} {C : Nat → Nat} {c cd p n : Nat} {d : Dk}
theorem asks_dc (N : Nat) (C : Nat → Nat) (cd p n : Nat) (d : Dk) : Asks p (fun w => DC w N C cd p n d) d.sti d.ini d.read := by
  refine ⟨fun W nm h => ?_, fun W i hi h => ?_, fun W i g o s hi ho hs h => ?_⟩
  · refine (stat_g h nm).mono ?_
    rintro e w' ⟨rfl, hb⟩
    exact ⟨by rw [Dk.stat_sti]; rfl, hb⟩
  · refine (inode_c h i hi).mono ?_
    rintro e w' ⟨rfl, hb⟩
    exact ⟨by rw [Dk.inode_ini]; rfl, hb⟩
  · exact read_c h i g o s hi ho hs
theorem stay_dc (h : DC W N C cd p n d) (hc : cd ≠ c) : Stay W C c (fun w => DC w N C cd p n d) := fun _ hw => h.step hw (Sam.refl _ _) (fun _ hb e => hc (e.symm.trans hb))
end
theorem mod17 (k : Int) (n : Nat) (hn : 0 < n) (hn2 : n ≤ 1000000) (w : World) : Calls Try.prog 8 #[.int .i64 k, .int .i64 (n : Int)] w fun e w' => ∃ j : Nat, j < n ∧ e = .returned (.int .i64 (j : Int)) ∧ w' = w := by
  have hz : ((n : Int) == 0) = false := by rw [beq_eq_false_iff_ne]; omega
  have h1 := Int.tmod_lt_of_pos k (b := (n : Int)) (by omega)
  have h2 : -(n : Int) < k.tmod (n : Int) := by
    have := Int.tmod_lt_of_pos (-k) (b := (n : Int)) (by omega)
    rw [Int.neg_tmod] at this; omega
  obtain ⟨r, hr⟩ : ∃ r, r = k.tmod (n : Int) := ⟨_, rfl⟩
  rw [← hr] at h1 h2
  go_enter Try.func8, Try.ntmps8
  go_upto_region 2 with fail
  rw [← hr]
  clear hr
  by_cases h : r < 0
  · have hF : ∃ j : Nat, j < n ∧ (j : Int) = r + (n : Int) := ⟨(r + (n : Int)).toNat, by omega, by omega⟩
    obtain ⟨j, hj, he⟩ := hF
    go_wp2_with fail
    go_ret
    exact ⟨j, hj, by rw [he]; rfl, rfl⟩
  · obtain ⟨j, hj⟩ : ∃ j : Nat, r = (j : Int) := ⟨r.toNat, by omega⟩
    subst hj
    go_wp2_with fail
    go_ret
    exact ⟨j, by omega, rfl, rfl⟩
end Go.Proofs.Ytlojmmcagglpoaa
