/- THE WALKS of the law's full and bears; both Encodes as one contract. -/
import Derived.Test.YtpeaacbbfkanmaaDoorCkptHelp
import Derived.Test.YtpeaacbbfkanmaaDoorCkptSet
import Derived.Test.YtpeaacbbfkanmaaDoorCkptRefF
namespace Go.Proofs.YtpeaacbbfkanmaaDoor
open Go.RowKit
theorem full_any (A : Option Addr) (n cap : Nat) (l : List UInt8) (x : UInt8) (w : World) (hl : RB w A n l) (hx : ∀ c ∈ l, c = x) (hn : n ≤ 140737488355328) :
    Calls Tryd.prog 11 #[.slice A n cap, .int .u8 (x.toNat : Int)] w fun e w' => e = .returned (.bool true) ∧ w = w' := by
  have HL := Lib.hid hl; have HX := Lib.hid hx; clear hl hx
  go_enter Tryd.func11, Tryd.ntmps11
  go_wp2_with fail
  go_loop [8] (fun i => ∃ k : Nat, k ≤ n ∧ i = .int .i64 k) (fun i => n - (intOf i).toNat)
  case atStart => exact ⟨0, Nat.zero_le _, rfl⟩
  case round =>
    obtain ⟨k, hk, rfl⟩ := hrel
    by_cases hlt : k < n
    · obtain ⟨b, off, rfl, hb, c, hc, hcell⟩ := HL.out.at_ hlt
      obtain rfl := HX.out c (List.mem_of_getElem? hc)
      clear hc
      go_wp2_with fail
      go_round
      case rel => exact ⟨k + 1, by omega, by go_num⟩
      case measure => simp [intOf]; omega
    · go_wp2_with fail
      go_ret
      exact ⟨rfl, rfl⟩
def offM (x : Int) : Mk := ⟨0, 0, 0, x, 0, 0, 0, 0, 0⟩
theorem bears_any (A : Option Addr) (n cap : Nat) (l : List Mk) (x : Int) (w : World) (hl : MS w A n l) (hx : ∀ m ∈ l, m = offM x) (hn : n ≤ 1048576) (_hc : n ≤ cap) :
    Calls Tryd.prog 14 #[.slice A n cap, .int .i64 x] w fun e w' => e = .returned (.bool true) ∧ w = w' := by
  have HL := Lib.hid hl; have HX := Lib.hid hx; clear hl hx
  have hq := guard_marks
  have he := neq_marks (offM x) (offM x)
  rw [(eqM_iff _ _).2 rfl] at he
  unfold offM Mk.cells at he
  go_enter Tryd.func14, Tryd.ntmps14
  go_wp2_with fail
  go_loop [8] (fun i => ∃ k : Nat, k ≤ n ∧ i = .int .i64 k) (fun i => n - (intOf i).toNat)
  case atStart => exact ⟨0, Nat.zero_le _, rfl⟩
  case round =>
    obtain ⟨k, hk, rfl⟩ := hrel
    by_cases hlt : k < n
    · obtain ⟨bb, off, m, rfl, hbb, hm, c0, c1, c2, c3, c4, c5, c6, c7, c8⟩ := HL.out.at_ hlt
      obtain rfl := HX.out m (List.mem_of_getElem? hm)
      unfold offM at c0 c1 c2 c3 c4 c5 c6 c7 c8
      clear hm
      go_wp2_with fail
      go_round
      case rel => exact ⟨k + 1, by omega, by go_num⟩
      case measure => simp [intOf]; omega
    · go_wp2_with fail
      go_ret
      exact ⟨rfl, rfl⟩
/-- what both Encodes answer -/
def encR (l : List Mk) : List UInt8 := if mayB l = true then encB l else []
def errR (l : List Mk) : Int := if mayB l = true then 0 else 1
def AllPost (l : List Mk) (w : World) (e : Ending) (w' : World) : Prop :=
  ∃ v, e = .returned (.tuple #[v, .int .i64 (errR l)]) ∧ OB w' w.heap.size v (encR l) ∧ Below w.heap.size w w'
theorem encR_len (l : List Mk) : (encR l).length ≤ 600 := by
  unfold encR
  split
  · rename_i h
    have := (mayB_parts h).2.2
    rw [encB_length]; omega
  · simp
theorem enc_all (A : Option Addr) (n cap : Nat) (l : List Mk) (w : World) (hT : CrcTab w) (hl : MS w A n l) (hcap : n ≤ cap) (hn : n ≤ 1048576) :
    Calls Tryd.prog 9 #[.slice A n cap] w (AllPost l w) := by
  cases hm : mayB l with
  | true =>
    refine (encode_ok A n cap l w hT hl hcap hm).mono ?_
    intro e w' hp
    obtain ⟨v, rfl, ho, hb⟩ := hp
    exact ⟨v, by unfold errR; rw [if_pos hm], by unfold encR; rw [if_pos hm]; exact ho, hb⟩
  | false =>
    refine (encode_bad A n cap l w hl hcap hn hm).mono ?_
    rintro e w' ⟨rfl, hb⟩
    exact ⟨_, by unfold errR; rw [if_neg (by rw [hm]; decide)], by unfold encR; rw [if_neg (by rw [hm]; decide)]; exact OB.nil _ _, hb⟩
theorem refEnc_all (A : Option Addr) (n cap : Nat) (l : List Mk) (w : World) (hl : MS w A n l) (hcap : n ≤ cap) (hn : n ≤ 1048576) :
    Calls Tryd.prog 8 #[.slice A n cap] w (AllPost l w) := by
  cases hm : mayB l with
  | true =>
    refine (refEnc_ok A n cap l w hl hcap hm).mono ?_
    intro e w' hp
    obtain ⟨v, rfl, ho, hb⟩ := hp
    exact ⟨v, by unfold errR; rw [if_pos hm], by unfold encR; rw [if_pos hm]; exact ho, hb⟩
  | false =>
    refine (refEnc_bad A n cap l w hl hcap hn hm).mono ?_
    rintro e w' ⟨rfl, hb⟩
    exact ⟨_, by unfold errR; rw [if_neg (by rw [hm]; decide)], by unfold encR; rw [if_neg (by rw [hm]; decide)]; exact OB.nil _ _, hb⟩
/-- no block is shared -/
def Apt (v v' : Value) : Prop := ∀ k, v.ownBlock = some k → v'.ownBlock ≠ some k
theorem Apt.symm {v v' : Value} (h : Apt v v') : Apt v' v := fun k hk hk' => h k hk' hk
theorem apt_later {w w' : World} {base base' : Nat} {v v' : Value} {l l' : List UInt8} (h : OB w base v l) (h' : OB w' base' v' l') (hb : w.heap.size ≤ base') : Apt v v' := fun k hk hk' => by
  have := (h.lt k hk).2
  have := (h'.lt k hk').1
  omega
theorem apt_fresh {W : World} {v v' y : Value} (hf : FreshV W v v') (h : Apt v y) (hy : ∀ k, y.ownBlock = some k → k < W.heap.size) : Apt v' y := fun k hk hk' => by
  rcases hf k hk with h1 | h1
  · exact h k h1 hk'
  · have := hy k hk'; omega
/-- the two numbers that the law turns -/
def turnM (m : Mk) : Mk := (m.put 3 (bits .xor .i64 m.a3 5)).put 8 (bits .xor .i64 m.a8 1099511627776)
end Go.Proofs.YtpeaacbbfkanmaaDoor
