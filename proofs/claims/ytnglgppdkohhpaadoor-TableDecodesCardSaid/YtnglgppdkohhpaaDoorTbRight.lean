/- THE WALKS of subset.within and subset.Right. -/
import Derived.Test.YtnglgppdkohhpaaDoorTbRow
import Derived.Deep.CutBlock
import Derived.Outline
import Derived.Deep.QuietTactic
import Derived.BigQuiet
namespace Go.Proofs.YtnglgppdkohhpaaDoor
open Go.RowKit
def subB (a b : Nat) : Bool := decide (a &&& b = a)
theorem andNot_zero (x y : Nat) (hx : x < 4294967296) (_ : y < 4294967296) : (bits BinOp.andNot IntKind.u32 (x : Int) (y : Int) == 0) = subB x y := by
  have ex : BitVec.ofInt 32 (x : Int) = BitVec.ofNat 32 x := by simp
  have ey : BitVec.ofInt 32 (y : Int) = BitVec.ofNat 32 y := by simp
  have e : (bits BinOp.andNot IntKind.u32 (x : Int) (y : Int)) = ((BitVec.ofNat 32 x &&& ~~~BitVec.ofNat 32 y).toNat : Int) := by
    show IntKind.u32.wrap _ = _
    rw [show IntKind.u32.bits = 32 from rfl, ex, ey]
    have := (BitVec.ofNat 32 x &&& ~~~BitVec.ofNat 32 y).isLt
    generalize (BitVec.ofNat 32 x &&& ~~~BitVec.ofNat 32 y).toNat = z at *
    simp [IntKind.wrap, IntKind.bits, IntKind.signed]
    omega
  have g : ∀ (v i : Nat) (hi : i < 32), (BitVec.ofNat 32 v)[i] = v.testBit i := fun v i hi => by rw [← BitVec.getLsbD_eq_getElem, BitVec.getLsbD_ofNat]; simp [hi]
  rw [e]
  unfold subB
  rw [Bool.eq_iff_iff, beq_iff_eq, decide_eq_true_iff]
  rw [show ((BitVec.ofNat 32 x &&& ~~~BitVec.ofNat 32 y).toNat : Int) = 0 ↔ BitVec.ofNat 32 x &&& ~~~BitVec.ofNat 32 y = 0#32 from ⟨fun h => BitVec.eq_of_toNat_eq (by simpa using h), fun h => by rw [h]; rfl⟩]
  constructor
  · intro h
    apply Nat.eq_of_testBit_eq
    intro i
    rw [Nat.testBit_and]
    by_cases hi : i < 32
    · have := congrArg (fun v => v.getLsbD i) h
      simp [hi, g] at this
      cases h1 : x.testBit i <;> simp_all
    · have : x.testBit i = false := Nat.testBit_lt_two_pow (Nat.lt_of_lt_of_le hx (by rw [show (4294967296 : Nat) = 2 ^ 32 from rfl]; exact Nat.pow_le_pow_right (by decide) (by omega)))
      rw [this]; rfl
  · intro h
    apply BitVec.eq_of_getLsbD_eq
    intro i hi
    have := congrArg (fun v => v.testBit i) h
    simp only [Nat.testBit_and] at this
    simp [hi, g]
    intro h1
    rw [h1] at this
    simpa using this
def withinB (t : Tb) (x : Nat) (n : Int) : Bool := decide (0 ≤ n ∧ n < (t.nx.length : Int)) && subB x (t.fo.getD n.toNat 0)
set_option maxHeartbeats 1000000 in
theorem within_any (cs : Array Value) (t : Tb) (x : Nat) (n : Int) (w : World) (h : TB w cs t) (hl : t.fo.length = t.nx.length) (hx : x < 4294967296) :
    Calls Tryd.prog 32 #[.agg cs, .int .u32 (x : Int), .int .i64 n] w fun e w' => e = .returned (.bool (withinB t x n)) ∧ Below w.heap.size w w' := by
  have D := Lib.hid (DX.new h)
  obtain ⟨An, cn, Af, cf, Ae, ce, c1, c2, c3, l1, l2, l3, r1, r2, r3⟩ := D.out.open_
  have hb : Below w.heap.size w (w.alloc (.cells cs 26)) := (Below.refl _ _).alloc (Nat.le_refl _) _
  have HB := Lib.hid hb
  obtain ⟨m, hm⟩ : ∃ m, m = t.nx.length := ⟨_, rfl⟩
  have hm2 : t.fo.length = m := by omega
  rw [← hm] at c1
  rw [hm2] at c2 r2
  obtain ⟨w1, hw1⟩ : ∃ w1, w1 = w.alloc (.cells cs 26) := ⟨_, rfl⟩
  obtain ⟨b, hbb⟩ : ∃ b, b = w.heap.size := ⟨_, rfl⟩
  have R2 := Lib.hid r2
  have HM := Lib.hid (And.intro hm hm2)
  have HU := Lib.hid h.hu
  clear r1 r2 r3 h hb hm2 hm c3 l1 l2 l3 hl
  go_enter Tryd.func32, Tryd.ntmps32
  go_upto_region 1 with fail
  rw [← hw1] at c1 c2 R2 HB ⊢
  rw [← hbb] at c1 c2 ⊢
  have HB2 : Hid (∃ k, k = w.heap.size ∧ Below k w w1) := Lib.hid ⟨_, rfl, HB.out⟩
  clear hw1 hbb D HB
  by_cases h0 : 0 ≤ n
  · by_cases h1 : n < (m : Int)
    · obtain ⟨k, rfl⟩ := Int.eq_ofNat_of_zero_le h0
      have hk : k < m := by omega
      obtain ⟨b2, off, rfl, hb2, y, hy, c4⟩ := R2.out.at_ hk
      simp only [uV] at c4
      have HY := Lib.hid hy
      clear hy
      have hyb : y < 4294967296 := HU.out.1 y (List.mem_of_getElem? HY.out)
      have hbit := andNot_zero x y hx hyb
      go_wp2_with fail
      go_ret
      obtain ⟨k2, rfl, hbw⟩ := HB2.out
      refine ⟨?_, hbw⟩
      unfold withinB
      rw [← HM.out.1, decide_eq_true ⟨h0, h1⟩, List.getD_eq_getElem?_getD, Int.toNat_natCast, HY.out]
      rfl
    · go_wp2_with fail
      go_ret
      obtain ⟨k2, rfl, hbw⟩ := HB2.out
      refine ⟨?_, hbw⟩
      unfold withinB
      rw [← HM.out.1, decide_eq_false (fun e => by omega)]
      rfl
  · go_wp2_with fail
    go_ret
    obtain ⟨k2, rfl, hbw⟩ := HB2.out
    refine ⟨?_, hbw⟩
    unfold withinB
    rw [decide_eq_false (fun e => by omega)]
    rfl
def many (t : Tb) : Nat := (t.nx.headD []).length
structure Fits (t : Tb) : Prop where
  n1 : 1 ≤ t.nx.length
  n2 : t.nx.length ≤ 4096
  f : t.fo.length = t.nx.length
  e : t.en.length = t.nx.length
  m1 : 1 ≤ many t
  m2 : many t ≤ 256
  c : ∀ (j : Nat) (x : Int), t.cls[j]? = some x → 0 ≤ x ∧ x < (many t : Int)
  r : ∀ (s : Nat) (l : List Int), t.nx[s]? = some l → l.length = many t ∧ subB (t.fo.getD s 0) (t.en.getD s 0) = true ∧ ∀ (k : Nat) (x : Int), l[k]? = some x → withinB t (t.fo.getD s 0) x = true
open Classical in
noncomputable def rightB (t : Tb) : Bool := decide (Fits t)
theorem rightB_true {t : Tb} (h : Fits t) : rightB t = true := by unfold rightB; simp [h]
theorem rightB_false {t : Tb} (h : ¬ Fits t) : rightB t = false := by unfold rightB; simp [h]
theorem fits_of {t : Tb} (h : rightB t = true) : Fits t := by unfold rightB at h; simpa using h
def RightP (b : Bool) (w : World) (e : Ending) (w' : World) : Prop := e = .returned (.bool b) ∧ Below w.heap.size w w'
set_option maxHeartbeats 1000000 in
theorem right_len (cs : Array Value) (t : Tb) (w : World) (h : TB w cs t) (hbad : t.nx.length < 1 ∨ 4096 < t.nx.length ∨ t.fo.length ≠ t.nx.length ∨ t.en.length ≠ t.nx.length) :
    Calls Tryd.prog 19 #[.agg cs] w (RightP false w) := by
  have D := Lib.hid (DX.new h)
  obtain ⟨An, cn, Af, cf, Ae, ce, c1, c2, c3, l1, l2, l3, r1, r2, r3⟩ := D.out.open_
  have hb : Below w.heap.size w (w.alloc (.cells cs 26)) := (Below.refl _ _).alloc (Nat.le_refl _) _
  have HB := Lib.hid hb
  obtain ⟨w1, hw1⟩ : ∃ w1, w1 = w.alloc (.cells cs 26) := ⟨_, rfl⟩
  obtain ⟨b, hbb⟩ : ∃ b, b = w.heap.size := ⟨_, rfl⟩
  obtain ⟨n, hn⟩ : ∃ n, n = t.nx.length := ⟨_, rfl⟩
  obtain ⟨nf, hnf⟩ : ∃ n, n = t.fo.length := ⟨_, rfl⟩
  obtain ⟨ne, hne⟩ : ∃ n, n = t.en.length := ⟨_, rfl⟩
  rw [← hn] at c1 hbad
  rw [← hnf] at c2 hbad
  rw [← hne] at c3 hbad
  have HBAD := Lib.hid hbad
  clear r1 r2 r3 h hb l1 l2 l3 hn hnf hne hbad
  go_enter Tryd.func19, Tryd.ntmps19
  go_upto_region 1 with fail
  rw [← hw1] at c1 c2 c3 HB ⊢
  rw [← hbb] at c1 c2 c3 ⊢
  have HB2 : Hid (∃ k, k = w.heap.size ∧ Below k w w1) := Lib.hid ⟨_, rfl, HB.out⟩
  clear hw1 hbb D HB
  by_cases h1 : n < 1
  · obtain rfl : n = 0 := by omega
    go_wp2_with fail
    go_ret
    obtain ⟨k2, rfl, hbw⟩ := HB2.out
    exact ⟨rfl, hbw⟩
  by_cases h2 : 4096 < n
  · go_wp2_with fail
    go_ret
    obtain ⟨k2, rfl, hbw⟩ := HB2.out
    exact ⟨rfl, hbw⟩
  by_cases h3 : nf = n
  · subst h3
    have h4 : ¬ ne = nf := by have := HBAD.out; omega
    have h4b : ((ne : Int) != (nf : Int)) = true := by rw [bne_iff_ne]; omega
    go_wp2_with fail
    go_ret
    obtain ⟨k2, rfl, hbw⟩ := HB2.out
    exact ⟨rfl, hbw⟩
  · have h4b : ((nf : Int) != (n : Int)) = true := by rw [bne_iff_ne]; omega
    go_wp2_with fail
    go_ret
    obtain ⟨k2, rfl, hbw⟩ := HB2.out
    exact ⟨rfl, hbw⟩
set_option maxHeartbeats 1000000 in
theorem right_many (cs : Array Value) (t : Tb) (w : World) (h : TB w cs t) (h1 : 1 ≤ t.nx.length) (h2 : t.nx.length ≤ 4096) (h3 : t.fo.length = t.nx.length) (h4 : t.en.length = t.nx.length) (hbad : many t < 1 ∨ 256 < many t) :
    Calls Tryd.prog 19 #[.agg cs] w (RightP false w) := by
  have D := Lib.hid (DX.new h)
  obtain ⟨An, cn, Af, cf, Ae, ce, c1, c2, c3, l1, l2, l3, r1, r2, r3⟩ := D.out.open_
  have hb : Below w.heap.size w (w.alloc (.cells cs 26)) := (Below.refl _ _).alloc (Nat.le_refl _) _
  have HB := Lib.hid hb
  obtain ⟨w1, hw1⟩ : ∃ w1, w1 = w.alloc (.cells cs 26) := ⟨_, rfl⟩
  obtain ⟨b, hbb⟩ : ∃ b, b = w.heap.size := ⟨_, rfl⟩
  obtain ⟨n, hn⟩ : ∃ n, n = t.nx.length := ⟨_, rfl⟩
  rw [← hn] at c1 r1 h1 h2
  rw [h3, ← hn] at c2
  rw [h4, ← hn] at c3
  obtain ⟨b2, off, rfl, hb2, l, A', c', hl, hlc, c4, r4⟩ := r1.at_ (k := 0) (by omega)
  have hm : l.length = many t := by
    unfold many
    cases hx : t.nx with
    | nil => rw [hx] at hl; simp at hl
    | cons x xs => rw [hx] at hl; simp at hl; rw [hl]; rfl
  rw [hm] at c4
  rw [Nat.add_zero] at c4
  obtain ⟨m, hmm⟩ : ∃ m, m = many t := ⟨_, rfl⟩
  rw [← hmm] at c4 hbad
  clear r1 r2 r3 h hb l1 l2 l3 hn h3 h4 r4 hm hl hlc hmm hb2
  go_enter Tryd.func19, Tryd.ntmps19
  go_upto_region 1 with fail
  rw [← hw1] at c1 c2 c3 c4 HB ⊢
  rw [← hbb] at c1 c2 c3 ⊢
  have HB2 : Hid (∃ k, k = w.heap.size ∧ Below k w w1) := Lib.hid ⟨_, rfl, HB.out⟩
  clear hw1 hbb D HB
  rcases hbad with hbad | hbad
  · obtain rfl : m = 0 := by omega
    go_wp2_with fail
    go_ret
    obtain ⟨k2, rfl, hbw⟩ := HB2.out
    exact ⟨rfl, hbw⟩
  · go_wp2_with fail
    go_ret
    obtain ⟨k2, rfl, hbw⟩ := HB2.out
    exact ⟨rfl, hbw⟩
end Go.Proofs.YtnglgppdkohhpaaDoor
