/- THE WALKS of the document's ring (heronref18): a list behind a pointer; sameInts. -/
import Derived.Test.YtckhmdeeddjkhaaRingInts
namespace Go.Proofs.Ytckhmdeeddjkhaa
open Go.RowKit
structure RF (w : World) (r N : Nat) (A : Option Addr) (m c : Nat) (q : List Int) : Prop where
  blk : Blk w r 62 #[.int .i64 (N : Int), .slice A m c]
  lst : RI w A m q
  mc : m ≤ c
  mx : c ≤ maxLen
  ne : ∀ k, 0 < m → ∀ ad, A = some ad → ad.block = k → k ≠ r
def inA (m : Nat) (A : Option Addr) : Nat → Prop := fun k => 0 < m ∧ ∃ ad, A = some ad ∧ ad.block = k
theorem RF.chg {S : Nat → Prop} {w w' : World} {r N m c : Nat} {A : Option Addr} {q : List Int} (h : RF w r N A m c q) (hc : Chg S w w') (hr : ¬ S r) (hA : ∀ k, inA m A k → ¬ S k) : RF w' r N A m c q :=
  ⟨h.blk.chg hc hr, h.lst.chg hc (fun hm ad e => hA _ ⟨hm, ad, e, rfl⟩), h.mc, h.mx, h.ne⟩
def RefNew (n : Nat) (w : World) (e : Ending) (w' : World) : Prop :=
  ∃ r, e = .returned (.tuple #[.pointer (some ⟨r, 0, none⟩), .int .i64 0]) ∧ w.heap.size ≤ r ∧ RF w' r n none 0 0 [] ∧ Below w.heap.size w w'
theorem rnew_ok (n : Nat) (w : World) (h1 : 1 ≤ n) (h64 : n ≤ 64) : Calls Try.prog 7 #[.int .i64 (n : Int)] w (RefNew n w) := by
  have hP : RefNew n w (.returned (.tuple #[.pointer (some ⟨w.heap.size, 0, none⟩), .int .i64 0])) (w.alloc (.cells #[.int .i64 (n : Int), .slice none 0 0] 62)) :=
    ⟨w.heap.size, rfl, Nat.le_refl _, ⟨Blk.new _ _ _ rfl, RI.nil _ _, Nat.le_refl _, Nat.zero_le _, fun _ h => absurd h (by omega)⟩, (Below.refl _ _).alloc (Nat.le_refl _) _⟩
  have HP := Lib.hid hP; clear hP
  go_enter Try.func7, Try.ntmps7
  go_wp2
  go_ret2
  exact HP.out
theorem rnew_bad (n : Int) (w : World) (h : n < 1 ∨ 64 < n) : Calls Try.prog 7 #[.int .i64 n] w fun e w' => e = .returned (.tuple #[.pointer none, .int .i64 1]) ∧ w = w' := by
  rcases h with h | h
  all_goals
    go_enter Try.func7, Try.ntmps7
    go_wp2
    go_ret2
    exact ⟨rfl, rfl⟩
theorem rpush_full (r N : Nat) (A : Option Addr) (m c : Nat) (q : List Int) (x : Int) (w : World) (h : RF w r N A m c q) (hq : q.length = N) :
    Calls Try.prog 24 #[.pointer (some ⟨r, 0, none⟩), .int .i64 x] w fun e w' => e = .returned (.int .i64 180) ∧ ∃ m, w' = w.drewN m := by
  have c0 : w.cell? ⟨r, 0, none⟩ = some (.int .i64 (N : Int)) := h.blk.cell 0
  have c1 : w.cell? ⟨r, 1, none⟩ = some (.slice A m c) := h.blk.cell 1
  have ht : ((m : Int) == (N : Int)) = true := by rw [beq_iff_eq]; have := h.lst.1; omega
  clear h hq
  go_enter Try.func24, Try.ntmps24
  go_wp2_with fail
  go_quiet (fail)
  go_wp2_with fail
  go_ret
  exact ⟨rfl, nq, rfl⟩
def RPushPost (r N m : Nat) (q : List Int) (w : World) (e : Ending) (w' : World) : Prop :=
  e = .returned (.int .i64 0) ∧ ∃ A' c', RF w' r N A' m c' q ∧ Chg (fun k => k = r) w w' ∧ ∀ k, inA m A' k → w.heap.size ≤ k
theorem rpush_ok (r N : Nat) (A : Option Addr) (m c : Nat) (q : List Int) (x : Int) (w : World) (h : RF w r N A m c q) (hq : q.length < N) (hN : N ≤ 64) :
    Calls Try.prog 24 #[.pointer (some ⟨r, 0, none⟩), .int .i64 x] w (RPushPost r N (m + 1) (q ++ [x]) w) := by
  have c0 : w.cell? ⟨r, 0, none⟩ = some (.int .i64 (N : Int)) := h.blk.cell 0
  have c1 : w.cell? ⟨r, 1, none⟩ = some (.slice A m c) := h.blk.cell 1
  have hm := h.lst.1
  have hmN : m < N := by omega
  have ht : ((m : Int) == (N : Int)) = false := by rw [beq_eq_false_iff_ne]; omega
  have HR := Lib.hid h
  have HM := Lib.hid hm
  clear h hq hm
  go_enter Try.func24, Try.ntmps24
  go_upto_region 3 with fail
  go_quiet (fail)
  go_upto_region 4 with fail
  have R1 : Hid (RF (w.drewN nq) r N A m c q) := Lib.hid (HR.out.chg ((Chg.refl (fun _ => False) w).drewN nq) id (fun _ _ => id))
  obtain ⟨w1, hw1⟩ : ∃ w1, w1 = w.drewN nq := ⟨_, rfl⟩
  have C1 : Hid (Chg (fun k => k = r) w w1) := Lib.hid (by rw [hw1]; exact (Chg.refl _ w).drewN nq)
  rw [← hw1] at R1 ⊢
  have d0 : w1.cell? ⟨r, 0, none⟩ = some (.int .i64 (N : Int)) := R1.out.blk.cell 0
  have d1 : w1.cell? ⟨r, 1, none⟩ = some (.slice A m c) := R1.out.blk.cell 1
  clear hw1 c0 c1
  have hbl := R1.out.blk.lt
  go_wp2_with ((at_builtin; go_must (refine append_ints rfl (.tmp 16) (.tmp 20) rfl w1.heap.size (.slice none 0 0) [] rfl (OI.nil _ _) A m c q rfl R1.out.lst (by simp; omega) (Nat.le_refl _) ?_); intro v2 w2 ho2 hg2 ha2; refine halt ?_))
  refine unhalt ?_
  rw [List.nil_append] at ho2
  have C2 : Hid (Chg (fun k => k = r) w w2) := Lib.hid (C1.out.grown hg2 (fun k e => by cases e))
  have B2 : Hid (Blk w2 r 62 #[.int .i64 (N : Int), .slice A m c]) := Lib.hid (R1.out.blk.grown hg2 (by intro e; cases e))
  have O2 : Hid (OI w2 w.heap.size v2 q) := Lib.hid (ho2.less C1.out.size)
  clear ho2 hg2 ha2 hbl d0 d1 R1 C1
  have hal : Below w2.heap.size w2 (w2.alloc (.cells #[.int .i64 x] 3)) := (Below.refl _ _).alloc (Nat.le_refl _) _
  have B3 := Lib.hid (B2.out.keep hal)
  have C3 : Hid (Chg (fun k => k = r) w (w2.alloc (.cells #[.int .i64 x] 3))) := Lib.hid (C2.out.alloc _)
  have O3 := Lib.hid (O2.out.keep hal)
  have N3 : Hid (RI (w2.alloc (.cells #[.int .i64 x] 3)) (some ⟨w2.heap.size, 0, none⟩) 1 [x]) := Lib.hid ⟨rfl, fun _ => ⟨_, _, rfl, by simp, fun j y hj => by
    match j, hj with
    | 0, hj => obtain rfl := Option.some.inj hj; exact (Blk.new w2 3 #[.int .i64 x] rfl).cell 0
    | j + 1, hj => simp at hj⟩⟩
  have hsz := C3.out.size
  clear hal B2 C2 O2
  go_upto_region 5 with fail
  obtain ⟨w3, hw3⟩ : ∃ w3, w3 = w2.alloc (.cells #[.int .i64 x] 3) := ⟨_, rfl⟩
  obtain ⟨b3, hb3⟩ : ∃ b3, b3 = w2.heap.size := ⟨_, rfl⟩
  rw [← hw3] at B3 C3 O3 N3 hsz
  rw [← hb3] at N3
  have HW3 := Lib.hid hw3; have HB3 := Lib.hid hb3
  clear hw3 hb3
  go_wp2_with ((at_builtin; rw [← HW3.out, ← HB3.out]; go_must (refine append_ints rfl (.tmp 23) (.tmp 25) rfl w.heap.size v2 q rfl O3.out (some ⟨b3, 0, none⟩) 1 1 [x] rfl N3.out (by rw [HM.out]; omega) hsz ?_); intro v4 w4 ho4 hg4 ha4; refine halt ?_))
  refine unhalt ?_
  have NE : Hid (v2.ownBlock ≠ some r) := Lib.hid (B3.out.apart O3.out (by decide))
  have B4 : Hid (Blk w4 r 62 #[.int .i64 (N : Int), .slice A m c]) := Lib.hid (B3.out.grown hg4 NE.out)
  have C4 : Hid (Chg (fun k => k = r) w w4) := Lib.hid (C3.out.grown hg4 (fun k e hk => by have := (O3.out.lt k e).1; omega))
  obtain ⟨A', c', rfl, hc1, hc2, hr4⟩ := ho4.form
  have hl : (q ++ [x]).length = m + 1 := by rw [List.length_append, HM.out]; rfl
  rw [hl] at hr4 ho4 ha4 hc1 ⊢
  have e1 := B4.out.frozen 1
  have e2 : w4.cell? ⟨r, 1, none⟩ = some (.slice A m c) := B4.out.cell 1
  have hF : RPushPost r N (m + 1) (q ++ [x]) w (.returned (.int .i64 0)) (w4.setCell ⟨r, 1, none⟩ (.slice A' (m + 1) c')) := by
    have hne : ∀ ad, A' = some ad → ad.block ≠ r := fun ad e => by
      subst e
      have := B4.out.apart ho4 (by decide)
      intro h
      exact this (by simp [Value.ownBlock, h])
    refine ⟨rfl, A', c', ⟨?_, hr4.chg ((Chg.refl (fun k => k = r) w4).setCell (p := ⟨r, 1, none⟩) (.inl rfl) _) (fun _ ad e => hne ad e), hc1, hc2, fun k _ ad e hk => hk ▸ hne ad e⟩, C4.out.setCell (p := ⟨r, 1, none⟩) (.inl rfl) _, fun k ⟨_, ad, e, hk⟩ => ?_⟩
    · have := B4.out.set_ 1 (.slice A' (m + 1) c')
      simpa using this
    · subst e
      have := (ho4.lt ad.block rfl).1
      omega
  have HF := Lib.hid hF
  clear hF hr4 ho4 hg4 ha4 B4 C4 NE B3 C3 O3 N3 HW3 HB3 hl hc1 hc2
  go_wp2_with fail
  go_ret
  exact HF.out
end Go.Proofs.Ytckhmdeeddjkhaa
