/- THE WALK of package follow's read (printed by a program of ours). -/
import Derived.Test.YtlojmmcagglpoaaGreatUTk
import Derived.Test.YtlojmmcagglpoaaGreatUFwTurn
import Derived.Deep.QuietTactic
import Derived.BigQuiet
namespace Go.Proofs.YtlojmmcagglpoaaGreat
open Go.RowKit Go.Maps
attribute [local go_sem ↓] Go.wp_at_zero Go.wp_at_succ
theorem quietF {P : Program} {f : FuncId} {args : Array Value} {w : World} {n : Nat} {v : Value} (h : Calls P f args (w.drewN n) fun e w' => e = .returned v ∧ w.drewN n = w') :
    Calls P f args (w.drewN n) fun e w'' => e = .returned v ∧ ∃ m, w'' = w.drewN m := h.mono fun _ _ ⟨he, hw⟩ => ⟨he, n, hw.symm⟩
theorem MK.drewN {w : World} {g : Nat} {v : Value} {most long : Nat} {u : List UInt8} (h : MK w g v most u long) (n : Nat) : MK (w.drewN n) g v most u long := ⟨h.blk.drewN n, h.own⟩
def lineA (f : FwS) (tx : ByteArray) : Array Value := #[.int .i64 f.se, .int .i64 f.ino, .int .i64 f.ge, .int .i64 f.off, .int .i64 f.mi, .int .i64 f.go, .int .i64 f.cu, .int .i64 f.ta, .int .i64 f.lo, .string tx]
def nlB (l : List UInt8) : Bool := decide (upN l < l.length)
def FwS.readF (f : FwS) (line : Nat) (l : List UInt8) : FwS :=
  { f with u := feedU f.u l, lc := feedL line f.lc f.u l, off := if nlB l = true then f.off + ((f.u.length : Int) + (feedN l : Int)) else f.off, lo := if nlB l = true then upv f.lo ((feedL line f.lc f.u l : Int) - (f.lc : Int)) else f.lo }
theorem upN_10 : ∀ {l : List UInt8}, upN l < l.length → l[upN l]? = some 10
  | [], h => by simp at h
  | x :: l, h => by
    by_cases e : x = 10
    · subst e
      have h0 : upN (10 :: l) = 0 := by unfold upN; simp []
      rw [h0]; rfl
    · have hne : (x != 10) = true := by simpa using e
      have h0 : upN (x :: l) = upN l + 1 := by unfold upN; simp [hne]
      rw [h0] at h ⊢
      simp only [List.length_cons] at h
      rw [List.getElem?_cons_succ]
      exact upN_10 (by omega)
theorem upN_no : ∀ {l : List UInt8} {j : Nat} {x : UInt8}, j < upN l → l[j]? = some x → x ≠ 10
  | [], j, x, _, h => by simp at h
  | y :: l, j, x, hj, h => by
    by_cases e : y = 10
    · subst e
      have h0 : upN (10 :: l) = 0 := by unfold upN; simp []
      omega
    · have hne : (y != 10) = true := by simpa using e
      have h0 : upN (y :: l) = upN l + 1 := by unfold upN; simp [hne]
      cases j with
      | zero => obtain rfl := Option.some.inj h; exact e
      | succ j =>
        rw [List.getElem?_cons_succ] at h
        exact upN_no (by omega) h
set_option maxHeartbeats 2000000 in
theorem Blk.line {w : World} {r : Nat} {b0 b1 b2 b3 b4 b5 b6 b7 b8 b9 : Value} (h : Blk w r 170 #[b0, b1, b2, b3, b4, b5, b6, b7, b8, b9]) (a0 a1 a2 a3 a4 a5 a6 a7 a8 : Int) (tx : ByteArray) : Blk ((((((((((w.setCell ⟨r, 0, none⟩ (.int .i64 a0)).setCell ⟨r, 1, none⟩ (.int .i64 a1)).setCell ⟨r, 2, none⟩ (.int .i64 a2)).setCell ⟨r, 3, none⟩ (.int .i64 a3)).setCell ⟨r, 4, none⟩ (.int .i64 a4)).setCell ⟨r, 5, none⟩ (.int .i64 a5)).setCell ⟨r, 6, none⟩ (.int .i64 a6)).setCell ⟨r, 7, none⟩ (.int .i64 a7)).setCell ⟨r, 8, none⟩ (.int .i64 a8)).setCell ⟨r, 9, none⟩ (.string tx)) r 170 #[.int .i64 a0, .int .i64 a1, .int .i64 a2, .int .i64 a3, .int .i64 a4, .int .i64 a5, .int .i64 a6, .int .i64 a7, .int .i64 a8, .string tx] ∧ Chg (fun b => b = r) w ((((((((((w.setCell ⟨r, 0, none⟩ (.int .i64 a0)).setCell ⟨r, 1, none⟩ (.int .i64 a1)).setCell ⟨r, 2, none⟩ (.int .i64 a2)).setCell ⟨r, 3, none⟩ (.int .i64 a3)).setCell ⟨r, 4, none⟩ (.int .i64 a4)).setCell ⟨r, 5, none⟩ (.int .i64 a5)).setCell ⟨r, 6, none⟩ (.int .i64 a6)).setCell ⟨r, 7, none⟩ (.int .i64 a7)).setCell ⟨r, 8, none⟩ (.int .i64 a8)).setCell ⟨r, 9, none⟩ (.string tx)) := by
  have h1 := ((((((((((h.set_ 0 (.int .i64 a0)).set_ 1 (.int .i64 a1)).set_ 2 (.int .i64 a2)).set_ 3 (.int .i64 a3)).set_ 4 (.int .i64 a4)).set_ 5 (.int .i64 a5)).set_ 6 (.int .i64 a6)).set_ 7 (.int .i64 a7)).set_ 8 (.int .i64 a8)).set_ 9 (.string tx))
  simp only [List.setIfInBounds_toArray, List.set_cons_zero, List.set_cons_succ] at h1
  refine ⟨h1, ?_⟩
  exact (((((((((((Chg.refl (fun b => b = r) w).setCell (.inl rfl) _).setCell (.inl rfl) _).setCell (.inl rfl) _).setCell (.inl rfl) _).setCell (.inl rfl) _).setCell (.inl rfl) _).setCell (.inl rfl) _).setCell (.inl rfl) _).setCell (.inl rfl) _).setCell (.inl rfl) _)
theorem Blk.line0 {w : World} {r : Nat} {b0 b1 b2 b3 b4 b5 b6 b7 b8 b9 : Value} (h : Blk w r 170 #[b0, b1, b2, b3, b4, b5, b6, b7, b8, b9]) : Blk ((((((((((w.setCell ⟨r, 0, none⟩ (.int .i64 0)).setCell ⟨r, 1, none⟩ (.int .i64 0)).setCell ⟨r, 2, none⟩ (.int .i64 0)).setCell ⟨r, 3, none⟩ (.int .i64 0)).setCell ⟨r, 4, none⟩ (.int .i64 0)).setCell ⟨r, 5, none⟩ (.int .i64 0)).setCell ⟨r, 6, none⟩ (.int .i64 0)).setCell ⟨r, 7, none⟩ (.int .i64 0)).setCell ⟨r, 8, none⟩ (.int .i64 0)).setCell ⟨r, 9, none⟩ (.string { data := #[] })) r 170 zeroL ∧ Chg (fun b => b = r) w ((((((((((w.setCell ⟨r, 0, none⟩ (.int .i64 0)).setCell ⟨r, 1, none⟩ (.int .i64 0)).setCell ⟨r, 2, none⟩ (.int .i64 0)).setCell ⟨r, 3, none⟩ (.int .i64 0)).setCell ⟨r, 4, none⟩ (.int .i64 0)).setCell ⟨r, 5, none⟩ (.int .i64 0)).setCell ⟨r, 6, none⟩ (.int .i64 0)).setCell ⟨r, 7, none⟩ (.int .i64 0)).setCell ⟨r, 8, none⟩ (.int .i64 0)).setCell ⟨r, 9, none⟩ (.string { data := #[] })) := h.line 0 0 0 0 0 0 0 0 0 _
theorem feedL_le (line lc : Nat) (u l : List UInt8) : lc ≤ feedL line lc u l ∧ feedL line lc u l ≤ lc + 1 := by unfold feedL; split <;> omega
set_option maxRecDepth 20000 in
set_option maxHeartbeats 4000000 in
theorem fw_read_no {W : World} {C : Nat → Nat} {c rb p : Nat} {k : FwK} {f : FwS} {D : World → Prop} {S : List UInt8 → T5} {I : Int → T5} {R : Int → Int → Int → Int → List UInt8 × Int} (h : FwR W C c rb k f) (ha : Asks p D S I R) (hD : Stay W C c D) (hf : f.Ok) (hch : okInt k.ch) (hul : f.u.length ≤ 100000000) (hq : (R f.ino f.ge (f.off + (f.u.length : Int)) k.ch).2 ≠ 0 ∨ ((R f.ino f.ge (f.off + (f.u.length : Int)) k.ch).2 = 0 ∧ (R f.ino f.ge (f.off + (f.u.length : Int)) k.ch).1 = [])) : Calls Tryz.prog 128 #[.pointer (some ⟨rb, 0, none⟩), .pointer (some ⟨p, 0, none⟩)] W (TurnQ W C c rb k f zeroL false false) := by
  obtain ⟨w1, hw1⟩ : ∃ w1, w1 = W.alloc (.cells zeroL 170) := ⟨_, rfl⟩
  obtain ⟨r, hr⟩ : ∃ r, r = W.heap.size := ⟨_, rfl⟩
  have B1 : Hid (Below W.heap.size W w1) := Lib.hid (by rw [hw1]; exact (Below.refl _ _).alloc (Nat.le_refl _) _)
  have K1 : Hid (Blk w1 r 170 zeroL) := Lib.hid (by rw [hw1]; exact Blk.new W _ _ hr)
  have HR : Hid (W.heap.size ≤ r) := Lib.hid (by omega)
  have Q1 : Hid (FwQ W C c rb k f w1) := Lib.hid ((FwQ.refl h).below B1.out)
  have HA := Lib.hid ha
  have HD := Lib.hid hD
  have HF := Lib.hid hf
  have HCH := Lib.hid hch
  obtain ⟨L, hL⟩ : ∃ L, L = f.u.length := ⟨_, rfl⟩
  have HL := Lib.hid hL
  have HUL : Hid (L ≤ 100000000) := Lib.hid (by rw [hL]; exact hul)
  obtain ⟨⟨l, er⟩, hy⟩ : ∃ y, y = R f.ino f.ge (f.off + (L : Int)) k.ch := ⟨_, rfl⟩
  rw [← hL, ← hy] at hq
  have HY := Lib.hid hy
  have HQ := Lib.hid hq
  obtain ⟨mb, v, y9, hm, _⟩ := Q1.out.1.maker
  have HMK := Lib.hid hm
  have hw := IntWalk.i64_in (f.off + (L : Int)) (by have := hf.off.1; have := hf.off.2; omega)
  have HW := Lib.hid hw
  have HY9 : Hid (w1.cell? ⟨rb, 9, none⟩ = some (.pointer (some ⟨mb, 0, none⟩))) := Lib.hid y9
  have HT : Hid (∀ w, Below w1.heap.size w1 w → (fun w' => w'.cell? ⟨rb, 1, none⟩ = some (.int .i64 f.ino) ∧ w'.cell? ⟨rb, 2, none⟩ = some (.int .i64 f.ge) ∧ w'.cell? ⟨rb, 3, none⟩ = some (.int .i64 f.off) ∧ w'.cell? ⟨rb, 9, none⟩ = some (.pointer (some ⟨mb, 0, none⟩)) ∧ w'.cell? ⟨rb, 12, none⟩ = some (.int .i64 k.ch)) w) := Lib.hid (fun w hb => ⟨(Q1.out.below hb).1.cells.2.1, (Q1.out.below hb).1.cells.2.2.1, (Q1.out.below hb).1.cells.2.2.2.1, cell_later hb HY9.out, (Q1.out.below hb).1.cells.2.2.2.2.2.2.2.2.2.2.2⟩)
  clear h ha hD hf hch hul hL hy hq hm hw y9
  go_enter Tryz.func128, Tryz.ntmps128
  go_upto_region 1 with fail
  unfold zeroL at hw1
  rw [← hw1, ← hr]
  clear hw1 hr
  refine wp_region_any (by kernel_rfl) ?_
  change wpAny _ _ _ _ _ _ _ (World.drew _)
  refine wpAny_of_held (S := fun w' => w'.cell? ⟨rb, 1, none⟩ = some (.int .i64 f.ino) ∧ w'.cell? ⟨rb, 2, none⟩ = some (.int .i64 f.ge) ∧ w'.cell? ⟨rb, 3, none⟩ = some (.int .i64 f.off) ∧ w'.cell? ⟨rb, 9, none⟩ = some (.pointer (some ⟨mb, 0, none⟩)) ∧ w'.cell? ⟨rb, 12, none⟩ = some (.int .i64 k.ch)) _ _ _ _ ?_
  obtain ⟨w2, hw2⟩ : ∃ w2, w2 = w1.drew := ⟨_, rfl⟩
  have B2 : Hid (Below w1.heap.size w1 w2) := Lib.hid (by rw [hw2]; exact (Below.refl _ _).drew)
  have CB := Lib.hid (begun_any mb v k.line _ _ w2 (by rw [hw2]; exact HMK.out.drewN 1))
  rw [← HL.out] at CB
  have CR := Lib.hid (HA.out.read w2 f.ino f.ge (f.off + (L : Int)) k.ch (inM_ok HF.out.ino) ⟨by have := HF.out.off.1; omega, by have := HF.out.off.2; have := HUL.out; omega⟩ HCH.out (HD.out w2 (Chg.of_below (B1.out.trans (B2.out.mono B1.out.size)) _)))
  rw [← HY.out] at CR
  rw [← hw2]
  clear hw2
  have hHeld : (fun w' => w'.cell? ⟨rb, 1, none⟩ = some (.int .i64 f.ino) ∧ w'.cell? ⟨rb, 2, none⟩ = some (.int .i64 f.ge) ∧ w'.cell? ⟨rb, 3, none⟩ = some (.int .i64 f.off) ∧ w'.cell? ⟨rb, 9, none⟩ = some (.pointer (some ⟨mb, 0, none⟩)) ∧ w'.cell? ⟨rb, 12, none⟩ = some (.int .i64 k.ch)) w2 := HT.out w2 B2.out
  have hw := HW.out
  refine tkh 0 (v := ?_) rfl ?_ ?_; rotate_left
  · intro w hSw; (try dsimp only at hSw); go_simp <;> with_reducible rfl
  try simp only [Act.put, pz]
  refine tkh 1 (v := ?_) rfl ?_ ?_; rotate_left
  · intro w hSw; (try dsimp only at hSw); go_simp <;> with_reducible rfl
  try simp only [Act.put, pz]
  refine tkh 2 (v := ?_) rfl ?_ ?_; rotate_left
  · intro w hSw; (try dsimp only at hSw); go_simp <;> with_reducible rfl
  try simp only [Act.put, pz]
  refine tkh 3 (v := ?_) rfl ?_ ?_; rotate_left
  · intro w hSw; (try dsimp only at hSw); go_simp <;> with_reducible rfl
  try simp only [Act.put, pz]
  refine tkh 4 (v := ?_) rfl ?_ ?_; rotate_left
  · intro w hSw; (try dsimp only at hSw); go_simp <;> with_reducible rfl
  try simp only [Act.put, pz]
  refine tkh 5 (v := ?_) rfl ?_ ?_; rotate_left
  · intro w hSw; (try dsimp only at hSw); go_simp <;> with_reducible rfl
  try simp only [Act.put, pz]
  refine tkh 6 (v := ?_) rfl ?_ ?_; rotate_left
  · intro w hSw; obtain ⟨q0, q1, q2, q3, q4⟩ := hSw; go_simp <;> with_reducible rfl
  try simp only [Act.put, pz]
  refine tkh 7 (v := ?_) rfl ?_ ?_; rotate_left
  · intro w hSw; (try dsimp only at hSw); go_simp <;> with_reducible rfl
  try simp only [Act.put, pz]
  refine tkh 8 (v := ?_) rfl ?_ ?_; rotate_left
  · intro w hSw; (try dsimp only at hSw); go_simp <;> with_reducible rfl
  try simp only [Act.put, pz]
  refine tkh 9 (v := ?_) rfl ?_ ?_; rotate_left
  · intro w hSw; (try dsimp only at hSw); go_simp <;> with_reducible rfl
  try simp only [Act.put, pz]
  refine tkh 10 (v := ?_) rfl ?_ ?_; rotate_left
  · intro w hSw; (try dsimp only at hSw); go_simp <;> with_reducible rfl
  try simp only [Act.put, pz]
  refine tkh 11 (v := ?_) rfl ?_ ?_; rotate_left
  · intro w hSw; (try dsimp only at hSw); go_simp <;> with_reducible rfl
  try simp only [Act.put, pz]
  refine tkh 12 (v := ?_) rfl ?_ ?_; rotate_left
  · intro w hSw; obtain ⟨q0, q1, q2, q3, q4⟩ := hSw; go_simp <;> with_reducible rfl
  try simp only [Act.put, pz]
  refine tkh 13 (v := ?_) rfl ?_ ?_; rotate_left
  · intro w hSw; (try dsimp only at hSw); go_simp <;> with_reducible rfl
  try simp only [Act.put, pz]
  refine tkh 14 (v := ?_) rfl ?_ ?_; rotate_left
  · intro w hSw; (try dsimp only at hSw); go_simp <;> with_reducible rfl
  try simp only [Act.put, pz]
  refine tkh 15 (v := ?_) rfl ?_ ?_; rotate_left
  · intro w hSw; (try dsimp only at hSw); go_simp <;> with_reducible rfl
  try simp only [Act.put, pz]
  refine tkh 16 (v := ?_) rfl ?_ ?_; rotate_left
  · intro w hSw; (try dsimp only at hSw); go_simp <;> with_reducible rfl
  try simp only [Act.put, pz]
  refine tkh 17 (v := ?_) rfl ?_ ?_; rotate_left
  · intro w hSw; (try dsimp only at hSw); go_simp <;> with_reducible rfl
  try simp only [Act.put, pz]
  refine tkh 18 (v := ?_) rfl ?_ ?_; rotate_left
  · intro w hSw; obtain ⟨q0, q1, q2, q3, q4⟩ := hSw; go_simp <;> with_reducible rfl
  try simp only [Act.put, pz]
  refine tkh 19 (v := ?_) rfl ?_ ?_; rotate_left
  · intro w hSw; (try dsimp only at hSw); go_simp <;> with_reducible rfl
  try simp only [Act.put, pz]
  refine tkh 20 (v := ?_) rfl ?_ ?_; rotate_left
  · intro w hSw; (try dsimp only at hSw); go_simp <;> with_reducible rfl
  try simp only [Act.put, pz]
  refine tkh 21 (v := ?_) rfl ?_ ?_; rotate_left
  · intro w hSw; (try dsimp only at hSw); go_simp <;> with_reducible rfl
  try simp only [Act.put, pz]
  refine tkh 22 (v := ?_) rfl ?_ ?_; rotate_left
  · intro w hSw; obtain ⟨q0, q1, q2, q3, q4⟩ := hSw; go_simp <;> with_reducible rfl
  try simp only [Act.put, pz]
  refine tkh 25 (v := ?_) rfl ?_ ?_; rotate_left
  · intro w hSw; (try dsimp only at hSw); go_simp <;> with_reducible rfl
  try simp only [Act.put, pz]
  refine tkh 26 (v := ?_) rfl ?_ ?_; rotate_left
  · intro w hSw; (try dsimp only at hSw); go_simp <;> with_reducible rfl
  try simp only [Act.put, pz]
  refine tkh 27 (v := ?_) rfl ?_ ?_; rotate_left
  · intro w hSw; (try dsimp only at hSw); go_simp <;> with_reducible rfl
  try simp only [Act.put, pz]
  refine tkh 28 (v := ?_) rfl ?_ ?_; rotate_left
  · intro w hSw; obtain ⟨q0, q1, q2, q3, q4⟩ := hSw; go_simp <;> with_reducible rfl
  try simp only [Act.put, pz]
  refine wpAnyH_ready (rs := [23]) (by kernel_rfl) (by simp) (AllReadyH.cons rfl (fun K hK => ?_) AllReadyH.nil)
  have hPrev := hHeld
  clear hHeld
  go_simp
  refine CB.out.mono ?_
  rintro e w' ⟨rfl, rfl⟩
  clear CB
  refine hK.out _ _ (HT.out w2 B2.out) (fun hHeld => ?_)
  clear hK K hPrev
  try simp only [Act.put, pz]
  refine tkh 24 (v := ?_) rfl ?_ ?_; rotate_left
  · intro w hSw; (try dsimp only at hSw); go_simp <;> with_reducible rfl
  try simp only [Act.put, pz]
  refine wpAnyH_ready (rs := [29]) (by kernel_rfl) (by simp) (AllReadyH.cons rfl (fun K hK => ?_) AllReadyH.nil)
  have hPrev := hHeld
  clear hHeld
  go_simp
  clear hw
  refine CR.out.mono ?_
  rintro e w3 ⟨v3, rfl, ho3, hb3⟩
  dsimp only at ho3
  simp only
  obtain ⟨A, cap, rfl, hcap, _, hr3⟩ := ho3.form
  have R3 := Lib.hid hr3
  have HAB : Hid (∀ ad, A = some ad → w1.heap.size ≤ ad.block ∧ ad.block < w3.heap.size) := Lib.hid (fun ad e => by have h1 := ho3.lt ad.block (by rw [e]; rfl); have := B2.out.size; omega)
  have B3 : Hid (Below w1.heap.size w1 w3) := Lib.hid (B2.out.trans (hb3.mono B2.out.size))
  have Q3 := Lib.hid (Q1.out.below B3.out)
  have K3 := Lib.hid (K1.out.keep B3.out)
  clear hr3 ho3 hb3 CR
  refine hK.out _ _ (HT.out w3 B3.out) (fun hHeld => ?_)
  clear hK K hPrev
  try simp only [Act.put, pz]
  refine tkh 30 (v := ?_) rfl ?_ ?_; rotate_left
  · intro w hSw; (try dsimp only at hSw); go_simp <;> with_reducible rfl
  try simp only [Act.put, pz]
  refine tkh 31 (v := ?_) rfl ?_ ?_; rotate_left
  · intro w hSw; (try dsimp only at hSw); go_simp <;> with_reducible rfl
  try simp only [Act.put, pz]
  refine tkh 32 (v := ?_) rfl ?_ ?_; rotate_left
  · intro w hSw; (try dsimp only at hSw); go_simp <;> with_reducible rfl
  try simp only [Act.put, pz]
  refine tkh 33 (v := ?_) rfl ?_ ?_; rotate_left
  · intro w hSw; (try dsimp only at hSw); go_simp <;> with_reducible rfl
  try simp only [Act.put, pz]
  refine tkh 34 (v := ?_) rfl ?_ ?_; rotate_left
  · intro w hSw; (try dsimp only at hSw); go_simp <;> with_reducible rfl
  try simp only [Act.put, pz]
  refine wpAnyH_done (by kernel_rfl) ?_ _
  clear hHeld B2
  rcases HQ.out with he | ⟨he, hl0⟩
  · have hne : (er == (0 : Int)) = false := beq_eq_false_iff_ne.2 he
    clear he
    go_upto_region 3 with fail
    have z0 : w3.cell? ⟨r, 0, none⟩ = some (.int .i64 0) := (K3.out.cell 0).trans rfl
    have g0 := K3.out.frozen 0
    have z1 : w3.cell? ⟨r, 1, none⟩ = some (.int .i64 0) := (K3.out.cell 1).trans rfl
    have g1 := K3.out.frozen 1
    have z2 : w3.cell? ⟨r, 2, none⟩ = some (.int .i64 0) := (K3.out.cell 2).trans rfl
    have g2 := K3.out.frozen 2
    have z3 : w3.cell? ⟨r, 3, none⟩ = some (.int .i64 0) := (K3.out.cell 3).trans rfl
    have g3 := K3.out.frozen 3
    have z4 : w3.cell? ⟨r, 4, none⟩ = some (.int .i64 0) := (K3.out.cell 4).trans rfl
    have g4 := K3.out.frozen 4
    have z5 : w3.cell? ⟨r, 5, none⟩ = some (.int .i64 0) := (K3.out.cell 5).trans rfl
    have g5 := K3.out.frozen 5
    have z6 : w3.cell? ⟨r, 6, none⟩ = some (.int .i64 0) := (K3.out.cell 6).trans rfl
    have g6 := K3.out.frozen 6
    have z7 : w3.cell? ⟨r, 7, none⟩ = some (.int .i64 0) := (K3.out.cell 7).trans rfl
    have g7 := K3.out.frozen 7
    have z8 : w3.cell? ⟨r, 8, none⟩ = some (.int .i64 0) := (K3.out.cell 8).trans rfl
    have g8 := K3.out.frozen 8
    have z9 : w3.cell? ⟨r, 9, none⟩ = some (.string { data := #[] }) := (K3.out.cell 9).trans rfl
    have g9 := K3.out.frozen 9
    obtain ⟨wz, hwz⟩ : ∃ wz, wz = setZ w3 r := ⟨_, rfl⟩
    have KZ : Hid (Blk wz r 170 zeroL) := Lib.hid (by rw [hwz]; exact ((((((((((K3.out.set_ 0 (.int .i64 0)).set_ 1 (.int .i64 0)).set_ 2 (.int .i64 0)).set_ 3 (.int .i64 0)).set_ 4 (.int .i64 0)).set_ 5 (.int .i64 0)).set_ 6 (.int .i64 0)).set_ 7 (.int .i64 0)).set_ 8 (.int .i64 0)).set_ 9 (.string { data := #[] })))
    have BZ : Hid (Chg (fun b => b = r) w3 wz) := Lib.hid (by rw [hwz]; exact (((((((((((Chg.refl (fun b => b = r) w3).setCell (.inl rfl) _).setCell (.inl rfl) _).setCell (.inl rfl) _).setCell (.inl rfl) _).setCell (.inl rfl) _).setCell (.inl rfl) _).setCell (.inl rfl) _).setCell (.inl rfl) _).setCell (.inl rfl) _).setCell (.inl rfl) _))
    have QZ : Hid (FwQ W C c rb k f wz) := Lib.hid (Q3.out.far HR.out K3.out BZ.out)
    go_wp2_with fail
    unfold setZ at hwz
    rw [← hwz]
    clear hwz
    refine bodyPost_ret (v := .tuple #[.agg zeroL, .bool false, .bool false]) (ret_line rfl rfl rfl rfl KZ.out rfl) rfl ?_
    exact ⟨rfl, QZ.out⟩
  · obtain rfl : er = 0 := he
    obtain rfl : l = [] := hl0
    go_upto_region 3 with fail
    have z0 : w3.cell? ⟨r, 0, none⟩ = some (.int .i64 0) := (K3.out.cell 0).trans rfl
    have g0 := K3.out.frozen 0
    have z1 : w3.cell? ⟨r, 1, none⟩ = some (.int .i64 0) := (K3.out.cell 1).trans rfl
    have g1 := K3.out.frozen 1
    have z2 : w3.cell? ⟨r, 2, none⟩ = some (.int .i64 0) := (K3.out.cell 2).trans rfl
    have g2 := K3.out.frozen 2
    have z3 : w3.cell? ⟨r, 3, none⟩ = some (.int .i64 0) := (K3.out.cell 3).trans rfl
    have g3 := K3.out.frozen 3
    have z4 : w3.cell? ⟨r, 4, none⟩ = some (.int .i64 0) := (K3.out.cell 4).trans rfl
    have g4 := K3.out.frozen 4
    have z5 : w3.cell? ⟨r, 5, none⟩ = some (.int .i64 0) := (K3.out.cell 5).trans rfl
    have g5 := K3.out.frozen 5
    have z6 : w3.cell? ⟨r, 6, none⟩ = some (.int .i64 0) := (K3.out.cell 6).trans rfl
    have g6 := K3.out.frozen 6
    have z7 : w3.cell? ⟨r, 7, none⟩ = some (.int .i64 0) := (K3.out.cell 7).trans rfl
    have g7 := K3.out.frozen 7
    have z8 : w3.cell? ⟨r, 8, none⟩ = some (.int .i64 0) := (K3.out.cell 8).trans rfl
    have g8 := K3.out.frozen 8
    have z9 : w3.cell? ⟨r, 9, none⟩ = some (.string { data := #[] }) := (K3.out.cell 9).trans rfl
    have g9 := K3.out.frozen 9
    obtain ⟨wz, hwz⟩ : ∃ wz, wz = setZ w3 r := ⟨_, rfl⟩
    have KZ : Hid (Blk wz r 170 zeroL) := Lib.hid (by rw [hwz]; exact ((((((((((K3.out.set_ 0 (.int .i64 0)).set_ 1 (.int .i64 0)).set_ 2 (.int .i64 0)).set_ 3 (.int .i64 0)).set_ 4 (.int .i64 0)).set_ 5 (.int .i64 0)).set_ 6 (.int .i64 0)).set_ 7 (.int .i64 0)).set_ 8 (.int .i64 0)).set_ 9 (.string { data := #[] })))
    have BZ : Hid (Chg (fun b => b = r) w3 wz) := Lib.hid (by rw [hwz]; exact (((((((((((Chg.refl (fun b => b = r) w3).setCell (.inl rfl) _).setCell (.inl rfl) _).setCell (.inl rfl) _).setCell (.inl rfl) _).setCell (.inl rfl) _).setCell (.inl rfl) _).setCell (.inl rfl) _).setCell (.inl rfl) _).setCell (.inl rfl) _).setCell (.inl rfl) _))
    have QZ : Hid (FwQ W C c rb k f wz) := Lib.hid (Q3.out.far HR.out K3.out BZ.out)
    go_wp2_with fail
    unfold setZ at hwz
    rw [← hwz]
    clear hwz
    refine bodyPost_ret (v := .tuple #[.agg zeroL, .bool false, .bool false]) (ret_line rfl rfl rfl rfl KZ.out rfl) rfl ?_
    exact ⟨rfl, QZ.out⟩
set_option maxRecDepth 20000 in
set_option maxHeartbeats 8000000 in
theorem fw_read_yes {W : World} {C : Nat → Nat} {c rb p : Nat} {k : FwK} {f : FwS} {D : World → Prop} {S : List UInt8 → T5} {I : Int → T5} {R : Int → Int → Int → Int → List UInt8 × Int} (h : FwR W C c rb k f) (ha : Asks p D S I R) (hD : Stay W C c D) (ho : AskOk S I R) (hf : f.Ok) (hch : okInt k.ch) (hul : f.u.length ≤ 100000000) (hli : k.line ≤ 4096) (hlc : f.lc ≤ 1000000000) (hq : (R f.ino f.ge (f.off + (f.u.length : Int)) k.ch).2 = 0 ∧ (R f.ino f.ge (f.off + (f.u.length : Int)) k.ch).1 ≠ []) : Calls Tryz.prog 128 #[.pointer (some ⟨rb, 0, none⟩), .pointer (some ⟨p, 0, none⟩)] W (TurnQ W C c rb k (f.readF k.line (R f.ino f.ge (f.off + (f.u.length : Int)) k.ch).1) (lineA f (strOf (feedS k.line f.u (R f.ino f.ge (f.off + (f.u.length : Int)) k.ch).1))) (feedW k.line f.u (R f.ino f.ge (f.off + (f.u.length : Int)) k.ch).1) true) := by
  have hrl := ho.r f.ino f.ge (f.off + (f.u.length : Int)) k.ch (by have := hf.off.1; omega)
  have HLI := Lib.hid (And.intro hli hlc)
  have HRL := Lib.hid hrl
  clear hli hlc hrl ho
  obtain ⟨w1, hw1⟩ : ∃ w1, w1 = W.alloc (.cells zeroL 170) := ⟨_, rfl⟩
  obtain ⟨r, hr⟩ : ∃ r, r = W.heap.size := ⟨_, rfl⟩
  have B1 : Hid (Below W.heap.size W w1) := Lib.hid (by rw [hw1]; exact (Below.refl _ _).alloc (Nat.le_refl _) _)
  have K1 : Hid (Blk w1 r 170 zeroL) := Lib.hid (by rw [hw1]; exact Blk.new W _ _ hr)
  have HR : Hid (W.heap.size ≤ r) := Lib.hid (by omega)
  have Q1 : Hid (FwQ W C c rb k f w1) := Lib.hid ((FwQ.refl h).below B1.out)
  have HA := Lib.hid ha
  have HD := Lib.hid hD
  have HF := Lib.hid hf
  have HCH := Lib.hid hch
  obtain ⟨L, hL⟩ : ∃ L, L = f.u.length := ⟨_, rfl⟩
  have HL := Lib.hid hL
  have HUL : Hid (L ≤ 100000000) := Lib.hid (by rw [hL]; exact hul)
  obtain ⟨⟨l, er⟩, hy⟩ : ∃ y, y = R f.ino f.ge (f.off + (L : Int)) k.ch := ⟨_, rfl⟩
  rw [← hL, ← hy] at hq ⊢
  rw [← hL, ← hy] at HRL
  have HY := Lib.hid hy
  have HQ := Lib.hid hq
  obtain ⟨mb, v, y9, hm, _⟩ := Q1.out.1.maker
  have HMK := Lib.hid hm
  have hw := IntWalk.i64_in (f.off + (L : Int)) (by have := hf.off.1; have := hf.off.2; omega)
  have HW := Lib.hid hw
  have HY9 : Hid (w1.cell? ⟨rb, 9, none⟩ = some (.pointer (some ⟨mb, 0, none⟩))) := Lib.hid y9
  have HT : Hid (∀ w, Below w1.heap.size w1 w → (fun w' => w'.cell? ⟨rb, 1, none⟩ = some (.int .i64 f.ino) ∧ w'.cell? ⟨rb, 2, none⟩ = some (.int .i64 f.ge) ∧ w'.cell? ⟨rb, 3, none⟩ = some (.int .i64 f.off) ∧ w'.cell? ⟨rb, 9, none⟩ = some (.pointer (some ⟨mb, 0, none⟩)) ∧ w'.cell? ⟨rb, 12, none⟩ = some (.int .i64 k.ch)) w) := Lib.hid (fun w hb => ⟨(Q1.out.below hb).1.cells.2.1, (Q1.out.below hb).1.cells.2.2.1, (Q1.out.below hb).1.cells.2.2.2.1, cell_later hb HY9.out, (Q1.out.below hb).1.cells.2.2.2.2.2.2.2.2.2.2.2⟩)
  clear h ha hD hf hch hul hL hy hq hm hw y9
  go_enter Tryz.func128, Tryz.ntmps128
  go_upto_region 1 with fail
  unfold zeroL at hw1
  rw [← hw1, ← hr]
  clear hw1 hr
  refine wp_region_any (by kernel_rfl) ?_
  change wpAny _ _ _ _ _ _ _ (World.drew _)
  refine wpAny_of_held (S := fun w' => w'.cell? ⟨rb, 1, none⟩ = some (.int .i64 f.ino) ∧ w'.cell? ⟨rb, 2, none⟩ = some (.int .i64 f.ge) ∧ w'.cell? ⟨rb, 3, none⟩ = some (.int .i64 f.off) ∧ w'.cell? ⟨rb, 9, none⟩ = some (.pointer (some ⟨mb, 0, none⟩)) ∧ w'.cell? ⟨rb, 12, none⟩ = some (.int .i64 k.ch)) _ _ _ _ ?_
  obtain ⟨w2, hw2⟩ : ∃ w2, w2 = w1.drew := ⟨_, rfl⟩
  have B2 : Hid (Below w1.heap.size w1 w2) := Lib.hid (by rw [hw2]; exact (Below.refl _ _).drew)
  have CB := Lib.hid (begun_any mb v k.line _ _ w2 (by rw [hw2]; exact HMK.out.drewN 1))
  rw [← HL.out] at CB
  have CR := Lib.hid (HA.out.read w2 f.ino f.ge (f.off + (L : Int)) k.ch (inM_ok HF.out.ino) ⟨by have := HF.out.off.1; omega, by have := HF.out.off.2; have := HUL.out; omega⟩ HCH.out (HD.out w2 (Chg.of_below (B1.out.trans (B2.out.mono B1.out.size)) _)))
  rw [← HY.out] at CR
  rw [← hw2]
  clear hw2
  have hHeld : (fun w' => w'.cell? ⟨rb, 1, none⟩ = some (.int .i64 f.ino) ∧ w'.cell? ⟨rb, 2, none⟩ = some (.int .i64 f.ge) ∧ w'.cell? ⟨rb, 3, none⟩ = some (.int .i64 f.off) ∧ w'.cell? ⟨rb, 9, none⟩ = some (.pointer (some ⟨mb, 0, none⟩)) ∧ w'.cell? ⟨rb, 12, none⟩ = some (.int .i64 k.ch)) w2 := HT.out w2 B2.out
  have hw := HW.out
  refine tkh 0 (v := ?_) rfl ?_ ?_; rotate_left
  · intro w hSw; (try dsimp only at hSw); go_simp <;> with_reducible rfl
  try simp only [Act.put, pz]
  refine tkh 1 (v := ?_) rfl ?_ ?_; rotate_left
  · intro w hSw; (try dsimp only at hSw); go_simp <;> with_reducible rfl
  try simp only [Act.put, pz]
  refine tkh 2 (v := ?_) rfl ?_ ?_; rotate_left
  · intro w hSw; (try dsimp only at hSw); go_simp <;> with_reducible rfl
  try simp only [Act.put, pz]
  refine tkh 3 (v := ?_) rfl ?_ ?_; rotate_left
  · intro w hSw; (try dsimp only at hSw); go_simp <;> with_reducible rfl
  try simp only [Act.put, pz]
  refine tkh 4 (v := ?_) rfl ?_ ?_; rotate_left
  · intro w hSw; (try dsimp only at hSw); go_simp <;> with_reducible rfl
  try simp only [Act.put, pz]
  refine tkh 5 (v := ?_) rfl ?_ ?_; rotate_left
  · intro w hSw; (try dsimp only at hSw); go_simp <;> with_reducible rfl
  try simp only [Act.put, pz]
  refine tkh 6 (v := ?_) rfl ?_ ?_; rotate_left
  · intro w hSw; obtain ⟨q0, q1, q2, q3, q4⟩ := hSw; go_simp <;> with_reducible rfl
  try simp only [Act.put, pz]
  refine tkh 7 (v := ?_) rfl ?_ ?_; rotate_left
  · intro w hSw; (try dsimp only at hSw); go_simp <;> with_reducible rfl
  try simp only [Act.put, pz]
  refine tkh 8 (v := ?_) rfl ?_ ?_; rotate_left
  · intro w hSw; (try dsimp only at hSw); go_simp <;> with_reducible rfl
  try simp only [Act.put, pz]
  refine tkh 9 (v := ?_) rfl ?_ ?_; rotate_left
  · intro w hSw; (try dsimp only at hSw); go_simp <;> with_reducible rfl
  try simp only [Act.put, pz]
  refine tkh 10 (v := ?_) rfl ?_ ?_; rotate_left
  · intro w hSw; (try dsimp only at hSw); go_simp <;> with_reducible rfl
  try simp only [Act.put, pz]
  refine tkh 11 (v := ?_) rfl ?_ ?_; rotate_left
  · intro w hSw; (try dsimp only at hSw); go_simp <;> with_reducible rfl
  try simp only [Act.put, pz]
  refine tkh 12 (v := ?_) rfl ?_ ?_; rotate_left
  · intro w hSw; obtain ⟨q0, q1, q2, q3, q4⟩ := hSw; go_simp <;> with_reducible rfl
  try simp only [Act.put, pz]
  refine tkh 13 (v := ?_) rfl ?_ ?_; rotate_left
  · intro w hSw; (try dsimp only at hSw); go_simp <;> with_reducible rfl
  try simp only [Act.put, pz]
  refine tkh 14 (v := ?_) rfl ?_ ?_; rotate_left
  · intro w hSw; (try dsimp only at hSw); go_simp <;> with_reducible rfl
  try simp only [Act.put, pz]
  refine tkh 15 (v := ?_) rfl ?_ ?_; rotate_left
  · intro w hSw; (try dsimp only at hSw); go_simp <;> with_reducible rfl
  try simp only [Act.put, pz]
  refine tkh 16 (v := ?_) rfl ?_ ?_; rotate_left
  · intro w hSw; (try dsimp only at hSw); go_simp <;> with_reducible rfl
  try simp only [Act.put, pz]
  refine tkh 17 (v := ?_) rfl ?_ ?_; rotate_left
  · intro w hSw; (try dsimp only at hSw); go_simp <;> with_reducible rfl
  try simp only [Act.put, pz]
  refine tkh 18 (v := ?_) rfl ?_ ?_; rotate_left
  · intro w hSw; obtain ⟨q0, q1, q2, q3, q4⟩ := hSw; go_simp <;> with_reducible rfl
  try simp only [Act.put, pz]
  refine tkh 19 (v := ?_) rfl ?_ ?_; rotate_left
  · intro w hSw; (try dsimp only at hSw); go_simp <;> with_reducible rfl
  try simp only [Act.put, pz]
  refine tkh 20 (v := ?_) rfl ?_ ?_; rotate_left
  · intro w hSw; (try dsimp only at hSw); go_simp <;> with_reducible rfl
  try simp only [Act.put, pz]
  refine tkh 21 (v := ?_) rfl ?_ ?_; rotate_left
  · intro w hSw; (try dsimp only at hSw); go_simp <;> with_reducible rfl
  try simp only [Act.put, pz]
  refine tkh 22 (v := ?_) rfl ?_ ?_; rotate_left
  · intro w hSw; obtain ⟨q0, q1, q2, q3, q4⟩ := hSw; go_simp <;> with_reducible rfl
  try simp only [Act.put, pz]
  refine tkh 25 (v := ?_) rfl ?_ ?_; rotate_left
  · intro w hSw; (try dsimp only at hSw); go_simp <;> with_reducible rfl
  try simp only [Act.put, pz]
  refine tkh 26 (v := ?_) rfl ?_ ?_; rotate_left
  · intro w hSw; (try dsimp only at hSw); go_simp <;> with_reducible rfl
  try simp only [Act.put, pz]
  refine tkh 27 (v := ?_) rfl ?_ ?_; rotate_left
  · intro w hSw; (try dsimp only at hSw); go_simp <;> with_reducible rfl
  try simp only [Act.put, pz]
  refine tkh 28 (v := ?_) rfl ?_ ?_; rotate_left
  · intro w hSw; obtain ⟨q0, q1, q2, q3, q4⟩ := hSw; go_simp <;> with_reducible rfl
  try simp only [Act.put, pz]
  refine wpAnyH_ready (rs := [23]) (by kernel_rfl) (by simp) (AllReadyH.cons rfl (fun K hK => ?_) AllReadyH.nil)
  have hPrev := hHeld
  clear hHeld
  go_simp
  refine CB.out.mono ?_
  rintro e w' ⟨rfl, rfl⟩
  clear CB
  refine hK.out _ _ (HT.out w2 B2.out) (fun hHeld => ?_)
  clear hK K hPrev
  try simp only [Act.put, pz]
  refine tkh 24 (v := ?_) rfl ?_ ?_; rotate_left
  · intro w hSw; (try dsimp only at hSw); go_simp <;> with_reducible rfl
  try simp only [Act.put, pz]
  refine wpAnyH_ready (rs := [29]) (by kernel_rfl) (by simp) (AllReadyH.cons rfl (fun K hK => ?_) AllReadyH.nil)
  have hPrev := hHeld
  clear hHeld
  go_simp
  clear hw
  refine CR.out.mono ?_
  rintro e w3 ⟨v3, rfl, ho3, hb3⟩
  dsimp only at ho3
  simp only
  obtain ⟨A, cap, rfl, hcap, _, hr3⟩ := ho3.form
  have R3 := Lib.hid hr3
  have HAB : Hid (∀ ad, A = some ad → w1.heap.size ≤ ad.block ∧ ad.block < w3.heap.size) := Lib.hid (fun ad e => by have h1 := ho3.lt ad.block (by rw [e]; rfl); have := B2.out.size; omega)
  have B3 : Hid (Below w1.heap.size w1 w3) := Lib.hid (B2.out.trans (hb3.mono B2.out.size))
  have Q3 := Lib.hid (Q1.out.below B3.out)
  have K3 := Lib.hid (K1.out.keep B3.out)
  clear hr3 ho3 hb3 CR
  refine hK.out _ _ (HT.out w3 B3.out) (fun hHeld => ?_)
  clear hK K hPrev
  try simp only [Act.put, pz]
  refine tkh 30 (v := ?_) rfl ?_ ?_; rotate_left
  · intro w hSw; (try dsimp only at hSw); go_simp <;> with_reducible rfl
  try simp only [Act.put, pz]
  refine tkh 31 (v := ?_) rfl ?_ ?_; rotate_left
  · intro w hSw; (try dsimp only at hSw); go_simp <;> with_reducible rfl
  try simp only [Act.put, pz]
  refine tkh 32 (v := ?_) rfl ?_ ?_; rotate_left
  · intro w hSw; (try dsimp only at hSw); go_simp <;> with_reducible rfl
  try simp only [Act.put, pz]
  refine tkh 33 (v := ?_) rfl ?_ ?_; rotate_left
  · intro w hSw; (try dsimp only at hSw); go_simp <;> with_reducible rfl
  try simp only [Act.put, pz]
  refine tkh 34 (v := ?_) rfl ?_ ?_; rotate_left
  · intro w hSw; (try dsimp only at hSw); go_simp <;> with_reducible rfl
  try simp only [Act.put, pz]
  refine wpAnyH_done (by kernel_rfl) ?_ _
  clear hHeld B2
  obtain ⟨hq1, hl0⟩ := HQ.out
  obtain rfl : er = 0 := hq1
  have hlen : l.length ≤ 1048576 := by
    rcases HRL.out with e | e
    · exact absurd e hl0
    · have := HF.out.off.1
      have e2 : f.off + (L : Int) + (l.length : Int) ≤ 1048576 := e
      omega
  have hlpos : 0 < l.length := List.length_pos_iff.2 hl0
  have HLEN := Lib.hid (And.intro hlen hlpos)
  obtain ⟨n, hn⟩ : ∃ n, n = l.length := ⟨_, rfl⟩
  have HN := Lib.hid hn
  rw [← hn] at hlen hlpos hcap R3 ⊢
  clear hl0 hn
  obtain ⟨C3, hC3, hn3, _, hb3⟩ := Q3.out.1.only
  have HC3 := Lib.hid (And.intro (hn3 r _ _ K3.out (by decide) (by decide) (by decide)) hb3)
  have X3 := Lib.hid (FwQ.refl hC3)
  clear hC3 hn3 hb3
  have hni : ((n : Int) == (0 : Int)) = false := by rw [beq_eq_false_iff_ne]; omega
  go_upto_region 4 with fail
  have y9 : w3.cell? ⟨rb, 9, none⟩ = some (.pointer (some ⟨mb, 0, none⟩)) := cell_later B3.out HY9.out
  have HM3 : Hid (MK w3 mb v k.line f.u f.lc) := Lib.hid (HMK.out.stp (S := fun _ => False) (Chg.of_below B3.out _) (fun e => e) (fun _ _ e => e))
  have CB : Hid (∀ q, Calls Tryz.prog 154 #[.pointer (some ⟨mb, 0, none⟩)] (w3.drewN q) fun e w' => e = .returned (.int .i64 (L : Int)) ∧ w3.drewN q = w') := Lib.hid (fun q => by rw [HL.out]; exact begun_any mb v k.line f.lc f.u _ (HM3.out.drewN q))
  have CL : Hid (∀ q, Calls Tryz.prog 155 #[.pointer (some ⟨mb, 0, none⟩)] (w3.drewN q) fun e w' => e = .returned (.int .i64 (f.lc : Int)) ∧ w3.drewN q = w') := Lib.hid (fun q => long_any mb v k.line f.lc f.u _ (HM3.out.drewN q))
  go_quiet ((first | (with_reducible exact quietF (CB.out _)) | (with_reducible exact quietF (CL.out _))))
  obtain ⟨w4, hw4⟩ : ∃ w4, w4 = w3.drewN nq := ⟨_, rfl⟩
  have X4 : Hid (FwQ w3 C3 c rb k f w4) := Lib.hid (by rw [hw4]; exact X3.out.below (below_drewN (Below.refl _ _) _))
  have HM4 : Hid (MK w4 mb v k.line f.u f.lc) := Lib.hid (by rw [hw4]; exact HM3.out.drewN nq)
  have R4 : Hid (RB w4 A n l) := Lib.hid (by rw [hw4]; exact R3.out.keep (below_drewN (Below.refl _ _) _))
  have y9' : w4.cell? ⟨rb, 9, none⟩ = some (.pointer (some ⟨mb, 0, none⟩)) := by rw [hw4]; exact y9
  have HY4 := Lib.hid y9'
  rw [← hw4]
  clear hw4 CB CL y9
  have CF := Lib.hid (feed_any mb v k.line f.lc f.u A n cap l w4 HM4.out R4.out hcap HLI.out.1 (by have := HL.out; have := HUL.out; omega) (by have := HLI.out.2; omega))
  go_wp2_with fail
  refine CF.out.mono ?_
  rintro e w5 ⟨rfl, v5, hm5, hc5, hf5⟩
  simp only
  have HM5 := Lib.hid hm5
  have HC5 := Lib.hid hc5
  obtain ⟨mb2, v2, y92, hmm, hKK⟩ := X4.out.1.maker
  obtain rfl : mb = mb2 := by rw [HY4.out] at y92; cases y92; rfl
  have hvv : v2 = v := by
    have h1 := hmm.blk; have h2 := HM4.out.blk
    unfold Blk at h1 h2
    rw [h1] at h2
    injection h2 with h2
    injection h2 with h2 _ _
    injection h2 with h2
    injection h2 with h2 _
  subst hvv
  have X5 : Hid (FwQ w3 C3 c rb k { f with u := feedU f.u l, lc := feedL k.line f.lc f.u l } w5) := Lib.hid (X4.out.trans (hKK _ _ _ _ hm5 hc5 hf5))
  have R5 : Hid (RB w5 A n l) := Lib.hid (hc5.rb R4.out (fun _ ad e hs => by
    have h1 := HAB.out ad e
    rcases hs with e2 | e2
    · have := HMK.out.blk.lt; omega
    · have := (World.ownsRow.lt HMK.out.own _ e2).2; omega))
  have K5 : Hid (Blk w5 r 170 zeroL) := Lib.hid (K3.out.chg X5.out.2 HC3.out.1)
  obtain ⟨tx, htx⟩ : ∃ tx, tx = strOf (feedS k.line f.u l) := ⟨_, rfl⟩
  obtain ⟨wh, hwh⟩ : ∃ wh, wh = feedW k.line f.u l := ⟨_, rfl⟩
  obtain ⟨N, hNN⟩ : ∃ N, N = feedN l := ⟨_, rfl⟩
  rw [← htx, ← hwh, ← hNN]
  have HTX := Lib.hid htx
  have HWH := Lib.hid hwh
  have HNN := Lib.hid hNN
  have y9'' : w5.cell? ⟨rb, 9, none⟩ = some (.pointer (some ⟨mb, 0, none⟩)) := by
    obtain ⟨mb3, v3, y93, hm3, _⟩ := X4.out.1.maker
    obtain rfl : mb = mb3 := by rw [HY4.out] at y93; cases y93; rfl
    rw [← HY4.out]
    refine HC5.out.cell (p := ⟨rb, 9, none⟩) ?_ (fun hs => ?_)
    · obtain ⟨mb4, v4, h4⟩ := X4.out.1; exact h4.lt.1
    · obtain ⟨mb4, v4, h4⟩ := X4.out.1
      rcases hs with e | e
      · have h1 := h4.blk; have h2 := HM4.out.blk
        have e : rb = mb := e
        rw [e] at h1
        unfold Blk at h1 h2
        rw [h1] at h2
        injection h2 with h2
        injection h2 with _ ht
        exact absurd ht (by decide)
      · exact h4.blk.apart HM4.out.own (by decide) e
  have HY5 := Lib.hid y9''
  clear hm5 hc5 hf5 CF y9' y92 hmm hKK htx hwh hNN
  obtain ⟨x0, x1, x2, x3, x4, x5, x6, x7, x8, _, _, _⟩ := X5.out.1.cells
  simp only at x0 x1 x2 x3 x4 x5 x6 x7 x8
  obtain ⟨z0, z1, z2, z3, z4, z5, z6, z7, z8, z9⟩ := K5.out.zc
  obtain ⟨zg0, zg1, zg2, zg3, zg4, zg5, zg6, zg7, zg8, zg9⟩ := K5.out.zf
  obtain ⟨w6, hw6⟩ : ∃ w6, w6 = ((((((((((w5.setCell ⟨r, 0, none⟩ (.int .i64 f.se)).setCell ⟨r, 1, none⟩ (.int .i64 f.ino)).setCell ⟨r, 2, none⟩ (.int .i64 f.ge)).setCell ⟨r, 3, none⟩ (.int .i64 f.off)).setCell ⟨r, 4, none⟩ (.int .i64 f.mi)).setCell ⟨r, 5, none⟩ (.int .i64 f.go)).setCell ⟨r, 6, none⟩ (.int .i64 f.cu)).setCell ⟨r, 7, none⟩ (.int .i64 f.ta)).setCell ⟨r, 8, none⟩ (.int .i64 f.lo)).setCell ⟨r, 9, none⟩ (.string tx)) := ⟨_, rfl⟩
  have K6 : Hid (Blk w6 r 170 (lineA f tx)) := Lib.hid (by rw [hw6]; exact (K5.out.line _ _ _ _ _ _ _ _ _ _).1)
  have BZ6 : Hid (Chg (fun b => b = r) w5 w6) := Lib.hid (by rw [hw6]; exact (K5.out.line _ _ _ _ _ _ _ _ _ _).2)
  go_upto_region 7 with fail
  rw [← hw6]
  clear hw6 z0 zg0 z1 zg1 z2 zg2 z3 zg3 z4 zg4 z5 zg5 z6 zg6 z7 zg7 z8 zg8 z9 zg9 x0 x1 x2 x3 x4 x5 x6 x7 x8
  have Q6 : Hid (FwQ W C c rb k { f with u := feedU f.u l, lc := feedL k.line f.lc f.u l } w6) := Lib.hid ((Q3.out.trans (HC3.out.2 _ _ X5.out)).far HR.out K5.out BZ6.out)
  have R6 : Hid (RB w6 A n l) := Lib.hid (BZ6.out.rb R5.out (fun _ ad e hs => by have h1 := (HAB.out ad e).1; have h2 := K1.out.lt; have e2 : ad.block = r := hs; omega))
  have HM6 : Hid (MK w6 mb v5 k.line (feedU f.u l) (feedL k.line f.lc f.u l)) := Lib.hid (HM5.out.stp BZ6.out (fun e => by
    have h1 := HM5.out.blk; have h2 := K5.out
    rw [e] at h1
    unfold Blk at h1 h2
    rw [h1] at h2
    injection h2 with h2
    injection h2 with _ ht
    exact absurd ht (by decide)) (fun q hq e => K5.out.apart HM5.out.own (by decide) (by rw [hq, e])))
  have y96 : w6.cell? ⟨rb, 9, none⟩ = some (.pointer (some ⟨mb, 0, none⟩)) := by
    rw [← HY5.out]
    obtain ⟨mb4, v4, h4⟩ := X5.out.1
    refine BZ6.out.cell (p := ⟨rb, 9, none⟩) h4.lt.1 (fun e => ?_)
    have h1 := h4.blk; have h2 := K5.out
    have e2 : rb = r := e
    rw [e2] at h1
    unfold Blk at h1 h2
    rw [h1] at h2
    injection h2 with h2
    injection h2 with _ ht
    exact absurd ht (by decide)
  have HY6 := Lib.hid y96
  obtain ⟨ab, off, rfl, _, hbytes⟩ := R6.out.2 hlpos
  have hlc := feedL_le k.line f.lc f.u l
  obtain ⟨lc', hlc'⟩ : ∃ lc', lc' = feedL k.line f.lc f.u l := ⟨_, rfl⟩
  rw [← hlc'] at hlc HM6
  have HLC := Lib.hid hlc'
  have hlcM := HLI.out.2
  clear y96 y9'' hlc' X5 K5 R5 BZ6
  by_cases hnl : upN l < l.length
  · have h10 := hbytes _ _ (upN_10 hnl)
    obtain ⟨q, hqq⟩ : ∃ q, q = upN l := ⟨_, rfl⟩
    rw [← hqq] at h10
    have hNq : N = q + 1 := by rw [HNN.out, hqq]; unfold feedN; rw [if_pos hnl]
    have hqn : q < n := by rw [HN.out, hqq]; exact hnl
    subst hNq
    have HNL : Hid (nlB l = true) := Lib.hid (decide_eq_true hnl)
    have hqi : (q : Int) < (n : Int) := by omega
    have hq0 : (0 : Int) ≤ (q : Int) := by omega
    have hqM : (q : Int) ≤ 1048576 := by omega
    replace h10 : w6.cell? ⟨ab, off + q, none⟩ = some (.int .u8 10) := h10
    obtain ⟨C6, hC6, hn6, _, hb6⟩ := Q6.out.1.only
    have HC6 := Lib.hid (And.intro (hn6 r _ _ K6.out (by decide) (by decide) (by decide)) hb6)
    have X6 := Lib.hid (FwQ.refl hC6)
    have x3 : w6.cell? ⟨rb, 3, none⟩ = some (.int .i64 f.off) := X6.out.1.cells.2.2.2.1
    have z3 := X6.out.1.frozen 3
    have ho1 := HF.out.off.1
    have ho2 := HF.out.off.2
    have hLi0 : (0 : Int) ≤ (L : Int) := by omega
    have hLi : (L : Int) ≤ 100000000 := by have := HUL.out; omega
    obtain ⟨w7, hw7⟩ : ∃ w7, w7 = w6.setCell ⟨rb, 3, none⟩ (.int .i64 (f.off + ((L : Int) + ((q : Int) + 1)))) := ⟨_, rfl⟩
    have X7 : Hid (FwQ w6 C6 c rb k (FwS.put { f with u := feedU f.u l, lc := feedL k.line f.lc f.u l } 3 (f.off + ((L : Int) + ((q : Int) + 1)))) w7) := Lib.hid (by rw [hw7]; exact X6.out.put (i := 3) (by decide) _)
    have y97 : w7.cell? ⟨rb, 9, none⟩ = some (.pointer (some ⟨mb, 0, none⟩)) := by
      obtain ⟨mb4, v4, h4⟩ := X6.out.1
      have h5 := h4.blk.set_ 3 (.int .i64 (f.off + ((L : Int) + ((q : Int) + 1))))
      have h6 := h4.blk.cell 9
      rw [HY6.out] at h6
      rw [hw7, h5.cell 9]
      exact h6.symm
    have HM7 : Hid (MK w7 mb v5 k.line (feedU f.u l) lc') := Lib.hid (by
      obtain ⟨mb4, v4, h4⟩ := X6.out.1
      have hch : Chg (fun b => b = rb) w6 w7 := by rw [hw7]; exact Chg.setCell (S := fun b => b = rb) (p := ⟨rb, 3, none⟩) (Chg.refl _ _) (.inl rfl) _
      have e1 := h4.blk.cell 9
      rw [HY6.out] at e1
      have e2 : mb4 = mb := by injection e1 with e1; injection e1 with e1; injection e1 with e1; injection e1 with e1; exact e1.symm
      refine HM6.out.stp hch (fun e => h4.apart (by rw [e2]; exact e.symm)) (fun q hq e => ?_)
      exact h4.blk.apart HM6.out.own (by decide) (by rw [hq, e]))
    have HY7 := Lib.hid y97
    clear hC6 hn6 hb6 hbytes hnl hqq
    go_upto_region 9 with fail
    rw [← hw7]
    clear hw7 h10 x3 z3 hqi ho1 ho2 y97
    have hwl := IntWalk.i64_in ((lc' : Int) - (f.lc : Int)) (by omega)
    have HWL := Lib.hid hwl
    have hlcI : (0 : Int) ≤ (lc' : Int) - (f.lc : Int) := by omega
    clear hwl
    refine wp_region_any (by kernel_rfl) ?_
    change wpAny _ _ _ _ _ _ _ (World.drew _)
    refine wpAny_of_held (S := fun w' => w'.cell? ⟨rb, 9, none⟩ = some (.pointer (some ⟨mb, 0, none⟩))) _ _ _ _ ?_
    obtain ⟨w8, hw8⟩ : ∃ w8, w8 = w7.drew := ⟨_, rfl⟩
    have X8 : Hid (FwQ w6 C6 c rb k (FwS.put { f with u := feedU f.u l, lc := feedL k.line f.lc f.u l } 3 (f.off + ((L : Int) + ((q : Int) + 1)))) w8) := Lib.hid (by rw [hw8]; exact X7.out.drew)
    have CL := Lib.hid (long_any mb v5 k.line lc' (feedU f.u l) w8 (by rw [hw8]; exact HM7.out.drewN 1))
    have CU := Lib.hid (up_any rb 8 f.lo ((lc' : Int) - (f.lc : Int)) w8 X8.out.1.cells.2.2.2.2.2.2.2.2.1 (X8.out.1.frozen 8) HF.out.lo.1 HF.out.lo.2 hlcI)
    have hHeld : (fun w' => w'.cell? ⟨rb, 9, none⟩ = some (.pointer (some ⟨mb, 0, none⟩))) w8 := by rw [hw8]; exact HY7.out
    have HH := Lib.hid hHeld
    rw [← hw8]
    clear hw8 hlcI
    have hwl := HWL.out
    refine tkh 0 (v := ?_) rfl ?_ ?_; rotate_left
    · intro w hSw; (try dsimp only at hSw); go_simp <;> with_reducible rfl
    try simp only [Act.put, pz]
    refine tkh 1 (v := ?_) rfl ?_ ?_; rotate_left
    · intro w hSw; (try dsimp only at hSw); go_simp <;> with_reducible rfl
    try simp only [Act.put, pz]
    refine tkh 2 (v := ?_) rfl ?_ ?_; rotate_left
    · intro w hSw; (try dsimp only at hSw); go_simp <;> with_reducible rfl
    try simp only [Act.put, pz]
    refine tkh 3 (v := ?_) rfl ?_ ?_; rotate_left
    · intro w hSw; (try dsimp only at hSw); go_simp <;> with_reducible rfl
    try simp only [Act.put, pz]
    refine tkh 4 (v := ?_) rfl ?_ ?_; rotate_left
    · intro w hSw; (try dsimp only at hSw); go_simp <;> with_reducible rfl
    try simp only [Act.put, pz]
    refine tkh 5 (v := ?_) rfl ?_ ?_; rotate_left
    · intro w hSw; (try dsimp only at hSw); go_simp <;> with_reducible rfl
    try simp only [Act.put, pz]
    refine tkh 6 (v := ?_) rfl ?_ ?_; rotate_left
    · intro w hSw; (try dsimp only at hSw); go_simp <;> with_reducible rfl
    try simp only [Act.put, pz]
    refine tkh 7 (v := ?_) rfl ?_ ?_; rotate_left
    · intro w hSw; (try dsimp only at hSw); go_simp <;> with_reducible rfl
    try simp only [Act.put, pz]
    refine tkh 8 (v := ?_) rfl ?_ ?_; rotate_left
    · intro w hSw; (try dsimp only at hSw); go_simp <;> with_reducible rfl
    try simp only [Act.put, pz]
    refine tkh 9 (v := ?_) rfl ?_ ?_; rotate_left
    · intro w hSw; have q0 := hSw; go_simp <;> with_reducible rfl
    try simp only [Act.put, pz]
    refine tkh 11 (v := ?_) rfl ?_ ?_; rotate_left
    · intro w hSw; (try dsimp only at hSw); go_simp <;> with_reducible rfl
    try simp only [Act.put, pz]
    refine wpAnyH_ready (rs := [10]) (by kernel_rfl) (by simp) (AllReadyH.cons rfl (fun K hK => ?_) AllReadyH.nil)
    have hPrev := hHeld
    clear hHeld
    go_simp
    refine CL.out.mono ?_
    rintro e w' ⟨rfl, rfl⟩
    clear CL
    refine hK.out _ _ (HH.out) (fun hHeld => ?_)
    clear hK K hPrev
    try simp only [Act.put, pz]
    refine tkh 12 (v := ?_) rfl ?_ ?_; rotate_left
    · intro w hSw; (try dsimp only at hSw); go_simp <;> with_reducible rfl
    try simp only [Act.put, pz]
    refine wpAnyH_ready (rs := [13]) (by kernel_rfl) (by simp) (AllReadyH.cons rfl (fun K hK => ?_) AllReadyH.nil)
    have hPrev := hHeld
    clear hHeld
    go_simp
    clear hwl
    refine CU.out.mono ?_
    rintro e w9 ⟨rfl, hw9⟩
    have X9 := Lib.hid (show FwQ w6 C6 c rb k ((FwS.put { f with u := feedU f.u l, lc := feedL k.line f.lc f.u l } 3 (f.off + ((L : Int) + ((q : Int) + 1)))).put 8 (upv f.lo ((lc' : Int) - (f.lc : Int)))) w9 by rw [hw9]; exact (X8.out.put (i := 8) (by decide) _).drew)
    have y99 : w9.cell? ⟨rb, 9, none⟩ = some (.pointer (some ⟨mb, 0, none⟩)) := by
      obtain ⟨mb4, v4, h4⟩ := X8.out.1
      have h5 := h4.blk.set_ 8 (.int .i64 (upv f.lo ((lc' : Int) - (f.lc : Int))))
      have h6 := h4.blk.cell 9
      have h7 := HH.out
      rw [h7] at h6
      have h8 := h5.cell 9
      rw [hw9]
      exact h8.trans h6.symm
    have HY9' := Lib.hid y99
    clear hw9 CU y99
    refine hK.out _ _ (HY9'.out) (fun hHeld => ?_)
    clear hK K hPrev
    try simp only [Act.put, pz]
    refine wpAnyH_done (by kernel_rfl) ?_ _
    clear hHeld HH X8
    have Q9 : Hid (FwQ W C c rb k (f.readF k.line l) w9) := Lib.hid (by
      have h1 := Q6.out.trans (HC6.out.2 _ _ X9.out)
      have h2 : f.readF k.line l = (FwS.put { f with u := feedU f.u l, lc := feedL k.line f.lc f.u l } 3 (f.off + ((L : Int) + ((q : Int) + 1)))).put 8 (upv f.lo ((lc' : Int) - (f.lc : Int))) := by
        unfold FwS.readF FwS.put
        rw [HNL.out, ← HNN.out, ← HL.out, HLC.out]
        rfl
      rw [h2]; exact h1)
    have K9 : Hid (Blk w9 r 170 (lineA f tx)) := Lib.hid (K6.out.chg X9.out.2 HC6.out.1)
    clear X9 X7 X6 HM7
    go_upto_region 10 with fail
    have z0 : w9.cell? ⟨r, 0, none⟩ = some (.int .i64 f.se) := (K9.out.cell 0).trans rfl
    have zg0 := K9.out.frozen 0
    have z1 : w9.cell? ⟨r, 1, none⟩ = some (.int .i64 f.ino) := (K9.out.cell 1).trans rfl
    have zg1 := K9.out.frozen 1
    have z2 : w9.cell? ⟨r, 2, none⟩ = some (.int .i64 f.ge) := (K9.out.cell 2).trans rfl
    have zg2 := K9.out.frozen 2
    have z3 : w9.cell? ⟨r, 3, none⟩ = some (.int .i64 f.off) := (K9.out.cell 3).trans rfl
    have zg3 := K9.out.frozen 3
    have z4 : w9.cell? ⟨r, 4, none⟩ = some (.int .i64 f.mi) := (K9.out.cell 4).trans rfl
    have zg4 := K9.out.frozen 4
    have z5 : w9.cell? ⟨r, 5, none⟩ = some (.int .i64 f.go) := (K9.out.cell 5).trans rfl
    have zg5 := K9.out.frozen 5
    have z6 : w9.cell? ⟨r, 6, none⟩ = some (.int .i64 f.cu) := (K9.out.cell 6).trans rfl
    have zg6 := K9.out.frozen 6
    have z7 : w9.cell? ⟨r, 7, none⟩ = some (.int .i64 f.ta) := (K9.out.cell 7).trans rfl
    have zg7 := K9.out.frozen 7
    have z8 : w9.cell? ⟨r, 8, none⟩ = some (.int .i64 f.lo) := (K9.out.cell 8).trans rfl
    have zg8 := K9.out.frozen 8
    have z9 : w9.cell? ⟨r, 9, none⟩ = some (.string tx) := (K9.out.cell 9).trans rfl
    have zg9 := K9.out.frozen 9
    obtain ⟨wz, hwz⟩ : ∃ wz, wz = ((((((((((w9.setCell ⟨r, 0, none⟩ (.int .i64 f.se)).setCell ⟨r, 1, none⟩ (.int .i64 f.ino)).setCell ⟨r, 2, none⟩ (.int .i64 f.ge)).setCell ⟨r, 3, none⟩ (.int .i64 f.off)).setCell ⟨r, 4, none⟩ (.int .i64 f.mi)).setCell ⟨r, 5, none⟩ (.int .i64 f.go)).setCell ⟨r, 6, none⟩ (.int .i64 f.cu)).setCell ⟨r, 7, none⟩ (.int .i64 f.ta)).setCell ⟨r, 8, none⟩ (.int .i64 f.lo)).setCell ⟨r, 9, none⟩ (.string tx)) := ⟨_, rfl⟩
    have KZ : Hid (Blk wz r 170 (lineA f tx)) := Lib.hid (by rw [hwz]; exact (K9.out.line _ _ _ _ _ _ _ _ _ _).1)
    have BZ : Hid (Chg (fun b => b = r) w9 wz) := Lib.hid (by rw [hwz]; exact (K9.out.line _ _ _ _ _ _ _ _ _ _).2)
    have QZ : Hid (FwQ W C c rb k (f.readF k.line l) wz) := Lib.hid (Q9.out.far HR.out K9.out BZ.out)
    go_wp2_with fail
    rw [← hwz]
    clear hwz
    refine bodyPost_ret (v := .tuple #[.agg (lineA f tx), .bool wh, .bool true]) (ret_line rfl rfl rfl rfl KZ.out rfl) rfl ?_
    exact ⟨by rw [HTX.out, HWH.out], QZ.out⟩
  · have hup : upN l = l.length := by have := upN_le l; omega
    have hNn : N = n := by rw [HNN.out, HN.out]; unfold feedN; rw [if_neg hnl]
    subst hNn
    obtain ⟨m, hm⟩ : ∃ m, N = m + 1 := ⟨N - 1, by omega⟩
    have hml : m < l.length := by have := HN.out; omega
    have hx := hbytes m _ (List.getElem?_eq_getElem hml)
    have hx10 : l[m] ≠ 10 := upN_no (j := m) (by rw [hup]; exact hml) (List.getElem?_eq_getElem hml)
    obtain ⟨x, hxx⟩ : ∃ x, x = l[m] := ⟨_, rfl⟩
    rw [← hxx] at hx hx10
    replace hx : w6.cell? ⟨ab, off + m, none⟩ = some (.int .u8 (x.toNat : Int)) := hx
    have hxi : ((x.toNat : Int) == 10) = false := by
      rw [beq_eq_false_iff_ne]
      intro e
      refine hx10 (UInt8.toNat_inj.1 ?_)
      have e2 : x.toNat = 10 := by omega
      rw [e2]; rfl
    have HNL : Hid (nlB l = false) := Lib.hid (decide_eq_false hnl)
    have Q9 : Hid (FwQ W C c rb k (f.readF k.line l) w6) := Lib.hid (by
      have h2 : f.readF k.line l = { f with u := feedU f.u l, lc := feedL k.line f.lc f.u l } := by
        unfold FwS.readF
        rw [HNL.out]; rfl
      rw [h2]; exact Q6.out)
    subst hm
    have hmi : (m : Int) < (m : Int) + 1 := by omega
    have hm0 : (0 : Int) ≤ (m : Int) := by omega
    have hmM : (m : Int) ≤ 1048576 := by omega
    clear hup hbytes hml hx10 hxx hnl
    go_upto_region 10 with fail
    clear hx hxi
    have z0 : w6.cell? ⟨r, 0, none⟩ = some (.int .i64 f.se) := (K6.out.cell 0).trans rfl
    have zg0 := K6.out.frozen 0
    have z1 : w6.cell? ⟨r, 1, none⟩ = some (.int .i64 f.ino) := (K6.out.cell 1).trans rfl
    have zg1 := K6.out.frozen 1
    have z2 : w6.cell? ⟨r, 2, none⟩ = some (.int .i64 f.ge) := (K6.out.cell 2).trans rfl
    have zg2 := K6.out.frozen 2
    have z3 : w6.cell? ⟨r, 3, none⟩ = some (.int .i64 f.off) := (K6.out.cell 3).trans rfl
    have zg3 := K6.out.frozen 3
    have z4 : w6.cell? ⟨r, 4, none⟩ = some (.int .i64 f.mi) := (K6.out.cell 4).trans rfl
    have zg4 := K6.out.frozen 4
    have z5 : w6.cell? ⟨r, 5, none⟩ = some (.int .i64 f.go) := (K6.out.cell 5).trans rfl
    have zg5 := K6.out.frozen 5
    have z6 : w6.cell? ⟨r, 6, none⟩ = some (.int .i64 f.cu) := (K6.out.cell 6).trans rfl
    have zg6 := K6.out.frozen 6
    have z7 : w6.cell? ⟨r, 7, none⟩ = some (.int .i64 f.ta) := (K6.out.cell 7).trans rfl
    have zg7 := K6.out.frozen 7
    have z8 : w6.cell? ⟨r, 8, none⟩ = some (.int .i64 f.lo) := (K6.out.cell 8).trans rfl
    have zg8 := K6.out.frozen 8
    have z9 : w6.cell? ⟨r, 9, none⟩ = some (.string tx) := (K6.out.cell 9).trans rfl
    have zg9 := K6.out.frozen 9
    obtain ⟨wz, hwz⟩ : ∃ wz, wz = ((((((((((w6.setCell ⟨r, 0, none⟩ (.int .i64 f.se)).setCell ⟨r, 1, none⟩ (.int .i64 f.ino)).setCell ⟨r, 2, none⟩ (.int .i64 f.ge)).setCell ⟨r, 3, none⟩ (.int .i64 f.off)).setCell ⟨r, 4, none⟩ (.int .i64 f.mi)).setCell ⟨r, 5, none⟩ (.int .i64 f.go)).setCell ⟨r, 6, none⟩ (.int .i64 f.cu)).setCell ⟨r, 7, none⟩ (.int .i64 f.ta)).setCell ⟨r, 8, none⟩ (.int .i64 f.lo)).setCell ⟨r, 9, none⟩ (.string tx)) := ⟨_, rfl⟩
    have KZ : Hid (Blk wz r 170 (lineA f tx)) := Lib.hid (by rw [hwz]; exact (K6.out.line _ _ _ _ _ _ _ _ _ _).1)
    have BZ : Hid (Chg (fun b => b = r) w6 wz) := Lib.hid (by rw [hwz]; exact (K6.out.line _ _ _ _ _ _ _ _ _ _).2)
    have QZ : Hid (FwQ W C c rb k (f.readF k.line l) wz) := Lib.hid (Q9.out.far HR.out K6.out BZ.out)
    go_wp2_with fail
    rw [← hwz]
    clear hwz
    refine bodyPost_ret (v := .tuple #[.agg (lineA f tx), .bool wh, .bool true]) (ret_line rfl rfl rfl rfl KZ.out rfl) rfl ?_
    exact ⟨by rw [HTX.out, HWH.out], QZ.out⟩
end Go.Proofs.YtlojmmcagglpoaaGreat
