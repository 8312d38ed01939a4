/- THE WALKS of package follow: Mark, Held, mayMark (printed by a program of ours). -/
import Derived.Test.YtlojmmcagglpoaaGreatUFwStep
namespace Go.Proofs.YtlojmmcagglpoaaGreat
open Go.RowKit Go.Maps
attribute [local go_sem ↓] Go.wp_at_zero Go.wp_at_succ
theorem ret_mark {w : World} {b : Nat} {dc : Array Value} {p : Tmp} {fn : Func} {tmps : Array Value} (hf : fn.results = #[.cell p 100]) (hp : tmps.getD p undef = .pointer (some ⟨b, 0, none⟩)) (h : Blk w b 100 dc) (hs : dc.size = 9) :
    (results fn tmps).run Tryz.prog w = .ok (.agg dc) w := by
  have h4 : (Tryz.prog.info? 100).map (·.size) = some 9 := by kernel_rfl
  have hl := run_loadVar_row (P := Tryz.prog) w b 100 100 dc (0, 0) _ h Tryz.underlying100 rfl (by rw [h4, hs])
  rw [Array.getD_eq_getD_getElem?] at hp
  simp only [results, hf]
  simp [hp, asAddr, hl]
theorem Blk.mark {w : World} {r : Nat} {b0 b1 b2 b3 b4 b5 b6 b7 b8 : Value} (h : Blk w r 100 #[b0, b1, b2, b3, b4, b5, b6, b7, b8]) (a0 a1 a2 a3 a4 a5 a6 a7 a8 : Int) : Blk (((((((((w.setCell ⟨r, 0, none⟩ (.int .i64 a0)).setCell ⟨r, 1, none⟩ (.int .i64 a1)).setCell ⟨r, 2, none⟩ (.int .i64 a2)).setCell ⟨r, 3, none⟩ (.int .i64 a3)).setCell ⟨r, 4, none⟩ (.int .i64 a4)).setCell ⟨r, 5, none⟩ (.int .i64 a5)).setCell ⟨r, 6, none⟩ (.int .i64 a6)).setCell ⟨r, 7, none⟩ (.int .i64 a7)).setCell ⟨r, 8, none⟩ (.int .i64 a8)) r 100 #[.int .i64 a0, .int .i64 a1, .int .i64 a2, .int .i64 a3, .int .i64 a4, .int .i64 a5, .int .i64 a6, .int .i64 a7, .int .i64 a8] ∧ Chg (fun b => b = r) w (((((((((w.setCell ⟨r, 0, none⟩ (.int .i64 a0)).setCell ⟨r, 1, none⟩ (.int .i64 a1)).setCell ⟨r, 2, none⟩ (.int .i64 a2)).setCell ⟨r, 3, none⟩ (.int .i64 a3)).setCell ⟨r, 4, none⟩ (.int .i64 a4)).setCell ⟨r, 5, none⟩ (.int .i64 a5)).setCell ⟨r, 6, none⟩ (.int .i64 a6)).setCell ⟨r, 7, none⟩ (.int .i64 a7)).setCell ⟨r, 8, none⟩ (.int .i64 a8)) := by
  have h1 := (((((((((h.set_ 0 (.int .i64 a0)).set_ 1 (.int .i64 a1)).set_ 2 (.int .i64 a2)).set_ 3 (.int .i64 a3)).set_ 4 (.int .i64 a4)).set_ 5 (.int .i64 a5)).set_ 6 (.int .i64 a6)).set_ 7 (.int .i64 a7)).set_ 8 (.int .i64 a8))
  simp only [List.setIfInBounds_toArray, List.set_cons_zero, List.set_cons_succ] at h1
  refine ⟨h1, ?_⟩
  exact ((((((((((Chg.refl (fun b => b = r) w).setCell (.inl rfl) _).setCell (.inl rfl) _).setCell (.inl rfl) _).setCell (.inl rfl) _).setCell (.inl rfl) _).setCell (.inl rfl) _).setCell (.inl rfl) _).setCell (.inl rfl) _).setCell (.inl rfl) _)
set_option maxRecDepth 20000 in
set_option maxHeartbeats 4000000 in
theorem fw_mark {W : World} {C : Nat → Nat} {c rb fl : Nat} {k : FwK} {f : FwS} (h : FwR W C c rb k f) (hfl : Blk W fl 221 #[.pointer (some ⟨rb, 0, none⟩)]) : Calls Tryz.prog 89 #[.pointer (some ⟨fl, 0, none⟩)] W fun e w' => e = .returned (.agg f.mark) ∧ Below W.heap.size W w' := by
  obtain ⟨w1, hw1⟩ : ∃ w1, w1 = W.alloc (.cells #[.int .i64 0, .int .i64 0, .int .i64 0, .int .i64 0, .int .i64 0, .int .i64 0, .int .i64 0, .int .i64 0, .int .i64 0] 100) := ⟨_, rfl⟩
  obtain ⟨r, hr⟩ : ∃ r, r = W.heap.size := ⟨_, rfl⟩
  have B1 : Hid (Below W.heap.size W w1) := Lib.hid (by rw [hw1]; exact (Below.refl _ _).alloc (Nat.le_refl _) _)
  have K1 : Hid (Blk w1 r 100 #[.int .i64 0, .int .i64 0, .int .i64 0, .int .i64 0, .int .i64 0, .int .i64 0, .int .i64 0, .int .i64 0, .int .i64 0]) := Lib.hid (by rw [hw1]; exact Blk.new W _ _ hr)
  have HR : Hid (W.heap.size ≤ r) := Lib.hid (by omega)
  have y0 : w1.cell? ⟨fl, 0, none⟩ = some (.pointer (some ⟨rb, 0, none⟩)) := (hfl.keep B1.out).cell 0
  obtain ⟨x0, x1, x2, x3, x4, x5, x6, x7, x8, _, _, _⟩ := (h.keep B1.out).cells
  clear h hfl
  go_enter Tryz.func89, Tryz.ntmps89
  go_upto_region 1 with fail
  rw [← hw1, ← hr]
  clear hw1 hr
  have z0 : w1.cell? ⟨r, 0, none⟩ = some (.int .i64 0) := K1.out.cell 0
  have g0 := K1.out.frozen 0
  have z1 : w1.cell? ⟨r, 1, none⟩ = some (.int .i64 0) := K1.out.cell 1
  have g1 := K1.out.frozen 1
  have z2 : w1.cell? ⟨r, 2, none⟩ = some (.int .i64 0) := K1.out.cell 2
  have g2 := K1.out.frozen 2
  have z3 : w1.cell? ⟨r, 3, none⟩ = some (.int .i64 0) := K1.out.cell 3
  have g3 := K1.out.frozen 3
  have z4 : w1.cell? ⟨r, 4, none⟩ = some (.int .i64 0) := K1.out.cell 4
  have g4 := K1.out.frozen 4
  have z5 : w1.cell? ⟨r, 5, none⟩ = some (.int .i64 0) := K1.out.cell 5
  have g5 := K1.out.frozen 5
  have z6 : w1.cell? ⟨r, 6, none⟩ = some (.int .i64 0) := K1.out.cell 6
  have g6 := K1.out.frozen 6
  have z7 : w1.cell? ⟨r, 7, none⟩ = some (.int .i64 0) := K1.out.cell 7
  have g7 := K1.out.frozen 7
  have z8 : w1.cell? ⟨r, 8, none⟩ = some (.int .i64 0) := K1.out.cell 8
  have g8 := K1.out.frozen 8
  obtain ⟨wz, hwz⟩ : ∃ wz, wz = (((((((((w1.setCell ⟨r, 0, none⟩ (.int .i64 f.se)).setCell ⟨r, 1, none⟩ (.int .i64 f.ino)).setCell ⟨r, 2, none⟩ (.int .i64 f.ge)).setCell ⟨r, 3, none⟩ (.int .i64 f.off)).setCell ⟨r, 4, none⟩ (.int .i64 f.mi)).setCell ⟨r, 5, none⟩ (.int .i64 f.go)).setCell ⟨r, 6, none⟩ (.int .i64 f.cu)).setCell ⟨r, 7, none⟩ (.int .i64 f.ta)).setCell ⟨r, 8, none⟩ (.int .i64 f.lo)) := ⟨_, rfl⟩
  have KZ : Hid (Blk wz r 100 f.mark) := Lib.hid (by rw [hwz]; exact (K1.out.mark _ _ _ _ _ _ _ _ _).1)
  have BZ : Hid (Below W.heap.size W wz) := Lib.hid (by rw [hwz]; exact B1.out.trans ((K1.out.mark _ _ _ _ _ _ _ _ _).2.below (fun b hb e => by have := HR.out; omega) B1.out.size))
  go_wp2_with fail
  rw [← hwz]
  clear hwz
  refine bodyPost_ret (v := .agg f.mark) (ret_mark rfl rfl KZ.out rfl) rfl ?_
  exact ⟨rfl, BZ.out⟩
set_option maxRecDepth 20000 in
set_option maxHeartbeats 2000000 in
theorem fw_held {W : World} {C : Nat → Nat} {c rb fl : Nat} {k : FwK} {f : FwS} (h : FwR W C c rb k f) (hfl : Blk W fl 221 #[.pointer (some ⟨rb, 0, none⟩)]) : Calls Tryz.prog 88 #[.pointer (some ⟨fl, 0, none⟩)] W fun e w' => e = .returned (.int .i64 ((heldOf k.line f.u).length : Int)) ∧ W = w' := by
  have y0 : W.cell? ⟨fl, 0, none⟩ = some (.pointer (some ⟨rb, 0, none⟩)) := hfl.cell 0
  obtain ⟨mb, v, y9, hm, _⟩ := h.maker
  have CH := Lib.hid (held_any mb v k.line f.lc f.u W hm)
  generalize (heldOf k.line f.u).length = q at *
  clear h hfl hm
  go_enter Tryz.func88, Tryz.ntmps88
  go_wp2_with fail
  refine CH.out.mono ?_
  rintro e w' ⟨rfl, rfl⟩
  go_wp2_with fail
  go_ret
  exact ⟨rfl, rfl⟩
def FwS.nums (f : FwS) : List Int := [f.se, f.ino, f.ge, f.off, f.mi, f.go, f.cu, f.ta, f.lo]
def inMB (x : Int) : Bool := decide (0 ≤ x) && decide (x ≤ 4611686018427387904)
def FwS.okM (f : FwS) : Bool := f.nums.all inMB && (if f.ino = 0 then decide (f.ge = 0) && decide (f.off = 0) else decide (0 < f.se))
theorem FwS.okM_ok {f : FwS} (h : f.okM = true) : f.Ok := by
  unfold FwS.okM FwS.nums inMB at h
  simp only [List.all_cons, List.all_nil, Bool.and_eq_true, decide_eq_true_eq] at h
  obtain ⟨⟨h0, h1, h2, h3, h4, h5, h6, h7, h8, _⟩, _⟩ := h
  exact ⟨h0, h1, h2, h3, h4, h5, h6, h7, h8⟩
set_option maxRecDepth 20000 in
set_option maxHeartbeats 4000000 in
theorem fw_mayMark (W : World) (f : FwS) : Calls Tryz.prog 121 #[.agg f.mark] W fun e w' => e = .returned (.bool f.okM) ∧ Below W.heap.size W w' := by
  obtain ⟨w1, hw1⟩ : ∃ w1, w1 = W.alloc (.cells #[.int .i64 f.se, .int .i64 f.ino, .int .i64 f.ge, .int .i64 f.off, .int .i64 f.mi, .int .i64 f.go, .int .i64 f.cu, .int .i64 f.ta, .int .i64 f.lo] 100) := ⟨_, rfl⟩
  obtain ⟨m, hm⟩ : ∃ m, m = W.heap.size := ⟨_, rfl⟩
  obtain ⟨w2, hw2⟩ : ∃ w2, w2 = w1.alloc (.cells #[.int .i64 f.se, .int .i64 f.ino, .int .i64 f.ge, .int .i64 f.off, .int .i64 f.mi, .int .i64 f.go, .int .i64 f.cu, .int .i64 f.ta, .int .i64 f.lo] 3) := ⟨_, rfl⟩
  obtain ⟨s, hs⟩ : ∃ s, s = w1.heap.size := ⟨_, rfl⟩
  have B1 : Hid (Below W.heap.size W w1) := Lib.hid (by rw [hw1]; exact (Below.refl _ _).alloc (Nat.le_refl _) _)
  have B2 : Hid (Below W.heap.size W w2) := Lib.hid (by rw [hw2]; exact B1.out.alloc B1.out.size _)
  have K1 : Hid (Blk w1 m 100 #[.int .i64 f.se, .int .i64 f.ino, .int .i64 f.ge, .int .i64 f.off, .int .i64 f.mi, .int .i64 f.go, .int .i64 f.cu, .int .i64 f.ta, .int .i64 f.lo]) := Lib.hid (by rw [hw1]; exact Blk.new W _ _ hm)
  have K12 : Hid (Blk w2 m 100 #[.int .i64 f.se, .int .i64 f.ino, .int .i64 f.ge, .int .i64 f.off, .int .i64 f.mi, .int .i64 f.go, .int .i64 f.cu, .int .i64 f.ta, .int .i64 f.lo]) := Lib.hid (by rw [hw2]; exact K1.out.alloc _)
  have K2 : Hid (Blk w2 s 3 #[.int .i64 f.se, .int .i64 f.ino, .int .i64 f.ge, .int .i64 f.off, .int .i64 f.mi, .int .i64 f.go, .int .i64 f.cu, .int .i64 f.ta, .int .i64 f.lo]) := Lib.hid (by rw [hw2]; exact Blk.new w1 _ _ hs)
  have HC : Hid (∀ j (hj : j < 9), w2.cell? ⟨s, j, none⟩ = some (.int .i64 (f.nums[j]'hj))) := Lib.hid (fun j hj => by
    rw [K2.out.cell]
    match j, hj with
    | 0, _ => rfl
    | 1, _ => rfl
    | 2, _ => rfl
    | 3, _ => rfl
    | 4, _ => rfl
    | 5, _ => rfl
    | 6, _ => rfl
    | 7, _ => rfl
    | 8, _ => rfl)
  have x0 : w1.cell? ⟨m, 0, none⟩ = some (.int .i64 f.se) := K1.out.cell 0
  have x1 : w1.cell? ⟨m, 1, none⟩ = some (.int .i64 f.ino) := K1.out.cell 1
  have x2 : w1.cell? ⟨m, 2, none⟩ = some (.int .i64 f.ge) := K1.out.cell 2
  have x3 : w1.cell? ⟨m, 3, none⟩ = some (.int .i64 f.off) := K1.out.cell 3
  have x4 : w1.cell? ⟨m, 4, none⟩ = some (.int .i64 f.mi) := K1.out.cell 4
  have x5 : w1.cell? ⟨m, 5, none⟩ = some (.int .i64 f.go) := K1.out.cell 5
  have x6 : w1.cell? ⟨m, 6, none⟩ = some (.int .i64 f.cu) := K1.out.cell 6
  have x7 : w1.cell? ⟨m, 7, none⟩ = some (.int .i64 f.ta) := K1.out.cell 7
  have x8 : w1.cell? ⟨m, 8, none⟩ = some (.int .i64 f.lo) := K1.out.cell 8
  unfold FwS.mark
  go_enter Tryz.func121, Tryz.ntmps121
  go_upto_region 1 with fail
  rw [← hw1, ← hm]
  clear hw1 hm
  go_wp2_with fail
  rw [← hw2, ← hs]
  clear hw2 hs x0 x1 x2 x3 x4 x5 x6 x7 x8
  go_loop [30] (fun jv => ∃ j : Nat, j ≤ 9 ∧ jv = .int .i64 (j : Int) ∧ Hid ((f.nums.take j).all inMB = true)) (fun jv => 9 - (intOf jv).toNat)
  case atStart => exact ⟨0, by omega, rfl, Lib.hid rfl⟩
  case round =>
    obtain ⟨j, hj, rfl, HJ⟩ := hrel
    by_cases hlt : j < 9
    · have c0 := HC.out j hlt
      have hn9 : f.nums.length = 9 := rfl
      have HT : Hid ((f.nums.take (j + 1)).all inMB = inMB (f.nums[j]'hlt)) := Lib.hid (by
        rw [List.take_succ_eq_append_getElem (by rw [hn9]; exact hlt), List.all_append, HJ.out]
        simp; rfl)
      have HA : Hid (inMB (f.nums[j]'hlt) = false → f.okM = false) := Lib.hid (fun h => by
        unfold FwS.okM
        have h2 : f.nums.all inMB = false := by
          rw [List.all_eq_false]
          exact ⟨f.nums[j]'hlt, List.getElem_mem _, by rw [h]; decide⟩
        rw [h2]; rfl)
      generalize f.nums[j]'hlt = x at *
      clear hn9
      have hji : (j : Int) < 9 := by omega
      by_cases h0 : x < 0
      · have HF : Hid (f.okM = false) := Lib.hid (HA.out (by unfold inMB; rw [decide_eq_false (by omega)]; rfl))
        go_wp2_with fail
        go_ret
        exact ⟨by rw [HF.out]; rfl, B2.out⟩
      · by_cases h1 : 4611686018427387904 < x
        · have HF : Hid (f.okM = false) := Lib.hid (HA.out (by unfold inMB; rw [decide_eq_false (show ¬ x ≤ 4611686018427387904 by omega), Bool.and_false]))
          go_wp2_with fail
          go_ret
          exact ⟨by rw [HF.out]; rfl, B2.out⟩
        · have HJ2 : Hid ((f.nums.take (j + 1)).all inMB = true) := Lib.hid (by rw [HT.out]; unfold inMB; rw [decide_eq_true (show 0 ≤ x by omega), decide_eq_true (show x ≤ 4611686018427387904 by omega)]; rfl)
          go_wp2_with fail
          go_round
          case rel => exact ⟨j + 1, by omega, by simp, HJ2⟩
          case measure => simp [intOf]; omega
    · obtain rfl : j = 9 := by omega
      have HALL : Hid (f.okM = (if f.ino = 0 then decide (f.ge = 0) && decide (f.off = 0) else decide (0 < f.se))) := Lib.hid (by
        have h1 : f.nums.all inMB = true := HJ.out
        unfold FwS.okM
        rw [h1]; rfl)
      have y0 : w2.cell? ⟨m, 0, none⟩ = some (.int .i64 f.se) := K12.out.cell 0
      have y1 : w2.cell? ⟨m, 1, none⟩ = some (.int .i64 f.ino) := K12.out.cell 1
      have y2 : w2.cell? ⟨m, 2, none⟩ = some (.int .i64 f.ge) := K12.out.cell 2
      have y3 : w2.cell? ⟨m, 3, none⟩ = some (.int .i64 f.off) := K12.out.cell 3
      generalize f.se = a0 at *
      generalize f.ino = a1 at *
      generalize f.ge = a2 at *
      generalize f.off = a3 at *
      clear hlt
      by_cases h1 : a1 = 0
      · subst h1
        by_cases h2 : a2 = 0
        · subst h2
          go_wp2_with fail
          go_ret
          exact ⟨by rw [HALL.out]; simp; rfl, B2.out⟩
        · have hne : (a2 == (0 : Int)) = false := beq_eq_false_iff_ne.2 h2
          go_wp2_with fail
          go_ret
          exact ⟨by rw [HALL.out]; simp [h2], B2.out⟩
      · have hne : (a1 == (0 : Int)) = false := beq_eq_false_iff_ne.2 h1
        go_wp2_with fail
        go_ret
        exact ⟨by rw [HALL.out, if_neg h1]; rfl, B2.out⟩
def FwS.born (f : FwS) (S : List UInt8 → T5) (k : FwK) : FwS := if 0 < f.ino ∧ namesB (S k.nm) f.ino = false ∧ namesB (S k.ro) f.ino = false then { f with u := [], lc := 0 }.gone else { f with u := [], lc := 0 }
def NoNewQ (W : World) (n : Int) (e : Ending) (w' : World) : Prop := e = .returned (.tuple #[.pointer none, .int .i64 n]) ∧ Below W.heap.size W w'
def BornQ (W : World) (C : Nat → Nat) (c : Nat) (k : FwK) (f : FwS) (e : Ending) (w' : World) : Prop := ∃ fl rb, e = .returned (.tuple #[.pointer (some ⟨fl, 0, none⟩), .int .i64 0]) ∧ Blk w' fl 221 #[.pointer (some ⟨rb, 0, none⟩)] ∧ FwR w' (paint C W.heap.size c) c rb k f ∧ W.heap.size ≤ fl ∧ W.heap.size ≤ rb ∧ Below W.heap.size W w'
def mayPB (S : List UInt8 → T5) (k : FwK) : Bool := decide ((S k.nm).2.2.2.2 ≠ 140) && (decide (k.ro = []) || decide ((S k.ro).2.2.2.2 ≠ 140))
def mayNB (line ch : Int) (f : FwS) : Bool := decide (1 ≤ line) && (decide (line ≤ 4096) && (decide (1 ≤ ch) && (decide (ch ≤ 4096) && f.okM)))
theorem strBL (a : List UInt8) : (strB a).toList = a := by rw [ByteArray.toList_eq]; rfl
theorem born_at {W w1 : World} {C : Nat → Nat} {c rb mb : Nat} {k : FwK} {f : FwS} (hb : Blk w1 rb 218 (rdC k { f with u := [], lc := 0 } mb)) (hm : MK w1 mb (.slice none 0 0) k.line [] 0) (h1 : W.heap.size ≤ rb) (h2 : W.heap.size ≤ mb) : FwR w1 (paint C W.heap.size c) c rb k { f with u := [], lc := 0 } :=
  ⟨mb, _, hb, hm, paint_new _ _ h1, paint_new _ _ h2, fun q hq => by cases hq⟩
set_option maxRecDepth 20000 in
set_option maxHeartbeats 4000000 in
theorem fw_new_name {W : World} {p : Nat} {D : World → Prop} {S : List UInt8 → T5} {I : Int → T5} {R : Int → Int → Int → Int → List UInt8 × Int} (k : FwK) (f : FwS) (line : Int) (ha : Asks p D S I R) (hD : ∀ w, Below W.heap.size W w → D w) (hn : mayPB S k = false) : Calls Tryz.prog 86 #[.agg #[.string (strB k.nm), .string (strB k.ro)], .int .i64 line, .int .i64 k.ch, .agg f.mark, .pointer (some ⟨p, 0, none⟩)] W (NoNewQ W 140) := by
  obtain ⟨w1, hw1⟩ : ∃ w1, w1 = (W.alloc (.cells #[.string (strB k.nm), .string (strB k.ro)] 96)).alloc (.cells #[.int .i64 f.se, .int .i64 f.ino, .int .i64 f.ge, .int .i64 f.off, .int .i64 f.mi, .int .i64 f.go, .int .i64 f.cu, .int .i64 f.ta, .int .i64 f.lo] 100) := ⟨_, rfl⟩
  obtain ⟨gp, hgp⟩ : ∃ gp, gp = W.heap.size := ⟨_, rfl⟩
  obtain ⟨gm, hgm⟩ : ∃ gm, gm = W.heap.size + 1 := ⟨_, rfl⟩
  have B1 : Hid (Below W.heap.size W w1) := Lib.hid (by rw [hw1]; exact ((Below.refl _ _).alloc (Nat.le_refl _) _).alloc (by simp) _)
  have KP : Hid (Blk w1 gp 96 #[.string (strB k.nm), .string (strB k.ro)]) := Lib.hid (by rw [hw1]; exact (Blk.new W _ _ hgp).alloc _)
  have KM : Hid (Blk w1 gm 100 #[.int .i64 f.se, .int .i64 f.ino, .int .i64 f.ge, .int .i64 f.off, .int .i64 f.mi, .int .i64 f.go, .int .i64 f.cu, .int .i64 f.ta, .int .i64 f.lo]) := Lib.hid (by rw [hw1]; exact Blk.new _ _ _ (by rw [hgm]; simp))
  have HA := Lib.hid ha
  have HD := Lib.hid hD
  have HPC : Hid (∀ w, Below w1.heap.size w1 w → w.cell? ⟨gp, 0, none⟩ = some (.string (strB k.nm)) ∧ w.cell? ⟨gp, 1, none⟩ = some (.string (strB k.ro))) := Lib.hid (fun w hb => ⟨(KP.out.keep hb).cell 0, (KP.out.keep hb).cell 1⟩)
  have HMC : Hid (∀ w, Below w1.heap.size w1 w → w.cell? ⟨gm, 0, none⟩ = some (.int .i64 f.se) ∧ w.cell? ⟨gm, 1, none⟩ = some (.int .i64 f.ino) ∧ w.cell? ⟨gm, 2, none⟩ = some (.int .i64 f.ge) ∧ w.cell? ⟨gm, 3, none⟩ = some (.int .i64 f.off) ∧ w.cell? ⟨gm, 4, none⟩ = some (.int .i64 f.mi) ∧ w.cell? ⟨gm, 5, none⟩ = some (.int .i64 f.go) ∧ w.cell? ⟨gm, 6, none⟩ = some (.int .i64 f.cu) ∧ w.cell? ⟨gm, 7, none⟩ = some (.int .i64 f.ta) ∧ w.cell? ⟨gm, 8, none⟩ = some (.int .i64 f.lo)) := Lib.hid (fun w hb => ⟨(KM.out.keep hb).cell 0, (KM.out.keep hb).cell 1, (KM.out.keep hb).cell 2, (KM.out.keep hb).cell 3, (KM.out.keep hb).cell 4, (KM.out.keep hb).cell 5, (KM.out.keep hb).cell 6, (KM.out.keep hb).cell 7, (KM.out.keep hb).cell 8⟩)
  obtain ⟨p0, p1⟩ := HPC.out w1 (Below.refl _ _)
  clear ha hD
  unfold FwS.mark
  go_enter Tryz.func86, Tryz.ntmps86
  go_upto_region 1 with fail
  rw [← hw1, ← hgm, ← hgp]
  clear hw1 hgp hgm
  have CM := Lib.hid (fw_mayName k.nm HA.out (HD.out w1 B1.out))
  have HN := Lib.hid hn
  clear hn
  by_cases h1 : (S k.nm).2.2.2.2 = 140
  · rw [show decide ((S k.nm).2.2.2.2 ≠ 140) = false from decide_eq_false (fun h => h h1)] at CM
    clear h1
    go_wp2_with fail
    refine CM.out.mono ?_
    rintro e w2 ⟨rfl, hb2⟩
    have HF : Hid (NoNewQ W 140 (.returned (.tuple #[.pointer none, .int .i64 140])) w2) := Lib.hid ⟨rfl, B1.out.trans (hb2.mono B1.out.size)⟩
    clear hb2 CM p0 p1
    go_wp2_with fail
    go_ret2
    exact HF.out
  · rw [show decide ((S k.nm).2.2.2.2 ≠ 140) = true from decide_eq_true h1] at CM
    have hro : k.ro ≠ [] ∧ (S k.ro).2.2.2.2 = 140 := by
      have h2 := HN.out
      unfold mayPB at h2
      rw [decide_eq_true h1, Bool.true_and, Bool.or_eq_false_iff] at h2
      exact ⟨of_decide_eq_false h2.1, by have := of_decide_eq_false h2.2; exact Decidable.not_not.1 this⟩
    have hne : (strB k.ro).toList.isEmpty = false := by rw [strBL]; cases h : k.ro with | nil => exact absurd h hro.1 | cons a l => rfl
    have hne2 : ¬ (strB k.ro).toList = [] := by rw [strBL]; exact hro.1
    have H140 := Lib.hid hro.2
    clear h1 hro
    go_wp2_with fail
    refine CM.out.mono ?_
    rintro e w2 ⟨rfl, hb2⟩
    have B2 := Lib.hid hb2
    have CR := Lib.hid (fw_mayName k.ro HA.out (HD.out w2 (B1.out.trans (hb2.mono B1.out.size))))
    rw [show decide ((S k.ro).2.2.2.2 ≠ 140) = false from decide_eq_false (fun h => h H140.out)] at CR
    obtain ⟨p0, p1⟩ := HPC.out w2 hb2
    clear hb2 CM
    go_wp2_with fail
    refine CR.out.mono ?_
    rintro e w3 ⟨rfl, hb3⟩
    have HF : Hid (NoNewQ W 140 (.returned (.tuple #[.pointer none, .int .i64 140])) w3) := Lib.hid ⟨rfl, B1.out.trans ((B2.out.trans (hb3.mono B2.out.size)).mono B1.out.size)⟩
    clear hb3 CR
    go_wp2_with fail
    go_ret2
    exact HF.out
set_option maxRecDepth 20000 in
set_option maxHeartbeats 8000000 in
theorem fw_new_inval {W : World} {p : Nat} {D : World → Prop} {S : List UInt8 → T5} {I : Int → T5} {R : Int → Int → Int → Int → List UInt8 × Int} (k : FwK) (f : FwS) (line : Int) (ha : Asks p D S I R) (hD : ∀ w, Below W.heap.size W w → D w) (hn : mayPB S k = true) (hl : mayNB line k.ch f = false) : Calls Tryz.prog 86 #[.agg #[.string (strB k.nm), .string (strB k.ro)], .int .i64 line, .int .i64 k.ch, .agg f.mark, .pointer (some ⟨p, 0, none⟩)] W (NoNewQ W 1) := by
  obtain ⟨w1, hw1⟩ : ∃ w1, w1 = (W.alloc (.cells #[.string (strB k.nm), .string (strB k.ro)] 96)).alloc (.cells #[.int .i64 f.se, .int .i64 f.ino, .int .i64 f.ge, .int .i64 f.off, .int .i64 f.mi, .int .i64 f.go, .int .i64 f.cu, .int .i64 f.ta, .int .i64 f.lo] 100) := ⟨_, rfl⟩
  obtain ⟨gp, hgp⟩ : ∃ gp, gp = W.heap.size := ⟨_, rfl⟩
  obtain ⟨gm, hgm⟩ : ∃ gm, gm = W.heap.size + 1 := ⟨_, rfl⟩
  have B1 : Hid (Below W.heap.size W w1) := Lib.hid (by rw [hw1]; exact ((Below.refl _ _).alloc (Nat.le_refl _) _).alloc (by simp) _)
  have KP : Hid (Blk w1 gp 96 #[.string (strB k.nm), .string (strB k.ro)]) := Lib.hid (by rw [hw1]; exact (Blk.new W _ _ hgp).alloc _)
  have KM : Hid (Blk w1 gm 100 #[.int .i64 f.se, .int .i64 f.ino, .int .i64 f.ge, .int .i64 f.off, .int .i64 f.mi, .int .i64 f.go, .int .i64 f.cu, .int .i64 f.ta, .int .i64 f.lo]) := Lib.hid (by rw [hw1]; exact Blk.new _ _ _ (by rw [hgm]; simp))
  have HA := Lib.hid ha
  have HD := Lib.hid hD
  have HPC : Hid (∀ w, Below w1.heap.size w1 w → w.cell? ⟨gp, 0, none⟩ = some (.string (strB k.nm)) ∧ w.cell? ⟨gp, 1, none⟩ = some (.string (strB k.ro))) := Lib.hid (fun w hb => ⟨(KP.out.keep hb).cell 0, (KP.out.keep hb).cell 1⟩)
  have HMC : Hid (∀ w, Below w1.heap.size w1 w → w.cell? ⟨gm, 0, none⟩ = some (.int .i64 f.se) ∧ w.cell? ⟨gm, 1, none⟩ = some (.int .i64 f.ino) ∧ w.cell? ⟨gm, 2, none⟩ = some (.int .i64 f.ge) ∧ w.cell? ⟨gm, 3, none⟩ = some (.int .i64 f.off) ∧ w.cell? ⟨gm, 4, none⟩ = some (.int .i64 f.mi) ∧ w.cell? ⟨gm, 5, none⟩ = some (.int .i64 f.go) ∧ w.cell? ⟨gm, 6, none⟩ = some (.int .i64 f.cu) ∧ w.cell? ⟨gm, 7, none⟩ = some (.int .i64 f.ta) ∧ w.cell? ⟨gm, 8, none⟩ = some (.int .i64 f.lo)) := Lib.hid (fun w hb => ⟨(KM.out.keep hb).cell 0, (KM.out.keep hb).cell 1, (KM.out.keep hb).cell 2, (KM.out.keep hb).cell 3, (KM.out.keep hb).cell 4, (KM.out.keep hb).cell 5, (KM.out.keep hb).cell 6, (KM.out.keep hb).cell 7, (KM.out.keep hb).cell 8⟩)
  obtain ⟨p0, p1⟩ := HPC.out w1 (Below.refl _ _)
  clear ha hD
  unfold FwS.mark
  go_enter Tryz.func86, Tryz.ntmps86
  go_upto_region 1 with fail
  rw [← hw1, ← hgm, ← hgp]
  clear hw1 hgp hgm
  have CM := Lib.hid (fw_mayName k.nm HA.out (HD.out w1 B1.out))
  have hn1 : (S k.nm).2.2.2.2 ≠ 140 := by
    unfold mayPB at hn
    rw [Bool.and_eq_true] at hn
    exact of_decide_eq_true hn.1
  rw [show decide ((S k.nm).2.2.2.2 ≠ 140) = true from decide_eq_true hn1] at CM
  have HN := Lib.hid hn
  clear hn hn1
  by_cases hro : k.ro = []
  · have hne : (strB k.ro).toList = [] := by rw [strBL]; exact hro
    clear hro
    go_wp2_with fail
    refine CM.out.mono ?_
    rintro e w2 ⟨rfl, hb2⟩
    have BX : Hid (Below w1.heap.size w1 w2) := Lib.hid hb2
    obtain ⟨p0, p1⟩ := HPC.out w2 hb2
    clear hb2 CM
    have HL := Lib.hid hl
    clear hl
    by_cases c1 : line < 1
    · skip
      have HF : Hid (NoNewQ W 1 (.returned (.tuple #[.pointer none, .int .i64 1])) w2) := Lib.hid ⟨rfl, B1.out.trans (BX.out.mono B1.out.size)⟩
      go_wp2_with fail
      go_ret2
      exact HF.out
    by_cases c2 : 4096 < line
    · skip
      have HF : Hid (NoNewQ W 1 (.returned (.tuple #[.pointer none, .int .i64 1])) w2) := Lib.hid ⟨rfl, B1.out.trans (BX.out.mono B1.out.size)⟩
      go_wp2_with fail
      go_ret2
      exact HF.out
    by_cases c3 : k.ch < 1
    · skip
      have HF : Hid (NoNewQ W 1 (.returned (.tuple #[.pointer none, .int .i64 1])) w2) := Lib.hid ⟨rfl, B1.out.trans (BX.out.mono B1.out.size)⟩
      go_wp2_with fail
      go_ret2
      exact HF.out
    by_cases c4 : 4096 < k.ch
    · skip
      have HF : Hid (NoNewQ W 1 (.returned (.tuple #[.pointer none, .int .i64 1])) w2) := Lib.hid ⟨rfl, B1.out.trans (BX.out.mono B1.out.size)⟩
      go_wp2_with fail
      go_ret2
      exact HF.out
    have hok : f.okM = false := by
      have h := HL.out
      unfold mayNB at h
      rw [decide_eq_true (show 1 ≤ line by omega), decide_eq_true (show line ≤ 4096 by omega), decide_eq_true (show 1 ≤ k.ch by omega), decide_eq_true (show k.ch ≤ 4096 by omega)] at h
      simpa using h
    have CK := Lib.hid (fw_mayMark w2 f)
    rw [hok] at CK
    unfold FwS.mark at CK
    obtain ⟨m0, m1, m2, m3, m4, m5, m6, m7, m8⟩ := HMC.out w2 BX.out
    clear hok
    go_wp2_with fail
    refine CK.out.mono ?_
    rintro e w8 ⟨rfl, hb8⟩
    have B8 : Hid (Below w1.heap.size w1 w8) := Lib.hid (BX.out.trans (hb8.mono BX.out.size))
    clear hb8 CK m0 m1 m2 m3 m4 m5 m6 m7 m8 p0 p1
    have HF : Hid (NoNewQ W 1 (.returned (.tuple #[.pointer none, .int .i64 1])) w8) := Lib.hid ⟨rfl, B1.out.trans (B8.out.mono B1.out.size)⟩
    go_wp2_with fail
    go_ret2
    exact HF.out
  · have hne : (strB k.ro).toList.isEmpty = false := by rw [strBL]; cases h : k.ro with | nil => exact absurd h hro | cons a l => rfl
    have hne2 : ¬ (strB k.ro).toList = [] := by rw [strBL]; exact hro
    have h140 : (S k.ro).2.2.2.2 ≠ 140 := by
      have h2 := HN.out
      unfold mayPB at h2
      rw [Bool.and_eq_true, decide_eq_false hro, Bool.false_or] at h2
      exact of_decide_eq_true h2.2
    have H140 := Lib.hid h140
    clear hro h140
    go_wp2_with fail
    refine CM.out.mono ?_
    rintro e w2 ⟨rfl, hb2⟩
    have B2 := Lib.hid hb2
    have CR := Lib.hid (fw_mayName k.ro HA.out (HD.out w2 (B1.out.trans (hb2.mono B1.out.size))))
    rw [show decide ((S k.ro).2.2.2.2 ≠ 140) = true from decide_eq_true H140.out] at CR
    obtain ⟨p0, p1⟩ := HPC.out w2 hb2
    clear hb2 CM
    go_wp2_with fail
    refine CR.out.mono ?_
    rintro e w3 ⟨rfl, hb3⟩
    have BX : Hid (Below w1.heap.size w1 w3) := Lib.hid (B2.out.trans (hb3.mono B2.out.size))
    clear p0 p1 hne hne2
    obtain ⟨p0, p1⟩ := HPC.out w3 BX.out
    clear hb3 CR
    have HL := Lib.hid hl
    clear hl
    by_cases c1 : line < 1
    · skip
      have HF : Hid (NoNewQ W 1 (.returned (.tuple #[.pointer none, .int .i64 1])) w3) := Lib.hid ⟨rfl, B1.out.trans (BX.out.mono B1.out.size)⟩
      go_wp2_with fail
      go_ret2
      exact HF.out
    by_cases c2 : 4096 < line
    · skip
      have HF : Hid (NoNewQ W 1 (.returned (.tuple #[.pointer none, .int .i64 1])) w3) := Lib.hid ⟨rfl, B1.out.trans (BX.out.mono B1.out.size)⟩
      go_wp2_with fail
      go_ret2
      exact HF.out
    by_cases c3 : k.ch < 1
    · skip
      have HF : Hid (NoNewQ W 1 (.returned (.tuple #[.pointer none, .int .i64 1])) w3) := Lib.hid ⟨rfl, B1.out.trans (BX.out.mono B1.out.size)⟩
      go_wp2_with fail
      go_ret2
      exact HF.out
    by_cases c4 : 4096 < k.ch
    · skip
      have HF : Hid (NoNewQ W 1 (.returned (.tuple #[.pointer none, .int .i64 1])) w3) := Lib.hid ⟨rfl, B1.out.trans (BX.out.mono B1.out.size)⟩
      go_wp2_with fail
      go_ret2
      exact HF.out
    have hok : f.okM = false := by
      have h := HL.out
      unfold mayNB at h
      rw [decide_eq_true (show 1 ≤ line by omega), decide_eq_true (show line ≤ 4096 by omega), decide_eq_true (show 1 ≤ k.ch by omega), decide_eq_true (show k.ch ≤ 4096 by omega)] at h
      simpa using h
    have CK := Lib.hid (fw_mayMark w3 f)
    rw [hok] at CK
    unfold FwS.mark at CK
    obtain ⟨m0, m1, m2, m3, m4, m5, m6, m7, m8⟩ := HMC.out w3 BX.out
    clear hok
    go_wp2_with fail
    refine CK.out.mono ?_
    rintro e w8 ⟨rfl, hb8⟩
    have B8 : Hid (Below w1.heap.size w1 w8) := Lib.hid (BX.out.trans (hb8.mono BX.out.size))
    clear hb8 CK m0 m1 m2 m3 m4 m5 m6 m7 m8 p0 p1
    have HF : Hid (NoNewQ W 1 (.returned (.tuple #[.pointer none, .int .i64 1])) w8) := Lib.hid ⟨rfl, B1.out.trans (B8.out.mono B1.out.size)⟩
    go_wp2_with fail
    go_ret2
    exact HF.out
theorem FwR.recol {W : World} {C C' : Nat → Nat} {c rb : Nat} {k : FwK} {f : FwS} (h : FwR W C c rb k f) (hc : ∀ b, C b = c → C' b = c) : FwR W C' c rb k f := by
  obtain ⟨mb, v, h⟩ := h
  exact ⟨mb, v, h.blk, h.maker, hc _ h.cr, hc _ h.cm, fun q hq => hc _ (h.cv q hq)⟩
theorem paint_any {C : Nat → Nat} {h c b : Nat} (hb : paint (fun _ => c + 1) h c b = c) : paint C h c b = c := by
  by_cases e : b < h
  · rw [paint_old _ _ e] at hb; omega
  · exact paint_new _ _ (by omega)
set_option maxRecDepth 20000 in
set_option maxHeartbeats 8000000 in
theorem fw_new_ok (C : Nat → Nat) (c : Nat) {W : World} {p : Nat} {D : World → Prop} {S : List UInt8 → T5} {I : Int → T5} {R : Int → Int → Int → Int → List UInt8 × Int} (k : FwK) (f : FwS) (ha : Asks p D S I R) (hD : ∀ w, Below W.heap.size W w → D w) (hn : mayPB S k = true) (hl : mayNB (k.line : Int) k.ch f = true) : Calls Tryz.prog 86 #[.agg #[.string (strB k.nm), .string (strB k.ro)], .int .i64 (k.line : Int), .int .i64 k.ch, .agg f.mark, .pointer (some ⟨p, 0, none⟩)] W (BornQ W C c k (f.born S k)) := by
  obtain ⟨w1, hw1⟩ : ∃ w1, w1 = (W.alloc (.cells #[.string (strB k.nm), .string (strB k.ro)] 96)).alloc (.cells #[.int .i64 f.se, .int .i64 f.ino, .int .i64 f.ge, .int .i64 f.off, .int .i64 f.mi, .int .i64 f.go, .int .i64 f.cu, .int .i64 f.ta, .int .i64 f.lo] 100) := ⟨_, rfl⟩
  obtain ⟨gp, hgp⟩ : ∃ gp, gp = W.heap.size := ⟨_, rfl⟩
  obtain ⟨gm, hgm⟩ : ∃ gm, gm = W.heap.size + 1 := ⟨_, rfl⟩
  have B1 : Hid (Below W.heap.size W w1) := Lib.hid (by rw [hw1]; exact ((Below.refl _ _).alloc (Nat.le_refl _) _).alloc (by simp) _)
  have KP : Hid (Blk w1 gp 96 #[.string (strB k.nm), .string (strB k.ro)]) := Lib.hid (by rw [hw1]; exact (Blk.new W _ _ hgp).alloc _)
  have KM : Hid (Blk w1 gm 100 #[.int .i64 f.se, .int .i64 f.ino, .int .i64 f.ge, .int .i64 f.off, .int .i64 f.mi, .int .i64 f.go, .int .i64 f.cu, .int .i64 f.ta, .int .i64 f.lo]) := Lib.hid (by rw [hw1]; exact Blk.new _ _ _ (by rw [hgm]; simp))
  have HA := Lib.hid ha
  have HD := Lib.hid hD
  have HPC : Hid (∀ w, Below w1.heap.size w1 w → w.cell? ⟨gp, 0, none⟩ = some (.string (strB k.nm)) ∧ w.cell? ⟨gp, 1, none⟩ = some (.string (strB k.ro))) := Lib.hid (fun w hb => ⟨(KP.out.keep hb).cell 0, (KP.out.keep hb).cell 1⟩)
  have HMC : Hid (∀ w, Below w1.heap.size w1 w → w.cell? ⟨gm, 0, none⟩ = some (.int .i64 f.se) ∧ w.cell? ⟨gm, 1, none⟩ = some (.int .i64 f.ino) ∧ w.cell? ⟨gm, 2, none⟩ = some (.int .i64 f.ge) ∧ w.cell? ⟨gm, 3, none⟩ = some (.int .i64 f.off) ∧ w.cell? ⟨gm, 4, none⟩ = some (.int .i64 f.mi) ∧ w.cell? ⟨gm, 5, none⟩ = some (.int .i64 f.go) ∧ w.cell? ⟨gm, 6, none⟩ = some (.int .i64 f.cu) ∧ w.cell? ⟨gm, 7, none⟩ = some (.int .i64 f.ta) ∧ w.cell? ⟨gm, 8, none⟩ = some (.int .i64 f.lo)) := Lib.hid (fun w hb => ⟨(KM.out.keep hb).cell 0, (KM.out.keep hb).cell 1, (KM.out.keep hb).cell 2, (KM.out.keep hb).cell 3, (KM.out.keep hb).cell 4, (KM.out.keep hb).cell 5, (KM.out.keep hb).cell 6, (KM.out.keep hb).cell 7, (KM.out.keep hb).cell 8⟩)
  obtain ⟨p0, p1⟩ := HPC.out w1 (Below.refl _ _)
  clear ha hD
  unfold FwS.mark
  go_enter Tryz.func86, Tryz.ntmps86
  go_upto_region 1 with fail
  rw [← hw1, ← hgm, ← hgp]
  clear hw1 hgp hgm
  have CM := Lib.hid (fw_mayName k.nm HA.out (HD.out w1 B1.out))
  have hn1 : (S k.nm).2.2.2.2 ≠ 140 := by
    unfold mayPB at hn
    rw [Bool.and_eq_true] at hn
    exact of_decide_eq_true hn.1
  rw [show decide ((S k.nm).2.2.2.2 ≠ 140) = true from decide_eq_true hn1] at CM
  have HN := Lib.hid hn
  clear hn hn1
  by_cases hro : k.ro = []
  · have hne : (strB k.ro).toList = [] := by rw [strBL]; exact hro
    clear hro
    go_wp2_with fail
    refine CM.out.mono ?_
    rintro e w2 ⟨rfl, hb2⟩
    have BX : Hid (Below w1.heap.size w1 w2) := Lib.hid hb2
    obtain ⟨p0, p1⟩ := HPC.out w2 hb2
    clear hb2 CM
    have hlo : 1 ≤ (k.line : Int) ∧ (k.line : Int) ≤ 4096 ∧ 1 ≤ k.ch ∧ k.ch ≤ 4096 ∧ f.okM = true := by
      unfold mayNB at hl
      simp only [Bool.and_eq_true, decide_eq_true_eq] at hl
      exact ⟨hl.1, hl.2.1, hl.2.2.1, hl.2.2.2.1, hl.2.2.2.2⟩
    obtain ⟨l1, l2, l3, l4, hok⟩ := hlo
    have HOK := Lib.hid (FwS.okM_ok hok)
    have CK := Lib.hid (fw_mayMark w2 f)
    rw [hok] at CK
    unfold FwS.mark at CK
    obtain ⟨m0, m1, m2, m3, m4, m5, m6, m7, m8⟩ := HMC.out w2 BX.out
    clear hl hok
    go_wp2_with fail
    refine CK.out.mono ?_
    rintro e w8 ⟨rfl, hb8⟩
    have B8 : Hid (Below w1.heap.size w1 w8) := Lib.hid (BX.out.trans (hb8.mono BX.out.size))
    have CN := Lib.hid (new_ok k.line w8 (by omega))
    clear hb8 CK m0 m1 m2 m3 m4 m5 m6 m7 m8 p0 p1
    go_wp2_with fail
    refine CN.out.mono ?_
    rintro e w9 ⟨mb, hmb, rfl, hm9, hb9, -⟩
    have B9 : Hid (Below w1.heap.size w1 w9) := Lib.hid (B8.out.trans (hb9.mono B8.out.size))
    have HMB : Hid (W.heap.size ≤ mb) := Lib.hid (by have := B8.out.size; have := B1.out.size; omega)
    have HM9 := Lib.hid hm9
    obtain ⟨m0, m1, m2, m3, m4, m5, m6, m7, m8⟩ := HMC.out w9 B9.out
    obtain ⟨p0, p1⟩ := HPC.out w9 B9.out
    obtain ⟨w10, hw10⟩ : ∃ w10, w10 = w9.alloc (.cells #[.int .i64 f.se, .int .i64 f.ino, .int .i64 f.ge, .int .i64 f.off, .int .i64 f.mi, .int .i64 f.go, .int .i64 f.cu, .int .i64 f.ta, .int .i64 f.lo, .pointer (some ⟨mb, 0, none⟩), .string (strB k.nm), .string (strB k.ro), .int .i64 k.ch] 218) := ⟨_, rfl⟩
    obtain ⟨rb, hrb⟩ : ∃ rb, rb = w9.heap.size := ⟨_, rfl⟩
    have B10 : Hid (Below w1.heap.size w1 w10) := Lib.hid (by rw [hw10]; exact B9.out.alloc B9.out.size _)
    have HRB : Hid (W.heap.size ≤ rb) := Lib.hid (by have := B9.out.size; have := B1.out.size; omega)
    have F10 : Hid (FwR w10 (paint (fun _ => c + 1) W.heap.size c) c rb k { f with u := [], lc := 0 }) := Lib.hid (born_at (mb := mb) (by rw [hw10]; exact Blk.new w9 _ _ hrb) (by
      rw [hw10]; exact HM9.out.stp (S := fun _ => False) (Chg.of_below ((Below.refl _ _).alloc (Nat.le_refl _) _) _) (fun e => e) (fun _ _ e => e)) HRB.out HMB.out)
    have BW10 : Hid (Below W.heap.size W w10) := Lib.hid (B1.out.trans (B10.out.mono B1.out.size))
    clear hmb hm9 hb9 CN
    go_upto_region 9 with fail
    rw [← hw10, ← hrb]
    clear hw10 hrb m0 m1 m2 m3 m4 m5 m6 m7 m8 p0 p1
    obtain ⟨q0, q1⟩ := HPC.out w10 B10.out
    have m1 := (HMC.out w10 B10.out).2.1
    have HI0 : Hid (0 ≤ f.ino) := Lib.hid HOK.out.ino.1
    by_cases hi : 0 < f.ino
    · have CA := Lib.hid (fw_names k.nm f.ino HA.out (HD.out w10 BW10.out))
      have HI := Lib.hid hi
      cases hn1 : namesB (S k.nm) f.ino
      case true =>
        rw [hn1] at CA
        have HN1 := Lib.hid hn1
        clear hn1
        go_wp2_with fail
        refine CA.out.mono ?_
        rintro e w11 ⟨rfl, hb11⟩
        have BW11 : Hid (Below W.heap.size W w11) := Lib.hid (BW10.out.trans (hb11.mono BW10.out.size))
        have F11 : Hid (FwR w11 (paint (fun _ => c + 1) W.heap.size c) c rb k { f with u := [], lc := 0 }) := Lib.hid (F10.out.keep hb11)
        clear hb11 CA m1
        obtain ⟨wf, hwf⟩ : ∃ wf, wf = w11.alloc (.cells #[.pointer (some ⟨rb, 0, none⟩)] 221) := ⟨_, rfl⟩
        obtain ⟨fl, hfl⟩ : ∃ fl, fl = w11.heap.size := ⟨_, rfl⟩
        have HF : Hid (BornQ W C c k (f.born S k) (.returned (.tuple #[.pointer (some ⟨fl, 0, none⟩), .int .i64 0])) wf) := Lib.hid (by
          have h1 : Below w11.heap.size w11 wf := by rw [hwf]; exact (Below.refl _ _).alloc (Nat.le_refl _) _
          refine ⟨fl, rb, rfl, by rw [hwf]; exact Blk.new w11 _ _ hfl, ?_, ?_, HRB.out, ?_⟩
          · have h2 : f.born S k = { f with u := [], lc := 0 } := by
              unfold FwS.born
              rw [if_neg (fun h => by rw [HN1.out] at h; exact absurd h.2.1 (by decide))]
            rw [h2]
            exact (F11.out.keep h1).recol (fun b hb => paint_any hb)
          · have := BW11.out.size; omega
          · exact BW11.out.trans (h1.mono BW11.out.size))
        clear q0 q1
        go_wp2_with fail
        rw [← hwf, ← hfl]
        clear hwf hfl
        go_ret2
        exact HF.out
      case false =>
        rw [hn1] at CA
        have HN1 := Lib.hid hn1
        clear hn1
        go_wp2_with fail
        refine CA.out.mono ?_
        rintro e w11 ⟨rfl, hb11⟩
        have BW11 : Hid (Below W.heap.size W w11) := Lib.hid (BW10.out.trans (hb11.mono BW10.out.size))
        have B11 : Hid (Below w1.heap.size w1 w11) := Lib.hid (B10.out.trans (hb11.mono B10.out.size))
        have F11 : Hid (FwR w11 (paint (fun _ => c + 1) W.heap.size c) c rb k { f with u := [], lc := 0 }) := Lib.hid (F10.out.keep hb11)
        have CB := Lib.hid (fw_names k.ro f.ino HA.out (HD.out w11 BW11.out))
        clear hb11 CA m1 q0 q1
        obtain ⟨q0, q1⟩ := HPC.out w11 B11.out
        have m1 := (HMC.out w11 B11.out).2.1
        cases hn2 : namesB (S k.ro) f.ino
        case true =>
          rw [hn2] at CB
          have HN2 := Lib.hid hn2
          clear hn2
          go_wp2_with fail
          refine CB.out.mono ?_
          rintro e w12 ⟨rfl, hb12⟩
          have BW12 : Hid (Below W.heap.size W w12) := Lib.hid (BW11.out.trans (hb12.mono BW11.out.size))
          have F12 : Hid (FwR w12 (paint (fun _ => c + 1) W.heap.size c) c rb k { f with u := [], lc := 0 }) := Lib.hid (F11.out.keep hb12)
          clear hb12 CB m1
          obtain ⟨wf, hwf⟩ : ∃ wf, wf = w12.alloc (.cells #[.pointer (some ⟨rb, 0, none⟩)] 221) := ⟨_, rfl⟩
          obtain ⟨fl, hfl⟩ : ∃ fl, fl = w12.heap.size := ⟨_, rfl⟩
          have HF : Hid (BornQ W C c k (f.born S k) (.returned (.tuple #[.pointer (some ⟨fl, 0, none⟩), .int .i64 0])) wf) := Lib.hid (by
            have h1 : Below w12.heap.size w12 wf := by rw [hwf]; exact (Below.refl _ _).alloc (Nat.le_refl _) _
            refine ⟨fl, rb, rfl, by rw [hwf]; exact Blk.new w12 _ _ hfl, ?_, ?_, HRB.out, ?_⟩
            · have h2 : f.born S k = { f with u := [], lc := 0 } := by
                unfold FwS.born
                rw [if_neg (fun h => by rw [HN2.out] at h; exact absurd h.2.2 (by decide))]
              rw [h2]
              exact (F12.out.keep h1).recol (fun b hb => paint_any hb)
            · have := BW12.out.size; omega
            · exact BW12.out.trans (h1.mono BW12.out.size))
          clear q0 q1
          go_wp2_with fail
          rw [← hwf, ← hfl]
          clear hwf hfl
          go_ret2
          exact HF.out
        case false =>
          rw [hn2] at CB
          have HN2 := Lib.hid hn2
          clear hn2
          go_wp2_with fail
          refine CB.out.mono ?_
          rintro e w12 ⟨rfl, hb12⟩
          have BW12 : Hid (Below W.heap.size W w12) := Lib.hid (BW11.out.trans (hb12.mono BW11.out.size))
          have F12 : Hid (FwR w12 (paint (fun _ => c + 1) W.heap.size c) c rb k { f with u := [], lc := 0 }) := Lib.hid (F11.out.keep hb12)
          have CG := Lib.hid (fw_gone F12.out HOK.out.go)
          clear hb12 CB m1
          go_wp2_with fail
          refine CG.out.mono ?_
          rintro e w13 ⟨rfl, hq13⟩
          have BW13 : Hid (Below W.heap.size W w13) := Lib.hid (BW12.out.trans (hq13.2.below (fun b hb e => by rw [paint_old _ _ hb] at e; omega) BW12.out.size))
          have F13 : Hid (FwR w13 (paint (fun _ => c + 1) W.heap.size c) c rb k (FwS.gone { f with u := [], lc := 0 })) := Lib.hid (by have h1 := hq13.1; rw [paint_paint _ c BW12.out.size] at h1; exact h1)
          clear hq13 CG
          obtain ⟨wf, hwf⟩ : ∃ wf, wf = w13.alloc (.cells #[.pointer (some ⟨rb, 0, none⟩)] 221) := ⟨_, rfl⟩
          obtain ⟨fl, hfl⟩ : ∃ fl, fl = w13.heap.size := ⟨_, rfl⟩
          have HF : Hid (BornQ W C c k (f.born S k) (.returned (.tuple #[.pointer (some ⟨fl, 0, none⟩), .int .i64 0])) wf) := Lib.hid (by
            have h1 : Below w13.heap.size w13 wf := by rw [hwf]; exact (Below.refl _ _).alloc (Nat.le_refl _) _
            refine ⟨fl, rb, rfl, by rw [hwf]; exact Blk.new w13 _ _ hfl, ?_, ?_, HRB.out, ?_⟩
            · have h2 : f.born S k = FwS.gone { f with u := [], lc := 0 } := by
                unfold FwS.born
                rw [if_pos ⟨HI.out, HN1.out, HN2.out⟩]
              rw [h2]
              exact (F13.out.keep h1).recol (fun b hb => paint_any hb)
            · have := BW13.out.size; omega
            · exact BW13.out.trans (h1.mono BW13.out.size))
          clear q0 q1
          go_wp2_with fail
          rw [← hwf, ← hfl]
          clear hwf hfl
          go_ret2
          exact HF.out
    · have HI := Lib.hid hi
      obtain ⟨wf, hwf⟩ : ∃ wf, wf = w10.alloc (.cells #[.pointer (some ⟨rb, 0, none⟩)] 221) := ⟨_, rfl⟩
      obtain ⟨fl, hfl⟩ : ∃ fl, fl = w10.heap.size := ⟨_, rfl⟩
      have HF : Hid (BornQ W C c k (f.born S k) (.returned (.tuple #[.pointer (some ⟨fl, 0, none⟩), .int .i64 0])) wf) := Lib.hid (by
        have h1 : Below w10.heap.size w10 wf := by rw [hwf]; exact (Below.refl _ _).alloc (Nat.le_refl _) _
        refine ⟨fl, rb, rfl, by rw [hwf]; exact Blk.new w10 _ _ hfl, ?_, ?_, HRB.out, ?_⟩
        · have h2 : f.born S k = { f with u := [], lc := 0 } := by
            unfold FwS.born
            rw [if_neg (fun h => HI.out h.1)]
          rw [h2]
          exact (F10.out.keep h1).recol (fun b hb => paint_any hb)
        · have := BW10.out.size; omega
        · exact BW10.out.trans (h1.mono BW10.out.size))
      clear q0 q1
      go_wp2_with fail
      rw [← hwf, ← hfl]
      clear hwf hfl
      go_ret2
      exact HF.out
  · have hne : (strB k.ro).toList.isEmpty = false := by rw [strBL]; cases h : k.ro with | nil => exact absurd h hro | cons a l => rfl
    have hne2 : ¬ (strB k.ro).toList = [] := by rw [strBL]; exact hro
    have h140 : (S k.ro).2.2.2.2 ≠ 140 := by
      have h2 := HN.out
      unfold mayPB at h2
      rw [Bool.and_eq_true, decide_eq_false hro, Bool.false_or] at h2
      exact of_decide_eq_true h2.2
    have H140 := Lib.hid h140
    clear hro h140
    go_wp2_with fail
    refine CM.out.mono ?_
    rintro e w2 ⟨rfl, hb2⟩
    have B2 := Lib.hid hb2
    have CR := Lib.hid (fw_mayName k.ro HA.out (HD.out w2 (B1.out.trans (hb2.mono B1.out.size))))
    rw [show decide ((S k.ro).2.2.2.2 ≠ 140) = true from decide_eq_true H140.out] at CR
    obtain ⟨p0, p1⟩ := HPC.out w2 hb2
    clear hb2 CM
    go_wp2_with fail
    refine CR.out.mono ?_
    rintro e w3 ⟨rfl, hb3⟩
    have BX : Hid (Below w1.heap.size w1 w3) := Lib.hid (B2.out.trans (hb3.mono B2.out.size))
    clear p0 p1 hne hne2
    obtain ⟨p0, p1⟩ := HPC.out w3 BX.out
    clear hb3 CR
    have hlo : 1 ≤ (k.line : Int) ∧ (k.line : Int) ≤ 4096 ∧ 1 ≤ k.ch ∧ k.ch ≤ 4096 ∧ f.okM = true := by
      unfold mayNB at hl
      simp only [Bool.and_eq_true, decide_eq_true_eq] at hl
      exact ⟨hl.1, hl.2.1, hl.2.2.1, hl.2.2.2.1, hl.2.2.2.2⟩
    obtain ⟨l1, l2, l3, l4, hok⟩ := hlo
    have HOK := Lib.hid (FwS.okM_ok hok)
    have CK := Lib.hid (fw_mayMark w3 f)
    rw [hok] at CK
    unfold FwS.mark at CK
    obtain ⟨m0, m1, m2, m3, m4, m5, m6, m7, m8⟩ := HMC.out w3 BX.out
    clear hl hok
    go_wp2_with fail
    refine CK.out.mono ?_
    rintro e w8 ⟨rfl, hb8⟩
    have B8 : Hid (Below w1.heap.size w1 w8) := Lib.hid (BX.out.trans (hb8.mono BX.out.size))
    have CN := Lib.hid (new_ok k.line w8 (by omega))
    clear hb8 CK m0 m1 m2 m3 m4 m5 m6 m7 m8 p0 p1
    go_wp2_with fail
    refine CN.out.mono ?_
    rintro e w9 ⟨mb, hmb, rfl, hm9, hb9, -⟩
    have B9 : Hid (Below w1.heap.size w1 w9) := Lib.hid (B8.out.trans (hb9.mono B8.out.size))
    have HMB : Hid (W.heap.size ≤ mb) := Lib.hid (by have := B8.out.size; have := B1.out.size; omega)
    have HM9 := Lib.hid hm9
    obtain ⟨m0, m1, m2, m3, m4, m5, m6, m7, m8⟩ := HMC.out w9 B9.out
    obtain ⟨p0, p1⟩ := HPC.out w9 B9.out
    obtain ⟨w10, hw10⟩ : ∃ w10, w10 = w9.alloc (.cells #[.int .i64 f.se, .int .i64 f.ino, .int .i64 f.ge, .int .i64 f.off, .int .i64 f.mi, .int .i64 f.go, .int .i64 f.cu, .int .i64 f.ta, .int .i64 f.lo, .pointer (some ⟨mb, 0, none⟩), .string (strB k.nm), .string (strB k.ro), .int .i64 k.ch] 218) := ⟨_, rfl⟩
    obtain ⟨rb, hrb⟩ : ∃ rb, rb = w9.heap.size := ⟨_, rfl⟩
    have B10 : Hid (Below w1.heap.size w1 w10) := Lib.hid (by rw [hw10]; exact B9.out.alloc B9.out.size _)
    have HRB : Hid (W.heap.size ≤ rb) := Lib.hid (by have := B9.out.size; have := B1.out.size; omega)
    have F10 : Hid (FwR w10 (paint (fun _ => c + 1) W.heap.size c) c rb k { f with u := [], lc := 0 }) := Lib.hid (born_at (mb := mb) (by rw [hw10]; exact Blk.new w9 _ _ hrb) (by
      rw [hw10]; exact HM9.out.stp (S := fun _ => False) (Chg.of_below ((Below.refl _ _).alloc (Nat.le_refl _) _) _) (fun e => e) (fun _ _ e => e)) HRB.out HMB.out)
    have BW10 : Hid (Below W.heap.size W w10) := Lib.hid (B1.out.trans (B10.out.mono B1.out.size))
    clear hmb hm9 hb9 CN
    go_upto_region 9 with fail
    rw [← hw10, ← hrb]
    clear hw10 hrb m0 m1 m2 m3 m4 m5 m6 m7 m8 p0 p1
    obtain ⟨q0, q1⟩ := HPC.out w10 B10.out
    have m1 := (HMC.out w10 B10.out).2.1
    have HI0 : Hid (0 ≤ f.ino) := Lib.hid HOK.out.ino.1
    by_cases hi : 0 < f.ino
    · have CA := Lib.hid (fw_names k.nm f.ino HA.out (HD.out w10 BW10.out))
      have HI := Lib.hid hi
      cases hn1 : namesB (S k.nm) f.ino
      case true =>
        rw [hn1] at CA
        have HN1 := Lib.hid hn1
        clear hn1
        go_wp2_with fail
        refine CA.out.mono ?_
        rintro e w11 ⟨rfl, hb11⟩
        have BW11 : Hid (Below W.heap.size W w11) := Lib.hid (BW10.out.trans (hb11.mono BW10.out.size))
        have F11 : Hid (FwR w11 (paint (fun _ => c + 1) W.heap.size c) c rb k { f with u := [], lc := 0 }) := Lib.hid (F10.out.keep hb11)
        clear hb11 CA m1
        obtain ⟨wf, hwf⟩ : ∃ wf, wf = w11.alloc (.cells #[.pointer (some ⟨rb, 0, none⟩)] 221) := ⟨_, rfl⟩
        obtain ⟨fl, hfl⟩ : ∃ fl, fl = w11.heap.size := ⟨_, rfl⟩
        have HF : Hid (BornQ W C c k (f.born S k) (.returned (.tuple #[.pointer (some ⟨fl, 0, none⟩), .int .i64 0])) wf) := Lib.hid (by
          have h1 : Below w11.heap.size w11 wf := by rw [hwf]; exact (Below.refl _ _).alloc (Nat.le_refl _) _
          refine ⟨fl, rb, rfl, by rw [hwf]; exact Blk.new w11 _ _ hfl, ?_, ?_, HRB.out, ?_⟩
          · have h2 : f.born S k = { f with u := [], lc := 0 } := by
              unfold FwS.born
              rw [if_neg (fun h => by rw [HN1.out] at h; exact absurd h.2.1 (by decide))]
            rw [h2]
            exact (F11.out.keep h1).recol (fun b hb => paint_any hb)
          · have := BW11.out.size; omega
          · exact BW11.out.trans (h1.mono BW11.out.size))
        clear q0 q1
        go_wp2_with fail
        rw [← hwf, ← hfl]
        clear hwf hfl
        go_ret2
        exact HF.out
      case false =>
        rw [hn1] at CA
        have HN1 := Lib.hid hn1
        clear hn1
        go_wp2_with fail
        refine CA.out.mono ?_
        rintro e w11 ⟨rfl, hb11⟩
        have BW11 : Hid (Below W.heap.size W w11) := Lib.hid (BW10.out.trans (hb11.mono BW10.out.size))
        have B11 : Hid (Below w1.heap.size w1 w11) := Lib.hid (B10.out.trans (hb11.mono B10.out.size))
        have F11 : Hid (FwR w11 (paint (fun _ => c + 1) W.heap.size c) c rb k { f with u := [], lc := 0 }) := Lib.hid (F10.out.keep hb11)
        have CB := Lib.hid (fw_names k.ro f.ino HA.out (HD.out w11 BW11.out))
        clear hb11 CA m1 q0 q1
        obtain ⟨q0, q1⟩ := HPC.out w11 B11.out
        have m1 := (HMC.out w11 B11.out).2.1
        cases hn2 : namesB (S k.ro) f.ino
        case true =>
          rw [hn2] at CB
          have HN2 := Lib.hid hn2
          clear hn2
          go_wp2_with fail
          refine CB.out.mono ?_
          rintro e w12 ⟨rfl, hb12⟩
          have BW12 : Hid (Below W.heap.size W w12) := Lib.hid (BW11.out.trans (hb12.mono BW11.out.size))
          have F12 : Hid (FwR w12 (paint (fun _ => c + 1) W.heap.size c) c rb k { f with u := [], lc := 0 }) := Lib.hid (F11.out.keep hb12)
          clear hb12 CB m1
          obtain ⟨wf, hwf⟩ : ∃ wf, wf = w12.alloc (.cells #[.pointer (some ⟨rb, 0, none⟩)] 221) := ⟨_, rfl⟩
          obtain ⟨fl, hfl⟩ : ∃ fl, fl = w12.heap.size := ⟨_, rfl⟩
          have HF : Hid (BornQ W C c k (f.born S k) (.returned (.tuple #[.pointer (some ⟨fl, 0, none⟩), .int .i64 0])) wf) := Lib.hid (by
            have h1 : Below w12.heap.size w12 wf := by rw [hwf]; exact (Below.refl _ _).alloc (Nat.le_refl _) _
            refine ⟨fl, rb, rfl, by rw [hwf]; exact Blk.new w12 _ _ hfl, ?_, ?_, HRB.out, ?_⟩
            · have h2 : f.born S k = { f with u := [], lc := 0 } := by
                unfold FwS.born
                rw [if_neg (fun h => by rw [HN2.out] at h; exact absurd h.2.2 (by decide))]
              rw [h2]
              exact (F12.out.keep h1).recol (fun b hb => paint_any hb)
            · have := BW12.out.size; omega
            · exact BW12.out.trans (h1.mono BW12.out.size))
          clear q0 q1
          go_wp2_with fail
          rw [← hwf, ← hfl]
          clear hwf hfl
          go_ret2
          exact HF.out
        case false =>
          rw [hn2] at CB
          have HN2 := Lib.hid hn2
          clear hn2
          go_wp2_with fail
          refine CB.out.mono ?_
          rintro e w12 ⟨rfl, hb12⟩
          have BW12 : Hid (Below W.heap.size W w12) := Lib.hid (BW11.out.trans (hb12.mono BW11.out.size))
          have F12 : Hid (FwR w12 (paint (fun _ => c + 1) W.heap.size c) c rb k { f with u := [], lc := 0 }) := Lib.hid (F11.out.keep hb12)
          have CG := Lib.hid (fw_gone F12.out HOK.out.go)
          clear hb12 CB m1
          go_wp2_with fail
          refine CG.out.mono ?_
          rintro e w13 ⟨rfl, hq13⟩
          have BW13 : Hid (Below W.heap.size W w13) := Lib.hid (BW12.out.trans (hq13.2.below (fun b hb e => by rw [paint_old _ _ hb] at e; omega) BW12.out.size))
          have F13 : Hid (FwR w13 (paint (fun _ => c + 1) W.heap.size c) c rb k (FwS.gone { f with u := [], lc := 0 })) := Lib.hid (by have h1 := hq13.1; rw [paint_paint _ c BW12.out.size] at h1; exact h1)
          clear hq13 CG
          obtain ⟨wf, hwf⟩ : ∃ wf, wf = w13.alloc (.cells #[.pointer (some ⟨rb, 0, none⟩)] 221) := ⟨_, rfl⟩
          obtain ⟨fl, hfl⟩ : ∃ fl, fl = w13.heap.size := ⟨_, rfl⟩
          have HF : Hid (BornQ W C c k (f.born S k) (.returned (.tuple #[.pointer (some ⟨fl, 0, none⟩), .int .i64 0])) wf) := Lib.hid (by
            have h1 : Below w13.heap.size w13 wf := by rw [hwf]; exact (Below.refl _ _).alloc (Nat.le_refl _) _
            refine ⟨fl, rb, rfl, by rw [hwf]; exact Blk.new w13 _ _ hfl, ?_, ?_, HRB.out, ?_⟩
            · have h2 : f.born S k = FwS.gone { f with u := [], lc := 0 } := by
                unfold FwS.born
                rw [if_pos ⟨HI.out, HN1.out, HN2.out⟩]
              rw [h2]
              exact (F13.out.keep h1).recol (fun b hb => paint_any hb)
            · have := BW13.out.size; omega
            · exact BW13.out.trans (h1.mono BW13.out.size))
          clear q0 q1
          go_wp2_with fail
          rw [← hwf, ← hfl]
          clear hwf hfl
          go_ret2
          exact HF.out
    · have HI := Lib.hid hi
      obtain ⟨wf, hwf⟩ : ∃ wf, wf = w10.alloc (.cells #[.pointer (some ⟨rb, 0, none⟩)] 221) := ⟨_, rfl⟩
      obtain ⟨fl, hfl⟩ : ∃ fl, fl = w10.heap.size := ⟨_, rfl⟩
      have HF : Hid (BornQ W C c k (f.born S k) (.returned (.tuple #[.pointer (some ⟨fl, 0, none⟩), .int .i64 0])) wf) := Lib.hid (by
        have h1 : Below w10.heap.size w10 wf := by rw [hwf]; exact (Below.refl _ _).alloc (Nat.le_refl _) _
        refine ⟨fl, rb, rfl, by rw [hwf]; exact Blk.new w10 _ _ hfl, ?_, ?_, HRB.out, ?_⟩
        · have h2 : f.born S k = { f with u := [], lc := 0 } := by
            unfold FwS.born
            rw [if_neg (fun h => HI.out h.1)]
          rw [h2]
          exact (F10.out.keep h1).recol (fun b hb => paint_any hb)
        · have := BW10.out.size; omega
        · exact BW10.out.trans (h1.mono BW10.out.size))
      clear q0 q1
      go_wp2_with fail
      rw [← hwf, ← hfl]
      clear hwf hfl
      go_ret2
      exact HF.out
end Go.Proofs.YtlojmmcagglpoaaGreat
