/- THE WALKS of heronref17: Held, mark, New (printed by a program of ours). -/
import Derived.Test.YtlojmmcagglpoaaGreatUFwMark
import Derived.Test.YtlojmmcagglpoaaGreatUGfStep
namespace Go.Proofs.YtlojmmcagglpoaaGreat
open Go.RowKit Go.Maps
attribute [local go_sem ↓] Go.wp_at_zero Go.wp_at_succ
set_option maxRecDepth 20000 in
set_option maxHeartbeats 2000000 in
theorem gf_held {W : World} {C : Nat → Nat} {c rb : Nat} {k : FwK} {f : FwS} (h : GfR W C c rb k f) : Calls Tryz.prog 92 #[.pointer (some ⟨rb, 0, none⟩)] W fun e w' => e = .returned (.int .i64 ((heldOf k.line f.u).length : Int)) ∧ Below W.heap.size W w' := by
  obtain ⟨mb, v, y13, hm, _⟩ := h.maker
  have CH := Lib.hid (rheld_any mb v k.line f.lc f.u W hm)
  clear hm h
  go_enter Tryz.func92, Tryz.ntmps92
  go_wp2_with fail
  refine CH.out.mono ?_
  rintro e w' ⟨rfl, n, rfl⟩
  clear CH y13
  go_wp2_with fail
  go_ret
  exact ⟨rfl, below_drewN (Below.refl _ _) _⟩
theorem FwS.okM_eq (f : FwS) : f.okM = (!decide (f.se < 0 ∨ f.ino < 0 ∨ f.ge < 0 ∨ f.off < 0 ∨ f.mi < 0 ∨ f.go < 0 ∨ f.cu < 0 ∨ f.ta < 0 ∨ f.lo < 0) && (!decide (4611686018427387904 < f.se ∨ 4611686018427387904 < f.ino ∨ 4611686018427387904 < f.ge ∨ 4611686018427387904 < f.off ∨ 4611686018427387904 < f.mi ∨ 4611686018427387904 < f.go ∨ 4611686018427387904 < f.cu ∨ 4611686018427387904 < f.ta ∨ 4611686018427387904 < f.lo) && (if 0 < f.ino then decide (0 < f.se) else (decide (f.ge = 0) && decide (f.off = 0))))) := by
  by_cases hn : f.se < 0 ∨ f.ino < 0 ∨ f.ge < 0 ∨ f.off < 0 ∨ f.mi < 0 ∨ f.go < 0 ∨ f.cu < 0 ∨ f.ta < 0 ∨ f.lo < 0
  · rw [decide_eq_true hn]
    unfold FwS.okM FwS.nums inMB
    simp only [List.all_cons, List.all_nil, Bool.not_true, Bool.false_and, Bool.and_true]
    rcases hn with e | e | e | e | e | e | e | e | e <;> simp [Int.not_le.2 e]
  · rw [decide_eq_false hn]
    by_cases hb : 4611686018427387904 < f.se ∨ 4611686018427387904 < f.ino ∨ 4611686018427387904 < f.ge ∨ 4611686018427387904 < f.off ∨ 4611686018427387904 < f.mi ∨ 4611686018427387904 < f.go ∨ 4611686018427387904 < f.cu ∨ 4611686018427387904 < f.ta ∨ 4611686018427387904 < f.lo
    · rw [decide_eq_true hb]
      unfold FwS.okM FwS.nums inMB
      simp only [List.all_cons, List.all_nil, Bool.not_true, Bool.false_and, Bool.and_false, Bool.and_true]
      rcases hb with e | e | e | e | e | e | e | e | e <;> simp [Int.not_le.2 e]
    · rw [decide_eq_false hb]
      have h1 : f.nums.all inMB = true := by
        unfold FwS.nums inMB
        simp only [List.all_cons, List.all_nil, Bool.and_true, Bool.and_eq_true, decide_eq_true_eq]
        omega
      unfold FwS.okM
      rw [h1, Bool.true_and, Bool.not_false, Bool.true_and, Bool.true_and]
      by_cases h0 : f.ino = 0
      · rw [if_pos h0, if_neg (by omega)]
      · rw [if_neg h0, if_pos (by omega)]
set_option maxRecDepth 20000 in
set_option maxHeartbeats 8000000 in
theorem gf_mark (W : World) (f : FwS) : Calls Tryz.prog 132 #[.agg f.mark] W fun e w' => e = .returned (.bool f.okM) ∧ Below W.heap.size W w' := by
  obtain ⟨v, hv⟩ : ∃ v, v = f.okM := ⟨_, rfl⟩
  rw [← hv]
  rw [FwS.okM_eq] at hv
  obtain ⟨nb, hnb⟩ : ∃ nb, nb = decide (f.se < 0 ∨ f.ino < 0 ∨ f.ge < 0 ∨ f.off < 0 ∨ f.mi < 0 ∨ f.go < 0 ∨ f.cu < 0 ∨ f.ta < 0 ∨ f.lo < 0) := ⟨_, rfl⟩
  obtain ⟨ub, hub⟩ : ∃ ub, ub = decide (4611686018427387904 < f.se ∨ 4611686018427387904 < f.ino ∨ 4611686018427387904 < f.ge ∨ 4611686018427387904 < f.off ∨ 4611686018427387904 < f.mi ∨ 4611686018427387904 < f.go ∨ 4611686018427387904 < f.cu ∨ 4611686018427387904 < f.ta ∨ 4611686018427387904 < f.lo) := ⟨_, rfl⟩
  rw [← hnb, ← hub] at hv
  have HV := Lib.hid hv
  have HNB := Lib.hid hnb
  have HUB := Lib.hid hub
  obtain ⟨w1, hw1⟩ : ∃ w1, w1 = W.alloc (.cells #[.int .i64 f.se, .int .i64 f.ino, .int .i64 f.ge, .int .i64 f.off, .int .i64 f.mi, .int .i64 f.go, .int .i64 f.cu, .int .i64 f.ta, .int .i64 f.lo] 100) := ⟨_, rfl⟩
  obtain ⟨gm, hgm⟩ : ∃ gm, gm = W.heap.size := ⟨_, rfl⟩
  have B1 : Hid (Below W.heap.size W w1) := Lib.hid (by rw [hw1]; exact (Below.refl _ _).alloc (Nat.le_refl _) _)
  have K1 : Hid (Blk w1 gm 100 #[.int .i64 f.se, .int .i64 f.ino, .int .i64 f.ge, .int .i64 f.off, .int .i64 f.mi, .int .i64 f.go, .int .i64 f.cu, .int .i64 f.ta, .int .i64 f.lo]) := Lib.hid (by rw [hw1]; exact Blk.new W _ _ hgm)
  obtain ⟨w2, hw2⟩ : ∃ w2, w2 = w1.alloc (.cells #[.int .i64 f.mi, .int .i64 f.go, .int .i64 f.cu, .int .i64 f.ta, .int .i64 f.lo] 98) := ⟨_, rfl⟩
  obtain ⟨gl, hgl⟩ : ∃ gl, gl = w1.heap.size := ⟨_, rfl⟩
  have B2 : Hid (Below w1.heap.size w1 w2) := Lib.hid (by rw [hw2]; exact (Below.refl _ _).alloc (Nat.le_refl _) _)
  have KL : Hid (Blk w2 gl 98 #[.int .i64 f.mi, .int .i64 f.go, .int .i64 f.cu, .int .i64 f.ta, .int .i64 f.lo]) := Lib.hid (by rw [hw2]; exact Blk.new w1 _ _ hgl)
  have KM := Lib.hid (K1.out.keep B2.out)
  have BW : Hid (Below W.heap.size W w2) := Lib.hid (B1.out.trans (B2.out.mono B1.out.size))
  have k4 : w1.cell? ⟨gm, 4, none⟩ = some (.int .i64 f.mi) := K1.out.cell 4
  have k5 : w1.cell? ⟨gm, 5, none⟩ = some (.int .i64 f.go) := K1.out.cell 5
  have k6 : w1.cell? ⟨gm, 6, none⟩ = some (.int .i64 f.cu) := K1.out.cell 6
  have k7 : w1.cell? ⟨gm, 7, none⟩ = some (.int .i64 f.ta) := K1.out.cell 7
  have k8 : w1.cell? ⟨gm, 8, none⟩ = some (.int .i64 f.lo) := K1.out.cell 8
  clear hv hnb hub
  unfold FwS.mark
  go_enter Tryz.func132, Tryz.ntmps132
  go_upto_region 1 with fail
  rw [← hw1, ← hgm]
  clear hw1 hgm
  go_upto_region 2 with fail
  rw [← hw2, ← hgl]
  clear hw2 hgl k4 k5 k6 k7 k8
  have m0 : w2.cell? ⟨gm, 0, none⟩ = some (.int .i64 f.se) := KM.out.cell 0
  have m1 : w2.cell? ⟨gm, 1, none⟩ = some (.int .i64 f.ino) := KM.out.cell 1
  have m2 : w2.cell? ⟨gm, 2, none⟩ = some (.int .i64 f.ge) := KM.out.cell 2
  have m3 : w2.cell? ⟨gm, 3, none⟩ = some (.int .i64 f.off) := KM.out.cell 3
  have m4 : w2.cell? ⟨gl, 0, none⟩ = some (.int .i64 f.mi) := KL.out.cell 0
  have m5 : w2.cell? ⟨gl, 1, none⟩ = some (.int .i64 f.go) := KL.out.cell 1
  have m6 : w2.cell? ⟨gl, 2, none⟩ = some (.int .i64 f.cu) := KL.out.cell 2
  have m7 : w2.cell? ⟨gl, 3, none⟩ = some (.int .i64 f.ta) := KL.out.cell 3
  have m8 : w2.cell? ⟨gl, 4, none⟩ = some (.int .i64 f.lo) := KL.out.cell 4
  go_cut [48] (fun s wx => s = .bool nb ∧ wx = w2)
  case first =>
    by_cases h0 : f.se < 0
    · have hv : Hid (nb = true) := Lib.hid (by rw [HNB.out]; exact decide_eq_true (by omega))
      go_wp2_with fail
      go_meet
      exact ⟨by rw [hv.out], rfl⟩
    by_cases h1 : f.ino < 0
    · have hv : Hid (nb = true) := Lib.hid (by rw [HNB.out]; exact decide_eq_true (by omega))
      go_wp2_with fail
      go_meet
      exact ⟨by rw [hv.out], rfl⟩
    by_cases h2 : f.ge < 0
    · have hv : Hid (nb = true) := Lib.hid (by rw [HNB.out]; exact decide_eq_true (by omega))
      go_wp2_with fail
      go_meet
      exact ⟨by rw [hv.out], rfl⟩
    by_cases h3 : f.off < 0
    · have hv : Hid (nb = true) := Lib.hid (by rw [HNB.out]; exact decide_eq_true (by omega))
      go_wp2_with fail
      go_meet
      exact ⟨by rw [hv.out], rfl⟩
    by_cases h4 : f.mi < 0
    · have hv : Hid (nb = true) := Lib.hid (by rw [HNB.out]; exact decide_eq_true (by omega))
      go_wp2_with fail
      go_meet
      exact ⟨by rw [hv.out], rfl⟩
    by_cases h5 : f.go < 0
    · have hv : Hid (nb = true) := Lib.hid (by rw [HNB.out]; exact decide_eq_true (by omega))
      go_wp2_with fail
      go_meet
      exact ⟨by rw [hv.out], rfl⟩
    by_cases h6 : f.cu < 0
    · have hv : Hid (nb = true) := Lib.hid (by rw [HNB.out]; exact decide_eq_true (by omega))
      go_wp2_with fail
      go_meet
      exact ⟨by rw [hv.out], rfl⟩
    by_cases h7 : f.ta < 0
    · have hv : Hid (nb = true) := Lib.hid (by rw [HNB.out]; exact decide_eq_true (by omega))
      go_wp2_with fail
      go_meet
      exact ⟨by rw [hv.out], rfl⟩
    by_cases h8 : f.lo < 0
    · have hv : Hid (nb = true) := Lib.hid (by rw [HNB.out]; exact decide_eq_true (by omega))
      go_wp2_with fail
      go_meet
      exact ⟨by rw [hv.out], rfl⟩
    have hv : Hid (nb = false) := Lib.hid (by rw [HNB.out]; exact decide_eq_false (by omega))
    go_wp2_with fail
    go_meet
    exact ⟨by rw [hv.out], rfl⟩
  case rest =>
    obtain ⟨rfl, hcut⟩ := hcut
    rw [hcut]
    clear hcut wc
    cases nb
    case true =>
      have hvf : Hid (v = false) := Lib.hid (by rw [HV.out]; rfl)
      go_wp2_with fail
      go_ret
      exact ⟨by rw [hvf.out] <;> rfl, BW.out⟩
    case false =>
      go_upto_region 4 with fail
      go_cut [91] (fun s wx => s = .bool ub ∧ wx = w2)
      case first =>
        by_cases h0 : 4611686018427387904 < f.se
        · have hv : Hid (ub = true) := Lib.hid (by rw [HUB.out]; exact decide_eq_true (by omega))
          go_wp2_with fail
          go_meet
          exact ⟨by rw [hv.out], rfl⟩
        by_cases h1 : 4611686018427387904 < f.ino
        · have hv : Hid (ub = true) := Lib.hid (by rw [HUB.out]; exact decide_eq_true (by omega))
          go_wp2_with fail
          go_meet
          exact ⟨by rw [hv.out], rfl⟩
        by_cases h2 : 4611686018427387904 < f.ge
        · have hv : Hid (ub = true) := Lib.hid (by rw [HUB.out]; exact decide_eq_true (by omega))
          go_wp2_with fail
          go_meet
          exact ⟨by rw [hv.out], rfl⟩
        by_cases h3 : 4611686018427387904 < f.off
        · have hv : Hid (ub = true) := Lib.hid (by rw [HUB.out]; exact decide_eq_true (by omega))
          go_wp2_with fail
          go_meet
          exact ⟨by rw [hv.out], rfl⟩
        by_cases h4 : 4611686018427387904 < f.mi
        · have hv : Hid (ub = true) := Lib.hid (by rw [HUB.out]; exact decide_eq_true (by omega))
          go_wp2_with fail
          go_meet
          exact ⟨by rw [hv.out], rfl⟩
        by_cases h5 : 4611686018427387904 < f.go
        · have hv : Hid (ub = true) := Lib.hid (by rw [HUB.out]; exact decide_eq_true (by omega))
          go_wp2_with fail
          go_meet
          exact ⟨by rw [hv.out], rfl⟩
        by_cases h6 : 4611686018427387904 < f.cu
        · have hv : Hid (ub = true) := Lib.hid (by rw [HUB.out]; exact decide_eq_true (by omega))
          go_wp2_with fail
          go_meet
          exact ⟨by rw [hv.out], rfl⟩
        by_cases h7 : 4611686018427387904 < f.ta
        · have hv : Hid (ub = true) := Lib.hid (by rw [HUB.out]; exact decide_eq_true (by omega))
          go_wp2_with fail
          go_meet
          exact ⟨by rw [hv.out], rfl⟩
        by_cases h8 : 4611686018427387904 < f.lo
        · have hv : Hid (ub = true) := Lib.hid (by rw [HUB.out]; exact decide_eq_true (by omega))
          go_wp2_with fail
          go_meet
          exact ⟨by rw [hv.out], rfl⟩
        have hv : Hid (ub = false) := Lib.hid (by rw [HUB.out]; exact decide_eq_false (by omega))
        go_wp2_with fail
        go_meet
        exact ⟨by rw [hv.out], rfl⟩
      case rest =>
        obtain ⟨rfl, hcut⟩ := hcut
        rw [hcut]
        clear hcut wc
        cases ub
        case true =>
          have hvf : Hid (v = false) := Lib.hid (by rw [HV.out]; rfl)
          go_wp2_with fail
          go_ret
          exact ⟨by rw [hvf.out] <;> rfl, BW.out⟩
        case false =>
          by_cases hi : 0 < f.ino
          · have hvf : Hid (v = decide (0 < f.se)) := Lib.hid (by rw [HV.out, if_pos hi]; rfl)
            go_wp2_with fail
            go_ret
            exact ⟨by rw [hvf.out] <;> rfl, BW.out⟩
          · have hvf : Hid (v = (decide (f.ge = 0) && decide (f.off = 0))) := Lib.hid (by rw [HV.out, if_neg hi]; rfl)
            by_cases hg : f.ge = 0
            · have hg2 : (f.ge == (0 : Int)) = true := beq_iff_eq.2 hg
              have hvf2 : Hid (v = decide (f.off = 0)) := Lib.hid (by rw [hvf.out, decide_eq_true hg]; rfl)
              clear hg
              go_wp2_with fail
              go_ret
              exact ⟨by rw [hvf2.out]; first | rfl | (by_cases h : f.off = 0 <;> simp [h]), BW.out⟩
            · have hg2 : (f.ge == (0 : Int)) = false := beq_eq_false_iff_ne.2 hg
              have hvf2 : Hid (v = false) := Lib.hid (by rw [hvf.out, decide_eq_false hg]; rfl)
              clear hg
              go_wp2_with fail
              go_ret
              exact ⟨by rw [hvf2.out] <;> rfl, BW.out⟩
set_option maxRecDepth 20000 in
set_option maxHeartbeats 4000000 in
theorem gf_new_name {W : World} {p : Nat} {D : World → Prop} {S : List UInt8 → T5} {I : Int → T5} {R : Int → Int → Int → Int → List UInt8 × Int} (k : FwK) (f : FwS) (line : Int) (ha : RAsks p D S I R) (hS : ∀ nm, decide ((S nm).2.2.2.2 ≠ 140) = mayB nm) (hD : ∀ w, Below W.heap.size W w → D w) (hn : mayPB S k = false) : Calls Tryz.prog 90 #[.agg #[.string (strB k.nm), .string (strB k.ro)], .int .i64 line, .int .i64 k.ch, .agg f.mark, .pointer (some ⟨p, 0, none⟩)] W (NoNewQ W 140) := by
  obtain ⟨w1, hw1⟩ : ∃ w1, w1 = (W.alloc (.cells #[.string (strB k.nm), .string (strB k.ro)] 96)).alloc (.cells #[.int .i64 f.se, .int .i64 f.ino, .int .i64 f.ge, .int .i64 f.off, .int .i64 f.mi, .int .i64 f.go, .int .i64 f.cu, .int .i64 f.ta, .int .i64 f.lo] 100) := ⟨_, rfl⟩
  obtain ⟨gp, hgp⟩ : ∃ gp, gp = W.heap.size := ⟨_, rfl⟩
  obtain ⟨gm, hgm⟩ : ∃ gm, gm = W.heap.size + 1 := ⟨_, rfl⟩
  have B1 : Hid (Below W.heap.size W w1) := Lib.hid (by rw [hw1]; exact ((Below.refl _ _).alloc (Nat.le_refl _) _).alloc (by simp) _)
  have KP : Hid (Blk w1 gp 96 #[.string (strB k.nm), .string (strB k.ro)]) := Lib.hid (by rw [hw1]; exact (Blk.new W _ _ hgp).alloc _)
  have KM : Hid (Blk w1 gm 100 #[.int .i64 f.se, .int .i64 f.ino, .int .i64 f.ge, .int .i64 f.off, .int .i64 f.mi, .int .i64 f.go, .int .i64 f.cu, .int .i64 f.ta, .int .i64 f.lo]) := Lib.hid (by rw [hw1]; exact Blk.new _ _ _ (by rw [hgm]; simp))
  have HA := Lib.hid ha
  have HD := Lib.hid hD
  have HS := Lib.hid hS
  have HPC : Hid (∀ w, Below w1.heap.size w1 w → w.cell? ⟨gp, 0, none⟩ = some (.string (strB k.nm)) ∧ w.cell? ⟨gp, 1, none⟩ = some (.string (strB k.ro))) := Lib.hid (fun w hb => ⟨(KP.out.keep hb).cell 0, (KP.out.keep hb).cell 1⟩)
  have HMC : Hid (∀ w, Below w1.heap.size w1 w → w.cell? ⟨gm, 0, none⟩ = some (.int .i64 f.se) ∧ w.cell? ⟨gm, 1, none⟩ = some (.int .i64 f.ino) ∧ w.cell? ⟨gm, 2, none⟩ = some (.int .i64 f.ge) ∧ w.cell? ⟨gm, 3, none⟩ = some (.int .i64 f.off) ∧ w.cell? ⟨gm, 4, none⟩ = some (.int .i64 f.mi) ∧ w.cell? ⟨gm, 5, none⟩ = some (.int .i64 f.go) ∧ w.cell? ⟨gm, 6, none⟩ = some (.int .i64 f.cu) ∧ w.cell? ⟨gm, 7, none⟩ = some (.int .i64 f.ta) ∧ w.cell? ⟨gm, 8, none⟩ = some (.int .i64 f.lo)) := Lib.hid (fun w hb => ⟨(KM.out.keep hb).cell 0, (KM.out.keep hb).cell 1, (KM.out.keep hb).cell 2, (KM.out.keep hb).cell 3, (KM.out.keep hb).cell 4, (KM.out.keep hb).cell 5, (KM.out.keep hb).cell 6, (KM.out.keep hb).cell 7, (KM.out.keep hb).cell 8⟩)
  obtain ⟨p0, p1⟩ := HPC.out w1 (Below.refl _ _)
  have C1 := Lib.hid (gf_may k.nm w1)
  have C2 := Lib.hid (gf_may k.ro w1)
  obtain ⟨a1, ha1⟩ : ∃ a1, a1 = mayB k.nm := ⟨_, rfl⟩
  obtain ⟨a2, ha2⟩ : ∃ a2, a2 = mayB k.ro := ⟨_, rfl⟩
  rw [← ha1] at C1
  rw [← ha2] at C2
  have hn2 : mayPB S k = (a1 && (decide (k.ro = []) || a2)) := by unfold mayPB; rw [hS, hS, ha1, ha2]
  rw [hn2] at hn
  clear ha hD hS ha1 ha2 hn2
  unfold FwS.mark
  go_enter Tryz.func90, Tryz.ntmps90
  go_upto_region 1 with fail
  rw [← hw1, ← hgm, ← hgp]
  clear hw1 hgp hgm
  have HF : Hid (NoNewQ W 140 (.returned (.tuple #[.pointer none, .int .i64 140])) w1) := Lib.hid ⟨rfl, B1.out⟩
  cases a1
  case false =>
    clear hn
    go_wp2_with fail
    refine C1.out.mono ?_
    rintro e w' ⟨rfl, rfl⟩
    go_wp2_with fail
    refine C2.out.mono ?_
    rintro e w' ⟨rfl, rfl⟩
    clear C1 C2
    go_wp2_with fail
    go_ret2
    exact HF.out
  case true =>
    have hro : k.ro ≠ [] ∧ a2 = false := by
      rw [Bool.true_and, Bool.or_eq_false_iff] at hn
      exact ⟨of_decide_eq_false hn.1, hn.2⟩
    obtain ⟨hro, rfl⟩ := hro
    have hne : (strB k.ro).toList.isEmpty = false := by rw [strBL]; cases h : k.ro with | nil => exact absurd h hro | cons a l => rfl
    have hne2 : ¬ (strB k.ro).toList = [] := by rw [strBL]; exact hro
    clear hro hn
    go_wp2_with fail
    refine C1.out.mono ?_
    rintro e w' ⟨rfl, rfl⟩
    go_wp2_with fail
    refine C2.out.mono ?_
    rintro e w' ⟨rfl, rfl⟩
    clear C1 C2
    go_wp2_with fail
    go_ret2
    exact HF.out
set_option maxRecDepth 20000 in
set_option maxHeartbeats 8000000 in
theorem gf_new_inval {W : World} {p : Nat} {D : World → Prop} {S : List UInt8 → T5} {I : Int → T5} {R : Int → Int → Int → Int → List UInt8 × Int} (k : FwK) (f : FwS) (line : Int) (ha : RAsks p D S I R) (hS : ∀ nm, decide ((S nm).2.2.2.2 ≠ 140) = mayB nm) (hD : ∀ w, Below W.heap.size W w → D w) (hn : mayPB S k = true) (hl : mayNB line k.ch f = false) : Calls Tryz.prog 90 #[.agg #[.string (strB k.nm), .string (strB k.ro)], .int .i64 line, .int .i64 k.ch, .agg f.mark, .pointer (some ⟨p, 0, none⟩)] W (NoNewQ W 1) := by
  obtain ⟨w1, hw1⟩ : ∃ w1, w1 = (W.alloc (.cells #[.string (strB k.nm), .string (strB k.ro)] 96)).alloc (.cells #[.int .i64 f.se, .int .i64 f.ino, .int .i64 f.ge, .int .i64 f.off, .int .i64 f.mi, .int .i64 f.go, .int .i64 f.cu, .int .i64 f.ta, .int .i64 f.lo] 100) := ⟨_, rfl⟩
  obtain ⟨gp, hgp⟩ : ∃ gp, gp = W.heap.size := ⟨_, rfl⟩
  obtain ⟨gm, hgm⟩ : ∃ gm, gm = W.heap.size + 1 := ⟨_, rfl⟩
  have B1 : Hid (Below W.heap.size W w1) := Lib.hid (by rw [hw1]; exact ((Below.refl _ _).alloc (Nat.le_refl _) _).alloc (by simp) _)
  have KP : Hid (Blk w1 gp 96 #[.string (strB k.nm), .string (strB k.ro)]) := Lib.hid (by rw [hw1]; exact (Blk.new W _ _ hgp).alloc _)
  have KM : Hid (Blk w1 gm 100 #[.int .i64 f.se, .int .i64 f.ino, .int .i64 f.ge, .int .i64 f.off, .int .i64 f.mi, .int .i64 f.go, .int .i64 f.cu, .int .i64 f.ta, .int .i64 f.lo]) := Lib.hid (by rw [hw1]; exact Blk.new _ _ _ (by rw [hgm]; simp))
  have HA := Lib.hid ha
  have HD := Lib.hid hD
  have HS := Lib.hid hS
  have HPC : Hid (∀ w, Below w1.heap.size w1 w → w.cell? ⟨gp, 0, none⟩ = some (.string (strB k.nm)) ∧ w.cell? ⟨gp, 1, none⟩ = some (.string (strB k.ro))) := Lib.hid (fun w hb => ⟨(KP.out.keep hb).cell 0, (KP.out.keep hb).cell 1⟩)
  have HMC : Hid (∀ w, Below w1.heap.size w1 w → w.cell? ⟨gm, 0, none⟩ = some (.int .i64 f.se) ∧ w.cell? ⟨gm, 1, none⟩ = some (.int .i64 f.ino) ∧ w.cell? ⟨gm, 2, none⟩ = some (.int .i64 f.ge) ∧ w.cell? ⟨gm, 3, none⟩ = some (.int .i64 f.off) ∧ w.cell? ⟨gm, 4, none⟩ = some (.int .i64 f.mi) ∧ w.cell? ⟨gm, 5, none⟩ = some (.int .i64 f.go) ∧ w.cell? ⟨gm, 6, none⟩ = some (.int .i64 f.cu) ∧ w.cell? ⟨gm, 7, none⟩ = some (.int .i64 f.ta) ∧ w.cell? ⟨gm, 8, none⟩ = some (.int .i64 f.lo)) := Lib.hid (fun w hb => ⟨(KM.out.keep hb).cell 0, (KM.out.keep hb).cell 1, (KM.out.keep hb).cell 2, (KM.out.keep hb).cell 3, (KM.out.keep hb).cell 4, (KM.out.keep hb).cell 5, (KM.out.keep hb).cell 6, (KM.out.keep hb).cell 7, (KM.out.keep hb).cell 8⟩)
  obtain ⟨p0, p1⟩ := HPC.out w1 (Below.refl _ _)
  have C1 := Lib.hid (gf_may k.nm w1)
  have C2 := Lib.hid (gf_may k.ro w1)
  obtain ⟨a1, ha1⟩ : ∃ a1, a1 = mayB k.nm := ⟨_, rfl⟩
  obtain ⟨a2, ha2⟩ : ∃ a2, a2 = mayB k.ro := ⟨_, rfl⟩
  rw [← ha1] at C1
  rw [← ha2] at C2
  have hn2 : mayPB S k = (a1 && (decide (k.ro = []) || a2)) := by unfold mayPB; rw [hS, hS, ha1, ha2]
  rw [hn2] at hn
  clear ha hD hS ha1 ha2 hn2
  unfold FwS.mark
  go_enter Tryz.func90, Tryz.ntmps90
  go_upto_region 1 with fail
  rw [← hw1, ← hgm, ← hgp]
  clear hw1 hgp hgm
  have hcs : a1 = true ∧ (a2 = true ∨ (a2 = false ∧ k.ro = [])) := by
    rw [Bool.and_eq_true, Bool.or_eq_true] at hn
    refine ⟨hn.1, ?_⟩
    cases a2
    · exact .inr ⟨rfl, of_decide_eq_true (hn.2.resolve_right (by decide))⟩
    · exact .inl rfl
  obtain ⟨rfl, hcs⟩ := hcs
  clear hn
  have HCS := Lib.hid hcs
  clear hcs
  go_wp2_with fail
  refine C1.out.mono ?_
  rintro e w' ⟨rfl, rfl⟩
  go_wp2_with fail
  refine C2.out.mono ?_
  rintro e w' ⟨rfl, rfl⟩
  clear C1 C2
  go_upto_region 3 with fail
  go_cut [36] (fun s wx => s = .bool false ∧ wx = w1)
  case first =>
    rcases HCS.out with rfl | ⟨rfl, hro⟩
    · go_wp2_with fail
      go_meet
      exact ⟨rfl, rfl⟩
    · have hne : (strB k.ro).toList.isEmpty = true := by rw [strBL, hro]; rfl
      have hne2 : (strB k.ro).toList = [] := by rw [strBL]; exact hro
      clear hro
      go_wp2_with fail
      go_meet
      exact ⟨rfl, rfl⟩
  case rest =>
    obtain ⟨rfl, hcut⟩ := hcut
    rw [hcut]
    clear hcut wc
    obtain ⟨m0, m1, m2, m3, m4, m5, m6, m7, m8⟩ := HMC.out w1 (Below.refl _ _)
    have CK := Lib.hid (gf_mark w1 f)
    unfold FwS.mark at CK
    obtain ⟨ok, hok⟩ : ∃ ok, ok = f.okM := ⟨_, rfl⟩
    rw [← hok] at CK
    unfold mayNB at hl
    rw [← hok] at hl
    clear hok
    by_cases h0 : line < 1
    · clear hl
      go_wp2_with fail
      refine CK.out.mono ?_
      rintro e w8 ⟨rfl, hb8⟩
      have HF : Hid (NoNewQ W 1 (.returned (.tuple #[.pointer none, .int .i64 1])) w8) := Lib.hid ⟨rfl, B1.out.trans (hb8.mono B1.out.size)⟩
      clear hb8 CK m0 m1 m2 m3 m4 m5 m6 m7 m8 p0 p1
      go_wp2_with fail
      go_ret2
      exact HF.out
    by_cases h1 : 4096 < line
    · clear hl
      go_wp2_with fail
      refine CK.out.mono ?_
      rintro e w8 ⟨rfl, hb8⟩
      have HF : Hid (NoNewQ W 1 (.returned (.tuple #[.pointer none, .int .i64 1])) w8) := Lib.hid ⟨rfl, B1.out.trans (hb8.mono B1.out.size)⟩
      clear hb8 CK m0 m1 m2 m3 m4 m5 m6 m7 m8 p0 p1
      go_wp2_with fail
      go_ret2
      exact HF.out
    by_cases h2 : k.ch < 1
    · clear hl
      go_wp2_with fail
      refine CK.out.mono ?_
      rintro e w8 ⟨rfl, hb8⟩
      have HF : Hid (NoNewQ W 1 (.returned (.tuple #[.pointer none, .int .i64 1])) w8) := Lib.hid ⟨rfl, B1.out.trans (hb8.mono B1.out.size)⟩
      clear hb8 CK m0 m1 m2 m3 m4 m5 m6 m7 m8 p0 p1
      go_wp2_with fail
      go_ret2
      exact HF.out
    by_cases h3 : 4096 < k.ch
    · clear hl
      go_wp2_with fail
      refine CK.out.mono ?_
      rintro e w8 ⟨rfl, hb8⟩
      have HF : Hid (NoNewQ W 1 (.returned (.tuple #[.pointer none, .int .i64 1])) w8) := Lib.hid ⟨rfl, B1.out.trans (hb8.mono B1.out.size)⟩
      clear hb8 CK m0 m1 m2 m3 m4 m5 m6 m7 m8 p0 p1
      go_wp2_with fail
      go_ret2
      exact HF.out
    have hk : ok = false := by
      rw [decide_eq_true (show 1 ≤ line by omega), decide_eq_true (show line ≤ 4096 by omega), decide_eq_true (show 1 ≤ k.ch by omega), decide_eq_true (show k.ch ≤ 4096 by omega)] at hl
      simpa using hl
    subst hk
    clear hl
    go_wp2_with fail
    refine CK.out.mono ?_
    rintro e w8 ⟨rfl, hb8⟩
    have HF : Hid (NoNewQ W 1 (.returned (.tuple #[.pointer none, .int .i64 1])) w8) := Lib.hid ⟨rfl, B1.out.trans (hb8.mono B1.out.size)⟩
    clear hb8 CK m0 m1 m2 m3 m4 m5 m6 m7 m8 p0 p1
    go_wp2_with fail
    go_ret2
    exact HF.out
def BornG (W : World) (C : Nat → Nat) (c : Nat) (k : FwK) (f : FwS) (e : Ending) (w' : World) : Prop := ∃ rb, e = .returned (.tuple #[.pointer (some ⟨rb, 0, none⟩), .int .i64 0]) ∧ GfR w' (paint C W.heap.size c) c rb k f ∧ W.heap.size ≤ rb ∧ Below W.heap.size W w'
theorem GfR.recol {W : World} {C C' : Nat → Nat} {c rb : Nat} {k : FwK} {f : FwS} (h : GfR W C c rb k f) (hc : ∀ b, C b = c → C' b = c) : GfR W C' c rb k f := by
  obtain ⟨mb, v, h⟩ := h
  exact ⟨mb, v, h.blk, h.maker, hc _ h.cr, hc _ h.cm, fun q hq => hc _ (h.cv q hq)⟩
theorem gborn_at {W w1 : World} {C : Nat → Nat} {c rb mb : Nat} {k : FwK} {f : FwS} (hb : Blk w1 rb 116 (rfC k { f with u := [], lc := 0 } mb)) (hm : LRM w1 mb (.slice none 0 0) k.line [] 0) (h1 : W.heap.size ≤ rb) (h2 : W.heap.size ≤ mb) : GfR w1 (paint C W.heap.size c) c rb k { f with u := [], lc := 0 } :=
  ⟨mb, _, hb, hm, paint_new _ _ h1, paint_new _ _ h2, fun q hq => by cases hq⟩
set_option maxRecDepth 20000 in
set_option maxHeartbeats 8000000 in
theorem gf_new_ok (C : Nat → Nat) (c : Nat) {W : World} {p : Nat} {D : World → Prop} {S : List UInt8 → T5} {I : Int → T5} {R : Int → Int → Int → Int → List UInt8 × Int} (k : FwK) (f : FwS) (ha : RAsks p D S I R) (hS : ∀ nm, decide ((S nm).2.2.2.2 ≠ 140) = mayB nm) (hD : ∀ w, Below W.heap.size W w → D w) (hn : mayPB S k = true) (hl : mayNB (k.line : Int) k.ch f = true) : Calls Tryz.prog 90 #[.agg #[.string (strB k.nm), .string (strB k.ro)], .int .i64 (k.line : Int), .int .i64 k.ch, .agg f.mark, .pointer (some ⟨p, 0, none⟩)] W (BornG W C c k (f.born S k)) := by
  obtain ⟨w1, hw1⟩ : ∃ w1, w1 = (W.alloc (.cells #[.string (strB k.nm), .string (strB k.ro)] 96)).alloc (.cells #[.int .i64 f.se, .int .i64 f.ino, .int .i64 f.ge, .int .i64 f.off, .int .i64 f.mi, .int .i64 f.go, .int .i64 f.cu, .int .i64 f.ta, .int .i64 f.lo] 100) := ⟨_, rfl⟩
  obtain ⟨gp, hgp⟩ : ∃ gp, gp = W.heap.size := ⟨_, rfl⟩
  obtain ⟨gm, hgm⟩ : ∃ gm, gm = W.heap.size + 1 := ⟨_, rfl⟩
  have B1 : Hid (Below W.heap.size W w1) := Lib.hid (by rw [hw1]; exact ((Below.refl _ _).alloc (Nat.le_refl _) _).alloc (by simp) _)
  have KP : Hid (Blk w1 gp 96 #[.string (strB k.nm), .string (strB k.ro)]) := Lib.hid (by rw [hw1]; exact (Blk.new W _ _ hgp).alloc _)
  have KM : Hid (Blk w1 gm 100 #[.int .i64 f.se, .int .i64 f.ino, .int .i64 f.ge, .int .i64 f.off, .int .i64 f.mi, .int .i64 f.go, .int .i64 f.cu, .int .i64 f.ta, .int .i64 f.lo]) := Lib.hid (by rw [hw1]; exact Blk.new _ _ _ (by rw [hgm]; simp))
  have HA := Lib.hid ha
  have HD := Lib.hid hD
  have HS := Lib.hid hS
  have HPC : Hid (∀ w, Below w1.heap.size w1 w → w.cell? ⟨gp, 0, none⟩ = some (.string (strB k.nm)) ∧ w.cell? ⟨gp, 1, none⟩ = some (.string (strB k.ro))) := Lib.hid (fun w hb => ⟨(KP.out.keep hb).cell 0, (KP.out.keep hb).cell 1⟩)
  have HMC : Hid (∀ w, Below w1.heap.size w1 w → w.cell? ⟨gm, 0, none⟩ = some (.int .i64 f.se) ∧ w.cell? ⟨gm, 1, none⟩ = some (.int .i64 f.ino) ∧ w.cell? ⟨gm, 2, none⟩ = some (.int .i64 f.ge) ∧ w.cell? ⟨gm, 3, none⟩ = some (.int .i64 f.off) ∧ w.cell? ⟨gm, 4, none⟩ = some (.int .i64 f.mi) ∧ w.cell? ⟨gm, 5, none⟩ = some (.int .i64 f.go) ∧ w.cell? ⟨gm, 6, none⟩ = some (.int .i64 f.cu) ∧ w.cell? ⟨gm, 7, none⟩ = some (.int .i64 f.ta) ∧ w.cell? ⟨gm, 8, none⟩ = some (.int .i64 f.lo)) := Lib.hid (fun w hb => ⟨(KM.out.keep hb).cell 0, (KM.out.keep hb).cell 1, (KM.out.keep hb).cell 2, (KM.out.keep hb).cell 3, (KM.out.keep hb).cell 4, (KM.out.keep hb).cell 5, (KM.out.keep hb).cell 6, (KM.out.keep hb).cell 7, (KM.out.keep hb).cell 8⟩)
  obtain ⟨p0, p1⟩ := HPC.out w1 (Below.refl _ _)
  have C1 := Lib.hid (gf_may k.nm w1)
  have C2 := Lib.hid (gf_may k.ro w1)
  obtain ⟨a1, ha1⟩ : ∃ a1, a1 = mayB k.nm := ⟨_, rfl⟩
  obtain ⟨a2, ha2⟩ : ∃ a2, a2 = mayB k.ro := ⟨_, rfl⟩
  rw [← ha1] at C1
  rw [← ha2] at C2
  have hn2 : mayPB S k = (a1 && (decide (k.ro = []) || a2)) := by unfold mayPB; rw [hS, hS, ha1, ha2]
  rw [hn2] at hn
  clear ha hD hS ha1 ha2 hn2
  unfold FwS.mark
  go_enter Tryz.func90, Tryz.ntmps90
  go_upto_region 1 with fail
  rw [← hw1, ← hgm, ← hgp]
  clear hw1 hgp hgm
  have hcs : a1 = true ∧ (a2 = true ∨ (a2 = false ∧ k.ro = [])) := by
    rw [Bool.and_eq_true, Bool.or_eq_true] at hn
    refine ⟨hn.1, ?_⟩
    cases a2
    · exact .inr ⟨rfl, of_decide_eq_true (hn.2.resolve_right (by decide))⟩
    · exact .inl rfl
  obtain ⟨rfl, hcs⟩ := hcs
  clear hn
  have HCS := Lib.hid hcs
  clear hcs
  go_wp2_with fail
  refine C1.out.mono ?_
  rintro e w' ⟨rfl, rfl⟩
  go_wp2_with fail
  refine C2.out.mono ?_
  rintro e w' ⟨rfl, rfl⟩
  clear C1 C2
  go_upto_region 3 with fail
  go_cut [36] (fun s wx => s = .bool false ∧ wx = w1)
  case first =>
    rcases HCS.out with rfl | ⟨rfl, hro⟩
    · go_wp2_with fail
      go_meet
      exact ⟨rfl, rfl⟩
    · have hne : (strB k.ro).toList.isEmpty = true := by rw [strBL, hro]; rfl
      have hne2 : (strB k.ro).toList = [] := by rw [strBL]; exact hro
      clear hro
      go_wp2_with fail
      go_meet
      exact ⟨rfl, rfl⟩
  case rest =>
    obtain ⟨rfl, hcut⟩ := hcut
    rw [hcut]
    clear hcut wc
    obtain ⟨m0, m1, m2, m3, m4, m5, m6, m7, m8⟩ := HMC.out w1 (Below.refl _ _)
    have CK := Lib.hid (gf_mark w1 f)
    unfold FwS.mark at CK
    have hlo : 1 ≤ (k.line : Int) ∧ (k.line : Int) ≤ 4096 ∧ 1 ≤ k.ch ∧ k.ch ≤ 4096 ∧ f.okM = true := by
      unfold mayNB at hl
      simp only [Bool.and_eq_true, decide_eq_true_eq] at hl
      exact ⟨hl.1, hl.2.1, hl.2.2.1, hl.2.2.2.1, hl.2.2.2.2⟩
    obtain ⟨l1, l2, l3, l4, hok⟩ := hlo
    have HOK := Lib.hid (FwS.okM_ok hok)
    rw [hok] at CK
    clear hl hok
    go_wp2_with fail
    refine CK.out.mono ?_
    rintro e w8 ⟨rfl, hb8⟩
    have B8 : Hid (Below w1.heap.size w1 w8) := Lib.hid hb8
    have CN := Lib.hid (rnew_ok k.line w8 (by omega))
    clear hb8 CK m0 m1 m2 m3 m4 m5 m6 m7 m8 p0 p1
    go_wp2_with fail
    refine CN.out.mono ?_
    rintro e w9 ⟨mb, hmb, rfl, hm9, hb9, -⟩
    have B9 : Hid (Below w1.heap.size w1 w9) := Lib.hid (B8.out.trans (hb9.mono B8.out.size))
    have HMB : Hid (W.heap.size ≤ mb) := Lib.hid (by have := B8.out.size; have := B1.out.size; omega)
    have HM9 := Lib.hid hm9
    obtain ⟨m0, m1, m2, m3, m4, m5, m6, m7, m8⟩ := HMC.out w9 B9.out
    obtain ⟨p0, p1⟩ := HPC.out w9 B9.out
    obtain ⟨w10, hw10⟩ : ∃ w10, w10 = w9.alloc (.cells #[.string (strB k.nm), .string (strB k.ro), .int .i64 (k.line : Int), .int .i64 k.ch, .int .i64 f.se, .int .i64 f.ino, .int .i64 f.ge, .int .i64 f.off, .int .i64 f.mi, .int .i64 f.go, .int .i64 f.cu, .int .i64 f.ta, .int .i64 f.lo, .pointer (some ⟨mb, 0, none⟩)] 116) := ⟨_, rfl⟩
    obtain ⟨rb, hrb⟩ : ∃ rb, rb = w9.heap.size := ⟨_, rfl⟩
    have B10 : Hid (Below w1.heap.size w1 w10) := Lib.hid (by rw [hw10]; exact B9.out.alloc B9.out.size _)
    have HRB : Hid (W.heap.size ≤ rb) := Lib.hid (by have := B9.out.size; have := B1.out.size; omega)
    have F10 : Hid (GfR w10 (paint (fun _ => c + 1) W.heap.size c) c rb k { f with u := [], lc := 0 }) := Lib.hid (gborn_at (mb := mb) (by rw [hw10]; exact Blk.new w9 _ _ hrb) (by
      rw [hw10]; exact HM9.out.stp (S := fun _ => False) (Chg.of_below ((Below.refl _ _).alloc (Nat.le_refl _) _) _) (fun e => e) (fun _ _ e => e)) HRB.out HMB.out)
    have BW10 : Hid (Below W.heap.size W w10) := Lib.hid (B1.out.trans (B10.out.mono B1.out.size))
    clear hmb hm9 hb9 CN l1 l2 l3 l4
    go_upto_region 10 with fail
    rw [← hw10, ← hrb]
    clear hw10 hrb m0 m1 m2 m3 m4 m5 m6 m7 m8 p0 p1
    obtain ⟨q0, q1⟩ := HPC.out w10 B10.out
    have m1 := (HMC.out w10 B10.out).2.1
    have CA := Lib.hid (gf_named k.nm f.ino HA.out (HD.out w10 BW10.out))
    obtain ⟨b1, hb1⟩ : ∃ b1, b1 = namesB (S k.nm) f.ino := ⟨_, rfl⟩
    obtain ⟨b2, hb2⟩ : ∃ b2, b2 = namesB (S k.ro) f.ino := ⟨_, rfl⟩
    have HB1 := Lib.hid hb1
    have HB2 := Lib.hid hb2
    rw [← hb1] at CA
    clear hb1 hb2
    go_wp2_with fail
    refine CA.out.mono ?_
    rintro e w11 ⟨rfl, hb11⟩
    have B11 : Hid (Below w1.heap.size w1 w11) := Lib.hid (B10.out.trans (hb11.mono B10.out.size))
    have BW11 : Hid (Below W.heap.size W w11) := Lib.hid (BW10.out.trans (hb11.mono BW10.out.size))
    have F11 : Hid (GfR w11 (paint (fun _ => c + 1) W.heap.size c) c rb k { f with u := [], lc := 0 }) := Lib.hid (F10.out.keep hb11)
    have CB := Lib.hid (gf_named k.ro f.ino HA.out (HD.out w11 BW11.out))
    rw [← HB2.out] at CB
    clear hb11 CA m1 q0 q1 F10 BW10
    obtain ⟨q0, q1⟩ := HPC.out w11 B11.out
    have m1 := (HMC.out w11 B11.out).2.1
    go_wp2_with fail
    refine CB.out.mono ?_
    rintro e w12 ⟨rfl, hb12⟩
    have B12 : Hid (Below w1.heap.size w1 w12) := Lib.hid (B11.out.trans (hb12.mono B11.out.size))
    have BW12 : Hid (Below W.heap.size W w12) := Lib.hid (BW11.out.trans (hb12.mono BW11.out.size))
    have F12 : Hid (GfR w12 (paint (fun _ => c + 1) W.heap.size c) c rb k { f with u := [], lc := 0 }) := Lib.hid (F11.out.keep hb12)
    clear hb12 CB m1 q0 q1 F11 BW11
    have m1 := (HMC.out w12 B12.out).2.1
    obtain ⟨gb, hgb⟩ : ∃ gb, gb = (decide (0 < f.ino) && (!b1 && !b2)) := ⟨_, rfl⟩
    have HGB := Lib.hid hgb
    clear hgb
    go_upto_region 12 with fail
    go_cut [91] (fun s wx => s = .bool gb ∧ wx = w12)
    case first =>
      by_cases hi : 0 < f.ino
      · have hgb : Hid (gb = (!b1 && !b2)) := Lib.hid (by rw [HGB.out, decide_eq_true hi]; rfl)
        cases b1
        · go_wp2_with fail
          go_meet
          exact ⟨by rw [hgb.out]; rfl, rfl⟩
        · go_wp2_with fail
          go_meet
          exact ⟨by rw [hgb.out]; rfl, rfl⟩
      · have hgb : Hid (gb = false) := Lib.hid (by rw [HGB.out, decide_eq_false hi]; rfl)
        go_wp2_with fail
        go_meet
        exact ⟨by rw [hgb.out], rfl⟩
    case rest =>
      obtain ⟨rfl, hcut⟩ := hcut
      rw [hcut]
      clear hcut wc m1
      cases gb
      case false =>
        have HF : Hid (BornG W C c k (f.born S k) (.returned (.tuple #[.pointer (some ⟨rb, 0, none⟩), .int .i64 0])) w12) := Lib.hid (by
          refine ⟨rb, rfl, ?_, HRB.out, BW12.out⟩
          have h2 : f.born S k = { f with u := [], lc := 0 } := by
            unfold FwS.born
            rw [if_neg (fun h => by
              have h3 := HGB.out
              rw [decide_eq_true h.1, HB1.out, HB2.out, h.2.1, h.2.2] at h3
              exact absurd h3 (by decide))]
          rw [h2]
          exact F12.out.recol (fun b hb => paint_any hb))
        go_wp2_with fail
        go_ret2
        exact HF.out
      case true =>
        have CL := Lib.hid (gf_letGo F12.out)
        go_wp2_with fail
        refine CL.out.mono ?_
        rintro e w13 ⟨rfl, hq13⟩
        have BW13 : Hid (Below W.heap.size W w13) := Lib.hid (BW12.out.trans (hq13.2.below (fun b hb e => by rw [paint_old _ _ hb] at e; omega) BW12.out.size))
        have F13 : Hid (GfR w13 (paint (fun _ => c + 1) W.heap.size c) c rb k (FwS.letGo { f with u := [], lc := 0 })) := Lib.hid (by have h1 := hq13.1; rw [paint_paint _ c BW12.out.size] at h1; exact h1)
        clear hq13 CL F12 BW12
        have CU := Lib.hid (gf_more rb 9 f.go 1 w13 F13.out.cells.2.2.2.2.2.2.2.2.2.1 (F13.out.frozen 9) HOK.out.go.1 HOK.out.go.2 (by decide) (by decide))
        go_wp2_with fail
        refine CU.out.mono ?_
        rintro e w14 ⟨rfl, hw14⟩
        have HF : Hid (BornG W C c k (f.born S k) (.returned (.tuple #[.pointer (some ⟨rb, 0, none⟩), .int .i64 0])) w14) := Lib.hid (by
          have h1 : GfR w14 (paint (fun _ => c + 1) W.heap.size c) c rb k ((FwS.letGo { f with u := [], lc := 0 }).put 5 (upv f.go 1)) := by rw [hw14]; exact F13.out.put (i := 5) (by decide) _
          have hb14 : Below W.heap.size W w14 := by rw [hw14]; exact BW13.out.setCell (p := ⟨rb, 9, none⟩) HRB.out _
          refine ⟨rb, rfl, ?_, HRB.out, hb14⟩
          have h2 : f.born S k = (FwS.letGo { f with u := [], lc := 0 }).put 5 (upv f.go 1) := by
            unfold FwS.born
            have h3 := HGB.out.symm
            rw [Bool.and_eq_true, Bool.and_eq_true, decide_eq_true_eq] at h3
            rw [if_pos ⟨h3.1, by rw [← HB1.out]; simpa using h3.2.1, by rw [← HB2.out]; simpa using h3.2.2⟩]
            rfl
          rw [h2]
          exact h1.recol (fun b hb => paint_any hb))
        clear hw14 CU
        go_wp2_with fail
        go_ret2
        exact HF.out
end Go.Proofs.YtlojmmcagglpoaaGreat
