/- THE WALK of the reference's Right. -/
import Derived.Test.YtnglgppdkohhpaaDoorTbRightB
namespace Go.Proofs.YtnglgppdkohhpaaDoor
open Go.RowKit
attribute [local go_sem ↓] Go.wp_at_zero Go.wp_at_succ
set_option maxHeartbeats 1000000 in
theorem rright_len (cs : Array Value) (t : Tb) (w : World) (h : TB w cs t) (hbad : t.nx.length < 1 ∨ 4096 < t.nx.length ∨ t.fo.length ≠ t.nx.length ∨ t.en.length ≠ t.nx.length) :
    Calls Tryd.prog 22 #[.agg cs] w (RightP false w) := by
  have D := Lib.hid (DX.new h)
  obtain ⟨An, cn, Af, cf, Ae, ce, c1, c2, c3, l1, l2, l3, r1, r2, r3⟩ := D.out.open_
  have hb : Below w.heap.size w (w.alloc (.cells cs 26)) := (Below.refl _ _).alloc (Nat.le_refl _) _
  have HB := Lib.hid hb
  obtain ⟨w1, hw1⟩ : ∃ w1, w1 = w.alloc (.cells cs 26) := ⟨_, rfl⟩
  obtain ⟨b, hbb⟩ : ∃ b, b = w.heap.size := ⟨_, rfl⟩
  obtain ⟨n, hn⟩ : ∃ n, n = t.nx.length := ⟨_, rfl⟩
  obtain ⟨nf, hnf⟩ : ∃ n, n = t.fo.length := ⟨_, rfl⟩
  obtain ⟨ne, hne⟩ : ∃ n, n = t.en.length := ⟨_, rfl⟩
  rw [← hn] at c1 hbad
  rw [← hnf] at c2 hbad
  rw [← hne] at c3 hbad
  have HBAD := Lib.hid hbad
  clear r1 r2 r3 h hb l1 l2 l3 hn hnf hne hbad
  go_enter Tryd.func22, Tryd.ntmps22
  go_upto_region 1 with fail
  rw [← hw1] at c1 c2 c3 HB ⊢
  rw [← hbb] at c1 c2 c3 ⊢
  have HB2 : Hid (∃ k, k = w.heap.size ∧ Below k w w1) := Lib.hid ⟨_, rfl, HB.out⟩
  clear hw1 hbb D HB
  by_cases h1 : n < 1
  · obtain rfl : n = 0 := by omega
    go_wp2_with fail
    go_ret
    obtain ⟨k2, rfl, hbw⟩ := HB2.out
    exact ⟨rfl, hbw⟩
  by_cases h2 : 4096 < n
  · go_wp2_with fail
    go_ret
    obtain ⟨k2, rfl, hbw⟩ := HB2.out
    exact ⟨rfl, hbw⟩
  by_cases h3 : nf = n
  · subst h3
    have h4 : ¬ ne = nf := by have := HBAD.out; omega
    have h4b : ((ne : Int) != (nf : Int)) = true := by rw [bne_iff_ne]; omega
    go_wp2_with fail
    go_ret
    obtain ⟨k2, rfl, hbw⟩ := HB2.out
    exact ⟨rfl, hbw⟩
  · have h4b : ((nf : Int) != (n : Int)) = true := by rw [bne_iff_ne]; omega
    go_wp2_with fail
    go_ret
    obtain ⟨k2, rfl, hbw⟩ := HB2.out
    exact ⟨rfl, hbw⟩
set_option maxHeartbeats 1000000 in
theorem rright_many (cs : Array Value) (t : Tb) (w : World) (h : TB w cs t) (h1 : 1 ≤ t.nx.length) (h2 : t.nx.length ≤ 4096) (h3 : t.fo.length = t.nx.length) (h4 : t.en.length = t.nx.length) (hbad : many t < 1 ∨ 256 < many t) :
    Calls Tryd.prog 22 #[.agg cs] w (RightP false w) := by
  have D := Lib.hid (DX.new h)
  obtain ⟨An, cn, Af, cf, Ae, ce, c1, c2, c3, l1, l2, l3, r1, r2, r3⟩ := D.out.open_
  have hb : Below w.heap.size w (w.alloc (.cells cs 26)) := (Below.refl _ _).alloc (Nat.le_refl _) _
  have HB := Lib.hid hb
  obtain ⟨w1, hw1⟩ : ∃ w1, w1 = w.alloc (.cells cs 26) := ⟨_, rfl⟩
  obtain ⟨b, hbb⟩ : ∃ b, b = w.heap.size := ⟨_, rfl⟩
  obtain ⟨n, hn⟩ : ∃ n, n = t.nx.length := ⟨_, rfl⟩
  rw [← hn] at c1 r1 h1 h2
  rw [h3, ← hn] at c2
  rw [h4, ← hn] at c3
  obtain ⟨b2, off, rfl, hb2, l, A', c', hl, hlc, c4, r4⟩ := r1.at_ (k := 0) (by omega)
  have hm : l.length = many t := by
    unfold many
    cases hx : t.nx with
    | nil => rw [hx] at hl; simp at hl
    | cons x xs => rw [hx] at hl; simp at hl; rw [hl]; rfl
  rw [hm] at c4
  rw [Nat.add_zero] at c4
  obtain ⟨m, hmm⟩ : ∃ m, m = many t := ⟨_, rfl⟩
  rw [← hmm] at c4 hbad
  clear r1 r2 r3 h hb l1 l2 l3 hn h3 h4 r4 hm hl hlc hmm hb2
  go_enter Tryd.func22, Tryd.ntmps22
  go_upto_region 1 with fail
  rw [← hw1] at c1 c2 c3 c4 HB ⊢
  rw [← hbb] at c1 c2 c3 ⊢
  have HB2 : Hid (∃ k, k = w.heap.size ∧ Below k w w1) := Lib.hid ⟨_, rfl, HB.out⟩
  clear hw1 hbb D HB
  rcases hbad with hbad | hbad
  · obtain rfl : m = 0 := by omega
    go_wp2_with fail
    go_ret
    obtain ⟨k2, rfl, hbw⟩ := HB2.out
    exact ⟨rfl, hbw⟩
  · go_wp2_with fail
    go_ret
    obtain ⟨k2, rfl, hbw⟩ := HB2.out
    exact ⟨rfl, hbw⟩
set_option maxRecDepth 100000 in
set_option maxHeartbeats 4000000 in
theorem rright_main (cs : Array Value) (t : Tb) (w : World) (h : TB w cs t) (h1 : 1 ≤ t.nx.length) (h2 : t.nx.length ≤ 4096) (h3 : t.fo.length = t.nx.length) (h4 : t.en.length = t.nx.length) (hm1 : 1 ≤ many t) (hm2 : many t ≤ 256) :
    Calls Tryd.prog 22 #[.agg cs] w (RightP (rightB t) w) := by
  have D := Lib.hid (DX.new h)
  have HB : Hid (Below w.heap.size w (w.alloc (.cells cs 26))) := Lib.hid ((Below.refl _ _).alloc (Nat.le_refl _) _)
  obtain ⟨w1, hw1⟩ : ∃ w1, w1 = w.alloc (.cells cs 26) := ⟨_, rfl⟩
  obtain ⟨b, hbb⟩ : ∃ b, b = w.heap.size := ⟨_, rfl⟩
  obtain ⟨n, hn⟩ : ∃ n, n = t.nx.length := ⟨_, rfl⟩
  obtain ⟨m, hmm⟩ : ∃ m, m = many t := ⟨_, rfl⟩
  have HN : Hid (n = t.nx.length ∧ t.fo.length = n ∧ t.en.length = n ∧ m = many t) := Lib.hid ⟨hn, by omega, by omega, hmm⟩
  have HT := Lib.hid h
  have hn1 : 1 ≤ n := by omega
  have hn2 : n ≤ 4096 := by omega
  have hm3 : 1 ≤ m := by omega
  have hm4 : m ≤ 256 := by omega
  clear h h1 h2 h3 h4 hm1 hm2 hn hmm
  go_enter Tryd.func22, Tryd.ntmps22
  go_upto_region 1 with fail
  rw [← hw1] at D HB ⊢
  rw [← hbb] at D ⊢
  have HBB := Lib.hid hbb
  clear hw1 hbb
  obtain ⟨An, cn, Af, cf, Ae, ce, c1, c2, c3, l1, l2, l3, r1, r2, r3⟩ := D.out.open_
  rw [← HN.out.1] at c1 r1 l1
  rw [HN.out.2.1] at c2 r2 l2
  rw [HN.out.2.2.1] at c3 r3 l3
  have R1 := Lib.hid r1; have R2 := Lib.hid r2; have R3 := Lib.hid r3
  obtain ⟨b0, off, rfl, hb0, l0, A0, c0', hl0, hlc, c4, _⟩ := r1.at_ (k := 0) (by omega)
  have hlm : l0.length = m := by
    rw [HN.out.2.2.2]
    unfold many
    cases hx : t.nx with
    | nil => rw [hx] at hl0; simp at hl0
    | cons x xs => rw [hx] at hl0; simp at hl0; rw [hl0]; rfl
  rw [hlm, Nat.add_zero] at c4
  clear r1 r2 r3 hl0 hlc hlm l1 l2 l3 hb0
  go_wp2_with fail
  go_loopw [5] (fun iv W => ∃ k : Nat, k ≤ 256 ∧ iv = .int .i64 (k : Int) ∧ Hid (Below w1.heap.size w1 W) ∧ Hid (∀ (j : Nat) (x : Int), j < k → t.cls[j]? = some x → 0 ≤ x ∧ x < (m : Int))) (fun iv _ => 256 - (intOf iv).toNat)
  case atStart => exact ⟨0, by omega, rfl, Lib.hid (Below.refl _ _), Lib.hid (fun j x hj => absurd hj (by omega))⟩
  case round =>
    obtain ⟨k, hk, rfl, B2, HK⟩ := hrel
    have BW : Hid (Below w.heap.size w wr) := Lib.hid (HB.out.trans (B2.out.mono HB.out.size))
    by_cases hlt : k < 256
    · obtain ⟨x, hx⟩ : ∃ x, t.cls[k]? = some x := ⟨_, List.getElem?_eq_getElem (by rw [HT.out.hc]; exact hlt)⟩
      have hcx : wr.cell? ⟨b, k, none⟩ = some (.int .i64 x) := (D.out.keep B2.out).cls hx
      have HX := Lib.hid hx
      clear hx
      by_cases hx0 : x < 0
      · go_wp2_with fail
        try go_quiet (fail)
        try go_wp2_with fail
        go_ret
        refine ⟨?_, by first | exact BW.out | exact below_drewN BW.out _⟩
        rw [rightB_false (fun hf => by have := (hf.c k x HX.out).1; omega)]
        rfl
      by_cases hxm : (m : Int) ≤ x
      · go_wp2_with fail
        try go_quiet (fail)
        try go_wp2_with fail
        go_ret
        refine ⟨?_, by first | exact BW.out | exact below_drewN BW.out _⟩
        rw [rightB_false (fun hf => by have := (hf.c k x HX.out).2; rw [← HN.out.2.2.2] at this; omega)]
        rfl
      go_wp2_with fail
      try go_quiet (fail)
      try go_wp2_with fail
      go_roundw
      case rel => exact ⟨k + 1, by omega, by go_num, by first | exact B2 | exact Lib.hid (below_drewN B2.out _), Lib.hid (fun j y hj hy => by
        by_cases e : j = k
        · subst e; rw [HX.out] at hy; obtain rfl := Option.some.inj hy; omega
        · exact HK.out j y (by omega) hy)⟩
      case measure => simp [intOf]; omega
    · obtain rfl : k = 256 := by omega
      have HC : Hid (∀ (j : Nat) (x : Int), t.cls[j]? = some x → 0 ≤ x ∧ x < (m : Int)) := Lib.hid (fun j x hx => HK.out j x (by have := (List.getElem?_eq_some_iff.1 hx).1; rw [HT.out.hc] at this; omega) hx)
      clear HK
      obtain ⟨w2, hw2⟩ : ∃ w2, w2 = wr := ⟨_, rfl⟩
      have D2 : Hid (DX w2 b cs t) := Lib.hid (by rw [hw2]; exact D.out.keep B2.out)
      have W2 : Hid (Below w.heap.size w w2) := Lib.hid (by rw [hw2]; exact BW.out)
      have Q1 : Hid (w2.cell? ⟨b, 256, none⟩ = some (.slice (some ⟨b0, off, none⟩) n cn) ∧ w2.cell? ⟨b, 257, none⟩ = some (.slice Af n cf) ∧ w2.cell? ⟨b, 258, none⟩ = some (.slice Ae n ce)) := Lib.hid (by rw [hw2]; exact ⟨cell_later B2.out c1, cell_later B2.out c2, cell_later B2.out c3⟩)
      have P1 : Hid (RGR w2 (some ⟨b0, off, none⟩) n t.nx) := Lib.hid (by rw [hw2]; exact R1.out.keep B2.out)
      have P2 : Hid (RG uV w2 Af n t.fo) := Lib.hid (by rw [hw2]; exact R2.out.keep B2.out)
      have P3 : Hid (RG uV w2 Ae n t.en) := Lib.hid (by rw [hw2]; exact R3.out.keep B2.out)
      rw [← hw2]
      clear hw2 B2 BW D c1 c2 c3 c4 R1 R2 R3 HBB HB
      go_wp2_with fail
      go_loopw [6, 7, 8] (fun iv _ _ W => ∃ s : Nat, s ≤ n ∧ iv = .int .i64 (s : Int) ∧ Hid (Below w2.heap.size w2 W) ∧ Hid (RowsTo t s)) (fun iv _ _ _ => n - (intOf iv).toNat)
      case atStart => exact ⟨0, Nat.zero_le _, rfl, Lib.hid (Below.refl _ _), Lib.hid (fun i l hi => absurd hi (by omega))⟩
      case round =>
        obtain ⟨s, hs, rfl, B2, HS⟩ := hrel
        have d1 : wr.cell? ⟨b, 256, none⟩ = some (.slice (some ⟨b0, off, none⟩) n cn) := cell_later B2.out Q1.out.1
        have d2 : wr.cell? ⟨b, 257, none⟩ = some (.slice Af n cf) := cell_later B2.out Q1.out.2.1
        have d3 : wr.cell? ⟨b, 258, none⟩ = some (.slice Ae n ce) := cell_later B2.out Q1.out.2.2
        have BW : Hid (Below w.heap.size w wr) := Lib.hid (W2.out.trans (B2.out.mono W2.out.size))
        by_cases hlt : s < n
        · obtain ⟨bn, on, hAn, hbn, row, A', c', hrow, hrc, e1, rr⟩ := (P1.out.keep B2.out).at_ hlt
          obtain ⟨rfl, rfl⟩ : b0 = bn ∧ off = on := by simpa using hAn
          obtain ⟨bf, of_, rfl, hbf, y, hy, e2⟩ := (P2.out.keep B2.out).at_ hlt
          obtain ⟨be, oe, rfl, hbe, z, hz, e3⟩ := (P3.out.keep B2.out).at_ hlt
          simp only [uV] at e2 e3
          have hyb : y < 4294967296 := HT.out.hu.1 y (List.mem_of_getElem? hy)
          have hzb : z < 4294967296 := HT.out.hu.2 z (List.mem_of_getElem? hz)
          have HV : Hid (t.nx[s]? = some row ∧ t.fo[s]? = some y ∧ t.en[s]? = some z) := Lib.hid ⟨hrow, hy, hz⟩
          have RR := Lib.hid rr
          obtain ⟨rl, hrl⟩ : ∃ rl, rl = row.length := ⟨_, rfl⟩
          rw [← hrl] at e1 RR hrc
          have HRL := Lib.hid hrl
          clear hAn hrow hy hz rr hrl
          have hbit := u32_and_nat y z hyb hzb
          by_cases hrm : rl = m
          · subst hrm
            by_cases hsb : subB y z = true
            · have e4 : y &&& z = y := by unfold subB at hsb; simpa using hsb
              rw [e4] at hbit
              clear e4
              go_upto_region 15 with fail
              go_quiet (fail)
              have B3 : Hid (Below w2.heap.size w2 (wr.drewN nq)) := Lib.hid (below_drewN B2.out _)
              have R4 := Lib.hid (RR.out.keep (below_drewN (Below.refl wr.heap.size wr) nq))
              obtain ⟨w3, hw3⟩ : ∃ w3, w3 = wr.drewN nq := ⟨_, rfl⟩
              rw [← hw3] at B3 R4 ⊢
              have HY : Hid (y < 4294967296 ∧ subB y z = true) := Lib.hid ⟨hyb, hsb⟩
              have E3 : Hid (w3.cell? ⟨b, 256, none⟩ = some (.slice (some ⟨b0, off, none⟩) n cn) ∧ w3.cell? ⟨b, 257, none⟩ = some (.slice (some ⟨bf, of_, none⟩) n cf) ∧ w3.cell? ⟨b0, off + s, none⟩ = some (.slice A' rl c') ∧ w3.cell? ⟨bf, of_ + s, none⟩ = some (.int .u32 (y : Int))) := Lib.hid (by
                rw [hw3]; exact ⟨d1, d2, e1, e2⟩)
              clear hw3 e1 e2 e3 d1 d2 d3 BW RR B2 hbit hbf hbe hbn hyb hzb hsb
              go_wp2_with fail
              go_loopw [7, 8] (fun iv _ W => ∃ k : Nat, k ≤ rl ∧ iv = .int .i64 (k : Int) ∧ Hid (Below w3.heap.size w3 W) ∧ Hid (∀ (j : Nat) (x : Int), j < k → row[j]? = some x → withinB t y x = true)) (fun iv _ _ => rl - (intOf iv).toNat)
              case atStart => exact ⟨0, Nat.zero_le _, rfl, Lib.hid (Below.refl _ _), Lib.hid (fun j x hj => absurd hj (by omega))⟩
              case round =>
                obtain ⟨k, hk, rfl, B4, HW⟩ := hrel
                by_cases hlt2 : k < rl
                · obtain ⟨bx, ox, rfl, hbx, x, hx, e4⟩ := (R4.out.keep B4.out).at_ hlt2
                  simp only [iV] at e4
                  have HX := Lib.hid hx
                  have B5 : Hid (Below w2.heap.size w2 wr) := Lib.hid (B3.out.trans (B4.out.mono B3.out.size))
                  have B6 : Hid (Below w.heap.size w wr) := Lib.hid (W2.out.trans (B5.out.mono W2.out.size))
                  have f1 := cell_later B4.out E3.out.1
                  have f2 := cell_later B4.out E3.out.2.1
                  have f3 := cell_later B4.out E3.out.2.2.1
                  have f4 := cell_later B4.out E3.out.2.2.2
                  have hyb := HY.out.1
                  clear hx
                  have bad : withinB t y x = false → rightB t = false := fun hbad => rightB_false (fun hf => by
                    have := (hf.r s row HV.out.1).2.2 k x HX.out
                    rw [getD_some HV.out.2.1, hbad] at this
                    cases this)
                  have BAD := Lib.hid bad; clear bad
                  by_cases hx0 : x < 0
                  · go_upto_region 21 with fail
                    go_quiet (fail)
                    have B7 : Hid (Below w.heap.size w (wr.drewN nq)) := Lib.hid (below_drewN B6.out _)
                    go_wp2_with fail
                    go_ret
                    refine ⟨?_, B7.out⟩
                    rw [BAD.out (by unfold withinB; rw [decide_eq_false (fun e => by omega)]; rfl)]
                    rfl
                  by_cases hxn : (n : Int) ≤ x
                  · go_upto_region 21 with fail
                    go_quiet (fail)
                    have B7 : Hid (Below w.heap.size w (wr.drewN nq)) := Lib.hid (below_drewN B6.out _)
                    go_wp2_with fail
                    go_ret
                    refine ⟨?_, B7.out⟩
                    rw [BAD.out (by unfold withinB; rw [← HN.out.1, decide_eq_false (fun e => by omega)]; rfl)]
                    rfl
                  obtain ⟨q, rfl⟩ := Int.eq_ofNat_of_zero_le (show 0 ≤ x by omega)
                  have hqn : q < n := by omega
                  obtain ⟨bf', of', e5, _, u, hu, f5⟩ := (P2.out.keep B5.out).at_ hqn
                  obtain ⟨rfl, rfl⟩ : bf = bf' ∧ of_ = of' := by simpa using e5
                  simp only [uV] at f5
                  have hub : u < 4294967296 := HT.out.hu.1 u (List.mem_of_getElem? hu)
                  have hbit := u32_and_nat y u hyb hub
                  have HWU : Hid (withinB t y (q : Int) = subB y u) := Lib.hid (by
                    unfold withinB
                    rw [← HN.out.1, decide_eq_true ⟨by omega, by omega⟩, Int.toNat_natCast, getD_some hu]; rfl)
                  clear hu e5
                  by_cases hsb : subB y u = true
                  · have e6 : y &&& u = y := by unfold subB at hsb; simpa using hsb
                    rw [e6] at hbit
                    have HSB := Lib.hid hsb
                    clear e6 hsb
                    go_upto_region 21 with fail
                    go_quiet (fail)
                    have B7 : Hid (Below w3.heap.size w3 (wr.drewN nq)) := Lib.hid (below_drewN B4.out _)
                    go_wp2_with fail
                    go_roundw
                    case rel =>
                      have HW2 : Hid (∀ (j : Nat) (x : Int), j < k + 1 → row[j]? = some x → withinB t y x = true) := Lib.hid (fun j v hj hv => by
                        by_cases e : j = k
                        · subst e; rw [HX.out] at hv; obtain rfl := Option.some.inj hv; rw [HWU.out]; exact HSB.out
                        · exact HW.out j v (by omega) hv)
                      first
                        | exact ⟨k + 1, by omega, by go_num, B7, HW2⟩
                        | ((repeat apply Exists.intro); exact ⟨⟨k + 1, by omega, by go_num, B7, HW2⟩, rfl⟩)
                    case measure => simp [intOf]; omega
                  · have hsf : subB y u = false := by simpa using hsb
                    have e6 : ¬ (y &&& u = y) := by unfold subB at hsb; simpa using hsb
                    obtain ⟨yu, hyu⟩ : ∃ yu, yu = y &&& u := ⟨_, rfl⟩
                    rw [← hyu] at e6 hbit
                    have hne : ((yu : Int) != (y : Int)) = true := by rw [bne_iff_ne]; omega
                    have HSF := Lib.hid hsf
                    clear hyu hsf hsb
                    go_upto_region 21 with fail
                    go_quiet (fail)
                    have B7 : Hid (Below w.heap.size w (wr.drewN nq)) := Lib.hid (below_drewN B6.out _)
                    go_wp2_with fail
                    go_ret
                    refine ⟨?_, B7.out⟩
                    rw [BAD.out (by rw [HWU.out]; exact HSF.out)]
                    rfl
                · obtain rfl : k = rl := by omega
                  go_wp2_with fail
                  go_roundw
                  case rel =>
                    have HR2 : Hid (RowsTo t (s + 1)) := Lib.hid (fun i l hi hl => by
                      by_cases e : i = s
                      · subst e
                        rw [HV.out.1] at hl
                        obtain rfl := Option.some.inj hl
                        refine ⟨by rw [← HRL.out, ← HN.out.2.2.2], by rw [getD_some HV.out.2.1, getD_some HV.out.2.2]; exact HY.out.2, fun j x hx => ?_⟩
                        rw [getD_some HV.out.2.1]
                        exact HW.out j x (by have := (List.getElem?_eq_some_iff.1 hx).1; rw [← HRL.out] at this; exact this) hx
                      · exact HS.out i l (by omega) hl)
                    have B8 : Hid (Below w2.heap.size w2 wr) := Lib.hid (B3.out.trans (B4.out.mono B3.out.size))
                    first
                      | exact ⟨s + 1, by omega, by go_num, B8, HR2⟩
                      | ((repeat apply Exists.intro); exact ⟨⟨s + 1, by omega, by go_num, B8, HR2⟩, rfl⟩)
                  case measure => simp [intOf]; omega
            · have hsf : subB y z = false := by simpa using hsb
              have e6 : ¬ (y &&& z = y) := by unfold subB at hsb; simpa using hsb
              obtain ⟨yu, hyu⟩ : ∃ yu, yu = y &&& z := ⟨_, rfl⟩
              rw [← hyu] at e6 hbit
              have hne : ((yu : Int) != (y : Int)) = true := by rw [bne_iff_ne]; omega
              have HSF := Lib.hid hsf
              clear hyu hsf hsb
              go_upto_region 15 with fail
              go_quiet (fail)
              have B3 : Hid (Below w.heap.size w (wr.drewN nq)) := Lib.hid (below_drewN BW.out _)
              go_wp2_with fail
              go_ret
              refine ⟨?_, B3.out⟩
              rw [rightB_false (fun hf => by
                have := (hf.r s row HV.out.1).2.1
                rw [getD_some HV.out.2.1, getD_some HV.out.2.2, HSF.out] at this
                cases this)]
              rfl
          · have hrb : ((rl : Int) != (m : Int)) = true := by rw [bne_iff_ne]; omega
            clear hbit
            go_upto_region 15 with fail
            go_quiet (fail)
            have B3 : Hid (Below w.heap.size w (wr.drewN nq)) := Lib.hid (below_drewN BW.out _)
            go_wp2_with fail
            go_ret
            refine ⟨?_, B3.out⟩
            rw [rightB_false (fun hf => by
              have := (hf.r s row HV.out.1).1
              rw [← HRL.out, ← HN.out.2.2.2] at this
              exact hrm this)]
            rfl
        · obtain rfl : s = n := by omega
          go_wp2_with fail
          go_ret
          refine ⟨?_, BW.out⟩
          rw [rightB_true ⟨by rw [← HN.out.1]; exact hn1, by rw [← HN.out.1]; exact hn2, by rw [HN.out.2.1, ← HN.out.1], by rw [HN.out.2.2.1, ← HN.out.1], by rw [← HN.out.2.2.2]; exact hm3, by rw [← HN.out.2.2.2]; exact hm4, by rw [← HN.out.2.2.2]; exact HC.out, fun i l hl => HS.out i l (by have := (List.getElem?_eq_some_iff.1 hl).1; rw [← HN.out.1] at this; exact this) hl⟩]
          rfl
theorem rright_any (cs : Array Value) (t : Tb) (w : World) (h : TB w cs t) :
    Calls Tryd.prog 22 #[.agg cs] w (RightP (rightB t) w) := by
  by_cases hlen : t.nx.length < 1 ∨ 4096 < t.nx.length ∨ t.fo.length ≠ t.nx.length ∨ t.en.length ≠ t.nx.length
  · rw [rightB_false (fun hf => by have h1 := hf.n1; have h2 := hf.n2; have h3 := hf.f; have h4 := hf.e; omega)]
    exact rright_len cs t w h hlen
  · by_cases hm : many t < 1 ∨ 256 < many t
    · rw [rightB_false (fun hf => by have h1 := hf.m1; have h2 := hf.m2; omega)]
      exact rright_many cs t w h (by omega) (by omega) (by omega) (by omega) hm
    · exact rright_main cs t w h (by omega) (by omega) (by omega) (by omega) (by omega) (by omega)
end Go.Proofs.YtnglgppdkohhpaaDoor
