/- THE WALKS of the law's may and least0. -/
import Derived.Test.YtpeaacbbfkanmaaDoorCkptHelp
namespace Go.Proofs.YtpeaacbbfkanmaaDoor
open Go.RowKit
def lz0 (v : Int) : Int := if v < 0 then -(v + 1) else v
def lz (v : Int) : Int := if 4611686018427387904 < lz0 v then lz0 v - 4611686018427387904 else lz0 v
theorem lz_bd {v : Int} (h1 : -9223372036854775808 ≤ v) (h2 : v ≤ 9223372036854775807) : 0 ≤ lz v ∧ lz v ≤ 4611686018427387904 := by
  unfold lz lz0; split <;> split <;> omega
theorem least_any (v : Int) (w : World) (h1 : -9223372036854775808 ≤ v) (h2 : v ≤ 9223372036854775807) :
    Calls Tryd.prog 29 #[.int .i64 v] w fun e w' => e = .returned (.int .i64 (lz v)) ∧ w = w' := by
  by_cases h0 : v < 0
  · by_cases hb : 4611686018427387904 < -(v + 1)
    · have e2 : Hid (lz v = -(v + 1) - 4611686018427387904) := Lib.hid (by unfold lz lz0; rw [if_pos h0, if_pos hb])
      go_enter Tryd.func29, Tryd.ntmps29
      go_wp2_with fail
      go_ret
      exact ⟨by rw [e2.out]; rfl, rfl⟩
    · have e2 : Hid (lz v = -(v + 1)) := Lib.hid (by unfold lz lz0; rw [if_pos h0, if_neg hb])
      go_enter Tryd.func29, Tryd.ntmps29
      go_wp2_with fail
      go_ret
      exact ⟨by rw [e2.out]; rfl, rfl⟩
  · by_cases hb : 4611686018427387904 < v
    · have e2 : Hid (lz v = v - 4611686018427387904) := Lib.hid (by unfold lz lz0; rw [if_neg h0, if_pos hb])
      go_enter Tryd.func29, Tryd.ntmps29
      go_wp2_with fail
      go_ret
      exact ⟨by rw [e2.out]; rfl, rfl⟩
    · have e2 : Hid (lz v = v) := Lib.hid (by unfold lz lz0; rw [if_neg h0, if_neg hb])
      go_enter Tryd.func29, Tryd.ntmps29
      go_wp2_with fail
      go_ret
      exact ⟨by rw [e2.out]; rfl, rfl⟩
def mkX (m : Mk) : Mk :=
  if 0 < lz m.a1 then ⟨if lz m.a0 = 0 then 1 else lz m.a0, lz m.a1, lz m.a2, lz m.a3, lz m.a4, lz m.a5, lz m.a6, lz m.a7, lz m.a8⟩
  else ⟨lz m.a0, lz m.a1, 0, 0, lz m.a4, lz m.a5, lz m.a6, lz m.a7, lz m.a8⟩
def oneM : Mk := ⟨1, 1, 0, 2, 0, 0, 0, 0, 0⟩
def mayOf (l : List Mk) : List Mk := if l.length = 0 then [oneM] else (l.take 8).map mkX
/-- all numbers are of 64 bits -/
def M64 (m : Mk) : Prop := ∀ x ∈ m.list, -9223372036854775808 ≤ x ∧ x ≤ 9223372036854775807
theorem mkX_may {m : Mk} (h : M64 m) : mayM (mkX m) = true := by
  obtain ⟨a0, a1, a2, a3, a4, a5, a6, a7, a8⟩ := m
  have hb : ∀ x ∈ (Mk.mk a0 a1 a2 a3 a4 a5 a6 a7 a8).list, 0 ≤ lz x ∧ lz x ≤ 4611686018427387904 := fun x hx => lz_bd (h x hx).1 (h x hx).2
  simp only [Mk.list, List.mem_cons, List.not_mem_nil, or_false, forall_eq_or_imp, forall_eq] at hb
  obtain ⟨h0, h1, h2, h3, h4, h5, h6, h7, h8⟩ := hb
  have hf : ∀ x : Int, 0 ≤ x ∧ x ≤ 4611686018427387904 → bigB x = false := fun x hx => by unfold bigB; simp; omega
  unfold mayM mkX
  by_cases hi : 0 < lz a1
  · have hi' : ¬ lz a1 = 0 := by omega
    rw [if_pos hi]
    by_cases hz : lz a0 = 0
    · rw [if_pos hz]
      simp only [Mk.list, List.all_cons, List.all_nil, hf _ h1, hf _ h2, hf _ h3, hf _ h4, hf _ h5, hf _ h6, hf _ h7, hf _ h8, hf 1 (by omega), oddB]
      simp [hi']
    · rw [if_neg hz]
      simp only [Mk.list, List.all_cons, List.all_nil, hf _ h0, hf _ h1, hf _ h2, hf _ h3, hf _ h4, hf _ h5, hf _ h6, hf _ h7, hf _ h8, oddB]
      simp [hi', hz]
  · have hi' : lz a1 = 0 := by omega
    rw [if_neg hi]
    simp only [Mk.list, List.all_cons, List.all_nil, hf _ h0, hf _ h1, hf _ h4, hf _ h5, hf _ h6, hf _ h7, hf _ h8, hf 0 (by omega), oddB]
    simp [hi']
theorem mayOf_may {l : List Mk} (h : ∀ m ∈ l, M64 m) : mayB (mayOf l) = true := by
  unfold mayOf
  split
  · decide
  · rename_i hl
    unfold mayB
    have h1 : ((l.take 8).map mkX).all mayM = true := by
      rw [List.all_eq_true]
      intro x hx
      obtain ⟨m, hm, rfl⟩ := List.mem_map.1 hx
      exact mkX_may (h m (List.mem_of_mem_take hm))
    rw [h1, List.length_map, List.length_take]
    simp only [Bool.true_and, Bool.and_eq_true, decide_eq_true_eq]
    omega
def OfPost (l : List Mk) (w : World) (e : Ending) (w' : World) : Prop := ∃ v, e = .returned v ∧ OM w' w.heap.size v l ∧ Below w.heap.size w w'
theorem mk_cells (x : Mk) : x.cells = #[.int .i64 x.a0, .int .i64 x.a1, .int .i64 x.a2, .int .i64 x.a3, .int .i64 x.a4, .int .i64 x.a5, .int .i64 x.a6, .int .i64 x.a7, .int .i64 x.a8] := rfl
set_option maxRecDepth 100000 in
set_option maxHeartbeats 40000000 in
theorem lawmay_any (A : Option Addr) (n cap : Nat) (l : List Mk) (w : World) (hl : MS w A n l) (hcap : n ≤ cap) (_hn : n ≤ 9223372036854775807) (hm : ∀ m ∈ l, M64 m) :
    Calls Tryd.prog 15 #[.slice A n cap] w (OfPost (mayOf l) w) := by
  have HL := Lib.hid hl; have HM := Lib.hid hm; clear hl hm
  go_enter Tryd.func15, Tryd.ntmps15
  go_wp2_with fail
  go_loopg [3, 9] 8 (fun g lv iv W => ∃ k : Nat, k ≤ n ∧ k ≤ 8 ∧ g = 8 - k ∧ iv = .int .i64 (k : Int) ∧ Hid (OM W w.heap.size lv ((l.take k).map mkX)) ∧ Hid (Below w.heap.size w W))
  case atStart => exact ⟨0, Nat.zero_le _, by omega, rfl, rfl, Lib.hid (OM.nil _ _), Lib.hid (Below.refl _ _)⟩
  case round =>
    obtain ⟨k, hk, hk8, rfl, rfl, HO, HB⟩ := hrel
    by_cases hlt : k < n
    · by_cases h8 : k < 8
      · obtain ⟨bb, off, m, rfl, hbb, hm, c0, c1, c2, c3, c4, c5, c6, c7, c8⟩ := (HL.out.keep HB.out).at_ hlt
        have h64 := HM.out m (List.mem_of_getElem? hm)
        have q : ∀ x ∈ m.list, ∀ w', Calls Tryd.prog 29 #[.int .i64 x] w' fun e w'' => e = .returned (.int .i64 (lz x)) ∧ w' = w'' := fun x hx w' => least_any x w' (h64 x hx).1 (h64 x hx).2
        simp only [Mk.list, List.mem_cons, List.not_mem_nil, or_false, forall_eq_or_imp, forall_eq] at q
        obtain ⟨q0, q1, q2, q3, q4, q5, q6, q7, q8⟩ := q
        have Q0 := Lib.hid q0; have Q1 := Lib.hid q1; have Q2 := Lib.hid q2; have Q3 := Lib.hid q3; have Q4 := Lib.hid q4; have Q5 := Lib.hid q5; have Q6 := Lib.hid q6; have Q7 := Lib.hid q7; have Q8 := Lib.hid q8
        have HMM := Lib.hid hm
        clear hm h64 q0 q1 q2 q3 q4 q5 q6 q7 q8
        have O1 : Hid (Blk (wr.alloc (.cells m.cells 31)) wr.heap.size 31 m.cells) := Lib.hid (Blk.new _ _ _ rfl)
        have B1 := Lib.hid ((Below.refl wr.heap.size wr).alloc (Nat.le_refl _) (.cells m.cells 31))
        unfold Mk.cells at O1 B1
        go_upto_region 6 with fail
        obtain ⟨w4, hw4⟩ : ∃ w4, w4 = wr.alloc (.cells #[.int .i64 m.a0, .int .i64 m.a1, .int .i64 m.a2, .int .i64 m.a3, .int .i64 m.a4, .int .i64 m.a5, .int .i64 m.a6, .int .i64 m.a7, .int .i64 m.a8] 31) := ⟨_, rfl⟩
        obtain ⟨po, hpo⟩ : ∃ po, po = wr.heap.size := ⟨_, rfl⟩
        rw [← hw4] at O1 B1 ⊢
        rw [← hpo] at O1 ⊢
        clear hw4 hpo c0 c1 c2 c3 c4 c5 c6 c7 c8
        have a0 : w4.cell? ⟨po, 0, none⟩ = some (.int .i64 m.a0) := O1.out.cell 0
        have a1 : w4.cell? ⟨po, 1, none⟩ = some (.int .i64 m.a1) := O1.out.cell 1
        have a4 : w4.cell? ⟨po, 4, none⟩ = some (.int .i64 m.a4) := O1.out.cell 4
        have a5 : w4.cell? ⟨po, 5, none⟩ = some (.int .i64 m.a5) := O1.out.cell 5
        have a6 : w4.cell? ⟨po, 6, none⟩ = some (.int .i64 m.a6) := O1.out.cell 6
        have a7 : w4.cell? ⟨po, 7, none⟩ = some (.int .i64 m.a7) := O1.out.cell 7
        have a8 : w4.cell? ⟨po, 8, none⟩ = some (.int .i64 m.a8) := O1.out.cell 8
        go_cut [6] (fun s wx => s = .pointer (some ⟨w4.heap.size, 0, none⟩) ∧ Blk wx w4.heap.size 31 #[.int .i64 (lz m.a0), .int .i64 (lz m.a1), .int .i64 0, .int .i64 0, .int .i64 (lz m.a4), .int .i64 (lz m.a5), .int .i64 (lz m.a6), .int .i64 (lz m.a7), .int .i64 (lz m.a8)] ∧ Below w4.heap.size w4 wx)
        case first =>
          go_region_held3 (fun w' => w'.cell? ⟨po, 0, none⟩ = some (.int .i64 m.a0) ∧ w'.cell? ⟨po, 1, none⟩ = some (.int .i64 m.a1) ∧ w'.cell? ⟨po, 4, none⟩ = some (.int .i64 m.a4) ∧ w'.cell? ⟨po, 5, none⟩ = some (.int .i64 m.a5) ∧ w'.cell? ⟨po, 6, none⟩ = some (.int .i64 m.a6) ∧ w'.cell? ⟨po, 7, none⟩ = some (.int .i64 m.a7) ∧ w'.cell? ⟨po, 8, none⟩ = some (.int .i64 m.a8)) (go_keep)
            (first | (go_at_call 29; (with_reducible refine (Q0.out _).mono ?_); rintro e w' ⟨rfl, rfl⟩) | (go_at_call 29; (with_reducible refine (Q1.out _).mono ?_); rintro e w' ⟨rfl, rfl⟩) | (go_at_call 29; (with_reducible refine (Q4.out _).mono ?_); rintro e w' ⟨rfl, rfl⟩) | (go_at_call 29; (with_reducible refine (Q5.out _).mono ?_); rintro e w' ⟨rfl, rfl⟩) | (go_at_call 29; (with_reducible refine (Q6.out _).mono ?_); rintro e w' ⟨rfl, rfl⟩) | (go_at_call 29; (with_reducible refine (Q7.out _).mono ?_); rintro e w' ⟨rfl, rfl⟩) | (go_at_call 29; (with_reducible refine (Q8.out _).mono ?_); rintro e w' ⟨rfl, rfl⟩))
          all_goals
            go_wp2_with fail
            go_meet
            exact ⟨rfl, Blk.drewN (Blk.new _ _ _ rfl) _, below_drewN ((Below.refl _ _).alloc (Nat.le_refl _) _) _⟩
        case rest =>
          obtain ⟨rfl, hX, hbw⟩ := hcut
          have OM2 := Lib.hid (O1.out.keep hbw)
          have hlt4 := O1.out.lt
          have OX := Lib.hid hX; have BX := Lib.hid hbw
          clear hX hbw a0 a1 a4 a5 a6 a7 a8
          obtain ⟨px, hpx⟩ : ∃ px, px = w4.heap.size := ⟨_, rfl⟩
          have hne : po ≠ px := by omega
          rw [← hpx] at OX ⊢
          have BS : Hid (w4.heap.size ≤ px) := Lib.hid (by omega)
          clear hpx hlt4
          have x1 : wc.cell? ⟨px, 1, none⟩ = some (.int .i64 (lz m.a1)) := OX.out.cell 1
          go_upto_if 46 with fail
          go_cut [] (fun wx => Hid (Blk wx px 31 (mkX m).cells) ∧ Hid (Below w4.heap.size w4 wx))
          case first =>
            have x2 : wc.cell? ⟨px, 2, none⟩ = some (.int .i64 0) := OX.out.cell 2
            have f2 : wc.frozen? ⟨px, 2, none⟩ = false := OX.out.frozen 2
            have m2 : wc.cell? ⟨po, 2, none⟩ = some (.int .i64 m.a2) := OM2.out.cell 2
            by_cases hi : 0 < lz m.a1
            · go_wp2_with fail
              refine (Q2.out _).mono ?_
              rintro e w' ⟨rfl, rfl⟩
              go_upto_region 9 with fail
              have OX5 := Lib.hid (OX.out.set_ 2 (.int .i64 (lz m.a2)))
              have OM5 := Lib.hid (OM2.out.far hne (p := ⟨px, 2, none⟩) (.int .i64 (lz m.a2)))
              have BX5 := Lib.hid (BX.out.setCell (p := ⟨px, 2, none⟩) BS.out (.int .i64 (lz m.a2)))
              obtain ⟨w5, hw5⟩ : ∃ w5, w5 = wc.setCell ⟨px, 2, none⟩ (.int .i64 (lz m.a2)) := ⟨_, rfl⟩
              rw [← hw5] at OX5 OM5 BX5 ⊢
              clear hw5 x1 x2 f2 m2
              have x3 : w5.cell? ⟨px, 3, none⟩ = some (.int .i64 0) := OX5.out.cell 3
              have f3 : w5.frozen? ⟨px, 3, none⟩ = false := OX5.out.frozen 3
              have m3 : w5.cell? ⟨po, 3, none⟩ = some (.int .i64 m.a3) := OM5.out.cell 3
              go_wp2_with fail
              refine (Q3.out _).mono ?_
              rintro e w' ⟨rfl, rfl⟩
              go_upto_region 10 with fail
              have OX6 := Lib.hid (OX5.out.set_ 3 (.int .i64 (lz m.a3)))
              have BX6 := Lib.hid (BX5.out.setCell (p := ⟨px, 3, none⟩) BS.out (.int .i64 (lz m.a3)))
              obtain ⟨w6, hw6⟩ : ∃ w6, w6 = w5.setCell ⟨px, 3, none⟩ (.int .i64 (lz m.a3)) := ⟨_, rfl⟩
              rw [← hw6] at OX6 BX6 ⊢
              clear hw6 x3 f3 m3
              have x0 : w6.cell? ⟨px, 0, none⟩ = some (.int .i64 (lz m.a0)) := OX6.out.cell 0
              have f0 : w6.frozen? ⟨px, 0, none⟩ = false := OX6.out.frozen 0
              by_cases hz : lz m.a0 = 0
              · have hE : Hid (Blk (w6.setCell ⟨px, 0, none⟩ (.int .i64 1)) px 31 (mkX m).cells) := Lib.hid (by
                  have := OX6.out.set_ 0 (.int .i64 1)
                  unfold mkX
                  rw [if_pos hi, if_pos hz]
                  exact this)
                have hB : Hid (Below w4.heap.size w4 (w6.setCell ⟨px, 0, none⟩ (.int .i64 1))) := Lib.hid (BX6.out.setCell BS.out _)
                go_wp2_with fail
                go_meet
                exact ⟨hE, hB⟩
              · have hE : Hid (Blk w6 px 31 (mkX m).cells) := Lib.hid (by
                  have := OX6.out
                  unfold mkX
                  rw [if_pos hi, if_neg hz]
                  exact this)
                go_wp2_with fail
                go_meet
                exact ⟨hE, BX6⟩
            · have hE : Hid (Blk wc px 31 (mkX m).cells) := Lib.hid (by
                have := OX.out
                unfold mkX
                rw [if_neg hi]
                exact this)
              go_wp2_with fail
              go_meet
              exact ⟨hE, BX⟩
          case rest =>
            obtain ⟨HX, HBX⟩ := hcut
            obtain ⟨y, hy⟩ : ∃ y, y = mkX m := ⟨_, rfl⟩
            rw [← hy] at HX
            have HYM := Lib.hid hy
            have HBW : Hid (Below wr.heap.size wr wc) := Lib.hid (B1.out.trans (HBX.out.mono B1.out.size))
            have HOW : Hid (OM (wc.alloc (.cells y.cells 31)) w.heap.size u3 ((l.take k).map mkX)) := Lib.hid (HO.out.keep (HBW.out.alloc HBW.out.size _))
            have HBB : Hid (Below w.heap.size w (wc.alloc (.cells y.cells 31))) := Lib.hid (by
              have h1 := HB.out.trans (HBW.out.mono HB.out.size)
              exact h1.alloc h1.size _)
            have HMS : Hid (MS (wc.alloc (.cells y.cells 31)) (some ⟨wc.heap.size, 0, none⟩) 1 [y]) := Lib.hid (MS.new wc y rfl)
            unfold Mk.cells at HOW HBB HMS
            have y0 : wc.cell? ⟨px, 0, none⟩ = some (.int .i64 y.a0) := HX.out.cell 0
            have y1 : wc.cell? ⟨px, 1, none⟩ = some (.int .i64 y.a1) := HX.out.cell 1
            have y2 : wc.cell? ⟨px, 2, none⟩ = some (.int .i64 y.a2) := HX.out.cell 2
            have y3 : wc.cell? ⟨px, 3, none⟩ = some (.int .i64 y.a3) := HX.out.cell 3
            have y4 : wc.cell? ⟨px, 4, none⟩ = some (.int .i64 y.a4) := HX.out.cell 4
            have y5 : wc.cell? ⟨px, 5, none⟩ = some (.int .i64 y.a5) := HX.out.cell 5
            have y6 : wc.cell? ⟨px, 6, none⟩ = some (.int .i64 y.a6) := HX.out.cell 6
            have y7 : wc.cell? ⟨px, 7, none⟩ = some (.int .i64 y.a7) := HX.out.cell 7
            have y8 : wc.cell? ⟨px, 8, none⟩ = some (.int .i64 y.a8) := HX.out.cell 8
            have hlk : ((l.take k).map mkX).length = k := by rw [List.length_map, List.length_take, Nat.min_eq_left (by have := HL.out.1; omega)]
            have HLK : Hid (((l.take k).map mkX).length + 1 ≤ 1048600) := Lib.hid (by rw [hlk]; omega)
            have HSN : Hid ((l.take (k + 1)).map mkX = (l.take k).map mkX ++ [y]) := Lib.hid (by rw [take_snoc HMM.out, List.map_append, hy]; rfl)
            clear hlk hy x1
            go_wp2_with ((at_builtin; go_must (refine append_marks rfl (.tmp 59) (.tmp 61) rfl w.heap.size u3 ((l.take k).map mkX) rfl HOW.out (some ⟨wc.heap.size, 0, none⟩) 1 1 [y] rfl HMS.out HLK.out HBB.out.size ?_); intro v7 w7 ho7 hg7 ha7; refine halt ?_))
            refine unhalt ?_
            have HO7 : Hid (OM w7 w.heap.size v7 ((l.take (k + 1)).map mkX)) := Lib.hid (by rw [HSN.out]; exact ho7)
            have HB7 : Hid (Below w.heap.size w w7) := Lib.hid (HBB.out.grown hg7 HBB.out.size (fun q hq => (HOW.out.lt q hq).1))
            clear ho7 hg7 ha7
            go_wp2_with fail
            go_roundg (8 - (k + 1))
            case measure => omega
            case rel => exact ⟨k + 1, by omega, by omega, rfl, by go_num, HO7, HB7⟩
      · obtain rfl : k = 8 := by omega
        obtain ⟨bb, off, m, rfl, hbb, hm, c0, c1, c2, c3, c4, c5, c6, c7, c8⟩ := (HL.out.keep HB.out).at_ hlt
        obtain ⟨A3, cap3, rfl, _, _, _⟩ := HO.out.form
        have hlk : ((l.take 8).map mkX).length = 8 := by rw [List.length_map, List.length_take, Nat.min_eq_left (by have := HL.out.1; omega)]
        have hF : OfPost (mayOf l) w (.returned (.slice A3 8 cap3)) (wr.alloc (.cells m.cells 31)) := ⟨_, rfl, by
          unfold mayOf
          rw [if_neg (by have := HL.out.1; omega)]
          have := HO.out
          rw [hlk] at this
          exact this.keep ((Below.refl _ _).alloc (Nat.le_refl _) _), HB.out.alloc HB.out.size _⟩
        unfold Mk.cells at hF
        rw [hlk] at *
        have HF := Lib.hid hF
        clear hF hlk
        go_wp2_with fail
        go_ret
        exact HF.out
    · obtain rfl : k = n := by omega
      obtain ⟨A3, cap3, rfl, _, _, _⟩ := HO.out.form
      have hlk : ((l.take k).map mkX).length = k := by rw [List.length_map, List.length_take, Nat.min_eq_left (by have := HL.out.1; omega)]
      have hll := HL.out.1
      by_cases h0 : k = 0
      · subst h0
        have hnil : l = [] := List.eq_nil_of_length_eq_zero hll
        subst hnil
        have HOW : Hid (OM (wr.alloc (.cells oneM.cells 31)) w.heap.size (.slice A3 0 cap3) []) := Lib.hid (HO.out.keep ((Below.refl _ _).alloc (Nat.le_refl _) _))
        have HBB : Hid (Below w.heap.size w (wr.alloc (.cells oneM.cells 31))) := Lib.hid (HB.out.alloc HB.out.size _)
        have HMS : Hid (MS (wr.alloc (.cells oneM.cells 31)) (some ⟨wr.heap.size, 0, none⟩) 1 [oneM]) := Lib.hid (MS.new wr oneM rfl)
        unfold Mk.cells oneM at HOW HBB HMS
        rw [hlk]
        clear hlk hll
        go_wp2_with ((at_builtin; go_must (refine append_marks rfl (.tmp 67) (.tmp 69) rfl w.heap.size (.slice A3 0 cap3) [] rfl HOW.out (some ⟨wr.heap.size, 0, none⟩) 1 1 [oneM] rfl HMS.out (by decide) HBB.out.size ?_); intro v7 w7 ho7 hg7 ha7; refine halt ?_))
        refine unhalt ?_
        have hF : OfPost (mayOf []) w (.returned v7) w7 := ⟨v7, rfl, ho7, HBB.out.grown hg7 HBB.out.size (fun q hq => (HOW.out.lt q hq).1)⟩
        have HF := Lib.hid hF
        clear hF ho7 hg7 ha7
        go_wp2_with fail
        go_ret
        exact HF.out
      · have hF : OfPost (mayOf l) w (.returned (.slice A3 k cap3)) wr := ⟨_, rfl, by
          unfold mayOf
          rw [if_neg (by omega)]
          have := HO.out
          rw [hlk] at this
          have e : l.take 8 = l.take k := by rw [List.take_of_length_le (by omega), List.take_of_length_le (by omega)]
          rw [e]
          exact this, HB.out⟩
        have h0' : ((k : Int) == 0) = false := by simp; omega
        rw [hlk]
        have HF := Lib.hid hF
        clear hF hlk hll
        go_wp2_with fail
        go_ret
        exact HF.out
end Go.Proofs.YtpeaacbbfkanmaaDoor
