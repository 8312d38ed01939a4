/- THE WALK of a pair's holds: lists looked at, written over, lengthened. -/
import Derived.Test.YtckhmdeeddjkhaaPlayAll
import Derived.Deep.RegionLaw
namespace Go.Proofs.Ytckhmdeeddjkhaa
open Go.RowKit
def mk (ls : List (List Int)) (j k : Nat) : Prop := ∀ (a b : Nat) (l : List Int) (x : Int), ls[a]? = some l → l[b]? = some x → (a < j ∨ (a = j ∧ b < k)) → x = -1000 - (a : Int)
theorem mk_zero (ls : List (List Int)) : mk ls 0 0 := fun a b l x _ _ h => by omega
theorem mk_next {ls : List (List Int)} {j n : Nat} {l : List Int} (h : mk ls j n) (hl : ls[j]? = some l) (hn : l.length = n) : mk ls (j + 1) 0 := fun a b l' x ha hb hc => by
  refine h a b l' x ha hb ?_
  by_cases haj : a = j
  · subst haj
    rw [hl] at ha
    obtain rfl := Option.some.inj ha
    have := (List.getElem?_eq_some_iff.1 hb).1
    omega
  · omega
theorem mk_set {ls : List (List Int)} {j k : Nat} {l : List Int} (h : mk ls j k) (hl : ls[j]? = some l) : mk (ls.set j (l.set k (-1000 - (j : Int)))) j (k + 1) := fun a b l' x ha hb hc => by
  rcases get_set ha with ⟨rfl, rfl⟩ | ⟨hne, ha⟩
  · rcases get_set hb with ⟨rfl, rfl⟩ | ⟨hne, hb⟩
    · rfl
    · exact h a b l x hl hb (by omega)
  · exact h a b l' x ha hb (by omega)
theorem mk_all {ls : List (List Int)} {n : Nat} (h : mk ls n 0) (hn : ls.length = n) : marked ls := fun j l k x hj hk => h j k l x hj hk (by
  have := (List.getElem?_eq_some_iff.1 hj).1
  omega)
theorem marked_push {ls : List (List Int)} {j : Nat} {l : List Int} (h : marked ls) (hl : ls[j]? = some l) : marked (ls.set j (l ++ [-1000 - (j : Int)])) := fun a l' b x ha hb => by
  rcases get_set ha with ⟨rfl, rfl⟩ | ⟨hne, ha⟩
  · rw [List.getElem?_append] at hb
    split at hb
    · exact h a l b x hl hb
    · have := (List.getElem?_eq_some_iff.1 hb).1
      have h0 : b - l.length = 0 := by simp at this; omega
      rw [h0] at hb
      exact (Option.some.inj hb).symm
  · exact h a l' b x ha hb
theorem small_set {ls : List (List Int)} {j n : Nat} {l : List Int} (h : ∀ l ∈ ls, l.length ≤ n) (hl : l.length ≤ n) : ∀ l' ∈ ls.set j l, l'.length ≤ n := fun l' h' => by
  rcases List.mem_or_eq_of_mem_set h' with h1 | rfl
  · exact h l' h1
  · exact hl
/-- the lists, in the pair's block, behind changes of their own rows alone -/
structure LH (w0 W : World) (C C' : Nat → Nat × Nat) (i K g r : Nat) (v v' : Value) (vs : List Value) (ls : List (List Int)) (N B : Nat) : Prop where
  l : LL W C' (i, 3) v vs ls
  len : ls.length = N
  sm : ∀ l ∈ ls, l.length ≤ B
  c : Chg (fun b => C b = (i, 3)) w0 W
  s : Sam w0.heap.size C C'
  k : Blk W K 35 #[.pointer (some ⟨g, 0, none⟩), .pointer (some ⟨r, 0, none⟩), v, v']
  kw : K < w0.heap.size
  ck : C K = (i, 0)
theorem LH.outer {w0 W : World} {C C' : Nat → Nat × Nat} {i K g r N B cap : Nat} {Av : Option Addr} {v' : Value} {vs : List Value} {ls : List (List Int)} (h : LH w0 W C C' i K g r (.slice Av N cap) v' vs ls N B) {j : Nat} (hj : j < N) :
    ∃ gv u l, Av = some ⟨gv, 0, none⟩ ∧ C' gv = (i, 3) ∧ gv < W.heap.size ∧ vs[j]? = some u ∧ ls[j]? = some l ∧ OI W 0 u l ∧ W.cell? ⟨gv, j, none⟩ = some u ∧ W.frozen? ⟨gv, j, none⟩ = false ∧ N ≤ cap := by
  obtain ⟨A, cap', e, hc, _, hg⟩ := h.l.form
  injection e with e1 _ e2
  have hl := h.len
  obtain ⟨gv, rfl, h1, h2, h3⟩ := hg (by omega)
  obtain ⟨u, l, hu, hul, ho⟩ := h.l.at_ (j := j) (by omega)
  have hown := h.l.own
  rw [e1] at hown
  have hn : N = vs.length := by rw [h.l.len, hl]
  rw [hn] at hown
  exact ⟨gv, u, l, e1, h1, h2, hu, hul, ho, h3 j u hu, World.ownsRow.frozenAt hown j, by rw [e2]; omega⟩
theorem OI.at0 {w : World} {base n cb : Nat} {B : Option Addr} {l : List Int} (h : OI w base (.slice B n cb) l) (hn : 0 < l.length) : ∃ b, B = some ⟨b, 0, none⟩ := by
  rcases h.2 with ⟨_, e⟩ | ⟨g, _, _, e, _⟩
  · omega
  · injection e with e _ _
    exact ⟨g, e⟩
theorem LH.put {w0 W : World} {C C' : Nat → Nat × Nat} {i K g r N B cap b n cb j k : Nat} {Av : Option Addr} {v' : Value} {vs : List Value} {ls : List (List Int)} {l : List Int} (h : LH w0 W C C' i K g r (.slice Av N cap) v' vs ls N B) (x : Int)
    (hu : vs[j]? = some (.slice (some ⟨b, 0, none⟩) n cb)) (hl : ls[j]? = some l) : LH w0 (W.setCell ⟨b, k, none⟩ (.int .i64 x)) C C' i K g r (.slice Av N cap) v' vs (ls.set j (l.set k x)) N B := by
  obtain ⟨h1, h2⟩ := h.l.put (k := k) x hu hl
  have hch : Chg (fun y => y = b) W (W.setCell ⟨b, k, none⟩ (.int .i64 x)) := Chg.setCell (S := fun y => y = b) (p := ⟨b, k, none⟩) (Chg.refl _ W) (.inl rfl) _
  refine ⟨h1, by rw [List.length_set]; exact h.len, small_set h.sm (by rw [List.length_set]; exact h.sm l (List.mem_of_getElem? hl)), h.c.trans hch (fun y hy e => by rw [← h.s y hy, e]; exact h2), h.s, h.k.chg hch (fun e => ?_), h.kw, h.ck⟩
  have := h.s K h.kw
  rw [h.ck, e, h2] at this
  exact absurd this (by simp)
theorem LH.keep {w0 W W' : World} {C C' : Nat → Nat × Nat} {i K g r N B : Nat} {v v' : Value} {vs : List Value} {ls : List (List Int)} (h : LH w0 W C C' i K g r v v' vs ls N B) (hb : Below W.heap.size W W') : LH w0 W' C C' i K g r v v' vs ls N B :=
  ⟨h.l.step (Chg.of_below hb (fun _ => False)) (Sam.refl _ _) (fun _ h => h.elim), h.len, h.sm, h.c.trans (Chg.of_below hb (fun _ => False)) (fun _ _ h => h.elim), h.s, h.k.keep hb, h.kw, h.ck⟩
theorem LH.grow {w0 W w2 : World} {C C' : Nat → Nat × Nat} {i K g r N B cap gv j : Nat} {v' u u2 : Value} {vs : List Value} {ls : List (List Int)} {l : List Int} (h : LH w0 W C C' i K g r (.slice (some ⟨gv, 0, none⟩) N cap) v' vs ls N B) (x : Int)
    (hu : vs[j]? = some u) (hl : ls[j]? = some l) (hg : W.grownBy w2 u.ownBlock) (ho : OI w2 0 u2 (l ++ [x])) (ha : u2.ownBlock = u.ownBlock ∨ u2.ownBlock = some W.heap.size) :
    LH w0 (w2.setCell ⟨gv, j, none⟩ u2) C (paint C' W.heap.size (i, 3)) i K g r (.slice (some ⟨gv, 0, none⟩) N cap) v' (vs.set j u2) (ls.set j (l ++ [x])) N (B + 1) := by
  have hch : Chg (fun k => u.ownBlock = some k) W w2 := (Chg.refl _ W).grown hg (fun k e _ => e)
  have hch2 : Chg (fun y => y = gv) w2 (w2.setCell ⟨gv, j, none⟩ u2) := Chg.setCell (S := fun y => y = gv) (p := ⟨gv, j, none⟩) (Chg.refl _ w2) (.inl rfl) _
  have hgv : C' gv = (i, 3) := h.l.memv gv rfl
  have hck : C' K = (i, 0) := (h.s K h.kw).trans h.ck
  refine ⟨h.l.grow rfl hu hl hg ho ha, by rw [List.length_set]; exact h.len, small_set (fun l' hl' => Nat.le_succ_of_le (h.sm l' hl')) (by have := h.sm l (List.mem_of_getElem? hl); simp; omega),
    (h.c.trans hch (fun y hy e => by rw [← h.s y hy]; exact h.l.mem j u y hu e)).trans hch2 (fun y hy e => by rw [← h.s y hy, e]; exact hgv), h.s.trans (sam_paint C' _ _) h.c.size, (h.k.chg hch (fun e => ?_)).chg hch2 (fun e => ?_), h.kw, h.ck⟩
  · have := h.l.mem j u K hu e
    rw [hck] at this
    exact absurd this (by simp)
  · rw [e, hgv] at hck
    exact absurd hck (by simp)
set_option maxRecDepth 100000 in
set_option maxHeartbeats 4000000 in
theorem holds_any {C : Nat → Nat × Nat} {i K g p n f r m c : Nat} {xs q : List Int} {A : Option Addr} {v v' : Value} {vs vs' : List Value} {ls : List (List Int)} (w : World)
    (h : PR w C i K g p n f xs q r A m c v v' vs vs' ls ls) (hn : ls.length ≤ 100000000) :
    Calls Try.prog 11 #[.pointer (some ⟨K, 0, none⟩)] w fun e w' => e = .returned (.bool true) ∧ Chg (fun b => (C b).1 = i) w w' := by
  obtain ⟨Av, capv, hv, hv1, hv2, _⟩ := h.l.form
  obtain ⟨Aw, capw, hw, hw1, hw2, _⟩ := h.wt.form
  subst hv hw
  obtain ⟨N, hN⟩ : ∃ N, N = ls.length := ⟨_, rfl⟩
  rw [← hN] at hv1 hw1 hn h
  have c2 : w.cell? ⟨K, 2, none⟩ = some (.slice Av N capv) := h.blk.cell 2
  have c3 : w.cell? ⟨K, 3, none⟩ = some (.slice Aw N capw) := h.blk.cell 3
  have H0 : Hid (LH w w C C i K g r (.slice Av N capv) (.slice Aw N capw) vs ls N 64) := Lib.hid ⟨h.l, hN.symm, h.sm, Chg.refl _ _, Sam.refl _ _, h.blk, h.blk.lt, h.cK⟩
  have HW : Hid (∀ j, j < N → ∃ gw u l, Aw = some ⟨gw, 0, none⟩ ∧ vs'[j]? = some u ∧ ls[j]? = some l ∧ OI w 0 u l ∧ w.cell? ⟨gw, j, none⟩ = some u) := Lib.hid (fun j hj => by
    obtain ⟨A', cap', e, _, _, hg⟩ := h.wt.form
    injection e with e1 _ _
    obtain ⟨gw, rfl, _, _, h3⟩ := hg (by omega)
    obtain ⟨u, l, hu, hul, ho⟩ := h.wt.at_ (j := j) (by omega)
    exact ⟨gw, u, l, e1, hu, hul, ho, h3 j u hu⟩)
  clear h hN
  go_enter Try.func11, Try.ntmps11
  go_wp2_with fail
  go_loopw [12] (fun iv W => ∃ j : Nat, j ≤ N ∧ iv = .int .i64 (j : Int) ∧ ∃ k, W = w.drewN k) (fun iv _ => N - (intOf iv).toNat)
  case atStart => exact ⟨0, Nat.zero_le _, rfl, 0, rfl⟩
  case round =>
    obtain ⟨j, hj, rfl, k, hwr⟩ := hrel
    have hdr : Chg (fun _ => False) w wr := by rw [hwr]; exact (Chg.refl _ w).drewN k
    have hcl : ∀ p : Addr, wr.cell? p = w.cell? p := fun p => by rw [hwr]; rfl
    have HWR := Lib.hid hwr
    clear hwr
    by_cases hlt : j < N
    · obtain ⟨gv, u, l, rfl, _, _, hu, hul, ho, cu, _, _⟩ := H0.out.outer hlt
      obtain ⟨gw, u', l', rfl, hu', hul', ho', cu'⟩ := HW.out j hlt
      rw [hul] at hul'
      obtain rfl := Option.some.inj hul'
      have hl64 := H0.out.sm l (List.mem_of_getElem? hul)
      obtain ⟨B1, cb1, rfl, hb1, _, hr1⟩ := ho.form
      obtain ⟨B2, cb2, rfl, hb2, _, hr2⟩ := ho'.form
      have HS : Hid (∀ t : Nat, Calls Try.prog 28 #[.slice B1 l.length cb1, .slice B2 l.length cb2] (wr.drewN t) fun e w' => e = .returned (.bool true) ∧ ∃ s, w' = (wr.drewN t).drewN s) := Lib.hid (fun t =>
        same_ints _ _ _ _ _ l _ (hr1.chg (hdr.drewN t) (fun _ _ _ => id)) (hr2.chg (hdr.drewN t) (fun _ _ _ => id)) (by omega) hb1 hb2)
      rw [← hcl] at cu cu'
      have c2' := c2; have c3' := c3
      rw [← hcl] at c2' c3'
      clear hu hul ho hu' ho' hr1 hr2 hul' hcl hdr
      generalize l.length = L at *
      go_wp2_with fail
      go_quiet (with_reducible exact quietB (HS.out _))
      go_wp2_with fail
      go_roundw
      first
        | (case rel => exact ⟨j + 1, by omega, by go_num, _, by rw [HWR.out, World.drewN_drewN]⟩)
        | (case rel => (repeat apply Exists.intro); exact ⟨⟨j + 1, by omega, by go_num, _, by rw [HWR.out, World.drewN_drewN]⟩, rfl⟩)
      case measure => simp [intOf]; omega
    · obtain rfl : N = j := by omega
      have L1 : Hid (LH w wr C C i K g r (.slice Av N capv) (.slice Aw N capw) vs ls N 64) := Lib.hid ⟨H0.out.l.step hdr (Sam.refl _ _) (fun _ h => h.elim), H0.out.len, H0.out.sm, (hdr.mono (fun _ _ h => h.elim)).trans (Chg.refl _ _) (fun _ _ h => h), Sam.refl _ _, H0.out.k.chg hdr id, H0.out.kw, H0.out.ck⟩
      have c2' := L1.out.k.cell 2
      clear hcl hdr HWR H0 HW c2 c3 hlt hj
      have c2 : wr.cell? ⟨K, 2, none⟩ = some (.slice Av N capv) := c2'
      clear c2'
      obtain ⟨w1, hw1⟩ : ∃ w1, w1 = wr := ⟨_, rfl⟩
      subst hw1
      go_wp2_with fail
      go_loopw [37] (fun iv W => ∃ (j : Nat) (ls' : List (List Int)), j ≤ N ∧ iv = .int .i64 (j : Int) ∧ Hid (LH w W C C i K g r (.slice Av N capv) (.slice Aw N capw) vs ls' N 64) ∧ Hid (mk ls' j 0)) (fun iv _ => N - (intOf iv).toNat)
      case atStart => exact ⟨0, ls, Nat.zero_le _, rfl, L1, Lib.hid (mk_zero _)⟩
      case round =>
        obtain ⟨j, ls2, hj, rfl, L2, M2⟩ := hrel
        clear L1 c2
        by_cases hlt : j < N
        · obtain ⟨gv, u, l, rfl, hgc, hgl, hu, hul, ho, cu, fu, _⟩ := L2.out.outer hlt
          obtain ⟨B1, cb1, hue, hb1, _, hr1⟩ := ho.form
          have c2 : wr.cell? ⟨K, 2, none⟩ = some (.slice (some ⟨gv, 0, none⟩) N capv) := L2.out.k.cell 2
          have hl64 := L2.out.sm l (List.mem_of_getElem? hul)
          subst hue
          have HU := Lib.hid hu; have HUL := Lib.hid hul
          obtain ⟨n, hnl⟩ : ∃ n, n = l.length := ⟨_, rfl⟩
          rw [← hnl] at cu hb1 hl64 HU
          have HNL := Lib.hid hnl
          clear hu hul ho hr1 fu hgl hgc hnl
          go_wp2_with fail
          go_loopw [48] (fun iv W => ∃ (k : Nat) (ls' : List (List Int)) (l' : List Int), k ≤ n ∧ iv = .int .i64 (k : Int) ∧ Hid (LH w W C C i K g r (.slice (some ⟨gv, 0, none⟩) N capv) (.slice Aw N capw) vs ls' N 64) ∧ Hid (mk ls' j k) ∧ Hid (ls'[j]? = some l' ∧ l'.length = n)) (fun iv _ => n - (intOf iv).toNat)
          case atStart => exact ⟨0, ls2, l, Nat.zero_le _, rfl, L2, M2, Lib.hid ⟨HUL.out, HNL.out.symm⟩⟩
          case round =>
            obtain ⟨k, ls3, l3, hk, rfl, L3, M3, HL3⟩ := hrel
            clear c2 cu
            by_cases hlt2 : k < n
            · have c2 : wr.cell? ⟨K, 2, none⟩ = some (.slice (some ⟨gv, 0, none⟩) N capv) := L3.out.k.cell 2
              obtain ⟨gv', u, l4, hgv, _, _, hu, hul, ho, cu, _, _⟩ := L3.out.outer hlt
              injection hgv with hgv
              injection hgv with hgv _ _
              subst hgv
              rw [HU.out] at hu
              obtain rfl := Option.some.inj hu
              rw [HL3.out.1] at hul
              obtain rfl := Option.some.inj hul
              have hl3 := HL3.out.2
              obtain ⟨b1, rfl⟩ := ho.at0 (by omega)
              have fb : wr.frozen? ⟨b1, k, none⟩ = false := ho.frozenAt k
              have hk3 : k < l3.length := by omega
              have cb : wr.cell? ⟨b1, k, none⟩ = some (.int .i64 l3[k]) := ho.cellAt (List.getElem?_eq_getElem hk3)
              obtain ⟨old, hold⟩ : ∃ o, o = l3[k] := ⟨_, rfl⟩
              rw [← hold] at cb
              have q1 : IntKind.i64.wrap (-1000 - (j : Int)) = -1000 - (j : Int) := IntWalk.i64_in _ (by omega)
              have L5 := Lib.hid (L3.out.put (k := k) (-1000 - (j : Int)) HU.out HL3.out.1)
              have M5 := Lib.hid (mk_set M3.out HL3.out.1)
              have HL5 : Hid ((ls3.set j (l3.set k (-1000 - (j : Int))))[j]? = some (l3.set k (-1000 - (j : Int))) ∧ (l3.set k (-1000 - (j : Int))).length = n) := Lib.hid ⟨by rw [List.getElem?_set_self (by have := (List.getElem?_eq_some_iff.1 HL3.out.1).1; exact this)], by rw [List.length_set]; exact hl3⟩
              clear hold hk3 hl3 ho L3 M3 L2 M2
              go_wp2_with fail
              go_roundw
              first
                | (case rel => exact ⟨k + 1, _, _, by omega, by go_num, L5, M5, HL5⟩)
                | (case rel => (repeat apply Exists.intro); exact ⟨⟨k + 1, _, _, by omega, by go_num, L5, M5, HL5⟩, rfl⟩)
              case measure => simp [intOf]; omega
            · obtain rfl : n = k := by omega
              clear L2 M2
              go_wp2_with fail
              go_roundw
              first
                | (case rel => exact ⟨j + 1, ls3, by omega, by go_num, L3, Lib.hid (mk_next M3.out HL3.out.1 HL3.out.2)⟩)
                | (case rel => (repeat apply Exists.intro); exact ⟨⟨j + 1, ls3, by omega, by go_num, L3, Lib.hid (mk_next M3.out HL3.out.1 HL3.out.2)⟩, rfl⟩)
              case measure => simp [intOf]; omega
        · obtain rfl : N = j := by omega
          have CO := own_any C (i, 3) Av capv vs ls2 wr (by rw [L2.out.len]; exact L2.out.l) (mk_all M2.out L2.out.len) (by rw [L2.out.len]; omega) (fun l hl => by have := L2.out.sm l hl; omega)
          rw [L2.out.len] at CO
          have HCO := Lib.hid CO
          have MM2 := Lib.hid (mk_all M2.out L2.out.len)
          have c2 : wr.cell? ⟨K, 2, none⟩ = some (.slice Av N capv) := L2.out.k.cell 2
          clear CO M2 hlt hj
          go_wp2_with fail
          refine HCO.out.mono ?_
          rintro e w' ⟨rfl, rfl⟩
          clear HCO
          go_wp2_with fail
          go_loopw [75] (fun iv W => ∃ (j : Nat) (vs2 : List Value) (ls' : List (List Int)) (C' : Nat → Nat × Nat), j ≤ N ∧ iv = .int .i64 (j : Int) ∧ Hid (LH w W C C' i K g r (.slice Av N capv) (.slice Aw N capw) vs2 ls' N (64 + 3 * j)) ∧ Hid (marked ls')) (fun iv _ => N - (intOf iv).toNat)
          case atStart => exact ⟨0, vs, ls2, C, Nat.zero_le _, rfl, L2, MM2⟩
          case round =>
            obtain ⟨j, vs3, ls3, C3, hj, rfl, L3, M3⟩ := hrel
            clear L2 MM2 c2
            by_cases hlt : j < N
            · go_wp2_with fail
              go_loopw [78] (fun iv W => ∃ (t : Nat) (vs2 : List Value) (ls' : List (List Int)) (C' : Nat → Nat × Nat), t ≤ 3 ∧ iv = .int .i64 (t : Int) ∧ Hid (LH w W C C' i K g r (.slice Av N capv) (.slice Aw N capw) vs2 ls' N (64 + 3 * j + t)) ∧ Hid (marked ls')) (fun iv _ => 3 - (intOf iv).toNat)
              case atStart => exact ⟨0, vs3, ls3, C3, Nat.zero_le _, rfl, L3, M3⟩
              case round =>
                obtain ⟨t, vs4, ls4, C4, ht, rfl, L4, M4⟩ := hrel
                clear L3 M3
                by_cases hlt3 : t < 3
                · obtain ⟨gv, u, l, rfl, _, _, hu, hul, ho, cu, fu, hNc⟩ := L4.out.outer hlt
                  have hlm := L4.out.sm l (List.mem_of_getElem? hul)
                  obtain ⟨B1, cb1, hue, hb1, hb2, hr1⟩ := ho.form
                  have q1 : IntKind.i64.wrap (-1000 - (j : Int)) = -1000 - (j : Int) := IntWalk.i64_in _ (by omega)
                  have hal : Below wr.heap.size wr (wr.alloc (.cells #[.int .i64 (-1000 - (j : Int))] 3)).drew := ((Below.refl _ _).alloc (Nat.le_refl _) _).drew
                  have L5 := Lib.hid (L4.out.keep hal)
                  have O5 := Lib.hid (ho.keep hal)
                  have R5 : Hid (RI (wr.alloc (.cells #[.int .i64 (-1000 - (j : Int))] 3)).drew (some ⟨wr.heap.size, 0, none⟩) 1 [-1000 - (j : Int)]) := Lib.hid (ri_of_blk (Blk.new wr 3 #[.int .i64 (-1000 - (j : Int))] rfl) rfl)
                  have c2 : wr.cell? ⟨K, 2, none⟩ = some (.slice (some ⟨gv, 0, none⟩) N capv) := L4.out.k.cell 2
                  have c2a : (wr.alloc (.cells #[.int .i64 (-1000 - (j : Int))] 3)).cell? ⟨K, 2, none⟩ = some (.slice (some ⟨gv, 0, none⟩) N capv) := L5.out.k.cell 2
                  have cua : (wr.alloc (.cells #[.int .i64 (-1000 - (j : Int))] 3)).cell? ⟨gv, j, none⟩ = some u := (hal.cell (p := ⟨gv, j, none⟩) (World.block_lt_of_cell? wr _ cu)).trans cu
                  have HU := Lib.hid hu; have HUL := Lib.hid hul
                  have HLM : Hid (l.length + 1 ≤ 1000000000000) := Lib.hid (by omega)
                  have HG : Hid (∀ w2 : World, (wr.alloc (.cells #[.int .i64 (-1000 - (j : Int))] 3)).drew.grownBy w2 u.ownBlock → w2.cell? ⟨gv, j, none⟩ = some u ∧ w2.frozen? ⟨gv, j, none⟩ = false ∧ w2.cell? ⟨K, 2, none⟩ = some (.slice (some ⟨gv, 0, none⟩) N capv)) := Lib.hid (fun w2 hg => by
                    obtain ⟨gv', u', l', e, _, hgl, hu', _, _, cu', fu', _⟩ := L5.out.outer hlt
                    injection e with e
                    injection e with e _ _
                    subst e
                    rw [hu] at hu'
                    obtain rfl := Option.some.inj hu'
                    have hbk := hg.block gv hgl (fun e => L5.out.l.out hu rfl e.symm)
                    refine ⟨(World.cell?_of_block hbk).trans cu', (World.frozen?_of_block hbk).trans fu', ?_⟩
                    refine (World.cell?_of_block (hg.block K L5.out.k.lt (fun e => ?_))).trans (L5.out.k.cell 2)
                    have h1 := L5.out.l.mem j u K hu e.symm
                    rw [L5.out.s K L5.out.kw, L5.out.ck] at h1
                    exact absurd h1 (by simp))
                  subst hue
                  clear hu hul ho hr1 hal L4
                  generalize hn : l.length = n at *
                  have HNL := Lib.hid hn
                  clear hn
                  have HLN : Hid ((l ++ [-1000 - (j : Int)]).length = n + 1) := Lib.hid (by rw [List.length_append, HNL.out]; rfl)
                  go_wp2_with fail
                  go_region_law ((refine step_append_ints rfl (.tmp 91) (.tmp 94) rfl 0 (.slice B1 n cb1) l (by simp [Act.eval]) O5.out (some ⟨wr.heap.size, 0, none⟩) 1 1 [-1000 - (j : Int)] (by simp [Act.eval]) R5.out (by rw [HNL.out]; exact HLM.out) (by omega) ?_; intro v2 w2 ho2 hg2 ha2; obtain ⟨D, dc, hv2, hdc, hdm, hr2⟩ := ho2.form; rw [HLN.out] at hv2 hdc; subst hv2; obtain ⟨d1, e1, d2⟩ := HG.out w2 hg2; have O6 := Lib.hid ho2; have G6 := Lib.hid hg2; have A6 := Lib.hid ha2; clear ho2 hg2 ha2 hr2 hdm))
                  all_goals
                    have L7 := Lib.hid (L5.out.grow (-1000 - (j : Int)) HU.out HUL.out G6.out O6.out A6.out)
                    have M7 := Lib.hid (marked_push M4.out HUL.out)
                    clear L5 G6 O6 A6 O5 R5 HG d1 e1 d2 M4 cu fu c2 c2a cua
                    go_wp2_with fail
                    go_roundw
                    first
                      | (case rel => exact ⟨t + 1, _, _, _, by omega, by go_num, L7, M7⟩)
                      | (case rel => (repeat apply Exists.intro); exact ⟨⟨t + 1, _, _, _, by omega, by go_num, L7, M7⟩, rfl⟩)
                    case measure => simp [intOf]; omega
                · obtain rfl : t = 3 := by omega
                  go_wp2_with fail
                  go_roundw
                  first
                    | (case rel => exact ⟨j + 1, vs4, ls4, C4, by omega, by go_num, L4, M4⟩)
                    | (case rel => (repeat apply Exists.intro); exact ⟨⟨j + 1, vs4, ls4, C4, by omega, by go_num, L4, M4⟩, rfl⟩)
                  case measure => simp [intOf]; omega
            · obtain rfl : N = j := by omega
              have CO := own_any C3 (i, 3) Av capv vs3 ls3 wr (by rw [L3.out.len]; exact L3.out.l) M3.out (by rw [L3.out.len]; omega) (fun l hl => by have := L3.out.sm l hl; omega)
              rw [L3.out.len] at CO
              have HCO := Lib.hid CO
              have HF : Hid (Chg (fun b => (C b).1 = i) w wr) := Lib.hid (L3.out.c.mono (fun b _ e => by rw [e]))
              have c2 : wr.cell? ⟨K, 2, none⟩ = some (.slice Av N capv) := L3.out.k.cell 2
              clear CO M3 L3
              go_wp2_with fail
              refine HCO.out.mono ?_
              rintro e w' ⟨rfl, rfl⟩
              clear HCO
              go_wp2_with fail
              go_ret
              exact ⟨rfl, HF.out⟩
end Go.Proofs.Ytckhmdeeddjkhaa
