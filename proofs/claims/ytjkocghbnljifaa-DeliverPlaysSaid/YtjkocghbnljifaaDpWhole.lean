/- THE WALK of Book.whole. -/
import Derived.Test.YtjkocghbnljifaaDpMore2
import Derived.Deep.DeepMust
import Derived.OwnWalk
import Derived.WalkSpells
import Derived.Deep.LoopGhost
namespace Go.Proofs.Ytjkocghbnljifaa
open Go.RowKit
/-- a row of slices that is the call's own, as a slice -/
theorem row_open {w : World} {B n : Nat} {e : TypeId} {v : Value} {vs : List Value} (h : w.ownsRow B e 1 v n vs) :
    ∃ A c, v = .slice A n c ∧ n ≤ c ∧ c ≤ maxLen ∧ (0 < n → ∃ g, A = some ⟨g, 0, none⟩ ∧ ∀ (j : Nat) (u : Value), vs[j]? = some u → w.cell? ⟨g, j, none⟩ = some u) := by
  rcases h.2 with ⟨e, h0⟩ | ⟨g, cap, cur, e, hb, hh, h1, h2, h3, h4⟩
  · exact ⟨none, 0, by rw [e, h0], by omega, Nat.zero_le _, fun h => absurd h (by omega)⟩
  · refine ⟨_, cap, e, h1, h2, fun hn => ⟨g, rfl, fun j u hu => ?_⟩⟩
    have ho := h
    rw [e] at ho
    have hl := h.1
    rw [World.ownsRow.cellAt ho j (by have := (List.getElem?_eq_some_iff.1 hu).1; omega)]
    exact hu
/-- all lists before the i-th, and the first j of the i-th, bear their marks -/
def MI (w0 w W : World) (C : Nat → Nat) (k : Nat) (vr vw : Value) (n i j : Nat) (rs : List (Nat × List Th)) : Prop :=
  RWs W w0.heap.size C vr rs ∧ Blk W k 36 #[vr, vw] ∧ Below w0.heap.size w W ∧ rs.length = n ∧
    ∀ (t : Nat) (x : Nat × List Th), rs[t]? = some x → ∀ (u : Nat) (y : Th), x.2[u]? = some y → (t < i ∨ (t = i ∧ u < j)) → y.p = -(t : Int) - 1
theorem RWs.put {w : World} {B : Nat} {C : Nat → Nat} {v : Value} {rs : List (Nat × List Th)} (h : RWs w B C v rs) {i j a : Nat} {l : List Th} {y0 : Th} (hi : rs[i]? = some (a, l)) (hj : l[j]? = some y0) (y : Th) :
    RWs (w.setCells a (j * 12) y.cells.toList) B C v (rs.set i (a, l.set j y)) ∧ Chg (fun b => b = a) w (w.setCells a (j * 12) y.cells.toList) := by
  have hc : Chg (fun b => b = a) w (w.setCells a (j * 12) y.cells.toList) := Chg.cellsSet (S := fun b => b = a) (.inl rfl) _ _ _ (Chg.refl _ w)
  obtain ⟨h1, h2, h3, h4⟩ := h.rb i _ hi
  have hin := (List.getElem?_eq_some_iff.1 hi).1
  have hm : (rs.set i (a, l.set j y)).map rawV = rs.map rawV := by
    rw [List.map_set]
    have e : rawV (a, l.set j y) = rawV (a, l) := by unfold rawV; simp
    rw [e]
    apply List.ext_getElem?
    intro t
    rw [List.getElem?_set]
    split
    · rename_i e; subst e
      rw [if_pos (by simpa using hin), List.getElem?_map, hi]; rfl
    · rfl
  have hv : v.ownBlock ≠ some a := fun e => by have := h.hv a e; have h3' : C a = 6 := h3; omega
  refine ⟨⟨?_, h.hv, fun t x hx => ?_, fun s t x z hs ht e => ?_⟩, hc⟩
  · rw [hm]
    exact hc.own h.own (fun b hb e => hv (e ▸ hb))
  · rw [List.getElem?_set] at hx
    split at hx
    · rename_i e
      subst e
      try rw [if_pos hin] at hx
      obtain rfl := Option.some.inj hx
      refine ⟨h1, ?_, h3, by simpa using h4⟩
      have hb := h2.cellsIn y.cells.toList (flatE Th.cells l) (j * 12)
      rw [flatE_setN th_size l hj y rfl] at hb
      exact hb
    · rename_i hne
      obtain ⟨g1, g2, g3, g4⟩ := h.rb t x hx
      exact ⟨g1, g2.chg hc (fun e => hne (h.ap i t _ _ hi hx e.symm)), g3, g4⟩
  · have key : ∀ (t : Nat) (x : Nat × List Th), (rs.set i (a, l.set j y))[t]? = some x → ∃ x', rs[t]? = some x' ∧ x'.1 = x.1 := fun t x hx => by
      rw [List.getElem?_set] at hx
      split at hx
      · rename_i e
        subst e
        try rw [if_pos hin] at hx
        obtain rfl := Option.some.inj hx
        exact ⟨_, hi, rfl⟩
      · exact ⟨x, hx, rfl⟩
    obtain ⟨x', hx', e1⟩ := key s x hs
    obtain ⟨z', hz', e2⟩ := key t z ht
    exact h.ap s t x' z' hx' hz' (by rw [e1, e2, e])
theorem MI.put {w0 w W : World} {C : Nat → Nat} {k : Nat} {vr vw : Value} {n i j : Nat} {rs : List (Nat × List Th)} (h : MI w0 w W C k vr vw n i j rs) (hck : C k = 3) (hB : w0.heap.size ≤ w.heap.size) {a : Nat} {l : List Th} (hi : rs[i]? = some (a, l)) (hj : j < l.length) :
    MI w0 w (W.setCells a (j * 12) (mkA i).cells.toList) C k vr vw n i (j + 1) (rs.set i (a, l.set j (mkA i))) := by
  obtain ⟨h1, h2, h3, h4, h5⟩ := h
  obtain ⟨y0, hy0⟩ : ∃ y0, l[j]? = some y0 := ⟨_, List.getElem?_eq_getElem hj⟩
  obtain ⟨k1, k2⟩ := h1.put hi hy0 (mkA i)
  obtain ⟨g1, g2, g3, g4⟩ := h1.rb i _ hi
  have hin := (List.getElem?_eq_some_iff.1 hi).1
  refine ⟨k1, h2.chg k2 (fun e => by rw [e] at hck; have g3' : C a = 6 := g3; omega), h3.trans (k2.below (fun b hb e => by have g1' : w0.heap.size ≤ a := g1; omega) (Nat.le_trans hB h3.size)), by simpa using h4, fun t x hx u y hu ht => ?_⟩
  rw [List.getElem?_set] at hx
  split at hx
  · rename_i e
    subst e
    try rw [if_pos hin] at hx
    obtain rfl := Option.some.inj hx
    have hu' : (l.set j (mkA i))[u]? = some y := hu
    rw [List.getElem?_set] at hu'
    split at hu'
    · rename_i e2
      try rw [if_pos hj] at hu'
      obtain rfl := Option.some.inj hu'
      rfl
    · rename_i e2
      exact h5 i _ hi u y hu' (.inr ⟨rfl, by omega⟩)
  · rename_i e
    exact h5 t x hx u y hu (by rcases ht with e2 | e2; exact .inl e2; exact absurd e2.1 (fun h => e h.symm))
theorem MI.next {w0 w W : World} {C : Nat → Nat} {k : Nat} {vr vw : Value} {n i j a : Nat} {l : List Th} {rs : List (Nat × List Th)} (h : MI w0 w W C k vr vw n i j rs) (hi : rs[i]? = some (a, l)) (hj : l.length ≤ j) : MI w0 w W C k vr vw n (i + 1) 0 rs :=
  ⟨h.1, h.2.1, h.2.2.1, h.2.2.2.1, fun t x hx u y hu ht => h.2.2.2.2 t x hx u y hu (by
    by_cases e : t = i
    · subst e
      rw [hi] at hx
      obtain rfl := Option.some.inj hx
      have := (List.getElem?_eq_some_iff.1 hu).1
      have h2 : u < l.length := this
      exact .inr ⟨rfl, by omega⟩
    · exact .inl (by omega))⟩
theorem row_cell {w : World} {B n m c : Nat} {e : TypeId} {A : Option Addr} {vs : List Value} (h : w.ownsRow B e 1 (.slice A n c) m vs) {j : Nat} {u : Value} (hu : vs[j]? = some u) : ∃ g, A = some ⟨g, 0, none⟩ ∧ w.cell? ⟨g, j, none⟩ = some u := by
  have hl := h.1
  have hj := (List.getElem?_eq_some_iff.1 hu).1
  rcases h.2 with ⟨e, h0⟩ | ⟨g, cap, cur, e, _⟩
  · omega
  · injection e with e1 e2 e3
    subst e1
    refine ⟨g, rfl, ?_⟩
    have ho := h
    rw [show Value.slice (some ⟨g, 0, none⟩) n c = .slice (some ⟨g, 0, none⟩) m c from by rw [e2]] at ho
    rw [World.ownsRow.cellAt ho j (by omega)]
    exact hu
def Whole (w0 w : World) (e : Ending) (w' : World) : Prop := e = .returned (.bool true) ∧ Below w0.heap.size w w'
set_option maxRecDepth 100000 in
set_option maxHeartbeats 4000000 in
theorem whole_any {w0 w : World} {C : Nat → Nat} {k : Nat} {vr vw : Value} {rs : List (Nat × List Th)} {us : List Value} (hk : Blk w k 36 #[vr, vw]) (hkl : w0.heap.size ≤ k) (hck : C k = 3) (hr : RWs w w0.heap.size C vr rs) (hw : WSs w w0.heap.size C vw us rs) (hn : rs.length ≤ 600) (hB : w0.heap.size ≤ w.heap.size) :
    Calls Try.prog 13 #[.pointer (some ⟨k, 0, none⟩)] w (Whole w0 w) := by
  obtain ⟨n, hnl⟩ : ∃ n, n = rs.length := ⟨_, rfl⟩
  obtain ⟨Ar, cr, rfl, hr1, hr2, hr3⟩ := row_open hr.own
  obtain ⟨Aw, cw, rfl, hw1, hw2, hw3⟩ := row_open hw.own
  have HN := Lib.hid hnl
  have HR := Lib.hid hr; have HW := Lib.hid hw; have HK := Lib.hid hk
  have HCK : Hid (w0.heap.size ≤ k ∧ C k = 3 ∧ w0.heap.size ≤ w.heap.size) := Lib.hid ⟨hkl, hck, hB⟩
  rw [List.length_map, ← hnl] at hr1 hr3 HR HK
  have hul : us.length = n := by have := hw.len; omega
  rw [hul] at hw1 hw3 HW HK
  have hn6 : n ≤ 600 := by omega
  have HR3 := Lib.hid hr3; have HW3 := Lib.hid hw3
  have HUL := Lib.hid hul
  simp only [maxLen] at hr2 hw2
  have C0 : w.cell? ⟨k, 0, none⟩ = some (.slice Ar n cr) := HK.out.cell 0
  have C1 : w.cell? ⟨k, 1, none⟩ = some (.slice Aw n cw) := HK.out.cell 1
  clear hnl hk hkl hck hr hw hn hB hr3 hw3 hul
  go_enter Try.func13, Try.ntmps13
  go_wp2_with fail
  go_loopw [3] (fun iv W => ∃ i : Nat, i ≤ n ∧ iv = .int .i64 (i : Int) ∧ ∃ md, W = w.drewN md) (fun iv _ => n - (intOf iv).toNat)
  case atStart => exact ⟨0, Nat.zero_le _, rfl, 0, rfl⟩
  case round =>
    obtain ⟨i, hin, rfl, md, hwr⟩ := hrel
    have HB := Lib.hid (show Below w.heap.size w wr by rw [hwr]; exact below_drewN (Below.refl _ _) _)
    have HMD : Hid (∃ md, wr = w.drewN md) := Lib.hid ⟨md, hwr⟩
    clear hwr
    have c0 : wr.cell? ⟨k, 0, none⟩ = some (.slice Ar n cr) := (HK.out.keep HB.out).cell 0
    have c1 : wr.cell? ⟨k, 1, none⟩ = some (.slice Aw n cw) := (HK.out.keep HB.out).cell 1
    by_cases hlt : i < n
    · obtain ⟨x, hx⟩ : ∃ x, rs[i]? = some x := ⟨_, List.getElem?_eq_getElem (by rw [← HN.out]; exact hlt)⟩
      obtain ⟨u, hu⟩ : ∃ u, us[i]? = some u := ⟨_, List.getElem?_eq_getElem (by rw [HUL.out]; exact hlt)⟩
      obtain ⟨gr, rfl, hgr⟩ := HR3.out (by omega)
      obtain ⟨gw, rfl, hgw⟩ := HW3.out (by omega)
      obtain ⟨A, c, rfl, hlc, has, _⟩ := HW.out.wb i u x hu hx
      obtain ⟨_, hbx, _, hl64⟩ := HR.out.rb i x hx
      obtain ⟨a, l⟩ := x
      have hgrl : gr < w.heap.size := (World.ownsRow.lt HR.out.own gr rfl).2
      have hgwl : gw < w.heap.size := (World.ownsRow.lt HW.out.own gw rfl).2
      have c2 : wr.cell? ⟨gr, i, none⟩ = some (.slice (some ⟨a, 0, none⟩) l.length l.length) := (HB.out.cell (p := ⟨gr, i, none⟩) hgrl).trans (hgr i _ (by rw [List.getElem?_map, hx]; rfl))
      have c3 : wr.cell? ⟨gw, i, none⟩ = some (.slice A l.length c) := (HB.out.cell (p := ⟨gw, i, none⟩) hgwl).trans (hgw i _ hu)
      have hl64' : l.length ≤ 64 := hl64
      have hlc' : l.length ≤ c := hlc
      have CS : Hid (∀ t, Calls Try.prog 11 #[.slice (some ⟨a, 0, none⟩) l.length l.length, .slice A l.length c] (wr.drewN t) fun e w' => e = .returned (.bool true) ∧ ∃ m, w' = (wr.drewN t).drewN m) := Lib.hid (fun t => same_al _ _ l.length _ _ l _ ((AS.of_blk (hbx.keep HB.out)).keep (below_drewN (Below.refl _ _) t)) ((has.keep HB.out).keep (below_drewN (Below.refl _ _) t)) (by omega) (Nat.le_refl _) hlc')
      obtain ⟨L, hL⟩ : ∃ L, L = l.length := ⟨_, rfl⟩
      rw [← hL] at CS c2 c3 hl64' hlc'
      have hiI : (i : Int) < (n : Int) := by omega
      have hi0 : (0 : Int) ≤ (i : Int) := by omega
      clear hgr hgw has hbx hl64 hlc hx hu hL
      go_upto_region 4 with fail
      go_quiet ((with_reducible exact quiet2 (CS.out _)))
      go_wp2_with fail
      go_roundw
      case rel => exact ⟨i + 1, by omega, by simp, by obtain ⟨md, e⟩ := HMD.out; exact ⟨md + nq, by rw [e]; simp⟩⟩
      case measure => simp [intOf]; omega
    · obtain rfl : n = i := by omega
      have BI : Hid (Below w0.heap.size w wr) := Lib.hid (HB.out.mono HCK.out.2.2)
      have M0 : Hid (MI w0 w wr C k (.slice Ar n cr) (.slice Aw n cw) n 0 0 rs) := Lib.hid ⟨HR.out.step (Chg.of_below HB.out (fun _ => False)) (fun _ _ => rfl) (fun _ _ e => e.elim), HK.out.keep HB.out, BI.out, HN.out.symm, fun t x _ u y _ h => by omega⟩
      clear HMD hlt HB
      go_wp2_with fail
      clear c0 c1 C0 C1 HR HW HR3 HW3 HUL HN HK BI
      go_loopw [4] (fun iv W => ∃ i : Nat, i ≤ n ∧ iv = .int .i64 (i : Int) ∧ ∃ rs', Hid (MI w0 w W C k (.slice Ar n cr) (.slice Aw n cw) n i 0 rs')) (fun iv _ => n - (intOf iv).toNat)
      case atStart => exact ⟨0, Nat.zero_le _, rfl, rs, M0⟩
      case round =>
        obtain ⟨i, hin, rfl, rs1, M1⟩ := hrel
        have c0 : wr.cell? ⟨k, 0, none⟩ = some (.slice Ar n cr) := M1.out.2.1.cell 0
        by_cases hlt : i < n
        · obtain ⟨⟨a, l⟩, hx⟩ : ∃ x, rs1[i]? = some x := ⟨_, List.getElem?_eq_getElem (by rw [M1.out.2.2.2.1]; exact hlt)⟩
          obtain ⟨gr, rfl, hcell⟩ := row_cell M1.out.1.own (show (rs1.map rawV)[i]? = some (.slice (some ⟨a, 0, none⟩) l.length l.length) by rw [List.getElem?_map, hx]; rfl)
          obtain ⟨wo, hwo⟩ : ∃ wo : World, wo = wr := ⟨_, rfl⟩
          subst hwo
          have hl64 : l.length ≤ 64 := (M1.out.1.rb i _ hx).2.2.2
          obtain ⟨L, hL⟩ : ∃ L, L = l.length := ⟨_, rfl⟩
          have HL := Lib.hid hL
          have HX := Lib.hid hx
          rw [← hL] at hl64 hcell
          have hiI : (i : Int) < (n : Int) := by omega
          have hi0 : (0 : Int) ≤ (i : Int) := by omega
          clear hL hx
          go_wp2_with fail
          clear hcell c0
          go_loopw [5] (fun jv W => ∃ j : Nat, j ≤ L ∧ jv = .int .i64 (j : Int) ∧ ∃ rs2 l2, Hid (rs2[i]? = some (a, l2) ∧ l2.length = L ∧ MI w0 w W C k (.slice (some ⟨gr, 0, none⟩) n cr) (.slice Aw n cw) n i j rs2)) (fun jv _ => L - (intOf jv).toNat)
          case atStart => exact ⟨0, Nat.zero_le _, rfl, rs1, l, Lib.hid ⟨HX.out, HL.out.symm, M1.out⟩⟩
          case round =>
            obtain ⟨j, hjL, rfl, rs2, l2, M2⟩ := hrel
            have c0 : wr.cell? ⟨k, 0, none⟩ = some (.slice (some ⟨gr, 0, none⟩) n cr) := M2.out.2.2.2.1.cell 0
            have c2 : wr.cell? ⟨gr, i, none⟩ = some (.slice (some ⟨a, 0, none⟩) L L) := by
              obtain ⟨g', e, hc⟩ := row_cell M2.out.2.2.1.own (show (rs2.map rawV)[i]? = some (.slice (some ⟨a, 0, none⟩) L L) by rw [List.getElem?_map, M2.out.1]; simp [rawV, M2.out.2.1])
              injection e with e
              injection e with e
              subst e
              exact hc
            by_cases hjlt : j < L
            · obtain ⟨y0, hy0⟩ : ∃ y0, l2[j]? = some y0 := ⟨_, List.getElem?_eq_getElem (by rw [M2.out.2.1]; exact hjlt)⟩
              have hblk := (M2.out.2.2.1.rb i _ M2.out.1).2.1
              have KC : ∀ t u, y0.cells[t]? = some u → wr.cell? ⟨a, j * 12 + t, none⟩ = some u := fun t u hu => by
                rw [hblk.cell]
                simpa using flatE_at th_size l2 hy0 hu
              have KF : ∀ t, wr.frozen? ⟨a, j * 12 + t, none⟩ = false := fun t => hblk.frozen _
              obtain ⟨zp, zm0, zm1, zm2, zm3, zm4, zm5, zm6, zm7, zm8, zt, zr⟩ := y0
              have k0 : wr.cell? ⟨a, j * 12, none⟩ = some (.int .i64 zp) := KC 0 _ rfl
              have k1 : wr.cell? ⟨a, j * 12 + 1, none⟩ = some (.int .i64 zm0) := KC 1 _ rfl
              have k2 : wr.cell? ⟨a, j * 12 + 2, none⟩ = some (.int .i64 zm1) := KC 2 _ rfl
              have k3 : wr.cell? ⟨a, j * 12 + 3, none⟩ = some (.int .i64 zm2) := KC 3 _ rfl
              have k4 : wr.cell? ⟨a, j * 12 + 4, none⟩ = some (.int .i64 zm3) := KC 4 _ rfl
              have k5 : wr.cell? ⟨a, j * 12 + 5, none⟩ = some (.int .i64 zm4) := KC 5 _ rfl
              have k6 : wr.cell? ⟨a, j * 12 + 6, none⟩ = some (.int .i64 zm5) := KC 6 _ rfl
              have k7 : wr.cell? ⟨a, j * 12 + 7, none⟩ = some (.int .i64 zm6) := KC 7 _ rfl
              have k8 : wr.cell? ⟨a, j * 12 + 8, none⟩ = some (.int .i64 zm7) := KC 8 _ rfl
              have k9 : wr.cell? ⟨a, j * 12 + 9, none⟩ = some (.int .i64 zm8) := KC 9 _ rfl
              have k10 : wr.cell? ⟨a, j * 12 + 10, none⟩ = some (.string zt) := KC 10 _ rfl
              have k11 : wr.cell? ⟨a, j * 12 + 11, none⟩ = some (.int .u32 zr) := KC 11 _ rfl
              have fk0 : wr.frozen? ⟨a, j * 12, none⟩ = false := KF 0
              have fk1 : wr.frozen? ⟨a, j * 12 + 1, none⟩ = false := KF 1
              have fk2 : wr.frozen? ⟨a, j * 12 + 2, none⟩ = false := KF 2
              have fk3 : wr.frozen? ⟨a, j * 12 + 3, none⟩ = false := KF 3
              have fk4 : wr.frozen? ⟨a, j * 12 + 4, none⟩ = false := KF 4
              have fk5 : wr.frozen? ⟨a, j * 12 + 5, none⟩ = false := KF 5
              have fk6 : wr.frozen? ⟨a, j * 12 + 6, none⟩ = false := KF 6
              have fk7 : wr.frozen? ⟨a, j * 12 + 7, none⟩ = false := KF 7
              have fk8 : wr.frozen? ⟨a, j * 12 + 8, none⟩ = false := KF 8
              have fk9 : wr.frozen? ⟨a, j * 12 + 9, none⟩ = false := KF 9
              have fk10 : wr.frozen? ⟨a, j * 12 + 10, none⟩ = false := KF 10
              have fk11 : wr.frozen? ⟨a, j * 12 + 11, none⟩ = false := KF 11
              have hjI : (j : Int) < (L : Int) := by omega
              have hj0 : (0 : Int) ≤ (j : Int) := by omega
              have hib : (i : Int) ≤ 600 := by omega
              clear KC KF hy0 hblk
              go_upto_region 11 with fail
              obtain ⟨W, hW⟩ : ∃ W, W = ((((((((((((wr).setCell ⟨a, j * 12, none⟩ (.int .i64 (-(i : Int) - 1))).setCell ⟨a, j * 12 + 1, none⟩ (.int .i64 0)).setCell ⟨a, j * 12 + 2, none⟩ (.int .i64 0)).setCell ⟨a, j * 12 + 3, none⟩ (.int .i64 0)).setCell ⟨a, j * 12 + 4, none⟩ (.int .i64 0)).setCell ⟨a, j * 12 + 5, none⟩ (.int .i64 0)).setCell ⟨a, j * 12 + 6, none⟩ (.int .i64 0)).setCell ⟨a, j * 12 + 7, none⟩ (.int .i64 0)).setCell ⟨a, j * 12 + 8, none⟩ (.int .i64 0)).setCell ⟨a, j * 12 + 9, none⟩ (.int .i64 0)).setCell ⟨a, j * 12 + 10, none⟩ (.string { data := #[] })).setCell ⟨a, j * 12 + 11, none⟩ (.int .u32 0) := ⟨_, rfl⟩
              rw [← hW]
              have hW' : W = wr.setCells a (j * 12) (mkA i).cells.toList := hW
              have M3 : Hid (MI w0 w W C k (.slice (some ⟨gr, 0, none⟩) n cr) (.slice Aw n cw) n i (j + 1) (rs2.set i (a, l2.set j (mkA i)))) := Lib.hid (by rw [hW']; exact M2.out.2.2.put HCK.out.2.1 HCK.out.2.2 M2.out.1 (by rw [M2.out.2.1]; exact hjlt))
              clear hW hW' k0 k1 k2 k3 k4 k5 k6 k7 k8 k9 k10 k11 fk0 fk1 fk2 fk3 fk4 fk5 fk6 fk7 fk8 fk9 fk10 fk11
              go_wp2_with fail
              go_roundw
              case rel =>
                refine ⟨j + 1, by omega, by simp, _, l2.set j (mkA i), Lib.hid ⟨?_, ?_, M3.out⟩⟩
                · have := (List.getElem?_eq_some_iff.1 M2.out.1).1
                  rw [List.getElem?_set_self this]
                · rw [List.length_set]; exact M2.out.2.1
              case measure => simp [intOf]; omega
            · have M3 : Hid (MI w0 w wr C k (.slice (some ⟨gr, 0, none⟩) n cr) (.slice Aw n cw) n (i + 1) 0 rs2) := Lib.hid (M2.out.2.2.next M2.out.1 (by rw [M2.out.2.1]; omega))
              go_wp2_with fail
              go_roundw
              case rel => exact ⟨i + 1, by omega, by simp, rs2, M3⟩
              case measure => simp [intOf]; omega
        · obtain rfl : n = i := by omega
          clear hlt M0
          go_wp2_with fail
          clear c0
          obtain ⟨wo, hwo⟩ : ∃ wo : World, wo = wr := ⟨_, rfl⟩
          subst hwo
          have HI3 : Hid (rs1.length = n) := Lib.hid M1.out.2.2.2.1
          go_loopw [6, 7] (fun mv iv W => ∃ i : Nat, i ≤ n ∧ iv = .int .i64 (i : Int) ∧ ∃ Am cm, mv = .slice Am i cm ∧ Hid (R4 wo W rs1 i (.slice Am i cm))) (fun _ iv _ => n - (intOf iv).toNat)
          case atStart => exact ⟨0, Nat.zero_le _, rfl, none, 0, rfl, Lib.hid (R4.nil _ _)⟩
          case round =>
            obtain ⟨i, hin2, rfl, Am, cm, rfl, R⟩ := hrel
            have HBW : Hid (Below wo.heap.size wo wr) := Lib.hid (let ⟨_, _, _, _, h, _⟩ := R.out; h)
            have c0 : wr.cell? ⟨k, 0, none⟩ = some (.slice Ar n cr) := (M1.out.2.1.keep HBW.out).cell 0
            by_cases hlt : i < n
            · obtain ⟨⟨a, l⟩, hx⟩ : ∃ x, rs1[i]? = some x := ⟨_, List.getElem?_eq_getElem (by rw [HI3.out]; exact hlt)⟩
              obtain ⟨gr, rfl, hcell⟩ := row_cell M1.out.1.own (show (rs1.map rawV)[i]? = some (.slice (some ⟨a, 0, none⟩) l.length l.length) by rw [List.getElem?_map, hx]; rfl)
              have hgrl : gr < wo.heap.size := (World.ownsRow.lt M1.out.1.own gr rfl).2
              have c2 : wr.cell? ⟨gr, i, none⟩ = some (.slice (some ⟨a, 0, none⟩) l.length l.length) := (HBW.out.cell (p := ⟨gr, i, none⟩) hgrl).trans hcell
              have hblk := (M1.out.1.rb i _ hx).2.1.keep HBW.out
              have hl64 : l.length ≤ 64 := (M1.out.1.rb i _ hx).2.2.2
              have HX := Lib.hid hx
              obtain ⟨L, hL⟩ : ∃ L, L = l.length := ⟨_, rfl⟩
              have HL := Lib.hid hL
              rw [← hL] at hl64 c2
              have hiI : (i : Int) < (n : Int) := by omega
              have hi0 : (0 : Int) ≤ (i : Int) := by omega
              have hib : (i : Int) ≤ 600 := by omega
              have hL1 : L ≤ 100000 := by omega
              have HB5 : Hid (Blk (wr.alloc (.cells #[.int .i64 (-(i : Int) - 1), .int .i64 0, .int .i64 0, .int .i64 0, .int .i64 0, .int .i64 0, .int .i64 0, .int .i64 0, .int .i64 0, .int .i64 0, .string { data := #[] }, .int .u32 0] 44)) a 44 (flatE Th.cells l).toArray) := Lib.hid (hblk.keep (below_alloc _ _))
              have HY5 : Hid (Blk (wr.alloc (.cells #[.int .i64 (-(i : Int) - 1), .int .i64 0, .int .i64 0, .int .i64 0, .int .i64 0, .int .i64 0, .int .i64 0, .int .i64 0, .int .i64 0, .int .i64 0, .string { data := #[] }, .int .u32 0] 44)) wr.heap.size 44 (mkA i).cells) := Lib.hid (Blk.new wr _ _ rfl)
              have H5 : Hid (Below wr.heap.size wr (wr.alloc (.cells #[.int .i64 (-(i : Int) - 1), .int .i64 0, .int .i64 0, .int .i64 0, .int .i64 0, .int .i64 0, .int .i64 0, .int .i64 0, .int .i64 0, .int .i64 0, .string { data := #[] }, .int .u32 0] 44))) := Lib.hid (below_alloc _ _)
              have ONE : Hid (∀ g' c' w6, L + 1 ≤ c' → AS w6 (some ⟨g', 0, none⟩) (L + 1) (l ++ [mkA i]) → Below (wr.alloc (.cells #[.int .i64 (-(i : Int) - 1), .int .i64 0, .int .i64 0, .int .i64 0, .int .i64 0, .int .i64 0, .int .i64 0, .int .i64 0, .int .i64 0, .int .i64 0, .string { data := #[] }, .int .u32 0] 44)).heap.size (wr.alloc (.cells #[.int .i64 (-(i : Int) - 1), .int .i64 0, .int .i64 0, .int .i64 0, .int .i64 0, .int .i64 0, .int .i64 0, .int .i64 0, .int .i64 0, .int .i64 0, .string { data := #[] }, .int .u32 0] 44)) w6 → (wr.alloc (.cells #[.int .i64 (-(i : Int) - 1), .int .i64 0, .int .i64 0, .int .i64 0, .int .i64 0, .int .i64 0, .int .i64 0, .int .i64 0, .int .i64 0, .int .i64 0, .string { data := #[] }, .int .u32 0] 44)).heap.size ≤ g' → g' < w6.heap.size → ∃ us2, (w6.alloc (.cells #[.slice (some ⟨g', 0, none⟩) (L + 1) c'] 48)).ownsRow wo.heap.size 48 1 (.slice Am i cm) us2.length us2 ∧ us2.length = i ∧ wo.heap.size ≤ (w6.alloc (.cells #[.slice (some ⟨g', 0, none⟩) (L + 1) c'] 48)).heap.size ∧
                  ∀ v' w8, w8.ownsRow wo.heap.size 48 1 v' (us2 ++ [Value.slice (some ⟨g', 0, none⟩) (L + 1) c']).length (us2 ++ [Value.slice (some ⟨g', 0, none⟩) (L + 1) c']) → (w6.alloc (.cells #[.slice (some ⟨g', 0, none⟩) (L + 1) c'] 48)).grownBy w8 (Value.slice Am i cm).ownBlock → (v'.ownBlock = (Value.slice Am i cm).ownBlock ∨ v'.ownBlock = some (w6.alloc (.cells #[.slice (some ⟨g', 0, none⟩) (L + 1) c'] 48)).heap.size) →
                    (∃ Av cv, v' = .slice Av (i + 1) cv) ∧ R4 wo w8 rs1 (i + 1) v') := Lib.hid (fun g' c' w6 e1 e2 e3 e4 e5 => by
                have h := hL
                subst h
                exact R.out.one HX.out H5.out e1 e2 e3 e4 e5)
              clear hL hx hblk hcell
              go_upto_region 16 with ((first
                | (at_builtin; refine append_full rfl (.tmp 85) (.tmp 90) rfl a L l rfl HL.out.symm HB5.out wr.heap.size 1 (mkA i) rfl HY5.out hL1 ?_; intro g' c' w6 e1 e2 e3 e4 e5; obtain ⟨us2, o1, o2, o3, o4⟩ := ONE.out g' c' w6 e1 e2 e3 e4 e5; have O1 := Lib.hid o1; have O3 := Lib.hid o3; have O4 := Lib.hid o4; have KN7 : Hid (Blk (w6.alloc (.cells #[.slice (some ⟨g', 0, none⟩) (L + 1) c'] 48)) w6.heap.size 48 #[.slice (some ⟨g', 0, none⟩) (L + 1) c']) := Lib.hid (Blk.new w6 _ _ rfl); have hul : us2.length ≤ 1000000000 := (by omega); clear e1 e2 e3 e4 e5 o1 o2 o3 o4)
                | (at_builtin; refine append_one_list rfl (.tmp 78) (.tmp 92) rfl wo.heap.size O3.out (.slice Am i cm) us2 rfl O1.out w6.heap.size 1 _ rfl KN7.out rfl hul ?_; intro v' w8 e1 e2 e3; obtain ⟨⟨Av, cv, hv⟩, e4⟩ := O4.out v' w8 e1 e2 e3; subst hv; have R8 := Lib.hid e4; clear e1 e2 e3 e4)))
              clear ONE HB5 HY5 H5 c0 c2
              go_wp2_with fail
              go_roundw
              case rel => exact ⟨i + 1, by omega, by simp, Av, cv, rfl, R8⟩
              case measure => simp [intOf]; omega
            · obtain rfl : n = i := by omega
              clear hlt
              have FIN : Hid (Below w0.heap.size w wr) := Lib.hid (M1.out.2.2.1.trans (HBW.out.mono (Nat.le_trans HCK.out.2.2 M1.out.2.2.1.size)))
              go_wp2_with fail
              go_loop [8] (fun iv => ∃ i : Nat, i ≤ n ∧ iv = .int .i64 (i : Int)) (fun iv => n - (intOf iv).toNat)
              case atStart => exact ⟨0, Nat.zero_le _, rfl⟩
              case round =>
                obtain ⟨i, hi3, rfl⟩ := hrel
                by_cases hlt : i < n
                · obtain ⟨⟨a, l⟩, hx⟩ : ∃ x, rs1[i]? = some x := ⟨_, List.getElem?_eq_getElem (by rw [HI3.out]; exact hlt)⟩
                  obtain ⟨gr, rfl, hcell⟩ := row_cell M1.out.1.own (show (rs1.map rawV)[i]? = some (.slice (some ⟨a, 0, none⟩) l.length l.length) by rw [List.getElem?_map, hx]; rfl)
                  have hgrl : gr < wo.heap.size := (World.ownsRow.lt M1.out.1.own gr rfl).2
                  have c2 : wr.cell? ⟨gr, i, none⟩ = some (.slice (some ⟨a, 0, none⟩) l.length l.length) := (HBW.out.cell (p := ⟨gr, i, none⟩) hgrl).trans hcell
                  have HBK := Lib.hid ((M1.out.1.rb i _ hx).2.1.keep HBW.out)
                  have hl64 : l.length ≤ 64 := (M1.out.1.rb i _ hx).2.2.2
                  obtain ⟨gm, rfl, A', c', c3, hlc, HAS⟩ : ∃ gm, Am = some ⟨gm, 0, none⟩ ∧ ∃ A' c', wr.cell? ⟨gm, i, none⟩ = some (.slice A' (l.length + 1) c') ∧ l.length + 1 ≤ c' ∧ Hid (AS wr A' (l.length + 1) (l ++ [mkA i])) := by
                    obtain ⟨C', us2, qs, h1, h2, h3, h4⟩ := R.out
                    have hq := h4 i _ hlt hx
                    obtain ⟨u, hu⟩ : ∃ u, us2[i]? = some u := ⟨_, List.getElem?_eq_getElem (by rw [h1.len, h3]; exact hlt)⟩
                    obtain ⟨A', c', e, k1, k2, _⟩ := h1.wb i u _ hu hq
                    obtain ⟨gm, e2, hc⟩ := row_cell h1.own hu
                    have hll : (l ++ [mkA i]).length = l.length + 1 := by simp
                    have k1' : (l ++ [mkA i]).length ≤ c' := k1
                    have k2' : AS wr A' (l ++ [mkA i]).length (l ++ [mkA i]) := k2
                    have e' : u = .slice A' (l ++ [mkA i]).length c' := e
                    rw [hll] at k1' k2' e'
                    subst e'
                    exact ⟨gm, e2, A', c', hc, k1', Lib.hid k2'⟩
                  have HMK : Hid (∀ (u : Nat) (y : Th), l[u]? = some y → y.p = -(i : Int) - 1) := Lib.hid (fun u y hu => M1.out.2.2.2.2 i _ hx u y hu (.inl hlt))
                  obtain ⟨L, hL⟩ : ∃ L, L = l.length := ⟨_, rfl⟩
                  have HL := Lib.hid hL
                  rw [← hL] at hl64 c2 c3 hlc HAS
                  have hiI : (i : Int) < (n : Int) := by omega
                  have hi0 : (0 : Int) ≤ (i : Int) := by omega
                  have hib : (i : Int) ≤ 600 := by omega
                  clear hL hx hcell
                  go_wp2_with fail
                  go_loop [9] (fun jv => ∃ j : Nat, j ≤ L + 1 ∧ jv = .int .i64 (j : Int)) (fun jv => L + 1 - (intOf jv).toNat)
                  case atStart => exact ⟨0, Nat.zero_le _, rfl⟩
                  case round =>
                    obtain ⟨j, hjL, rfl⟩ := hrel
                    have hj0 : (0 : Int) ≤ (j : Int) := by omega
                    by_cases hj1 : j < L + 1
                    · obtain ⟨y, hy, hyp⟩ : ∃ y, (l ++ [mkA i])[j]? = some y ∧ y.p = -(i : Int) - 1 := by
                        by_cases hjl : j < l.length
                        · refine ⟨l[j], by rw [List.getElem?_append_left hjl, List.getElem?_eq_getElem hjl], HMK.out j _ (List.getElem?_eq_getElem hjl)⟩
                        · have := HL.out
                          refine ⟨mkA i, ?_, rfl⟩
                          rw [List.getElem?_append_right (by omega), show j - l.length = 0 from by omega]
                          rfl
                      obtain ⟨g', off, rfl, _, hc⟩ := HAS.out.2 j y hy
                      have c4 : wr.cell? ⟨g', off + j * 12, none⟩ = some (.int .i64 (-(i : Int) - 1)) := by rw [← hyp]; exact hc 0 _ rfl
                      have hj1I : (j : Int) < ((L + 1 : Nat) : Int) := by omega
                      have hj1I2 : (j : Int) < (L : Int) + 1 := by omega
                      clear hc hy hyp
                      by_cases hjl : j < L
                      · have c5 : wr.cell? ⟨a, j * 12, none⟩ = some (.int .i64 (-(i : Int) - 1)) := by
                          have hjl' : j < l.length := by rw [← HL.out]; exact hjl
                          have hz : l[j]? = some l[j] := List.getElem?_eq_getElem hjl'
                          have h7 := flatE_at th_size l hz (show (l[j]).cells[0]? = some (.int .i64 (l[j]).p) from rfl)
                          rw [HMK.out j _ hz] at h7
                          rw [HBK.out.cell]
                          simpa using h7
                        have hjI : (j : Int) < (L : Int) := by omega
                        go_wp2_with fail
                        go_round
                        case rel => exact ⟨j + 1, by omega, by simp⟩
                        case measure => simp [intOf]; omega
                      · go_wp2_with fail
                        go_round
                        case rel => exact ⟨j + 1, by omega, by simp⟩
                        case measure => simp [intOf]; omega
                    · go_wp2_with fail
                      go_round
                      case rel => exact ⟨i + 1, by omega, by simp⟩
                      case measure => simp [intOf]; omega
                · obtain rfl : n = i := by omega
                  go_wp2_with fail
                  go_ret
                  exact ⟨rfl, FIN.out⟩
end Go.Proofs.Ytjkocghbnljifaa
