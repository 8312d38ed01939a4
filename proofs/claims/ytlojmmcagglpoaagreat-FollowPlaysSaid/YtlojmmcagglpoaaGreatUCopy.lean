/- THE WALK of Copy (printed by a program of ours). -/
import Derived.Test.YtlojmmcagglpoaaGreatUTk
import Derived.Test.YtlojmmcagglpoaaGreatUDiskC
import Derived.Test.YtlojmmcagglpoaaGreatUDiskRead
import Derived.Test.YtlojmmcagglpoaaGreatUKeys
import Derived.Deep.RegionHeld
import Derived.Deep.DrawnRows
namespace Go.Proofs.YtlojmmcagglpoaaGreat
open Go.RowKit Go.Maps
def CpQ (W : World) (bf q : Nat) (fl : Int → Option Nat) (i : Int) (x : Fl) (e : Ending) (w' : World) : Prop :=
  e = .returned (.tuple #[]) ∧ ∃ g2, W.heap.size ≤ g2 ∧ FW w' W.heap.size g2 x ∧ FM Tryz.prog 3 iL pD ptrE w' bf (q + 1) (putM fl i g2) ∧ Chg (fun b => b = bf) W w'
set_option maxRecDepth 20000 in
set_option maxHeartbeats 2000000 in
theorem copy_one {W : World} {N g cc pc bf q : Nat} {x : Fl} {fl : Int → Option Nat} {cs : Array Value} (h : FW W N g x) (hl : x.by_.length ≤ 1048576) (hcc : Blk W cc 25 #[.pointer (some ⟨pc, 0, none⟩)]) (hpc : Blk W pc 132 cs) (hc0 : cs[0]? = some (.map (some bf))) (hm : FM Tryz.prog 3 iL pD ptrE W bf q fl) (hq : q < 1000000) (i : Int) (hi : Go.Proofs.YtlojmmcagglpoaaGreat.okInt i) :
    Calls Tryz.prog 95 #[.int .i64 i, .pointer (some ⟨g, 0, none⟩), .pointer (some ⟨cc, 0, none⟩)] W (CpQ W bf q fl i x) := by
  obtain ⟨v, hb, ho⟩ := h
  obtain ⟨Av, cv, rfl, hcap, hcap2, hrb⟩ := OB.form ho
  obtain ⟨n, hn⟩ : ∃ n, n = x.by_.length := ⟨_, rfl⟩
  obtain ⟨la, hla⟩ : ∃ la, la = x.la := ⟨_, rfl⟩
  obtain ⟨ge, hge⟩ : ∃ ge, ge = x.ge := ⟨_, rfl⟩
  have g0 : W.cell? ⟨g, 0, none⟩ = some (.string (strB x.nm)) := (hb.cell 0).trans rfl
  have g1 : W.cell? ⟨g, 1, none⟩ = some (.slice Av n cv) := (hb.cell 1).trans (by rw [hn]; rfl)
  have g2 : W.cell? ⟨g, 2, none⟩ = some (.int .i64 (la : Int)) := (hb.cell 2).trans (by rw [hla]; rfl)
  have g3 : W.cell? ⟨g, 3, none⟩ = some (.int .i64 (ge : Int)) := (hb.cell 3).trans (by rw [hge]; rfl)
  have HB := Lib.hid hb; have HRB := Lib.hid hrb; have HM := Lib.hid hm; have HCC := Lib.hid hcc; have HPC := Lib.hid hpc
  have HN : Hid (n = x.by_.length ∧ la = x.la ∧ ge = x.ge) := Lib.hid ⟨hn, hla, hge⟩
  clear hb ho hrb hm hcc hpc hn hla hge
  go_enter Tryz.func95, Tryz.ntmps95
  go_upto_region 1 with fail
  obtain ⟨w1, hw1⟩ : ∃ w1, w1 = W.alloc (.cells #[.string (strB x.nm), .slice Av n cv, .int .i64 (la : Int), .int .i64 (ge : Int)] 182) := ⟨_, rfl⟩
  obtain ⟨gn, hgn⟩ : ∃ gn, gn = W.heap.size := ⟨_, rfl⟩
  have hB1 : Below W.heap.size W w1 := by rw [hw1]; exact (Below.refl _ _).alloc (Nat.le_refl _) _
  have K1 : Blk w1 gn 182 #[.string (strB x.nm), .slice Av n cv, .int .i64 (la : Int), .int .i64 (ge : Int)] := by rw [hw1]; exact Blk.new W _ _ hgn
  have q1 : w1.cell? ⟨g, 1, none⟩ = some (.slice Av n cv) := cell_later hB1 g1
  have CL := Lib.hid (clone_any w1 Av n cv x.by_ (by rw [HN.out.1]; exact HRB.out.keep hB1) (by rw [HN.out.1]; omega))
  have B1 := Lib.hid hB1; have HK1 := Lib.hid K1
  have HG : Hid (gn = W.heap.size ∧ w1.heap.size = W.heap.size + 1) := Lib.hid ⟨hgn, by rw [hw1]; simp⟩
  rw [← hw1, ← hgn]
  clear hw1 hgn hB1 K1 g0 g1 g2 g3
  go_wp2_with fail
  refine CL.out.mono ?_
  rintro e w2 ⟨v2, rfl, ho2, hb2⟩
  have HO2 := Lib.hid ho2
  have K2 := Lib.hid (HK1.out.keep hb2)
  have B2 : Hid (Below W.heap.size W w2) := Lib.hid (B1.out.trans (hb2.mono (by have := HG.out.2; omega)))
  obtain ⟨A2, c2, rfl, _, _, _⟩ := OB.form ho2
  have f1 : w2.frozen? ⟨gn, 1, none⟩ = false := K2.out.frozen 1
  have e1 : w2.cell? ⟨gn, 1, none⟩ = some (.slice Av n cv) := (K2.out.cell 1).trans rfl
  obtain ⟨m2, hm2⟩ : ∃ m2, m2 = x.by_.length := ⟨_, rfl⟩
  have HM2 := Lib.hid hm2
  rw [← hm2]
  clear ho2 hb2 CL q1 hm2
  go_upto_region 2 with fail
  obtain ⟨w3, hw3⟩ : ∃ w3, w3 = w2.setCell ⟨gn, 1, none⟩ (.slice A2 m2 c2) := ⟨_, rfl⟩
  have C3 : Hid (Chg (fun b => b = gn) w2 w3) := Lib.hid (by rw [hw3]; exact Chg.setCell (S := fun b => b = gn) (p := ⟨gn, 1, none⟩) (Chg.refl _ w2) (.inl rfl) _)
  have K3 : Hid (Blk w3 gn 182 (fcells x (.slice A2 x.by_.length c2))) := Lib.hid (by
    have := K2.out.set_ 1 (.slice A2 m2 c2)
    rw [hw3]
    rw [HM2.out, HN.out.2.1, HN.out.2.2] at this
    rw [HM2.out]
    exact this)
  have B3 : Hid (Below W.heap.size W w3) := Lib.hid (B2.out.trans (C3.out.below (fun k hk e => by have := HG.out.1; omega) B2.out.size) )
  rw [← hw3]
  clear hw3 f1 e1
  have c0 : w3.cell? ⟨cc, 0, none⟩ = some (.pointer (some ⟨pc, 0, none⟩)) := cell_later B3.out ((HCC.out.cell 0).trans rfl)
  have p0 : w3.cell? ⟨pc, 0, none⟩ = some (.map (some bf)) := cell_later B3.out ((HPC.out.cell 0).trans hc0)
  have M3 := Lib.hid (HM.out.keep B3.out)
  go_wp2_with ((at_mapUpdate; go_must (refine update_fm rfl _ _ _ rfl mrFiles intK Tryz.underlying129 bf q fl rfl M3.out (by unfold maxLen; omega) i hi gn trivial rfl rfl ?_); intro w4 hf4 hc4; refine halt ?_))
  refine unhalt ?_
  have HF : Hid (CpQ W bf q fl i x (.returned (.tuple #[])) w4) := Lib.hid ⟨rfl, gn, by rw [HG.out.1]; exact Nat.le_refl _, ⟨_, K3.out.chg hc4 (M3.out.ne_blk K3.out), hc4.ob (C3.out.ob (HO2.out.less (by have := HG.out.2; omega)) (fun k hk e => K2.out.apart HO2.out (by decide) (by rw [hk, e]))) (fun k hk e => by
    have h1 := (HO2.out.lt k hk).1
    have h2 := HM.out.lt
    have := HG.out.2
    omega)⟩, hf4, (Chg.of_below B3.out _).trans hc4 (fun _ _ e => e)⟩
  clear hf4 hc4
  go_wp2_with fail
  go_end0
  exact HF.out
end Go.Proofs.YtlojmmcagglpoaaGreat
namespace Go.Proofs.YtlojmmcagglpoaaGreat
open Go.RowKit Go.Maps
noncomputable def partD (d : Dk) (ss : List Int) (j : Nat) : Dk := { d with fs := fun i => if i ∈ ss.take j then d.fs i else none }
theorem Dk.Ok.keyInt {d : Dk} {n : Nat} (h : d.Ok n) {i : Int} {x : Fl} (hx : d.fs i = some x) : Go.Proofs.YtlojmmcagglpoaaGreat.okInt i := h.okInt _ i (h.back i x hx)
structure EC (w1 wr : World) (N : Nat) (C : Nat → Nat) (c p n N2 : Nat) (d : Dk) (ss : List Int) (cc pc bf bn bs j : Nat) (fl : Int → Option Nat) : Prop where
  dc : DC wr N C c p n d
  fm : FM Tryz.prog 3 iL pD ptrE wr bf j fl
  dw : DW wr N2 pc n (partD d ss j) bf bn bs fl
  cc_ : Blk wr cc 25 #[.pointer (some ⟨pc, 0, none⟩)]
  chg : Chg (fun b => b = bf) w1 wr
section
variable {w1 wr w' : World} {N : Nat} {C : Nat → Nat} {c p n N2 : Nat} {d : Dk} {ss : List Int} {cc pc bf bn bs j : Nat} {fl : Int → Option Nat}
theorem notin {i : Int} (hs : ss.Pairwise (· < ·)) (hi : ss[j]? = some i) : i ∉ ss.take j := fun hmem => by
  obtain ⟨q, hq⟩ := List.getElem?_of_mem hmem
  have hql : q < j := by
    have := (List.getElem?_eq_some_iff.1 hq).1
    rw [List.length_take] at this; omega
  rw [List.getElem?_take_of_lt hql] at hq
  obtain ⟨h1, h2⟩ := List.getElem?_eq_some_iff.1 hq
  obtain ⟨h3, h4⟩ := List.getElem?_eq_some_iff.1 hi
  have := List.pairwise_iff_getElem.1 hs q j h1 h3 hql
  omega
theorem EC.step (h : EC w1 wr N C c p n N2 d ss cc pc bf bn bs j fl) (hs : ss.Pairwise (· < ·)) (hl : ss.length ≤ n) (hbc : C bf ≠ c) {i : Int} (hi : ss[j]? = some i) {x : Fl} (hx : d.fs i = some x) {e : Ending} (hq : CpQ wr bf j fl i x e w') :
    e = .returned (.tuple #[]) ∧ ∃ fl', EC w1 w' N C c p n N2 d ss cc pc bf bn bs (j + 1) fl' := by
  obtain ⟨he, g2, hg2, hf, hm, hc⟩ := hq
  have hni := notin hs hi
  have hjl : j < ss.length := (List.getElem?_eq_some_iff.1 hi).1
  have hfl : fl i = none := by
    have h1 := h.dw.hf i
    have h2 : (partD d ss j).fs i = none := if_neg hni
    rw [h2] at h1
    exact Option.isNone_iff_eq_none.1 (by simpa using h1)
  have hN : N2 ≤ wr.heap.size := Nat.le_trans h.dw.lo.1 (Nat.le_of_lt h.dw.bd.lt)
  have hlo := h.dw.lo
  have hpb : pc ≠ bf := h.dw.mf.ne_blk h.dw.bd
  obtain ⟨v, hb, ho⟩ := hf
  refine ⟨he, putM fl i g2, h.dc.step hc (Sam.refl _ _) (fun b hb => by rw [hb]; exact hbc), hm, ?_, h.cc_.chg hc (h.dw.mf.ne_blk h.cc_), h.chg.trans hc (fun _ _ e => e)⟩
  refine h.dw.more hfl hg2 (y := x) (d' := partD d ss (j + 1)) (hc.mono (fun _ _ e => .inr (.inl e))) ⟨v, hb, ho.less hN⟩ (fun k hk => ?_) (fun q => ?_) ?_ ?_ ?_ ?_
  · obtain ⟨u, h1, h2⟩ := hk
    rw [hb.cell 1] at h1
    have : v = u := Option.some.inj h1
    subst this
    exact (ho.lt k h2).1
  · show (if q ∈ ss.take (j + 1) then d.fs q else none) = if q = i then some x else if q ∈ ss.take j then d.fs q else none
    rw [List.take_add_one, hi]
    by_cases e : q = i
    · rw [if_pos e, e, if_pos (by simp), hx]
    · rw [if_neg e]
      by_cases e2 : q ∈ ss.take j
      · rw [if_pos e2, if_pos (List.mem_append_left _ e2)]
      · rw [if_neg e2, if_neg (by simp [e2, e])]
  · exact h.dw.bd.chg hc hpb
  · exact hm.mono (by omega)
  · exact h.dw.mn.chg hc (fun e => hlo.2.2.2.2.1 e.symm)
  · exact h.dw.ms.chg hc (fun e => hlo.2.2.2.2.2.1 e.symm)
theorem partD_zero (d : Dk) (ss : List Int) : partD d ss 0 = { d with fs := fun _ => none } := by
  unfold partD; simp
theorem partD_all (h : ∀ i, i ∈ ss ↔ (d.fs i).isSome = true) : partD d ss ss.length = d := by
  unfold partD
  rw [List.take_length]
  have : (fun i => if i ∈ ss then d.fs i else none) = d.fs := funext fun i => by
    by_cases e : i ∈ ss
    · rw [if_pos e]
    · rw [if_neg e]
      cases hq : d.fs i with
      | none => rfl
      | some x => exact absurd ((h i).2 (by rw [hq]; rfl)) e
  rw [this]
end
def EachCQ (W : World) (N : Nat) (C : Nat → Nat) (c p n N2 : Nat) (d : Dk) (cc pc bf bn bs : Nat) (e : Ending) (w' : World) : Prop :=
  e = .returned (.tuple #[]) ∧ DC w' N (paint C W.heap.size (c + 1)) c p n d ∧ Blk w' cc 25 #[.pointer (some ⟨pc, 0, none⟩)] ∧ (∃ fl, DW w' N2 pc n d bf bn bs fl) ∧ Chg (fun b => b = bf) W w'
set_option maxRecDepth 20000 in
set_option maxHeartbeats 1000000 in
theorem each_copy {W : World} {N : Nat} {C : Nat → Nat} {c p n N2 : Nat} {d : Dk} (h : DC W N C c p n d) {cc pc bf bn bs : Nat} (hcc : Blk W cc 25 #[.pointer (some ⟨pc, 0, none⟩)]) (hw0 : DW W N2 pc n { d with fs := fun _ => none } bf bn bs (fun _ => none)) (hf0 : FM Tryz.prog 3 iL pD ptrE W bf 0 (fun _ => none)) (hbc : C bf ≠ c) :
    Calls Tryz.prog 94 #[.pointer (some ⟨p, 0, none⟩), .func (.func 95) #[] #[.pointer (some ⟨cc, 0, none⟩)]] W (EachCQ W N C c p n N2 d cc pc bf bn bs) := by
  have H := Lib.hid h
  obtain ⟨bf0, bn0, bs0, fl0, hw, ho⟩ := h.dw
  have c0 : W.cell? ⟨p, 0, none⟩ = some (.map (some bf0)) := (hw.bd.cell 0).trans rfl
  have KC := Lib.hid (keys_any W (some bf0))
  have SC := Lib.hid (sorted_any hw.mf (by have := h.ok.big; omega))
  have HF : Hid (∀ i, (fl0 i).isSome = (d.fs i).isSome) := Lib.hid hw.hf
  have HCC := Lib.hid hcc; have HW0 := Lib.hid hw0; have HF0 := Lib.hid hf0; have HBC := Lib.hid hbc
  clear h hw ho hcc hw0 hf0 hbc
  go_enter Tryz.func94, Tryz.ntmps94
  go_wp2_with fail
  refine KC.out.mono ?_
  rintro e w0 ⟨rfl, rfl⟩
  go_wp2_with fail
  refine SC.out.mono ?_
  rintro e w1 ⟨v, ss, rfl, hpw, hmem, hlen, hrow, hb⟩
  obtain ⟨A1, cap1, rfl, _⟩ := own_form hrow
  obtain ⟨C1, hC1⟩ : ∃ C1, C1 = paint C W.heap.size (c + 1) := ⟨_, rfl⟩
  have hs1 : Sam W.heap.size C C1 := by rw [hC1]; exact sam_paint _ _ _
  have D1 := Lib.hid (H.out.keep hb hs1)
  have HSS : Hid (ss.Pairwise (· < ·) ∧ (∀ i, i ∈ ss ↔ (d.fs i).isSome = true) ∧ ss.length ≤ n) := Lib.hid ⟨hpw, fun i => by rw [← HF.out i]; exact hmem i, hlen⟩
  have E0 : Hid (EC w1 w1 N C1 c p n N2 d ss cc pc bf bn bs 0 (fun _ => none)) := Lib.hid ⟨D1.out, HF0.out.keep hb, by rw [partD_zero]; exact HW0.out.keep hb, HCC.out.keep hb, Chg.refl _ _⟩
  have ROW := Lib.hid hrow
  have B1 := Lib.hid hb
  have HBF : Hid (C1 bf ≠ c ∧ bf < W.heap.size) := Lib.hid ⟨by rw [hs1 bf HF0.out.lt]; exact HBC.out, HF0.out.lt⟩
  have HS1 : Hid (C1 = paint C W.heap.size (c + 1)) := Lib.hid hC1
  obtain ⟨L, hL⟩ : ∃ L, L = ss.length := ⟨_, rfl⟩
  rw [← hL]
  have HL := Lib.hid hL
  clear hpw hmem hlen hrow hb hC1 hs1 KC SC HF c0 hL D1 HW0 HF0 HCC HBC
  go_wp2_with fail
  go_loopw [13] (fun s13 wr => ∃ j : Nat, j ≤ L ∧ s13 = .int .i64 (j : Int) ∧ ∃ fl, Hid (EC w1 wr N C1 c p n N2 d ss cc pc bf bn bs j fl)) (fun s13 _ => L - (intOf s13).toNat)
  case atStart => exact ⟨0, Nat.zero_le _, rfl, _, E0⟩
  case round =>
    obtain ⟨j, hj, rfl, fl, E1⟩ := hrel
    clear E0
    by_cases hlt : j < L
    · obtain ⟨i, hi⟩ : ∃ i, ss[j]? = some i := ⟨_, List.getElem?_eq_getElem (by rw [← HL.out]; exact hlt)⟩
      obtain ⟨x, hx⟩ := Option.isSome_iff_exists.1 ((HSS.out.2.1 i).1 (List.mem_of_getElem? hi))
      have hok := H.out.ok.keyInt hx
      obtain ⟨bf', bn', bs', fl', hw, _⟩ := E1.out.dc.dw
      obtain ⟨g, hg⟩ : ∃ g, fl' i = some g := by
        have := hw.hf i
        rw [hx] at this
        exact Option.isSome_iff_exists.1 this
      have hrow := E1.out.chg.own ROW.out (fun k hk e => by
        have h1 := (ROW.out.lt k hk).1
        have := HBF.out.2
        omega)
      obtain ⟨b1, hA1, hc1⟩ : ∃ b1, A1 = some ⟨b1, 0, none⟩ ∧ wr.cell? ⟨b1, j, none⟩ = some (.int .i64 i) := by
        rcases hrow.2 with ⟨hv, hz⟩ | ⟨gb, cap', cur, hv, _, _⟩
        · have := HL.out; omega
        · injection hv with e1 _ _
          subst e1
          refine ⟨gb, rfl, ?_⟩
          have h1 := World.ownsRow.cellAt hrow j (by have := HL.out; omega)
          rw [h1, List.getElem?_map, hi]; rfl
      subst hA1
      have hL2 : L ≤ 1000000 := by have := HL.out; have := HSS.out.2.2; have := H.out.ok.big; omega
      have hki : (j : Int) < (L : Int) := by omega
      have hki0 : (0 : Int) ≤ (j : Int) := by omega
      have c0 : wr.cell? ⟨p, 0, none⟩ = some (.map (some bf')) := (hw.bd.cell 0).trans rfl
      have l0 := hw.mf.look mrFiles intK Tryz.underlying129 (zero_fptr wr) hok
      rw [hg] at l0
      unfold lookV iV' pV at l0
      have CO := Lib.hid (copy_one (hw.fw i g x hg hx).2 (H.out.ok.len i x hx) E1.out.cc_ E1.out.dw.bd rfl E1.out.fm (by have := HSS.out.2.2; have := HL.out; have := H.out.ok.big; omega) i hok)
      have HST := Lib.hid (fun e w' hq => E1.out.step (e := e) (w' := w') HSS.out.1 HSS.out.2.2 HBF.out.1 hi hx hq)
      clear hx hw hg hrow hi
      go_wp2_with fail
      refine CO.out.mono ?_
      intro e w2 hq
      obtain ⟨he, fl2, hE⟩ := HST.out e w2 hq
      have E2 := Lib.hid hE
      subst he
      clear hq hE CO HST l0 c0
      go_wp2_with fail
      go_roundw
      case rel => exact ⟨j + 1, by omega, by go_num, _, E2⟩
      case measure => simp [intOf]; omega
    · obtain rfl : j = L := by omega
      go_wp2_with fail
      go_end0
      refine ⟨rfl, by rw [← HS1.out]; exact E1.out.dc, E1.out.cc_, ⟨fl, ?_⟩, (Chg.of_below B1.out _).trans E1.out.chg (fun _ _ e => e)⟩
      have := E1.out.dw
      rw [HL.out, partD_all HSS.out.2.1] at this
      exact this
end Go.Proofs.YtlojmmcagglpoaaGreat
namespace Go.Proofs.YtlojmmcagglpoaaGreat
open Go.RowKit Go.Maps
attribute [local go_sem ↓] Go.wp_at_zero Go.wp_at_succ
theorem clone_fm {W : World} {b n : Nat} {m : List UInt8 → Option Int} (h : FM Tryz.prog 9 sL iD (plainElem Tryz.prog 3) W b n m) : Calls Tryz.prog 93 #[.map (some b)] W fun e w' => e = .returned (.map (some W.heap.size)) ∧ FM Tryz.prog 9 sL iD (plainElem Tryz.prog 3) w' W.heap.size n m ∧ Below W.heap.size W w' := by
  obtain ⟨D, h1, h2, h3⟩ := h
  refine (AnyW.maps_Clone_owns cloneL 9 _ b n D W h1).mono ?_
  rintro e w' ⟨he, ho, _, hb⟩
  exact ⟨he, ⟨D, ho, h2, h3⟩, hb⟩
theorem ne_of {a b : Nat} {p : Prop} (h : p) (hp : p → a ≠ b) : a ≠ b := hp h
theorem DC.recol {W : World} {N : Nat} {C C' : Nat → Nat} {c p n : Nat} {d : Dk} (h : DC W N C c p n d) (hC : ∀ b, C b = c → C' b = c) : DC W N C' c p n d := by
  obtain ⟨h1, bf, bn, bs, fl, h2, h3⟩ := h
  exact ⟨h1, bf, bn, bs, fl, h2, fun b hb => hC b (h3 b hb)⟩
def CopyQ (W : World) (C : Nat → Nat) (c p n : Nat) (d : Dk) (N : Nat) (c2 : Nat) (e : Ending) (w' : World) : Prop :=
  ∃ p2, e = .returned (.pointer (some ⟨p2, 0, none⟩)) ∧ W.heap.size ≤ p2 ∧ DC w' N (paint C W.heap.size c2) c p n d ∧ DC w' W.heap.size (paint C W.heap.size c2) c2 p2 n d ∧ Below W.heap.size W w'
structure CPS (W wL : World) (n : Nat) (d : Dk) (b4 b9 b14 g cc : Nat) : Prop where
  bel : Below W.heap.size W wL
  f4 : FM Tryz.prog 3 iL pD ptrE wL b4 0 (fun _ => none)
  f9 : FM Tryz.prog 9 sL iD (plainElem Tryz.prog 3) wL b9 n d.ns
  f14 : FM Tryz.prog 9 sL iD (plainElem Tryz.prog 3) wL b14 n d.se
  bd : Blk wL g 132 #[.map (some b4), .map (some b9), .map (some b14), .int .i64 (d.no : Int)]
  cc_ : Blk wL cc 25 #[.pointer (some ⟨g, 0, none⟩)]
  lo : W.heap.size ≤ g ∧ W.heap.size ≤ b4 ∧ W.heap.size ≤ b9 ∧ W.heap.size ≤ b14 ∧ b4 ≠ b9 ∧ b4 ≠ b14 ∧ b9 ≠ b14
theorem CPS.each {W wL : World} {N : Nat} {C : Nat → Nat} {c p n : Nat} {d : Dk} {b4 b9 b14 g cc : Nat} (h : DC W N C c p n d) (c2 : Nat) (hc2 : c2 ≠ c) (hs : CPS W wL n d b4 b9 b14 g cc) :
    Calls Tryz.prog 94 #[.pointer (some ⟨p, 0, none⟩), .func (.func 95) #[] #[.pointer (some ⟨cc, 0, none⟩)]] wL fun e w' => e = .returned (.tuple #[]) ∧ w'.cell? ⟨cc, 0, none⟩ = some (.pointer (some ⟨g, 0, none⟩)) ∧ CopyQ W C c p n d N c2 (.returned (.pointer (some ⟨g, 0, none⟩))) w' := by
  have hp : ∀ b, W.heap.size ≤ b → paint C W.heap.size c2 b ≠ c := fun b hb => by rw [paint_new C c2 hb]; exact hc2
  refine (each_copy (N2 := W.heap.size) (h.keep hs.bel (sam_paint C W.heap.size c2)) hs.cc_ ⟨hs.bd, hs.f4.mono (Nat.zero_le _), hs.f9, hs.f14, hs.lo, fun _ => rfl, fun i g x hi _ => (by cases hi), fun i j g hi _ => (by cases hi), fun i j g g' k hi _ _ _ => (by cases hi)⟩ hs.f4 (hp b4 hs.lo.2.1)).mono ?_
  rintro e w' ⟨he, hd, hcc, ⟨fl, hw⟩, hch⟩
  refine ⟨he, (hcc.cell 0).trans rfl, g, rfl, hs.lo.1, hd.recol (fun b hb => ?_), ⟨h.ok, b4, b9, b14, fl, hw, fun b hb => paint_new C c2 (hw.own_lo hb)⟩, hs.bel.trans (hch.below (fun k hk e => by have := hs.lo.2.1; omega) hs.bel.size)⟩
  by_cases e1 : b < wL.heap.size
  · rw [paint_old _ _ e1] at hb; exact hb
  · rw [paint_new _ _ (by omega)] at hb; omega
set_option maxRecDepth 20000 in
set_option maxHeartbeats 8000000 in
theorem copy_c {W : World} {N : Nat} {C : Nat → Nat} {c p n : Nat} {d : Dk} (h : DC W N C c p n d) (c2 : Nat) (hc2 : c2 ≠ c) :
    Calls Tryz.prog 40 #[.pointer (some ⟨p, 0, none⟩)] W (CopyQ W C c p n d N c2) := by
  have HE : Hid (∀ wL b4 b9 b14 g cc, CPS W wL n d b4 b9 b14 g cc → Calls Tryz.prog 94 #[.pointer (some ⟨p, 0, none⟩), .func (.func 95) #[] #[.pointer (some ⟨cc, 0, none⟩)]] wL fun e w' => e = .returned (.tuple #[]) ∧ w'.cell? ⟨cc, 0, none⟩ = some (.pointer (some ⟨g, 0, none⟩)) ∧ CopyQ W C c p n d N c2 (.returned (.pointer (some ⟨g, 0, none⟩))) w') := Lib.hid (fun wL b4 b9 b14 g cc hs => CPS.each h c2 hc2 hs)
  obtain ⟨bf0, bn0, bs0, fl0, hw, ho⟩ := h.dw
  obtain ⟨no, hno⟩ : ∃ no, no = d.no := ⟨_, rfl⟩
  have HNO := Lib.hid hno
  have HS : Hid (∀ w', Below W.heap.size W w' → w'.cell? ⟨p, 1, none⟩ = some (.map (some bn0)) ∧ w'.cell? ⟨p, 2, none⟩ = some (.map (some bs0)) ∧ w'.cell? ⟨p, 3, none⟩ = some (.int .i64 (no : Int))) := Lib.hid (fun w' hb => by
    have hbd := hw.bd.keep hb
    exact ⟨(hbd.cell 1).trans rfl, (hbd.cell 2).trans rfl, (hbd.cell 3).trans (by rw [hno]; rfl)⟩)
  have HC9 : Hid (∀ w', Below W.heap.size W w' → Calls Tryz.prog 93 #[.map (some bn0)] w' fun e w2 => e = .returned (.map (some w'.heap.size)) ∧ FM Tryz.prog 9 sL iD (plainElem Tryz.prog 3) w2 w'.heap.size n d.ns ∧ Below w'.heap.size w' w2) := Lib.hid (fun w' hb => clone_fm (hw.mn.keep hb))
  have HC14 : Hid (∀ w', Below W.heap.size W w' → Calls Tryz.prog 93 #[.map (some bs0)] w' fun e w2 => e = .returned (.map (some w'.heap.size)) ∧ FM Tryz.prog 9 sL iD (plainElem Tryz.prog 3) w2 w'.heap.size n d.se ∧ Below w'.heap.size w' w2) := Lib.hid (fun w' hb => clone_fm (hw.ms.keep hb))
  clear h hw ho hno
  go_enter Tryz.func40, Tryz.ntmps40
  go_upto_region 1 with fail
  have hmm := @run_makeMap Tryz.prog
  refine wp_region_any (by kernel_rfl) ?_
  change wpAny _ _ _ _ _ _ _ (World.drew _)
  refine wpAny_of_held (S := fun w' => w'.cell? ⟨p, 1, none⟩ = some (.map (some bn0)) ∧ w'.cell? ⟨p, 2, none⟩ = some (.map (some bs0)) ∧ w'.cell? ⟨p, 3, none⟩ = some (.int .i64 (no : Int))) _ _ _ _ ?_
  obtain ⟨w0, hw0⟩ : ∃ w0, w0 = W.drew := ⟨_, rfl⟩
  have BW0 : Hid (Below W.heap.size W w0) := Lib.hid (by rw [hw0]; exact (Below.refl _ _).drew)
  rw [← hw0]
  clear hw0
  have hHeld : (fun w' => w'.cell? ⟨p, 1, none⟩ = some (.map (some bn0)) ∧ w'.cell? ⟨p, 2, none⟩ = some (.map (some bs0)) ∧ w'.cell? ⟨p, 3, none⟩ = some (.int .i64 (no : Int))) w0 := HS.out _ BW0.out
  refine tkh 1 (v := ?_) rfl ?_ ?_; rotate_left
  · intro w hSw; (try dsimp only at hSw); go_simp <;> with_reducible rfl
  try simp only [Act.put, pz]
  refine tkh 2 (v := ?_) rfl ?_ ?_; rotate_left
  · intro w hSw; (try dsimp only at hSw); go_simp <;> with_reducible rfl
  try simp only [Act.put, pz]
  refine tkh 3 (v := ?_) rfl ?_ ?_; rotate_left
  · intro w hSw; (try dsimp only at hSw); go_simp <;> with_reducible rfl
  try simp only [Act.put, pz]
  refine tkh 4 (v := ?_) rfl ?_ ?_; rotate_left
  · intro w hSw; obtain ⟨z1, z2, z3⟩ := hSw; go_simp <;> with_reducible rfl
  try simp only [Act.put, pz]
  refine tkh 6 (v := ?_) rfl ?_ ?_; rotate_left
  · intro w hSw; (try dsimp only at hSw); go_simp <;> with_reducible rfl
  try simp only [Act.put, pz]
  refine tkh 7 (v := ?_) rfl ?_ ?_; rotate_left
  · intro w hSw; (try dsimp only at hSw); go_simp <;> with_reducible rfl
  try simp only [Act.put, pz]
  refine tkh 8 (v := ?_) rfl ?_ ?_; rotate_left
  · intro w hSw; (try dsimp only at hSw); go_simp <;> with_reducible rfl
  try simp only [Act.put, pz]
  refine tkh 9 (v := ?_) rfl ?_ ?_; rotate_left
  · intro w hSw; obtain ⟨z1, z2, z3⟩ := hSw; go_simp <;> with_reducible rfl
  try simp only [Act.put, pz]
  refine tkh 11 (v := ?_) rfl ?_ ?_; rotate_left
  · intro w hSw; (try dsimp only at hSw); go_simp <;> with_reducible rfl
  try simp only [Act.put, pz]
  refine tkh 12 (v := ?_) rfl ?_ ?_; rotate_left
  · intro w hSw; (try dsimp only at hSw); go_simp <;> with_reducible rfl
  try simp only [Act.put, pz]
  refine tkh 13 (v := ?_) rfl ?_ ?_; rotate_left
  · intro w hSw; (try dsimp only at hSw); go_simp <;> with_reducible rfl
  try simp only [Act.put, pz]
  refine tkh 14 (v := ?_) rfl ?_ ?_; rotate_left
  · intro w hSw; obtain ⟨z1, z2, z3⟩ := hSw; go_simp <;> with_reducible rfl
  try simp only [Act.put, pz]
  refine wpAnyH_ready (rs := [0, 5, 17]) (by kernel_rfl) (by simp) (AllReadyH.cons rfl (fun K hK => ?_) (AllReadyH.cons rfl (fun K hK => ?_) (AllReadyH.cons rfl (fun K hK => ?_) AllReadyH.nil)))
  ·
    clear hHeld
    go_simp
    obtain ⟨w1, hw2⟩ : ∃ w', w' = w0.alloc (.map #[] 0) := ⟨_, rfl⟩
    have hb : Below w0.heap.size w0 w1 := by rw [hw2]; exact (Below.refl _ _).alloc (Nat.le_refl _) _
    have hf : FM Tryz.prog 3 iL pD ptrE w1 w0.heap.size 0 (fun _ => none) := by rw [hw2]; exact FM.made _ _ _ _ _ _
    rw [← hw2]
    clear hw2
    obtain ⟨b4, hb4⟩ : ∃ q, q = w0.heap.size := ⟨_, rfl⟩
    rw [← hb4] at hf
    rw [← hb4]
    have BW1 : Hid (Below W.heap.size W w1) := Lib.hid (BW0.out.trans (hb.mono BW0.out.size))
    have LOb4 : Hid (W.heap.size ≤ b4) := Lib.hid (by rw [hb4]; exact BW0.out.size)
    have F0 : Hid (FM Tryz.prog 3 iL pD ptrE w1 b4 0 (fun _ => none)) := Lib.hid hf
    clear hf hb hb4
    refine hK.out _ _ (HS.out _ BW1.out) (fun hHeld => ?_)
    clear hK K BW0
    try simp only [Act.put, pz]
    refine wpAnyH_ready (rs := [5, 17]) (by kernel_rfl) (by simp) (AllReadyH.cons rfl (fun K hK => ?_) (AllReadyH.cons rfl (fun K hK => ?_) AllReadyH.nil))
    ·
      clear hHeld
      go_simp
      refine (HC9.out w1 BW1.out).mono ?_
      rintro e w2 ⟨rfl, hf, hb⟩
      obtain ⟨b9, hb9⟩ : ∃ q, q = w1.heap.size := ⟨_, rfl⟩
      rw [← hb9] at hf
      rw [← hb9]
      have BW2 : Hid (Below W.heap.size W w2) := Lib.hid (BW1.out.trans (hb.mono BW1.out.size))
      have LOb9 : Hid (W.heap.size ≤ b9) := Lib.hid (by rw [hb9]; exact BW1.out.size)
      have NE0_5 : Hid (b4 ≠ b9) := Lib.hid (fun e => by have := F0.out.lt; omega)
      replace F0 := Lib.hid (F0.out.keep hb)
      have F5 : Hid (FM Tryz.prog 9 sL iD (plainElem Tryz.prog 3) w2 b9 n d.ns) := Lib.hid hf
      clear hf hb hb9
      refine hK.out _ _ (HS.out _ BW2.out) (fun hHeld => ?_)
      clear hK K BW1
      try simp only [Act.put, pz]
      refine wpAnyH_ready (rs := [10, 17]) (by kernel_rfl) (by simp) (AllReadyH.cons rfl (fun K hK => ?_) (AllReadyH.cons rfl (fun K hK => ?_) AllReadyH.nil))
      ·
        clear hHeld
        go_simp
        refine (HC14.out w2 BW2.out).mono ?_
        rintro e w3 ⟨rfl, hf, hb⟩
        obtain ⟨b14, hb14⟩ : ∃ q, q = w2.heap.size := ⟨_, rfl⟩
        rw [← hb14] at hf
        rw [← hb14]
        have BW3 : Hid (Below W.heap.size W w3) := Lib.hid (BW2.out.trans (hb.mono BW2.out.size))
        have LOb14 : Hid (W.heap.size ≤ b14) := Lib.hid (by rw [hb14]; exact BW2.out.size)
        have NE0_10 : Hid (b4 ≠ b14) := Lib.hid (fun e => by have := F0.out.lt; omega)
        replace F0 := Lib.hid (F0.out.keep hb)
        have NE5_10 : Hid (b9 ≠ b14) := Lib.hid (fun e => by have := F5.out.lt; omega)
        replace F5 := Lib.hid (F5.out.keep hb)
        have F10 : Hid (FM Tryz.prog 9 sL iD (plainElem Tryz.prog 3) w3 b14 n d.se) := Lib.hid hf
        clear hf hb hb14
        refine hK.out _ _ (HS.out _ BW3.out) (fun hHeld => ?_)
        clear hK K BW2
        try simp only [Act.put, pz]
        refine tkh 15 (v := ?_) rfl ?_ ?_; rotate_left
        · intro w hSw; (try dsimp only at hSw); go_simp <;> with_reducible rfl
        try simp only [Act.put, pz]
        refine wpAnyH_ready (rs := [16, 17]) (by kernel_rfl) (by simp) (AllReadyH.cons rfl (fun K hK => ?_) (AllReadyH.cons rfl (fun K hK => ?_) AllReadyH.nil))
        ·
          clear hHeld
          go_simp
          obtain ⟨w4, hw2⟩ : ∃ w', w' = w3.alloc (.cells #[.map (some b4), .map (some b9), .map (some b14), .int .i64 (no : Int)] 132) := ⟨_, rfl⟩
          have hb : Below w3.heap.size w3 w4 := by rw [hw2]; exact (Below.refl _ _).alloc (Nat.le_refl _) _
          have hf : Blk w4 w3.heap.size 132 #[.map (some b4), .map (some b9), .map (some b14), .int .i64 (no : Int)] := by rw [hw2]; exact Blk.new _ _ _ rfl
          rw [← hw2]
          clear hw2
          obtain ⟨g, hg⟩ : ∃ q, q = w3.heap.size := ⟨_, rfl⟩
          rw [← hg] at hf
          rw [← hg]
          have BW4 : Hid (Below W.heap.size W w4) := Lib.hid (BW3.out.trans (hb.mono BW3.out.size))
          have LOg : Hid (W.heap.size ≤ g) := Lib.hid (by rw [hg]; exact BW3.out.size)
          replace F0 := Lib.hid (F0.out.keep hb)
          replace F5 := Lib.hid (F5.out.keep hb)
          replace F10 := Lib.hid (F10.out.keep hb)
          have F16 : Hid (Blk w4 g 132 #[.map (some b4), .map (some b9), .map (some b14), .int .i64 (no : Int)]) := Lib.hid hf
          clear hf hb hg
          refine hK.out _ _ (HS.out _ BW4.out) (fun hHeld => ?_)
          clear hK K BW3
          try simp only [Act.put, pz]
          refine wpAnyH_ready (rs := [17]) (by kernel_rfl) (by simp) (AllReadyH.cons rfl (fun K hK => ?_) AllReadyH.nil)
          clear hHeld
          go_simp
          obtain ⟨w5, hw2⟩ : ∃ w', w' = w4.alloc (.cells #[.pointer none] 25) := ⟨_, rfl⟩
          have hb : Below w4.heap.size w4 w5 := by rw [hw2]; exact (Below.refl _ _).alloc (Nat.le_refl _) _
          have hf : Blk w5 w4.heap.size 25 #[.pointer none] := by rw [hw2]; exact Blk.new _ _ _ rfl
          rw [← hw2]
          clear hw2
          obtain ⟨cc, hcc⟩ : ∃ q, q = w4.heap.size := ⟨_, rfl⟩
          rw [← hcc] at hf
          rw [← hcc]
          have BW5 : Hid (Below W.heap.size W w5) := Lib.hid (BW4.out.trans (hb.mono BW4.out.size))
          have LOcc : Hid (W.heap.size ≤ cc) := Lib.hid (by rw [hcc]; exact BW4.out.size)
          replace F0 := Lib.hid (F0.out.keep hb)
          replace F5 := Lib.hid (F5.out.keep hb)
          replace F10 := Lib.hid (F10.out.keep hb)
          replace F16 := Lib.hid (F16.out.keep hb)
          have F17 : Hid (Blk w5 cc 25 #[.pointer none]) := Lib.hid hf
          clear hf hb hcc
          refine hK.out _ _ (HS.out _ BW5.out) (fun hHeld => ?_)
          clear hK K BW4
          try simp only [Act.put, pz]
          have k0 : w5.cell? ⟨cc, 0, none⟩ = some (.pointer none) := (F17.out.cell 0).trans rfl
          have kf : w5.frozen? ⟨cc, 0, none⟩ = false := F17.out.frozen 0
          have CS : Chg (fun q => q = cc) w5 (w5.setCell ⟨cc, 0, none⟩ (.pointer (some ⟨g, 0, none⟩))) := Chg.setCell (S := fun q => q = cc) (p := ⟨cc, 0, none⟩) (Chg.refl _ _) (.inl rfl) _
          have hCP : CPS W (w5.setCell ⟨cc, 0, none⟩ (.pointer (some ⟨g, 0, none⟩))) n d b4 b9 b14 g cc := ⟨BW5.out.trans (CS.below (fun k hk e => by have := LOcc.out; omega) BW5.out.size), F0.out.chg CS (F0.out.ne_blk F17.out).symm, F5.out.chg CS (F5.out.ne_blk F17.out).symm, F10.out.chg CS (F10.out.ne_blk F17.out).symm, by rw [← HNO.out]; exact F16.out.chg CS (F16.out.ne_type F17.out (by decide)), F17.out.set_ 0 _, LOg.out, LOb4.out, LOb9.out, LOb14.out, (ne_of NE0_5.out (fun h e => by first | exact h e | exact h e.symm)), (ne_of NE0_10.out (fun h e => by first | exact h e | exact h e.symm)), (ne_of NE5_10.out (fun h e => by first | exact h e | exact h e.symm))⟩
          have CP := Lib.hid hCP
          refine wpAnyH_ready (rs := [18]) (by kernel_rfl) (by simp) (AllReadyH.cons rfl (fun K hK => ?_) AllReadyH.nil)
          clear hHeld
          go_simp
          refine hK.out _ _ (HS.out _ hCP.bel) (fun hHeld => ?_)
          clear hK K hCP
          try simp only [Act.put, pz]
          refine wpAnyH_done (by kernel_rfl) ?_ _
          obtain ⟨wL, hwL⟩ : ∃ wL, wL = w5.setCell ⟨cc, 0, none⟩ (.pointer (some ⟨g, 0, none⟩)) := ⟨_, rfl⟩
          rw [← hwL] at CP ⊢
          have CC := Lib.hid (HE.out _ _ _ _ _ _ CP.out)
          clear hHeld hwL k0 kf CS F0 F5 F10 F16 F17
          go_wp2_with fail
          refine CC.out.mono ?_
          rintro e wM ⟨rfl, kc, hq⟩
          have HF := Lib.hid hq
          clear hq CC
          go_wp2_with fail
          go_ret
          exact HF.out
        ·
          clear hHeld
          go_simp
          obtain ⟨w4, hw2⟩ : ∃ w', w' = w3.alloc (.cells #[.pointer none] 25) := ⟨_, rfl⟩
          have hb : Below w3.heap.size w3 w4 := by rw [hw2]; exact (Below.refl _ _).alloc (Nat.le_refl _) _
          have hf : Blk w4 w3.heap.size 25 #[.pointer none] := by rw [hw2]; exact Blk.new _ _ _ rfl
          rw [← hw2]
          clear hw2
          obtain ⟨cc, hcc⟩ : ∃ q, q = w3.heap.size := ⟨_, rfl⟩
          rw [← hcc] at hf
          rw [← hcc]
          have BW4 : Hid (Below W.heap.size W w4) := Lib.hid (BW3.out.trans (hb.mono BW3.out.size))
          have LOcc : Hid (W.heap.size ≤ cc) := Lib.hid (by rw [hcc]; exact BW3.out.size)
          replace F0 := Lib.hid (F0.out.keep hb)
          replace F5 := Lib.hid (F5.out.keep hb)
          replace F10 := Lib.hid (F10.out.keep hb)
          have F17 : Hid (Blk w4 cc 25 #[.pointer none]) := Lib.hid hf
          clear hf hb hcc
          refine hK.out _ _ (HS.out _ BW4.out) (fun hHeld => ?_)
          clear hK K BW3
          try simp only [Act.put, pz]
          refine wpAnyH_ready (rs := [16]) (by kernel_rfl) (by simp) (AllReadyH.cons rfl (fun K hK => ?_) AllReadyH.nil)
          clear hHeld
          go_simp
          obtain ⟨w5, hw2⟩ : ∃ w', w' = w4.alloc (.cells #[.map (some b4), .map (some b9), .map (some b14), .int .i64 (no : Int)] 132) := ⟨_, rfl⟩
          have hb : Below w4.heap.size w4 w5 := by rw [hw2]; exact (Below.refl _ _).alloc (Nat.le_refl _) _
          have hf : Blk w5 w4.heap.size 132 #[.map (some b4), .map (some b9), .map (some b14), .int .i64 (no : Int)] := by rw [hw2]; exact Blk.new _ _ _ rfl
          rw [← hw2]
          clear hw2
          obtain ⟨g, hg⟩ : ∃ q, q = w4.heap.size := ⟨_, rfl⟩
          rw [← hg] at hf
          rw [← hg]
          have BW5 : Hid (Below W.heap.size W w5) := Lib.hid (BW4.out.trans (hb.mono BW4.out.size))
          have LOg : Hid (W.heap.size ≤ g) := Lib.hid (by rw [hg]; exact BW4.out.size)
          replace F0 := Lib.hid (F0.out.keep hb)
          replace F5 := Lib.hid (F5.out.keep hb)
          replace F10 := Lib.hid (F10.out.keep hb)
          replace F17 := Lib.hid (F17.out.keep hb)
          have F16 : Hid (Blk w5 g 132 #[.map (some b4), .map (some b9), .map (some b14), .int .i64 (no : Int)]) := Lib.hid hf
          clear hf hb hg
          refine hK.out _ _ (HS.out _ BW5.out) (fun hHeld => ?_)
          clear hK K BW4
          try simp only [Act.put, pz]
          have k0 : w5.cell? ⟨cc, 0, none⟩ = some (.pointer none) := (F17.out.cell 0).trans rfl
          have kf : w5.frozen? ⟨cc, 0, none⟩ = false := F17.out.frozen 0
          have CS : Chg (fun q => q = cc) w5 (w5.setCell ⟨cc, 0, none⟩ (.pointer (some ⟨g, 0, none⟩))) := Chg.setCell (S := fun q => q = cc) (p := ⟨cc, 0, none⟩) (Chg.refl _ _) (.inl rfl) _
          have hCP : CPS W (w5.setCell ⟨cc, 0, none⟩ (.pointer (some ⟨g, 0, none⟩))) n d b4 b9 b14 g cc := ⟨BW5.out.trans (CS.below (fun k hk e => by have := LOcc.out; omega) BW5.out.size), F0.out.chg CS (F0.out.ne_blk F17.out).symm, F5.out.chg CS (F5.out.ne_blk F17.out).symm, F10.out.chg CS (F10.out.ne_blk F17.out).symm, by rw [← HNO.out]; exact F16.out.chg CS (F16.out.ne_type F17.out (by decide)), F17.out.set_ 0 _, LOg.out, LOb4.out, LOb9.out, LOb14.out, (ne_of NE0_5.out (fun h e => by first | exact h e | exact h e.symm)), (ne_of NE0_10.out (fun h e => by first | exact h e | exact h e.symm)), (ne_of NE5_10.out (fun h e => by first | exact h e | exact h e.symm))⟩
          have CP := Lib.hid hCP
          refine wpAnyH_ready (rs := [18]) (by kernel_rfl) (by simp) (AllReadyH.cons rfl (fun K hK => ?_) AllReadyH.nil)
          clear hHeld
          go_simp
          refine hK.out _ _ (HS.out _ hCP.bel) (fun hHeld => ?_)
          clear hK K hCP
          try simp only [Act.put, pz]
          refine wpAnyH_done (by kernel_rfl) ?_ _
          obtain ⟨wL, hwL⟩ : ∃ wL, wL = w5.setCell ⟨cc, 0, none⟩ (.pointer (some ⟨g, 0, none⟩)) := ⟨_, rfl⟩
          rw [← hwL] at CP ⊢
          have CC := Lib.hid (HE.out _ _ _ _ _ _ CP.out)
          clear hHeld hwL k0 kf CS F0 F5 F10 F16 F17
          go_wp2_with fail
          refine CC.out.mono ?_
          rintro e wM ⟨rfl, kc, hq⟩
          have HF := Lib.hid hq
          clear hq CC
          go_wp2_with fail
          go_ret
          exact HF.out
      ·
        clear hHeld
        go_simp
        obtain ⟨w3, hw2⟩ : ∃ w', w' = w2.alloc (.cells #[.pointer none] 25) := ⟨_, rfl⟩
        have hb : Below w2.heap.size w2 w3 := by rw [hw2]; exact (Below.refl _ _).alloc (Nat.le_refl _) _
        have hf : Blk w3 w2.heap.size 25 #[.pointer none] := by rw [hw2]; exact Blk.new _ _ _ rfl
        rw [← hw2]
        clear hw2
        obtain ⟨cc, hcc⟩ : ∃ q, q = w2.heap.size := ⟨_, rfl⟩
        rw [← hcc] at hf
        rw [← hcc]
        have BW3 : Hid (Below W.heap.size W w3) := Lib.hid (BW2.out.trans (hb.mono BW2.out.size))
        have LOcc : Hid (W.heap.size ≤ cc) := Lib.hid (by rw [hcc]; exact BW2.out.size)
        replace F0 := Lib.hid (F0.out.keep hb)
        replace F5 := Lib.hid (F5.out.keep hb)
        have F17 : Hid (Blk w3 cc 25 #[.pointer none]) := Lib.hid hf
        clear hf hb hcc
        refine hK.out _ _ (HS.out _ BW3.out) (fun hHeld => ?_)
        clear hK K BW2
        try simp only [Act.put, pz]
        refine wpAnyH_ready (rs := [10]) (by kernel_rfl) (by simp) (AllReadyH.cons rfl (fun K hK => ?_) AllReadyH.nil)
        clear hHeld
        go_simp
        refine (HC14.out w3 BW3.out).mono ?_
        rintro e w4 ⟨rfl, hf, hb⟩
        obtain ⟨b14, hb14⟩ : ∃ q, q = w3.heap.size := ⟨_, rfl⟩
        rw [← hb14] at hf
        rw [← hb14]
        have BW4 : Hid (Below W.heap.size W w4) := Lib.hid (BW3.out.trans (hb.mono BW3.out.size))
        have LOb14 : Hid (W.heap.size ≤ b14) := Lib.hid (by rw [hb14]; exact BW3.out.size)
        have NE0_10 : Hid (b4 ≠ b14) := Lib.hid (fun e => by have := F0.out.lt; omega)
        replace F0 := Lib.hid (F0.out.keep hb)
        have NE5_10 : Hid (b9 ≠ b14) := Lib.hid (fun e => by have := F5.out.lt; omega)
        replace F5 := Lib.hid (F5.out.keep hb)
        replace F17 := Lib.hid (F17.out.keep hb)
        have F10 : Hid (FM Tryz.prog 9 sL iD (plainElem Tryz.prog 3) w4 b14 n d.se) := Lib.hid hf
        clear hf hb hb14
        refine hK.out _ _ (HS.out _ BW4.out) (fun hHeld => ?_)
        clear hK K BW3
        try simp only [Act.put, pz]
        refine tkh 15 (v := ?_) rfl ?_ ?_; rotate_left
        · intro w hSw; (try dsimp only at hSw); go_simp <;> with_reducible rfl
        try simp only [Act.put, pz]
        refine wpAnyH_ready (rs := [16]) (by kernel_rfl) (by simp) (AllReadyH.cons rfl (fun K hK => ?_) AllReadyH.nil)
        clear hHeld
        go_simp
        obtain ⟨w5, hw2⟩ : ∃ w', w' = w4.alloc (.cells #[.map (some b4), .map (some b9), .map (some b14), .int .i64 (no : Int)] 132) := ⟨_, rfl⟩
        have hb : Below w4.heap.size w4 w5 := by rw [hw2]; exact (Below.refl _ _).alloc (Nat.le_refl _) _
        have hf : Blk w5 w4.heap.size 132 #[.map (some b4), .map (some b9), .map (some b14), .int .i64 (no : Int)] := by rw [hw2]; exact Blk.new _ _ _ rfl
        rw [← hw2]
        clear hw2
        obtain ⟨g, hg⟩ : ∃ q, q = w4.heap.size := ⟨_, rfl⟩
        rw [← hg] at hf
        rw [← hg]
        have BW5 : Hid (Below W.heap.size W w5) := Lib.hid (BW4.out.trans (hb.mono BW4.out.size))
        have LOg : Hid (W.heap.size ≤ g) := Lib.hid (by rw [hg]; exact BW4.out.size)
        replace F0 := Lib.hid (F0.out.keep hb)
        replace F5 := Lib.hid (F5.out.keep hb)
        replace F10 := Lib.hid (F10.out.keep hb)
        replace F17 := Lib.hid (F17.out.keep hb)
        have F16 : Hid (Blk w5 g 132 #[.map (some b4), .map (some b9), .map (some b14), .int .i64 (no : Int)]) := Lib.hid hf
        clear hf hb hg
        refine hK.out _ _ (HS.out _ BW5.out) (fun hHeld => ?_)
        clear hK K BW4
        try simp only [Act.put, pz]
        have k0 : w5.cell? ⟨cc, 0, none⟩ = some (.pointer none) := (F17.out.cell 0).trans rfl
        have kf : w5.frozen? ⟨cc, 0, none⟩ = false := F17.out.frozen 0
        have CS : Chg (fun q => q = cc) w5 (w5.setCell ⟨cc, 0, none⟩ (.pointer (some ⟨g, 0, none⟩))) := Chg.setCell (S := fun q => q = cc) (p := ⟨cc, 0, none⟩) (Chg.refl _ _) (.inl rfl) _
        have hCP : CPS W (w5.setCell ⟨cc, 0, none⟩ (.pointer (some ⟨g, 0, none⟩))) n d b4 b9 b14 g cc := ⟨BW5.out.trans (CS.below (fun k hk e => by have := LOcc.out; omega) BW5.out.size), F0.out.chg CS (F0.out.ne_blk F17.out).symm, F5.out.chg CS (F5.out.ne_blk F17.out).symm, F10.out.chg CS (F10.out.ne_blk F17.out).symm, by rw [← HNO.out]; exact F16.out.chg CS (F16.out.ne_type F17.out (by decide)), F17.out.set_ 0 _, LOg.out, LOb4.out, LOb9.out, LOb14.out, (ne_of NE0_5.out (fun h e => by first | exact h e | exact h e.symm)), (ne_of NE0_10.out (fun h e => by first | exact h e | exact h e.symm)), (ne_of NE5_10.out (fun h e => by first | exact h e | exact h e.symm))⟩
        have CP := Lib.hid hCP
        refine wpAnyH_ready (rs := [18]) (by kernel_rfl) (by simp) (AllReadyH.cons rfl (fun K hK => ?_) AllReadyH.nil)
        clear hHeld
        go_simp
        refine hK.out _ _ (HS.out _ hCP.bel) (fun hHeld => ?_)
        clear hK K hCP
        try simp only [Act.put, pz]
        refine wpAnyH_done (by kernel_rfl) ?_ _
        obtain ⟨wL, hwL⟩ : ∃ wL, wL = w5.setCell ⟨cc, 0, none⟩ (.pointer (some ⟨g, 0, none⟩)) := ⟨_, rfl⟩
        rw [← hwL] at CP ⊢
        have CC := Lib.hid (HE.out _ _ _ _ _ _ CP.out)
        clear hHeld hwL k0 kf CS F0 F5 F10 F16 F17
        go_wp2_with fail
        refine CC.out.mono ?_
        rintro e wM ⟨rfl, kc, hq⟩
        have HF := Lib.hid hq
        clear hq CC
        go_wp2_with fail
        go_ret
        exact HF.out
    ·
      clear hHeld
      go_simp
      obtain ⟨w2, hw2⟩ : ∃ w', w' = w1.alloc (.cells #[.pointer none] 25) := ⟨_, rfl⟩
      have hb : Below w1.heap.size w1 w2 := by rw [hw2]; exact (Below.refl _ _).alloc (Nat.le_refl _) _
      have hf : Blk w2 w1.heap.size 25 #[.pointer none] := by rw [hw2]; exact Blk.new _ _ _ rfl
      rw [← hw2]
      clear hw2
      obtain ⟨cc, hcc⟩ : ∃ q, q = w1.heap.size := ⟨_, rfl⟩
      rw [← hcc] at hf
      rw [← hcc]
      have BW2 : Hid (Below W.heap.size W w2) := Lib.hid (BW1.out.trans (hb.mono BW1.out.size))
      have LOcc : Hid (W.heap.size ≤ cc) := Lib.hid (by rw [hcc]; exact BW1.out.size)
      replace F0 := Lib.hid (F0.out.keep hb)
      have F17 : Hid (Blk w2 cc 25 #[.pointer none]) := Lib.hid hf
      clear hf hb hcc
      refine hK.out _ _ (HS.out _ BW2.out) (fun hHeld => ?_)
      clear hK K BW1
      try simp only [Act.put, pz]
      refine wpAnyH_ready (rs := [5]) (by kernel_rfl) (by simp) (AllReadyH.cons rfl (fun K hK => ?_) AllReadyH.nil)
      clear hHeld
      go_simp
      refine (HC9.out w2 BW2.out).mono ?_
      rintro e w3 ⟨rfl, hf, hb⟩
      obtain ⟨b9, hb9⟩ : ∃ q, q = w2.heap.size := ⟨_, rfl⟩
      rw [← hb9] at hf
      rw [← hb9]
      have BW3 : Hid (Below W.heap.size W w3) := Lib.hid (BW2.out.trans (hb.mono BW2.out.size))
      have LOb9 : Hid (W.heap.size ≤ b9) := Lib.hid (by rw [hb9]; exact BW2.out.size)
      have NE0_5 : Hid (b4 ≠ b9) := Lib.hid (fun e => by have := F0.out.lt; omega)
      replace F0 := Lib.hid (F0.out.keep hb)
      replace F17 := Lib.hid (F17.out.keep hb)
      have F5 : Hid (FM Tryz.prog 9 sL iD (plainElem Tryz.prog 3) w3 b9 n d.ns) := Lib.hid hf
      clear hf hb hb9
      refine hK.out _ _ (HS.out _ BW3.out) (fun hHeld => ?_)
      clear hK K BW2
      try simp only [Act.put, pz]
      refine wpAnyH_ready (rs := [10]) (by kernel_rfl) (by simp) (AllReadyH.cons rfl (fun K hK => ?_) AllReadyH.nil)
      clear hHeld
      go_simp
      refine (HC14.out w3 BW3.out).mono ?_
      rintro e w4 ⟨rfl, hf, hb⟩
      obtain ⟨b14, hb14⟩ : ∃ q, q = w3.heap.size := ⟨_, rfl⟩
      rw [← hb14] at hf
      rw [← hb14]
      have BW4 : Hid (Below W.heap.size W w4) := Lib.hid (BW3.out.trans (hb.mono BW3.out.size))
      have LOb14 : Hid (W.heap.size ≤ b14) := Lib.hid (by rw [hb14]; exact BW3.out.size)
      have NE0_10 : Hid (b4 ≠ b14) := Lib.hid (fun e => by have := F0.out.lt; omega)
      replace F0 := Lib.hid (F0.out.keep hb)
      have NE5_10 : Hid (b9 ≠ b14) := Lib.hid (fun e => by have := F5.out.lt; omega)
      replace F5 := Lib.hid (F5.out.keep hb)
      replace F17 := Lib.hid (F17.out.keep hb)
      have F10 : Hid (FM Tryz.prog 9 sL iD (plainElem Tryz.prog 3) w4 b14 n d.se) := Lib.hid hf
      clear hf hb hb14
      refine hK.out _ _ (HS.out _ BW4.out) (fun hHeld => ?_)
      clear hK K BW3
      try simp only [Act.put, pz]
      refine tkh 15 (v := ?_) rfl ?_ ?_; rotate_left
      · intro w hSw; (try dsimp only at hSw); go_simp <;> with_reducible rfl
      try simp only [Act.put, pz]
      refine wpAnyH_ready (rs := [16]) (by kernel_rfl) (by simp) (AllReadyH.cons rfl (fun K hK => ?_) AllReadyH.nil)
      clear hHeld
      go_simp
      obtain ⟨w5, hw2⟩ : ∃ w', w' = w4.alloc (.cells #[.map (some b4), .map (some b9), .map (some b14), .int .i64 (no : Int)] 132) := ⟨_, rfl⟩
      have hb : Below w4.heap.size w4 w5 := by rw [hw2]; exact (Below.refl _ _).alloc (Nat.le_refl _) _
      have hf : Blk w5 w4.heap.size 132 #[.map (some b4), .map (some b9), .map (some b14), .int .i64 (no : Int)] := by rw [hw2]; exact Blk.new _ _ _ rfl
      rw [← hw2]
      clear hw2
      obtain ⟨g, hg⟩ : ∃ q, q = w4.heap.size := ⟨_, rfl⟩
      rw [← hg] at hf
      rw [← hg]
      have BW5 : Hid (Below W.heap.size W w5) := Lib.hid (BW4.out.trans (hb.mono BW4.out.size))
      have LOg : Hid (W.heap.size ≤ g) := Lib.hid (by rw [hg]; exact BW4.out.size)
      replace F0 := Lib.hid (F0.out.keep hb)
      replace F5 := Lib.hid (F5.out.keep hb)
      replace F10 := Lib.hid (F10.out.keep hb)
      replace F17 := Lib.hid (F17.out.keep hb)
      have F16 : Hid (Blk w5 g 132 #[.map (some b4), .map (some b9), .map (some b14), .int .i64 (no : Int)]) := Lib.hid hf
      clear hf hb hg
      refine hK.out _ _ (HS.out _ BW5.out) (fun hHeld => ?_)
      clear hK K BW4
      try simp only [Act.put, pz]
      have k0 : w5.cell? ⟨cc, 0, none⟩ = some (.pointer none) := (F17.out.cell 0).trans rfl
      have kf : w5.frozen? ⟨cc, 0, none⟩ = false := F17.out.frozen 0
      have CS : Chg (fun q => q = cc) w5 (w5.setCell ⟨cc, 0, none⟩ (.pointer (some ⟨g, 0, none⟩))) := Chg.setCell (S := fun q => q = cc) (p := ⟨cc, 0, none⟩) (Chg.refl _ _) (.inl rfl) _
      have hCP : CPS W (w5.setCell ⟨cc, 0, none⟩ (.pointer (some ⟨g, 0, none⟩))) n d b4 b9 b14 g cc := ⟨BW5.out.trans (CS.below (fun k hk e => by have := LOcc.out; omega) BW5.out.size), F0.out.chg CS (F0.out.ne_blk F17.out).symm, F5.out.chg CS (F5.out.ne_blk F17.out).symm, F10.out.chg CS (F10.out.ne_blk F17.out).symm, by rw [← HNO.out]; exact F16.out.chg CS (F16.out.ne_type F17.out (by decide)), F17.out.set_ 0 _, LOg.out, LOb4.out, LOb9.out, LOb14.out, (ne_of NE0_5.out (fun h e => by first | exact h e | exact h e.symm)), (ne_of NE0_10.out (fun h e => by first | exact h e | exact h e.symm)), (ne_of NE5_10.out (fun h e => by first | exact h e | exact h e.symm))⟩
      have CP := Lib.hid hCP
      refine wpAnyH_ready (rs := [18]) (by kernel_rfl) (by simp) (AllReadyH.cons rfl (fun K hK => ?_) AllReadyH.nil)
      clear hHeld
      go_simp
      refine hK.out _ _ (HS.out _ hCP.bel) (fun hHeld => ?_)
      clear hK K hCP
      try simp only [Act.put, pz]
      refine wpAnyH_done (by kernel_rfl) ?_ _
      obtain ⟨wL, hwL⟩ : ∃ wL, wL = w5.setCell ⟨cc, 0, none⟩ (.pointer (some ⟨g, 0, none⟩)) := ⟨_, rfl⟩
      rw [← hwL] at CP ⊢
      have CC := Lib.hid (HE.out _ _ _ _ _ _ CP.out)
      clear hHeld hwL k0 kf CS F0 F5 F10 F16 F17
      go_wp2_with fail
      refine CC.out.mono ?_
      rintro e wM ⟨rfl, kc, hq⟩
      have HF := Lib.hid hq
      clear hq CC
      go_wp2_with fail
      go_ret
      exact HF.out
  ·
    clear hHeld
    go_simp
    refine (HC9.out w0 BW0.out).mono ?_
    rintro e w1 ⟨rfl, hf, hb⟩
    obtain ⟨b9, hb9⟩ : ∃ q, q = w0.heap.size := ⟨_, rfl⟩
    rw [← hb9] at hf
    rw [← hb9]
    have BW1 : Hid (Below W.heap.size W w1) := Lib.hid (BW0.out.trans (hb.mono BW0.out.size))
    have LOb9 : Hid (W.heap.size ≤ b9) := Lib.hid (by rw [hb9]; exact BW0.out.size)
    have F5 : Hid (FM Tryz.prog 9 sL iD (plainElem Tryz.prog 3) w1 b9 n d.ns) := Lib.hid hf
    clear hf hb hb9
    refine hK.out _ _ (HS.out _ BW1.out) (fun hHeld => ?_)
    clear hK K BW0
    try simp only [Act.put, pz]
    refine wpAnyH_ready (rs := [0, 10, 17]) (by kernel_rfl) (by simp) (AllReadyH.cons rfl (fun K hK => ?_) (AllReadyH.cons rfl (fun K hK => ?_) (AllReadyH.cons rfl (fun K hK => ?_) AllReadyH.nil)))
    ·
      clear hHeld
      go_simp
      obtain ⟨w2, hw2⟩ : ∃ w', w' = w1.alloc (.map #[] 0) := ⟨_, rfl⟩
      have hb : Below w1.heap.size w1 w2 := by rw [hw2]; exact (Below.refl _ _).alloc (Nat.le_refl _) _
      have hf : FM Tryz.prog 3 iL pD ptrE w2 w1.heap.size 0 (fun _ => none) := by rw [hw2]; exact FM.made _ _ _ _ _ _
      rw [← hw2]
      clear hw2
      obtain ⟨b4, hb4⟩ : ∃ q, q = w1.heap.size := ⟨_, rfl⟩
      rw [← hb4] at hf
      rw [← hb4]
      have BW2 : Hid (Below W.heap.size W w2) := Lib.hid (BW1.out.trans (hb.mono BW1.out.size))
      have LOb4 : Hid (W.heap.size ≤ b4) := Lib.hid (by rw [hb4]; exact BW1.out.size)
      have NE0_5 : Hid (b9 ≠ b4) := Lib.hid (fun e => by have := F5.out.lt; omega)
      replace F5 := Lib.hid (F5.out.keep hb)
      have F0 : Hid (FM Tryz.prog 3 iL pD ptrE w2 b4 0 (fun _ => none)) := Lib.hid hf
      clear hf hb hb4
      refine hK.out _ _ (HS.out _ BW2.out) (fun hHeld => ?_)
      clear hK K BW1
      try simp only [Act.put, pz]
      refine wpAnyH_ready (rs := [10, 17]) (by kernel_rfl) (by simp) (AllReadyH.cons rfl (fun K hK => ?_) (AllReadyH.cons rfl (fun K hK => ?_) AllReadyH.nil))
      ·
        clear hHeld
        go_simp
        refine (HC14.out w2 BW2.out).mono ?_
        rintro e w3 ⟨rfl, hf, hb⟩
        obtain ⟨b14, hb14⟩ : ∃ q, q = w2.heap.size := ⟨_, rfl⟩
        rw [← hb14] at hf
        rw [← hb14]
        have BW3 : Hid (Below W.heap.size W w3) := Lib.hid (BW2.out.trans (hb.mono BW2.out.size))
        have LOb14 : Hid (W.heap.size ≤ b14) := Lib.hid (by rw [hb14]; exact BW2.out.size)
        have NE0_10 : Hid (b4 ≠ b14) := Lib.hid (fun e => by have := F0.out.lt; omega)
        replace F0 := Lib.hid (F0.out.keep hb)
        have NE5_10 : Hid (b9 ≠ b14) := Lib.hid (fun e => by have := F5.out.lt; omega)
        replace F5 := Lib.hid (F5.out.keep hb)
        have F10 : Hid (FM Tryz.prog 9 sL iD (plainElem Tryz.prog 3) w3 b14 n d.se) := Lib.hid hf
        clear hf hb hb14
        refine hK.out _ _ (HS.out _ BW3.out) (fun hHeld => ?_)
        clear hK K BW2
        try simp only [Act.put, pz]
        refine tkh 15 (v := ?_) rfl ?_ ?_; rotate_left
        · intro w hSw; (try dsimp only at hSw); go_simp <;> with_reducible rfl
        try simp only [Act.put, pz]
        refine wpAnyH_ready (rs := [16, 17]) (by kernel_rfl) (by simp) (AllReadyH.cons rfl (fun K hK => ?_) (AllReadyH.cons rfl (fun K hK => ?_) AllReadyH.nil))
        ·
          clear hHeld
          go_simp
          obtain ⟨w4, hw2⟩ : ∃ w', w' = w3.alloc (.cells #[.map (some b4), .map (some b9), .map (some b14), .int .i64 (no : Int)] 132) := ⟨_, rfl⟩
          have hb : Below w3.heap.size w3 w4 := by rw [hw2]; exact (Below.refl _ _).alloc (Nat.le_refl _) _
          have hf : Blk w4 w3.heap.size 132 #[.map (some b4), .map (some b9), .map (some b14), .int .i64 (no : Int)] := by rw [hw2]; exact Blk.new _ _ _ rfl
          rw [← hw2]
          clear hw2
          obtain ⟨g, hg⟩ : ∃ q, q = w3.heap.size := ⟨_, rfl⟩
          rw [← hg] at hf
          rw [← hg]
          have BW4 : Hid (Below W.heap.size W w4) := Lib.hid (BW3.out.trans (hb.mono BW3.out.size))
          have LOg : Hid (W.heap.size ≤ g) := Lib.hid (by rw [hg]; exact BW3.out.size)
          replace F0 := Lib.hid (F0.out.keep hb)
          replace F5 := Lib.hid (F5.out.keep hb)
          replace F10 := Lib.hid (F10.out.keep hb)
          have F16 : Hid (Blk w4 g 132 #[.map (some b4), .map (some b9), .map (some b14), .int .i64 (no : Int)]) := Lib.hid hf
          clear hf hb hg
          refine hK.out _ _ (HS.out _ BW4.out) (fun hHeld => ?_)
          clear hK K BW3
          try simp only [Act.put, pz]
          refine wpAnyH_ready (rs := [17]) (by kernel_rfl) (by simp) (AllReadyH.cons rfl (fun K hK => ?_) AllReadyH.nil)
          clear hHeld
          go_simp
          obtain ⟨w5, hw2⟩ : ∃ w', w' = w4.alloc (.cells #[.pointer none] 25) := ⟨_, rfl⟩
          have hb : Below w4.heap.size w4 w5 := by rw [hw2]; exact (Below.refl _ _).alloc (Nat.le_refl _) _
          have hf : Blk w5 w4.heap.size 25 #[.pointer none] := by rw [hw2]; exact Blk.new _ _ _ rfl
          rw [← hw2]
          clear hw2
          obtain ⟨cc, hcc⟩ : ∃ q, q = w4.heap.size := ⟨_, rfl⟩
          rw [← hcc] at hf
          rw [← hcc]
          have BW5 : Hid (Below W.heap.size W w5) := Lib.hid (BW4.out.trans (hb.mono BW4.out.size))
          have LOcc : Hid (W.heap.size ≤ cc) := Lib.hid (by rw [hcc]; exact BW4.out.size)
          replace F0 := Lib.hid (F0.out.keep hb)
          replace F5 := Lib.hid (F5.out.keep hb)
          replace F10 := Lib.hid (F10.out.keep hb)
          replace F16 := Lib.hid (F16.out.keep hb)
          have F17 : Hid (Blk w5 cc 25 #[.pointer none]) := Lib.hid hf
          clear hf hb hcc
          refine hK.out _ _ (HS.out _ BW5.out) (fun hHeld => ?_)
          clear hK K BW4
          try simp only [Act.put, pz]
          have k0 : w5.cell? ⟨cc, 0, none⟩ = some (.pointer none) := (F17.out.cell 0).trans rfl
          have kf : w5.frozen? ⟨cc, 0, none⟩ = false := F17.out.frozen 0
          have CS : Chg (fun q => q = cc) w5 (w5.setCell ⟨cc, 0, none⟩ (.pointer (some ⟨g, 0, none⟩))) := Chg.setCell (S := fun q => q = cc) (p := ⟨cc, 0, none⟩) (Chg.refl _ _) (.inl rfl) _
          have hCP : CPS W (w5.setCell ⟨cc, 0, none⟩ (.pointer (some ⟨g, 0, none⟩))) n d b4 b9 b14 g cc := ⟨BW5.out.trans (CS.below (fun k hk e => by have := LOcc.out; omega) BW5.out.size), F0.out.chg CS (F0.out.ne_blk F17.out).symm, F5.out.chg CS (F5.out.ne_blk F17.out).symm, F10.out.chg CS (F10.out.ne_blk F17.out).symm, by rw [← HNO.out]; exact F16.out.chg CS (F16.out.ne_type F17.out (by decide)), F17.out.set_ 0 _, LOg.out, LOb4.out, LOb9.out, LOb14.out, (ne_of NE0_5.out (fun h e => by first | exact h e | exact h e.symm)), (ne_of NE0_10.out (fun h e => by first | exact h e | exact h e.symm)), (ne_of NE5_10.out (fun h e => by first | exact h e | exact h e.symm))⟩
          have CP := Lib.hid hCP
          refine wpAnyH_ready (rs := [18]) (by kernel_rfl) (by simp) (AllReadyH.cons rfl (fun K hK => ?_) AllReadyH.nil)
          clear hHeld
          go_simp
          refine hK.out _ _ (HS.out _ hCP.bel) (fun hHeld => ?_)
          clear hK K hCP
          try simp only [Act.put, pz]
          refine wpAnyH_done (by kernel_rfl) ?_ _
          obtain ⟨wL, hwL⟩ : ∃ wL, wL = w5.setCell ⟨cc, 0, none⟩ (.pointer (some ⟨g, 0, none⟩)) := ⟨_, rfl⟩
          rw [← hwL] at CP ⊢
          have CC := Lib.hid (HE.out _ _ _ _ _ _ CP.out)
          clear hHeld hwL k0 kf CS F0 F5 F10 F16 F17
          go_wp2_with fail
          refine CC.out.mono ?_
          rintro e wM ⟨rfl, kc, hq⟩
          have HF := Lib.hid hq
          clear hq CC
          go_wp2_with fail
          go_ret
          exact HF.out
        ·
          clear hHeld
          go_simp
          obtain ⟨w4, hw2⟩ : ∃ w', w' = w3.alloc (.cells #[.pointer none] 25) := ⟨_, rfl⟩
          have hb : Below w3.heap.size w3 w4 := by rw [hw2]; exact (Below.refl _ _).alloc (Nat.le_refl _) _
          have hf : Blk w4 w3.heap.size 25 #[.pointer none] := by rw [hw2]; exact Blk.new _ _ _ rfl
          rw [← hw2]
          clear hw2
          obtain ⟨cc, hcc⟩ : ∃ q, q = w3.heap.size := ⟨_, rfl⟩
          rw [← hcc] at hf
          rw [← hcc]
          have BW4 : Hid (Below W.heap.size W w4) := Lib.hid (BW3.out.trans (hb.mono BW3.out.size))
          have LOcc : Hid (W.heap.size ≤ cc) := Lib.hid (by rw [hcc]; exact BW3.out.size)
          replace F0 := Lib.hid (F0.out.keep hb)
          replace F5 := Lib.hid (F5.out.keep hb)
          replace F10 := Lib.hid (F10.out.keep hb)
          have F17 : Hid (Blk w4 cc 25 #[.pointer none]) := Lib.hid hf
          clear hf hb hcc
          refine hK.out _ _ (HS.out _ BW4.out) (fun hHeld => ?_)
          clear hK K BW3
          try simp only [Act.put, pz]
          refine wpAnyH_ready (rs := [16]) (by kernel_rfl) (by simp) (AllReadyH.cons rfl (fun K hK => ?_) AllReadyH.nil)
          clear hHeld
          go_simp
          obtain ⟨w5, hw2⟩ : ∃ w', w' = w4.alloc (.cells #[.map (some b4), .map (some b9), .map (some b14), .int .i64 (no : Int)] 132) := ⟨_, rfl⟩
          have hb : Below w4.heap.size w4 w5 := by rw [hw2]; exact (Below.refl _ _).alloc (Nat.le_refl _) _
          have hf : Blk w5 w4.heap.size 132 #[.map (some b4), .map (some b9), .map (some b14), .int .i64 (no : Int)] := by rw [hw2]; exact Blk.new _ _ _ rfl
          rw [← hw2]
          clear hw2
          obtain ⟨g, hg⟩ : ∃ q, q = w4.heap.size := ⟨_, rfl⟩
          rw [← hg] at hf
          rw [← hg]
          have BW5 : Hid (Below W.heap.size W w5) := Lib.hid (BW4.out.trans (hb.mono BW4.out.size))
          have LOg : Hid (W.heap.size ≤ g) := Lib.hid (by rw [hg]; exact BW4.out.size)
          replace F0 := Lib.hid (F0.out.keep hb)
          replace F5 := Lib.hid (F5.out.keep hb)
          replace F10 := Lib.hid (F10.out.keep hb)
          replace F17 := Lib.hid (F17.out.keep hb)
          have F16 : Hid (Blk w5 g 132 #[.map (some b4), .map (some b9), .map (some b14), .int .i64 (no : Int)]) := Lib.hid hf
          clear hf hb hg
          refine hK.out _ _ (HS.out _ BW5.out) (fun hHeld => ?_)
          clear hK K BW4
          try simp only [Act.put, pz]
          have k0 : w5.cell? ⟨cc, 0, none⟩ = some (.pointer none) := (F17.out.cell 0).trans rfl
          have kf : w5.frozen? ⟨cc, 0, none⟩ = false := F17.out.frozen 0
          have CS : Chg (fun q => q = cc) w5 (w5.setCell ⟨cc, 0, none⟩ (.pointer (some ⟨g, 0, none⟩))) := Chg.setCell (S := fun q => q = cc) (p := ⟨cc, 0, none⟩) (Chg.refl _ _) (.inl rfl) _
          have hCP : CPS W (w5.setCell ⟨cc, 0, none⟩ (.pointer (some ⟨g, 0, none⟩))) n d b4 b9 b14 g cc := ⟨BW5.out.trans (CS.below (fun k hk e => by have := LOcc.out; omega) BW5.out.size), F0.out.chg CS (F0.out.ne_blk F17.out).symm, F5.out.chg CS (F5.out.ne_blk F17.out).symm, F10.out.chg CS (F10.out.ne_blk F17.out).symm, by rw [← HNO.out]; exact F16.out.chg CS (F16.out.ne_type F17.out (by decide)), F17.out.set_ 0 _, LOg.out, LOb4.out, LOb9.out, LOb14.out, (ne_of NE0_5.out (fun h e => by first | exact h e | exact h e.symm)), (ne_of NE0_10.out (fun h e => by first | exact h e | exact h e.symm)), (ne_of NE5_10.out (fun h e => by first | exact h e | exact h e.symm))⟩
          have CP := Lib.hid hCP
          refine wpAnyH_ready (rs := [18]) (by kernel_rfl) (by simp) (AllReadyH.cons rfl (fun K hK => ?_) AllReadyH.nil)
          clear hHeld
          go_simp
          refine hK.out _ _ (HS.out _ hCP.bel) (fun hHeld => ?_)
          clear hK K hCP
          try simp only [Act.put, pz]
          refine wpAnyH_done (by kernel_rfl) ?_ _
          obtain ⟨wL, hwL⟩ : ∃ wL, wL = w5.setCell ⟨cc, 0, none⟩ (.pointer (some ⟨g, 0, none⟩)) := ⟨_, rfl⟩
          rw [← hwL] at CP ⊢
          have CC := Lib.hid (HE.out _ _ _ _ _ _ CP.out)
          clear hHeld hwL k0 kf CS F0 F5 F10 F16 F17
          go_wp2_with fail
          refine CC.out.mono ?_
          rintro e wM ⟨rfl, kc, hq⟩
          have HF := Lib.hid hq
          clear hq CC
          go_wp2_with fail
          go_ret
          exact HF.out
      ·
        clear hHeld
        go_simp
        obtain ⟨w3, hw2⟩ : ∃ w', w' = w2.alloc (.cells #[.pointer none] 25) := ⟨_, rfl⟩
        have hb : Below w2.heap.size w2 w3 := by rw [hw2]; exact (Below.refl _ _).alloc (Nat.le_refl _) _
        have hf : Blk w3 w2.heap.size 25 #[.pointer none] := by rw [hw2]; exact Blk.new _ _ _ rfl
        rw [← hw2]
        clear hw2
        obtain ⟨cc, hcc⟩ : ∃ q, q = w2.heap.size := ⟨_, rfl⟩
        rw [← hcc] at hf
        rw [← hcc]
        have BW3 : Hid (Below W.heap.size W w3) := Lib.hid (BW2.out.trans (hb.mono BW2.out.size))
        have LOcc : Hid (W.heap.size ≤ cc) := Lib.hid (by rw [hcc]; exact BW2.out.size)
        replace F0 := Lib.hid (F0.out.keep hb)
        replace F5 := Lib.hid (F5.out.keep hb)
        have F17 : Hid (Blk w3 cc 25 #[.pointer none]) := Lib.hid hf
        clear hf hb hcc
        refine hK.out _ _ (HS.out _ BW3.out) (fun hHeld => ?_)
        clear hK K BW2
        try simp only [Act.put, pz]
        refine wpAnyH_ready (rs := [10]) (by kernel_rfl) (by simp) (AllReadyH.cons rfl (fun K hK => ?_) AllReadyH.nil)
        clear hHeld
        go_simp
        refine (HC14.out w3 BW3.out).mono ?_
        rintro e w4 ⟨rfl, hf, hb⟩
        obtain ⟨b14, hb14⟩ : ∃ q, q = w3.heap.size := ⟨_, rfl⟩
        rw [← hb14] at hf
        rw [← hb14]
        have BW4 : Hid (Below W.heap.size W w4) := Lib.hid (BW3.out.trans (hb.mono BW3.out.size))
        have LOb14 : Hid (W.heap.size ≤ b14) := Lib.hid (by rw [hb14]; exact BW3.out.size)
        have NE0_10 : Hid (b4 ≠ b14) := Lib.hid (fun e => by have := F0.out.lt; omega)
        replace F0 := Lib.hid (F0.out.keep hb)
        have NE5_10 : Hid (b9 ≠ b14) := Lib.hid (fun e => by have := F5.out.lt; omega)
        replace F5 := Lib.hid (F5.out.keep hb)
        replace F17 := Lib.hid (F17.out.keep hb)
        have F10 : Hid (FM Tryz.prog 9 sL iD (plainElem Tryz.prog 3) w4 b14 n d.se) := Lib.hid hf
        clear hf hb hb14
        refine hK.out _ _ (HS.out _ BW4.out) (fun hHeld => ?_)
        clear hK K BW3
        try simp only [Act.put, pz]
        refine tkh 15 (v := ?_) rfl ?_ ?_; rotate_left
        · intro w hSw; (try dsimp only at hSw); go_simp <;> with_reducible rfl
        try simp only [Act.put, pz]
        refine wpAnyH_ready (rs := [16]) (by kernel_rfl) (by simp) (AllReadyH.cons rfl (fun K hK => ?_) AllReadyH.nil)
        clear hHeld
        go_simp
        obtain ⟨w5, hw2⟩ : ∃ w', w' = w4.alloc (.cells #[.map (some b4), .map (some b9), .map (some b14), .int .i64 (no : Int)] 132) := ⟨_, rfl⟩
        have hb : Below w4.heap.size w4 w5 := by rw [hw2]; exact (Below.refl _ _).alloc (Nat.le_refl _) _
        have hf : Blk w5 w4.heap.size 132 #[.map (some b4), .map (some b9), .map (some b14), .int .i64 (no : Int)] := by rw [hw2]; exact Blk.new _ _ _ rfl
        rw [← hw2]
        clear hw2
        obtain ⟨g, hg⟩ : ∃ q, q = w4.heap.size := ⟨_, rfl⟩
        rw [← hg] at hf
        rw [← hg]
        have BW5 : Hid (Below W.heap.size W w5) := Lib.hid (BW4.out.trans (hb.mono BW4.out.size))
        have LOg : Hid (W.heap.size ≤ g) := Lib.hid (by rw [hg]; exact BW4.out.size)
        replace F0 := Lib.hid (F0.out.keep hb)
        replace F5 := Lib.hid (F5.out.keep hb)
        replace F10 := Lib.hid (F10.out.keep hb)
        replace F17 := Lib.hid (F17.out.keep hb)
        have F16 : Hid (Blk w5 g 132 #[.map (some b4), .map (some b9), .map (some b14), .int .i64 (no : Int)]) := Lib.hid hf
        clear hf hb hg
        refine hK.out _ _ (HS.out _ BW5.out) (fun hHeld => ?_)
        clear hK K BW4
        try simp only [Act.put, pz]
        have k0 : w5.cell? ⟨cc, 0, none⟩ = some (.pointer none) := (F17.out.cell 0).trans rfl
        have kf : w5.frozen? ⟨cc, 0, none⟩ = false := F17.out.frozen 0
        have CS : Chg (fun q => q = cc) w5 (w5.setCell ⟨cc, 0, none⟩ (.pointer (some ⟨g, 0, none⟩))) := Chg.setCell (S := fun q => q = cc) (p := ⟨cc, 0, none⟩) (Chg.refl _ _) (.inl rfl) _
        have hCP : CPS W (w5.setCell ⟨cc, 0, none⟩ (.pointer (some ⟨g, 0, none⟩))) n d b4 b9 b14 g cc := ⟨BW5.out.trans (CS.below (fun k hk e => by have := LOcc.out; omega) BW5.out.size), F0.out.chg CS (F0.out.ne_blk F17.out).symm, F5.out.chg CS (F5.out.ne_blk F17.out).symm, F10.out.chg CS (F10.out.ne_blk F17.out).symm, by rw [← HNO.out]; exact F16.out.chg CS (F16.out.ne_type F17.out (by decide)), F17.out.set_ 0 _, LOg.out, LOb4.out, LOb9.out, LOb14.out, (ne_of NE0_5.out (fun h e => by first | exact h e | exact h e.symm)), (ne_of NE0_10.out (fun h e => by first | exact h e | exact h e.symm)), (ne_of NE5_10.out (fun h e => by first | exact h e | exact h e.symm))⟩
        have CP := Lib.hid hCP
        refine wpAnyH_ready (rs := [18]) (by kernel_rfl) (by simp) (AllReadyH.cons rfl (fun K hK => ?_) AllReadyH.nil)
        clear hHeld
        go_simp
        refine hK.out _ _ (HS.out _ hCP.bel) (fun hHeld => ?_)
        clear hK K hCP
        try simp only [Act.put, pz]
        refine wpAnyH_done (by kernel_rfl) ?_ _
        obtain ⟨wL, hwL⟩ : ∃ wL, wL = w5.setCell ⟨cc, 0, none⟩ (.pointer (some ⟨g, 0, none⟩)) := ⟨_, rfl⟩
        rw [← hwL] at CP ⊢
        have CC := Lib.hid (HE.out _ _ _ _ _ _ CP.out)
        clear hHeld hwL k0 kf CS F0 F5 F10 F16 F17
        go_wp2_with fail
        refine CC.out.mono ?_
        rintro e wM ⟨rfl, kc, hq⟩
        have HF := Lib.hid hq
        clear hq CC
        go_wp2_with fail
        go_ret
        exact HF.out
    ·
      clear hHeld
      go_simp
      refine (HC14.out w1 BW1.out).mono ?_
      rintro e w2 ⟨rfl, hf, hb⟩
      obtain ⟨b14, hb14⟩ : ∃ q, q = w1.heap.size := ⟨_, rfl⟩
      rw [← hb14] at hf
      rw [← hb14]
      have BW2 : Hid (Below W.heap.size W w2) := Lib.hid (BW1.out.trans (hb.mono BW1.out.size))
      have LOb14 : Hid (W.heap.size ≤ b14) := Lib.hid (by rw [hb14]; exact BW1.out.size)
      have NE5_10 : Hid (b9 ≠ b14) := Lib.hid (fun e => by have := F5.out.lt; omega)
      replace F5 := Lib.hid (F5.out.keep hb)
      have F10 : Hid (FM Tryz.prog 9 sL iD (plainElem Tryz.prog 3) w2 b14 n d.se) := Lib.hid hf
      clear hf hb hb14
      refine hK.out _ _ (HS.out _ BW2.out) (fun hHeld => ?_)
      clear hK K BW1
      try simp only [Act.put, pz]
      refine wpAnyH_ready (rs := [0, 17]) (by kernel_rfl) (by simp) (AllReadyH.cons rfl (fun K hK => ?_) (AllReadyH.cons rfl (fun K hK => ?_) AllReadyH.nil))
      ·
        clear hHeld
        go_simp
        obtain ⟨w3, hw2⟩ : ∃ w', w' = w2.alloc (.map #[] 0) := ⟨_, rfl⟩
        have hb : Below w2.heap.size w2 w3 := by rw [hw2]; exact (Below.refl _ _).alloc (Nat.le_refl _) _
        have hf : FM Tryz.prog 3 iL pD ptrE w3 w2.heap.size 0 (fun _ => none) := by rw [hw2]; exact FM.made _ _ _ _ _ _
        rw [← hw2]
        clear hw2
        obtain ⟨b4, hb4⟩ : ∃ q, q = w2.heap.size := ⟨_, rfl⟩
        rw [← hb4] at hf
        rw [← hb4]
        have BW3 : Hid (Below W.heap.size W w3) := Lib.hid (BW2.out.trans (hb.mono BW2.out.size))
        have LOb4 : Hid (W.heap.size ≤ b4) := Lib.hid (by rw [hb4]; exact BW2.out.size)
        have NE0_5 : Hid (b9 ≠ b4) := Lib.hid (fun e => by have := F5.out.lt; omega)
        replace F5 := Lib.hid (F5.out.keep hb)
        have NE0_10 : Hid (b14 ≠ b4) := Lib.hid (fun e => by have := F10.out.lt; omega)
        replace F10 := Lib.hid (F10.out.keep hb)
        have F0 : Hid (FM Tryz.prog 3 iL pD ptrE w3 b4 0 (fun _ => none)) := Lib.hid hf
        clear hf hb hb4
        refine hK.out _ _ (HS.out _ BW3.out) (fun hHeld => ?_)
        clear hK K BW2
        try simp only [Act.put, pz]
        refine tkh 15 (v := ?_) rfl ?_ ?_; rotate_left
        · intro w hSw; (try dsimp only at hSw); go_simp <;> with_reducible rfl
        try simp only [Act.put, pz]
        refine wpAnyH_ready (rs := [16, 17]) (by kernel_rfl) (by simp) (AllReadyH.cons rfl (fun K hK => ?_) (AllReadyH.cons rfl (fun K hK => ?_) AllReadyH.nil))
        ·
          clear hHeld
          go_simp
          obtain ⟨w4, hw2⟩ : ∃ w', w' = w3.alloc (.cells #[.map (some b4), .map (some b9), .map (some b14), .int .i64 (no : Int)] 132) := ⟨_, rfl⟩
          have hb : Below w3.heap.size w3 w4 := by rw [hw2]; exact (Below.refl _ _).alloc (Nat.le_refl _) _
          have hf : Blk w4 w3.heap.size 132 #[.map (some b4), .map (some b9), .map (some b14), .int .i64 (no : Int)] := by rw [hw2]; exact Blk.new _ _ _ rfl
          rw [← hw2]
          clear hw2
          obtain ⟨g, hg⟩ : ∃ q, q = w3.heap.size := ⟨_, rfl⟩
          rw [← hg] at hf
          rw [← hg]
          have BW4 : Hid (Below W.heap.size W w4) := Lib.hid (BW3.out.trans (hb.mono BW3.out.size))
          have LOg : Hid (W.heap.size ≤ g) := Lib.hid (by rw [hg]; exact BW3.out.size)
          replace F0 := Lib.hid (F0.out.keep hb)
          replace F5 := Lib.hid (F5.out.keep hb)
          replace F10 := Lib.hid (F10.out.keep hb)
          have F16 : Hid (Blk w4 g 132 #[.map (some b4), .map (some b9), .map (some b14), .int .i64 (no : Int)]) := Lib.hid hf
          clear hf hb hg
          refine hK.out _ _ (HS.out _ BW4.out) (fun hHeld => ?_)
          clear hK K BW3
          try simp only [Act.put, pz]
          refine wpAnyH_ready (rs := [17]) (by kernel_rfl) (by simp) (AllReadyH.cons rfl (fun K hK => ?_) AllReadyH.nil)
          clear hHeld
          go_simp
          obtain ⟨w5, hw2⟩ : ∃ w', w' = w4.alloc (.cells #[.pointer none] 25) := ⟨_, rfl⟩
          have hb : Below w4.heap.size w4 w5 := by rw [hw2]; exact (Below.refl _ _).alloc (Nat.le_refl _) _
          have hf : Blk w5 w4.heap.size 25 #[.pointer none] := by rw [hw2]; exact Blk.new _ _ _ rfl
          rw [← hw2]
          clear hw2
          obtain ⟨cc, hcc⟩ : ∃ q, q = w4.heap.size := ⟨_, rfl⟩
          rw [← hcc] at hf
          rw [← hcc]
          have BW5 : Hid (Below W.heap.size W w5) := Lib.hid (BW4.out.trans (hb.mono BW4.out.size))
          have LOcc : Hid (W.heap.size ≤ cc) := Lib.hid (by rw [hcc]; exact BW4.out.size)
          replace F0 := Lib.hid (F0.out.keep hb)
          replace F5 := Lib.hid (F5.out.keep hb)
          replace F10 := Lib.hid (F10.out.keep hb)
          replace F16 := Lib.hid (F16.out.keep hb)
          have F17 : Hid (Blk w5 cc 25 #[.pointer none]) := Lib.hid hf
          clear hf hb hcc
          refine hK.out _ _ (HS.out _ BW5.out) (fun hHeld => ?_)
          clear hK K BW4
          try simp only [Act.put, pz]
          have k0 : w5.cell? ⟨cc, 0, none⟩ = some (.pointer none) := (F17.out.cell 0).trans rfl
          have kf : w5.frozen? ⟨cc, 0, none⟩ = false := F17.out.frozen 0
          have CS : Chg (fun q => q = cc) w5 (w5.setCell ⟨cc, 0, none⟩ (.pointer (some ⟨g, 0, none⟩))) := Chg.setCell (S := fun q => q = cc) (p := ⟨cc, 0, none⟩) (Chg.refl _ _) (.inl rfl) _
          have hCP : CPS W (w5.setCell ⟨cc, 0, none⟩ (.pointer (some ⟨g, 0, none⟩))) n d b4 b9 b14 g cc := ⟨BW5.out.trans (CS.below (fun k hk e => by have := LOcc.out; omega) BW5.out.size), F0.out.chg CS (F0.out.ne_blk F17.out).symm, F5.out.chg CS (F5.out.ne_blk F17.out).symm, F10.out.chg CS (F10.out.ne_blk F17.out).symm, by rw [← HNO.out]; exact F16.out.chg CS (F16.out.ne_type F17.out (by decide)), F17.out.set_ 0 _, LOg.out, LOb4.out, LOb9.out, LOb14.out, (ne_of NE0_5.out (fun h e => by first | exact h e | exact h e.symm)), (ne_of NE0_10.out (fun h e => by first | exact h e | exact h e.symm)), (ne_of NE5_10.out (fun h e => by first | exact h e | exact h e.symm))⟩
          have CP := Lib.hid hCP
          refine wpAnyH_ready (rs := [18]) (by kernel_rfl) (by simp) (AllReadyH.cons rfl (fun K hK => ?_) AllReadyH.nil)
          clear hHeld
          go_simp
          refine hK.out _ _ (HS.out _ hCP.bel) (fun hHeld => ?_)
          clear hK K hCP
          try simp only [Act.put, pz]
          refine wpAnyH_done (by kernel_rfl) ?_ _
          obtain ⟨wL, hwL⟩ : ∃ wL, wL = w5.setCell ⟨cc, 0, none⟩ (.pointer (some ⟨g, 0, none⟩)) := ⟨_, rfl⟩
          rw [← hwL] at CP ⊢
          have CC := Lib.hid (HE.out _ _ _ _ _ _ CP.out)
          clear hHeld hwL k0 kf CS F0 F5 F10 F16 F17
          go_wp2_with fail
          refine CC.out.mono ?_
          rintro e wM ⟨rfl, kc, hq⟩
          have HF := Lib.hid hq
          clear hq CC
          go_wp2_with fail
          go_ret
          exact HF.out
        ·
          clear hHeld
          go_simp
          obtain ⟨w4, hw2⟩ : ∃ w', w' = w3.alloc (.cells #[.pointer none] 25) := ⟨_, rfl⟩
          have hb : Below w3.heap.size w3 w4 := by rw [hw2]; exact (Below.refl _ _).alloc (Nat.le_refl _) _
          have hf : Blk w4 w3.heap.size 25 #[.pointer none] := by rw [hw2]; exact Blk.new _ _ _ rfl
          rw [← hw2]
          clear hw2
          obtain ⟨cc, hcc⟩ : ∃ q, q = w3.heap.size := ⟨_, rfl⟩
          rw [← hcc] at hf
          rw [← hcc]
          have BW4 : Hid (Below W.heap.size W w4) := Lib.hid (BW3.out.trans (hb.mono BW3.out.size))
          have LOcc : Hid (W.heap.size ≤ cc) := Lib.hid (by rw [hcc]; exact BW3.out.size)
          replace F0 := Lib.hid (F0.out.keep hb)
          replace F5 := Lib.hid (F5.out.keep hb)
          replace F10 := Lib.hid (F10.out.keep hb)
          have F17 : Hid (Blk w4 cc 25 #[.pointer none]) := Lib.hid hf
          clear hf hb hcc
          refine hK.out _ _ (HS.out _ BW4.out) (fun hHeld => ?_)
          clear hK K BW3
          try simp only [Act.put, pz]
          refine wpAnyH_ready (rs := [16]) (by kernel_rfl) (by simp) (AllReadyH.cons rfl (fun K hK => ?_) AllReadyH.nil)
          clear hHeld
          go_simp
          obtain ⟨w5, hw2⟩ : ∃ w', w' = w4.alloc (.cells #[.map (some b4), .map (some b9), .map (some b14), .int .i64 (no : Int)] 132) := ⟨_, rfl⟩
          have hb : Below w4.heap.size w4 w5 := by rw [hw2]; exact (Below.refl _ _).alloc (Nat.le_refl _) _
          have hf : Blk w5 w4.heap.size 132 #[.map (some b4), .map (some b9), .map (some b14), .int .i64 (no : Int)] := by rw [hw2]; exact Blk.new _ _ _ rfl
          rw [← hw2]
          clear hw2
          obtain ⟨g, hg⟩ : ∃ q, q = w4.heap.size := ⟨_, rfl⟩
          rw [← hg] at hf
          rw [← hg]
          have BW5 : Hid (Below W.heap.size W w5) := Lib.hid (BW4.out.trans (hb.mono BW4.out.size))
          have LOg : Hid (W.heap.size ≤ g) := Lib.hid (by rw [hg]; exact BW4.out.size)
          replace F0 := Lib.hid (F0.out.keep hb)
          replace F5 := Lib.hid (F5.out.keep hb)
          replace F10 := Lib.hid (F10.out.keep hb)
          replace F17 := Lib.hid (F17.out.keep hb)
          have F16 : Hid (Blk w5 g 132 #[.map (some b4), .map (some b9), .map (some b14), .int .i64 (no : Int)]) := Lib.hid hf
          clear hf hb hg
          refine hK.out _ _ (HS.out _ BW5.out) (fun hHeld => ?_)
          clear hK K BW4
          try simp only [Act.put, pz]
          have k0 : w5.cell? ⟨cc, 0, none⟩ = some (.pointer none) := (F17.out.cell 0).trans rfl
          have kf : w5.frozen? ⟨cc, 0, none⟩ = false := F17.out.frozen 0
          have CS : Chg (fun q => q = cc) w5 (w5.setCell ⟨cc, 0, none⟩ (.pointer (some ⟨g, 0, none⟩))) := Chg.setCell (S := fun q => q = cc) (p := ⟨cc, 0, none⟩) (Chg.refl _ _) (.inl rfl) _
          have hCP : CPS W (w5.setCell ⟨cc, 0, none⟩ (.pointer (some ⟨g, 0, none⟩))) n d b4 b9 b14 g cc := ⟨BW5.out.trans (CS.below (fun k hk e => by have := LOcc.out; omega) BW5.out.size), F0.out.chg CS (F0.out.ne_blk F17.out).symm, F5.out.chg CS (F5.out.ne_blk F17.out).symm, F10.out.chg CS (F10.out.ne_blk F17.out).symm, by rw [← HNO.out]; exact F16.out.chg CS (F16.out.ne_type F17.out (by decide)), F17.out.set_ 0 _, LOg.out, LOb4.out, LOb9.out, LOb14.out, (ne_of NE0_5.out (fun h e => by first | exact h e | exact h e.symm)), (ne_of NE0_10.out (fun h e => by first | exact h e | exact h e.symm)), (ne_of NE5_10.out (fun h e => by first | exact h e | exact h e.symm))⟩
          have CP := Lib.hid hCP
          refine wpAnyH_ready (rs := [18]) (by kernel_rfl) (by simp) (AllReadyH.cons rfl (fun K hK => ?_) AllReadyH.nil)
          clear hHeld
          go_simp
          refine hK.out _ _ (HS.out _ hCP.bel) (fun hHeld => ?_)
          clear hK K hCP
          try simp only [Act.put, pz]
          refine wpAnyH_done (by kernel_rfl) ?_ _
          obtain ⟨wL, hwL⟩ : ∃ wL, wL = w5.setCell ⟨cc, 0, none⟩ (.pointer (some ⟨g, 0, none⟩)) := ⟨_, rfl⟩
          rw [← hwL] at CP ⊢
          have CC := Lib.hid (HE.out _ _ _ _ _ _ CP.out)
          clear hHeld hwL k0 kf CS F0 F5 F10 F16 F17
          go_wp2_with fail
          refine CC.out.mono ?_
          rintro e wM ⟨rfl, kc, hq⟩
          have HF := Lib.hid hq
          clear hq CC
          go_wp2_with fail
          go_ret
          exact HF.out
      ·
        clear hHeld
        go_simp
        obtain ⟨w3, hw2⟩ : ∃ w', w' = w2.alloc (.cells #[.pointer none] 25) := ⟨_, rfl⟩
        have hb : Below w2.heap.size w2 w3 := by rw [hw2]; exact (Below.refl _ _).alloc (Nat.le_refl _) _
        have hf : Blk w3 w2.heap.size 25 #[.pointer none] := by rw [hw2]; exact Blk.new _ _ _ rfl
        rw [← hw2]
        clear hw2
        obtain ⟨cc, hcc⟩ : ∃ q, q = w2.heap.size := ⟨_, rfl⟩
        rw [← hcc] at hf
        rw [← hcc]
        have BW3 : Hid (Below W.heap.size W w3) := Lib.hid (BW2.out.trans (hb.mono BW2.out.size))
        have LOcc : Hid (W.heap.size ≤ cc) := Lib.hid (by rw [hcc]; exact BW2.out.size)
        replace F5 := Lib.hid (F5.out.keep hb)
        replace F10 := Lib.hid (F10.out.keep hb)
        have F17 : Hid (Blk w3 cc 25 #[.pointer none]) := Lib.hid hf
        clear hf hb hcc
        refine hK.out _ _ (HS.out _ BW3.out) (fun hHeld => ?_)
        clear hK K BW2
        try simp only [Act.put, pz]
        refine wpAnyH_ready (rs := [0]) (by kernel_rfl) (by simp) (AllReadyH.cons rfl (fun K hK => ?_) AllReadyH.nil)
        clear hHeld
        go_simp
        obtain ⟨w4, hw2⟩ : ∃ w', w' = w3.alloc (.map #[] 0) := ⟨_, rfl⟩
        have hb : Below w3.heap.size w3 w4 := by rw [hw2]; exact (Below.refl _ _).alloc (Nat.le_refl _) _
        have hf : FM Tryz.prog 3 iL pD ptrE w4 w3.heap.size 0 (fun _ => none) := by rw [hw2]; exact FM.made _ _ _ _ _ _
        rw [← hw2]
        clear hw2
        obtain ⟨b4, hb4⟩ : ∃ q, q = w3.heap.size := ⟨_, rfl⟩
        rw [← hb4] at hf
        rw [← hb4]
        have BW4 : Hid (Below W.heap.size W w4) := Lib.hid (BW3.out.trans (hb.mono BW3.out.size))
        have LOb4 : Hid (W.heap.size ≤ b4) := Lib.hid (by rw [hb4]; exact BW3.out.size)
        have NE0_5 : Hid (b9 ≠ b4) := Lib.hid (fun e => by have := F5.out.lt; omega)
        replace F5 := Lib.hid (F5.out.keep hb)
        have NE0_10 : Hid (b14 ≠ b4) := Lib.hid (fun e => by have := F10.out.lt; omega)
        replace F10 := Lib.hid (F10.out.keep hb)
        replace F17 := Lib.hid (F17.out.keep hb)
        have F0 : Hid (FM Tryz.prog 3 iL pD ptrE w4 b4 0 (fun _ => none)) := Lib.hid hf
        clear hf hb hb4
        refine hK.out _ _ (HS.out _ BW4.out) (fun hHeld => ?_)
        clear hK K BW3
        try simp only [Act.put, pz]
        refine tkh 15 (v := ?_) rfl ?_ ?_; rotate_left
        · intro w hSw; (try dsimp only at hSw); go_simp <;> with_reducible rfl
        try simp only [Act.put, pz]
        refine wpAnyH_ready (rs := [16]) (by kernel_rfl) (by simp) (AllReadyH.cons rfl (fun K hK => ?_) AllReadyH.nil)
        clear hHeld
        go_simp
        obtain ⟨w5, hw2⟩ : ∃ w', w' = w4.alloc (.cells #[.map (some b4), .map (some b9), .map (some b14), .int .i64 (no : Int)] 132) := ⟨_, rfl⟩
        have hb : Below w4.heap.size w4 w5 := by rw [hw2]; exact (Below.refl _ _).alloc (Nat.le_refl _) _
        have hf : Blk w5 w4.heap.size 132 #[.map (some b4), .map (some b9), .map (some b14), .int .i64 (no : Int)] := by rw [hw2]; exact Blk.new _ _ _ rfl
        rw [← hw2]
        clear hw2
        obtain ⟨g, hg⟩ : ∃ q, q = w4.heap.size := ⟨_, rfl⟩
        rw [← hg] at hf
        rw [← hg]
        have BW5 : Hid (Below W.heap.size W w5) := Lib.hid (BW4.out.trans (hb.mono BW4.out.size))
        have LOg : Hid (W.heap.size ≤ g) := Lib.hid (by rw [hg]; exact BW4.out.size)
        replace F0 := Lib.hid (F0.out.keep hb)
        replace F5 := Lib.hid (F5.out.keep hb)
        replace F10 := Lib.hid (F10.out.keep hb)
        replace F17 := Lib.hid (F17.out.keep hb)
        have F16 : Hid (Blk w5 g 132 #[.map (some b4), .map (some b9), .map (some b14), .int .i64 (no : Int)]) := Lib.hid hf
        clear hf hb hg
        refine hK.out _ _ (HS.out _ BW5.out) (fun hHeld => ?_)
        clear hK K BW4
        try simp only [Act.put, pz]
        have k0 : w5.cell? ⟨cc, 0, none⟩ = some (.pointer none) := (F17.out.cell 0).trans rfl
        have kf : w5.frozen? ⟨cc, 0, none⟩ = false := F17.out.frozen 0
        have CS : Chg (fun q => q = cc) w5 (w5.setCell ⟨cc, 0, none⟩ (.pointer (some ⟨g, 0, none⟩))) := Chg.setCell (S := fun q => q = cc) (p := ⟨cc, 0, none⟩) (Chg.refl _ _) (.inl rfl) _
        have hCP : CPS W (w5.setCell ⟨cc, 0, none⟩ (.pointer (some ⟨g, 0, none⟩))) n d b4 b9 b14 g cc := ⟨BW5.out.trans (CS.below (fun k hk e => by have := LOcc.out; omega) BW5.out.size), F0.out.chg CS (F0.out.ne_blk F17.out).symm, F5.out.chg CS (F5.out.ne_blk F17.out).symm, F10.out.chg CS (F10.out.ne_blk F17.out).symm, by rw [← HNO.out]; exact F16.out.chg CS (F16.out.ne_type F17.out (by decide)), F17.out.set_ 0 _, LOg.out, LOb4.out, LOb9.out, LOb14.out, (ne_of NE0_5.out (fun h e => by first | exact h e | exact h e.symm)), (ne_of NE0_10.out (fun h e => by first | exact h e | exact h e.symm)), (ne_of NE5_10.out (fun h e => by first | exact h e | exact h e.symm))⟩
        have CP := Lib.hid hCP
        refine wpAnyH_ready (rs := [18]) (by kernel_rfl) (by simp) (AllReadyH.cons rfl (fun K hK => ?_) AllReadyH.nil)
        clear hHeld
        go_simp
        refine hK.out _ _ (HS.out _ hCP.bel) (fun hHeld => ?_)
        clear hK K hCP
        try simp only [Act.put, pz]
        refine wpAnyH_done (by kernel_rfl) ?_ _
        obtain ⟨wL, hwL⟩ : ∃ wL, wL = w5.setCell ⟨cc, 0, none⟩ (.pointer (some ⟨g, 0, none⟩)) := ⟨_, rfl⟩
        rw [← hwL] at CP ⊢
        have CC := Lib.hid (HE.out _ _ _ _ _ _ CP.out)
        clear hHeld hwL k0 kf CS F0 F5 F10 F16 F17
        go_wp2_with fail
        refine CC.out.mono ?_
        rintro e wM ⟨rfl, kc, hq⟩
        have HF := Lib.hid hq
        clear hq CC
        go_wp2_with fail
        go_ret
        exact HF.out
    ·
      clear hHeld
      go_simp
      obtain ⟨w2, hw2⟩ : ∃ w', w' = w1.alloc (.cells #[.pointer none] 25) := ⟨_, rfl⟩
      have hb : Below w1.heap.size w1 w2 := by rw [hw2]; exact (Below.refl _ _).alloc (Nat.le_refl _) _
      have hf : Blk w2 w1.heap.size 25 #[.pointer none] := by rw [hw2]; exact Blk.new _ _ _ rfl
      rw [← hw2]
      clear hw2
      obtain ⟨cc, hcc⟩ : ∃ q, q = w1.heap.size := ⟨_, rfl⟩
      rw [← hcc] at hf
      rw [← hcc]
      have BW2 : Hid (Below W.heap.size W w2) := Lib.hid (BW1.out.trans (hb.mono BW1.out.size))
      have LOcc : Hid (W.heap.size ≤ cc) := Lib.hid (by rw [hcc]; exact BW1.out.size)
      replace F5 := Lib.hid (F5.out.keep hb)
      have F17 : Hid (Blk w2 cc 25 #[.pointer none]) := Lib.hid hf
      clear hf hb hcc
      refine hK.out _ _ (HS.out _ BW2.out) (fun hHeld => ?_)
      clear hK K BW1
      try simp only [Act.put, pz]
      refine wpAnyH_ready (rs := [0, 10]) (by kernel_rfl) (by simp) (AllReadyH.cons rfl (fun K hK => ?_) (AllReadyH.cons rfl (fun K hK => ?_) AllReadyH.nil))
      ·
        clear hHeld
        go_simp
        obtain ⟨w3, hw2⟩ : ∃ w', w' = w2.alloc (.map #[] 0) := ⟨_, rfl⟩
        have hb : Below w2.heap.size w2 w3 := by rw [hw2]; exact (Below.refl _ _).alloc (Nat.le_refl _) _
        have hf : FM Tryz.prog 3 iL pD ptrE w3 w2.heap.size 0 (fun _ => none) := by rw [hw2]; exact FM.made _ _ _ _ _ _
        rw [← hw2]
        clear hw2
        obtain ⟨b4, hb4⟩ : ∃ q, q = w2.heap.size := ⟨_, rfl⟩
        rw [← hb4] at hf
        rw [← hb4]
        have BW3 : Hid (Below W.heap.size W w3) := Lib.hid (BW2.out.trans (hb.mono BW2.out.size))
        have LOb4 : Hid (W.heap.size ≤ b4) := Lib.hid (by rw [hb4]; exact BW2.out.size)
        have NE0_5 : Hid (b9 ≠ b4) := Lib.hid (fun e => by have := F5.out.lt; omega)
        replace F5 := Lib.hid (F5.out.keep hb)
        replace F17 := Lib.hid (F17.out.keep hb)
        have F0 : Hid (FM Tryz.prog 3 iL pD ptrE w3 b4 0 (fun _ => none)) := Lib.hid hf
        clear hf hb hb4
        refine hK.out _ _ (HS.out _ BW3.out) (fun hHeld => ?_)
        clear hK K BW2
        try simp only [Act.put, pz]
        refine wpAnyH_ready (rs := [10]) (by kernel_rfl) (by simp) (AllReadyH.cons rfl (fun K hK => ?_) AllReadyH.nil)
        clear hHeld
        go_simp
        refine (HC14.out w3 BW3.out).mono ?_
        rintro e w4 ⟨rfl, hf, hb⟩
        obtain ⟨b14, hb14⟩ : ∃ q, q = w3.heap.size := ⟨_, rfl⟩
        rw [← hb14] at hf
        rw [← hb14]
        have BW4 : Hid (Below W.heap.size W w4) := Lib.hid (BW3.out.trans (hb.mono BW3.out.size))
        have LOb14 : Hid (W.heap.size ≤ b14) := Lib.hid (by rw [hb14]; exact BW3.out.size)
        have NE0_10 : Hid (b4 ≠ b14) := Lib.hid (fun e => by have := F0.out.lt; omega)
        replace F0 := Lib.hid (F0.out.keep hb)
        have NE5_10 : Hid (b9 ≠ b14) := Lib.hid (fun e => by have := F5.out.lt; omega)
        replace F5 := Lib.hid (F5.out.keep hb)
        replace F17 := Lib.hid (F17.out.keep hb)
        have F10 : Hid (FM Tryz.prog 9 sL iD (plainElem Tryz.prog 3) w4 b14 n d.se) := Lib.hid hf
        clear hf hb hb14
        refine hK.out _ _ (HS.out _ BW4.out) (fun hHeld => ?_)
        clear hK K BW3
        try simp only [Act.put, pz]
        refine tkh 15 (v := ?_) rfl ?_ ?_; rotate_left
        · intro w hSw; (try dsimp only at hSw); go_simp <;> with_reducible rfl
        try simp only [Act.put, pz]
        refine wpAnyH_ready (rs := [16]) (by kernel_rfl) (by simp) (AllReadyH.cons rfl (fun K hK => ?_) AllReadyH.nil)
        clear hHeld
        go_simp
        obtain ⟨w5, hw2⟩ : ∃ w', w' = w4.alloc (.cells #[.map (some b4), .map (some b9), .map (some b14), .int .i64 (no : Int)] 132) := ⟨_, rfl⟩
        have hb : Below w4.heap.size w4 w5 := by rw [hw2]; exact (Below.refl _ _).alloc (Nat.le_refl _) _
        have hf : Blk w5 w4.heap.size 132 #[.map (some b4), .map (some b9), .map (some b14), .int .i64 (no : Int)] := by rw [hw2]; exact Blk.new _ _ _ rfl
        rw [← hw2]
        clear hw2
        obtain ⟨g, hg⟩ : ∃ q, q = w4.heap.size := ⟨_, rfl⟩
        rw [← hg] at hf
        rw [← hg]
        have BW5 : Hid (Below W.heap.size W w5) := Lib.hid (BW4.out.trans (hb.mono BW4.out.size))
        have LOg : Hid (W.heap.size ≤ g) := Lib.hid (by rw [hg]; exact BW4.out.size)
        replace F0 := Lib.hid (F0.out.keep hb)
        replace F5 := Lib.hid (F5.out.keep hb)
        replace F10 := Lib.hid (F10.out.keep hb)
        replace F17 := Lib.hid (F17.out.keep hb)
        have F16 : Hid (Blk w5 g 132 #[.map (some b4), .map (some b9), .map (some b14), .int .i64 (no : Int)]) := Lib.hid hf
        clear hf hb hg
        refine hK.out _ _ (HS.out _ BW5.out) (fun hHeld => ?_)
        clear hK K BW4
        try simp only [Act.put, pz]
        have k0 : w5.cell? ⟨cc, 0, none⟩ = some (.pointer none) := (F17.out.cell 0).trans rfl
        have kf : w5.frozen? ⟨cc, 0, none⟩ = false := F17.out.frozen 0
        have CS : Chg (fun q => q = cc) w5 (w5.setCell ⟨cc, 0, none⟩ (.pointer (some ⟨g, 0, none⟩))) := Chg.setCell (S := fun q => q = cc) (p := ⟨cc, 0, none⟩) (Chg.refl _ _) (.inl rfl) _
        have hCP : CPS W (w5.setCell ⟨cc, 0, none⟩ (.pointer (some ⟨g, 0, none⟩))) n d b4 b9 b14 g cc := ⟨BW5.out.trans (CS.below (fun k hk e => by have := LOcc.out; omega) BW5.out.size), F0.out.chg CS (F0.out.ne_blk F17.out).symm, F5.out.chg CS (F5.out.ne_blk F17.out).symm, F10.out.chg CS (F10.out.ne_blk F17.out).symm, by rw [← HNO.out]; exact F16.out.chg CS (F16.out.ne_type F17.out (by decide)), F17.out.set_ 0 _, LOg.out, LOb4.out, LOb9.out, LOb14.out, (ne_of NE0_5.out (fun h e => by first | exact h e | exact h e.symm)), (ne_of NE0_10.out (fun h e => by first | exact h e | exact h e.symm)), (ne_of NE5_10.out (fun h e => by first | exact h e | exact h e.symm))⟩
        have CP := Lib.hid hCP
        refine wpAnyH_ready (rs := [18]) (by kernel_rfl) (by simp) (AllReadyH.cons rfl (fun K hK => ?_) AllReadyH.nil)
        clear hHeld
        go_simp
        refine hK.out _ _ (HS.out _ hCP.bel) (fun hHeld => ?_)
        clear hK K hCP
        try simp only [Act.put, pz]
        refine wpAnyH_done (by kernel_rfl) ?_ _
        obtain ⟨wL, hwL⟩ : ∃ wL, wL = w5.setCell ⟨cc, 0, none⟩ (.pointer (some ⟨g, 0, none⟩)) := ⟨_, rfl⟩
        rw [← hwL] at CP ⊢
        have CC := Lib.hid (HE.out _ _ _ _ _ _ CP.out)
        clear hHeld hwL k0 kf CS F0 F5 F10 F16 F17
        go_wp2_with fail
        refine CC.out.mono ?_
        rintro e wM ⟨rfl, kc, hq⟩
        have HF := Lib.hid hq
        clear hq CC
        go_wp2_with fail
        go_ret
        exact HF.out
      ·
        clear hHeld
        go_simp
        refine (HC14.out w2 BW2.out).mono ?_
        rintro e w3 ⟨rfl, hf, hb⟩
        obtain ⟨b14, hb14⟩ : ∃ q, q = w2.heap.size := ⟨_, rfl⟩
        rw [← hb14] at hf
        rw [← hb14]
        have BW3 : Hid (Below W.heap.size W w3) := Lib.hid (BW2.out.trans (hb.mono BW2.out.size))
        have LOb14 : Hid (W.heap.size ≤ b14) := Lib.hid (by rw [hb14]; exact BW2.out.size)
        have NE5_10 : Hid (b9 ≠ b14) := Lib.hid (fun e => by have := F5.out.lt; omega)
        replace F5 := Lib.hid (F5.out.keep hb)
        replace F17 := Lib.hid (F17.out.keep hb)
        have F10 : Hid (FM Tryz.prog 9 sL iD (plainElem Tryz.prog 3) w3 b14 n d.se) := Lib.hid hf
        clear hf hb hb14
        refine hK.out _ _ (HS.out _ BW3.out) (fun hHeld => ?_)
        clear hK K BW2
        try simp only [Act.put, pz]
        refine wpAnyH_ready (rs := [0]) (by kernel_rfl) (by simp) (AllReadyH.cons rfl (fun K hK => ?_) AllReadyH.nil)
        clear hHeld
        go_simp
        obtain ⟨w4, hw2⟩ : ∃ w', w' = w3.alloc (.map #[] 0) := ⟨_, rfl⟩
        have hb : Below w3.heap.size w3 w4 := by rw [hw2]; exact (Below.refl _ _).alloc (Nat.le_refl _) _
        have hf : FM Tryz.prog 3 iL pD ptrE w4 w3.heap.size 0 (fun _ => none) := by rw [hw2]; exact FM.made _ _ _ _ _ _
        rw [← hw2]
        clear hw2
        obtain ⟨b4, hb4⟩ : ∃ q, q = w3.heap.size := ⟨_, rfl⟩
        rw [← hb4] at hf
        rw [← hb4]
        have BW4 : Hid (Below W.heap.size W w4) := Lib.hid (BW3.out.trans (hb.mono BW3.out.size))
        have LOb4 : Hid (W.heap.size ≤ b4) := Lib.hid (by rw [hb4]; exact BW3.out.size)
        have NE0_5 : Hid (b9 ≠ b4) := Lib.hid (fun e => by have := F5.out.lt; omega)
        replace F5 := Lib.hid (F5.out.keep hb)
        have NE0_10 : Hid (b14 ≠ b4) := Lib.hid (fun e => by have := F10.out.lt; omega)
        replace F10 := Lib.hid (F10.out.keep hb)
        replace F17 := Lib.hid (F17.out.keep hb)
        have F0 : Hid (FM Tryz.prog 3 iL pD ptrE w4 b4 0 (fun _ => none)) := Lib.hid hf
        clear hf hb hb4
        refine hK.out _ _ (HS.out _ BW4.out) (fun hHeld => ?_)
        clear hK K BW3
        try simp only [Act.put, pz]
        refine tkh 15 (v := ?_) rfl ?_ ?_; rotate_left
        · intro w hSw; (try dsimp only at hSw); go_simp <;> with_reducible rfl
        try simp only [Act.put, pz]
        refine wpAnyH_ready (rs := [16]) (by kernel_rfl) (by simp) (AllReadyH.cons rfl (fun K hK => ?_) AllReadyH.nil)
        clear hHeld
        go_simp
        obtain ⟨w5, hw2⟩ : ∃ w', w' = w4.alloc (.cells #[.map (some b4), .map (some b9), .map (some b14), .int .i64 (no : Int)] 132) := ⟨_, rfl⟩
        have hb : Below w4.heap.size w4 w5 := by rw [hw2]; exact (Below.refl _ _).alloc (Nat.le_refl _) _
        have hf : Blk w5 w4.heap.size 132 #[.map (some b4), .map (some b9), .map (some b14), .int .i64 (no : Int)] := by rw [hw2]; exact Blk.new _ _ _ rfl
        rw [← hw2]
        clear hw2
        obtain ⟨g, hg⟩ : ∃ q, q = w4.heap.size := ⟨_, rfl⟩
        rw [← hg] at hf
        rw [← hg]
        have BW5 : Hid (Below W.heap.size W w5) := Lib.hid (BW4.out.trans (hb.mono BW4.out.size))
        have LOg : Hid (W.heap.size ≤ g) := Lib.hid (by rw [hg]; exact BW4.out.size)
        replace F0 := Lib.hid (F0.out.keep hb)
        replace F5 := Lib.hid (F5.out.keep hb)
        replace F10 := Lib.hid (F10.out.keep hb)
        replace F17 := Lib.hid (F17.out.keep hb)
        have F16 : Hid (Blk w5 g 132 #[.map (some b4), .map (some b9), .map (some b14), .int .i64 (no : Int)]) := Lib.hid hf
        clear hf hb hg
        refine hK.out _ _ (HS.out _ BW5.out) (fun hHeld => ?_)
        clear hK K BW4
        try simp only [Act.put, pz]
        have k0 : w5.cell? ⟨cc, 0, none⟩ = some (.pointer none) := (F17.out.cell 0).trans rfl
        have kf : w5.frozen? ⟨cc, 0, none⟩ = false := F17.out.frozen 0
        have CS : Chg (fun q => q = cc) w5 (w5.setCell ⟨cc, 0, none⟩ (.pointer (some ⟨g, 0, none⟩))) := Chg.setCell (S := fun q => q = cc) (p := ⟨cc, 0, none⟩) (Chg.refl _ _) (.inl rfl) _
        have hCP : CPS W (w5.setCell ⟨cc, 0, none⟩ (.pointer (some ⟨g, 0, none⟩))) n d b4 b9 b14 g cc := ⟨BW5.out.trans (CS.below (fun k hk e => by have := LOcc.out; omega) BW5.out.size), F0.out.chg CS (F0.out.ne_blk F17.out).symm, F5.out.chg CS (F5.out.ne_blk F17.out).symm, F10.out.chg CS (F10.out.ne_blk F17.out).symm, by rw [← HNO.out]; exact F16.out.chg CS (F16.out.ne_type F17.out (by decide)), F17.out.set_ 0 _, LOg.out, LOb4.out, LOb9.out, LOb14.out, (ne_of NE0_5.out (fun h e => by first | exact h e | exact h e.symm)), (ne_of NE0_10.out (fun h e => by first | exact h e | exact h e.symm)), (ne_of NE5_10.out (fun h e => by first | exact h e | exact h e.symm))⟩
        have CP := Lib.hid hCP
        refine wpAnyH_ready (rs := [18]) (by kernel_rfl) (by simp) (AllReadyH.cons rfl (fun K hK => ?_) AllReadyH.nil)
        clear hHeld
        go_simp
        refine hK.out _ _ (HS.out _ hCP.bel) (fun hHeld => ?_)
        clear hK K hCP
        try simp only [Act.put, pz]
        refine wpAnyH_done (by kernel_rfl) ?_ _
        obtain ⟨wL, hwL⟩ : ∃ wL, wL = w5.setCell ⟨cc, 0, none⟩ (.pointer (some ⟨g, 0, none⟩)) := ⟨_, rfl⟩
        rw [← hwL] at CP ⊢
        have CC := Lib.hid (HE.out _ _ _ _ _ _ CP.out)
        clear hHeld hwL k0 kf CS F0 F5 F10 F16 F17
        go_wp2_with fail
        refine CC.out.mono ?_
        rintro e wM ⟨rfl, kc, hq⟩
        have HF := Lib.hid hq
        clear hq CC
        go_wp2_with fail
        go_ret
        exact HF.out
  ·
    clear hHeld
    go_simp
    obtain ⟨w1, hw2⟩ : ∃ w', w' = w0.alloc (.cells #[.pointer none] 25) := ⟨_, rfl⟩
    have hb : Below w0.heap.size w0 w1 := by rw [hw2]; exact (Below.refl _ _).alloc (Nat.le_refl _) _
    have hf : Blk w1 w0.heap.size 25 #[.pointer none] := by rw [hw2]; exact Blk.new _ _ _ rfl
    rw [← hw2]
    clear hw2
    obtain ⟨cc, hcc⟩ : ∃ q, q = w0.heap.size := ⟨_, rfl⟩
    rw [← hcc] at hf
    rw [← hcc]
    have BW1 : Hid (Below W.heap.size W w1) := Lib.hid (BW0.out.trans (hb.mono BW0.out.size))
    have LOcc : Hid (W.heap.size ≤ cc) := Lib.hid (by rw [hcc]; exact BW0.out.size)
    have F17 : Hid (Blk w1 cc 25 #[.pointer none]) := Lib.hid hf
    clear hf hb hcc
    refine hK.out _ _ (HS.out _ BW1.out) (fun hHeld => ?_)
    clear hK K BW0
    try simp only [Act.put, pz]
    refine wpAnyH_ready (rs := [0, 5]) (by kernel_rfl) (by simp) (AllReadyH.cons rfl (fun K hK => ?_) (AllReadyH.cons rfl (fun K hK => ?_) AllReadyH.nil))
    ·
      clear hHeld
      go_simp
      obtain ⟨w2, hw2⟩ : ∃ w', w' = w1.alloc (.map #[] 0) := ⟨_, rfl⟩
      have hb : Below w1.heap.size w1 w2 := by rw [hw2]; exact (Below.refl _ _).alloc (Nat.le_refl _) _
      have hf : FM Tryz.prog 3 iL pD ptrE w2 w1.heap.size 0 (fun _ => none) := by rw [hw2]; exact FM.made _ _ _ _ _ _
      rw [← hw2]
      clear hw2
      obtain ⟨b4, hb4⟩ : ∃ q, q = w1.heap.size := ⟨_, rfl⟩
      rw [← hb4] at hf
      rw [← hb4]
      have BW2 : Hid (Below W.heap.size W w2) := Lib.hid (BW1.out.trans (hb.mono BW1.out.size))
      have LOb4 : Hid (W.heap.size ≤ b4) := Lib.hid (by rw [hb4]; exact BW1.out.size)
      replace F17 := Lib.hid (F17.out.keep hb)
      have F0 : Hid (FM Tryz.prog 3 iL pD ptrE w2 b4 0 (fun _ => none)) := Lib.hid hf
      clear hf hb hb4
      refine hK.out _ _ (HS.out _ BW2.out) (fun hHeld => ?_)
      clear hK K BW1
      try simp only [Act.put, pz]
      refine wpAnyH_ready (rs := [5]) (by kernel_rfl) (by simp) (AllReadyH.cons rfl (fun K hK => ?_) AllReadyH.nil)
      clear hHeld
      go_simp
      refine (HC9.out w2 BW2.out).mono ?_
      rintro e w3 ⟨rfl, hf, hb⟩
      obtain ⟨b9, hb9⟩ : ∃ q, q = w2.heap.size := ⟨_, rfl⟩
      rw [← hb9] at hf
      rw [← hb9]
      have BW3 : Hid (Below W.heap.size W w3) := Lib.hid (BW2.out.trans (hb.mono BW2.out.size))
      have LOb9 : Hid (W.heap.size ≤ b9) := Lib.hid (by rw [hb9]; exact BW2.out.size)
      have NE0_5 : Hid (b4 ≠ b9) := Lib.hid (fun e => by have := F0.out.lt; omega)
      replace F0 := Lib.hid (F0.out.keep hb)
      replace F17 := Lib.hid (F17.out.keep hb)
      have F5 : Hid (FM Tryz.prog 9 sL iD (plainElem Tryz.prog 3) w3 b9 n d.ns) := Lib.hid hf
      clear hf hb hb9
      refine hK.out _ _ (HS.out _ BW3.out) (fun hHeld => ?_)
      clear hK K BW2
      try simp only [Act.put, pz]
      refine wpAnyH_ready (rs := [10]) (by kernel_rfl) (by simp) (AllReadyH.cons rfl (fun K hK => ?_) AllReadyH.nil)
      clear hHeld
      go_simp
      refine (HC14.out w3 BW3.out).mono ?_
      rintro e w4 ⟨rfl, hf, hb⟩
      obtain ⟨b14, hb14⟩ : ∃ q, q = w3.heap.size := ⟨_, rfl⟩
      rw [← hb14] at hf
      rw [← hb14]
      have BW4 : Hid (Below W.heap.size W w4) := Lib.hid (BW3.out.trans (hb.mono BW3.out.size))
      have LOb14 : Hid (W.heap.size ≤ b14) := Lib.hid (by rw [hb14]; exact BW3.out.size)
      have NE0_10 : Hid (b4 ≠ b14) := Lib.hid (fun e => by have := F0.out.lt; omega)
      replace F0 := Lib.hid (F0.out.keep hb)
      have NE5_10 : Hid (b9 ≠ b14) := Lib.hid (fun e => by have := F5.out.lt; omega)
      replace F5 := Lib.hid (F5.out.keep hb)
      replace F17 := Lib.hid (F17.out.keep hb)
      have F10 : Hid (FM Tryz.prog 9 sL iD (plainElem Tryz.prog 3) w4 b14 n d.se) := Lib.hid hf
      clear hf hb hb14
      refine hK.out _ _ (HS.out _ BW4.out) (fun hHeld => ?_)
      clear hK K BW3
      try simp only [Act.put, pz]
      refine tkh 15 (v := ?_) rfl ?_ ?_; rotate_left
      · intro w hSw; (try dsimp only at hSw); go_simp <;> with_reducible rfl
      try simp only [Act.put, pz]
      refine wpAnyH_ready (rs := [16]) (by kernel_rfl) (by simp) (AllReadyH.cons rfl (fun K hK => ?_) AllReadyH.nil)
      clear hHeld
      go_simp
      obtain ⟨w5, hw2⟩ : ∃ w', w' = w4.alloc (.cells #[.map (some b4), .map (some b9), .map (some b14), .int .i64 (no : Int)] 132) := ⟨_, rfl⟩
      have hb : Below w4.heap.size w4 w5 := by rw [hw2]; exact (Below.refl _ _).alloc (Nat.le_refl _) _
      have hf : Blk w5 w4.heap.size 132 #[.map (some b4), .map (some b9), .map (some b14), .int .i64 (no : Int)] := by rw [hw2]; exact Blk.new _ _ _ rfl
      rw [← hw2]
      clear hw2
      obtain ⟨g, hg⟩ : ∃ q, q = w4.heap.size := ⟨_, rfl⟩
      rw [← hg] at hf
      rw [← hg]
      have BW5 : Hid (Below W.heap.size W w5) := Lib.hid (BW4.out.trans (hb.mono BW4.out.size))
      have LOg : Hid (W.heap.size ≤ g) := Lib.hid (by rw [hg]; exact BW4.out.size)
      replace F0 := Lib.hid (F0.out.keep hb)
      replace F5 := Lib.hid (F5.out.keep hb)
      replace F10 := Lib.hid (F10.out.keep hb)
      replace F17 := Lib.hid (F17.out.keep hb)
      have F16 : Hid (Blk w5 g 132 #[.map (some b4), .map (some b9), .map (some b14), .int .i64 (no : Int)]) := Lib.hid hf
      clear hf hb hg
      refine hK.out _ _ (HS.out _ BW5.out) (fun hHeld => ?_)
      clear hK K BW4
      try simp only [Act.put, pz]
      have k0 : w5.cell? ⟨cc, 0, none⟩ = some (.pointer none) := (F17.out.cell 0).trans rfl
      have kf : w5.frozen? ⟨cc, 0, none⟩ = false := F17.out.frozen 0
      have CS : Chg (fun q => q = cc) w5 (w5.setCell ⟨cc, 0, none⟩ (.pointer (some ⟨g, 0, none⟩))) := Chg.setCell (S := fun q => q = cc) (p := ⟨cc, 0, none⟩) (Chg.refl _ _) (.inl rfl) _
      have hCP : CPS W (w5.setCell ⟨cc, 0, none⟩ (.pointer (some ⟨g, 0, none⟩))) n d b4 b9 b14 g cc := ⟨BW5.out.trans (CS.below (fun k hk e => by have := LOcc.out; omega) BW5.out.size), F0.out.chg CS (F0.out.ne_blk F17.out).symm, F5.out.chg CS (F5.out.ne_blk F17.out).symm, F10.out.chg CS (F10.out.ne_blk F17.out).symm, by rw [← HNO.out]; exact F16.out.chg CS (F16.out.ne_type F17.out (by decide)), F17.out.set_ 0 _, LOg.out, LOb4.out, LOb9.out, LOb14.out, (ne_of NE0_5.out (fun h e => by first | exact h e | exact h e.symm)), (ne_of NE0_10.out (fun h e => by first | exact h e | exact h e.symm)), (ne_of NE5_10.out (fun h e => by first | exact h e | exact h e.symm))⟩
      have CP := Lib.hid hCP
      refine wpAnyH_ready (rs := [18]) (by kernel_rfl) (by simp) (AllReadyH.cons rfl (fun K hK => ?_) AllReadyH.nil)
      clear hHeld
      go_simp
      refine hK.out _ _ (HS.out _ hCP.bel) (fun hHeld => ?_)
      clear hK K hCP
      try simp only [Act.put, pz]
      refine wpAnyH_done (by kernel_rfl) ?_ _
      obtain ⟨wL, hwL⟩ : ∃ wL, wL = w5.setCell ⟨cc, 0, none⟩ (.pointer (some ⟨g, 0, none⟩)) := ⟨_, rfl⟩
      rw [← hwL] at CP ⊢
      have CC := Lib.hid (HE.out _ _ _ _ _ _ CP.out)
      clear hHeld hwL k0 kf CS F0 F5 F10 F16 F17
      go_wp2_with fail
      refine CC.out.mono ?_
      rintro e wM ⟨rfl, kc, hq⟩
      have HF := Lib.hid hq
      clear hq CC
      go_wp2_with fail
      go_ret
      exact HF.out
    ·
      clear hHeld
      go_simp
      refine (HC9.out w1 BW1.out).mono ?_
      rintro e w2 ⟨rfl, hf, hb⟩
      obtain ⟨b9, hb9⟩ : ∃ q, q = w1.heap.size := ⟨_, rfl⟩
      rw [← hb9] at hf
      rw [← hb9]
      have BW2 : Hid (Below W.heap.size W w2) := Lib.hid (BW1.out.trans (hb.mono BW1.out.size))
      have LOb9 : Hid (W.heap.size ≤ b9) := Lib.hid (by rw [hb9]; exact BW1.out.size)
      replace F17 := Lib.hid (F17.out.keep hb)
      have F5 : Hid (FM Tryz.prog 9 sL iD (plainElem Tryz.prog 3) w2 b9 n d.ns) := Lib.hid hf
      clear hf hb hb9
      refine hK.out _ _ (HS.out _ BW2.out) (fun hHeld => ?_)
      clear hK K BW1
      try simp only [Act.put, pz]
      refine wpAnyH_ready (rs := [0, 10]) (by kernel_rfl) (by simp) (AllReadyH.cons rfl (fun K hK => ?_) (AllReadyH.cons rfl (fun K hK => ?_) AllReadyH.nil))
      ·
        clear hHeld
        go_simp
        obtain ⟨w3, hw2⟩ : ∃ w', w' = w2.alloc (.map #[] 0) := ⟨_, rfl⟩
        have hb : Below w2.heap.size w2 w3 := by rw [hw2]; exact (Below.refl _ _).alloc (Nat.le_refl _) _
        have hf : FM Tryz.prog 3 iL pD ptrE w3 w2.heap.size 0 (fun _ => none) := by rw [hw2]; exact FM.made _ _ _ _ _ _
        rw [← hw2]
        clear hw2
        obtain ⟨b4, hb4⟩ : ∃ q, q = w2.heap.size := ⟨_, rfl⟩
        rw [← hb4] at hf
        rw [← hb4]
        have BW3 : Hid (Below W.heap.size W w3) := Lib.hid (BW2.out.trans (hb.mono BW2.out.size))
        have LOb4 : Hid (W.heap.size ≤ b4) := Lib.hid (by rw [hb4]; exact BW2.out.size)
        have NE0_5 : Hid (b9 ≠ b4) := Lib.hid (fun e => by have := F5.out.lt; omega)
        replace F5 := Lib.hid (F5.out.keep hb)
        replace F17 := Lib.hid (F17.out.keep hb)
        have F0 : Hid (FM Tryz.prog 3 iL pD ptrE w3 b4 0 (fun _ => none)) := Lib.hid hf
        clear hf hb hb4
        refine hK.out _ _ (HS.out _ BW3.out) (fun hHeld => ?_)
        clear hK K BW2
        try simp only [Act.put, pz]
        refine wpAnyH_ready (rs := [10]) (by kernel_rfl) (by simp) (AllReadyH.cons rfl (fun K hK => ?_) AllReadyH.nil)
        clear hHeld
        go_simp
        refine (HC14.out w3 BW3.out).mono ?_
        rintro e w4 ⟨rfl, hf, hb⟩
        obtain ⟨b14, hb14⟩ : ∃ q, q = w3.heap.size := ⟨_, rfl⟩
        rw [← hb14] at hf
        rw [← hb14]
        have BW4 : Hid (Below W.heap.size W w4) := Lib.hid (BW3.out.trans (hb.mono BW3.out.size))
        have LOb14 : Hid (W.heap.size ≤ b14) := Lib.hid (by rw [hb14]; exact BW3.out.size)
        have NE0_10 : Hid (b4 ≠ b14) := Lib.hid (fun e => by have := F0.out.lt; omega)
        replace F0 := Lib.hid (F0.out.keep hb)
        have NE5_10 : Hid (b9 ≠ b14) := Lib.hid (fun e => by have := F5.out.lt; omega)
        replace F5 := Lib.hid (F5.out.keep hb)
        replace F17 := Lib.hid (F17.out.keep hb)
        have F10 : Hid (FM Tryz.prog 9 sL iD (plainElem Tryz.prog 3) w4 b14 n d.se) := Lib.hid hf
        clear hf hb hb14
        refine hK.out _ _ (HS.out _ BW4.out) (fun hHeld => ?_)
        clear hK K BW3
        try simp only [Act.put, pz]
        refine tkh 15 (v := ?_) rfl ?_ ?_; rotate_left
        · intro w hSw; (try dsimp only at hSw); go_simp <;> with_reducible rfl
        try simp only [Act.put, pz]
        refine wpAnyH_ready (rs := [16]) (by kernel_rfl) (by simp) (AllReadyH.cons rfl (fun K hK => ?_) AllReadyH.nil)
        clear hHeld
        go_simp
        obtain ⟨w5, hw2⟩ : ∃ w', w' = w4.alloc (.cells #[.map (some b4), .map (some b9), .map (some b14), .int .i64 (no : Int)] 132) := ⟨_, rfl⟩
        have hb : Below w4.heap.size w4 w5 := by rw [hw2]; exact (Below.refl _ _).alloc (Nat.le_refl _) _
        have hf : Blk w5 w4.heap.size 132 #[.map (some b4), .map (some b9), .map (some b14), .int .i64 (no : Int)] := by rw [hw2]; exact Blk.new _ _ _ rfl
        rw [← hw2]
        clear hw2
        obtain ⟨g, hg⟩ : ∃ q, q = w4.heap.size := ⟨_, rfl⟩
        rw [← hg] at hf
        rw [← hg]
        have BW5 : Hid (Below W.heap.size W w5) := Lib.hid (BW4.out.trans (hb.mono BW4.out.size))
        have LOg : Hid (W.heap.size ≤ g) := Lib.hid (by rw [hg]; exact BW4.out.size)
        replace F0 := Lib.hid (F0.out.keep hb)
        replace F5 := Lib.hid (F5.out.keep hb)
        replace F10 := Lib.hid (F10.out.keep hb)
        replace F17 := Lib.hid (F17.out.keep hb)
        have F16 : Hid (Blk w5 g 132 #[.map (some b4), .map (some b9), .map (some b14), .int .i64 (no : Int)]) := Lib.hid hf
        clear hf hb hg
        refine hK.out _ _ (HS.out _ BW5.out) (fun hHeld => ?_)
        clear hK K BW4
        try simp only [Act.put, pz]
        have k0 : w5.cell? ⟨cc, 0, none⟩ = some (.pointer none) := (F17.out.cell 0).trans rfl
        have kf : w5.frozen? ⟨cc, 0, none⟩ = false := F17.out.frozen 0
        have CS : Chg (fun q => q = cc) w5 (w5.setCell ⟨cc, 0, none⟩ (.pointer (some ⟨g, 0, none⟩))) := Chg.setCell (S := fun q => q = cc) (p := ⟨cc, 0, none⟩) (Chg.refl _ _) (.inl rfl) _
        have hCP : CPS W (w5.setCell ⟨cc, 0, none⟩ (.pointer (some ⟨g, 0, none⟩))) n d b4 b9 b14 g cc := ⟨BW5.out.trans (CS.below (fun k hk e => by have := LOcc.out; omega) BW5.out.size), F0.out.chg CS (F0.out.ne_blk F17.out).symm, F5.out.chg CS (F5.out.ne_blk F17.out).symm, F10.out.chg CS (F10.out.ne_blk F17.out).symm, by rw [← HNO.out]; exact F16.out.chg CS (F16.out.ne_type F17.out (by decide)), F17.out.set_ 0 _, LOg.out, LOb4.out, LOb9.out, LOb14.out, (ne_of NE0_5.out (fun h e => by first | exact h e | exact h e.symm)), (ne_of NE0_10.out (fun h e => by first | exact h e | exact h e.symm)), (ne_of NE5_10.out (fun h e => by first | exact h e | exact h e.symm))⟩
        have CP := Lib.hid hCP
        refine wpAnyH_ready (rs := [18]) (by kernel_rfl) (by simp) (AllReadyH.cons rfl (fun K hK => ?_) AllReadyH.nil)
        clear hHeld
        go_simp
        refine hK.out _ _ (HS.out _ hCP.bel) (fun hHeld => ?_)
        clear hK K hCP
        try simp only [Act.put, pz]
        refine wpAnyH_done (by kernel_rfl) ?_ _
        obtain ⟨wL, hwL⟩ : ∃ wL, wL = w5.setCell ⟨cc, 0, none⟩ (.pointer (some ⟨g, 0, none⟩)) := ⟨_, rfl⟩
        rw [← hwL] at CP ⊢
        have CC := Lib.hid (HE.out _ _ _ _ _ _ CP.out)
        clear hHeld hwL k0 kf CS F0 F5 F10 F16 F17
        go_wp2_with fail
        refine CC.out.mono ?_
        rintro e wM ⟨rfl, kc, hq⟩
        have HF := Lib.hid hq
        clear hq CC
        go_wp2_with fail
        go_ret
        exact HF.out
      ·
        clear hHeld
        go_simp
        refine (HC14.out w2 BW2.out).mono ?_
        rintro e w3 ⟨rfl, hf, hb⟩
        obtain ⟨b14, hb14⟩ : ∃ q, q = w2.heap.size := ⟨_, rfl⟩
        rw [← hb14] at hf
        rw [← hb14]
        have BW3 : Hid (Below W.heap.size W w3) := Lib.hid (BW2.out.trans (hb.mono BW2.out.size))
        have LOb14 : Hid (W.heap.size ≤ b14) := Lib.hid (by rw [hb14]; exact BW2.out.size)
        have NE5_10 : Hid (b9 ≠ b14) := Lib.hid (fun e => by have := F5.out.lt; omega)
        replace F5 := Lib.hid (F5.out.keep hb)
        replace F17 := Lib.hid (F17.out.keep hb)
        have F10 : Hid (FM Tryz.prog 9 sL iD (plainElem Tryz.prog 3) w3 b14 n d.se) := Lib.hid hf
        clear hf hb hb14
        refine hK.out _ _ (HS.out _ BW3.out) (fun hHeld => ?_)
        clear hK K BW2
        try simp only [Act.put, pz]
        refine wpAnyH_ready (rs := [0]) (by kernel_rfl) (by simp) (AllReadyH.cons rfl (fun K hK => ?_) AllReadyH.nil)
        clear hHeld
        go_simp
        obtain ⟨w4, hw2⟩ : ∃ w', w' = w3.alloc (.map #[] 0) := ⟨_, rfl⟩
        have hb : Below w3.heap.size w3 w4 := by rw [hw2]; exact (Below.refl _ _).alloc (Nat.le_refl _) _
        have hf : FM Tryz.prog 3 iL pD ptrE w4 w3.heap.size 0 (fun _ => none) := by rw [hw2]; exact FM.made _ _ _ _ _ _
        rw [← hw2]
        clear hw2
        obtain ⟨b4, hb4⟩ : ∃ q, q = w3.heap.size := ⟨_, rfl⟩
        rw [← hb4] at hf
        rw [← hb4]
        have BW4 : Hid (Below W.heap.size W w4) := Lib.hid (BW3.out.trans (hb.mono BW3.out.size))
        have LOb4 : Hid (W.heap.size ≤ b4) := Lib.hid (by rw [hb4]; exact BW3.out.size)
        have NE0_5 : Hid (b9 ≠ b4) := Lib.hid (fun e => by have := F5.out.lt; omega)
        replace F5 := Lib.hid (F5.out.keep hb)
        have NE0_10 : Hid (b14 ≠ b4) := Lib.hid (fun e => by have := F10.out.lt; omega)
        replace F10 := Lib.hid (F10.out.keep hb)
        replace F17 := Lib.hid (F17.out.keep hb)
        have F0 : Hid (FM Tryz.prog 3 iL pD ptrE w4 b4 0 (fun _ => none)) := Lib.hid hf
        clear hf hb hb4
        refine hK.out _ _ (HS.out _ BW4.out) (fun hHeld => ?_)
        clear hK K BW3
        try simp only [Act.put, pz]
        refine tkh 15 (v := ?_) rfl ?_ ?_; rotate_left
        · intro w hSw; (try dsimp only at hSw); go_simp <;> with_reducible rfl
        try simp only [Act.put, pz]
        refine wpAnyH_ready (rs := [16]) (by kernel_rfl) (by simp) (AllReadyH.cons rfl (fun K hK => ?_) AllReadyH.nil)
        clear hHeld
        go_simp
        obtain ⟨w5, hw2⟩ : ∃ w', w' = w4.alloc (.cells #[.map (some b4), .map (some b9), .map (some b14), .int .i64 (no : Int)] 132) := ⟨_, rfl⟩
        have hb : Below w4.heap.size w4 w5 := by rw [hw2]; exact (Below.refl _ _).alloc (Nat.le_refl _) _
        have hf : Blk w5 w4.heap.size 132 #[.map (some b4), .map (some b9), .map (some b14), .int .i64 (no : Int)] := by rw [hw2]; exact Blk.new _ _ _ rfl
        rw [← hw2]
        clear hw2
        obtain ⟨g, hg⟩ : ∃ q, q = w4.heap.size := ⟨_, rfl⟩
        rw [← hg] at hf
        rw [← hg]
        have BW5 : Hid (Below W.heap.size W w5) := Lib.hid (BW4.out.trans (hb.mono BW4.out.size))
        have LOg : Hid (W.heap.size ≤ g) := Lib.hid (by rw [hg]; exact BW4.out.size)
        replace F0 := Lib.hid (F0.out.keep hb)
        replace F5 := Lib.hid (F5.out.keep hb)
        replace F10 := Lib.hid (F10.out.keep hb)
        replace F17 := Lib.hid (F17.out.keep hb)
        have F16 : Hid (Blk w5 g 132 #[.map (some b4), .map (some b9), .map (some b14), .int .i64 (no : Int)]) := Lib.hid hf
        clear hf hb hg
        refine hK.out _ _ (HS.out _ BW5.out) (fun hHeld => ?_)
        clear hK K BW4
        try simp only [Act.put, pz]
        have k0 : w5.cell? ⟨cc, 0, none⟩ = some (.pointer none) := (F17.out.cell 0).trans rfl
        have kf : w5.frozen? ⟨cc, 0, none⟩ = false := F17.out.frozen 0
        have CS : Chg (fun q => q = cc) w5 (w5.setCell ⟨cc, 0, none⟩ (.pointer (some ⟨g, 0, none⟩))) := Chg.setCell (S := fun q => q = cc) (p := ⟨cc, 0, none⟩) (Chg.refl _ _) (.inl rfl) _
        have hCP : CPS W (w5.setCell ⟨cc, 0, none⟩ (.pointer (some ⟨g, 0, none⟩))) n d b4 b9 b14 g cc := ⟨BW5.out.trans (CS.below (fun k hk e => by have := LOcc.out; omega) BW5.out.size), F0.out.chg CS (F0.out.ne_blk F17.out).symm, F5.out.chg CS (F5.out.ne_blk F17.out).symm, F10.out.chg CS (F10.out.ne_blk F17.out).symm, by rw [← HNO.out]; exact F16.out.chg CS (F16.out.ne_type F17.out (by decide)), F17.out.set_ 0 _, LOg.out, LOb4.out, LOb9.out, LOb14.out, (ne_of NE0_5.out (fun h e => by first | exact h e | exact h e.symm)), (ne_of NE0_10.out (fun h e => by first | exact h e | exact h e.symm)), (ne_of NE5_10.out (fun h e => by first | exact h e | exact h e.symm))⟩
        have CP := Lib.hid hCP
        refine wpAnyH_ready (rs := [18]) (by kernel_rfl) (by simp) (AllReadyH.cons rfl (fun K hK => ?_) AllReadyH.nil)
        clear hHeld
        go_simp
        refine hK.out _ _ (HS.out _ hCP.bel) (fun hHeld => ?_)
        clear hK K hCP
        try simp only [Act.put, pz]
        refine wpAnyH_done (by kernel_rfl) ?_ _
        obtain ⟨wL, hwL⟩ : ∃ wL, wL = w5.setCell ⟨cc, 0, none⟩ (.pointer (some ⟨g, 0, none⟩)) := ⟨_, rfl⟩
        rw [← hwL] at CP ⊢
        have CC := Lib.hid (HE.out _ _ _ _ _ _ CP.out)
        clear hHeld hwL k0 kf CS F0 F5 F10 F16 F17
        go_wp2_with fail
        refine CC.out.mono ?_
        rintro e wM ⟨rfl, kc, hq⟩
        have HF := Lib.hid hq
        clear hq CC
        go_wp2_with fail
        go_ret
        exact HF.out
end Go.Proofs.YtlojmmcagglpoaaGreat
