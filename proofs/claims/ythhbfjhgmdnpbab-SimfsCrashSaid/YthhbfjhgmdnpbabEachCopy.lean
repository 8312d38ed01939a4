/- THE WALK of the disk's each with Copy's closure. -/
import Derived.Test.YthhbfjhgmdnpbabCopyOne
import Derived.Test.YthhbfjhgmdnpbabKeys
namespace Go.Proofs.Ythhbfjhgmdnpbab
open Go.RowKit Go.Maps
/-- the first j files are copied -/
noncomputable def partD (d : Dk) (ss : List Int) (j : Nat) : Dk := { d with fs := fun i => if i ∈ ss.take j then d.fs i else none }
theorem Dk.Ok.keyInt {d : Dk} {n : Nat} (h : d.Ok n) {i : Int} {x : Fl} (hx : d.fs i = some x) : Go.Proofs.Ythhbfjhgmdnpbab.okInt i := h.okInt _ i (h.back i x hx)
structure EC (w1 wr : World) (N : Nat) (C : Nat → Nat) (c p n N2 : Nat) (d : Dk) (ss : List Int) (cc pc bf bn bs j : Nat) (fl : Int → Option Nat) : Prop where
  dc : DC wr N C c p n d
  fm : FM Try.prog 3 iL pD ptrE wr bf j fl
  dw : DW wr N2 pc n (partD d ss j) bf bn bs fl
  cc_ : Blk wr cc 25 #[.pointer (some ⟨pc, 0, none⟩)]
  chg : Chg (fun b => b = bf) w1 wr
section
variable {w1 wr w' : World} {N : Nat} {C : Nat → Nat} {c p n N2 : Nat} {d : Dk} {ss : List Int} {cc pc bf bn bs j : Nat} {fl : Int → Option Nat}
theorem notin {i : Int} (hs : ss.Pairwise (· < ·)) (hi : ss[j]? = some i) : i ∉ ss.take j := fun hmem => by
  obtain ⟨q, hq⟩ := List.getElem?_of_mem hmem
  have hql : q < j := by
    have := (List.getElem?_eq_some_iff.1 hq).1
    rw [List.length_take] at this; omega
  rw [List.getElem?_take_of_lt hql] at hq
  obtain ⟨h1, h2⟩ := List.getElem?_eq_some_iff.1 hq
  obtain ⟨h3, h4⟩ := List.getElem?_eq_some_iff.1 hi
  have := List.pairwise_iff_getElem.1 hs q j h1 h3 hql
  omega
theorem EC.step (h : EC w1 wr N C c p n N2 d ss cc pc bf bn bs j fl) (hs : ss.Pairwise (· < ·)) (hl : ss.length ≤ n) (hbc : C bf ≠ c) {i : Int} (hi : ss[j]? = some i) {x : Fl} (hx : d.fs i = some x) {e : Ending} (hq : CpQ wr bf j fl i x e w') :
    e = .returned (.tuple #[]) ∧ ∃ fl', EC w1 w' N C c p n N2 d ss cc pc bf bn bs (j + 1) fl' := by
  obtain ⟨he, g2, hg2, hf, hm, hc⟩ := hq
  have hni := notin hs hi
  have hjl : j < ss.length := (List.getElem?_eq_some_iff.1 hi).1
  have hfl : fl i = none := by
    have h1 := h.dw.hf i
    have h2 : (partD d ss j).fs i = none := if_neg hni
    rw [h2] at h1
    exact Option.isNone_iff_eq_none.1 (by simpa using h1)
  have hN : N2 ≤ wr.heap.size := Nat.le_trans h.dw.lo.1 (Nat.le_of_lt h.dw.bd.lt)
  have hlo := h.dw.lo
  have hpb : pc ≠ bf := h.dw.mf.ne_blk h.dw.bd
  obtain ⟨v, hb, ho⟩ := hf
  refine ⟨he, putM fl i g2, h.dc.step hc (Sam.refl _ _) (fun b hb => by rw [hb]; exact hbc), hm, ?_, h.cc_.chg hc (h.dw.mf.ne_blk h.cc_), h.chg.trans hc (fun _ _ e => e)⟩
  refine h.dw.more hfl hg2 (y := x) (d' := partD d ss (j + 1)) (hc.mono (fun _ _ e => .inr (.inl e))) ⟨v, hb, ho.less hN⟩ (fun k hk => ?_) (fun q => ?_) ?_ ?_ ?_ ?_
  · obtain ⟨u, h1, h2⟩ := hk
    rw [hb.cell 1] at h1
    have : v = u := Option.some.inj h1
    subst this
    exact (ho.lt k h2).1
  · show (if q ∈ ss.take (j + 1) then d.fs q else none) = if q = i then some x else if q ∈ ss.take j then d.fs q else none
    rw [List.take_add_one, hi]
    by_cases e : q = i
    · rw [if_pos e, e, if_pos (by simp), hx]
    · rw [if_neg e]
      by_cases e2 : q ∈ ss.take j
      · rw [if_pos e2, if_pos (List.mem_append_left _ e2)]
      · rw [if_neg e2, if_neg (by simp [e2, e])]
  · exact h.dw.bd.chg hc hpb
  · exact hm.mono (by omega)
  · exact h.dw.mn.chg hc (fun e => hlo.2.2.2.2.1 e.symm)
  · exact h.dw.ms.chg hc (fun e => hlo.2.2.2.2.2.1 e.symm)
theorem partD_zero (d : Dk) (ss : List Int) : partD d ss 0 = { d with fs := fun _ => none } := by
  unfold partD; simp
theorem partD_all (h : ∀ i, i ∈ ss ↔ (d.fs i).isSome = true) : partD d ss ss.length = d := by
  unfold partD
  rw [List.take_length]
  have : (fun i => if i ∈ ss then d.fs i else none) = d.fs := funext fun i => by
    by_cases e : i ∈ ss
    · rw [if_pos e]
    · rw [if_neg e]
      cases hq : d.fs i with
      | none => rfl
      | some x => exact absurd ((h i).2 (by rw [hq]; rfl)) e
  rw [this]
end
def EachCQ (W : World) (N : Nat) (C : Nat → Nat) (c p n N2 : Nat) (d : Dk) (cc pc bf bn bs : Nat) (e : Ending) (w' : World) : Prop :=
  e = .returned (.tuple #[]) ∧ DC w' N (paint C W.heap.size (c + 1)) c p n d ∧ Blk w' cc 25 #[.pointer (some ⟨pc, 0, none⟩)] ∧ (∃ fl, DW w' N2 pc n d bf bn bs fl) ∧ Chg (fun b => b = bf) W w'
set_option maxRecDepth 20000 in
set_option maxHeartbeats 1000000 in
theorem each_copy {W : World} {N : Nat} {C : Nat → Nat} {c p n N2 : Nat} {d : Dk} (h : DC W N C c p n d) {cc pc bf bn bs : Nat} (hcc : Blk W cc 25 #[.pointer (some ⟨pc, 0, none⟩)]) (hw0 : DW W N2 pc n { d with fs := fun _ => none } bf bn bs (fun _ => none)) (hf0 : FM Try.prog 3 iL pD ptrE W bf 0 (fun _ => none)) (hbc : C bf ≠ c) :
    Calls Try.prog 25 #[.pointer (some ⟨p, 0, none⟩), .func (.func 26) #[] #[.pointer (some ⟨cc, 0, none⟩)]] W (EachCQ W N C c p n N2 d cc pc bf bn bs) := by
  have H := Lib.hid h
  obtain ⟨bf0, bn0, bs0, fl0, hw, ho⟩ := h.dw
  have c0 : W.cell? ⟨p, 0, none⟩ = some (.map (some bf0)) := (hw.bd.cell 0).trans rfl
  have KC := Lib.hid (keys_any W (some bf0))
  have SC := Lib.hid (sorted_any hw.mf (by have := h.ok.big; omega))
  have HF : Hid (∀ i, (fl0 i).isSome = (d.fs i).isSome) := Lib.hid hw.hf
  have HCC := Lib.hid hcc; have HW0 := Lib.hid hw0; have HF0 := Lib.hid hf0; have HBC := Lib.hid hbc
  clear h hw ho hcc hw0 hf0 hbc
  go_enter Try.func25, Try.ntmps25
  go_wp2_with fail
  refine KC.out.mono ?_
  rintro e w0 ⟨rfl, rfl⟩
  go_wp2_with fail
  refine SC.out.mono ?_
  rintro e w1 ⟨v, ss, rfl, hpw, hmem, hlen, hrow, hb⟩
  obtain ⟨A1, cap1, rfl, _⟩ := own_form hrow
  obtain ⟨C1, hC1⟩ : ∃ C1, C1 = paint C W.heap.size (c + 1) := ⟨_, rfl⟩
  have hs1 : Sam W.heap.size C C1 := by rw [hC1]; exact sam_paint _ _ _
  have D1 := Lib.hid (H.out.keep hb hs1)
  have HSS : Hid (ss.Pairwise (· < ·) ∧ (∀ i, i ∈ ss ↔ (d.fs i).isSome = true) ∧ ss.length ≤ n) := Lib.hid ⟨hpw, fun i => by rw [← HF.out i]; exact hmem i, hlen⟩
  have E0 : Hid (EC w1 w1 N C1 c p n N2 d ss cc pc bf bn bs 0 (fun _ => none)) := Lib.hid ⟨D1.out, HF0.out.keep hb, by rw [partD_zero]; exact HW0.out.keep hb, HCC.out.keep hb, Chg.refl _ _⟩
  have ROW := Lib.hid hrow
  have B1 := Lib.hid hb
  have HBF : Hid (C1 bf ≠ c ∧ bf < W.heap.size) := Lib.hid ⟨by rw [hs1 bf HF0.out.lt]; exact HBC.out, HF0.out.lt⟩
  have HS1 : Hid (C1 = paint C W.heap.size (c + 1)) := Lib.hid hC1
  obtain ⟨L, hL⟩ : ∃ L, L = ss.length := ⟨_, rfl⟩
  rw [← hL]
  have HL := Lib.hid hL
  clear hpw hmem hlen hrow hb hC1 hs1 KC SC HF c0 hL D1 HW0 HF0 HCC HBC
  go_wp2_with fail
  go_loopw [13] (fun s13 wr => ∃ j : Nat, j ≤ L ∧ s13 = .int .i64 (j : Int) ∧ ∃ fl, Hid (EC w1 wr N C1 c p n N2 d ss cc pc bf bn bs j fl)) (fun s13 _ => L - (intOf s13).toNat)
  case atStart => exact ⟨0, Nat.zero_le _, rfl, _, E0⟩
  case round =>
    obtain ⟨j, hj, rfl, fl, E1⟩ := hrel
    clear E0
    by_cases hlt : j < L
    · obtain ⟨i, hi⟩ : ∃ i, ss[j]? = some i := ⟨_, List.getElem?_eq_getElem (by rw [← HL.out]; exact hlt)⟩
      obtain ⟨x, hx⟩ := Option.isSome_iff_exists.1 ((HSS.out.2.1 i).1 (List.mem_of_getElem? hi))
      have hok := H.out.ok.keyInt hx
      obtain ⟨bf', bn', bs', fl', hw, _⟩ := E1.out.dc.dw
      obtain ⟨g, hg⟩ : ∃ g, fl' i = some g := by
        have := hw.hf i
        rw [hx] at this
        exact Option.isSome_iff_exists.1 this
      have hrow := E1.out.chg.own ROW.out (fun k hk e => by
        have h1 := (ROW.out.lt k hk).1
        have := HBF.out.2
        omega)
      obtain ⟨b1, hA1, hc1⟩ : ∃ b1, A1 = some ⟨b1, 0, none⟩ ∧ wr.cell? ⟨b1, j, none⟩ = some (.int .i64 i) := by
        rcases hrow.2 with ⟨hv, hz⟩ | ⟨gb, cap', cur, hv, _, _⟩
        · have := HL.out; omega
        · injection hv with e1 _ _
          subst e1
          refine ⟨gb, rfl, ?_⟩
          have h1 := World.ownsRow.cellAt hrow j (by have := HL.out; omega)
          rw [h1, List.getElem?_map, hi]; rfl
      subst hA1
      have hL2 : L ≤ 1000000 := by have := HL.out; have := HSS.out.2.2; have := H.out.ok.big; omega
      have hki : (j : Int) < (L : Int) := by omega
      have hki0 : (0 : Int) ≤ (j : Int) := by omega
      have c0 : wr.cell? ⟨p, 0, none⟩ = some (.map (some bf')) := (hw.bd.cell 0).trans rfl
      have l0 := hw.mf.look mrFiles intK Try.underlying53 (zero_fptr wr) hok
      rw [hg] at l0
      unfold lookV iV' pV at l0
      have CO := Lib.hid (copy_one (hw.fw i g x hg hx).2 (H.out.ok.len i x hx) E1.out.cc_ E1.out.dw.bd rfl E1.out.fm (by have := HSS.out.2.2; have := HL.out; have := H.out.ok.big; omega) i hok)
      have HST := Lib.hid (fun e w' hq => E1.out.step (e := e) (w' := w') HSS.out.1 HSS.out.2.2 HBF.out.1 hi hx hq)
      clear hx hw hg hrow hi
      go_wp2_with fail
      refine CO.out.mono ?_
      intro e w2 hq
      obtain ⟨he, fl2, hE⟩ := HST.out e w2 hq
      have E2 := Lib.hid hE
      subst he
      clear hq hE CO HST l0 c0
      go_wp2_with fail
      go_roundw
      case rel => exact ⟨j + 1, by omega, by go_num, _, E2⟩
      case measure => simp [intOf]; omega
    · obtain rfl : j = L := by omega
      go_wp2_with fail
      go_end0
      refine ⟨rfl, by rw [← HS1.out]; exact E1.out.dc, E1.out.cc_, ⟨fl, ?_⟩, (Chg.of_below B1.out _).trans E1.out.chg (fun _ _ e => e)⟩
      have := E1.out.dw
      rw [HL.out, partD_all HSS.out.2.1] at this
      exact this
end Go.Proofs.Ythhbfjhgmdnpbab
