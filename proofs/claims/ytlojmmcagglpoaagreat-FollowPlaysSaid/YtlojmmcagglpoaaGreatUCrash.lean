/- THE WALKS of the disk's each (with a crash's closure) and of Crash. -/
import Derived.Test.YtlojmmcagglpoaaGreatUCrashOne
import Derived.Test.YtlojmmcagglpoaaGreatUKeys
namespace Go.Proofs.YtlojmmcagglpoaaGreat
open Go.RowKit Go.Maps
noncomputable def crashS (keep : List Int) (s : Dk × Nat) (i : Int) : Dk × Nat := match s.1.fs i with
  | none => s
  | some x => (s.1.edit i (crashF keep s.2 x), crashK s.2 x)
noncomputable def crashD (keep : List Int) (ss : List Int) (d : Dk) (j : Nat) : Dk × Nat := (ss.take j).foldl (crashS keep) (d, 0)
theorem crashD_succ {keep ss : List Int} {d : Dk} {j : Nat} {i : Int} (h : ss[j]? = some i) : crashD keep ss d (j + 1) = crashS keep (crashD keep ss d j) i := by
  unfold crashD
  rw [List.take_add_one, h, Option.toList, List.foldl_append]; rfl
theorem crashF_nm (keep : List Int) (k : Nat) (x : Fl) : (crashF keep k x).nm = x.nm := by
  unfold crashF
  split
  · rfl
  · unfold crash1 Fl.kept; simp only; split <;> rfl
theorem crashF_by (keep : List Int) (k : Nat) (x : Fl) : (crashF keep k x).by_.length ≤ x.by_.length := by
  unfold crashF
  split
  · exact Nat.le_refl _
  · unfold crash1 Fl.kept; simp only; split
    · simp; omega
    · exact Nat.le_refl _
theorem crashF_la (keep : List Int) (k : Nat) (x : Fl) : (crashF keep k x).la = (crashF keep k x).by_.length := by
  unfold crashF
  split
  · assumption
  · rfl
theorem crashF_ge (keep : List Int) (k : Nat) (x : Fl) : (crashF keep k x).ge ≤ x.ge + 1 := by
  unfold crashF
  split
  · exact Nat.le_succ _
  · unfold crash1 Fl.kept; simp only; split
    · exact Nat.le_refl _
    · exact Nat.le_succ _
theorem crashK_le (k : Nat) (x : Fl) : crashK k x ≤ k + 1 := by
  unfold crashK; split <;> omega
def putB (w : World) (b : Nat) (o : Obj) : World := { w with heap := w.heap.setIfInBounds b o }
theorem chg_split {S : Nat → Prop} {W w' : World} {k : Nat} (hc : Chg (fun b => S b ∨ b = k) W w') (hk : k < W.heap.size) : ∃ Wm, Chg S W Wm ∧ Chg (fun b => b = k) Wm w' ∧ Chg (fun b => b = k) w' Wm := by
  obtain ⟨o, ho⟩ : ∃ o, W.heap[k]? = some o := ⟨_, Array.getElem?_eq_getElem hk⟩
  have hk' : k < w'.heap.size := Nat.lt_of_lt_of_le hk hc.size
  have key : ∀ b, b ≠ k → (putB w' k o).heap[b]? = w'.heap[b]? := fun b hb => by
    unfold putB; simp only; rw [Array.getElem?_setIfInBounds_ne (fun e => hb e.symm)]
  have key2 : (putB w' k o).heap[k]? = some o := by
    unfold putB; simp only; rw [Array.getElem?_setIfInBounds_self_of_lt hk']
  have hsz : (putB w' k o).heap.size = w'.heap.size := by unfold putB; simp
  refine ⟨putB w' k o, ⟨hc.os, hc.tape, hc.output, by rw [hsz]; exact hc.size, fun b hb hS => ?_⟩, ⟨rfl, rfl, rfl, Nat.le_of_eq hsz, fun b hb hne => (key b hne).symm⟩, ⟨rfl, rfl, rfl, Nat.le_of_eq hsz.symm, fun b hb hne => key b hne⟩⟩
  by_cases e : b = k
  · rw [e, key2, ho]
  · rw [key b e]
    exact hc.block b hb (fun h => h.elim hS e)
structure CE (w1 wr : World) (N : Nat) (C : Nat → Nat) (c p n : Nat) (d : Dk) (keep ss : List Int) (kc j : Nat) : Prop where
  dc : DC wr N C c p (n + 1) (crashD keep ss d j).1
  kb : Blk wr kc 3 #[.int .i64 ((crashD keep ss d j).2 : Int)]
  le : (crashD keep ss d j).2 ≤ j
  un : ∀ i, i ∉ ss.take j → (crashD keep ss d j).1.fs i = d.fs i
  sm : ∀ i, ((crashD keep ss d j).1.fs i).isSome = (d.fs i).isSome
  chg : Chg (fun b => C b = c ∨ b = kc) w1 wr
section
variable {w1 wr : World} {N : Nat} {C : Nat → Nat} {c p n : Nat} {d : Dk} {keep ss : List Int} {kc j : Nat}
theorem CE.zero (h : DC w1 N C c p n d) (hn : n + 1 < 1000000) (hk : Blk w1 kc 3 #[.int .i64 0]) : CE w1 w1 N C c p n d keep ss kc 0 :=
  ⟨h.more (Nat.le_succ _) hn, hk, Nat.le_refl _, fun _ _ => rfl, fun _ => rfl, Chg.refl _ _⟩
theorem CE.at_ (h : CE w1 wr N C c p n d keep ss kc j) (hs : ss.Pairwise (· < ·)) (hm : ∀ i, i ∈ ss ↔ (d.fs i).isSome = true) {i : Int} (hi : ss[j]? = some i) : ∃ x, d.fs i = some x ∧ (crashD keep ss d j).1.fs i = some x ∧ ∃ bf bn bs fl g, DW wr N p (n + 1) (crashD keep ss d j).1 bf bn bs fl ∧ (∀ b, Own wr p bf bn bs fl b → C b = c) ∧ fl i = some g ∧ FW wr N g x := by
  have hin : i ∉ ss.take j := fun hmem => by
    obtain ⟨q, hq⟩ := List.getElem?_of_mem hmem
    have hql : q < j := by
      have := (List.getElem?_eq_some_iff.1 hq).1
      rw [List.length_take] at this; omega
    rw [List.getElem?_take_of_lt hql] at hq
    obtain ⟨h1, h2⟩ := List.getElem?_eq_some_iff.1 hq
    obtain ⟨h3, h4⟩ := List.getElem?_eq_some_iff.1 hi
    have := List.pairwise_iff_getElem.1 hs q j h1 h3 hql
    omega
  obtain ⟨x, hx⟩ := Option.isSome_iff_exists.1 ((hm i).1 (List.mem_of_getElem? hi))
  have hx' := (h.un i hin).trans hx
  obtain ⟨bf, bn, bs, fl, h1, h2⟩ := h.dc.dw
  have := h1.hf i
  rw [hx'] at this
  obtain ⟨g, hg⟩ := Option.isSome_iff_exists.1 this
  exact ⟨x, hx, hx', bf, bn, bs, fl, g, h1, h2, hg, (h1.fw i g x hg hx').2⟩
theorem CE.step (h : CE w1 wr N C c p n d keep ss kc j) (hd : d.Ok n) (hn : n + 1 < 1000000) (hkc : C kc ≠ c) {i : Int} (hi : ss[j]? = some i) {x : Fl} (hx0 : d.fs i = some x) (hx : (crashD keep ss d j).1.fs i = some x) {bf bn bs : Nat} {fl : Int → Option Nat} {g : Nat} (hw : DW wr N p (n + 1) (crashD keep ss d j).1 bf bn bs fl) (ho : ∀ b, Own wr p bf bn bs fl b → C b = c) (hg : fl i = some g)
    {e : Ending} {w' : World} (hq : CrQ wr N g kc (crashF keep (crashD keep ss d j).2 x) (crashK (crashD keep ss d j).2 x) e w') : e = .returned (.tuple #[]) ∧ CE w1 w' N C c p n d keep ss kc (j + 1) := by
  obtain ⟨he, hf, hkb, hc, hby⟩ := hq
  obtain ⟨y, hy⟩ : ∃ y, y = crashF keep (crashD keep ss d j).2 x := ⟨_, rfl⟩
  have hst : crashD keep ss d (j + 1) = ((crashD keep ss d j).1.edit i y, crashK (crashD keep ss d j).2 x) := by
    rw [crashD_succ hi]; unfold crashS; rw [hx, hy]
  rw [← hy] at hf
  have hCg : C g = c := ho g (.inr (.inr (.inr (.inr ⟨i, g, hg, .inl rfl⟩))))
  have hgk : g ≠ kc := fun e => hkc (by rw [← e]; exact hCg)
  obtain ⟨Wm, m1, m2, m3⟩ := chg_split hc h.kb.lt
  have hfm : FW Wm N g y := by
    obtain ⟨v, h1, h2⟩ := hf
    exact ⟨v, h1.chg m3 hgk, m3.ob h2 (fun q hq e => hkb.apart h2 (by decide) (by rw [hq, e]))⟩
  have hbm : ∀ q, bytesAt Wm g q → bytesAt wr g q := fun q ⟨u, h1, h2⟩ => hby q ⟨u, by
    have hl : g < w'.heap.size := hf.lt
    rw [← m3.cell (p := ⟨g, 1, none⟩) hl hgk]; exact h1, h2⟩
  have hwm := hw.edit hg hx y (m1.mono (fun _ _ e => .inl e)) hfm (fun q hq => .inl (hbm q hq))
  have hown : ∀ b, Own Wm p bf bn bs fl b → C b = c := fun b hb => by
    refine ho b ?_
    rcases hb with e | e | e | e | ⟨i', g', hi', e | hb⟩
    · exact .inl e
    · exact .inr (.inl e)
    · exact .inr (.inr (.inl e))
    · exact .inr (.inr (.inr (.inl e)))
    · exact .inr (.inr (.inr (.inr ⟨i', g', hi', .inl e⟩)))
    · refine .inr (.inr (.inr (.inr ⟨i', g', hi', .inr ?_⟩)))
      by_cases e : g' = g
      · rw [e] at hb ⊢; exact hbm b hb
      · obtain ⟨z, hz, _, hfz⟩ := hw.at_ hi'
        obtain ⟨u, h1, h2⟩ := hb
        rw [m1.cell (p := ⟨g', 1, none⟩) hfz.lt e] at h1
        exact ⟨u, h1, h2⟩
  obtain ⟨hw', hown'⟩ := hwm.chg m2 (fun b hb e => hkc (by rw [← e]; exact hown b hb))
  have hok : ((crashD keep ss d j).1.edit i y).Ok (n + 1) := h.dc.ok.edit (Nat.le_refl _) hn hx y (by rw [hy]; exact crashF_nm _ _ _) (by rw [hy]; exact Nat.le_trans (crashF_by _ _ _) (hd.len i x hx0)) (by rw [hy]; exact Nat.le_of_eq (crashF_la _ _ _)) (by rw [hy]; exact Nat.le_trans (crashF_ge _ _ _) (Nat.succ_le_succ (hd.ge i x hx0)))
  refine ⟨he, ?_⟩
  refine ⟨?_, ?_, ?_, fun q hq => ?_, fun q => ?_, ?_⟩
  · rw [hst]
    exact ⟨hok, bf, bn, bs, fl, hw', fun b hb => hown b (hown' b hb)⟩
  · rw [hst]; exact hkb
  · rw [hst]; exact Nat.le_trans (crashK_le _ _) (Nat.succ_le_succ h.le)
  · rw [hst]
    have hqi : q ≠ i := fun e => hq (by rw [e, List.take_add_one, hi]; simp)
    show ((crashD keep ss d j).1.edit i y).fs q = _
    rw [Dk.edit_fs, if_neg hqi]
    exact h.un q (fun hm => hq (by rw [List.take_add_one]; exact List.mem_append_left _ hm))
  · rw [hst]
    show (((crashD keep ss d j).1.edit i y).fs q).isSome = _
    rw [Dk.edit_fs]
    by_cases e : q = i
    · rw [if_pos e, e, hx0]; rfl
    · rw [if_neg e]; exact h.sm q
  · exact h.chg.trans hc (fun b _ hb => by
      rcases hb with e | e
      · exact .inl (by rw [e]; exact hCg)
      · exact .inr e)
end
end Go.Proofs.YtlojmmcagglpoaaGreat
namespace Go.Proofs.YtlojmmcagglpoaaGreat
open Go.RowKit Go.Maps
def EachQ (W : World) (N : Nat) (C : Nat → Nat) (c p n : Nat) (d : Dk) (keep : List Int) (kc : Nat) (e : Ending) (w' : World) : Prop :=
  ∃ ss : List Int, e = .returned (.tuple #[]) ∧ ss.Pairwise (· < ·) ∧ (∀ i, i ∈ ss ↔ (d.fs i).isSome = true) ∧ DC w' N (paint C W.heap.size (c + 1)) c p (n + 1) (crashD keep ss d ss.length).1 ∧ Chg (fun b => C b = c ∨ b = kc) W w'
theorem Dk.Ok.okKey {d : Dk} {n : Nat} (h : d.Ok n) {i : Int} {x : Fl} (hx : d.fs i = some x) : Go.Proofs.YtlojmmcagglpoaaGreat.okInt i := h.okInt _ i (h.back i x hx)
set_option maxRecDepth 20000 in
set_option maxHeartbeats 1000000 in
theorem each_crash {W : World} {N : Nat} {C : Nat → Nat} {c p n : Nat} {d : Dk} (h : DC W N C c p n d) (hn : n + 1 < 1000000) {kc bx m cp : Nat} {A : Option Addr} {keep : List Int} (hk : Blk W kc 3 #[.int .i64 0]) (hCk : C kc ≠ c) (hbx : Blk W bx 39 #[.slice A m cp]) (hCb : C bx ≠ c) (hr : RI W A m keep) (hm : m ≤ maxLen) (hra : 0 < m → ∀ ad, A = some ad → C ad.block ≠ c ∧ ad.block ≠ kc) :
    Calls Tryz.prog 94 #[.pointer (some ⟨p, 0, none⟩), .func (.func 103) #[] #[.pointer (some ⟨kc, 0, none⟩), .pointer (some ⟨bx, 0, none⟩)]] W (EachQ W N C c p n d keep kc) := by
  have H := Lib.hid h
  obtain ⟨bf, bn, bs, fl, hw, ho⟩ := h.dw
  have c0 : W.cell? ⟨p, 0, none⟩ = some (.map (some bf)) := (hw.bd.cell 0).trans rfl
  have KC := Lib.hid (keys_any W (some bf))
  have SC := Lib.hid (sorted_any hw.mf (by omega))
  have HF : Hid (∀ i, (fl i).isSome = (d.fs i).isSome) := Lib.hid hw.hf
  have HK := Lib.hid hk; have HBX := Lib.hid hbx; have HR := Lib.hid hr; have HCC : Hid (C kc ≠ c ∧ C bx ≠ c ∧ (0 < m → ∀ ad, A = some ad → C ad.block ≠ c ∧ ad.block ≠ kc)) := Lib.hid ⟨hCk, hCb, hra⟩
  have HPP : Hid (∀ w', Chg (fun b => C b = c ∨ b = kc) W w' → True) := Lib.hid (fun _ _ => trivial)
  have hpc : p ≠ kc := fun e => hCk (by rw [← e]; exact ho p (.inl rfl))
  clear h hw ho hk hbx hr hCk hCb hra HPP hpc
  go_enter Tryz.func94, Tryz.ntmps94
  go_wp2_with fail
  refine KC.out.mono ?_
  rintro e w0 ⟨rfl, rfl⟩
  go_wp2_with fail
  refine SC.out.mono ?_
  rintro e w1 ⟨v, ss, rfl, hpw, hmem, hlen, hrow, hb⟩
  obtain ⟨A1, cap1, rfl, _⟩ := own_form hrow
  obtain ⟨C1, hC1⟩ : ∃ C1, C1 = paint C W.heap.size (c + 1) := ⟨_, rfl⟩
  have hs1 : Sam W.heap.size C C1 := by rw [hC1]; exact sam_paint _ _ _
  have D1 := Lib.hid (H.out.keep hb hs1)
  have K1 := Lib.hid (HK.out.keep hb)
  have BX1 := Lib.hid (HBX.out.keep hb)
  have R1 := Lib.hid (HR.out.keep hb)
  have ROW := Lib.hid hrow
  have B1 := Lib.hid hb
  have HC1 : Hid (C1 kc ≠ c ∧ C1 bx ≠ c ∧ (0 < m → ∀ ad, A = some ad → C1 ad.block ≠ c ∧ ad.block ≠ kc) ∧ ∀ b, W.heap.size ≤ b → C1 b ≠ c ∧ b ≠ kc) := Lib.hid ⟨by rw [hs1 kc HK.out.lt]; exact HCC.out.1, by rw [hs1 bx HBX.out.lt]; exact HCC.out.2.1, fun h0 ad e => by
    obtain ⟨b', off, e', hlt, _⟩ := HR.out.2 h0
    rw [e] at e'
    have hb' : ad.block = b' := by rw [Option.some.inj e']
    have h4 := HCC.out.2.2 h0 ad e
    exact ⟨by rw [hs1 ad.block (by rw [hb']; exact hlt)]; exact h4.1, h4.2⟩, fun b hb => ⟨by rw [hC1, paint_new C _ hb]; omega, fun e => by have := HK.out.lt; omega⟩⟩
  have HSS : Hid (ss.Pairwise (· < ·) ∧ (∀ i, i ∈ ss ↔ (d.fs i).isSome = true) ∧ ss.length ≤ n) := Lib.hid ⟨hpw, fun i => by rw [← HF.out i]; exact hmem i, hlen⟩
  have HS1 : Hid (C1 = paint C W.heap.size (c + 1) ∧ Sam W.heap.size C C1) := Lib.hid ⟨hC1, hs1⟩
  obtain ⟨L, hL⟩ : ∃ L, L = ss.length := ⟨_, rfl⟩
  rw [← hL]
  have HL := Lib.hid hL
  clear hpw hmem hlen hrow hb hC1 hs1 KC SC HF c0 hL
  go_wp2_with fail
  go_loopw [13] (fun s13 wr => ∃ j : Nat, j ≤ L ∧ s13 = .int .i64 (j : Int) ∧ Hid (CE w1 wr N C1 c p n d keep ss kc j)) (fun s13 _ => L - (intOf s13).toNat)
  case atStart => exact ⟨0, Nat.zero_le _, rfl, Lib.hid (CE.zero D1.out hn K1.out)⟩
  case round =>
    obtain ⟨j, hj, rfl, E1⟩ := hrel
    by_cases hlt : j < L
    · obtain ⟨i, hi⟩ : ∃ i, ss[j]? = some i := ⟨_, List.getElem?_eq_getElem (by rw [← HL.out]; exact hlt)⟩
      obtain ⟨x, hx0, hx, bf', bn', bs', fl', g, hw, ho, hg, hf⟩ := E1.out.at_ HSS.out.1 HSS.out.2.1 hi
      have hok := H.out.ok.okKey hx0
      have hrow := E1.out.chg.own ROW.out (fun k hk e => by
        have h1 := HC1.out.2.2.2 k (ROW.out.lt k hk).1
        rcases e with e | e
        · exact h1.1 e
        · exact h1.2 e)
      obtain ⟨b1, hA1, hc1⟩ : ∃ b1, A1 = some ⟨b1, 0, none⟩ ∧ wr.cell? ⟨b1, j, none⟩ = some (.int .i64 i) := by
        rcases hrow.2 with ⟨hv, hz⟩ | ⟨gb, cap', cur, hv, _, _⟩
        · have := HL.out; omega
        · injection hv with e1 _ _
          subst e1
          refine ⟨gb, rfl, ?_⟩
          have h1 := World.ownsRow.cellAt hrow j (by have := HL.out; omega)
          rw [h1, List.getElem?_map, hi]; rfl
      subst hA1
      have hL2 : L ≤ 1000000 := by have := HL.out; have := HSS.out.2.2; omega
      have hki : (j : Int) < (L : Int) := by omega
      have hki0 : (0 : Int) ≤ (j : Int) := by omega
      have c0 : wr.cell? ⟨p, 0, none⟩ = some (.map (some bf')) := (hw.bd.cell 0).trans rfl
      have l0 := hw.mf.look mrFiles intK Tryz.underlying129 (zero_fptr wr) hok
      rw [hg] at l0
      unfold lookV iV' pV at l0
      have CO := Lib.hid (crash_one (k := (crashD keep ss d j).2) hf (H.out.ok.len i x hx0) (H.out.ok.la i x hx0) (by have := H.out.ok.ge i x hx0; omega) (by have := E1.out.le; have := HSS.out.2.2; have := HL.out; omega) hm E1.out.kb (BX1.out.chg E1.out.chg (fun e => by
        rcases e with e | e
        · exact HC1.out.2.1 e
        · exact BX1.out.ne_type K1.out (by decide) e)) (R1.out.chg E1.out.chg (fun h0 ad e e2 => by
        have h4 := HC1.out.2.2.1 h0 ad e
        rcases e2 with e2 | e2
        · exact h4.1 e2
        · exact h4.2 e2)) i)
      have HST := Lib.hid (fun e w' hq => E1.out.step (e := e) (w' := w') H.out.ok hn HC1.out.1 hi hx0 hx hw ho hg hq)
      clear hx0 hx hw ho hg hf hrow hi
      go_wp2_with fail
      refine CO.out.mono ?_
      intro e w2 hq
      obtain ⟨he, hE⟩ := HST.out e w2 hq
      have E2 := Lib.hid hE
      subst he
      clear hq hE CO HST l0 c0
      go_wp2_with fail
      go_roundw
      case rel => exact ⟨j + 1, by omega, by go_num, E2⟩
      case measure => simp [intOf]; omega
    · obtain rfl : j = L := by omega
      go_wp2_with fail
      go_end0
      refine ⟨ss, rfl, HSS.out.1, HSS.out.2.1, ?_, ?_⟩
      · rw [← HL.out, ← HS1.out.1]; exact E1.out.dc
      · exact (Chg.of_below B1.out _).trans E1.out.chg (fun b hb e => by
          rcases e with e | e
          · exact .inl (by rw [← HS1.out.2 b hb]; exact e)
          · exact .inr e)
def CrashQ (W : World) (N : Nat) (C : Nat → Nat) (c p n : Nat) (d : Dk) (keep : List Int) (e : Ending) (w' : World) : Prop :=
  ∃ ss : List Int, e = .returned (.tuple #[]) ∧ ss.Pairwise (· < ·) ∧ (∀ i, i ∈ ss ↔ (d.fs i).isSome = true) ∧ DC w' N (paint C W.heap.size c) c p (n + 1) (crashD keep ss d ss.length).1 ∧ Chg (fun b => C b = c) W w'
theorem DC.repaint {W : World} {N : Nat} {C C' : Nat → Nat} {c p n : Nat} {d : Dk} (h : DC W N C' c p n d) {h0 : Nat} (hs : Sam h0 C C') : DC W N (paint C h0 c) c p n d := by
  obtain ⟨h1, bf, bn, bs, fl, h2, h3⟩ := h
  refine ⟨h1, bf, bn, bs, fl, h2, fun b hb => ?_⟩
  by_cases e : b < h0
  · rw [paint_old C c e, ← hs b e]; exact h3 b hb
  · exact paint_new C c (by omega)
set_option maxRecDepth 20000 in
set_option maxHeartbeats 1000000 in
theorem crash_c {W : World} {N : Nat} {C : Nat → Nat} {c p n : Nat} {d : Dk} (h : DC W N C c p n d) (hn : n + 1 < 1000000) {m cp : Nat} {A : Option Addr} {keep : List Int} (hr : RI W A m keep) (hm : m ≤ maxLen) (hra : 0 < m → ∀ ad, A = some ad → C ad.block ≠ c) :
    Calls Tryz.prog 49 #[.pointer (some ⟨p, 0, none⟩), .slice A m cp] W (CrashQ W N C c p n d keep) := by
  have H := Lib.hid h; have HR := Lib.hid hr; have HRA := Lib.hid hra
  clear h hr hra
  go_enter Tryz.func49, Tryz.ntmps49
  go_wp2_with fail
  obtain ⟨w1, hw1⟩ : ∃ w1, w1 = W.alloc (.cells #[.slice A m cp] 39) := ⟨_, rfl⟩
  obtain ⟨w2, hw2⟩ : ∃ w2, w2 = w1.alloc (.cells #[.int .i64 0] 3) := ⟨_, rfl⟩
  obtain ⟨bx, hbx⟩ : ∃ bx, bx = W.heap.size := ⟨_, rfl⟩
  have hz1 : w1.heap.size = W.heap.size + 1 := by rw [hw1]; simp
  obtain ⟨kc, hkc⟩ : ∃ kc, kc = W.heap.size + 1 := ⟨_, rfl⟩
  have hB1 : Below W.heap.size W w1 := by rw [hw1]; exact (Below.refl _ _).alloc (Nat.le_refl _) _
  have hB2 : Below w1.heap.size w1 w2 := by rw [hw2]; exact (Below.refl _ _).alloc (Nat.le_refl _) _
  have hB : Below W.heap.size W w2 := hB1.trans (hB2.mono (by omega))
  have BX : Blk w2 bx 39 #[.slice A m cp] := (show Blk w1 bx 39 #[.slice A m cp] by rw [hw1]; exact Blk.new W _ _ hbx).keep hB2
  have KC : Blk w2 kc 3 #[.int .i64 0] := by rw [hw2]; exact Blk.new w1 _ _ (by rw [hkc, hz1])
  rw [← hw1, ← hw2, ← hkc, ← hbx]
  have D2 := H.out.keep hB (sam_paint C W.heap.size (c + 1))
  have hc1 : ∀ b, W.heap.size ≤ b → paint C W.heap.size (c + 1) b ≠ c := fun b hb => by rw [paint_new C _ hb]; omega
  have CE := Lib.hid (each_crash D2 hn KC (hc1 kc (by omega)) BX (hc1 bx (by omega)) (HR.out.keep hB) hm (fun h0 ad e => by
    obtain ⟨b', off, e', hlt, _⟩ := HR.out.2 h0
    have h4 := HRA.out h0 ad e
    rw [e] at e'
    have hb' : ad.block = b' := by rw [Option.some.inj e']
    exact ⟨by rw [paint_old C _ (by rw [hb']; exact hlt)]; exact h4, by omega⟩))
  refine CE.out.mono ?_
  rintro e w3 ⟨ss, rfl, h1, h2, h3, h4⟩
  have HF : Hid (CrashQ W N C c p n d keep (.returned (.tuple #[])) w3) := Lib.hid ⟨ss, rfl, h1, h2, h3.repaint (C := C) (h0 := W.heap.size) (fun b hb => by
    rw [paint_old _ _ (Nat.lt_of_lt_of_le hb hB.size), paint_old _ _ hb]), (Chg.of_below hB _).trans h4 (fun b hb e => by
    rcases e with e | e
    · rw [paint_old C _ hb] at e; exact e
    · omega)⟩
  clear h1 h2 h3 h4 CE
  go_wp2_with fail
  go_end0
  exact HF.out
end Go.Proofs.YtlojmmcagglpoaaGreat
