/- A crash: what it does to a disk; one step of it in memory. -/
import Derived.Test.YthhbfjhgmdnpbabCrashOne
import Derived.Test.YthhbfjhgmdnpbabKeys
namespace Go.Proofs.Ythhbfjhgmdnpbab
open Go.RowKit Go.Maps
noncomputable def crashS (keep : List Int) (s : Dk × Nat) (i : Int) : Dk × Nat := match s.1.fs i with
  | none => s
  | some x => (s.1.edit i (crashF keep s.2 x), crashK s.2 x)
noncomputable def crashD (keep : List Int) (ss : List Int) (d : Dk) (j : Nat) : Dk × Nat := (ss.take j).foldl (crashS keep) (d, 0)
theorem crashD_succ {keep ss : List Int} {d : Dk} {j : Nat} {i : Int} (h : ss[j]? = some i) : crashD keep ss d (j + 1) = crashS keep (crashD keep ss d j) i := by
  unfold crashD
  rw [List.take_add_one, h, Option.toList, List.foldl_append]; rfl
theorem crashF_nm (keep : List Int) (k : Nat) (x : Fl) : (crashF keep k x).nm = x.nm := by
  unfold crashF
  split
  · rfl
  · unfold crash1 Fl.kept; simp only; split <;> rfl
theorem crashF_by (keep : List Int) (k : Nat) (x : Fl) : (crashF keep k x).by_.length ≤ x.by_.length := by
  unfold crashF
  split
  · exact Nat.le_refl _
  · unfold crash1 Fl.kept; simp only; split
    · simp; omega
    · exact Nat.le_refl _
theorem crashF_la (keep : List Int) (k : Nat) (x : Fl) : (crashF keep k x).la = (crashF keep k x).by_.length := by
  unfold crashF
  split
  · assumption
  · rfl
theorem crashF_ge (keep : List Int) (k : Nat) (x : Fl) : (crashF keep k x).ge ≤ x.ge + 1 := by
  unfold crashF
  split
  · exact Nat.le_succ _
  · unfold crash1 Fl.kept; simp only; split
    · exact Nat.le_refl _
    · exact Nat.le_succ _
theorem crashK_le (k : Nat) (x : Fl) : crashK k x ≤ k + 1 := by
  unfold crashK; split <;> omega
def putB (w : World) (b : Nat) (o : Obj) : World := { w with heap := w.heap.setIfInBounds b o }
theorem chg_split {S : Nat → Prop} {W w' : World} {k : Nat} (hc : Chg (fun b => S b ∨ b = k) W w') (hk : k < W.heap.size) : ∃ Wm, Chg S W Wm ∧ Chg (fun b => b = k) Wm w' ∧ Chg (fun b => b = k) w' Wm := by
  obtain ⟨o, ho⟩ : ∃ o, W.heap[k]? = some o := ⟨_, Array.getElem?_eq_getElem hk⟩
  have hk' : k < w'.heap.size := Nat.lt_of_lt_of_le hk hc.size
  have key : ∀ b, b ≠ k → (putB w' k o).heap[b]? = w'.heap[b]? := fun b hb => by
    unfold putB; simp only; rw [Array.getElem?_setIfInBounds_ne (fun e => hb e.symm)]
  have key2 : (putB w' k o).heap[k]? = some o := by
    unfold putB; simp only; rw [Array.getElem?_setIfInBounds_self_of_lt hk']
  have hsz : (putB w' k o).heap.size = w'.heap.size := by unfold putB; simp
  refine ⟨putB w' k o, ⟨hc.os, hc.tape, hc.output, by rw [hsz]; exact hc.size, fun b hb hS => ?_⟩, ⟨rfl, rfl, rfl, Nat.le_of_eq hsz, fun b hb hne => (key b hne).symm⟩, ⟨rfl, rfl, rfl, Nat.le_of_eq hsz.symm, fun b hb hne => key b hne⟩⟩
  by_cases e : b = k
  · rw [e, key2, ho]
  · rw [key b e]
    exact hc.block b hb (fun h => h.elim hS e)
/-- j files are done -/
structure CE (w1 wr : World) (N : Nat) (C : Nat → Nat) (c p n : Nat) (d : Dk) (keep ss : List Int) (kc j : Nat) : Prop where
  dc : DC wr N C c p (n + 1) (crashD keep ss d j).1
  kb : Blk wr kc 3 #[.int .i64 ((crashD keep ss d j).2 : Int)]
  le : (crashD keep ss d j).2 ≤ j
  un : ∀ i, i ∉ ss.take j → (crashD keep ss d j).1.fs i = d.fs i
  sm : ∀ i, ((crashD keep ss d j).1.fs i).isSome = (d.fs i).isSome
  chg : Chg (fun b => C b = c ∨ b = kc) w1 wr
section
variable {w1 wr : World} {N : Nat} {C : Nat → Nat} {c p n : Nat} {d : Dk} {keep ss : List Int} {kc j : Nat}
theorem CE.zero (h : DC w1 N C c p n d) (hn : n + 1 < 1000000) (hk : Blk w1 kc 3 #[.int .i64 0]) : CE w1 w1 N C c p n d keep ss kc 0 :=
  ⟨h.more (Nat.le_succ _) hn, hk, Nat.le_refl _, fun _ _ => rfl, fun _ => rfl, Chg.refl _ _⟩
/-- the file that is next -/
theorem CE.at_ (h : CE w1 wr N C c p n d keep ss kc j) (hs : ss.Pairwise (· < ·)) (hm : ∀ i, i ∈ ss ↔ (d.fs i).isSome = true) {i : Int} (hi : ss[j]? = some i) : ∃ x, d.fs i = some x ∧ (crashD keep ss d j).1.fs i = some x ∧ ∃ bf bn bs fl g, DW wr N p (n + 1) (crashD keep ss d j).1 bf bn bs fl ∧ (∀ b, Own wr p bf bn bs fl b → C b = c) ∧ fl i = some g ∧ FW wr N g x := by
  have hin : i ∉ ss.take j := fun hmem => by
    obtain ⟨q, hq⟩ := List.getElem?_of_mem hmem
    have hql : q < j := by
      have := (List.getElem?_eq_some_iff.1 hq).1
      rw [List.length_take] at this; omega
    rw [List.getElem?_take_of_lt hql] at hq
    obtain ⟨h1, h2⟩ := List.getElem?_eq_some_iff.1 hq
    obtain ⟨h3, h4⟩ := List.getElem?_eq_some_iff.1 hi
    have := List.pairwise_iff_getElem.1 hs q j h1 h3 hql
    omega
  obtain ⟨x, hx⟩ := Option.isSome_iff_exists.1 ((hm i).1 (List.mem_of_getElem? hi))
  have hx' := (h.un i hin).trans hx
  obtain ⟨bf, bn, bs, fl, h1, h2⟩ := h.dc.dw
  have := h1.hf i
  rw [hx'] at this
  obtain ⟨g, hg⟩ := Option.isSome_iff_exists.1 this
  exact ⟨x, hx, hx', bf, bn, bs, fl, g, h1, h2, hg, (h1.fw i g x hg hx').2⟩
theorem CE.step (h : CE w1 wr N C c p n d keep ss kc j) (hd : d.Ok n) (hn : n + 1 < 1000000) (hkc : C kc ≠ c) {i : Int} (hi : ss[j]? = some i) {x : Fl} (hx0 : d.fs i = some x) (hx : (crashD keep ss d j).1.fs i = some x) {bf bn bs : Nat} {fl : Int → Option Nat} {g : Nat} (hw : DW wr N p (n + 1) (crashD keep ss d j).1 bf bn bs fl) (ho : ∀ b, Own wr p bf bn bs fl b → C b = c) (hg : fl i = some g)
    {e : Ending} {w' : World} (hq : CrQ wr N g kc (crashF keep (crashD keep ss d j).2 x) (crashK (crashD keep ss d j).2 x) e w') : e = .returned (.tuple #[]) ∧ CE w1 w' N C c p n d keep ss kc (j + 1) := by
  obtain ⟨he, hf, hkb, hc, hby⟩ := hq
  obtain ⟨y, hy⟩ : ∃ y, y = crashF keep (crashD keep ss d j).2 x := ⟨_, rfl⟩
  have hst : crashD keep ss d (j + 1) = ((crashD keep ss d j).1.edit i y, crashK (crashD keep ss d j).2 x) := by
    rw [crashD_succ hi]; unfold crashS; rw [hx, hy]
  rw [← hy] at hf
  have hCg : C g = c := ho g (.inr (.inr (.inr (.inr ⟨i, g, hg, .inl rfl⟩))))
  have hgk : g ≠ kc := fun e => hkc (by rw [← e]; exact hCg)
  obtain ⟨Wm, m1, m2, m3⟩ := chg_split hc h.kb.lt
  have hfm : FW Wm N g y := by
    obtain ⟨v, h1, h2⟩ := hf
    exact ⟨v, h1.chg m3 hgk, m3.ob h2 (fun q hq e => hkb.apart h2 (by decide) (by rw [hq, e]))⟩
  have hbm : ∀ q, bytesAt Wm g q → bytesAt wr g q := fun q ⟨u, h1, h2⟩ => hby q ⟨u, by
    have hl : g < w'.heap.size := hf.lt
    rw [← m3.cell (p := ⟨g, 1, none⟩) hl hgk]; exact h1, h2⟩
  have hwm := hw.edit hg hx y (m1.mono (fun _ _ e => .inl e)) hfm (fun q hq => .inl (hbm q hq))
  have hown : ∀ b, Own Wm p bf bn bs fl b → C b = c := fun b hb => by
    refine ho b ?_
    rcases hb with e | e | e | e | ⟨i', g', hi', e | hb⟩
    · exact .inl e
    · exact .inr (.inl e)
    · exact .inr (.inr (.inl e))
    · exact .inr (.inr (.inr (.inl e)))
    · exact .inr (.inr (.inr (.inr ⟨i', g', hi', .inl e⟩)))
    · refine .inr (.inr (.inr (.inr ⟨i', g', hi', .inr ?_⟩)))
      by_cases e : g' = g
      · rw [e] at hb ⊢; exact hbm b hb
      · obtain ⟨z, hz, _, hfz⟩ := hw.at_ hi'
        obtain ⟨u, h1, h2⟩ := hb
        rw [m1.cell (p := ⟨g', 1, none⟩) hfz.lt e] at h1
        exact ⟨u, h1, h2⟩
  obtain ⟨hw', hown'⟩ := hwm.chg m2 (fun b hb e => hkc (by rw [← e]; exact hown b hb))
  have hok : ((crashD keep ss d j).1.edit i y).Ok (n + 1) := h.dc.ok.edit (Nat.le_refl _) hn hx y (by rw [hy]; exact crashF_nm _ _ _) (by rw [hy]; exact Nat.le_trans (crashF_by _ _ _) (hd.len i x hx0)) (by rw [hy]; exact Nat.le_of_eq (crashF_la _ _ _)) (by rw [hy]; exact Nat.le_trans (crashF_ge _ _ _) (Nat.succ_le_succ (hd.ge i x hx0)))
  refine ⟨he, ?_⟩
  refine ⟨?_, ?_, ?_, fun q hq => ?_, fun q => ?_, ?_⟩
  · rw [hst]
    exact ⟨hok, bf, bn, bs, fl, hw', fun b hb => hown b (hown' b hb)⟩
  · rw [hst]; exact hkb
  · rw [hst]; exact Nat.le_trans (crashK_le _ _) (Nat.succ_le_succ h.le)
  · rw [hst]
    have hqi : q ≠ i := fun e => hq (by rw [e, List.take_add_one, hi]; simp)
    show ((crashD keep ss d j).1.edit i y).fs q = _
    rw [Dk.edit_fs, if_neg hqi]
    exact h.un q (fun hm => hq (by rw [List.take_add_one]; exact List.mem_append_left _ hm))
  · rw [hst]
    show (((crashD keep ss d j).1.edit i y).fs q).isSome = _
    rw [Dk.edit_fs]
    by_cases e : q = i
    · rw [if_pos e, e, hx0]; rfl
    · rw [if_neg e]; exact h.sm q
  · exact h.chg.trans hc (fun b _ hb => by
      rcases hb with e | e
      · exact .inl (by rw [e]; exact hCg)
      · exact .inr e)
end
end Go.Proofs.Ythhbfjhgmdnpbab
