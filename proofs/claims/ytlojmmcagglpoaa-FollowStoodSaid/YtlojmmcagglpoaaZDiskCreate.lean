/- THE WALK of the disk's Create (printed by a program of ours). -/
import Derived.Test.YtlojmmcagglpoaaZDiskKeep
import Derived.Deep.RegionHeld
import Derived.Deep.DrawnRows
namespace Go.Proofs.Ytlojmmcagglpoaa
open Go.RowKit Go.Maps
attribute [local go_sem ↓] Go.wp_at_zero Go.wp_at_succ
/-- update_fm at a ready operation of a region -/
theorem step_update_fm {κ ε : Type} {P : Program} {k : TypeId} {kl : κ → Lit} {kv : κ → Value} {ev : ε → Value} {ed : ε → DataW Unit} {zv : Value} {zd : DataW Unit} {R : Value → Option (DataW Unit × List MemPlace)} {okK : κ → Prop} {okE : ε → Prop} {w : World} {ops : Array Oper} {o : Oper} {a : Act} {K' : Act → World → Prop} {Q : Exit → Act → World → Prop} {E : Prop} (hg : o.guard = none) (mo xo vo : Operand) {t e : TypeId} (hop : o.op = Op.mapUpdate t mo xo vo)
    (M : MR P k kv kl ev ed zv zd R okK okE) (K : Keyed P k) (ht : P.underlying t = some (.map k e)) (b n : Nat) (m : κ → Option ε) (hm : a.eval mo = .map (some b)) (h : FM P k kl ed R w b n m) (hn : n < maxLen) (x : κ) (hx : okK x) (u : ε) (hu : okE u) (hxe : a.eval xo = kv x) (hve : a.eval vo = ev u)
    (hK : ∀ w', FM P k kl ed R w' b (n + 1) (putM m x u) → Chg (fun q => q = b) w w' → K' (a.put o.dst undef) w') :
    if Region.wanted o (yielded ops a.tmps) = true then Oper.wp P o a w K' Q else E := by
  have hw : Region.wanted o (yielded ops a.tmps) = true := by simp [Region.wanted, hg]
  rw [if_pos hw]
  obtain ⟨w', hrun, r1, r2⟩ := h.put M K ht hn hx hu
  unfold Oper.wp
  simp [execOp, hop, hm, hxe, hve, hrun, Result.andThen]
  exact hK w' r1 r2
/-- what Create gives -/
def CreQ (W : World) (N p q : Nat) (d : Dk) (bf bn bs : Nat) (fl : Int → Option Nat) (nm : List UInt8) (e : Ending) (w' : World) : Prop :=
  (∃ i, d.ns nm = some i ∧ e = .returned (.int .i64 142) ∧ Below W.heap.size W w') ∨ (d.ns nm = none ∧ e = .returned (.int .i64 0) ∧ ∃ g, W.heap.size ≤ g ∧ DW w' N p (q + 2) (d.made nm) bf bn bs (putM fl ((d.no : Int) + 1) g) ∧ Chg (fun b => b = p ∨ b = bf ∨ b = bn ∨ b = bs) W w' ∧ Gr W fl w' (putM fl ((d.no : Int) + 1) g))
set_option maxRecDepth 20000 in
set_option maxHeartbeats 1000000 in
theorem create_any {W : World} {N p q qq : Nat} {d : Dk} {bf bn bs : Nat} {fl : Int → Option Nat} (h : DW W N p q d bf bn bs fl) (hd : d.Ok qq) (nm : List UInt8) (hl : okName nm) (hm : MayC nm true) (hq : q + 2 < 1000000) (hqq : qq + 2 < 1000000) :
    Calls Try.prog 12 #[.pointer (some ⟨p, 0, none⟩), .string (strB nm)] W (CreQ W N p q d bf bn bs fl nm) := by
  have H := Lib.hid h; have HD := Lib.hid hd; have HM := Lib.hid (hm W)
  clear h hd hm
  go_enter Try.func12, Try.ntmps12
  go_wp2_with fail
  refine HM.out.mono ?_
  rintro e w1 ⟨rfl, hb⟩
  have H1 := Lib.hid (H.out.keep hb)
  have B1 := Lib.hid hb
  have c1 : w1.cell? ⟨p, 1, none⟩ = some (.map (some bn)) := (H1.out.bd.cell 1).trans rfl
  have c3 : w1.cell? ⟨p, 3, none⟩ = some (.int .i64 (d.no : Int)) := (H1.out.bd.cell 3).trans rfl
  have f3 : w1.frozen? ⟨p, 3, none⟩ = false := H1.out.bd.frozen 3
  have l1 := H1.out.mn.look_ok mrNames strK Try.underlying92 (zero_int w1) hl
  have hno := HD.out.no
  have hbig := HD.out.big
  obtain ⟨k, hk⟩ : ∃ k, k = d.no := ⟨_, rfl⟩
  rw [← hk] at hno c3
  have HK := Lib.hid hk
  clear hb hk
  cases hn : d.ns nm with
  | some i =>
    rw [hn] at l1
    unfold lookV sV iV' at l1
    have HF : Hid (CreQ W N p q d bf bn bs fl nm (.returned (.int .i64 142)) w1) := Lib.hid (.inl ⟨i, hn, rfl, B1.out⟩)
    clear hn
    go_wp2_with fail
    go_ret
    exact HF.out
  | none =>
  rw [hn] at l1
  unfold lookV sV at l1
  have HN := Lib.hid hn
  clear hn
  go_upto_region 7 with fail
  clear c1 c3 f3 l1
  obtain ⟨w2, hw2⟩ : ∃ w2, w2 = w1.setCell ⟨p, 3, none⟩ (.int .i64 ((k : Int) + 1)) := ⟨_, rfl⟩
  rw [← hw2]
  have D2 := Lib.hid (by rw [hw2]; exact H1.out.bd.set_ 3 (.int .i64 ((k : Int) + 1)) : Blk w2 p 94 (#[.map (some bf), .map (some bn), .map (some bs), .int .i64 (d.no : Int)].setIfInBounds 3 (.int .i64 ((k : Int) + 1))))
  have C2 : Hid (Chg (fun b => b = p) w1 w2) := Lib.hid (by rw [hw2]; exact Chg.setCell (S := fun b => b = p) (p := ⟨p, 3, none⟩) (Chg.refl _ w1) (.inl rfl) _)
  have MF2 := Lib.hid (FM.block (w' := w2.drew) (H1.out.mf.chg C2.out (fun e => H1.out.mf.ne_blk H1.out.bd e.symm)) rfl)
  have hne : p ≠ bf := H1.out.mf.ne_blk H1.out.bd
  have HNE := Lib.hid hne
  clear hw2 hne
  refine wp_region_any (by kernel_rfl) ?_
  change wpAny _ _ _ _ _ _ _ (World.drew _)
  refine wpAny_of_held (S := fun w' => w'.cell? ⟨p, 0, none⟩ = some (.map (some bf)) ∧ w'.cell? ⟨p, 3, none⟩ = some (.int .i64 ((k : Int) + 1))) _ _ _ _ ?_
  have hHeld : (fun w' => w'.cell? ⟨p, 0, none⟩ = some (.map (some bf)) ∧ w'.cell? ⟨p, 3, none⟩ = some (.int .i64 ((k : Int) + 1))) w2.drew := ⟨(D2.out.cell 0).trans rfl, (D2.out.cell 3).trans rfl⟩
  refine wpAnyH_take (i := 0) (v := ?_) rfl (by kernel_rfl) (by kernel_rfl) (by kernel_rfl) (fun _ _ _ h => h) (Or.inl ⟨by rfl, ?_⟩) (by assumption) ?_
  rotate_left 1
  · intro w hSw; (try dsimp only at hSw); go_simp <;> with_reducible rfl
  try simp only [Act.put, List.setIfInBounds_toArray, List.set_cons_zero, List.set_cons_succ, List.getElem_toArray, List.getElem_cons_zero]
  refine wpAnyH_take (i := 1) (v := ?_) rfl (by kernel_rfl) (by kernel_rfl) (by kernel_rfl) (fun _ _ _ h => h) (Or.inl ⟨by rfl, ?_⟩) (by assumption) ?_
  rotate_left 1
  · intro w hSw; (try dsimp only at hSw); go_simp <;> with_reducible rfl
  try simp only [Act.put, List.setIfInBounds_toArray, List.set_cons_zero, List.set_cons_succ, List.getElem_toArray, List.getElem_cons_zero, List.getElem_cons_succ]
  refine wpAnyH_take (i := 2) (v := ?_) rfl (by kernel_rfl) (by kernel_rfl) (by kernel_rfl) (fun _ _ _ h => h) (Or.inl ⟨by rfl, ?_⟩) (by assumption) ?_
  rotate_left 1
  · intro w hSw; (try dsimp only at hSw); go_simp <;> with_reducible rfl
  try simp only [Act.put, List.setIfInBounds_toArray, List.set_cons_zero, List.set_cons_succ, List.getElem_toArray, List.getElem_cons_zero, List.getElem_cons_succ]
  refine wpAnyH_take (i := 3) (v := ?_) rfl (by kernel_rfl) (by kernel_rfl) (by kernel_rfl) (fun _ _ _ h => h) (Or.inl ⟨by rfl, ?_⟩) (by assumption) ?_
  rotate_left 1
  · intro w hSw; (try dsimp only at hSw); go_simp <;> with_reducible rfl
  try simp only [Act.put, List.setIfInBounds_toArray, List.set_cons_zero, List.set_cons_succ, List.getElem_toArray, List.getElem_cons_zero, List.getElem_cons_succ]
  refine wpAnyH_take (i := 4) (v := ?_) rfl (by kernel_rfl) (by kernel_rfl) (by kernel_rfl) (fun _ _ _ h => h) (Or.inl ⟨by rfl, ?_⟩) (by assumption) ?_
  rotate_left 1
  · intro w hSw; (try dsimp only at hSw); go_simp <;> with_reducible rfl
  try simp only [Act.put, List.setIfInBounds_toArray, List.set_cons_zero, List.set_cons_succ, List.getElem_toArray, List.getElem_cons_zero, List.getElem_cons_succ]
  refine wpAnyH_take (i := 5) (v := ?_) rfl (by kernel_rfl) (by kernel_rfl) (by kernel_rfl) (fun _ _ _ h => h) (Or.inl ⟨by rfl, ?_⟩) (by assumption) ?_
  rotate_left 1
  · intro w hSw; (try dsimp only at hSw); go_simp <;> with_reducible rfl
  try simp only [Act.put, List.setIfInBounds_toArray, List.set_cons_zero, List.set_cons_succ, List.getElem_toArray, List.getElem_cons_zero, List.getElem_cons_succ]
  refine wpAnyH_take (i := 6) (v := ?_) rfl (by kernel_rfl) (by kernel_rfl) (by kernel_rfl) (fun _ _ _ h => h) (Or.inl ⟨by rfl, ?_⟩) (by assumption) ?_
  rotate_left 1
  · intro w hSw; (try dsimp only at hSw); go_simp <;> with_reducible rfl
  try simp only [Act.put, List.setIfInBounds_toArray, List.set_cons_zero, List.set_cons_succ, List.getElem_toArray, List.getElem_cons_zero, List.getElem_cons_succ]
  refine wpAnyH_take (i := 7) (v := ?_) rfl (by kernel_rfl) (by kernel_rfl) (by kernel_rfl) (fun _ _ _ h => h) (Or.inl ⟨by rfl, ?_⟩) (by assumption) ?_
  rotate_left 1
  · intro w hSw; (try dsimp only at hSw); go_simp <;> with_reducible rfl
  try simp only [Act.put, List.setIfInBounds_toArray, List.set_cons_zero, List.set_cons_succ, List.getElem_toArray, List.getElem_cons_zero, List.getElem_cons_succ]
  refine wpAnyH_take (i := 8) (v := ?_) rfl (by kernel_rfl) (by kernel_rfl) (by kernel_rfl) (fun _ _ _ h => h) (Or.inl ⟨by rfl, ?_⟩) (by assumption) ?_
  rotate_left 1
  · intro w hSw; (try dsimp only at hSw); go_simp <;> with_reducible rfl
  try simp only [Act.put, List.setIfInBounds_toArray, List.set_cons_zero, List.set_cons_succ, List.getElem_toArray, List.getElem_cons_zero, List.getElem_cons_succ]
  refine wpAnyH_ready (rs := [9]) (by kernel_rfl) (by simp) (AllReadyH.cons rfl (fun K hK => ?_) AllReadyH.nil)
  have hPrev := hHeld
  clear hHeld
  go_simp
  refine hK.out _ _ (⟨cell_later ((Below.refl _ _).alloc (Nat.le_refl _) _) hPrev.1, cell_later ((Below.refl _ _).alloc (Nat.le_refl _) _) hPrev.2⟩) (fun hHeld => ?_)
  clear hK K hPrev
  try simp only [Act.put, List.setIfInBounds_toArray, List.set_cons_zero, List.set_cons_succ, List.getElem_toArray, List.getElem_cons_zero, List.getElem_cons_succ]
  obtain ⟨w3, hw3⟩ : ∃ w3, w3 = (w2.alloc (.cells #[.string { data := #[] }, .slice none 0 0, .int .i64 0, .int .i64 0] 113)).drew := ⟨_, rfl⟩
  obtain ⟨g, hg⟩ : ∃ g, g = w2.heap.size := ⟨_, rfl⟩
  rw [← hw3] at hHeld ⊢
  rw [← hg]
  have B3 : Hid (Below w2.heap.size w2 w3) := Lib.hid (by rw [hw3]; exact Below.drew ((Below.refl _ _).alloc (Nat.le_refl _) _))
  have MF3 : Hid (FM Try.prog 3 iL pD ptrE w3 bf q fl) := Lib.hid ((FM.block (w' := w2) MF2.out rfl).keep B3.out)
  have HG : Hid (Blk w3 g 113 #[.string { data := #[] }, .slice none 0 0, .int .i64 0, .int .i64 0]) := Lib.hid (by rw [hw3, hg]; exact Blk.new w2 _ _ rfl)
  have HGS := Lib.hid hg
  clear hw3 hg MF2
  have hki : okInt ((k : Int) + 1) := ⟨by omega, by omega⟩
  refine wpAnyH_ready (rs := [10]) (by kernel_rfl) (by simp) (AllReadyH.cons rfl (fun K hK => ?_) AllReadyH.nil)
  refine step_update_fm rfl (.tmp 30) (.tmp 34) (.tmp 36) rfl mrFiles intK Try.underlying91 bf q fl rfl MF3.out (by unfold maxLen; omega) ((k : Int) + 1) hki g trivial rfl rfl ?_
  intro w4 hf4 hc4
  refine hK.out _ _ ⟨(hc4.cell (p := ⟨p, 0, none⟩) (by have := B3.out.size; have := D2.out.lt; show p < _; omega) HNE.out).trans hHeld.1, (hc4.cell (p := ⟨p, 3, none⟩) (by have := B3.out.size; have := D2.out.lt; show p < _; omega) HNE.out).trans hHeld.2⟩ (fun hHeld => ?_)
  clear hK K
  try simp only [Act.put, List.getElem_toArray, List.getElem_cons_zero, List.getElem_cons_succ]
  refine wpAnyH_done (by kernel_rfl) ?_ _

  have C4 := Lib.hid hc4
  have F4 := Lib.hid hf4
  have BD4 : Hid (Blk w4 p 94 #[.map (some bf), .map (some bn), .map (some bs), .int .i64 (((d.no + 1 : Nat)) : Int)]) := Lib.hid (by
    have := (D2.out.keep B3.out).chg hc4 HNE.out
    rw [HK.out] at this
    exact this)
  have C14 : Hid (Chg (fun b => b = p ∨ b = bf) w1 w4) := Lib.hid (((C2.out.mono (fun _ _ e => .inl e)).trans (Chg.of_below B3.out (fun _ => False)) (fun _ _ e => e.elim)).trans hc4 (fun _ _ e => .inr e))
  have C14' : Hid (Chg (fun b => b = p ∨ b = bf ∨ b = bn ∨ b = bs) w1 w4) := Lib.hid (C14.out.mono (fun _ _ e => e.elim .inl (fun e => .inr (.inl e))))
  have hS : Hid (∀ b, b ≠ p → b ≠ bf → ¬ (b = p ∨ b = bf)) := Lib.hid (fun b h1 h2 e => e.elim h1 h2)
  have hgs : Hid (w1.heap.size ≤ g) := Lib.hid (by rw [HGS.out]; exact C2.out.size)
  have HFL : Hid (fl ((d.no : Int) + 1) = none) := Lib.hid (by
    have := H.out.hf ((d.no : Int) + 1)
    cases hq : fl ((d.no : Int) + 1) with
    | none => rfl
    | some g' =>
      obtain ⟨x, hx, _⟩ := H.out.at_ hq
      have := (HD.out.lo hx).2
      omega)
  have HG4 : Hid (Blk w4 g 113 (fcells ⟨[], [], 0, 0⟩ (.slice none 0 0))) := Lib.hid (HG.out.chg hc4 (fun e => by
    have := H1.out.mf.lt
    have := hgs.out
    omega))
  have DW4 : Hid (DW w4 N p (q + 1) d.born bf bn bs (putM fl ((d.no : Int) + 1) g)) := Lib.hid (H1.out.more HFL.out hgs.out C14'.out ⟨.slice none 0 0, HG4.out, OB.nil _ _⟩ (fun k hk => by
      obtain ⟨u, h1, h2⟩ := hk
      rw [HG4.out.cell 1] at h1
      obtain rfl := Option.some.inj h1
      cases h2) (fun j => rfl) BD4.out (by rw [← HK.out]; exact F4.out) ((H1.out.mn.chg C14.out (hS.out _ (H1.out.mn.ne_blk H1.out.bd).symm H1.out.lo.2.2.2.2.1.symm)).mono (Nat.le_succ _)) ((H1.out.ms.chg C14.out (hS.out _ (H1.out.ms.ne_blk H1.out.bd).symm H1.out.lo.2.2.2.2.2.1.symm)).mono (Nat.le_succ _)))
  have e3 : w4.cell? ⟨p, 3, none⟩ = some (.int .i64 ((k : Int) + 1)) := hHeld.2
  have CN := Lib.hid (named_any DW4.out (by omega) nm hl ((k : Int) + 1) hki g (by rw [HK.out, putM_same]) ⟨[], [], 0, 0⟩ (by show (if ((k : Int) + 1) = (d.no : Int) + 1 then _ else _) = _; rw [HK.out, if_pos rfl]) (fun v hv => HD.out.ser0 nm v hv))
  clear hHeld hf4 hc4
  go_wp2_with fail
  refine CN.out.mono ?_
  rintro e w5 ⟨rfl, h5, hc5, hg5⟩
  have HF : Hid (CreQ W N p q d bf bn bs fl nm (.returned (.int .i64 0)) w5) := Lib.hid (.inr ⟨HN.out, rfl, g, Nat.le_trans B1.out.size hgs.out, by
    have := h5
    rw [HK.out] at this
    exact this, ?_, ?_⟩)
  · clear h5 hc5 hg5
    go_wp2_with fail
    go_ret
    exact HF.out
  · have h6 : Chg (fun b => b = p ∨ b = bf ∨ b = bn ∨ b = bs) w1 w5 := C14'.out.trans hc5 (fun b hb e => by
      rcases e with e | e | e
      · have := hgs.out; omega
      · exact .inr (.inr (.inl e))
      · exact .inr (.inr (.inr e)))
    exact (Chg.of_below B1.out _).trans h6 (fun _ _ e => e)
  · refine Gr.trans (fl1 := putM fl ((d.no : Int) + 1) g) (w1 := w4) (fun i g' hg => ?_) hg5 (Nat.le_trans B1.out.size C14.out.size)
    by_cases e : i = (d.no : Int) + 1
    · rw [e, putM_same] at hg
      obtain rfl := Option.some.inj hg
      refine .inr ⟨Nat.le_trans B1.out.size hgs.out, fun k hk => ?_⟩
      obtain ⟨u, h1, h2⟩ := hk
      rw [HG4.out.cell 1] at h1
      obtain rfl := Option.some.inj h1
      cases h2
    · rw [putM_other _ _ e] at hg
      obtain ⟨x, hx, _, hfw⟩ := H1.out.at_ hg
      obtain ⟨_, _, _, hbb⟩ := H1.out.files C14'.out hg hx
      exact .inl ⟨hg, fun k hk => .inl (((hbb k).1 hk).back (by obtain ⟨y, _, _, hy⟩ := H.out.at_ hg; exact hy.lt) B1.out)⟩
end Go.Proofs.Ytlojmmcagglpoaa
