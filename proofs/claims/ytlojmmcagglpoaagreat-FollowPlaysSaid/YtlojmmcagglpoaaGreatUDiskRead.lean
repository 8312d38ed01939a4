/- THE WALKS of slices.Clone at bytes and of the disk's Read (printed by a program of ours). -/
import Derived.Test.YtlojmmcagglpoaaGreatUTk
import Derived.Test.YtlojmmcagglpoaaGreatUDiskKeep
import Derived.Deep.RegionHeld
import Derived.Deep.DrawnRows
namespace Go.Proofs.YtlojmmcagglpoaaGreat
open Go.RowKit Go.Maps
attribute [local go_sem ↓] Go.wp_at_zero Go.wp_at_succ
theorem step_delete_fm {κ ε : Type} {P : Program} {k : TypeId} {kl : κ → Lit} {kv : κ → Value} {ev : ε → Value} {ed : ε → DataW Unit} {zv : Value} {zd : DataW Unit} {R : Value → Option (DataW Unit × List MemPlace)} {okK : κ → Prop} {okE : ε → Prop} {w : World} {ops : Array Oper} {o : Oper} {a : Act} {K' : Act → World → Prop} {Q : Exit → Act → World → Prop} {E : Prop} (hg : o.guard = none) (mo xo : Operand) {t e : TypeId} (hop : o.op = Op.call { callee := Callee.builtin Builtin.delete, args := #[mo, xo], argTypes := #[t, k] })
    (M : MR P k kv kl ev ed zv zd R okK okE) (K : Keyed P k) (ht : P.underlying t = some (.map k e)) (b n : Nat) (m : κ → Option ε) (hm : a.eval mo = .map (some b)) (h : FM P k kl ed R w b n m) (x : κ) (hx : okK x) (hxe : a.eval xo = kv x)
    (hK : ∀ w', FM P k kl ed R w' b n (delM m x) → Chg (fun q => q = b) w w' → K' (a.put o.dst (.tuple #[])) w') :
    if Region.wanted o (yielded ops a.tmps) = true then Oper.wp P o a w K' Q else E := by
  have hw : Region.wanted o (yielded ops a.tmps) = true := by simp [Region.wanted, hg]
  rw [if_pos hw]
  obtain ⟨w', hrun, r1, r2⟩ := h.del M K ht hx o.type
  unfold Oper.wp
  simp [execOp, hop, resolve, invoke, builtin, hm, hxe, hrun, Result.andThen]
  exact hK w' r1 r2
theorem chg4 {W a b : World} {p bf bn bs : Nat} (h : Chg (fun k => k = p ∨ k = bf ∨ k = bn ∨ k = bs) W a) {S : Nat → Prop} (hc : Chg S a b) (hS : ∀ k, S k → k = p ∨ k = bf ∨ k = bn ∨ k = bs) : Chg (fun k => k = p ∨ k = bf ∨ k = bn ∨ k = bs) W b := h.trans hc (fun k _ e => hS k e)
def RemQ (W : World) (N p q : Nat) (d : Dk) (bf bn bs : Nat) (fl : Int → Option Nat) (nm : List UInt8) (e : Ending) (w' : World) : Prop :=
  (d.ns nm = none ∧ e = .returned (.int .i64 141) ∧ Below W.heap.size W w') ∨ ∃ i, d.ns nm = some i ∧ e = .returned (.int .i64 0) ∧ DW w' N p q (d.less nm i) bf bn bs (delM fl i) ∧ Chg (fun b => b = p ∨ b = bf ∨ b = bn ∨ b = bs) W w' ∧ Gr W fl w' (delM fl i)
set_option maxRecDepth 20000 in
set_option maxHeartbeats 1000000 in
theorem remove_any {W : World} {N p q qq : Nat} {d : Dk} {bf bn bs : Nat} {fl : Int → Option Nat} (h : DW W N p q d bf bn bs fl) (hd : d.Ok qq) (nm : List UInt8) (hl : okName nm) (hm : MayC nm true) :
    Calls Tryz.prog 54 #[.pointer (some ⟨p, 0, none⟩), .string (strB nm)] W (RemQ W N p q d bf bn bs fl nm) := by
  have OF := Lib.hid (of_any h hd.okInt nm hl hm)
  have H := Lib.hid h; have HD := Lib.hid hd
  clear h hd hm
  go_enter Tryz.func54, Tryz.ntmps54
  go_wp2_with fail
  refine OF.out.mono ?_
  rintro e w1 ⟨hb, hq⟩
  have B1 := Lib.hid hb
  clear OF
  rcases hq with ⟨h1, rfl⟩ | ⟨i, h1, rfl⟩
  · have HF : Hid (RemQ W N p q d bf bn bs fl nm (.returned (.int .i64 141)) w1) := Lib.hid (.inl ⟨h1, rfl, hb⟩)
    clear h1 hb
    go_wp2_with fail
    go_ret
    exact HF.out
  · have H1 := Lib.hid (H.out.keep hb)
    obtain ⟨x, g, hx, hn, hg, hf⟩ := H.out.file HD.out h1
    rw [hg]
    unfold lookV pV
    have hi := HD.out.okInt nm i h1
    have HN := Lib.hid h1; have HX := Lib.hid hx; have HG := Lib.hid hg
    clear h1 hx hg hb hf hn
    go_upto_region 4 with fail
    have hne : Hid (p ≠ bf ∧ p ≠ bn ∧ bf ≠ bn ∧ bf ≠ bs ∧ bn ≠ bs ∧ p ≠ bs) := Lib.hid ⟨H1.out.mf.ne_blk H1.out.bd, H1.out.mn.ne_blk H1.out.bd, H1.out.lo.2.2.2.2.1, H1.out.lo.2.2.2.2.2.1, H1.out.lo.2.2.2.2.2.2, H1.out.ms.ne_blk H1.out.bd⟩
    have HLK : Hid (∀ W', FM Tryz.prog 9 sL iD (plainElem Tryz.prog 3) W' bn q d.ns → (Instr.lookup 130 (.map (some bn)) (.string (strB nm)) false).run Tryz.prog W' = .ok (.int .i64 i) W') := Lib.hid (fun W' hW => by
      have l1 := hW.look mrNames strK Tryz.underlying130 (zero_int W') hl
      rw [HN.out] at l1
      exact l1)
    refine wp_region_any (by kernel_rfl) ?_
    change wpAny _ _ _ _ _ _ _ (World.drew _)
    refine wpAny_of_held (S := fun w' => w'.cell? ⟨p, 0, none⟩ = some (.map (some bf)) ∧ w'.cell? ⟨p, 1, none⟩ = some (.map (some bn)) ∧ (Instr.lookup 130 (.map (some bn)) (.string (strB nm)) false).run Tryz.prog w' = .ok (.int .i64 i) w') _ _ _ _ ?_
    have hHeld : (fun w' => w'.cell? ⟨p, 0, none⟩ = some (.map (some bf)) ∧ w'.cell? ⟨p, 1, none⟩ = some (.map (some bn)) ∧ (Instr.lookup 130 (.map (some bn)) (.string (strB nm)) false).run Tryz.prog w' = .ok (.int .i64 i) w') w1.drew := ⟨(H1.out.bd.cell 0).trans rfl, (H1.out.bd.cell 1).trans rfl, HLK.out _ (H1.out.mn.drewN 1)⟩
    refine tkh 0 (v := ?_) rfl ?_ ?_; rotate_left
    · intro w hSw; (try dsimp only at hSw); go_simp <;> with_reducible rfl
    try simp only [Act.put, pz]
    refine tkh 1 (v := ?_) rfl ?_ ?_; rotate_left
    · intro w hSw; (try dsimp only at hSw); go_simp <;> with_reducible rfl
    try simp only [Act.put, pz]
    refine tkh 2 (v := ?_) rfl ?_ ?_; rotate_left
    · intro w hSw; (try dsimp only at hSw); go_simp <;> with_reducible rfl
    try simp only [Act.put, pz]
    refine tkh 3 (v := ?_) rfl ?_ ?_; rotate_left
    · intro w hSw; (try dsimp only at hSw); go_simp <;> with_reducible rfl
    try simp only [Act.put, pz]
    refine tkh 4 (v := ?_) rfl ?_ ?_; rotate_left
    · intro w hSw; (try dsimp only at hSw); go_simp <;> with_reducible rfl
    try simp only [Act.put, pz]
    refine tkh 5 (v := ?_) rfl ?_ ?_; rotate_left
    · intro w hSw; (try dsimp only at hSw); go_simp <;> with_reducible rfl
    try simp only [Act.put, pz]
    refine tkh 6 (v := ?_) rfl ?_ ?_; rotate_left
    · intro w hSw; (try dsimp only at hSw); go_simp <;> with_reducible rfl
    try simp only [Act.put, pz]
    refine tkh 7 (v := ?_) rfl ?_ ?_; rotate_left
    · intro w hSw; (try dsimp only at hSw); go_simp <;> with_reducible rfl
    try simp only [Act.put, pz]
    refine tkh 8 (v := ?_) rfl ?_ ?_; rotate_left
    · intro w hSw; (try dsimp only at hSw); go_simp <;> with_reducible rfl
    try simp only [Act.put, pz]
    refine tkh 9 (v := ?_) rfl ?_ ?_; rotate_left
    · intro w hSw; (try dsimp only at hSw); go_simp <;> with_reducible rfl
    try simp only [Act.put, pz]
    refine wpAnyH_ready (rs := [10]) (by kernel_rfl) (by simp) (AllReadyH.cons rfl (fun K hK => ?_) AllReadyH.nil)
    refine step_delete_fm rfl (.tmp 19) (.tmp 25) rfl mrFiles intK Tryz.underlying129 bf q fl rfl (H1.out.mf.drewN 1) i hi rfl ?_
    intro w2 hf2 hc2
    have hc2' : Chg (fun b => b = bf) w1 w2 := ⟨hc2.os, hc2.tape, hc2.output, hc2.size, hc2.block⟩
    have BD2 := Lib.hid (H1.out.bd.chg hc2' hne.out.1)
    have MN2 := Lib.hid (H1.out.mn.chg hc2' hne.out.2.2.1.symm)
    have MS2 := Lib.hid (H1.out.ms.chg hc2' hne.out.2.2.2.1.symm)
    have C2 := Lib.hid hc2'
    have F2 := Lib.hid hf2
    refine hK.out _ _ ⟨(BD2.out.cell 0).trans rfl, (BD2.out.cell 1).trans rfl, HLK.out _ MN2.out⟩ (fun hHeld => ?_)
    clear hK K hf2 hc2 hc2'
    try simp only [Act.put, List.getElem_toArray, List.getElem_cons_zero, List.getElem_cons_succ]
    refine wpAnyH_done (by kernel_rfl) ?_ _
    have c1 : w2.cell? ⟨p, 1, none⟩ = some (.map (some bn)) := hHeld.2.1
    clear hHeld
    go_wp2_with ((at_delete; go_must (refine delete_fm rfl _ _ rfl mrNames strK Tryz.underlying130 bn q d.ns rfl MN2.out nm hl rfl ?_); intro w3 hf3 hc3; refine halt ?_))
    refine unhalt ?_
    have HF : Hid (RemQ W N p q d bf bn bs fl nm (.returned (.int .i64 0)) w3) := Lib.hid (by
      have c0 : Chg (fun b => b = p ∨ b = bf ∨ b = bn ∨ b = bs) W w1 := Chg.of_below B1.out _
      have c2 := chg4 c0 C2.out (fun k e => .inr (.inl e))
      have c3 := chg4 c2 hc3 (fun k e => .inr (.inr (.inl e)))
      have hle : ∀ j g', delM fl i j = some g' → fl j = some g' := fun j g' hj => by
        by_cases e : j = i
        · rw [e, delM_same] at hj; cases hj
        · rw [delM_other _ e] at hj; exact hj
      refine .inr ⟨i, HN.out, rfl, ?_, c3, H.out.gr_files c3 hle⟩
      refine H.out.fewer (d' := d.less nm i) hle c3 (fun j y hy => ?_) (fun j => ?_) (BD2.out.chg hc3 hne.out.2.1) (F2.out.chg hc3 hne.out.2.2.1) hf3 (MS2.out.chg hc3 hne.out.2.2.2.2.1.symm)
      · rw [Dk.less_fs] at hy
        by_cases e : j = i
        · rw [if_pos e] at hy; cases hy
        · rw [if_neg e] at hy; exact hy
      · rw [Dk.less_fs]
        by_cases e : j = i
        · rw [if_pos e, e, delM_same]; rfl
        · rw [if_neg e, delM_other _ e]; exact H.out.hf j)
    clear hf3 hc3 c1
    go_wp2_with fail
    go_ret
    exact HF.out
noncomputable def Dk.freed (d : Dk) (old other : List UInt8) : Dk := { d with fs := (match d.ns other with | some m => delM d.fs m | none => d.fs), ns := delM d.ns old }
noncomputable def flFreed (d : Dk) (other : List UInt8) (fl : Int → Option Nat) : Int → Option Nat := match d.ns other with
  | some m => delM fl m
  | none => fl
theorem Dk.freed_fs {d : Dk} {old other : List UInt8} (j : Int) : (d.freed old other).fs j = if d.ns other = some j then none else d.fs j := by
  unfold Dk.freed
  cases h : d.ns other with
  | none => simp
  | some m =>
    simp only
    by_cases e : j = m
    · rw [e, delM_same, if_pos rfl]
    · rw [delM_other _ e, if_neg (fun h => e (Option.some.inj h).symm)]
theorem flFreed_at {d : Dk} {other : List UInt8} {fl : Int → Option Nat} (j : Int) : flFreed d other fl j = if d.ns other = some j then none else fl j := by
  unfold flFreed
  cases h : d.ns other with
  | none => simp
  | some m =>
    simp only
    by_cases e : j = m
    · rw [e, delM_same, if_pos rfl]
    · rw [delM_other _ e, if_neg (fun h => e (Option.some.inj h).symm)]
theorem Dk.Ok.freed {d : Dk} {n : Nat} (h : d.Ok n) (hn : n + 1 < 1000000) {old other : List UInt8} (hne : old ≠ other) {i : Int} {x : Fl} (hi : d.ns old = some i) (hx : d.fs i = some x) : (d.freed old other).Un n i x other := by
  have hfs := d.freed_fs (old := old) (other := other)
  have hns : ∀ m, (d.freed old other).ns m = if m = old then none else d.ns m := fun m => by
    show delM d.ns old m = _
    by_cases e : m = old
    · rw [e, delM_same, if_pos rfl]
    · rw [delM_other _ e, if_neg e]
  have hf : ∀ {j y}, (d.freed old other).fs j = some y → d.ns other ≠ some j ∧ d.fs j = some y := fun {j y} hy => by
    rw [hfs] at hy
    by_cases e : d.ns other = some j
    · rw [if_pos e] at hy; cases hy
    · rw [if_neg e] at hy; exact ⟨e, hy⟩
  have hnn : ∀ {m j}, (d.freed old other).ns m = some j → m ≠ old ∧ d.ns m = some j := fun {m j} hj => by
    rw [hns] at hj
    by_cases e : m = old
    · rw [if_pos e] at hj; cases hj
    · rw [if_neg e] at hj; exact ⟨e, hj⟩
  have hin : ∀ {m m' j}, d.ns m = some j → d.ns m' = some j → m = m' := fun {m m' j} h1 h2 => by
    obtain ⟨y, h3, h4⟩ := h.at_ m j h1
    obtain ⟨y', h5, h6⟩ := h.at_ m' j h2
    rw [h3] at h5
    obtain rfl := Option.some.inj h5
    exact h4.symm.trans h6
  refine ⟨h.no, hn, fun m j hj => h.int m j (hnn hj).2, h.int old i hi, h.ser, fun m j hm hj => ?_, ?_, fun j y hy => h.len j y (hf hy).2, fun j y hj hy => ?_, fun j y _ hy => h.nok j y (hf hy).2, fun j y hy => h.la j y (hf hy).2, fun j y hy => h.ge j y (hf hy).2, fun m j _ hj => h.has m j (hnn hj).2⟩
  · obtain ⟨h1, h2⟩ := hnn hj
    refine ⟨fun e => h1 (hin h2 (by rw [e]; exact hi)), ?_⟩
    obtain ⟨y, h3, h4⟩ := h.at_ m j h2
    exact ⟨y, by rw [hfs, if_neg (fun e => hm (hin h2 e))]; exact h3, h4⟩
  · rw [hfs, if_neg (fun e => hne (hin hi e))]
    exact hx
  · obtain ⟨h1, h2⟩ := hf hy
    have h3 := h.back j y h2
    refine ⟨fun e => h1 (by rw [← e]; exact h3), ?_⟩
    rw [hns, if_neg (fun e => ?_)]
    · exact h3
    · rw [e, hi] at h3
      exact hj (Option.some.inj h3).symm
noncomputable def Dk.ren (d : Dk) (old other : List UInt8) (i : Int) (x : Fl) : Dk := (d.freed old other).named i other x
theorem Dk.Ok.ren {d : Dk} {n : Nat} (h : d.Ok n) (hn : n + 1 < 1000000) {old other : List UInt8} (hne : old ≠ other) {i : Int} {x : Fl} (hi : d.ns old = some i) (hx : d.fs i = some x) (ho : okName other) : (d.ren old other i x).Ok (n + 1) := (h.freed hn hne hi hx).named ho
def RenQ (W : World) (N p q : Nat) (d : Dk) (bf bn bs : Nat) (fl : Int → Option Nat) (old other : List UInt8) (e : Ending) (w' : World) : Prop :=
  (d.ns old = none ∧ e = .returned (.int .i64 141) ∧ Below W.heap.size W w') ∨ (∃ i, d.ns old = some i ∧ old = other ∧ e = .returned (.int .i64 0) ∧ Below W.heap.size W w') ∨ ∃ i x g, d.ns old = some i ∧ old ≠ other ∧ d.fs i = some x ∧ fl i = some g ∧ e = .returned (.int .i64 0) ∧ DW w' N p (q + 1) (d.ren old other i x) bf bn bs (flFreed d other fl) ∧ Chg (fun b => b = g ∨ b = p ∨ b = bf ∨ b = bn ∨ b = bs) W w' ∧ Gr W fl w' (flFreed d other fl)
theorem strB_beq (a b : List UInt8) : ((strB a).toList == (strB b).toList) = decide (a = b) := by
  rw [ByteArray.toList_eq, ByteArray.toList_eq]
  show (a == b) = _
  by_cases e : a = b
  · subst e; simp
  · rw [decide_eq_false e, beq_eq_false_iff_ne]
    exact e
set_option maxRecDepth 20000 in
set_option maxHeartbeats 1000000 in
theorem rename_any {W : World} {N p q qq : Nat} {d : Dk} {bf bn bs : Nat} {fl : Int → Option Nat} (h : DW W N p q d bf bn bs fl) (hd : d.Ok qq) (old other : List UInt8) (hl : okName old) (hl2 : okName other) (hm : MayC old true) (hm2 : MayC other true) (hq : q + 1 < 1000000) (_hqq : qq + 1 < 1000000) :
    Calls Tryz.prog 51 #[.pointer (some ⟨p, 0, none⟩), .string (strB old), .string (strB other)] W (RenQ W N p q d bf bn bs fl old other) := by
  have H := Lib.hid h; have HD := Lib.hid hd; have HM := Lib.hid (hm W); have HM2 := Lib.hid hm2
  have hI := hd.okInt
  have HI := Lib.hid hI
  clear h hd hm hm2 hI
  go_enter Tryz.func51, Tryz.ntmps51
  go_wp2_with fail
  refine HM.out.mono ?_
  rintro e w0 ⟨rfl, hb0⟩
  have B0 := Lib.hid hb0
  clear hb0 HM
  go_wp2_with fail
  refine (HM2.out w0).mono ?_
  rintro e w1 ⟨rfl, hb1⟩
  have B1 := Lib.hid (B0.out.trans (hb1.mono B0.out.size))
  have H1 := Lib.hid (H.out.keep B1.out)
  clear hb1 HM2
  have c1 : w1.cell? ⟨p, 1, none⟩ = some (.map (some bn)) := (H1.out.bd.cell 1).trans rfl
  have l1 := H1.out.mn.look_ok mrNames strK Tryz.underlying130 (zero_int w1) hl
  cases hn : d.ns old with
  | none =>
    rw [hn] at l1
    unfold lookV sV at l1
    have HF : Hid (RenQ W N p q d bf bn bs fl old other (.returned (.int .i64 141)) w1) := Lib.hid (.inl ⟨hn, rfl, B1.out⟩)
    clear hn
    go_wp2_with fail
    go_ret
    exact HF.out
  | some i =>
    rw [hn] at l1
    unfold lookV sV iV' at l1
    have HN := Lib.hid hn
    clear hn
    have hcmp := strB_beq old other
    by_cases hne : old = other
    · rw [decide_eq_true hne] at hcmp
      have HF : Hid (RenQ W N p q d bf bn bs fl old other (.returned (.int .i64 0)) w1) := Lib.hid (.inr (.inl ⟨i, HN.out, hne, rfl, B1.out⟩))
      clear hne
      go_wp2_with fail
      go_ret
      exact HF.out
    · rw [decide_eq_false hne] at hcmp
      have HNE := Lib.hid hne
      clear hne
      obtain ⟨x, g, hx, hxn, hg, hf⟩ := H.out.file HD.out HN.out
      have HX := Lib.hid hx; have HG := Lib.hid hg
      have hi := HI.out old i HN.out
      have hblk : Hid (p ≠ bf ∧ p ≠ bn ∧ bf ≠ bn ∧ bf ≠ bs ∧ bn ≠ bs ∧ p ≠ bs) := Lib.hid ⟨H1.out.mf.ne_blk H1.out.bd, H1.out.mn.ne_blk H1.out.bd, H1.out.lo.2.2.2.2.1, H1.out.lo.2.2.2.2.2.1, H1.out.lo.2.2.2.2.2.2, H1.out.ms.ne_blk H1.out.bd⟩
      have c0 : Hid (Chg (fun b => b = p ∨ b = bf ∨ b = bn ∨ b = bs) W w1) := Lib.hid (Chg.of_below B1.out _)
      have HOI : Hid (d.ns other ≠ some i) := Lib.hid (fun e => by
        obtain ⟨y, h3, h4⟩ := HD.out.at_ other i e
        obtain ⟨y', h5, h6⟩ := HD.out.at_ old i HN.out
        rw [h3] at h5
        obtain rfl := Option.some.inj h5
        exact HNE.out (h6.symm.trans h4))
      have HLS : Hid (∀ j g', flFreed d other fl j = some g' → fl j = some g') := Lib.hid (fun j g' hj => by
        rw [flFreed_at] at hj
        by_cases e : d.ns other = some j
        · rw [if_pos e] at hj; cases hj
        · rw [if_neg e] at hj; exact hj)
      have HFS : Hid (∀ j y, (d.freed old other).fs j = some y → d.fs j = some y) := Lib.hid (fun j y hj => by
        rw [Dk.freed_fs] at hj
        by_cases e : d.ns other = some j
        · rw [if_pos e] at hj; cases hj
        · rw [if_neg e] at hj; exact hj)
      have HSM : Hid (∀ j, (flFreed d other fl j).isSome = ((d.freed old other).fs j).isSome) := Lib.hid (fun j => by
        rw [Dk.freed_fs, flFreed_at]
        by_cases e : d.ns other = some j
        · rw [if_pos e, if_pos e]; rfl
        · rw [if_neg e, if_neg e]; exact H.out.hf j)
      have HGF : Hid (flFreed d other fl i = some g) := Lib.hid (by rw [flFreed_at, if_neg HOI.out]; exact HG.out)
      have HXF : Hid ((d.freed old other).fs i = some x) := Lib.hid (by rw [Dk.freed_fs, if_neg HOI.out]; exact HX.out)
      clear hx hg hf hxn
      have l2 := H1.out.mn.look_ok mrNames strK Tryz.underlying130 (zero_int w1) hl2
      cases hn2 : d.ns other with
      | none =>
        have HN2 := Lib.hid hn2
        rw [hn2] at l2
        unfold lookV sV at l2
        clear hn2
        go_wp2_with ((at_delete; go_must (refine delete_fm rfl _ _ rfl mrNames strK Tryz.underlying130 bn q d.ns rfl H1.out.mn old hl rfl ?_); intro w3 hf3 hc3; refine halt ?_))
        refine unhalt ?_
        have c3 := Lib.hid (chg4 c0.out hc3 (fun k e => .inr (.inr (.inl e))))
        have hfl : flFreed d other fl = fl := by unfold flFreed; rw [HN2.out]
        have D3 : Hid (DW w3 N p q (d.freed old other) bf bn bs (flFreed d other fl)) := Lib.hid (H.out.fewer (d' := d.freed old other) HLS.out c3.out HFS.out HSM.out (H1.out.bd.chg hc3 hblk.out.2.1) (by rw [hfl]; exact H1.out.mf.chg hc3 hblk.out.2.2.1) hf3 (H1.out.ms.chg hc3 hblk.out.2.2.2.2.1.symm))
        have CN := Lib.hid (named_any D3.out (by omega) other hl2 i hi g HGF.out x HXF.out (fun v hv => HD.out.ser0 other v hv))
        clear hf3 hc3 l1 l2 c1 hfl
        go_wp2_with fail
        refine CN.out.mono ?_
        rintro e w5 ⟨rfl, h5, hc5, hg5⟩
        have HF : Hid (RenQ W N p q d bf bn bs fl old other (.returned (.int .i64 0)) w5) := Lib.hid (.inr (.inr ⟨i, x, g, HN.out, HNE.out, HX.out, HG.out, rfl, h5, (c3.out.mono (fun _ _ e => .inr e)).trans hc5 (fun k _ e => by
          rcases e with e | e | e
          · exact .inl e
          · exact .inr (.inr (.inr (.inl e)))
          · exact .inr (.inr (.inr (.inr e)))), (H.out.gr_files c3.out HLS.out).trans hg5 c3.out.size⟩))
        clear h5 hc5 hg5
        go_wp2_with fail
        go_ret
        exact HF.out
      | some m =>
        have HN2 := Lib.hid hn2
        rw [hn2] at l2
        unfold lookV sV iV' at l2
        have c0' : w1.cell? ⟨p, 0, none⟩ = some (.map (some bf)) := (H1.out.bd.cell 0).trans rfl
        have hmi := HI.out other m HN2.out
        clear hn2
        go_wp2_with ((at_delete; go_must (refine delete_fm rfl _ _ rfl mrFiles intK Tryz.underlying129 bf q fl rfl H1.out.mf m hmi rfl ?_); intro w2 hf2 hc2; refine halt ?_))
        refine unhalt ?_
        have BD2 := Lib.hid (H1.out.bd.chg hc2 hblk.out.1)
        have MN2 := Lib.hid (H1.out.mn.chg hc2 hblk.out.2.2.1.symm)
        have MS2 := Lib.hid (H1.out.ms.chg hc2 hblk.out.2.2.2.1.symm)
        have c2 := Lib.hid (chg4 c0.out hc2 (fun k e => .inr (.inl e)))
        have F2 := Lib.hid hf2
        have d1 : w2.cell? ⟨p, 1, none⟩ = some (.map (some bn)) := (BD2.out.cell 1).trans rfl
        clear hf2 hc2 l1 l2 c1 c0'
        go_wp2_with ((at_delete; go_must (refine delete_fm rfl _ _ rfl mrNames strK Tryz.underlying130 bn q d.ns rfl MN2.out old hl rfl ?_); intro w3 hf3 hc3; refine halt ?_))
        refine unhalt ?_
        have c3 := Lib.hid (chg4 c2.out hc3 (fun k e => .inr (.inr (.inl e))))
        have hfl : flFreed d other fl = delM fl m := by unfold flFreed; rw [HN2.out]
        have D3 : Hid (DW w3 N p q (d.freed old other) bf bn bs (flFreed d other fl)) := Lib.hid (H.out.fewer (d' := d.freed old other) HLS.out c3.out HFS.out HSM.out (BD2.out.chg hc3 hblk.out.2.1) (by rw [hfl]; exact F2.out.chg hc3 hblk.out.2.2.1) hf3 (MS2.out.chg hc3 hblk.out.2.2.2.2.1.symm))
        have CN := Lib.hid (named_any D3.out (by omega) other hl2 i hi g HGF.out x HXF.out (fun v hv => HD.out.ser0 other v hv))
        clear hf3 hc3 d1 hfl
        go_wp2_with fail
        refine CN.out.mono ?_
        rintro e w5 ⟨rfl, h5, hc5, hg5⟩
        have HF : Hid (RenQ W N p q d bf bn bs fl old other (.returned (.int .i64 0)) w5) := Lib.hid (.inr (.inr ⟨i, x, g, HN.out, HNE.out, HX.out, HG.out, rfl, h5, (c3.out.mono (fun _ _ e => .inr e)).trans hc5 (fun k _ e => by
          rcases e with e | e | e
          · exact .inl e
          · exact .inr (.inr (.inr (.inl e)))
          · exact .inr (.inr (.inr (.inr e)))), (H.out.gr_files c3.out HLS.out).trans hg5 c3.out.size⟩))
        clear h5 hc5 hg5
        go_wp2_with fail
        go_ret
        exact HF.out
end Go.Proofs.YtlojmmcagglpoaaGreat
namespace Go.Proofs.YtlojmmcagglpoaaGreat
open Go.RowKit Go.Maps
attribute [local go_sem ↓] Go.wp_at_zero Go.wp_at_succ
def CloneQ (l : List UInt8) (W : World) (e : Ending) (w' : World) : Prop := ∃ v, e = .returned v ∧ OB w' W.heap.size v l ∧ Below W.heap.size W w'
set_option maxRecDepth 20000 in
theorem clone_any (W : World) (A : Option Addr) (n c : Nat) (l : List UInt8) (hr : RB W A n l) (hn : n ≤ 1000000000) : Calls Tryz.prog 96 #[.slice A n c] W (CloneQ l W) := by
  have HR := Lib.hid hr
  cases A with
  | none =>
    have h0 : n = 0 := by
      rcases Nat.eq_zero_or_pos n with h | h
      · exact h
      · obtain ⟨b, off, e, _⟩ := hr.2 h; cases e
    subst h0
    obtain rfl : l = [] := List.eq_nil_of_length_eq_zero hr.1
    clear hr
    have he : ∀ w : World, (binOp .eql 61 (.slice none 0 c) (.slice none 0 0)).run Tryz.prog w = .ok (.bool true) w := fun _ => rfl
    go_enter Tryz.func96, Tryz.ntmps96
    go_wp2_with fail
    go_ret
    exact ⟨_, rfl, OB.nil _ _, Below.refl _ _⟩
  | some a =>
    clear hr
    have he : ∀ w : World, (binOp .eql 61 (.slice (some a) n c) (.slice none 0 0)).run Tryz.prog w = .ok (.bool false) w := fun _ => rfl
    go_enter Tryz.func96, Tryz.ntmps96
    have O1 := Lib.hid (OB.fresh (w := W) (base := W.heap.size) (g := W.heap.size) rfl (Nat.le_refl _))
    have R1 := Lib.hid (HR.out.alloc (.cells #[] 5))
    have HS : Hid (W.heap.size ≤ (W.alloc (.cells #[] 5)).heap.size) := Lib.hid (by simp)
    go_wp2_with ((at_builtin; go_must (refine append_bytes rfl (.tmp 5) (.tmp 6) rfl W.heap.size (.slice (some ⟨W.heap.size, 0, none⟩) 0 0) [] rfl O1.out (some a) n c l rfl R1.out (by simp; omega) HS.out ?_); intro v3 w3 ho3 hg3 ha3; refine halt ?_))
    refine unhalt ?_
    have HF : Hid (CloneQ l W (.returned v3) w3) := Lib.hid ⟨v3, rfl, ho3, (Below.alloc (Below.refl _ _) (Nat.le_refl _) _).grown hg3 HS.out (fun k hk => (O1.out.lt k hk).1)⟩
    clear ho3 hg3 ha3
    go_wp2_with fail
    go_ret
    exact HF.out
def ReadQ (W : World) (d : Dk) (i gen off size : Int) (e : Ending) (w' : World) : Prop :=
  Below W.heap.size W w' ∧ (((off < 0 ∨ size < 0) ∧ e = .returned (.tuple #[.slice none 0 0, .int .i64 1])) ∨ (0 ≤ off ∧ 0 ≤ size ∧ d.fs i = none ∧ e = .returned (.tuple #[.slice none 0 0, .int .i64 143])) ∨
    ∃ x, 0 ≤ off ∧ 0 ≤ size ∧ d.fs i = some x ∧ (((x.ge : Int) ≠ gen ∧ e = .returned (.tuple #[.slice none 0 0, .int .i64 144])) ∨ ((x.ge : Int) = gen ∧ ∃ v, e = .returned (.tuple #[v, .int .i64 0]) ∧ OB w' W.heap.size v ((x.by_.drop off.toNat).take size.toNat))))
set_option maxRecDepth 20000 in
set_option maxHeartbeats 1000000 in
theorem read_any {W : World} {N p q qq : Nat} {d : Dk} {bf bn bs : Nat} {fl : Int → Option Nat} (h : DW W N p q d bf bn bs fl) (hd : d.Ok qq) (i gen off size : Int) (hi : okInt i) (hoff : okInt off) (hsize : okInt size) :
    Calls Tryz.prog 50 #[.pointer (some ⟨p, 0, none⟩), .int .i64 i, .int .i64 gen, .int .i64 off, .int .i64 size] W (ReadQ W d i gen off size) := by
  have H := Lib.hid h; have HD := Lib.hid hd
  clear h hd
  go_enter Tryz.func50, Tryz.ntmps50
  by_cases ho : off < 0
  · have HF : Hid (ReadQ W d i gen off size (.returned (.tuple #[.slice none 0 0, .int .i64 1])) W) := Lib.hid ⟨Below.refl _ _, .inl ⟨.inl ho, rfl⟩⟩
    go_wp2_with fail
    go_ret2
    exact HF.out
  by_cases hs : size < 0
  · have HF : Hid (ReadQ W d i gen off size (.returned (.tuple #[.slice none 0 0, .int .i64 1])) W) := Lib.hid ⟨Below.refl _ _, .inl ⟨.inr hs, rfl⟩⟩
    go_wp2_with fail
    go_ret2
    exact HF.out
  have HO : Hid (0 ≤ off ∧ 0 ≤ size) := Lib.hid ⟨by omega, by omega⟩
  have c0 : W.cell? ⟨p, 0, none⟩ = some (.map (some bf)) := (H.out.bd.cell 0).trans rfl
  have l0 := H.out.mf.look_ok mrFiles intK Tryz.underlying129 (zero_fptr W) hi
  unfold iV' at l0
  cases hx : d.fs i with
  | none =>
    have hg : fl i = none := by
      have := H.out.hf i
      rw [hx] at this
      exact Option.isNone_iff_eq_none.1 (by simpa using this)
    rw [hg] at l0
    unfold lookV at l0
    have HF : Hid (ReadQ W d i gen off size (.returned (.tuple #[.slice none 0 0, .int .i64 143])) W) := Lib.hid ⟨Below.refl _ _, .inr (.inl ⟨HO.out.1, HO.out.2, hx, rfl⟩)⟩
    clear hx hg
    go_wp2_with fail
    go_ret2
    exact HF.out
  | some x =>
    obtain ⟨g, hg⟩ : ∃ g, fl i = some g := by
      have := H.out.hf i
      rw [hx] at this
      exact Option.isSome_iff_exists.1 this
    rw [hg] at l0
    unfold lookV pV at l0
    obtain ⟨hNg, v, hbk, ho2⟩ := H.out.fw i g x hg hx
    obtain ⟨Av, cv, rfl, hcap, hcap2, hrb⟩ := OB.form ho2
    have hlen := HD.out.len i x hx
    obtain ⟨m, hm⟩ : ∃ m, m = x.by_.length := ⟨_, rfl⟩
    have g1 : W.cell? ⟨g, 1, none⟩ = some (.slice Av m cv) := (hbk.cell 1).trans (by rw [hm]; rfl)
    have g3 : W.cell? ⟨g, 3, none⟩ = some (.int .i64 (x.ge : Int)) := (hbk.cell 3).trans rfl
    have HX := Lib.hid hx
    rw [← hm] at hcap hlen hrb
    have HM := Lib.hid hm
    have HRB := Lib.hid hrb
    clear hx hg hbk ho2 hm hrb hNg
    by_cases hge : (x.ge : Int) = gen
    · have hne : ((x.ge : Int) != gen) = false := by simp [hge]
      by_cases hom : (m : Int) ≤ off
      · have HF : Hid (ReadQ W d i gen off size (.returned (.tuple #[.slice none 0 0, .int .i64 0])) W) := Lib.hid ⟨Below.refl _ _, .inr (.inr ⟨x, HO.out.1, HO.out.2, HX.out, .inr ⟨hge, _, rfl, by
          rw [List.drop_of_length_le (by rw [← HM.out]; have := HO.out.1; omega), List.take_nil]
          exact OB.nil _ _⟩⟩)⟩
        clear hge
        go_wp2_with fail
        go_ret2
        exact HF.out
      · obtain ⟨o, rfl⟩ := Int.eq_ofNat_of_zero_le HO.out.1
        obtain ⟨s, rfl⟩ := Int.eq_ofNat_of_zero_le HO.out.2
        have hom2 : (o : Int) < (m : Int) := by omega
        have HGE := Lib.hid hge
        clear hge
        go_upto_region 10 with fail
        obtain ⟨r, hr⟩ : ∃ r, r = m - o := ⟨_, rfl⟩
        obtain ⟨k, hk⟩ : ∃ k, k = min s r := ⟨_, rfl⟩
        obtain ⟨t, ht⟩ : ∃ t, t = o + k := ⟨_, rfl⟩
        have hw1 : IntKind.i64.wrap ((m : Int) - (o : Int)) = (r : Int) := by
          rw [show ((m : Int) - (o : Int)) = (r : Int) from by omega]
          rw [IntKind.wrap_i64]; omega
        have hmin : ∀ w : World, (Builtin.min_ #[3, 3] 3 #[.int .i64 (s : Int), .int .i64 (r : Int)]).run Tryz.prog w = .ok (.int .i64 (k : Int)) w := by
          intro w; rw [run_min_int2]; congr 2; omega
        have hw2 : IntKind.i64.wrap ((o : Int) + (k : Int)) = (t : Int) := by
          rw [show ((o : Int) + (k : Int)) = (t : Int) from by omega]
          rw [IntKind.wrap_i64]; omega
        have hs0 : (0 : Int) ≤ (o : Int) := by omega
        have hs1 : (o : Int) ≤ (t : Int) := by omega
        have hs2 : (t : Int) ≤ (cv : Int) := by omega
        have HRK : Hid (r = m - o ∧ k = min s r ∧ t = o + k) := Lib.hid ⟨hr, hk, ht⟩
        clear hr hk ht
        refine wp_region_any (by kernel_rfl) ?_
        change wpAny _ _ _ _ _ _ _ (World.drew _)
        refine wpAny_of_held (S := fun w' => w'.cell? ⟨g, 1, none⟩ = some (.slice Av m cv)) _ _ _ _ ?_
        have hHeld : (fun w' => w'.cell? ⟨g, 1, none⟩ = some (.slice Av m cv)) W.drew := g1
        refine tkh 0 (v := ?_) rfl ?_ ?_; rotate_left
        · intro w hSw; (try dsimp only at hSw); go_simp <;> with_reducible rfl
        try simp only [Act.put, pz]
        refine tkh 1 (v := ?_) rfl ?_ ?_; rotate_left
        · intro w hSw; (try dsimp only at hSw); go_simp <;> with_reducible rfl
        try simp only [Act.put, pz]
        refine tkh 2 (v := ?_) rfl ?_ ?_; rotate_left
        · intro w hSw; (try dsimp only at hSw); go_simp <;> with_reducible rfl
        try simp only [Act.put, pz]
        refine tkh 3 (v := ?_) rfl ?_ ?_; rotate_left
        · intro w hSw; (try dsimp only at hSw); go_simp <;> with_reducible rfl
        try simp only [Act.put, pz]
        refine tkh 4 (v := ?_) rfl ?_ ?_; rotate_left
        · intro w hSw; (try dsimp only at hSw); go_simp <;> with_reducible rfl
        try simp only [Act.put, pz]
        refine tkh 5 (v := ?_) rfl ?_ ?_; rotate_left
        · intro w hSw; (try dsimp only at hSw); go_simp <;> with_reducible rfl
        try simp only [Act.put, pz]
        refine tkh 6 (v := ?_) rfl ?_ ?_; rotate_left
        · intro w hSw; (try dsimp only at hSw); go_simp <;> with_reducible rfl
        try simp only [Act.put, pz]
        refine tkh 7 (v := ?_) rfl ?_ ?_; rotate_left
        · intro w hSw; (try dsimp only at hSw); go_simp <;> with_reducible rfl
        try simp only [Act.put, pz]
        refine tkh 8 (v := ?_) rfl ?_ ?_; rotate_left
        · intro w hSw; (try dsimp only at hSw); go_simp <;> with_reducible rfl
        try simp only [Act.put, pz]
        refine tkh 9 (v := ?_) rfl ?_ ?_; rotate_left
        · intro w hSw; (try dsimp only at hSw); go_simp <;> with_reducible rfl
        try simp only [Act.put, pz]
        refine tkh 10 (v := ?_) rfl ?_ ?_; rotate_left
        · intro w hSw; (try dsimp only at hSw); go_simp <;> with_reducible rfl
        try simp only [Act.put, pz]
        refine tkh 11 (v := ?_) rfl ?_ ?_; rotate_left
        · intro w hSw; (try dsimp only at hSw); go_simp <;> with_reducible rfl
        try simp only [Act.put, pz]
        refine tkh 12 (v := ?_) rfl ?_ ?_; rotate_left
        · intro w hSw; (try dsimp only at hSw); go_simp <;> with_reducible rfl
        try simp only [Act.put, pz]
        refine tkh 13 (v := ?_) rfl ?_ ?_; rotate_left
        · intro w hSw; (try dsimp only at hSw); go_simp <;> with_reducible rfl
        try simp only [Act.put, pz]
        refine tkh 14 (v := ?_) rfl ?_ ?_; rotate_left
        · intro w hSw; (try dsimp only at hSw); go_simp <;> with_reducible rfl
        try simp only [Act.put, pz]
        refine tkh 15 (v := ?_) rfl ?_ ?_; rotate_left
        · intro w hSw; (try dsimp only at hSw); go_simp <;> with_reducible rfl
        try simp only [Act.put, pz]
        refine tkh 16 (v := ?_) rfl ?_ ?_; rotate_left
        · intro w hSw; (try dsimp only at hSw); go_simp <;> with_reducible rfl
        try simp only [Act.put, pz]
        refine wpAnyH_ready (rs := [17]) (by kernel_rfl) (by simp) (AllReadyH.cons rfl (fun K hK => ?_) AllReadyH.nil)
        have hPrev := hHeld
        clear hHeld
        go_simp
        go_at_call 96
        have CL := clone_any W.drew (if cv = o then Av else Av.map (·.add o)) (t - o) (cv - o) ((x.by_.drop o).take k) (by
          have h1 := (HRB.out.drop (k := o) (by omega) (by omega : m ≤ cv)).take (k := k) (by rw [HRK.out.2.1, HRK.out.1]; omega)
          have e : t - o = k := by rw [HRK.out.2.2]; omega
          rw [e]
          exact h1) (by rw [HRK.out.2.2, HRK.out.2.1, HRK.out.1]; omega)
        refine CL.mono ?_
        rintro e w2 ⟨v2, rfl, ho2, hb2⟩
        have hb2' : Below W.heap.size W w2 := ⟨hb2.os, hb2.tape, hb2.output, hb2.size, hb2.block⟩
        have g2 : w2.cell? ⟨g, 1, none⟩ = some (.slice Av m cv) := cell_later hb2' g1
        have HF : Hid (ReadQ W d i gen o s (.returned (.tuple #[v2, .int .i64 0])) w2) := Lib.hid ⟨hb2', .inr (.inr ⟨x, HO.out.1, HO.out.2, HX.out, .inr ⟨HGE.out, v2, rfl, by
          have e : ((o : Int)).toNat = o := by omega
          have e2 : ((s : Int)).toNat = s := by omega
          rw [e, e2]
          have e3 : (x.by_.drop o).take s = (x.by_.drop o).take k := by
            rw [HRK.out.2.1, HRK.out.1, HM.out]
            rcases Nat.le_total s (x.by_.length - o) with h | h
            · rw [Nat.min_eq_left h]
            · rw [Nat.min_eq_right h, List.take_of_length_le (by rw [List.length_drop]; exact h), List.take_of_length_le (by rw [List.length_drop]; exact Nat.le_refl _)]
          rw [e3]
          exact ho2⟩⟩)⟩
        clear ho2 hb2 hb2' CL
        go_wp2_with fail
        refine hK.out _ _ (g2) (fun hHeld => ?_)
        clear hK K hPrev
        try simp only [Act.put, pz]
        refine tkh 18 (v := ?_) rfl ?_ ?_; rotate_left
        · intro w hSw; (try dsimp only at hSw); go_simp <;> with_reducible rfl
        try simp only [Act.put, pz]
        refine tkh 19 (v := ?_) rfl ?_ ?_; rotate_left
        · intro w hSw; (try dsimp only at hSw); go_simp <;> with_reducible rfl
        try simp only [Act.put, pz]
        refine wpAnyH_done (by kernel_rfl) ?_ _
        clear hHeld
        go_wp2_with fail
        go_ret2
        exact HF.out
    · have hne : ((x.ge : Int) != gen) = true := by simpa using hge
      have HF : Hid (ReadQ W d i gen off size (.returned (.tuple #[.slice none 0 0, .int .i64 144])) W) := Lib.hid ⟨Below.refl _ _, .inr (.inr ⟨x, HO.out.1, HO.out.2, HX.out, .inl ⟨hge, rfl⟩⟩)⟩
      clear hge
      go_wp2_with fail
      go_ret2
      exact HF.out
end Go.Proofs.YtlojmmcagglpoaaGreat
