/- Append of any text that a call can bring (the bound of XDiskAppend, widened). -/
import Derived.Test.YtlojmmcagglpoaaGreatUDiskC
import Derived.Test.YtlojmmcagglpoaaGreatUDiskFile
namespace Go.Proofs.YtlojmmcagglpoaaGreat
open Go.RowKit Go.Maps
theorem may_ok {nm : List UInt8} (h : mayB nm = true) : okName nm := by
  unfold okName
  unfold mayB at h
  simp at h
  omega
section
variable {W : World} {N : Nat} {C : Nat → Nat} {c p n : Nat} {d : Dk}
theorem create_g (h : DC W N C c p n d) (hn : n + 2 < 1000000) (nm : List UInt8) : Calls Tryz.prog 46 #[.pointer (some ⟨p, 0, none⟩), .string (strB nm)] W (StepQ W N C c p (n + 2) (d.create nm)) := by
  cases hb : mayB nm with
  | true => exact create_c h hn nm (may_ok hb)
  | false =>
    have hm := may_any nm
    unfold Dk.create
    rw [hb] at hm ⊢
    exact (create_bad p nm hm).mono fun e w' ⟨h1, h2⟩ => .same h hn h1 h2
theorem append_g (h : DC W N C c p n d) (hn : n + 2 < 1000000) (nm : List UInt8) (A : Option Addr) (m cp : Nat) (l : List UInt8) (hr : RB W A m l) (hm1 : m ≤ 1000000000) : Calls Tryz.prog 47 #[.pointer (some ⟨p, 0, none⟩), .string (strB nm), .slice A m cp] W (StepQ W N C c p (n + 2) (d.append nm l)) := by
  cases hb : mayB nm with
  | true => exact append_c h hn nm (may_ok hb) A m cp l hr hm1
  | false =>
    have hm := may_any nm
    unfold Dk.append
    rw [hb] at hm ⊢
    exact (append_bad p nm hm A m cp).mono fun e w' ⟨h1, h2⟩ => .same h hn h1 h2
theorem cut_g (h : DC W N C c p n d) (hn : n + 2 < 1000000) (nm : List UInt8) : Calls Tryz.prog 53 #[.pointer (some ⟨p, 0, none⟩), .string (strB nm)] W (StepQ W N C c p (n + 2) (d.cut nm)) := by
  cases hb : mayB nm with
  | true => exact cut_c h hn nm (may_ok hb)
  | false =>
    have hm := may_any nm
    unfold Dk.cut Dk.edits
    rw [hb] at hm ⊢
    exact (cut_bad p nm hm).mono fun e w' ⟨h1, h2⟩ => .same h hn h1 h2
theorem sync_g (h : DC W N C c p n d) (hn : n + 2 < 1000000) (nm : List UInt8) : Calls Tryz.prog 48 #[.pointer (some ⟨p, 0, none⟩), .string (strB nm)] W (StepQ W N C c p (n + 2) (d.sync nm)) := by
  cases hb : mayB nm with
  | true => exact sync_c h hn nm (may_ok hb)
  | false =>
    have hm := may_any nm
    unfold Dk.sync Dk.edits
    rw [hb] at hm ⊢
    exact (sync_bad p nm hm).mono fun e w' ⟨h1, h2⟩ => .same h hn h1 h2
theorem remove_g (h : DC W N C c p n d) (hn : n + 2 < 1000000) (nm : List UInt8) : Calls Tryz.prog 54 #[.pointer (some ⟨p, 0, none⟩), .string (strB nm)] W (StepQ W N C c p (n + 2) (d.remove nm)) := by
  cases hb : mayB nm with
  | true => exact remove_c h hn nm (may_ok hb)
  | false =>
    have hm := may_any nm
    unfold Dk.remove
    rw [hb] at hm ⊢
    exact (remove_bad p nm hm).mono fun e w' ⟨h1, h2⟩ => .same h hn h1 h2
theorem rename_g (h : DC W N C c p n d) (hn : n + 2 < 1000000) (old other : List UInt8) : Calls Tryz.prog 51 #[.pointer (some ⟨p, 0, none⟩), .string (strB old), .string (strB other)] W (StepQ W N C c p (n + 2) (d.rename old other)) := by
  cases hb : (mayB old && mayB other) with
  | true =>
    have h2 := hb
    rw [Bool.and_eq_true] at h2
    exact rename_c h hn old other (may_ok h2.1) (may_ok h2.2)
  | false =>
    have hm := may_any old
    have hm2 := may_any other
    unfold Dk.rename
    rw [hb]
    exact (rename_bad p old other _ _ hm hm2 hb).mono fun e w' ⟨h1, h2⟩ => .same h hn h1 h2
theorem stat_g (h : DC W N C c p n d) (nm : List UInt8) : Calls Tryz.prog 44 #[.pointer (some ⟨p, 0, none⟩), .string (strB nm)] W (AskQ W (d.stat nm)) := by
  cases hb : mayB nm with
  | true => exact stat_c h nm (may_ok hb)
  | false =>
    have hm := may_any nm
    unfold Dk.stat
    rw [hb] at hm ⊢
    exact (stat_bad p nm hm).mono fun e w' h => h
end
end Go.Proofs.YtlojmmcagglpoaaGreat
namespace Go.Proofs.YtlojmmcagglpoaaGreat
open Go.RowKit Go.Maps
set_option maxRecDepth 20000 in
set_option maxHeartbeats 1000000 in
theorem append_big {W : World} {N p q qq : Nat} {d : Dk} {bf bn bs : Nat} {fl : Int → Option Nat} (h : DW W N p q d bf bn bs fl) (hd : d.Ok qq) (nm : List UInt8) (hl : okName nm) (hm : MayC nm true) (A : Option Addr) (n c : Nat) (l : List UInt8) (hr : RB W A n l) (hn : n ≤ 140737488351232) :
    Calls Tryz.prog 47 #[.pointer (some ⟨p, 0, none⟩), .string (strB nm), .slice A n c] W (AppQ W N p q d bf bn bs fl nm l) := by
  have OF := Lib.hid (of_any h hd.okInt nm hl hm)
  have H := Lib.hid h; have HD := Lib.hid hd; have HR := Lib.hid hr; have HN := Lib.hid hn
  clear h hd hm hr hn
  go_enter Tryz.func47, Tryz.ntmps47
  go_wp2_with fail
  refine OF.out.mono ?_
  rintro e w1 ⟨hb, hq⟩
  have HB := Lib.hid hb
  have H1 := Lib.hid (H.out.keep hb)
  have R1 := Lib.hid ((Chg.of_below hb (fun _ => False)).rb HR.out (fun _ _ _ e => e))
  rcases hq with ⟨h1, rfl⟩ | ⟨i, h1, rfl⟩
  · have HF : Hid (AppQ W N p q d bf bn bs fl nm l (.returned (.int .i64 141)) w1) := Lib.hid (.none h1 rfl hb)
    clear h1 hb OF
    go_wp2_with fail
    go_ret
    exact HF.out
  · obtain ⟨x, hx, _⟩ := HD.out.at_ nm i h1
    obtain ⟨g, hg⟩ : ∃ g, fl i = some g := by
      have := H.out.hf i
      rw [hx] at this
      exact Option.isSome_iff_exists.1 this
    rw [hg]
    unfold lookV pV
    obtain ⟨hNg, v, hbk, ho⟩ := H1.out.fw i g x hg hx
    have hlen := HD.out.len i x hx
    obtain ⟨Av, cv, rfl, hcap, hcap2, _⟩ := OB.form ho
    have HBK := Lib.hid hbk; have HOB := Lib.hid ho; have HG := Lib.hid hg; have HX := Lib.hid hx; have HNM := Lib.hid h1
    have g1 : w1.cell? ⟨g, 1, none⟩ = some (.slice Av x.by_.length cv) := (hbk.cell 1).trans rfl
    have f1 : w1.frozen? ⟨g, 1, none⟩ = false := hbk.frozen 1
    have hn : l.length = n := HR.out.1
    subst hn
    have hnl := HN.out
    obtain ⟨m, hm⟩ : ∃ m, m = x.by_.length := ⟨_, rfl⟩
    rw [← hm] at hlen g1 hcap
    obtain ⟨k, hk⟩ : ∃ k, k = l.length := ⟨_, rfl⟩
    rw [← hk] at hnl
    rw [← hk]
    have HM := Lib.hid hm; have HK := Lib.hid hk
    clear hm hk hbk ho hg hx h1 hb OF
    by_cases hf : 1048576 < m + k
    · have HF : Hid (AppQ W N p q d bf bn bs fl nm l (.returned (.int .i64 145)) w1) := Lib.hid (.full i x HNM.out HX.out (by rw [← HM.out, ← HK.out]; exact hf) rfl HB.out)
      have hc : (1048576 - (m : Int)) < (k : Int) := by omega
      go_wp2_with fail
      go_ret
      exact HF.out
    · have hc : ¬ (1048576 - (m : Int)) < (k : Int) := by omega
      go_wp2_with ((at_builtin; go_must (refine append_bytes rfl (.tmp 31) (.tmp 32) rfl N (.slice Av m cv) x.by_ rfl (by rw [HM.out]; exact HOB.out) A k c l rfl (by rw [HK.out]; exact R1.out) (by rw [← HM.out]; omega) (by have := H1.out.lo.1; have := H1.out.bd.lt; omega) ?_); intro v3 w3 ho3 hg3 ha3; refine halt ?_))
      refine unhalt ?_
      have O3 := Lib.hid ho3; have G3 := Lib.hid hg3; have A3 := Lib.hid ha3
      have hbg : (Value.slice Av m cv).ownBlock ≠ some g := by
        rw [HM.out]
        exact HBK.out.apart HOB.out (by decide)
      have B3 := Lib.hid (HBK.out.grown hg3 hbg)
      have c3 : w3.cell? ⟨g, 1, none⟩ = some (.slice Av x.by_.length cv) := (B3.out.cell 1).trans rfl
      have f3 : w3.frozen? ⟨g, 1, none⟩ = false := B3.out.frozen 1
      obtain ⟨A3', cap3, hv3, _⟩ := own_form ho3
      have HV3 := Lib.hid hv3
      have HBG := Lib.hid hbg
      clear ho3 hg3 ha3 hv3 hbg
      rw [HV3.out]
      have HF : Hid (AppQ W N p q d bf bn bs fl nm l (.returned (.int .i64 0)) (w3.setCell ⟨g, 1, none⟩ (.slice A3' (x.by_ ++ l).length cap3))) := Lib.hid (by
        rw [← HV3.out]
        obtain ⟨_, v0, hb0, ho0⟩ := H.out.fw i g x HG.out HX.out
        have hv0 : ∀ k, bytesAt W g k → v0.ownBlock = some k := fun k hk => by
          obtain ⟨u, h1, h2⟩ := hk
          rw [hb0.cell 1] at h1
          have : v0 = u := Option.some.inj h1
          rw [this]; exact h2
        have hold : ∀ k, (Value.slice Av m cv).ownBlock = some k → bytesAt W g k := fun k hk => bytesAt.back hb0.lt HB.out ⟨_, (HBK.out.cell 1).trans rfl, by rw [← HM.out]; exact hk⟩
        have C3 : Chg (fun b => b = g ∨ bytesAt W g b) w1 w3 := (Chg.refl _ w1).grown G3.out (fun k hk _ => .inr (hold k hk))
        have cAll : Chg (fun b => b = g ∨ bytesAt W g b) W (w3.setCell ⟨g, 1, none⟩ v3) := Chg.setCell ((Chg.of_below HB.out _).trans C3 (fun _ _ e => e)) (.inl (.inl rfl)) v3
        have hf := H.out
        have hvg : v3.ownBlock ≠ some g := fun e => by
          rcases A3.out with h | h
          · exact HBG.out (by rw [← h, e])
          · rw [e] at h
            have := HBK.out.lt
            have := Option.some.inj h
            omega
        have hfb : ∀ {k : Nat}, k ≠ g → v0.ownBlock ≠ some k → ¬ (k = g ∨ bytesAt W g k) := fun h1 h2 e => e.elim h1 (fun e => h2 (hv0 _ e))
        have hsz := HB.out.size
        have hoth : ∀ j g' y, j ≠ i → fl j = some g' → d.fs j = some y → N ≤ g' ∧ g' < W.heap.size ∧ ¬ (g' = g ∨ bytesAt W g g') ∧ FW (w3.setCell ⟨g, 1, none⟩ v3) N g' y := fun j g' y hne hj hy => by
          obtain ⟨hn1, v', hb', ho'⟩ := hf.fw j g' y hj hy
          have hg' : g' ≠ g := fun e => hne (hf.ap j i g' hj (by rw [e]; exact HG.out))
          have hnn := hfb hg' (hb'.apart ho0 (by decide))
          refine ⟨hn1, hb'.lt, hnn, v', hb'.chg cAll hnn, cAll.ob ho' (fun k hk e => ?_)⟩
          rcases e with e | e
          · exact hb0.apart ho' (by decide) (by rw [hk, e])
          · exact hne (hf.ab j i g' g k hj HG.out ⟨v', (hb'.cell 1).trans rfl, hk⟩ e)
        have hby : ∀ j g' k, j ≠ i → fl j = some g' → bytesAt (w3.setCell ⟨g, 1, none⟩ v3) g' k → bytesAt W g' k ∧ k < W.heap.size := fun j g' k hne hj hk => by
          obtain ⟨y, hy, _, v', hb', ho'⟩ := hf.at_ hj
          obtain ⟨_, _, hnn, _⟩ := hoth j g' y hne hj hy
          obtain ⟨u, h1, h2⟩ := hk
          rw [cAll.cell (p := ⟨g', 1, none⟩) hb'.lt hnn] at h1
          refine ⟨⟨u, h1, h2⟩, ?_⟩
          rw [hb'.cell 1] at h1
          have : v' = u := Option.some.inj h1
          subst this
          exact (ho'.lt k h2).2
        have hB4 : Blk (w3.setCell ⟨g, 1, none⟩ v3) g 182 (fcells { x with by_ := x.by_ ++ l } v3) := B3.out.set_ 1 v3
        have hbi : ∀ k, bytesAt (w3.setCell ⟨g, 1, none⟩ v3) g k → bytesAt W g k ∨ W.heap.size ≤ k := fun k hk => by
          obtain ⟨u, h1, h2⟩ := hk
          rw [hB4.cell 1] at h1
          have : v3 = u := Option.some.inj h1
          subst this
          rcases A3.out with h | h
          · exact .inl (hold k (by rw [← h, h2]))
          · rw [h2] at h
            have := Option.some.inj h
            exact .inr (by omega)
        have hfs : ∀ j, (d.app i x l).fs j = if j = i then some { x with by_ := x.by_ ++ l } else d.fs j := fun j => by
          show putM d.fs i _ j = _
          by_cases e : j = i
          · rw [e, putM_same, if_pos rfl]
          · rw [putM_other _ _ e, if_neg e]
        refine .done i x g HNM.out HX.out HG.out (by rw [← HM.out, ← HK.out]; omega) rfl ⟨hf.bd.chg cAll (hfb (hf.bd.ne_type hb0 (by decide)) (hf.bd.apart ho0 (by decide))), hf.mf.chg cAll (hfb (hf.mf.ne_blk hb0).symm (hf.mf.ne_own ho0)), hf.mn.chg cAll (hfb (hf.mn.ne_blk hb0).symm (hf.mn.ne_own ho0)), hf.ms.chg cAll (hfb (hf.ms.ne_blk hb0).symm (hf.ms.ne_own ho0)), hf.lo, fun j => ?_, fun j g' y hj hy => ?_, hf.ap, fun j j' g1 g2 k h1 h2 h3 h4 => ?_⟩ cAll ?_
        · rw [hfs j]
          by_cases e : j = i
          · rw [if_pos e, e, HG.out]; rfl
          · rw [if_neg e]; exact hf.hf j
        · rw [hfs j] at hy
          by_cases e : j = i
          · rw [if_pos e] at hy
            rw [e, HG.out] at hj
            obtain rfl := Option.some.inj hj
            obtain rfl := Option.some.inj hy
            exact ⟨hNg, v3, hB4, O3.out.set_far hvg v3⟩
          · rw [if_neg e] at hy
            obtain ⟨h1, _, _, h2⟩ := hoth j g' y e hj hy
            exact ⟨h1, h2⟩
        · by_cases e : j = i
          · by_cases e' : j' = i
            · rw [e, e']
            · rw [e, HG.out] at h1
              obtain rfl := Option.some.inj h1
              obtain ⟨h5, h6⟩ := hby j' g2 k e' h2 h4
              rcases hbi k h3 with h | h
              · exact e.trans (hf.ab i j' g g2 k HG.out h2 h h5)
              · omega
          · obtain ⟨h5, h6⟩ := hby j g1 k e h1 h3
            by_cases e' : j' = i
            · rw [e', HG.out] at h2
              obtain rfl := Option.some.inj h2
              rcases hbi k h4 with h | h
              · exact (hf.ab j i g1 g k h1 HG.out h5 h).trans e'.symm
              · omega
            · exact hf.ab j j' g1 g2 k h1 h2 h5 (hby j' g2 k e' h2 h4).1
        · intro j g' hj
          refine .inl ⟨hj, fun k hk => ?_⟩
          by_cases e : j = i
          · rw [e, HG.out] at hj
            obtain rfl := Option.some.inj hj
            exact hbi k hk
          · exact .inl (hby j g' k e hj hk).1)
      go_wp2_with fail
      go_ret
      have HE := HF.out
      rw [List.length_append] at HE
      exact HE
section
variable {W : World} {N : Nat} {C : Nat → Nat} {c p n : Nat} {d : Dk}
theorem append_cb (h : DC W N C c p n d) (hn : n + 2 < 1000000) (nm : List UInt8) (hl : okName nm) (A : Option Addr) (m cp : Nat) (l : List UInt8) (hr : RB W A m l) (hm1 : m ≤ 140737488351232) : Calls Tryz.prog 47 #[.pointer (some ⟨p, 0, none⟩), .string (strB nm), .slice A m cp] W (StepQ W N C c p (n + 2) (d.append nm l)) := by
  have hm := may_any nm
  unfold Dk.append
  cases hb : mayB nm with
  | false =>
    rw [hb] at hm
    exact (append_bad p nm hm A m cp).mono fun e w' ⟨h1, h2⟩ => .same h hn h1 h2
  | true =>
    rw [hb] at hm
    obtain ⟨bf, bn, bs, fl, h1, h2⟩ := h.dw
    refine (append_big h1 h.ok nm hl hm A m cp l hr hm1).mono ?_
    rintro e w' (⟨hi, he, hb⟩ | ⟨i, x, hi, hx, hf, he, hb⟩ | ⟨i, x, g, hi, hx, hg, hf, he, hd, hc, hgr⟩)
    · rw [if_pos rfl, Dk.file_none hi]; exact .same h hn he hb
    · obtain ⟨y, hy, _, hfl⟩ := h.ok.file hi
      rw [hx] at hy
      obtain rfl := Option.some.inj hy
      rw [if_pos rfl, hfl]
      simp only
      rw [if_pos hf]; exact .same h hn he hb
    · obtain ⟨y, hy, _, hfl⟩ := h.ok.file hi
      rw [hx] at hy
      obtain rfl := Option.some.inj hy
      rw [if_pos rfl, hfl]
      simp only
      rw [if_neg (by omega)]
      exact ⟨he, DC.of h1 h2 ((h.ok.app hx l hf).more (by omega) hn) (by omega) hd hc (fun b hb _ => by
        rcases hb with e | e
        · exact .inr (.inr (.inr (.inr ⟨i, g, hg, .inl e⟩)))
        · exact .inr (.inr (.inr (.inr ⟨i, g, hg, .inr e⟩)))) hgr⟩
theorem append_gb (h : DC W N C c p n d) (hn : n + 2 < 1000000) (nm : List UInt8) (A : Option Addr) (m cp : Nat) (l : List UInt8) (hr : RB W A m l) (hm1 : m ≤ 140737488351232) : Calls Tryz.prog 47 #[.pointer (some ⟨p, 0, none⟩), .string (strB nm), .slice A m cp] W (StepQ W N C c p (n + 2) (d.append nm l)) := by
  cases hb : mayB nm with
  | true => exact append_cb h hn nm (may_ok hb) A m cp l hr hm1
  | false =>
    have hm := may_any nm
    unfold Dk.append
    rw [hb] at hm ⊢
    exact (append_bad p nm hm A m cp).mono fun e w' ⟨h1, h2⟩ => .same h hn h1 h2
end
end Go.Proofs.YtlojmmcagglpoaaGreat
