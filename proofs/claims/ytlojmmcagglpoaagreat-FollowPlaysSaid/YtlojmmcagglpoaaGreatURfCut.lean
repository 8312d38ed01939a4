/- THE WALK of the document's Sync (heronref14; printed by a program of ours). -/
import Derived.Test.YtlojmmcagglpoaaGreatUTk
import Derived.Test.YtlojmmcagglpoaaGreatURegL
import Derived.Test.YtlojmmcagglpoaaGreatURfOpsB
import Derived.Deep.DrawnRows
namespace Go.Proofs.YtlojmmcagglpoaaGreat
open Go.RowKit Go.Maps
noncomputable def Rd.edits (r : Rd) (nm : List UInt8) (f : Ri → Ri) : Int × Rd := if mayB nm = true then (match r.is[r.file nm - 1]? with
  | none => (141, r)
  | some y => if r.file nm = 0 then (141, r) else (0, ⟨r.is.set (r.file nm - 1) (f y), r.ns⟩)) else (140, r)
theorem Rd.edits_bad {r : Rd} {nm : List UInt8} (hm : ¬ mayB nm = true) (f : Ri → Ri) : r.edits nm f = (140, r) := by unfold Rd.edits; rw [if_neg hm]
theorem Rd.edits_no {r : Rd} {nm : List UInt8} (hm : mayB nm = true) (h0 : r.file nm = 0) (f : Ri → Ri) : r.edits nm f = (141, r) := by
  unfold Rd.edits
  rw [if_pos hm]
  cases r.is[r.file nm - 1]? with
  | none => rfl
  | some y => simp only; rw [if_pos h0]
theorem Rd.edits_of {r : Rd} {nm : List UInt8} (hm : mayB nm = true) {k : Nat} (hk : r.file nm = k + 1) {y : Ri} (hy : r.is[k]? = some y) (f : Ri → Ri) : r.edits nm f = (0, ⟨r.is.set k (f y), r.ns⟩) := by
  unfold Rd.edits
  rw [if_pos hm, hk, Nat.add_sub_cancel, hy]
  simp only
  rw [if_neg (by omega)]
def Ri.cut (y : Ri) : Ri := { y with b := [], la := 0, ge := if 0 < y.b.length then y.ge + 1 else y.ge }
noncomputable def Rd.cut (r : Rd) (nm : List UInt8) : Int × Rd := r.edits nm Ri.cut
theorem RW.wipe {W : World} {N : Nat} {C : Nat → Nat} {c p g n cap : Nat} {us : List (Value × Ri)} {vn : Value} {r : Rd} (h : RW W N C c p us (.slice (some ⟨g, 0, none⟩) n cap) vn r) {k : Nat} {u : Value × Ri} (hk : us[k]? = some u) :
    (∃ us2, RW (W.setCell ⟨g, k * 4, none⟩ (.slice none 0 0)) N (paint C W.heap.size c) c p us2 (.slice (some ⟨g, 0, none⟩) n cap) vn ⟨r.is.set k { u.2 with b := [] }, r.ns⟩ ∧ us2[k]? = some (.slice none 0 0, { u.2 with b := [] })) ∧ Chg (fun b => C b = c) W (W.setCell ⟨g, k * 4, none⟩ (.slice none 0 0)) := by
  have h1 := h.put_b hk (l := []) (OB.nil W N) (World.grownBy.refl W _) (fun q hq => by cases hq)
  exact ⟨⟨_, h1.1, List.getElem?_set_self (List.getElem?_eq_some_iff.1 hk).1⟩, h1.2⟩
set_option maxRecDepth 20000 in
set_option maxHeartbeats 2000000 in
theorem rcut_any {W : World} {N : Nat} {C : Nat → Nat} {c p n : Nat} {r : Rd} (h : RC W N C c p r) (hok : r.Ok n) (nm : List UInt8) : Calls Tryz.prog 65 #[.pointer (some ⟨p, 0, none⟩), .string (strB nm)] W (RStepQ W N C c p (.int .i64 (r.cut nm).1) (r.cut nm).2) := by
  have CT := Lib.hid (rthere_any h (Nat.le_trans hok.nl hok.big) nm)
  have same : ∀ v : Int, r.cut nm = (v, r) → Hid (RStepQ W N C c p (.int .i64 (r.cut nm).1) (r.cut nm).2 (.returned (.int .i64 v)) W) := fun v e => Lib.hid (by rw [e]; exact RStepQ.same h rfl (Below.refl _ _))
  by_cases hm : mayB nm = true
  · by_cases h0 : r.file nm = 0
    · rw [Rd.there_no hm h0] at CT
      have HE := same 141 (Rd.edits_no hm h0 _)
      clear same h hok h0 hm
      go_enter Tryz.func65, Tryz.ntmps65
      go_wp2_with fail
      refine CT.out.mono ?_
      rintro e w2 ⟨rfl, rfl⟩
      go_wp2_with fail
      go_ret
      exact HE.out
    · obtain ⟨k, hk⟩ : ∃ k, r.file nm = k + 1 := ⟨r.file nm - 1, by omega⟩
      rw [Rd.there_of hm hk] at CT
      have hkr : k < r.is.length := by have := hok.file_le nm; omega
      obtain ⟨us, vi, vn, hw⟩ := h
      obtain ⟨u, hu, hu2⟩ := hw.inode hkr
      obtain ⟨A, cap, rfl, hc1, hc2, hA⟩ := hw.fi
      obtain ⟨g, rfl⟩ := hA (by rw [hw.len]; omega)
      obtain ⟨L, hL⟩ : ∃ L, L = us.length := ⟨_, rfl⟩
      have hkL : k < L := by rw [hL, hw.len]; exact hkr
      have hLb : L ≤ 1000000 := by rw [hL, hw.len]; exact Nat.le_trans hok.il hok.big
      rw [← hL] at hw
      have q0 : W.cell? ⟨p, 0, none⟩ = some (.slice (some ⟨g, 0, none⟩) L cap) := (hw.bd.cell 0).trans rfl
      obtain ⟨-, c0, -, c2, -⟩ := hw.ci_at hu
      have hob := hw.ob k u hu
      obtain ⟨v, y⟩ := u
      simp only at c0 c2 hob hu2
      obtain ⟨Av, cv, rfl, _, _, _⟩ := hob.form
      have hbl := hok.bl y (List.mem_of_getElem? hu2)
      have hge : y.ge ≤ 1000000 := Nat.le_trans (hok.ge y (List.mem_of_getElem? hu2)) hok.big
      have hap : r.cut nm = (0, ⟨r.is.set k y.cut, r.ns⟩) := Rd.edits_of hm hk hu2 _
      rw [hap]
      obtain ⟨b, hb⟩ : ∃ b, b = y.b.length := ⟨_, rfl⟩
      rw [← hb] at c0 hbl
      have HW := Lib.hid hw; have HU := Lib.hid hu; have HB := Lib.hid hb
      have hbi : (b : Int) ≤ 1048576 := by omega
      have hki : (k : Int) < (L : Int) := by omega
      have hk0 : (0 : Int) ≤ (k : Int) := by omega
      have hk3 : (k : Int) ≤ 1000000 := by omega
      have hg0 : (0 : Int) ≤ (y.ge : Int) := by omega
      have hg1 : (y.ge : Int) ≤ 1000000 := by omega
      have HZ : Hid (∀ (w : World) (C2 : Nat → Nat) (us2 : List (Value × Ri)) (r2 : Rd), RW w N C2 c p us2 (.slice (some ⟨g, 0, none⟩) L cap) vn r2 → (∀ j, w.frozen? ⟨g, j, none⟩ = false) ∧ w.cell? ⟨p, 0, none⟩ = some (.slice (some ⟨g, 0, none⟩) L cap)) := Lib.hid (fun w C2 us2 r2 h2 => ⟨fun j => by
        have h3 := h2.ri
        have h4 : L = us2.length := by
          obtain ⟨_, _, e, _⟩ := h2.fi
          injection e
        rw [← h4] at h3
        exact World.ownsRow.frozenAt h3 j, (h2.bd.cell 0).trans rfl⟩)
      clear same hw hu hob hb hap hm h0 hk hkr hc1 hA hL hok hu2
      go_enter Tryz.func65, Tryz.ntmps65
      go_wp2_with fail
      refine CT.out.mono ?_
      rintro e w2 ⟨rfl, rfl⟩
      go_upto_if 29 with fail
      go_cut [] (fun wx => ∃ us2, Hid (RW wx N C c p us2 (.slice (some ⟨g, 0, none⟩) L cap) vn ⟨r.is.set k { y with ge := y.cut.ge }, r.ns⟩ ∧ us2[k]? = some (.slice Av b cv, { y with ge := y.cut.ge }) ∧ Chg (fun b => C b = c) W wx))
      case first =>
        have f2 := (HZ.out _ _ _ _ HW.out).1 (k * 4 + 2)
        by_cases hpos : 0 < b
        · have hpi : 0 < (b : Int) := by omega
          have hp := HW.out.put_i (j := 2) (y := { y with ge := y.ge + 1 }) (v := .int .i64 ((y.ge + 1 : Nat) : Int)) HU.out (by decide) rfl rfl
          have HF : Hid (∃ us2, Hid (RW (W.setCell ⟨g, k * 4 + 2, none⟩ (.int .i64 ((y.ge : Int) + 1))) N C c p us2 (.slice (some ⟨g, 0, none⟩) L cap) vn ⟨r.is.set k { y with ge := y.cut.ge }, r.ns⟩ ∧ us2[k]? = some (.slice Av b cv, { y with ge := y.cut.ge }) ∧ Chg (fun b => C b = c) W (W.setCell ⟨g, k * 4 + 2, none⟩ (.int .i64 ((y.ge : Int) + 1))))) := Lib.hid ⟨_, Lib.hid (by
            have e1 : y.cut.ge = y.ge + 1 := by unfold Ri.cut; simp only; rw [if_pos (by rw [← HB.out]; exact hpos)]
            rw [e1]
            refine ⟨hp.1, ?_, hp.2⟩
            rw [List.getElem?_set_self (List.getElem?_eq_some_iff.1 HU.out).1, HB.out])⟩
          clear hp
          go_wp2_with fail
          go_meet
          exact HF.out
        · have hpi : ¬ 0 < (b : Int) := by omega
          have HF : Hid (∃ us2, Hid (RW W N C c p us2 (.slice (some ⟨g, 0, none⟩) L cap) vn ⟨r.is.set k { y with ge := y.cut.ge }, r.ns⟩ ∧ us2[k]? = some (.slice Av b cv, { y with ge := y.cut.ge }) ∧ Chg (fun b => C b = c) W W)) := Lib.hid ⟨us, Lib.hid (by
            have e1 : y.cut.ge = y.ge := by unfold Ri.cut; simp only; rw [if_neg (by rw [← HB.out]; exact hpos)]
            rw [e1]
            have e2 : r.is.set k y = r.is := by
              have h3 : r.is[k]? = some y := by rw [← HW.out.is, List.getElem?_map, HU.out]; rfl
              obtain ⟨h4, h5⟩ := List.getElem?_eq_some_iff.1 h3
              rw [← h5, List.set_getElem_self]
            have e3 : (⟨y.b, y.la, y.ge, y.out⟩ : Ri) = y := rfl
            refine ⟨by rw [e3, e2]; exact HW.out, by rw [HU.out, HB.out], Chg.refl _ _⟩)⟩
          go_wp2_with fail
          go_meet
          exact HF.out
      case rest =>
        obtain ⟨us2, hcut⟩ := hcut
        obtain ⟨wx, hwx⟩ : ∃ wx, wx = wc := ⟨_, rfl⟩
        rw [← hwx] at hcut ⊢
        clear hwx wc c0 c2 q0 HW HU
        obtain ⟨h1, h2, h3⟩ := hcut.out
        obtain ⟨⟨us3, h4, h5⟩, h6⟩ := h1.wipe h2
        have f1 := (HZ.out _ _ _ _ h1).1 (k * 4)
        have z1 : wx.cell? ⟨g, k * 4, none⟩ = some (.slice Av b cv) := (h1.ci_at h2).2.1
        have H4 := Lib.hid h4; have H5 := Lib.hid h5
        have HSZ : Hid (W.heap.size ≤ wx.heap.size) := Lib.hid h3.size
        have H36 : Hid (Chg (fun b => C b = c) W (wx.setCell ⟨g, k * 4, none⟩ (.slice none 0 0))) := Lib.hid (h3.trans h6 (fun _ _ e => e))
        clear h1 h2 h3 h4 h5 h6 hcut
        go_upto_region 8 with fail
        obtain ⟨wy, hwy⟩ : ∃ wy, wy = wx.setCell ⟨g, k * 4, none⟩ (.slice none 0 0) := ⟨_, rfl⟩
        rw [← hwy] at H4 H36 ⊢
        have f2 := (HZ.out _ _ _ _ H4.out).1 (k * 4 + 1)
        have z2 : wy.cell? ⟨g, k * 4 + 1, none⟩ = some (.int .i64 (y.la : Int)) := (H4.out.ci_at H5.out).2.2.1
        have hp := H4.out.put_i (j := 1) (y := y.cut) (v := .int .i64 0) H5.out (by decide) rfl rfl
        have HF : Hid (RStepQ W N C c p (.int .i64 0) ⟨r.is.set k y.cut, r.ns⟩ (.returned (.int .i64 0)) (wy.setCell ⟨g, k * 4 + 1, none⟩ (.int .i64 0))) := Lib.hid ⟨rfl, by
          have h7 := hp.1
          simp only [List.set_set] at h7
          exact ⟨_, _, _, h7.recol (C := C) (h0 := W.heap.size) (fun b hb => paint_old _ _ (Nat.lt_of_lt_of_le hb HSZ.out))⟩, H36.out.trans hp.2 (fun b hb e => by
            rwa [paint_old C c (Nat.lt_of_lt_of_le hb HSZ.out)] at e)⟩
        clear hp f1 z1 hwy H4 H5 H36
        go_wp2_with fail
        go_ret
        exact HF.out
  · rw [Rd.there_bad hm] at CT
    have HE := same 140 (Rd.edits_bad hm _)
    clear same h hok hm
    go_enter Tryz.func65, Tryz.ntmps65
    go_wp2_with fail
    refine CT.out.mono ?_
    rintro e w2 ⟨rfl, rfl⟩
    go_wp2_with fail
    go_ret
    exact HE.out
end Go.Proofs.YtlojmmcagglpoaaGreat
namespace Go.Proofs.YtlojmmcagglpoaaGreat
open Go.RowKit Go.Maps
attribute [local go_sem ↓] Go.wp_at_zero Go.wp_at_succ
def Ri.sync (y : Ri) : Ri := { y with la := y.b.length }
noncomputable def Rd.sync (r : Rd) (nm : List UInt8) : Int × Rd := r.edits nm Ri.sync
set_option maxRecDepth 20000 in
set_option maxHeartbeats 2000000 in
theorem rsync_any {W : World} {N : Nat} {C : Nat → Nat} {c p n : Nat} {r : Rd} (h : RC W N C c p r) (hok : r.Ok n) (nm : List UInt8) : Calls Tryz.prog 68 #[.pointer (some ⟨p, 0, none⟩), .string (strB nm)] W (RStepQ W N C c p (.int .i64 (r.sync nm).1) (r.sync nm).2) := by
  have CT := Lib.hid (rthere_any h (Nat.le_trans hok.nl hok.big) nm)
  have same : ∀ v : Int, r.sync nm = (v, r) → Hid (RStepQ W N C c p (.int .i64 (r.sync nm).1) (r.sync nm).2 (.returned (.int .i64 v)) W) := fun v e => Lib.hid (by rw [e]; exact RStepQ.same h rfl (Below.refl _ _))
  by_cases hm : mayB nm = true
  · by_cases h0 : r.file nm = 0
    · rw [Rd.there_no hm h0] at CT
      have HE := same 141 (Rd.edits_no hm h0 _)
      clear same h hok h0 hm
      go_enter Tryz.func68, Tryz.ntmps68
      go_wp2_with fail
      refine CT.out.mono ?_
      rintro e w2 ⟨rfl, rfl⟩
      go_wp2_with fail
      go_ret
      exact HE.out
    · obtain ⟨k, hk⟩ : ∃ k, r.file nm = k + 1 := ⟨r.file nm - 1, by omega⟩
      rw [Rd.there_of hm hk] at CT
      have hkr : k < r.is.length := by have := hok.file_le nm; omega
      obtain ⟨us, vi, vn, hw⟩ := h
      obtain ⟨u, hu, hu2⟩ := hw.inode hkr
      obtain ⟨A, cap, rfl, hc1, hc2, hA⟩ := hw.fi
      obtain ⟨g, rfl⟩ := hA (by rw [hw.len]; omega)
      obtain ⟨L, hL⟩ : ∃ L, L = us.length := ⟨_, rfl⟩
      have hkL : k < L := by rw [hL, hw.len]; exact hkr
      have hLb : L ≤ 1000000 := by rw [hL, hw.len]; exact Nat.le_trans hok.il hok.big
      have hri := hw.ri
      rw [← hL] at hw hri
      have q0 : W.cell? ⟨p, 0, none⟩ = some (.slice (some ⟨g, 0, none⟩) L cap) := (hw.bd.cell 0).trans rfl
      obtain ⟨-, c0, c1, -, -⟩ := hw.ci_at hu
      have f1 : W.frozen? ⟨g, k * 4 + 1, none⟩ = false := World.ownsRow.frozenAt hri _
      have hob := hw.ob k u hu
      obtain ⟨v, y⟩ := u
      simp only at c0 c1 hob hu2
      obtain ⟨Av, cv, rfl, _, _, _⟩ := hob.form
      have hbl := hok.bl y (List.mem_of_getElem? hu2)
      have hap : r.sync nm = (0, ⟨r.is.set k y.sync, r.ns⟩) := Rd.edits_of hm hk hu2 _
      rw [hap]
      have hp := hw.put_i (j := 1) (y := y.sync) (v := .int .i64 (y.b.length : Int)) hu (by decide) rfl rfl
      obtain ⟨b, hb⟩ : ∃ b, b = y.b.length := ⟨_, rfl⟩
      rw [← hb] at c0 hbl hp
      have HF : Hid (RStepQ W N C c p (.int .i64 0) ⟨r.is.set k y.sync, r.ns⟩ (.returned (.int .i64 0)) (W.setCell ⟨g, k * 4 + 1, none⟩ (.int .i64 (b : Int))).drew) := Lib.hid ⟨rfl, ⟨_, _, _, (hp.1.keep (Below.refl _ _).drew (Sam.refl _ _)).recol (C := C) (h0 := W.heap.size) (Sam.refl _ _)⟩, hp.2.drew⟩
      have hki : (k : Int) < (L : Int) := by omega
      have hk0 : (0 : Int) ≤ (k : Int) := by omega
      have hk3 : (k : Int) ≤ 1000000 := by omega
      have hwr : IntKind.i64.wrap (k : Int) = (k : Int) := by rw [IntKind.wrap_i64]; omega
      have x0 : (W.drew).cell? ⟨p, 0, none⟩ = some (.slice (some ⟨g, 0, none⟩) L cap) := q0
      have x1 : (W.drew).cell? ⟨g, k * 4, none⟩ = some (.slice Av b cv) := c0
      have x2 : (W.drew).cell? ⟨g, k * 4 + 1, none⟩ = some (.int .i64 (y.la : Int)) := c1
      have x3 : (W.drew).frozen? ⟨g, k * 4 + 1, none⟩ = false := f1
      clear same hw hri hu hob hb hap hm h0 hk hkr hc1 hA hL hok hu2 hp
      go_enter Tryz.func68, Tryz.ntmps68
      go_wp2_with fail
      refine CT.out.mono ?_
      rintro e w2 ⟨rfl, rfl⟩
      go_upto_region 4 with fail
      refine wp_region_any (by kernel_rfl) ?_
      change wpAny _ _ _ _ _ _ _ (World.drew _)
      refine any_of_L (S := SL 18 (fun w' => w'.cell? ⟨p, 0, none⟩ = some (.slice (some ⟨g, 0, none⟩) L cap) ∧ w'.cell? ⟨g, k * 4, none⟩ = some (.slice Av b cv))) _ _ _ _ ?_
      have hT0 : (fun w' => w'.cell? ⟨p, 0, none⟩ = some (.slice (some ⟨g, 0, none⟩) L cap) ∧ w'.cell? ⟨g, k * 4, none⟩ = some (.slice Av b cv)) W.drew := ⟨x0, x1⟩
      refine tkc 0 18 [1, 2, 3, 16, 17, 18] (v := ?_) rfl ?_ ?_ hT0; rotate_left
      · intro w hSw; obtain ⟨t0, t1⟩ := hSw; go_simp <;> with_reducible rfl
      try simp only [Act.put, pz]
      refine tkc 1 18 [2, 3, 16, 17, 18] (v := ?_) rfl ?_ ?_ hT0; rotate_left
      · intro w hSw; obtain ⟨t0, t1⟩ := hSw; go_simp <;> with_reducible rfl
      try simp only [Act.put, pz]
      refine tkc 2 18 [3, 16, 17, 18] (v := ?_) rfl ?_ ?_ hT0; rotate_left
      · intro w hSw; obtain ⟨t0, t1⟩ := hSw; go_simp <;> with_reducible rfl
      try simp only [Act.put, pz]
      refine tkc 3 18 [16, 17, 18] (v := ?_) rfl ?_ ?_ hT0; rotate_left
      · intro w hSw; obtain ⟨t0, t1⟩ := hSw; go_simp <;> with_reducible rfl
      try simp only [Act.put, pz]
      refine tkc 4 18 [5, 16, 17, 18] (v := ?_) rfl ?_ ?_ hT0; rotate_left
      · intro w hSw; obtain ⟨t0, t1⟩ := hSw; go_simp <;> with_reducible rfl
      try simp only [Act.put, pz]
      refine tkc 5 18 [16, 17, 18] (v := ?_) rfl ?_ ?_ hT0; rotate_left
      · intro w hSw; obtain ⟨t0, t1⟩ := hSw; go_simp <;> with_reducible rfl
      try simp only [Act.put, pz]
      refine tkc 6 18 [7, 8, 9, 12, 13, 14, 15, 18] (v := ?_) rfl ?_ ?_ hT0; rotate_left
      · intro w hSw; obtain ⟨t0, t1⟩ := hSw; go_simp <;> with_reducible rfl
      try simp only [Act.put, pz]
      refine tkc 7 18 [8, 9, 12, 13, 14, 15, 18] (v := ?_) rfl ?_ ?_ hT0; rotate_left
      · intro w hSw; obtain ⟨t0, t1⟩ := hSw; go_simp <;> with_reducible rfl
      try simp only [Act.put, pz]
      refine tkc 8 18 [9, 12, 13, 14, 15, 18] (v := ?_) rfl ?_ ?_ hT0; rotate_left
      · intro w hSw; obtain ⟨t0, t1⟩ := hSw; go_simp <;> with_reducible rfl
      try simp only [Act.put, pz]
      refine tkc 9 18 [12, 13, 14, 15, 18] (v := ?_) rfl ?_ ?_ hT0; rotate_left
      · intro w hSw; obtain ⟨t0, t1⟩ := hSw; go_simp <;> with_reducible rfl
      try simp only [Act.put, pz]
      refine tkc 10 18 [11, 12, 13, 14, 15, 18] (v := ?_) rfl ?_ ?_ hT0; rotate_left
      · intro w hSw; obtain ⟨t0, t1⟩ := hSw; go_simp <;> with_reducible rfl
      try simp only [Act.put, pz]
      refine tkc 11 18 [12, 13, 14, 15, 18] (v := ?_) rfl ?_ ?_ hT0; rotate_left
      · intro w hSw; obtain ⟨t0, t1⟩ := hSw; go_simp <;> with_reducible rfl
      try simp only [Act.put, pz]
      refine tkc 12 18 [13, 14, 15, 18] (v := ?_) rfl ?_ ?_ hT0; rotate_left
      · intro w hSw; obtain ⟨t0, t1⟩ := hSw; go_simp <;> with_reducible rfl
      try simp only [Act.put, pz]
      refine tkc 13 18 [14, 15, 18] (v := ?_) rfl ?_ ?_ hT0; rotate_left
      · intro w hSw; obtain ⟨t0, t1⟩ := hSw; go_simp <;> with_reducible rfl
      try simp only [Act.put, pz]
      refine tkc 14 18 [15, 18] (v := ?_) rfl ?_ ?_ hT0; rotate_left
      · intro w hSw; obtain ⟨t0, t1⟩ := hSw; go_simp <;> with_reducible rfl
      try simp only [Act.put, pz]
      refine tkc 15 18 [18] (v := ?_) rfl ?_ ?_ hT0; rotate_left
      · intro w hSw; obtain ⟨t0, t1⟩ := hSw; go_simp <;> with_reducible rfl
      try simp only [Act.put, pz]
      refine tkc 16 18 [17, 18] (v := ?_) rfl ?_ ?_ hT0; rotate_left
      · intro w hSw; obtain ⟨t0, t1⟩ := hSw; go_simp <;> with_reducible rfl
      try simp only [Act.put, pz]
      refine tkc 17 18 [18] (v := ?_) rfl ?_ ?_ hT0; rotate_left
      · intro w hSw; obtain ⟨t0, t1⟩ := hSw; go_simp <;> with_reducible rfl
      try simp only [Act.put, pz]
      refine anyL_ready (rs := [18]) (by kernel_rfl) (by simp) (AllL.cons rfl (fun K hK => ?_) AllL.nil)
      go_simp
      refine hK.out _ _ (SL.fin (by kernel_rfl)) ?_
      clear hK K hT0
      try simp only [Act.put, pz]
      refine anyL_done (by kernel_rfl) ?_ _
      go_wp2_with fail
      go_ret
      exact HF.out
  · rw [Rd.there_bad hm] at CT
    have HE := same 140 (Rd.edits_bad hm _)
    clear same h hok hm
    go_enter Tryz.func68, Tryz.ntmps68
    go_wp2_with fail
    refine CT.out.mono ?_
    rintro e w2 ⟨rfl, rfl⟩
    go_wp2_with fail
    go_ret
    exact HE.out
end Go.Proofs.YtlojmmcagglpoaaGreat
