/- THE WALK of the document's Inode (heronref14). -/
import Derived.Test.YtlojmmcagglpoaaGreatUTk
import Derived.Test.YtlojmmcagglpoaaGreatURegL
import Derived.Test.YtlojmmcagglpoaaGreatURfOpsB
import Derived.Deep.DrawnRows
namespace Go.Proofs.YtlojmmcagglpoaaGreat
open Go.RowKit Go.Maps
attribute [local go_sem ↓] Go.wp_at_zero Go.wp_at_succ
def emptyR : Rd := ⟨[], []⟩
set_option maxRecDepth 20000 in
theorem rnew_any (W : World) (C : Nat → Nat) (c : Nat) : Calls Tryz.prog 9 #[] W fun e w' => ∃ p, e = .returned (.pointer (some ⟨p, 0, none⟩)) ∧ RC w' W.heap.size (paint C W.heap.size c) c p emptyR ∧ Below W.heap.size W w' := by
  have HF : Hid (∃ p, Ending.returned (.pointer (some ⟨W.heap.size, 0, none⟩)) = .returned (.pointer (some ⟨p, 0, none⟩)) ∧ RC (W.alloc (.cells #[.slice none 0 0, .slice none 0 0] 47)) W.heap.size (paint C W.heap.size c) c p emptyR ∧ Below W.heap.size W (W.alloc (.cells #[.slice none 0 0, .slice none 0 0] 47))) := Lib.hid ⟨W.heap.size, rfl, ⟨[], .slice none 0 0, .slice none 0 0, rfl, Blk.new W _ _ rfl, World.ownsRow_nil _ _ _ 4, World.ownsRow_nil _ _ _ 3, fun k u h => (by simp at h), fun i j u u' g h => (by simp at h), Nat.le_refl _, paint_new C c (Nat.le_refl _), fun g h => (by cases h), fun g h => (by cases h), fun k u g h => (by simp at h)⟩, (Below.refl _ _).alloc (Nat.le_refl _) _⟩
  go_enter Tryz.func9, Tryz.ntmps9
  go_wp2_with fail
  go_ret
  exact HF.out
set_option maxRecDepth 20000 in
set_option maxHeartbeats 2000000 in
theorem rat_found {W : World} {N : Nat} {C : Nat → Nat} {c p : Nat} {r : Rd} (h : RC W N C c p r) (hn : r.ns.length ≤ 1000000) (nm : List UInt8) (hp : r.pos nm < r.ns.length) : Calls Tryz.prog 100 #[.pointer (some ⟨p, 0, none⟩), .string (strB nm)] W fun e w' => e = .returned (.int .i64 (r.pos nm : Int)) ∧ W = w' := by
  obtain ⟨us, vi, vn, hw⟩ := h
  obtain ⟨A, cap, rfl, hc1, hc2, hA⟩ := hw.fn
  have HW := Lib.hid hw
  obtain ⟨n, hnn⟩ : ∃ n, n = r.ns.length := ⟨_, rfl⟩
  have q1 : W.cell? ⟨p, 1, none⟩ = some (.slice A n cap) := (hw.bd.cell 1).trans (by rw [hnn]; rfl)
  rw [← hnn] at hn hc1 hA hp
  have HN := Lib.hid hnn
  obtain ⟨v, hv⟩ : ∃ v, v = r.pos nm := ⟨_, rfl⟩
  rw [← hv] at hp ⊢
  have HV := Lib.hid (And.intro hv hp)
  clear hw hnn hv hp
  go_enter Tryz.func100, Tryz.ntmps100
  go_wp2_with fail
  go_loopw [5] (fun s5 w => ∃ k : Nat, s5 = .int .i64 (k : Int) ∧ k ≤ n ∧ Hid (r.fresh nm k) ∧ W = w) (fun s5 _ => n - (intOf s5).toNat)
  case atStart => exact ⟨0, rfl, Nat.zero_le _, Lib.hid (Rd.fresh_zero r nm), rfl⟩
  case round =>
    obtain ⟨k, rfl, hk, HF, rfl⟩ := hrel
    by_cases hlt : k < n
    · have hki : (k : Int) < (n : Int) := by omega
      have hk0 : (0 : Int) ≤ (k : Int) := by omega
      have hk3 : (k : Int) ≤ 1000000 := by omega
      obtain ⟨g, rfl⟩ := hA (by omega)
      obtain ⟨x, hx⟩ : ∃ x, r.ns[k]? = some x := ⟨_, List.getElem?_eq_getElem (by have := HN.out; omega)⟩
      obtain ⟨-, c0, -, -⟩ := HW.out.cn_at hx
      have HX := Lib.hid hx
      clear hx
      by_cases e : x.nm = nm
      · have he : ((strB x.nm).toList == (strB nm).toList) = true := by rw [strB_eq, decide_eq_true e]
        have hvv : Hid (v = k) := Lib.hid (by rw [HV.out.1, Rd.pos_at HX.out e HF.out])
        clear e
        go_wp2_with fail
        go_ret
        exact ⟨by rw [hvv.out]; rfl, rfl⟩
      · have he : ((strB x.nm).toList == (strB nm).toList) = false := by rw [strB_eq, decide_eq_false e]
        have HF2 := Lib.hid (Rd.fresh_succ HF.out HX.out e)
        clear e
        go_wp2_with fail
        go_roundw
        case rel => exact ⟨k + 1, by go_num, by omega, HF2, trivial⟩
        case measure => simp [intOf]; omega
    · exfalso
      obtain rfl : k = n := by omega
      have h1 := Rd.pos_none (r := r) (nm := nm) (by rw [← HN.out]; exact HF.out)
      have h2 := HV.out
      have h3 := HN.out
      omega
noncomputable def Rd.sti (r : Rd) (nm : List UInt8) : Int × Int × Int × Int × Int := if mayB nm = true then (if r.file nm = 0 then (0, 0, 0, 0, 141) else match r.is[r.file nm - 1]?, r.ns[r.pos nm]? with
  | some y, some x => ((r.file nm : Int), (x.se : Int), (y.ge : Int), (y.b.length : Int), 0)
  | _, _ => (0, 0, 0, 0, 141)) else (0, 0, 0, 0, 140)
def stiV (t : Int × Int × Int × Int × Int) : Value := .tuple #[statV t.1 t.2.1 t.2.2.1 t.2.2.2.1, .int .i64 t.2.2.2.2]
def RAskQ (W : World) (t : Int × Int × Int × Int × Int) (e : Ending) (w' : World) : Prop := e = .returned (stiV t) ∧ Below W.heap.size W w'
set_option maxRecDepth 20000 in
set_option maxHeartbeats 4000000 in
theorem rstat_any {W : World} {N : Nat} {C : Nat → Nat} {c p n : Nat} {r : Rd} (h : RC W N C c p r) (hok : r.Ok n) (nm : List UInt8) : Calls Tryz.prog 45 #[.pointer (some ⟨p, 0, none⟩), .string (strB nm)] W (RAskQ W (r.sti nm)) := by
  obtain ⟨rb, hrb⟩ : ∃ rb, rb = W.heap.size := ⟨_, rfl⟩
  obtain ⟨w1, hw1⟩ : ∃ w1, w1 = W.alloc (.cells #[.int .i64 0, .int .i64 0, .int .i64 0, .int .i64 0] 119) := ⟨_, rfl⟩
  have B1 : Hid (Below W.heap.size W w1) := Lib.hid (by rw [hw1]; exact (Below.refl _ _).alloc (Nat.le_refl _) _)
  have K1 : Hid (Blk w1 rb 119 #[.int .i64 0, .int .i64 0, .int .i64 0, .int .i64 0]) := Lib.hid (by rw [hw1]; exact Blk.new W _ _ hrb)
  have HRB : Hid (W.heap.size ≤ rb ∧ rb = W.heap.size) := Lib.hid ⟨by omega, hrb⟩
  have h1 := h.keep B1.out (Sam.refl _ _)
  have CT := Lib.hid (rthere_any h1 (Nat.le_trans hok.nl hok.big) nm)
  have bad : ∀ v : Int, r.sti nm = (0, 0, 0, 0, v) → Hid (∀ w', Below W.heap.size W w' → Blk w' rb 119 #[.int .i64 0, .int .i64 0, .int .i64 0, .int .i64 0] → RAskQ W (r.sti nm) (.returned (.tuple #[.agg #[.int .i64 0, .int .i64 0, .int .i64 0, .int .i64 0], .int .i64 v])) w') := fun v e => Lib.hid (fun w' hb _ => by rw [e]; exact ⟨rfl, hb⟩)
  have f0 : w1.frozen? ⟨rb, 0, none⟩ = false := K1.out.frozen 0
  have f1 : w1.frozen? ⟨rb, 1, none⟩ = false := K1.out.frozen 1
  have f2 : w1.frozen? ⟨rb, 2, none⟩ = false := K1.out.frozen 2
  have f3 : w1.frozen? ⟨rb, 3, none⟩ = false := K1.out.frozen 3
  have k0 : w1.cell? ⟨rb, 0, none⟩ = some (.int .i64 0) := (K1.out.cell 0).trans rfl
  have k1 : w1.cell? ⟨rb, 1, none⟩ = some (.int .i64 0) := (K1.out.cell 1).trans rfl
  have k2 : w1.cell? ⟨rb, 2, none⟩ = some (.int .i64 0) := (K1.out.cell 2).trans rfl
  have k3 : w1.cell? ⟨rb, 3, none⟩ = some (.int .i64 0) := (K1.out.cell 3).trans rfl
  have badend : ∀ v : Int, r.sti nm = (0, 0, 0, 0, v) → v ≠ 0 → r.there nm = (0, v) → Calls Tryz.prog 45 #[.pointer (some ⟨p, 0, none⟩), .string (strB nm)] W (RAskQ W (r.sti nm)) := fun v e hv ht => by
    have HE := bad v e
    have CT2 := CT
    rw [ht] at CT2
    have hvi : (v == 0) = false := by rw [beq_eq_false_iff_ne]; exact hv
    clear bad h h1 hok CT e ht hv
    go_enter Tryz.func45, Tryz.ntmps45
    go_upto_region 1 with fail
    rw [← hw1, ← hrb]
    clear hw1 hrb
    go_wp2_with fail
    refine CT2.out.mono ?_
    rintro e w2 ⟨rfl, rfl⟩
    go_wp2_with fail
    have hB := ((((K1.out.set_ 0 (.int .i64 0)).set_ 1 (.int .i64 0)).set_ 2 (.int .i64 0)).set_ 3 (.int .i64 0))
    have hC : Below W.heap.size W ((((w1.setCell ⟨rb, 0, none⟩ (.int .i64 0)).setCell ⟨rb, 1, none⟩ (.int .i64 0)).setCell ⟨rb, 2, none⟩ (.int .i64 0)).setCell ⟨rb, 3, none⟩ (.int .i64 0)) := by
      have hr := HRB.out.1
      exact (((B1.out.setCell (by show W.heap.size ≤ rb; omega) _).setCell (by show W.heap.size ≤ rb; omega) _).setCell (by show W.heap.size ≤ rb; omega) _).setCell (by show W.heap.size ≤ rb; omega) _
    refine bodyPost_ret (v := .tuple #[.agg #[.int .i64 0, .int .i64 0, .int .i64 0, .int .i64 0], .int .i64 v]) (ret_stat rfl rfl rfl hB rfl) rfl ?_
    exact HE.out _ hC hB
  by_cases hm : mayB nm = true
  · by_cases h0 : r.file nm = 0
    · exact badend 141 (by unfold Rd.sti; rw [if_pos hm, if_pos h0]) (by decide) (Rd.there_no hm h0)
    · obtain ⟨k, hk⟩ : ∃ k, r.file nm = k + 1 := ⟨r.file nm - 1, by omega⟩
      rw [Rd.there_of hm hk] at CT
      have hkr : k < r.is.length := by have := hok.file_le nm; omega
      have hpos : r.pos nm < r.ns.length := by
        obtain ⟨x, hx, _⟩ := r.file_mem nm h0
        exact (List.getElem?_eq_some_iff.1 hx).1
      have HH := Lib.hid h1
      have HOK := Lib.hid (And.intro (Nat.le_trans hok.nl hok.big) hpos)
      obtain ⟨us, vi, vn, hw⟩ := h1
      obtain ⟨⟨v, y⟩, hu, hu2⟩ := hw.inode hkr
      simp only at hu2
      have hob := hw.ob k _ hu
      simp only at hob
      obtain ⟨Av, cv, hv, _, _, _⟩ := hob.form
      subst hv
      obtain ⟨A, cap, rfl, hc1, hc2, hA⟩ := hw.fi
      obtain ⟨g, rfl⟩ := hA (by rw [hw.len]; omega)
      obtain ⟨A2, cap2, rfl, hd1, hd2, hA2⟩ := hw.fn
      obtain ⟨g2, rfl⟩ := hA2 (by omega)
      obtain ⟨x, hx⟩ : ∃ x, r.ns[r.pos nm]? = some x := ⟨_, List.getElem?_eq_getElem hpos⟩
      obtain ⟨L, hL⟩ : ∃ L, L = us.length := ⟨_, rfl⟩
      obtain ⟨M, hM⟩ : ∃ M, M = r.ns.length := ⟨_, rfl⟩
      have hkL : k < L := by rw [hL, hw.len]; exact hkr
      have hLb : L ≤ 1000000 := by rw [hL, hw.len]; exact Nat.le_trans hok.il hok.big
      have hMb : M ≤ 1000000 := by rw [hM]; exact Nat.le_trans hok.nl hok.big
      rw [← hL, ← hM] at hw
      obtain ⟨i, hi⟩ : ∃ i, i = r.pos nm := ⟨_, rfl⟩
      have hiM : i < M := by rw [hi, hM]; exact hpos
      rw [← hi] at hx
      obtain ⟨b, hb⟩ : ∃ b, b = y.b.length := ⟨_, rfl⟩
      have hap : r.sti nm = ((k : Int) + 1, (x.se : Int), (y.ge : Int), (b : Int), 0) := by
        unfold Rd.sti
        rw [if_pos hm, if_neg h0, hk, Nat.add_sub_cancel, hu2, ← hi, hx]
        simp only
        rw [hb]; rfl
      rw [hap]
      have q0 : w1.cell? ⟨p, 0, none⟩ = some (.slice (some ⟨g, 0, none⟩) L cap) := (hw.bd.cell 0).trans rfl
      obtain ⟨-, c0, c1, c2, c3⟩ := hw.ci_at hu
      simp only at c0 c1 c2 c3
      rw [← hb] at c0
      have HXC : Hid (∀ w', Below w1.heap.size w1 w' → w'.cell? ⟨p, 1, none⟩ = some (.slice (some ⟨g2, 0, none⟩) M cap2) ∧ w'.cell? ⟨g2, i * 3 + 1, none⟩ = some (.int .i64 (x.se : Int))) := Lib.hid (fun w' hbw => by
        have h5 := hw.keep (C' := C) hbw (Sam.refl _ _)
        obtain ⟨-, -, d1, -⟩ := h5.cn_at hx
        exact ⟨(h5.bd.cell 1).trans rfl, d1⟩)
      have HIP := Lib.hid hi
      have hki : (k : Int) < (L : Int) := by omega
      have hk0' : (0 : Int) ≤ (k : Int) := by omega
      have hk3' : (k : Int) ≤ 1000000 := by omega
      have hii : (i : Int) < (M : Int) := by omega
      have hi0 : (0 : Int) ≤ (i : Int) := by omega
      clear bad badend hw hu hu2 hob hc1 hA hd1 hA2 hx hL hM hi hb hap hm h0 hk hkr hpos hok h
      go_enter Tryz.func45, Tryz.ntmps45
      go_upto_region 1 with fail
      rw [← hw1, ← hrb]
      clear hw1 hrb
      go_wp2_with fail
      refine CT.out.mono ?_
      rintro e w2 ⟨rfl, rfl⟩
      go_upto_region 5 with fail
      obtain ⟨wx, hwx⟩ : ∃ wx, wx = w1.alloc (.cells #[.slice Av b cv, .int .i64 (y.la : Int), .int .i64 (y.ge : Int), .bool y.out] 186) := ⟨_, rfl⟩
      obtain ⟨xb, hxb⟩ : ∃ xb, xb = w1.heap.size := ⟨_, rfl⟩
      have BX : Hid (Below w1.heap.size w1 wx) := Lib.hid (by rw [hwx]; exact (Below.refl _ _).alloc (Nat.le_refl _) _)
      have KX : Hid (Blk wx xb 186 #[.slice Av b cv, .int .i64 (y.la : Int), .int .i64 (y.ge : Int), .bool y.out]) := Lib.hid (by rw [hwx]; exact Blk.new w1 _ _ hxb)
      have KR : Hid (Blk wx rb 119 #[.int .i64 0, .int .i64 0, .int .i64 0, .int .i64 0]) := Lib.hid (K1.out.keep BX.out)
      rw [← hwx, ← hxb]
      have ca := rat_found (HH.out.keep BX.out (Sam.refl _ _)) HOK.out.1 nm HOK.out.2
      rw [← HIP.out] at ca
      have CA := Lib.hid ca
      clear hwx hxb ca q0 c0 c1 c2 c3 f0 f1 f2 f3 k0 k1 k2 k3
      go_wp2_with fail
      refine CA.out.mono ?_
      rintro e w3 ⟨rfl, rfl⟩
      have HTX := Lib.hid (HXC.out _ BX.out)
      go_upto_region 6 with fail
      refine wp_region_any (by kernel_rfl) ?_
      change wpAny _ _ _ _ _ _ _ (World.drew _)
      obtain ⟨wd, hwd⟩ : ∃ wd, wd = wx.drew := ⟨_, rfl⟩
      rw [← hwd]
      have hbd : Below w1.heap.size w1 wd := by rw [hwd]; exact BX.out.drew
      have hKR : Blk wd rb 119 #[.int .i64 0, .int .i64 0, .int .i64 0, .int .i64 0] := K1.out.keep hbd
      have hKX : Blk wd xb 186 #[.slice Av b cv, .int .i64 (y.la : Int), .int .i64 (y.ge : Int), .bool y.out] := by rw [hwd]; exact KX.out
      have HKR := Lib.hid hKR
      have HBD := Lib.hid hbd
      have y0 : wd.cell? ⟨rb, 0, none⟩ = some (.int .i64 0) := (hKR.cell 0).trans rfl
      have y1 : wd.cell? ⟨rb, 1, none⟩ = some (.int .i64 0) := (hKR.cell 1).trans rfl
      have y2 : wd.cell? ⟨rb, 2, none⟩ = some (.int .i64 0) := (hKR.cell 2).trans rfl
      have y3 : wd.cell? ⟨rb, 3, none⟩ = some (.int .i64 0) := (hKR.cell 3).trans rfl
      have v0 : wd.frozen? ⟨rb, 0, none⟩ = false := hKR.frozen 0
      have v1 : wd.frozen? ⟨rb, 1, none⟩ = false := hKR.frozen 1
      have v2 : wd.frozen? ⟨rb, 2, none⟩ = false := hKR.frozen 2
      have v3 : wd.frozen? ⟨rb, 3, none⟩ = false := hKR.frozen 3
      have hT0 : (fun w' => w'.cell? ⟨p, 1, none⟩ = some (.slice (some ⟨g2, 0, none⟩) M cap2) ∧ w'.cell? ⟨g2, i * 3 + 1, none⟩ = some (.int .i64 (x.se : Int)) ∧ w'.cell? ⟨xb, 2, none⟩ = some (.int .i64 (y.ge : Int)) ∧ w'.cell? ⟨xb, 0, none⟩ = some (.slice Av b cv)) wd := ⟨(HXC.out _ hbd).1, (HXC.out _ hbd).2, (hKX.cell 2).trans rfl, (hKX.cell 0).trans rfl⟩
      clear hwd hbd hKR hKX HTX
      refine any_of_L (S := SL 15 (fun w' => w'.cell? ⟨p, 1, none⟩ = some (.slice (some ⟨g2, 0, none⟩) M cap2) ∧ w'.cell? ⟨g2, i * 3 + 1, none⟩ = some (.int .i64 (x.se : Int)) ∧ w'.cell? ⟨xb, 2, none⟩ = some (.int .i64 (y.ge : Int)) ∧ w'.cell? ⟨xb, 0, none⟩ = some (.slice Av b cv))) _ _ _ _ ?_
      refine tkc 0 15 [14, 15] (v := ?_) rfl ?_ ?_ hT0; rotate_left
      · intro w hSw; obtain ⟨t0, t1, t2, t3⟩ := hSw; go_simp <;> with_reducible rfl
      try simp only [Act.put, pz]
      refine tkc 1 15 [2, 3, 4, 6, 7, 8, 14, 15] (v := ?_) rfl ?_ ?_ hT0; rotate_left
      · intro w hSw; obtain ⟨t0, t1, t2, t3⟩ := hSw; go_simp <;> with_reducible rfl
      try simp only [Act.put, pz]
      refine tkc 2 15 [3, 4, 6, 7, 8, 14, 15] (v := ?_) rfl ?_ ?_ hT0; rotate_left
      · intro w hSw; obtain ⟨t0, t1, t2, t3⟩ := hSw; go_simp <;> with_reducible rfl
      try simp only [Act.put, pz]
      refine tkc 3 15 [4, 6, 7, 8, 14, 15] (v := ?_) rfl ?_ ?_ hT0; rotate_left
      · intro w hSw; obtain ⟨t0, t1, t2, t3⟩ := hSw; go_simp <;> with_reducible rfl
      try simp only [Act.put, pz]
      refine tkc 4 15 [6, 7, 8, 14, 15] (v := ?_) rfl ?_ ?_ hT0; rotate_left
      · intro w hSw; obtain ⟨t0, t1, t2, t3⟩ := hSw; go_simp <;> with_reducible rfl
      try simp only [Act.put, pz]
      refine tkc 5 15 [6, 7, 8, 14, 15] (v := ?_) rfl ?_ ?_ hT0; rotate_left
      · intro w hSw; obtain ⟨t0, t1, t2, t3⟩ := hSw; go_simp <;> with_reducible rfl
      try simp only [Act.put, pz]
      refine tkc 6 15 [7, 8, 14, 15] (v := ?_) rfl ?_ ?_ hT0; rotate_left
      · intro w hSw; obtain ⟨t0, t1, t2, t3⟩ := hSw; go_simp <;> with_reducible rfl
      try simp only [Act.put, pz]
      refine tkc 7 15 [8, 14, 15] (v := ?_) rfl ?_ ?_ hT0; rotate_left
      · intro w hSw; obtain ⟨t0, t1, t2, t3⟩ := hSw; go_simp <;> with_reducible rfl
      try simp only [Act.put, pz]
      refine tkc 8 15 [14, 15] (v := ?_) rfl ?_ ?_ hT0; rotate_left
      · intro w hSw; obtain ⟨t0, t1, t2, t3⟩ := hSw; go_simp <;> with_reducible rfl
      try simp only [Act.put, pz]
      refine tkc 9 15 [10, 14, 15] (v := ?_) rfl ?_ ?_ hT0; rotate_left
      · intro w hSw; obtain ⟨t0, t1, t2, t3⟩ := hSw; go_simp <;> with_reducible rfl
      try simp only [Act.put, pz]
      refine tkc 10 15 [14, 15] (v := ?_) rfl ?_ ?_ hT0; rotate_left
      · intro w hSw; obtain ⟨t0, t1, t2, t3⟩ := hSw; go_simp <;> with_reducible rfl
      try simp only [Act.put, pz]
      refine tkc 11 15 [12, 13, 14, 15] (v := ?_) rfl ?_ ?_ hT0; rotate_left
      · intro w hSw; obtain ⟨t0, t1, t2, t3⟩ := hSw; go_simp <;> with_reducible rfl
      try simp only [Act.put, pz]
      refine tkc 12 15 [13, 14, 15] (v := ?_) rfl ?_ ?_ hT0; rotate_left
      · intro w hSw; obtain ⟨t0, t1, t2, t3⟩ := hSw; go_simp <;> with_reducible rfl
      try simp only [Act.put, pz]
      refine tkc 13 15 [14, 15] (v := ?_) rfl ?_ ?_ hT0; rotate_left
      · intro w hSw; obtain ⟨t0, t1, t2, t3⟩ := hSw; go_simp <;> with_reducible rfl
      try simp only [Act.put, pz]
      refine tkc 14 15 [15] (v := ?_) rfl ?_ ?_ hT0; rotate_left
      · intro w hSw; obtain ⟨t0, t1, t2, t3⟩ := hSw; go_simp <;> with_reducible rfl
      try simp only [Act.put, pz]
      refine anyL_ready (rs := [15]) (by kernel_rfl) (by simp) (AllL.cons rfl (fun K hK => ?_) AllL.nil)
      go_simp
      refine hK.out _ _ (SL.fin (by kernel_rfl)) ?_
      clear hK K hT0 y0 y1 y2 y3 v0 v1 v2 v3
      try simp only [Act.put, pz]
      refine anyL_ready (rs := [16]) (by kernel_rfl) (by simp) (AllL.cons rfl (fun K hK => ?_) AllL.nil)
      go_simp
      refine hK.out _ _ (SL.fin (by kernel_rfl)) ?_
      clear hK K
      try simp only [Act.put, pz]
      refine anyL_done (by kernel_rfl) ?_ _
      go_wp2_with fail
      have hB := ((((HKR.out.set_ 0 (.int .i64 ((k : Int) + 1))).set_ 1 (.int .i64 (x.se : Int))).set_ 2 (.int .i64 (y.ge : Int))).set_ 3 (.int .i64 (b : Int)))
      have hr := HRB.out.1
      have hC : Below W.heap.size W ((((wd.setCell ⟨rb, 0, none⟩ (.int .i64 ((k : Int) + 1))).setCell ⟨rb, 1, none⟩ (.int .i64 (x.se : Int))).setCell ⟨rb, 2, none⟩ (.int .i64 (y.ge : Int))).setCell ⟨rb, 3, none⟩ (.int .i64 (b : Int))) := by
        have h0 : Below W.heap.size W wd := B1.out.trans (HBD.out.mono B1.out.size)
        exact (((h0.setCell (by show W.heap.size ≤ rb; omega) _).setCell (by show W.heap.size ≤ rb; omega) _).setCell (by show W.heap.size ≤ rb; omega) _).setCell (by show W.heap.size ≤ rb; omega) _
      refine bodyPost_ret (v := .tuple #[.agg #[.int .i64 ((k : Int) + 1), .int .i64 (x.se : Int), .int .i64 (y.ge : Int), .int .i64 (b : Int)], .int .i64 0]) (ret_stat rfl rfl rfl hB rfl) rfl ?_
      exact ⟨rfl, hC⟩
  · exact badend 140 (by unfold Rd.sti; rw [if_neg hm]) (by decide) (Rd.there_bad hm)
end Go.Proofs.YtlojmmcagglpoaaGreat
namespace Go.Proofs.YtlojmmcagglpoaaGreat
open Go.RowKit Go.Maps
def Rd.ofIno (r : Rd) (i : Int) : Option Rn := r.ns.find? (fun x => decide (0 < i) && ((x.ino : Int) == i))
noncomputable def Rd.inode (r : Rd) (i : Int) : Int × Int × Int × Int × Int := match r.ofIno i with
  | some x => r.sti x.nm
  | none => (0, 0, 0, 0, 143)
def Rd.noIno (r : Rd) (i : Int) (k : Nat) : Prop := ∀ j x, j < k → r.ns[j]? = some x → (decide (0 < i) && ((x.ino : Int) == i)) = false
theorem Rd.ofIno_at {r : Rd} {i : Int} {k : Nat} {x : Rn} (hk : r.ns[k]? = some x) (hx : (decide (0 < i) && ((x.ino : Int) == i)) = true) (hf : r.noIno i k) : r.ofIno i = some x := by
  unfold Rd.ofIno
  rw [List.find?_eq_some_iff_getElem]
  obtain ⟨h1, h2⟩ := List.getElem?_eq_some_iff.1 hk
  refine ⟨hx, k, h1, h2, fun j hj => ?_⟩
  have := hf j _ hj (List.getElem?_eq_getElem (by omega))
  rw [this]; rfl
theorem Rd.ofIno_none {r : Rd} {i : Int} (hf : r.noIno i r.ns.length) : r.ofIno i = none := by
  unfold Rd.ofIno
  rw [List.find?_eq_none]
  intro x hx
  obtain ⟨j, hj⟩ := List.getElem?_of_mem hx
  have := hf j x (List.getElem?_eq_some_iff.1 hj).1 hj
  rw [this]; decide
theorem Rd.noIno_succ {r : Rd} {i : Int} {k : Nat} {x : Rn} (h : r.noIno i k) (hk : r.ns[k]? = some x) (hx : (decide (0 < i) && ((x.ino : Int) == i)) = false) : r.noIno i (k + 1) := fun j y hj hy => by
  rcases Nat.lt_succ_iff_lt_or_eq.1 hj with h1 | rfl
  · exact h j y h1 hy
  · rw [hk] at hy
    obtain rfl := Option.some.inj hy
    exact hx
set_option maxRecDepth 20000 in
set_option maxHeartbeats 4000000 in
theorem rinode_any {W : World} {N : Nat} {C : Nat → Nat} {c p n : Nat} {r : Rd} (h : RC W N C c p r) (hok : r.Ok n) (i : Int) : Calls Tryz.prog 56 #[.pointer (some ⟨p, 0, none⟩), .int .i64 i] W (RAskQ W (r.inode i)) := by
  obtain ⟨rb, hrb⟩ : ∃ rb, rb = W.heap.size := ⟨_, rfl⟩
  obtain ⟨w1, hw1⟩ : ∃ w1, w1 = W.alloc (.cells #[.int .i64 0, .int .i64 0, .int .i64 0, .int .i64 0] 119) := ⟨_, rfl⟩
  have B1 : Hid (Below W.heap.size W w1) := Lib.hid (by rw [hw1]; exact (Below.refl _ _).alloc (Nat.le_refl _) _)
  have K1 : Hid (Blk w1 rb 119 #[.int .i64 0, .int .i64 0, .int .i64 0, .int .i64 0]) := Lib.hid (by rw [hw1]; exact Blk.new W _ _ hrb)
  have HRB : Hid (W.heap.size ≤ rb) := Lib.hid (by omega)
  have h1 := h.keep B1.out (Sam.refl _ _)
  have CS := Lib.hid (fun nm => rstat_any h1 hok nm)
  obtain ⟨us, vi, vn, hw⟩ := h1
  obtain ⟨A, cap, rfl, hc1, hc2, hA⟩ := hw.fn
  obtain ⟨M, hM⟩ : ∃ M, M = r.ns.length := ⟨_, rfl⟩
  have hMb : M ≤ 1000000 := by rw [hM]; exact Nat.le_trans hok.nl hok.big
  rw [← hM] at hw hA
  have q1 : w1.cell? ⟨p, 1, none⟩ = some (.slice A M cap) := (hw.bd.cell 1).trans rfl
  have HW := Lib.hid hw
  have HM := Lib.hid hM
  obtain ⟨⟨t0, t1, t2, t3, t4⟩, ht⟩ : ∃ t, t = r.inode i := ⟨_, rfl⟩
  rw [← ht]
  have HT := Lib.hid ht
  clear h hw hM ht hc1 hok
  go_enter Tryz.func56, Tryz.ntmps56
  go_upto_region 1 with fail
  rw [← hw1, ← hrb]
  clear hw1 hrb
  go_wp2_with fail
  go_loopw [6] (fun s6 w => ∃ k : Nat, s6 = .int .i64 (k : Int) ∧ k ≤ M ∧ Hid (r.noIno i k) ∧ w1 = w) (fun s6 _ => M - (intOf s6).toNat)
  case atStart => exact ⟨0, rfl, Nat.zero_le _, Lib.hid (fun j x hj => absurd hj (Nat.not_lt_zero _)), rfl⟩
  case round =>
    obtain ⟨k, rfl, hk, HF, rfl⟩ := hrel
    by_cases hlt : k < M
    · have hki : (k : Int) < (M : Int) := by omega
      have hk0 : (0 : Int) ≤ (k : Int) := by omega
      have hk3 : (k : Int) ≤ 1000000 := by omega
      obtain ⟨g, rfl⟩ := hA (by omega)
      obtain ⟨x, hx⟩ : ∃ x, r.ns[k]? = some x := ⟨_, List.getElem?_eq_getElem (by have := HM.out; omega)⟩
      obtain ⟨-, c0, -, c2⟩ := HW.out.cn_at hx
      have HX := Lib.hid hx
      clear hx
      by_cases hi : 0 < i
      · by_cases e : (x.ino : Int) = i
        · have he : ((x.ino : Int) == i) = true := by rw [beq_iff_eq]; exact e
          have HB : Hid (r.inode i = r.sti x.nm) := Lib.hid (by
            unfold Rd.inode
            rw [Rd.ofIno_at HX.out (by rw [decide_eq_true hi, he]; rfl) HF.out])
          have cs := CS.out x.nm
          rw [← HB.out, ← HT.out] at cs
          unfold RAskQ stiV statV at cs
          simp only at cs
          have CT := Lib.hid cs
          clear cs e CS
          go_wp2_with fail
          refine CT.out.mono ?_
          rintro e w3 ⟨rfl, hb3⟩
          have B3 : Hid (Below W.heap.size W w3) := Lib.hid (B1.out.trans (hb3.mono B1.out.size))
          have hK := K1.out.keep hb3
          have K3 := Lib.hid hK
          have y0 : w3.cell? ⟨rb, 0, none⟩ = some (.int .i64 0) := (hK.cell 0).trans rfl
          have y1 : w3.cell? ⟨rb, 1, none⟩ = some (.int .i64 0) := (hK.cell 1).trans rfl
          have y2 : w3.cell? ⟨rb, 2, none⟩ = some (.int .i64 0) := (hK.cell 2).trans rfl
          have y3 : w3.cell? ⟨rb, 3, none⟩ = some (.int .i64 0) := (hK.cell 3).trans rfl
          have v0 : w3.frozen? ⟨rb, 0, none⟩ = false := hK.frozen 0
          have v1 : w3.frozen? ⟨rb, 1, none⟩ = false := hK.frozen 1
          have v2 : w3.frozen? ⟨rb, 2, none⟩ = false := hK.frozen 2
          have v3 : w3.frozen? ⟨rb, 3, none⟩ = false := hK.frozen 3
          clear hb3 hK CT c0 c2 q1
          go_wp2_with fail
          have hB := ((((K3.out.set_ 0 (.int .i64 t0)).set_ 1 (.int .i64 t1)).set_ 2 (.int .i64 t2)).set_ 3 (.int .i64 t3))
          have hr := HRB.out
          have hC : Below W.heap.size W ((((w3.setCell ⟨rb, 0, none⟩ (.int .i64 t0)).setCell ⟨rb, 1, none⟩ (.int .i64 t1)).setCell ⟨rb, 2, none⟩ (.int .i64 t2)).setCell ⟨rb, 3, none⟩ (.int .i64 t3)) := (((B3.out.setCell (by show W.heap.size ≤ rb; omega) _).setCell (by show W.heap.size ≤ rb; omega) _).setCell (by show W.heap.size ≤ rb; omega) _).setCell (by show W.heap.size ≤ rb; omega) _
          refine bodyPost_ret (v := .tuple #[.agg #[.int .i64 t0, .int .i64 t1, .int .i64 t2, .int .i64 t3], .int .i64 t4]) (ret_stat rfl rfl rfl hB rfl) rfl ?_
          exact ⟨rfl, hC⟩
        · have he : ((x.ino : Int) == i) = false := by rw [beq_eq_false_iff_ne]; exact e
          have HF2 := Lib.hid (Rd.noIno_succ HF.out HX.out (by rw [he]; simp))
          clear e
          go_wp2_with fail
          go_roundw
          case rel => exact ⟨k + 1, by go_num, by omega, HF2, trivial⟩
          case measure => simp [intOf]; omega
      · have HF2 := Lib.hid (Rd.noIno_succ HF.out HX.out (by rw [decide_eq_false hi]; rfl))
        go_wp2_with fail
        go_roundw
        case rel => exact ⟨k + 1, by go_num, by omega, HF2, trivial⟩
        case measure => simp [intOf]; omega
    · obtain rfl : k = M := by omega
      have HB : Hid (t0 = 0 ∧ t1 = 0 ∧ t2 = 0 ∧ t3 = 0 ∧ t4 = 143) := Lib.hid (by
        have h2 := HT.out
        unfold Rd.inode at h2
        rw [Rd.ofIno_none (by rw [← HM.out]; exact HF.out)] at h2
        simpa using h2)
      have hK := K1.out
      have y0 : w1.cell? ⟨rb, 0, none⟩ = some (.int .i64 0) := (hK.cell 0).trans rfl
      have y1 : w1.cell? ⟨rb, 1, none⟩ = some (.int .i64 0) := (hK.cell 1).trans rfl
      have y2 : w1.cell? ⟨rb, 2, none⟩ = some (.int .i64 0) := (hK.cell 2).trans rfl
      have y3 : w1.cell? ⟨rb, 3, none⟩ = some (.int .i64 0) := (hK.cell 3).trans rfl
      have v0 : w1.frozen? ⟨rb, 0, none⟩ = false := hK.frozen 0
      have v1 : w1.frozen? ⟨rb, 1, none⟩ = false := hK.frozen 1
      have v2 : w1.frozen? ⟨rb, 2, none⟩ = false := hK.frozen 2
      have v3 : w1.frozen? ⟨rb, 3, none⟩ = false := hK.frozen 3
      clear hK CS
      go_wp2_with fail
      have hB := ((((K1.out.set_ 0 (.int .i64 0)).set_ 1 (.int .i64 0)).set_ 2 (.int .i64 0)).set_ 3 (.int .i64 0))
      have hr := HRB.out
      have hC : Below W.heap.size W ((((w1.setCell ⟨rb, 0, none⟩ (.int .i64 0)).setCell ⟨rb, 1, none⟩ (.int .i64 0)).setCell ⟨rb, 2, none⟩ (.int .i64 0)).setCell ⟨rb, 3, none⟩ (.int .i64 0)) := (((B1.out.setCell (by show W.heap.size ≤ rb; omega) _).setCell (by show W.heap.size ≤ rb; omega) _).setCell (by show W.heap.size ≤ rb; omega) _).setCell (by show W.heap.size ≤ rb; omega) _
      refine bodyPost_ret (v := .tuple #[.agg #[.int .i64 0, .int .i64 0, .int .i64 0, .int .i64 0], .int .i64 143]) (ret_stat rfl rfl rfl hB rfl) rfl ?_
      obtain ⟨e0, e1, e2, e3, e4⟩ := HB.out
      rw [e0, e1, e2, e3, e4]
      exact ⟨rfl, hC⟩
end Go.Proofs.YtlojmmcagglpoaaGreat
