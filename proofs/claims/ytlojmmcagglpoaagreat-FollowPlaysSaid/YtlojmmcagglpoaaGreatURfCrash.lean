/- THE WALK of the document's Crash (heronref14; printed by a program of ours). -/
import Derived.Test.YtlojmmcagglpoaaGreatUTk
import Derived.Test.YtlojmmcagglpoaaGreatUDiskKeep
import Derived.Test.YtlojmmcagglpoaaGreatURegL
import Derived.Test.YtlojmmcagglpoaaGreatURfCr
import Derived.Deep.DrawnRows
import Derived.BigQuiet
namespace Go.Proofs.YtlojmmcagglpoaaGreat
open Go.RowKit Go.Maps
attribute [local go_sem ↓] Go.wp_at_zero Go.wp_at_succ
section
variable {W : World} {N : Nat} {C : Nat → Nat} {c p g n cap : Nat} {us : List (Value × Ri)} {vn : Value} {r : Rd}
theorem RW.crash_cut (h : RW W N C c p us (.slice (some ⟨g, 0, none⟩) n cap) vn r) {k b cv nb : Nat} {Av : Option Addr} {y : Ri} (hk : us[k]? = some (.slice Av b cv, y)) (hn : nb ≤ b) :
    (∃ us2 C2, Sam W.heap.size C C2 ∧ RW (((W.setCell ⟨g, k * 4, none⟩ (.slice Av nb cv)).setCell ⟨g, k * 4 + 2, none⟩ (.int .i64 ((y.ge : Int) + 1))).setCell ⟨g, k * 4 + 1, none⟩ (.int .i64 (nb : Int))) N C2 c p us2 (.slice (some ⟨g, 0, none⟩) n cap) vn ⟨r.is.set k { y with b := y.b.take nb, ge := y.ge + 1, la := nb }, r.ns⟩) ∧
    Chg (fun b => C b = c) W (((W.setCell ⟨g, k * 4, none⟩ (.slice Av nb cv)).setCell ⟨g, k * 4 + 2, none⟩ (.int .i64 ((y.ge : Int) + 1))).setCell ⟨g, k * 4 + 1, none⟩ (.int .i64 (nb : Int))) := by
  have hl := (List.getElem?_eq_some_iff.1 hk).1
  have h1 := h.put_b hk (l := y.b.take nb) (OB.take (h.ob k _ hk) hn) (World.grownBy.refl W _) (fun q hq => .inl (by cases Av <;> exact hq))
  have h2 := h1.1.put_i (j := 2) (x := (.slice Av nb cv, { y with b := y.b.take nb })) (y := { y with b := y.b.take nb, ge := y.ge + 1 }) (v := .int .i64 ((y.ge : Int) + 1)) (List.getElem?_set_self hl) (by decide) rfl rfl
  have h3 := h2.1.put_i (j := 1) (x := (.slice Av nb cv, { y with b := y.b.take nb, ge := y.ge + 1 })) (y := { y with b := y.b.take nb, ge := y.ge + 1, la := nb }) (v := .int .i64 (nb : Int)) (List.getElem?_set_self (by rw [List.length_set]; exact hl)) (by decide) rfl rfl
  refine ⟨?_, ?_⟩
  · have h4 := h3.1
    simp only [List.set_set] at h4
    exact ⟨_, paint C W.heap.size c, sam_paint _ _ _, h4⟩
  · refine (h1.2.trans (h2.2.trans h3.2 (fun b hb e => e)) (fun b hb e => ?_))
    rwa [paint_old C c hb] at e
theorem RW.crash_keep (h : RW W N C c p us (.slice (some ⟨g, 0, none⟩) n cap) vn r) {k b cv : Nat} {Av : Option Addr} {y : Ri} (hk : us[k]? = some (.slice Av b cv, y)) :
    (∃ us2 C2, Sam W.heap.size C C2 ∧ RW (W.setCell ⟨g, k * 4 + 1, none⟩ (.int .i64 (b : Int))) N C2 c p us2 (.slice (some ⟨g, 0, none⟩) n cap) vn ⟨r.is.set k { y with la := b }, r.ns⟩) ∧ Chg (fun b => C b = c) W (W.setCell ⟨g, k * 4 + 1, none⟩ (.int .i64 (b : Int))) := by
  have h3 := h.put_i (j := 1) (x := (.slice Av b cv, y)) (y := { y with la := b }) (v := .int .i64 (b : Int)) hk (by decide) rfl rfl
  exact ⟨⟨_, _, Sam.refl _ _, h3.1⟩, h3.2⟩
end
def CJ (W w : World) (N : Nat) (C : Nat → Nat) (c p : Nat) (vi vn : Value) (r : Rd) (keep : List Int) (j : Nat) : Prop := ∃ C' us, Sam W.heap.size C C' ∧ RW w N C' c p us vi vn ⟨(rcD keep r.is j).1, r.ns⟩ ∧ Chg (fun b => C b = c) W w
theorem CJ.step {W w w' : World} {N : Nat} {C C1 : Nat → Nat} {c p : Nat} {vi vn : Value} {r : Rd} {keep : List Int} {j : Nat} {y y' : Ri} (hs : Sam W.heap.size C C1) (hc : Chg (fun b => C b = c) W w) (hy : r.is[j]? = some y) (hy' : riF keep (rcD keep r.is j).2 y = y')
    (h2 : (∃ us2 C2, Sam w.heap.size C1 C2 ∧ RW w' N C2 c p us2 vi vn ⟨(rcD keep r.is j).1.set j y', r.ns⟩) ∧ Chg (fun b => C1 b = c) w w') : CJ W w' N C c p vi vn r keep (j + 1) := by
  obtain ⟨⟨us2, C2, hs2, h3⟩, hc2⟩ := h2
  have hst : (rcD keep r.is (j + 1)).1 = (rcD keep r.is j).1.set j y' := by
    rw [rcD_succ]; unfold rcS
    rw [(rcD_facts keep r.is j).2.2 j (Nat.le_refl _), hy, ← hy']
  exact ⟨C2, us2, hs.trans hs2 hc.size, by rw [hst]; exact h3, hc.trans hc2 (fun b hb e => by rw [← hs b hb]; exact e)⟩
theorem rcK (keep : List Int) (is : List Ri) {j : Nat} {y : Ri} (hy : is[j]? = some y) : (rcD keep is (j + 1)).2 = riK (rcD keep is j).2 y := by
  rw [rcD_succ]; unfold rcS
  rw [(rcD_facts keep is j).2.2 j (Nat.le_refl _), hy]
def RCrashQ (W : World) (N : Nat) (C : Nat → Nat) (c p : Nat) (r : Rd) (e : Ending) (w' : World) : Prop := e = .returned (.tuple #[]) ∧ RC w' N (paint C W.heap.size c) c p r ∧ Chg (fun b => C b = c) W w'
set_option maxRecDepth 20000 in
set_option maxHeartbeats 4000000 in
theorem rcrash_any {W : World} {N : Nat} {C : Nat → Nat} {c p n : Nat} {r : Rd} (h : RC W N C c p r) (hok : r.Ok n) {m cp : Nat} {A : Option Addr} {keep : List Int} (hr : RI W A m keep) (hm : m ≤ maxLen) (hra : 0 < m → ∀ ad, A = some ad → C ad.block ≠ c) : Calls Tryz.prog 69 #[.pointer (some ⟨p, 0, none⟩), .slice A m cp] W (RCrashQ W N C c p (r.crash keep)) := by
  obtain ⟨us, vi, vn, hw⟩ := h
  obtain ⟨Ai, cap, rfl, hc1, hc2, hA⟩ := hw.fi
  obtain ⟨L, hL⟩ : ∃ L, L = us.length := ⟨_, rfl⟩
  have hlr : L = r.is.length := by rw [hL, hw.len]
  have hLb : L ≤ 1000000 := by rw [hlr]; exact Nat.le_trans hok.il hok.big
  rw [← hL] at hw hA
  have HLR := Lib.hid hlr
  have HC : Hid (CJ W W N C c p (.slice Ai L cap) vn r keep 0) := Lib.hid ⟨C, us, Sam.refl _ _, hw, Chg.refl _ _⟩
  have HR := Lib.hid hr; have HRA := Lib.hid hra; have HOK := Lib.hid hok
  have HQ : Hid (∀ (w : World) (j : Nat), CJ W w N C c p (.slice Ai L cap) vn r keep j → (w.cell? ⟨p, 0, none⟩ = some (.slice Ai L cap))) := Lib.hid (fun w j hcj => by
    obtain ⟨C1, us1, _, h1, _⟩ := hcj
    exact (h1.bd.cell 0).trans rfl)
  clear hw hL hr hra hok hc1 hc2 hlr
  have hm9 : (m : Int) ≤ 9223372036854775807 := by unfold maxLen at hm; omega
  go_enter Tryz.func69, Tryz.ntmps69
  go_wp2_with fail
  go_loopw [4, 5] (fun s4 s5 w => ∃ j kc : Nat, s5 = .int .i64 (j : Int) ∧ j ≤ L ∧ s4 = .int .i64 (kc : Int) ∧ kc ≤ j ∧ Hid (kc = (rcD keep r.is j).2) ∧ Hid (CJ W w N C c p (.slice Ai L cap) vn r keep j)) (fun _ s5 _ => L - (intOf s5).toNat)
  case atStart => exact ⟨0, 0, rfl, Nat.zero_le _, rfl, Nat.le_refl _, Lib.hid rfl, HC⟩
  case round =>
    obtain ⟨j, kc, rfl, hj, rfl, hkj, HK, HJ⟩ := hrel
    clear HC
    have q0 := HQ.out _ _ HJ.out
    by_cases hlt : j < L
    · have hji : (j : Int) < (L : Int) := by omega
      have hj0 : (0 : Int) ≤ (j : Int) := by omega
      obtain ⟨g, rfl⟩ := hA (by omega)
      obtain ⟨y, hy⟩ : ∃ y, r.is[j]? = some y := ⟨_, List.getElem?_eq_getElem (by rw [← HLR.out]; exact hlt)⟩
      have HY := Lib.hid hy
      obtain ⟨C1, us1, hs1, h1, hch⟩ := HJ.out
      have hjl : j < (rcD keep r.is j).1.length := by rw [(rcD_facts keep r.is j).1, ← HLR.out]; exact hlt
      obtain ⟨u, hu, hu2⟩ := h1.inode hjl
      have hu3 : u.2 = y := by
        have h4 : (rcD keep r.is j).1[j]? = some u.2 := hu2
        rw [(rcD_facts keep r.is j).2.2 j (Nat.le_refl _), hy] at h4
        exact (Option.some.inj h4).symm
      have hob := h1.ob j u hu
      have hci := h1.ci_at hu
      obtain ⟨v, y'⟩ := u
      simp only at hu3 hob hci
      subst hu3
      obtain ⟨Av, cv, hv, hv1, hv2, _⟩ := hob.form
      subst hv
      obtain ⟨-, c0, c1, c2, -⟩ := hci
      have hbl := HOK.out.bl y' (List.mem_of_getElem? hy)
      have hla := HOK.out.la y' (List.mem_of_getElem? hy)
      have hge : y'.ge ≤ 1000000 := Nat.le_trans (HOK.out.ge y' (List.mem_of_getElem? hy)) HOK.out.big
      have hfz : ∀ i, wr.frozen? ⟨g, i, none⟩ = false := fun i => by
        have h3 := h1.ri
        have h4 : L = us1.length := by
          obtain ⟨_, _, e, _⟩ := h1.fi
          injection e
        rw [← h4] at h3
        exact World.ownsRow.frozenAt h3 i
      obtain ⟨b, hb⟩ : ∃ b, b = y'.b.length := ⟨_, rfl⟩
      obtain ⟨la, hl2⟩ : ∃ la, la = y'.la := ⟨_, rfl⟩
      obtain ⟨ge, hg2⟩ : ∃ ge, ge = y'.ge := ⟨_, rfl⟩
      obtain ⟨df, hdf⟩ : ∃ df : Nat, df = b - la := ⟨_, rfl⟩
      rw [← hb] at c0 hbl hla hv1 hu
      rw [← hl2] at c1 hla
      rw [← hg2] at c2 hge
      have hw1 : IntKind.i64.wrap ((b : Int) - (la : Int)) = (df : Int) := by rw [IntKind.wrap_i64]; omega
      have HRWn : Hid (RW wr N C1 c p us1 (.slice (some ⟨g, 0, none⟩) L cap) vn ⟨(rcD keep r.is j).1, r.ns⟩ ∧ us1[j]? = some (.slice Av b cv, y') ∧ Sam W.heap.size C C1 ∧ Chg (fun b => C b = c) W wr) := Lib.hid ⟨h1, hu, hs1, hch⟩
      have HEQ : Hid (b = y'.b.length ∧ la = y'.la ∧ ge = y'.ge ∧ df = b - la ∧ la ≤ b) := Lib.hid ⟨hb, hl2, hg2, hdf, hla⟩
      have d0 : ∀ q, (wr.drewN q).cell? ⟨g, j * 4, none⟩ = some (.slice Av b cv) := fun _ => c0
      have d1 : ∀ q, (wr.drewN q).cell? ⟨g, j * 4 + 1, none⟩ = some (.int .i64 (la : Int)) := fun _ => c1
      have d2 : ∀ q, (wr.drewN q).cell? ⟨g, j * 4 + 2, none⟩ = some (.int .i64 (ge : Int)) := fun _ => c2
      have dz : ∀ q i, (wr.drewN q).frozen? ⟨g, i, none⟩ = false := fun _ i => hfz i
      have RR : Hid (∀ q, RI (wr.drewN q) A m keep) := Lib.hid (fun q => (HR.out.chg hch (fun h0 ad e => HRA.out h0 ad e)).keep (below_drewN (Below.refl _ _) q))
      have hli : (la : Int) ≤ 1048576 := by omega
      have hbi : (b : Int) ≤ 1048576 := by omega
      have hgi : (ge : Int) ≤ 1000000 := by omega
      have hji3 : (j : Int) ≤ 1000000 := by omega
      clear hs1 h1 hch hu hu2 hob hb hl2 hg2 hdf hla hy hjl c0 c1 c2 hfz hbl hge hv2
      by_cases h0 : df = 0
      · have hd0 : ((df : Int) == 0) = true := by rw [h0]; rfl
        have HN1 : Hid (∀ q, CJ W (wr.drewN q) N C c p (.slice (some ⟨g, 0, none⟩) L cap) vn r keep (j + 1)) := Lib.hid (fun q => by
          obtain ⟨h1, h2, h3, h4⟩ := HRWn.out
          obtain ⟨e1, e2, e3, e4, e5⟩ := HEQ.out
          refine CJ.step (y' := y') h3 h4 HY.out (by unfold riF; rw [if_pos (by omega)]) ⟨⟨us1, C1, Sam.refl _ _, ?_⟩, Chg.of_below (below_drewN (Below.refl _ _) q) _⟩
          have e6 : (rcD keep r.is j).1.set j y' = (rcD keep r.is j).1 := by
            have h6 := (rcD_facts keep r.is j).2.2 j (Nat.le_refl _)
            rw [HY.out] at h6
            obtain ⟨h7, h8⟩ := List.getElem?_eq_some_iff.1 h6
            conv => lhs; rw [← h8]
            exact List.set_getElem_self h7
          rw [e6]
          exact h1.keep (below_drewN (Below.refl _ _) q) (Sam.refl _ _))
        have HK1 : Hid (kc = (rcD keep r.is (j + 1)).2) := Lib.hid (by
          obtain ⟨e1, e2, e3, e4, e5⟩ := HEQ.out
          rw [rcK keep r.is HY.out, ← HK.out]; unfold riK; rw [if_pos (by omega)])
        clear h0
        go_wp2_with fail
        go_quiet (fail)
        go_wp2_with fail
        go_roundw
        case rel => exact ⟨j + 1, kc, by go_num, by omega, rfl, by omega, HK1, Lib.hid (HN1.out nq)⟩
        case measure => simp [intOf]; omega
      · have hd0 : ((df : Int) == 0) = false := by rw [beq_eq_false_iff_ne]; omega
        have HK1 : Hid (kc + 1 = (rcD keep r.is (j + 1)).2) := Lib.hid (by
          obtain ⟨e1, e2, e3, e4, e5⟩ := HEQ.out
          rw [rcK keep r.is HY.out, ← HK.out]; unfold riK; rw [if_neg (by omega)])
        have HD0 : Hid (df ≠ 0) := Lib.hid h0
        clear h0
        go_wp2_with fail
        go_quiet (fail)
        go_upto_region 8 with fail
        obtain ⟨wz, hwz⟩ : ∃ wz, wz = wr.drewN nq := ⟨_, rfl⟩
        have e0 : wz.cell? ⟨g, j * 4, none⟩ = some (.slice Av b cv) := by rw [hwz]; exact d0 _
        have e1 : wz.cell? ⟨g, j * 4 + 1, none⟩ = some (.int .i64 (la : Int)) := by rw [hwz]; exact d1 _
        have e2 : wz.cell? ⟨g, j * 4 + 2, none⟩ = some (.int .i64 (ge : Int)) := by rw [hwz]; exact d2 _
        have ez : ∀ i, wz.frozen? ⟨g, i, none⟩ = false := fun i => by rw [hwz]; exact dz _ i
        have RZ : Hid (RI wz A m keep) := Lib.hid (by rw [hwz]; exact RR.out nq)
        have HRZ : Hid (RW wz N C1 c p us1 (.slice (some ⟨g, 0, none⟩) L cap) vn ⟨(rcD keep r.is j).1, r.ns⟩ ∧ us1[j]? = some (.slice Av b cv, y') ∧ Sam W.heap.size C C1 ∧ Chg (fun b => C b = c) W wz) := Lib.hid (by
          obtain ⟨h1, h2, h3, h4⟩ := HRWn.out
          rw [hwz]
          exact ⟨h1.keep (below_drewN (Below.refl _ _) nq) (Sam.refl _ _), h2, h3, h4.drewN nq⟩)
        rw [← hwz]
        clear hwz RR HRWn d0 d1 d2 dz q0 HJ
        obtain ⟨st, hst⟩ : ∃ st : Nat, st = (keep.getD kc 0).toNat := ⟨_, rfl⟩
        have HST := Lib.hid hst
        clear hst
        obtain ⟨gv, hgv⟩ : ∃ gv : Bool, gv = (decide (kc < m) && decide (0 < keep.getD kc 0)) := ⟨_, rfl⟩
        have HGV := Lib.hid hgv
        clear hgv
        go_cut [46] (fun s wx => s = .bool gv ∧ wx = wz)
        case first =>
          by_cases hkm : kc < m
          · have hkm1 : (kc : Int) < (m : Int) := by omega
            have hk0 : (0 : Int) ≤ (kc : Int) := by omega
            obtain ⟨bk, off, eA, hbk, hcs⟩ := RZ.out.2 (by omega)
            obtain ⟨kv, hkv⟩ : ∃ kv, keep[kc]? = some kv := ⟨_, List.getElem?_eq_getElem (by rw [RZ.out.1]; exact hkm)⟩
            have ck := hcs kc kv hkv
            have hg2 : gv = decide (0 < kv) := by rw [HGV.out, decide_eq_true hkm, List.getD_eq_getElem?_getD, hkv]; rfl
            subst eA
            have HG2 := Lib.hid hg2
            clear hg2 hkv hcs
            by_cases hpos : 0 < kv
            · have HGT : Hid (gv = true) := Lib.hid (by rw [HG2.out, decide_eq_true hpos])
              go_wp2_with fail
              go_meet
              exact ⟨by rw [HGT.out], rfl⟩
            · have HGT : Hid (gv = false) := Lib.hid (by rw [HG2.out, decide_eq_false hpos])
              go_wp2_with fail
              go_meet
              exact ⟨by rw [HGT.out], rfl⟩
          · have hkm1 : ¬ (kc : Int) < (m : Int) := by omega
            have HGT : Hid (gv = false) := Lib.hid (by rw [HGV.out, decide_eq_false hkm]; rfl)
            go_wp2_with fail
            go_meet
            exact ⟨by rw [HGT.out], rfl⟩
        case rest =>
        obtain ⟨rfl, hwc⟩ := hcut
        rw [hwc]
        clear hwc wc
        go_upto_if 46 with fail
        go_cut [8] (fun s wx => s = .int .i64 (st : Int) ∧ wx = wz)
        case first =>
          cases gv with
          | false =>
            have HS0 : Hid (st = 0) := Lib.hid (by
              rw [HST.out]
              have h1 := HGV.out.symm
              rw [Bool.and_eq_false_iff, decide_eq_false_iff_not, decide_eq_false_iff_not] at h1
              rcases h1 with h1 | h1
              · rw [List.getD_eq_getElem?_getD, List.getElem?_eq_none (by rw [RZ.out.1]; omega)]; rfl
              · omega)
            go_wp2_with fail
            go_meet
            exact ⟨by rw [HS0.out]; rfl, rfl⟩
          | true =>
            have h1 := HGV.out.symm
            rw [Bool.and_eq_true, decide_eq_true_iff, decide_eq_true_iff] at h1
            have hkm1 : (kc : Int) < (m : Int) := by omega
            have hk0 : (0 : Int) ≤ (kc : Int) := by omega
            obtain ⟨bk, off, eA, hbk, hcs⟩ := RZ.out.2 (by omega)
            obtain ⟨kv, hkv⟩ : ∃ kv, keep[kc]? = some kv := ⟨_, List.getElem?_eq_getElem (by rw [RZ.out.1]; exact h1.1)⟩
            have ck := hcs kc kv hkv
            have hkvs : Hid (kv = (st : Int)) := Lib.hid (by
              have h2 := h1.2
              rw [List.getD_eq_getElem?_getD, hkv] at h2
              have h3 : 0 < kv := h2
              rw [HST.out, List.getD_eq_getElem?_getD, hkv]
              show kv = ((kv.toNat : Nat) : Int)
              omega)
            subst eA
            clear hkv hcs h1
            go_wp2_with fail
            go_meet
            exact ⟨by rw [hkvs.out], rfl⟩
        case rest =>
          obtain ⟨rfl, hwc⟩ := hcut
          rw [hwc]
          clear hwc wc
          by_cases hsd : st < df
          · have hsi : (st : Int) < (df : Int) := by omega
            obtain ⟨nb, hnb⟩ : ∃ nb, nb = la + st := ⟨_, rfl⟩
            have hst9 : (st : Int) ≤ 1048576 := by have := HEQ.out.2.2.2.1; omega
            have hw2 : IntKind.i64.wrap ((la : Int) + (st : Int)) = (nb : Int) := by rw [IntKind.wrap_i64]; omega
            have hn0 : (0 : Int) ≤ (nb : Int) := by omega
            have hnb2 : nb ≤ b := by have := HEQ.out.2.2.2.1; omega
            have hncv : (nb : Int) ≤ (cv : Int) := by omega
            have HNB := Lib.hid hnb
            have HN1 : Hid (CJ W (((wz.drew.setCell ⟨g, j * 4, none⟩ (.slice Av nb cv)).setCell ⟨g, j * 4 + 2, none⟩ (.int .i64 ((ge : Int) + 1))).setCell ⟨g, j * 4 + 1, none⟩ (.int .i64 (nb : Int))) N C c p (.slice (some ⟨g, 0, none⟩) L cap) vn r keep (j + 1)) := Lib.hid (by
              obtain ⟨h1, h2, h3, h4⟩ := HRZ.out
              obtain ⟨q1, q2, q3, q4, q5⟩ := HEQ.out
              have hrn : riN keep (rcD keep r.is j).2 y' = nb := by
                unfold riN; rw [← HK.out, ← HST.out]; omega
              refine CJ.step (y' := { y' with b := y'.b.take nb, ge := ge + 1, la := nb }) (w := wz.drew) h3 h4.drew HY.out ?_ ?_
              · unfold riF
                rw [if_neg (by have := HD0.out; omega), hrn, if_pos (by omega), List.length_take, Nat.min_eq_left (by omega), q3]
              · have := (h1.keep (w' := wz.drew) (Below.refl _ _).drew (Sam.refl _ _)).crash_cut h2 hnb2
                rw [← q3] at this
                exact this)
            have ex : ((wz.drew).setCell ⟨g, j * 4, none⟩ (.slice Av nb cv)).cell? ⟨g, j * 4 + 2, none⟩ = some (.int .i64 (ge : Int)) := by
              refine (World.cell?_setCell_other (wz.drew) ⟨g, j * 4, none⟩ ⟨g, j * 4 + 2, none⟩ (.slice Av nb cv) (by simp)).trans e2
            clear hnb
            go_wp2_with fail
            refine wp_region_any (by kernel_rfl) ?_
            change wpAny _ _ _ _ _ _ _ (World.drew _)
            refine any_of_L (S := SL 14 (fun w' => w'.cell? ⟨g, j * 4, none⟩ = some (.slice Av b cv) ∧ w'.cell? ⟨g, j * 4 + 1, none⟩ = some (.int .i64 (la : Int)))) _ _ _ _ ?_
            have hT0 : (fun w' => w'.cell? ⟨g, j * 4, none⟩ = some (.slice Av b cv) ∧ w'.cell? ⟨g, j * 4 + 1, none⟩ = some (.int .i64 (la : Int))) wz.drew := ⟨e0, e1⟩
            refine tkc 0 14 [12, 13, 14] (v := ?_) rfl ?_ ?_ hT0; rotate_left
            · intro w hSw; obtain ⟨t0, t1⟩ := hSw; go_simp <;> with_reducible rfl
            try simp only [Act.put, pz]
            refine tkc 1 14 [2, 3, 4, 11, 14] (v := ?_) rfl ?_ ?_ hT0; rotate_left
            · intro w hSw; obtain ⟨t0, t1⟩ := hSw; go_simp <;> with_reducible rfl
            try simp only [Act.put, pz]
            refine tkc 2 14 [3, 4, 11, 14] (v := ?_) rfl ?_ ?_ hT0; rotate_left
            · intro w hSw; obtain ⟨t0, t1⟩ := hSw; go_simp <;> with_reducible rfl
            try simp only [Act.put, pz]
            refine tkc 3 14 [4, 11, 14] (v := ?_) rfl ?_ ?_ hT0; rotate_left
            · intro w hSw; obtain ⟨t0, t1⟩ := hSw; go_simp <;> with_reducible rfl
            try simp only [Act.put, pz]
            refine tkc 4 14 [11, 14] (v := ?_) rfl ?_ ?_ hT0; rotate_left
            · intro w hSw; obtain ⟨t0, t1⟩ := hSw; go_simp <;> with_reducible rfl
            try simp only [Act.put, pz]
            refine tkc 5 14 [6, 7, 8, 10, 11, 14] (v := ?_) rfl ?_ ?_ hT0; rotate_left
            · intro w hSw; obtain ⟨t0, t1⟩ := hSw; go_simp <;> with_reducible rfl
            try simp only [Act.put, pz]
            refine tkc 6 14 [7, 8, 10, 11, 14] (v := ?_) rfl ?_ ?_ hT0; rotate_left
            · intro w hSw; obtain ⟨t0, t1⟩ := hSw; go_simp <;> with_reducible rfl
            try simp only [Act.put, pz]
            refine tkc 7 14 [8, 10, 11, 14] (v := ?_) rfl ?_ ?_ hT0; rotate_left
            · intro w hSw; obtain ⟨t0, t1⟩ := hSw; go_simp <;> with_reducible rfl
            try simp only [Act.put, pz]
            refine tkc 8 14 [10, 11, 14] (v := ?_) rfl ?_ ?_ hT0; rotate_left
            · intro w hSw; obtain ⟨t0, t1⟩ := hSw; go_simp <;> with_reducible rfl
            try simp only [Act.put, pz]
            refine tkc 9 14 [10, 11, 14] (v := ?_) rfl ?_ ?_ hT0; rotate_left
            · intro w hSw; obtain ⟨t0, t1⟩ := hSw; go_simp <;> with_reducible rfl
            try simp only [Act.put, pz]
            refine tkc 10 14 [11, 14] (v := ?_) rfl ?_ ?_ hT0; rotate_left
            · intro w hSw; obtain ⟨t0, t1⟩ := hSw; go_simp <;> with_reducible rfl
            try simp only [Act.put, pz]
            refine tkc 11 14 [14] (v := ?_) rfl ?_ ?_ hT0; rotate_left
            · intro w hSw; obtain ⟨t0, t1⟩ := hSw; go_simp <;> with_reducible rfl
            try simp only [Act.put, pz]
            refine tkc 12 14 [13, 14] (v := ?_) rfl ?_ ?_ hT0; rotate_left
            · intro w hSw; obtain ⟨t0, t1⟩ := hSw; go_simp <;> with_reducible rfl
            try simp only [Act.put, pz]
            refine tkc 13 14 [14] (v := ?_) rfl ?_ ?_ hT0; rotate_left
            · intro w hSw; obtain ⟨t0, t1⟩ := hSw; go_simp <;> with_reducible rfl
            try simp only [Act.put, pz]
            have fz0 : (wz.drew).frozen? ⟨g, j * 4, none⟩ = false := ez _
            have cz0 : (wz.drew).cell? ⟨g, j * 4, none⟩ = some (.slice Av b cv) := e0
            refine anyL_ready (rs := [14]) (by kernel_rfl) (by simp) (AllL.cons rfl (fun K hK => ?_) AllL.nil)
            go_simp
            refine hK.out _ _ (SL.fin (by kernel_rfl)) ?_
            clear hK K hT0
            try simp only [Act.put, pz]
            refine anyL_done (by kernel_rfl) ?_ _
            obtain ⟨w5, hw5⟩ : ∃ w5, w5 = (wz.drew).setCell ⟨g, j * 4, none⟩ (.slice Av nb cv) := ⟨_, rfl⟩
            have z0 : w5.cell? ⟨g, j * 4, none⟩ = some (.slice Av nb cv) := by rw [hw5]; exact World.cell?_setCell_same' _ _ _ (by rw [cz0]; rfl)
            have z1 : w5.cell? ⟨g, j * 4 + 1, none⟩ = some (.int .i64 (la : Int)) := by rw [hw5]; exact (World.cell?_setCell_other (wz.drew) ⟨g, j * 4, none⟩ ⟨g, j * 4 + 1, none⟩ (.slice Av nb cv) (by simp)).trans e1
            have z2 : w5.cell? ⟨g, j * 4 + 2, none⟩ = some (.int .i64 (ge : Int)) := by rw [hw5]; exact ex
            have zz : ∀ i, w5.frozen? ⟨g, i, none⟩ = false := fun i => by rw [hw5, World.frozen?_setCell]; exact ez i
            have hdr : (wz.setCell ⟨g, j * 4, none⟩ (.slice Av nb cv)).drew = w5 := by rw [hw5]; rfl
            rw [← hw5] at HN1
            rw [hdr]
            clear hw5 ex hdr
            go_wp2_with fail
            go_roundw
            case rel => exact ⟨j + 1, kc + 1, by go_num, by omega, by go_num, by omega, HK1, HN1⟩
            case measure => simp [intOf]; omega
          · have hsi : ¬ (st : Int) < (df : Int) := by omega
            have HN1 : Hid (CJ W (wz.setCell ⟨g, j * 4 + 1, none⟩ (.int .i64 (b : Int))) N C c p (.slice (some ⟨g, 0, none⟩) L cap) vn r keep (j + 1)) := Lib.hid (by
              obtain ⟨h1, h2, h3, h4⟩ := HRZ.out
              obtain ⟨q1, q2, q3, q4, q5⟩ := HEQ.out
              have hrn : riN keep (rcD keep r.is j).2 y' = b := by
                unfold riN; rw [← HK.out, ← HST.out]; omega
              refine CJ.step (y' := { y' with la := b }) (w := wz) h3 h4 HY.out ?_ (h1.crash_keep h2)
              unfold riF
              have ht : y'.b.take b = y'.b := List.take_of_length_le (by omega)
              rw [if_neg (by have := HD0.out; omega), hrn, if_neg (by omega), ht, ← q1])
            go_wp2_with fail
            go_roundw
            case rel => exact ⟨j + 1, kc + 1, by go_num, by omega, by go_num, by omega, HK1, HN1⟩
            case measure => simp [intOf]; omega
    · obtain rfl : j = L := by omega
      have HF : Hid (RCrashQ W N C c p (r.crash keep) (.returned (.tuple #[])) wr) := Lib.hid (by
        obtain ⟨C1, us1, hs1, h1, hch⟩ := HJ.out
        rw [HLR.out] at h1
        exact ⟨rfl, ⟨_, _, _, h1.recol hs1⟩, hch⟩)
      go_wp2_with fail
      go_end0
      exact HF.out
end Go.Proofs.YtlojmmcagglpoaaGreat
