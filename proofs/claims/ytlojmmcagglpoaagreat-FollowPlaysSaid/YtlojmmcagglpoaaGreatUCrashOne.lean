/- THE WALK of what a crash does to one file. -/
import Derived.Test.YtlojmmcagglpoaaGreatUTk
import Derived.Test.YtlojmmcagglpoaaGreatUDiskC
import Derived.Test.YtlojmmcagglpoaaGreatUDiskKeep
import Derived.Test.YtlojmmcagglpoaaGreatURegL
import Derived.Deep.RegionHeld
import Derived.Deep.DrawnRows
namespace Go.Proofs.YtlojmmcagglpoaaGreat
open Go.RowKit Go.Maps
attribute [local go_sem ↓] Go.wp_at_zero Go.wp_at_succ
def RI (W : World) (A : Option Addr) (n : Nat) (l : List Int) : Prop :=
  l.length = n ∧ (0 < n → ∃ b off, A = some ⟨b, off, none⟩ ∧ b < W.heap.size ∧ ∀ (j : Nat) (k : Int), l[j]? = some k → W.cell? ⟨b, off + j, none⟩ = some (.int .i64 k))
theorem RI.chg {W w' : World} {A : Option Addr} {n : Nat} {l : List Int} (h : RI W A n l) {S : Nat → Prop} (hc : Chg S W w') (hS : 0 < n → ∀ ad, A = some ad → ¬ S ad.block) : RI w' A n l :=
  ⟨h.1, fun hp => by
    obtain ⟨b, off, e, hlt, hl⟩ := h.2 hp
    exact ⟨b, off, e, Nat.lt_of_lt_of_le hlt hc.size, fun j k hj => (hc.cell (p := ⟨b, off + j, none⟩) hlt (hS hp ⟨b, off, none⟩ e)).trans (hl j k hj)⟩⟩
theorem RI.keep {W w' : World} {A : Option Addr} {n : Nat} {l : List Int} (h : RI W A n l) (hb : Below W.heap.size W w') : RI w' A n l := h.chg (Chg.of_below hb (fun _ => False)) (fun _ _ _ h => h)
def crashN (keep : List Int) (k : Nat) (x : Fl) : Nat := x.la + min (keep.getD k 0).toNat (x.by_.length - x.la)
def crash1 (keep : List Int) (k : Nat) (x : Fl) : Fl := { x.kept (crashN keep k x) with la := (x.kept (crashN keep k x)).by_.length }
def crashF (keep : List Int) (k : Nat) (x : Fl) : Fl := if x.la = x.by_.length then x else crash1 keep k x
def crashK (k : Nat) (x : Fl) : Nat := if x.la = x.by_.length then k else k + 1
def CrQ (W : World) (N g kc : Nat) (y : Fl) (k' : Nat) (e : Ending) (w' : World) : Prop :=
  e = .returned (.tuple #[]) ∧ FW w' N g y ∧ Blk w' kc 3 #[.int .i64 (k' : Int)] ∧ Chg (fun b => b = g ∨ b = kc) W w' ∧ ∀ k, bytesAt w' g k → bytesAt W g k
set_option maxRecDepth 20000 in
set_option maxHeartbeats 2000000 in
theorem crash_one {W : World} {N g kc bx k m cp : Nat} {x : Fl} {A : Option Addr} {keep : List Int} (h : FW W N g x) (hl : x.by_.length ≤ 1048576) (hla : x.la ≤ x.by_.length) (hge : x.ge < 1000000) (hk : k < 1000000) (_hm : m ≤ maxLen)
    (hkc : Blk W kc 3 #[.int .i64 (k : Int)]) (hbx : Blk W bx 39 #[.slice A m cp]) (hr : RI W A m keep) (i : Int) :
    Calls Tryz.prog 103 #[.int .i64 i, .pointer (some ⟨g, 0, none⟩), .pointer (some ⟨kc, 0, none⟩), .pointer (some ⟨bx, 0, none⟩)] W (CrQ W N g kc (crashF keep k x) (crashK k x)) := by
  obtain ⟨v, hb, ho⟩ := h
  obtain ⟨Av, cv, rfl, hcap, hcap2, _⟩ := OB.form ho
  obtain ⟨n, hn⟩ : ∃ n, n = x.by_.length := ⟨_, rfl⟩
  obtain ⟨la, hla2⟩ : ∃ la, la = x.la := ⟨_, rfl⟩
  have hgk : g ≠ kc := hb.ne_type hkc (by decide)
  have hgb : g ≠ bx := hb.ne_type hbx (by decide)
  have hkb : kc ≠ bx := hkc.ne_type hbx (by decide)
  have g1 : W.cell? ⟨g, 1, none⟩ = some (.slice Av n cv) := (hb.cell 1).trans (by rw [hn]; rfl)
  have g2 : W.cell? ⟨g, 2, none⟩ = some (.int .i64 (la : Int)) := (hb.cell 2).trans (by rw [hla2]; rfl)
  have HB := Lib.hid hb; have HO := Lib.hid ho
  rw [← hn] at hl hla hcap
  rw [← hla2] at hla
  have HN : Hid (n = x.by_.length ∧ la = x.la) := Lib.hid ⟨hn, hla2⟩
  have k0 : W.cell? ⟨kc, 0, none⟩ = some (.int .i64 (k : Int)) := (hkc.cell 0).trans rfl
  have b0 : W.cell? ⟨bx, 0, none⟩ = some (.slice A m cp) := (hbx.cell 0).trans rfl
  have HKC := Lib.hid hkc; have HBX := Lib.hid hbx; have HR := Lib.hid hr
  have fk : W.frozen? ⟨kc, 0, none⟩ = false := hkc.frozen 0
  obtain ⟨y, hy⟩ : ∃ y, y = crashF keep k x := ⟨_, rfl⟩
  obtain ⟨k', hk'⟩ : ∃ k', k' = crashK k x := ⟨_, rfl⟩
  rw [← hy, ← hk']
  clear hb ho hn hla2 hkc hbx hr
  go_enter Tryz.func103, Tryz.ntmps103
  by_cases he : la = n
  · have hx : y = x ∧ k' = k := by
      unfold crashF crashK at *
      rw [← HN.out.1, ← HN.out.2] at hy hk'
      exact ⟨hy.trans (if_pos he), hk'.trans (if_pos he)⟩
    subst he
    have HF : Hid (CrQ W N g kc y k' (.returned (.tuple #[])) W.drew) := Lib.hid (by
      rw [hx.1, hx.2]
      exact ⟨rfl, ⟨_, HB.out, HO.out⟩, HKC.out, (Chg.refl _ W).drew, fun k h => h⟩)
    clear hy hk' hx
    go_upto_region 0 with fail
    go_region
    go_wp2_with fail
    go_end0
    exact HF.out
  · have hne : ((la : Int) == (n : Int)) = false := by simp; omega
    have HX : Hid (y = crash1 keep k x ∧ k' = k + 1) := Lib.hid (by
      unfold crashF at hy
      unfold crashK at hk'
      rw [if_neg (by rw [← HN.out.1, ← HN.out.2]; exact he)] at hy hk'
      exact ⟨hy, hk'⟩)
    clear hy hk'
    obtain ⟨st, hst⟩ : ∃ st, st = (keep.getD k 0).toNat := ⟨_, rfl⟩
    go_upto_region 0 with fail
    go_region
    by_cases hkm : k < m
    · obtain ⟨b, off, rfl, hlt, hcell⟩ := HR.out.2 (by omega)
      have hkl : k < keep.length := by rw [HR.out.1]; exact hkm
      have ck : W.drew.cell? ⟨b, off + k, none⟩ = some (.int .i64 keep[k]) := hcell k _ (List.getElem?_eq_getElem hkl)
      have hmax : ∀ w : World, (Builtin.max_ #[3, 3] 3 #[.int .i64 0, .int .i64 keep[k]]).run Tryz.prog w = .ok (.int .i64 (st : Int)) w := by
        intro w; rw [run_max_int2]; congr 2; rw [hst, List.getD_eq_getElem?_getD, List.getElem?_eq_getElem hkl]; simp; omega
      obtain ⟨kk, hkk⟩ : ∃ kk, kk = keep[k] := ⟨_, rfl⟩
      rw [← hkk] at ck hmax
      have HST := Lib.hid hst
      clear hkk hcell hlt hst
      have hkm1 : (k : Int) < (m : Int) := by omega
      go_upto_region 5 with fail
      obtain ⟨wS, hwS⟩ : ∃ wS, wS = W.setCell ⟨kc, 0, none⟩ (.int .i64 ((k : Int) + 1)) := ⟨_, rfl⟩
      have CS : Hid (Chg (fun b => b = kc) W wS) := Lib.hid (by rw [hwS]; exact (Chg.refl _ W).set1 0 _)
      have KS : Hid (Blk wS kc 3 #[.int .i64 ((k + 1 : Nat) : Int)]) := Lib.hid (by rw [hwS]; exact HKC.out.set_ 0 (.int .i64 ((k : Int) + 1)))
      have BS := Lib.hid (HB.out.chg CS.out hgk)
      have OS := Lib.hid (CS.out.ob HO.out (fun j hj e => HKC.out.apart HO.out (by decide) (by rw [hj, e])))
      have hg1 : wS.cell? ⟨g, 1, none⟩ = some (.slice Av n cv) := (BS.out.cell 1).trans (by rw [HN.out.1]; rfl)
      have hg2 : wS.cell? ⟨g, 2, none⟩ = some (.int .i64 (la : Int)) := (BS.out.cell 2).trans (by rw [HN.out.2]; rfl)
      rw [← hwS]
      obtain ⟨mn, hmn⟩ : ∃ mn, mn = min st (n - la) := ⟨_, rfl⟩
      obtain ⟨df, hdf⟩ : ∃ df, df = n - la := ⟨_, rfl⟩
      obtain ⟨sm, hsm⟩ : ∃ sm, sm = la + mn := ⟨_, rfl⟩
      have hsub : IntKind.i64.wrap ((n : Int) - (la : Int)) = (df : Int) := by
        rw [IntKind.wrap_i64] <;> omega
      have hmin : ∀ w : World, (Builtin.min_ #[3, 3] 3 #[.int .i64 (st : Int), .int .i64 (df : Int)]).run Tryz.prog w = .ok (.int .i64 (mn : Int)) w := by
        intro w; rw [run_min_int2]; congr 2; omega
      have hadd : IntKind.i64.wrap ((la : Int) + (mn : Int)) = (sm : Int) := by
        rw [IntKind.wrap_i64] <;> omega
      have HSM : Hid (sm = crashN keep k x) := Lib.hid (by unfold crashN; rw [← HST.out, ← HN.out.1, ← HN.out.2]; omega)
      have HKP : Hid (∀ q, Calls Tryz.prog 104 #[.pointer (some ⟨g, 0, none⟩), .int .i64 (sm : Int)] (wS.drewN q) (KeepQ (wS.drewN q) N g (x.kept sm))) := Lib.hid (fun q => keep_any ⟨_, BS.out, OS.out⟩ (by rw [← HN.out.1]; exact hl) (by rw [← HN.out.2]; omega) hge (by omega))
      have HBY : Hid (∀ j, bytesAt wS g j → bytesAt W g j) := Lib.hid (fun j hj => by
        obtain ⟨u, h1, h2⟩ := hj
        rw [BS.out.cell 1] at h1
        exact ⟨u, (HB.out.cell 1).trans h1, h2⟩)
      have HGW : Hid (∀ q, (wS.drewN q).cell? ⟨g, 1, none⟩ = some (.slice Av n cv) ∧ (wS.drewN q).cell? ⟨g, 2, none⟩ = some (.int .i64 (la : Int))) := Lib.hid (fun q => ⟨hg1, hg2⟩)
      clear hwS HB HO HKC g1 g2 k0 fk hmn hdf hsm BS OS hg1 hg2 hl hla he hne
      refine wp_region_any (by kernel_rfl) ?_
      change wpAny _ _ _ _ _ _ _ (World.drew _)
      refine any_of_L (S := SL 18 (fun w' => w'.cell? ⟨g, 1, none⟩ = some (.slice Av n cv) ∧ w'.cell? ⟨g, 2, none⟩ = some (.int .i64 (la : Int)))) _ _ _ _ ?_
      have hT0 : (fun w' => w'.cell? ⟨g, 1, none⟩ = some (.slice Av n cv) ∧ w'.cell? ⟨g, 2, none⟩ = some (.int .i64 (la : Int))) wS.drew.drew := ⟨(HGW.out 2).1, (HGW.out 2).2⟩
      refine tkc 0 18 [18] (v := ?_) rfl ?_ ?_ hT0; rotate_left
      · intro w hSw; (try dsimp only at hSw); go_simp <;> with_reducible rfl
      try simp only [Act.put, pz]
      refine tkc 1 18 [2, 3, 4, 17, 18] (v := ?_) rfl ?_ ?_ hT0; rotate_left
      · intro w hSw; (try dsimp only at hSw); go_simp <;> with_reducible rfl
      try simp only [Act.put, pz]
      refine tkc 2 18 [3, 4, 17, 18] (v := ?_) rfl ?_ ?_ hT0; rotate_left
      · intro w hSw; (try dsimp only at hSw); go_simp <;> with_reducible rfl
      try simp only [Act.put, pz]
      refine tkc 3 18 [4, 17, 18] (v := ?_) rfl ?_ ?_ hT0; rotate_left
      · intro w hSw; (try dsimp only at hSw); go_simp <;> with_reducible rfl
      try simp only [Act.put, pz]
      refine tkc 4 18 [17, 18] (v := ?_) rfl ?_ ?_ hT0; rotate_left
      · intro w hSw; obtain ⟨z1, z2⟩ := hSw; go_simp <;> with_reducible rfl
      try simp only [Act.put, pz]
      refine tkc 5 18 [16, 17, 18] (v := ?_) rfl ?_ ?_ hT0; rotate_left
      · intro w hSw; (try dsimp only at hSw); go_simp <;> with_reducible rfl
      try simp only [Act.put, pz]
      refine tkc 6 18 [7, 8, 9, 10, 15, 16, 17, 18] (v := ?_) rfl ?_ ?_ hT0; rotate_left
      · intro w hSw; (try dsimp only at hSw); go_simp <;> with_reducible rfl
      try simp only [Act.put, pz]
      refine tkc 7 18 [8, 9, 10, 15, 16, 17, 18] (v := ?_) rfl ?_ ?_ hT0; rotate_left
      · intro w hSw; (try dsimp only at hSw); go_simp <;> with_reducible rfl
      try simp only [Act.put, pz]
      refine tkc 8 18 [9, 10, 15, 16, 17, 18] (v := ?_) rfl ?_ ?_ hT0; rotate_left
      · intro w hSw; (try dsimp only at hSw); go_simp <;> with_reducible rfl
      try simp only [Act.put, pz]
      refine tkc 9 18 [10, 15, 16, 17, 18] (v := ?_) rfl ?_ ?_ hT0; rotate_left
      · intro w hSw; obtain ⟨z1, z2⟩ := hSw; go_simp <;> with_reducible rfl
      try simp only [Act.put, pz]
      refine tkc 10 18 [15, 16, 17, 18] (v := ?_) rfl ?_ ?_ hT0; rotate_left
      · intro w hSw; (try dsimp only at hSw); go_simp <;> with_reducible rfl
      try simp only [Act.put, pz]
      refine tkc 11 18 [12, 13, 14, 15, 16, 17, 18] (v := ?_) rfl ?_ ?_ hT0; rotate_left
      · intro w hSw; (try dsimp only at hSw); go_simp <;> with_reducible rfl
      try simp only [Act.put, pz]
      refine tkc 12 18 [13, 14, 15, 16, 17, 18] (v := ?_) rfl ?_ ?_ hT0; rotate_left
      · intro w hSw; (try dsimp only at hSw); go_simp <;> with_reducible rfl
      try simp only [Act.put, pz]
      refine tkc 13 18 [14, 15, 16, 17, 18] (v := ?_) rfl ?_ ?_ hT0; rotate_left
      · intro w hSw; (try dsimp only at hSw); go_simp <;> with_reducible rfl
      try simp only [Act.put, pz]
      refine tkc 14 18 [15, 16, 17, 18] (v := ?_) rfl ?_ ?_ hT0; rotate_left
      · intro w hSw; obtain ⟨z1, z2⟩ := hSw; go_simp <;> with_reducible rfl
      try simp only [Act.put, pz]
      refine tkc 15 18 [16, 17, 18] (v := ?_) rfl ?_ ?_ hT0; rotate_left
      · intro w hSw; (try dsimp only at hSw); go_simp <;> with_reducible rfl
      try simp only [Act.put, pz]
      refine tkc 16 18 [17, 18] (v := ?_) rfl ?_ ?_ hT0; rotate_left
      · intro w hSw; (try dsimp only at hSw); go_simp <;> with_reducible rfl
      try simp only [Act.put, pz]
      refine tkc 17 18 [18] (v := ?_) rfl ?_ ?_ hT0; rotate_left
      · intro w hSw; (try dsimp only at hSw); go_simp <;> with_reducible rfl
      try simp only [Act.put, pz]
      refine anyL_ready (rs := [18]) (by kernel_rfl) (by simp) (AllL.cons rfl (fun K hK => ?_) AllL.nil)
      go_simp
      refine (HKP.out 2).mono ?_
      rintro e w3 ⟨rfl, hf3, hc3, hb3⟩
      obtain ⟨v3, hbk3, hob3⟩ := hf3
      obtain ⟨A3, c3, rfl, _, _, _⟩ := OB.form hob3
      have hc3' : Chg (fun b => b = g) wS w3 := ⟨hc3.os, hc3.tape, hc3.output, hc3.size, hc3.block⟩
      obtain ⟨zl, hzl⟩ : ∃ zl, zl = (x.kept sm).by_.length := ⟨_, rfl⟩
      have HF : Hid (CrQ W N g kc y k' (.returned (.tuple #[])) (w3.setCell ⟨g, 2, none⟩ (.int .i64 (zl : Int)))) := Lib.hid (by
        have hY : y = { x.kept sm with la := (x.kept sm).by_.length } := by rw [HX.out.1, HSM.out]; rfl
        have hb4 := hbk3.set_ 2 (.int .i64 (zl : Int))
        have c4 : Chg (fun b => b = g) wS (w3.setCell ⟨g, 2, none⟩ (.int .i64 (zl : Int))) := hc3'.set1 2 _
        rw [hY, HX.out.2]
        refine ⟨rfl, ⟨_, by rw [hzl] at hb4; rw [hzl]; exact hb4, ((Chg.refl _ w3).set1 2 _).ob hob3 (fun j hj e => hbk3.apart hob3 (by decide) (by rw [hj, e]))⟩, KS.out.chg c4 (fun e => hgk e.symm), (CS.out.mono (fun _ _ e => .inr e)).trans c4 (fun _ _ e => .inl e), fun j hj => ?_⟩
        refine HBY.out j (hb3 j ?_)
        obtain ⟨u, h1, h2⟩ := hj
        rw [hb4.cell 1] at h1
        exact ⟨u, (hbk3.cell 1).trans h1, h2⟩)
      have q1 : w3.cell? ⟨g, 1, none⟩ = some (.slice A3 zl c3) := (hbk3.cell 1).trans (by rw [hzl]; rfl)
      have q0 : w3.cell? ⟨g, 2, none⟩ = some (.int .i64 ((x.kept sm).la : Int)) := (hbk3.cell 2).trans rfl
      have q2 : w3.frozen? ⟨g, 2, none⟩ = false := hbk3.frozen 2
      clear hbk3 hob3 hc3 hc3' hb3 hzl HSM HX HGW HBY
      refine hK.out _ _ (SL.fin (by kernel_rfl)) ?_
      clear hK K hT0
      try simp only [Act.put, pz]
      refine anyL_done (by kernel_rfl) ?_ _
      go_wp2_with fail
      go_end0
      exact HF.out
    · have hk0 : st = 0 := by
        rw [hst, List.getD_eq_getElem?_getD, List.getElem?_eq_none (by rw [HR.out.1]; omega)]; rfl
      have HST := Lib.hid hst
      clear hst
      have hkm1 : ¬ (k : Int) < (m : Int) := by omega
      go_upto_region 5 with fail
      obtain ⟨wS, hwS⟩ : ∃ wS, wS = W.setCell ⟨kc, 0, none⟩ (.int .i64 ((k : Int) + 1)) := ⟨_, rfl⟩
      have CS : Hid (Chg (fun b => b = kc) W wS) := Lib.hid (by rw [hwS]; exact (Chg.refl _ W).set1 0 _)
      have KS : Hid (Blk wS kc 3 #[.int .i64 ((k + 1 : Nat) : Int)]) := Lib.hid (by rw [hwS]; exact HKC.out.set_ 0 (.int .i64 ((k : Int) + 1)))
      have BS := Lib.hid (HB.out.chg CS.out hgk)
      have OS := Lib.hid (CS.out.ob HO.out (fun j hj e => HKC.out.apart HO.out (by decide) (by rw [hj, e])))
      have hg1 : wS.cell? ⟨g, 1, none⟩ = some (.slice Av n cv) := (BS.out.cell 1).trans (by rw [HN.out.1]; rfl)
      have hg2 : wS.cell? ⟨g, 2, none⟩ = some (.int .i64 (la : Int)) := (BS.out.cell 2).trans (by rw [HN.out.2]; rfl)
      rw [← hwS]
      obtain ⟨mn, hmn⟩ : ∃ mn, mn = min st (n - la) := ⟨_, rfl⟩
      obtain ⟨df, hdf⟩ : ∃ df, df = n - la := ⟨_, rfl⟩
      obtain ⟨sm, hsm⟩ : ∃ sm, sm = la + mn := ⟨_, rfl⟩
      have hsub : IntKind.i64.wrap ((n : Int) - (la : Int)) = (df : Int) := by
        rw [IntKind.wrap_i64] <;> omega
      have hmin : ∀ w : World, (Builtin.min_ #[3, 3] 3 #[.int .i64 0, .int .i64 (df : Int)]).run Tryz.prog w = .ok (.int .i64 (mn : Int)) w := by
        intro w; rw [run_min_int2]; congr 2; omega
      have hadd : IntKind.i64.wrap ((la : Int) + (mn : Int)) = (sm : Int) := by
        rw [IntKind.wrap_i64] <;> omega
      have HSM : Hid (sm = crashN keep k x) := Lib.hid (by unfold crashN; rw [← HST.out, ← HN.out.1, ← HN.out.2]; omega)
      have HKP : Hid (∀ q, Calls Tryz.prog 104 #[.pointer (some ⟨g, 0, none⟩), .int .i64 (sm : Int)] (wS.drewN q) (KeepQ (wS.drewN q) N g (x.kept sm))) := Lib.hid (fun q => keep_any ⟨_, BS.out, OS.out⟩ (by rw [← HN.out.1]; exact hl) (by rw [← HN.out.2]; omega) hge (by omega))
      have HBY : Hid (∀ j, bytesAt wS g j → bytesAt W g j) := Lib.hid (fun j hj => by
        obtain ⟨u, h1, h2⟩ := hj
        rw [BS.out.cell 1] at h1
        exact ⟨u, (HB.out.cell 1).trans h1, h2⟩)
      have HGW : Hid (∀ q, (wS.drewN q).cell? ⟨g, 1, none⟩ = some (.slice Av n cv) ∧ (wS.drewN q).cell? ⟨g, 2, none⟩ = some (.int .i64 (la : Int))) := Lib.hid (fun q => ⟨hg1, hg2⟩)
      clear hwS HB HO HKC g1 g2 k0 fk hmn hdf hsm BS OS hg1 hg2 hl hla he hne
      refine wp_region_any (by kernel_rfl) ?_
      change wpAny _ _ _ _ _ _ _ (World.drew _)
      refine any_of_L (S := SL 18 (fun w' => w'.cell? ⟨g, 1, none⟩ = some (.slice Av n cv) ∧ w'.cell? ⟨g, 2, none⟩ = some (.int .i64 (la : Int)))) _ _ _ _ ?_
      have hT0 : (fun w' => w'.cell? ⟨g, 1, none⟩ = some (.slice Av n cv) ∧ w'.cell? ⟨g, 2, none⟩ = some (.int .i64 (la : Int))) wS.drew.drew := ⟨(HGW.out 2).1, (HGW.out 2).2⟩
      refine tkc 0 18 [18] (v := ?_) rfl ?_ ?_ hT0; rotate_left
      · intro w hSw; (try dsimp only at hSw); go_simp <;> with_reducible rfl
      try simp only [Act.put, pz]
      refine tkc 1 18 [2, 3, 4, 17, 18] (v := ?_) rfl ?_ ?_ hT0; rotate_left
      · intro w hSw; (try dsimp only at hSw); go_simp <;> with_reducible rfl
      try simp only [Act.put, pz]
      refine tkc 2 18 [3, 4, 17, 18] (v := ?_) rfl ?_ ?_ hT0; rotate_left
      · intro w hSw; (try dsimp only at hSw); go_simp <;> with_reducible rfl
      try simp only [Act.put, pz]
      refine tkc 3 18 [4, 17, 18] (v := ?_) rfl ?_ ?_ hT0; rotate_left
      · intro w hSw; (try dsimp only at hSw); go_simp <;> with_reducible rfl
      try simp only [Act.put, pz]
      refine tkc 4 18 [17, 18] (v := ?_) rfl ?_ ?_ hT0; rotate_left
      · intro w hSw; obtain ⟨z1, z2⟩ := hSw; go_simp <;> with_reducible rfl
      try simp only [Act.put, pz]
      refine tkc 5 18 [16, 17, 18] (v := ?_) rfl ?_ ?_ hT0; rotate_left
      · intro w hSw; (try dsimp only at hSw); go_simp <;> with_reducible rfl
      try simp only [Act.put, pz]
      refine tkc 6 18 [7, 8, 9, 10, 15, 16, 17, 18] (v := ?_) rfl ?_ ?_ hT0; rotate_left
      · intro w hSw; (try dsimp only at hSw); go_simp <;> with_reducible rfl
      try simp only [Act.put, pz]
      refine tkc 7 18 [8, 9, 10, 15, 16, 17, 18] (v := ?_) rfl ?_ ?_ hT0; rotate_left
      · intro w hSw; (try dsimp only at hSw); go_simp <;> with_reducible rfl
      try simp only [Act.put, pz]
      refine tkc 8 18 [9, 10, 15, 16, 17, 18] (v := ?_) rfl ?_ ?_ hT0; rotate_left
      · intro w hSw; (try dsimp only at hSw); go_simp <;> with_reducible rfl
      try simp only [Act.put, pz]
      refine tkc 9 18 [10, 15, 16, 17, 18] (v := ?_) rfl ?_ ?_ hT0; rotate_left
      · intro w hSw; obtain ⟨z1, z2⟩ := hSw; go_simp <;> with_reducible rfl
      try simp only [Act.put, pz]
      refine tkc 10 18 [15, 16, 17, 18] (v := ?_) rfl ?_ ?_ hT0; rotate_left
      · intro w hSw; (try dsimp only at hSw); go_simp <;> with_reducible rfl
      try simp only [Act.put, pz]
      refine tkc 11 18 [12, 13, 14, 15, 16, 17, 18] (v := ?_) rfl ?_ ?_ hT0; rotate_left
      · intro w hSw; (try dsimp only at hSw); go_simp <;> with_reducible rfl
      try simp only [Act.put, pz]
      refine tkc 12 18 [13, 14, 15, 16, 17, 18] (v := ?_) rfl ?_ ?_ hT0; rotate_left
      · intro w hSw; (try dsimp only at hSw); go_simp <;> with_reducible rfl
      try simp only [Act.put, pz]
      refine tkc 13 18 [14, 15, 16, 17, 18] (v := ?_) rfl ?_ ?_ hT0; rotate_left
      · intro w hSw; (try dsimp only at hSw); go_simp <;> with_reducible rfl
      try simp only [Act.put, pz]
      refine tkc 14 18 [15, 16, 17, 18] (v := ?_) rfl ?_ ?_ hT0; rotate_left
      · intro w hSw; obtain ⟨z1, z2⟩ := hSw; go_simp <;> with_reducible rfl
      try simp only [Act.put, pz]
      refine tkc 15 18 [16, 17, 18] (v := ?_) rfl ?_ ?_ hT0; rotate_left
      · intro w hSw; (try dsimp only at hSw); go_simp <;> with_reducible rfl
      try simp only [Act.put, pz]
      refine tkc 16 18 [17, 18] (v := ?_) rfl ?_ ?_ hT0; rotate_left
      · intro w hSw; (try dsimp only at hSw); go_simp <;> with_reducible rfl
      try simp only [Act.put, pz]
      refine tkc 17 18 [18] (v := ?_) rfl ?_ ?_ hT0; rotate_left
      · intro w hSw; (try dsimp only at hSw); go_simp <;> with_reducible rfl
      try simp only [Act.put, pz]
      refine anyL_ready (rs := [18]) (by kernel_rfl) (by simp) (AllL.cons rfl (fun K hK => ?_) AllL.nil)
      go_simp
      refine (HKP.out 2).mono ?_
      rintro e w3 ⟨rfl, hf3, hc3, hb3⟩
      obtain ⟨v3, hbk3, hob3⟩ := hf3
      obtain ⟨A3, c3, rfl, _, _, _⟩ := OB.form hob3
      have hc3' : Chg (fun b => b = g) wS w3 := ⟨hc3.os, hc3.tape, hc3.output, hc3.size, hc3.block⟩
      obtain ⟨zl, hzl⟩ : ∃ zl, zl = (x.kept sm).by_.length := ⟨_, rfl⟩
      have HF : Hid (CrQ W N g kc y k' (.returned (.tuple #[])) (w3.setCell ⟨g, 2, none⟩ (.int .i64 (zl : Int)))) := Lib.hid (by
        have hY : y = { x.kept sm with la := (x.kept sm).by_.length } := by rw [HX.out.1, HSM.out]; rfl
        have hb4 := hbk3.set_ 2 (.int .i64 (zl : Int))
        have c4 : Chg (fun b => b = g) wS (w3.setCell ⟨g, 2, none⟩ (.int .i64 (zl : Int))) := hc3'.set1 2 _
        rw [hY, HX.out.2]
        refine ⟨rfl, ⟨_, by rw [hzl] at hb4; rw [hzl]; exact hb4, ((Chg.refl _ w3).set1 2 _).ob hob3 (fun j hj e => hbk3.apart hob3 (by decide) (by rw [hj, e]))⟩, KS.out.chg c4 (fun e => hgk e.symm), (CS.out.mono (fun _ _ e => .inr e)).trans c4 (fun _ _ e => .inl e), fun j hj => ?_⟩
        refine HBY.out j (hb3 j ?_)
        obtain ⟨u, h1, h2⟩ := hj
        rw [hb4.cell 1] at h1
        exact ⟨u, (hbk3.cell 1).trans h1, h2⟩)
      have q1 : w3.cell? ⟨g, 1, none⟩ = some (.slice A3 zl c3) := (hbk3.cell 1).trans (by rw [hzl]; rfl)
      have q0 : w3.cell? ⟨g, 2, none⟩ = some (.int .i64 ((x.kept sm).la : Int)) := (hbk3.cell 2).trans rfl
      have q2 : w3.frozen? ⟨g, 2, none⟩ = false := hbk3.frozen 2
      clear hbk3 hob3 hc3 hc3' hb3 hzl HSM HX HGW HBY
      refine hK.out _ _ (SL.fin (by kernel_rfl)) ?_
      clear hK K hT0
      try simp only [Act.put, pz]
      refine anyL_done (by kernel_rfl) ?_ _
      go_wp2_with fail
      go_end0
      exact HF.out
end Go.Proofs.YtlojmmcagglpoaaGreat
