/- THE WALKS of package follow: idle, ended, cut, turns (printed by a program of ours). -/
import Derived.Test.YtlojmmcagglpoaaGreatUTk
import Derived.Test.YtlojmmcagglpoaaGreatUFwNext
namespace Go.Proofs.YtlojmmcagglpoaaGreat
open Go.RowKit Go.Maps
attribute [local go_sem ↓] Go.wp_at_zero Go.wp_at_succ
def zeroL : Array Value := #[.int .i64 0, .int .i64 0, .int .i64 0, .int .i64 0, .int .i64 0, .int .i64 0, .int .i64 0, .int .i64 0, .int .i64 0, .string { data := #[] }]
theorem Blk.zc {w : World} {r : Nat} (h : Blk w r 170 zeroL) : w.cell? ⟨r, 0, none⟩ = some (.int .i64 0) ∧ w.cell? ⟨r, 1, none⟩ = some (.int .i64 0) ∧ w.cell? ⟨r, 2, none⟩ = some (.int .i64 0) ∧ w.cell? ⟨r, 3, none⟩ = some (.int .i64 0) ∧ w.cell? ⟨r, 4, none⟩ = some (.int .i64 0) ∧ w.cell? ⟨r, 5, none⟩ = some (.int .i64 0) ∧ w.cell? ⟨r, 6, none⟩ = some (.int .i64 0) ∧ w.cell? ⟨r, 7, none⟩ = some (.int .i64 0) ∧ w.cell? ⟨r, 8, none⟩ = some (.int .i64 0) ∧ w.cell? ⟨r, 9, none⟩ = some (.string { data := #[] }) :=
  ⟨(h.cell 0).trans rfl, (h.cell 1).trans rfl, (h.cell 2).trans rfl, (h.cell 3).trans rfl, (h.cell 4).trans rfl, (h.cell 5).trans rfl, (h.cell 6).trans rfl, (h.cell 7).trans rfl, (h.cell 8).trans rfl, (h.cell 9).trans rfl⟩
theorem Blk.zf {w : World} {r : Nat} {t : TypeId} {cs : Array Value} (h : Blk w r t cs) : w.frozen? ⟨r, 0, none⟩ = false ∧ w.frozen? ⟨r, 1, none⟩ = false ∧ w.frozen? ⟨r, 2, none⟩ = false ∧ w.frozen? ⟨r, 3, none⟩ = false ∧ w.frozen? ⟨r, 4, none⟩ = false ∧ w.frozen? ⟨r, 5, none⟩ = false ∧ w.frozen? ⟨r, 6, none⟩ = false ∧ w.frozen? ⟨r, 7, none⟩ = false ∧ w.frozen? ⟨r, 8, none⟩ = false ∧ w.frozen? ⟨r, 9, none⟩ = false :=
  ⟨h.frozen 0, h.frozen 1, h.frozen 2, h.frozen 3, h.frozen 4, h.frozen 5, h.frozen 6, h.frozen 7, h.frozen 8, h.frozen 9⟩
def setZ (w : World) (r : Nat) : World := ((((((((((w.setCell ⟨r, 0, none⟩ (.int .i64 0)).setCell ⟨r, 1, none⟩ (.int .i64 0)).setCell ⟨r, 2, none⟩ (.int .i64 0)).setCell ⟨r, 3, none⟩ (.int .i64 0)).setCell ⟨r, 4, none⟩ (.int .i64 0)).setCell ⟨r, 5, none⟩ (.int .i64 0)).setCell ⟨r, 6, none⟩ (.int .i64 0)).setCell ⟨r, 7, none⟩ (.int .i64 0)).setCell ⟨r, 8, none⟩ (.int .i64 0)).setCell ⟨r, 9, none⟩ (.string { data := #[] }))
theorem FwQ.far {W w1 w2 : World} {C : Nat → Nat} {c rb r : Nat} {k : FwK} {f : FwS} {dc : Array Value} (h : FwQ W C c rb k f w1) (hr : W.heap.size ≤ r) (hK : Blk w1 r 170 dc) (hc : Chg (fun b => b = r) w1 w2) : FwQ W C c rb k f w2 := by
  obtain ⟨⟨mb, v, hf⟩, h2⟩ := h
  refine ⟨⟨mb, v, hf.blk.chg hc (fun e => ?_), hf.maker.stp hc (fun e => ?_) (fun q hq e => ?_), hf.cr, hf.cm, hf.cv⟩, h2.trans hc (fun b hb e => by omega)⟩
  · have h1 := hf.blk; have h2 := hK
    rw [e] at h1
    unfold Blk at h1 h2
    rw [h1] at h2
    injection h2 with h2
    injection h2 with _ ht
    exact absurd ht (by decide)
  · have h1 := hf.maker.blk; have h2 := hK
    rw [e] at h1
    unfold Blk at h1 h2
    rw [h1] at h2
    injection h2 with h2
    injection h2 with _ ht
    exact absurd ht (by decide)
  · exact hK.apart hf.maker.own (by decide) (by rw [hq, e])
def TurnQ (W : World) (C : Nat → Nat) (c rb : Nat) (k : FwK) (f : FwS) (dc : Array Value) (whole applies : Bool) (e : Ending) (w' : World) : Prop := e = .returned (.tuple #[.agg dc, .bool whole, .bool applies]) ∧ FwQ W C c rb k f w'
structure AskOk (S : List UInt8 → T5) (I : Int → T5) (R : Int → Int → Int → Int → List UInt8 × Int) : Prop where
  s : ∀ nm, inM (S nm).1 ∧ inM (S nm).2.1 ∧ inM (S nm).2.2.1
  i : ∀ i, inM (I i).2.2.1
  r : ∀ i g o s, 0 ≤ o → (R i g o s).1 = [] ∨ o + ((R i g o s).1.length : Int) ≤ 1048576
theorem inM_ok {x : Int} (h : inM x) : okInt x := ⟨by have := h.1; omega, by have := h.2; omega⟩
set_option maxRecDepth 20000 in
set_option maxHeartbeats 2000000 in
theorem fw_idle_no {W : World} {C : Nat → Nat} {c rb p : Nat} {k : FwK} {f : FwS} {D : World → Prop} {S : List UInt8 → T5} {I : Int → T5} {R : Int → Int → Int → Int → List UInt8 × Int} (h : FwR W C c rb k f) (_ha : Asks p D S I R) (_hD : Stay W C c D) (hi : f.ino ≠ 0) : Calls Tryz.prog 125 #[.pointer (some ⟨rb, 0, none⟩), .pointer (some ⟨p, 0, none⟩)] W (TurnQ W C c rb k f zeroL false false) := by
  obtain ⟨w1, hw1⟩ : ∃ w1, w1 = W.alloc (.cells zeroL 170) := ⟨_, rfl⟩
  obtain ⟨r, hr⟩ : ∃ r, r = W.heap.size := ⟨_, rfl⟩
  have B1 : Hid (Below W.heap.size W w1) := Lib.hid (by rw [hw1]; exact (Below.refl _ _).alloc (Nat.le_refl _) _)
  have K1 : Hid (Blk w1 r 170 zeroL) := Lib.hid (by rw [hw1]; exact Blk.new W _ _ hr)
  have HR : Hid (W.heap.size ≤ r) := Lib.hid (by omega)
  have Q1 : Hid (FwQ W C c rb k f w1) := Lib.hid ((FwQ.refl h).below B1.out)
  have y1 := Q1.out.1.cells.2.1
  have hne : (f.ino == (0 : Int)) = false := beq_eq_false_iff_ne.2 hi
  have hne2 : (f.ino != (0 : Int)) = true := by rw [bne, hne]; rfl
  clear h _ha _hD hi
  go_enter Tryz.func125, Tryz.ntmps125
  go_upto_region 1 with fail
  unfold zeroL at hw1
  rw [← hw1, ← hr]
  clear hw1 hr
  go_upto_region 2 with fail
  have z0 : w1.cell? ⟨r, 0, none⟩ = some (.int .i64 0) := (K1.out.cell 0).trans rfl
  have g0 := K1.out.frozen 0
  have z1 : w1.cell? ⟨r, 1, none⟩ = some (.int .i64 0) := (K1.out.cell 1).trans rfl
  have g1 := K1.out.frozen 1
  have z2 : w1.cell? ⟨r, 2, none⟩ = some (.int .i64 0) := (K1.out.cell 2).trans rfl
  have g2 := K1.out.frozen 2
  have z3 : w1.cell? ⟨r, 3, none⟩ = some (.int .i64 0) := (K1.out.cell 3).trans rfl
  have g3 := K1.out.frozen 3
  have z4 : w1.cell? ⟨r, 4, none⟩ = some (.int .i64 0) := (K1.out.cell 4).trans rfl
  have g4 := K1.out.frozen 4
  have z5 : w1.cell? ⟨r, 5, none⟩ = some (.int .i64 0) := (K1.out.cell 5).trans rfl
  have g5 := K1.out.frozen 5
  have z6 : w1.cell? ⟨r, 6, none⟩ = some (.int .i64 0) := (K1.out.cell 6).trans rfl
  have g6 := K1.out.frozen 6
  have z7 : w1.cell? ⟨r, 7, none⟩ = some (.int .i64 0) := (K1.out.cell 7).trans rfl
  have g7 := K1.out.frozen 7
  have z8 : w1.cell? ⟨r, 8, none⟩ = some (.int .i64 0) := (K1.out.cell 8).trans rfl
  have g8 := K1.out.frozen 8
  have z9 : w1.cell? ⟨r, 9, none⟩ = some (.string { data := #[] }) := (K1.out.cell 9).trans rfl
  have g9 := K1.out.frozen 9
  obtain ⟨wz, hwz⟩ : ∃ wz, wz = setZ w1 r := ⟨_, rfl⟩
  have KZ : Hid (Blk wz r 170 zeroL) := Lib.hid (by rw [hwz]; exact ((((((((((K1.out.set_ 0 (.int .i64 0)).set_ 1 (.int .i64 0)).set_ 2 (.int .i64 0)).set_ 3 (.int .i64 0)).set_ 4 (.int .i64 0)).set_ 5 (.int .i64 0)).set_ 6 (.int .i64 0)).set_ 7 (.int .i64 0)).set_ 8 (.int .i64 0)).set_ 9 (.string { data := #[] })))
  have BZ : Hid (Chg (fun b => b = r) w1 wz) := Lib.hid (by rw [hwz]; exact (((((((((((Chg.refl (fun b => b = r) w1).setCell (.inl rfl) _).setCell (.inl rfl) _).setCell (.inl rfl) _).setCell (.inl rfl) _).setCell (.inl rfl) _).setCell (.inl rfl) _).setCell (.inl rfl) _).setCell (.inl rfl) _).setCell (.inl rfl) _).setCell (.inl rfl) _))
  have QZ : Hid (FwQ W C c rb k f wz) := Lib.hid (Q1.out.far HR.out K1.out BZ.out)
  go_wp2_with fail
  unfold setZ at hwz
  rw [← hwz]
  clear hwz
  refine bodyPost_ret (v := .tuple #[.agg zeroL, .bool false, .bool false]) (ret_line rfl rfl rfl rfl KZ.out rfl) rfl ?_
  exact ⟨rfl, QZ.out⟩
set_option maxRecDepth 20000 in
set_option maxHeartbeats 4000000 in
theorem fw_idle_none {W : World} {C : Nat → Nat} {c rb p : Nat} {k : FwK} {f : FwS} {D : World → Prop} {S : List UInt8 → T5} {I : Int → T5} {R : Int → Int → Int → Int → List UInt8 × Int} (h : FwR W C c rb k f) (ha : Asks p D S I R) (hD : Stay W C c D) (hi : f.ino = 0) (hn : nextB (S k.nm) f = false) : Calls Tryz.prog 125 #[.pointer (some ⟨rb, 0, none⟩), .pointer (some ⟨p, 0, none⟩)] W (TurnQ W C c rb k f zeroL false true) := by
  obtain ⟨w1, hw1⟩ : ∃ w1, w1 = W.alloc (.cells zeroL 170) := ⟨_, rfl⟩
  obtain ⟨r, hr⟩ : ∃ r, r = W.heap.size := ⟨_, rfl⟩
  have B1 : Hid (Below W.heap.size W w1) := Lib.hid (by rw [hw1]; exact (Below.refl _ _).alloc (Nat.le_refl _) _)
  have K1 : Hid (Blk w1 r 170 zeroL) := Lib.hid (by rw [hw1]; exact Blk.new W _ _ hr)
  have HR : Hid (W.heap.size ≤ r) := Lib.hid (by omega)
  have Q1 : Hid (FwQ W C c rb k f w1) := Lib.hid ((FwQ.refl h).below B1.out)
  have y1 := Q1.out.1.cells.2.1
  rw [hi] at y1
  have HA := Lib.hid ha
  have HD := Lib.hid hD
  obtain ⟨⟨t0, t1, t2, t3, t4⟩, ht⟩ : ∃ t, t = S k.nm := ⟨_, rfl⟩
  have HT := Lib.hid ht
  have HN := Lib.hid hn
  clear h ha hD hi hn ht
  go_enter Tryz.func125, Tryz.ntmps125
  go_upto_region 1 with fail
  unfold zeroL at hw1
  rw [← hw1, ← hr]
  clear hw1 hr
  go_upto_region 3 with fail
  have CN := Lib.hid (fw_next Q1.out.1 HA.out (HD.out.next Q1.out.2))
  go_wp2_with fail
  refine CN.out.mono ?_
  rintro e w2 ⟨rfl, hb2⟩
  rw [HN.out, ← HT.out]
  unfold stF
  simp only
  obtain ⟨w3, hw3⟩ : ∃ w3, w3 = w2.alloc (.cells #[.int .i64 t0, .int .i64 t1, .int .i64 t2, .int .i64 t3] 119) := ⟨_, rfl⟩
  obtain ⟨gS, hgS⟩ : ∃ gS, gS = w2.heap.size := ⟨_, rfl⟩
  have BN : Hid (Below w1.heap.size w1 w3) := Lib.hid (by rw [hw3]; exact hb2.alloc hb2.size _)
  have KS : Hid (Blk w3 gS 119 #[.int .i64 t0, .int .i64 t1, .int .i64 t2, .int .i64 t3]) := Lib.hid (by rw [hw3]; exact Blk.new w2 _ _ hgS)
  have Q3 := Lib.hid (Q1.out.below BN.out)
  have K3 := Lib.hid (K1.out.keep BN.out)
  clear hb2 CN
  go_upto_region 4 with fail
  rw [← hw3, ← hgS]
  clear hw3 hgS
  go_upto_region 6 with fail
  have z0 : w3.cell? ⟨r, 0, none⟩ = some (.int .i64 0) := (K3.out.cell 0).trans rfl
  have g0 := K3.out.frozen 0
  have z1 : w3.cell? ⟨r, 1, none⟩ = some (.int .i64 0) := (K3.out.cell 1).trans rfl
  have g1 := K3.out.frozen 1
  have z2 : w3.cell? ⟨r, 2, none⟩ = some (.int .i64 0) := (K3.out.cell 2).trans rfl
  have g2 := K3.out.frozen 2
  have z3 : w3.cell? ⟨r, 3, none⟩ = some (.int .i64 0) := (K3.out.cell 3).trans rfl
  have g3 := K3.out.frozen 3
  have z4 : w3.cell? ⟨r, 4, none⟩ = some (.int .i64 0) := (K3.out.cell 4).trans rfl
  have g4 := K3.out.frozen 4
  have z5 : w3.cell? ⟨r, 5, none⟩ = some (.int .i64 0) := (K3.out.cell 5).trans rfl
  have g5 := K3.out.frozen 5
  have z6 : w3.cell? ⟨r, 6, none⟩ = some (.int .i64 0) := (K3.out.cell 6).trans rfl
  have g6 := K3.out.frozen 6
  have z7 : w3.cell? ⟨r, 7, none⟩ = some (.int .i64 0) := (K3.out.cell 7).trans rfl
  have g7 := K3.out.frozen 7
  have z8 : w3.cell? ⟨r, 8, none⟩ = some (.int .i64 0) := (K3.out.cell 8).trans rfl
  have g8 := K3.out.frozen 8
  have z9 : w3.cell? ⟨r, 9, none⟩ = some (.string { data := #[] }) := (K3.out.cell 9).trans rfl
  have g9 := K3.out.frozen 9
  obtain ⟨wz, hwz⟩ : ∃ wz, wz = setZ w3 r := ⟨_, rfl⟩
  have KZ : Hid (Blk wz r 170 zeroL) := Lib.hid (by rw [hwz]; exact ((((((((((K3.out.set_ 0 (.int .i64 0)).set_ 1 (.int .i64 0)).set_ 2 (.int .i64 0)).set_ 3 (.int .i64 0)).set_ 4 (.int .i64 0)).set_ 5 (.int .i64 0)).set_ 6 (.int .i64 0)).set_ 7 (.int .i64 0)).set_ 8 (.int .i64 0)).set_ 9 (.string { data := #[] })))
  have BZ : Hid (Chg (fun b => b = r) w3 wz) := Lib.hid (by rw [hwz]; exact (((((((((((Chg.refl (fun b => b = r) w3).setCell (.inl rfl) _).setCell (.inl rfl) _).setCell (.inl rfl) _).setCell (.inl rfl) _).setCell (.inl rfl) _).setCell (.inl rfl) _).setCell (.inl rfl) _).setCell (.inl rfl) _).setCell (.inl rfl) _).setCell (.inl rfl) _))
  have QZ : Hid (FwQ W C c rb k f wz) := Lib.hid (Q3.out.far HR.out K3.out BZ.out)
  go_wp2_with fail
  unfold setZ at hwz
  rw [← hwz]
  clear hwz
  refine bodyPost_ret (v := .tuple #[.agg zeroL, .bool false, .bool true]) (ret_line rfl rfl rfl rfl KZ.out rfl) rfl ?_
  exact ⟨rfl, QZ.out⟩
set_option maxRecDepth 20000 in
set_option maxHeartbeats 4000000 in
theorem fw_idle_next {W : World} {C : Nat → Nat} {c rb p : Nat} {k : FwK} {f : FwS} {D : World → Prop} {S : List UInt8 → T5} {I : Int → T5} {R : Int → Int → Int → Int → List UInt8 × Int} (h : FwR W C c rb k f) (ha : Asks p D S I R) (hD : Stay W C c D) (ho : AskOk S I R) (hf : f.Ok) (hi : f.ino = 0) (hn : nextB (S k.nm) f = true) : Calls Tryz.prog 125 #[.pointer (some ⟨rb, 0, none⟩), .pointer (some ⟨p, 0, none⟩)] W (TurnQ W C c rb k (f.takeUp (S k.nm)) zeroL false true) := by
  obtain ⟨w1, hw1⟩ : ∃ w1, w1 = W.alloc (.cells zeroL 170) := ⟨_, rfl⟩
  obtain ⟨r, hr⟩ : ∃ r, r = W.heap.size := ⟨_, rfl⟩
  have B1 : Hid (Below W.heap.size W w1) := Lib.hid (by rw [hw1]; exact (Below.refl _ _).alloc (Nat.le_refl _) _)
  have K1 : Hid (Blk w1 r 170 zeroL) := Lib.hid (by rw [hw1]; exact Blk.new W _ _ hr)
  have HR : Hid (W.heap.size ≤ r) := Lib.hid (by omega)
  have Q1 : Hid (FwQ W C c rb k f w1) := Lib.hid ((FwQ.refl h).below B1.out)
  have y1 := Q1.out.1.cells.2.1
  rw [hi] at y1
  have HA := Lib.hid ha
  have HD := Lib.hid hD
  have HO := Lib.hid (ho.s k.nm)
  obtain ⟨⟨t0, t1, t2, t3, t4⟩, ht⟩ : ∃ t, t = S k.nm := ⟨_, rfl⟩
  have HT := Lib.hid ht
  have HN := Lib.hid hn
  have HF := Lib.hid hf
  have HLT : Hid (f.se < t1) := Lib.hid (by unfold nextB at hn; rw [← ht] at hn; simp at hn; exact hn.2)
  clear h ha hD hi hn ht ho hf
  go_enter Tryz.func125, Tryz.ntmps125
  go_upto_region 1 with fail
  unfold zeroL at hw1
  rw [← hw1, ← hr]
  clear hw1 hr
  go_upto_region 3 with fail
  have CN := Lib.hid (fw_next Q1.out.1 HA.out (HD.out.next Q1.out.2))
  go_wp2_with fail
  refine CN.out.mono ?_
  rintro e w2 ⟨rfl, hb2⟩
  rw [HN.out, ← HT.out]
  unfold stF
  simp only
  obtain ⟨w3, hw3⟩ : ∃ w3, w3 = w2.alloc (.cells #[.int .i64 t0, .int .i64 t1, .int .i64 t2, .int .i64 t3] 119) := ⟨_, rfl⟩
  obtain ⟨gS, hgS⟩ : ∃ gS, gS = w2.heap.size := ⟨_, rfl⟩
  have BN : Hid (Below w1.heap.size w1 w3) := Lib.hid (by rw [hw3]; exact hb2.alloc hb2.size _)
  have KS : Hid (Blk w3 gS 119 #[.int .i64 t0, .int .i64 t1, .int .i64 t2, .int .i64 t3]) := Lib.hid (by rw [hw3]; exact Blk.new w2 _ _ hgS)
  have Q3 := Lib.hid (Q1.out.below BN.out)
  have K3 := Lib.hid (K1.out.keep BN.out)
  clear hb2 CN
  go_upto_region 4 with fail
  rw [← hw3, ← hgS]
  clear hw3 hgS
  go_upto_region 5 with fail
  have s0 : w3.cell? ⟨gS, 0, none⟩ = some (.int .i64 t0) := KS.out.cell 0
  have s1 : w3.cell? ⟨gS, 1, none⟩ = some (.int .i64 t1) := KS.out.cell 1
  have s2 : w3.cell? ⟨gS, 2, none⟩ = some (.int .i64 t2) := KS.out.cell 2
  have s3 : w3.cell? ⟨gS, 3, none⟩ = some (.int .i64 t3) := KS.out.cell 3
  obtain ⟨C3, hC3, hn3, _, hb3⟩ := Q3.out.1.only
  have HC3 := Lib.hid (And.intro (hn3 r _ _ K3.out (by decide) (by decide) (by decide)) hb3)
  have CT := Lib.hid (fw_takeUp hC3 t0 t1 t2 t3 HF.out.mi HF.out.se HLT.out (by have := HO.out.2.1; rw [← HT.out] at this; exact this.2))
  clear hC3 hn3 hb3
  go_wp2_with fail
  refine CT.out.mono ?_
  rintro e w4 ⟨rfl, hq4⟩
  have Q4 : Hid (FwQ W C c rb k (f.takeUp (S k.nm)) w4) := Lib.hid (by rw [← HT.out]; exact Q3.out.trans (HC3.out.2 _ _ hq4))
  have K4 : Hid (Blk w4 r 170 zeroL) := Lib.hid (K3.out.chg hq4.2 HC3.out.1)
  clear hq4 CT s0 s1 s2 s3
  go_upto_region 6 with fail
  have z0 : w4.cell? ⟨r, 0, none⟩ = some (.int .i64 0) := (K4.out.cell 0).trans rfl
  have g0 := K4.out.frozen 0
  have z1 : w4.cell? ⟨r, 1, none⟩ = some (.int .i64 0) := (K4.out.cell 1).trans rfl
  have g1 := K4.out.frozen 1
  have z2 : w4.cell? ⟨r, 2, none⟩ = some (.int .i64 0) := (K4.out.cell 2).trans rfl
  have g2 := K4.out.frozen 2
  have z3 : w4.cell? ⟨r, 3, none⟩ = some (.int .i64 0) := (K4.out.cell 3).trans rfl
  have g3 := K4.out.frozen 3
  have z4 : w4.cell? ⟨r, 4, none⟩ = some (.int .i64 0) := (K4.out.cell 4).trans rfl
  have g4 := K4.out.frozen 4
  have z5 : w4.cell? ⟨r, 5, none⟩ = some (.int .i64 0) := (K4.out.cell 5).trans rfl
  have g5 := K4.out.frozen 5
  have z6 : w4.cell? ⟨r, 6, none⟩ = some (.int .i64 0) := (K4.out.cell 6).trans rfl
  have g6 := K4.out.frozen 6
  have z7 : w4.cell? ⟨r, 7, none⟩ = some (.int .i64 0) := (K4.out.cell 7).trans rfl
  have g7 := K4.out.frozen 7
  have z8 : w4.cell? ⟨r, 8, none⟩ = some (.int .i64 0) := (K4.out.cell 8).trans rfl
  have g8 := K4.out.frozen 8
  have z9 : w4.cell? ⟨r, 9, none⟩ = some (.string { data := #[] }) := (K4.out.cell 9).trans rfl
  have g9 := K4.out.frozen 9
  obtain ⟨wz, hwz⟩ : ∃ wz, wz = setZ w4 r := ⟨_, rfl⟩
  have KZ : Hid (Blk wz r 170 zeroL) := Lib.hid (by rw [hwz]; exact ((((((((((K4.out.set_ 0 (.int .i64 0)).set_ 1 (.int .i64 0)).set_ 2 (.int .i64 0)).set_ 3 (.int .i64 0)).set_ 4 (.int .i64 0)).set_ 5 (.int .i64 0)).set_ 6 (.int .i64 0)).set_ 7 (.int .i64 0)).set_ 8 (.int .i64 0)).set_ 9 (.string { data := #[] })))
  have BZ : Hid (Chg (fun b => b = r) w4 wz) := Lib.hid (by rw [hwz]; exact (((((((((((Chg.refl (fun b => b = r) w4).setCell (.inl rfl) _).setCell (.inl rfl) _).setCell (.inl rfl) _).setCell (.inl rfl) _).setCell (.inl rfl) _).setCell (.inl rfl) _).setCell (.inl rfl) _).setCell (.inl rfl) _).setCell (.inl rfl) _).setCell (.inl rfl) _))
  have QZ : Hid (FwQ W C c rb k (f.takeUp (S k.nm)) wz) := Lib.hid (Q4.out.far HR.out K4.out BZ.out)
  go_wp2_with fail
  unfold setZ at hwz
  rw [← hwz]
  clear hwz
  refine bodyPost_ret (v := .tuple #[.agg zeroL, .bool false, .bool true]) (ret_line rfl rfl rfl rfl KZ.out rfl) rfl ?_
  exact ⟨rfl, QZ.out⟩
set_option maxRecDepth 20000 in
set_option maxHeartbeats 4000000 in
theorem fw_ended_no {W : World} {C : Nat → Nat} {c rb p : Nat} {k : FwK} {f : FwS} {D : World → Prop} {S : List UInt8 → T5} {I : Int → T5} {R : Int → Int → Int → Int → List UInt8 × Int} (h : FwR W C c rb k f) (ha : Asks p D S I R) (hD : Stay W C c D) (hf : f.Ok) (hi : (I f.ino).2.2.2.2 = 0) : Calls Tryz.prog 126 #[.pointer (some ⟨rb, 0, none⟩), .pointer (some ⟨p, 0, none⟩)] W (TurnQ W C c rb k f zeroL false false) := by
  obtain ⟨w1, hw1⟩ : ∃ w1, w1 = W.alloc (.cells zeroL 170) := ⟨_, rfl⟩
  obtain ⟨r, hr⟩ : ∃ r, r = W.heap.size := ⟨_, rfl⟩
  have B1 : Hid (Below W.heap.size W w1) := Lib.hid (by rw [hw1]; exact (Below.refl _ _).alloc (Nat.le_refl _) _)
  have K1 : Hid (Blk w1 r 170 zeroL) := Lib.hid (by rw [hw1]; exact Blk.new W _ _ hr)
  have HR : Hid (W.heap.size ≤ r) := Lib.hid (by omega)
  have Q1 : Hid (FwQ W C c rb k f w1) := Lib.hid ((FwQ.refl h).below B1.out)
  have y1 := Q1.out.1.cells.2.1
  have CN := Lib.hid (ha.inode w1 f.ino (inM_ok hf.ino) (hD w1 (Chg.of_below B1.out _)))
  obtain ⟨⟨t0, t1, t2, t3, t4⟩, ht⟩ : ∃ t, t = I f.ino := ⟨_, rfl⟩
  rw [← ht] at CN
  rw [← ht] at hi
  obtain rfl : t4 = 0 := hi
  clear h ha hD ht hf
  go_enter Tryz.func126, Tryz.ntmps126
  go_upto_region 1 with fail
  unfold zeroL at hw1
  rw [← hw1, ← hr]
  clear hw1 hr
  go_wp2_with fail
  refine CN.out.mono ?_
  rintro e w2 ⟨rfl, hb2⟩
  simp only
  obtain ⟨w3, hw3⟩ : ∃ w3, w3 = w2.alloc (.cells #[.int .i64 t0, .int .i64 t1, .int .i64 t2, .int .i64 t3] 119) := ⟨_, rfl⟩
  obtain ⟨gS, hgS⟩ : ∃ gS, gS = w2.heap.size := ⟨_, rfl⟩
  have BN : Hid (Below w1.heap.size w1 w3) := Lib.hid (by rw [hw3]; exact hb2.alloc hb2.size _)
  have KS : Hid (Blk w3 gS 119 #[.int .i64 t0, .int .i64 t1, .int .i64 t2, .int .i64 t3]) := Lib.hid (by rw [hw3]; exact Blk.new w2 _ _ hgS)
  have Q3 := Lib.hid (Q1.out.below BN.out)
  have K3 := Lib.hid (K1.out.keep BN.out)
  clear hb2 CN y1
  go_upto_region 2 with fail
  rw [← hw3, ← hgS]
  clear hw3 hgS
  go_upto_region 3 with fail
  have z0 : w3.cell? ⟨r, 0, none⟩ = some (.int .i64 0) := (K3.out.cell 0).trans rfl
  have g0 := K3.out.frozen 0
  have z1 : w3.cell? ⟨r, 1, none⟩ = some (.int .i64 0) := (K3.out.cell 1).trans rfl
  have g1 := K3.out.frozen 1
  have z2 : w3.cell? ⟨r, 2, none⟩ = some (.int .i64 0) := (K3.out.cell 2).trans rfl
  have g2 := K3.out.frozen 2
  have z3 : w3.cell? ⟨r, 3, none⟩ = some (.int .i64 0) := (K3.out.cell 3).trans rfl
  have g3 := K3.out.frozen 3
  have z4 : w3.cell? ⟨r, 4, none⟩ = some (.int .i64 0) := (K3.out.cell 4).trans rfl
  have g4 := K3.out.frozen 4
  have z5 : w3.cell? ⟨r, 5, none⟩ = some (.int .i64 0) := (K3.out.cell 5).trans rfl
  have g5 := K3.out.frozen 5
  have z6 : w3.cell? ⟨r, 6, none⟩ = some (.int .i64 0) := (K3.out.cell 6).trans rfl
  have g6 := K3.out.frozen 6
  have z7 : w3.cell? ⟨r, 7, none⟩ = some (.int .i64 0) := (K3.out.cell 7).trans rfl
  have g7 := K3.out.frozen 7
  have z8 : w3.cell? ⟨r, 8, none⟩ = some (.int .i64 0) := (K3.out.cell 8).trans rfl
  have g8 := K3.out.frozen 8
  have z9 : w3.cell? ⟨r, 9, none⟩ = some (.string { data := #[] }) := (K3.out.cell 9).trans rfl
  have g9 := K3.out.frozen 9
  obtain ⟨wz, hwz⟩ : ∃ wz, wz = setZ w3 r := ⟨_, rfl⟩
  have KZ : Hid (Blk wz r 170 zeroL) := Lib.hid (by rw [hwz]; exact ((((((((((K3.out.set_ 0 (.int .i64 0)).set_ 1 (.int .i64 0)).set_ 2 (.int .i64 0)).set_ 3 (.int .i64 0)).set_ 4 (.int .i64 0)).set_ 5 (.int .i64 0)).set_ 6 (.int .i64 0)).set_ 7 (.int .i64 0)).set_ 8 (.int .i64 0)).set_ 9 (.string { data := #[] })))
  have BZ : Hid (Chg (fun b => b = r) w3 wz) := Lib.hid (by rw [hwz]; exact (((((((((((Chg.refl (fun b => b = r) w3).setCell (.inl rfl) _).setCell (.inl rfl) _).setCell (.inl rfl) _).setCell (.inl rfl) _).setCell (.inl rfl) _).setCell (.inl rfl) _).setCell (.inl rfl) _).setCell (.inl rfl) _).setCell (.inl rfl) _).setCell (.inl rfl) _))
  have QZ : Hid (FwQ W C c rb k f wz) := Lib.hid (Q3.out.far HR.out K3.out BZ.out)
  go_wp2_with fail
  unfold setZ at hwz
  rw [← hwz]
  clear hwz
  refine bodyPost_ret (v := .tuple #[.agg zeroL, .bool false, .bool false]) (ret_line rfl rfl rfl rfl KZ.out rfl) rfl ?_
  exact ⟨rfl, QZ.out⟩
set_option maxRecDepth 20000 in
set_option maxHeartbeats 4000000 in
theorem fw_ended_yes {W : World} {C : Nat → Nat} {c rb p : Nat} {k : FwK} {f : FwS} {D : World → Prop} {S : List UInt8 → T5} {I : Int → T5} {R : Int → Int → Int → Int → List UInt8 × Int} (h : FwR W C c rb k f) (ha : Asks p D S I R) (hD : Stay W C c D) (hf : f.Ok) (hi : (I f.ino).2.2.2.2 ≠ 0) : Calls Tryz.prog 126 #[.pointer (some ⟨rb, 0, none⟩), .pointer (some ⟨p, 0, none⟩)] W (TurnQ W C c rb k f.gone zeroL false true) := by
  obtain ⟨w1, hw1⟩ : ∃ w1, w1 = W.alloc (.cells zeroL 170) := ⟨_, rfl⟩
  obtain ⟨r, hr⟩ : ∃ r, r = W.heap.size := ⟨_, rfl⟩
  have B1 : Hid (Below W.heap.size W w1) := Lib.hid (by rw [hw1]; exact (Below.refl _ _).alloc (Nat.le_refl _) _)
  have K1 : Hid (Blk w1 r 170 zeroL) := Lib.hid (by rw [hw1]; exact Blk.new W _ _ hr)
  have HR : Hid (W.heap.size ≤ r) := Lib.hid (by omega)
  have Q1 : Hid (FwQ W C c rb k f w1) := Lib.hid ((FwQ.refl h).below B1.out)
  have y1 := Q1.out.1.cells.2.1
  have CN := Lib.hid (ha.inode w1 f.ino (inM_ok hf.ino) (hD w1 (Chg.of_below B1.out _)))
  obtain ⟨⟨t0, t1, t2, t3, t4⟩, ht⟩ : ∃ t, t = I f.ino := ⟨_, rfl⟩
  rw [← ht] at CN
  rw [← ht] at hi
  have hne : (t4 == (0 : Int)) = false := beq_eq_false_iff_ne.2 hi
  have HF := Lib.hid hf
  clear h ha hD ht hf hi
  go_enter Tryz.func126, Tryz.ntmps126
  go_upto_region 1 with fail
  unfold zeroL at hw1
  rw [← hw1, ← hr]
  clear hw1 hr
  go_wp2_with fail
  refine CN.out.mono ?_
  rintro e w2 ⟨rfl, hb2⟩
  simp only
  obtain ⟨w3, hw3⟩ : ∃ w3, w3 = w2.alloc (.cells #[.int .i64 t0, .int .i64 t1, .int .i64 t2, .int .i64 t3] 119) := ⟨_, rfl⟩
  obtain ⟨gS, hgS⟩ : ∃ gS, gS = w2.heap.size := ⟨_, rfl⟩
  have BN : Hid (Below w1.heap.size w1 w3) := Lib.hid (by rw [hw3]; exact hb2.alloc hb2.size _)
  have KS : Hid (Blk w3 gS 119 #[.int .i64 t0, .int .i64 t1, .int .i64 t2, .int .i64 t3]) := Lib.hid (by rw [hw3]; exact Blk.new w2 _ _ hgS)
  have Q3 := Lib.hid (Q1.out.below BN.out)
  have K3 := Lib.hid (K1.out.keep BN.out)
  clear hb2 CN y1
  go_upto_region 2 with fail
  rw [← hw3, ← hgS]
  clear hw3 hgS
  go_upto_region 4 with fail
  obtain ⟨C3, hC3, hn3, hs3, hb3⟩ := Q3.out.1.only
  have HC3 := Lib.hid (And.intro (hn3 r _ _ K3.out (by decide) (by decide) (by decide)) (And.intro (hn3 gS _ _ KS.out (by decide) (by decide) (by decide)) hb3))
  have X3 := Lib.hid (FwQ.refl hC3)
  clear hC3 hn3 hs3 hb3
  have CG := Lib.hid (fw_gone X3.out.1 HF.out.go)
  go_wp2_with fail
  refine CG.out.mono ?_
  rintro e w4 ⟨rfl, hq4⟩
  have X4 := Lib.hid (X3.out.trans hq4)
  have Q4 : Hid (FwQ W C c rb k f.gone w4) := Lib.hid (Q3.out.trans (HC3.out.2.2 _ _ X4.out))
  have K4 : Hid (Blk w4 r 170 zeroL) := Lib.hid (K3.out.chg X4.out.2 HC3.out.1)
  clear hq4 CG
  go_upto_region 5 with fail
  have z0 : w4.cell? ⟨r, 0, none⟩ = some (.int .i64 0) := (K4.out.cell 0).trans rfl
  have g0 := K4.out.frozen 0
  have z1 : w4.cell? ⟨r, 1, none⟩ = some (.int .i64 0) := (K4.out.cell 1).trans rfl
  have g1 := K4.out.frozen 1
  have z2 : w4.cell? ⟨r, 2, none⟩ = some (.int .i64 0) := (K4.out.cell 2).trans rfl
  have g2 := K4.out.frozen 2
  have z3 : w4.cell? ⟨r, 3, none⟩ = some (.int .i64 0) := (K4.out.cell 3).trans rfl
  have g3 := K4.out.frozen 3
  have z4 : w4.cell? ⟨r, 4, none⟩ = some (.int .i64 0) := (K4.out.cell 4).trans rfl
  have g4 := K4.out.frozen 4
  have z5 : w4.cell? ⟨r, 5, none⟩ = some (.int .i64 0) := (K4.out.cell 5).trans rfl
  have g5 := K4.out.frozen 5
  have z6 : w4.cell? ⟨r, 6, none⟩ = some (.int .i64 0) := (K4.out.cell 6).trans rfl
  have g6 := K4.out.frozen 6
  have z7 : w4.cell? ⟨r, 7, none⟩ = some (.int .i64 0) := (K4.out.cell 7).trans rfl
  have g7 := K4.out.frozen 7
  have z8 : w4.cell? ⟨r, 8, none⟩ = some (.int .i64 0) := (K4.out.cell 8).trans rfl
  have g8 := K4.out.frozen 8
  have z9 : w4.cell? ⟨r, 9, none⟩ = some (.string { data := #[] }) := (K4.out.cell 9).trans rfl
  have g9 := K4.out.frozen 9
  obtain ⟨wz, hwz⟩ : ∃ wz, wz = setZ w4 r := ⟨_, rfl⟩
  have KZ : Hid (Blk wz r 170 zeroL) := Lib.hid (by rw [hwz]; exact ((((((((((K4.out.set_ 0 (.int .i64 0)).set_ 1 (.int .i64 0)).set_ 2 (.int .i64 0)).set_ 3 (.int .i64 0)).set_ 4 (.int .i64 0)).set_ 5 (.int .i64 0)).set_ 6 (.int .i64 0)).set_ 7 (.int .i64 0)).set_ 8 (.int .i64 0)).set_ 9 (.string { data := #[] })))
  have BZ : Hid (Chg (fun b => b = r) w4 wz) := Lib.hid (by rw [hwz]; exact (((((((((((Chg.refl (fun b => b = r) w4).setCell (.inl rfl) _).setCell (.inl rfl) _).setCell (.inl rfl) _).setCell (.inl rfl) _).setCell (.inl rfl) _).setCell (.inl rfl) _).setCell (.inl rfl) _).setCell (.inl rfl) _).setCell (.inl rfl) _).setCell (.inl rfl) _))
  have QZ : Hid (FwQ W C c rb k f.gone wz) := Lib.hid (Q4.out.far HR.out K4.out BZ.out)
  go_wp2_with fail
  unfold setZ at hwz
  rw [← hwz]
  clear hwz
  refine bodyPost_ret (v := .tuple #[.agg zeroL, .bool false, .bool true]) (ret_line rfl rfl rfl rfl KZ.out rfl) rfl ?_
  exact ⟨rfl, QZ.out⟩
def FwS.cutF (f : FwS) (g : Int) : FwS := { f with cu := upv f.cu (max 0 (g - f.ge)), ge := g, off := 0, u := [] }
set_option maxRecDepth 20000 in
set_option maxHeartbeats 4000000 in
theorem fw_cut_no {W : World} {C : Nat → Nat} {c rb p : Nat} {k : FwK} {f : FwS} {D : World → Prop} {S : List UInt8 → T5} {I : Int → T5} {R : Int → Int → Int → Int → List UInt8 × Int} (h : FwR W C c rb k f) (ha : Asks p D S I R) (hD : Stay W C c D) (hf : f.Ok) (hi : (I f.ino).2.2.1 = f.ge) : Calls Tryz.prog 127 #[.pointer (some ⟨rb, 0, none⟩), .pointer (some ⟨p, 0, none⟩)] W (TurnQ W C c rb k f zeroL false false) := by
  obtain ⟨w1, hw1⟩ : ∃ w1, w1 = W.alloc (.cells zeroL 170) := ⟨_, rfl⟩
  obtain ⟨r, hr⟩ : ∃ r, r = W.heap.size := ⟨_, rfl⟩
  have B1 : Hid (Below W.heap.size W w1) := Lib.hid (by rw [hw1]; exact (Below.refl _ _).alloc (Nat.le_refl _) _)
  have K1 : Hid (Blk w1 r 170 zeroL) := Lib.hid (by rw [hw1]; exact Blk.new W _ _ hr)
  have HR : Hid (W.heap.size ≤ r) := Lib.hid (by omega)
  have Q1 : Hid (FwQ W C c rb k f w1) := Lib.hid ((FwQ.refl h).below B1.out)
  have y1 := Q1.out.1.cells.2.1
  have CN := Lib.hid (ha.inode w1 f.ino (inM_ok hf.ino) (hD w1 (Chg.of_below B1.out _)))
  obtain ⟨⟨t0, t1, t2, t3, t4⟩, ht⟩ : ∃ t, t = I f.ino := ⟨_, rfl⟩
  rw [← ht] at CN
  rw [← ht] at hi
  obtain rfl : t2 = f.ge := hi
  clear h ha hD ht hf
  go_enter Tryz.func127, Tryz.ntmps127
  go_upto_region 1 with fail
  unfold zeroL at hw1
  rw [← hw1, ← hr]
  clear hw1 hr
  go_wp2_with fail
  refine CN.out.mono ?_
  rintro e w2 ⟨rfl, hb2⟩
  simp only
  obtain ⟨w3, hw3⟩ : ∃ w3, w3 = w2.alloc (.cells #[.int .i64 t0, .int .i64 t1, .int .i64 f.ge, .int .i64 t3] 119) := ⟨_, rfl⟩
  obtain ⟨gS, hgS⟩ : ∃ gS, gS = w2.heap.size := ⟨_, rfl⟩
  have BN : Hid (Below w1.heap.size w1 w3) := Lib.hid (by rw [hw3]; exact hb2.alloc hb2.size _)
  have KS : Hid (Blk w3 gS 119 #[.int .i64 t0, .int .i64 t1, .int .i64 f.ge, .int .i64 t3]) := Lib.hid (by rw [hw3]; exact Blk.new w2 _ _ hgS)
  have Q3 := Lib.hid (Q1.out.below BN.out)
  have K3 := Lib.hid (K1.out.keep BN.out)
  clear hb2 CN y1
  go_upto_region 2 with fail
  rw [← hw3, ← hgS]
  clear hw3 hgS
  have s2 : w3.cell? ⟨gS, 2, none⟩ = some (.int .i64 f.ge) := KS.out.cell 2
  have y2 := Q3.out.1.cells.2.2.1
  go_quiet (fail)
  obtain ⟨w4, hw4⟩ : ∃ w4, w4 = w3.drewN nq := ⟨_, rfl⟩
  have Q4 : Hid (FwQ W C c rb k f w4) := Lib.hid (by rw [hw4]; exact Q3.out.below (below_drewN (Below.refl _ _) _))
  have K4 : Hid (Blk w4 r 170 zeroL) := Lib.hid (by rw [hw4]; exact K3.out.drewN _)
  rw [← hw4]
  clear hw4 s2 y2
  go_upto_region 3 with fail
  have z0 : w4.cell? ⟨r, 0, none⟩ = some (.int .i64 0) := (K4.out.cell 0).trans rfl
  have g0 := K4.out.frozen 0
  have z1 : w4.cell? ⟨r, 1, none⟩ = some (.int .i64 0) := (K4.out.cell 1).trans rfl
  have g1 := K4.out.frozen 1
  have z2 : w4.cell? ⟨r, 2, none⟩ = some (.int .i64 0) := (K4.out.cell 2).trans rfl
  have g2 := K4.out.frozen 2
  have z3 : w4.cell? ⟨r, 3, none⟩ = some (.int .i64 0) := (K4.out.cell 3).trans rfl
  have g3 := K4.out.frozen 3
  have z4 : w4.cell? ⟨r, 4, none⟩ = some (.int .i64 0) := (K4.out.cell 4).trans rfl
  have g4 := K4.out.frozen 4
  have z5 : w4.cell? ⟨r, 5, none⟩ = some (.int .i64 0) := (K4.out.cell 5).trans rfl
  have g5 := K4.out.frozen 5
  have z6 : w4.cell? ⟨r, 6, none⟩ = some (.int .i64 0) := (K4.out.cell 6).trans rfl
  have g6 := K4.out.frozen 6
  have z7 : w4.cell? ⟨r, 7, none⟩ = some (.int .i64 0) := (K4.out.cell 7).trans rfl
  have g7 := K4.out.frozen 7
  have z8 : w4.cell? ⟨r, 8, none⟩ = some (.int .i64 0) := (K4.out.cell 8).trans rfl
  have g8 := K4.out.frozen 8
  have z9 : w4.cell? ⟨r, 9, none⟩ = some (.string { data := #[] }) := (K4.out.cell 9).trans rfl
  have g9 := K4.out.frozen 9
  obtain ⟨wz, hwz⟩ : ∃ wz, wz = setZ w4 r := ⟨_, rfl⟩
  have KZ : Hid (Blk wz r 170 zeroL) := Lib.hid (by rw [hwz]; exact ((((((((((K4.out.set_ 0 (.int .i64 0)).set_ 1 (.int .i64 0)).set_ 2 (.int .i64 0)).set_ 3 (.int .i64 0)).set_ 4 (.int .i64 0)).set_ 5 (.int .i64 0)).set_ 6 (.int .i64 0)).set_ 7 (.int .i64 0)).set_ 8 (.int .i64 0)).set_ 9 (.string { data := #[] })))
  have BZ : Hid (Chg (fun b => b = r) w4 wz) := Lib.hid (by rw [hwz]; exact (((((((((((Chg.refl (fun b => b = r) w4).setCell (.inl rfl) _).setCell (.inl rfl) _).setCell (.inl rfl) _).setCell (.inl rfl) _).setCell (.inl rfl) _).setCell (.inl rfl) _).setCell (.inl rfl) _).setCell (.inl rfl) _).setCell (.inl rfl) _).setCell (.inl rfl) _))
  have QZ : Hid (FwQ W C c rb k f wz) := Lib.hid (Q4.out.far HR.out K4.out BZ.out)
  go_wp2_with fail
  unfold setZ at hwz
  rw [← hwz]
  clear hwz
  refine bodyPost_ret (v := .tuple #[.agg zeroL, .bool false, .bool false]) (ret_line rfl rfl rfl rfl KZ.out rfl) rfl ?_
  exact ⟨rfl, QZ.out⟩
set_option maxRecDepth 20000 in
set_option maxHeartbeats 4000000 in
theorem fw_cut_yes {W : World} {C : Nat → Nat} {c rb p : Nat} {k : FwK} {f : FwS} {D : World → Prop} {S : List UInt8 → T5} {I : Int → T5} {R : Int → Int → Int → Int → List UInt8 × Int} (h : FwR W C c rb k f) (ha : Asks p D S I R) (hD : Stay W C c D) (ho : AskOk S I R) (hf : f.Ok) (hi : (I f.ino).2.2.1 ≠ f.ge) : Calls Tryz.prog 127 #[.pointer (some ⟨rb, 0, none⟩), .pointer (some ⟨p, 0, none⟩)] W (TurnQ W C c rb k (f.cutF (I f.ino).2.2.1) zeroL false true) := by
  obtain ⟨w1, hw1⟩ : ∃ w1, w1 = W.alloc (.cells zeroL 170) := ⟨_, rfl⟩
  obtain ⟨r, hr⟩ : ∃ r, r = W.heap.size := ⟨_, rfl⟩
  have B1 : Hid (Below W.heap.size W w1) := Lib.hid (by rw [hw1]; exact (Below.refl _ _).alloc (Nat.le_refl _) _)
  have K1 : Hid (Blk w1 r 170 zeroL) := Lib.hid (by rw [hw1]; exact Blk.new W _ _ hr)
  have HR : Hid (W.heap.size ≤ r) := Lib.hid (by omega)
  have Q1 : Hid (FwQ W C c rb k f w1) := Lib.hid ((FwQ.refl h).below B1.out)
  have y1 := Q1.out.1.cells.2.1
  have CN := Lib.hid (ha.inode w1 f.ino (inM_ok hf.ino) (hD w1 (Chg.of_below B1.out _)))
  obtain ⟨⟨t0, t1, t2, t3, t4⟩, ht⟩ : ∃ t, t = I f.ino := ⟨_, rfl⟩
  rw [← ht] at CN
  have ho2 := ho.i f.ino
  rw [← ht] at hi ho2 ⊢
  simp only at hi ho2 ⊢
  have hne : (t2 == f.ge) = false := beq_eq_false_iff_ne.2 hi
  have hmax : ∀ W : World, (Builtin.max_ #[3, 3] 3 #[.int .i64 0, .int .i64 (t2 - f.ge)]).run Tryz.prog W = .ok (.int .i64 (max 0 (t2 - f.ge))) W := by
    intro W; rw [run_max_int2]; congr 2; split <;> omega
  have hwr : IntKind.i64.wrap (t2 - f.ge) = t2 - f.ge := IntWalk.i64_in _ (by have := hf.ge.1; have := hf.ge.2; have := ho2.1; have := ho2.2; omega)
  have HM := Lib.hid hmax
  have HW := Lib.hid hwr
  have HF := Lib.hid hf
  clear h ha hD ht hf hi ho ho2 hmax hwr
  go_enter Tryz.func127, Tryz.ntmps127
  go_upto_region 1 with fail
  unfold zeroL at hw1
  rw [← hw1, ← hr]
  clear hw1 hr
  go_wp2_with fail
  refine CN.out.mono ?_
  rintro e w2 ⟨rfl, hb2⟩
  simp only
  obtain ⟨w3, hw3⟩ : ∃ w3, w3 = w2.alloc (.cells #[.int .i64 t0, .int .i64 t1, .int .i64 t2, .int .i64 t3] 119) := ⟨_, rfl⟩
  obtain ⟨gS, hgS⟩ : ∃ gS, gS = w2.heap.size := ⟨_, rfl⟩
  have BN : Hid (Below w1.heap.size w1 w3) := Lib.hid (by rw [hw3]; exact hb2.alloc hb2.size _)
  have KS : Hid (Blk w3 gS 119 #[.int .i64 t0, .int .i64 t1, .int .i64 t2, .int .i64 t3]) := Lib.hid (by rw [hw3]; exact Blk.new w2 _ _ hgS)
  have Q3 := Lib.hid (Q1.out.below BN.out)
  have K3 := Lib.hid (K1.out.keep BN.out)
  clear hb2 CN y1
  go_upto_region 2 with fail
  rw [← hw3, ← hgS]
  clear hw3 hgS
  obtain ⟨C3, hC3, hn3, hs3, hb3⟩ := Q3.out.1.only
  have HC3 := Lib.hid (And.intro (hn3 r _ _ K3.out (by decide) (by decide) (by decide)) (And.intro (hn3 gS _ _ KS.out (by decide) (by decide) (by decide)) hb3))
  have X3 := Lib.hid (FwQ.refl hC3)
  clear hC3 hn3 hs3 hb3
  have s2 : w3.cell? ⟨gS, 2, none⟩ = some (.int .i64 t2) := KS.out.cell 2
  have y2 := Q3.out.1.cells.2.2.1
  go_quiet (fail)
  obtain ⟨w4, hw4⟩ : ∃ w4, w4 = w3.drewN nq := ⟨_, rfl⟩
  have X4 : Hid (FwQ w3 C3 c rb k f w4) := Lib.hid (by rw [hw4]; exact X3.out.below (below_drewN (Below.refl _ _) _))
  rw [← hw4]
  clear hw4 s2 y2
  have HB : Hid (∀ w, Chg (fun b => C3 b = c) w3 w → Blk w r 170 zeroL ∧ Blk w gS 119 #[.int .i64 t0, .int .i64 t1, .int .i64 t2, .int .i64 t3]) := Lib.hid (fun w hc => ⟨K3.out.chg hc HC3.out.1, KS.out.chg hc HC3.out.2.1⟩)
  go_upto_region 4 with fail
  have hmax := HM.out
  have hwr := HW.out
  refine wp_region_any (by kernel_rfl) ?_
  change wpAny _ _ _ _ _ _ _ (World.drew _)
  refine wpAny_of_held (S := fun w' => w'.cell? ⟨gS, 2, none⟩ = some (.int .i64 t2) ∧ w'.cell? ⟨rb, 2, none⟩ = some (.int .i64 f.ge)) _ _ _ _ ?_
  obtain ⟨w5, hw5⟩ : ∃ w5, w5 = w4.drew := ⟨_, rfl⟩
  have X5 : Hid (FwQ w3 C3 c rb k f w5) := Lib.hid (by rw [hw5]; exact X4.out.drew)
  rw [← hw5]
  clear hw5 X4
  have hHeld : (fun w' => w'.cell? ⟨gS, 2, none⟩ = some (.int .i64 t2) ∧ w'.cell? ⟨rb, 2, none⟩ = some (.int .i64 f.ge)) w5 := ⟨(HB.out _ X5.out.2).2.cell 2, X5.out.1.cells.2.2.1⟩
  have CU := Lib.hid (up_any rb 6 f.cu (max 0 (t2 - f.ge)) w5 X5.out.1.cells.2.2.2.2.2.2.1 (X5.out.1.frozen 6) HF.out.cu.1 HF.out.cu.2 (by omega))
  refine tkh 0 (v := ?_) rfl ?_ ?_; rotate_left
  · intro w hSw; (try dsimp only at hSw); go_simp <;> with_reducible rfl
  try simp only [Act.put, pz]
  refine tkh 1 (v := ?_) rfl ?_ ?_; rotate_left
  · intro w hSw; (try dsimp only at hSw); go_simp <;> with_reducible rfl
  try simp only [Act.put, pz]
  refine tkh 2 (v := ?_) rfl ?_ ?_; rotate_left
  · intro w hSw; (try dsimp only at hSw); go_simp <;> with_reducible rfl
  try simp only [Act.put, pz]
  refine tkh 3 (v := ?_) rfl ?_ ?_; rotate_left
  · intro w hSw; (try dsimp only at hSw); go_simp <;> with_reducible rfl
  try simp only [Act.put, pz]
  refine tkh 4 (v := ?_) rfl ?_ ?_; rotate_left
  · intro w hSw; (try dsimp only at hSw); go_simp <;> with_reducible rfl
  try simp only [Act.put, pz]
  refine tkh 5 (v := ?_) rfl ?_ ?_; rotate_left
  · intro w hSw; (try dsimp only at hSw); go_simp <;> with_reducible rfl
  try simp only [Act.put, pz]
  refine tkh 6 (v := ?_) rfl ?_ ?_; rotate_left
  · intro w hSw; (try dsimp only at hSw); go_simp <;> with_reducible rfl
  try simp only [Act.put, pz]
  refine tkh 7 (v := ?_) rfl ?_ ?_; rotate_left
  · intro w hSw; obtain ⟨q0, q1⟩ := hSw; go_simp <;> with_reducible rfl
  try simp only [Act.put, pz]
  refine tkh 8 (v := ?_) rfl ?_ ?_; rotate_left
  · intro w hSw; (try dsimp only at hSw); go_simp <;> with_reducible rfl
  try simp only [Act.put, pz]
  refine tkh 9 (v := ?_) rfl ?_ ?_; rotate_left
  · intro w hSw; (try dsimp only at hSw); go_simp <;> with_reducible rfl
  try simp only [Act.put, pz]
  refine tkh 10 (v := ?_) rfl ?_ ?_; rotate_left
  · intro w hSw; (try dsimp only at hSw); go_simp <;> with_reducible rfl
  try simp only [Act.put, pz]
  refine tkh 11 (v := ?_) rfl ?_ ?_; rotate_left
  · intro w hSw; (try dsimp only at hSw); go_simp <;> with_reducible rfl
  try simp only [Act.put, pz]
  refine tkh 12 (v := ?_) rfl ?_ ?_; rotate_left
  · intro w hSw; (try dsimp only at hSw); go_simp <;> with_reducible rfl
  try simp only [Act.put, pz]
  refine tkh 13 (v := ?_) rfl ?_ ?_; rotate_left
  · intro w hSw; obtain ⟨q0, q1⟩ := hSw; go_simp <;> with_reducible rfl
  try simp only [Act.put, pz]
  refine tkh 14 (v := ?_) rfl ?_ ?_; rotate_left
  · intro w hSw; (try dsimp only at hSw); go_simp <;> with_reducible rfl
  try simp only [Act.put, pz]
  refine tkh 15 (v := ?_) rfl ?_ ?_; rotate_left
  · intro w hSw; (try dsimp only at hSw); go_simp <;> with_reducible rfl
  try simp only [Act.put, pz]
  refine wpAnyH_ready (rs := [16]) (by kernel_rfl) (by simp) (AllReadyH.cons rfl (fun K hK => ?_) AllReadyH.nil)
  have hPrev := hHeld
  clear hHeld
  go_simp
  clear hmax hwr
  refine CU.out.mono ?_
  rintro e w6 ⟨rfl, hw6⟩
  have X6 : Hid (FwQ w3 C3 c rb k (f.put 6 (upv f.cu (max 0 (t2 - f.ge)))) w6) := Lib.hid (by rw [hw6]; exact (X5.out.put (i := 6) (by decide) _).drew)
  clear hw6 CU
  refine hK.out _ _ (⟨(HB.out _ X6.out.2).2.cell 2, X6.out.1.cells.2.2.1⟩) (fun hHeld => ?_)
  clear hK K hPrev
  try simp only [Act.put, pz]
  refine wpAnyH_done (by kernel_rfl) ?_ _
  clear hHeld X5
  have s2 : w6.cell? ⟨gS, 2, none⟩ = some (.int .i64 t2) := (HB.out _ X6.out.2).2.cell 2
  have y2 := X6.out.1.cells.2.2.1
  have y3 := X6.out.1.cells.2.2.2.1
  have z2 := X6.out.1.frozen 2
  have z3 := X6.out.1.frozen 3
  obtain ⟨w7, hw7⟩ : ∃ w7, w7 = (w6.setCell ⟨rb, 2, none⟩ (.int .i64 t2)).setCell ⟨rb, 3, none⟩ (.int .i64 0) := ⟨_, rfl⟩
  have X7 : Hid (FwQ w3 C3 c rb k (((f.put 6 (upv f.cu (max 0 (t2 - f.ge)))).put 2 t2).put 3 0) w7) := Lib.hid (by rw [hw7]; exact (X6.out.put (i := 2) (by decide) _).put (i := 3) (by decide) _)
  go_upto_region 6 with fail
  rw [← hw7]
  clear hw7 s2 y2 y3 z2 z3
  obtain ⟨mb, v, y9, hm, hK⟩ := X7.out.1.maker
  have CD := Lib.hid (drop_any mb v k.line _ _ w7 hm)
  have HK := Lib.hid hK
  clear hm hK
  go_wp2_with fail
  refine CD.out.mono ?_
  rintro e w8 ⟨rfl, hm2, hc2⟩
  have X8 := Lib.hid (X7.out.trans (HK.out _ _ _ _ hm2 hc2 (Fresh.nil _ _)))
  have Q8 : Hid (FwQ W C c rb k (f.cutF t2) w8) := Lib.hid (Q3.out.trans (HC3.out.2.2 _ _ X8.out))
  have K8 : Hid (Blk w8 r 170 zeroL) := Lib.hid (HB.out _ X8.out.2).1
  clear hm2 hc2 CD HK y9
  go_upto_region 7 with fail
  have z0 : w8.cell? ⟨r, 0, none⟩ = some (.int .i64 0) := (K8.out.cell 0).trans rfl
  have g0 := K8.out.frozen 0
  have z1 : w8.cell? ⟨r, 1, none⟩ = some (.int .i64 0) := (K8.out.cell 1).trans rfl
  have g1 := K8.out.frozen 1
  have z2 : w8.cell? ⟨r, 2, none⟩ = some (.int .i64 0) := (K8.out.cell 2).trans rfl
  have g2 := K8.out.frozen 2
  have z3 : w8.cell? ⟨r, 3, none⟩ = some (.int .i64 0) := (K8.out.cell 3).trans rfl
  have g3 := K8.out.frozen 3
  have z4 : w8.cell? ⟨r, 4, none⟩ = some (.int .i64 0) := (K8.out.cell 4).trans rfl
  have g4 := K8.out.frozen 4
  have z5 : w8.cell? ⟨r, 5, none⟩ = some (.int .i64 0) := (K8.out.cell 5).trans rfl
  have g5 := K8.out.frozen 5
  have z6 : w8.cell? ⟨r, 6, none⟩ = some (.int .i64 0) := (K8.out.cell 6).trans rfl
  have g6 := K8.out.frozen 6
  have z7 : w8.cell? ⟨r, 7, none⟩ = some (.int .i64 0) := (K8.out.cell 7).trans rfl
  have g7 := K8.out.frozen 7
  have z8 : w8.cell? ⟨r, 8, none⟩ = some (.int .i64 0) := (K8.out.cell 8).trans rfl
  have g8 := K8.out.frozen 8
  have z9 : w8.cell? ⟨r, 9, none⟩ = some (.string { data := #[] }) := (K8.out.cell 9).trans rfl
  have g9 := K8.out.frozen 9
  obtain ⟨wz, hwz⟩ : ∃ wz, wz = setZ w8 r := ⟨_, rfl⟩
  have KZ : Hid (Blk wz r 170 zeroL) := Lib.hid (by rw [hwz]; exact ((((((((((K8.out.set_ 0 (.int .i64 0)).set_ 1 (.int .i64 0)).set_ 2 (.int .i64 0)).set_ 3 (.int .i64 0)).set_ 4 (.int .i64 0)).set_ 5 (.int .i64 0)).set_ 6 (.int .i64 0)).set_ 7 (.int .i64 0)).set_ 8 (.int .i64 0)).set_ 9 (.string { data := #[] })))
  have BZ : Hid (Chg (fun b => b = r) w8 wz) := Lib.hid (by rw [hwz]; exact (((((((((((Chg.refl (fun b => b = r) w8).setCell (.inl rfl) _).setCell (.inl rfl) _).setCell (.inl rfl) _).setCell (.inl rfl) _).setCell (.inl rfl) _).setCell (.inl rfl) _).setCell (.inl rfl) _).setCell (.inl rfl) _).setCell (.inl rfl) _).setCell (.inl rfl) _))
  have QZ : Hid (FwQ W C c rb k (f.cutF t2) wz) := Lib.hid (Q8.out.far HR.out K8.out BZ.out)
  go_wp2_with fail
  unfold setZ at hwz
  rw [← hwz]
  clear hwz
  refine bodyPost_ret (v := .tuple #[.agg zeroL, .bool false, .bool true]) (ret_line rfl rfl rfl rfl KZ.out rfl) rfl ?_
  exact ⟨rfl, QZ.out⟩
def FwS.turnsF (f : FwS) (t : T5) : FwS := (if 0 < f.u.length then { f.letGo with ta := upv f.ta 1 } else f.letGo).takeUp t
set_option maxRecDepth 20000 in
set_option maxHeartbeats 4000000 in
theorem fw_turns_no {W : World} {C : Nat → Nat} {c rb p : Nat} {k : FwK} {f : FwS} {D : World → Prop} {S : List UInt8 → T5} {I : Int → T5} {R : Int → Int → Int → Int → List UInt8 × Int} (h : FwR W C c rb k f) (ha : Asks p D S I R) (hD : Stay W C c D) (hn : nextB (S k.nm) f = false) : Calls Tryz.prog 129 #[.pointer (some ⟨rb, 0, none⟩), .pointer (some ⟨p, 0, none⟩)] W (TurnQ W C c rb k f zeroL false false) := by
  obtain ⟨w1, hw1⟩ : ∃ w1, w1 = W.alloc (.cells zeroL 170) := ⟨_, rfl⟩
  obtain ⟨r, hr⟩ : ∃ r, r = W.heap.size := ⟨_, rfl⟩
  have B1 : Hid (Below W.heap.size W w1) := Lib.hid (by rw [hw1]; exact (Below.refl _ _).alloc (Nat.le_refl _) _)
  have K1 : Hid (Blk w1 r 170 zeroL) := Lib.hid (by rw [hw1]; exact Blk.new W _ _ hr)
  have HR : Hid (W.heap.size ≤ r) := Lib.hid (by omega)
  have Q1 : Hid (FwQ W C c rb k f w1) := Lib.hid ((FwQ.refl h).below B1.out)
  have HA := Lib.hid ha
  have HD := Lib.hid hD
  obtain ⟨⟨t0, t1, t2, t3, t4⟩, ht⟩ : ∃ t, t = S k.nm := ⟨_, rfl⟩
  have HT := Lib.hid ht
  have HN := Lib.hid hn
  clear h ha hD hn ht
  go_enter Tryz.func129, Tryz.ntmps129
  go_upto_region 1 with fail
  unfold zeroL at hw1
  rw [← hw1, ← hr]
  clear hw1 hr
  have CN := Lib.hid (fw_next Q1.out.1 HA.out (HD.out.next Q1.out.2))
  go_wp2_with fail
  refine CN.out.mono ?_
  rintro e w2 ⟨rfl, hb2⟩
  rw [HN.out, ← HT.out]
  unfold stF
  simp only
  obtain ⟨w3, hw3⟩ : ∃ w3, w3 = w2.alloc (.cells #[.int .i64 t0, .int .i64 t1, .int .i64 t2, .int .i64 t3] 119) := ⟨_, rfl⟩
  obtain ⟨gS, hgS⟩ : ∃ gS, gS = w2.heap.size := ⟨_, rfl⟩
  have BN : Hid (Below w1.heap.size w1 w3) := Lib.hid (by rw [hw3]; exact hb2.alloc hb2.size _)
  have KS : Hid (Blk w3 gS 119 #[.int .i64 t0, .int .i64 t1, .int .i64 t2, .int .i64 t3]) := Lib.hid (by rw [hw3]; exact Blk.new w2 _ _ hgS)
  have Q3 := Lib.hid (Q1.out.below BN.out)
  have K3 := Lib.hid (K1.out.keep BN.out)
  clear hb2 CN
  go_upto_region 2 with fail
  rw [← hw3, ← hgS]
  clear hw3 hgS
  go_upto_region 3 with fail
  have z0 : w3.cell? ⟨r, 0, none⟩ = some (.int .i64 0) := (K3.out.cell 0).trans rfl
  have g0 := K3.out.frozen 0
  have z1 : w3.cell? ⟨r, 1, none⟩ = some (.int .i64 0) := (K3.out.cell 1).trans rfl
  have g1 := K3.out.frozen 1
  have z2 : w3.cell? ⟨r, 2, none⟩ = some (.int .i64 0) := (K3.out.cell 2).trans rfl
  have g2 := K3.out.frozen 2
  have z3 : w3.cell? ⟨r, 3, none⟩ = some (.int .i64 0) := (K3.out.cell 3).trans rfl
  have g3 := K3.out.frozen 3
  have z4 : w3.cell? ⟨r, 4, none⟩ = some (.int .i64 0) := (K3.out.cell 4).trans rfl
  have g4 := K3.out.frozen 4
  have z5 : w3.cell? ⟨r, 5, none⟩ = some (.int .i64 0) := (K3.out.cell 5).trans rfl
  have g5 := K3.out.frozen 5
  have z6 : w3.cell? ⟨r, 6, none⟩ = some (.int .i64 0) := (K3.out.cell 6).trans rfl
  have g6 := K3.out.frozen 6
  have z7 : w3.cell? ⟨r, 7, none⟩ = some (.int .i64 0) := (K3.out.cell 7).trans rfl
  have g7 := K3.out.frozen 7
  have z8 : w3.cell? ⟨r, 8, none⟩ = some (.int .i64 0) := (K3.out.cell 8).trans rfl
  have g8 := K3.out.frozen 8
  have z9 : w3.cell? ⟨r, 9, none⟩ = some (.string { data := #[] }) := (K3.out.cell 9).trans rfl
  have g9 := K3.out.frozen 9
  obtain ⟨wz, hwz⟩ : ∃ wz, wz = setZ w3 r := ⟨_, rfl⟩
  have KZ : Hid (Blk wz r 170 zeroL) := Lib.hid (by rw [hwz]; exact ((((((((((K3.out.set_ 0 (.int .i64 0)).set_ 1 (.int .i64 0)).set_ 2 (.int .i64 0)).set_ 3 (.int .i64 0)).set_ 4 (.int .i64 0)).set_ 5 (.int .i64 0)).set_ 6 (.int .i64 0)).set_ 7 (.int .i64 0)).set_ 8 (.int .i64 0)).set_ 9 (.string { data := #[] })))
  have BZ : Hid (Chg (fun b => b = r) w3 wz) := Lib.hid (by rw [hwz]; exact (((((((((((Chg.refl (fun b => b = r) w3).setCell (.inl rfl) _).setCell (.inl rfl) _).setCell (.inl rfl) _).setCell (.inl rfl) _).setCell (.inl rfl) _).setCell (.inl rfl) _).setCell (.inl rfl) _).setCell (.inl rfl) _).setCell (.inl rfl) _).setCell (.inl rfl) _))
  have QZ : Hid (FwQ W C c rb k f wz) := Lib.hid (Q3.out.far HR.out K3.out BZ.out)
  go_wp2_with fail
  unfold setZ at hwz
  rw [← hwz]
  clear hwz
  refine bodyPost_ret (v := .tuple #[.agg zeroL, .bool false, .bool false]) (ret_line rfl rfl rfl rfl KZ.out rfl) rfl ?_
  exact ⟨rfl, QZ.out⟩
set_option maxRecDepth 20000 in
set_option maxHeartbeats 4000000 in
theorem fw_turns_yes {W : World} {C : Nat → Nat} {c rb p : Nat} {k : FwK} {f : FwS} {D : World → Prop} {S : List UInt8 → T5} {I : Int → T5} {R : Int → Int → Int → Int → List UInt8 × Int} (h : FwR W C c rb k f) (ha : Asks p D S I R) (hD : Stay W C c D) (ho : AskOk S I R) (hf : f.Ok) (hul : f.u.length ≤ 4611686018427387904) (hn : nextB (S k.nm) f = true) : Calls Tryz.prog 129 #[.pointer (some ⟨rb, 0, none⟩), .pointer (some ⟨p, 0, none⟩)] W (TurnQ W C c rb k (f.turnsF (S k.nm)) zeroL false true) := by
  obtain ⟨w1, hw1⟩ : ∃ w1, w1 = W.alloc (.cells zeroL 170) := ⟨_, rfl⟩
  obtain ⟨r, hr⟩ : ∃ r, r = W.heap.size := ⟨_, rfl⟩
  have B1 : Hid (Below W.heap.size W w1) := Lib.hid (by rw [hw1]; exact (Below.refl _ _).alloc (Nat.le_refl _) _)
  have K1 : Hid (Blk w1 r 170 zeroL) := Lib.hid (by rw [hw1]; exact Blk.new W _ _ hr)
  have HR : Hid (W.heap.size ≤ r) := Lib.hid (by omega)
  have Q1 : Hid (FwQ W C c rb k f w1) := Lib.hid ((FwQ.refl h).below B1.out)
  have HA := Lib.hid ha
  have HD := Lib.hid hD
  have HO := Lib.hid (ho.s k.nm)
  obtain ⟨⟨t0, t1, t2, t3, t4⟩, ht⟩ : ∃ t, t = S k.nm := ⟨_, rfl⟩
  have HT := Lib.hid ht
  have HN := Lib.hid hn
  have HF := Lib.hid hf
  have HLT : Hid (f.se < t1 ∧ t1 ≤ 4611686018427387904) := Lib.hid (by
    unfold nextB at hn
    rw [← ht] at hn
    simp at hn
    have := HO.out.2.1
    rw [← ht] at this
    exact ⟨hn.2, this.2⟩)
  clear h ha hD hn ht ho hf
  go_enter Tryz.func129, Tryz.ntmps129
  go_upto_region 1 with fail
  unfold zeroL at hw1
  rw [← hw1, ← hr]
  clear hw1 hr
  have CN := Lib.hid (fw_next Q1.out.1 HA.out (HD.out.next Q1.out.2))
  go_wp2_with fail
  refine CN.out.mono ?_
  rintro e w2 ⟨rfl, hb2⟩
  rw [HN.out, ← HT.out]
  unfold stF
  simp only
  obtain ⟨w3, hw3⟩ : ∃ w3, w3 = w2.alloc (.cells #[.int .i64 t0, .int .i64 t1, .int .i64 t2, .int .i64 t3] 119) := ⟨_, rfl⟩
  obtain ⟨gS, hgS⟩ : ∃ gS, gS = w2.heap.size := ⟨_, rfl⟩
  have BN : Hid (Below w1.heap.size w1 w3) := Lib.hid (by rw [hw3]; exact hb2.alloc hb2.size _)
  have KS : Hid (Blk w3 gS 119 #[.int .i64 t0, .int .i64 t1, .int .i64 t2, .int .i64 t3]) := Lib.hid (by rw [hw3]; exact Blk.new w2 _ _ hgS)
  have Q3 := Lib.hid (Q1.out.below BN.out)
  have K3 := Lib.hid (K1.out.keep BN.out)
  clear hb2 CN
  go_upto_region 2 with fail
  rw [← hw3, ← hgS]
  clear hw3 hgS
  obtain ⟨C3, hC3, hn3, hs3, hb3⟩ := Q3.out.1.only
  have HC3 := Lib.hid (And.intro (hn3 r _ _ K3.out (by decide) (by decide) (by decide)) (And.intro (hn3 gS _ _ KS.out (by decide) (by decide) (by decide)) hb3))
  have X3 := Lib.hid (FwQ.refl hC3)
  clear hC3 hn3 hs3 hb3
  have HB : Hid (∀ w, Chg (fun b => C3 b = c) w3 w → Blk w r 170 zeroL ∧ Blk w gS 119 #[.int .i64 t0, .int .i64 t1, .int .i64 t2, .int .i64 t3]) := Lib.hid (fun w hc => ⟨K3.out.chg hc HC3.out.1, KS.out.chg hc HC3.out.2.1⟩)
  obtain ⟨mb, v, y9, hm, _⟩ := X3.out.1.maker
  have CB := Lib.hid (begun_any mb v k.line _ _ w3 hm)
  obtain ⟨L, hL⟩ : ∃ L, L = f.u.length := ⟨_, rfl⟩
  rw [← hL] at CB hul
  have HL := Lib.hid hL
  clear hm hL
  go_upto_region 4 with fail
  go_wp2_with fail
  refine CB.out.mono ?_
  rintro e w' ⟨rfl, rfl⟩
  clear CB y9
  by_cases h0 : 0 < L
  · have CU := Lib.hid (up_any rb 7 f.ta 1 w3 X3.out.1.cells.2.2.2.2.2.2.2.1 (X3.out.1.frozen 7) HF.out.ta.1 HF.out.ta.2 (by decide))
    have h0i : (0 : Int) < (L : Int) := by omega
    go_wp2_with fail
    refine CU.out.mono ?_
    rintro e w4 ⟨rfl, hw4⟩
    have X4 : Hid (FwQ w3 C3 c rb k (f.put 7 (upv f.ta 1)) w4) := Lib.hid (by rw [hw4]; exact (X3.out.put (i := 7) (by decide) _).drew)
    clear hw4 CU
    have CL := Lib.hid (fw_letGo X4.out.1)
    go_wp2_with fail
    refine CL.out.mono ?_
    rintro e w5 ⟨rfl, hq5⟩
    have X5 := Lib.hid (X4.out.trans hq5)
    have s0 : w5.cell? ⟨gS, 0, none⟩ = some (.int .i64 t0) := (HB.out _ X5.out.2).2.cell 0
    have s1 : w5.cell? ⟨gS, 1, none⟩ = some (.int .i64 t1) := (HB.out _ X5.out.2).2.cell 1
    have s2 : w5.cell? ⟨gS, 2, none⟩ = some (.int .i64 t2) := (HB.out _ X5.out.2).2.cell 2
    have s3 : w5.cell? ⟨gS, 3, none⟩ = some (.int .i64 t3) := (HB.out _ X5.out.2).2.cell 3
    have CT := Lib.hid (fw_takeUp X5.out.1 t0 t1 t2 t3 HF.out.mi HF.out.se HLT.out.1 HLT.out.2)
    clear hq5 CL
    go_wp2_with fail
    refine CT.out.mono ?_
    rintro e w6 ⟨rfl, hq6⟩
    have X6 := Lib.hid (X5.out.trans hq6)
    have Q6 : Hid (FwQ W C c rb k (f.turnsF (S k.nm)) w6) := Lib.hid (by
      have h1 := Q3.out.trans (HC3.out.2.2 _ _ X6.out)
      unfold FwS.turnsF
      rw [← HT.out, if_pos (by rw [← HL.out]; exact h0)]
      exact h1)
    have K6 : Hid (Blk w6 r 170 zeroL) := Lib.hid (HB.out _ X6.out.2).1
    clear hq6 CT s0 s1 s2 s3
    go_upto_region 8 with fail
    have z0 : w6.cell? ⟨r, 0, none⟩ = some (.int .i64 0) := (K6.out.cell 0).trans rfl
    have g0 := K6.out.frozen 0
    have z1 : w6.cell? ⟨r, 1, none⟩ = some (.int .i64 0) := (K6.out.cell 1).trans rfl
    have g1 := K6.out.frozen 1
    have z2 : w6.cell? ⟨r, 2, none⟩ = some (.int .i64 0) := (K6.out.cell 2).trans rfl
    have g2 := K6.out.frozen 2
    have z3 : w6.cell? ⟨r, 3, none⟩ = some (.int .i64 0) := (K6.out.cell 3).trans rfl
    have g3 := K6.out.frozen 3
    have z4 : w6.cell? ⟨r, 4, none⟩ = some (.int .i64 0) := (K6.out.cell 4).trans rfl
    have g4 := K6.out.frozen 4
    have z5 : w6.cell? ⟨r, 5, none⟩ = some (.int .i64 0) := (K6.out.cell 5).trans rfl
    have g5 := K6.out.frozen 5
    have z6 : w6.cell? ⟨r, 6, none⟩ = some (.int .i64 0) := (K6.out.cell 6).trans rfl
    have g6 := K6.out.frozen 6
    have z7 : w6.cell? ⟨r, 7, none⟩ = some (.int .i64 0) := (K6.out.cell 7).trans rfl
    have g7 := K6.out.frozen 7
    have z8 : w6.cell? ⟨r, 8, none⟩ = some (.int .i64 0) := (K6.out.cell 8).trans rfl
    have g8 := K6.out.frozen 8
    have z9 : w6.cell? ⟨r, 9, none⟩ = some (.string { data := #[] }) := (K6.out.cell 9).trans rfl
    have g9 := K6.out.frozen 9
    obtain ⟨wz, hwz⟩ : ∃ wz, wz = setZ w6 r := ⟨_, rfl⟩
    have KZ : Hid (Blk wz r 170 zeroL) := Lib.hid (by rw [hwz]; exact ((((((((((K6.out.set_ 0 (.int .i64 0)).set_ 1 (.int .i64 0)).set_ 2 (.int .i64 0)).set_ 3 (.int .i64 0)).set_ 4 (.int .i64 0)).set_ 5 (.int .i64 0)).set_ 6 (.int .i64 0)).set_ 7 (.int .i64 0)).set_ 8 (.int .i64 0)).set_ 9 (.string { data := #[] })))
    have BZ : Hid (Chg (fun b => b = r) w6 wz) := Lib.hid (by rw [hwz]; exact (((((((((((Chg.refl (fun b => b = r) w6).setCell (.inl rfl) _).setCell (.inl rfl) _).setCell (.inl rfl) _).setCell (.inl rfl) _).setCell (.inl rfl) _).setCell (.inl rfl) _).setCell (.inl rfl) _).setCell (.inl rfl) _).setCell (.inl rfl) _).setCell (.inl rfl) _))
    have QZ : Hid (FwQ W C c rb k (f.turnsF (S k.nm)) wz) := Lib.hid (Q6.out.far HR.out K6.out BZ.out)
    go_wp2_with fail
    unfold setZ at hwz
    rw [← hwz]
    clear hwz
    refine bodyPost_ret (v := .tuple #[.agg zeroL, .bool false, .bool true]) (ret_line rfl rfl rfl rfl KZ.out rfl) rfl ?_
    exact ⟨rfl, QZ.out⟩
  · have h0i : ¬ (0 : Int) < (L : Int) := by omega
    have CL := Lib.hid (fw_letGo X3.out.1)
    go_wp2_with fail
    refine CL.out.mono ?_
    rintro e w4 ⟨rfl, hq4⟩
    have X4 := Lib.hid (X3.out.trans hq4)
    have s0 : w4.cell? ⟨gS, 0, none⟩ = some (.int .i64 t0) := (HB.out _ X4.out.2).2.cell 0
    have s1 : w4.cell? ⟨gS, 1, none⟩ = some (.int .i64 t1) := (HB.out _ X4.out.2).2.cell 1
    have s2 : w4.cell? ⟨gS, 2, none⟩ = some (.int .i64 t2) := (HB.out _ X4.out.2).2.cell 2
    have s3 : w4.cell? ⟨gS, 3, none⟩ = some (.int .i64 t3) := (HB.out _ X4.out.2).2.cell 3
    have CT := Lib.hid (fw_takeUp X4.out.1 t0 t1 t2 t3 HF.out.mi HF.out.se HLT.out.1 HLT.out.2)
    clear hq4 CL
    go_wp2_with fail
    refine CT.out.mono ?_
    rintro e w5 ⟨rfl, hq5⟩
    have X5 := Lib.hid (X4.out.trans hq5)
    have Q5 : Hid (FwQ W C c rb k (f.turnsF (S k.nm)) w5) := Lib.hid (by
      have h1 := Q3.out.trans (HC3.out.2.2 _ _ X5.out)
      unfold FwS.turnsF
      rw [← HT.out, if_neg (by rw [← HL.out]; exact h0)]
      exact h1)
    have K5 : Hid (Blk w5 r 170 zeroL) := Lib.hid (HB.out _ X5.out.2).1
    clear hq5 CT s0 s1 s2 s3
    go_upto_region 8 with fail
    have z0 : w5.cell? ⟨r, 0, none⟩ = some (.int .i64 0) := (K5.out.cell 0).trans rfl
    have g0 := K5.out.frozen 0
    have z1 : w5.cell? ⟨r, 1, none⟩ = some (.int .i64 0) := (K5.out.cell 1).trans rfl
    have g1 := K5.out.frozen 1
    have z2 : w5.cell? ⟨r, 2, none⟩ = some (.int .i64 0) := (K5.out.cell 2).trans rfl
    have g2 := K5.out.frozen 2
    have z3 : w5.cell? ⟨r, 3, none⟩ = some (.int .i64 0) := (K5.out.cell 3).trans rfl
    have g3 := K5.out.frozen 3
    have z4 : w5.cell? ⟨r, 4, none⟩ = some (.int .i64 0) := (K5.out.cell 4).trans rfl
    have g4 := K5.out.frozen 4
    have z5 : w5.cell? ⟨r, 5, none⟩ = some (.int .i64 0) := (K5.out.cell 5).trans rfl
    have g5 := K5.out.frozen 5
    have z6 : w5.cell? ⟨r, 6, none⟩ = some (.int .i64 0) := (K5.out.cell 6).trans rfl
    have g6 := K5.out.frozen 6
    have z7 : w5.cell? ⟨r, 7, none⟩ = some (.int .i64 0) := (K5.out.cell 7).trans rfl
    have g7 := K5.out.frozen 7
    have z8 : w5.cell? ⟨r, 8, none⟩ = some (.int .i64 0) := (K5.out.cell 8).trans rfl
    have g8 := K5.out.frozen 8
    have z9 : w5.cell? ⟨r, 9, none⟩ = some (.string { data := #[] }) := (K5.out.cell 9).trans rfl
    have g9 := K5.out.frozen 9
    obtain ⟨wz, hwz⟩ : ∃ wz, wz = setZ w5 r := ⟨_, rfl⟩
    have KZ : Hid (Blk wz r 170 zeroL) := Lib.hid (by rw [hwz]; exact ((((((((((K5.out.set_ 0 (.int .i64 0)).set_ 1 (.int .i64 0)).set_ 2 (.int .i64 0)).set_ 3 (.int .i64 0)).set_ 4 (.int .i64 0)).set_ 5 (.int .i64 0)).set_ 6 (.int .i64 0)).set_ 7 (.int .i64 0)).set_ 8 (.int .i64 0)).set_ 9 (.string { data := #[] })))
    have BZ : Hid (Chg (fun b => b = r) w5 wz) := Lib.hid (by rw [hwz]; exact (((((((((((Chg.refl (fun b => b = r) w5).setCell (.inl rfl) _).setCell (.inl rfl) _).setCell (.inl rfl) _).setCell (.inl rfl) _).setCell (.inl rfl) _).setCell (.inl rfl) _).setCell (.inl rfl) _).setCell (.inl rfl) _).setCell (.inl rfl) _).setCell (.inl rfl) _))
    have QZ : Hid (FwQ W C c rb k (f.turnsF (S k.nm)) wz) := Lib.hid (Q5.out.far HR.out K5.out BZ.out)
    go_wp2_with fail
    unfold setZ at hwz
    rw [← hwz]
    clear hwz
    refine bodyPost_ret (v := .tuple #[.agg zeroL, .bool false, .bool true]) (ret_line rfl rfl rfl rfl KZ.out rfl) rfl ?_
    exact ⟨rfl, QZ.out⟩
end Go.Proofs.YtlojmmcagglpoaaGreat
