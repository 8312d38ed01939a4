/- THE WALK of table.read. -/
import Derived.Test.YtnglgppdkohhpaaDoorTbR26
import Derived.Test.YtnglgppdkohhpaaDoorTbBig
namespace Go.Proofs.YtnglgppdkohhpaaDoor
open Go.RowKit
def zcls : List Int := List.replicate 256 0
def nilV : Value := .slice none 0 0
theorem zero_table : (Tryd.prog.info? 26).map (fun i => (i.zero, i.size)) = some (some (.agg (dcells zcls nilV nilV nilV)), 259) := by kernel_rfl
theorem zero_run (w : World) : (zeroValue 26).run Tryd.prog w = .ok (.agg (dcells zcls nilV nilV nilV)) w := (zero_of_info zero_table).1 w
def rowAt (l : List UInt8) (m o : Nat) : List Int := (List.range m).map fun k => (numAt l (o + 2 * k) 2 : Int)
def clsAt (l : List UInt8) : List Int := (List.range 256).map fun k => (numAt l (14 + k) 1 : Int)
/-- the first s rows of the bytes' table, m numbers in each -/
def tabAt (l : List UInt8) (m s : Nat) : Tb :=
  ⟨clsAt l, (List.range s).map fun j => rowAt l m (270 + j * (2 * m + 8)), (List.range s).map fun j => numAt l (270 + j * (2 * m + 8) + 2 * m) 4, (List.range s).map fun j => numAt l (270 + j * (2 * m + 8) + 2 * m + 4) 4⟩
def nSt (l : List UInt8) : Nat := numAt l 8 4
def nCl (l : List UInt8) : Nat := numAt l 12 2
def okLen (l : List UInt8) : Prop := nSt l ≤ 4096 ∧ nCl l ≤ 256 ∧ l.length = 274 + nSt l * (2 * nCl l + 8)
def zeroT : Tb := ⟨zcls, [], [], []⟩
theorem leV_lt4 (l : List UInt8) (o k : Nat) : numAt l o k < 256 ^ k := by
  unfold numAt
  refine Nat.lt_of_lt_of_le (leV_lt _) ?_
  exact Nat.pow_le_pow_right (by decide) (by simp; omega)
theorem own_one {W : World} {base n : Nat} {e : TypeId} {v : Value} {xs : List Value} (h : W.ownsRow base e 1 v n xs) : v.oneCell' = true := by
  obtain ⟨A, c, rfl, _⟩ := own_form h
  rfl
theorem tabAt_succ (l : List UInt8) (m s : Nat) : tabAt l m (s + 1) = ⟨(tabAt l m s).cls, (tabAt l m s).nx ++ [rowAt l m (270 + s * (2 * m + 8))], (tabAt l m s).fo ++ [numAt l (270 + s * (2 * m + 8) + 2 * m) 4], (tabAt l m s).en ++ [numAt l (270 + s * (2 * m + 8) + 2 * m + 4) 4]⟩ := by
  unfold tabAt; simp [List.range_succ]
/-- the reading: the reader, the variable that is filled, the result's cell -/
structure RdS (w W : World) (N0 bR bD b2 : Nat) (l : List UInt8) (i : Nat) (C : Array Value) : Prop where
  rp : RP w W N0 bR bD l i
  bd : Blk W bD 26 C
  bz : Blk W b2 26 (dcells zcls nilV nilV nilV)
  lo : b2 < N0 ∧ b2 ≠ bR ∧ b2 ≠ bD ∧ w.heap.size ≤ b2
theorem RdS.chg {w W W' : World} {N0 bR bD b2 i : Nat} {l : List UInt8} {C : Array Value} {S : Nat → Prop} (h : RdS w W N0 bR bD b2 l i C) (hc : Chg S W W') (hS : ∀ b, b < N0 → ¬ S b) : RdS w W' N0 bR bD b2 l i C :=
  ⟨h.rp.chg hc (fun b hb e => absurd e (hS b hb)), h.bd.chg hc (hS _ h.rp.lo.2.1), h.bz.chg hc (hS _ h.lo.1), h.lo⟩
theorem RdS.keep {w W W' : World} {N0 bR bD b2 i : Nat} {l : List UInt8} {C : Array Value} (h : RdS w W N0 bR bD b2 l i C) (hb : Below W.heap.size W W') : RdS w W' N0 bR bD b2 l i C := h.chg (Chg.of_below hb (fun _ => False)) (fun _ _ e => e)
theorem OL.set_far {W : World} {N0 : Nat} {vn vf ve : Value} {t : Tb} {m g : Nat} {gs : List Nat} {C : Array Value} (h : OL W N0 vn vf ve t m gs) (hg : Blk W g 3 C) (hnew : ∀ s : Nat, gs[s]? ≠ some g) (k : Nat) (u : Value) : OL (W.setCell ⟨g, k, none⟩ u) N0 vn vf ve t m gs := by
  have hc : Chg (fun b => b = g) W (W.setCell ⟨g, k, none⟩ u) := Chg.setCell (S := fun b => b = g) (p := ⟨g, k, none⟩) (Chg.refl _ W) (.inl rfl) _
  refine ⟨hc.own h.on (fun k hk e => hg.apart h.on (by decide) (by rw [hk, e])), hc.own h.of_ (fun k hk e => hg.apart h.of_ (by decide) (by rw [hk, e])), hc.own h.oe (fun k hk e => hg.apart h.oe (by decide) (by rw [hk, e])), h.len, fun s g' row hs hr => ?_, h.ap, h.fe⟩
  obtain ⟨h1, h2, h3⟩ := h.rows s g' row hs hr
  exact ⟨h1, h2, h3.chg hc (fun e => hnew s (by rw [hs, e]))⟩
def NumS (w W : World) (N0 bR bD b2 : Nat) (l : List UInt8) (i k : Nat) (C : Array Value) (e : Ending) (w' : World) : Prop :=
  e = .returned (.tuple #[.int .u64 (numAt l i k : Int), .int .i64 0]) ∧ RdS w w' N0 bR bD b2 l (i + k) C ∧ Chg (fun b => b = bR) W w'
theorem RdS.num {w W : World} {N0 bR bD b2 i : Nat} {l : List UInt8} {C : Array Value} (h : RdS w W N0 bR bD b2 l i C) (k : Nat) (h1 : 1 ≤ k) (h8 : k ≤ 8) (hk : i + k ≤ l.length) :
    Calls Tryd.prog 39 #[.pointer (some ⟨bR, 0, none⟩), .int .i64 (k : Int)] W (NumS w W N0 bR bD b2 l i k C) := by
  refine (rp_num h.rp k h1 h8 hk).mono ?_
  rintro e w' ⟨rfl, h2, h3⟩
  exact ⟨rfl, ⟨h2, h.bd.chg h3 (fun e => h.rp.lo.2.2.1 e.symm), h.bz.chg h3 h.lo.2.1, h.lo⟩, h3⟩
theorem RdS.take {w W : World} {N0 bR bD b2 i : Nat} {l : List UInt8} {C : Array Value} (h : RdS w W N0 bR bD b2 l i C) (k : Nat) (hk : i + k ≤ l.length) :
    Calls Tryd.prog 38 #[.pointer (some ⟨bR, 0, none⟩), .int .i64 (k : Int)] W fun e w' => (∃ v, e = .returned (.tuple #[v, .int .i64 0])) ∧ RdS w w' N0 bR bD b2 l (i + k) C := by
  refine (rp_take h.rp k hk).mono ?_
  rintro e w' ⟨h1, h2, h3⟩
  exact ⟨h1, h2, h.bd.chg h3 (fun e => h.rp.lo.2.2.1 e.symm), h.bz.chg h3 h.lo.2.1, h.lo⟩
theorem run_make_row (m : Nat) (hm : m ≤ 1000000) (W : World) :
    (Instr.makeSlice 35 (.int .u64 (m : Int)) (.int .u64 (m : Int))).run Tryd.prog W = .ok (.slice (some ⟨W.heap.size, 0, none⟩) m m) (W.alloc (.cells (madeCells #[.int .i64 0] m) 3)) := by
  have infoI : (Tryd.prog.info? 3).map (fun i => (i.zero, i.size, i.bytes)) = some (some (.int .i64 0), 1, 8) := by kernel_rfl
  obtain ⟨i0, hi, hz0, hz1, hz2⟩ := info_parts infoI
  have := run_make W 35 3 i0 (.int .i64 0) Tryd.underlying35 hi hz0 .u64 .u64 (m : Int) (m : Int) (by omega) (by omega) (by rw [hz2]; omega) (by omega)
  have e : (Value.int IntKind.i64 0).cells = #[.int .i64 0] := rfl
  rw [e] at this
  simpa [hz1] using this
theorem made_row (m : Nat) : madeCells #[.int .i64 0] m = ((List.replicate m (0 : Int)).map iV).toArray := by
  unfold madeCells
  apply Array.ext_getElem?
  intro j
  by_cases hj : j < m
  · simp [hj, iV, Nat.mod_one]
  · simp [hj]
def ReadQ (l : List UInt8) (w : World) (e : Ending) (w' : World) : Prop :=
  ∃ vn vf ve N0 gs, e = .returned (.agg (dcells (clsAt l) vn vf ve)) ∧ w.heap.size ≤ N0 ∧ OL w' N0 vn vf ve (tabAt l (nCl l) (nSt l)) (nCl l) gs ∧ Below w.heap.size w w'
set_option maxRecDepth 100000 in
set_option maxHeartbeats 4000000 in
theorem tread_ok (A : Option Addr) (n cap : Nat) (l : List UInt8) (w : World) (hr : RB w A n l) (hn : n ≤ 141836999983104) (h : 274 ≤ l.length) (hok : okLen l) :
    Calls Tryd.prog 30 #[.slice A n cap] w (ReadQ l w) := by
  have hz := zero_run
  have HR := Lib.hid hr; have HOK := Lib.hid hok
  have HLN : Hid (l.length = n ∧ 274 ≤ l.length ∧ n ≤ 141836999983104) := Lib.hid ⟨hr.1, h, hn⟩
  clear hr hok h
  go_enter Tryd.func30, Tryd.ntmps30
  go_wp2_with fail
  go_step3
  go_upto_region 2 with fail
  obtain ⟨w2, hw2⟩ : ∃ w2, w2 = (w.alloc (.cells (dcells zcls nilV nilV nilV) 26)).alloc (.cells (dcells zcls nilV nilV nilV) 26) := ⟨_, rfl⟩
  obtain ⟨b2, hb2⟩ : ∃ b2, b2 = w.heap.size := ⟨_, rfl⟩
  obtain ⟨bD, hbD⟩ : ∃ bD, bD = w.heap.size + 1 := ⟨_, rfl⟩
  rw [← hw2, ← hbD, ← hb2]
  have HB2 : Hid (Below w.heap.size w w2) := Lib.hid (by rw [hw2]; exact (below_alloc _ _).trans ((below_alloc _ _).mono (by simp)))
  have ZB : Hid (Blk w2 b2 26 (dcells zcls nilV nilV nilV) ∧ Blk w2 bD 26 (dcells zcls nilV nilV nilV) ∧ b2 ≠ bD ∧ w.heap.size ≤ b2 ∧ w.heap.size ≤ bD) := Lib.hid ⟨by rw [hw2, hb2]; exact (Blk.new _ _ _ rfl).alloc _, by rw [hw2, hbD]; exact Blk.new _ _ _ (by simp), by omega, by omega, by omega⟩
  clear hw2 hb2 hbD hz
  go_wp2_with fail
  refine (read_any_big A n cap l w2 (HR.out.keep HB2.out) hn).mono ?_
  rintro e w3 ⟨bR, D, dc, rfl, hbR, hrd, hob, hb3⟩
  obtain ⟨N0, hN0⟩ : ∃ N0, N0 = w3.heap.size := ⟨_, rfl⟩
  have SX : Hid (RdS w w3 N0 bR bD b2 l 0 (dcells zcls nilV nilV nilV)) := Lib.hid (by
    have hz := ZB.out
    have h1 := hz.1.lt; have h2 := hz.2.1.lt; have h3 := hrd.blk.lt; have h4 := hb3.size; have h5 := HB2.out.size
    refine ⟨⟨⟨D, dc, by simpa using hrd, fun ad e => ?_⟩, Nat.zero_le _, by omega, HB2.out.trans (hb3.mono HB2.out.size)⟩, hz.2.1.keep hb3, hz.1.keep hb3, by omega⟩
    have := hob.lt ad.block (by rw [e]; rfl)
    omega)
  clear hbR hrd hob hb3 ZB HB2 hN0 HR
  obtain ⟨m, hm⟩ : ∃ m, m = nCl l := ⟨_, rfl⟩
  obtain ⟨q, hq⟩ : ∃ q, q = nSt l := ⟨_, rfl⟩
  obtain ⟨ps, hps⟩ : ∃ ps, ps = 2 * m + 8 := ⟨_, rfl⟩
  have HQ : Hid (m = nCl l ∧ q = nSt l ∧ ps = 2 * m + 8) := Lib.hid ⟨hm, hq, hps⟩
  have hm2 : m ≤ 256 := by rw [hm]; exact HOK.out.2.1
  have hq2 : q ≤ 4096 := by rw [hq]; exact HOK.out.1
  have hlen : l.length = 274 + q * ps := by rw [hps, hm, hq]; exact HOK.out.2.2
  have hqp : q * ps ≤ 2129920 := by rw [hps]; exact rows_le hq2 hm2
  have HL : Hid (l.length = 274 + q * ps ∧ q * ps ≤ 2129920 ∧ n = l.length) := Lib.hid ⟨hlen, hqp, HLN.out.1.symm⟩
  clear hm hq hps hlen
  go_wp2_with fail
  refine (SX.out.take 8 (by have := HLN.out; omega)).mono ?_
  rintro e w4 ⟨⟨vt, rfl⟩, s4⟩
  have S4 := Lib.hid s4; clear s4 SX
  go_wp2_with fail
  refine (S4.out.num 4 (by decide) (by decide) (by have := HLN.out; omega)).mono ?_
  rintro e w5 ⟨rfl, s5, _⟩
  have S5 : Hid (RdS w w5 N0 bR bD b2 l 12 (dcells zcls nilV nilV nilV)) := Lib.hid s5
  rw [show numAt l (0 + 8) 4 = q from HQ.out.2.1.symm]
  clear s5 S4
  go_wp2_with fail
  refine (S5.out.num 2 (by decide) (by decide) (by have := HLN.out; omega)).mono ?_
  rintro e w6 ⟨rfl, s6, _⟩
  have S6 : Hid (RdS w w6 N0 bR bD b2 l 14 (dcells zcls nilV nilV nilV)) := Lib.hid s6
  rw [show numAt l 12 2 = m from HQ.out.1.symm]
  clear s6 S5
  obtain ⟨qp, hqpe⟩ : ∃ qp, qp = q * ps := ⟨_, rfl⟩
  have e1 : wrap64 ((q : Int) * (ps : Int)) = (qp : Int) := by
    rw [← Int.natCast_mul, ← hqpe]; unfold wrap64; omega
  have e2 : wrap64 (274 + (qp : Int)) = (n : Int) := by
    clear e1; have := HLN.out; have := HL.out; unfold wrap64; omega
  have HQP := Lib.hid hqpe
  clear hqpe hqp
  go_wp2_with (go_at_call 25; refine (per_any m ps _ (by omega) HQ.out.2.2).mono ?_; rintro e w7 ⟨rfl, rfl⟩)
  clear e1 e2 HQP
  go_loopw [53] (fun iv W => ∃ k : Nat, k ≤ 256 ∧ iv = .int .i64 (k : Int) ∧ ∃ cl, Hid (RdS w W N0 bR bD b2 l (14 + k) (dcells cl nilV nilV nilV)) ∧ Hid (cl.length = 256 ∧ ∀ j : Nat, j < k → cl[j]? = some (numAt l (14 + j) 1 : Int))) (fun iv _ => 256 - (intOf iv).toNat)
  case atStart => exact ⟨0, by omega, rfl, zcls, S6, Lib.hid ⟨by decide, fun j hj => absurd hj (by omega)⟩⟩
  case round =>
    obtain ⟨k, hk, rfl, cl, SK, HCL⟩ := hrel
    by_cases hlt : k < 256
    · go_wp2_with fail
      refine (SK.out.num 1 (by decide) (by decide) (by have := HLN.out; omega)).mono ?_
      rintro e wy ⟨rfl, sy, _⟩
      have SY := Lib.hid sy
      obtain ⟨x, hx⟩ : ∃ x, x = numAt l (14 + k) 1 := ⟨_, rfl⟩
      have hxl : x < 256 := by rw [hx]; exact leV_lt4 l (14 + k) 1
      rw [← hx]
      have HX := Lib.hid hx
      clear sy hx SK
      have ck : (wy.cell? ⟨bD, k, none⟩).isSome = true := by
        rw [SY.out.bd.cell, dcells_cls k _ (List.getElem?_eq_getElem (by rw [HCL.out.1]; exact hlt))]; rfl
      obtain ⟨vk, hvk⟩ := Option.isSome_iff_exists.1 ck
      have fk := SY.out.bd.frozen k
      clear ck
      go_wp2_with fail
      have SZ : Hid (RdS w (wy.setCell ⟨bD, k, none⟩ (.int .i64 (x : Int))) N0 bR bD b2 l (14 + (k + 1)) (dcells (cl.set k (x : Int)) nilV nilV nilV)) := Lib.hid (by
        have hs := SY.out
        have hc : Chg (fun b => b = bD) wy (wy.setCell ⟨bD, k, none⟩ (.int .i64 (x : Int))) := Chg.setCell (S := fun b => b = bD) (p := ⟨bD, k, none⟩) (Chg.refl _ wy) (.inl rfl) _
        refine ⟨hs.rp.chg hc (fun b _ e => e), ?_, hs.bz.chg hc hs.lo.2.2.1, hs.lo⟩
        have := hs.bd.set_ k (iV (x : Int))
        rwa [dcells_cl hlt HCL.out.1] at this)
      have HC2 : Hid ((cl.set k (x : Int)).length = 256 ∧ ∀ j : Nat, j < k + 1 → (cl.set k (x : Int))[j]? = some (numAt l (14 + j) 1 : Int)) := Lib.hid ⟨by rw [List.length_set]; exact HCL.out.1, fun j hj => by
        by_cases e : j = k
        · subst e; rw [List.getElem?_set_self (by rw [HCL.out.1]; exact hlt), HX.out]
        · rw [List.getElem?_set_ne (fun h => e h.symm)]; exact HCL.out.2 j (by omega)⟩
      clear hvk fk
      go_roundw
      case rel =>
        first
          | exact ⟨k + 1, by omega, by go_num, _, SZ, HC2⟩
          | ((repeat apply Exists.intro); exact ⟨⟨k + 1, by omega, by go_num, _, SZ, HC2⟩, rfl⟩)
      case measure => simp [intOf]; omega
    · obtain rfl : k = 256 := by omega
      have hcl : cl = clsAt l := by
        apply List.ext_getElem?
        intro j
        by_cases hj : j < 256
        · rw [HCL.out.2 j hj]; unfold clsAt; rw [List.getElem?_map, List.getElem?_range hj]; rfl
        · rw [List.getElem?_eq_none (by rw [HCL.out.1]; omega), List.getElem?_eq_none (by unfold clsAt; simp; omega)]
      have S7 : Hid (RdS w wr N0 bR bD b2 l 270 (dcells (clsAt l) nilV nilV nilV)) := Lib.hid (by have := SK.out; rw [hcl] at this; exact this)
      have O7 : Hid (OL wr N0 nilV nilV nilV (tabAt l m 0) m []) := Lib.hid (OL.nil wr N0 (clsAt l) m)
      have HCC : Hid ((clsAt l).length = 256) := Lib.hid (by unfold clsAt; simp)
      clear SK HCL hcl S6
      have hmk := run_make_row m (by omega)
      go_wp2_with fail
      go_step3
      go_wp2_with fail
      go_loopw [69] (fun iv W => ∃ s : Nat, s ≤ q ∧ iv = .int .i64 (s : Int) ∧ ∃ vn vf ve gs, Hid (RdS w W N0 bR bD b2 l (270 + s * ps) (dcells (clsAt l) vn vf ve)) ∧ Hid (OL W N0 vn vf ve (tabAt l m s) m gs)) (fun iv _ => q - (intOf iv).toNat)
      case atStart => exact ⟨0, Nat.zero_le _, rfl, _, _, _, _, by rw [Nat.zero_mul]; exact S7, O7⟩
      case round =>
        obtain ⟨s, hs, rfl, vn, vf, ve, gs, SS, OS⟩ := hrel
        clear S7 O7
        by_cases hlt2 : s < q
        · have HOF : Hid (270 + s * ps + ps + 4 ≤ l.length) := Lib.hid (by
            have h1 : (s + 1) * ps ≤ q * ps := Nat.mul_le_mul_right _ hlt2
            rw [Nat.succ_mul] at h1
            have := HL.out.1; omega)
          obtain ⟨o1, ho1⟩ : ∃ o1, o1 = 270 + s * ps := ⟨_, rfl⟩
          rw [← ho1] at SS HOF
          have HO1 := Lib.hid ho1
          clear ho1
          go_upto_region 17 with fail
          obtain ⟨w8, hw8⟩ : ∃ w8, w8 = wr.alloc (.cells (madeCells #[.int .i64 0] m) 3) := ⟨_, rfl⟩
          obtain ⟨g, hg⟩ : ∃ g, g = wr.heap.size := ⟨_, rfl⟩
          rw [← hw8, ← hg]
          have S8 : Hid (RdS w w8 N0 bR bD b2 l (o1 + 2 * 0) (dcells (clsAt l) vn vf ve)) := Lib.hid (by rw [hw8]; exact SS.out.keep (below_alloc _ _))
          have O8 : Hid (OL w8 N0 vn vf ve (tabAt l m s) m gs) := Lib.hid (by rw [hw8]; exact OS.out.keep (below_alloc _ _))
          have G8 : Hid (Blk w8 g 3 ((List.replicate m (0 : Int)).map iV).toArray) := Lib.hid (by rw [hw8, hg, ← made_row]; exact Blk.new _ _ _ rfl)
          have HG : Hid (N0 ≤ g ∧ ∀ s : Nat, gs[s]? ≠ some g) := Lib.hid ⟨by rw [hg]; exact SS.out.rp.lo.2.2.2.2.2.2, fun j hj => by
            have hjl : j < (tabAt l m s).nx.length := by rw [← OS.out.len]; exact (List.getElem?_eq_some_iff.1 hj).1
            have := (OS.out.rows j g _ hj (List.getElem?_eq_getElem hjl)).2.2.lt
            omega⟩
          clear hw8 hg SS OS
          go_wp2_with fail
          go_loopw [75] (fun iv W => ∃ k : Nat, k ≤ m ∧ iv = .int .i64 (k : Int) ∧ ∃ row : List Int, Hid (RdS w W N0 bR bD b2 l (o1 + 2 * k) (dcells (clsAt l) vn vf ve)) ∧ Hid (OL W N0 vn vf ve (tabAt l m s) m gs) ∧ Hid (Blk W g 3 (row.map iV).toArray ∧ row.length = m ∧ ∀ j : Nat, j < k → row[j]? = some (numAt l (o1 + 2 * j) 2 : Int))) (fun iv _ => m - (intOf iv).toNat)
          case atStart => exact ⟨0, Nat.zero_le _, rfl, List.replicate m 0, S8, O8, Lib.hid ⟨G8.out, by simp, fun j hj => absurd hj (by omega)⟩⟩
          case round =>
            obtain ⟨k, hk, rfl, row, SK, OK, HR⟩ := hrel
            by_cases hlt3 : k < m
            · go_wp2_with fail
              refine (SK.out.num 2 (by decide) (by decide) (by have := HOF.out; have := HQ.out.2.2; omega)).mono ?_
              rintro e wy ⟨rfl, sy, hcy⟩
              have SY := Lib.hid sy
              have OY : Hid (OL wy N0 vn vf ve (tabAt l m s) m gs) := Lib.hid (OK.out.chg hcy (fun b hb _ e => by have := SK.out.rp.lo; omega))
              have GY : Hid (Blk wy g 3 (row.map iV).toArray) := Lib.hid (HR.out.1.chg hcy (fun e => by have := SK.out.rp.lo; have := HG.out.1; omega))
              obtain ⟨x, hx⟩ : ∃ x, x = numAt l (o1 + 2 * k) 2 := ⟨_, rfl⟩
              have hxl : x < 65536 := by rw [hx]; exact leV_lt4 l (o1 + 2 * k) 2
              rw [← hx]
              have HX := Lib.hid hx
              clear sy hx SK OK hcy
              have ck : (wy.cell? ⟨g, k, none⟩).isSome = true := by
                rw [GY.out.cell, List.getElem?_toArray, List.getElem?_map, List.getElem?_eq_getElem (by rw [HR.out.2.1]; exact hlt3)]; rfl
              obtain ⟨vk, hvk⟩ := Option.isSome_iff_exists.1 ck
              have fk := GY.out.frozen k
              have hk0 : (0 : Int) ≤ (k : Int) := by omega
              have hkm : (k : Int) < (m : Int) := by omega
              clear ck
              go_wp2_with fail
              have hc : Chg (fun b => b = g) wy (wy.setCell ⟨g, k, none⟩ (.int .i64 (x : Int))) := Chg.setCell (S := fun b => b = g) (p := ⟨g, k, none⟩) (Chg.refl _ wy) (.inl rfl) _
              have SZ : Hid (RdS w (wy.setCell ⟨g, k, none⟩ (.int .i64 (x : Int))) N0 bR bD b2 l (o1 + 2 * (k + 1)) (dcells (clsAt l) vn vf ve)) := Lib.hid (SY.out.chg hc (fun b hb e => by have := HG.out.1; omega))
              have OZ : Hid (OL (wy.setCell ⟨g, k, none⟩ (.int .i64 (x : Int))) N0 vn vf ve (tabAt l m s) m gs) := Lib.hid (OY.out.set_far GY.out HG.out.2 k _)
              have GZ : Hid (Blk (wy.setCell ⟨g, k, none⟩ (.int .i64 (x : Int))) g 3 ((row.set k (x : Int)).map iV).toArray ∧ (row.set k (x : Int)).length = m ∧ ∀ j : Nat, j < k + 1 → (row.set k (x : Int))[j]? = some (numAt l (o1 + 2 * j) 2 : Int)) := Lib.hid ⟨by
                have := GY.out.set_ k (iV (x : Int))
                rwa [List.setIfInBounds_toArray, ← List.map_set] at this, by rw [List.length_set]; exact HR.out.2.1, fun j hj => by
                by_cases e : j = k
                · subst e; rw [List.getElem?_set_self (by rw [HR.out.2.1]; exact hlt3), HX.out]
                · rw [List.getElem?_set_ne (fun h => e h.symm)]; exact HR.out.2.2 j (by omega)⟩
              clear hvk fk hc
              go_roundw
              case rel =>
                first
                  | exact ⟨k + 1, by omega, by go_num, _, SZ, OZ, GZ⟩
                  | ((repeat apply Exists.intro); exact ⟨⟨k + 1, by omega, by go_num, _, SZ, OZ, GZ⟩, rfl⟩)
              case measure => simp [intOf]; omega
            · obtain rfl : k = m := by omega
              have hrow : row = rowAt l k o1 := by
                apply List.ext_getElem?
                intro j
                by_cases hj : j < k
                · rw [HR.out.2.2 j hj]; unfold rowAt; rw [List.getElem?_map, List.getElem?_range hj]; rfl
                · rw [List.getElem?_eq_none (by rw [HR.out.2.1]; omega), List.getElem?_eq_none (by unfold rowAt; simp; omega)]
              have GR : Hid (Blk wr g 3 ((rowAt l k o1).map iV).toArray ∧ (rowAt l k o1).length = k) := Lib.hid (by have := HR.out; rw [hrow] at this; exact ⟨this.1, this.2.1⟩)
              clear hrow HR S8 O8 G8
              go_wp2_with fail
              refine (SK.out.num 4 (by decide) (by decide) (by have := HOF.out; have := HQ.out.2.2; omega)).mono ?_
              rintro e wy ⟨rfl, sy, hcy⟩
              have SY := Lib.hid sy
              have OY : Hid (OL wy N0 vn vf ve (tabAt l k s) k gs) := Lib.hid (OK.out.chg hcy (fun b hb _ e => by have := SK.out.rp.lo; omega))
              have GY : Hid (Blk wy g 3 ((rowAt l k o1).map iV).toArray) := Lib.hid (GR.out.1.chg hcy (fun e => by have := SK.out.rp.lo; have := HG.out.1; omega))
              obtain ⟨x, hx⟩ : ∃ x, x = numAt l (o1 + 2 * k) 4 := ⟨_, rfl⟩
              have hxl : x < 4294967296 := by rw [hx]; exact leV_lt4 l (o1 + 2 * k) 4
              rw [← hx]
              have HX := Lib.hid hx
              clear sy hx SK OK hcy
              go_wp2_with fail
              refine (SY.out.num 4 (by decide) (by decide) (by have := HOF.out; have := HQ.out.2.2; omega)).mono ?_
              rintro e wz ⟨rfl, sz, hcz⟩
              have SZ := Lib.hid sz
              have OZ : Hid (OL wz N0 vn vf ve (tabAt l k s) k gs) := Lib.hid (OY.out.chg hcz (fun b hb _ e => by have := SY.out.rp.lo; omega))
              have GZ : Hid (Blk wz g 3 ((rowAt l k o1).map iV).toArray) := Lib.hid (GY.out.chg hcz (fun e => by have := SY.out.rp.lo; have := HG.out.1; omega))
              obtain ⟨y, hy⟩ : ∃ y, y = numAt l (o1 + 2 * k + 4) 4 := ⟨_, rfl⟩
              have hyl : y < 4294967296 := by rw [hy]; exact leV_lt4 l (o1 + 2 * k + 4) 4
              rw [← hy]
              have HY := Lib.hid hy
              clear sz hy SY OY GY hcz
              go_upto_region 26 with fail
              have HLS : Hid (gs.length = s ∧ (tabAt l k s).fo.length = s ∧ (tabAt l k s).en.length = s) := Lib.hid ⟨by rw [OZ.out.len]; unfold tabAt; simp, by unfold tabAt; simp, by unfold tabAt; simp⟩
              refine read_region (wB := w) (H0 := wz.heap.size) (row := rowAt l k o1) (t := tabAt l k s) (gs := gs) (vn := vn) (vf := vf) (ve := ve) (cl := clsAt l) (i := o1 + 2 * k + 4 + 4) (l := l) (N0 := N0) (bR := bR)
                (Lib.hid ⟨SZ.out.bd, SZ.out.rp, OZ.out, GZ.out, Nat.le_refl _, SZ.out.rp.lo.2.2.2.2.2.2, Chg.refl _ _⟩) HCC (Lib.hid ⟨GR.out.2, HG.out.1, HG.out.2⟩) hxl hyl
                (Lib.hid ⟨fun b hb => (OZ.out.on.lt b hb).2, fun b hb => (OZ.out.of_.lt b hb).2, fun b hb => (OZ.out.oe.lt b hb).2⟩)
                (Lib.hid (by rw [List.length_map, HLS.out.1]; unfold maxLen; omega)) (Lib.hid (by rw [List.length_map, HLS.out.2.1]; unfold maxLen; omega)) (Lib.hid (by rw [List.length_map, HLS.out.2.2]; unfold maxLen; omega)) (Lib.hid ?_)
              intro z101 z102 z103 z104 z105 z106 z107 z108 z109 z110 z111 z112 z113 z114 z115 z116 z117 z118 z119 z120 vn' vf' ve' W hfin
              have FR := Lib.hid hfin
              clear hfin
              have SN : Hid (RdS w W N0 bR bD b2 l (270 + (s + 1) * ps) (dcells (clsAt l) vn' vf' ve')) := Lib.hid (by
                obtain ⟨h1, h2, h3, h4⟩ := FR.out
                have hl := SZ.out.lo
                have e : o1 + 2 * k + 4 + 4 = 270 + (s + 1) * ps := by
                  have h5 := HO1.out
                  have h6 := HQ.out.2.2
                  have h7 : (s + 1) * ps = s * ps + ps := Nat.succ_mul _ _
                  omega
                rw [e] at h1
                exact ⟨h1, h2, SZ.out.bz.chg h4 (fun e => by
                  rcases e with e | e
                  · exact hl.2.2.1 e
                  · have := hl.1; omega), hl⟩)
              have ON : Hid (OL W N0 vn' vf' ve' (tabAt l k (s + 1)) k (gs ++ [g])) := Lib.hid (by
                rw [tabAt_succ]
                have := FR.out.2.2.1
                rw [HX.out, HY.out, HO1.out, HQ.out.2.2] at this
                exact this)
              clear FR SZ OZ GZ HX HY GR HLS hxl hyl
              go_wp2_with fail
              go_roundw
              case rel =>
                first
                  | exact ⟨s + 1, by omega, by go_num, _, _, _, _, SN, ON⟩
                  | ((repeat apply Exists.intro); exact ⟨⟨s + 1, by omega, by go_num, _, _, _, _, SN, ON⟩, rfl⟩)
              case measure => simp [intOf]; omega
        · obtain rfl : s = q := by omega
          have LI : Hid ((Tryd.prog.info? 26).map (·.size) = some (dcells (clsAt l) vn vf ve).toList.length) := Lib.hid (by rw [size259, Array.length_toList, dcells_size HCC.out])
          have LI2 : Hid ((Tryd.prog.info? 26).map (·.size) = some (dcells (clsAt l) vn vf ve).size) := Lib.hid (by rw [size259, dcells_size HCC.out])
          have RG := Lib.hid (rangeAt_blk SS.out.bd)
          have TH : Hid (wr.there b2 0 (dcells (clsAt l) vn vf ve).size) := Lib.hid (there_blk SS.out.bz _ (by rw [dcells_size HCC.out, dcells_size (by decide)]; exact Nat.le_refl _))
          have ONE : Hid ((dcells (clsAt l) vn vf ve).all (·.oneCell') = true) := Lib.hid (dcells_one (own_one OS.out.on) (own_one OS.out.of_) (own_one OS.out.oe))
          obtain ⟨dc2, hdc⟩ : ∃ dc2, dc2 = dcells (clsAt l) vn vf ve := ⟨_, rfl⟩
          have HDC := Lib.hid hdc
          rw [← hdc] at LI LI2 RG TH ONE
          clear hdc hmk
          go_wp2_with (first | (with_reducible refine wpList_load_mid rfl _ _ rfl bD 0 rfl dc2.toList _ RG.out Tryd.underlying26 rfl LI.out ?_) | (with_reducible refine wpList_store_mid rfl _ _ _ rfl b2 0 dc2 rfl (by simp [Act.eval, Act.put]) TH.out LI2.out ONE.out ?_))
          rw [Exit.noGoto_ret]
          have hb3 : Blk (wr.setCells b2 0 dc2.toList) b2 26 dc2 := Blk.setAll SS.out.bz dc2 (by rw [HDC.out, dcells_size HCC.out, dcells_size (by decide)])
          have hc3 : Chg (fun b => b = b2) wr (wr.setCells b2 0 dc2.toList) := Chg.setCells (S := fun b => b = b2) _ _ (Chg.refl _ wr) rfl
          refine bodyPost_ret (v := .agg dc2) (results_cell_row rfl _ _ b2 _ dc2 (0, 0) _ rfl hb3 Tryd.underlying26 rfl LI2.out) rfl ?_
          have hl := SS.out.lo
          have hr := SS.out.rp.lo
          refine ⟨vn, vf, ve, N0, gs, by rw [HDC.out], hr.2.2.2.2.2.1, ?_, SS.out.rp.bl.trans (hc3.below (fun b hb e => by omega) SS.out.rp.bl.size)⟩
          have := OS.out.chg hc3 (fun b hb _ e => by omega)
          rw [HQ.out.1, HQ.out.2.1] at this
          exact this
end Go.Proofs.YtnglgppdkohhpaaDoor
