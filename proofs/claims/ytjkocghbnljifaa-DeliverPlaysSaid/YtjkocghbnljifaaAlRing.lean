/- THE WALKS of package ring, of alerts: Push, Front, Pop (printed by a program of ours). -/
import Derived.Test.YtjkocghbnljifaaRingAlert
namespace Go.Proofs.Ytjkocghbnljifaa
open Go.RowKit
/-- cells stored one behind the other -/
theorem Blk.cellsIn {w : World} {g : Nat} {t : TypeId} : ∀ (us : List Value) (l : List Value) (o : Nat), Blk w g t l.toArray → Blk (w.setCells g o us) g t (setsL l o us).toArray
  | [], _, _, h => h
  | u :: us, l, o, h => by
    have h1 := h.set_ o u
    rw [List.setIfInBounds_toArray] at h1
    exact Blk.cellsIn us (l.set o u) (o + 1) h1
theorem Blk.cellsFar {g b : Nat} {t : TypeId} {cs : Array Value} (hne : g ≠ b) : ∀ (us : List Value) (w : World) (o : Nat), Blk w g t cs → Blk (w.setCells b o us) g t cs
  | [], _, _, h => h
  | u :: us, _, o, h => Blk.cellsFar hne us _ (o + 1) (h.far (p := ⟨b, o, none⟩) hne u)
theorem Chg.cellsSet {S : Nat → Prop} {a : World} {b : Nat} (hb : S b ∨ a.heap.size ≤ b) : ∀ (us : List Value) (w : World) (o : Nat), Chg S a w → Chg S a (w.setCells b o us)
  | [], _, _, h => h
  | u :: us, _, o, h => Chg.cellsSet hb us _ (o + 1) (h.setCell (p := ⟨b, o, none⟩) hb u)
theorem Below.cellsSet {a : World} {B b : Nat} (hb : B ≤ b) : ∀ (us : List Value) (w : World) (o : Nat), Below B a w → Below B a (w.setCells b o us)
  | [], _, _, h => h
  | u :: us, _, o, h => Below.cellsSet hb us _ (o + 1) (h.setCell (p := ⟨b, o, none⟩) hb u)
/-- a row with an element stored -/
theorem Blk.elem {w : World} {p j : Nat} {xs : List Th} {old : Th} (h : Blk w p 44 (flatE Th.cells xs).toArray) (hj : xs[j]? = some old) (y : Th) : Blk (w.setCells p (j * 12) y.cells.toList) p 44 (flatE Th.cells (xs.set j y)).toArray := by
  have := h.cellsIn y.cells.toList (flatE Th.cells xs) (j * 12)
  rwa [flatE_setN th_size xs hj y rfl] at this
/-- a box with a value stored -/
theorem Blk.boxed {w : World} {b : Nat} {x : Th} (h : Blk w b 44 x.cells) (y : Th) : Blk (w.setCells b 0 y.cells.toList) b 44 y.cells :=
  Blk.cellsIn y.cells.toList x.cells.toList 0 h
set_option maxRecDepth 100000 in
set_option maxHeartbeats 4000000 in
theorem pushT_ok (g p n f : Nat) (xs q : List Th) (x : Th) (w : World) (h : RT w g p n f xs q) (hq : q.length < n) :
    Calls Try.prog 26 #[.pointer (some ⟨g, 0, none⟩), .agg x.cells] w (PushT g p n f (q ++ [x]) w) := by
  have hne := h.ne
  obtain ⟨j, hj⟩ : ∃ j, j = (f + q.length) % n := ⟨_, rfl⟩
  have hjn : j < n := by rw [hj]; exact Nat.mod_lt _ (by omega)
  have hfn := h.hf; have hn := h.hn
  obtain ⟨old, hold⟩ : ∃ old, xs[j]? = some old := ⟨_, List.getElem?_eq_getElem (by rw [h.len]; exact hjn)⟩
  have hgl := h.blk.lt; have hpl := h.arr.lt
  have h0 : RT (w.alloc (.cells x.cells 44)) g p n f xs q := h.keep ((Below.refl _ _).alloc (Nat.le_refl _) _)
  have hB0 : Blk (w.alloc (.cells x.cells 44)) w.heap.size 44 x.cells := Blk.new w _ _ rfl
  have hC0 : Chg (ringF g p) w (w.alloc (.cells x.cells 44)) := (Chg.refl _ w).alloc _
  have hat : ∀ k y, (q ++ [x])[k]? = some y → (xs.set j x)[(f + k) % n]? = some y := fun k y hy => by
    rw [List.getElem?_append] at hy
    split at hy
    · rename_i hk
      rw [List.getElem?_set_ne (by rw [hj]; exact (mod_ne hk hq hfn).symm)]
      exact h.at_ k y hy
    · rename_i hk
      have hk0 : k - q.length = 0 := by
        have := (List.getElem?_eq_some_iff.1 hy).1
        simp at this; omega
      obtain rfl : k = q.length := by omega
      simp at hy
      subst hy
      rw [← hj, List.getElem?_set_self (by rw [h.len]; exact hjn)]
  have HAT := Lib.hid hat
  have hxl := h.len
  obtain ⟨w0, hw0⟩ : ∃ w0, w0 = w.alloc (.cells x.cells 44) := ⟨_, rfl⟩
  obtain ⟨b, hb⟩ : ∃ b, b = w.heap.size := ⟨_, rfl⟩
  rw [← hw0] at h0 hB0 hC0
  rw [← hb] at hB0
  have HX := Lib.hid hxl
  have HR := Lib.hid h0; have HBX := Lib.hid hB0; have HC := Lib.hid hC0; have HOLD := Lib.hid hold
  have HQ := Lib.hid hq
  have hd : decide (q.length = n) = false := decide_eq_false (by omega)
  have HD := Lib.hid hd
  obtain ⟨qp, qm0, qm1, qm2, qm3, qm4, qm5, qm6, qm7, qm8, qt, qr⟩ := x
  obtain ⟨X, hX⟩ : ∃ X : Th, X = ⟨qp, qm0, qm1, qm2, qm3, qm4, qm5, qm6, qm7, qm8, qt, qr⟩ := ⟨_, rfl⟩
  have HXX := Lib.hid hX
  rw [← hX] at HAT HBX
  have c0 : w0.cell? ⟨g, 0, none⟩ = some (.slice (some ⟨p, 0, none⟩) n n) := h0.blk.cell 0
  have c1 : w0.cell? ⟨g, 1, none⟩ = some (.int .i64 (f : Int)) := h0.blk.cell 1
  have c2 : w0.cell? ⟨g, 2, none⟩ = some (.int .i64 (q.length : Int)) := h0.blk.cell 2
  have f2 := h0.blk.frozen 2
  have b0 : w0.cell? ⟨b, 0, none⟩ = some (.int .i64 qp) := hB0.cell 0
  have b1 : w0.cell? ⟨b, 1, none⟩ = some (.int .i64 qm0) := hB0.cell 1
  have b2 : w0.cell? ⟨b, 2, none⟩ = some (.int .i64 qm1) := hB0.cell 2
  have b3 : w0.cell? ⟨b, 3, none⟩ = some (.int .i64 qm2) := hB0.cell 3
  have b4 : w0.cell? ⟨b, 4, none⟩ = some (.int .i64 qm3) := hB0.cell 4
  have b5 : w0.cell? ⟨b, 5, none⟩ = some (.int .i64 qm4) := hB0.cell 5
  have b6 : w0.cell? ⟨b, 6, none⟩ = some (.int .i64 qm5) := hB0.cell 6
  have b7 : w0.cell? ⟨b, 7, none⟩ = some (.int .i64 qm6) := hB0.cell 7
  have b8 : w0.cell? ⟨b, 8, none⟩ = some (.int .i64 qm7) := hB0.cell 8
  have b9 : w0.cell? ⟨b, 9, none⟩ = some (.int .i64 qm8) := hB0.cell 9
  have b10 : w0.cell? ⟨b, 10, none⟩ = some (.string qt) := hB0.cell 10
  have b11 : w0.cell? ⟨b, 11, none⟩ = some (.int .u32 qr) := hB0.cell 11
  have d0 : w0.cell? ⟨p, j * 12, none⟩ = some (.int .i64 old.p) := h0.cell0 hold
  have d1 : w0.cell? ⟨p, j * 12 + 1, none⟩ = some (.int .i64 old.m0) := h0.cell1 hold
  have d2 : w0.cell? ⟨p, j * 12 + 2, none⟩ = some (.int .i64 old.m1) := h0.cell2 hold
  have d3 : w0.cell? ⟨p, j * 12 + 3, none⟩ = some (.int .i64 old.m2) := h0.cell3 hold
  have d4 : w0.cell? ⟨p, j * 12 + 4, none⟩ = some (.int .i64 old.m3) := h0.cell4 hold
  have d5 : w0.cell? ⟨p, j * 12 + 5, none⟩ = some (.int .i64 old.m4) := h0.cell5 hold
  have d6 : w0.cell? ⟨p, j * 12 + 6, none⟩ = some (.int .i64 old.m5) := h0.cell6 hold
  have d7 : w0.cell? ⟨p, j * 12 + 7, none⟩ = some (.int .i64 old.m6) := h0.cell7 hold
  have d8 : w0.cell? ⟨p, j * 12 + 8, none⟩ = some (.int .i64 old.m7) := h0.cell8 hold
  have d9 : w0.cell? ⟨p, j * 12 + 9, none⟩ = some (.int .i64 old.m8) := h0.cell9 hold
  have d10 : w0.cell? ⟨p, j * 12 + 10, none⟩ = some (.string old.t) := h0.cell10 hold
  have d11 : w0.cell? ⟨p, j * 12 + 11, none⟩ = some (.int .u32 old.r) := h0.cell11 hold
  have fp0 : w0.frozen? ⟨p, j * 12, none⟩ = false := h0.arr.frozen (j * 12)
  have fp1 : w0.frozen? ⟨p, j * 12 + 1, none⟩ = false := h0.arr.frozen (j * 12 + 1)
  have fp2 : w0.frozen? ⟨p, j * 12 + 2, none⟩ = false := h0.arr.frozen (j * 12 + 2)
  have fp3 : w0.frozen? ⟨p, j * 12 + 3, none⟩ = false := h0.arr.frozen (j * 12 + 3)
  have fp4 : w0.frozen? ⟨p, j * 12 + 4, none⟩ = false := h0.arr.frozen (j * 12 + 4)
  have fp5 : w0.frozen? ⟨p, j * 12 + 5, none⟩ = false := h0.arr.frozen (j * 12 + 5)
  have fp6 : w0.frozen? ⟨p, j * 12 + 6, none⟩ = false := h0.arr.frozen (j * 12 + 6)
  have fp7 : w0.frozen? ⟨p, j * 12 + 7, none⟩ = false := h0.arr.frozen (j * 12 + 7)
  have fp8 : w0.frozen? ⟨p, j * 12 + 8, none⟩ = false := h0.arr.frozen (j * 12 + 8)
  have fp9 : w0.frozen? ⟨p, j * 12 + 9, none⟩ = false := h0.arr.frozen (j * 12 + 9)
  have fp10 : w0.frozen? ⟨p, j * 12 + 10, none⟩ = false := h0.arr.frozen (j * 12 + 10)
  have fp11 : w0.frozen? ⟨p, j * 12 + 11, none⟩ = false := h0.arr.frozen (j * 12 + 11)
  clear h h0 hold hB0 hC0 hd hat hxl hX
  generalize hm : q.length = m at *
  have HM := Lib.hid hm
  have HJ := Lib.hid hj
  clear hm hj
  obtain ⟨op, om0, om1, om2, om3, om4, om5, om6, om7, om8, ot, or⟩ := old
  simp only at d0 d1 d2 d3 d4 d5 d6 d7 d8 d9 d10 d11
  simp only [Th.cells] at hw0 ⊢
  rw [← HXX.out]
  go_enter Try.func26, Try.ntmps26
  go_upto_region 1 with fail
  rw [← hw0, ← hb]
  have hbg : b ≠ g := by omega
  have hbp : b ≠ p := by omega
  have hgb : g ≠ b := by omega
  have hpb : p ≠ b := by omega
  have hgp : g ≠ p := fun e => hne e.symm
  clear hw0 hb
  go_wp2_with fail
  refine (fullT_any g p n f xs q _ HR.out).mono ?_
  rintro e w' ⟨rfl, m1, rfl⟩
  rw [HM.out, HD.out]
  go_upto_region 3 with fail
  go_region_held3 (fun w' => w'.cell? ⟨g, 0, none⟩ = some (.slice (some ⟨p, 0, none⟩) n n) ∧ w'.cell? ⟨g, 1, none⟩ = some (.int .i64 (f : Int)) ∧ w'.cell? ⟨g, 2, none⟩ = some (.int .i64 (m : Int)) ∧ w'.cell? ⟨b, 0, none⟩ = some (.int .i64 qp) ∧ w'.cell? ⟨b, 1, none⟩ = some (.int .i64 qm0) ∧ w'.cell? ⟨b, 2, none⟩ = some (.int .i64 qm1) ∧ w'.cell? ⟨b, 3, none⟩ = some (.int .i64 qm2) ∧ w'.cell? ⟨b, 4, none⟩ = some (.int .i64 qm3) ∧ w'.cell? ⟨b, 5, none⟩ = some (.int .i64 qm4) ∧ w'.cell? ⟨b, 6, none⟩ = some (.int .i64 qm5) ∧ w'.cell? ⟨b, 7, none⟩ = some (.int .i64 qm6) ∧ w'.cell? ⟨b, 8, none⟩ = some (.int .i64 qm7) ∧ w'.cell? ⟨b, 9, none⟩ = some (.int .i64 qm8) ∧ w'.cell? ⟨b, 10, none⟩ = some (.string qt) ∧ w'.cell? ⟨b, 11, none⟩ = some (.int .u32 qr)) (go_keep)
    (first | (go_at_call 33; refine (atT_any g p n f m j _ (by go_keep) (by go_keep) (by omega) (by omega) (by omega) HJ.out).mono ?_; rintro e w' ⟨rfl, m2, rfl⟩))
  go_upto_region 4 with fail
  obtain ⟨w5, hw5⟩ : ∃ w5, w5 = ((((((((((((w0.drewN (m1 + 1 + m2)).setCell ⟨p, j * 12, none⟩ (.int .i64 qp)).setCell ⟨p, j * 12 + 1, none⟩ (.int .i64 qm0)).setCell ⟨p, j * 12 + 2, none⟩ (.int .i64 qm1)).setCell ⟨p, j * 12 + 3, none⟩ (.int .i64 qm2)).setCell ⟨p, j * 12 + 4, none⟩ (.int .i64 qm3)).setCell ⟨p, j * 12 + 5, none⟩ (.int .i64 qm4)).setCell ⟨p, j * 12 + 6, none⟩ (.int .i64 qm5)).setCell ⟨p, j * 12 + 7, none⟩ (.int .i64 qm6)).setCell ⟨p, j * 12 + 8, none⟩ (.int .i64 qm7)).setCell ⟨p, j * 12 + 9, none⟩ (.int .i64 qm8)).setCell ⟨p, j * 12 + 10, none⟩ (.string qt)).setCell ⟨p, j * 12 + 11, none⟩ (.int .u32 qr) := ⟨_, rfl⟩
  rw [← hw5]
  have hw5' : w5 = (w0.drewN (m1 + 1 + m2)).setCells p (j * 12) X.cells.toList := by rw [HXX.out]; exact hw5
  have G5 : Hid (Blk w5 g 73 #[.slice (some ⟨p, 0, none⟩) n n, .int .i64 (f : Int), .int .i64 (m : Int)]) := Lib.hid (by rw [hw5', ← HM.out]; exact Blk.cellsFar hgp _ _ _ (HR.out.blk.drewN _))
  have P5 : Hid (Blk w5 p 44 (flatE Th.cells (xs.set j X)).toArray) := Lib.hid (by rw [hw5']; exact (HR.out.arr.drewN _).elem HOLD.out X)
  have C5 : Hid (Chg (ringF g p) w w5) := Lib.hid (by rw [hw5']; exact Chg.cellsSet (.inl (.inr rfl)) _ _ _ (HC.out.drewN _))
  have HNN := Lib.hid (And.intro hfn hn)
  clear hw5 hw5' HBX HC HR b0 b1 b2 b3 b4 b5 b6 b7 b8 b9 b10 b11 d0 d1 d2 d3 d4 d5 d6 d7 d8 d9 d10 d11 fp0 fp1 fp2 fp3 fp4 fp5 fp6 fp7 fp8 fp9 fp10 fp11 c0 c1 c2 f2
  have c2 : w5.cell? ⟨g, 2, none⟩ = some (.int .i64 (m : Int)) := G5.out.cell 2
  have f2 : w5.frozen? ⟨g, 2, none⟩ = false := G5.out.frozen 2
  have HF : Hid (PushT g p n f (q ++ [X]) w (.returned (.int .i64 0)) (w5.setCell ⟨g, 2, none⟩ (.int .i64 ((m : Int) + 1)))) := Lib.hid (by
    refine ⟨rfl, xs.set j X, ⟨?_, P5.out.far (p := ⟨g, 2, none⟩) hne _, by rw [List.length_set]; exact HX.out, hfn, by rw [List.length_append, HM.out]; show m + 1 ≤ n; omega, hn, HAT.out⟩, C5.out.setCell (p := ⟨g, 2, none⟩) (.inl (.inl rfl)) _⟩
    have := G5.out.set_ 2 (.int .i64 ((m : Int) + 1))
    have e : ((q ++ [X]).length : Int) = (m : Int) + 1 := by rw [List.length_append, HM.out]; rfl
    rw [e]
    simpa using this)
  clear G5 P5 C5
  go_wp2_with fail
  go_ret
  exact HF.out
def frontT : List Th → Th
  | [] => th0
  | x :: _ => x
/-- Front: the first, or the zero alert -/
def FrontT (q : List Th) (w : World) (e : Ending) (w' : World) : Prop :=
  e = .returned (.tuple #[.agg (frontT q).cells, .bool (!q.isEmpty)]) ∧ Below w.heap.size w w'
set_option maxRecDepth 100000 in
set_option maxHeartbeats 4000000 in
theorem frontT_nil (g p n f : Nat) (xs : List Th) (w : World) (h : RT w g p n f xs []) :
    Calls Try.prog 27 #[.pointer (some ⟨g, 0, none⟩)] w (FrontT [] w) := by
  have hgl := h.blk.lt
  have h0 := h.keep ((Below.refl _ _).alloc (Nat.le_refl _) (.cells th0.cells 44))
  have hB0 : Blk (w.alloc (.cells th0.cells 44)) w.heap.size 44 th0.cells := Blk.new w _ _ rfl
  have hbb : Below w.heap.size w (w.alloc (.cells th0.cells 44)) := (Below.refl _ _).alloc (Nat.le_refl _) _
  obtain ⟨w0, hw0⟩ : ∃ w0, w0 = w.alloc (.cells th0.cells 44) := ⟨_, rfl⟩
  obtain ⟨b, hb⟩ : ∃ b, b = w.heap.size := ⟨_, rfl⟩
  rw [← hw0] at h0 hB0 hbb
  rw [← hb] at hB0
  have HB := Lib.hid hbb; have HK := Lib.hid hB0; have HE := Lib.hid hb
  have c2 : w0.cell? ⟨g, 2, none⟩ = some (.int .i64 0) := h0.blk.cell 2
  have b0 : w0.cell? ⟨b, 0, none⟩ = some (.int .i64 0) := hB0.cell 0
  have b1 : w0.cell? ⟨b, 1, none⟩ = some (.int .i64 0) := hB0.cell 1
  have b2 : w0.cell? ⟨b, 2, none⟩ = some (.int .i64 0) := hB0.cell 2
  have b3 : w0.cell? ⟨b, 3, none⟩ = some (.int .i64 0) := hB0.cell 3
  have b4 : w0.cell? ⟨b, 4, none⟩ = some (.int .i64 0) := hB0.cell 4
  have b5 : w0.cell? ⟨b, 5, none⟩ = some (.int .i64 0) := hB0.cell 5
  have b6 : w0.cell? ⟨b, 6, none⟩ = some (.int .i64 0) := hB0.cell 6
  have b7 : w0.cell? ⟨b, 7, none⟩ = some (.int .i64 0) := hB0.cell 7
  have b8 : w0.cell? ⟨b, 8, none⟩ = some (.int .i64 0) := hB0.cell 8
  have b9 : w0.cell? ⟨b, 9, none⟩ = some (.int .i64 0) := hB0.cell 9
  have b10 : w0.cell? ⟨b, 10, none⟩ = some (.string ByteArray.empty) := hB0.cell 10
  have b11 : w0.cell? ⟨b, 11, none⟩ = some (.int .u32 0) := hB0.cell 11
  have k0 : w0.frozen? ⟨b, 0, none⟩ = false := hB0.frozen 0
  have k1 : w0.frozen? ⟨b, 1, none⟩ = false := hB0.frozen 1
  have k2 : w0.frozen? ⟨b, 2, none⟩ = false := hB0.frozen 2
  have k3 : w0.frozen? ⟨b, 3, none⟩ = false := hB0.frozen 3
  have k4 : w0.frozen? ⟨b, 4, none⟩ = false := hB0.frozen 4
  have k5 : w0.frozen? ⟨b, 5, none⟩ = false := hB0.frozen 5
  have k6 : w0.frozen? ⟨b, 6, none⟩ = false := hB0.frozen 6
  have k7 : w0.frozen? ⟨b, 7, none⟩ = false := hB0.frozen 7
  have k8 : w0.frozen? ⟨b, 8, none⟩ = false := hB0.frozen 8
  have k9 : w0.frozen? ⟨b, 9, none⟩ = false := hB0.frozen 9
  have k10 : w0.frozen? ⟨b, 10, none⟩ = false := hB0.frozen 10
  have k11 : w0.frozen? ⟨b, 11, none⟩ = false := hB0.frozen 11
  have hgb : g ≠ b := by omega
  simp only [Th.cells, th0] at hw0
  clear h h0 hB0 hbb
  go_enter Try.func27, Try.ntmps27
  go_upto_region 1 with fail
  have e0 : (ByteArray.empty : ByteArray) = { data := #[] } := rfl
  rw [e0] at hw0
  rw [← hw0, ← hb]
  clear hw0 hb e0
  go_wp2_with fail
  obtain ⟨W, hW⟩ : ∃ W, W = ((((((((((((w0).setCell ⟨b, 0, none⟩ (.int .i64 0)).setCell ⟨b, 1, none⟩ (.int .i64 0)).setCell ⟨b, 2, none⟩ (.int .i64 0)).setCell ⟨b, 3, none⟩ (.int .i64 0)).setCell ⟨b, 4, none⟩ (.int .i64 0)).setCell ⟨b, 5, none⟩ (.int .i64 0)).setCell ⟨b, 6, none⟩ (.int .i64 0)).setCell ⟨b, 7, none⟩ (.int .i64 0)).setCell ⟨b, 8, none⟩ (.int .i64 0)).setCell ⟨b, 9, none⟩ (.int .i64 0)).setCell ⟨b, 10, none⟩ (.string ByteArray.empty)).setCell ⟨b, 11, none⟩ (.int .u32 0) := ⟨_, rfl⟩
  rw [← hW]
  have hW' : W = w0.setCells b 0 th0.cells.toList := hW
  have K : Blk W b 44 th0.cells := by rw [hW']; exact HK.out.boxed th0
  have hF : FrontT [] w (.returned (.tuple #[.agg th0.cells, .bool false])) W := ⟨rfl, by rw [hW']; exact Below.cellsSet (by rw [HE.out]; exact Nat.le_refl _) _ _ _ HB.out⟩
  have q0 : W.cell? ⟨b, 0, none⟩ = some (.int .i64 0) := K.cell 0
  have q1 : W.cell? ⟨b, 1, none⟩ = some (.int .i64 0) := K.cell 1
  have q2 : W.cell? ⟨b, 2, none⟩ = some (.int .i64 0) := K.cell 2
  have q3 : W.cell? ⟨b, 3, none⟩ = some (.int .i64 0) := K.cell 3
  have q4 : W.cell? ⟨b, 4, none⟩ = some (.int .i64 0) := K.cell 4
  have q5 : W.cell? ⟨b, 5, none⟩ = some (.int .i64 0) := K.cell 5
  have q6 : W.cell? ⟨b, 6, none⟩ = some (.int .i64 0) := K.cell 6
  have q7 : W.cell? ⟨b, 7, none⟩ = some (.int .i64 0) := K.cell 7
  have q8 : W.cell? ⟨b, 8, none⟩ = some (.int .i64 0) := K.cell 8
  have q9 : W.cell? ⟨b, 9, none⟩ = some (.int .i64 0) := K.cell 9
  have q10 : W.cell? ⟨b, 10, none⟩ = some (.string ByteArray.empty) := K.cell 10
  have q11 : W.cell? ⟨b, 11, none⟩ = some (.int .u32 0) := K.cell 11
  clear hW hW' K
  refine bodyPost_ret (v := .tuple #[.agg #[.int .i64 0, .int .i64 0, .int .i64 0, .int .i64 0, .int .i64 0, .int .i64 0, .int .i64 0, .int .i64 0, .int .i64 0, .int .i64 0, .string ByteArray.empty, .int .u32 0], .bool false]) (by simp [results, Try.results27, go_sem, q0, q1, q2, q3, q4, q5, q6, q7, q8, q9, q10, q11]) rfl ?_
  exact hF
set_option maxRecDepth 100000 in
set_option maxHeartbeats 4000000 in
theorem frontT_cons (g p n f : Nat) (xs q : List Th) (x : Th) (w : World) (h : RT w g p n f xs (x :: q)) :
    Calls Try.prog 27 #[.pointer (some ⟨g, 0, none⟩)] w (FrontT (x :: q) w) := by
  have hgl := h.blk.lt; have hpl := h.arr.lt
  have hfn := h.hf; have hn := h.hn
  have h0 := h.keep ((Below.refl _ _).alloc (Nat.le_refl _) (.cells th0.cells 44))
  have hx := h.at_ 0 x rfl
  rw [Nat.add_zero, Nat.mod_eq_of_lt hfn] at hx
  have hB0 : Blk (w.alloc (.cells th0.cells 44)) w.heap.size 44 th0.cells := Blk.new w _ _ rfl
  have hbb : Below w.heap.size w (w.alloc (.cells th0.cells 44)) := (Below.refl _ _).alloc (Nat.le_refl _) _
  obtain ⟨w0, hw0⟩ : ∃ w0, w0 = w.alloc (.cells th0.cells 44) := ⟨_, rfl⟩
  obtain ⟨b, hb⟩ : ∃ b, b = w.heap.size := ⟨_, rfl⟩
  rw [← hw0] at h0 hB0 hbb
  rw [← hb] at hB0
  have HB := Lib.hid hbb; have HK := Lib.hid hB0; have HE := Lib.hid hb
  have c0 : w0.cell? ⟨g, 0, none⟩ = some (.slice (some ⟨p, 0, none⟩) n n) := h0.blk.cell 0
  have c1 : w0.cell? ⟨g, 1, none⟩ = some (.int .i64 (f : Int)) := h0.blk.cell 1
  obtain ⟨m, hm⟩ : ∃ m, m = (x :: q).length := ⟨_, rfl⟩
  have c2 : w0.cell? ⟨g, 2, none⟩ = some (.int .i64 (m : Int)) := by rw [hm]; exact h0.blk.cell 2
  have ht : ((m : Int) == 0) = false := by rw [beq_eq_false_iff_ne, hm]; simp; omega
  have b0 : w0.cell? ⟨b, 0, none⟩ = some (.int .i64 0) := hB0.cell 0
  have b1 : w0.cell? ⟨b, 1, none⟩ = some (.int .i64 0) := hB0.cell 1
  have b2 : w0.cell? ⟨b, 2, none⟩ = some (.int .i64 0) := hB0.cell 2
  have b3 : w0.cell? ⟨b, 3, none⟩ = some (.int .i64 0) := hB0.cell 3
  have b4 : w0.cell? ⟨b, 4, none⟩ = some (.int .i64 0) := hB0.cell 4
  have b5 : w0.cell? ⟨b, 5, none⟩ = some (.int .i64 0) := hB0.cell 5
  have b6 : w0.cell? ⟨b, 6, none⟩ = some (.int .i64 0) := hB0.cell 6
  have b7 : w0.cell? ⟨b, 7, none⟩ = some (.int .i64 0) := hB0.cell 7
  have b8 : w0.cell? ⟨b, 8, none⟩ = some (.int .i64 0) := hB0.cell 8
  have b9 : w0.cell? ⟨b, 9, none⟩ = some (.int .i64 0) := hB0.cell 9
  have b10 : w0.cell? ⟨b, 10, none⟩ = some (.string ByteArray.empty) := hB0.cell 10
  have b11 : w0.cell? ⟨b, 11, none⟩ = some (.int .u32 0) := hB0.cell 11
  have k0 : w0.frozen? ⟨b, 0, none⟩ = false := hB0.frozen 0
  have k1 : w0.frozen? ⟨b, 1, none⟩ = false := hB0.frozen 1
  have k2 : w0.frozen? ⟨b, 2, none⟩ = false := hB0.frozen 2
  have k3 : w0.frozen? ⟨b, 3, none⟩ = false := hB0.frozen 3
  have k4 : w0.frozen? ⟨b, 4, none⟩ = false := hB0.frozen 4
  have k5 : w0.frozen? ⟨b, 5, none⟩ = false := hB0.frozen 5
  have k6 : w0.frozen? ⟨b, 6, none⟩ = false := hB0.frozen 6
  have k7 : w0.frozen? ⟨b, 7, none⟩ = false := hB0.frozen 7
  have k8 : w0.frozen? ⟨b, 8, none⟩ = false := hB0.frozen 8
  have k9 : w0.frozen? ⟨b, 9, none⟩ = false := hB0.frozen 9
  have k10 : w0.frozen? ⟨b, 10, none⟩ = false := hB0.frozen 10
  have k11 : w0.frozen? ⟨b, 11, none⟩ = false := hB0.frozen 11
  have d0 : w0.cell? ⟨p, f * 12, none⟩ = some (.int .i64 x.p) := h0.cell0 hx
  have d1 : w0.cell? ⟨p, f * 12 + 1, none⟩ = some (.int .i64 x.m0) := h0.cell1 hx
  have d2 : w0.cell? ⟨p, f * 12 + 2, none⟩ = some (.int .i64 x.m1) := h0.cell2 hx
  have d3 : w0.cell? ⟨p, f * 12 + 3, none⟩ = some (.int .i64 x.m2) := h0.cell3 hx
  have d4 : w0.cell? ⟨p, f * 12 + 4, none⟩ = some (.int .i64 x.m3) := h0.cell4 hx
  have d5 : w0.cell? ⟨p, f * 12 + 5, none⟩ = some (.int .i64 x.m4) := h0.cell5 hx
  have d6 : w0.cell? ⟨p, f * 12 + 6, none⟩ = some (.int .i64 x.m5) := h0.cell6 hx
  have d7 : w0.cell? ⟨p, f * 12 + 7, none⟩ = some (.int .i64 x.m6) := h0.cell7 hx
  have d8 : w0.cell? ⟨p, f * 12 + 8, none⟩ = some (.int .i64 x.m7) := h0.cell8 hx
  have d9 : w0.cell? ⟨p, f * 12 + 9, none⟩ = some (.int .i64 x.m8) := h0.cell9 hx
  have d10 : w0.cell? ⟨p, f * 12 + 10, none⟩ = some (.string x.t) := h0.cell10 hx
  have d11 : w0.cell? ⟨p, f * 12 + 11, none⟩ = some (.int .u32 x.r) := h0.cell11 hx
  have hgb : g ≠ b := by omega
  have hbg : b ≠ g := by omega
  have hbp : b ≠ p := by omega
  have hpb : p ≠ b := by omega
  have HP : Hid (∀ W, W = (w0.setCells b 0 x.cells.toList).drew → Blk W b 44 x.cells ∧ FrontT (x :: q) w (.returned (.tuple #[.agg x.cells, .bool true])) W) := Lib.hid (fun W hW => by
    refine ⟨by rw [hW]; exact (HK.out.boxed x).drewN 1, rfl, ?_⟩
    rw [hW]; exact below_drewN (Below.cellsSet (by rw [HE.out]; exact Nat.le_refl _) _ _ _ HB.out) 1)
  clear h h0 hB0 hbb hx hm
  obtain ⟨qp, qm0, qm1, qm2, qm3, qm4, qm5, qm6, qm7, qm8, qt, qr⟩ := x
  simp only at d0 d1 d2 d3 d4 d5 d6 d7 d8 d9 d10 d11
  simp only [Th.cells] at HP
  simp only [Th.cells, th0] at hw0
  go_enter Try.func27, Try.ntmps27
  go_upto_region 1 with fail
  have e0 : (ByteArray.empty : ByteArray) = { data := #[] } := rfl
  rw [e0] at hw0
  rw [← hw0, ← hb]
  clear hw0 hb e0
  go_upto_region 3 with fail
  go_region_held3 (fun w' => w'.cell? ⟨g, 0, none⟩ = some (.slice (some ⟨p, 0, none⟩) n n) ∧ w'.cell? ⟨g, 1, none⟩ = some (.int .i64 (f : Int)) ∧ w'.cell? ⟨p, f * 12, none⟩ = some (.int .i64 qp) ∧ w'.cell? ⟨p, f * 12 + 1, none⟩ = some (.int .i64 qm0) ∧ w'.cell? ⟨p, f * 12 + 2, none⟩ = some (.int .i64 qm1) ∧ w'.cell? ⟨p, f * 12 + 3, none⟩ = some (.int .i64 qm2) ∧ w'.cell? ⟨p, f * 12 + 4, none⟩ = some (.int .i64 qm3) ∧ w'.cell? ⟨p, f * 12 + 5, none⟩ = some (.int .i64 qm4) ∧ w'.cell? ⟨p, f * 12 + 6, none⟩ = some (.int .i64 qm5) ∧ w'.cell? ⟨p, f * 12 + 7, none⟩ = some (.int .i64 qm6) ∧ w'.cell? ⟨p, f * 12 + 8, none⟩ = some (.int .i64 qm7) ∧ w'.cell? ⟨p, f * 12 + 9, none⟩ = some (.int .i64 qm8) ∧ w'.cell? ⟨p, f * 12 + 10, none⟩ = some (.string qt) ∧ w'.cell? ⟨p, f * 12 + 11, none⟩ = some (.int .u32 qr)) (go_keep) (fail)
  go_wp2_with fail
  obtain ⟨W, hW⟩ : ∃ W, W = (((((((((((((w0).setCell ⟨b, 0, none⟩ (.int .i64 qp)).setCell ⟨b, 1, none⟩ (.int .i64 qm0)).setCell ⟨b, 2, none⟩ (.int .i64 qm1)).setCell ⟨b, 3, none⟩ (.int .i64 qm2)).setCell ⟨b, 4, none⟩ (.int .i64 qm3)).setCell ⟨b, 5, none⟩ (.int .i64 qm4)).setCell ⟨b, 6, none⟩ (.int .i64 qm5)).setCell ⟨b, 7, none⟩ (.int .i64 qm6)).setCell ⟨b, 8, none⟩ (.int .i64 qm7)).setCell ⟨b, 9, none⟩ (.int .i64 qm8)).setCell ⟨b, 10, none⟩ (.string qt)).setCell ⟨b, 11, none⟩ (.int .u32 qr)).drew := ⟨_, rfl⟩
  rw [← hW]
  obtain ⟨K, hF⟩ := HP.out W hW
  have q0 : W.cell? ⟨b, 0, none⟩ = some (.int .i64 qp) := K.cell 0
  have q1 : W.cell? ⟨b, 1, none⟩ = some (.int .i64 qm0) := K.cell 1
  have q2 : W.cell? ⟨b, 2, none⟩ = some (.int .i64 qm1) := K.cell 2
  have q3 : W.cell? ⟨b, 3, none⟩ = some (.int .i64 qm2) := K.cell 3
  have q4 : W.cell? ⟨b, 4, none⟩ = some (.int .i64 qm3) := K.cell 4
  have q5 : W.cell? ⟨b, 5, none⟩ = some (.int .i64 qm4) := K.cell 5
  have q6 : W.cell? ⟨b, 6, none⟩ = some (.int .i64 qm5) := K.cell 6
  have q7 : W.cell? ⟨b, 7, none⟩ = some (.int .i64 qm6) := K.cell 7
  have q8 : W.cell? ⟨b, 8, none⟩ = some (.int .i64 qm7) := K.cell 8
  have q9 : W.cell? ⟨b, 9, none⟩ = some (.int .i64 qm8) := K.cell 9
  have q10 : W.cell? ⟨b, 10, none⟩ = some (.string qt) := K.cell 10
  have q11 : W.cell? ⟨b, 11, none⟩ = some (.int .u32 qr) := K.cell 11
  clear hW K HP
  refine bodyPost_ret (v := .tuple #[.agg #[.int .i64 qp, .int .i64 qm0, .int .i64 qm1, .int .i64 qm2, .int .i64 qm3, .int .i64 qm4, .int .i64 qm5, .int .i64 qm6, .int .i64 qm7, .int .i64 qm8, .string qt, .int .u32 qr], .bool true]) (by simp [results, Try.results27, go_sem, q0, q1, q2, q3, q4, q5, q6, q7, q8, q9, q10, q11]) rfl ?_
  exact hF
set_option maxRecDepth 100000 in
set_option maxHeartbeats 4000000 in
theorem popT_nil (g p n f : Nat) (xs : List Th) (w : World) (h : RT w g p n f xs []) :
    Calls Try.prog 29 #[.pointer (some ⟨g, 0, none⟩)] w (FrontT [] w) := by
  have h0 := h.keep ((Below.refl _ _).alloc (Nat.le_refl _) (.cells th0.cells 44))
  have hB0 : Blk (w.alloc (.cells th0.cells 44)) w.heap.size 44 th0.cells := Blk.new w _ _ rfl
  have hbb : Below w.heap.size w (w.alloc (.cells th0.cells 44)) := (Below.refl _ _).alloc (Nat.le_refl _) _
  have CF := frontT_nil g p n f xs _ h0
  unfold FrontT at CF
  obtain ⟨w0, hw0⟩ : ∃ w0, w0 = w.alloc (.cells th0.cells 44) := ⟨_, rfl⟩
  obtain ⟨b, hb⟩ : ∃ b, b = w.heap.size := ⟨_, rfl⟩
  rw [← hw0] at CF hB0 hbb
  rw [← hb] at hB0
  have HCF := Lib.hid CF; have HB := Lib.hid hbb; have HK := Lib.hid hB0; have HE := Lib.hid hb
  clear h h0 hB0 hbb CF
  simp only [Th.cells, th0] at hw0
  simp only [frontT, Th.cells, th0] at HCF
  go_enter Try.func29, Try.ntmps29
  go_upto_region 1 with fail
  have e0 : (ByteArray.empty : ByteArray) = { data := #[] } := rfl
  rw [e0] at hw0
  rw [← hw0, ← hb]
  clear hw0 hb e0
  go_wp2_with fail
  refine HCF.out.mono ?_
  rintro e w1 ⟨rfl, hb1⟩
  have HB1 : Hid (Below w.heap.size w w1) := Lib.hid (HB.out.trans (hb1.mono HB.out.size))
  have HK1 := Lib.hid (HK.out.keep hb1)
  have hsz : b < w1.heap.size := HK1.out.lt
  have hne : w1.heap.size ≠ b := by omega
  have hbne : b ≠ w1.heap.size := by omega
  have b0 : w1.cell? ⟨b, 0, none⟩ = some (.int .i64 0) := HK1.out.cell 0
  have b1 : w1.cell? ⟨b, 1, none⟩ = some (.int .i64 0) := HK1.out.cell 1
  have b2 : w1.cell? ⟨b, 2, none⟩ = some (.int .i64 0) := HK1.out.cell 2
  have b3 : w1.cell? ⟨b, 3, none⟩ = some (.int .i64 0) := HK1.out.cell 3
  have b4 : w1.cell? ⟨b, 4, none⟩ = some (.int .i64 0) := HK1.out.cell 4
  have b5 : w1.cell? ⟨b, 5, none⟩ = some (.int .i64 0) := HK1.out.cell 5
  have b6 : w1.cell? ⟨b, 6, none⟩ = some (.int .i64 0) := HK1.out.cell 6
  have b7 : w1.cell? ⟨b, 7, none⟩ = some (.int .i64 0) := HK1.out.cell 7
  have b8 : w1.cell? ⟨b, 8, none⟩ = some (.int .i64 0) := HK1.out.cell 8
  have b9 : w1.cell? ⟨b, 9, none⟩ = some (.int .i64 0) := HK1.out.cell 9
  have b10 : w1.cell? ⟨b, 10, none⟩ = some (.string ByteArray.empty) := HK1.out.cell 10
  have b11 : w1.cell? ⟨b, 11, none⟩ = some (.int .u32 0) := HK1.out.cell 11
  have k0 : w1.frozen? ⟨b, 0, none⟩ = false := HK1.out.frozen 0
  have k1 : w1.frozen? ⟨b, 1, none⟩ = false := HK1.out.frozen 1
  have k2 : w1.frozen? ⟨b, 2, none⟩ = false := HK1.out.frozen 2
  have k3 : w1.frozen? ⟨b, 3, none⟩ = false := HK1.out.frozen 3
  have k4 : w1.frozen? ⟨b, 4, none⟩ = false := HK1.out.frozen 4
  have k5 : w1.frozen? ⟨b, 5, none⟩ = false := HK1.out.frozen 5
  have k6 : w1.frozen? ⟨b, 6, none⟩ = false := HK1.out.frozen 6
  have k7 : w1.frozen? ⟨b, 7, none⟩ = false := HK1.out.frozen 7
  have k8 : w1.frozen? ⟨b, 8, none⟩ = false := HK1.out.frozen 8
  have k9 : w1.frozen? ⟨b, 9, none⟩ = false := HK1.out.frozen 9
  have k10 : w1.frozen? ⟨b, 10, none⟩ = false := HK1.out.frozen 10
  have k11 : w1.frozen? ⟨b, 11, none⟩ = false := HK1.out.frozen 11
  clear hb1 HCF HB HK
  go_wp2_with fail
  obtain ⟨W, hW⟩ : ∃ W, W = (((((((((((((w1).setCell ⟨b, 0, none⟩ (.int .i64 0)).setCell ⟨b, 1, none⟩ (.int .i64 0)).setCell ⟨b, 2, none⟩ (.int .i64 0)).setCell ⟨b, 3, none⟩ (.int .i64 0)).setCell ⟨b, 4, none⟩ (.int .i64 0)).setCell ⟨b, 5, none⟩ (.int .i64 0)).setCell ⟨b, 6, none⟩ (.int .i64 0)).setCell ⟨b, 7, none⟩ (.int .i64 0)).setCell ⟨b, 8, none⟩ (.int .i64 0)).setCell ⟨b, 9, none⟩ (.int .i64 0)).setCell ⟨b, 10, none⟩ (.string ByteArray.empty)).setCell ⟨b, 11, none⟩ (.int .u32 0)).alloc (.cells #[.int .i64 0, .int .i64 0, .int .i64 0, .int .i64 0, .int .i64 0, .int .i64 0, .int .i64 0, .int .i64 0, .int .i64 0, .int .i64 0, .string ByteArray.empty, .int .u32 0] 44) := ⟨_, rfl⟩
  rw [← hW]
  have hW' : W = (w1.setCells b 0 th0.cells.toList).alloc (.cells th0.cells 44) := hW
  have K : Blk W b 44 th0.cells := by rw [hW']; exact (HK1.out.boxed th0).alloc _
  have hF : FrontT [] w (.returned (.tuple #[.agg th0.cells, .bool false])) W := by
    have hb2 : Below w.heap.size w (w1.setCells b 0 th0.cells.toList) := Below.cellsSet (by rw [HE.out]; exact Nat.le_refl _) _ _ _ HB1.out
    exact ⟨rfl, by rw [hW']; exact hb2.alloc hb2.size _⟩
  have q0 : W.cell? ⟨b, 0, none⟩ = some (.int .i64 0) := K.cell 0
  have q1 : W.cell? ⟨b, 1, none⟩ = some (.int .i64 0) := K.cell 1
  have q2 : W.cell? ⟨b, 2, none⟩ = some (.int .i64 0) := K.cell 2
  have q3 : W.cell? ⟨b, 3, none⟩ = some (.int .i64 0) := K.cell 3
  have q4 : W.cell? ⟨b, 4, none⟩ = some (.int .i64 0) := K.cell 4
  have q5 : W.cell? ⟨b, 5, none⟩ = some (.int .i64 0) := K.cell 5
  have q6 : W.cell? ⟨b, 6, none⟩ = some (.int .i64 0) := K.cell 6
  have q7 : W.cell? ⟨b, 7, none⟩ = some (.int .i64 0) := K.cell 7
  have q8 : W.cell? ⟨b, 8, none⟩ = some (.int .i64 0) := K.cell 8
  have q9 : W.cell? ⟨b, 9, none⟩ = some (.int .i64 0) := K.cell 9
  have q10 : W.cell? ⟨b, 10, none⟩ = some (.string ByteArray.empty) := K.cell 10
  have q11 : W.cell? ⟨b, 11, none⟩ = some (.int .u32 0) := K.cell 11
  clear hW hW' K
  refine bodyPost_ret (v := .tuple #[.agg #[.int .i64 0, .int .i64 0, .int .i64 0, .int .i64 0, .int .i64 0, .int .i64 0, .int .i64 0, .int .i64 0, .int .i64 0, .int .i64 0, .string ByteArray.empty, .int .u32 0], .bool false]) (by simp [results, Try.results29, go_sem, q0, q1, q2, q3, q4, q5, q6, q7, q8, q9, q10, q11]) rfl ?_
  exact hF
def PopT (g p n : Nat) (x : Th) (q : List Th) (w : World) (e : Ending) (w' : World) : Prop :=
  e = .returned (.tuple #[.agg x.cells, .bool true]) ∧ ∃ f' xs', RT w' g p n f' xs' q ∧ Chg (ringF g p) w w'
set_option maxRecDepth 100000 in
set_option maxHeartbeats 4000000 in
theorem popT_cons (g p n f : Nat) (xs q : List Th) (x : Th) (w : World) (h : RT w g p n f xs (x :: q)) :
    Calls Try.prog 29 #[.pointer (some ⟨g, 0, none⟩)] w (PopT g p n x q w) := by
  have h0 := h.keep ((Below.refl _ _).alloc (Nat.le_refl _) (.cells th0.cells 44))
  have hB0 : Blk (w.alloc (.cells th0.cells 44)) w.heap.size 44 th0.cells := Blk.new w _ _ rfl
  have hbb : Below w.heap.size w (w.alloc (.cells th0.cells 44)) := (Below.refl _ _).alloc (Nat.le_refl _) _
  have CF := frontT_cons g p n f xs q x _ h0
  unfold FrontT at CF
  have hgl := h.blk.lt; have hpl := h.arr.lt
  obtain ⟨w0, hw0⟩ : ∃ w0, w0 = w.alloc (.cells th0.cells 44) := ⟨_, rfl⟩
  obtain ⟨b, hb⟩ : ∃ b, b = w.heap.size := ⟨_, rfl⟩
  rw [← hw0] at CF hB0 hbb h0
  rw [← hb] at hB0
  have HCF := Lib.hid CF; have HB := Lib.hid hbb; have HK := Lib.hid hB0; have HE := Lib.hid hb; have HR := Lib.hid h0
  clear h h0 hB0 hbb CF
  obtain ⟨qp, qm0, qm1, qm2, qm3, qm4, qm5, qm6, qm7, qm8, qt, qr⟩ := x
  obtain ⟨X, hX⟩ : ∃ X : Th, X = ⟨qp, qm0, qm1, qm2, qm3, qm4, qm5, qm6, qm7, qm8, qt, qr⟩ := ⟨_, rfl⟩
  have HXX := Lib.hid hX
  have HXC : Hid (X.cells = #[.int .i64 qp, .int .i64 qm0, .int .i64 qm1, .int .i64 qm2, .int .i64 qm3, .int .i64 qm4, .int .i64 qm5, .int .i64 qm6, .int .i64 qm7, .int .i64 qm8, .string qt, .int .u32 qr]) := Lib.hid (by rw [hX]; rfl)
  rw [← hX] at HR ⊢
  clear hX
  simp only [Th.cells, th0] at hw0
  simp only [frontT, Th.cells] at HCF
  go_enter Try.func29, Try.ntmps29
  go_upto_region 1 with fail
  have e0 : (ByteArray.empty : ByteArray) = { data := #[] } := rfl
  rw [e0] at hw0
  rw [← hw0, ← hb]
  clear hw0 hb e0
  go_wp2_with fail
  refine HCF.out.mono ?_
  rintro e w1 ⟨rfl, hb1⟩
  have HB1 : Hid (Below w.heap.size w w1) := Lib.hid (HB.out.trans (hb1.mono HB.out.size))
  have HK1 := Lib.hid (HK.out.keep hb1)
  have HR1 := Lib.hid (HR.out.keep hb1)
  have hs1 := HK1.out.lt
  have hs2 := HR1.out.blk.lt
  have hs3 := HR1.out.arr.lt
  have hb2 : Below w1.heap.size w1 (w1.alloc (.cells X.cells 44)) := (Below.refl _ _).alloc (Nat.le_refl _) _
  have hb3 := hb2.alloc hb2.size (.cells th0.cells 44)
  have HB3 := Lib.hid (HB1.out.trans (hb3.mono HB1.out.size))
  have HK3 := Lib.hid (HK1.out.keep hb3)
  have HR3 := Lib.hid (HR1.out.keep hb3)
  have HX3 : Hid (Blk ((w1.alloc (.cells X.cells 44)).alloc (.cells th0.cells 44)) w1.heap.size 44 X.cells) := Lib.hid ((Blk.new w1 _ _ rfl).alloc _)
  have HZ3 : Hid (Blk ((w1.alloc (.cells X.cells 44)).alloc (.cells th0.cells 44)) (w1.heap.size + 1) 44 th0.cells) := Lib.hid (Blk.new _ _ _ (by simp))
  clear hb1 hb2 hb3 HCF HB HK HR
  have hql := HR3.out.hq
  have hfn := HR3.out.hf; have hn := HR3.out.hn
  have hne := HR3.out.ne
  obtain ⟨w3, hw3⟩ : ∃ w3, w3 = (w1.alloc (.cells X.cells 44)).alloc (.cells th0.cells 44) := ⟨_, rfl⟩
  rw [← hw3] at HB3 HK3 HR3 HX3 HZ3
  rw [HXC.out] at hw3
  simp only [Th.cells, th0] at hw3
  obtain ⟨b2, hb2⟩ : ∃ b2, b2 = w1.heap.size := ⟨_, rfl⟩
  go_upto_region 4 with fail
  have e0 : (ByteArray.empty : ByteArray) = { data := #[] } := rfl
  rw [e0] at hw3
  rw [← hw3, ← hb2]
  rw [← hb2] at HX3 HZ3
  obtain ⟨b3, hb3⟩ : ∃ b3, b3 = b2 + 1 := ⟨_, rfl⟩
  rw [← hb3]
  rw [← hb3] at HZ3
  have hb := HE.out
  have hbg : b ≠ g := by omega
  have hbp : b ≠ p := by omega
  have hb2g : b2 ≠ g := by omega
  have hb2p : b2 ≠ p := by omega
  have hb2b : b2 ≠ b := by omega
  have hb3p : b3 ≠ p := by omega
  have hb3g : b3 ≠ g := by omega
  have hpb3 : p ≠ b3 := by omega
  have hgb3 : g ≠ b3 := by omega
  clear hw3 hb hb2 hb3 e0 HB1 HK1 HR1 hs1 hs2 hs3 hgl hpl
  have hx := HR3.out.at_ 0 X rfl
  rw [Nat.add_zero, Nat.mod_eq_of_lt hfn] at hx
  have HX := Lib.hid hx
  have c0 : w3.cell? ⟨g, 0, none⟩ = some (.slice (some ⟨p, 0, none⟩) n n) := HR3.out.blk.cell 0
  have c1 : w3.cell? ⟨g, 1, none⟩ = some (.int .i64 (f : Int)) := HR3.out.blk.cell 1
  have z0 : w3.cell? ⟨b3, 0, none⟩ = some (.int .i64 0) := HZ3.out.cell 0
  have z1 : w3.cell? ⟨b3, 1, none⟩ = some (.int .i64 0) := HZ3.out.cell 1
  have z2 : w3.cell? ⟨b3, 2, none⟩ = some (.int .i64 0) := HZ3.out.cell 2
  have z3 : w3.cell? ⟨b3, 3, none⟩ = some (.int .i64 0) := HZ3.out.cell 3
  have z4 : w3.cell? ⟨b3, 4, none⟩ = some (.int .i64 0) := HZ3.out.cell 4
  have z5 : w3.cell? ⟨b3, 5, none⟩ = some (.int .i64 0) := HZ3.out.cell 5
  have z6 : w3.cell? ⟨b3, 6, none⟩ = some (.int .i64 0) := HZ3.out.cell 6
  have z7 : w3.cell? ⟨b3, 7, none⟩ = some (.int .i64 0) := HZ3.out.cell 7
  have z8 : w3.cell? ⟨b3, 8, none⟩ = some (.int .i64 0) := HZ3.out.cell 8
  have z9 : w3.cell? ⟨b3, 9, none⟩ = some (.int .i64 0) := HZ3.out.cell 9
  have z10 : w3.cell? ⟨b3, 10, none⟩ = some (.string ByteArray.empty) := HZ3.out.cell 10
  have z11 : w3.cell? ⟨b3, 11, none⟩ = some (.int .u32 0) := HZ3.out.cell 11
  have d0 : w3.cell? ⟨p, f * 12, none⟩ = some (.int .i64 X.p) := HR3.out.cell0 hx
  have d1 : w3.cell? ⟨p, f * 12 + 1, none⟩ = some (.int .i64 X.m0) := HR3.out.cell1 hx
  have d2 : w3.cell? ⟨p, f * 12 + 2, none⟩ = some (.int .i64 X.m1) := HR3.out.cell2 hx
  have d3 : w3.cell? ⟨p, f * 12 + 3, none⟩ = some (.int .i64 X.m2) := HR3.out.cell3 hx
  have d4 : w3.cell? ⟨p, f * 12 + 4, none⟩ = some (.int .i64 X.m3) := HR3.out.cell4 hx
  have d5 : w3.cell? ⟨p, f * 12 + 5, none⟩ = some (.int .i64 X.m4) := HR3.out.cell5 hx
  have d6 : w3.cell? ⟨p, f * 12 + 6, none⟩ = some (.int .i64 X.m5) := HR3.out.cell6 hx
  have d7 : w3.cell? ⟨p, f * 12 + 7, none⟩ = some (.int .i64 X.m6) := HR3.out.cell7 hx
  have d8 : w3.cell? ⟨p, f * 12 + 8, none⟩ = some (.int .i64 X.m7) := HR3.out.cell8 hx
  have d9 : w3.cell? ⟨p, f * 12 + 9, none⟩ = some (.int .i64 X.m8) := HR3.out.cell9 hx
  have d10 : w3.cell? ⟨p, f * 12 + 10, none⟩ = some (.string X.t) := HR3.out.cell10 hx
  have d11 : w3.cell? ⟨p, f * 12 + 11, none⟩ = some (.int .u32 X.r) := HR3.out.cell11 hx
  have fp0 : w3.frozen? ⟨p, f * 12, none⟩ = false := HR3.out.arr.frozen (f * 12)
  have fp1 : w3.frozen? ⟨p, f * 12 + 1, none⟩ = false := HR3.out.arr.frozen (f * 12 + 1)
  have fp2 : w3.frozen? ⟨p, f * 12 + 2, none⟩ = false := HR3.out.arr.frozen (f * 12 + 2)
  have fp3 : w3.frozen? ⟨p, f * 12 + 3, none⟩ = false := HR3.out.arr.frozen (f * 12 + 3)
  have fp4 : w3.frozen? ⟨p, f * 12 + 4, none⟩ = false := HR3.out.arr.frozen (f * 12 + 4)
  have fp5 : w3.frozen? ⟨p, f * 12 + 5, none⟩ = false := HR3.out.arr.frozen (f * 12 + 5)
  have fp6 : w3.frozen? ⟨p, f * 12 + 6, none⟩ = false := HR3.out.arr.frozen (f * 12 + 6)
  have fp7 : w3.frozen? ⟨p, f * 12 + 7, none⟩ = false := HR3.out.arr.frozen (f * 12 + 7)
  have fp8 : w3.frozen? ⟨p, f * 12 + 8, none⟩ = false := HR3.out.arr.frozen (f * 12 + 8)
  have fp9 : w3.frozen? ⟨p, f * 12 + 9, none⟩ = false := HR3.out.arr.frozen (f * 12 + 9)
  have fp10 : w3.frozen? ⟨p, f * 12 + 10, none⟩ = false := HR3.out.arr.frozen (f * 12 + 10)
  have fp11 : w3.frozen? ⟨p, f * 12 + 11, none⟩ = false := HR3.out.arr.frozen (f * 12 + 11)
  clear hx
  rw [HXX.out] at d0 d1 d2 d3 d4 d5 d6 d7 d8 d9 d10 d11
  simp only at d0 d1 d2 d3 d4 d5 d6 d7 d8 d9 d10 d11
  go_region_held3 (fun w' => w'.cell? ⟨g, 0, none⟩ = some (.slice (some ⟨p, 0, none⟩) n n) ∧ w'.cell? ⟨g, 1, none⟩ = some (.int .i64 (f : Int)) ∧ w'.cell? ⟨b3, 0, none⟩ = some (.int .i64 0) ∧ w'.cell? ⟨b3, 1, none⟩ = some (.int .i64 0) ∧ w'.cell? ⟨b3, 2, none⟩ = some (.int .i64 0) ∧ w'.cell? ⟨b3, 3, none⟩ = some (.int .i64 0) ∧ w'.cell? ⟨b3, 4, none⟩ = some (.int .i64 0) ∧ w'.cell? ⟨b3, 5, none⟩ = some (.int .i64 0) ∧ w'.cell? ⟨b3, 6, none⟩ = some (.int .i64 0) ∧ w'.cell? ⟨b3, 7, none⟩ = some (.int .i64 0) ∧ w'.cell? ⟨b3, 8, none⟩ = some (.int .i64 0) ∧ w'.cell? ⟨b3, 9, none⟩ = some (.int .i64 0) ∧ w'.cell? ⟨b3, 10, none⟩ = some (.string ByteArray.empty) ∧ w'.cell? ⟨b3, 11, none⟩ = some (.int .u32 0)) (go_keep) (fail)
  go_upto_region 5 with fail
  obtain ⟨w4, hw4⟩ : ∃ w4, w4 = (((((((((((((w3).setCell ⟨p, f * 12, none⟩ (.int .i64 0)).setCell ⟨p, f * 12 + 1, none⟩ (.int .i64 0)).setCell ⟨p, f * 12 + 2, none⟩ (.int .i64 0)).setCell ⟨p, f * 12 + 3, none⟩ (.int .i64 0)).setCell ⟨p, f * 12 + 4, none⟩ (.int .i64 0)).setCell ⟨p, f * 12 + 5, none⟩ (.int .i64 0)).setCell ⟨p, f * 12 + 6, none⟩ (.int .i64 0)).setCell ⟨p, f * 12 + 7, none⟩ (.int .i64 0)).setCell ⟨p, f * 12 + 8, none⟩ (.int .i64 0)).setCell ⟨p, f * 12 + 9, none⟩ (.int .i64 0)).setCell ⟨p, f * 12 + 10, none⟩ (.string ByteArray.empty)).setCell ⟨p, f * 12 + 11, none⟩ (.int .u32 0)).drew := ⟨_, rfl⟩
  rw [← hw4]
  have hw4' : w4 = (w3.setCells p (f * 12) th0.cells.toList).drew := hw4
  have G4 : Hid (Blk w4 g 73 #[.slice (some ⟨p, 0, none⟩) n n, .int .i64 (f : Int), .int .i64 ((X :: q).length : Int)]) := Lib.hid (by rw [hw4']; exact (Blk.cellsFar (fun e => hne e.symm) _ _ _ HR3.out.blk).drewN 1)
  have P4 : Hid (Blk w4 p 44 (flatE Th.cells (xs.set f th0)).toArray) := Lib.hid (by rw [hw4']; exact (HR3.out.arr.elem HX.out th0).drewN 1)
  have K4 : Hid (Blk w4 b 44 th0.cells) := Lib.hid (by rw [hw4']; exact (Blk.cellsFar hbp _ _ _ HK3.out).drewN 1)
  have X4 : Hid (Blk w4 b2 44 X.cells) := Lib.hid (by rw [hw4']; exact (Blk.cellsFar hb2p _ _ _ HX3.out).drewN 1)
  have C4 : Hid (Chg (ringF g p) w w4) := Lib.hid (by rw [hw4']; exact (Chg.cellsSet (.inl (.inr rfl)) _ _ _ (Chg.of_below HB3.out _)).drew)
  obtain ⟨j, hj⟩ : ∃ j, j = (f + 1) % n := ⟨_, rfl⟩
  have hjn : j < n := by rw [hj]; exact Nat.mod_lt _ (by omega)
  have HJ := Lib.hid hj
  have HRR := Lib.hid (And.intro HR3.out.len HR3.out.at_)
  rw [List.length_cons] at G4 hql
  clear hw4 hw4' hj c0 c1 z0 z1 z2 z3 z4 z5 z6 z7 z8 z9 z10 z11 d0 d1 d2 d3 d4 d5 d6 d7 d8 d9 d10 d11 fp0 fp1 fp2 fp3 fp4 fp5 fp6 fp7 fp8 fp9 fp10 fp11 HR3 HK3 HX3 HZ3 HB3
  have c0 : w4.cell? ⟨g, 0, none⟩ = some (.slice (some ⟨p, 0, none⟩) n n) := G4.out.cell 0
  have c1 : w4.cell? ⟨g, 1, none⟩ = some (.int .i64 (f : Int)) := G4.out.cell 1
  obtain ⟨m, hm⟩ : ∃ m, m = q.length := ⟨_, rfl⟩
  rw [← hm] at G4 hql
  have HMM := Lib.hid hm
  have c2 : w4.cell? ⟨g, 2, none⟩ = some (.int .i64 ((m : Int) + 1)) := G4.out.cell 2
  have f1 : w4.frozen? ⟨g, 1, none⟩ = false := G4.out.frozen 1
  have f2 : w4.frozen? ⟨g, 2, none⟩ = false := G4.out.frozen 2
  have hgb : g ≠ b := fun e => hbg e.symm
  have hgb2 : g ≠ b2 := fun e => hb2g e.symm
  clear hm
  go_wp2_with fail
  refine (atT_any g p n f 1 j _ (by go_keep) (by go_keep) (by omega) (by omega) (by omega) HJ.out).mono ?_
  rintro e w' ⟨rfl, m2, rfl⟩
  go_upto_region 7 with fail
  obtain ⟨w5, hw5⟩ : ∃ w5, w5 = ((w4.drewN m2).setCell ⟨g, 1, none⟩ (.int .i64 (j : Int))).setCell ⟨g, 2, none⟩ (.int .i64 (m : Int)) := ⟨_, rfl⟩
  rw [← hw5]
  have G5 : Hid (Blk w5 g 73 #[.slice (some ⟨p, 0, none⟩) n n, .int .i64 (j : Int), .int .i64 (q.length : Int)]) := Lib.hid (by
    have := ((G4.out.drewN m2).set_ 1 (.int .i64 (j : Int))).set_ 2 (.int .i64 (m : Int))
    rw [hw5, ← HMM.out]
    exact this)
  have P5 : Hid (Blk w5 p 44 (flatE Th.cells (xs.set f th0)).toArray) := Lib.hid (by
    rw [hw5]
    exact ((P4.out.drewN m2).far (p := ⟨g, 1, none⟩) hne (.int .i64 (j : Int))).far (p := ⟨g, 2, none⟩) hne (.int .i64 (m : Int)))
  have K5 : Hid (Blk w5 b 44 th0.cells) := Lib.hid (by
    rw [hw5]
    exact ((K4.out.drewN m2).far (p := ⟨g, 1, none⟩) hbg (.int .i64 (j : Int))).far (p := ⟨g, 2, none⟩) hbg (.int .i64 (m : Int)))
  have X5 : Hid (Blk w5 b2 44 X.cells) := Lib.hid (by
    rw [hw5]
    exact ((X4.out.drewN m2).far (p := ⟨g, 1, none⟩) hb2g (.int .i64 (j : Int))).far (p := ⟨g, 2, none⟩) hb2g (.int .i64 (m : Int)))
  have C5 : Hid (Chg (ringF g p) w w5) := Lib.hid (by
    rw [hw5]
    exact ((C4.out.drewN m2).setCell (p := ⟨g, 1, none⟩) (.inl (.inl rfl)) _).setCell (p := ⟨g, 2, none⟩) (.inl (.inl rfl)) _)
  clear hw5 c0 c1 c2 f1 f2 G4 P4 K4 X4 C4
  have x0 : w5.cell? ⟨b2, 0, none⟩ = some (.int .i64 X.p) := X5.out.cell 0
  have x1 : w5.cell? ⟨b2, 1, none⟩ = some (.int .i64 X.m0) := X5.out.cell 1
  have x2 : w5.cell? ⟨b2, 2, none⟩ = some (.int .i64 X.m1) := X5.out.cell 2
  have x3 : w5.cell? ⟨b2, 3, none⟩ = some (.int .i64 X.m2) := X5.out.cell 3
  have x4 : w5.cell? ⟨b2, 4, none⟩ = some (.int .i64 X.m3) := X5.out.cell 4
  have x5 : w5.cell? ⟨b2, 5, none⟩ = some (.int .i64 X.m4) := X5.out.cell 5
  have x6 : w5.cell? ⟨b2, 6, none⟩ = some (.int .i64 X.m5) := X5.out.cell 6
  have x7 : w5.cell? ⟨b2, 7, none⟩ = some (.int .i64 X.m6) := X5.out.cell 7
  have x8 : w5.cell? ⟨b2, 8, none⟩ = some (.int .i64 X.m7) := X5.out.cell 8
  have x9 : w5.cell? ⟨b2, 9, none⟩ = some (.int .i64 X.m8) := X5.out.cell 9
  have x10 : w5.cell? ⟨b2, 10, none⟩ = some (.string X.t) := X5.out.cell 10
  have x11 : w5.cell? ⟨b2, 11, none⟩ = some (.int .u32 X.r) := X5.out.cell 11
  have k0 : w5.cell? ⟨b, 0, none⟩ = some (.int .i64 0) := K5.out.cell 0
  have k1 : w5.cell? ⟨b, 1, none⟩ = some (.int .i64 0) := K5.out.cell 1
  have k2 : w5.cell? ⟨b, 2, none⟩ = some (.int .i64 0) := K5.out.cell 2
  have k3 : w5.cell? ⟨b, 3, none⟩ = some (.int .i64 0) := K5.out.cell 3
  have k4 : w5.cell? ⟨b, 4, none⟩ = some (.int .i64 0) := K5.out.cell 4
  have k5 : w5.cell? ⟨b, 5, none⟩ = some (.int .i64 0) := K5.out.cell 5
  have k6 : w5.cell? ⟨b, 6, none⟩ = some (.int .i64 0) := K5.out.cell 6
  have k7 : w5.cell? ⟨b, 7, none⟩ = some (.int .i64 0) := K5.out.cell 7
  have k8 : w5.cell? ⟨b, 8, none⟩ = some (.int .i64 0) := K5.out.cell 8
  have k9 : w5.cell? ⟨b, 9, none⟩ = some (.int .i64 0) := K5.out.cell 9
  have k10 : w5.cell? ⟨b, 10, none⟩ = some (.string ByteArray.empty) := K5.out.cell 10
  have k11 : w5.cell? ⟨b, 11, none⟩ = some (.int .u32 0) := K5.out.cell 11
  have fk0 : w5.frozen? ⟨b, 0, none⟩ = false := K5.out.frozen 0
  have fk1 : w5.frozen? ⟨b, 1, none⟩ = false := K5.out.frozen 1
  have fk2 : w5.frozen? ⟨b, 2, none⟩ = false := K5.out.frozen 2
  have fk3 : w5.frozen? ⟨b, 3, none⟩ = false := K5.out.frozen 3
  have fk4 : w5.frozen? ⟨b, 4, none⟩ = false := K5.out.frozen 4
  have fk5 : w5.frozen? ⟨b, 5, none⟩ = false := K5.out.frozen 5
  have fk6 : w5.frozen? ⟨b, 6, none⟩ = false := K5.out.frozen 6
  have fk7 : w5.frozen? ⟨b, 7, none⟩ = false := K5.out.frozen 7
  have fk8 : w5.frozen? ⟨b, 8, none⟩ = false := K5.out.frozen 8
  have fk9 : w5.frozen? ⟨b, 9, none⟩ = false := K5.out.frozen 9
  have fk10 : w5.frozen? ⟨b, 10, none⟩ = false := K5.out.frozen 10
  have fk11 : w5.frozen? ⟨b, 11, none⟩ = false := K5.out.frozen 11
  rw [HXX.out] at x0 x1 x2 x3 x4 x5 x6 x7 x8 x9 x10 x11
  simp only at x0 x1 x2 x3 x4 x5 x6 x7 x8 x9 x10 x11
  go_wp2_with fail
  obtain ⟨W, hW⟩ : ∃ W, W = ((((((((((((w5).setCell ⟨b, 0, none⟩ (.int .i64 qp)).setCell ⟨b, 1, none⟩ (.int .i64 qm0)).setCell ⟨b, 2, none⟩ (.int .i64 qm1)).setCell ⟨b, 3, none⟩ (.int .i64 qm2)).setCell ⟨b, 4, none⟩ (.int .i64 qm3)).setCell ⟨b, 5, none⟩ (.int .i64 qm4)).setCell ⟨b, 6, none⟩ (.int .i64 qm5)).setCell ⟨b, 7, none⟩ (.int .i64 qm6)).setCell ⟨b, 8, none⟩ (.int .i64 qm7)).setCell ⟨b, 9, none⟩ (.int .i64 qm8)).setCell ⟨b, 10, none⟩ (.string qt)).setCell ⟨b, 11, none⟩ (.int .u32 qr) := ⟨_, rfl⟩
  rw [← hW]
  have hW' : W = w5.setCells b 0 X.cells.toList := by rw [HXX.out]; exact hW
  have K6 : Blk W b 44 X.cells := by rw [hW']; exact K5.out.boxed X
  have R6 : RT W g p n j (xs.set f th0) q := ⟨by rw [hW']; exact Blk.cellsFar hgb _ _ _ G5.out, by rw [hW']; exact Blk.cellsFar (fun e => hbp e.symm) _ _ _ P5.out, by rw [List.length_set, HRR.out.1], hjn, by rw [← HMM.out]; omega, hn, fun k y hy => by
    have hk := (List.getElem?_eq_some_iff.1 hy).1
    have h1 := HRR.out.2 (k + 1) y (by simpa using hy)
    have e : (j + k) % n = (f + (k + 1)) % n := by
      rw [HJ.out, Nat.add_mod, Nat.mod_mod, ← Nat.add_mod]; congr 1; omega
    rw [e, List.getElem?_set_ne]
    · exact h1
    · have := mod_ne (f := f) (k := 0) (m := k + 1) (n := n) (by omega) (by rw [← HMM.out] at hk; omega) hfn
      rwa [Nat.add_zero, Nat.mod_eq_of_lt hfn] at this⟩
  have hF : PopT g p n X q w (.returned (.tuple #[.agg X.cells, .bool true])) W := ⟨rfl, j, _, R6, by rw [hW']; exact Chg.cellsSet (.inr (by rw [HE.out]; exact Nat.le_refl _)) _ _ _ C5.out⟩
  rw [HXC.out] at hF K6
  have q0 : W.cell? ⟨b, 0, none⟩ = some (.int .i64 qp) := K6.cell 0
  have q1 : W.cell? ⟨b, 1, none⟩ = some (.int .i64 qm0) := K6.cell 1
  have q2 : W.cell? ⟨b, 2, none⟩ = some (.int .i64 qm1) := K6.cell 2
  have q3 : W.cell? ⟨b, 3, none⟩ = some (.int .i64 qm2) := K6.cell 3
  have q4 : W.cell? ⟨b, 4, none⟩ = some (.int .i64 qm3) := K6.cell 4
  have q5 : W.cell? ⟨b, 5, none⟩ = some (.int .i64 qm4) := K6.cell 5
  have q6 : W.cell? ⟨b, 6, none⟩ = some (.int .i64 qm5) := K6.cell 6
  have q7 : W.cell? ⟨b, 7, none⟩ = some (.int .i64 qm6) := K6.cell 7
  have q8 : W.cell? ⟨b, 8, none⟩ = some (.int .i64 qm7) := K6.cell 8
  have q9 : W.cell? ⟨b, 9, none⟩ = some (.int .i64 qm8) := K6.cell 9
  have q10 : W.cell? ⟨b, 10, none⟩ = some (.string qt) := K6.cell 10
  have q11 : W.cell? ⟨b, 11, none⟩ = some (.int .u32 qr) := K6.cell 11
  clear hW hW' K6 R6
  refine bodyPost_ret (v := .tuple #[.agg #[.int .i64 qp, .int .i64 qm0, .int .i64 qm1, .int .i64 qm2, .int .i64 qm3, .int .i64 qm4, .int .i64 qm5, .int .i64 qm6, .int .i64 qm7, .int .i64 qm8, .string qt, .int .u32 qr], .bool true]) (by simp [results, Try.results29, go_sem, q0, q1, q2, q3, q4, q5, q6, q7, q8, q9, q10, q11]) rfl ?_
  exact hF
end Go.Proofs.Ytjkocghbnljifaa
