/- FollowPlays: for every input the law returns true and its arguments read as before. Conditions: those of the form alone. -/
import Derived.Test.YtlojmmcagglpoaaGreatUFpMain
import Derived.Test.YtlojmmcagglpoaaGreatUFwFix
import Derived.Test.YtlojmmcagglpoaaGreatULaw
import Derived.Lib.SmallJoins
import Derived.ChangeMaps5
import Derived.Deep.Slices
import Derived.Deep.Matrix
namespace Go.Proofs.YtlojmmcagglpoaaGreat
open Go.ChangeShapes Go.WideShapes Go.ChangeAt Go.RowKit Go.Deep
section
variable {H : Type} {enc : TypeId × Value → H} {W : World} {base : Nat} {held : Bool}
theorem weightsAll_at {P : Program} {e : TypeId} {m : Nat} : ∀ {l : List (DataW H)}, (DataW.weightsAll P e l).all (· ≤ m) = true → ∀ x ∈ l, (x.weights P e).all (· ≤ m) = true
  | [], _, x, hx => by cases hx
  | y :: l, h, x, hx => by
    simp only [DataW.weightsAll, List.all_append, Bool.and_eq_true] at h
    rcases List.mem_cons.1 hx with rfl | hx
    · exact h.1
    · exact weightsAll_at h.2 x hx
theorem trodS7 {P : Program} {w : World} {spare : Nat → Bool} {t : TypeId} {f0 f1 f2 f3 f4 f5 f6 : Field} {fuel : Nat} {cs : List Value} {x : DataW H × List MemPlace} (ht : P.underlying t = some (.struct #[f0, f1, f2, f3, f4, f5, f6])) (h : DataW.trod enc P w base spare held fuel t cs = some x) :
    ∃ y0 y1 y2 y3 y4 y5 y6 n, x.1 = .agg [y0.1, y1.1, y2.1, y3.1, y4.1, y5.1, y6.1] ∧ cs.length = P.cellsOf t ∧ DataW.trod enc P w base spare held n f0.type ((cs.drop f0.offset).take (P.cellsOf f0.type)) = some y0 ∧ DataW.trod enc P w base spare held n f1.type ((cs.drop f1.offset).take (P.cellsOf f1.type)) = some y1 ∧ DataW.trod enc P w base spare held n f2.type ((cs.drop f2.offset).take (P.cellsOf f2.type)) = some y2 ∧ DataW.trod enc P w base spare held n f3.type ((cs.drop f3.offset).take (P.cellsOf f3.type)) = some y3 ∧ DataW.trod enc P w base spare held n f4.type ((cs.drop f4.offset).take (P.cellsOf f4.type)) = some y4 ∧ DataW.trod enc P w base spare held n f5.type ((cs.drop f5.offset).take (P.cellsOf f5.type)) = some y5 ∧ DataW.trod enc P w base spare held n f6.type ((cs.drop f6.offset).take (P.cellsOf f6.type)) = some y6 := by
  obtain ⟨xs, n, _, rfl, hl, hlen, hf⟩ := DataW.trod_struct ht h
  match xs, hlen with
  | [y0, y1, y2, y3, y4, y5, y6], _ => exact ⟨y0, y1, y2, y3, y4, y5, y6, n, rfl, hl, by simpa using hf 0 f0 rfl, by simpa using hf 1 f1 rfl, by simpa using hf 2 f2 rfl, by simpa using hf 3 f3 rfl, by simpa using hf 4 f4 rfl, by simpa using hf 5 f5 rfl, by simpa using hf 6 f6 rfl⟩
theorem trodS5 {P : Program} {w : World} {spare : Nat → Bool} {t : TypeId} {f0 f1 f2 f3 f4 : Field} {fuel : Nat} {cs : List Value} {x : DataW H × List MemPlace} (ht : P.underlying t = some (.struct #[f0, f1, f2, f3, f4])) (h : DataW.trod enc P w base spare held fuel t cs = some x) :
    ∃ y0 y1 y2 y3 y4 n, x.1 = .agg [y0.1, y1.1, y2.1, y3.1, y4.1] ∧ cs.length = P.cellsOf t ∧ DataW.trod enc P w base spare held n f0.type ((cs.drop f0.offset).take (P.cellsOf f0.type)) = some y0 ∧ DataW.trod enc P w base spare held n f1.type ((cs.drop f1.offset).take (P.cellsOf f1.type)) = some y1 ∧ DataW.trod enc P w base spare held n f2.type ((cs.drop f2.offset).take (P.cellsOf f2.type)) = some y2 ∧ DataW.trod enc P w base spare held n f3.type ((cs.drop f3.offset).take (P.cellsOf f3.type)) = some y3 ∧ DataW.trod enc P w base spare held n f4.type ((cs.drop f4.offset).take (P.cellsOf f4.type)) = some y4 := by
  obtain ⟨xs, n, _, rfl, hl, hlen, hf⟩ := DataW.trod_struct ht h
  match xs, hlen with
  | [y0, y1, y2, y3, y4], _ => exact ⟨y0, y1, y2, y3, y4, n, rfl, hl, by simpa using hf 0 f0 rfl, by simpa using hf 1 f1 rfl, by simpa using hf 2 f2 rfl, by simpa using hf 3 f3 rfl, by simpa using hf 4 f4 rfl⟩
set_option maxRecDepth 100000 in
theorem open_ops17 {r : Reach} {b0 : Nat} {v : Value} {d : DataW H} {ps : List MemPlace} (hval : Value.okWide Tryz.prog W r b0 103 v) (h : DataW.Trod enc Tryz.prog W base (fun _ => true) held 103 v d ps) (hz : (d.weights Tryz.prog 103).all (· ≤ reachBytes) = true) :
    ∃ A len cap l, v = .slice A len cap ∧ len ≤ cap ∧ cap ≤ maxLen ∧ SF W A len l := by
  obtain ⟨a, len, cap, rfl⟩ := okWide_slice Tryz.underlying103 hval
  obtain ⟨fuel, hf⟩ := h
  rcases open_slice Tryz.underlying103 hf with ⟨hcs, hx⟩ | ⟨a', len', cap', m, n, D, Pl, hcs, _, hl, hm, hmm, hx, hi⟩
  · simp [Value.cells] at hcs
    obtain ⟨rfl, rfl, rfl⟩ := hcs
    exact ⟨_, _, _, [], rfl, Nat.le_refl _, Nat.zero_le _, ⟨rfl, fun x hx => by simp at hx, fun h => absurd h (by omega)⟩⟩
  · simp [Value.cells] at hcs
    obtain ⟨rfl, rfl, rfl⟩ := hcs
    simp only [if_true] at hmm
    have hC : Tryz.prog.cellsOf 111 = 15 := by kernel_rfl
    rw [hC] at hi
    have cint : Tryz.prog.cellsOf 3 = 1 := by kernel_rfl
    have cints : Tryz.prog.cellsOf 39 = 1 := by kernel_rfl
    have closs : Tryz.prog.cellsOf 98 = 5 := by kernel_rfl
    have cmark : Tryz.prog.cellsOf 100 = 9 := by kernel_rfl
    have cstr : Tryz.prog.cellsOf 9 = 1 := by kernel_rfl
    have bI : Tryz.prog.bytesOf 3 = 8 := by kernel_rfl
    have hx1 := (Prod.mk.injEq .. ▸ hx).1
    rw [hx1] at hz
    simp only [DataW.weights, Tryz.underlying103, List.all_cons, List.all_append, Bool.and_eq_true] at hz
    have hzE := weightsAll_at hz.2.1
    have each : ∀ i, i < len → ∃ x : O17, (∀ (k : Nat) (u : Value), (oC17 x)[k]? = some u → W.cell? (a'.add (i * 15 + k)) = some u) ∧ x.In W := by
      intro i hil
      obtain ⟨cs', hc, ht'⟩ := hi i (by omega)
      obtain ⟨_, hcl, hat⟩ := World.cells?_some hc
      have hw := hzE (D i) (List.mem_map.2 ⟨i, List.mem_range.2 hil, rfl⟩)
      obtain ⟨y0, y1, y2, y3, y4, y5, y6, n', hD, _, h0, h1, h2, h3, h4, h5, h6⟩ := trodS7 Tryz.underlying111 ht'
      simp only at hD
      rw [hD] at hw
      simp only [DataW.weights, Tryz.underlying111, DataW.weightsEach, List.map_cons, List.map_nil, List.all_append, Bool.and_eq_true] at hw
      obtain ⟨w0, w1, w2, w3, w4, w5, w6, _⟩ := hw
      match cs', hcl, hat, h0, h1, h2, h3, h4, h5, h6 with
      | [c0, c1, c2, c3, c4, c5, c6, c7, c8, c9, c10, c11, c12, c13, c14], _, hat, h0, h1, h2, h3, h4, h5, h6 =>
        obtain ⟨q0, e0, _, b0⟩ := DataW.trod_int (cs := [c0]) Tryz.underlying3 (by simpa [cint] using h0)
        have z0 := i64_bounds b0
        obtain ⟨q1, e1, x1, _⟩ := DataW.trod_string (cs := [c1]) Tryz.underlying9 (by simpa [cstr] using h1)
        have v1 : q1.size ≤ reachBytes := by
          rw [x1] at w1
          simp only [DataW.weights, List.all_cons, List.all_nil, Bool.and_true, decide_eq_true_eq] at w1
          exact w1
        obtain ⟨q2, e2, x2, _⟩ := DataW.trod_string (cs := [c2]) Tryz.underlying9 (by simpa [cstr] using h2)
        have v2 : q2.size ≤ reachBytes := by
          rw [x2] at w2
          simp only [DataW.weights, List.all_cons, List.all_nil, Bool.and_true, decide_eq_true_eq] at w2
          exact w2
        obtain ⟨q3, e3, x3, _⟩ := DataW.trod_string (cs := [c3]) Tryz.underlying9 (by simpa [cstr] using h3)
        have v3 : q3.size ≤ reachBytes := by
          rw [x3] at w3
          simp only [DataW.weights, List.all_cons, List.all_nil, Bool.and_true, decide_eq_true_eq] at w3
          exact w3
        have r4 : ∃ A m cp ks, c4 = .slice A m cp ∧ m ≤ cp ∧ RI W A m ks ∧ m * 8 ≤ reachBytes := by
          rcases open_ints (cs := [c4]) Tryz.underlying39 Tryz.underlying3 cint (by simpa [cints] using h4) with ⟨hcs, _⟩ | ⟨a2, len2, cap2, zs, hcs, _, hl2, hm2, hz2, hx2, hcell, _⟩
          · simp only [List.cons.injEq, and_true] at hcs
            exact ⟨none, 0, 0, [], hcs, Nat.le_refl _, ⟨rfl, fun h => absurd h (Nat.lt_irrefl 0)⟩, Nat.zero_le _⟩
          · simp only [List.cons.injEq, and_true] at hcs
            simp only [if_true] at hz2
            rw [hx2] at w4
            simp only [DataW.weights, Tryz.underlying39, bI, List.all_cons, Bool.and_eq_true, decide_eq_true_eq, lits, List.length_map, List.length_take, List.length_drop] at w4
            refine ⟨some a2, len2, cap2, zs.take len2, hcs, hl2, ⟨by simp; omega, fun hn => ?_⟩, by have := w4.1; omega⟩
            obtain ⟨b, off, rfl, hc'⟩ := ints_at hcell (by omega)
            have hlt : b < W.heap.size := World.block_lt_of_cell? W _ (hc' 0 (by omega))
            refine ⟨b, off, rfl, hlt, fun j x hj => ?_⟩
            have hjl : j < len2 := by
              have := (List.getElem?_eq_some_iff.1 hj).1
              simp at this; omega
            rw [hc' j (by omega)]
            rw [List.getElem?_take_of_lt hjl, List.getElem?_eq_getElem (by omega)] at hj
            have hg : zs.getD j 0 = zs[j]'(by omega) := by rw [List.getD_eq_getElem?_getD, List.getElem?_eq_getElem (by omega)]; rfl
            rw [hg]
            simp only [Option.some.injEq] at hj
            rw [hj]
        obtain ⟨A4, m4, cp4, ks4, e4, g4, i4, v4⟩ := r4
        obtain ⟨q5, e5, _, b5⟩ := DataW.trod_int (cs := [c5]) Tryz.underlying3 (by simpa [cint] using h5)
        have z5 := i64_bounds b5
        obtain ⟨_, _, _, _, _, nM, _, _, hM0, hM1, hM2, hM3, hM4⟩ := trodS5 (cs := [c6, c7, c8, c9, c10, c11, c12, c13, c14]) Tryz.underlying100 (by simpa [cmark] using h6)
        obtain ⟨_, _, _, _, _, nL, _, _, hL0, hL1, hL2, hL3, hL4⟩ := trodS5 (cs := [c10, c11, c12, c13, c14]) Tryz.underlying98 (by simpa [closs] using hM4)
        obtain ⟨k0, eM0, _, bM0⟩ := DataW.trod_int (cs := [c6]) Tryz.underlying3 (by simpa [cint] using hM0)
        have zM0 := i64_bounds bM0
        obtain ⟨k1, eM1, _, bM1⟩ := DataW.trod_int (cs := [c7]) Tryz.underlying3 (by simpa [cint] using hM1)
        have zM1 := i64_bounds bM1
        obtain ⟨k2, eM2, _, bM2⟩ := DataW.trod_int (cs := [c8]) Tryz.underlying3 (by simpa [cint] using hM2)
        have zM2 := i64_bounds bM2
        obtain ⟨k3, eM3, _, bM3⟩ := DataW.trod_int (cs := [c9]) Tryz.underlying3 (by simpa [cint] using hM3)
        have zM3 := i64_bounds bM3
        obtain ⟨k4, eM4, _, bM4⟩ := DataW.trod_int (cs := [c10]) Tryz.underlying3 (by simpa [cint] using hL0)
        have zM4 := i64_bounds bM4
        obtain ⟨k5, eM5, _, bM5⟩ := DataW.trod_int (cs := [c11]) Tryz.underlying3 (by simpa [cint] using hL1)
        have zM5 := i64_bounds bM5
        obtain ⟨k6, eM6, _, bM6⟩ := DataW.trod_int (cs := [c12]) Tryz.underlying3 (by simpa [cint] using hL2)
        have zM6 := i64_bounds bM6
        obtain ⟨k7, eM7, _, bM7⟩ := DataW.trod_int (cs := [c13]) Tryz.underlying3 (by simpa [cint] using hL3)
        have zM7 := i64_bounds bM7
        obtain ⟨k8, eM8, _, bM8⟩ := DataW.trod_int (cs := [c14]) Tryz.underlying3 (by simpa [cint] using hL4)
        have zM8 := i64_bounds bM8
        simp only [List.cons.injEq, and_true] at e0 e1 e2 e3 e5 eM0 eM1 eM2 eM3 eM4 eM5 eM6 eM7 eM8
        subst e0 e1 e2 e3 e4 e5 eM0 eM1 eM2 eM3 eM4 eM5 eM6 eM7 eM8
        refine ⟨⟨q0, q1.data.toList, q2.data.toList, q3.data.toList, A4, m4, cp4, ks4, q5, ⟨k0, k1, k2, k3, k4, k5, k6, k7, k8, [], 0⟩⟩, fun k u hu => ?_, ⟨Nat.le_trans v3 (by decide), i4, Nat.le_trans v4 (by decide), z5.1, Int.lt_of_le_of_lt z5.2 (by decide)⟩⟩
        have hk : k < 15 := (Array.getElem?_eq_some_iff.1 hu).1
        have q := hat k (by simpa using hk)
        rw [Go.Deep.add_add] at q
        rw [q]
        match k, hk, hu with
        | 0, _, hu => exact hu
        | 1, _, hu => exact hu
        | 2, _, hu => exact hu
        | 3, _, hu => exact hu
        | 4, _, hu => exact hu
        | 5, _, hu => exact hu
        | 6, _, hu => exact hu
        | 7, _, hu => exact hu
        | 8, _, hu => exact hu
        | 9, _, hu => exact hu
        | 10, _, hu => exact hu
        | 11, _, hu => exact hu
        | 12, _, hu => exact hu
        | 13, _, hu => exact hu
        | 14, _, hu => exact hu
    have : Inhabited O17 := ⟨⟨0, [], [], [], none, 0, 0, [], 0, fw0⟩⟩
    obtain ⟨F, hF⟩ := choose_lt each
    refine ⟨_, _, _, (List.range len).map F, rfl, hl, hm, ⟨by simp, fun x hxm => ?_, fun hp => ?_⟩⟩
    · obtain ⟨j, hj, rfl⟩ := List.mem_map.1 hxm
      have hj' : j < len := by simpa using hj
      exact (hF j hj').2
    · obtain ⟨b, off, spot⟩ := a'
      have h0 := (hF 0 hp).1 0 _ rfl
      have hspot : spot = none := by simpa [Addr.add] using World.cell?_spot h0
      subst hspot
      have hadd : ∀ j, (⟨b, off, none⟩ : Addr).add j = ⟨b, off + j, none⟩ := fun j => by
        unfold Addr.add
        by_cases h : j = 0
        · subst h; simp
        · simp [h]
      have hlt : b < W.heap.size := by
        have := World.block_lt_of_cell? W _ h0
        rwa [hadd] at this
      refine ⟨b, off, rfl, hlt, fun j x hj k u hu => ?_⟩
      have hjl : j < len := by
        have := (List.getElem?_eq_some_iff.1 hj).1
        simpa using this
      rw [List.getElem?_map, List.getElem?_range hjl] at hj
      simp only [Option.map_some, Option.some.injEq] at hj
      subst hj
      have q := (hF j hjl).1 k u hu
      rw [hadd] at q
      rw [Nat.add_assoc]
      exact q
end
end Go.Proofs.YtlojmmcagglpoaaGreat
namespace Go.Proofs.YtlojmmcagglpoaaGreat
open Go.ChangeShapes Go.WideShapes Go.ChangeAt Go.RowKit Go.Deep
section
variable {H : Type} {enc : TypeId × Value → H} {W : World} {base : Nat} {held : Bool}
theorem trodQ4 {P : Program} {w : World} {spare : Nat → Bool} {t : TypeId} {f0 f1 f2 f3 : Field} {fuel : Nat} {cs : List Value} {x : DataW H × List MemPlace} (ht : P.underlying t = some (.struct #[f0, f1, f2, f3])) (h : DataW.trod enc P w base spare held fuel t cs = some x) :
    ∃ y0 y1 y2 y3 n, DataW.trod enc P w base spare held n f0.type ((cs.drop f0.offset).take (P.cellsOf f0.type)) = some y0 ∧ DataW.trod enc P w base spare held n f1.type ((cs.drop f1.offset).take (P.cellsOf f1.type)) = some y1 ∧ DataW.trod enc P w base spare held n f2.type ((cs.drop f2.offset).take (P.cellsOf f2.type)) = some y2 ∧ DataW.trod enc P w base spare held n f3.type ((cs.drop f3.offset).take (P.cellsOf f3.type)) = some y3 := by
  obtain ⟨xs, n, _, rfl, hl, hlen, hf⟩ := DataW.trod_struct ht h
  match xs, hlen with
  | [y0, y1, y2, y3], _ => exact ⟨y0, y1, y2, y3, n, by simpa using hf 0 f0 rfl, by simpa using hf 1 f1 rfl, by simpa using hf 2 f2 rfl, by simpa using hf 3 f3 rfl⟩
theorem trodQ2 {P : Program} {w : World} {spare : Nat → Bool} {t : TypeId} {f0 f1 : Field} {fuel : Nat} {cs : List Value} {x : DataW H × List MemPlace} (ht : P.underlying t = some (.struct #[f0, f1])) (h : DataW.trod enc P w base spare held fuel t cs = some x) :
    ∃ y0 y1 n, DataW.trod enc P w base spare held n f0.type ((cs.drop f0.offset).take (P.cellsOf f0.type)) = some y0 ∧ DataW.trod enc P w base spare held n f1.type ((cs.drop f1.offset).take (P.cellsOf f1.type)) = some y1 := by
  obtain ⟨xs, n, _, rfl, hl, hlen, hf⟩ := DataW.trod_struct ht h
  match xs, hlen with
  | [y0, y1], _ => exact ⟨y0, y1, n, by simpa using hf 0 f0 rfl, by simpa using hf 1 f1 rfl⟩
set_option maxRecDepth 100000 in
theorem open_setup17 {r : Reach} {b0 : Nat} {v : Value} {d : DataW H} {ps : List MemPlace} (hval : Value.okWide Tryz.prog W r b0 102 v) (h : DataW.Trod enc Tryz.prog W base (fun _ => true) held 102 v d ps) :
    ∃ (li : Int) (k : FwK) (m : FwS), v = .agg #[.string (strB k.nm), .string (strB k.ro), .int .i64 li, .int .i64 k.ch, .int .i64 m.se, .int .i64 m.ino, .int .i64 m.ge, .int .i64 m.off, .int .i64 m.mi, .int .i64 m.go, .int .i64 m.cu, .int .i64 m.ta, .int .i64 m.lo] ∧ k.line = li.toNat := by
  obtain ⟨cs, rfl, hsz⟩ := okWide_struct Tryz.underlying102 hval
  obtain ⟨fuel, hf⟩ := h
  obtain ⟨_, _, _, _, n, h0, h1, h2, h3⟩ := trodQ4 Tryz.underlying102 hf
  have hC : Tryz.prog.cellsOf 102 = 13 := by kernel_rfl
  have cint : Tryz.prog.cellsOf 3 = 1 := by kernel_rfl
  have closs : Tryz.prog.cellsOf 98 = 5 := by kernel_rfl
  have cmark : Tryz.prog.cellsOf 100 = 9 := by kernel_rfl
  have cpath : Tryz.prog.cellsOf 96 = 2 := by kernel_rfl
  have cstr : Tryz.prog.cellsOf 9 = 1 := by kernel_rfl
  rw [hC] at hsz
  obtain ⟨L⟩ := cs
  simp only [Value.cells, cpath, cint, cmark] at h0 h1 h2 h3
  match L, hsz, h0, h1, h2, h3 with
  | [c0, c1, c2, c3, c4, c5, c6, c7, c8, c9, c10, c11, c12], _, h0, h1, h2, h3 =>
    obtain ⟨_, _, _, g0, g1⟩ := trodQ2 (cs := [c0, c1]) Tryz.underlying96 (by simpa using h0)
    obtain ⟨q0, e0, _, _⟩ := DataW.trod_string (cs := [c0]) Tryz.underlying9 (by simpa [cstr] using g0)
    obtain ⟨q1, e1, _, _⟩ := DataW.trod_string (cs := [c1]) Tryz.underlying9 (by simpa [cstr] using g1)
    obtain ⟨q2, e2, _, _⟩ := DataW.trod_int (cs := [c2]) Tryz.underlying3 (by simpa using h1)
    obtain ⟨q3, e3, _, _⟩ := DataW.trod_int (cs := [c3]) Tryz.underlying3 (by simpa using h2)
    obtain ⟨_, _, _, _, _, nM, _, _, hM0, hM1, hM2, hM3, hM4⟩ := trodS5 (cs := [c4, c5, c6, c7, c8, c9, c10, c11, c12]) Tryz.underlying100 (by simpa using h3)
    obtain ⟨_, _, _, _, _, nL, _, _, hL0, hL1, hL2, hL3, hL4⟩ := trodS5 (cs := [c8, c9, c10, c11, c12]) Tryz.underlying98 (by simpa [closs] using hM4)
    obtain ⟨k0, eM0, _, _⟩ := DataW.trod_int (cs := [c4]) Tryz.underlying3 (by simpa [cint] using hM0)
    obtain ⟨k1, eM1, _, _⟩ := DataW.trod_int (cs := [c5]) Tryz.underlying3 (by simpa [cint] using hM1)
    obtain ⟨k2, eM2, _, _⟩ := DataW.trod_int (cs := [c6]) Tryz.underlying3 (by simpa [cint] using hM2)
    obtain ⟨k3, eM3, _, _⟩ := DataW.trod_int (cs := [c7]) Tryz.underlying3 (by simpa [cint] using hM3)
    obtain ⟨k4, eM4, _, _⟩ := DataW.trod_int (cs := [c8]) Tryz.underlying3 (by simpa [cint] using hL0)
    obtain ⟨k5, eM5, _, _⟩ := DataW.trod_int (cs := [c9]) Tryz.underlying3 (by simpa [cint] using hL1)
    obtain ⟨k6, eM6, _, _⟩ := DataW.trod_int (cs := [c10]) Tryz.underlying3 (by simpa [cint] using hL2)
    obtain ⟨k7, eM7, _, _⟩ := DataW.trod_int (cs := [c11]) Tryz.underlying3 (by simpa [cint] using hL3)
    obtain ⟨k8, eM8, _, _⟩ := DataW.trod_int (cs := [c12]) Tryz.underlying3 (by simpa [cint] using hL4)
    simp only [List.cons.injEq, and_true] at e0 e1 e2 e3 eM0 eM1 eM2 eM3 eM4 eM5 eM6 eM7 eM8
    subst e0 e1 e2 e3 eM0 eM1 eM2 eM3 eM4 eM5 eM6 eM7 eM8
    exact ⟨q2, ⟨q2.toNat, q0.data.toList, q1.data.toList, q3⟩, ⟨k0, k1, k2, k3, k4, k5, k6, k7, k8, [], 0⟩, rfl, rfl⟩
end
end Go.Proofs.YtlojmmcagglpoaaGreat
namespace Go.Proofs.YtlojmmcagglpoaaGreat.lawFollowPlays
open Go.ChangeShapes Go.WideShapes Go.ChangeAt Go.RowKit
theorem own : ownKnob Tryz.prog.godebug = none := by kernel_rfl
theorem laidOut : laidOutB Tryz.prog = true := by kernel_rfl
theorem readable : ∀ t ∈ Tryz.f6.params.toList, Tryz.prog.readableRec t = true ∧ t < Tryz.prog.types.size := by
  rw [Tryz.params6]
  intro t ht
  simp only [List.mem_cons, List.not_mem_nil, or_false] at ht
  rcases ht with rfl | rfl <;> exact ⟨by kernel_rfl, of_decide_eq_true (by kernel_rfl)⟩
theorem specs {H : Type} (ds : List (DataW H)) (h : ds.length = Tryz.f6.params.size) : (Rows.followPlaysSpec.fn H (ds ++ [])).results = [.lit (.bool true)] ∧ (Rows.followPlaysSpec.fn H (ds ++ [])).args = ds ∧ (Rows.followPlaysSpec.fn H (ds ++ [])).vars = [] := by
  rw [Tryz.params6] at h
  match ds, h with
  | [d0, d1], _ => exact ⟨rfl, rfl, rfl⟩
set_option maxRecDepth 100000 in
theorem contract (H : Type) (enc : TypeId × Value → H) (W : World) (base : Nat) (args : Array Value) (ds gs : List (DataW H)) (before : List MemPlace)
    (hval : ∀ (j : Nat) t v, Tryz.f6.params[j]? = some t → args[j]? = some v → Value.okWide Tryz.prog W .any base t v)
    (hW : DataW.Whole enc Tryz.prog Tryz.f6.params.toList Rows.followPlaysSpec.vars false W args.toList ds gs before)
    (hz : (DataW.weightsEach Tryz.prog (Tryz.f6.params.toList ++ []) (ds ++ gs)).all (· ≤ reachBytes) = true)
    (_hL : laidMetH Tryz.prog Rows.followPlaysRow.laid W) :
    Calls Tryz.prog 6 args W fun e W' => ∃ v, e = .returned v ∧ Rows.followPlaysSpec.post enc Tryz.prog Tryz.f6 false true false false W args v W' := by
  have hW' := hW
  obtain ⟨p, q, hA0, hV, rfl, hfz, hnd⟩ := hW
  have hA : DataW.TrodAll enc Tryz.prog W 0 (fun _ => true) true Tryz.f6.params.toList args.toList ds p := hA0
  rw [Tryz.params6] at hA hval hz
  obtain ⟨v0, vs0, d0, ds0, p0, q0, hargs, rfl, rfl, h0, r0⟩ := trodAll_cons hA
  obtain ⟨v1, vs1, d1, ds1, p1, q1, rfl, rfl, rfl, h1, r1⟩ := trodAll_cons r0
  obtain ⟨rfl, rfl, rfl⟩ := trodAll_nil r1
  obtain rfl : args = #[v0, v1] := by cases args; simp_all
  obtain ⟨rfl, rfl⟩ := trodVars_none hV
  clear hA0
  simp only [List.append_nil] at hz
  obtain ⟨wt0, hz0⟩ := weights_cons hz
  obtain ⟨wt1, hz1⟩ := weights_cons hz0
  obtain ⟨li, k, m, rfl, hkl⟩ := open_setup17 (hval 0 102 v0 rfl rfl) h0
  obtain ⟨A0, n0, cap0, l0, rfl, hc0, hm0, hr0⟩ := open_ops17 (hval 1 103 v1 rfl rfl) h1 wt1
  have walked := fplays_any li k m hkl A0 n0 cap0 l0 W hr0
  refine walked.mono fun e W' ⟨he, hb⟩ => ?_
  subst he
  exact ⟨_, rfl, lawPost laidOut readable rfl Tryz.underlying4 rfl specs hW' hb⟩
noncomputable def laidWorld (os : Os) : World := World.holding Tryz.prog os ⟨#[], #[], []⟩
theorem laid_met (os : Os) : laidMet Tryz.prog Rows.followPlaysRow.laid ((laidWorld os).forCall (fun _ _ => 0) ⟨#[], #[.agg #[.string ⟨#[]⟩, .string ⟨#[]⟩, .int .i64 0, .int .i64 0, .int .i64 0, .int .i64 0, .int .i64 0, .int .i64 0, .int .i64 0, .int .i64 0, .int .i64 0, .int .i64 0, .int .i64 0], .slice none 0 0], []⟩).memory :=
  laidMet_of_run' 8 (by kernel_rfl) (by kernel_rfl)
theorem reads (os : Os) {H : Type} (enc : TypeId × Value → H) : ∃ places, DataW.whole enc Tryz.prog ((laidWorld os).forCall (fun _ _ => 0) ⟨#[], #[.agg #[.string ⟨#[]⟩, .string ⟨#[]⟩, .int .i64 0, .int .i64 0, .int .i64 0, .int .i64 0, .int .i64 0, .int .i64 0, .int .i64 0, .int .i64 0, .int .i64 0, .int .i64 0, .int .i64 0], .slice none 0 0], []⟩).memory Tryz.f6.params.toList Rows.followPlaysSpec.vars false (#[.agg #[.string ⟨#[]⟩, .string ⟨#[]⟩, .int .i64 0, .int .i64 0, .int .i64 0, .int .i64 0, .int .i64 0, .int .i64 0, .int .i64 0, .int .i64 0, .int .i64 0, .int .i64 0, .int .i64 0], .slice none 0 0] : Array Value).toList 8 = some ([.agg [.agg [.lit (.string []), .lit (.string [])], .lit (.int .i64 0), .lit (.int .i64 0), .agg [.lit (.int .i64 0), .lit (.int .i64 0), .lit (.int .i64 0), .lit (.int .i64 0), .agg [.lit (.int .i64 0), .lit (.int .i64 0), .lit (.int .i64 0), .lit (.int .i64 0), .lit (.int .i64 0)]]], .nil], [], places) :=
  ⟨[], by kernel_rfl⟩
set_option maxRecDepth 100000 in
theorem lifted (os : Os) (started : os.Started) (H : Type) (enc : TypeId × Value → H) (F : Stop.Interp) :
    ReturnsInHanded {} Tryz.checked os 6 .any ((OpenSpec.ofChange Rows.followPlaysSpec).preRow enc Tryz.prog Tryz.f6 Rows.followPlaysRow.domain false Rows.followPlaysRow.laid) (((OpenSpec.ofChange Rows.followPlaysSpec).at F).post enc Tryz.prog Tryz.f6 false true false false) := by
  obtain ⟨places, hx⟩ := reads os enc
  refine returnsInHanded_of_row (C := Tryz.checked) (s := (OpenSpec.ofChange Rows.followPlaysSpec)) own started (by kernel_rfl) Tryz.func6
    (witness_row_at (enc := enc) (C := Tryz.checked) false (laidWorld os) #[.agg #[.string ⟨#[]⟩, .string ⟨#[]⟩, .int .i64 0, .int .i64 0, .int .i64 0, .int .i64 0, .int .i64 0, .int .i64 0, .int .i64 0, .int .i64 0, .int .i64 0, .int .i64 0, .int .i64 0], .slice none 0 0] rfl (by kernel_rfl) (by kernel_rfl) (by kernel_rfl)
      (OpenSpec.preRow_of_cond 8 hx (by kernel_rfl) (fun k hk => by cases hk) (by kernel_rfl) (laid_met os))) ?_
  intro W base args ds gs before hval hW _ _ hz hL _ _
  exact contract H enc W base args ds gs before hval hW hz hL
theorem said : Rows.FollowPlaysSaid :=
  OpenClaim.holds_of_cond 6 Tryz.f6 rfl rfl rfl rfl rfl rfl rfl ⟨rfl, rfl, rfl, rfl, rfl⟩ rfl rfl rfl rfl rfl (by kernel_rfl) Tryz.func6 (by kernel_rfl)
    (of_decide_eq_true (by kernel_rfl)) (by unfold Func.isWrapper; first | (rw [if_pos (by decide +kernel)]; kernel_rfl) | (rw [if_neg (by decide +kernel)]; exact ⟨rfl, rfl⟩))
    (fun os started H enc _ F => by rw [OpenClaim.pre_eq_preRow]; exact lifted os started H enc F)
end Go.Proofs.YtlojmmcagglpoaaGreat.lawFollowPlays
