/- SimfsPlays: for every input the law returns true and its arguments read as before. Conditions: those of the form alone. -/
import Derived.Test.YtlojmmcagglpoaaGreatQLaw
import Derived.Test.YtlojmmcagglpoaaGreatQPlMain
import Derived.Lib.SmallJoins
import Derived.ChangeMaps5
import Derived.Deep.Slices
import Derived.Deep.Matrix
namespace Go.Proofs.YtlojmmcagglpoaaGreat
open Go.ChangeShapes Go.WideShapes Go.ChangeAt Go.RowKit Go.Deep
section
variable {H : Type} {enc : TypeId × Value → H} {W : World} {base : Nat} {held : Bool}
theorem weightsAll_at {P : Program} {e : TypeId} {m : Nat} : ∀ {l : List (DataW H)}, (DataW.weightsAll P e l).all (· ≤ m) = true → ∀ x ∈ l, (x.weights P e).all (· ≤ m) = true
  | [], _, x, hx => by cases hx
  | y :: l, h, x, hx => by
    simp only [DataW.weightsAll, List.all_append, Bool.and_eq_true] at h
    rcases List.mem_cons.1 hx with rfl | hx
    · exact h.1
    · exact weightsAll_at h.2 x hx
theorem trodS11 {P : Program} {w : World} {spare : Nat → Bool} {t : TypeId} {f0 f1 f2 f3 f4 f5 f6 f7 f8 f9 f10 : Field} {fuel : Nat} {cs : List Value} {x : DataW H × List MemPlace} (ht : P.underlying t = some (.struct #[f0, f1, f2, f3, f4, f5, f6, f7, f8, f9, f10])) (h : DataW.trod enc P w base spare held fuel t cs = some x) :
    ∃ y0 y1 y2 y3 y4 y5 y6 y7 y8 y9 y10 n, x.1 = .agg [y0.1, y1.1, y2.1, y3.1, y4.1, y5.1, y6.1, y7.1, y8.1, y9.1, y10.1] ∧ cs.length = P.cellsOf t ∧ DataW.trod enc P w base spare held n f0.type ((cs.drop f0.offset).take (P.cellsOf f0.type)) = some y0 ∧ DataW.trod enc P w base spare held n f1.type ((cs.drop f1.offset).take (P.cellsOf f1.type)) = some y1 ∧ DataW.trod enc P w base spare held n f2.type ((cs.drop f2.offset).take (P.cellsOf f2.type)) = some y2 ∧ DataW.trod enc P w base spare held n f3.type ((cs.drop f3.offset).take (P.cellsOf f3.type)) = some y3 ∧ DataW.trod enc P w base spare held n f4.type ((cs.drop f4.offset).take (P.cellsOf f4.type)) = some y4 ∧ DataW.trod enc P w base spare held n f5.type ((cs.drop f5.offset).take (P.cellsOf f5.type)) = some y5 ∧ DataW.trod enc P w base spare held n f6.type ((cs.drop f6.offset).take (P.cellsOf f6.type)) = some y6 ∧ DataW.trod enc P w base spare held n f7.type ((cs.drop f7.offset).take (P.cellsOf f7.type)) = some y7 ∧ DataW.trod enc P w base spare held n f8.type ((cs.drop f8.offset).take (P.cellsOf f8.type)) = some y8 ∧ DataW.trod enc P w base spare held n f9.type ((cs.drop f9.offset).take (P.cellsOf f9.type)) = some y9 ∧ DataW.trod enc P w base spare held n f10.type ((cs.drop f10.offset).take (P.cellsOf f10.type)) = some y10 := by
  obtain ⟨xs, n, _, rfl, hl, hlen, hf⟩ := DataW.trod_struct ht h
  match xs, hlen with
  | [y0, y1, y2, y3, y4, y5, y6, y7, y8, y9, y10], _ => exact ⟨y0, y1, y2, y3, y4, y5, y6, y7, y8, y9, y10, n, rfl, hl, by simpa using hf 0 f0 rfl, by simpa using hf 1 f1 rfl, by simpa using hf 2 f2 rfl, by simpa using hf 3 f3 rfl, by simpa using hf 4 f4 rfl, by simpa using hf 5 f5 rfl, by simpa using hf 6 f6 rfl, by simpa using hf 7 f7 rfl, by simpa using hf 8 f8 rfl, by simpa using hf 9 f9 rfl, by simpa using hf 10 f10 rfl⟩
set_option maxRecDepth 100000 in
theorem open_plays14 {r : Reach} {b0 : Nat} {v : Value} {d : DataW H} {ps : List MemPlace} (hval : Value.okWide Tryz.prog W r b0 22 v) (h : DataW.Trod enc Tryz.prog W base (fun _ => true) held 22 v d ps) (hz : (d.weights Tryz.prog 22).all (· ≤ reachBytes) = true) :
    ∃ A len cap l, v = .slice A len cap ∧ len ≤ cap ∧ cap ≤ maxLen ∧ SPo W A len l := by
  obtain ⟨a, len, cap, rfl⟩ := okWide_slice Tryz.underlying22 hval
  obtain ⟨fuel, hf⟩ := h
  rcases open_slice Tryz.underlying22 hf with ⟨hcs, hx⟩ | ⟨a', len', cap', m, n, D, Pl, hcs, _, hl, hm, hmm, hx, hi⟩
  · simp [Value.cells] at hcs
    obtain ⟨rfl, rfl, rfl⟩ := hcs
    exact ⟨_, _, _, [], rfl, Nat.le_refl _, Nat.zero_le _, ⟨rfl, fun x hx => by simp at hx, fun h => absurd h (by omega)⟩⟩
  · simp [Value.cells] at hcs
    obtain ⟨rfl, rfl, rfl⟩ := hcs
    simp only [if_true] at hmm
    have hC : Tryz.prog.cellsOf 41 = 11 := by kernel_rfl
    rw [hC] at hi
    have cint : Tryz.prog.cellsOf 3 = 1 := by kernel_rfl
    have cints : Tryz.prog.cellsOf 39 = 1 := by kernel_rfl
    have cstr : Tryz.prog.cellsOf 9 = 1 := by kernel_rfl
    have bI : Tryz.prog.bytesOf 3 = 8 := by kernel_rfl
    have hx1 := (Prod.mk.injEq .. ▸ hx).1
    rw [hx1] at hz
    simp only [DataW.weights, Tryz.underlying22, List.all_cons, List.all_append, Bool.and_eq_true] at hz
    have hzE := weightsAll_at hz.2.1
    have each : ∀ i, i < len → ∃ x : OpP, (∀ (k : Nat) (u : Value), (opC x)[k]? = some u → W.cell? (a'.add (i * 11 + k)) = some u) ∧ x.In W := by
      intro i hil
      obtain ⟨cs', hc, ht'⟩ := hi i (by omega)
      obtain ⟨_, hcl, hat⟩ := World.cells?_some hc
      have hw := hzE (D i) (List.mem_map.2 ⟨i, List.mem_range.2 hil, rfl⟩)
      obtain ⟨y0, y1, y2, y3, y4, y5, y6, y7, y8, y9, y10, n', hD, _, h0, h1, h2, h3, h4, h5, h6, h7, h8, h9, h10⟩ := trodS11 Tryz.underlying41 ht'
      simp only at hD
      rw [hD] at hw
      simp only [DataW.weights, Tryz.underlying41, DataW.weightsEach, List.map_cons, List.map_nil, List.all_append, Bool.and_eq_true] at hw
      obtain ⟨w0, w1, w2, w3, w4, w5, w6, w7, w8, w9, w10, _⟩ := hw
      match cs', hcl, hat, h0, h1, h2, h3, h4, h5, h6, h7, h8, h9, h10 with
      | [c0, c1, c2, c3, c4, c5, c6, c7, c8, c9, c10], _, hat, h0, h1, h2, h3, h4, h5, h6, h7, h8, h9, h10 =>
        obtain ⟨q0, e0, _, b0⟩ := DataW.trod_int (cs := [c0]) Tryz.underlying3 (by simpa [cint] using h0)
        have z0 := i64_bounds b0
        obtain ⟨q1, e1, _, b1⟩ := DataW.trod_int (cs := [c1]) Tryz.underlying3 (by simpa [cint] using h1)
        have z1 := i64_bounds b1
        obtain ⟨q2, e2, x2, _⟩ := DataW.trod_string (cs := [c2]) Tryz.underlying9 (by simpa [cstr] using h2)
        have v2 : q2.size ≤ reachBytes := by
          rw [x2] at w2
          simp only [DataW.weights, List.all_cons, List.all_nil, Bool.and_true, decide_eq_true_eq] at w2
          exact w2
        obtain ⟨q3, e3, x3, _⟩ := DataW.trod_string (cs := [c3]) Tryz.underlying9 (by simpa [cstr] using h3)
        have v3 : q3.size ≤ reachBytes := by
          rw [x3] at w3
          simp only [DataW.weights, List.all_cons, List.all_nil, Bool.and_true, decide_eq_true_eq] at w3
          exact w3
        obtain ⟨q4, e4, x4, _⟩ := DataW.trod_string (cs := [c4]) Tryz.underlying9 (by simpa [cstr] using h4)
        have v4 : q4.size ≤ reachBytes := by
          rw [x4] at w4
          simp only [DataW.weights, List.all_cons, List.all_nil, Bool.and_true, decide_eq_true_eq] at w4
          exact w4
        obtain ⟨q5, e5, _, b5⟩ := DataW.trod_int (cs := [c5]) Tryz.underlying3 (by simpa [cint] using h5)
        have z5 := i64_bounds b5
        obtain ⟨q6, e6, _, b6⟩ := DataW.trod_int (cs := [c6]) Tryz.underlying3 (by simpa [cint] using h6)
        have z6 := i64_bounds b6
        obtain ⟨q7, e7, _, b7⟩ := DataW.trod_int (cs := [c7]) Tryz.underlying3 (by simpa [cint] using h7)
        have z7 := i64_bounds b7
        obtain ⟨q8, e8, _, b8⟩ := DataW.trod_int (cs := [c8]) Tryz.underlying3 (by simpa [cint] using h8)
        have z8 := i64_bounds b8
        obtain ⟨q9, e9, _, b9⟩ := DataW.trod_int (cs := [c9]) Tryz.underlying3 (by simpa [cint] using h9)
        have z9 := i64_bounds b9
        have r10 : ∃ A m cp ks, c10 = .slice A m cp ∧ m ≤ cp ∧ RI W A m ks ∧ m * 8 ≤ reachBytes := by
          rcases open_ints (cs := [c10]) Tryz.underlying39 Tryz.underlying3 cint (by simpa [cints] using h10) with ⟨hcs, _⟩ | ⟨a2, len2, cap2, zs, hcs, _, hl2, hm2, hz2, hx2, hcell, _⟩
          · simp only [List.cons.injEq, and_true] at hcs
            exact ⟨none, 0, 0, [], hcs, Nat.le_refl _, ⟨rfl, fun h => absurd h (Nat.lt_irrefl 0)⟩, Nat.zero_le _⟩
          · simp only [List.cons.injEq, and_true] at hcs
            simp only [if_true] at hz2
            rw [hx2] at w10
            simp only [DataW.weights, Tryz.underlying39, bI, List.all_cons, Bool.and_eq_true, decide_eq_true_eq, lits, List.length_map, List.length_take, List.length_drop] at w10
            refine ⟨some a2, len2, cap2, zs.take len2, hcs, hl2, ⟨by simp; omega, fun hn => ?_⟩, by have := w10.1; omega⟩
            obtain ⟨b, off, rfl, hc'⟩ := ints_at hcell (by omega)
            have hlt : b < W.heap.size := World.block_lt_of_cell? W _ (hc' 0 (by omega))
            refine ⟨b, off, rfl, hlt, fun j x hj => ?_⟩
            have hjl : j < len2 := by
              have := (List.getElem?_eq_some_iff.1 hj).1
              simp at this; omega
            rw [hc' j (by omega)]
            rw [List.getElem?_take_of_lt hjl, List.getElem?_eq_getElem (by omega)] at hj
            have hg : zs.getD j 0 = zs[j]'(by omega) := by rw [List.getD_eq_getElem?_getD, List.getElem?_eq_getElem (by omega)]; rfl
            rw [hg]
            simp only [Option.some.injEq] at hj
            rw [hj]
        obtain ⟨A10, m10, cp10, ks10, e10, g10, i10, v10⟩ := r10
        simp only [List.cons.injEq, and_true] at e0 e1 e2 e3 e4 e5 e6 e7 e8 e9
        subst e0 e1 e2 e3 e4 e5 e6 e7 e8 e9 e10
        refine ⟨⟨q0, q1, q2.data.toList, q3.data.toList, q4, q5, q6, q7, q8, q9, A10, m10, cp10, ks10⟩, fun k u hu => ?_, ⟨Nat.le_trans v4 (by decide), ⟨i10, v10⟩, ⟨z1.1, Int.lt_of_le_of_lt z1.2 (by decide)⟩, ⟨z6.1, Int.lt_of_le_of_lt z6.2 (by decide)⟩, ⟨z7.1, Int.lt_of_le_of_lt z7.2 (by decide)⟩, ⟨z8.1, Int.lt_of_le_of_lt z8.2 (by decide)⟩, z9.1, Int.lt_of_le_of_lt z9.2 (by decide)⟩⟩
        have hk : k < 11 := (Array.getElem?_eq_some_iff.1 hu).1
        have q := hat k (by simpa using hk)
        rw [Go.Deep.add_add] at q
        rw [q]
        match k, hk, hu with
        | 0, _, hu => exact hu
        | 1, _, hu => exact hu
        | 2, _, hu => exact hu
        | 3, _, hu => exact hu
        | 4, _, hu => exact hu
        | 5, _, hu => exact hu
        | 6, _, hu => exact hu
        | 7, _, hu => exact hu
        | 8, _, hu => exact hu
        | 9, _, hu => exact hu
        | 10, _, hu => exact hu
    have : Inhabited OpP := ⟨⟨0, 0, [], [], ByteArray.empty, 0, 0, 0, 0, 0, none, 0, 0, []⟩⟩
    obtain ⟨F, hF⟩ := choose_lt each
    refine ⟨_, _, _, (List.range len).map F, rfl, hl, hm, ⟨by simp, fun x hxm => ?_, fun hp => ?_⟩⟩
    · obtain ⟨j, hj, rfl⟩ := List.mem_map.1 hxm
      have hj' : j < len := by simpa using hj
      exact (hF j hj').2
    · obtain ⟨b, off, spot⟩ := a'
      have h0 := (hF 0 hp).1 0 _ rfl
      have hspot : spot = none := by simpa [Addr.add] using World.cell?_spot h0
      subst hspot
      have hadd : ∀ j, (⟨b, off, none⟩ : Addr).add j = ⟨b, off + j, none⟩ := fun j => by
        unfold Addr.add
        by_cases h : j = 0
        · subst h; simp
        · simp [h]
      have hlt : b < W.heap.size := by
        have := World.block_lt_of_cell? W _ h0
        rwa [hadd] at this
      refine ⟨b, off, rfl, hlt, fun j x hj k u hu => ?_⟩
      have hjl : j < len := by
        have := (List.getElem?_eq_some_iff.1 hj).1
        simpa using this
      rw [List.getElem?_map, List.getElem?_range hjl] at hj
      simp only [Option.map_some, Option.some.injEq] at hj
      subst hj
      have q := (hF j hjl).1 k u hu
      rw [hadd] at q
      rw [Nat.add_assoc]
      exact q
end
end Go.Proofs.YtlojmmcagglpoaaGreat
namespace Go.Proofs.YtlojmmcagglpoaaGreat.lawSimfsPlays
open Go.ChangeShapes Go.WideShapes Go.ChangeAt Go.RowKit
theorem own : ownKnob Tryz.prog.godebug = none := by kernel_rfl
theorem laidOut : laidOutB Tryz.prog = true := by kernel_rfl
theorem readable : ∀ t ∈ Tryz.f3.params.toList, Tryz.prog.readableRec t = true ∧ t < Tryz.prog.types.size := by
  rw [Tryz.params3]
  intro t ht
  simp only [List.mem_cons, List.not_mem_nil, or_false] at ht
  rcases ht with rfl <;> exact ⟨by kernel_rfl, of_decide_eq_true (by kernel_rfl)⟩
theorem specs {H : Type} (ds : List (DataW H)) (h : ds.length = Tryz.f3.params.size) : (Rows.simfsPlaysSpec.fn H (ds ++ [])).results = [.lit (.bool true)] ∧ (Rows.simfsPlaysSpec.fn H (ds ++ [])).args = ds ∧ (Rows.simfsPlaysSpec.fn H (ds ++ [])).vars = [] := by
  rw [Tryz.params3] at h
  match ds, h with
  | [d0], _ => exact ⟨rfl, rfl, rfl⟩
set_option maxRecDepth 100000 in
theorem contract (H : Type) (enc : TypeId × Value → H) (W : World) (base : Nat) (args : Array Value) (ds gs : List (DataW H)) (before : List MemPlace)
    (hval : ∀ (j : Nat) t v, Tryz.f3.params[j]? = some t → args[j]? = some v → Value.okWide Tryz.prog W .any base t v)
    (hW : DataW.Whole enc Tryz.prog Tryz.f3.params.toList Rows.simfsPlaysSpec.vars false W args.toList ds gs before)
    (hz : (DataW.weightsEach Tryz.prog (Tryz.f3.params.toList ++ []) (ds ++ gs)).all (· ≤ reachBytes) = true)
    (_hL : laidMetH Tryz.prog Rows.simfsPlaysRow.laid W) :
    Calls Tryz.prog 3 args W fun e W' => ∃ v, e = .returned v ∧ Rows.simfsPlaysSpec.post enc Tryz.prog Tryz.f3 false true false false W args v W' := by
  have hW' := hW
  obtain ⟨p, q, hA0, hV, rfl, hfz, hnd⟩ := hW
  have hA : DataW.TrodAll enc Tryz.prog W 0 (fun _ => true) true Tryz.f3.params.toList args.toList ds p := hA0
  rw [Tryz.params3] at hA hval hz
  obtain ⟨v0, vs0, d0, ds0, p0, q0, hargs, rfl, rfl, h0, r0⟩ := trodAll_cons hA
  obtain ⟨rfl, rfl, rfl⟩ := trodAll_nil r0
  obtain rfl : args = #[v0] := by cases args; simp_all
  obtain ⟨rfl, rfl⟩ := trodVars_none hV
  clear hA0
  simp only [List.append_nil] at hz
  obtain ⟨wt0, hz0⟩ := weights_cons hz
  obtain ⟨A0, n0, cap0, l0, rfl, hc0, hm0, hr0⟩ := open_plays14 (hval 0 22 v0 rfl rfl) h0 wt0
  have walked := plays_any A0 n0 cap0 l0 W hr0 hc0 hm0
  refine walked.mono fun e W' ⟨he, hb⟩ => ?_
  subst he
  exact ⟨_, rfl, lawPost laidOut readable rfl Tryz.underlying4 rfl specs hW' hb⟩
noncomputable def laidWorld (os : Os) : World := World.holding Tryz.prog os ⟨#[], #[], []⟩
theorem laid_met (os : Os) : laidMet Tryz.prog Rows.simfsPlaysRow.laid ((laidWorld os).forCall (fun _ _ => 0) ⟨#[], #[.slice none 0 0], []⟩).memory :=
  laidMet_of_run' 8 (by kernel_rfl) (by kernel_rfl)
theorem reads (os : Os) {H : Type} (enc : TypeId × Value → H) : ∃ places, DataW.whole enc Tryz.prog ((laidWorld os).forCall (fun _ _ => 0) ⟨#[], #[.slice none 0 0], []⟩).memory Tryz.f3.params.toList Rows.simfsPlaysSpec.vars false (#[.slice none 0 0] : Array Value).toList 8 = some ([.nil], [], places) :=
  ⟨[], by kernel_rfl⟩
set_option maxRecDepth 100000 in
theorem lifted (os : Os) (started : os.Started) (H : Type) (enc : TypeId × Value → H) (F : Stop.Interp) :
    ReturnsInHanded {} Tryz.checked os 3 .any ((OpenSpec.ofChange Rows.simfsPlaysSpec).preRow enc Tryz.prog Tryz.f3 Rows.simfsPlaysRow.domain false Rows.simfsPlaysRow.laid) (((OpenSpec.ofChange Rows.simfsPlaysSpec).at F).post enc Tryz.prog Tryz.f3 false true false false) := by
  obtain ⟨places, hx⟩ := reads os enc
  refine returnsInHanded_of_row (C := Tryz.checked) (s := (OpenSpec.ofChange Rows.simfsPlaysSpec)) own started (by kernel_rfl) Tryz.func3
    (witness_row_at (enc := enc) (C := Tryz.checked) false (laidWorld os) #[.slice none 0 0] rfl (by kernel_rfl) (by kernel_rfl) (by kernel_rfl)
      (OpenSpec.preRow_of_cond 8 hx (by kernel_rfl) (fun k hk => by cases hk) (by kernel_rfl) (laid_met os))) ?_
  intro W base args ds gs before hval hW _ _ hz hL _ _
  exact contract H enc W base args ds gs before hval hW hz hL
theorem said : Rows.SimfsPlaysSaid :=
  OpenClaim.holds_of_cond 3 Tryz.f3 rfl rfl rfl rfl rfl rfl rfl ⟨rfl, rfl, rfl, rfl, rfl⟩ rfl rfl rfl rfl rfl (by kernel_rfl) Tryz.func3 (by kernel_rfl)
    (of_decide_eq_true (by kernel_rfl)) (by unfold Func.isWrapper; first | (rw [if_pos (by decide +kernel)]; kernel_rfl) | (rw [if_neg (by decide +kernel)]; exact ⟨rfl, rfl⟩))
    (fun os started H enc _ F => by rw [OpenClaim.pre_eq_preRow]; exact lifted os started H enc F)
end Go.Proofs.YtlojmmcagglpoaaGreat.lawSimfsPlays
