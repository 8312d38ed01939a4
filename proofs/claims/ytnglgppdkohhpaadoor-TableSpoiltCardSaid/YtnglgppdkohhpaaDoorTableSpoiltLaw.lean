/- TableSpoilt: for every input the law returns true and its arguments read as before. Conditions: the listed package variables start as the text lays them (tied by the card). -/
import Derived.Test.YtnglgppdkohhpaaDoorLaw
import Derived.Test.YtnglgppdkohhpaaDoorTbSpoilt
import Derived.Test.YtnglgppdkohhpaaDoorTbOpen
import Derived.Test.YtnglgppdkohhpaaDoorCrcTabLaid
import Derived.Test.YtnglgppdkohhpaaDoorCards
import Derived.Test.YtnglgppdkohhpaaDoorTie
namespace Go.Proofs.YtnglgppdkohhpaaDoor.lawTableSpoilt
open Go.ChangeShapes Go.WideShapes Go.ChangeAt Go.RowKit
theorem own : ownKnob Tryd.prog.godebug = none := by kernel_rfl
theorem laidOut : laidOutB Tryd.prog = true := by kernel_rfl
theorem readable : ∀ t ∈ Tryd.f5.params.toList, Tryd.prog.readableRec t = true ∧ t < Tryd.prog.types.size := by
  rw [Tryd.params5]
  intro t ht
  simp only [List.mem_cons, List.not_mem_nil, or_false] at ht
  rcases ht with rfl | rfl | rfl | rfl | rfl <;> exact ⟨by kernel_rfl, of_decide_eq_true (by kernel_rfl)⟩
theorem specs {H : Type} (ds : List (DataW H)) (h : ds.length = Tryd.f5.params.size) : (Rows.tableSpoiltSpec.fn H (ds ++ [])).results = [.lit (.bool true)] ∧ (Rows.tableSpoiltSpec.fn H (ds ++ [])).args = ds ∧ (Rows.tableSpoiltSpec.fn H (ds ++ [])).vars = [] := by
  rw [Tryd.params5] at h
  match ds, h with
  | [d0, d1, d2, d3, d4], _ => exact ⟨rfl, rfl, rfl⟩
theorem g_half : Tryd.prog.globalNamed "heron/crc.half" = some 0 := by kernel_rfl
theorem gt_half : (Tryd.prog.globals[0]?).map (·.type) = some 72 := by kernel_rfl
theorem gc_half : Tryd.prog.cellsOf 72 = 16 := by kernel_rfl
theorem ge_half : Tryd.prog.cellsOf 34 = 1 := by kernel_rfl
theorem tab_half {W : World} (h : laidMetH Tryd.prog Rows.tableSpoiltRow.laid W) : Lib.TabIs Tryd.prog W "heron/crc.half" .u32 [0, 498536548, 997073096, 651767980, 1994146192, 1802195444, 1303535960, 1342533948, 3988292384, 4027552580, 3604390888, 3412177804, 2607071920, 2262029012, 2685067896, 3183342108] :=
  Lib.tabIs_of_head (rest := []) g_half gt_half Tryd.underlying72 Tryd.underlying34 ge_half gc_half h
theorem contract (H : Type) (enc : TypeId × Value → H) (W : World) (base : Nat) (args : Array Value) (ds gs : List (DataW H)) (before : List MemPlace)
    (hval : ∀ (j : Nat) t v, Tryd.f5.params[j]? = some t → args[j]? = some v → Value.okWide Tryd.prog W .any base t v)
    (hW : DataW.Whole enc Tryd.prog Tryd.f5.params.toList Rows.tableSpoiltSpec.vars false W args.toList ds gs before)
    (hz : (DataW.weightsEach Tryd.prog (Tryd.f5.params.toList ++ []) (ds ++ gs)).all (· ≤ reachBytes) = true)
    (hL : laidMetH Tryd.prog Rows.tableSpoiltRow.laid W) :
    Calls Tryd.prog 5 args W fun e W' => ∃ v, e = .returned v ∧ Rows.tableSpoiltSpec.post enc Tryd.prog Tryd.f5 false true false false W args v W' := by
  have hW' := hW
  obtain ⟨p, q, hA0, hV, rfl, hfz, hnd⟩ := hW
  have hA : DataW.TrodAll enc Tryd.prog W 0 (fun _ => true) true Tryd.f5.params.toList args.toList ds p := hA0
  rw [Tryd.params5] at hA hval hz
  obtain ⟨v0, vs0, d0, ds0, p0, q0, hargs, rfl, rfl, h0, r0⟩ := trodAll_cons hA
  obtain ⟨v1, vs1, d1, ds1, p1, q1, rfl, rfl, rfl, h1, r1⟩ := trodAll_cons r0
  obtain ⟨v2, vs2, d2, ds2, p2, q2, rfl, rfl, rfl, h2, r2⟩ := trodAll_cons r1
  obtain ⟨v3, vs3, d3, ds3, p3, q3, rfl, rfl, rfl, h3, r3⟩ := trodAll_cons r2
  obtain ⟨v4, vs4, d4, ds4, p4, q4, rfl, rfl, rfl, h4, r4⟩ := trodAll_cons r3
  obtain ⟨rfl, rfl, rfl⟩ := trodAll_nil r4
  obtain rfl : args = #[v0, v1, v2, v3, v4] := by cases args; simp_all
  obtain ⟨rfl, rfl⟩ := trodVars_none hV
  clear hA0
  simp only [List.append_nil] at hz
  obtain ⟨wt0, hz0⟩ := weights_cons hz
  obtain ⟨wt1, hz1⟩ := weights_cons hz0
  obtain ⟨wt2, hz2⟩ := weights_cons hz1
  obtain ⟨wt3, hz3⟩ := weights_cons hz2
  obtain ⟨wt4, hz4⟩ := weights_cons hz3
  obtain ⟨cs0, t0, rfl, hr0⟩ := open_table (hval 0 26 v0 rfl rfl) h0
  obtain ⟨x1, rfl, rfl, rfl, w1⟩ := open_int Tryd.underlying3 (hval 1 3 v1 rfl rfl) h1
  have hx1 := i64_bounds w1
  obtain ⟨x2, rfl, rfl, rfl, w2⟩ := open_int Tryd.underlying34 (hval 2 34 v2 rfl rfl) h2
  have hx2 := u32_bounds w2
  obtain ⟨x3, rfl, rfl, rfl, w3⟩ := open_int Tryd.underlying3 (hval 3 3 v3 rfl rfl) h3
  have hx3 := i64_bounds w3
  obtain ⟨A4, n4, cap4, l4, rfl, hc4, hm4, hr4, hw4, hb4⟩ := open_bytes Tryd.underlying28 Tryd.underlying5 (by kernel_rfl) (hval 4 28 v4 rfl rfl) h4
  have hl4 : cap4 ≤ 140737488351232 := by have := hw4 _ wt4; rw [show Tryd.prog.bytesOf 5 = 1 from by kernel_rfl] at this; simp only [reachBytes] at this; omega
  obtain ⟨s, rfl⟩ := Int.eq_ofNat_of_zero_le hx2.1
  have walked := spoilt_any cs0 t0 A4 n4 cap4 l4 x1 x3 s W (CrcTab.of_laid (fun k hk => (tab_half hL).cell g_half k hk)) hr0 hr4 (by omega) (by omega)
  refine walked.mono fun e W' ⟨he, hb⟩ => ?_
  subst he
  exact ⟨_, rfl, lawPost laidOut readable rfl Tryd.underlying4 rfl specs hW' hb⟩
noncomputable def laidWorld (os : Os) : World :=
  { World.holding Tryd.prog os ⟨#[], #[], []⟩ with heap := (World.holding Tryd.prog os ⟨#[], #[], []⟩).heap.modify 0 fun
      | .cells _ t frozen => .cells #[.int .u32 0, .int .u32 498536548, .int .u32 997073096, .int .u32 651767980, .int .u32 1994146192, .int .u32 1802195444, .int .u32 1303535960, .int .u32 1342533948, .int .u32 3988292384, .int .u32 4027552580, .int .u32 3604390888, .int .u32 3412177804, .int .u32 2607071920, .int .u32 2262029012, .int .u32 2685067896, .int .u32 3183342108] t frozen
      | o => o }
theorem laid_met (os : Os) : laidMet Tryd.prog Rows.tableSpoiltRow.laid ((laidWorld os).forCall (fun _ _ => 0) ⟨#[], #[.agg (dcells zcls nilV nilV nilV), .int .i64 0, .int .u32 0, .int .i64 0, .slice none 0 0], []⟩).memory :=
  laidMet_of_run' 8 (by kernel_rfl) (by kernel_rfl)
theorem reads (os : Os) {H : Type} (enc : TypeId × Value → H) : ∃ places, DataW.whole enc Tryd.prog ((laidWorld os).forCall (fun _ _ => 0) ⟨#[], #[.agg (dcells zcls nilV nilV nilV), .int .i64 0, .int .u32 0, .int .i64 0, .slice none 0 0], []⟩).memory Tryd.f5.params.toList Rows.tableSpoiltSpec.vars false (#[.agg (dcells zcls nilV nilV nilV), .int .i64 0, .int .u32 0, .int .i64 0, .slice none 0 0] : Array Value).toList 8 = some ([.agg [.agg (List.replicate 256 (.lit (.int .i64 0))), .nil, .nil, .nil], .lit (.int .i64 0), .lit (.int .u32 0), .lit (.int .i64 0), .nil], [], places) :=
  ⟨[], by kernel_rfl⟩
set_option maxRecDepth 100000 in
theorem lifted (os : Os) (started : os.Started) (H : Type) (enc : TypeId × Value → H) (F : Stop.Interp) :
    ReturnsInHanded {} Tryd.checked os 5 .any ((OpenSpec.ofChange Rows.tableSpoiltSpec).preRow enc Tryd.prog Tryd.f5 Rows.tableSpoiltRow.domain false Rows.tableSpoiltRow.laid) (((OpenSpec.ofChange Rows.tableSpoiltSpec).at F).post enc Tryd.prog Tryd.f5 false true false false) := by
  obtain ⟨places, hx⟩ := reads os enc
  refine returnsInHanded_of_row (C := Tryd.checked) (s := (OpenSpec.ofChange Rows.tableSpoiltSpec)) own started (by kernel_rfl) Tryd.func5
    (witness_row_at (enc := enc) (C := Tryd.checked) false (laidWorld os) #[.agg (dcells zcls nilV nilV nilV), .int .i64 0, .int .u32 0, .int .i64 0, .slice none 0 0] rfl (by kernel_rfl) (by kernel_rfl) (by kernel_rfl)
      (OpenSpec.preRow_of_cond 8 hx (by kernel_rfl) (fun k hk => by cases hk) (by kernel_rfl) (laid_met os))) ?_
  intro W base args ds gs before hval hW _ _ hz hL _ _
  exact contract H enc W base args ds gs before hval hW hz hL
theorem said : Rows.TableSpoiltSaid :=
  OpenClaim.holds_of_cond 5 Tryd.f5 rfl rfl rfl rfl rfl rfl rfl ⟨rfl, rfl, rfl, rfl, rfl⟩ rfl rfl rfl rfl rfl (by kernel_rfl) Tryd.func5 (by kernel_rfl)
    (of_decide_eq_true (by kernel_rfl)) (by unfold Func.isWrapper; first | (rw [if_pos (by decide +kernel)]; kernel_rfl) | (rw [if_neg (by decide +kernel)]; exact ⟨rfl, rfl⟩))
    (fun os started H enc _ F => by rw [OpenClaim.pre_eq_preRow]; exact lifted os started H enc F)
theorem plain (f : FuncId) (fn : Func) (hf : Tryd.pinned.checked.prog.funcNamed "heron/heronlaw12.TableSpoilt" = some f) (hfn : Tryd.pinned.checked.prog.funcs[f]? = some fn) :
    false = Tryd.pinned.checked.prog.looks [] ∧ ∀ (j : Nat) t, fn.params[j]? = some t → Tryd.pinned.checked.prog.wantsStandIn t = false := by
  obtain rfl : f = 5 := Option.some.inj ((show Tryd.prog.funcNamed "heron/heronlaw12.TableSpoilt" = some 5 by kernel_rfl).symm.trans hf) |>.symm
  obtain rfl : fn = Tryd.f5 := (Option.some.inj (Tryd.func5.symm.trans hfn)).symm
  refine ⟨by kernel_rfl, fun j t ht => ?_⟩
  rw [Tryd.params5] at ht
  have hm := Array.mem_of_getElem? ht
  simp only [List.mem_toArray, List.mem_cons, List.not_mem_nil, or_false] at hm
  rcases hm with rfl | rfl | rfl | rfl | rfl
  · exact (show Tryd.prog.wantsStandIn 26 = false by kernel_rfl)
  · exact (show Tryd.prog.wantsStandIn 3 = false by kernel_rfl)
  · exact (show Tryd.prog.wantsStandIn 34 = false by kernel_rfl)
  · exact (show Tryd.prog.wantsStandIn 3 = false by kernel_rfl)
  · exact (show Tryd.prog.wantsStandIn 28 = false by kernel_rfl)
theorem card : Rows.TableSpoiltCardSaid :=
  Claim7.holds_tied_plain_at .later [] _ _ _ _ said (fun _ h => by cases h) (by kernel_rfl) (fun _ h => by cases h) tableSpoilt_row_tie rfl ⟨rfl, rfl⟩ (by kernel_rfl) rfl plain (by kernel_rfl)
end Go.Proofs.YtnglgppdkohhpaaDoor.lawTableSpoilt
