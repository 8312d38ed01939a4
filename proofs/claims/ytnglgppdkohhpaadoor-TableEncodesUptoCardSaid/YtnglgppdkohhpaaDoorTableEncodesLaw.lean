/- TableEncodes: for every input of bulk at most 1048576 the law returns true and its arguments read as before. Conditions: what is read is of bulk at most 1048576; the listed package variables start as the text lays them (tied by the card). -/
import Derived.Test.YtnglgppdkohhpaaDoorLaw
import Derived.Test.YtnglgppdkohhpaaDoorTbEncodes
import Derived.Test.YtnglgppdkohhpaaDoorTbOpenB
import Derived.Test.YtnglgppdkohhpaaDoorCrcTabLaid
import Derived.Test.YtnglgppdkohhpaaDoorCards
import Derived.Test.YtnglgppdkohhpaaDoorTie
namespace Go.Proofs.YtnglgppdkohhpaaDoor.lawTableEncodes
open Go.ChangeShapes Go.WideShapes Go.ChangeAt Go.RowKit
theorem own : ownKnob Tryd.prog.godebug = none := by kernel_rfl
theorem laidOut : laidOutB Tryd.prog = true := by kernel_rfl
theorem readable : ∀ t ∈ Tryd.f3.params.toList, Tryd.prog.readableRec t = true ∧ t < Tryd.prog.types.size := by
  rw [Tryd.params3]
  intro t ht
  simp only [List.mem_cons, List.not_mem_nil, or_false] at ht
  rcases ht with rfl <;> exact ⟨by kernel_rfl, of_decide_eq_true (by kernel_rfl)⟩
theorem specs {H : Type} (ds : List (DataW H)) (h : ds.length = Tryd.f3.params.size) : (Rows.tableEncodesSpec.fn H (ds ++ [])).results = [.lit (.bool true)] ∧ (Rows.tableEncodesSpec.fn H (ds ++ [])).args = ds ∧ (Rows.tableEncodesSpec.fn H (ds ++ [])).vars = [] := by
  rw [Tryd.params3] at h
  match ds, h with
  | [d0], _ => exact ⟨rfl, rfl, rfl⟩
theorem g_half : Tryd.prog.globalNamed "heron/crc.half" = some 0 := by kernel_rfl
theorem gt_half : (Tryd.prog.globals[0]?).map (·.type) = some 72 := by kernel_rfl
theorem gc_half : Tryd.prog.cellsOf 72 = 16 := by kernel_rfl
theorem ge_half : Tryd.prog.cellsOf 34 = 1 := by kernel_rfl
theorem tab_half {W : World} (h : laidMetH Tryd.prog Rows.tableEncodesUptoRow.laid W) : Lib.TabIs Tryd.prog W "heron/crc.half" .u32 [0, 498536548, 997073096, 651767980, 1994146192, 1802195444, 1303535960, 1342533948, 3988292384, 4027552580, 3604390888, 3412177804, 2607071920, 2262029012, 2685067896, 3183342108] :=
  Lib.tabIs_of_head (rest := []) g_half gt_half Tryd.underlying72 Tryd.underlying34 ge_half gc_half h
theorem contract (H : Type) (enc : TypeId × Value → H) (W : World) (base : Nat) (args : Array Value) (ds gs : List (DataW H)) (before : List MemPlace)
    (hval : ∀ (j : Nat) t v, Tryd.f3.params[j]? = some t → args[j]? = some v → Value.okWide Tryd.prog W .any base t v)
    (hW : DataW.Whole enc Tryd.prog Tryd.f3.params.toList Rows.tableEncodesSpec.vars false W args.toList ds gs before)
    (hk : Rows.uptoSmall H (ds ++ gs) = true)
    (hL : laidMetH Tryd.prog Rows.tableEncodesUptoRow.laid W) :
    Calls Tryd.prog 3 args W fun e W' => ∃ v, e = .returned v ∧ Rows.tableEncodesSpec.post enc Tryd.prog Tryd.f3 false true false false W args v W' := by
  have hW' := hW
  obtain ⟨p, q, hA0, hV, rfl, hfz, hnd⟩ := hW
  have hA : DataW.TrodAll enc Tryd.prog W 0 (fun _ => true) true Tryd.f3.params.toList args.toList ds p := hA0
  rw [Tryd.params3] at hA hval
  obtain ⟨v0, vs0, d0, ds0, p0, q0, hargs, rfl, rfl, h0, r0⟩ := trodAll_cons hA
  obtain ⟨rfl, rfl, rfl⟩ := trodAll_nil r0
  obtain rfl : args = #[v0] := by cases args; simp_all
  obtain ⟨rfl, rfl⟩ := trodVars_none hV
  clear hA0
  have hbulk := bulk_bound hk
  simp only [List.append_nil, Rows.uptoBulkAll] at hbulk
  obtain ⟨cs0, t0, rfl, hr0, hk1, hk2, hk3, hk4⟩ := open_table_b (hval 0 26 v0 rfl rfl) h0
  have walked := tencodes_any cs0 t0 W (CrcTab.of_laid (fun k hk => (tab_half hL).cell g_half k hk)) hr0 ⟨by omega, by omega, by omega, fun l hl => by have := hk4 l hl; omega⟩
  refine walked.mono fun e W' ⟨he, hb⟩ => ?_
  subst he
  exact ⟨_, rfl, lawPost laidOut readable rfl Tryd.underlying4 rfl specs hW' hb⟩
noncomputable def laidWorld (os : Os) : World :=
  { World.holding Tryd.prog os ⟨#[], #[], []⟩ with heap := (World.holding Tryd.prog os ⟨#[], #[], []⟩).heap.modify 0 fun
      | .cells _ t frozen => .cells #[.int .u32 0, .int .u32 498536548, .int .u32 997073096, .int .u32 651767980, .int .u32 1994146192, .int .u32 1802195444, .int .u32 1303535960, .int .u32 1342533948, .int .u32 3988292384, .int .u32 4027552580, .int .u32 3604390888, .int .u32 3412177804, .int .u32 2607071920, .int .u32 2262029012, .int .u32 2685067896, .int .u32 3183342108] t frozen
      | o => o }
theorem laid_met (os : Os) : laidMet Tryd.prog Rows.tableEncodesUptoRow.laid ((laidWorld os).forCall (fun _ _ => 0) ⟨#[], #[.agg (dcells zcls nilV nilV nilV)], []⟩).memory :=
  laidMet_of_run' 8 (by kernel_rfl) (by kernel_rfl)
theorem reads (os : Os) {H : Type} (enc : TypeId × Value → H) : ∃ places, DataW.whole enc Tryd.prog ((laidWorld os).forCall (fun _ _ => 0) ⟨#[], #[.agg (dcells zcls nilV nilV nilV)], []⟩).memory Tryd.f3.params.toList Rows.tableEncodesSpec.vars false (#[.agg (dcells zcls nilV nilV nilV)] : Array Value).toList 8 = some ([.agg [.agg (List.replicate 256 (.lit (.int .i64 0))), .nil, .nil, .nil]], [], places) :=
  ⟨[], by kernel_rfl⟩
set_option maxRecDepth 100000 in
theorem lifted (os : Os) (started : os.Started) (H : Type) (enc : TypeId × Value → H) (F : Stop.Interp) :
    ReturnsInHanded {} Tryd.checked os 3 .any ((Rows.OpenSpec.upto Rows.tableEncodesSpec).preRow enc Tryd.prog Tryd.f3 Rows.tableEncodesUptoRow.domain false Rows.tableEncodesUptoRow.laid) (((Rows.OpenSpec.upto Rows.tableEncodesSpec).at F).post enc Tryd.prog Tryd.f3 false true false false) := by
  obtain ⟨places, hx⟩ := reads os enc
  refine returnsInHanded_of_row (C := Tryd.checked) (s := (Rows.OpenSpec.upto Rows.tableEncodesSpec)) own started (by kernel_rfl) Tryd.func3
    (witness_row_at (enc := enc) (C := Tryd.checked) false (laidWorld os) #[.agg (dcells zcls nilV nilV nilV)] rfl (by kernel_rfl) (by kernel_rfl) (by kernel_rfl)
      (OpenSpec.preRow_of_cond 8 hx (by kernel_rfl) (fun k hk => by cases hk; kernel_rfl) (by kernel_rfl) (laid_met os))) ?_
  intro W base args ds gs before hval hW _ hk _ hL _ _
  exact contract H enc W base args ds gs before hval hW (hk _ rfl) hL
theorem said : Rows.TableEncodesUptoSaid :=
  OpenClaim.holds_of_cond 3 Tryd.f3 rfl rfl rfl rfl rfl rfl rfl ⟨rfl, rfl, rfl, rfl, rfl⟩ rfl rfl rfl rfl rfl (by kernel_rfl) Tryd.func3 (by kernel_rfl)
    (of_decide_eq_true (by kernel_rfl)) (by unfold Func.isWrapper; first | (rw [if_pos (by decide +kernel)]; kernel_rfl) | (rw [if_neg (by decide +kernel)]; exact ⟨rfl, rfl⟩))
    (fun os started H enc _ F => by rw [OpenClaim.pre_eq_preRow]; exact lifted os started H enc F)
theorem plain (f : FuncId) (fn : Func) (hf : Tryd.pinned.checked.prog.funcNamed "heron/heronlaw12.TableEncodes" = some f) (hfn : Tryd.pinned.checked.prog.funcs[f]? = some fn) :
    false = Tryd.pinned.checked.prog.looks [] ∧ ∀ (j : Nat) t, fn.params[j]? = some t → Tryd.pinned.checked.prog.wantsStandIn t = false := by
  obtain rfl : f = 3 := Option.some.inj ((show Tryd.prog.funcNamed "heron/heronlaw12.TableEncodes" = some 3 by kernel_rfl).symm.trans hf) |>.symm
  obtain rfl : fn = Tryd.f3 := (Option.some.inj (Tryd.func3.symm.trans hfn)).symm
  refine ⟨by kernel_rfl, fun j t ht => ?_⟩
  rw [Tryd.params3] at ht
  have hm := Array.mem_of_getElem? ht
  simp only [List.mem_toArray, List.mem_cons, List.not_mem_nil, or_false] at hm
  rcases hm with rfl
  · exact (show Tryd.prog.wantsStandIn 26 = false by kernel_rfl)
theorem card : Rows.TableEncodesUptoCardSaid :=
  Claim7.holds_tied_plain_at .later [] _ _ _ _ said (fun _ h => by cases h) (by kernel_rfl) (fun _ h => by cases h) tableEncodesUpto_row_tie rfl ⟨rfl, rfl⟩ (by kernel_rfl) rfl plain (by kernel_rfl)
end Go.Proofs.YtnglgppdkohhpaaDoor.lawTableEncodes
