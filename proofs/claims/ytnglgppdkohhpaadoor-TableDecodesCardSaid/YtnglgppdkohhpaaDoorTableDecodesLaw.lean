/- TableDecodes: for every input the law returns true and its arguments read as before. Conditions: the listed package variables start as the text lays them (tied by the card). -/
import Derived.Test.YtnglgppdkohhpaaDoorLaw
import Derived.Test.YtnglgppdkohhpaaDoorTbDecodes
import Derived.Test.YtnglgppdkohhpaaDoorCrcTabLaid
import Derived.Test.YtnglgppdkohhpaaDoorCards
import Derived.Test.YtnglgppdkohhpaaDoorTie
namespace Go.Proofs.YtnglgppdkohhpaaDoor.lawTableDecodes
open Go.ChangeShapes Go.WideShapes Go.ChangeAt Go.RowKit
theorem own : ownKnob Tryd.prog.godebug = none := by kernel_rfl
theorem laidOut : laidOutB Tryd.prog = true := by kernel_rfl
theorem readable : ∀ t ∈ Tryd.f4.params.toList, Tryd.prog.readableRec t = true ∧ t < Tryd.prog.types.size := by
  rw [Tryd.params4]
  intro t ht
  simp only [List.mem_cons, List.not_mem_nil, or_false] at ht
  rcases ht with rfl <;> exact ⟨by kernel_rfl, of_decide_eq_true (by kernel_rfl)⟩
theorem specs {H : Type} (ds : List (DataW H)) (h : ds.length = Tryd.f4.params.size) : (Rows.tableDecodesSpec.fn H (ds ++ [])).results = [.lit (.bool true)] ∧ (Rows.tableDecodesSpec.fn H (ds ++ [])).args = ds ∧ (Rows.tableDecodesSpec.fn H (ds ++ [])).vars = [] := by
  rw [Tryd.params4] at h
  match ds, h with
  | [d0], _ => exact ⟨rfl, rfl, rfl⟩
theorem g_half : Tryd.prog.globalNamed "heron/crc.half" = some 0 := by kernel_rfl
theorem gt_half : (Tryd.prog.globals[0]?).map (·.type) = some 72 := by kernel_rfl
theorem gc_half : Tryd.prog.cellsOf 72 = 16 := by kernel_rfl
theorem ge_half : Tryd.prog.cellsOf 34 = 1 := by kernel_rfl
theorem tab_half {W : World} (h : laidMetH Tryd.prog Rows.tableDecodesRow.laid W) : Lib.TabIs Tryd.prog W "heron/crc.half" .u32 [0, 498536548, 997073096, 651767980, 1994146192, 1802195444, 1303535960, 1342533948, 3988292384, 4027552580, 3604390888, 3412177804, 2607071920, 2262029012, 2685067896, 3183342108] :=
  Lib.tabIs_of_head (rest := []) g_half gt_half Tryd.underlying72 Tryd.underlying34 ge_half gc_half h
theorem contract (H : Type) (enc : TypeId × Value → H) (W : World) (base : Nat) (args : Array Value) (ds gs : List (DataW H)) (before : List MemPlace)
    (hval : ∀ (j : Nat) t v, Tryd.f4.params[j]? = some t → args[j]? = some v → Value.okWide Tryd.prog W .any base t v)
    (hW : DataW.Whole enc Tryd.prog Tryd.f4.params.toList Rows.tableDecodesSpec.vars false W args.toList ds gs before)
    (hz : (DataW.weightsEach Tryd.prog (Tryd.f4.params.toList ++ []) (ds ++ gs)).all (· ≤ reachBytes) = true)
    (hL : laidMetH Tryd.prog Rows.tableDecodesRow.laid W) :
    Calls Tryd.prog 4 args W fun e W' => ∃ v, e = .returned v ∧ Rows.tableDecodesSpec.post enc Tryd.prog Tryd.f4 false true false false W args v W' := by
  have hW' := hW
  obtain ⟨p, q, hA0, hV, rfl, hfz, hnd⟩ := hW
  have hA : DataW.TrodAll enc Tryd.prog W 0 (fun _ => true) true Tryd.f4.params.toList args.toList ds p := hA0
  rw [Tryd.params4] at hA hval hz
  obtain ⟨v0, vs0, d0, ds0, p0, q0, hargs, rfl, rfl, h0, r0⟩ := trodAll_cons hA
  obtain ⟨rfl, rfl, rfl⟩ := trodAll_nil r0
  obtain rfl : args = #[v0] := by cases args; simp_all
  obtain ⟨rfl, rfl⟩ := trodVars_none hV
  clear hA0
  simp only [List.append_nil] at hz
  obtain ⟨wt0, hz0⟩ := weights_cons hz
  obtain ⟨A0, n0, cap0, l0, rfl, hc0, hm0, hr0, hw0, hb0⟩ := open_bytes Tryd.underlying28 Tryd.underlying5 (by kernel_rfl) (hval 0 28 v0 rfl rfl) h0
  have hl0 : cap0 ≤ 140737488351232 := by have := hw0 _ wt0; rw [show Tryd.prog.bytesOf 5 = 1 from by kernel_rfl] at this; simp only [reachBytes] at this; omega
  have walked := tdecodes_any A0 n0 cap0 l0 W (CrcTab.of_laid (fun k hk => (tab_half hL).cell g_half k hk)) hr0 hc0 (by omega)
  refine walked.mono fun e W' ⟨he, hb⟩ => ?_
  subst he
  exact ⟨_, rfl, lawPost laidOut readable rfl Tryd.underlying4 rfl specs hW' hb⟩
noncomputable def laidWorld (os : Os) : World :=
  { World.holding Tryd.prog os ⟨#[], #[], []⟩ with heap := (World.holding Tryd.prog os ⟨#[], #[], []⟩).heap.modify 0 fun
      | .cells _ t frozen => .cells #[.int .u32 0, .int .u32 498536548, .int .u32 997073096, .int .u32 651767980, .int .u32 1994146192, .int .u32 1802195444, .int .u32 1303535960, .int .u32 1342533948, .int .u32 3988292384, .int .u32 4027552580, .int .u32 3604390888, .int .u32 3412177804, .int .u32 2607071920, .int .u32 2262029012, .int .u32 2685067896, .int .u32 3183342108] t frozen
      | o => o }
theorem laid_met (os : Os) : laidMet Tryd.prog Rows.tableDecodesRow.laid ((laidWorld os).forCall (fun _ _ => 0) ⟨#[], #[.slice none 0 0], []⟩).memory :=
  laidMet_of_run' 8 (by kernel_rfl) (by kernel_rfl)
theorem reads (os : Os) {H : Type} (enc : TypeId × Value → H) : ∃ places, DataW.whole enc Tryd.prog ((laidWorld os).forCall (fun _ _ => 0) ⟨#[], #[.slice none 0 0], []⟩).memory Tryd.f4.params.toList Rows.tableDecodesSpec.vars false (#[.slice none 0 0] : Array Value).toList 8 = some ([.nil], [], places) :=
  ⟨[], by kernel_rfl⟩
set_option maxRecDepth 100000 in
theorem lifted (os : Os) (started : os.Started) (H : Type) (enc : TypeId × Value → H) (F : Stop.Interp) :
    ReturnsInHanded {} Tryd.checked os 4 .any ((OpenSpec.ofChange Rows.tableDecodesSpec).preRow enc Tryd.prog Tryd.f4 Rows.tableDecodesRow.domain false Rows.tableDecodesRow.laid) (((OpenSpec.ofChange Rows.tableDecodesSpec).at F).post enc Tryd.prog Tryd.f4 false true false false) := by
  obtain ⟨places, hx⟩ := reads os enc
  refine returnsInHanded_of_row (C := Tryd.checked) (s := (OpenSpec.ofChange Rows.tableDecodesSpec)) own started (by kernel_rfl) Tryd.func4
    (witness_row_at (enc := enc) (C := Tryd.checked) false (laidWorld os) #[.slice none 0 0] rfl (by kernel_rfl) (by kernel_rfl) (by kernel_rfl)
      (OpenSpec.preRow_of_cond 8 hx (by kernel_rfl) (fun k hk => by cases hk) (by kernel_rfl) (laid_met os))) ?_
  intro W base args ds gs before hval hW _ _ hz hL _ _
  exact contract H enc W base args ds gs before hval hW hz hL
theorem said : Rows.TableDecodesSaid :=
  OpenClaim.holds_of_cond 4 Tryd.f4 rfl rfl rfl rfl rfl rfl rfl ⟨rfl, rfl, rfl, rfl, rfl⟩ rfl rfl rfl rfl rfl (by kernel_rfl) Tryd.func4 (by kernel_rfl)
    (of_decide_eq_true (by kernel_rfl)) (by unfold Func.isWrapper; first | (rw [if_pos (by decide +kernel)]; kernel_rfl) | (rw [if_neg (by decide +kernel)]; exact ⟨rfl, rfl⟩))
    (fun os started H enc _ F => by rw [OpenClaim.pre_eq_preRow]; exact lifted os started H enc F)
theorem plain (f : FuncId) (fn : Func) (hf : Tryd.pinned.checked.prog.funcNamed "heron/heronlaw12.TableDecodes" = some f) (hfn : Tryd.pinned.checked.prog.funcs[f]? = some fn) :
    false = Tryd.pinned.checked.prog.looks [] ∧ ∀ (j : Nat) t, fn.params[j]? = some t → Tryd.pinned.checked.prog.wantsStandIn t = false := by
  obtain rfl : f = 4 := Option.some.inj ((show Tryd.prog.funcNamed "heron/heronlaw12.TableDecodes" = some 4 by kernel_rfl).symm.trans hf) |>.symm
  obtain rfl : fn = Tryd.f4 := (Option.some.inj (Tryd.func4.symm.trans hfn)).symm
  refine ⟨by kernel_rfl, fun j t ht => ?_⟩
  rw [Tryd.params4] at ht
  have hm := Array.mem_of_getElem? ht
  simp only [List.mem_toArray, List.mem_cons, List.not_mem_nil, or_false] at hm
  rcases hm with rfl
  · exact (show Tryd.prog.wantsStandIn 28 = false by kernel_rfl)
theorem card : Rows.TableDecodesCardSaid :=
  Claim7.holds_tied_plain_at .later [] _ _ _ _ said (fun _ h => by cases h) (by kernel_rfl) (fun _ h => by cases h) tableDecodes_row_tie rfl ⟨rfl, rfl⟩ (by kernel_rfl) rfl plain (by kernel_rfl)
end Go.Proofs.YtnglgppdkohhpaaDoor.lawTableDecodes
