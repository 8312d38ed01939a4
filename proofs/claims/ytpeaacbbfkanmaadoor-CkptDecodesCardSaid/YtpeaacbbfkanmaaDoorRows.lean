/-
  NARROWER THAN 'FOR EVERY INPUT', by the rows' own cells (each row's printed sentence says how): CkptEncodes: laid · CkptDecodes: laid · CkptBack: laid · CkptSpoilt: laid.
  DERIVED. THE GIVEN ROWS OF THIS SEAT. 4 by the template 'for every input the law returns true; each argument reads behind the call as it read before'; 0 by the template 'total and deterministic' (their statements: YtpeaacbbfkanmaaDoorTotals.lean).
  GIVEN WITH THE SEED: the statements are not yours to turn. If you find one false, say at which input.
  Laid BY PROGRAM, IN A SANDBOX (cutbox-rows.mjs): the forced cells as the released guide's own fill.sh prints them over the translation 3edfdbe6f50f128a… (all of the seat's roots in one cut). By AI agents, Wed Nov 11 2026. No macro, syntax, notation, axiom, sorry.
-/
import Derived.Test.YtpeaacbbfkanmaaDoorChecked
import GoSem.Claim
import GoSem.ClaimJoined
import GoSem.ClaimMapViews
import Derived.JoinedTies
import Derived.KernelRfl
namespace Go.Proofs.YtpeaacbbfkanmaaDoor
/- THE CELL 'sum', in the pinned program and in every row, IS THE sha256 OF THE DUMP (.gsa) THAT YtpeaacbbfkanmaaDoorProg.lean LOADS. Nothing in Lean hashes anything: it is a label: what it is worth is what the hold of that sum in a sandbox is worth. -/
noncomputable def Tryd.pinned : Pinned := { name := "ytpeaacbbfkanmaadoor", sum := "3edfdbe6f50f128aca5bf518b5f301c5b80df5c54370f1615674506127f405d9", checked := Tryd.checked }
namespace Rows
def none {H : Type} : Left H := { results := [], args := [] }

/- WHAT THE LISTED PACKAGE-LEVEL VARIABLES READ AS WHEN THE CALL BEGINS. Each datum BY PROGRAM (the guide's laid-datum.mjs) off the statement by which the dump's own 'gosem.cut.vars' lays the variable. In a bare row this is a premise. The card (YtpeaacbbfkanmaaDoorCards.lean) ties it to the program's text. -/
def laid_heron_crc_half {H : Type} : DataW H := .agg [.lit (.int .u32 0), .lit (.int .u32 498536548), .lit (.int .u32 997073096), .lit (.int .u32 651767980), .lit (.int .u32 1994146192), .lit (.int .u32 1802195444), .lit (.int .u32 1303535960), .lit (.int .u32 1342533948), .lit (.int .u32 3988292384), .lit (.int .u32 4027552580), .lit (.int .u32 3604390888), .lit (.int .u32 3412177804), .lit (.int .u32 2607071920), .lit (.int .u32 2262029012), .lit (.int .u32 2685067896), .lit (.int .u32 3183342108)]

/-- 'heronlaw21.CkptEncodes': WHATEVER THE INPUT: true; the input reads as it did. -/
def ckptEncodesSpec : ChangeSpec := { name := "ckptEncodes", fn := fun _ => fun
  | [d] => { results := [.lit (.bool true)], args := [d] }
  | _ => none }
def ckptEncodesRow : OpenClaim := { program := "ytpeaacbbfkanmaadoor", sum := "3edfdbe6f50f128aca5bf518b5f301c5b80df5c54370f1615674506127f405d9", func := "heron/heronlaw21.CkptEncodes", spec := "ckptEncodes", named := ["heron/crc.half"], apart := false, laid := [("heron/crc.half", laid_heron_crc_half)] }
def CkptEncodesSaid : Prop := ckptEncodesRow.holds Tryd.pinned (OpenSpec.ofChange ckptEncodesSpec)

/-- ITS FALSE NEIGHBOUR: 'it returns false'. Refute it at one input. -/
def ckptEncodesWrong : ChangeSpec := { name := "ckptEncodes", fn := fun _ => fun
  | [d] => { results := [.lit (.bool false)], args := [d] }
  | _ => none }
def CkptEncodesWrongFalsely : Prop := ckptEncodesRow.holds Tryd.pinned (OpenSpec.ofChange ckptEncodesWrong)

/-- 'heronlaw21.CkptDecodes': WHATEVER THE INPUT: true; the input reads as it did. -/
def ckptDecodesSpec : ChangeSpec := { name := "ckptDecodes", fn := fun _ => fun
  | [d1, d2] => { results := [.lit (.bool true)], args := [d1, d2] }
  | _ => none }
def ckptDecodesRow : OpenClaim := { program := "ytpeaacbbfkanmaadoor", sum := "3edfdbe6f50f128aca5bf518b5f301c5b80df5c54370f1615674506127f405d9", func := "heron/heronlaw21.CkptDecodes", spec := "ckptDecodes", named := ["heron/crc.half"], apart := false, laid := [("heron/crc.half", laid_heron_crc_half)] }
def CkptDecodesSaid : Prop := ckptDecodesRow.holds Tryd.pinned (OpenSpec.ofChange ckptDecodesSpec)

/-- ITS FALSE NEIGHBOUR: 'it returns false'. Refute it at one input. -/
def ckptDecodesWrong : ChangeSpec := { name := "ckptDecodes", fn := fun _ => fun
  | [d1, d2] => { results := [.lit (.bool false)], args := [d1, d2] }
  | _ => none }
def CkptDecodesWrongFalsely : Prop := ckptDecodesRow.holds Tryd.pinned (OpenSpec.ofChange ckptDecodesWrong)

/-- 'heronlaw21.CkptBack': WHATEVER THE INPUT: true; the input reads as it did. -/
def ckptBackSpec : ChangeSpec := { name := "ckptBack", fn := fun _ => fun
  | [d1, d2, d3, d4] => { results := [.lit (.bool true)], args := [d1, d2, d3, d4] }
  | _ => none }
def ckptBackRow : OpenClaim := { program := "ytpeaacbbfkanmaadoor", sum := "3edfdbe6f50f128aca5bf518b5f301c5b80df5c54370f1615674506127f405d9", func := "heron/heronlaw21.CkptBack", spec := "ckptBack", named := ["heron/crc.half"], apart := false, laid := [("heron/crc.half", laid_heron_crc_half)] }
def CkptBackSaid : Prop := ckptBackRow.holds Tryd.pinned (OpenSpec.ofChange ckptBackSpec)

/-- ITS FALSE NEIGHBOUR: 'it returns false'. Refute it at one input. -/
def ckptBackWrong : ChangeSpec := { name := "ckptBack", fn := fun _ => fun
  | [d1, d2, d3, d4] => { results := [.lit (.bool false)], args := [d1, d2, d3, d4] }
  | _ => none }
def CkptBackWrongFalsely : Prop := ckptBackRow.holds Tryd.pinned (OpenSpec.ofChange ckptBackWrong)

/-- 'heronlaw21.CkptSpoilt': WHATEVER THE INPUT: true; the input reads as it did. -/
def ckptSpoiltSpec : ChangeSpec := { name := "ckptSpoilt", fn := fun _ => fun
  | [d1, d2, d3, d4, d5] => { results := [.lit (.bool true)], args := [d1, d2, d3, d4, d5] }
  | _ => none }
def ckptSpoiltRow : OpenClaim := { program := "ytpeaacbbfkanmaadoor", sum := "3edfdbe6f50f128aca5bf518b5f301c5b80df5c54370f1615674506127f405d9", func := "heron/heronlaw21.CkptSpoilt", spec := "ckptSpoilt", named := ["heron/crc.half"], apart := false, laid := [("heron/crc.half", laid_heron_crc_half)] }
def CkptSpoiltSaid : Prop := ckptSpoiltRow.holds Tryd.pinned (OpenSpec.ofChange ckptSpoiltSpec)

/-- ITS FALSE NEIGHBOUR: 'it returns false'. Refute it at one input. -/
def ckptSpoiltWrong : ChangeSpec := { name := "ckptSpoilt", fn := fun _ => fun
  | [d1, d2, d3, d4, d5] => { results := [.lit (.bool false)], args := [d1, d2, d3, d4, d5] }
  | _ => none }
def CkptSpoiltWrongFalsely : Prop := ckptSpoiltRow.holds Tryd.pinned (OpenSpec.ofChange ckptSpoiltWrong)

/- THE SECOND FORM. 'bulk': how many values and letters a reading holds, each counted each time it is reached (what is shared counts as often as it is met; a slice's spare places count too). A statement '..UptoSaid' is the law's where the arguments, and the package variables that the reading takes, are together of bulk at most 1048576: NARROWER than '..Said'. Prove '..Said' where nothing that the law and all that it calls make is longer than what came in: it says more and counts as full. Else prove '..UptoSaid'. A law counts once. -/
mutual
def uptoBulk {H : Type} : DataW H → Nat
  | .lit (.string bytes) => bytes.length + 1
  | .lit _ => 1
  | .nil => 1
  | .ptr d => uptoBulk d + 1
  | .slice elems spare => uptoBulkAll elems + uptoBulkAll spare + 1
  | .agg parts => uptoBulkAll parts + 1
  | .iface _ d => uptoBulk d + 1
  | .map entries => uptoBulkEntries entries + 1
  | .held _ => 1
def uptoBulkAll {H : Type} : List (DataW H) → Nat
  | [] => 0
  | d :: r => uptoBulk d + uptoBulkAll r
def uptoBulkEntries {H : Type} : List (Lit × DataW H) → Nat
  | [] => 0
  | x :: r => uptoBulkEntry x + uptoBulkEntries r
def uptoBulkEntry {H : Type} : Lit × DataW H → Nat
  | (.string bytes, d) => bytes.length + uptoBulk d + 1
  | (_, d) => uptoBulk d + 1
 end
def uptoSmall : (H : Type) → List (DataW H) → Bool := fun _ ds => decide (uptoBulkAll ds ≤ 1048576)
def OpenSpec.upto (s : _root_.Go.ChangeSpec) : _root_.Go.OpenSpec := { _root_.Go.OpenSpec.ofChange s with cond := some uptoSmall }

/-- 'heronlaw21.CkptEncodes', WHERE WHAT IT READS IS OF BULK AT MOST 1048576: true; the input reads as it did. -/
def ckptEncodesUptoRow : OpenClaim := { program := "ytpeaacbbfkanmaadoor", sum := "3edfdbe6f50f128aca5bf518b5f301c5b80df5c54370f1615674506127f405d9", func := "heron/heronlaw21.CkptEncodes", spec := "ckptEncodes", named := ["heron/crc.half"], apart := false, laid := [("heron/crc.half", laid_heron_crc_half)], narrowed := true }
def CkptEncodesUptoSaid : Prop := ckptEncodesUptoRow.holds Tryd.pinned (OpenSpec.upto ckptEncodesSpec)

/-- 'heronlaw21.CkptDecodes', WHERE WHAT IT READS IS OF BULK AT MOST 1048576: true; the input reads as it did. -/
def ckptDecodesUptoRow : OpenClaim := { program := "ytpeaacbbfkanmaadoor", sum := "3edfdbe6f50f128aca5bf518b5f301c5b80df5c54370f1615674506127f405d9", func := "heron/heronlaw21.CkptDecodes", spec := "ckptDecodes", named := ["heron/crc.half"], apart := false, laid := [("heron/crc.half", laid_heron_crc_half)], narrowed := true }
def CkptDecodesUptoSaid : Prop := ckptDecodesUptoRow.holds Tryd.pinned (OpenSpec.upto ckptDecodesSpec)

/-- 'heronlaw21.CkptBack', WHERE WHAT IT READS IS OF BULK AT MOST 1048576: true; the input reads as it did. -/
def ckptBackUptoRow : OpenClaim := { program := "ytpeaacbbfkanmaadoor", sum := "3edfdbe6f50f128aca5bf518b5f301c5b80df5c54370f1615674506127f405d9", func := "heron/heronlaw21.CkptBack", spec := "ckptBack", named := ["heron/crc.half"], apart := false, laid := [("heron/crc.half", laid_heron_crc_half)], narrowed := true }
def CkptBackUptoSaid : Prop := ckptBackUptoRow.holds Tryd.pinned (OpenSpec.upto ckptBackSpec)

/-- 'heronlaw21.CkptSpoilt', WHERE WHAT IT READS IS OF BULK AT MOST 1048576: true; the input reads as it did. -/
def ckptSpoiltUptoRow : OpenClaim := { program := "ytpeaacbbfkanmaadoor", sum := "3edfdbe6f50f128aca5bf518b5f301c5b80df5c54370f1615674506127f405d9", func := "heron/heronlaw21.CkptSpoilt", spec := "ckptSpoilt", named := ["heron/crc.half"], apart := false, laid := [("heron/crc.half", laid_heron_crc_half)], narrowed := true }
def CkptSpoiltUptoSaid : Prop := ckptSpoiltUptoRow.holds Tryd.pinned (OpenSpec.upto ckptSpoiltSpec)

end Rows
end Go.Proofs.YtpeaacbbfkanmaaDoor
