/-
  NARROWER THAN 'FOR EVERY INPUT', by the rows' own cells (each row's printed sentence says how): TableEncodes: laid · TableDecodes: laid · TableSpoilt: laid · TableBack: laid.
  DERIVED. THE GIVEN ROWS OF THIS SEAT. 4 by the template 'for every input the law returns true; each argument reads behind the call as it read before'; 0 by the template 'total and deterministic' (their statements: YtnglgppdkohhpaaDoorTotals.lean).
  GIVEN WITH THE SEED: the statements are not yours to turn. If you find one false, say at which input.
  Laid BY PROGRAM, IN A SANDBOX (cutbox-rows.mjs): the forced cells as the released guide's own fill.sh prints them over the translation bb574ebb25acf429… (all of the seat's roots in one cut). By AI agents, Wed Nov 11 2026. No macro, syntax, notation, axiom, sorry.
-/
import Derived.Test.YtnglgppdkohhpaaDoorChecked
import GoSem.Claim
import GoSem.ClaimJoined
import GoSem.ClaimMapViews
import Derived.JoinedTies
import Derived.KernelRfl
namespace Go.Proofs.YtnglgppdkohhpaaDoor
/- THE CELL 'sum', in the pinned program and in every row, IS THE sha256 OF THE DUMP (.gsa) THAT YtnglgppdkohhpaaDoorProg.lean LOADS. Nothing in Lean hashes anything: it is a label: what it is worth is what the hold of that sum in a sandbox is worth. -/
noncomputable def Tryd.pinned : Pinned := { name := "ytnglgppdkohhpaadoor", sum := "bb574ebb25acf42941d31b2f42e9c5e19ec287821b5843e01bb632bc8ae81ac3", checked := Tryd.checked }
namespace Rows
def none {H : Type} : Left H := { results := [], args := [] }

/- WHAT THE LISTED PACKAGE-LEVEL VARIABLES READ AS WHEN THE CALL BEGINS. Each datum BY PROGRAM (the guide's laid-datum.mjs) off the statement by which the dump's own 'gosem.cut.vars' lays the variable. In a bare row this is a premise. The card (YtnglgppdkohhpaaDoorCards.lean) ties it to the program's text. -/
def laid_heron_crc_half {H : Type} : DataW H := .agg [.lit (.int .u32 0), .lit (.int .u32 498536548), .lit (.int .u32 997073096), .lit (.int .u32 651767980), .lit (.int .u32 1994146192), .lit (.int .u32 1802195444), .lit (.int .u32 1303535960), .lit (.int .u32 1342533948), .lit (.int .u32 3988292384), .lit (.int .u32 4027552580), .lit (.int .u32 3604390888), .lit (.int .u32 3412177804), .lit (.int .u32 2607071920), .lit (.int .u32 2262029012), .lit (.int .u32 2685067896), .lit (.int .u32 3183342108)]

/-- 'heronlaw12.TableEncodes': WHATEVER THE INPUT: true; the input reads as it did. -/
def tableEncodesSpec : ChangeSpec := { name := "tableEncodes", fn := fun _ => fun
  | [d] => { results := [.lit (.bool true)], args := [d] }
  | _ => none }
def tableEncodesRow : OpenClaim := { program := "ytnglgppdkohhpaadoor", sum := "bb574ebb25acf42941d31b2f42e9c5e19ec287821b5843e01bb632bc8ae81ac3", func := "heron/heronlaw12.TableEncodes", spec := "tableEncodes", unfollowed := true, recurses := true, named := ["heron/crc.half"], apart := false, laid := [("heron/crc.half", laid_heron_crc_half)] }
def TableEncodesSaid : Prop := tableEncodesRow.holds Tryd.pinned (OpenSpec.ofChange tableEncodesSpec)

/-- ITS FALSE NEIGHBOUR: 'it returns false'. Refute it at one input. -/
def tableEncodesWrong : ChangeSpec := { name := "tableEncodes", fn := fun _ => fun
  | [d] => { results := [.lit (.bool false)], args := [d] }
  | _ => none }
def TableEncodesWrongFalsely : Prop := tableEncodesRow.holds Tryd.pinned (OpenSpec.ofChange tableEncodesWrong)

/-- 'heronlaw12.TableDecodes': WHATEVER THE INPUT: true; the input reads as it did. -/
def tableDecodesSpec : ChangeSpec := { name := "tableDecodes", fn := fun _ => fun
  | [d] => { results := [.lit (.bool true)], args := [d] }
  | _ => none }
def tableDecodesRow : OpenClaim := { program := "ytnglgppdkohhpaadoor", sum := "bb574ebb25acf42941d31b2f42e9c5e19ec287821b5843e01bb632bc8ae81ac3", func := "heron/heronlaw12.TableDecodes", spec := "tableDecodes", unfollowed := true, recurses := true, named := ["heron/crc.half"], apart := false, laid := [("heron/crc.half", laid_heron_crc_half)] }
def TableDecodesSaid : Prop := tableDecodesRow.holds Tryd.pinned (OpenSpec.ofChange tableDecodesSpec)

/-- ITS FALSE NEIGHBOUR: 'it returns false'. Refute it at one input. -/
def tableDecodesWrong : ChangeSpec := { name := "tableDecodes", fn := fun _ => fun
  | [d] => { results := [.lit (.bool false)], args := [d] }
  | _ => none }
def TableDecodesWrongFalsely : Prop := tableDecodesRow.holds Tryd.pinned (OpenSpec.ofChange tableDecodesWrong)

/-- 'heronlaw12.TableSpoilt': WHATEVER THE INPUT: true; the input reads as it did. -/
def tableSpoiltSpec : ChangeSpec := { name := "tableSpoilt", fn := fun _ => fun
  | [d1, d2, d3, d4, d5] => { results := [.lit (.bool true)], args := [d1, d2, d3, d4, d5] }
  | _ => none }
def tableSpoiltRow : OpenClaim := { program := "ytnglgppdkohhpaadoor", sum := "bb574ebb25acf42941d31b2f42e9c5e19ec287821b5843e01bb632bc8ae81ac3", func := "heron/heronlaw12.TableSpoilt", spec := "tableSpoilt", unfollowed := true, recurses := true, named := ["heron/crc.half"], apart := false, laid := [("heron/crc.half", laid_heron_crc_half)] }
def TableSpoiltSaid : Prop := tableSpoiltRow.holds Tryd.pinned (OpenSpec.ofChange tableSpoiltSpec)

/-- ITS FALSE NEIGHBOUR: 'it returns false'. Refute it at one input. -/
def tableSpoiltWrong : ChangeSpec := { name := "tableSpoilt", fn := fun _ => fun
  | [d1, d2, d3, d4, d5] => { results := [.lit (.bool false)], args := [d1, d2, d3, d4, d5] }
  | _ => none }
def TableSpoiltWrongFalsely : Prop := tableSpoiltRow.holds Tryd.pinned (OpenSpec.ofChange tableSpoiltWrong)

/-- 'heronlaw12.TableBack': WHATEVER THE INPUT: true; the input reads as it did. -/
def tableBackSpec : ChangeSpec := { name := "tableBack", fn := fun _ => fun
  | [d1, d2, d3] => { results := [.lit (.bool true)], args := [d1, d2, d3] }
  | _ => none }
def tableBackRow : OpenClaim := { program := "ytnglgppdkohhpaadoor", sum := "bb574ebb25acf42941d31b2f42e9c5e19ec287821b5843e01bb632bc8ae81ac3", func := "heron/heronlaw12.TableBack", spec := "tableBack", unfollowed := true, recurses := true, named := ["heron/crc.half"], apart := false, laid := [("heron/crc.half", laid_heron_crc_half)] }
def TableBackSaid : Prop := tableBackRow.holds Tryd.pinned (OpenSpec.ofChange tableBackSpec)

/-- ITS FALSE NEIGHBOUR: 'it returns false'. Refute it at one input. -/
def tableBackWrong : ChangeSpec := { name := "tableBack", fn := fun _ => fun
  | [d1, d2, d3] => { results := [.lit (.bool false)], args := [d1, d2, d3] }
  | _ => none }
def TableBackWrongFalsely : Prop := tableBackRow.holds Tryd.pinned (OpenSpec.ofChange tableBackWrong)

/- THE SECOND FORM. 'bulk': how many values and letters a reading holds, each counted each time it is reached (what is shared counts as often as it is met; a slice's spare places count too). A statement '..UptoSaid' is the law's where the arguments, and the package variables that the reading takes, are together of bulk at most 1048576: NARROWER than '..Said'. Prove '..Said' where nothing that the law and all that it calls make is longer than what came in: it says more and counts as full. Else prove '..UptoSaid'. A law counts once. -/
mutual
def uptoBulk {H : Type} : DataW H → Nat
  | .lit (.string bytes) => bytes.length + 1
  | .lit _ => 1
  | .nil => 1
  | .ptr d => uptoBulk d + 1
  | .slice elems spare => uptoBulkAll elems + uptoBulkAll spare + 1
  | .agg parts => uptoBulkAll parts + 1
  | .iface _ d => uptoBulk d + 1
  | .map entries => uptoBulkEntries entries + 1
  | .held _ => 1
def uptoBulkAll {H : Type} : List (DataW H) → Nat
  | [] => 0
  | d :: r => uptoBulk d + uptoBulkAll r
def uptoBulkEntries {H : Type} : List (Lit × DataW H) → Nat
  | [] => 0
  | x :: r => uptoBulkEntry x + uptoBulkEntries r
def uptoBulkEntry {H : Type} : Lit × DataW H → Nat
  | (.string bytes, d) => bytes.length + uptoBulk d + 1
  | (_, d) => uptoBulk d + 1
 end
def uptoSmall : (H : Type) → List (DataW H) → Bool := fun _ ds => decide (uptoBulkAll ds ≤ 1048576)
def OpenSpec.upto (s : _root_.Go.ChangeSpec) : _root_.Go.OpenSpec := { _root_.Go.OpenSpec.ofChange s with cond := some uptoSmall }

/-- 'heronlaw12.TableEncodes', WHERE WHAT IT READS IS OF BULK AT MOST 1048576: true; the input reads as it did. -/
def tableEncodesUptoRow : OpenClaim := { program := "ytnglgppdkohhpaadoor", sum := "bb574ebb25acf42941d31b2f42e9c5e19ec287821b5843e01bb632bc8ae81ac3", func := "heron/heronlaw12.TableEncodes", spec := "tableEncodes", unfollowed := true, recurses := true, named := ["heron/crc.half"], apart := false, laid := [("heron/crc.half", laid_heron_crc_half)], narrowed := true }
def TableEncodesUptoSaid : Prop := tableEncodesUptoRow.holds Tryd.pinned (OpenSpec.upto tableEncodesSpec)

/-- 'heronlaw12.TableDecodes', WHERE WHAT IT READS IS OF BULK AT MOST 1048576: true; the input reads as it did. -/
def tableDecodesUptoRow : OpenClaim := { program := "ytnglgppdkohhpaadoor", sum := "bb574ebb25acf42941d31b2f42e9c5e19ec287821b5843e01bb632bc8ae81ac3", func := "heron/heronlaw12.TableDecodes", spec := "tableDecodes", unfollowed := true, recurses := true, named := ["heron/crc.half"], apart := false, laid := [("heron/crc.half", laid_heron_crc_half)], narrowed := true }
def TableDecodesUptoSaid : Prop := tableDecodesUptoRow.holds Tryd.pinned (OpenSpec.upto tableDecodesSpec)

/-- 'heronlaw12.TableSpoilt', WHERE WHAT IT READS IS OF BULK AT MOST 1048576: true; the input reads as it did. -/
def tableSpoiltUptoRow : OpenClaim := { program := "ytnglgppdkohhpaadoor", sum := "bb574ebb25acf42941d31b2f42e9c5e19ec287821b5843e01bb632bc8ae81ac3", func := "heron/heronlaw12.TableSpoilt", spec := "tableSpoilt", unfollowed := true, recurses := true, named := ["heron/crc.half"], apart := false, laid := [("heron/crc.half", laid_heron_crc_half)], narrowed := true }
def TableSpoiltUptoSaid : Prop := tableSpoiltUptoRow.holds Tryd.pinned (OpenSpec.upto tableSpoiltSpec)

/-- 'heronlaw12.TableBack', WHERE WHAT IT READS IS OF BULK AT MOST 1048576: true; the input reads as it did. -/
def tableBackUptoRow : OpenClaim := { program := "ytnglgppdkohhpaadoor", sum := "bb574ebb25acf42941d31b2f42e9c5e19ec287821b5843e01bb632bc8ae81ac3", func := "heron/heronlaw12.TableBack", spec := "tableBack", unfollowed := true, recurses := true, named := ["heron/crc.half"], apart := false, laid := [("heron/crc.half", laid_heron_crc_half)], narrowed := true }
def TableBackUptoSaid : Prop := tableBackUptoRow.holds Tryd.pinned (OpenSpec.upto tableBackSpec)

end Rows
end Go.Proofs.YtnglgppdkohhpaaDoor
