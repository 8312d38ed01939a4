/-
  NARROWER THAN 'FOR EVERY INPUT', by the rows' own cells (each row's printed sentence says how): CrcExact: laid · CrcPieces: laid · CrcBursts: laid · CrcAgain: laid.
  DERIVED. THE GIVEN ROWS OF THIS SEAT. 4 by the template 'for every input the law returns true; each argument reads behind the call as it read before'; 0 by the template 'total and deterministic' (their statements: YtnnlbnonffjjiaaDoorTotals.lean).
  GIVEN WITH THE SEED: the statements are not yours to turn. If you find one false, say at which input.
  Laid BY PROGRAM, IN A SANDBOX (cutbox-rows.mjs): the forced cells as the released guide's own fill.sh prints them over the translation 0c8a065adf57d700… (all of the seat's roots in one cut). By AI agents, Wed Nov 11 2026. No macro, syntax, notation, axiom, sorry.
-/
import Derived.Test.YtnnlbnonffjjiaaDoorChecked
import GoSem.Claim
import GoSem.ClaimJoined
import GoSem.ClaimMapViews
import Derived.JoinedTies
import Derived.KernelRfl
namespace Go.Proofs.YtnnlbnonffjjiaaDoor
/- THE CELL 'sum', in the pinned program and in every row, IS THE sha256 OF THE DUMP (.gsa) THAT YtnnlbnonffjjiaaDoorProg.lean LOADS. Nothing in Lean hashes anything: it is a label: what it is worth is what the hold of that sum in a sandbox is worth. -/
noncomputable def Tryd.pinned : Pinned := { name := "ytnnlbnonffjjiaadoor", sum := "0c8a065adf57d700708f4dd1635c2a53c94e76924e089f61dc322731d151118d", checked := Tryd.checked }
namespace Rows
def none {H : Type} : Left H := { results := [], args := [] }

/- WHAT THE LISTED PACKAGE-LEVEL VARIABLES READ AS WHEN THE CALL BEGINS. Each datum BY PROGRAM (the guide's laid-datum.mjs) off the statement by which the dump's own 'gosem.cut.vars' lays the variable. In a bare row this is a premise. The card (YtnnlbnonffjjiaaDoorCards.lean) ties it to the program's text. -/
def laid_heron_crc_half {H : Type} : DataW H := .agg [.lit (.int .u32 0), .lit (.int .u32 498536548), .lit (.int .u32 997073096), .lit (.int .u32 651767980), .lit (.int .u32 1994146192), .lit (.int .u32 1802195444), .lit (.int .u32 1303535960), .lit (.int .u32 1342533948), .lit (.int .u32 3988292384), .lit (.int .u32 4027552580), .lit (.int .u32 3604390888), .lit (.int .u32 3412177804), .lit (.int .u32 2607071920), .lit (.int .u32 2262029012), .lit (.int .u32 2685067896), .lit (.int .u32 3183342108)]

/-- 'heronlaw01.CrcExact': WHATEVER THE INPUT: true; the input reads as it did. -/
def crcExactSpec : ChangeSpec := { name := "crcExact", fn := fun _ => fun
  | [d1, d2, d3] => { results := [.lit (.bool true)], args := [d1, d2, d3] }
  | _ => none }
def crcExactRow : OpenClaim := { program := "ytnnlbnonffjjiaadoor", sum := "0c8a065adf57d700708f4dd1635c2a53c94e76924e089f61dc322731d151118d", func := "heron/heronlaw01.CrcExact", spec := "crcExact", named := ["heron/crc.half"], apart := false, laid := [("heron/crc.half", laid_heron_crc_half)] }
def CrcExactSaid : Prop := crcExactRow.holds Tryd.pinned (OpenSpec.ofChange crcExactSpec)

/-- ITS FALSE NEIGHBOUR: 'it returns false'. Refute it at one input. -/
def crcExactWrong : ChangeSpec := { name := "crcExact", fn := fun _ => fun
  | [d1, d2, d3] => { results := [.lit (.bool false)], args := [d1, d2, d3] }
  | _ => none }
def CrcExactWrongFalsely : Prop := crcExactRow.holds Tryd.pinned (OpenSpec.ofChange crcExactWrong)

/-- 'heronlaw01.CrcPieces': WHATEVER THE INPUT: true; the input reads as it did. -/
def crcPiecesSpec : ChangeSpec := { name := "crcPieces", fn := fun _ => fun
  | [d] => { results := [.lit (.bool true)], args := [d] }
  | _ => none }
def crcPiecesRow : OpenClaim := { program := "ytnnlbnonffjjiaadoor", sum := "0c8a065adf57d700708f4dd1635c2a53c94e76924e089f61dc322731d151118d", func := "heron/heronlaw01.CrcPieces", spec := "crcPieces", named := ["heron/crc.half"], apart := false, laid := [("heron/crc.half", laid_heron_crc_half)] }
def CrcPiecesSaid : Prop := crcPiecesRow.holds Tryd.pinned (OpenSpec.ofChange crcPiecesSpec)

/-- ITS FALSE NEIGHBOUR: 'it returns false'. Refute it at one input. -/
def crcPiecesWrong : ChangeSpec := { name := "crcPieces", fn := fun _ => fun
  | [d] => { results := [.lit (.bool false)], args := [d] }
  | _ => none }
def CrcPiecesWrongFalsely : Prop := crcPiecesRow.holds Tryd.pinned (OpenSpec.ofChange crcPiecesWrong)

/-- 'heronlaw01.CrcBursts': WHATEVER THE INPUT: true; the input reads as it did. -/
def crcBurstsSpec : ChangeSpec := { name := "crcBursts", fn := fun _ => fun
  | [d1, d2, d3] => { results := [.lit (.bool true)], args := [d1, d2, d3] }
  | _ => none }
def crcBurstsRow : OpenClaim := { program := "ytnnlbnonffjjiaadoor", sum := "0c8a065adf57d700708f4dd1635c2a53c94e76924e089f61dc322731d151118d", func := "heron/heronlaw01.CrcBursts", spec := "crcBursts", named := ["heron/crc.half"], apart := false, laid := [("heron/crc.half", laid_heron_crc_half)] }
def CrcBurstsSaid : Prop := crcBurstsRow.holds Tryd.pinned (OpenSpec.ofChange crcBurstsSpec)

/-- ITS FALSE NEIGHBOUR: 'it returns false'. Refute it at one input. -/
def crcBurstsWrong : ChangeSpec := { name := "crcBursts", fn := fun _ => fun
  | [d1, d2, d3] => { results := [.lit (.bool false)], args := [d1, d2, d3] }
  | _ => none }
def CrcBurstsWrongFalsely : Prop := crcBurstsRow.holds Tryd.pinned (OpenSpec.ofChange crcBurstsWrong)

/-- 'heronlaw01.CrcAgain': WHATEVER THE INPUT: true; the input reads as it did. -/
def crcAgainSpec : ChangeSpec := { name := "crcAgain", fn := fun _ => fun
  | [d1, d2, d3] => { results := [.lit (.bool true)], args := [d1, d2, d3] }
  | _ => none }
def crcAgainRow : OpenClaim := { program := "ytnnlbnonffjjiaadoor", sum := "0c8a065adf57d700708f4dd1635c2a53c94e76924e089f61dc322731d151118d", func := "heron/heronlaw01.CrcAgain", spec := "crcAgain", named := ["heron/crc.half"], apart := false, laid := [("heron/crc.half", laid_heron_crc_half)] }
def CrcAgainSaid : Prop := crcAgainRow.holds Tryd.pinned (OpenSpec.ofChange crcAgainSpec)

/-- ITS FALSE NEIGHBOUR: 'it returns false'. Refute it at one input. -/
def crcAgainWrong : ChangeSpec := { name := "crcAgain", fn := fun _ => fun
  | [d1, d2, d3] => { results := [.lit (.bool false)], args := [d1, d2, d3] }
  | _ => none }
def CrcAgainWrongFalsely : Prop := crcAgainRow.holds Tryd.pinned (OpenSpec.ofChange crcAgainWrong)

/- THE SECOND FORM. 'bulk': how many values and letters a reading holds, each counted each time it is reached (what is shared counts as often as it is met; a slice's spare places count too). A statement '..UptoSaid' is the law's where the arguments, and the package variables that the reading takes, are together of bulk at most 1048576: NARROWER than '..Said'. Prove '..Said' where nothing that the law and all that it calls make is longer than what came in: it says more and counts as full. Else prove '..UptoSaid'. A law counts once. -/
mutual
def uptoBulk {H : Type} : DataW H → Nat
  | .lit (.string bytes) => bytes.length + 1
  | .lit _ => 1
  | .nil => 1
  | .ptr d => uptoBulk d + 1
  | .slice elems spare => uptoBulkAll elems + uptoBulkAll spare + 1
  | .agg parts => uptoBulkAll parts + 1
  | .iface _ d => uptoBulk d + 1
  | .map entries => uptoBulkEntries entries + 1
  | .held _ => 1
def uptoBulkAll {H : Type} : List (DataW H) → Nat
  | [] => 0
  | d :: r => uptoBulk d + uptoBulkAll r
def uptoBulkEntries {H : Type} : List (Lit × DataW H) → Nat
  | [] => 0
  | x :: r => uptoBulkEntry x + uptoBulkEntries r
def uptoBulkEntry {H : Type} : Lit × DataW H → Nat
  | (.string bytes, d) => bytes.length + uptoBulk d + 1
  | (_, d) => uptoBulk d + 1
 end
def uptoSmall : (H : Type) → List (DataW H) → Bool := fun _ ds => decide (uptoBulkAll ds ≤ 1048576)
def OpenSpec.upto (s : _root_.Go.ChangeSpec) : _root_.Go.OpenSpec := { _root_.Go.OpenSpec.ofChange s with cond := some uptoSmall }

/-- 'heronlaw01.CrcExact', WHERE WHAT IT READS IS OF BULK AT MOST 1048576: true; the input reads as it did. -/
def crcExactUptoRow : OpenClaim := { program := "ytnnlbnonffjjiaadoor", sum := "0c8a065adf57d700708f4dd1635c2a53c94e76924e089f61dc322731d151118d", func := "heron/heronlaw01.CrcExact", spec := "crcExact", named := ["heron/crc.half"], apart := false, laid := [("heron/crc.half", laid_heron_crc_half)], narrowed := true }
def CrcExactUptoSaid : Prop := crcExactUptoRow.holds Tryd.pinned (OpenSpec.upto crcExactSpec)

/-- 'heronlaw01.CrcPieces', WHERE WHAT IT READS IS OF BULK AT MOST 1048576: true; the input reads as it did. -/
def crcPiecesUptoRow : OpenClaim := { program := "ytnnlbnonffjjiaadoor", sum := "0c8a065adf57d700708f4dd1635c2a53c94e76924e089f61dc322731d151118d", func := "heron/heronlaw01.CrcPieces", spec := "crcPieces", named := ["heron/crc.half"], apart := false, laid := [("heron/crc.half", laid_heron_crc_half)], narrowed := true }
def CrcPiecesUptoSaid : Prop := crcPiecesUptoRow.holds Tryd.pinned (OpenSpec.upto crcPiecesSpec)

/-- 'heronlaw01.CrcBursts', WHERE WHAT IT READS IS OF BULK AT MOST 1048576: true; the input reads as it did. -/
def crcBurstsUptoRow : OpenClaim := { program := "ytnnlbnonffjjiaadoor", sum := "0c8a065adf57d700708f4dd1635c2a53c94e76924e089f61dc322731d151118d", func := "heron/heronlaw01.CrcBursts", spec := "crcBursts", named := ["heron/crc.half"], apart := false, laid := [("heron/crc.half", laid_heron_crc_half)], narrowed := true }
def CrcBurstsUptoSaid : Prop := crcBurstsUptoRow.holds Tryd.pinned (OpenSpec.upto crcBurstsSpec)

/-- 'heronlaw01.CrcAgain', WHERE WHAT IT READS IS OF BULK AT MOST 1048576: true; the input reads as it did. -/
def crcAgainUptoRow : OpenClaim := { program := "ytnnlbnonffjjiaadoor", sum := "0c8a065adf57d700708f4dd1635c2a53c94e76924e089f61dc322731d151118d", func := "heron/heronlaw01.CrcAgain", spec := "crcAgain", named := ["heron/crc.half"], apart := false, laid := [("heron/crc.half", laid_heron_crc_half)], narrowed := true }
def CrcAgainUptoSaid : Prop := crcAgainUptoRow.holds Tryd.pinned (OpenSpec.upto crcAgainSpec)

end Rows
end Go.Proofs.YtnnlbnonffjjiaaDoor
