/-
  No cell of these rows narrows 'for every input' (looked for: loops, veiled, ifaces, maps, wideKeys, modest, calm, conditions, laid).
  DERIVED. THE GIVEN ROWS OF THIS SEAT. 3 by the template 'for every input the law returns true; each argument reads behind the call as it read before'; 0 by the template 'total and deterministic' (their statements: YtngaohmfedoeeaaTotals.lean).
  GIVEN WITH THE SEED: the statements are not yours to turn. If you find one false, say at which input.
  Laid BY PROGRAM, IN A SANDBOX (cutbox-rows.mjs): the forced cells as the released guide's own fill.sh prints them over the translation 4f04351d274c1f51… (all of the seat's roots in one cut). By AI agents, Wed Nov 11 2026. No macro, syntax, notation, axiom, sorry.
-/
import Derived.Test.YtngaohmfedoeeaaChecked
import GoSem.Claim
import GoSem.ClaimJoined
import GoSem.ClaimMapViews
import Derived.JoinedTies
import Derived.KernelRfl
namespace Go.Proofs.Ytngaohmfedoeeaa
/- THE CELL 'sum', in the pinned program and in every row, IS THE sha256 OF THE DUMP (.gsa) THAT YtngaohmfedoeeaaProg.lean LOADS. Nothing in Lean hashes anything: it is a label: what it is worth is what the hold of that sum in a sandbox is worth. -/
noncomputable def Try.pinned : Pinned := { name := "ytngaohmfedoeeaa", sum := "4f04351d274c1f51be66b0ba45b9cc80dc642afa9ec5e3a8288543185faaa101", checked := Try.checked }
namespace Rows
def none {H : Type} : Left H := { results := [], args := [] }

/-- 'heronlaw02.RecPlays': WHATEVER THE INPUT: true; the input reads as it did. -/
def recPlaysSpec : ChangeSpec := { name := "recPlays", fn := fun _ => fun
  | [d1, d2] => { results := [.lit (.bool true)], args := [d1, d2] }
  | _ => none }
def recPlaysRow : OpenClaim := { program := "ytngaohmfedoeeaa", sum := "4f04351d274c1f51be66b0ba45b9cc80dc642afa9ec5e3a8288543185faaa101", func := "heron/heronlaw02.RecPlays", spec := "recPlays", apart := false }
def RecPlaysSaid : Prop := recPlaysRow.holds Try.pinned (OpenSpec.ofChange recPlaysSpec)

/-- ITS FALSE NEIGHBOUR: 'it returns false'. Refute it at one input. -/
def recPlaysWrong : ChangeSpec := { name := "recPlays", fn := fun _ => fun
  | [d1, d2] => { results := [.lit (.bool false)], args := [d1, d2] }
  | _ => none }
def RecPlaysWrongFalsely : Prop := recPlaysRow.holds Try.pinned (OpenSpec.ofChange recPlaysWrong)

/-- 'heronlaw02.RecBack': WHATEVER THE INPUT: true; the input reads as it did. -/
def recBackSpec : ChangeSpec := { name := "recBack", fn := fun _ => fun
  | [d] => { results := [.lit (.bool true)], args := [d] }
  | _ => none }
def recBackRow : OpenClaim := { program := "ytngaohmfedoeeaa", sum := "4f04351d274c1f51be66b0ba45b9cc80dc642afa9ec5e3a8288543185faaa101", func := "heron/heronlaw02.RecBack", spec := "recBack", apart := false }
def RecBackSaid : Prop := recBackRow.holds Try.pinned (OpenSpec.ofChange recBackSpec)

/-- ITS FALSE NEIGHBOUR: 'it returns false'. Refute it at one input. -/
def recBackWrong : ChangeSpec := { name := "recBack", fn := fun _ => fun
  | [d] => { results := [.lit (.bool false)], args := [d] }
  | _ => none }
def RecBackWrongFalsely : Prop := recBackRow.holds Try.pinned (OpenSpec.ofChange recBackWrong)

/-- 'heronlaw02.RecApart': WHATEVER THE INPUT: true; the input reads as it did. -/
def recApartSpec : ChangeSpec := { name := "recApart", fn := fun _ => fun
  | [d1, d2] => { results := [.lit (.bool true)], args := [d1, d2] }
  | _ => none }
def recApartRow : OpenClaim := { program := "ytngaohmfedoeeaa", sum := "4f04351d274c1f51be66b0ba45b9cc80dc642afa9ec5e3a8288543185faaa101", func := "heron/heronlaw02.RecApart", spec := "recApart", apart := false }
def RecApartSaid : Prop := recApartRow.holds Try.pinned (OpenSpec.ofChange recApartSpec)

/-- ITS FALSE NEIGHBOUR: 'it returns false'. Refute it at one input. -/
def recApartWrong : ChangeSpec := { name := "recApart", fn := fun _ => fun
  | [d1, d2] => { results := [.lit (.bool false)], args := [d1, d2] }
  | _ => none }
def RecApartWrongFalsely : Prop := recApartRow.holds Try.pinned (OpenSpec.ofChange recApartWrong)

/- THE SECOND FORM. 'bulk': how many values and letters a reading holds, each counted each time it is reached (what is shared counts as often as it is met; a slice's spare places count too). A statement '..UptoSaid' is the law's where the arguments, and the package variables that the reading takes, are together of bulk at most 1048576: NARROWER than '..Said'. Prove '..Said' where nothing that the law and all that it calls make is longer than what came in: it says more and counts as full. Else prove '..UptoSaid'. A law counts once. -/
mutual
def uptoBulk {H : Type} : DataW H → Nat
  | .lit (.string bytes) => bytes.length + 1
  | .lit _ => 1
  | .nil => 1
  | .ptr d => uptoBulk d + 1
  | .slice elems spare => uptoBulkAll elems + uptoBulkAll spare + 1
  | .agg parts => uptoBulkAll parts + 1
  | .iface _ d => uptoBulk d + 1
  | .map entries => uptoBulkEntries entries + 1
  | .held _ => 1
def uptoBulkAll {H : Type} : List (DataW H) → Nat
  | [] => 0
  | d :: r => uptoBulk d + uptoBulkAll r
def uptoBulkEntries {H : Type} : List (Lit × DataW H) → Nat
  | [] => 0
  | x :: r => uptoBulkEntry x + uptoBulkEntries r
def uptoBulkEntry {H : Type} : Lit × DataW H → Nat
  | (.string bytes, d) => bytes.length + uptoBulk d + 1
  | (_, d) => uptoBulk d + 1
 end
def uptoSmall : (H : Type) → List (DataW H) → Bool := fun _ ds => decide (uptoBulkAll ds ≤ 1048576)
def OpenSpec.upto (s : _root_.Go.ChangeSpec) : _root_.Go.OpenSpec := { _root_.Go.OpenSpec.ofChange s with cond := some uptoSmall }

/-- 'heronlaw02.RecPlays', WHERE WHAT IT READS IS OF BULK AT MOST 1048576: true; the input reads as it did. -/
def recPlaysUptoRow : OpenClaim := { program := "ytngaohmfedoeeaa", sum := "4f04351d274c1f51be66b0ba45b9cc80dc642afa9ec5e3a8288543185faaa101", func := "heron/heronlaw02.RecPlays", spec := "recPlays", apart := false, narrowed := true }
def RecPlaysUptoSaid : Prop := recPlaysUptoRow.holds Try.pinned (OpenSpec.upto recPlaysSpec)

/-- 'heronlaw02.RecBack', WHERE WHAT IT READS IS OF BULK AT MOST 1048576: true; the input reads as it did. -/
def recBackUptoRow : OpenClaim := { program := "ytngaohmfedoeeaa", sum := "4f04351d274c1f51be66b0ba45b9cc80dc642afa9ec5e3a8288543185faaa101", func := "heron/heronlaw02.RecBack", spec := "recBack", apart := false, narrowed := true }
def RecBackUptoSaid : Prop := recBackUptoRow.holds Try.pinned (OpenSpec.upto recBackSpec)

/-- 'heronlaw02.RecApart', WHERE WHAT IT READS IS OF BULK AT MOST 1048576: true; the input reads as it did. -/
def recApartUptoRow : OpenClaim := { program := "ytngaohmfedoeeaa", sum := "4f04351d274c1f51be66b0ba45b9cc80dc642afa9ec5e3a8288543185faaa101", func := "heron/heronlaw02.RecApart", spec := "recApart", apart := false, narrowed := true }
def RecApartUptoSaid : Prop := recApartUptoRow.holds Try.pinned (OpenSpec.upto recApartSpec)

end Rows
end Go.Proofs.Ytngaohmfedoeeaa
