/-
  No cell of these rows narrows 'for every input' (looked for: loops, veiled, ifaces, maps, wideKeys, modest, calm, conditions, laid).
  DERIVED. THE GIVEN ROWS OF THIS SEAT. 3 by the template 'for every input the law returns true; each argument reads behind the call as it read before'; 0 by the template 'total and deterministic' (their statements: YtjldbpnphilkaaaTotals.lean).
  GIVEN WITH THE SEED: the statements are not yours to turn. If you find one false, say at which input.
  Laid BY PROGRAM, IN A SANDBOX (cutbox-rows.mjs): the forced cells as the released guide's own fill.sh prints them over the translation 3990a83c675d62e5… (all of the seat's roots in one cut). By AI agents, Wed Nov 11 2026. No macro, syntax, notation, axiom, sorry.
-/
import Derived.Test.YtjldbpnphilkaaaChecked
import GoSem.Claim
import GoSem.ClaimJoined
import GoSem.ClaimMapViews
import Derived.JoinedTies
import Derived.KernelRfl
namespace Go.Proofs.Ytjldbpnphilkaaa
/- THE CELL 'sum', in the pinned program and in every row, IS THE sha256 OF THE DUMP (.gsa) THAT YtjldbpnphilkaaaProg.lean LOADS. Nothing in Lean hashes anything: it is a label: what it is worth is what the hold of that sum in a sandbox is worth. -/
noncomputable def Try.pinned : Pinned := { name := "ytjldbpnphilkaaa", sum := "3990a83c675d62e56461ef1f9f99f700d45f4deb895891ff4bc20ead4746c986", checked := Try.checked }
namespace Rows
def none {H : Type} : Left H := { results := [], args := [] }

/-- 'heronlaw16.LinesExact': WHATEVER THE INPUT: true; the input reads as it did. -/
def linesExactSpec : ChangeSpec := { name := "linesExact", fn := fun _ => fun
  | [d1, d2] => { results := [.lit (.bool true)], args := [d1, d2] }
  | _ => none }
def linesExactRow : OpenClaim := { program := "ytjldbpnphilkaaa", sum := "3990a83c675d62e56461ef1f9f99f700d45f4deb895891ff4bc20ead4746c986", func := "heron/heronlaw16.LinesExact", spec := "linesExact", apart := false }
def LinesExactSaid : Prop := linesExactRow.holds Try.pinned (OpenSpec.ofChange linesExactSpec)

/-- ITS FALSE NEIGHBOUR: 'it returns false'. Refute it at one input. -/
def linesExactWrong : ChangeSpec := { name := "linesExact", fn := fun _ => fun
  | [d1, d2] => { results := [.lit (.bool false)], args := [d1, d2] }
  | _ => none }
def LinesExactWrongFalsely : Prop := linesExactRow.holds Try.pinned (OpenSpec.ofChange linesExactWrong)

/-- 'heronlaw16.LinesCuts': WHATEVER THE INPUT: true; the input reads as it did. -/
def linesCutsSpec : ChangeSpec := { name := "linesCuts", fn := fun _ => fun
  | [d1, d2, d3] => { results := [.lit (.bool true)], args := [d1, d2, d3] }
  | _ => none }
def linesCutsRow : OpenClaim := { program := "ytjldbpnphilkaaa", sum := "3990a83c675d62e56461ef1f9f99f700d45f4deb895891ff4bc20ead4746c986", func := "heron/heronlaw16.LinesCuts", spec := "linesCuts", apart := false }
def LinesCutsSaid : Prop := linesCutsRow.holds Try.pinned (OpenSpec.ofChange linesCutsSpec)

/-- ITS FALSE NEIGHBOUR: 'it returns false'. Refute it at one input. -/
def linesCutsWrong : ChangeSpec := { name := "linesCuts", fn := fun _ => fun
  | [d1, d2, d3] => { results := [.lit (.bool false)], args := [d1, d2, d3] }
  | _ => none }
def LinesCutsWrongFalsely : Prop := linesCutsRow.holds Try.pinned (OpenSpec.ofChange linesCutsWrong)

/-- 'heronlaw16.LinesDrops': WHATEVER THE INPUT: true; the input reads as it did. -/
def linesDropsSpec : ChangeSpec := { name := "linesDrops", fn := fun _ => fun
  | [d1, d2, d3] => { results := [.lit (.bool true)], args := [d1, d2, d3] }
  | _ => none }
def linesDropsRow : OpenClaim := { program := "ytjldbpnphilkaaa", sum := "3990a83c675d62e56461ef1f9f99f700d45f4deb895891ff4bc20ead4746c986", func := "heron/heronlaw16.LinesDrops", spec := "linesDrops", apart := false }
def LinesDropsSaid : Prop := linesDropsRow.holds Try.pinned (OpenSpec.ofChange linesDropsSpec)

/-- ITS FALSE NEIGHBOUR: 'it returns false'. Refute it at one input. -/
def linesDropsWrong : ChangeSpec := { name := "linesDrops", fn := fun _ => fun
  | [d1, d2, d3] => { results := [.lit (.bool false)], args := [d1, d2, d3] }
  | _ => none }
def LinesDropsWrongFalsely : Prop := linesDropsRow.holds Try.pinned (OpenSpec.ofChange linesDropsWrong)

/- THE SECOND FORM. 'bulk': how many values and letters a reading holds, each counted each time it is reached (what is shared counts as often as it is met; a slice's spare places count too). A statement '..UptoSaid' is the law's where the arguments, and the package variables that the reading takes, are together of bulk at most 1048576: NARROWER than '..Said'. Prove '..Said' where nothing that the law and all that it calls make is longer than what came in: it says more and counts as full. Else prove '..UptoSaid'. A law counts once. -/
mutual
def uptoBulk {H : Type} : DataW H → Nat
  | .lit (.string bytes) => bytes.length + 1
  | .lit _ => 1
  | .nil => 1
  | .ptr d => uptoBulk d + 1
  | .slice elems spare => uptoBulkAll elems + uptoBulkAll spare + 1
  | .agg parts => uptoBulkAll parts + 1
  | .iface _ d => uptoBulk d + 1
  | .map entries => uptoBulkEntries entries + 1
  | .held _ => 1
def uptoBulkAll {H : Type} : List (DataW H) → Nat
  | [] => 0
  | d :: r => uptoBulk d + uptoBulkAll r
def uptoBulkEntries {H : Type} : List (Lit × DataW H) → Nat
  | [] => 0
  | x :: r => uptoBulkEntry x + uptoBulkEntries r
def uptoBulkEntry {H : Type} : Lit × DataW H → Nat
  | (.string bytes, d) => bytes.length + uptoBulk d + 1
  | (_, d) => uptoBulk d + 1
 end
def uptoSmall : (H : Type) → List (DataW H) → Bool := fun _ ds => decide (uptoBulkAll ds ≤ 1048576)
def OpenSpec.upto (s : _root_.Go.ChangeSpec) : _root_.Go.OpenSpec := { _root_.Go.OpenSpec.ofChange s with cond := some uptoSmall }

/-- 'heronlaw16.LinesExact', WHERE WHAT IT READS IS OF BULK AT MOST 1048576: true; the input reads as it did. -/
def linesExactUptoRow : OpenClaim := { program := "ytjldbpnphilkaaa", sum := "3990a83c675d62e56461ef1f9f99f700d45f4deb895891ff4bc20ead4746c986", func := "heron/heronlaw16.LinesExact", spec := "linesExact", apart := false, narrowed := true }
def LinesExactUptoSaid : Prop := linesExactUptoRow.holds Try.pinned (OpenSpec.upto linesExactSpec)

/-- 'heronlaw16.LinesCuts', WHERE WHAT IT READS IS OF BULK AT MOST 1048576: true; the input reads as it did. -/
def linesCutsUptoRow : OpenClaim := { program := "ytjldbpnphilkaaa", sum := "3990a83c675d62e56461ef1f9f99f700d45f4deb895891ff4bc20ead4746c986", func := "heron/heronlaw16.LinesCuts", spec := "linesCuts", apart := false, narrowed := true }
def LinesCutsUptoSaid : Prop := linesCutsUptoRow.holds Try.pinned (OpenSpec.upto linesCutsSpec)

/-- 'heronlaw16.LinesDrops', WHERE WHAT IT READS IS OF BULK AT MOST 1048576: true; the input reads as it did. -/
def linesDropsUptoRow : OpenClaim := { program := "ytjldbpnphilkaaa", sum := "3990a83c675d62e56461ef1f9f99f700d45f4deb895891ff4bc20ead4746c986", func := "heron/heronlaw16.LinesDrops", spec := "linesDrops", apart := false, narrowed := true }
def LinesDropsUptoSaid : Prop := linesDropsUptoRow.holds Try.pinned (OpenSpec.upto linesDropsSpec)

end Rows
end Go.Proofs.Ytjldbpnphilkaaa
