/-
  No cell of these rows narrows 'for every input' (looked for: loops, veiled, ifaces, maps, wideKeys, modest, calm, conditions, laid).
  DERIVED. THE GIVEN ROWS OF THIS SEAT. 4 by the template 'for every input the law returns true; each argument reads behind the call as it read before'; 0 by the template 'total and deterministic' (their statements: YthhbfjhgmdnpbaaTotals.lean).
  GIVEN WITH THE SEED: the statements are not yours to turn. If you find one false, say at which input.
  Laid BY PROGRAM, IN A SANDBOX (cutbox-rows.mjs): the forced cells as the released guide's own fill.sh prints them over the translation df493e989dcd3506… (all of the seat's roots in one cut). By AI agents, Wed Nov 11 2026. No macro, syntax, notation, axiom, sorry.
-/
import Derived.Test.YthhbfjhgmdnpbaaChecked
import GoSem.Claim
import GoSem.ClaimJoined
import GoSem.ClaimMapViews
import Derived.JoinedTies
import Derived.KernelRfl
namespace Go.Proofs.Ythhbfjhgmdnpbaa
/- THE CELL 'sum', in the pinned program and in every row, IS THE sha256 OF THE DUMP (.gsa) THAT YthhbfjhgmdnpbaaProg.lean LOADS. Nothing in Lean hashes anything: it is a label: what it is worth is what the hold of that sum in a sandbox is worth. -/
noncomputable def Try.pinned : Pinned := { name := "ythhbfjhgmdnpbaa", sum := "df493e989dcd3506cb542f907a04cca7ab1bf416ce9b1cd5ed9801c65f36264c", checked := Try.checked }
namespace Rows
def none {H : Type} : Left H := { results := [], args := [] }

/-- 'heronlaw22.StoreOwn': WHATEVER THE INPUT: true; the input reads as it did. -/
def storeOwnSpec : ChangeSpec := { name := "storeOwn", fn := fun _ => fun
  | [d1, d2] => { results := [.lit (.bool true)], args := [d1, d2] }
  | _ => none }
def storeOwnRow : OpenClaim := { program := "ythhbfjhgmdnpbaa", sum := "df493e989dcd3506cb542f907a04cca7ab1bf416ce9b1cd5ed9801c65f36264c", func := "heron/heronlaw22.StoreOwn", spec := "storeOwn", inPlace := ["internal/bytealg.IndexByteString", "internal/bytealg.IndexString"], unfollowed := true, recurses := true, named := ["internal/bytealg.MaxLen"], apart := false }
def StoreOwnSaid : Prop := storeOwnRow.holds Try.pinned (OpenSpec.ofChange storeOwnSpec)

/-- ITS FALSE NEIGHBOUR: 'it returns false'. Refute it at one input. -/
def storeOwnWrong : ChangeSpec := { name := "storeOwn", fn := fun _ => fun
  | [d1, d2] => { results := [.lit (.bool false)], args := [d1, d2] }
  | _ => none }
def StoreOwnWrongFalsely : Prop := storeOwnRow.holds Try.pinned (OpenSpec.ofChange storeOwnWrong)

/-- 'heronlaw22.StoreSteps': WHATEVER THE INPUT: true; the input reads as it did. -/
def storeStepsSpec : ChangeSpec := { name := "storeSteps", fn := fun _ => fun
  | [d1, d2, d3] => { results := [.lit (.bool true)], args := [d1, d2, d3] }
  | _ => none }
def storeStepsRow : OpenClaim := { program := "ythhbfjhgmdnpbaa", sum := "df493e989dcd3506cb542f907a04cca7ab1bf416ce9b1cd5ed9801c65f36264c", func := "heron/heronlaw22.StoreSteps", spec := "storeSteps", inPlace := ["internal/bytealg.IndexByteString", "internal/bytealg.IndexString"], unfollowed := true, recurses := true, named := ["internal/bytealg.MaxLen"], apart := false }
def StoreStepsSaid : Prop := storeStepsRow.holds Try.pinned (OpenSpec.ofChange storeStepsSpec)

/-- ITS FALSE NEIGHBOUR: 'it returns false'. Refute it at one input. -/
def storeStepsWrong : ChangeSpec := { name := "storeSteps", fn := fun _ => fun
  | [d1, d2, d3] => { results := [.lit (.bool false)], args := [d1, d2, d3] }
  | _ => none }
def StoreStepsWrongFalsely : Prop := storeStepsRow.holds Try.pinned (OpenSpec.ofChange storeStepsWrong)

/-- 'heronlaw22.StoreWhole': WHATEVER THE INPUT: true; the input reads as it did. -/
def storeWholeSpec : ChangeSpec := { name := "storeWhole", fn := fun _ => fun
  | [d1, d2] => { results := [.lit (.bool true)], args := [d1, d2] }
  | _ => none }
def storeWholeRow : OpenClaim := { program := "ythhbfjhgmdnpbaa", sum := "df493e989dcd3506cb542f907a04cca7ab1bf416ce9b1cd5ed9801c65f36264c", func := "heron/heronlaw22.StoreWhole", spec := "storeWhole", inPlace := ["internal/bytealg.IndexByteString", "internal/bytealg.IndexString"], unfollowed := true, recurses := true, named := ["internal/bytealg.MaxLen"], apart := false }
def StoreWholeSaid : Prop := storeWholeRow.holds Try.pinned (OpenSpec.ofChange storeWholeSpec)

/-- ITS FALSE NEIGHBOUR: 'it returns false'. Refute it at one input. -/
def storeWholeWrong : ChangeSpec := { name := "storeWhole", fn := fun _ => fun
  | [d1, d2] => { results := [.lit (.bool false)], args := [d1, d2] }
  | _ => none }
def StoreWholeWrongFalsely : Prop := storeWholeRow.holds Try.pinned (OpenSpec.ofChange storeWholeWrong)

/-- 'heronlaw14.SimfsHistory': WHATEVER THE INPUT: true; the input reads as it did. -/
def simfsHistorySpec : ChangeSpec := { name := "simfsHistory", fn := fun _ => fun
  | [d] => { results := [.lit (.bool true)], args := [d] }
  | _ => none }
def simfsHistoryRow : OpenClaim := { program := "ythhbfjhgmdnpbaa", sum := "df493e989dcd3506cb542f907a04cca7ab1bf416ce9b1cd5ed9801c65f36264c", func := "heron/heronlaw14.SimfsHistory", spec := "simfsHistory", inPlace := ["internal/bytealg.IndexByteString", "internal/bytealg.IndexString", "maps.clone"], unfollowed := true, recurses := true, named := ["internal/bytealg.MaxLen"], apart := false }
def SimfsHistorySaid : Prop := simfsHistoryRow.holds Try.pinned (OpenSpec.ofChange simfsHistorySpec)

/-- ITS FALSE NEIGHBOUR: 'it returns false'. Refute it at one input. -/
def simfsHistoryWrong : ChangeSpec := { name := "simfsHistory", fn := fun _ => fun
  | [d] => { results := [.lit (.bool false)], args := [d] }
  | _ => none }
def SimfsHistoryWrongFalsely : Prop := simfsHistoryRow.holds Try.pinned (OpenSpec.ofChange simfsHistoryWrong)

/- THE SECOND FORM. 'bulk': how many values and letters a reading holds, each counted each time it is reached (what is shared counts as often as it is met; a slice's spare places count too). A statement '..UptoSaid' is the law's where the arguments, and the package variables that the reading takes, are together of bulk at most 1048576: NARROWER than '..Said'. Prove '..Said' where nothing that the law and all that it calls make is longer than what came in: it says more and counts as full. Else prove '..UptoSaid'. A law counts once. -/
mutual
def uptoBulk {H : Type} : DataW H → Nat
  | .lit (.string bytes) => bytes.length + 1
  | .lit _ => 1
  | .nil => 1
  | .ptr d => uptoBulk d + 1
  | .slice elems spare => uptoBulkAll elems + uptoBulkAll spare + 1
  | .agg parts => uptoBulkAll parts + 1
  | .iface _ d => uptoBulk d + 1
  | .map entries => uptoBulkEntries entries + 1
  | .held _ => 1
def uptoBulkAll {H : Type} : List (DataW H) → Nat
  | [] => 0
  | d :: r => uptoBulk d + uptoBulkAll r
def uptoBulkEntries {H : Type} : List (Lit × DataW H) → Nat
  | [] => 0
  | x :: r => uptoBulkEntry x + uptoBulkEntries r
def uptoBulkEntry {H : Type} : Lit × DataW H → Nat
  | (.string bytes, d) => bytes.length + uptoBulk d + 1
  | (_, d) => uptoBulk d + 1
 end
def uptoSmall : (H : Type) → List (DataW H) → Bool := fun _ ds => decide (uptoBulkAll ds ≤ 1048576)
def OpenSpec.upto (s : _root_.Go.ChangeSpec) : _root_.Go.OpenSpec := { _root_.Go.OpenSpec.ofChange s with cond := some uptoSmall }

/-- 'heronlaw22.StoreOwn', WHERE WHAT IT READS IS OF BULK AT MOST 1048576: true; the input reads as it did. -/
def storeOwnUptoRow : OpenClaim := { program := "ythhbfjhgmdnpbaa", sum := "df493e989dcd3506cb542f907a04cca7ab1bf416ce9b1cd5ed9801c65f36264c", func := "heron/heronlaw22.StoreOwn", spec := "storeOwn", inPlace := ["internal/bytealg.IndexByteString", "internal/bytealg.IndexString"], unfollowed := true, recurses := true, named := ["internal/bytealg.MaxLen"], apart := false, narrowed := true }
def StoreOwnUptoSaid : Prop := storeOwnUptoRow.holds Try.pinned (OpenSpec.upto storeOwnSpec)

/-- 'heronlaw22.StoreSteps', WHERE WHAT IT READS IS OF BULK AT MOST 1048576: true; the input reads as it did. -/
def storeStepsUptoRow : OpenClaim := { program := "ythhbfjhgmdnpbaa", sum := "df493e989dcd3506cb542f907a04cca7ab1bf416ce9b1cd5ed9801c65f36264c", func := "heron/heronlaw22.StoreSteps", spec := "storeSteps", inPlace := ["internal/bytealg.IndexByteString", "internal/bytealg.IndexString"], unfollowed := true, recurses := true, named := ["internal/bytealg.MaxLen"], apart := false, narrowed := true }
def StoreStepsUptoSaid : Prop := storeStepsUptoRow.holds Try.pinned (OpenSpec.upto storeStepsSpec)

/-- 'heronlaw22.StoreWhole', WHERE WHAT IT READS IS OF BULK AT MOST 1048576: true; the input reads as it did. -/
def storeWholeUptoRow : OpenClaim := { program := "ythhbfjhgmdnpbaa", sum := "df493e989dcd3506cb542f907a04cca7ab1bf416ce9b1cd5ed9801c65f36264c", func := "heron/heronlaw22.StoreWhole", spec := "storeWhole", inPlace := ["internal/bytealg.IndexByteString", "internal/bytealg.IndexString"], unfollowed := true, recurses := true, named := ["internal/bytealg.MaxLen"], apart := false, narrowed := true }
def StoreWholeUptoSaid : Prop := storeWholeUptoRow.holds Try.pinned (OpenSpec.upto storeWholeSpec)

/-- 'heronlaw14.SimfsHistory', WHERE WHAT IT READS IS OF BULK AT MOST 1048576: true; the input reads as it did. -/
def simfsHistoryUptoRow : OpenClaim := { program := "ythhbfjhgmdnpbaa", sum := "df493e989dcd3506cb542f907a04cca7ab1bf416ce9b1cd5ed9801c65f36264c", func := "heron/heronlaw14.SimfsHistory", spec := "simfsHistory", inPlace := ["internal/bytealg.IndexByteString", "internal/bytealg.IndexString", "maps.clone"], unfollowed := true, recurses := true, named := ["internal/bytealg.MaxLen"], apart := false, narrowed := true }
def SimfsHistoryUptoSaid : Prop := simfsHistoryUptoRow.holds Try.pinned (OpenSpec.upto simfsHistorySpec)

end Rows
end Go.Proofs.Ythhbfjhgmdnpbaa
