/-
  No cell of these rows narrows 'for every input' (looked for: loops, veiled, ifaces, maps, wideKeys, modest, calm, conditions, laid).
  DERIVED. THE GIVEN ROWS OF THIS SEAT. 4 by the template 'for every input the law returns true; each argument reads behind the call as it read before'; 0 by the template 'total and deterministic' (their statements: YtlojmmcagglpoaaTotals.lean).
  GIVEN WITH THE SEED: the statements are not yours to turn. If you find one false, say at which input.
  Laid BY PROGRAM, IN A SANDBOX (cutbox-rows.mjs): the forced cells as the released guide's own fill.sh prints them over the translation 0b126aeb294cc530… (all of the seat's roots in one cut). By AI agents, Wed Nov 11 2026. No macro, syntax, notation, axiom, sorry.
-/
import Derived.Test.YtlojmmcagglpoaaChecked
import GoSem.Claim
import GoSem.ClaimJoined
import GoSem.ClaimMapViews
import Derived.JoinedTies
import Derived.KernelRfl
namespace Go.Proofs.Ytlojmmcagglpoaa
/- THE CELL 'sum', in the pinned program and in every row, IS THE sha256 OF THE DUMP (.gsa) THAT YtlojmmcagglpoaaProg.lean LOADS. Nothing in Lean hashes anything: it is a label: what it is worth is what the hold of that sum in a sandbox is worth. -/
noncomputable def Try.pinned : Pinned := { name := "ytlojmmcagglpoaa", sum := "0b126aeb294cc5305bdbca53ed441306795a5679de5c4cc03f9cb10035ac67f7", checked := Try.checked }
namespace Rows
def none {H : Type} : Left H := { results := [], args := [] }

/-- 'heronlaw17.FollowAll': WHATEVER THE INPUT: true; the input reads as it did. -/
def followAllSpec : ChangeSpec := { name := "followAll", fn := fun _ => fun
  | [d1, d2, d3] => { results := [.lit (.bool true)], args := [d1, d2, d3] }
  | _ => none }
def followAllRow : OpenClaim := { program := "ytlojmmcagglpoaa", sum := "0b126aeb294cc5305bdbca53ed441306795a5679de5c4cc03f9cb10035ac67f7", func := "heron/heronlaw17.FollowAll", spec := "followAll", inPlace := ["internal/bytealg.IndexByteString", "internal/bytealg.IndexString"], unfollowed := true, recurses := true, named := ["internal/bytealg.MaxLen"], plainKeys := false, apart := false }
def FollowAllSaid : Prop := followAllRow.holds Try.pinned (OpenSpec.ofChange followAllSpec)

/-- ITS FALSE NEIGHBOUR: 'it returns false'. Refute it at one input. -/
def followAllWrong : ChangeSpec := { name := "followAll", fn := fun _ => fun
  | [d1, d2, d3] => { results := [.lit (.bool false)], args := [d1, d2, d3] }
  | _ => none }
def FollowAllWrongFalsely : Prop := followAllRow.holds Try.pinned (OpenSpec.ofChange followAllWrong)

/-- 'heronlaw15.PastKeeps': WHATEVER THE INPUT: true; the input reads as it did. -/
def pastKeepsSpec : ChangeSpec := { name := "pastKeeps", fn := fun _ => fun
  | [d] => { results := [.lit (.bool true)], args := [d] }
  | _ => none }
def pastKeepsRow : OpenClaim := { program := "ytlojmmcagglpoaa", sum := "0b126aeb294cc5305bdbca53ed441306795a5679de5c4cc03f9cb10035ac67f7", func := "heron/heronlaw15.PastKeeps", spec := "pastKeeps", inPlace := ["internal/bytealg.IndexByteString", "internal/bytealg.IndexString", "internal/bytealg.IndexByte"], unfollowed := true, recurses := true, named := ["internal/bytealg.MaxLen"], plainKeys := false, apart := false }
def PastKeepsSaid : Prop := pastKeepsRow.holds Try.pinned (OpenSpec.ofChange pastKeepsSpec)

/-- ITS FALSE NEIGHBOUR: 'it returns false'. Refute it at one input. -/
def pastKeepsWrong : ChangeSpec := { name := "pastKeeps", fn := fun _ => fun
  | [d] => { results := [.lit (.bool false)], args := [d] }
  | _ => none }
def PastKeepsWrongFalsely : Prop := pastKeepsRow.holds Try.pinned (OpenSpec.ofChange pastKeepsWrong)

/-- 'heronlaw15.PastGrows': WHATEVER THE INPUT: true; the input reads as it did. -/
def pastGrowsSpec : ChangeSpec := { name := "pastGrows", fn := fun _ => fun
  | [d1, d2] => { results := [.lit (.bool true)], args := [d1, d2] }
  | _ => none }
def pastGrowsRow : OpenClaim := { program := "ytlojmmcagglpoaa", sum := "0b126aeb294cc5305bdbca53ed441306795a5679de5c4cc03f9cb10035ac67f7", func := "heron/heronlaw15.PastGrows", spec := "pastGrows", inPlace := ["internal/bytealg.IndexByteString", "internal/bytealg.IndexString", "internal/bytealg.IndexByte"], unfollowed := true, recurses := true, named := ["internal/bytealg.MaxLen"], plainKeys := false, apart := false }
def PastGrowsSaid : Prop := pastGrowsRow.holds Try.pinned (OpenSpec.ofChange pastGrowsSpec)

/-- ITS FALSE NEIGHBOUR: 'it returns false'. Refute it at one input. -/
def pastGrowsWrong : ChangeSpec := { name := "pastGrows", fn := fun _ => fun
  | [d1, d2] => { results := [.lit (.bool false)], args := [d1, d2] }
  | _ => none }
def PastGrowsWrongFalsely : Prop := pastGrowsRow.holds Try.pinned (OpenSpec.ofChange pastGrowsWrong)

/-- 'heronlaw17.FollowStood': WHATEVER THE INPUT: true; the input reads as it did. -/
def followStoodSpec : ChangeSpec := { name := "followStood", fn := fun _ => fun
  | [d1, d2, d3] => { results := [.lit (.bool true)], args := [d1, d2, d3] }
  | _ => none }
def followStoodRow : OpenClaim := { program := "ytlojmmcagglpoaa", sum := "0b126aeb294cc5305bdbca53ed441306795a5679de5c4cc03f9cb10035ac67f7", func := "heron/heronlaw17.FollowStood", spec := "followStood", inPlace := ["internal/bytealg.IndexByteString", "internal/bytealg.IndexString"], unfollowed := true, recurses := true, named := ["internal/bytealg.MaxLen"], plainKeys := false, apart := false }
def FollowStoodSaid : Prop := followStoodRow.holds Try.pinned (OpenSpec.ofChange followStoodSpec)

/-- ITS FALSE NEIGHBOUR: 'it returns false'. Refute it at one input. -/
def followStoodWrong : ChangeSpec := { name := "followStood", fn := fun _ => fun
  | [d1, d2, d3] => { results := [.lit (.bool false)], args := [d1, d2, d3] }
  | _ => none }
def FollowStoodWrongFalsely : Prop := followStoodRow.holds Try.pinned (OpenSpec.ofChange followStoodWrong)

/- THE SECOND FORM. 'bulk': how many values and letters a reading holds, each counted each time it is reached (what is shared counts as often as it is met; a slice's spare places count too). A statement '..UptoSaid' is the law's where the arguments, and the package variables that the reading takes, are together of bulk at most 1048576: NARROWER than '..Said'. Prove '..Said' where nothing that the law and all that it calls make is longer than what came in: it says more and counts as full. Else prove '..UptoSaid'. A law counts once. -/
mutual
def uptoBulk {H : Type} : DataW H → Nat
  | .lit (.string bytes) => bytes.length + 1
  | .lit _ => 1
  | .nil => 1
  | .ptr d => uptoBulk d + 1
  | .slice elems spare => uptoBulkAll elems + uptoBulkAll spare + 1
  | .agg parts => uptoBulkAll parts + 1
  | .iface _ d => uptoBulk d + 1
  | .map entries => uptoBulkEntries entries + 1
  | .held _ => 1
def uptoBulkAll {H : Type} : List (DataW H) → Nat
  | [] => 0
  | d :: r => uptoBulk d + uptoBulkAll r
def uptoBulkEntries {H : Type} : List (Lit × DataW H) → Nat
  | [] => 0
  | x :: r => uptoBulkEntry x + uptoBulkEntries r
def uptoBulkEntry {H : Type} : Lit × DataW H → Nat
  | (.string bytes, d) => bytes.length + uptoBulk d + 1
  | (_, d) => uptoBulk d + 1
 end
def uptoSmall : (H : Type) → List (DataW H) → Bool := fun _ ds => decide (uptoBulkAll ds ≤ 1048576)
def OpenSpec.upto (s : _root_.Go.ChangeSpec) : _root_.Go.OpenSpec := { _root_.Go.OpenSpec.ofChange s with cond := some uptoSmall }

/-- 'heronlaw17.FollowAll', WHERE WHAT IT READS IS OF BULK AT MOST 1048576: true; the input reads as it did. -/
def followAllUptoRow : OpenClaim := { program := "ytlojmmcagglpoaa", sum := "0b126aeb294cc5305bdbca53ed441306795a5679de5c4cc03f9cb10035ac67f7", func := "heron/heronlaw17.FollowAll", spec := "followAll", inPlace := ["internal/bytealg.IndexByteString", "internal/bytealg.IndexString"], unfollowed := true, recurses := true, named := ["internal/bytealg.MaxLen"], plainKeys := false, apart := false, narrowed := true }
def FollowAllUptoSaid : Prop := followAllUptoRow.holds Try.pinned (OpenSpec.upto followAllSpec)

/-- 'heronlaw15.PastKeeps', WHERE WHAT IT READS IS OF BULK AT MOST 1048576: true; the input reads as it did. -/
def pastKeepsUptoRow : OpenClaim := { program := "ytlojmmcagglpoaa", sum := "0b126aeb294cc5305bdbca53ed441306795a5679de5c4cc03f9cb10035ac67f7", func := "heron/heronlaw15.PastKeeps", spec := "pastKeeps", inPlace := ["internal/bytealg.IndexByteString", "internal/bytealg.IndexString", "internal/bytealg.IndexByte"], unfollowed := true, recurses := true, named := ["internal/bytealg.MaxLen"], plainKeys := false, apart := false, narrowed := true }
def PastKeepsUptoSaid : Prop := pastKeepsUptoRow.holds Try.pinned (OpenSpec.upto pastKeepsSpec)

/-- 'heronlaw15.PastGrows', WHERE WHAT IT READS IS OF BULK AT MOST 1048576: true; the input reads as it did. -/
def pastGrowsUptoRow : OpenClaim := { program := "ytlojmmcagglpoaa", sum := "0b126aeb294cc5305bdbca53ed441306795a5679de5c4cc03f9cb10035ac67f7", func := "heron/heronlaw15.PastGrows", spec := "pastGrows", inPlace := ["internal/bytealg.IndexByteString", "internal/bytealg.IndexString", "internal/bytealg.IndexByte"], unfollowed := true, recurses := true, named := ["internal/bytealg.MaxLen"], plainKeys := false, apart := false, narrowed := true }
def PastGrowsUptoSaid : Prop := pastGrowsUptoRow.holds Try.pinned (OpenSpec.upto pastGrowsSpec)

/-- 'heronlaw17.FollowStood', WHERE WHAT IT READS IS OF BULK AT MOST 1048576: true; the input reads as it did. -/
def followStoodUptoRow : OpenClaim := { program := "ytlojmmcagglpoaa", sum := "0b126aeb294cc5305bdbca53ed441306795a5679de5c4cc03f9cb10035ac67f7", func := "heron/heronlaw17.FollowStood", spec := "followStood", inPlace := ["internal/bytealg.IndexByteString", "internal/bytealg.IndexString"], unfollowed := true, recurses := true, named := ["internal/bytealg.MaxLen"], plainKeys := false, apart := false, narrowed := true }
def FollowStoodUptoSaid : Prop := followStoodUptoRow.holds Try.pinned (OpenSpec.upto followStoodSpec)

end Rows
end Go.Proofs.Ytlojmmcagglpoaa
