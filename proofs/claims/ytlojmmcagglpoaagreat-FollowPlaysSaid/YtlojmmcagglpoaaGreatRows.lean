/-
  No cell of these rows narrows 'for every input' (looked for: loops, veiled, ifaces, maps, wideKeys, modest, calm, conditions, laid).
  DERIVED. THE GIVEN ROWS OF THIS SEAT. 4 by the template 'for every input the law returns true; each argument reads behind the call as it read before'; 0 by the template 'total and deterministic' (their statements: YtlojmmcagglpoaaGreatTotals.lean).
  GIVEN WITH THE SEED: the statements are not yours to turn. If you find one false, say at which input.
  Laid BY PROGRAM, IN A SANDBOX (cutbox-rows.mjs): the forced cells as the released guide's own fill.sh prints them over the translation 4497f6f2c5909920… (all of the seat's roots in one cut). By AI agents, Wed Nov 11 2026. No macro, syntax, notation, axiom, sorry.
-/
import Derived.Test.YtlojmmcagglpoaaGreatChecked
import GoSem.Claim
import GoSem.ClaimJoined
import GoSem.ClaimMapViews
import Derived.JoinedTies
import Derived.KernelRfl
namespace Go.Proofs.YtlojmmcagglpoaaGreat
/- THE CELL 'sum', in the pinned program and in every row, IS THE sha256 OF THE DUMP (.gsa) THAT YtlojmmcagglpoaaGreatProg.lean LOADS. Nothing in Lean hashes anything: it is a label: what it is worth is what the hold of that sum in a sandbox is worth. -/
noncomputable def Tryz.pinned : Pinned := { name := "ytlojmmcagglpoaagreat", sum := "4497f6f2c5909920eba005fff885c6cdb08bdd13d821cc32937e9331e6185fb7", checked := Tryz.checked }
namespace Rows
def none {H : Type} : Left H := { results := [], args := [] }

/-- 'heronlaw14.SimfsPlays': WHATEVER THE INPUT: true; the input reads as it did. -/
def simfsPlaysSpec : ChangeSpec := { name := "simfsPlays", fn := fun _ => fun
  | [d] => { results := [.lit (.bool true)], args := [d] }
  | _ => none }
def simfsPlaysRow : OpenClaim := { program := "ytlojmmcagglpoaagreat", sum := "4497f6f2c5909920eba005fff885c6cdb08bdd13d821cc32937e9331e6185fb7", func := "heron/heronlaw14.SimfsPlays", spec := "simfsPlays", inPlace := ["internal/bytealg.IndexByteString", "internal/bytealg.IndexString", "maps.clone"], unfollowed := true, recurses := true, named := ["internal/bytealg.MaxLen"], plainKeys := false, apart := false }
def SimfsPlaysSaid : Prop := simfsPlaysRow.holds Tryz.pinned (OpenSpec.ofChange simfsPlaysSpec)

/-- ITS FALSE NEIGHBOUR: 'it returns false'. Refute it at one input. -/
def simfsPlaysWrong : ChangeSpec := { name := "simfsPlays", fn := fun _ => fun
  | [d] => { results := [.lit (.bool false)], args := [d] }
  | _ => none }
def SimfsPlaysWrongFalsely : Prop := simfsPlaysRow.holds Tryz.pinned (OpenSpec.ofChange simfsPlaysWrong)

/-- 'heronlaw22.StoreExact': WHATEVER THE INPUT: true; the input reads as it did. -/
def storeExactSpec : ChangeSpec := { name := "storeExact", fn := fun _ => fun
  | [d] => { results := [.lit (.bool true)], args := [d] }
  | _ => none }
def storeExactRow : OpenClaim := { program := "ytlojmmcagglpoaagreat", sum := "4497f6f2c5909920eba005fff885c6cdb08bdd13d821cc32937e9331e6185fb7", func := "heron/heronlaw22.StoreExact", spec := "storeExact", inPlace := ["internal/bytealg.IndexByteString", "internal/bytealg.IndexString"], unfollowed := true, recurses := true, named := ["internal/bytealg.MaxLen"], plainKeys := false, apart := false }
def StoreExactSaid : Prop := storeExactRow.holds Tryz.pinned (OpenSpec.ofChange storeExactSpec)

/-- ITS FALSE NEIGHBOUR: 'it returns false'. Refute it at one input. -/
def storeExactWrong : ChangeSpec := { name := "storeExact", fn := fun _ => fun
  | [d] => { results := [.lit (.bool false)], args := [d] }
  | _ => none }
def StoreExactWrongFalsely : Prop := storeExactRow.holds Tryz.pinned (OpenSpec.ofChange storeExactWrong)

/-- 'heronlaw15.PastPlays': WHATEVER THE INPUT: true; the input reads as it did. -/
def pastPlaysSpec : ChangeSpec := { name := "pastPlays", fn := fun _ => fun
  | [d] => { results := [.lit (.bool true)], args := [d] }
  | _ => none }
def pastPlaysRow : OpenClaim := { program := "ytlojmmcagglpoaagreat", sum := "4497f6f2c5909920eba005fff885c6cdb08bdd13d821cc32937e9331e6185fb7", func := "heron/heronlaw15.PastPlays", spec := "pastPlays", inPlace := ["internal/bytealg.IndexByteString", "internal/bytealg.IndexString", "internal/bytealg.IndexByte", "maps.clone"], unfollowed := true, recurses := true, named := ["internal/bytealg.MaxLen"], plainKeys := false, apart := false }
def PastPlaysSaid : Prop := pastPlaysRow.holds Tryz.pinned (OpenSpec.ofChange pastPlaysSpec)

/-- ITS FALSE NEIGHBOUR: 'it returns false'. Refute it at one input. -/
def pastPlaysWrong : ChangeSpec := { name := "pastPlays", fn := fun _ => fun
  | [d] => { results := [.lit (.bool false)], args := [d] }
  | _ => none }
def PastPlaysWrongFalsely : Prop := pastPlaysRow.holds Tryz.pinned (OpenSpec.ofChange pastPlaysWrong)

/-- 'heronlaw17.FollowPlays': WHATEVER THE INPUT: true; the input reads as it did. -/
def followPlaysSpec : ChangeSpec := { name := "followPlays", fn := fun _ => fun
  | [d1, d2] => { results := [.lit (.bool true)], args := [d1, d2] }
  | _ => none }
def followPlaysRow : OpenClaim := { program := "ytlojmmcagglpoaagreat", sum := "4497f6f2c5909920eba005fff885c6cdb08bdd13d821cc32937e9331e6185fb7", func := "heron/heronlaw17.FollowPlays", spec := "followPlays", inPlace := ["internal/bytealg.IndexByteString", "internal/bytealg.IndexString", "maps.clone"], unfollowed := true, recurses := true, named := ["internal/bytealg.MaxLen"], plainKeys := false, apart := false }
def FollowPlaysSaid : Prop := followPlaysRow.holds Tryz.pinned (OpenSpec.ofChange followPlaysSpec)

/-- ITS FALSE NEIGHBOUR: 'it returns false'. Refute it at one input. -/
def followPlaysWrong : ChangeSpec := { name := "followPlays", fn := fun _ => fun
  | [d1, d2] => { results := [.lit (.bool false)], args := [d1, d2] }
  | _ => none }
def FollowPlaysWrongFalsely : Prop := followPlaysRow.holds Tryz.pinned (OpenSpec.ofChange followPlaysWrong)

/- THE SECOND FORM. 'bulk': how many values and letters a reading holds, each counted each time it is reached (what is shared counts as often as it is met; a slice's spare places count too). A statement '..UptoSaid' is the law's where the arguments, and the package variables that the reading takes, are together of bulk at most 1048576: NARROWER than '..Said'. Prove '..Said' where nothing that the law and all that it calls make is longer than what came in: it says more and counts as full. Else prove '..UptoSaid'. A law counts once. -/
mutual
def uptoBulk {H : Type} : DataW H → Nat
  | .lit (.string bytes) => bytes.length + 1
  | .lit _ => 1
  | .nil => 1
  | .ptr d => uptoBulk d + 1
  | .slice elems spare => uptoBulkAll elems + uptoBulkAll spare + 1
  | .agg parts => uptoBulkAll parts + 1
  | .iface _ d => uptoBulk d + 1
  | .map entries => uptoBulkEntries entries + 1
  | .held _ => 1
def uptoBulkAll {H : Type} : List (DataW H) → Nat
  | [] => 0
  | d :: r => uptoBulk d + uptoBulkAll r
def uptoBulkEntries {H : Type} : List (Lit × DataW H) → Nat
  | [] => 0
  | x :: r => uptoBulkEntry x + uptoBulkEntries r
def uptoBulkEntry {H : Type} : Lit × DataW H → Nat
  | (.string bytes, d) => bytes.length + uptoBulk d + 1
  | (_, d) => uptoBulk d + 1
 end
def uptoSmall : (H : Type) → List (DataW H) → Bool := fun _ ds => decide (uptoBulkAll ds ≤ 1048576)
def OpenSpec.upto (s : _root_.Go.ChangeSpec) : _root_.Go.OpenSpec := { _root_.Go.OpenSpec.ofChange s with cond := some uptoSmall }

/-- 'heronlaw14.SimfsPlays', WHERE WHAT IT READS IS OF BULK AT MOST 1048576: true; the input reads as it did. -/
def simfsPlaysUptoRow : OpenClaim := { program := "ytlojmmcagglpoaagreat", sum := "4497f6f2c5909920eba005fff885c6cdb08bdd13d821cc32937e9331e6185fb7", func := "heron/heronlaw14.SimfsPlays", spec := "simfsPlays", inPlace := ["internal/bytealg.IndexByteString", "internal/bytealg.IndexString", "maps.clone"], unfollowed := true, recurses := true, named := ["internal/bytealg.MaxLen"], plainKeys := false, apart := false, narrowed := true }
def SimfsPlaysUptoSaid : Prop := simfsPlaysUptoRow.holds Tryz.pinned (OpenSpec.upto simfsPlaysSpec)

/-- 'heronlaw22.StoreExact', WHERE WHAT IT READS IS OF BULK AT MOST 1048576: true; the input reads as it did. -/
def storeExactUptoRow : OpenClaim := { program := "ytlojmmcagglpoaagreat", sum := "4497f6f2c5909920eba005fff885c6cdb08bdd13d821cc32937e9331e6185fb7", func := "heron/heronlaw22.StoreExact", spec := "storeExact", inPlace := ["internal/bytealg.IndexByteString", "internal/bytealg.IndexString"], unfollowed := true, recurses := true, named := ["internal/bytealg.MaxLen"], plainKeys := false, apart := false, narrowed := true }
def StoreExactUptoSaid : Prop := storeExactUptoRow.holds Tryz.pinned (OpenSpec.upto storeExactSpec)

/-- 'heronlaw15.PastPlays', WHERE WHAT IT READS IS OF BULK AT MOST 1048576: true; the input reads as it did. -/
def pastPlaysUptoRow : OpenClaim := { program := "ytlojmmcagglpoaagreat", sum := "4497f6f2c5909920eba005fff885c6cdb08bdd13d821cc32937e9331e6185fb7", func := "heron/heronlaw15.PastPlays", spec := "pastPlays", inPlace := ["internal/bytealg.IndexByteString", "internal/bytealg.IndexString", "internal/bytealg.IndexByte", "maps.clone"], unfollowed := true, recurses := true, named := ["internal/bytealg.MaxLen"], plainKeys := false, apart := false, narrowed := true }
def PastPlaysUptoSaid : Prop := pastPlaysUptoRow.holds Tryz.pinned (OpenSpec.upto pastPlaysSpec)

/-- 'heronlaw17.FollowPlays', WHERE WHAT IT READS IS OF BULK AT MOST 1048576: true; the input reads as it did. -/
def followPlaysUptoRow : OpenClaim := { program := "ytlojmmcagglpoaagreat", sum := "4497f6f2c5909920eba005fff885c6cdb08bdd13d821cc32937e9331e6185fb7", func := "heron/heronlaw17.FollowPlays", spec := "followPlays", inPlace := ["internal/bytealg.IndexByteString", "internal/bytealg.IndexString", "maps.clone"], unfollowed := true, recurses := true, named := ["internal/bytealg.MaxLen"], plainKeys := false, apart := false, narrowed := true }
def FollowPlaysUptoSaid : Prop := followPlaysUptoRow.holds Tryz.pinned (OpenSpec.upto followPlaysSpec)

end Rows
end Go.Proofs.YtlojmmcagglpoaaGreat
