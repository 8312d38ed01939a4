/-
  DERIVED. GIVEN WITH THE SEED: THE CARDS: each row of YtnglgppdkohhpaaDoorRows.lean that lists a variable, with what it lists TIED to the program's text (the seventh form; the later family's looks); each row that meets fmt, with fmt's text TOLD by the authors' own Lean function (tested against real Go, not proved from fmt's source: count such statements apart). THE CARD IS WHAT COUNTS. Prove the row's statement (the work); the ties are given (YtnglgppdkohhpaaDoorTie.lean); close each card by the builder's one call (the guide's Derived/Test/ToyasCard.lean, 'card_holds'). Laid BY PROGRAM, IN A SANDBOX (cutbox-door.mjs). By AI agents, Wed Nov 11 2026. No macro, syntax, notation, axiom, sorry.
-/
import Derived.Test.YtnglgppdkohhpaaDoorRows
import GoSem.ClaimSeven
namespace Go.Proofs.YtnglgppdkohhpaaDoor
namespace Rows

/-- THE TIED CARD OF 'heronlaw12.TableEncodes'. -/
def tableEncodesCard : Claim7 := { stood := { row := tableEncodesRow, standIns := [], harness := (true, "a75e16befdfd27ef93d58a42987522442c7062283446be8cfccd2d86d333b49d"), looks := false }, kinds := [], alts := [], laidByText := true, laidKinds := [.data], laidTests := true, laidLooks := .later }
def TableEncodesCardSaid : Prop := Claim7.holds Tryd.pinned (.plain (OpenSpec.ofChange tableEncodesSpec)) tableEncodesCard

/-- THE TIED CARD OF 'heronlaw12.TableDecodes'. -/
def tableDecodesCard : Claim7 := { stood := { row := tableDecodesRow, standIns := [], harness := (true, "a75e16befdfd27ef93d58a42987522442c7062283446be8cfccd2d86d333b49d"), looks := false }, kinds := [], alts := [], laidByText := true, laidKinds := [.data], laidTests := true, laidLooks := .later }
def TableDecodesCardSaid : Prop := Claim7.holds Tryd.pinned (.plain (OpenSpec.ofChange tableDecodesSpec)) tableDecodesCard

/-- THE TIED CARD OF 'heronlaw12.TableSpoilt'. -/
def tableSpoiltCard : Claim7 := { stood := { row := tableSpoiltRow, standIns := [], harness := (true, "a75e16befdfd27ef93d58a42987522442c7062283446be8cfccd2d86d333b49d"), looks := false }, kinds := [], alts := [], laidByText := true, laidKinds := [.data], laidTests := true, laidLooks := .later }
def TableSpoiltCardSaid : Prop := Claim7.holds Tryd.pinned (.plain (OpenSpec.ofChange tableSpoiltSpec)) tableSpoiltCard

/-- THE TIED CARD OF 'heronlaw12.TableBack'. -/
def tableBackCard : Claim7 := { stood := { row := tableBackRow, standIns := [], harness := (true, "a75e16befdfd27ef93d58a42987522442c7062283446be8cfccd2d86d333b49d"), looks := false }, kinds := [], alts := [], laidByText := true, laidKinds := [.data], laidTests := true, laidLooks := .later }
def TableBackCardSaid : Prop := Claim7.holds Tryd.pinned (.plain (OpenSpec.ofChange tableBackSpec)) tableBackCard

/-- THE SECOND FORM's CARD OF 'heronlaw12.TableEncodes'. -/
def tableEncodesUptoCard : Claim7 := { stood := { row := tableEncodesUptoRow, standIns := [], harness := (true, "a75e16befdfd27ef93d58a42987522442c7062283446be8cfccd2d86d333b49d"), looks := false }, kinds := [], alts := [], laidByText := true, laidKinds := [.data], laidTests := true, laidLooks := .later }
def TableEncodesUptoCardSaid : Prop := Claim7.holds Tryd.pinned (.plain (OpenSpec.upto tableEncodesSpec)) tableEncodesUptoCard

/-- THE SECOND FORM's CARD OF 'heronlaw12.TableDecodes'. -/
def tableDecodesUptoCard : Claim7 := { stood := { row := tableDecodesUptoRow, standIns := [], harness := (true, "a75e16befdfd27ef93d58a42987522442c7062283446be8cfccd2d86d333b49d"), looks := false }, kinds := [], alts := [], laidByText := true, laidKinds := [.data], laidTests := true, laidLooks := .later }
def TableDecodesUptoCardSaid : Prop := Claim7.holds Tryd.pinned (.plain (OpenSpec.upto tableDecodesSpec)) tableDecodesUptoCard

/-- THE SECOND FORM's CARD OF 'heronlaw12.TableSpoilt'. -/
def tableSpoiltUptoCard : Claim7 := { stood := { row := tableSpoiltUptoRow, standIns := [], harness := (true, "a75e16befdfd27ef93d58a42987522442c7062283446be8cfccd2d86d333b49d"), looks := false }, kinds := [], alts := [], laidByText := true, laidKinds := [.data], laidTests := true, laidLooks := .later }
def TableSpoiltUptoCardSaid : Prop := Claim7.holds Tryd.pinned (.plain (OpenSpec.upto tableSpoiltSpec)) tableSpoiltUptoCard

/-- THE SECOND FORM's CARD OF 'heronlaw12.TableBack'. -/
def tableBackUptoCard : Claim7 := { stood := { row := tableBackUptoRow, standIns := [], harness := (true, "a75e16befdfd27ef93d58a42987522442c7062283446be8cfccd2d86d333b49d"), looks := false }, kinds := [], alts := [], laidByText := true, laidKinds := [.data], laidTests := true, laidLooks := .later }
def TableBackUptoCardSaid : Prop := Claim7.holds Tryd.pinned (.plain (OpenSpec.upto tableBackSpec)) tableBackUptoCard
end Rows
end Go.Proofs.YtnglgppdkohhpaaDoor
