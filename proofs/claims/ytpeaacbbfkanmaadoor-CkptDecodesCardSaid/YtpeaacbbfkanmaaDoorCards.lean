/-
  DERIVED. GIVEN WITH THE SEED: THE CARDS: each row of YtpeaacbbfkanmaaDoorRows.lean that lists a variable, with what it lists TIED to the program's text (the seventh form; the later family's looks); each row that meets fmt, with fmt's text TOLD by the authors' own Lean function (tested against real Go, not proved from fmt's source: count such statements apart). THE CARD IS WHAT COUNTS. Prove the row's statement (the work); the ties are given (YtpeaacbbfkanmaaDoorTie.lean); close each card by the builder's one call (the guide's Derived/Test/ToyasCard.lean, 'card_holds'). Laid BY PROGRAM, IN A SANDBOX (cutbox-door.mjs). By AI agents, Wed Nov 11 2026. No macro, syntax, notation, axiom, sorry.
-/
import Derived.Test.YtpeaacbbfkanmaaDoorRows
import GoSem.ClaimSeven
namespace Go.Proofs.YtpeaacbbfkanmaaDoor
namespace Rows

/-- THE TIED CARD OF 'heronlaw21.CkptEncodes'. -/
def ckptEncodesCard : Claim7 := { stood := { row := ckptEncodesRow, standIns := [], harness := (true, "7696dd31a62a3380b05faa88db0669523f824b1e8b5bf2dab666e731d9474b5a"), looks := false }, kinds := [], alts := [], laidByText := true, laidKinds := [.data], laidTests := true, laidLooks := .later }
def CkptEncodesCardSaid : Prop := Claim7.holds Tryd.pinned (.plain (OpenSpec.ofChange ckptEncodesSpec)) ckptEncodesCard

/-- THE TIED CARD OF 'heronlaw21.CkptDecodes'. -/
def ckptDecodesCard : Claim7 := { stood := { row := ckptDecodesRow, standIns := [], harness := (true, "7696dd31a62a3380b05faa88db0669523f824b1e8b5bf2dab666e731d9474b5a"), looks := false }, kinds := [], alts := [], laidByText := true, laidKinds := [.data], laidTests := true, laidLooks := .later }
def CkptDecodesCardSaid : Prop := Claim7.holds Tryd.pinned (.plain (OpenSpec.ofChange ckptDecodesSpec)) ckptDecodesCard

/-- THE TIED CARD OF 'heronlaw21.CkptBack'. -/
def ckptBackCard : Claim7 := { stood := { row := ckptBackRow, standIns := [], harness := (true, "7696dd31a62a3380b05faa88db0669523f824b1e8b5bf2dab666e731d9474b5a"), looks := false }, kinds := [], alts := [], laidByText := true, laidKinds := [.data], laidTests := true, laidLooks := .later }
def CkptBackCardSaid : Prop := Claim7.holds Tryd.pinned (.plain (OpenSpec.ofChange ckptBackSpec)) ckptBackCard

/-- THE TIED CARD OF 'heronlaw21.CkptSpoilt'. -/
def ckptSpoiltCard : Claim7 := { stood := { row := ckptSpoiltRow, standIns := [], harness := (true, "7696dd31a62a3380b05faa88db0669523f824b1e8b5bf2dab666e731d9474b5a"), looks := false }, kinds := [], alts := [], laidByText := true, laidKinds := [.data], laidTests := true, laidLooks := .later }
def CkptSpoiltCardSaid : Prop := Claim7.holds Tryd.pinned (.plain (OpenSpec.ofChange ckptSpoiltSpec)) ckptSpoiltCard

/-- THE SECOND FORM's CARD OF 'heronlaw21.CkptEncodes'. -/
def ckptEncodesUptoCard : Claim7 := { stood := { row := ckptEncodesUptoRow, standIns := [], harness := (true, "7696dd31a62a3380b05faa88db0669523f824b1e8b5bf2dab666e731d9474b5a"), looks := false }, kinds := [], alts := [], laidByText := true, laidKinds := [.data], laidTests := true, laidLooks := .later }
def CkptEncodesUptoCardSaid : Prop := Claim7.holds Tryd.pinned (.plain (OpenSpec.upto ckptEncodesSpec)) ckptEncodesUptoCard

/-- THE SECOND FORM's CARD OF 'heronlaw21.CkptDecodes'. -/
def ckptDecodesUptoCard : Claim7 := { stood := { row := ckptDecodesUptoRow, standIns := [], harness := (true, "7696dd31a62a3380b05faa88db0669523f824b1e8b5bf2dab666e731d9474b5a"), looks := false }, kinds := [], alts := [], laidByText := true, laidKinds := [.data], laidTests := true, laidLooks := .later }
def CkptDecodesUptoCardSaid : Prop := Claim7.holds Tryd.pinned (.plain (OpenSpec.upto ckptDecodesSpec)) ckptDecodesUptoCard

/-- THE SECOND FORM's CARD OF 'heronlaw21.CkptBack'. -/
def ckptBackUptoCard : Claim7 := { stood := { row := ckptBackUptoRow, standIns := [], harness := (true, "7696dd31a62a3380b05faa88db0669523f824b1e8b5bf2dab666e731d9474b5a"), looks := false }, kinds := [], alts := [], laidByText := true, laidKinds := [.data], laidTests := true, laidLooks := .later }
def CkptBackUptoCardSaid : Prop := Claim7.holds Tryd.pinned (.plain (OpenSpec.upto ckptBackSpec)) ckptBackUptoCard

/-- THE SECOND FORM's CARD OF 'heronlaw21.CkptSpoilt'. -/
def ckptSpoiltUptoCard : Claim7 := { stood := { row := ckptSpoiltUptoRow, standIns := [], harness := (true, "7696dd31a62a3380b05faa88db0669523f824b1e8b5bf2dab666e731d9474b5a"), looks := false }, kinds := [], alts := [], laidByText := true, laidKinds := [.data], laidTests := true, laidLooks := .later }
def CkptSpoiltUptoCardSaid : Prop := Claim7.holds Tryd.pinned (.plain (OpenSpec.upto ckptSpoiltSpec)) ckptSpoiltUptoCard
end Rows
end Go.Proofs.YtpeaacbbfkanmaaDoor
