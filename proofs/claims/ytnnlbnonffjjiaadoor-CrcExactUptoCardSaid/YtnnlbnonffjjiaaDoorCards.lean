/-
  DERIVED. GIVEN WITH THE SEED: THE CARDS: each row of YtnnlbnonffjjiaaDoorRows.lean that lists a variable, with what it lists TIED to the program's text (the seventh form; the later family's looks); each row that meets fmt, with fmt's text TOLD by the authors' own Lean function (tested against real Go, not proved from fmt's source: count such statements apart). THE CARD IS WHAT COUNTS. Prove the row's statement (the work); the ties are given (YtnnlbnonffjjiaaDoorTie.lean); close each card by the builder's one call (the guide's Derived/Test/ToyasCard.lean, 'card_holds'). Laid BY PROGRAM, IN A SANDBOX (cutbox-door.mjs). By AI agents, Wed Nov 11 2026. No macro, syntax, notation, axiom, sorry.
-/
import Derived.Test.YtnnlbnonffjjiaaDoorRows
import GoSem.ClaimSeven
namespace Go.Proofs.YtnnlbnonffjjiaaDoor
namespace Rows

/-- THE TIED CARD OF 'heronlaw01.CrcExact'. -/
def crcExactCard : Claim7 := { stood := { row := crcExactRow, standIns := [], harness := (true, "688f36e45210daeccefb83200740d1968af4e1fc534ab29b52e34412c591b7af"), looks := false }, kinds := [], alts := [], laidByText := true, laidKinds := [.data], laidTests := true, laidLooks := .later }
def CrcExactCardSaid : Prop := Claim7.holds Tryd.pinned (.plain (OpenSpec.ofChange crcExactSpec)) crcExactCard

/-- THE TIED CARD OF 'heronlaw01.CrcPieces'. -/
def crcPiecesCard : Claim7 := { stood := { row := crcPiecesRow, standIns := [], harness := (true, "688f36e45210daeccefb83200740d1968af4e1fc534ab29b52e34412c591b7af"), looks := false }, kinds := [], alts := [], laidByText := true, laidKinds := [.data], laidTests := true, laidLooks := .later }
def CrcPiecesCardSaid : Prop := Claim7.holds Tryd.pinned (.plain (OpenSpec.ofChange crcPiecesSpec)) crcPiecesCard

/-- THE TIED CARD OF 'heronlaw01.CrcBursts'. -/
def crcBurstsCard : Claim7 := { stood := { row := crcBurstsRow, standIns := [], harness := (true, "688f36e45210daeccefb83200740d1968af4e1fc534ab29b52e34412c591b7af"), looks := false }, kinds := [], alts := [], laidByText := true, laidKinds := [.data], laidTests := true, laidLooks := .later }
def CrcBurstsCardSaid : Prop := Claim7.holds Tryd.pinned (.plain (OpenSpec.ofChange crcBurstsSpec)) crcBurstsCard

/-- THE TIED CARD OF 'heronlaw01.CrcAgain'. -/
def crcAgainCard : Claim7 := { stood := { row := crcAgainRow, standIns := [], harness := (true, "688f36e45210daeccefb83200740d1968af4e1fc534ab29b52e34412c591b7af"), looks := false }, kinds := [], alts := [], laidByText := true, laidKinds := [.data], laidTests := true, laidLooks := .later }
def CrcAgainCardSaid : Prop := Claim7.holds Tryd.pinned (.plain (OpenSpec.ofChange crcAgainSpec)) crcAgainCard

/-- THE SECOND FORM's CARD OF 'heronlaw01.CrcExact'. -/
def crcExactUptoCard : Claim7 := { stood := { row := crcExactUptoRow, standIns := [], harness := (true, "688f36e45210daeccefb83200740d1968af4e1fc534ab29b52e34412c591b7af"), looks := false }, kinds := [], alts := [], laidByText := true, laidKinds := [.data], laidTests := true, laidLooks := .later }
def CrcExactUptoCardSaid : Prop := Claim7.holds Tryd.pinned (.plain (OpenSpec.upto crcExactSpec)) crcExactUptoCard

/-- THE SECOND FORM's CARD OF 'heronlaw01.CrcPieces'. -/
def crcPiecesUptoCard : Claim7 := { stood := { row := crcPiecesUptoRow, standIns := [], harness := (true, "688f36e45210daeccefb83200740d1968af4e1fc534ab29b52e34412c591b7af"), looks := false }, kinds := [], alts := [], laidByText := true, laidKinds := [.data], laidTests := true, laidLooks := .later }
def CrcPiecesUptoCardSaid : Prop := Claim7.holds Tryd.pinned (.plain (OpenSpec.upto crcPiecesSpec)) crcPiecesUptoCard

/-- THE SECOND FORM's CARD OF 'heronlaw01.CrcBursts'. -/
def crcBurstsUptoCard : Claim7 := { stood := { row := crcBurstsUptoRow, standIns := [], harness := (true, "688f36e45210daeccefb83200740d1968af4e1fc534ab29b52e34412c591b7af"), looks := false }, kinds := [], alts := [], laidByText := true, laidKinds := [.data], laidTests := true, laidLooks := .later }
def CrcBurstsUptoCardSaid : Prop := Claim7.holds Tryd.pinned (.plain (OpenSpec.upto crcBurstsSpec)) crcBurstsUptoCard

/-- THE SECOND FORM's CARD OF 'heronlaw01.CrcAgain'. -/
def crcAgainUptoCard : Claim7 := { stood := { row := crcAgainUptoRow, standIns := [], harness := (true, "688f36e45210daeccefb83200740d1968af4e1fc534ab29b52e34412c591b7af"), looks := false }, kinds := [], alts := [], laidByText := true, laidKinds := [.data], laidTests := true, laidLooks := .later }
def CrcAgainUptoCardSaid : Prop := Claim7.holds Tryd.pinned (.plain (OpenSpec.upto crcAgainSpec)) crcAgainUptoCard
end Rows
end Go.Proofs.YtnnlbnonffjjiaaDoor
