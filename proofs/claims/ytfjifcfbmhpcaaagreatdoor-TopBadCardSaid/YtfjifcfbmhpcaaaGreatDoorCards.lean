/-
  DERIVED. GIVEN WITH THE SEED: THE CARDS: each row of YtfjifcfbmhpcaaaGreatDoorRows.lean that lists a variable, with what it lists TIED to the program's text (the seventh form; the later family's looks); each row that meets fmt, with fmt's text TOLD by the authors' own Lean function (tested against real Go, not proved from fmt's source: count such statements apart). THE CARD IS WHAT COUNTS. Prove the row's statement (the work); the ties are given (YtfjifcfbmhpcaaaGreatDoorTie.lean); close each card by the builder's one call (the guide's Derived/Test/ToyasCard.lean, 'card_holds'). Laid BY PROGRAM, IN A SANDBOX (cutbox-door.mjs). By AI agents, Wed Nov 11 2026. No macro, syntax, notation, axiom, sorry.
-/
import Derived.Test.YtfjifcfbmhpcaaaGreatDoorRows
import GoSem.ClaimSeven
namespace Go.Proofs.YtfjifcfbmhpcaaaGreatDoor
namespace Rows

/-- THE TIED CARD OF 'subwaytop.TopEcho'. -/
def topEchoCard : Claim7 := { stood := { row := topEchoRow, standIns := [], harness := (true, "df94d0252967944bb532234c22c6a26446cf7254720b3410229380bc615bdeaf"), looks := true }, kinds := [], alts := [], laidByText := true, laidKinds := [.data, .data, .data, .data, .pinned], laidTests := true, laidLooks := .later }
def TopEchoCardSaid : Prop := Claim7.holds Tryz.pinned (.plain (OpenSpec.ofChange topEchoSpec)) topEchoCard

/-- THE TIED CARD OF 'subwaytop.TopEvicted'. -/
def topEvictedCard : Claim7 := { stood := { row := topEvictedRow, standIns := [], harness := (true, "df94d0252967944bb532234c22c6a26446cf7254720b3410229380bc615bdeaf"), looks := true }, kinds := [], alts := [], laidByText := true, laidKinds := [.data, .data, .data, .data, .pinned], laidTests := true, laidLooks := .later }
def TopEvictedCardSaid : Prop := Claim7.holds Tryz.pinned (.plain (OpenSpec.ofChange topEvictedSpec)) topEvictedCard

/-- THE TIED CARD OF 'subwaytop.TopBad'. -/
def topBadCard : Claim7 := { stood := { row := topBadRow, standIns := [], harness := (true, "df94d0252967944bb532234c22c6a26446cf7254720b3410229380bc615bdeaf"), looks := true }, kinds := [], alts := [], laidByText := true, laidKinds := [.data, .data, .data, .data, .pinned], laidTests := true, laidLooks := .later }
def TopBadCardSaid : Prop := Claim7.holds Tryz.pinned (.plain (OpenSpec.ofChange topBadSpec)) topBadCard

/-- THE SECOND FORM's CARD OF 'subwaytop.TopEcho'. -/
def topEchoUptoCard : Claim7 := { stood := { row := topEchoUptoRow, standIns := [], harness := (true, "df94d0252967944bb532234c22c6a26446cf7254720b3410229380bc615bdeaf"), looks := true }, kinds := [], alts := [], laidByText := true, laidKinds := [.data, .data, .data, .data, .pinned], laidTests := true, laidLooks := .later }
def TopEchoUptoCardSaid : Prop := Claim7.holds Tryz.pinned (.plain (OpenSpec.upto topEchoSpec)) topEchoUptoCard

/-- THE SECOND FORM's CARD OF 'subwaytop.TopEvicted'. -/
def topEvictedUptoCard : Claim7 := { stood := { row := topEvictedUptoRow, standIns := [], harness := (true, "df94d0252967944bb532234c22c6a26446cf7254720b3410229380bc615bdeaf"), looks := true }, kinds := [], alts := [], laidByText := true, laidKinds := [.data, .data, .data, .data, .pinned], laidTests := true, laidLooks := .later }
def TopEvictedUptoCardSaid : Prop := Claim7.holds Tryz.pinned (.plain (OpenSpec.upto topEvictedSpec)) topEvictedUptoCard

/-- THE SECOND FORM's CARD OF 'subwaytop.TopBad'. -/
def topBadUptoCard : Claim7 := { stood := { row := topBadUptoRow, standIns := [], harness := (true, "df94d0252967944bb532234c22c6a26446cf7254720b3410229380bc615bdeaf"), looks := true }, kinds := [], alts := [], laidByText := true, laidKinds := [.data, .data, .data, .data, .pinned], laidTests := true, laidLooks := .later }
def TopBadUptoCardSaid : Prop := Claim7.holds Tryz.pinned (.plain (OpenSpec.upto topBadSpec)) topBadUptoCard
end Rows
end Go.Proofs.YtfjifcfbmhpcaaaGreatDoor
