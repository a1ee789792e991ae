/-
  DERIVED. GIVEN WITH THE SEED: THE CARDS: each row of YtfjlhoglgdmmaaaGreatDoorRows.lean that lists a variable, with what it lists TIED to the program's text (the seventh form; the later family's looks); each row that meets fmt, with fmt's text TOLD by the authors' own Lean function (tested against real Go, not proved from fmt's source: count such statements apart). THE CARD IS WHAT COUNTS. Prove the row's statement (the work); the ties are given (YtfjlhoglgdmmaaaGreatDoorTie.lean); close each card by the builder's one call (the guide's Derived/Test/ToyasCard.lean, 'card_holds'). Laid BY PROGRAM, IN A SANDBOX (cutbox-door.mjs). By AI agents, Wed Nov 11 2026. No macro, syntax, notation, axiom, sorry.
-/
import Derived.Test.YtfjlhoglgdmmaaaGreatDoorRows
import GoSem.ClaimSeven
namespace Go.Proofs.YtfjlhoglgdmmaaaGreatDoor
namespace Rows

/-- THE TIED CARD OF 'cincturelaw25.CheckNone'. -/
def checkNoneCard : Claim7 := { stood := { row := checkNoneRow, standIns := [], harness := (true, "646fc57523e380f88d4c84e960542e91077372fbce1c9fbff633294d69ca636f"), looks := false }, kinds := [], alts := [], laidByText := true, laidKinds := [.data, .data], laidTests := true, laidLooks := .later }
def CheckNoneCardSaid : Prop := Claim7.holds Tryz.pinned (.plain (OpenSpec.ofChange checkNoneSpec)) checkNoneCard

/-- THE TIED CARD OF 'cincturelaw28.WholeReports'. -/
def wholeReportsCard : Claim7 := { stood := { row := wholeReportsRow, standIns := [], harness := (true, "646fc57523e380f88d4c84e960542e91077372fbce1c9fbff633294d69ca636f"), looks := false }, kinds := [], alts := [], laidByText := true, laidKinds := [.data, .data, .data, .data], laidTests := true, laidLooks := .later }
def WholeReportsCardSaid : Prop := Claim7.holds Tryz.pinned (.plain (OpenSpec.ofChange wholeReportsSpec)) wholeReportsCard

/-- THE SECOND FORM's CARD OF 'cincturelaw25.CheckNone'. -/
def checkNoneUptoCard : Claim7 := { stood := { row := checkNoneUptoRow, standIns := [], harness := (true, "646fc57523e380f88d4c84e960542e91077372fbce1c9fbff633294d69ca636f"), looks := false }, kinds := [], alts := [], laidByText := true, laidKinds := [.data, .data], laidTests := true, laidLooks := .later }
def CheckNoneUptoCardSaid : Prop := Claim7.holds Tryz.pinned (.plain (OpenSpec.upto checkNoneSpec)) checkNoneUptoCard

/-- THE SECOND FORM's CARD OF 'cincturelaw28.WholeReports'. -/
def wholeReportsUptoCard : Claim7 := { stood := { row := wholeReportsUptoRow, standIns := [], harness := (true, "646fc57523e380f88d4c84e960542e91077372fbce1c9fbff633294d69ca636f"), looks := false }, kinds := [], alts := [], laidByText := true, laidKinds := [.data, .data, .data, .data], laidTests := true, laidLooks := .later }
def WholeReportsUptoCardSaid : Prop := Claim7.holds Tryz.pinned (.plain (OpenSpec.upto wholeReportsSpec)) wholeReportsUptoCard
end Rows
end Go.Proofs.YtfjlhoglgdmmaaaGreatDoor
