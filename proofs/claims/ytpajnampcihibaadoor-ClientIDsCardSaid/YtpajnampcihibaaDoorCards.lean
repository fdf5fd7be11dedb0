/-
  DERIVED. GIVEN WITH THE SEED: THE CARDS: each row of YtpajnampcihibaaDoorRows.lean that lists a variable, with what it lists TIED to the program's text (the seventh form; the later family's looks); each row that meets fmt, with fmt's text TOLD by the authors' own Lean function (tested against real Go, not proved from fmt's source: count such statements apart). THE CARD IS WHAT COUNTS. Prove the row's statement (the work); the ties are given (YtpajnampcihibaaDoorTie.lean); close each card by the builder's one call (the guide's Derived/Test/ToyasCard.lean, 'card_holds'). Laid BY PROGRAM, IN A SANDBOX (cutbox-door.mjs). By AI agents, Wed Nov 11 2026. No macro, syntax, notation, axiom, sorry.
-/
import Derived.Test.YtpajnampcihibaaDoorRows
import GoSem.ClaimSeven
namespace Go.Proofs.YtpajnampcihibaaDoor
namespace Rows

/-- THE TIED CARD OF 'jotterlaw11.ClientIDs'. -/
def clientIDsCard : Claim7 := { stood := { row := clientIDsRow, standIns := [], harness := (true, "664f4fb8bf8dd6a8c402f7e4e10edec7b8c7eeab035c241a3cd2dbc8ecf9c855"), looks := false }, kinds := [], alts := [], laidByText := true, laidKinds := [.data, .data, .widerDeep], laidTests := true, laidLooks := .later }
def ClientIDsCardSaid : Prop := Claim7.holds Tryd.pinned (.plain (OpenSpec.ofChange clientIDsSpec)) clientIDsCard

/-- THE SECOND FORM's CARD OF 'jotterlaw11.ClientIDs'. -/
def clientIDsUptoCard : Claim7 := { stood := { row := clientIDsUptoRow, standIns := [], harness := (true, "664f4fb8bf8dd6a8c402f7e4e10edec7b8c7eeab035c241a3cd2dbc8ecf9c855"), looks := false }, kinds := [], alts := [], laidByText := true, laidKinds := [.data, .data, .widerDeep], laidTests := true, laidLooks := .later }
def ClientIDsUptoCardSaid : Prop := Claim7.holds Tryd.pinned (.plain (OpenSpec.upto clientIDsSpec)) clientIDsUptoCard
end Rows
end Go.Proofs.YtpajnampcihibaaDoor
