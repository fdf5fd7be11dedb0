/-
  DERIVED. GIVEN WITH THE SEED: THE CARDS: each row of YtjojhfphlnfimaaGreatDoorRows.lean that lists a variable, with what it lists TIED to the program's text (the seventh form; the later family's looks); each row that meets fmt, with fmt's text TOLD by the authors' own Lean function (tested against real Go, not proved from fmt's source: count such statements apart). THE CARD IS WHAT COUNTS. Prove the row's statement (the work); the ties are given (YtjojhfphlnfimaaGreatDoorTie.lean); close each card by the builder's one call (the guide's Derived/Test/ToyasCard.lean, 'card_holds'). Laid BY PROGRAM, IN A SANDBOX (cutbox-door.mjs). By AI agents, Wed Nov 11 2026. No macro, syntax, notation, axiom, sorry.
-/
import Derived.Test.YtjojhfphlnfimaaGreatDoorRows
import GoSem.ClaimSeven
namespace Go.Proofs.YtjojhfphlnfimaaGreatDoor
namespace Rows

/-- THE TIED CARD OF 'jotterlaw11.ClientOnce'. -/
def clientOnceCard : Claim7 := { stood := { row := clientOnceRow, standIns := [], harness := (true, "78f672ec6c47b6eb80d6f034eef356866cd0a3584abe53fa106db5a8db1c07df"), looks := true }, kinds := [], alts := [], laidByText := true, laidKinds := [.handle, .data, .funcs, .data, .widerDeep], laidTests := true, laidLooks := .later }
def ClientOnceCardSaid : Prop := Claim7.holds Tryz.pinned (.plain (OpenSpec.ofChange clientOnceSpec)) clientOnceCard

/-- THE TIED CARD OF 'jotterlaw11.ClientText'. -/
def clientTextCard : Claim7 := { stood := { row := clientTextRow, standIns := [], harness := (true, "78f672ec6c47b6eb80d6f034eef356866cd0a3584abe53fa106db5a8db1c07df"), looks := true }, kinds := [], alts := [], laidByText := true, laidKinds := [.handle, .data, .funcs, .data, .widerDeep], laidTests := true, laidLooks := .later }
def ClientTextCardSaid : Prop := Claim7.holds Tryz.pinned (.plain (OpenSpec.ofChange clientTextSpec)) clientTextCard

/-- THE TIED CARD OF 'jotterlaw11.ClientForms'. -/
def clientFormsCard : Claim7 := { stood := { row := clientFormsRow, standIns := [], harness := (true, "78f672ec6c47b6eb80d6f034eef356866cd0a3584abe53fa106db5a8db1c07df"), looks := true }, kinds := [], alts := [], laidByText := true, laidKinds := [.handle, .data, .funcs, .data, .widerDeep], laidTests := true, laidLooks := .later }
def ClientFormsCardSaid : Prop := Claim7.holds Tryz.pinned (.plain (OpenSpec.ofChange clientFormsSpec)) clientFormsCard

/-- THE TIED CARD OF 'jotterlaw11.ClientSends'. -/
def clientSendsCard : Claim7 := { stood := { row := clientSendsRow, standIns := [], harness := (true, "78f672ec6c47b6eb80d6f034eef356866cd0a3584abe53fa106db5a8db1c07df"), looks := true }, kinds := [], alts := [], laidByText := true, laidKinds := [.handle, .data, .funcs, .data, .widerDeep], laidTests := true, laidLooks := .later }
def ClientSendsCardSaid : Prop := Claim7.holds Tryz.pinned (.plain (OpenSpec.ofChange clientSendsSpec)) clientSendsCard

/-- THE SECOND FORM's CARD OF 'jotterlaw11.ClientOnce'. -/
def clientOnceUptoCard : Claim7 := { stood := { row := clientOnceUptoRow, standIns := [], harness := (true, "78f672ec6c47b6eb80d6f034eef356866cd0a3584abe53fa106db5a8db1c07df"), looks := true }, kinds := [], alts := [], laidByText := true, laidKinds := [.handle, .data, .funcs, .data, .widerDeep], laidTests := true, laidLooks := .later }
def ClientOnceUptoCardSaid : Prop := Claim7.holds Tryz.pinned (.plain (OpenSpec.upto clientOnceSpec)) clientOnceUptoCard

/-- THE SECOND FORM's CARD OF 'jotterlaw11.ClientText'. -/
def clientTextUptoCard : Claim7 := { stood := { row := clientTextUptoRow, standIns := [], harness := (true, "78f672ec6c47b6eb80d6f034eef356866cd0a3584abe53fa106db5a8db1c07df"), looks := true }, kinds := [], alts := [], laidByText := true, laidKinds := [.handle, .data, .funcs, .data, .widerDeep], laidTests := true, laidLooks := .later }
def ClientTextUptoCardSaid : Prop := Claim7.holds Tryz.pinned (.plain (OpenSpec.upto clientTextSpec)) clientTextUptoCard

/-- THE SECOND FORM's CARD OF 'jotterlaw11.ClientForms'. -/
def clientFormsUptoCard : Claim7 := { stood := { row := clientFormsUptoRow, standIns := [], harness := (true, "78f672ec6c47b6eb80d6f034eef356866cd0a3584abe53fa106db5a8db1c07df"), looks := true }, kinds := [], alts := [], laidByText := true, laidKinds := [.handle, .data, .funcs, .data, .widerDeep], laidTests := true, laidLooks := .later }
def ClientFormsUptoCardSaid : Prop := Claim7.holds Tryz.pinned (.plain (OpenSpec.upto clientFormsSpec)) clientFormsUptoCard

/-- THE SECOND FORM's CARD OF 'jotterlaw11.ClientSends'. -/
def clientSendsUptoCard : Claim7 := { stood := { row := clientSendsUptoRow, standIns := [], harness := (true, "78f672ec6c47b6eb80d6f034eef356866cd0a3584abe53fa106db5a8db1c07df"), looks := true }, kinds := [], alts := [], laidByText := true, laidKinds := [.handle, .data, .funcs, .data, .widerDeep], laidTests := true, laidLooks := .later }
def ClientSendsUptoCardSaid : Prop := Claim7.holds Tryz.pinned (.plain (OpenSpec.upto clientSendsSpec)) clientSendsUptoCard
end Rows
end Go.Proofs.YtjojhfphlnfimaaGreatDoor
