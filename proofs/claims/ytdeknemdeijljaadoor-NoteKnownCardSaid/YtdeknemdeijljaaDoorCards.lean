/-
  DERIVED. GIVEN WITH THE SEED: THE CARDS: each row of YtdeknemdeijljaaDoorRows.lean that lists a variable, with what it lists TIED to the program's text (the seventh form; the later family's looks); each row that meets fmt, with fmt's text TOLD by the authors' own Lean function (tested against real Go, not proved from fmt's source: count such statements apart). THE CARD IS WHAT COUNTS. Prove the row's statement (the work); the ties are given (YtdeknemdeijljaaDoorTie.lean); close each card by the builder's one call (the guide's Derived/Test/ToyasCard.lean, 'card_holds'). Laid BY PROGRAM, IN A SANDBOX (cutbox-door.mjs). By AI agents, Wed Nov 11 2026. No macro, syntax, notation, axiom, sorry.
-/
import Derived.Test.YtdeknemdeijljaaDoorRows
import GoSem.ClaimSeven
namespace Go.Proofs.YtdeknemdeijljaaDoor
namespace Rows

/-- THE TIED CARD OF 'beadlelaw21.NoteApart'. -/
def noteApartCard : Claim7 := { stood := { row := noteApartRow, standIns := [], harness := (true, "c30ddd46be1fac33a1844d5dc694f1f6238effd4d6a68e7e5fdb6c8e6b4ecc99"), looks := true }, kinds := [], alts := [], laidByText := true, laidKinds := [.data, .data, .data, .data, .sentinel, .sentinel, .pinned], laidTests := true, laidLooks := .later }
def NoteApartCardSaid : Prop := Claim7.holds Tryd.pinned (.plain (OpenSpec.ofChange noteApartSpec)) noteApartCard

/-- THE TIED CARD OF 'beadlelaw21.NoteLast'. -/
def noteLastCard : Claim7 := { stood := { row := noteLastRow, standIns := [], harness := (true, "c30ddd46be1fac33a1844d5dc694f1f6238effd4d6a68e7e5fdb6c8e6b4ecc99"), looks := true }, kinds := [], alts := [], laidByText := true, laidKinds := [.data, .data, .data, .data, .sentinel, .sentinel, .pinned], laidTests := true, laidLooks := .later }
def NoteLastCardSaid : Prop := Claim7.holds Tryd.pinned (.plain (OpenSpec.ofChange noteLastSpec)) noteLastCard

/-- THE TIED CARD OF 'beadlelaw21.NoteKnown'. -/
def noteKnownCard : Claim7 := { stood := { row := noteKnownRow, standIns := [], harness := (true, "c30ddd46be1fac33a1844d5dc694f1f6238effd4d6a68e7e5fdb6c8e6b4ecc99"), looks := true }, kinds := [], alts := [], laidByText := true, laidKinds := [.data, .data, .data, .data, .sentinel, .sentinel, .pinned], laidTests := true, laidLooks := .later }
def NoteKnownCardSaid : Prop := Claim7.holds Tryd.pinned (.plain (OpenSpec.ofChange noteKnownSpec)) noteKnownCard

/-- THE TIED CARD OF 'beadlelaw21.NotePlays'. -/
def notePlaysCard : Claim7 := { stood := { row := notePlaysRow, standIns := [], harness := (true, "c30ddd46be1fac33a1844d5dc694f1f6238effd4d6a68e7e5fdb6c8e6b4ecc99"), looks := true }, kinds := [], alts := [], laidByText := true, laidKinds := [.data, .data, .data, .data, .sentinel, .sentinel, .pinned], laidTests := true, laidLooks := .later }
def NotePlaysCardSaid : Prop := Claim7.holds Tryd.pinned (.plain (OpenSpec.ofChange notePlaysSpec)) notePlaysCard

/-- THE SECOND FORM's CARD OF 'beadlelaw21.NoteApart'. -/
def noteApartUptoCard : Claim7 := { stood := { row := noteApartUptoRow, standIns := [], harness := (true, "c30ddd46be1fac33a1844d5dc694f1f6238effd4d6a68e7e5fdb6c8e6b4ecc99"), looks := true }, kinds := [], alts := [], laidByText := true, laidKinds := [.data, .data, .data, .data, .sentinel, .sentinel, .pinned], laidTests := true, laidLooks := .later }
def NoteApartUptoCardSaid : Prop := Claim7.holds Tryd.pinned (.plain (OpenSpec.upto noteApartSpec)) noteApartUptoCard

/-- THE SECOND FORM's CARD OF 'beadlelaw21.NoteLast'. -/
def noteLastUptoCard : Claim7 := { stood := { row := noteLastUptoRow, standIns := [], harness := (true, "c30ddd46be1fac33a1844d5dc694f1f6238effd4d6a68e7e5fdb6c8e6b4ecc99"), looks := true }, kinds := [], alts := [], laidByText := true, laidKinds := [.data, .data, .data, .data, .sentinel, .sentinel, .pinned], laidTests := true, laidLooks := .later }
def NoteLastUptoCardSaid : Prop := Claim7.holds Tryd.pinned (.plain (OpenSpec.upto noteLastSpec)) noteLastUptoCard

/-- THE SECOND FORM's CARD OF 'beadlelaw21.NoteKnown'. -/
def noteKnownUptoCard : Claim7 := { stood := { row := noteKnownUptoRow, standIns := [], harness := (true, "c30ddd46be1fac33a1844d5dc694f1f6238effd4d6a68e7e5fdb6c8e6b4ecc99"), looks := true }, kinds := [], alts := [], laidByText := true, laidKinds := [.data, .data, .data, .data, .sentinel, .sentinel, .pinned], laidTests := true, laidLooks := .later }
def NoteKnownUptoCardSaid : Prop := Claim7.holds Tryd.pinned (.plain (OpenSpec.upto noteKnownSpec)) noteKnownUptoCard

/-- THE SECOND FORM's CARD OF 'beadlelaw21.NotePlays'. -/
def notePlaysUptoCard : Claim7 := { stood := { row := notePlaysUptoRow, standIns := [], harness := (true, "c30ddd46be1fac33a1844d5dc694f1f6238effd4d6a68e7e5fdb6c8e6b4ecc99"), looks := true }, kinds := [], alts := [], laidByText := true, laidKinds := [.data, .data, .data, .data, .sentinel, .sentinel, .pinned], laidTests := true, laidLooks := .later }
def NotePlaysUptoCardSaid : Prop := Claim7.holds Tryd.pinned (.plain (OpenSpec.upto notePlaysSpec)) notePlaysUptoCard
end Rows
end Go.Proofs.YtdeknemdeijljaaDoor
