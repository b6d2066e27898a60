/-
  DERIVED. GIVEN WITH THE SEED: THE CARDS: each row of YtlenjadchmlliaaDoorRows.lean that lists a variable, with what it lists TIED to the program's text (the seventh form; the later family's looks); each row that meets fmt, with fmt's text TOLD by the authors' own Lean function (tested against real Go, not proved from fmt's source: count such statements apart). THE CARD IS WHAT COUNTS. Prove the row's statement (the work); the ties are given (YtlenjadchmlliaaDoorTie.lean); close each card by the builder's one call (the guide's Derived/Test/ToyasCard.lean, 'card_holds'). Laid BY PROGRAM, IN A SANDBOX (cutbox-door.mjs). By AI agents, Wed Nov 11 2026. No macro, syntax, notation, axiom, sorry.
-/
import Derived.Test.YtlenjadchmlliaaDoorRows
import GoSem.ClaimSeven
namespace Go.Proofs.YtlenjadchmlliaaDoor
namespace Rows

/-- THE TIED CARD OF 'beadlelaw3.MaskSets'. -/
def maskSetsCard : Claim7 := { stood := { row := maskSetsRow, standIns := [], harness := (true, "03d43ed8b915a9594593e4a6da3b2d9b0d6915be055e58c22c4e7135fb6a2efe"), looks := false }, kinds := [], alts := [], laidByText := true, laidKinds := [.data, .data, .data], laidTests := true, laidLooks := .later }
def MaskSetsCardSaid : Prop := Claim7.holds Tryd.pinned (.plain (OpenSpec.ofChange maskSetsSpec)) maskSetsCard

/-- THE TIED CARD OF 'beadlelaw3.MaskAround'. -/
def maskAroundCard : Claim7 := { stood := { row := maskAroundRow, standIns := [], harness := (true, "03d43ed8b915a9594593e4a6da3b2d9b0d6915be055e58c22c4e7135fb6a2efe"), looks := false }, kinds := [], alts := [], laidByText := true, laidKinds := [.data, .data, .data], laidTests := true, laidLooks := .later }
def MaskAroundCardSaid : Prop := Claim7.holds Tryd.pinned (.plain (OpenSpec.ofChange maskAroundSpec)) maskAroundCard

/-- THE TIED CARD OF 'beadlelaw3.MaskNths'. -/
def maskNthsCard : Claim7 := { stood := { row := maskNthsRow, standIns := [], harness := (true, "03d43ed8b915a9594593e4a6da3b2d9b0d6915be055e58c22c4e7135fb6a2efe"), looks := false }, kinds := [], alts := [], laidByText := true, laidKinds := [.data, .data, .data], laidTests := true, laidLooks := .later }
def MaskNthsCardSaid : Prop := Claim7.holds Tryd.pinned (.plain (OpenSpec.ofChange maskNthsSpec)) maskNthsCard

/-- THE TIED CARD OF 'beadlelaw3.MaskSays'. -/
def maskSaysCard : Claim7 := { stood := { row := maskSaysRow, standIns := [], harness := (true, "03d43ed8b915a9594593e4a6da3b2d9b0d6915be055e58c22c4e7135fb6a2efe"), looks := false }, kinds := [], alts := [], laidByText := true, laidKinds := [.data, .data, .data], laidTests := true, laidLooks := .later }
def MaskSaysCardSaid : Prop := Claim7.holds Tryd.pinned (.plain (OpenSpec.ofChange maskSaysSpec)) maskSaysCard

/-- THE TIED CARD OF 'beadlelaw3.MaskKnown'. -/
def maskKnownCard : Claim7 := { stood := { row := maskKnownRow, standIns := [], harness := (true, "03d43ed8b915a9594593e4a6da3b2d9b0d6915be055e58c22c4e7135fb6a2efe"), looks := false }, kinds := [], alts := [], laidByText := true, laidKinds := [.data, .data, .data], laidTests := true, laidLooks := .later }
def MaskKnownCardSaid : Prop := Claim7.holds Tryd.pinned (.plain (OpenSpec.ofChange maskKnownSpec)) maskKnownCard

/-- THE SECOND FORM's CARD OF 'beadlelaw3.MaskSets'. -/
def maskSetsUptoCard : Claim7 := { stood := { row := maskSetsUptoRow, standIns := [], harness := (true, "03d43ed8b915a9594593e4a6da3b2d9b0d6915be055e58c22c4e7135fb6a2efe"), looks := false }, kinds := [], alts := [], laidByText := true, laidKinds := [.data, .data, .data], laidTests := true, laidLooks := .later }
def MaskSetsUptoCardSaid : Prop := Claim7.holds Tryd.pinned (.plain (OpenSpec.upto maskSetsSpec)) maskSetsUptoCard

/-- THE SECOND FORM's CARD OF 'beadlelaw3.MaskAround'. -/
def maskAroundUptoCard : Claim7 := { stood := { row := maskAroundUptoRow, standIns := [], harness := (true, "03d43ed8b915a9594593e4a6da3b2d9b0d6915be055e58c22c4e7135fb6a2efe"), looks := false }, kinds := [], alts := [], laidByText := true, laidKinds := [.data, .data, .data], laidTests := true, laidLooks := .later }
def MaskAroundUptoCardSaid : Prop := Claim7.holds Tryd.pinned (.plain (OpenSpec.upto maskAroundSpec)) maskAroundUptoCard

/-- THE SECOND FORM's CARD OF 'beadlelaw3.MaskNths'. -/
def maskNthsUptoCard : Claim7 := { stood := { row := maskNthsUptoRow, standIns := [], harness := (true, "03d43ed8b915a9594593e4a6da3b2d9b0d6915be055e58c22c4e7135fb6a2efe"), looks := false }, kinds := [], alts := [], laidByText := true, laidKinds := [.data, .data, .data], laidTests := true, laidLooks := .later }
def MaskNthsUptoCardSaid : Prop := Claim7.holds Tryd.pinned (.plain (OpenSpec.upto maskNthsSpec)) maskNthsUptoCard

/-- THE SECOND FORM's CARD OF 'beadlelaw3.MaskSays'. -/
def maskSaysUptoCard : Claim7 := { stood := { row := maskSaysUptoRow, standIns := [], harness := (true, "03d43ed8b915a9594593e4a6da3b2d9b0d6915be055e58c22c4e7135fb6a2efe"), looks := false }, kinds := [], alts := [], laidByText := true, laidKinds := [.data, .data, .data], laidTests := true, laidLooks := .later }
def MaskSaysUptoCardSaid : Prop := Claim7.holds Tryd.pinned (.plain (OpenSpec.upto maskSaysSpec)) maskSaysUptoCard

/-- THE SECOND FORM's CARD OF 'beadlelaw3.MaskKnown'. -/
def maskKnownUptoCard : Claim7 := { stood := { row := maskKnownUptoRow, standIns := [], harness := (true, "03d43ed8b915a9594593e4a6da3b2d9b0d6915be055e58c22c4e7135fb6a2efe"), looks := false }, kinds := [], alts := [], laidByText := true, laidKinds := [.data, .data, .data], laidTests := true, laidLooks := .later }
def MaskKnownUptoCardSaid : Prop := Claim7.holds Tryd.pinned (.plain (OpenSpec.upto maskKnownSpec)) maskKnownUptoCard
end Rows
end Go.Proofs.YtlenjadchmlliaaDoor
