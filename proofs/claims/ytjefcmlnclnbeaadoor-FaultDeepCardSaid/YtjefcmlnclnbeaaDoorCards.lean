/-
  DERIVED. GIVEN WITH THE SEED: THE CARDS: each row of YtjefcmlnclnbeaaDoorRows.lean that lists a variable, with what it lists TIED to the program's text (the seventh form; the later family's looks); each row that meets fmt, with fmt's text TOLD by the authors' own Lean function (tested against real Go, not proved from fmt's source: count such statements apart). THE CARD IS WHAT COUNTS. Prove the row's statement (the work); the ties are given (YtjefcmlnclnbeaaDoorTie.lean); close each card by the builder's one call (the guide's Derived/Test/ToyasCard.lean, 'card_holds'). Laid BY PROGRAM, IN A SANDBOX (cutbox-door.mjs). By AI agents, Wed Nov 11 2026. No macro, syntax, notation, axiom, sorry.
-/
import Derived.Test.YtjefcmlnclnbeaaDoorRows
import GoSem.ClaimSeven
namespace Go.Proofs.YtjefcmlnclnbeaaDoor
namespace Rows

/-- THE TIED CARD OF 'beadlelaw2.FaultSame'. -/
def faultSameCard : Claim7 := { stood := { row := faultSameRow, standIns := [], harness := (true, "6e10b58e40f23e1b5838895329632b45c873922186fd96672493df75b349852c"), looks := true }, kinds := [], alts := [], laidByText := true, laidKinds := [.handle], laidTests := true, laidLooks := .later }
def FaultSameCardSaid : Prop := Claim7.holds Tryd.pinned (.plain (OpenSpec.ofChange faultSameSpec)) faultSameCard

/-- THE TIED CARD OF 'beadlelaw2.FaultOne'. -/
def faultOneCard : Claim7 := { stood := { row := faultOneRow, standIns := [], harness := (true, "6e10b58e40f23e1b5838895329632b45c873922186fd96672493df75b349852c"), looks := true }, kinds := [], alts := [], laidByText := true, laidKinds := [.handle], laidTests := true, laidLooks := .later }
def FaultOneCardSaid : Prop := Claim7.holds Tryd.pinned (.plain (OpenSpec.ofChange faultOneSpec)) faultOneCard

/-- THE TIED CARD OF 'beadlelaw2.FaultDeep'. -/
def faultDeepCard : Claim7 := { stood := { row := faultDeepRow, standIns := [], harness := (true, "6e10b58e40f23e1b5838895329632b45c873922186fd96672493df75b349852c"), looks := true }, kinds := [], alts := [], laidByText := true, laidKinds := [.handle], laidTests := true, laidLooks := .later }
def FaultDeepCardSaid : Prop := Claim7.holds Tryd.pinned (.plain (OpenSpec.ofChange faultDeepSpec)) faultDeepCard

/-- THE SECOND FORM's CARD OF 'beadlelaw2.FaultSame'. -/
def faultSameUptoCard : Claim7 := { stood := { row := faultSameUptoRow, standIns := [], harness := (true, "6e10b58e40f23e1b5838895329632b45c873922186fd96672493df75b349852c"), looks := true }, kinds := [], alts := [], laidByText := true, laidKinds := [.handle], laidTests := true, laidLooks := .later }
def FaultSameUptoCardSaid : Prop := Claim7.holds Tryd.pinned (.plain (OpenSpec.upto faultSameSpec)) faultSameUptoCard

/-- THE SECOND FORM's CARD OF 'beadlelaw2.FaultOne'. -/
def faultOneUptoCard : Claim7 := { stood := { row := faultOneUptoRow, standIns := [], harness := (true, "6e10b58e40f23e1b5838895329632b45c873922186fd96672493df75b349852c"), looks := true }, kinds := [], alts := [], laidByText := true, laidKinds := [.handle], laidTests := true, laidLooks := .later }
def FaultOneUptoCardSaid : Prop := Claim7.holds Tryd.pinned (.plain (OpenSpec.upto faultOneSpec)) faultOneUptoCard

/-- THE SECOND FORM's CARD OF 'beadlelaw2.FaultDeep'. -/
def faultDeepUptoCard : Claim7 := { stood := { row := faultDeepUptoRow, standIns := [], harness := (true, "6e10b58e40f23e1b5838895329632b45c873922186fd96672493df75b349852c"), looks := true }, kinds := [], alts := [], laidByText := true, laidKinds := [.handle], laidTests := true, laidLooks := .later }
def FaultDeepUptoCardSaid : Prop := Claim7.holds Tryd.pinned (.plain (OpenSpec.upto faultDeepSpec)) faultDeepUptoCard
end Rows
end Go.Proofs.YtjefcmlnclnbeaaDoor
