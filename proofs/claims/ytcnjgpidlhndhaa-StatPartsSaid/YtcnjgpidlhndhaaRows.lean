/-
  No cell of these rows narrows 'for every input' (looked for: loops, veiled, ifaces, maps, wideKeys, modest, calm, conditions, laid).
  DERIVED. THE GIVEN ROWS OF THIS SEAT. 5 by the template 'for every input the law returns true; each argument reads behind the call as it read before'; 0 by the template 'total and deterministic' (their statements: YtcnjgpidlhndhaaTotals.lean).
  GIVEN WITH THE SEED: the statements are not yours to turn. If you find one false, say at which input.
  Laid BY PROGRAM, IN A SANDBOX (cutbox-rows.mjs): the forced cells as the released guide's own fill.sh prints them over the translation 904602e11f99273f… (all of the seat's roots in one cut). By AI agents, Wed Nov 11 2026. No macro, syntax, notation, axiom, sorry.
-/
import Derived.Test.YtcnjgpidlhndhaaChecked
import GoSem.Claim
import GoSem.ClaimJoined
import GoSem.ClaimMapViews
import Derived.JoinedTies
import Derived.KernelRfl
namespace Go.Proofs.Ytcnjgpidlhndhaa
/- THE CELL 'sum', in the pinned program and in every row, IS THE sha256 OF THE DUMP (.gsa) THAT YtcnjgpidlhndhaaProg.lean LOADS. Nothing in Lean hashes anything: it is a label: what it is worth is what the hold of that sum in a sandbox is worth. -/
noncomputable def Try.pinned : Pinned := { name := "ytcnjgpidlhndhaa", sum := "904602e11f99273feafd5cc797d1f2f8296b3c51647dcd0efe6fc81820e405d3", checked := Try.checked }
namespace Rows
def none {H : Type} : Left H := { results := [], args := [] }

/-- 'beadlelaw26.StatPlays': WHATEVER THE INPUT: true; the input reads as it did. -/
def statPlaysSpec : ChangeSpec := { name := "statPlays", fn := fun _ => fun
  | [d1, d2, d3] => { results := [.lit (.bool true)], args := [d1, d2, d3] }
  | _ => none }
def statPlaysRow : OpenClaim := { program := "ytcnjgpidlhndhaa", sum := "904602e11f99273feafd5cc797d1f2f8296b3c51647dcd0efe6fc81820e405d3", func := "beadle/beadlelaw26.StatPlays", spec := "statPlays", apart := false }
def StatPlaysSaid : Prop := statPlaysRow.holds Try.pinned (OpenSpec.ofChange statPlaysSpec)

/-- ITS FALSE NEIGHBOUR: 'it returns false'. Refute it at one input. -/
def statPlaysWrong : ChangeSpec := { name := "statPlays", fn := fun _ => fun
  | [d1, d2, d3] => { results := [.lit (.bool false)], args := [d1, d2, d3] }
  | _ => none }
def StatPlaysWrongFalsely : Prop := statPlaysRow.holds Try.pinned (OpenSpec.ofChange statPlaysWrong)

/-- 'beadlelaw26.StatOthers': WHATEVER THE INPUT: true; the input reads as it did. -/
def statOthersSpec : ChangeSpec := { name := "statOthers", fn := fun _ => fun
  | [d1, d2, d3] => { results := [.lit (.bool true)], args := [d1, d2, d3] }
  | _ => none }
def statOthersRow : OpenClaim := { program := "ytcnjgpidlhndhaa", sum := "904602e11f99273feafd5cc797d1f2f8296b3c51647dcd0efe6fc81820e405d3", func := "beadle/beadlelaw26.StatOthers", spec := "statOthers", apart := false }
def StatOthersSaid : Prop := statOthersRow.holds Try.pinned (OpenSpec.ofChange statOthersSpec)

/-- ITS FALSE NEIGHBOUR: 'it returns false'. Refute it at one input. -/
def statOthersWrong : ChangeSpec := { name := "statOthers", fn := fun _ => fun
  | [d1, d2, d3] => { results := [.lit (.bool false)], args := [d1, d2, d3] }
  | _ => none }
def StatOthersWrongFalsely : Prop := statOthersRow.holds Try.pinned (OpenSpec.ofChange statOthersWrong)

/-- 'beadlelaw26.StatLate': WHATEVER THE INPUT: true; the input reads as it did. -/
def statLateSpec : ChangeSpec := { name := "statLate", fn := fun _ => fun
  | [d1, d2, d3, d4] => { results := [.lit (.bool true)], args := [d1, d2, d3, d4] }
  | _ => none }
def statLateRow : OpenClaim := { program := "ytcnjgpidlhndhaa", sum := "904602e11f99273feafd5cc797d1f2f8296b3c51647dcd0efe6fc81820e405d3", func := "beadle/beadlelaw26.StatLate", spec := "statLate", apart := false }
def StatLateSaid : Prop := statLateRow.holds Try.pinned (OpenSpec.ofChange statLateSpec)

/-- ITS FALSE NEIGHBOUR: 'it returns false'. Refute it at one input. -/
def statLateWrong : ChangeSpec := { name := "statLate", fn := fun _ => fun
  | [d1, d2, d3, d4] => { results := [.lit (.bool false)], args := [d1, d2, d3, d4] }
  | _ => none }
def StatLateWrongFalsely : Prop := statLateRow.holds Try.pinned (OpenSpec.ofChange statLateWrong)

/-- 'beadlelaw26.StatParts': WHATEVER THE INPUT: true; the input reads as it did. -/
def statPartsSpec : ChangeSpec := { name := "statParts", fn := fun _ => fun
  | [d1, d2] => { results := [.lit (.bool true)], args := [d1, d2] }
  | _ => none }
def statPartsRow : OpenClaim := { program := "ytcnjgpidlhndhaa", sum := "904602e11f99273feafd5cc797d1f2f8296b3c51647dcd0efe6fc81820e405d3", func := "beadle/beadlelaw26.StatParts", spec := "statParts", unfollowed := true, recurses := true, apart := false }
def StatPartsSaid : Prop := statPartsRow.holds Try.pinned (OpenSpec.ofChange statPartsSpec)

/-- ITS FALSE NEIGHBOUR: 'it returns false'. Refute it at one input. -/
def statPartsWrong : ChangeSpec := { name := "statParts", fn := fun _ => fun
  | [d1, d2] => { results := [.lit (.bool false)], args := [d1, d2] }
  | _ => none }
def StatPartsWrongFalsely : Prop := statPartsRow.holds Try.pinned (OpenSpec.ofChange statPartsWrong)

/-- 'beadlelaw26.StatKnown': WHATEVER THE INPUT: true; the input reads as it did. -/
def statKnownSpec : ChangeSpec := { name := "statKnown", fn := fun _ => fun
  | [] => { results := [.lit (.bool true)], args := [] }
  | _ => none }
def statKnownRow : OpenClaim := { program := "ytcnjgpidlhndhaa", sum := "904602e11f99273feafd5cc797d1f2f8296b3c51647dcd0efe6fc81820e405d3", func := "beadle/beadlelaw26.StatKnown", spec := "statKnown", unfollowed := true, recurses := true, apart := false }
def StatKnownSaid : Prop := statKnownRow.holds Try.pinned (OpenSpec.ofChange statKnownSpec)

/-- ITS FALSE NEIGHBOUR: 'it returns false'. Refute it at one input. -/
def statKnownWrong : ChangeSpec := { name := "statKnown", fn := fun _ => fun
  | [] => { results := [.lit (.bool false)], args := [] }
  | _ => none }
def StatKnownWrongFalsely : Prop := statKnownRow.holds Try.pinned (OpenSpec.ofChange statKnownWrong)

/- THE SECOND FORM. 'bulk': how many values and letters a reading holds, each counted each time it is reached (what is shared counts as often as it is met; a slice's spare places count too). A statement '..UptoSaid' is the law's where the arguments, and the package variables that the reading takes, are together of bulk at most 1048576: NARROWER than '..Said'. Prove '..Said' where nothing that the law and all that it calls make is longer than what came in: it says more and counts as full. Else prove '..UptoSaid'. A law counts once. -/
mutual
def uptoBulk {H : Type} : DataW H → Nat
  | .lit (.string bytes) => bytes.length + 1
  | .lit _ => 1
  | .nil => 1
  | .ptr d => uptoBulk d + 1
  | .slice elems spare => uptoBulkAll elems + uptoBulkAll spare + 1
  | .agg parts => uptoBulkAll parts + 1
  | .iface _ d => uptoBulk d + 1
  | .map entries => uptoBulkEntries entries + 1
  | .held _ => 1
def uptoBulkAll {H : Type} : List (DataW H) → Nat
  | [] => 0
  | d :: r => uptoBulk d + uptoBulkAll r
def uptoBulkEntries {H : Type} : List (Lit × DataW H) → Nat
  | [] => 0
  | x :: r => uptoBulkEntry x + uptoBulkEntries r
def uptoBulkEntry {H : Type} : Lit × DataW H → Nat
  | (.string bytes, d) => bytes.length + uptoBulk d + 1
  | (_, d) => uptoBulk d + 1
 end
def uptoSmall : (H : Type) → List (DataW H) → Bool := fun _ ds => decide (uptoBulkAll ds ≤ 1048576)
def OpenSpec.upto (s : _root_.Go.ChangeSpec) : _root_.Go.OpenSpec := { _root_.Go.OpenSpec.ofChange s with cond := some uptoSmall }

/-- 'beadlelaw26.StatPlays', WHERE WHAT IT READS IS OF BULK AT MOST 1048576: true; the input reads as it did. -/
def statPlaysUptoRow : OpenClaim := { program := "ytcnjgpidlhndhaa", sum := "904602e11f99273feafd5cc797d1f2f8296b3c51647dcd0efe6fc81820e405d3", func := "beadle/beadlelaw26.StatPlays", spec := "statPlays", apart := false, narrowed := true }
def StatPlaysUptoSaid : Prop := statPlaysUptoRow.holds Try.pinned (OpenSpec.upto statPlaysSpec)

/-- 'beadlelaw26.StatOthers', WHERE WHAT IT READS IS OF BULK AT MOST 1048576: true; the input reads as it did. -/
def statOthersUptoRow : OpenClaim := { program := "ytcnjgpidlhndhaa", sum := "904602e11f99273feafd5cc797d1f2f8296b3c51647dcd0efe6fc81820e405d3", func := "beadle/beadlelaw26.StatOthers", spec := "statOthers", apart := false, narrowed := true }
def StatOthersUptoSaid : Prop := statOthersUptoRow.holds Try.pinned (OpenSpec.upto statOthersSpec)

/-- 'beadlelaw26.StatLate', WHERE WHAT IT READS IS OF BULK AT MOST 1048576: true; the input reads as it did. -/
def statLateUptoRow : OpenClaim := { program := "ytcnjgpidlhndhaa", sum := "904602e11f99273feafd5cc797d1f2f8296b3c51647dcd0efe6fc81820e405d3", func := "beadle/beadlelaw26.StatLate", spec := "statLate", apart := false, narrowed := true }
def StatLateUptoSaid : Prop := statLateUptoRow.holds Try.pinned (OpenSpec.upto statLateSpec)

/-- 'beadlelaw26.StatParts', WHERE WHAT IT READS IS OF BULK AT MOST 1048576: true; the input reads as it did. -/
def statPartsUptoRow : OpenClaim := { program := "ytcnjgpidlhndhaa", sum := "904602e11f99273feafd5cc797d1f2f8296b3c51647dcd0efe6fc81820e405d3", func := "beadle/beadlelaw26.StatParts", spec := "statParts", unfollowed := true, recurses := true, apart := false, narrowed := true }
def StatPartsUptoSaid : Prop := statPartsUptoRow.holds Try.pinned (OpenSpec.upto statPartsSpec)

/-- 'beadlelaw26.StatKnown', WHERE WHAT IT READS IS OF BULK AT MOST 1048576: true; the input reads as it did. -/
def statKnownUptoRow : OpenClaim := { program := "ytcnjgpidlhndhaa", sum := "904602e11f99273feafd5cc797d1f2f8296b3c51647dcd0efe6fc81820e405d3", func := "beadle/beadlelaw26.StatKnown", spec := "statKnown", unfollowed := true, recurses := true, apart := false, narrowed := true }
def StatKnownUptoSaid : Prop := statKnownUptoRow.holds Try.pinned (OpenSpec.upto statKnownSpec)

end Rows
end Go.Proofs.Ytcnjgpidlhndhaa
