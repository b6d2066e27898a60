/-
  No cell of these rows narrows 'for every input' (looked for: loops, veiled, ifaces, maps, wideKeys, modest, calm, conditions, laid).
  DERIVED. THE GIVEN ROWS OF THIS SEAT. 6 by the template 'for every input the law returns true; each argument reads behind the call as it read before'; 0 by the template 'total and deterministic' (their statements: YtmjpkannhbaklaaTotals.lean).
  GIVEN WITH THE SEED: the statements are not yours to turn. If you find one false, say at which input.
  Laid BY PROGRAM, IN A SANDBOX (cutbox-rows.mjs): the forced cells as the released guide's own fill.sh prints them over the translation 406814d2a45008ac… (all of the seat's roots in one cut). By AI agents, Wed Nov 11 2026. No macro, syntax, notation, axiom, sorry.
-/
import Derived.Test.YtmjpkannhbaklaaChecked
import GoSem.Claim
import GoSem.ClaimJoined
import GoSem.ClaimMapViews
import Derived.JoinedTies
import Derived.KernelRfl
namespace Go.Proofs.Ytmjpkannhbaklaa
/- THE CELL 'sum', in the pinned program and in every row, IS THE sha256 OF THE DUMP (.gsa) THAT YtmjpkannhbaklaaProg.lean LOADS. Nothing in Lean hashes anything: it is a label: what it is worth is what the hold of that sum in a sandbox is worth. -/
noncomputable def Try.pinned : Pinned := { name := "ytmjpkannhbaklaa", sum := "406814d2a45008ac9fc94ed0d149dc50f3d2e2ff9a81e7a365936f023d741d32", checked := Try.checked }
namespace Rows
def none {H : Type} : Left H := { results := [], args := [] }

/-- 'beadlelaw15.EdfBest': WHATEVER THE INPUT: true; the input reads as it did. -/
def edfBestSpec : ChangeSpec := { name := "edfBest", fn := fun _ => fun
  | [d1, d2] => { results := [.lit (.bool true)], args := [d1, d2] }
  | _ => none }
def edfBestRow : OpenClaim := { program := "ytmjpkannhbaklaa", sum := "406814d2a45008ac9fc94ed0d149dc50f3d2e2ff9a81e7a365936f023d741d32", func := "beadle/beadlelaw15.EdfBest", spec := "edfBest", unfollowed := true, recurses := true, apart := false }
def EdfBestSaid : Prop := edfBestRow.holds Try.pinned (OpenSpec.ofChange edfBestSpec)

/-- ITS FALSE NEIGHBOUR: 'it returns false'. Refute it at one input. -/
def edfBestWrong : ChangeSpec := { name := "edfBest", fn := fun _ => fun
  | [d1, d2] => { results := [.lit (.bool false)], args := [d1, d2] }
  | _ => none }
def EdfBestWrongFalsely : Prop := edfBestRow.holds Try.pinned (OpenSpec.ofChange edfBestWrong)

/-- 'beadlelaw15.EdfOrder': WHATEVER THE INPUT: true; the input reads as it did. -/
def edfOrderSpec : ChangeSpec := { name := "edfOrder", fn := fun _ => fun
  | [d1, d2, d3] => { results := [.lit (.bool true)], args := [d1, d2, d3] }
  | _ => none }
def edfOrderRow : OpenClaim := { program := "ytmjpkannhbaklaa", sum := "406814d2a45008ac9fc94ed0d149dc50f3d2e2ff9a81e7a365936f023d741d32", func := "beadle/beadlelaw15.EdfOrder", spec := "edfOrder", unfollowed := true, recurses := true, apart := false }
def EdfOrderSaid : Prop := edfOrderRow.holds Try.pinned (OpenSpec.ofChange edfOrderSpec)

/-- ITS FALSE NEIGHBOUR: 'it returns false'. Refute it at one input. -/
def edfOrderWrong : ChangeSpec := { name := "edfOrder", fn := fun _ => fun
  | [d1, d2, d3] => { results := [.lit (.bool false)], args := [d1, d2, d3] }
  | _ => none }
def EdfOrderWrongFalsely : Prop := edfOrderRow.holds Try.pinned (OpenSpec.ofChange edfOrderWrong)

/-- 'beadlelaw15.EdfSplit': WHATEVER THE INPUT: true; the input reads as it did. -/
def edfSplitSpec : ChangeSpec := { name := "edfSplit", fn := fun _ => fun
  | [d1, d2] => { results := [.lit (.bool true)], args := [d1, d2] }
  | _ => none }
def edfSplitRow : OpenClaim := { program := "ytmjpkannhbaklaa", sum := "406814d2a45008ac9fc94ed0d149dc50f3d2e2ff9a81e7a365936f023d741d32", func := "beadle/beadlelaw15.EdfSplit", spec := "edfSplit", unfollowed := true, recurses := true, apart := false }
def EdfSplitSaid : Prop := edfSplitRow.holds Try.pinned (OpenSpec.ofChange edfSplitSpec)

/-- ITS FALSE NEIGHBOUR: 'it returns false'. Refute it at one input. -/
def edfSplitWrong : ChangeSpec := { name := "edfSplit", fn := fun _ => fun
  | [d1, d2] => { results := [.lit (.bool false)], args := [d1, d2] }
  | _ => none }
def EdfSplitWrongFalsely : Prop := edfSplitRow.holds Try.pinned (OpenSpec.ofChange edfSplitWrong)

/-- 'beadlelaw15.EdfOut': WHATEVER THE INPUT: true; the input reads as it did. -/
def edfOutSpec : ChangeSpec := { name := "edfOut", fn := fun _ => fun
  | [d1, d2, d3] => { results := [.lit (.bool true)], args := [d1, d2, d3] }
  | _ => none }
def edfOutRow : OpenClaim := { program := "ytmjpkannhbaklaa", sum := "406814d2a45008ac9fc94ed0d149dc50f3d2e2ff9a81e7a365936f023d741d32", func := "beadle/beadlelaw15.EdfOut", spec := "edfOut", unfollowed := true, recurses := true, apart := false }
def EdfOutSaid : Prop := edfOutRow.holds Try.pinned (OpenSpec.ofChange edfOutSpec)

/-- ITS FALSE NEIGHBOUR: 'it returns false'. Refute it at one input. -/
def edfOutWrong : ChangeSpec := { name := "edfOut", fn := fun _ => fun
  | [d1, d2, d3] => { results := [.lit (.bool false)], args := [d1, d2, d3] }
  | _ => none }
def EdfOutWrongFalsely : Prop := edfOutRow.holds Try.pinned (OpenSpec.ofChange edfOutWrong)

/-- 'beadlelaw15.EdfKnown': WHATEVER THE INPUT: true; the input reads as it did. -/
def edfKnownSpec : ChangeSpec := { name := "edfKnown", fn := fun _ => fun
  | [] => { results := [.lit (.bool true)], args := [] }
  | _ => none }
def edfKnownRow : OpenClaim := { program := "ytmjpkannhbaklaa", sum := "406814d2a45008ac9fc94ed0d149dc50f3d2e2ff9a81e7a365936f023d741d32", func := "beadle/beadlelaw15.EdfKnown", spec := "edfKnown", unfollowed := true, recurses := true, apart := false }
def EdfKnownSaid : Prop := edfKnownRow.holds Try.pinned (OpenSpec.ofChange edfKnownSpec)

/-- ITS FALSE NEIGHBOUR: 'it returns false'. Refute it at one input. -/
def edfKnownWrong : ChangeSpec := { name := "edfKnown", fn := fun _ => fun
  | [] => { results := [.lit (.bool false)], args := [] }
  | _ => none }
def EdfKnownWrongFalsely : Prop := edfKnownRow.holds Try.pinned (OpenSpec.ofChange edfKnownWrong)

/-- 'beadlelaw15.EdfSays': WHATEVER THE INPUT: true; the input reads as it did. -/
def edfSaysSpec : ChangeSpec := { name := "edfSays", fn := fun _ => fun
  | [d1, d2, d3] => { results := [.lit (.bool true)], args := [d1, d2, d3] }
  | _ => none }
def edfSaysRow : OpenClaim := { program := "ytmjpkannhbaklaa", sum := "406814d2a45008ac9fc94ed0d149dc50f3d2e2ff9a81e7a365936f023d741d32", func := "beadle/beadlelaw15.EdfSays", spec := "edfSays", unfollowed := true, recurses := true, apart := false }
def EdfSaysSaid : Prop := edfSaysRow.holds Try.pinned (OpenSpec.ofChange edfSaysSpec)

/-- ITS FALSE NEIGHBOUR: 'it returns false'. Refute it at one input. -/
def edfSaysWrong : ChangeSpec := { name := "edfSays", fn := fun _ => fun
  | [d1, d2, d3] => { results := [.lit (.bool false)], args := [d1, d2, d3] }
  | _ => none }
def EdfSaysWrongFalsely : Prop := edfSaysRow.holds Try.pinned (OpenSpec.ofChange edfSaysWrong)

/- THE SECOND FORM. 'bulk': how many values and letters a reading holds, each counted each time it is reached (what is shared counts as often as it is met; a slice's spare places count too). A statement '..UptoSaid' is the law's where the arguments, and the package variables that the reading takes, are together of bulk at most 1048576: NARROWER than '..Said'. Prove '..Said' where nothing that the law and all that it calls make is longer than what came in: it says more and counts as full. Else prove '..UptoSaid'. A law counts once. -/
mutual
def uptoBulk {H : Type} : DataW H → Nat
  | .lit (.string bytes) => bytes.length + 1
  | .lit _ => 1
  | .nil => 1
  | .ptr d => uptoBulk d + 1
  | .slice elems spare => uptoBulkAll elems + uptoBulkAll spare + 1
  | .agg parts => uptoBulkAll parts + 1
  | .iface _ d => uptoBulk d + 1
  | .map entries => uptoBulkEntries entries + 1
  | .held _ => 1
def uptoBulkAll {H : Type} : List (DataW H) → Nat
  | [] => 0
  | d :: r => uptoBulk d + uptoBulkAll r
def uptoBulkEntries {H : Type} : List (Lit × DataW H) → Nat
  | [] => 0
  | x :: r => uptoBulkEntry x + uptoBulkEntries r
def uptoBulkEntry {H : Type} : Lit × DataW H → Nat
  | (.string bytes, d) => bytes.length + uptoBulk d + 1
  | (_, d) => uptoBulk d + 1
 end
def uptoSmall : (H : Type) → List (DataW H) → Bool := fun _ ds => decide (uptoBulkAll ds ≤ 1048576)
def OpenSpec.upto (s : _root_.Go.ChangeSpec) : _root_.Go.OpenSpec := { _root_.Go.OpenSpec.ofChange s with cond := some uptoSmall }

/-- 'beadlelaw15.EdfBest', WHERE WHAT IT READS IS OF BULK AT MOST 1048576: true; the input reads as it did. -/
def edfBestUptoRow : OpenClaim := { program := "ytmjpkannhbaklaa", sum := "406814d2a45008ac9fc94ed0d149dc50f3d2e2ff9a81e7a365936f023d741d32", func := "beadle/beadlelaw15.EdfBest", spec := "edfBest", unfollowed := true, recurses := true, apart := false, narrowed := true }
def EdfBestUptoSaid : Prop := edfBestUptoRow.holds Try.pinned (OpenSpec.upto edfBestSpec)

/-- 'beadlelaw15.EdfOrder', WHERE WHAT IT READS IS OF BULK AT MOST 1048576: true; the input reads as it did. -/
def edfOrderUptoRow : OpenClaim := { program := "ytmjpkannhbaklaa", sum := "406814d2a45008ac9fc94ed0d149dc50f3d2e2ff9a81e7a365936f023d741d32", func := "beadle/beadlelaw15.EdfOrder", spec := "edfOrder", unfollowed := true, recurses := true, apart := false, narrowed := true }
def EdfOrderUptoSaid : Prop := edfOrderUptoRow.holds Try.pinned (OpenSpec.upto edfOrderSpec)

/-- 'beadlelaw15.EdfSplit', WHERE WHAT IT READS IS OF BULK AT MOST 1048576: true; the input reads as it did. -/
def edfSplitUptoRow : OpenClaim := { program := "ytmjpkannhbaklaa", sum := "406814d2a45008ac9fc94ed0d149dc50f3d2e2ff9a81e7a365936f023d741d32", func := "beadle/beadlelaw15.EdfSplit", spec := "edfSplit", unfollowed := true, recurses := true, apart := false, narrowed := true }
def EdfSplitUptoSaid : Prop := edfSplitUptoRow.holds Try.pinned (OpenSpec.upto edfSplitSpec)

/-- 'beadlelaw15.EdfOut', WHERE WHAT IT READS IS OF BULK AT MOST 1048576: true; the input reads as it did. -/
def edfOutUptoRow : OpenClaim := { program := "ytmjpkannhbaklaa", sum := "406814d2a45008ac9fc94ed0d149dc50f3d2e2ff9a81e7a365936f023d741d32", func := "beadle/beadlelaw15.EdfOut", spec := "edfOut", unfollowed := true, recurses := true, apart := false, narrowed := true }
def EdfOutUptoSaid : Prop := edfOutUptoRow.holds Try.pinned (OpenSpec.upto edfOutSpec)

/-- 'beadlelaw15.EdfKnown', WHERE WHAT IT READS IS OF BULK AT MOST 1048576: true; the input reads as it did. -/
def edfKnownUptoRow : OpenClaim := { program := "ytmjpkannhbaklaa", sum := "406814d2a45008ac9fc94ed0d149dc50f3d2e2ff9a81e7a365936f023d741d32", func := "beadle/beadlelaw15.EdfKnown", spec := "edfKnown", unfollowed := true, recurses := true, apart := false, narrowed := true }
def EdfKnownUptoSaid : Prop := edfKnownUptoRow.holds Try.pinned (OpenSpec.upto edfKnownSpec)

/-- 'beadlelaw15.EdfSays', WHERE WHAT IT READS IS OF BULK AT MOST 1048576: true; the input reads as it did. -/
def edfSaysUptoRow : OpenClaim := { program := "ytmjpkannhbaklaa", sum := "406814d2a45008ac9fc94ed0d149dc50f3d2e2ff9a81e7a365936f023d741d32", func := "beadle/beadlelaw15.EdfSays", spec := "edfSays", unfollowed := true, recurses := true, apart := false, narrowed := true }
def EdfSaysUptoSaid : Prop := edfSaysUptoRow.holds Try.pinned (OpenSpec.upto edfSaysSpec)

end Rows
end Go.Proofs.Ytmjpkannhbaklaa
