/-
  No cell of these rows narrows 'for every input' (looked for: loops, veiled, ifaces, maps, wideKeys, modest, calm, conditions, laid).
  DERIVED. THE GIVEN ROWS OF THIS SEAT. 7 by the template 'for every input the law returns true; each argument reads behind the call as it read before'; 0 by the template 'total and deterministic' (their statements: YthpnifigjfplbaaGreatTotals.lean).
  GIVEN WITH THE SEED: the statements are not yours to turn. If you find one false, say at which input.
  Laid BY PROGRAM, IN A SANDBOX (cutbox-rows.mjs): the forced cells as the released guide's own fill.sh prints them over the translation ab793cf1d8ab6c58… (all of the seat's roots in one cut). By AI agents, Wed Nov 11 2026. No macro, syntax, notation, axiom, sorry.
-/
import Derived.Test.YthpnifigjfplbaaGreatChecked
import GoSem.Claim
import GoSem.ClaimJoined
import GoSem.ClaimMapViews
import Derived.JoinedTies
import Derived.KernelRfl
namespace Go.Proofs.YthpnifigjfplbaaGreat
/- THE CELL 'sum', in the pinned program and in every row, IS THE sha256 OF THE DUMP (.gsa) THAT YthpnifigjfplbaaGreatProg.lean LOADS. Nothing in Lean hashes anything: it is a label: what it is worth is what the hold of that sum in a sandbox is worth. -/
noncomputable def Tryz.pinned : Pinned := { name := "ythpnifigjfplbaagreat", sum := "ab793cf1d8ab6c58f5acd92209270ec6aa72706f88fd64b0ba249424b8942fc6", checked := Tryz.checked }
namespace Rows
def none {H : Type} : Left H := { results := [], args := [] }

/-- 'beadlelaw22.LeapFar': WHATEVER THE INPUT: true; the input reads as it did. -/
def leapFarSpec : ChangeSpec := { name := "leapFar", fn := fun _ => fun
  | [d1, d2, d3] => { results := [.lit (.bool true)], args := [d1, d2, d3] }
  | _ => none }
def leapFarRow : OpenClaim := { program := "ythpnifigjfplbaagreat", sum := "ab793cf1d8ab6c58f5acd92209270ec6aa72706f88fd64b0ba249424b8942fc6", func := "beadle/beadlelaw22.LeapFar", spec := "leapFar", inPlace := ["slices.overlaps[beadle/model.Serv]"], unfollowed := true, recurses := true, apart := false }
def LeapFarSaid : Prop := leapFarRow.holds Tryz.pinned (OpenSpec.ofChange leapFarSpec)

/-- ITS FALSE NEIGHBOUR: 'it returns false'. Refute it at one input. -/
def leapFarWrong : ChangeSpec := { name := "leapFar", fn := fun _ => fun
  | [d1, d2, d3] => { results := [.lit (.bool false)], args := [d1, d2, d3] }
  | _ => none }
def LeapFarWrongFalsely : Prop := leapFarRow.holds Tryz.pinned (OpenSpec.ofChange leapFarWrong)

/-- 'beadlelaw22.LeapKnown': WHATEVER THE INPUT: true; the input reads as it did. -/
def leapKnownSpec : ChangeSpec := { name := "leapKnown", fn := fun _ => fun
  | [] => { results := [.lit (.bool true)], args := [] }
  | _ => none }
def leapKnownRow : OpenClaim := { program := "ythpnifigjfplbaagreat", sum := "ab793cf1d8ab6c58f5acd92209270ec6aa72706f88fd64b0ba249424b8942fc6", func := "beadle/beadlelaw22.LeapKnown", spec := "leapKnown", inPlace := ["slices.overlaps[beadle/model.Serv]"], unfollowed := true, recurses := true, apart := false }
def LeapKnownSaid : Prop := leapKnownRow.holds Tryz.pinned (OpenSpec.ofChange leapKnownSpec)

/-- ITS FALSE NEIGHBOUR: 'it returns false'. Refute it at one input. -/
def leapKnownWrong : ChangeSpec := { name := "leapKnown", fn := fun _ => fun
  | [] => { results := [.lit (.bool false)], args := [] }
  | _ => none }
def LeapKnownWrongFalsely : Prop := leapKnownRow.holds Tryz.pinned (OpenSpec.ofChange leapKnownWrong)

/-- 'beadlelaw22.LeapTicks': WHATEVER THE INPUT: true; the input reads as it did. -/
def leapTicksSpec : ChangeSpec := { name := "leapTicks", fn := fun _ => fun
  | [d1, d2, d3, d4] => { results := [.lit (.bool true)], args := [d1, d2, d3, d4] }
  | _ => none }
def leapTicksRow : OpenClaim := { program := "ythpnifigjfplbaagreat", sum := "ab793cf1d8ab6c58f5acd92209270ec6aa72706f88fd64b0ba249424b8942fc6", func := "beadle/beadlelaw22.LeapTicks", spec := "leapTicks", inPlace := ["slices.overlaps[beadle/model.Serv]"], unfollowed := true, recurses := true, apart := false }
def LeapTicksSaid : Prop := leapTicksRow.holds Tryz.pinned (OpenSpec.ofChange leapTicksSpec)

/-- ITS FALSE NEIGHBOUR: 'it returns false'. Refute it at one input. -/
def leapTicksWrong : ChangeSpec := { name := "leapTicks", fn := fun _ => fun
  | [d1, d2, d3, d4] => { results := [.lit (.bool false)], args := [d1, d2, d3, d4] }
  | _ => none }
def LeapTicksWrongFalsely : Prop := leapTicksRow.holds Tryz.pinned (OpenSpec.ofChange leapTicksWrong)

/-- 'beadlelaw22.LeapQuiet': WHATEVER THE INPUT: true; the input reads as it did. -/
def leapQuietSpec : ChangeSpec := { name := "leapQuiet", fn := fun _ => fun
  | [d1, d2, d3] => { results := [.lit (.bool true)], args := [d1, d2, d3] }
  | _ => none }
def leapQuietRow : OpenClaim := { program := "ythpnifigjfplbaagreat", sum := "ab793cf1d8ab6c58f5acd92209270ec6aa72706f88fd64b0ba249424b8942fc6", func := "beadle/beadlelaw22.LeapQuiet", spec := "leapQuiet", inPlace := ["slices.overlaps[beadle/model.Serv]"], unfollowed := true, recurses := true, apart := false }
def LeapQuietSaid : Prop := leapQuietRow.holds Tryz.pinned (OpenSpec.ofChange leapQuietSpec)

/-- ITS FALSE NEIGHBOUR: 'it returns false'. Refute it at one input. -/
def leapQuietWrong : ChangeSpec := { name := "leapQuiet", fn := fun _ => fun
  | [d1, d2, d3] => { results := [.lit (.bool false)], args := [d1, d2, d3] }
  | _ => none }
def LeapQuietWrongFalsely : Prop := leapQuietRow.holds Tryz.pinned (OpenSpec.ofChange leapQuietWrong)

/-- 'beadlelaw22.LeapParts': WHATEVER THE INPUT: true; the input reads as it did. -/
def leapPartsSpec : ChangeSpec := { name := "leapParts", fn := fun _ => fun
  | [d1, d2, d3, d4, d5] => { results := [.lit (.bool true)], args := [d1, d2, d3, d4, d5] }
  | _ => none }
def leapPartsRow : OpenClaim := { program := "ythpnifigjfplbaagreat", sum := "ab793cf1d8ab6c58f5acd92209270ec6aa72706f88fd64b0ba249424b8942fc6", func := "beadle/beadlelaw22.LeapParts", spec := "leapParts", inPlace := ["slices.overlaps[beadle/model.Serv]"], unfollowed := true, recurses := true, apart := false }
def LeapPartsSaid : Prop := leapPartsRow.holds Tryz.pinned (OpenSpec.ofChange leapPartsSpec)

/-- ITS FALSE NEIGHBOUR: 'it returns false'. Refute it at one input. -/
def leapPartsWrong : ChangeSpec := { name := "leapParts", fn := fun _ => fun
  | [d1, d2, d3, d4, d5] => { results := [.lit (.bool false)], args := [d1, d2, d3, d4, d5] }
  | _ => none }
def LeapPartsWrongFalsely : Prop := leapPartsRow.holds Tryz.pinned (OpenSpec.ofChange leapPartsWrong)

/-- 'beadlelaw22.LeapOne': WHATEVER THE INPUT: true; the input reads as it did. -/
def leapOneSpec : ChangeSpec := { name := "leapOne", fn := fun _ => fun
  | [d1, d2, d3] => { results := [.lit (.bool true)], args := [d1, d2, d3] }
  | _ => none }
def leapOneRow : OpenClaim := { program := "ythpnifigjfplbaagreat", sum := "ab793cf1d8ab6c58f5acd92209270ec6aa72706f88fd64b0ba249424b8942fc6", func := "beadle/beadlelaw22.LeapOne", spec := "leapOne", inPlace := ["slices.overlaps[beadle/model.Serv]"], unfollowed := true, recurses := true, apart := false }
def LeapOneSaid : Prop := leapOneRow.holds Tryz.pinned (OpenSpec.ofChange leapOneSpec)

/-- ITS FALSE NEIGHBOUR: 'it returns false'. Refute it at one input. -/
def leapOneWrong : ChangeSpec := { name := "leapOne", fn := fun _ => fun
  | [d1, d2, d3] => { results := [.lit (.bool false)], args := [d1, d2, d3] }
  | _ => none }
def LeapOneWrongFalsely : Prop := leapOneRow.holds Tryz.pinned (OpenSpec.ofChange leapOneWrong)

/-- 'beadlelaw22.LeapUntil': WHATEVER THE INPUT: true; the input reads as it did. -/
def leapUntilSpec : ChangeSpec := { name := "leapUntil", fn := fun _ => fun
  | [d1, d2, d3, d4] => { results := [.lit (.bool true)], args := [d1, d2, d3, d4] }
  | _ => none }
def leapUntilRow : OpenClaim := { program := "ythpnifigjfplbaagreat", sum := "ab793cf1d8ab6c58f5acd92209270ec6aa72706f88fd64b0ba249424b8942fc6", func := "beadle/beadlelaw22.LeapUntil", spec := "leapUntil", inPlace := ["slices.overlaps[beadle/model.Serv]"], unfollowed := true, recurses := true, apart := false }
def LeapUntilSaid : Prop := leapUntilRow.holds Tryz.pinned (OpenSpec.ofChange leapUntilSpec)

/-- ITS FALSE NEIGHBOUR: 'it returns false'. Refute it at one input. -/
def leapUntilWrong : ChangeSpec := { name := "leapUntil", fn := fun _ => fun
  | [d1, d2, d3, d4] => { results := [.lit (.bool false)], args := [d1, d2, d3, d4] }
  | _ => none }
def LeapUntilWrongFalsely : Prop := leapUntilRow.holds Tryz.pinned (OpenSpec.ofChange leapUntilWrong)

/- THE SECOND FORM. 'bulk': how many values and letters a reading holds, each counted each time it is reached (what is shared counts as often as it is met; a slice's spare places count too). A statement '..UptoSaid' is the law's where the arguments, and the package variables that the reading takes, are together of bulk at most 1048576: NARROWER than '..Said'. Prove '..Said' where nothing that the law and all that it calls make is longer than what came in: it says more and counts as full. Else prove '..UptoSaid'. A law counts once. -/
mutual
def uptoBulk {H : Type} : DataW H → Nat
  | .lit (.string bytes) => bytes.length + 1
  | .lit _ => 1
  | .nil => 1
  | .ptr d => uptoBulk d + 1
  | .slice elems spare => uptoBulkAll elems + uptoBulkAll spare + 1
  | .agg parts => uptoBulkAll parts + 1
  | .iface _ d => uptoBulk d + 1
  | .map entries => uptoBulkEntries entries + 1
  | .held _ => 1
def uptoBulkAll {H : Type} : List (DataW H) → Nat
  | [] => 0
  | d :: r => uptoBulk d + uptoBulkAll r
def uptoBulkEntries {H : Type} : List (Lit × DataW H) → Nat
  | [] => 0
  | x :: r => uptoBulkEntry x + uptoBulkEntries r
def uptoBulkEntry {H : Type} : Lit × DataW H → Nat
  | (.string bytes, d) => bytes.length + uptoBulk d + 1
  | (_, d) => uptoBulk d + 1
 end
def uptoSmall : (H : Type) → List (DataW H) → Bool := fun _ ds => decide (uptoBulkAll ds ≤ 1048576)
def OpenSpec.upto (s : _root_.Go.ChangeSpec) : _root_.Go.OpenSpec := { _root_.Go.OpenSpec.ofChange s with cond := some uptoSmall }

/-- 'beadlelaw22.LeapFar', WHERE WHAT IT READS IS OF BULK AT MOST 1048576: true; the input reads as it did. -/
def leapFarUptoRow : OpenClaim := { program := "ythpnifigjfplbaagreat", sum := "ab793cf1d8ab6c58f5acd92209270ec6aa72706f88fd64b0ba249424b8942fc6", func := "beadle/beadlelaw22.LeapFar", spec := "leapFar", inPlace := ["slices.overlaps[beadle/model.Serv]"], unfollowed := true, recurses := true, apart := false, narrowed := true }
def LeapFarUptoSaid : Prop := leapFarUptoRow.holds Tryz.pinned (OpenSpec.upto leapFarSpec)

/-- 'beadlelaw22.LeapKnown', WHERE WHAT IT READS IS OF BULK AT MOST 1048576: true; the input reads as it did. -/
def leapKnownUptoRow : OpenClaim := { program := "ythpnifigjfplbaagreat", sum := "ab793cf1d8ab6c58f5acd92209270ec6aa72706f88fd64b0ba249424b8942fc6", func := "beadle/beadlelaw22.LeapKnown", spec := "leapKnown", inPlace := ["slices.overlaps[beadle/model.Serv]"], unfollowed := true, recurses := true, apart := false, narrowed := true }
def LeapKnownUptoSaid : Prop := leapKnownUptoRow.holds Tryz.pinned (OpenSpec.upto leapKnownSpec)

/-- 'beadlelaw22.LeapTicks', WHERE WHAT IT READS IS OF BULK AT MOST 1048576: true; the input reads as it did. -/
def leapTicksUptoRow : OpenClaim := { program := "ythpnifigjfplbaagreat", sum := "ab793cf1d8ab6c58f5acd92209270ec6aa72706f88fd64b0ba249424b8942fc6", func := "beadle/beadlelaw22.LeapTicks", spec := "leapTicks", inPlace := ["slices.overlaps[beadle/model.Serv]"], unfollowed := true, recurses := true, apart := false, narrowed := true }
def LeapTicksUptoSaid : Prop := leapTicksUptoRow.holds Tryz.pinned (OpenSpec.upto leapTicksSpec)

/-- 'beadlelaw22.LeapQuiet', WHERE WHAT IT READS IS OF BULK AT MOST 1048576: true; the input reads as it did. -/
def leapQuietUptoRow : OpenClaim := { program := "ythpnifigjfplbaagreat", sum := "ab793cf1d8ab6c58f5acd92209270ec6aa72706f88fd64b0ba249424b8942fc6", func := "beadle/beadlelaw22.LeapQuiet", spec := "leapQuiet", inPlace := ["slices.overlaps[beadle/model.Serv]"], unfollowed := true, recurses := true, apart := false, narrowed := true }
def LeapQuietUptoSaid : Prop := leapQuietUptoRow.holds Tryz.pinned (OpenSpec.upto leapQuietSpec)

/-- 'beadlelaw22.LeapParts', WHERE WHAT IT READS IS OF BULK AT MOST 1048576: true; the input reads as it did. -/
def leapPartsUptoRow : OpenClaim := { program := "ythpnifigjfplbaagreat", sum := "ab793cf1d8ab6c58f5acd92209270ec6aa72706f88fd64b0ba249424b8942fc6", func := "beadle/beadlelaw22.LeapParts", spec := "leapParts", inPlace := ["slices.overlaps[beadle/model.Serv]"], unfollowed := true, recurses := true, apart := false, narrowed := true }
def LeapPartsUptoSaid : Prop := leapPartsUptoRow.holds Tryz.pinned (OpenSpec.upto leapPartsSpec)

/-- 'beadlelaw22.LeapOne', WHERE WHAT IT READS IS OF BULK AT MOST 1048576: true; the input reads as it did. -/
def leapOneUptoRow : OpenClaim := { program := "ythpnifigjfplbaagreat", sum := "ab793cf1d8ab6c58f5acd92209270ec6aa72706f88fd64b0ba249424b8942fc6", func := "beadle/beadlelaw22.LeapOne", spec := "leapOne", inPlace := ["slices.overlaps[beadle/model.Serv]"], unfollowed := true, recurses := true, apart := false, narrowed := true }
def LeapOneUptoSaid : Prop := leapOneUptoRow.holds Tryz.pinned (OpenSpec.upto leapOneSpec)

/-- 'beadlelaw22.LeapUntil', WHERE WHAT IT READS IS OF BULK AT MOST 1048576: true; the input reads as it did. -/
def leapUntilUptoRow : OpenClaim := { program := "ythpnifigjfplbaagreat", sum := "ab793cf1d8ab6c58f5acd92209270ec6aa72706f88fd64b0ba249424b8942fc6", func := "beadle/beadlelaw22.LeapUntil", spec := "leapUntil", inPlace := ["slices.overlaps[beadle/model.Serv]"], unfollowed := true, recurses := true, apart := false, narrowed := true }
def LeapUntilUptoSaid : Prop := leapUntilUptoRow.holds Tryz.pinned (OpenSpec.upto leapUntilSpec)

end Rows
end Go.Proofs.YthpnifigjfplbaaGreat
