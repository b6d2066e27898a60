/-
  No cell of these rows narrows 'for every input' (looked for: loops, veiled, ifaces, maps, wideKeys, modest, calm, conditions, laid).
  DERIVED. THE GIVEN ROWS OF THIS SEAT. 8 by the template 'for every input the law returns true; each argument reads behind the call as it read before'; 0 by the template 'total and deterministic' (their statements: YtiehbnmpaeedpaaGreatTotals.lean).
  GIVEN WITH THE SEED: the statements are not yours to turn. If you find one false, say at which input.
  Laid BY PROGRAM, IN A SANDBOX (cutbox-rows.mjs): the forced cells as the released guide's own fill.sh prints them over the translation a52fff42476aa677… (all of the seat's roots in one cut). By AI agents, Wed Nov 11 2026. No macro, syntax, notation, axiom, sorry.
-/
import Derived.Test.YtiehbnmpaeedpaaGreatChecked
import GoSem.Claim
import GoSem.ClaimJoined
import GoSem.ClaimMapViews
import Derived.JoinedTies
import Derived.KernelRfl
namespace Go.Proofs.YtiehbnmpaeedpaaGreat
/- THE CELL 'sum', in the pinned program and in every row, IS THE sha256 OF THE DUMP (.gsa) THAT YtiehbnmpaeedpaaGreatProg.lean LOADS. Nothing in Lean hashes anything: it is a label: what it is worth is what the hold of that sum in a sandbox is worth. -/
noncomputable def Tryz.pinned : Pinned := { name := "ytiehbnmpaeedpaagreat", sum := "a52fff42476aa677944b742da2806b561a51d6736b8cb09aca3d6fa1cf8a085b", checked := Tryz.checked }
namespace Rows
def none {H : Type} : Left H := { results := [], args := [] }

/-- 'beadlelaw20.ModelKeeps': WHATEVER THE INPUT: true; the input reads as it did. -/
def modelKeepsSpec : ChangeSpec := { name := "modelKeeps", fn := fun _ => fun
  | [d1, d2, d3] => { results := [.lit (.bool true)], args := [d1, d2, d3] }
  | _ => none }
def modelKeepsRow : OpenClaim := { program := "ytiehbnmpaeedpaagreat", sum := "a52fff42476aa677944b742da2806b561a51d6736b8cb09aca3d6fa1cf8a085b", func := "beadle/beadlelaw20.ModelKeeps", spec := "modelKeeps", inPlace := ["slices.overlaps[beadle/model.Serv]"], unfollowed := true, recurses := true, apart := false }
def ModelKeepsSaid : Prop := modelKeepsRow.holds Tryz.pinned (OpenSpec.ofChange modelKeepsSpec)

/-- ITS FALSE NEIGHBOUR: 'it returns false'. Refute it at one input. -/
def modelKeepsWrong : ChangeSpec := { name := "modelKeeps", fn := fun _ => fun
  | [d1, d2, d3] => { results := [.lit (.bool false)], args := [d1, d2, d3] }
  | _ => none }
def ModelKeepsWrongFalsely : Prop := modelKeepsRow.holds Tryz.pinned (OpenSpec.ofChange modelKeepsWrong)

/-- 'beadlelaw20.ModelBest': WHATEVER THE INPUT: true; the input reads as it did. -/
def modelBestSpec : ChangeSpec := { name := "modelBest", fn := fun _ => fun
  | [d1, d2, d3] => { results := [.lit (.bool true)], args := [d1, d2, d3] }
  | _ => none }
def modelBestRow : OpenClaim := { program := "ytiehbnmpaeedpaagreat", sum := "a52fff42476aa677944b742da2806b561a51d6736b8cb09aca3d6fa1cf8a085b", func := "beadle/beadlelaw20.ModelBest", spec := "modelBest", inPlace := ["slices.overlaps[beadle/model.Serv]"], unfollowed := true, recurses := true, apart := false }
def ModelBestSaid : Prop := modelBestRow.holds Tryz.pinned (OpenSpec.ofChange modelBestSpec)

/-- ITS FALSE NEIGHBOUR: 'it returns false'. Refute it at one input. -/
def modelBestWrong : ChangeSpec := { name := "modelBest", fn := fun _ => fun
  | [d1, d2, d3] => { results := [.lit (.bool false)], args := [d1, d2, d3] }
  | _ => none }
def ModelBestWrongFalsely : Prop := modelBestRow.holds Tryz.pinned (OpenSpec.ofChange modelBestWrong)

/-- 'beadlelaw20.ModelJobs': WHATEVER THE INPUT: true; the input reads as it did. -/
def modelJobsSpec : ChangeSpec := { name := "modelJobs", fn := fun _ => fun
  | [d1, d2, d3] => { results := [.lit (.bool true)], args := [d1, d2, d3] }
  | _ => none }
def modelJobsRow : OpenClaim := { program := "ytiehbnmpaeedpaagreat", sum := "a52fff42476aa677944b742da2806b561a51d6736b8cb09aca3d6fa1cf8a085b", func := "beadle/beadlelaw20.ModelJobs", spec := "modelJobs", inPlace := ["slices.overlaps[beadle/model.Serv]"], unfollowed := true, recurses := true, apart := false }
def ModelJobsSaid : Prop := modelJobsRow.holds Tryz.pinned (OpenSpec.ofChange modelJobsSpec)

/-- ITS FALSE NEIGHBOUR: 'it returns false'. Refute it at one input. -/
def modelJobsWrong : ChangeSpec := { name := "modelJobs", fn := fun _ => fun
  | [d1, d2, d3] => { results := [.lit (.bool false)], args := [d1, d2, d3] }
  | _ => none }
def ModelJobsWrongFalsely : Prop := modelJobsRow.holds Tryz.pinned (OpenSpec.ofChange modelJobsWrong)

/-- 'beadlelaw20.ModelKnown': WHATEVER THE INPUT: true; the input reads as it did. -/
def modelKnownSpec : ChangeSpec := { name := "modelKnown", fn := fun _ => fun
  | [] => { results := [.lit (.bool true)], args := [] }
  | _ => none }
def modelKnownRow : OpenClaim := { program := "ytiehbnmpaeedpaagreat", sum := "a52fff42476aa677944b742da2806b561a51d6736b8cb09aca3d6fa1cf8a085b", func := "beadle/beadlelaw20.ModelKnown", spec := "modelKnown", inPlace := ["slices.overlaps[beadle/model.Serv]"], unfollowed := true, recurses := true, apart := false }
def ModelKnownSaid : Prop := modelKnownRow.holds Tryz.pinned (OpenSpec.ofChange modelKnownSpec)

/-- ITS FALSE NEIGHBOUR: 'it returns false'. Refute it at one input. -/
def modelKnownWrong : ChangeSpec := { name := "modelKnown", fn := fun _ => fun
  | [] => { results := [.lit (.bool false)], args := [] }
  | _ => none }
def ModelKnownWrongFalsely : Prop := modelKnownRow.holds Tryz.pinned (OpenSpec.ofChange modelKnownWrong)

/-- 'beadlelaw20.ModelRan': WHATEVER THE INPUT: true; the input reads as it did. -/
def modelRanSpec : ChangeSpec := { name := "modelRan", fn := fun _ => fun
  | [d1, d2, d3] => { results := [.lit (.bool true)], args := [d1, d2, d3] }
  | _ => none }
def modelRanRow : OpenClaim := { program := "ytiehbnmpaeedpaagreat", sum := "a52fff42476aa677944b742da2806b561a51d6736b8cb09aca3d6fa1cf8a085b", func := "beadle/beadlelaw20.ModelRan", spec := "modelRan", inPlace := ["slices.overlaps[beadle/model.Serv]"], unfollowed := true, recurses := true, apart := false }
def ModelRanSaid : Prop := modelRanRow.holds Tryz.pinned (OpenSpec.ofChange modelRanSpec)

/-- ITS FALSE NEIGHBOUR: 'it returns false'. Refute it at one input. -/
def modelRanWrong : ChangeSpec := { name := "modelRan", fn := fun _ => fun
  | [d1, d2, d3] => { results := [.lit (.bool false)], args := [d1, d2, d3] }
  | _ => none }
def ModelRanWrongFalsely : Prop := modelRanRow.holds Tryz.pinned (OpenSpec.ofChange modelRanWrong)

/-- 'beadlelaw20.ModelPlays': WHATEVER THE INPUT: true; the input reads as it did. -/
def modelPlaysSpec : ChangeSpec := { name := "modelPlays", fn := fun _ => fun
  | [d1, d2, d3] => { results := [.lit (.bool true)], args := [d1, d2, d3] }
  | _ => none }
def modelPlaysRow : OpenClaim := { program := "ytiehbnmpaeedpaagreat", sum := "a52fff42476aa677944b742da2806b561a51d6736b8cb09aca3d6fa1cf8a085b", func := "beadle/beadlelaw20.ModelPlays", spec := "modelPlays", inPlace := ["slices.overlaps[beadle/model.Serv]"], unfollowed := true, recurses := true, apart := false }
def ModelPlaysSaid : Prop := modelPlaysRow.holds Tryz.pinned (OpenSpec.ofChange modelPlaysSpec)

/-- ITS FALSE NEIGHBOUR: 'it returns false'. Refute it at one input. -/
def modelPlaysWrong : ChangeSpec := { name := "modelPlays", fn := fun _ => fun
  | [d1, d2, d3] => { results := [.lit (.bool false)], args := [d1, d2, d3] }
  | _ => none }
def ModelPlaysWrongFalsely : Prop := modelPlaysRow.holds Tryz.pinned (OpenSpec.ofChange modelPlaysWrong)

/-- 'beadlelaw20.ModelApart': WHATEVER THE INPUT: true; the input reads as it did. -/
def modelApartSpec : ChangeSpec := { name := "modelApart", fn := fun _ => fun
  | [d1, d2, d3, d4] => { results := [.lit (.bool true)], args := [d1, d2, d3, d4] }
  | _ => none }
def modelApartRow : OpenClaim := { program := "ytiehbnmpaeedpaagreat", sum := "a52fff42476aa677944b742da2806b561a51d6736b8cb09aca3d6fa1cf8a085b", func := "beadle/beadlelaw20.ModelApart", spec := "modelApart", inPlace := ["slices.overlaps[beadle/model.Serv]"], unfollowed := true, recurses := true, apart := false }
def ModelApartSaid : Prop := modelApartRow.holds Tryz.pinned (OpenSpec.ofChange modelApartSpec)

/-- ITS FALSE NEIGHBOUR: 'it returns false'. Refute it at one input. -/
def modelApartWrong : ChangeSpec := { name := "modelApart", fn := fun _ => fun
  | [d1, d2, d3, d4] => { results := [.lit (.bool false)], args := [d1, d2, d3, d4] }
  | _ => none }
def ModelApartWrongFalsely : Prop := modelApartRow.holds Tryz.pinned (OpenSpec.ofChange modelApartWrong)

/-- 'beadlelaw20.ModelSettles': WHATEVER THE INPUT: true; the input reads as it did. -/
def modelSettlesSpec : ChangeSpec := { name := "modelSettles", fn := fun _ => fun
  | [d1, d2, d3] => { results := [.lit (.bool true)], args := [d1, d2, d3] }
  | _ => none }
def modelSettlesRow : OpenClaim := { program := "ytiehbnmpaeedpaagreat", sum := "a52fff42476aa677944b742da2806b561a51d6736b8cb09aca3d6fa1cf8a085b", func := "beadle/beadlelaw20.ModelSettles", spec := "modelSettles", inPlace := ["slices.overlaps[beadle/model.Serv]"], unfollowed := true, recurses := true, apart := false }
def ModelSettlesSaid : Prop := modelSettlesRow.holds Tryz.pinned (OpenSpec.ofChange modelSettlesSpec)

/-- ITS FALSE NEIGHBOUR: 'it returns false'. Refute it at one input. -/
def modelSettlesWrong : ChangeSpec := { name := "modelSettles", fn := fun _ => fun
  | [d1, d2, d3] => { results := [.lit (.bool false)], args := [d1, d2, d3] }
  | _ => none }
def ModelSettlesWrongFalsely : Prop := modelSettlesRow.holds Tryz.pinned (OpenSpec.ofChange modelSettlesWrong)

/- THE SECOND FORM. 'bulk': how many values and letters a reading holds, each counted each time it is reached (what is shared counts as often as it is met; a slice's spare places count too). A statement '..UptoSaid' is the law's where the arguments, and the package variables that the reading takes, are together of bulk at most 1048576: NARROWER than '..Said'. Prove '..Said' where nothing that the law and all that it calls make is longer than what came in: it says more and counts as full. Else prove '..UptoSaid'. A law counts once. -/
mutual
def uptoBulk {H : Type} : DataW H → Nat
  | .lit (.string bytes) => bytes.length + 1
  | .lit _ => 1
  | .nil => 1
  | .ptr d => uptoBulk d + 1
  | .slice elems spare => uptoBulkAll elems + uptoBulkAll spare + 1
  | .agg parts => uptoBulkAll parts + 1
  | .iface _ d => uptoBulk d + 1
  | .map entries => uptoBulkEntries entries + 1
  | .held _ => 1
def uptoBulkAll {H : Type} : List (DataW H) → Nat
  | [] => 0
  | d :: r => uptoBulk d + uptoBulkAll r
def uptoBulkEntries {H : Type} : List (Lit × DataW H) → Nat
  | [] => 0
  | x :: r => uptoBulkEntry x + uptoBulkEntries r
def uptoBulkEntry {H : Type} : Lit × DataW H → Nat
  | (.string bytes, d) => bytes.length + uptoBulk d + 1
  | (_, d) => uptoBulk d + 1
 end
def uptoSmall : (H : Type) → List (DataW H) → Bool := fun _ ds => decide (uptoBulkAll ds ≤ 1048576)
def OpenSpec.upto (s : _root_.Go.ChangeSpec) : _root_.Go.OpenSpec := { _root_.Go.OpenSpec.ofChange s with cond := some uptoSmall }

/-- 'beadlelaw20.ModelKeeps', WHERE WHAT IT READS IS OF BULK AT MOST 1048576: true; the input reads as it did. -/
def modelKeepsUptoRow : OpenClaim := { program := "ytiehbnmpaeedpaagreat", sum := "a52fff42476aa677944b742da2806b561a51d6736b8cb09aca3d6fa1cf8a085b", func := "beadle/beadlelaw20.ModelKeeps", spec := "modelKeeps", inPlace := ["slices.overlaps[beadle/model.Serv]"], unfollowed := true, recurses := true, apart := false, narrowed := true }
def ModelKeepsUptoSaid : Prop := modelKeepsUptoRow.holds Tryz.pinned (OpenSpec.upto modelKeepsSpec)

/-- 'beadlelaw20.ModelBest', WHERE WHAT IT READS IS OF BULK AT MOST 1048576: true; the input reads as it did. -/
def modelBestUptoRow : OpenClaim := { program := "ytiehbnmpaeedpaagreat", sum := "a52fff42476aa677944b742da2806b561a51d6736b8cb09aca3d6fa1cf8a085b", func := "beadle/beadlelaw20.ModelBest", spec := "modelBest", inPlace := ["slices.overlaps[beadle/model.Serv]"], unfollowed := true, recurses := true, apart := false, narrowed := true }
def ModelBestUptoSaid : Prop := modelBestUptoRow.holds Tryz.pinned (OpenSpec.upto modelBestSpec)

/-- 'beadlelaw20.ModelJobs', WHERE WHAT IT READS IS OF BULK AT MOST 1048576: true; the input reads as it did. -/
def modelJobsUptoRow : OpenClaim := { program := "ytiehbnmpaeedpaagreat", sum := "a52fff42476aa677944b742da2806b561a51d6736b8cb09aca3d6fa1cf8a085b", func := "beadle/beadlelaw20.ModelJobs", spec := "modelJobs", inPlace := ["slices.overlaps[beadle/model.Serv]"], unfollowed := true, recurses := true, apart := false, narrowed := true }
def ModelJobsUptoSaid : Prop := modelJobsUptoRow.holds Tryz.pinned (OpenSpec.upto modelJobsSpec)

/-- 'beadlelaw20.ModelKnown', WHERE WHAT IT READS IS OF BULK AT MOST 1048576: true; the input reads as it did. -/
def modelKnownUptoRow : OpenClaim := { program := "ytiehbnmpaeedpaagreat", sum := "a52fff42476aa677944b742da2806b561a51d6736b8cb09aca3d6fa1cf8a085b", func := "beadle/beadlelaw20.ModelKnown", spec := "modelKnown", inPlace := ["slices.overlaps[beadle/model.Serv]"], unfollowed := true, recurses := true, apart := false, narrowed := true }
def ModelKnownUptoSaid : Prop := modelKnownUptoRow.holds Tryz.pinned (OpenSpec.upto modelKnownSpec)

/-- 'beadlelaw20.ModelRan', WHERE WHAT IT READS IS OF BULK AT MOST 1048576: true; the input reads as it did. -/
def modelRanUptoRow : OpenClaim := { program := "ytiehbnmpaeedpaagreat", sum := "a52fff42476aa677944b742da2806b561a51d6736b8cb09aca3d6fa1cf8a085b", func := "beadle/beadlelaw20.ModelRan", spec := "modelRan", inPlace := ["slices.overlaps[beadle/model.Serv]"], unfollowed := true, recurses := true, apart := false, narrowed := true }
def ModelRanUptoSaid : Prop := modelRanUptoRow.holds Tryz.pinned (OpenSpec.upto modelRanSpec)

/-- 'beadlelaw20.ModelPlays', WHERE WHAT IT READS IS OF BULK AT MOST 1048576: true; the input reads as it did. -/
def modelPlaysUptoRow : OpenClaim := { program := "ytiehbnmpaeedpaagreat", sum := "a52fff42476aa677944b742da2806b561a51d6736b8cb09aca3d6fa1cf8a085b", func := "beadle/beadlelaw20.ModelPlays", spec := "modelPlays", inPlace := ["slices.overlaps[beadle/model.Serv]"], unfollowed := true, recurses := true, apart := false, narrowed := true }
def ModelPlaysUptoSaid : Prop := modelPlaysUptoRow.holds Tryz.pinned (OpenSpec.upto modelPlaysSpec)

/-- 'beadlelaw20.ModelApart', WHERE WHAT IT READS IS OF BULK AT MOST 1048576: true; the input reads as it did. -/
def modelApartUptoRow : OpenClaim := { program := "ytiehbnmpaeedpaagreat", sum := "a52fff42476aa677944b742da2806b561a51d6736b8cb09aca3d6fa1cf8a085b", func := "beadle/beadlelaw20.ModelApart", spec := "modelApart", inPlace := ["slices.overlaps[beadle/model.Serv]"], unfollowed := true, recurses := true, apart := false, narrowed := true }
def ModelApartUptoSaid : Prop := modelApartUptoRow.holds Tryz.pinned (OpenSpec.upto modelApartSpec)

/-- 'beadlelaw20.ModelSettles', WHERE WHAT IT READS IS OF BULK AT MOST 1048576: true; the input reads as it did. -/
def modelSettlesUptoRow : OpenClaim := { program := "ytiehbnmpaeedpaagreat", sum := "a52fff42476aa677944b742da2806b561a51d6736b8cb09aca3d6fa1cf8a085b", func := "beadle/beadlelaw20.ModelSettles", spec := "modelSettles", inPlace := ["slices.overlaps[beadle/model.Serv]"], unfollowed := true, recurses := true, apart := false, narrowed := true }
def ModelSettlesUptoSaid : Prop := modelSettlesUptoRow.holds Tryz.pinned (OpenSpec.upto modelSettlesSpec)

end Rows
end Go.Proofs.YtiehbnmpaeedpaaGreat
