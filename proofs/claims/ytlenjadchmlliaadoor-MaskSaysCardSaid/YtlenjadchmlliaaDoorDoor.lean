/-
  Package mask: the tables of the laid memory, as the executor's memory reads them; the door's own memory meets the condition.
-/
import Derived.Test.YtlenjadchmlliaaDoorAwake
import Derived.Test.YtlenjadchmlliaaDoorAxArg
import Derived.Test.YtlenjadchmlliaaDoorAxTab
import Derived.WalkKit
import Derived.ProofKit
import Derived.OpenShut
import Derived.LaidMore
import Derived.SevenTiedAt
namespace Go.Proofs.YtlenjadchmlliaaDoor.vc
open Go Go.ChangeShapes Go.WideShapes Go.ChangeAt Go.RowKit Go.AX

theorem own : ownKnob Tryd.prog.godebug = none := by kernel_rfl

theorem laid64 : (Rows.laid_math_bits_deBruijn64tab : DataW Unit) = .agg (tab64.map fun z => .lit (.int .u8 z)) := rfl

theorem tabs_at {W : World} {L} (hL : L = Rows.maskKnownRow.laid) (h : laidMetH Tryd.prog L W) : tabsIn tabs (mW Tryd.prog W) := by
  subst hL
  rw [MakeChecks.laidMetH_plain _ _ _ (by kernel_rfl)] at h
  obtain ⟨ps, h1, _, h2⟩ := h
  have key := Go.AX.laid_heap h1 (fun b off hm => (h2 b off hm).1)
  intro x hx
  obtain ⟨g, t, cs, fuel, p, g1, g2, g3, g4⟩ := key ("math/bits.deBruijn64tab", Rows.laid_math_bits_deBruijn64tab) (by simp [Rows.maskKnownRow])
  obtain rfl := Option.some.inj ((show Tryd.prog.globalNamed "math/bits.deBruijn64tab" = some 0 by kernel_rfl).symm.trans g1)
  obtain rfl := Option.some.inj ((show (Tryd.prog.globals[0]?).map (·.type) = some 53 by kernel_rfl).symm.trans g2)
  dsimp only at g3
  rw [laid64] at g3
  have hcs := Go.AX.cells_ints (n := 64) (k := .u8) Tryd.underlying53 Tryd.underlying5 (by kernel_rfl) (by kernel_rfl) g3
  obtain rfl : x = (0, tab64.map (Value.int .u8)) := by simpa [tabs] using hx
  have hcs' : cs = (tab64.map (Value.int .u8)).toArray := Array.ext' (by simpa using hcs)
  obtain ⟨t', ht'⟩ := g4 (by rw [hcs']; decide)
  exact rd_mW_tab (t := t') (by rw [← hcs']; exact ht') (by kernel_rfl)

/-- The door's own heap meets the condition. -/
theorem door_met (os : Os) (args : Array Value) : laidMetH Tryd.prog Rows.maskKnownRow.laid ((World.doorLaid Tryd.prog 24 os).forCall (fun _ _ => 0) ⟨#[], args, []⟩).memory := by
  rw [MakeChecks.laidMetH_plain _ _ _ (by kernel_rfl)]
  exact laidMet_of_run' 8 (by kernel_rfl) (by kernel_rfl)

end Go.Proofs.YtlenjadchmlliaaDoor.vc
