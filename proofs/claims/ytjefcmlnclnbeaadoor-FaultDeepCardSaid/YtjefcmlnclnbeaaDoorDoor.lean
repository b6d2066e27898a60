/-
  Package fault: what the laid memory tells of errors.errorType; a world that meets the condition (after the kit's worked example 'toyas').
-/
import Derived.Test.YtjefcmlnclnbeaaDoorCode
import Derived.Test.YtjefcmlnclnbeaaDoorAxArg
import Derived.ChangeSame
import Derived.ChangeVars
import Derived.JoinedOf
import Derived.RowKit
import Derived.RowKitTokens
import Derived.LaidLaws
import Derived.LaidHandle
import Derived.Stop.Joined
namespace Go.Proofs.YtjefcmlnclnbeaaDoor.vc
open Go Go.ChangeShapes Go.WideShapes Go.RowKit Go.AX

theorem own : ownKnob Tryd.prog.godebug = none := by kernel_rfl
theorem et : Tryd.prog.globalNamed "errors.errorType" = some 0 := by kernel_rfl
theorem rt : (Tryd.prog.cutTypes.find? (·.1 == "internal/reflectlite.rtype")).map (·.2) = some 67 := by kernel_rfl
theorem size : Tryd.prog.types.size = 128 := by kernel_rfl
theorem oneRow : ((List.range 128).filter fun t => Tryd.prog.rowNamed t [101, 114, 114, 111, 114]) = [24] := by kernel_rfl

theorem handle_of_laid {W : World} {L} (hL : L = Rows.faultSameRow.laid) (h : laidMetH Tryd.prog L W) : W.cell? ⟨0, 0, none⟩ = some (.iface 67 (.agg #[hT 4 24])) := by
  subst hL
  have h' : laidMet Tryd.prog [] W ∧ handlesMet Tryd.prog Rows.faultSameRow.laid W := h
  obtain ⟨name, u, ty, e1, e2, e3, e4, e5⟩ := h'.2 _ (List.mem_singleton.2 rfl)
  have en : name = [101, 114, 114, 111, 114] := (Option.some.inj e1).symm
  subst en
  obtain rfl := Option.some.inj (rt.symm.trans e2)
  have hm : ty ∈ (List.range 128).filter fun t => Tryd.prog.rowNamed t [101, 114, 114, 111, 114] := List.mem_filter.2 ⟨List.mem_range.2 (by rw [← size]; exact e3), e4⟩
  rw [oneRow] at hm
  obtain rfl := List.mem_singleton.1 hm
  have hh : typeHandle Tryd.prog 24 = hT 4 24 := by kernel_rfl
  rw [hh] at e5
  simpa using World.var?_cell et e5 0

theorem errT_at {W : World} {L} (hL : L = Rows.faultSameRow.laid) (h : laidMetH Tryd.prog L W) : ErrT (mW Tryd.prog W) := by
  refine rd_mW (handle_of_laid hL h) ?_
  show ([hT 4 24].all (good0 (nOf Tryd.prog W))) = true
  have : 4 < nOf Tryd.prog W := by
    have h1 := gsize
    unfold nOf
    omega
  simp [good0, hT, this]

noncomputable def laidWorld (os : Os) : World :=
  let w0 := World.holding Tryd.prog os ⟨#[], #[], []⟩
  { w0 with heap := w0.heap.modify 0 fun
      | .cells _ t frozen => .cells #[.iface 67 (.agg #[hT 4 24])] t frozen
      | o => o }
theorem laidWorld_met (os : Os) (args : Array Value) : laidMetH Tryd.prog Rows.faultSameRow.laid ((laidWorld os).forCall (fun _ _ => 0) ⟨#[], args, []⟩).memory :=
  laidMetH_of_parts (laidMet_nil _ _) (by kernel_rfl)

end Go.Proofs.YtjefcmlnclnbeaaDoor.vc
