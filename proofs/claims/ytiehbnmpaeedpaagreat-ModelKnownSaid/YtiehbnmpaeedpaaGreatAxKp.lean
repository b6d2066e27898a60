/-
  OWN WORK. CALLS THAT LEAVE WHAT WAS THERE: small laws.
-/
import Derived.Test.YtiehbnmpaeedpaaGreatAxVdRun
import Derived.Test.YtiehbnmpaeedpaaGreatAxArr
namespace Go.AX
open Go
set_option linter.unusedVariables false

theorem neI_self (x : Int) : neI x x = false := by simp [neI]

theorem Keep.unset {m m1 : Mem} {n : Nat} (hw : Wf m) (h : Keep (setFl m n) m1) : Keep m (setFl m1 m.fl) := by
  refine ⟨⟨?_, h.wf.2⟩, h.nx, rfl, h.get⟩
  have := h.nx
  have h2 := hw.1
  simp only [setFl_fl, setFl_nx] at *
  omega

theorem Wf.setFl {m : Mem} (h : Wf m) {n : Nat} (hn : n ≤ m.nx) : Wf (AX.setFl m n) := ⟨hn, h.2⟩

/-- .. behind other new blocks -/
theorem Keep.unset' {m m0 m1 : Mem} {n : Nat} (h0 : Keep m m0) (h : Keep (AX.setFl m0 n) m1) : Keep m (AX.setFl m1 m0.fl) := h0.trans (Keep.unset h0.wf h)

end Go.AX
