/-
  THE SUMMARIES OF 'AxSum' ARE WHAT THE MACHINE DOES.
-/
import Derived.Test.YtdeknemdeijljaaDoorAxSum
import Derived.Test.YtdeknemdeijljaaDoorAxBelow
import Derived.Laws.StandIn
namespace Go.AX

variable [Kap]
open Go

variable {P : Program}

theorem indexByte_ok {k : FuncId} {fn : Func} (hf : P.funcs[k]? = some fn) (hn : (fn.name == "runtime.NumGoroutine") = false) (hb : fn.body.isNone = true) (hx : Extern.findNext fn = none)
    (he : Extern.find fn = some Extern.BytealgIndexByte.indexByte) : SumOk P k indexByteA := by
  intro args m v m' h φ w args' hl hr
  unfold indexByteA at h
  split at h
  · rename_i s c
    cases h
    obtain ⟨x1, r1, e1, h1, hl⟩ := hl.one
    obtain ⟨x2, r2, e2, h2, hl⟩ := hl.one
    rw [hl.none] at e2
    rw [e2] at e1
    cases h1; cases h2
    refine .inr ⟨_, w, ?_, _, φ, rfl, .int .., hr, Stp.refl _ _ _⟩
    rw [run_callFunc_extern hf hn hb hx he]
    obtain ⟨l'⟩ := args'
    simp only at e1
    subst e1
    rw [Lib.run_indexByteString]
    rfl
  · cases h

theorem count_ok {k : FuncId} {fn : Func} (hf : P.funcs[k]? = some fn) (hn : (fn.name == "runtime.NumGoroutine") = false) (hb : fn.body.isNone = true) (hx : Extern.findNext fn = none)
    (he : Extern.find fn = some Extern.BytealgCount.count) : SumOk P k countA := by
  intro args m v m' h φ w args' hl hr
  unfold countA at h
  split at h
  · rename_i s c
    cases h
    obtain ⟨x1, r1, e1, h1, hl⟩ := hl.one
    obtain ⟨x2, r2, e2, h2, hl⟩ := hl.one
    rw [hl.none] at e2
    rw [e2] at e1
    cases h1; cases h2
    refine .inr ⟨_, w, ?_, _, φ, rfl, .int .., hr, Stp.refl _ _ _⟩
    rw [run_callFunc_extern hf hn hb hx he]
    obtain ⟨l'⟩ := args'
    simp only at e1
    subst e1
    rw [Lib.run_countString]
    rfl
  · cases h

end Go.AX
