/-
  THE SUMMARIES OF 'AxSum' ARE WHAT THE MACHINE DOES.
-/
import Derived.Test.YtlenjadchmlliaaDoorAxSum
import Derived.Test.YtlenjadchmlliaaDoorAxRunC
import Derived.Laws.StandIn
namespace Go.AX
open Go

variable {P : Program}

theorem LR.one {φ : Phi} {x : Value} {l : List Value} {l' : List Value} (h : LR φ (x :: l) l') : ∃ x' r, l' = x' :: r ∧ VR φ x x' ∧ LR φ l r := by
  cases l' with
  | nil => exact absurd h.1 (by simp)
  | cons x' r =>
    refine ⟨x', r, rfl, h.2 0 x x' rfl rfl, ?_, fun i v v' h1 h2 => h.2 (i + 1) v v' (by simpa using h1) (by simpa using h2)⟩
    simpa using h.1

theorem LR.none {φ : Phi} {l' : List Value} (h : LR φ [] l') : l' = [] := by
  cases l' with
  | nil => rfl
  | cons _ _ => exact absurd h.1 (by simp)

theorem indexByte_ok {k : FuncId} {fn : Func} (hf : P.funcs[k]? = some fn) (hn : (fn.name == "runtime.NumGoroutine") = false) (hb : fn.body.isNone = true) (hx : Extern.findNext fn = none)
    (he : Extern.find fn = some Extern.BytealgIndexByte.indexByte) : SumOk P k indexByteA := by
  intro args m v m' h φ w args' hl hr
  unfold indexByteA at h
  split at h
  · rename_i s c
    cases h
    obtain ⟨x1, r1, e1, h1, hl⟩ := hl.one
    obtain ⟨x2, r2, e2, h2, hl⟩ := hl.one
    rw [hl.none] at e2
    rw [e2] at e1
    cases h1; cases h2
    refine .inr ⟨_, w, ?_, _, φ, rfl, .int .., hr, Stp.refl _ _ _⟩
    rw [run_callFunc_extern hf hn hb hx he]
    obtain ⟨l'⟩ := args'
    simp only at e1
    subst e1
    rw [Lib.run_indexByteString]
    rfl
  · cases h

theorem count_ok {k : FuncId} {fn : Func} (hf : P.funcs[k]? = some fn) (hn : (fn.name == "runtime.NumGoroutine") = false) (hb : fn.body.isNone = true) (hx : Extern.findNext fn = none)
    (he : Extern.find fn = some Extern.BytealgCount.count) : SumOk P k countA := by
  intro args m v m' h φ w args' hl hr
  unfold countA at h
  split at h
  · rename_i s c
    cases h
    obtain ⟨x1, r1, e1, h1, hl⟩ := hl.one
    obtain ⟨x2, r2, e2, h2, hl⟩ := hl.one
    rw [hl.none] at e2
    rw [e2] at e1
    cases h1; cases h2
    refine .inr ⟨_, w, ?_, _, φ, rfl, .int .., hr, Stp.refl _ _ _⟩
    rw [run_callFunc_extern hf hn hb hx he]
    obtain ⟨l'⟩ := args'
    simp only at e1
    subst e1
    rw [Lib.run_countString]
    rfl
  · cases h

end Go.AX
