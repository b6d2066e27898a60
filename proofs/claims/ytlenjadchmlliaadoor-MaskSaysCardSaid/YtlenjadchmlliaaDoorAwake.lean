/-
  Package mask: the tables, and 'awake' as a summary: where the memory holds the table, it returns true.
-/
import Derived.Test.YtlenjadchmlliaaDoorRows
import Derived.Test.YtlenjadchmlliaaDoorShelf
import Derived.Test.YtlenjadchmlliaaDoorAxTabs
import Derived.Test.YtlenjadchmlliaaDoorAxJoin
import Derived.KernelRfl
namespace Go.Proofs.YtlenjadchmlliaaDoor.vc
open Go Go.AX
set_option linter.unusedVariables false
set_option maxRecDepth 100000

def tab64 : List Int := [0, 1, 56, 2, 57, 49, 28, 3, 61, 58, 42, 50, 38, 29, 17, 4, 62, 47, 59, 36, 45, 43, 51, 22, 53, 39, 33, 30, 24, 18, 12, 5, 63, 55, 48, 27, 60, 41, 37, 16, 46, 35, 44, 21, 52, 32, 23, 11, 54, 26, 40, 15, 34, 20, 31, 10, 25, 14, 19, 9, 13, 8, 7, 6]

def tabs : TabL := [(0, tab64.map (Value.int .u8))]

instance : Kap := ⟨False⟩

noncomputable section
def ovJ : Tr (List Value → Mem → Option (Value × Mem)) := Tr.put .nil 31 joinA
def cxJ : Cx := Cx.of Tryd.prog ovJ
theorem cxJOk : CxOk Tryd.prog cxJ := CxOk.of _ _
theorem hmix : Tryd.prog.follows .mixedOrders = true := by kernel_rfl
theorem ovJOk : OvOk Tryd.prog cxJ := fun k f h =>
  ov_put (P := Tryd.prog) (t := Tr.nil) (k := 31) (f := joinA) ov_nil (join_ok (fun h => h) Tryd.func31 (by kernel_rfl) (by kernel_rfl) Tryd.strings_Join_none Tryd.strings_Join) k f h

theorem awake_ran : isTrue (callN cxJ 100000 8 [] (tabMemR Tryd.prog tabs)) = true := by
  kernel_rfl

theorem tabs_plain : ∀ x ∈ tabs, x.1 < Tryd.prog.globals.size ∧ x.2.all plain1 = true := by
  intro x hx
  obtain rfl : x = (0, tab64.map (Value.int .u8)) := by simpa [tabs] using hx
  exact ⟨of_decide_eq_true (by kernel_rfl), by kernel_rfl⟩

theorem awake_sum : SumOk Tryd.prog 8 (trueT tabs) :=
  trueT_sum (n := 100000) (fn := Tryd.f8) cxJOk ovJOk hmix Tryd.func8 (by kernel_rfl) (by kernel_rfl) tabs_plain
    (fun x hx => by obtain rfl : x = (0, tab64.map (Value.int .u8)) := by simpa [tabs] using hx
                    decide) awake_ran

def ov : Tr (List Value → Mem → Option (Value × Mem)) := Tr.put ovJ 8 (trueT tabs)
def cx : Cx := Cx.of Tryd.prog ov
theorem cxOk : CxOk Tryd.prog cx := CxOk.of _ _
theorem ovOk : OvOk Tryd.prog cx := fun k f h =>
  ov_put (P := Tryd.prog) (t := ovJ) (k := 8) (f := trueT tabs) (fun j g hj => ovJOk j g hj) awake_sum k f h
theorem ov8 : cx.ov.get 8 = some (trueT tabs) := by
  show (Tr.put ovJ 8 (trueT tabs)).get 8 = _
  rw [Tr.get_put, if_pos rfl]
theorem ov31 : cx.ov.get 31 = some joinA := by
  show (Tr.put (Tr.put .nil 31 joinA) 8 (trueT tabs)).get 31 = _
  rw [Tr.get_put, if_neg (by decide), Tr.get_put, if_pos rfl]
end
end Go.Proofs.YtlenjadchmlliaaDoor.vc
