/-
  Package note: 'awake' as a summary: it returns true (strconv's functions by their contracts).
-/
import Derived.Test.YtdeknemdeijljaaDoorRows
import Derived.Test.YtdeknemdeijljaaDoorShelf
import Derived.Test.YtdeknemdeijljaaDoorAxJoin
import Derived.Test.YtdeknemdeijljaaDoorAxOpen
import Derived.KernelRfl
namespace Go.Proofs.YtdeknemdeijljaaDoor.vc
open Go Go.AX
set_option linter.unusedVariables false
set_option maxRecDepth 100000

instance : Kap := ⟨False⟩

noncomputable section
def ovA : Tr (List Value → Mem → Option (Value × Mem)) := (((Tr.put .nil 36 (parseIntA 74)).put 38 (atoiA 74)).put 60 countA).put 73 indexByteA
def cxA : Cx := Cx.of Tryd.prog ovA
theorem cxAOk : CxOk Tryd.prog cxA := CxOk.of _ _
theorem hmix : Tryd.prog.follows .mixedOrders = true := by kernel_rfl
theorem ovAOk : OvOk Tryd.prog cxA := by
  intro k f h
  refine ov_put (P := Tryd.prog) (t := ((Tr.put .nil 36 (parseIntA 74)).put 38 (atoiA 74)).put 60 countA) (k := 73) (f := indexByteA) ?_ (indexByte_ok Tryd.func73 (by kernel_rfl) (by kernel_rfl) (by kernel_rfl) (by kernel_rfl)) k f h
  refine ov_put (P := Tryd.prog) (t := (Tr.put .nil 36 (parseIntA 74)).put 38 (atoiA 74)) (k := 60) (f := countA) ?_ (count_ok Tryd.func60 (by kernel_rfl) (by kernel_rfl) (by kernel_rfl) (by kernel_rfl))
  refine ov_put (P := Tryd.prog) (t := Tr.put .nil 36 (parseIntA 74)) (k := 38) (f := atoiA 74) ?_ (atoi_ok (fun h => h) Tryd.func38 (by kernel_rfl) (by kernel_rfl) Tryd.internal_strconv_Atoi_all)
  exact ov_put (P := Tryd.prog) (t := .nil) (k := 36) (f := parseIntA 74) ov_nil (parseInt_ok (fun h => h) Tryd.func36 (by kernel_rfl) (by kernel_rfl) Tryd.internal_strconv_ParseInt_10_all64)

theorem awake_ran : isTrue (callN cxA 100000 7 [] (m0 Tryd.prog)) = true := by kernel_rfl

def ov : Tr (List Value → Mem → Option (Value × Mem)) := Tr.nil.put 7 trueA
def cx : Cx := Cx.of Tryd.prog ov
theorem cxOk : CxOk Tryd.prog cx := CxOk.of _ _
theorem ovOk : OvOk Tryd.prog cx :=
  ov_put ov_nil (true_sum cxAOk ovAOk hmix (by kernel_rfl : Tryd.prog.funcs[7]? = some Tryd.f7) (by kernel_rfl) (by kernel_rfl) awake_ran)
theorem awake_ok {m : Mem} {Q : Value → Mem → Prop} (h : Q (.bool true) m) : CallW cx 7 [] m Q := CallW.ov (f := trueA) (by kernel_rfl) rfl h
end
end Go.Proofs.YtdeknemdeijljaaDoor.vc
