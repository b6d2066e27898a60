/-
  Package note: the context: the library's functions by their contracts; 'awake' returns true.
-/
import Derived.Test.YtdeknemdeijljaaDoorRows
import Derived.Test.YtdeknemdeijljaaDoorShelf
import Derived.Test.YtdeknemdeijljaaDoorAxJoin
import Derived.Test.YtdeknemdeijljaaDoorAxFmt
import Derived.Test.YtdeknemdeijljaaDoorAxOpen
import Derived.KernelRfl
namespace Go.Proofs.YtdeknemdeijljaaDoor.vc
open Go Go.AX
set_option linter.unusedVariables false
set_option maxRecDepth 100000

instance : Kap := ⟨False⟩
theorem nk : ¬ Kap.k := fun h => h

noncomputable section
abbrev Ov := Tr (List Value → Mem → Option (Value × Mem))
def o2 : Ov := Tr.put .nil 36 (parseIntA 74)
def o3 : Ov := o2.put 38 (atoiA 74)
def o4 : Ov := o3.put 60 countA
def o5 : Ov := o4.put 64 cloneA
def ovA : Ov := o5.put 73 indexByteA
def cxA : Cx := Cx.of Tryd.prog ovA
theorem cxAOk : CxOk Tryd.prog cxA := CxOk.of _ _
theorem hmix : Tryd.prog.follows .mixedOrders = true := by kernel_rfl
theorem ovA_sum : ∀ j g, ovA.get j = some g → SumOk Tryd.prog j g :=
  ov_put (t := o5) (ov_put (t := o4) (ov_put (t := o3) (ov_put (t := o2) (ov_put (t := .nil) ov_nil
    (parseInt_ok nk Tryd.func36 (by kernel_rfl) (by kernel_rfl) Tryd.internal_strconv_ParseInt_10_all64))
    (atoi_ok nk Tryd.func38 (by kernel_rfl) (by kernel_rfl) Tryd.internal_strconv_Atoi_all))
    (count_ok Tryd.func60 (by kernel_rfl) (by kernel_rfl) (by kernel_rfl) (by kernel_rfl)))
    (clone_ok nk Tryd.func64 (by kernel_rfl) (by kernel_rfl) (fun s w h => Tryd.stringslite_Clone s w h)))
    (indexByte_ok Tryd.func73 (by kernel_rfl) (by kernel_rfl) (by kernel_rfl) (by kernel_rfl))
theorem ovAOk : OvOk Tryd.prog cxA := fun k f h => ovA_sum k f h

theorem awake_ran : isTrue (callN cxA 100000 7 [] (m0 Tryd.prog)) = true := by kernel_rfl

def p1 : Ov := ovA.put 54 len64A
def p2 : Ov := p1.put 43 fmt10A
def ov : Ov := p2.put 7 trueA
def cx : Cx := Cx.of Tryd.prog ov
theorem cxOk : CxOk Tryd.prog cx := CxOk.of _ _
theorem ovOk : OvOk Tryd.prog cx := fun k f h =>
  ov_put (t := p2) (ov_put (t := p1) (ov_put (t := ovA) ovA_sum
    (len64_ok Tryd.func54 (by kernel_rfl) (by kernel_rfl) Tryd.bits_Len64))
    (fmt10_ok Tryd.func43 (by kernel_rfl) (by kernel_rfl) Tryd.internal_strconv_formatBase10))
    (true_sum cxAOk ovAOk hmix (by kernel_rfl : Tryd.prog.funcs[7]? = some Tryd.f7) (by kernel_rfl) (by kernel_rfl) awake_ran) k f h
theorem awake_ok {m : Mem} {Q : Value → Mem → Prop} (h : Q (.bool true) m) : CallW cx 7 [] m Q := CallW.ov (f := trueA) (by kernel_rfl) rfl h
end
end Go.Proofs.YtdeknemdeijljaaDoor.vc
