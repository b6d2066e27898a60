/-
  Package prog: the context: the library's functions by their contracts; 'awake' returns true.
-/
import Derived.Test.YtnhpljcjdfffkaaDoorRows
import Derived.Test.YtnhpljcjdfffkaaDoorShelf
import Derived.Test.YtnhpljcjdfffkaaDoorAxJoin
import Derived.Test.YtnhpljcjdfffkaaDoorAxFmt
import Derived.Test.YtnhpljcjdfffkaaDoorAxOpen
import Derived.KernelRfl
namespace Go.Proofs.YtnhpljcjdfffkaaDoor.vc
open Go Go.AX
set_option linter.unusedVariables false
set_option maxRecDepth 100000

instance : Kap := ⟨False⟩
theorem nk : ¬ Kap.k := fun h => h

noncomputable section
abbrev Ov := Tr (List Value → Mem → Option (Value × Mem))
def o1 : Ov := Tr.put .nil 31 joinA
def o2 : Ov := o1.put 37 (parseIntA 78)
def o3 : Ov := o2.put 39 (atoiA 78)
def o4 : Ov := o3.put 62 countA
def o5 : Ov := o4.put 69 cloneA
def ovA : Ov := o5.put 79 indexByteA
def cxA : Cx := Cx.of Tryd.prog ovA
theorem cxAOk : CxOk Tryd.prog cxA := CxOk.of _ _
theorem hmix : Tryd.prog.follows .mixedOrders = true := by kernel_rfl
theorem ovA_sum : ∀ j g, ovA.get j = some g → SumOk Tryd.prog j g :=
  ov_put (t := o5) (ov_put (t := o4) (ov_put (t := o3) (ov_put (t := o2) (ov_put (t := o1) (ov_put (t := .nil) ov_nil
    (join_ok nk Tryd.func31 (by kernel_rfl) (by kernel_rfl) Tryd.strings_Join_none Tryd.strings_Join))
    (parseInt_ok nk Tryd.func37 (by kernel_rfl) (by kernel_rfl) Tryd.internal_strconv_ParseInt_10_all64))
    (atoi_ok nk Tryd.func39 (by kernel_rfl) (by kernel_rfl) Tryd.internal_strconv_Atoi_all))
    (count_ok Tryd.func62 (by kernel_rfl) (by kernel_rfl) (by kernel_rfl) (by kernel_rfl)))
    (clone_ok nk Tryd.func69 (by kernel_rfl) (by kernel_rfl) (fun s w h => Tryd.stringslite_Clone s w h)))
    (indexByte_ok Tryd.func79 (by kernel_rfl) (by kernel_rfl) (by kernel_rfl) (by kernel_rfl))
theorem ovAOk : OvOk Tryd.prog cxA := fun k f h => ovA_sum k f h

theorem awake_ran : isTrue (callN cxA 100000 8 [] (m0 Tryd.prog)) = true := by kernel_rfl

def p1 : Ov := ovA.put 72 len64A
def p2 : Ov := p1.put 56 fmt10A
def ov : Ov := p2.put 8 trueA
def cx : Cx := Cx.of Tryd.prog ov
theorem cxOk : CxOk Tryd.prog cx := CxOk.of _ _
theorem ovOk : OvOk Tryd.prog cx := fun k f h =>
  ov_put (t := p2) (ov_put (t := p1) (ov_put (t := ovA) ovA_sum
    (len64_ok Tryd.func72 (by kernel_rfl) (by kernel_rfl) Tryd.bits_Len64))
    (fmt10_ok Tryd.func56 (by kernel_rfl) (by kernel_rfl) Tryd.internal_strconv_formatBase10))
    (true_sum cxAOk ovAOk hmix (by kernel_rfl : Tryd.prog.funcs[8]? = some Tryd.f8) (by kernel_rfl) (by kernel_rfl) awake_ran) k f h
theorem awake_ok {m : Mem} {Q : Value → Mem → Prop} (h : Q (.bool true) m) : CallW cx 8 [] m Q := CallW.ov (f := trueA) (by kernel_rfl) rfl h
end
end Go.Proofs.YtnhpljcjdfffkaaDoor.vc
