/-
  Package fault: the context: reflectlite's entries as summaries.
-/
import Derived.Test.YtjefcmlnclnbeaaDoorRefl
import Derived.Test.YtjefcmlnclnbeaaDoorAxVcOk
namespace Go.Proofs.YtjefcmlnclnbeaaDoor.vc
open Go Go.AX
set_option linter.unusedVariables false
set_option maxRecDepth 100000
noncomputable section

def s17 : List Value → Mem → Option (Value × Mem) := typeOfA 4 67
def s19 : List Value → Mem → Option (Value × Mem) := valueOfA 4 [(31, 150), (27, 130), (33, 150), (50, 150)]
def s20 : List Value → Mem → Option (Value × Mem) := vtypeA 4 67 [(33, 150), (50, 150)]
def s21 : List Value → Mem → Option (Value × Mem) := visNilA 4 [(33, 150), (50, 150)]
def s24 : List Value → Mem → Option (Value × Mem) := velemA 4 [((33, 150), (31, 406)), ((50, 150), (27, 386))]
def s25 : List Value → Mem → Option (Value × Mem) := vsetA 4 [(31, 406, 150), (27, 386, 130)]
def s40 : List Value → Mem → Option (Value × Mem) := abiA 4 [(33, .int .u8 22), (50, .int .u8 22), (31, .int .u8 22), (27, .int .u8 2)]
def s64 : List Value → Mem → Option (Value × Mem) := relA 4 67 [(31, 31, true), (27, 27, true), (31, 27, false), (27, 31, false)]
def s65 : List Value → Mem → Option (Value × Mem) := methA 4 [(27, .bool true), (31, .bool true)]
def s66 : List Value → Mem → Option (Value × Mem) := methA 4 [(33, .iface 67 (.agg #[hT 4 31])), (50, .iface 67 (.agg #[hT 4 27]))]
def s67 : List Value → Mem → Option (Value × Mem) := relA 4 67 [(31, 24, true), (27, 24, true)]

def o1 : Tr (List Value → Mem → Option (Value × Mem)) := Tr.put .nil 17 s17
def o2 := o1.put 19 s19
def o3 := o2.put 20 s20
def o4 := o3.put 21 s21
def o5 := o4.put 24 s24
def o6 := o5.put 25 s25
def o7 := o6.put 40 s40
def o8 := o7.put 64 s64
def o9 := o8.put 65 s65
def o10 := o9.put 66 s66
def ov := o10.put 67 s67
def cx : Cx := Cx.of Tryd.prog ov
theorem cxOk : CxOk Tryd.prog cx := CxOk.of _ _
theorem hmix : Tryd.prog.follows .mixedOrders = true := by kernel_rfl
theorem ovOk : OvOk Tryd.prog cx := by
  have h17 := sum17; have h19 := sum19; have h20 := sum20; have h21 := sum21; have h24 := sum24; have h25 := sum25; have h40 := sum40; have h64 := sum64; have h65 := sum65; have h66 := sum66; have h67 := sum67
  rw [gsize] at h17 h19 h20 h21 h24 h25 h40 h64 h65 h66 h67
  intro k f h
  exact ov_put (t := o10) (ov_put (t := o9) (ov_put (t := o8) (ov_put (t := o7) (ov_put (t := o6) (ov_put (t := o5) (ov_put (t := o4) (ov_put (t := o3) (ov_put (t := o2) (ov_put (t := o1) (ov_put (t := .nil) ov_nil h17) h19) h20) h21) h24) h25) h40) h64) h65) h66) h67 k f h
end
end Go.Proofs.YtjefcmlnclnbeaaDoor.vc
