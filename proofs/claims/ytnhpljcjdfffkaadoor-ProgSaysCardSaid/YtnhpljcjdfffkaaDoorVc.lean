/-
  Formulas of the functions of package prog, of the reference and of the laws: printed by a program (vcprint.py) out of the loaded code; Lean's kernel holds each against the code.
-/
import Derived.Test.YtnhpljcjdfffkaaDoorAwake
import Derived.Test.YtnhpljcjdfffkaaDoorAxVcOk
import Derived.KernelRfl
namespace Go.Proofs.YtnhpljcjdfffkaaDoor.vc
open Go Go.AX
set_option linter.unusedVariables false
set_option maxRecDepth 100000
noncomputable section

-- 71 internal/strconv.log10Pow2
noncomputable def A71 : Ann := [none, none]
def F71 (x0 : Int) (m : Mem) (Q : Value → Mem → Prop) : Prop :=
  (0 ≤ (18 : Int) ∧ (Q (.int .i64 (shrI .i64 (mulI .i64 (x0) (78913 : Int)) (18 : Int))) m))
theorem F71_eq (x0 : Int) (m : Mem) (Q : Value → Mem → Prop) : F71 x0 m Q = vFn cx Tryd.f71 A71 [.int .i64 (x0)] m Q := by kernel_rfl
theorem F71_ok {x0 : Int} {m : Mem} {Q : Value → Mem → Prop} (h : F71 x0 m Q) : CallW cx 71 [.int .i64 (x0)] m Q :=
  CallW.of (by kernel_rfl) (by kernel_rfl) (Eq.mp (F71_eq x0 m Q) h)

-- 73 internal/strconv.bool2[int]
noncomputable def A73 : Ann := [none, none, none, none, none]
def F73 (b0 : Bool) (m : Mem) (Q : Value → Mem → Prop) : Prop :=
  (splitB (b0)
  (Q (.int .i64 (1 : Int)) m)
  (Q (.int .i64 (0 : Int)) m))
theorem F73_eq (b0 : Bool) (m : Mem) (Q : Value → Mem → Prop) : F73 b0 m Q = vFn cx Tryd.f73 A73 [.bool (b0)] m Q := by kernel_rfl
theorem F73_ok {b0 : Bool} {m : Mem} {Q : Value → Mem → Prop} (h : F73 b0 m Q) : CallW cx 73 [.bool (b0)] m Q :=
  CallW.of (by kernel_rfl) (by kernel_rfl) (Eq.mp (F73_eq b0 m Q) h)

-- 55 internal/strconv.numDigits
noncomputable def A55 : Ann := [none, none, none]
def F55 (x0 : Int) (m : Mem) (Q : Value → Mem → Prop) : Prop :=
  (CallW cx 72 [.int .u64 (x0)] m fun r5 m1 => (∃ (x5 : Int), r5 = (.int .i64 (x5)) ∧ (CallW cx 71 [.int .i64 (x5)] m1 fun r6 m2 => (∃ (x6 : Int), r6 = (.int .i64 (x6)) ∧ ((0 ≤ (x6) ∧ (x6) < ((20 : Nat) : Int)) ∧ (∃ (x11 : Int), rd m2 3 (0 + Int.toNat (x6) * 1) = some (.int .u64 (x11)) ∧ (CallW cx 73 [.bool (leI (x11) (x0))] m2 fun r13 m3 => (∃ (x13 : Int), r13 = (.int .i64 (x13)) ∧ (Q (.int .i64 (addI .i64 (x6) (x13))) m3)))))))))
theorem F55_eq (x0 : Int) (m : Mem) (Q : Value → Mem → Prop) : F55 x0 m Q = vFn cx Tryd.f55 A55 [.int .u64 (x0)] m Q := by kernel_rfl
theorem F55_ok {x0 : Int} {m : Mem} {Q : Value → Mem → Prop} (h : F55 x0 m Q) : CallW cx 55 [.int .u64 (x0)] m Q :=
  CallW.of (by kernel_rfl) (by kernel_rfl) (Eq.mp (F55_eq x0 m Q) h)

-- 54 internal/strconv.small
noncomputable def A54 : Ann := [none, none, none, none, none]
def F54 (x0 : Int) (m : Mem) (Q : Value → Mem → Prop) : Prop :=
  (splitB (ltI (x0) (10 : Int))
  (∃ s8 : ByteArray, sliceOp cx m 9 (.string (ByteArray.mk #[48, 49, 50, 51, 52, 53, 54, 55, 56, 57, 97, 98, 99, 100, 101, 102, 103, 104, 105, 106, 107, 108, 109, 110, 111, 112, 113, 114, 115, 116, 117, 118, 119, 120, 121, 122])) (some (.int .i64 (x0))) (some (.int .i64 (addI .i64 (x0) (1 : Int)))) none = some (.string s8) ∧ (Q (.string (s8)) m))
  (∃ s14 : ByteArray, sliceOp cx m 9 (.string (ByteArray.mk #[48, 48, 48, 49, 48, 50, 48, 51, 48, 52, 48, 53, 48, 54, 48, 55, 48, 56, 48, 57, 49, 48, 49, 49, 49, 50, 49, 51, 49, 52, 49, 53, 49, 54, 49, 55, 49, 56, 49, 57, 50, 48, 50, 49, 50, 50, 50, 51, 50, 52, 50, 53, 50, 54, 50, 55, 50, 56, 50, 57, 51, 48, 51, 49, 51, 50, 51, 51, 51, 52, 51, 53, 51, 54, 51, 55, 51, 56, 51, 57, 52, 48, 52, 49, 52, 50, 52, 51, 52, 52, 52, 53, 52, 54, 52, 55, 52, 56, 52, 57, 53, 48, 53, 49, 53, 50, 53, 51, 53, 52, 53, 53, 53, 54, 53, 55, 53, 56, 53, 57, 54, 48, 54, 49, 54, 50, 54, 51, 54, 52, 54, 53, 54, 54, 54, 55, 54, 56, 54, 57, 55, 48, 55, 49, 55, 50, 55, 51, 55, 52, 55, 53, 55, 54, 55, 55, 55, 56, 55, 57, 56, 48, 56, 49, 56, 50, 56, 51, 56, 52, 56, 53, 56, 54, 56, 55, 56, 56, 56, 57, 57, 48, 57, 49, 57, 50, 57, 51, 57, 52, 57, 53, 57, 54, 57, 55, 57, 56, 57, 57])) (some (.int .i64 (mulI .i64 (x0) (2 : Int)))) (some (.int .i64 (addI .i64 (mulI .i64 (x0) (2 : Int)) (2 : Int)))) none = some (.string s14) ∧ (Q (.string (s14)) m)))
theorem F54_eq (x0 : Int) (m : Mem) (Q : Value → Mem → Prop) : F54 x0 m Q = vFn cx Tryd.f54 A54 [.int .i64 (x0)] m Q := by kernel_rfl
theorem F54_ok {x0 : Int} {m : Mem} {Q : Value → Mem → Prop} (h : F54 x0 m Q) : CallW cx 54 [.int .i64 (x0)] m Q :=
  CallW.of (by kernel_rfl) (by kernel_rfl) (Eq.mp (F54_eq x0 m Q) h)

-- 40 internal/strconv.FormatInt
noncomputable def A40 : Ann := [none, none, none, none, some ([0], [(17, .bool)]), none, none, none, some ([0, 5], [(6, .int .u64)]), none, none, none, none, none, none, none, none, none, none]
def F40 (x0 : Int) (x1 : Int) (m : Mem) (Q : Value → Mem → Prop) : Prop :=
  (splitB (eqI (x1) (10 : Int))
  (joinK (fun (b17 : Bool) (m1 : Mem) => (splitB (b17)
  (CallW cx 54 [.int .i64 (x0)] m1 fun r19 m2 => (∃ (s19 : ByteArray), r19 = (.string (s19)) ∧ (Q (.string (s19)) m2)))
  (mBind (newO m1 (row [.int .u8 (0 : Int), .int .u8 (0 : Int), .int .u8 (0 : Int), .int .u8 (0 : Int), .int .u8 (0 : Int), .int .u8 (0 : Int), .int .u8 (0 : Int), .int .u8 (0 : Int), .int .u8 (0 : Int), .int .u8 (0 : Int), .int .u8 (0 : Int), .int .u8 (0 : Int), .int .u8 (0 : Int), .int .u8 (0 : Int), .int .u8 (0 : Int), .int .u8 (0 : Int), .int .u8 (0 : Int), .int .u8 (0 : Int), .int .u8 (0 : Int), .int .u8 (0 : Int), .int .u8 (0 : Int), .int .u8 (0 : Int), .int .u8 (0 : Int), .int .u8 (0 : Int)] 86 false)) fun m3 => (joinK (fun (x6 : Int) (m4 : Mem) => (CallW cx 55 [.int .u64 (x6)] m4 fun r27 m5 => (∃ (x27 : Int), r27 = (.int .i64 (x27)) ∧ (∃ (a30 : Option Addr) (n30 c30 : Nat), sliceOp cx m5 86 (.pointer (some ⟨m1.nx, 0, none⟩)) (some (.int .i64 (1 : Int))) (some (.int .i64 (addI .i64 (1 : Int) (x27)))) none = some (.slice a30 (n30) (c30)) ∧ (CallW cx 56 [.slice a30 (n30) (c30), .int .u64 (x6)] m5 fun r32 m6 => r32 = (.tuple #[]) ∧ (splitB (ltI (x0) (0 : Int))
  ((0 ≤ (0 : Int) ∧ (0 : Int) < ((24 : Nat) : Int)) ∧ (okW m6 m1.nx (0 + Int.toNat (0 : Int) * 1) 1 ∧ (mBind (wr m6 m1.nx (0 + Int.toNat (0 : Int) * 1) [.int .u8 (45 : Int)]) fun m7 => (∃ (a38 : Option Addr) (n38 c38 : Nat), sliceOp cx m7 86 (.pointer (some ⟨m1.nx, 0, none⟩)) none (some (.int .i64 (addI .i64 (1 : Int) (x27)))) none = some (.slice a38 (n38) (c38)) ∧ (∃ s39 : ByteArray, convertA cx m7 71 9 (.slice a38 (n38) (c38)) = some (.string s39) ∧ (Q (.string (s39)) m7))))))
  (∃ (a42 : Option Addr) (n42 c42 : Nat), sliceOp cx m6 86 (.pointer (some ⟨m1.nx, 0, none⟩)) (some (.int .i64 (1 : Int))) (some (.int .i64 (addI .i64 (1 : Int) (x27)))) none = some (.slice a42 (n42) (c42)) ∧ (∃ s43 : ByteArray, convertA cx m6 71 9 (.slice a42 (n42) (c42)) = some (.string s43) ∧ (Q (.string (s43)) m6))))))))) fun J_1 =>
  (splitB (ltI (x0) (0 : Int))
  (J_1 (subI .u64 0 (cvI .u64 (x0))) m3)
  (J_1 (cvI .u64 (x0)) m3)))))) fun J =>
  (splitB (leI (0 : Int) (x0)) (J (ltI (x0) (100 : Int)) m) (J (false) m)))
  (CallW cx 57 [.slice none (0) (0), .int .u64 (cvI .u64 (x0)), .int .i64 (x1), .bool (ltI (x0) (0 : Int)), .bool (false)] m fun r50 m8 => (∃ (a50 : Option Addr) (n50 c50 : Nat), (∃ (s50 : ByteArray), r50 = (.tuple #[.slice a50 (n50) (c50), .string (s50)]) ∧ (Q (.string (s50)) m8)))))
theorem F40_eq (x0 : Int) (x1 : Int) (m : Mem) (Q : Value → Mem → Prop) : F40 x0 x1 m Q = vFn cx Tryd.f40 A40 [.int .i64 (x0), .int .i64 (x1)] m Q := by kernel_rfl
theorem F40_ok {x0 : Int} {x1 : Int} {m : Mem} {Q : Value → Mem → Prop} (h : F40 x0 x1 m Q) : CallW cx 40 [.int .i64 (x0), .int .i64 (x1)] m Q :=
  CallW.of (by kernel_rfl) (by kernel_rfl) (Eq.mp (F40_eq x0 x1 m Q) h)

-- 29 strconv.FormatInt
noncomputable def A29 : Ann := [none, none]
def F29 (x0 : Int) (x1 : Int) (m : Mem) (Q : Value → Mem → Prop) : Prop :=
  (CallW cx 40 [.int .i64 (x0), .int .i64 (x1)] m fun r7 m1 => (∃ (s7 : ByteArray), r7 = (.string (s7)) ∧ (Q (.string (s7)) m1)))
theorem F29_eq (x0 : Int) (x1 : Int) (m : Mem) (Q : Value → Mem → Prop) : F29 x0 x1 m Q = vFn cx Tryd.f29 A29 [.int .i64 (x0), .int .i64 (x1)] m Q := by kernel_rfl
theorem F29_ok {x0 : Int} {x1 : Int} {m : Mem} {Q : Value → Mem → Prop} (h : F29 x0 x1 m Q) : CallW cx 29 [.int .i64 (x0), .int .i64 (x1)] m Q :=
  CallW.of (by kernel_rfl) (by kernel_rfl) (Eq.mp (F29_eq x0 x1 m Q) h)

-- 41 internal/strconv.Itoa
noncomputable def A41 : Ann := [none, none]
def F41 (x0 : Int) (m : Mem) (Q : Value → Mem → Prop) : Prop :=
  (CallW cx 40 [.int .i64 (x0), .int .i64 (10 : Int)] m fun r4 m1 => (∃ (s4 : ByteArray), r4 = (.string (s4)) ∧ (Q (.string (s4)) m1)))
theorem F41_eq (x0 : Int) (m : Mem) (Q : Value → Mem → Prop) : F41 x0 m Q = vFn cx Tryd.f41 A41 [.int .i64 (x0)] m Q := by kernel_rfl
theorem F41_ok {x0 : Int} {m : Mem} {Q : Value → Mem → Prop} (h : F41 x0 m Q) : CallW cx 41 [.int .i64 (x0)] m Q :=
  CallW.of (by kernel_rfl) (by kernel_rfl) (Eq.mp (F41_eq x0 m Q) h)

-- 30 strconv.Itoa
noncomputable def A30 : Ann := [none, none]
def F30 (x0 : Int) (m : Mem) (Q : Value → Mem → Prop) : Prop :=
  (CallW cx 41 [.int .i64 (x0)] m fun r4 m1 => (∃ (s4 : ByteArray), r4 = (.string (s4)) ∧ (Q (.string (s4)) m1)))
theorem F30_eq (x0 : Int) (m : Mem) (Q : Value → Mem → Prop) : F30 x0 m Q = vFn cx Tryd.f30 A30 [.int .i64 (x0)] m Q := by kernel_rfl
theorem F30_ok {x0 : Int} {m : Mem} {Q : Value → Mem → Prop} (h : F30 x0 m Q) : CallW cx 30 [.int .i64 (x0)] m Q :=
  CallW.of (by kernel_rfl) (by kernel_rfl) (Eq.mp (F30_eq x0 m Q) h)

-- 63 internal/stringslite.IndexByte
noncomputable def A63 : Ann := [none, none]
def F63 (s0 : ByteArray) (x1 : Int) (m : Mem) (Q : Value → Mem → Prop) : Prop :=
  (CallW cx 79 [.string (s0), .int .u8 (x1)] m fun r7 m1 => (∃ (x7 : Int), r7 = (.int .i64 (x7)) ∧ (Q (.int .i64 (x7)) m1)))
theorem F63_eq (s0 : ByteArray) (x1 : Int) (m : Mem) (Q : Value → Mem → Prop) : F63 s0 x1 m Q = vFn cx Tryd.f63 A63 [.string (s0), .int .u8 (x1)] m Q := by kernel_rfl
theorem F63_ok {s0 : ByteArray} {x1 : Int} {m : Mem} {Q : Value → Mem → Prop} (h : F63 s0 x1 m Q) : CallW cx 63 [.string (s0), .int .u8 (x1)] m Q :=
  CallW.of (by kernel_rfl) (by kernel_rfl) (Eq.mp (F63_eq s0 x1 m Q) h)

-- 48 internal/stringslite.Index
noncomputable def A48 : Ann := [none, none, none, some ([0, 1, 5], [(16, .bool)]), none, none, none, none, none, some ([0, 1, 5], [(36, .bool)]), none, none, none, none, none, none, none, some ([0, 1, 5, 6, 7, 9], [(8, .int .i64), (10, .int .i64)]), none, none, some ([0, 1, 5, 6, 7, 9, 10], [(8, .int .i64)]), none, none, none, none, none, some ([0, 1, 5, 6, 7, 8, 9, 10], []), none, none, none, none, some ([0, 1, 5, 6, 7, 8, 9, 10], [(107, .bool)]), none, none, none, none, none, some ([0, 1, 5, 6, 7, 8, 9, 10], [(132, .bool)]), none, none, none, none, none, none]
def F48 (s0 : ByteArray) (s1 : ByteArray) (m : Mem) (Q : Value → Mem → Prop) : Prop :=
  (joinK (fun (b16 : Bool) (m1 : Mem) => (splitB (b16)
  (Q (.int .i64 (0 : Int)) m1)
  (splitB (eqI (lenI (lenS (s1))) (1 : Int))
  (0 ≤ (0 : Int) ∧ (∃ c29 : UInt8, (s1).data.toList[Int.toNat (0 : Int)]? = some c29 ∧ (CallW cx 63 [.string (s0), .int .u8 (lenI (c29).toNat)] m1 fun r30 m2 => (∃ (x30 : Int), r30 = (.int .i64 (x30)) ∧ (Q (.int .i64 (x30)) m2)))))
  (splitB (leI (lenI (lenS (s0))) (lenI (lenS (s1))))
  (Q (.int .i64 (-1 : Int)) m1)
  (joinK (fun (b36 : Bool) (m3 : Mem) => (splitB (b36)
  (CallW cx 64 [.string (s0), .string (s1)] m3 fun r47 m4 => (∃ (x47 : Int), r47 = (.int .i64 (x47)) ∧ (Q (.int .i64 (x47)) m4)))
  (0 ≤ (0 : Int) ∧ (∃ c49 : UInt8, (s1).data.toList[Int.toNat (0 : Int)]? = some c49 ∧ (0 ≤ (1 : Int) ∧ (∃ c51 : UInt8, (s1).data.toList[Int.toNat (1 : Int)]? = some c51 ∧ (∃ Inv : Int → Int → Mem → Nat → Prop, (∃ n : Nat, Inv (0 : Int) (0 : Int) m3 n) ∧
  (∀ (x8 : Int) (x10 : Int), ∀ (m5 : Mem) (n_2 : Nat), Inv (x8) (x10) m5 n_2 →
  (splitB (ltI (x8) (addI .i64 (subI .i64 (lenI (lenS (s0))) (lenI (lenS (s1)))) (1 : Int)))
  (joinK (fun (x8_4 : Int) (m6 : Mem) => (joinK (fun  (m7 : Mem) => (joinK (fun (b107 : Bool) (m8 : Mem) => (splitB (b107)
  (∃ s110 : ByteArray, sliceOp cx m8 9 (.string (s0)) (some (.int .i64 (addI .i64 (x8_4) (1 : Int)))) none none = some (.string s110) ∧ (CallW cx 64 [.string (s110), .string (s1)] m8 fun r112 m9 => (∃ (x112 : Int), r112 = (.int .i64 (x112)) ∧ (splitB (leI (0 : Int) (x112))
  (Q (.int .i64 (addI .i64 (x112) (addI .i64 (x8_4) (1 : Int)))) m9)
  (Q (.int .i64 (-1 : Int)) m9)))))
  (joinK (fun (b132 : Bool) (m10 : Mem) => (splitB (b132)
  (∃ s135 : ByteArray, sliceOp cx m10 9 (.string (s0)) (some (.int .i64 (addI .i64 (x8_4) (1 : Int)))) none none = some (.string s135) ∧ (CallW cx 66 [.string (s135), .string (s1)] m10 fun r137 m11 => (∃ (x137 : Int), r137 = (.int .i64 (x137)) ∧ (splitB (ltI (x137) (0 : Int))
  (Q (.int .i64 (-1 : Int)) m11)
  (Q (.int .i64 (addI .i64 (addI .i64 (x8_4) (1 : Int)) (x137))) m11)))))
  (∃ n_8 : Nat, n_8 < n_2 ∧ Inv (addI .i64 (x8_4) (1 : Int)) (addI .i64 (x10) (1 : Int)) m10 n_8))) fun J_7 =>
  (∃ (x119 : Int), rd m8 0 (0) = some (.int .i64 (x119)) ∧ (splitB (ltI (x119) (lenI (lenS (s1)))) (0 ≤ (4 : Int) ∧ (splitB (leI (addI .i64 (4 : Int) (shrI .i64 (addI .i64 (x8_4) (1 : Int)) (4 : Int))) (addI .i64 (x10) (1 : Int))) (J_7 (ltI (addI .i64 (x8_4) (1 : Int)) (addI .i64 (subI .i64 (lenI (lenS (s0))) (lenI (lenS (s1)))) (1 : Int))) m8) (J_7 (false) m8))) (J_7 (false) m8)))))) fun J_6 =>
  (∃ (x100 : Int), rd m7 0 (0) = some (.int .i64 (x100)) ∧ (splitB (leI (lenI (lenS (s1))) (x100)) (CallW cx 65 [.int .i64 (addI .i64 (x8_4) (1 : Int))] m7 fun r105 m12 => (∃ (x105 : Int), r105 = (.int .i64 (x105)) ∧ (J_6 (ltI (x105) (addI .i64 (x10) (1 : Int))) m12))) (J_6 (false) m7))))) fun J_5 =>
  (0 ≤ (addI .i64 (x8_4) (1 : Int)) ∧ (∃ c81 : UInt8, (s0).data.toList[Int.toNat (addI .i64 (x8_4) (1 : Int))]? = some c81 ∧ (splitB (eqI (lenI (c81).toNat) (lenI (c51).toNat)) (∃ s90 : ByteArray, sliceOp cx m6 9 (.string (s0)) (some (.int .i64 (x8_4))) (some (.int .i64 (addI .i64 (x8_4) (lenI (lenS (s1)))))) none = some (.string s90) ∧ (splitB (eqS (s90) (s1))
  (Q (.int .i64 (x8_4)) m6)
  (J_5  m6))) (J_5  m6)))))) fun J_3 =>
  (0 ≤ (x8) ∧ (∃ c62 : UInt8, (s0).data.toList[Int.toNat (x8)]? = some c62 ∧ (splitB (neI (lenI (c62).toNat) (lenI (c49).toNat))
  (∃ s69 : ByteArray, sliceOp cx m5 9 (.string (s0)) (some (.int .i64 (addI .i64 (x8) (1 : Int)))) (some (.int .i64 (addI .i64 (subI .i64 (lenI (lenS (s0))) (lenI (lenS (s1)))) (1 : Int)))) none = some (.string s69) ∧ (CallW cx 63 [.string (s69), .int .u8 (lenI (c49).toNat)] m5 fun r71 m13 => (∃ (x71 : Int), r71 = (.int .i64 (x71)) ∧ (splitB (ltI (x71) (0 : Int))
  (Q (.int .i64 (-1 : Int)) m13)
  (J_3 (addI .i64 (x8) (addI .i64 (x71) (1 : Int))) m13)))))
  (J_3 (x8) m5)))))
  (Q (.int .i64 (-1 : Int)) m5)))))))))) fun J_1 =>
  (∃ (x38 : Int), rd m1 0 (0) = some (.int .i64 (x38)) ∧ (splitB (leI (lenI (lenS (s1))) (x38)) (J_1 (leI (lenI (lenS (s0))) (64 : Int)) m1) (J_1 (false) m1)))))))) fun J =>
  (splitB (eqI (lenI (lenS (s1))) (0 : Int)) (J (true) m) (J (eqS (s1) (s0)) m)))
theorem F48_eq (s0 : ByteArray) (s1 : ByteArray) (m : Mem) (Q : Value → Mem → Prop) : F48 s0 s1 m Q = vFn cx Tryd.f48 A48 [.string (s0), .string (s1)] m Q := by kernel_rfl
theorem F48_ok {s0 : ByteArray} {s1 : ByteArray} {m : Mem} {Q : Value → Mem → Prop} (h : F48 s0 s1 m Q) : CallW cx 48 [.string (s0), .string (s1)] m Q :=
  CallW.of (by kernel_rfl) (by kernel_rfl) (Eq.mp (F48_eq s0 s1 m Q) h)

-- 47 strings.Index
noncomputable def A47 : Ann := [none, none]
def F47 (s0 : ByteArray) (s1 : ByteArray) (m : Mem) (Q : Value → Mem → Prop) : Prop :=
  (CallW cx 48 [.string (s0), .string (s1)] m fun r7 m1 => (∃ (x7 : Int), r7 = (.int .i64 (x7)) ∧ (Q (.int .i64 (x7)) m1)))
theorem F47_eq (s0 : ByteArray) (s1 : ByteArray) (m : Mem) (Q : Value → Mem → Prop) : F47 s0 s1 m Q = vFn cx Tryd.f47 A47 [.string (s0), .string (s1)] m Q := by kernel_rfl
theorem F47_ok {s0 : ByteArray} {s1 : ByteArray} {m : Mem} {Q : Value → Mem → Prop} (h : F47 s0 s1 m Q) : CallW cx 47 [.string (s0), .string (s1)] m Q :=
  CallW.of (by kernel_rfl) (by kernel_rfl) (Eq.mp (F47_eq s0 s1 m Q) h)

-- 46 strings.Count
noncomputable def A46 : Ann := [none, none, none, none, none, none, none, none, some ([1], [(0, .str), (5, .int .i64)]), none, none, none, none, none]
def F46 (s0 : ByteArray) (s1 : ByteArray) (m : Mem) (Q : Value → Mem → Prop) : Prop :=
  (splitB (eqI (lenI (lenS (s1))) (0 : Int))
  (CallW cx 60 [.string (s0)] m fun r11 m1 => (∃ (x11 : Int), r11 = (.int .i64 (x11)) ∧ (Q (.int .i64 (addI .i64 (x11) (1 : Int))) m1)))
  (splitB (eqI (lenI (lenS (s1))) (1 : Int))
  (0 ≤ (0 : Int) ∧ (∃ c18 : UInt8, (s1).data.toList[Int.toNat (0 : Int)]? = some c18 ∧ (CallW cx 62 [.string (s0), .int .u8 (lenI (c18).toNat)] m fun r19 m2 => (∃ (x19 : Int), r19 = (.int .i64 (x19)) ∧ (Q (.int .i64 (x19)) m2)))))
  (∃ Inv : ByteArray → Int → Mem → Nat → Prop, (∃ n : Nat, Inv (s0) (0 : Int) m n) ∧
  (∀ (s0_1 : ByteArray) (x5 : Int), ∀ (m3 : Mem) (n_2 : Nat), Inv (s0_1) (x5) m3 n_2 →
  (CallW cx 47 [.string (s0_1), .string (s1)] m3 fun r22 m4 => (∃ (x22 : Int), r22 = (.int .i64 (x22)) ∧ (splitB (eqI (x22) (-1 : Int))
  (Q (.int .i64 (x5)) m4)
  (∃ s33 : ByteArray, sliceOp cx m4 9 (.string (s0_1)) (some (.int .i64 (addI .i64 (x22) (lenI (lenS (s1)))))) none none = some (.string s33) ∧ (∃ n_3 : Nat, n_3 < n_2 ∧ Inv (s33) (addI .i64 (x5) (1 : Int)) m4 n_3)))))))))
theorem F46_eq (s0 : ByteArray) (s1 : ByteArray) (m : Mem) (Q : Value → Mem → Prop) : F46 s0 s1 m Q = vFn cx Tryd.f46 A46 [.string (s0), .string (s1)] m Q := by kernel_rfl
theorem F46_ok {s0 : ByteArray} {s1 : ByteArray} {m : Mem} {Q : Value → Mem → Prop} (h : F46 s0 s1 m Q) : CallW cx 46 [.string (s0), .string (s1)] m Q :=
  CallW.of (by kernel_rfl) (by kernel_rfl) (Eq.mp (F46_eq s0 s1 m Q) h)

-- 35 strings.genSplit
noncomputable def A35 : Ann := [none, none, none, none, none, none, none, some ([0, 1, 2], [(3, .int .i64)]), none, none, none, none, none, some ([9], [(0, .str), (10, .int .i64)]), some ([1, 2, 3, 9], [(0, .str), (10, .int .i64)]), none, none, none, none, none, none, none, none, none]
def F35 (s0 : ByteArray) (s1 : ByteArray) (x2 : Int) (x3 : Int) (m : Mem) (Q : Value → Mem → Prop) : Prop :=
  (splitB (eqI (x3) (0 : Int))
  (Q (.slice none (0) (0)) m)
  (splitB (eqS (s1) (ByteArray.mk #[]))
  (CallW cx 45 [.string (s0), .int .i64 (x3)] m fun r18 m1 => (∃ (a18 : Option Addr) (n18 c18 : Nat), r18 = (.slice a18 (n18) (c18)) ∧ (Q (.slice a18 (n18) (c18)) m1)))
  (joinK (fun (x3_1 : Int) (m2 : Mem) => ((0 ≤ mnI (x3_1) (addI .i64 (lenI (lenS (s0))) (1 : Int)) ∧ mnI (x3_1) (addI .i64 (lenI (lenS (s0))) (1 : Int)) ≤ mnI (x3_1) (addI .i64 (lenI (lenS (s0))) (1 : Int)) ∧ mnI (x3_1) (addI .i64 (lenI (lenS (s0))) (1 : Int)) ≤ 1073741824 ∧ 16 * Int.toNat (mnI (x3_1) (addI .i64 (lenI (lenS (s0))) (1 : Int))) ≤ 140737488355328) ∧ (mBind (newO m2 (row (repL [.string (ByteArray.mk #[])] (Int.toNat (mnI (x3_1) (addI .i64 (lenI (lenS (s0))) (1 : Int))))) 9 false)) fun m3 => (joinK (fun (s0_3 : ByteArray) (x10 : Int) (m4 : Mem) => ((0 ≤ (x10) ∧ (x10) < ((Int.toNat (mnI (x3_1) (addI .i64 (lenI (lenS (s0))) (1 : Int))) : Nat) : Int)) ∧ (okW m4 m2.nx (0 + Int.toNat (x10) * 1) 1 ∧ (mBind (wr m4 m2.nx (0 + Int.toNat (x10) * 1) [.string (s0_3)]) fun m5 => (∃ (a65 : Option Addr) (n65 c65 : Nat), sliceOp cx m5 37 (.slice (some ⟨m2.nx, 0, none⟩) (Int.toNat (mnI (x3_1) (addI .i64 (lenI (lenS (s0))) (1 : Int)))) (Int.toNat (mnI (x3_1) (addI .i64 (lenI (lenS (s0))) (1 : Int))))) none (some (.int .i64 (addI .i64 (x10) (1 : Int)))) none = some (.slice a65 (n65) (c65)) ∧ (Q (.slice a65 (n65) (c65)) m5)))))) fun J_2 =>
  (∃ Inv : ByteArray → Int → Mem → Nat → Prop, (∃ n : Nat, Inv (s0) (0 : Int) m3 n) ∧
  (∀ (s0_4 : ByteArray) (x10_5 : Int), ∀ (m6 : Mem) (n_6 : Nat), Inv (s0_4) (x10_5) m6 n_6 →
  (splitB (ltI (x10_5) (subI .i64 (mnI (x3_1) (addI .i64 (lenI (lenS (s0))) (1 : Int))) (1 : Int)))
  (CallW cx 47 [.string (s0_4), .string (s1)] m6 fun r39 m7 => (∃ (x39 : Int), r39 = (.int .i64 (x39)) ∧ (splitB (ltI (x39) (0 : Int))
  (J_2 (s0_4) (x10_5) m7)
  (∃ s48 : ByteArray, sliceOp cx m7 9 (.string (s0_4)) none (some (.int .i64 (addI .i64 (x39) (x2)))) none = some (.string s48) ∧ ((0 ≤ (x10_5) ∧ (x10_5) < ((Int.toNat (mnI (x3_1) (addI .i64 (lenI (lenS (s0))) (1 : Int))) : Nat) : Int)) ∧ (okW m7 m2.nx (0 + Int.toNat (x10_5) * 1) 1 ∧ (mBind (wr m7 m2.nx (0 + Int.toNat (x10_5) * 1) [.string (s48)]) fun m8 => (∃ s55 : ByteArray, sliceOp cx m8 9 (.string (s0_4)) (some (.int .i64 (addI .i64 (x39) (lenI (lenS (s1)))))) none none = some (.string s55) ∧ (∃ n_7 : Nat, n_7 < n_6 ∧ Inv (s55) (addI .i64 (x10_5) (1 : Int)) m8 n_7)))))))))
  (J_2 (s0_4) (x10_5) m6)))))))) fun J =>
  (splitB (ltI (x3) (0 : Int))
  (CallW cx 46 [.string (s0), .string (s1)] m fun r23 m9 => (∃ (x23 : Int), r23 = (.int .i64 (x23)) ∧ (J (addI .i64 (x23) (1 : Int)) m9)))
  (J (x3) m)))))
theorem F35_eq (s0 : ByteArray) (s1 : ByteArray) (x2 : Int) (x3 : Int) (m : Mem) (Q : Value → Mem → Prop) : F35 s0 s1 x2 x3 m Q = vFn cx Tryd.f35 A35 [.string (s0), .string (s1), .int .i64 (x2), .int .i64 (x3)] m Q := by kernel_rfl
theorem F35_ok {s0 : ByteArray} {s1 : ByteArray} {x2 : Int} {x3 : Int} {m : Mem} {Q : Value → Mem → Prop} (h : F35 s0 s1 x2 x3 m Q) : CallW cx 35 [.string (s0), .string (s1), .int .i64 (x2), .int .i64 (x3)] m Q :=
  CallW.of (by kernel_rfl) (by kernel_rfl) (Eq.mp (F35_eq s0 s1 x2 x3 m Q) h)

-- 25 strings.SplitN
noncomputable def A25 : Ann := [none, none]
def F25 (s0 : ByteArray) (s1 : ByteArray) (x2 : Int) (m : Mem) (Q : Value → Mem → Prop) : Prop :=
  (CallW cx 35 [.string (s0), .string (s1), .int .i64 (0 : Int), .int .i64 (x2)] m fun r10 m1 => (∃ (a10 : Option Addr) (n10 c10 : Nat), r10 = (.slice a10 (n10) (c10)) ∧ (Q (.slice a10 (n10) (c10)) m1)))
theorem F25_eq (s0 : ByteArray) (s1 : ByteArray) (x2 : Int) (m : Mem) (Q : Value → Mem → Prop) : F25 s0 s1 x2 m Q = vFn cx Tryd.f25 A25 [.string (s0), .string (s1), .int .i64 (x2)] m Q := by kernel_rfl
theorem F25_ok {s0 : ByteArray} {s1 : ByteArray} {x2 : Int} {m : Mem} {Q : Value → Mem → Prop} (h : F25 s0 s1 x2 m Q) : CallW cx 25 [.string (s0), .string (s1), .int .i64 (x2)] m Q :=
  CallW.of (by kernel_rfl) (by kernel_rfl) (Eq.mp (F25_eq s0 s1 x2 m Q) h)

-- 36 internal/stringslite.Cut
noncomputable def A36 : Ann := [none, none, none, none, none, none]
def F36 (s0 : ByteArray) (s1 : ByteArray) (m : Mem) (Q : Value → Mem → Prop) : Prop :=
  (CallW cx 48 [.string (s0), .string (s1)] m fun r10 m1 => (∃ (x10 : Int), r10 = (.int .i64 (x10)) ∧ (splitB (leI (0 : Int) (x10))
  (mBind (bump m1 12) fun m2 => (∃ s15 : ByteArray, sliceOp cx m2 9 (.string (s0)) none (some (.int .i64 (x10))) none = some (.string s15) ∧ (∃ s21 : ByteArray, sliceOp cx m2 9 (.string (s0)) (some (.int .i64 (addI .i64 (x10) (lenI (lenS (s1)))))) none none = some (.string s21) ∧ (Q (.tuple #[.string (s15), .string (s21), .bool (true)]) m2))))
  (Q (.tuple #[.string (s0), .string (ByteArray.mk #[]), .bool (false)]) m1))))
theorem F36_eq (s0 : ByteArray) (s1 : ByteArray) (m : Mem) (Q : Value → Mem → Prop) : F36 s0 s1 m Q = vFn cx Tryd.f36 A36 [.string (s0), .string (s1)] m Q := by kernel_rfl
theorem F36_ok {s0 : ByteArray} {s1 : ByteArray} {m : Mem} {Q : Value → Mem → Prop} (h : F36 s0 s1 m Q) : CallW cx 36 [.string (s0), .string (s1)] m Q :=
  CallW.of (by kernel_rfl) (by kernel_rfl) (Eq.mp (F36_eq s0 s1 m Q) h)

-- 26 strings.Cut
noncomputable def A26 : Ann := [none, none]
def F26 (s0 : ByteArray) (s1 : ByteArray) (m : Mem) (Q : Value → Mem → Prop) : Prop :=
  (CallW cx 36 [.string (s0), .string (s1)] m fun r9 m1 => (∃ (s9 : ByteArray), (∃ (s9_1 : ByteArray), (∃ (b9 : Bool), r9 = (.tuple #[.string (s9), .string (s9_1), .bool (b9)]) ∧ (Q (.tuple #[.string (s9), .string (s9_1), .bool (b9)]) m1)))))
theorem F26_eq (s0 : ByteArray) (s1 : ByteArray) (m : Mem) (Q : Value → Mem → Prop) : F26 s0 s1 m Q = vFn cx Tryd.f26 A26 [.string (s0), .string (s1)] m Q := by kernel_rfl
theorem F26_ok {s0 : ByteArray} {s1 : ByteArray} {m : Mem} {Q : Value → Mem → Prop} (h : F26 s0 s1 m Q) : CallW cx 26 [.string (s0), .string (s1)] m Q :=
  CallW.of (by kernel_rfl) (by kernel_rfl) (Eq.mp (F26_eq s0 s1 m Q) h)

-- 70 errors.New
noncomputable def A70 : Ann := [none, none]
def F70 (s0 : ByteArray) (m : Mem) (Q : Value → Mem → Prop) : Prop :=
  (mBind (newO m (row [.string (s0)] 116 false)) fun m1 => (Q (.iface 114 (.pointer (some ⟨m.nx, 0, none⟩))) m1))
theorem F70_eq (s0 : ByteArray) (m : Mem) (Q : Value → Mem → Prop) : F70 s0 m Q = vFn cx Tryd.f70 A70 [.string (s0)] m Q := by kernel_rfl
theorem F70_ok {s0 : ByteArray} {m : Mem} {Q : Value → Mem → Prop} (h : F70 s0 m Q) : CallW cx 70 [.string (s0)] m Q :=
  CallW.of (by kernel_rfl) (by kernel_rfl) (Eq.mp (F70_eq s0 m Q) h)

-- 50 strconv.syntaxError
noncomputable def A50 : Ann := [none, none]
def F50 (s0 : ByteArray) (s1 : ByteArray) (m : Mem) (Q : Value → Mem → Prop) : Prop :=
  (mBind (bump m 7) fun m1 => (CallW cx 69 [.string (s1)] ((setFl (m1) m.nx)) fun r7 m2 => (∃ (s7 : ByteArray), r7 = (.string (s7)) ∧ (∃ (v8 : Value), rd m1 1 (0) = some (v8) ∧ (vOne v8 (mBind (addO ((setFl m2 m1.fl)) (m.nx + 5) (row [.string (s0), .string (s7), v8] 101 false)) fun m3 => (Q (.pointer (some ⟨(m.nx + 5), 0, none⟩)) m3)))))))
theorem F50_eq (s0 : ByteArray) (s1 : ByteArray) (m : Mem) (Q : Value → Mem → Prop) : F50 s0 s1 m Q = vFn cx Tryd.f50 A50 [.string (s0), .string (s1)] m Q := by kernel_rfl
theorem F50_ok {s0 : ByteArray} {s1 : ByteArray} {m : Mem} {Q : Value → Mem → Prop} (h : F50 s0 s1 m Q) : CallW cx 50 [.string (s0), .string (s1)] m Q :=
  CallW.of (by kernel_rfl) (by kernel_rfl) (Eq.mp (F50_eq s0 s1 m Q) h)

-- 51 strconv.rangeError
noncomputable def A51 : Ann := [none, none]
def F51 (s0 : ByteArray) (s1 : ByteArray) (m : Mem) (Q : Value → Mem → Prop) : Prop :=
  (mBind (bump m 7) fun m1 => (CallW cx 69 [.string (s1)] ((setFl (m1) m.nx)) fun r7 m2 => (∃ (s7 : ByteArray), r7 = (.string (s7)) ∧ (∃ (v8 : Value), rd m1 2 (0) = some (v8) ∧ (vOne v8 (mBind (addO ((setFl m2 m1.fl)) (m.nx + 5) (row [.string (s0), .string (s7), v8] 101 false)) fun m3 => (Q (.pointer (some ⟨(m.nx + 5), 0, none⟩)) m3)))))))
theorem F51_eq (s0 : ByteArray) (s1 : ByteArray) (m : Mem) (Q : Value → Mem → Prop) : F51 s0 s1 m Q = vFn cx Tryd.f51 A51 [.string (s0), .string (s1)] m Q := by kernel_rfl
theorem F51_ok {s0 : ByteArray} {s1 : ByteArray} {m : Mem} {Q : Value → Mem → Prop} (h : F51 s0 s1 m Q) : CallW cx 51 [.string (s0), .string (s1)] m Q :=
  CallW.of (by kernel_rfl) (by kernel_rfl) (Eq.mp (F51_eq s0 s1 m Q) h)

-- 38 strconv.toError
noncomputable def A38 : Ann := [none, none, none, none, none, none, none, none, none, none, none, none]
def F38 (s0 : ByteArray) (s1 : ByteArray) (x2 : Int) (x3 : Int) (v4 : Value) (m : Mem) (Q : Value → Mem → Prop) : Prop :=
  ((((v4) : Value) = .nilIface → ((.iface 78 (.int .i64 (2 : Int))) : Value) = .nilIface → False) ∧ (∃ r : Bool, eqV cx m 40 57 (v4) (.iface 78 (.int .i64 (2 : Int))) = some r ∧ (splitB (r)
  (CallW cx 50 [.string (s0), .string (s1)] m fun r17 m1 => (∃ (p17 : Option Addr), r17 = (.pointer p17) ∧ (Q (.iface 83 (.pointer p17)) m1)))
  ((((v4) : Value) = .nilIface → ((.iface 78 (.int .i64 (1 : Int))) : Value) = .nilIface → False) ∧ (∃ r_1 : Bool, eqV cx m 40 57 (v4) (.iface 78 (.int .i64 (1 : Int))) = some r_1 ∧ (splitB (r_1)
  (CallW cx 51 [.string (s0), .string (s1)] m fun r24 m2 => (∃ (p24 : Option Addr), r24 = (.pointer p24) ∧ (Q (.iface 83 (.pointer p24)) m2)))
  ((((v4) : Value) = .nilIface → ((.iface 78 (.int .i64 (3 : Int))) : Value) = .nilIface → False) ∧ (∃ r_2 : Bool, eqV cx m 40 57 (v4) (.iface 78 (.int .i64 (3 : Int))) = some r_2 ∧ (splitB (r_2)
  (CallW cx 52 [.string (s0), .string (s1), .int .i64 (x2)] m fun r32 m3 => (∃ (p32 : Option Addr), r32 = (.pointer p32) ∧ (Q (.iface 83 (.pointer p32)) m3)))
  ((((v4) : Value) = .nilIface → ((.iface 78 (.int .i64 (4 : Int))) : Value) = .nilIface → False) ∧ (∃ r_3 : Bool, eqV cx m 40 57 (v4) (.iface 78 (.int .i64 (4 : Int))) = some r_3 ∧ (splitB (r_3)
  (CallW cx 53 [.string (s0), .string (s1), .int .i64 (x3)] m fun r40 m4 => (∃ (p40 : Option Addr), r40 = (.pointer p40) ∧ (Q (.iface 83 (.pointer p40)) m4)))
  (Q (v4) m)))))))))))))
theorem F38_eq (s0 : ByteArray) (s1 : ByteArray) (x2 : Int) (x3 : Int) (v4 : Value) (m : Mem) (Q : Value → Mem → Prop) : F38 s0 s1 x2 x3 v4 m Q = vFn cx Tryd.f38 A38 [.string (s0), .string (s1), .int .i64 (x2), .int .i64 (x3), v4] m Q := by kernel_rfl
theorem F38_ok {s0 : ByteArray} {s1 : ByteArray} {x2 : Int} {x3 : Int} {v4 : Value} {m : Mem} {Q : Value → Mem → Prop} (h : F38 s0 s1 x2 x3 v4 m Q) : CallW cx 38 [.string (s0), .string (s1), .int .i64 (x2), .int .i64 (x3), v4] m Q :=
  CallW.of (by kernel_rfl) (by kernel_rfl) (Eq.mp (F38_eq s0 s1 x2 x3 v4 m Q) h)

-- 27 strconv.ParseInt
noncomputable def A27 : Ann := [none, none, none, none, none, none]
def F27 (s0 : ByteArray) (x1 : Int) (x2 : Int) (m : Mem) (Q : Value → Mem → Prop) : Prop :=
  (CallW cx 37 [.string (s0), .int .i64 (x1), .int .i64 (x2)] m fun r13 m1 => (∃ (x13 : Int), (∃ (v13 : Value), r13 = (.tuple #[.int .i64 (x13), v13]) ∧ (∃ r : Bool, eqV cx m1 40 57 (v13) (.nilIface) = some r ∧ (splitB (!r)
  (CallW cx 38 [.string (ByteArray.mk #[80, 97, 114, 115, 101, 73, 110, 116]), .string (s0), .int .i64 (x1), .int .i64 (x2), v13] m1 fun r23 m2 => (∃ (v23 : Value), r23 = (v23) ∧ (Q (.tuple #[.int .i64 (x13), v23]) m2)))
  (Q (.tuple #[.int .i64 (x13), .nilIface]) m1))))))
theorem F27_eq (s0 : ByteArray) (x1 : Int) (x2 : Int) (m : Mem) (Q : Value → Mem → Prop) : F27 s0 x1 x2 m Q = vFn cx Tryd.f27 A27 [.string (s0), .int .i64 (x1), .int .i64 (x2)] m Q := by kernel_rfl
theorem F27_ok {s0 : ByteArray} {x1 : Int} {x2 : Int} {m : Mem} {Q : Value → Mem → Prop} (h : F27 s0 x1 x2 m Q) : CallW cx 27 [.string (s0), .int .i64 (x1), .int .i64 (x2)] m Q :=
  CallW.of (by kernel_rfl) (by kernel_rfl) (Eq.mp (F27_eq s0 x1 x2 m Q) h)

-- 28 strconv.Atoi
noncomputable def A28 : Ann := [none, none, none, none, none, none]
def F28 (s0 : ByteArray) (m : Mem) (Q : Value → Mem → Prop) : Prop :=
  (CallW cx 39 [.string (s0)] m fun r8 m1 => (∃ (x8 : Int), (∃ (v8 : Value), r8 = (.tuple #[.int .i64 (x8), v8]) ∧ (∃ r : Bool, eqV cx m1 40 57 (v8) (.nilIface) = some r ∧ (splitB (!r)
  (CallW cx 38 [.string (ByteArray.mk #[65, 116, 111, 105]), .string (s0), .int .i64 (0 : Int), .int .i64 (0 : Int), v8] m1 fun r16 m2 => (∃ (v16 : Value), r16 = (v16) ∧ (Q (.tuple #[.int .i64 (x8), v16]) m2)))
  (Q (.tuple #[.int .i64 (x8), .nilIface]) m1))))))
theorem F28_eq (s0 : ByteArray) (m : Mem) (Q : Value → Mem → Prop) : F28 s0 m Q = vFn cx Tryd.f28 A28 [.string (s0)] m Q := by kernel_rfl
theorem F28_ok {s0 : ByteArray} {m : Mem} {Q : Value → Mem → Prop} (h : F28 s0 m Q) : CallW cx 28 [.string (s0)] m Q :=
  CallW.of (by kernel_rfl) (by kernel_rfl) (Eq.mp (F28_eq s0 m Q) h)

-- 23 beadle/prog.Good$1
noncomputable def A23 : Ann := [none, none]
def F23 (x0 : Int) (x0_1 : Int) (m : Mem) (Q : Value → Mem → Prop) : Prop :=
  (mBind (newO m (row [.int .i64 (x0), .int .i64 (x0_1)] 39 false)) fun m1 => (∃ (x4 : Int), rd m1 m.nx (0) = some (.int .i64 (x4)) ∧ (splitB (ltI (x4) (0 : Int)) (Q (.bool (true)) m1) (∃ (x8 : Int), rd m1 m.nx (0) = some (.int .i64 (x8)) ∧ (splitB (ltI (8 : Int) (x8)) (Q (.bool (true)) m1) (∃ (x13 : Int), rd m1 m.nx (1) = some (.int .i64 (x13)) ∧ (splitB (ltI (x13) (1 : Int)) (Q (.bool (true)) m1) (∃ (x18 : Int), rd m1 m.nx (1) = some (.int .i64 (x18)) ∧ (Q (.bool (ltI (2147483648 : Int) (x18))) m1)))))))))
theorem F23_eq (x0 : Int) (x0_1 : Int) (m : Mem) (Q : Value → Mem → Prop) : F23 x0 x0_1 m Q = vFn cx Tryd.f23 A23 [.agg #[.int .i64 (x0), .int .i64 (x0_1)]] m Q := by kernel_rfl
theorem F23_ok {x0 : Int} {x0_1 : Int} {m : Mem} {Q : Value → Mem → Prop} (h : F23 x0 x0_1 m Q) : CallW cx 23 [.agg #[.int .i64 (x0), .int .i64 (x0_1)]] m Q :=
  CallW.of (by kernel_rfl) (by kernel_rfl) (Eq.mp (F23_eq x0 x0_1 m Q) h)

-- 34 slices.IndexFunc[beadle/prog.Prog,beadle/prog.Step]
noncomputable def A34 : Ann := [none, none, none, some ([0, 1, 7], [(8, .int .i64)]), none, none, none, none, none, none, none]
def F34 (a0 : Option Addr) (n0 c0 : Nat) (v1 : Value) (m : Mem) (Q : Value → Mem → Prop) : Prop :=
  (∃ Inv : Int → Mem → Nat → Prop, (∃ n : Nat, Inv (0 : Int) m n) ∧
  (∀ (x8 : Int), ∀ (m1 : Mem) (n_1 : Nat), Inv (x8) m1 n_1 →
  (splitB (ltI (x8) (lenI (n0)))
  ((0 ≤ (x8) ∧ (x8) < ((n0 : Nat) : Int)) ∧ (vPtr a0 fun ba0 oa0 => (∃ (x15 : Int), rd m1 ba0 (oa0 + Int.toNat (x8) * 2) = some (.int .i64 (x15)) ∧ (∃ (x15_2 : Int), rd m1 ba0 (oa0 + Int.toNat (x8) * 2 + 1) = some (.int .i64 (x15_2)) ∧ (vCallF cx m1 (v1) [.agg #[.int .i64 (x15), .int .i64 (x15_2)]] fun r16 m2 => (∃ (b16 : Bool), r16 = (.bool (b16)) ∧ (splitB (b16)
  (Q (.int .i64 (x8)) m2)
  (∃ n_3 : Nat, n_3 < n_1 ∧ Inv (addI .i64 (x8) (1 : Int)) m2 n_3))))))))
  (Q (.int .i64 (-1 : Int)) m1))))
theorem F34_eq (a0 : Option Addr) (n0 c0 : Nat) (v1 : Value) (m : Mem) (Q : Value → Mem → Prop) : F34 a0 n0 c0 v1 m Q = vFn cx Tryd.f34 A34 [.slice a0 (n0) (c0), v1] m Q := by kernel_rfl
theorem F34_ok {a0 : Option Addr} {n0 c0 : Nat} {v1 : Value} {m : Mem} {Q : Value → Mem → Prop} (h : F34 a0 n0 c0 v1 m Q) : CallW cx 34 [.slice a0 (n0) (c0), v1] m Q :=
  CallW.of (by kernel_rfl) (by kernel_rfl) (Eq.mp (F34_eq a0 n0 c0 v1 m Q) h)

-- 24 slices.ContainsFunc[beadle/prog.Prog,beadle/prog.Step]
noncomputable def A24 : Ann := [none, none]
def F24 (a0 : Option Addr) (n0 c0 : Nat) (v1 : Value) (m : Mem) (Q : Value → Mem → Prop) : Prop :=
  (CallW cx 34 [.slice a0 (n0) (c0), v1] m fun r7 m1 => (∃ (x7 : Int), r7 = (.int .i64 (x7)) ∧ (Q (.bool (leI (0 : Int) (x7))) m1)))
theorem F24_eq (a0 : Option Addr) (n0 c0 : Nat) (v1 : Value) (m : Mem) (Q : Value → Mem → Prop) : F24 a0 n0 c0 v1 m Q = vFn cx Tryd.f24 A24 [.slice a0 (n0) (c0), v1] m Q := by kernel_rfl
theorem F24_ok {a0 : Option Addr} {n0 c0 : Nat} {v1 : Value} {m : Mem} {Q : Value → Mem → Prop} (h : F24 a0 n0 c0 v1 m Q) : CallW cx 24 [.slice a0 (n0) (c0), v1] m Q :=
  CallW.of (by kernel_rfl) (by kernel_rfl) (Eq.mp (F24_eq a0 n0 c0 v1 m Q) h)

-- 9 beadle/prog.Good
noncomputable def A9 : Ann := [none, none, none]
def F9 (a0 : Option Addr) (n0 c0 : Nat) (m : Mem) (Q : Value → Mem → Prop) : Prop :=
  (splitB (leI (1 : Int) (lenI (n0))) (splitB (leI (lenI (n0)) (8 : Int)) (CallW cx 24 [.slice a0 (n0) (c0), .func (.func 23) #[] #[]] m fun r15 m1 => (∃ (b15 : Bool), r15 = (.bool (b15)) ∧ (Q (.bool (!(b15))) m1))) (Q (.bool (false)) m)) (Q (.bool (false)) m))
theorem F9_eq (a0 : Option Addr) (n0 c0 : Nat) (m : Mem) (Q : Value → Mem → Prop) : F9 a0 n0 c0 m Q = vFn cx Tryd.f9 A9 [.slice a0 (n0) (c0)] m Q := by kernel_rfl
theorem F9_ok {a0 : Option Addr} {n0 c0 : Nat} {m : Mem} {Q : Value → Mem → Prop} (h : F9 a0 n0 c0 m Q) : CallW cx 9 [.slice a0 (n0) (c0)] m Q :=
  CallW.of (by kernel_rfl) (by kernel_rfl) (Eq.mp (F9_eq a0 n0 c0 m Q) h)

-- 14 beadle/prog.Total
noncomputable def A14 : Ann := [none, none, none, none, none, none, none, some ([9, 10], [(3, .int .i64), (11, .int .i64)]), none, none, none, none, none]
def F14 (a0 : Option Addr) (n0 c0 : Nat) (m : Mem) (Q : Value → Mem → Prop) : Prop :=
  (CallW cx 9 [.slice a0 (n0) (c0)] m fun r7 m1 => (∃ (b7 : Bool), r7 = (.bool (b7)) ∧ (splitB (!(b7))
  (Q (.int .i64 (0 : Int)) m1)
  (∃ Inv : Int → Int → Mem → Nat → Prop, (∃ n : Nat, Inv (0 : Int) (0 : Int) m1 n) ∧
  (∀ (x3 : Int) (x11 : Int), ∀ (m2 : Mem) (n_1 : Nat), Inv (x3) (x11) m2 n_1 →
  (splitB (ltI (x11) (lenI (n0)))
  ((0 ≤ (x11) ∧ (x11) < ((n0 : Nat) : Int)) ∧ (vPtr a0 fun ba0 oa0 => (∃ (x14 : Int), rd m2 ba0 (oa0 + Int.toNat (x11) * 2) = some (.int .i64 (x14)) ∧ (∃ (x14_2 : Int), rd m2 ba0 (oa0 + Int.toNat (x11) * 2 + 1) = some (.int .i64 (x14_2)) ∧ (mBind (newO m2 (row [.int .i64 (0 : Int), .int .i64 (0 : Int)] 39 false)) fun m3 => (okW m3 m2.nx (0) 2 ∧ (mBind (wr m3 m2.nx (0) [.int .i64 (x14), .int .i64 (x14_2)]) fun m4 => (∃ (x17 : Int), rd m4 m2.nx (1) = some (.int .i64 (x17)) ∧ (∃ n_3 : Nat, n_3 < n_1 ∧ Inv (addI .i64 (x3) (x17)) (addI .i64 (x11) (1 : Int)) m4 n_3)))))))))
  (Q (.int .i64 (x3)) m2)))))))
theorem F14_eq (a0 : Option Addr) (n0 c0 : Nat) (m : Mem) (Q : Value → Mem → Prop) : F14 a0 n0 c0 m Q = vFn cx Tryd.f14 A14 [.slice a0 (n0) (c0)] m Q := by kernel_rfl
theorem F14_ok {a0 : Option Addr} {n0 c0 : Nat} {m : Mem} {Q : Value → Mem → Prop} (h : F14 a0 n0 c0 m Q) : CallW cx 14 [.slice a0 (n0) (c0)] m Q :=
  CallW.of (by kernel_rfl) (by kernel_rfl) (Eq.mp (F14_eq a0 n0 c0 m Q) h)

-- 15 beadle/prog.Holds
noncomputable def A15 : Ann := [none, none, none, none, none, none, none, some ([9, 10], [(3, .int .i64), (11, .int .i64)]), none, none, none, none, none, none]
def F15 (a0 : Option Addr) (n0 c0 : Nat) (m : Mem) (Q : Value → Mem → Prop) : Prop :=
  (CallW cx 9 [.slice a0 (n0) (c0)] m fun r7 m1 => (∃ (b7 : Bool), r7 = (.bool (b7)) ∧ (splitB (!(b7))
  (Q (.int .i64 (0 : Int)) m1)
  (∃ Inv : Int → Int → Mem → Nat → Prop, (∃ n : Nat, Inv (0 : Int) (0 : Int) m1 n) ∧
  (∀ (x3 : Int) (x11 : Int), ∀ (m2 : Mem) (n_1 : Nat), Inv (x3) (x11) m2 n_1 →
  (splitB (ltI (x11) (lenI (n0)))
  ((0 ≤ (x11) ∧ (x11) < ((n0 : Nat) : Int)) ∧ (vPtr a0 fun ba0 oa0 => (∃ (x14 : Int), rd m2 ba0 (oa0 + Int.toNat (x11) * 2) = some (.int .i64 (x14)) ∧ (∃ (x14_2 : Int), rd m2 ba0 (oa0 + Int.toNat (x11) * 2 + 1) = some (.int .i64 (x14_2)) ∧ (mBind (newO m2 (row [.int .i64 (0 : Int), .int .i64 (0 : Int)] 39 false)) fun m3 => (okW m3 m2.nx (0) 2 ∧ (mBind (wr m3 m2.nx (0) [.int .i64 (x14), .int .i64 (x14_2)]) fun m4 => (∃ (x16 : Int), rd m4 m2.nx (0) = some (.int .i64 (x16)) ∧ (splitB (ltI (0 : Int) (x16))
  (∃ n_3 : Nat, n_3 < n_1 ∧ Inv (addI .i64 (x3) (1 : Int)) (addI .i64 (x11) (1 : Int)) m4 n_3)
  (∃ n_4 : Nat, n_4 < n_1 ∧ Inv (x3) (addI .i64 (x11) (1 : Int)) m4 n_4))))))))))
  (Q (.int .i64 (x3)) m2)))))))
theorem F15_eq (a0 : Option Addr) (n0 c0 : Nat) (m : Mem) (Q : Value → Mem → Prop) : F15 a0 n0 c0 m Q = vFn cx Tryd.f15 A15 [.slice a0 (n0) (c0)] m Q := by kernel_rfl
theorem F15_ok {a0 : Option Addr} {n0 c0 : Nat} {m : Mem} {Q : Value → Mem → Prop} (h : F15 a0 n0 c0 m Q) : CallW cx 15 [.slice a0 (n0) (c0)] m Q :=
  CallW.of (by kernel_rfl) (by kernel_rfl) (Eq.mp (F15_eq a0 n0 c0 m Q) h)

-- 11 beadle/prog.Text
noncomputable def A11 : Ann := [none, none, none, none, none, none, none, some ([10, 11], [(3, .sl), (12, .int .i64)]), none, none, none, none, none, some ([3, 10, 11, 12], [(6, .str)]), none, none]
def F11 (a0 : Option Addr) (n0 c0 : Nat) (m : Mem) (Q : Value → Mem → Prop) : Prop :=
  (CallW cx 9 [.slice a0 (n0) (c0)] m fun r8 m1 => (∃ (b8 : Bool), r8 = (.bool (b8)) ∧ (splitB (!(b8))
  (Q (.string (ByteArray.mk #[])) m1)
  (∃ Inv : Option Addr → Nat → Nat → Int → Mem → Nat → Prop, (∃ n : Nat, Inv none (0) (0) (0 : Int) m1 n) ∧
  (∀ (a3 : Option Addr) (n3 c3 : Nat) (x12 : Int), ∀ (m2 : Mem) (n_1 : Nat), Inv a3 (n3) (c3) (x12) m2 n_1 →
  (splitB (ltI (x12) (lenI (n0)))
  ((0 ≤ (x12) ∧ (x12) < ((n0 : Nat) : Int)) ∧ (vPtr a0 fun ba0 oa0 => (∃ (x15 : Int), rd m2 ba0 (oa0 + Int.toNat (x12) * 2) = some (.int .i64 (x15)) ∧ (∃ (x15_2 : Int), rd m2 ba0 (oa0 + Int.toNat (x12) * 2 + 1) = some (.int .i64 (x15_2)) ∧ (mBind (newO m2 (row [.int .i64 (0 : Int), .int .i64 (0 : Int)] 39 false)) fun m3 => (okW m3 m2.nx (0) 2 ∧ (mBind (wr m3 m2.nx (0) [.int .i64 (x15), .int .i64 (x15_2)]) fun m4 => (∃ (x17 : Int), rd m4 m2.nx (1) = some (.int .i64 (x17)) ∧ (CallW cx 29 [.int .i64 (x17), .int .i64 (10 : Int)] m4 fun r18 m5 => (∃ (s18 : ByteArray), r18 = (.string (s18)) ∧ (joinK (fun (s6 : ByteArray) (m6 : Mem) => (mBind (newO m6 (row [.string (s6)] 9 false)) fun m7 => (∃ (a31 : Option Addr) (n31 c31 : Nat) (m8 : Mem), appendA cx m7 [37, 37] [.slice a3 (n3) (c3), .slice (some ⟨m6.nx, 0, none⟩) (1) (1)] = some (.slice a31 (n31) (c31), m8) ∧ (∃ n_3 : Nat, n_3 < n_1 ∧ Inv a31 (n31) (c31) (addI .i64 (x12) (1 : Int)) m8 n_3)))) fun J =>
  (∃ (x20 : Int), rd m5 m2.nx (0) = some (.int .i64 (x20)) ∧ (splitB (ltI (0 : Int) (x20))
  (∃ (x24 : Int), rd m5 m2.nx (0) = some (.int .i64 (x24)) ∧ (CallW cx 30 [.int .i64 (x24)] m5 fun r25 m9 => (∃ (s25 : ByteArray), r25 = (.string (s25)) ∧ (lenS (ByteArray.mk #[64]) + lenS (s25) ≤ 140737488355328 ∧ (lenS (s18) + lenS (catS (ByteArray.mk #[64]) (s25)) ≤ 140737488355328 ∧ (J (catS (s18) (catS (ByteArray.mk #[64]) (s25))) m9))))))
  (J (s18) m5))))))))))))))
  (CallW cx 31 [.slice a3 (n3) (c3), .string (ByteArray.mk #[43])] m2 fun r34 m10 => (∃ (s34 : ByteArray), r34 = (.string (s34)) ∧ (Q (.string (s34)) m10)))))))))
theorem F11_eq (a0 : Option Addr) (n0 c0 : Nat) (m : Mem) (Q : Value → Mem → Prop) : F11 a0 n0 c0 m Q = vFn cx Tryd.f11 A11 [.slice a0 (n0) (c0)] m Q := by kernel_rfl
theorem F11_ok {a0 : Option Addr} {n0 c0 : Nat} {m : Mem} {Q : Value → Mem → Prop} (h : F11 a0 n0 c0 m Q) : CallW cx 11 [.slice a0 (n0) (c0)] m Q :=
  CallW.of (by kernel_rfl) (by kernel_rfl) (Eq.mp (F11_eq a0 n0 c0 m Q) h)

-- 10 beadle/prog.Parse
noncomputable def A10 : Ann := [none, none, none, none, some ([0, 14, 15], [(4, .sl), (16, .int .i64)]), none, none, none, none, none, none, none, some ([0, 4, 11, 12, 14, 15, 16], []), none, none, none, none, none, none, none, none]
def F10 (s0 : ByteArray) (m : Mem) (Q : Value → Mem → Prop) : Prop :=
  (CallW cx 25 [.string (s0), .string (ByteArray.mk #[43]), .int .i64 (9 : Int)] m fun r14 m1 => (∃ (a14 : Option Addr) (n14 c14 : Nat), r14 = (.slice a14 (n14) (c14)) ∧ (∃ Inv : Option Addr → Nat → Nat → Int → Mem → Nat → Prop, (∃ n : Nat, Inv none (0) (0) (0 : Int) m1 n) ∧
  (∀ (a4 : Option Addr) (n4 c4 : Nat) (x16 : Int), ∀ (m2 : Mem) (n_1 : Nat), Inv a4 (n4) (c4) (x16) m2 n_1 →
  (splitB (ltI (x16) (lenI (n14)))
  ((0 ≤ (x16) ∧ (x16) < ((n14 : Nat) : Int)) ∧ (vPtr a14 fun ba14 oa14 => (∃ (s19 : ByteArray), rd m2 ba14 (oa14 + Int.toNat (x16) * 1) = some (.string (s19)) ∧ (CallW cx 26 [.string (s19), .string (ByteArray.mk #[64])] m2 fun r22 m3 => (∃ (s22 : ByteArray), (∃ (s22_2 : ByteArray), (∃ (b22 : Bool), r22 = (.tuple #[.string (s22), .string (s22_2), .bool (b22)]) ∧ (CallW cx 27 [.string (s22), .int .i64 (10 : Int), .int .i64 (64 : Int)] m3 fun r28 m4 => (∃ (x28 : Int), (∃ (v28 : Value), r28 = (.tuple #[.int .i64 (x28), v28]) ∧ (mBind (newO m4 (row [.int .i64 (0 : Int), .int .i64 (0 : Int)] 39 false)) fun m5 => (okW m5 m4.nx (0) 2 ∧ (mBind (wr m5 m4.nx (0) [.int .i64 (0 : Int), .int .i64 (x28)]) fun m6 => (joinK (fun  (m7 : Mem) => (∃ r : Bool, eqV cx m7 40 57 (v28) (.nilIface) = some r ∧ (splitB (!r)
  (Q (.tuple #[.slice none (0) (0), .bool (false)]) m7)
  (∃ (x43 : Int), rd m7 m4.nx (0) = some (.int .i64 (x43)) ∧ (∃ (x43_3 : Int), rd m7 m4.nx (1) = some (.int .i64 (x43_3)) ∧ (mBind (newO m7 (row [.int .i64 (x43), .int .i64 (x43_3)] 39 false)) fun m8 => (∃ (a45 : Option Addr) (n45 c45 : Nat) (m9 : Mem), appendA cx m8 [24, 24] [.slice a4 (n4) (c4), .slice (some ⟨m7.nx, 0, none⟩) (1) (1)] = some (.slice a45 (n45) (c45), m9) ∧ (∃ n_4 : Nat, n_4 < n_1 ∧ Inv a45 (n45) (c45) (addI .i64 (x16) (1 : Int)) m9 n_4)))))))) fun J =>
  (splitB (b22)
  (CallW cx 28 [.string (s22_2)] m6 fun r36 m10 => (∃ (x36 : Int), (∃ (v36 : Value), r36 = (.tuple #[.int .i64 (x36), v36]) ∧ (okW m10 m4.nx (0) 1 ∧ (mBind (wr m10 m4.nx (0) [.int .i64 (x36)]) fun m11 => (J  m11))))))
  (J  m6))))))))))))))))
  (splitB (eqS (s0) (ByteArray.mk #[])) (Q (.tuple #[.slice none (0) (0), .bool (false)]) m2) (CallW cx 11 [.slice a4 (n4) (c4)] m2 fun r51 m12 => (∃ (s51 : ByteArray), r51 = (.string (s51)) ∧ (splitB (!eqS (s51) (s0))
  (Q (.tuple #[.slice none (0) (0), .bool (false)]) m12)
  (Q (.tuple #[.slice a4 (n4) (c4), .bool (true)]) m12))))))))))
theorem F10_eq (s0 : ByteArray) (m : Mem) (Q : Value → Mem → Prop) : F10 s0 m Q = vFn cx Tryd.f10 A10 [.string (s0)] m Q := by kernel_rfl
theorem F10_ok {s0 : ByteArray} {m : Mem} {Q : Value → Mem → Prop} (h : F10 s0 m Q) : CallW cx 10 [.string (s0)] m Q :=
  CallW.of (by kernel_rfl) (by kernel_rfl) (Eq.mp (F10_eq s0 m Q) h)

-- 32 beadle/prog.Fits$1
noncomputable def A32 : Ann := [none, none]
def F32 (x0 : Int) (x0_1 : Int) (p1 : Option Addr) (m : Mem) (Q : Value → Mem → Prop) : Prop :=
  (mBind (newO m (row [.int .i64 (x0), .int .i64 (x0_1)] 39 false)) fun m1 => (∃ (x5 : Int), rd m1 m.nx (0) = some (.int .i64 (x5)) ∧ (vPtr p1 fun bp1 op1 => (∃ (a6 : Option Addr) (n6 c6 : Nat), rd m1 bp1 (op1) = some (.slice a6 (n6) (c6)) ∧ (Q (.bool (ltI (lenI (n6)) (x5))) m1)))))
theorem F32_eq (x0 : Int) (x0_1 : Int) (p1 : Option Addr) (m : Mem) (Q : Value → Mem → Prop) : F32 x0 x0_1 p1 m Q = vFn cx Tryd.f32 A32 [.agg #[.int .i64 (x0), .int .i64 (x0_1)], .pointer p1] m Q := by kernel_rfl
theorem F32_ok {x0 : Int} {x0_1 : Int} {p1 : Option Addr} {m : Mem} {Q : Value → Mem → Prop} (h : F32 x0 x0_1 p1 m Q) : CallW cx 32 [.agg #[.int .i64 (x0), .int .i64 (x0_1)], .pointer p1] m Q :=
  CallW.of (by kernel_rfl) (by kernel_rfl) (Eq.mp (F32_eq x0 x0_1 p1 m Q) h)

-- 16 beadle/prog.Fits
noncomputable def A16 : Ann := [none, none, none]
def F16 (a0 : Option Addr) (n0 c0 : Nat) (a1 : Option Addr) (n1 c1 : Nat) (m : Mem) (Q : Value → Mem → Prop) : Prop :=
  (mBind (newO m (row [.slice a1 (n1) (c1)] 42 false)) fun m1 => (CallW cx 9 [.slice a0 (n0) (c0)] m1 fun r8 m2 => (∃ (b8 : Bool), r8 = (.bool (b8)) ∧ (splitB (b8) (CallW cx 24 [.slice a0 (n0) (c0), .func (.func 32) #[] #[.pointer (some ⟨m.nx, 0, none⟩)]] m2 fun r12 m3 => (∃ (b12 : Bool), r12 = (.bool (b12)) ∧ (Q (.bool (!(b12))) m3))) (Q (.bool (false)) m2)))))
theorem F16_eq (a0 : Option Addr) (n0 c0 : Nat) (a1 : Option Addr) (n1 c1 : Nat) (m : Mem) (Q : Value → Mem → Prop) : F16 a0 n0 c0 a1 n1 c1 m Q = vFn cx Tryd.f16 A16 [.slice a0 (n0) (c0), .slice a1 (n1) (c1)] m Q := by kernel_rfl
theorem F16_ok {a0 : Option Addr} {n0 c0 : Nat} {a1 : Option Addr} {n1 c1 : Nat} {m : Mem} {Q : Value → Mem → Prop} (h : F16 a0 n0 c0 a1 n1 c1 m Q) : CallW cx 16 [.slice a0 (n0) (c0), .slice a1 (n1) (c1)] m Q :=
  CallW.of (by kernel_rfl) (by kernel_rfl) (Eq.mp (F16_eq a0 n0 c0 a1 n1 c1 m Q) h)

-- 33 beadle/beadleref1.Num
noncomputable def A33 : Ann := [none, none, none, none, none]
def F33 (x0 : Int) (m : Mem) (Q : Value → Mem → Prop) : Prop :=
  (splitB (ltI (x0) (10 : Int))
  (mBind (newO m (row [.int .u8 (cvI .u8 (addI .i64 (48 : Int) (x0)))] 5 false)) fun m1 => (∃ s9 : ByteArray, convertA cx m1 71 9 (.slice (some ⟨m.nx, 0, none⟩) (1) (1)) = some (.string s9) ∧ (Q (.string (s9)) m1)))
  (mBind (bump m 11) fun m2 => ((10 : Int) ≠ 0 ∧ (CallW cx 33 [.int .i64 (quoI .i64 (x0) (10 : Int))] ((setFl (m2) m.nx)) fun r12 m3 => (∃ (s12 : ByteArray), r12 = (.string (s12)) ∧ ((10 : Int) ≠ 0 ∧ (∃ s18 : ByteArray, convertA cx (addO (m2) (m.nx + 7) (row [.int .u8 (cvI .u8 (addI .i64 (48 : Int) (Int.tmod (x0) (10 : Int))))] 5 false)) 71 9 (.slice (some ⟨(m.nx + 7), 0, none⟩) (1) (1)) = some (.string s18) ∧ (lenS (s12) + lenS (s18) ≤ 140737488355328 ∧ (mBind (addO ((setFl m3 m2.fl)) (m.nx + 7) (row [.int .u8 (cvI .u8 (addI .i64 (48 : Int) (Int.tmod (x0) (10 : Int))))] 5 false)) fun m4 => (Q (.string (catS (s12) (s18))) m4))))))))))
theorem F33_eq (x0 : Int) (m : Mem) (Q : Value → Mem → Prop) : F33 x0 m Q = vFn cx Tryd.f33 A33 [.int .i64 (x0)] m Q := by kernel_rfl
theorem F33_ok {x0 : Int} {m : Mem} {Q : Value → Mem → Prop} (h : F33 x0 m Q) : CallW cx 33 [.int .i64 (x0)] m Q :=
  CallW.of (by kernel_rfl) (by kernel_rfl) (Eq.mp (F33_eq x0 m Q) h)

-- 18 beadle/beadleref10.GoodProg
noncomputable def A18 : Ann := [none, none, none, some ([0], [(3, .int .i64)]), none, none, none, none, none, none]
def F18 (a0 : Option Addr) (n0 c0 : Nat) (m : Mem) (Q : Value → Mem → Prop) : Prop :=
  (∃ Inv : Int → Mem → Nat → Prop, (∃ n : Nat, Inv (0 : Int) m n) ∧
  (∀ (x3 : Int), ∀ (m1 : Mem) (n_1 : Nat), Inv (x3) m1 n_1 →
  (splitB (ltI (x3) (lenI (n0)))
  ((0 ≤ (x3) ∧ (x3) < ((n0 : Nat) : Int)) ∧ (vPtr a0 fun ba0 oa0 => (∃ (x14 : Int), rd m1 ba0 (oa0 + Int.toNat (x3) * 2) = some (.int .i64 (x14)) ∧ (splitB (ltI (x14) (0 : Int)) (Q (.bool (false)) m1) ((0 ≤ (x3) ∧ (x3) < ((n0 : Nat) : Int)) ∧ (vPtr a0 fun ba0_2 oa0_3 => (∃ (x21 : Int), rd m1 ba0_2 (oa0_3 + Int.toNat (x3) * 2) = some (.int .i64 (x21)) ∧ (splitB (ltI (8 : Int) (x21)) (Q (.bool (false)) m1) ((0 ≤ (x3) ∧ (x3) < ((n0 : Nat) : Int)) ∧ (vPtr a0 fun ba0_4 oa0_5 => (∃ (x29 : Int), rd m1 ba0_4 (oa0_5 + Int.toNat (x3) * 2 + 1) = some (.int .i64 (x29)) ∧ (splitB (ltI (x29) (1 : Int)) (Q (.bool (false)) m1) ((0 ≤ (x3) ∧ (x3) < ((n0 : Nat) : Int)) ∧ (vPtr a0 fun ba0_6 oa0_7 => (∃ (x37 : Int), rd m1 ba0_6 (oa0_7 + Int.toNat (x3) * 2 + 1) = some (.int .i64 (x37)) ∧ (splitB (ltI (2147483648 : Int) (x37))
  (Q (.bool (false)) m1)
  (∃ n_8 : Nat, n_8 < n_1 ∧ Inv (addI .i64 (x3) (1 : Int)) m1 n_8)))))))))))))))))
  (splitB (leI (1 : Int) (lenI (n0))) (Q (.bool (leI (lenI (n0)) (8 : Int))) m1) (Q (.bool (false)) m1)))))
theorem F18_eq (a0 : Option Addr) (n0 c0 : Nat) (m : Mem) (Q : Value → Mem → Prop) : F18 a0 n0 c0 m Q = vFn cx Tryd.f18 A18 [.slice a0 (n0) (c0)] m Q := by kernel_rfl
theorem F18_ok {a0 : Option Addr} {n0 c0 : Nat} {m : Mem} {Q : Value → Mem → Prop} (h : F18 a0 n0 c0 m Q) : CallW cx 18 [.slice a0 (n0) (c0)] m Q :=
  CallW.of (by kernel_rfl) (by kernel_rfl) (Eq.mp (F18_eq a0 n0 c0 m Q) h)

-- 19 beadle/beadleref10.Total
noncomputable def A19 : Ann := [none, none, none, none, some ([0], [(3, .int .i64), (4, .int .i64)]), some ([0, 3, 4], []), none, none, none]
def F19 (a0 : Option Addr) (n0 c0 : Nat) (m : Mem) (Q : Value → Mem → Prop) : Prop :=
  (∃ Inv : Int → Int → Mem → Nat → Prop, (∃ n : Nat, Inv (0 : Int) (0 : Int) m n) ∧
  (∀ (x3 : Int) (x4 : Int), ∀ (m1 : Mem) (n_1 : Nat), Inv (x3) (x4) m1 n_1 →
  (joinK (fun  (m2 : Mem) => ((0 ≤ (x4) ∧ (x4) < ((n0 : Nat) : Int)) ∧ (vPtr a0 fun ba0 oa0 => (∃ (x20 : Int), rd m2 ba0 (oa0 + Int.toNat (x4) * 2 + 1) = some (.int .i64 (x20)) ∧ (∃ n_2 : Nat, n_2 < n_1 ∧ Inv (addI .i64 (x3) (x20)) (addI .i64 (x4) (1 : Int)) m2 n_2))))) fun J =>
  (splitB (ltI (x4) (lenI (n0))) (CallW cx 18 [.slice a0 (n0) (c0)] m1 fun r11 m3 => (∃ (b11 : Bool), r11 = (.bool (b11)) ∧ (splitB (b11)
  (J  m3)
  (Q (.int .i64 (x3)) m3)))) (Q (.int .i64 (x3)) m1)))))
theorem F19_eq (a0 : Option Addr) (n0 c0 : Nat) (m : Mem) (Q : Value → Mem → Prop) : F19 a0 n0 c0 m Q = vFn cx Tryd.f19 A19 [.slice a0 (n0) (c0)] m Q := by kernel_rfl
theorem F19_ok {a0 : Option Addr} {n0 c0 : Nat} {m : Mem} {Q : Value → Mem → Prop} (h : F19 a0 n0 c0 m Q) : CallW cx 19 [.slice a0 (n0) (c0)] m Q :=
  CallW.of (by kernel_rfl) (by kernel_rfl) (Eq.mp (F19_eq a0 n0 c0 m Q) h)

-- 20 beadle/beadleref10.Holds
noncomputable def A20 : Ann := [none, none, none, none, some ([0], [(3, .int .i64), (4, .int .i64)]), some ([0, 3, 4], []), none, none, none, none]
def F20 (a0 : Option Addr) (n0 c0 : Nat) (m : Mem) (Q : Value → Mem → Prop) : Prop :=
  (∃ Inv : Int → Int → Mem → Nat → Prop, (∃ n : Nat, Inv (0 : Int) (0 : Int) m n) ∧
  (∀ (x3 : Int) (x4 : Int), ∀ (m1 : Mem) (n_1 : Nat), Inv (x3) (x4) m1 n_1 →
  (joinK (fun  (m2 : Mem) => ((0 ≤ (x4) ∧ (x4) < ((n0 : Nat) : Int)) ∧ (vPtr a0 fun ba0 oa0 => (∃ (x19 : Int), rd m2 ba0 (oa0 + Int.toNat (x4) * 2) = some (.int .i64 (x19)) ∧ (splitB (ltI (0 : Int) (x19))
  (∃ n_2 : Nat, n_2 < n_1 ∧ Inv (addI .i64 (x3) (1 : Int)) (addI .i64 (x4) (1 : Int)) m2 n_2)
  (∃ n_3 : Nat, n_3 < n_1 ∧ Inv (x3) (addI .i64 (x4) (1 : Int)) m2 n_3)))))) fun J =>
  (splitB (ltI (x4) (lenI (n0))) (CallW cx 18 [.slice a0 (n0) (c0)] m1 fun r11 m3 => (∃ (b11 : Bool), r11 = (.bool (b11)) ∧ (splitB (b11)
  (J  m3)
  (Q (.int .i64 (x3)) m3)))) (Q (.int .i64 (x3)) m1)))))
theorem F20_eq (a0 : Option Addr) (n0 c0 : Nat) (m : Mem) (Q : Value → Mem → Prop) : F20 a0 n0 c0 m Q = vFn cx Tryd.f20 A20 [.slice a0 (n0) (c0)] m Q := by kernel_rfl
theorem F20_ok {a0 : Option Addr} {n0 c0 : Nat} {m : Mem} {Q : Value → Mem → Prop} (h : F20 a0 n0 c0 m Q) : CallW cx 20 [.slice a0 (n0) (c0)] m Q :=
  CallW.of (by kernel_rfl) (by kernel_rfl) (Eq.mp (F20_eq a0 n0 c0 m Q) h)

-- 21 beadle/beadleref10.ProgText
noncomputable def A21 : Ann := [none, none, none, none, some ([0], [(3, .str), (4, .int .i64)]), some ([0, 3, 4], []), none, none, some ([0, 4], [(3, .str)]), none, none, none, none]
def F21 (a0 : Option Addr) (n0 c0 : Nat) (m : Mem) (Q : Value → Mem → Prop) : Prop :=
  (∃ Inv : ByteArray → Int → Mem → Nat → Prop, (∃ n : Nat, Inv (ByteArray.mk #[]) (0 : Int) m n) ∧
  (∀ (s3 : ByteArray) (x4 : Int), ∀ (m1 : Mem) (n_1 : Nat), Inv (s3) (x4) m1 n_1 →
  (joinK (fun  (m2 : Mem) => (joinK (fun (s3_3 : ByteArray) (m3 : Mem) => ((0 ≤ (x4) ∧ (x4) < ((n0 : Nat) : Int)) ∧ (vPtr a0 fun ba0 oa0 => (∃ (x24 : Int), rd m3 ba0 (oa0 + Int.toNat (x4) * 2 + 1) = some (.int .i64 (x24)) ∧ (CallW cx 33 [.int .i64 (x24)] m3 fun r25 m4 => (∃ (s25 : ByteArray), r25 = (.string (s25)) ∧ (lenS (s3_3) + lenS (s25) ≤ 140737488355328 ∧ ((0 ≤ (x4) ∧ (x4) < ((n0 : Nat) : Int)) ∧ (vPtr a0 fun ba0_4 oa0_5 => (∃ (x31 : Int), rd m4 ba0_4 (oa0_5 + Int.toNat (x4) * 2) = some (.int .i64 (x31)) ∧ (splitB (ltI (0 : Int) (x31))
  (lenS (catS (s3_3) (s25)) + lenS (ByteArray.mk #[64]) ≤ 140737488355328 ∧ ((0 ≤ (x4) ∧ (x4) < ((n0 : Nat) : Int)) ∧ (vPtr a0 fun ba0_6 oa0_7 => (∃ (x39 : Int), rd m4 ba0_6 (oa0_7 + Int.toNat (x4) * 2) = some (.int .i64 (x39)) ∧ (CallW cx 33 [.int .i64 (x39)] m4 fun r40 m5 => (∃ (s40 : ByteArray), r40 = (.string (s40)) ∧ (lenS (catS (catS (s3_3) (s25)) (ByteArray.mk #[64])) + lenS (s40) ≤ 140737488355328 ∧ (∃ n_8 : Nat, n_8 < n_1 ∧ Inv (catS (catS (catS (s3_3) (s25)) (ByteArray.mk #[64])) (s40)) (addI .i64 (x4) (1 : Int)) m5 n_8))))))))
  (∃ n_9 : Nat, n_9 < n_1 ∧ Inv (catS (s3_3) (s25)) (addI .i64 (x4) (1 : Int)) m4 n_9)))))))))))) fun J_2 =>
  (splitB (ltI (0 : Int) (x4))
  (lenS (s3) + lenS (ByteArray.mk #[43]) ≤ 140737488355328 ∧ (J_2 (catS (s3) (ByteArray.mk #[43])) m2))
  (J_2 (s3) m2)))) fun J =>
  (splitB (ltI (x4) (lenI (n0))) (CallW cx 18 [.slice a0 (n0) (c0)] m1 fun r11 m6 => (∃ (b11 : Bool), r11 = (.bool (b11)) ∧ (splitB (b11)
  (J  m6)
  (Q (.string (s3)) m6)))) (Q (.string (s3)) m1)))))
theorem F21_eq (a0 : Option Addr) (n0 c0 : Nat) (m : Mem) (Q : Value → Mem → Prop) : F21 a0 n0 c0 m Q = vFn cx Tryd.f21 A21 [.slice a0 (n0) (c0)] m Q := by kernel_rfl
theorem F21_ok {a0 : Option Addr} {n0 c0 : Nat} {m : Mem} {Q : Value → Mem → Prop} (h : F21 a0 n0 c0 m Q) : CallW cx 21 [.slice a0 (n0) (c0)] m Q :=
  CallW.of (by kernel_rfl) (by kernel_rfl) (Eq.mp (F21_eq a0 n0 c0 m Q) h)

-- 17 beadle/beadleref10.ProgParse
noncomputable def A17 : Ann := [none, none, none, some ([0], [(4, .sl)]), none, some ([0], [(4, .sl), (5, .bool), (6, .int .i64)]), some ([0, 4, 5, 6], []), none, none, none, none, none, none, some ([0, 4, 5, 6, 7], [(54, .bool)]), none, none, none, none, none, none]
def F17 (s0 : ByteArray) (m : Mem) (Q : Value → Mem → Prop) : Prop :=
  (mBind (newO m (row [.int .i64 (0 : Int), .int .i64 (0 : Int)] 65 false)) fun m1 => (joinK (fun (a4 : Option Addr) (n4 c4 : Nat) (m2 : Mem) => (CallW cx 18 [.slice a4 (n4) (c4)] m2 fun r100 m3 => (∃ (b100 : Bool), r100 = (.bool (b100)) ∧ (splitB (!(b100)) (Q (.tuple #[.slice none (0) (0), .bool (false)]) m3) (CallW cx 21 [.slice a4 (n4) (c4)] m3 fun r104 m4 => (∃ (s104 : ByteArray), r104 = (.string (s104)) ∧ (splitB (!eqS (s104) (s0))
  (Q (.tuple #[.slice none (0) (0), .bool (false)]) m4)
  (Q (.tuple #[.slice a4 (n4) (c4), .bool (true)]) m4)))))))) fun J =>
  (∃ Inv : Option Addr → Nat → Nat → Bool → Int → Mem → Nat → Prop, (∃ n : Nat, Inv (some ⟨m.nx, 0, none⟩) (1) (1) (false) (0 : Int) m1 n) ∧
  (∀ (a4_1 : Option Addr) (n4_2 c4_3 : Nat) (b5 : Bool) (x6 : Int), ∀ (m5 : Mem) (n_4 : Nat), Inv a4_1 (n4_2) (c4_3) (b5) (x6) m5 n_4 →
  (joinK (fun  (m6 : Mem) => (0 ≤ (x6) ∧ (∃ c43 : UInt8, (s0).data.toList[Int.toNat (x6)]? = some c43 ∧ (splitB (eqI (lenI (c43).toNat) (43 : Int))
  (mBind (newO m6 (row [.int .i64 (0 : Int), .int .i64 (0 : Int)] 65 false)) fun m7 => (∃ (a48 : Option Addr) (n48 c48 : Nat) (m8 : Mem), appendA cx m7 [31, 31] [.slice a4_1 (n4_2) (c4_3), .slice (some ⟨m6.nx, 0, none⟩) (1) (1)] = some (.slice a48 (n48) (c48), m8) ∧ (∃ n_6 : Nat, n_6 < n_4 ∧ Inv a48 (n48) (c48) (false) (addI .i64 (x6) (1 : Int)) m8 n_6)))
  (0 ≤ (x6) ∧ (∃ c52 : UInt8, (s0).data.toList[Int.toNat (x6)]? = some c52 ∧ (splitB (eqI (lenI (c52).toNat) (64 : Int))
  (∃ n_7 : Nat, n_7 < n_4 ∧ Inv a4_1 (n4_2) (c4_3) (true) (addI .i64 (x6) (1 : Int)) m6 n_7)
  (joinK (fun (b54 : Bool) (m9 : Mem) => (splitB (b54)
  (Q (.tuple #[.slice none (0) (0), .bool (false)]) m9)
  (splitB (b5)
  (mBind (bump m9 17) fun m10 => ((0 ≤ (subI .i64 (lenI (n4_2)) (1 : Int)) ∧ (subI .i64 (lenI (n4_2)) (1 : Int)) < ((n4_2 : Nat) : Int)) ∧ (vPtr a4_1 fun ba4_1 oa4_1 => (∃ (x89 : Int), rd m10 ba4_1 (oa4_1 + Int.toNat (subI .i64 (lenI (n4_2)) (1 : Int)) * 2) = some (.int .i64 (x89)) ∧ (0 ≤ (x6) ∧ (∃ c93 : UInt8, (s0).data.toList[Int.toNat (x6)]? = some c93 ∧ ((0 ≤ (subI .i64 (lenI (n4_2)) (1 : Int)) ∧ (subI .i64 (lenI (n4_2)) (1 : Int)) < ((n4_2 : Nat) : Int)) ∧ (vPtr a4_1 fun ba4_1_9 oa4_1_10 => (okW m10 ba4_1_9 (oa4_1_10 + Int.toNat (subI .i64 (lenI (n4_2)) (1 : Int)) * 2) 1 ∧ (mBind (wr m10 ba4_1_9 (oa4_1_10 + Int.toNat (subI .i64 (lenI (n4_2)) (1 : Int)) * 2) [.int .i64 (addI .i64 (mulI .i64 (10 : Int) (x89)) (cvI .i64 (subI .u8 (lenI (c93).toNat) (48 : Int))))]) fun m11 => (∃ n_11 : Nat, n_11 < n_4 ∧ Inv a4_1 (n4_2) (c4_3) (b5) (addI .i64 (x6) (1 : Int)) m11 n_11)))))))))))
  (mBind (bump m9 17) fun m12 => ((0 ≤ (subI .i64 (lenI (n4_2)) (1 : Int)) ∧ (subI .i64 (lenI (n4_2)) (1 : Int)) < ((n4_2 : Nat) : Int)) ∧ (vPtr a4_1 fun ba4_1_12 oa4_1_13 => (∃ (x30 : Int), rd m12 ba4_1_12 (oa4_1_13 + Int.toNat (subI .i64 (lenI (n4_2)) (1 : Int)) * 2 + 1) = some (.int .i64 (x30)) ∧ (0 ≤ (x6) ∧ (∃ c34 : UInt8, (s0).data.toList[Int.toNat (x6)]? = some c34 ∧ ((0 ≤ (subI .i64 (lenI (n4_2)) (1 : Int)) ∧ (subI .i64 (lenI (n4_2)) (1 : Int)) < ((n4_2 : Nat) : Int)) ∧ (vPtr a4_1 fun ba4_1_14 oa4_1_15 => (okW m12 ba4_1_14 (oa4_1_15 + Int.toNat (subI .i64 (lenI (n4_2)) (1 : Int)) * 2 + 1) 1 ∧ (mBind (wr m12 ba4_1_14 (oa4_1_15 + Int.toNat (subI .i64 (lenI (n4_2)) (1 : Int)) * 2 + 1) [.int .i64 (addI .i64 (mulI .i64 (10 : Int) (x30)) (cvI .i64 (subI .u8 (lenI (c34).toNat) (48 : Int))))]) fun m13 => (∃ n_16 : Nat, n_16 < n_4 ∧ Inv a4_1 (n4_2) (c4_3) (b5) (addI .i64 (x6) (1 : Int)) m13 n_16)))))))))))))) fun J_8 =>
  (0 ≤ (x6) ∧ (∃ c57 : UInt8, (s0).data.toList[Int.toNat (x6)]? = some c57 ∧ (splitB (ltI (lenI (c57).toNat) (48 : Int)) (J_8 (true) m6) (0 ≤ (x6) ∧ (∃ c62 : UInt8, (s0).data.toList[Int.toNat (x6)]? = some c62 ∧ (splitB (ltI (57 : Int) (lenI (c62).toNat)) (J_8 (true) m6) ((0 ≤ (subI .i64 (lenI (n4_2)) (1 : Int)) ∧ (subI .i64 (lenI (n4_2)) (1 : Int)) < ((n4_2 : Nat) : Int)) ∧ (vPtr a4_1 fun ba4_1_17 oa4_1_18 => (∃ (x70 : Int), rd m6 ba4_1_17 (oa4_1_18 + Int.toNat (subI .i64 (lenI (n4_2)) (1 : Int)) * 2 + 1) = some (.int .i64 (x70)) ∧ (splitB (ltI (1099511627776 : Int) (x70)) (J_8 (true) m6) ((0 ≤ (subI .i64 (lenI (n4_2)) (1 : Int)) ∧ (subI .i64 (lenI (n4_2)) (1 : Int)) < ((n4_2 : Nat) : Int)) ∧ (vPtr a4_1 fun ba4_1_19 oa4_1_20 => (∃ (x78 : Int), rd m6 ba4_1_19 (oa4_1_20 + Int.toNat (subI .i64 (lenI (n4_2)) (1 : Int)) * 2) = some (.int .i64 (x78)) ∧ (J_8 (ltI (1000 : Int) (x78)) m6)))))))))))))))))))))) fun J_5 =>
  (splitB (ltI (x6) (lenI (lenS (s0)))) (splitB (leI (lenI (n4_2)) (9 : Int))
  (J_5  m5)
  (J a4_1 (n4_2) (c4_3) m5)) (J a4_1 (n4_2) (c4_3) m5)))))))
theorem F17_eq (s0 : ByteArray) (m : Mem) (Q : Value → Mem → Prop) : F17 s0 m Q = vFn cx Tryd.f17 A17 [.string (s0)] m Q := by kernel_rfl
theorem F17_ok {s0 : ByteArray} {m : Mem} {Q : Value → Mem → Prop} (h : F17 s0 m Q) : CallW cx 17 [.string (s0)] m Q :=
  CallW.of (by kernel_rfl) (by kernel_rfl) (Eq.mp (F17_eq s0 m Q) h)

-- 22 beadle/beadleref10.ProgFits
noncomputable def A22 : Ann := [none, none, none, some ([0, 1], [(5, .int .i64)]), none, none, none, none, none, none]
def F22 (a0 : Option Addr) (n0 c0 : Nat) (x1 : Int) (m : Mem) (Q : Value → Mem → Prop) : Prop :=
  (∃ Inv : Int → Mem → Nat → Prop, (∃ n : Nat, Inv (0 : Int) m n) ∧
  (∀ (x5 : Int), ∀ (m1 : Mem) (n_1 : Nat), Inv (x5) m1 n_1 →
  (splitB (ltI (x5) (lenI (n0)))
  ((0 ≤ (x5) ∧ (x5) < ((n0 : Nat) : Int)) ∧ (vPtr a0 fun ba0 oa0 => (∃ (x16 : Int), rd m1 ba0 (oa0 + Int.toNat (x5) * 2) = some (.int .i64 (x16)) ∧ (splitB (ltI (x1) (x16))
  (Q (.bool (false)) m1)
  (∃ n_2 : Nat, n_2 < n_1 ∧ Inv (addI .i64 (x5) (1 : Int)) m1 n_2)))))
  (CallW cx 18 [.slice a0 (n0) (c0)] m1 fun r20 m2 => (∃ (b20 : Bool), r20 = (.bool (b20)) ∧ (Q (.bool (b20)) m2))))))
theorem F22_eq (a0 : Option Addr) (n0 c0 : Nat) (x1 : Int) (m : Mem) (Q : Value → Mem → Prop) : F22 a0 n0 c0 x1 m Q = vFn cx Tryd.f22 A22 [.slice a0 (n0) (c0), .int .i64 (x1)] m Q := by kernel_rfl
theorem F22_ok {a0 : Option Addr} {n0 c0 : Nat} {x1 : Int} {m : Mem} {Q : Value → Mem → Prop} (h : F22 a0 n0 c0 x1 m Q) : CallW cx 22 [.slice a0 (n0) (c0), .int .i64 (x1)] m Q :=
  CallW.of (by kernel_rfl) (by kernel_rfl) (Eq.mp (F22_eq a0 n0 c0 x1 m Q) h)

-- 13 beadle/beadlelaw10.own
noncomputable def A13 : Ann := [none, none, none, none, some ([0], [(3, .sl), (4, .int .i64)]), none, none, none, none]
def F13 (a0 : Option Addr) (n0 c0 : Nat) (m : Mem) (Q : Value → Mem → Prop) : Prop :=
  (∃ Inv : Option Addr → Nat → Nat → Int → Mem → Nat → Prop, (∃ n : Nat, Inv none (0) (0) (0 : Int) m n) ∧
  (∀ (a3 : Option Addr) (n3 c3 : Nat) (x4 : Int), ∀ (m1 : Mem) (n_1 : Nat), Inv a3 (n3) (c3) (x4) m1 n_1 →
  (splitB (ltI (x4) (lenI (n0)))
  (mBind (bump m1 15) fun m2 => ((0 ≤ (x4) ∧ (x4) < ((n0 : Nat) : Int)) ∧ (vPtr a0 fun ba0 oa0 => (∃ (x16 : Int), rd m2 ba0 (oa0 + Int.toNat (x4) * 2) = some (.int .i64 (x16)) ∧ ((0 ≤ (x4) ∧ (x4) < ((n0 : Nat) : Int)) ∧ (vPtr a0 fun ba0_2 oa0_3 => (∃ (x21 : Int), rd m2 ba0_2 (oa0_3 + Int.toNat (x4) * 2 + 1) = some (.int .i64 (x21)) ∧ (∃ (a24 : Option Addr) (n24 c24 : Nat) (m3 : Mem), appendA cx (addO (m2) (m1.nx + 12) (row [.int .i64 (x16), .int .i64 (x21)] 65 false)) [31, 31] [.slice a3 (n3) (c3), .slice (some ⟨(m1.nx + 12), 0, none⟩) (1) (1)] = some (.slice a24 (n24) (c24), m3) ∧ (mBind (m3) fun m4 => (∃ n_4 : Nat, n_4 < n_1 ∧ Inv a24 (n24) (c24) (addI .i64 (x4) (1 : Int)) m4 n_4))))))))))
  (Q (.slice a3 (n3) (c3)) m1))))
theorem F13_eq (a0 : Option Addr) (n0 c0 : Nat) (m : Mem) (Q : Value → Mem → Prop) : F13 a0 n0 c0 m Q = vFn cx Tryd.f13 A13 [.slice a0 (n0) (c0)] m Q := by kernel_rfl
theorem F13_ok {a0 : Option Addr} {n0 c0 : Nat} {m : Mem} {Q : Value → Mem → Prop} (h : F13 a0 n0 c0 m Q) : CallW cx 13 [.slice a0 (n0) (c0)] m Q :=
  CallW.of (by kernel_rfl) (by kernel_rfl) (Eq.mp (F13_eq a0 n0 c0 m Q) h)

-- 12 beadle/beadlelaw10.same
noncomputable def A12 : Ann := [none, none, none, none, none, none, some ([0, 1], [(5, .int .i64)]), none, none, none, none, none, none]
def F12 (a0 : Option Addr) (n0 c0 : Nat) (a1 : Option Addr) (n1 c1 : Nat) (m : Mem) (Q : Value → Mem → Prop) : Prop :=
  (splitB (neI (lenI (n0)) (lenI (n1)))
  (Q (.bool (false)) m)
  (∃ Inv : Int → Mem → Nat → Prop, (∃ n : Nat, Inv (0 : Int) m n) ∧
  (∀ (x5 : Int), ∀ (m1 : Mem) (n_1 : Nat), Inv (x5) m1 n_1 →
  (splitB (ltI (x5) (lenI (n0)))
  (mBind (bump m1 24) fun m2 => ((0 ≤ (x5) ∧ (x5) < ((n0 : Nat) : Int)) ∧ (vPtr a0 fun ba0 oa0 => (∃ (x21 : Int), rd m2 ba0 (oa0 + Int.toNat (x5) * 2) = some (.int .i64 (x21)) ∧ ((0 ≤ (x5) ∧ (x5) < ((n1 : Nat) : Int)) ∧ (vPtr a1 fun ba1 oa1 => (∃ (x26 : Int), rd m2 ba1 (oa1 + Int.toNat (x5) * 2) = some (.int .i64 (x26)) ∧ (splitB (neI (x21) (x26)) (Q (.bool (false)) m2) ((0 ≤ (x5) ∧ (x5) < ((n0 : Nat) : Int)) ∧ (vPtr a0 fun ba0_2 oa0_3 => (∃ (x33 : Int), rd m2 ba0_2 (oa0_3 + Int.toNat (x5) * 2 + 1) = some (.int .i64 (x33)) ∧ ((0 ≤ (x5) ∧ (x5) < ((n1 : Nat) : Int)) ∧ (vPtr a1 fun ba1_4 oa1_5 => (∃ (x38 : Int), rd m2 ba1_4 (oa1_5 + Int.toNat (x5) * 2 + 1) = some (.int .i64 (x38)) ∧ (splitB (neI (x33) (x38))
  (Q (.bool (false)) m2)
  (∃ n_6 : Nat, n_6 < n_1 ∧ Inv (addI .i64 (x5) (1 : Int)) m2 n_6))))))))))))))))
  (Q (.bool (true)) m1)))))
theorem F12_eq (a0 : Option Addr) (n0 c0 : Nat) (a1 : Option Addr) (n1 c1 : Nat) (m : Mem) (Q : Value → Mem → Prop) : F12 a0 n0 c0 a1 n1 c1 m Q = vFn cx Tryd.f12 A12 [.slice a0 (n0) (c0), .slice a1 (n1) (c1)] m Q := by kernel_rfl
theorem F12_ok {a0 : Option Addr} {n0 c0 : Nat} {a1 : Option Addr} {n1 c1 : Nat} {m : Mem} {Q : Value → Mem → Prop} (h : F12 a0 n0 c0 a1 n1 c1 m Q) : CallW cx 12 [.slice a0 (n0) (c0), .slice a1 (n1) (c1)] m Q :=
  CallW.of (by kernel_rfl) (by kernel_rfl) (Eq.mp (F12_eq a0 n0 c0 a1 n1 c1 m Q) h)

-- 3 beadle/beadlelaw10.ProgBack
noncomputable def A3 : Ann := [none, none, none, none, none, some ([0, 3], []), none, none, none, none]
def F3 (a0 : Option Addr) (n0 c0 : Nat) (m : Mem) (Q : Value → Mem → Prop) : Prop :=
  (CallW cx 8 [] m fun r6 m1 => (∃ (b6 : Bool), r6 = (.bool (b6)) ∧ (splitB (!(b6))
  (Q (.bool (false)) m1)
  (joinK (fun  (m2 : Mem) => (CallW cx 11 [.slice a0 (n0) (c0)] m2 fun r19 m3 => (∃ (s19 : ByteArray), r19 = (.string (s19)) ∧ (CallW cx 10 [.string (s19)] m3 fun r20 m4 => (∃ (a20 : Option Addr) (n20 c20 : Nat), (∃ (b20 : Bool), r20 = (.tuple #[.slice a20 (n20) (c20), .bool (b20)]) ∧ (splitB (b20) (CallW cx 13 [.slice a0 (n0) (c0)] m4 fun r27 m5 => (∃ (a27 : Option Addr) (n27 c27 : Nat), r27 = (.slice a27 (n27) (c27)) ∧ (CallW cx 12 [.slice a20 (n20) (c20), .slice a27 (n27) (c27)] m5 fun r28 m6 => (∃ (b28 : Bool), r28 = (.bool (b28)) ∧ (splitB (b28) (CallW cx 14 [.slice a20 (n20) (c20)] m6 fun r32 m7 => (∃ (x32 : Int), r32 = (.int .i64 (x32)) ∧ (CallW cx 14 [.slice a0 (n0) (c0)] m7 fun r34 m8 => (∃ (x34 : Int), r34 = (.int .i64 (x34)) ∧ (splitB (eqI (x32) (x34)) (CallW cx 14 [.slice a0 (n0) (c0)] m8 fun r39 m9 => (∃ (x39 : Int), r39 = (.int .i64 (x39)) ∧ (Q (.bool (leI (lenI (n0)) (x39))) m9))) (Q (.bool (false)) m8)))))) (Q (.bool (false)) m6)))))) (Q (.bool (false)) m4)))))))) fun J =>
  (splitB (ltI (20 : Int) (lenI (n0))) (Q (.bool (true)) m1) (CallW cx 9 [.slice a0 (n0) (c0)] m1 fun r14 m10 => (∃ (b14 : Bool), r14 = (.bool (b14)) ∧ (splitB (!(b14))
  (Q (.bool (true)) m10)
  (J  m10)))))))))
theorem F3_eq (a0 : Option Addr) (n0 c0 : Nat) (m : Mem) (Q : Value → Mem → Prop) : F3 a0 n0 c0 m Q = vFn cx Tryd.f3 A3 [.slice a0 (n0) (c0)] m Q := by kernel_rfl
theorem F3_ok {a0 : Option Addr} {n0 c0 : Nat} {m : Mem} {Q : Value → Mem → Prop} (h : F3 a0 n0 c0 m Q) : CallW cx 3 [.slice a0 (n0) (c0)] m Q :=
  CallW.of (by kernel_rfl) (by kernel_rfl) (Eq.mp (F3_eq a0 n0 c0 m Q) h)

-- 4 beadle/beadlelaw10.ProgTexts
noncomputable def A4 : Ann := [none, none, none, none, none, some ([5, 6], []), none, none, none]
def F4 (a0 : Option Addr) (n0 c0 : Nat) (a1 : Option Addr) (n1 c1 : Nat) (m : Mem) (Q : Value → Mem → Prop) : Prop :=
  (CallW cx 8 [] m fun r7 m1 => (∃ (b7 : Bool), r7 = (.bool (b7)) ∧ (splitB (!(b7))
  (Q (.bool (false)) m1)
  (joinK (fun  (m2 : Mem) => (CallW cx 11 [.slice a0 (n0) (c0)] m2 fun r30 m3 => (∃ (s30 : ByteArray), r30 = (.string (s30)) ∧ (CallW cx 11 [.slice a1 (n1) (c1)] m3 fun r32 m4 => (∃ (s32 : ByteArray), r32 = (.string (s32)) ∧ (CallW cx 13 [.slice a1 (n1) (c1)] m4 fun r36 m5 => (∃ (a36 : Option Addr) (n36 c36 : Nat), r36 = (.slice a36 (n36) (c36)) ∧ (CallW cx 12 [.slice a0 (n0) (c0), .slice a36 (n36) (c36)] m5 fun r37 m6 => (∃ (b37 : Bool), r37 = (.bool (b37)) ∧ (Q (.bool ((eqS (s30) (s32)) == (b37))) m6)))))))))) fun J =>
  (splitB (ltI (20 : Int) (lenI (n0))) (Q (.bool (true)) m1) (splitB (ltI (20 : Int) (lenI (n1))) (Q (.bool (true)) m1) (CallW cx 9 [.slice a0 (n0) (c0)] m1 fun r21 m7 => (∃ (b21 : Bool), r21 = (.bool (b21)) ∧ (splitB (!(b21)) (Q (.bool (true)) m7) (CallW cx 9 [.slice a1 (n1) (c1)] m7 fun r26 m8 => (∃ (b26 : Bool), r26 = (.bool (b26)) ∧ (splitB (!(b26))
  (Q (.bool (true)) m8)
  (J  m8)))))))))))))
theorem F4_eq (a0 : Option Addr) (n0 c0 : Nat) (a1 : Option Addr) (n1 c1 : Nat) (m : Mem) (Q : Value → Mem → Prop) : F4 a0 n0 c0 a1 n1 c1 m Q = vFn cx Tryd.f4 A4 [.slice a0 (n0) (c0), .slice a1 (n1) (c1)] m Q := by kernel_rfl
theorem F4_ok {a0 : Option Addr} {n0 c0 : Nat} {a1 : Option Addr} {n1 c1 : Nat} {m : Mem} {Q : Value → Mem → Prop} (h : F4 a0 n0 c0 a1 n1 c1 m Q) : CallW cx 4 [.slice a0 (n0) (c0), .slice a1 (n1) (c1)] m Q :=
  CallW.of (by kernel_rfl) (by kernel_rfl) (Eq.mp (F4_eq a0 n0 c0 a1 n1 c1 m Q) h)

-- 5 beadle/beadlelaw10.ProgJoins
noncomputable def A5 : Ann := [none, none, none, none, none, some ([0, 1, 5, 6], []), none, none, none, none]
def F5 (a0 : Option Addr) (n0 c0 : Nat) (a1 : Option Addr) (n1 c1 : Nat) (m : Mem) (Q : Value → Mem → Prop) : Prop :=
  (CallW cx 8 [] m fun r8 m1 => (∃ (b8 : Bool), r8 = (.bool (b8)) ∧ (splitB (!(b8))
  (Q (.bool (false)) m1)
  (joinK (fun  (m2 : Mem) => (mBind (newO m2 (row [] 39 false)) fun m3 => (∃ (a30 : Option Addr) (n30 c30 : Nat) (m4 : Mem), appendA cx m3 [22, 22] [.slice (some ⟨m2.nx, 0, none⟩) (0) (0), .slice a0 (n0) (c0)] = some (.slice a30 (n30) (c30), m4) ∧ (∃ (a32 : Option Addr) (n32 c32 : Nat) (m5 : Mem), appendA cx m4 [22, 22] [.slice a30 (n30) (c30), .slice a1 (n1) (c1)] = some (.slice a32 (n32) (c32), m5) ∧ (CallW cx 9 [.slice a32 (n32) (c32)] m5 fun r34 m6 => (∃ (b34 : Bool), r34 = (.bool (b34)) ∧ (splitB (b34) (CallW cx 14 [.slice a32 (n32) (c32)] m6 fun r37 m7 => (∃ (x37 : Int), r37 = (.int .i64 (x37)) ∧ (CallW cx 14 [.slice a0 (n0) (c0)] m7 fun r39 m8 => (∃ (x39 : Int), r39 = (.int .i64 (x39)) ∧ (CallW cx 14 [.slice a1 (n1) (c1)] m8 fun r41 m9 => (∃ (x41 : Int), r41 = (.int .i64 (x41)) ∧ (splitB (eqI (x37) (addI .i64 (x39) (x41))) (CallW cx 15 [.slice a32 (n32) (c32)] m9 fun r47 m10 => (∃ (x47 : Int), r47 = (.int .i64 (x47)) ∧ (CallW cx 15 [.slice a0 (n0) (c0)] m10 fun r49 m11 => (∃ (x49 : Int), r49 = (.int .i64 (x49)) ∧ (CallW cx 15 [.slice a1 (n1) (c1)] m11 fun r51 m12 => (∃ (x51 : Int), r51 = (.int .i64 (x51)) ∧ (splitB (eqI (x47) (addI .i64 (x49) (x51))) (CallW cx 11 [.slice a32 (n32) (c32)] m12 fun r57 m13 => (∃ (s57 : ByteArray), r57 = (.string (s57)) ∧ (CallW cx 11 [.slice a0 (n0) (c0)] m13 fun r59 m14 => (∃ (s59 : ByteArray), r59 = (.string (s59)) ∧ (lenS (s59) + lenS (ByteArray.mk #[43]) ≤ 140737488355328 ∧ (CallW cx 11 [.slice a1 (n1) (c1)] m14 fun r62 m15 => (∃ (s62 : ByteArray), r62 = (.string (s62)) ∧ (lenS (catS (s59) (ByteArray.mk #[43])) + lenS (s62) ≤ 140737488355328 ∧ (Q (.bool (eqS (s57) (catS (catS (s59) (ByteArray.mk #[43])) (s62)))) m15))))))))) (Q (.bool (false)) m12)))))))) (Q (.bool (false)) m9)))))))) (Q (.bool (false)) m6)))))))) fun J =>
  (CallW cx 9 [.slice a0 (n0) (c0)] m1 fun r13 m16 => (∃ (b13 : Bool), r13 = (.bool (b13)) ∧ (splitB (!(b13)) (Q (.bool (true)) m16) (CallW cx 9 [.slice a1 (n1) (c1)] m16 fun r17 m17 => (∃ (b17 : Bool), r17 = (.bool (b17)) ∧ (splitB (!(b17)) (Q (.bool (true)) m17) (splitB (ltI (8 : Int) (addI .i64 (lenI (n0)) (lenI (n1))))
  (Q (.bool (true)) m17)
  (J  m17))))))))))))
theorem F5_eq (a0 : Option Addr) (n0 c0 : Nat) (a1 : Option Addr) (n1 c1 : Nat) (m : Mem) (Q : Value → Mem → Prop) : F5 a0 n0 c0 a1 n1 c1 m Q = vFn cx Tryd.f5 A5 [.slice a0 (n0) (c0), .slice a1 (n1) (c1)] m Q := by kernel_rfl
theorem F5_ok {a0 : Option Addr} {n0 c0 : Nat} {a1 : Option Addr} {n1 c1 : Nat} {m : Mem} {Q : Value → Mem → Prop} (h : F5 a0 n0 c0 a1 n1 c1 m Q) : CallW cx 5 [.slice a0 (n0) (c0), .slice a1 (n1) (c1)] m Q :=
  CallW.of (by kernel_rfl) (by kernel_rfl) (Eq.mp (F5_eq a0 n0 c0 a1 n1 c1 m Q) h)

-- 7 beadle/beadlelaw10.ProgSays
noncomputable def A7 : Ann := [none, none, none, none, some ([0, 1, 2], []), none, none, none, none, none, none, none]
def F7 (a0 : Option Addr) (n0 c0 : Nat) (s1 : ByteArray) (a2 : Option Addr) (n2 c2 : Nat) (m : Mem) (Q : Value → Mem → Prop) : Prop :=
  (CallW cx 8 [] m fun r13 m1 => (∃ (b13 : Bool), r13 = (.bool (b13)) ∧ (splitB (!(b13))
  (Q (.bool (false)) m1)
  (joinK (fun  (m2 : Mem) => (CallW cx 13 [.slice a0 (n0) (c0)] m2 fun r30 m3 => (∃ (a30 : Option Addr) (n30 c30 : Nat), r30 = (.slice a30 (n30) (c30)) ∧ (CallW cx 10 [.string (s1)] m3 fun r33 m4 => (∃ (a33 : Option Addr) (n33 c33 : Nat), (∃ (b33 : Bool), r33 = (.tuple #[.slice a33 (n33) (c33), .bool (b33)]) ∧ (CallW cx 17 [.string (s1)] m4 fun r38 m5 => (∃ (a38 : Option Addr) (n38 c38 : Nat), (∃ (b38 : Bool), r38 = (.tuple #[.slice a38 (n38) (c38), .bool (b38)]) ∧ (CallW cx 9 [.slice a0 (n0) (c0)] m5 fun r42 m6 => (∃ (b42 : Bool), r42 = (.bool (b42)) ∧ (CallW cx 18 [.slice a30 (n30) (c30)] m6 fun r44 m7 => (∃ (b44 : Bool), r44 = (.bool (b44)) ∧ (splitB ((b42) == (b44)) (CallW cx 14 [.slice a0 (n0) (c0)] m7 fun r48 m8 => (∃ (x48 : Int), r48 = (.int .i64 (x48)) ∧ (CallW cx 19 [.slice a30 (n30) (c30)] m8 fun r50 m9 => (∃ (x50 : Int), r50 = (.int .i64 (x50)) ∧ (splitB (eqI (x48) (x50)) (CallW cx 15 [.slice a0 (n0) (c0)] m9 fun r55 m10 => (∃ (x55 : Int), r55 = (.int .i64 (x55)) ∧ (CallW cx 20 [.slice a30 (n30) (c30)] m10 fun r57 m11 => (∃ (x57 : Int), r57 = (.int .i64 (x57)) ∧ (splitB (eqI (x55) (x57)) (CallW cx 11 [.slice a0 (n0) (c0)] m11 fun r62 m12 => (∃ (s62 : ByteArray), r62 = (.string (s62)) ∧ (CallW cx 21 [.slice a30 (n30) (c30)] m12 fun r64 m13 => (∃ (s64 : ByteArray), r64 = (.string (s64)) ∧ (splitB (eqS (s62) (s64)) (splitB ((b33) == (b38)) (CallW cx 12 [.slice a33 (n33) (c33), .slice a38 (n38) (c38)] m13 fun r75 m14 => (∃ (b75 : Bool), r75 = (.bool (b75)) ∧ (splitB (b75) (CallW cx 16 [.slice a0 (n0) (c0), .slice a2 (n2) (c2)] m14 fun r80 m15 => (∃ (b80 : Bool), r80 = (.bool (b80)) ∧ (CallW cx 22 [.slice a30 (n30) (c30), .int .i64 (lenI (n2))] m15 fun r84 m16 => (∃ (b84 : Bool), r84 = (.bool (b84)) ∧ (Q (.bool ((b80) == (b84))) m16))))) (Q (.bool (false)) m14)))) (Q (.bool (false)) m13)) (Q (.bool (false)) m13)))))) (Q (.bool (false)) m11)))))) (Q (.bool (false)) m9)))))) (Q (.bool (false)) m7))))))))))))))) fun J =>
  (splitB (ltI (20 : Int) (lenI (n0))) (Q (.bool (true)) m1) (splitB (ltI (200 : Int) (lenI (lenS (s1)))) (Q (.bool (true)) m1) (splitB (ltI (20 : Int) (lenI (n2)))
  (Q (.bool (true)) m1)
  (J  m1))))))))
theorem F7_eq (a0 : Option Addr) (n0 c0 : Nat) (s1 : ByteArray) (a2 : Option Addr) (n2 c2 : Nat) (m : Mem) (Q : Value → Mem → Prop) : F7 a0 n0 c0 s1 a2 n2 c2 m Q = vFn cx Tryd.f7 A7 [.slice a0 (n0) (c0), .string (s1), .slice a2 (n2) (c2)] m Q := by kernel_rfl
theorem F7_ok {a0 : Option Addr} {n0 c0 : Nat} {s1 : ByteArray} {a2 : Option Addr} {n2 c2 : Nat} {m : Mem} {Q : Value → Mem → Prop} (h : F7 a0 n0 c0 s1 a2 n2 c2 m Q) : CallW cx 7 [.slice a0 (n0) (c0), .string (s1), .slice a2 (n2) (c2)] m Q :=
  CallW.of (by kernel_rfl) (by kernel_rfl) (Eq.mp (F7_eq a0 n0 c0 s1 a2 n2 c2 m Q) h)

end
end Go.Proofs.YtnhpljcjdfffkaaDoor.vc
