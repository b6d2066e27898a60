/-
  Formulas of the functions of package mask and of its laws: printed by a program (vcprint.py) out of the loaded code; Lean's kernel holds each against the code.
-/
import Derived.Test.YtlenjadchmlliaaDoorAwake
namespace Go.Proofs.YtlenjadchmlliaaDoor.vc
open Go Go.AX
set_option linter.unusedVariables false
set_option maxRecDepth 100000
noncomputable section

-- 26 beadle/mask.bit
noncomputable def A26 : Ann := [none, none, none, none, none]
def F26 (x0 : Int) (m : Mem) (Q : Value → Mem → Prop) : Prop :=
  (splitB (ltI (x0) (0 : Int)) (Q (.int .u64 (0 : Int)) m) (splitB (leI (64 : Int) (x0))
  (Q (.int .u64 (0 : Int)) m)
  (0 ≤ (x0) ∧ (Q (.int .u64 (shlI .u64 (1 : Int) (x0))) m))))
theorem F26_eq (x0 : Int) (m : Mem) (Q : Value → Mem → Prop) : F26 x0 m Q = vFn cx Tryd.f26 A26 [.int .i64 (x0)] m Q := by kernel_rfl
theorem F26_ok {x0 : Int} {m : Mem} {Q : Value → Mem → Prop} (h : F26 x0 m Q) : CallW cx 26 [.int .i64 (x0)] m Q :=
  CallW.of (by kernel_rfl) (by kernel_rfl) (Eq.mp (F26_eq x0 m Q) h)

-- 28 beadle/mask.below
noncomputable def A28 : Ann := [none, none]
def F28 (x0 : Int) (m : Mem) (Q : Value → Mem → Prop) : Prop :=
  (0 ≤ (mnI (mxI (x0) (0 : Int)) (64 : Int)) ∧ (Q (.int .u64 (subI .u64 (shlI .u64 (1 : Int) (mnI (mxI (x0) (0 : Int)) (64 : Int))) (1 : Int))) m))
theorem F28_eq (x0 : Int) (m : Mem) (Q : Value → Mem → Prop) : F28 x0 m Q = vFn cx Tryd.f28 A28 [.int .i64 (x0)] m Q := by kernel_rfl
theorem F28_ok {x0 : Int} {m : Mem} {Q : Value → Mem → Prop} (h : F28 x0 m Q) : CallW cx 28 [.int .i64 (x0)] m Q :=
  CallW.of (by kernel_rfl) (by kernel_rfl) (Eq.mp (F28_eq x0 m Q) h)

-- 9 (beadle/mask.Mask).With
noncomputable def A9 : Ann := [none, none]
def F9 (x0 : Int) (x1 : Int) (m : Mem) (Q : Value → Mem → Prop) : Prop :=
  (CallW cx 26 [.int .i64 (x1)] m fun r7 m1 => (∃ (x7 : Int), r7 = (.int .u64 (x7)) ∧ (Q (.int .u64 (orI .u64 (x0) (x7))) m1)))
theorem F9_eq (x0 : Int) (x1 : Int) (m : Mem) (Q : Value → Mem → Prop) : F9 x0 x1 m Q = vFn cx Tryd.f9 A9 [.int .u64 (x0), .int .i64 (x1)] m Q := by kernel_rfl
theorem F9_ok {x0 : Int} {x1 : Int} {m : Mem} {Q : Value → Mem → Prop} (h : F9 x0 x1 m Q) : CallW cx 9 [.int .u64 (x0), .int .i64 (x1)] m Q :=
  CallW.of (by kernel_rfl) (by kernel_rfl) (Eq.mp (F9_eq x0 x1 m Q) h)

-- 10 (beadle/mask.Mask).Without
noncomputable def A10 : Ann := [none, none]
def F10 (x0 : Int) (x1 : Int) (m : Mem) (Q : Value → Mem → Prop) : Prop :=
  (CallW cx 26 [.int .i64 (x1)] m fun r7 m1 => (∃ (x7 : Int), r7 = (.int .u64 (x7)) ∧ (Q (.int .u64 (andNotI .u64 (x0) (x7))) m1)))
theorem F10_eq (x0 : Int) (x1 : Int) (m : Mem) (Q : Value → Mem → Prop) : F10 x0 x1 m Q = vFn cx Tryd.f10 A10 [.int .u64 (x0), .int .i64 (x1)] m Q := by kernel_rfl
theorem F10_ok {x0 : Int} {x1 : Int} {m : Mem} {Q : Value → Mem → Prop} (h : F10 x0 x1 m Q) : CallW cx 10 [.int .u64 (x0), .int .i64 (x1)] m Q :=
  CallW.of (by kernel_rfl) (by kernel_rfl) (Eq.mp (F10_eq x0 x1 m Q) h)

-- 11 (beadle/mask.Mask).Has
noncomputable def A11 : Ann := [none, none]
def F11 (x0 : Int) (x1 : Int) (m : Mem) (Q : Value → Mem → Prop) : Prop :=
  (CallW cx 26 [.int .i64 (x1)] m fun r7 m1 => (∃ (x7 : Int), r7 = (.int .u64 (x7)) ∧ (Q (.bool (neI (andI .u64 (x0) (x7)) (0 : Int))) m1)))
theorem F11_eq (x0 : Int) (x1 : Int) (m : Mem) (Q : Value → Mem → Prop) : F11 x0 x1 m Q = vFn cx Tryd.f11 A11 [.int .u64 (x0), .int .i64 (x1)] m Q := by kernel_rfl
theorem F11_ok {x0 : Int} {x1 : Int} {m : Mem} {Q : Value → Mem → Prop} (h : F11 x0 x1 m Q) : CallW cx 11 [.int .u64 (x0), .int .i64 (x1)] m Q :=
  CallW.of (by kernel_rfl) (by kernel_rfl) (Eq.mp (F11_eq x0 x1 m Q) h)

-- 18 (beadle/mask.Mask).First
noncomputable def A18 : Ann := [none, none, none, none, none, none]
def F18 (x0 : Int) (x1 : Int) (m : Mem) (Q : Value → Mem → Prop) : Prop :=
  (CallW cx 28 [.int .i64 (x1)] m fun r8 m1 => (∃ (x8 : Int), r8 = (.int .u64 (x8)) ∧ (splitB (eqI (andNotI .u64 (x0) (x8)) (0 : Int))
  (Q (.tuple #[.int .i64 (0 : Int), .bool (false)]) m1)
  (CallW cx 29 [.int .u64 (andNotI .u64 (x0) (x8))] m1 fun r13 m2 => (∃ (x13 : Int), r13 = (.int .i64 (x13)) ∧ (Q (.tuple #[.int .i64 (x13), .bool (true)]) m2))))))
theorem F18_eq (x0 : Int) (x1 : Int) (m : Mem) (Q : Value → Mem → Prop) : F18 x0 x1 m Q = vFn cx Tryd.f18 A18 [.int .u64 (x0), .int .i64 (x1)] m Q := by kernel_rfl
theorem F18_ok {x0 : Int} {x1 : Int} {m : Mem} {Q : Value → Mem → Prop} (h : F18 x0 x1 m Q) : CallW cx 18 [.int .u64 (x0), .int .i64 (x1)] m Q :=
  CallW.of (by kernel_rfl) (by kernel_rfl) (Eq.mp (F18_eq x0 x1 m Q) h)

-- 13 (beadle/mask.Mask).Around
noncomputable def A13 : Ann := [none, none, none, none, none, none]
def F13 (x0 : Int) (x1 : Int) (m : Mem) (Q : Value → Mem → Prop) : Prop :=
  (CallW cx 18 [.int .u64 (x0), .int .i64 (x1)] m fun r11 m1 => (∃ (x11 : Int), (∃ (b11 : Bool), r11 = (.tuple #[.int .i64 (x11), .bool (b11)]) ∧ (splitB (b11)
  (Q (.tuple #[.int .i64 (x11), .bool (true)]) m1)
  (CallW cx 18 [.int .u64 (x0), .int .i64 (0 : Int)] m1 fun r17 m2 => (∃ (x17 : Int), (∃ (b17 : Bool), r17 = (.tuple #[.int .i64 (x17), .bool (b17)]) ∧ (Q (.tuple #[.int .i64 (x17), .bool (b17)]) m2))))))))
theorem F13_eq (x0 : Int) (x1 : Int) (m : Mem) (Q : Value → Mem → Prop) : F13 x0 x1 m Q = vFn cx Tryd.f13 A13 [.int .u64 (x0), .int .i64 (x1)] m Q := by kernel_rfl
theorem F13_ok {x0 : Int} {x1 : Int} {m : Mem} {Q : Value → Mem → Prop} (h : F13 x0 x1 m Q) : CallW cx 13 [.int .u64 (x0), .int .i64 (x1)] m Q :=
  CallW.of (by kernel_rfl) (by kernel_rfl) (Eq.mp (F13_eq x0 x1 m Q) h)

-- 27 math/bits.OnesCount64
noncomputable def A27 : Ann := [none, none, none, none, none, none, none, none]
def F27 (x0 : Int) (m : Mem) (Q : Value → Mem → Prop) : Prop :=
  (0 ≤ (1 : Int) ∧ (0 ≤ (2 : Int) ∧ (0 ≤ (4 : Int) ∧ (0 ≤ (8 : Int) ∧ (0 ≤ (16 : Int) ∧ (0 ≤ (32 : Int) ∧ (Q (.int .i64 (andI .i64 (cvI .i64 (addI .u64 (addI .u64 (addI .u64 (andI .u64 (addI .u64 (shrI .u64 (addI .u64 (andI .u64 (shrI .u64 (addI .u64 (andI .u64 (shrI .u64 (x0) (1 : Int)) (6148914691236517205 : Int)) (andI .u64 (x0) (6148914691236517205 : Int))) (2 : Int)) (3689348814741910323 : Int)) (andI .u64 (addI .u64 (andI .u64 (shrI .u64 (x0) (1 : Int)) (6148914691236517205 : Int)) (andI .u64 (x0) (6148914691236517205 : Int))) (3689348814741910323 : Int))) (4 : Int)) (addI .u64 (andI .u64 (shrI .u64 (addI .u64 (andI .u64 (shrI .u64 (x0) (1 : Int)) (6148914691236517205 : Int)) (andI .u64 (x0) (6148914691236517205 : Int))) (2 : Int)) (3689348814741910323 : Int)) (andI .u64 (addI .u64 (andI .u64 (shrI .u64 (x0) (1 : Int)) (6148914691236517205 : Int)) (andI .u64 (x0) (6148914691236517205 : Int))) (3689348814741910323 : Int)))) (1085102592571150095 : Int)) (shrI .u64 (andI .u64 (addI .u64 (shrI .u64 (addI .u64 (andI .u64 (shrI .u64 (addI .u64 (andI .u64 (shrI .u64 (x0) (1 : Int)) (6148914691236517205 : Int)) (andI .u64 (x0) (6148914691236517205 : Int))) (2 : Int)) (3689348814741910323 : Int)) (andI .u64 (addI .u64 (andI .u64 (shrI .u64 (x0) (1 : Int)) (6148914691236517205 : Int)) (andI .u64 (x0) (6148914691236517205 : Int))) (3689348814741910323 : Int))) (4 : Int)) (addI .u64 (andI .u64 (shrI .u64 (addI .u64 (andI .u64 (shrI .u64 (x0) (1 : Int)) (6148914691236517205 : Int)) (andI .u64 (x0) (6148914691236517205 : Int))) (2 : Int)) (3689348814741910323 : Int)) (andI .u64 (addI .u64 (andI .u64 (shrI .u64 (x0) (1 : Int)) (6148914691236517205 : Int)) (andI .u64 (x0) (6148914691236517205 : Int))) (3689348814741910323 : Int)))) (1085102592571150095 : Int)) (8 : Int))) (shrI .u64 (addI .u64 (andI .u64 (addI .u64 (shrI .u64 (addI .u64 (andI .u64 (shrI .u64 (addI .u64 (andI .u64 (shrI .u64 (x0) (1 : Int)) (6148914691236517205 : Int)) (andI .u64 (x0) (6148914691236517205 : Int))) (2 : Int)) (3689348814741910323 : Int)) (andI .u64 (addI .u64 (andI .u64 (shrI .u64 (x0) (1 : Int)) (6148914691236517205 : Int)) (andI .u64 (x0) (6148914691236517205 : Int))) (3689348814741910323 : Int))) (4 : Int)) (addI .u64 (andI .u64 (shrI .u64 (addI .u64 (andI .u64 (shrI .u64 (x0) (1 : Int)) (6148914691236517205 : Int)) (andI .u64 (x0) (6148914691236517205 : Int))) (2 : Int)) (3689348814741910323 : Int)) (andI .u64 (addI .u64 (andI .u64 (shrI .u64 (x0) (1 : Int)) (6148914691236517205 : Int)) (andI .u64 (x0) (6148914691236517205 : Int))) (3689348814741910323 : Int)))) (1085102592571150095 : Int)) (shrI .u64 (andI .u64 (addI .u64 (shrI .u64 (addI .u64 (andI .u64 (shrI .u64 (addI .u64 (andI .u64 (shrI .u64 (x0) (1 : Int)) (6148914691236517205 : Int)) (andI .u64 (x0) (6148914691236517205 : Int))) (2 : Int)) (3689348814741910323 : Int)) (andI .u64 (addI .u64 (andI .u64 (shrI .u64 (x0) (1 : Int)) (6148914691236517205 : Int)) (andI .u64 (x0) (6148914691236517205 : Int))) (3689348814741910323 : Int))) (4 : Int)) (addI .u64 (andI .u64 (shrI .u64 (addI .u64 (andI .u64 (shrI .u64 (x0) (1 : Int)) (6148914691236517205 : Int)) (andI .u64 (x0) (6148914691236517205 : Int))) (2 : Int)) (3689348814741910323 : Int)) (andI .u64 (addI .u64 (andI .u64 (shrI .u64 (x0) (1 : Int)) (6148914691236517205 : Int)) (andI .u64 (x0) (6148914691236517205 : Int))) (3689348814741910323 : Int)))) (1085102592571150095 : Int)) (8 : Int))) (16 : Int))) (shrI .u64 (addI .u64 (addI .u64 (andI .u64 (addI .u64 (shrI .u64 (addI .u64 (andI .u64 (shrI .u64 (addI .u64 (andI .u64 (shrI .u64 (x0) (1 : Int)) (6148914691236517205 : Int)) (andI .u64 (x0) (6148914691236517205 : Int))) (2 : Int)) (3689348814741910323 : Int)) (andI .u64 (addI .u64 (andI .u64 (shrI .u64 (x0) (1 : Int)) (6148914691236517205 : Int)) (andI .u64 (x0) (6148914691236517205 : Int))) (3689348814741910323 : Int))) (4 : Int)) (addI .u64 (andI .u64 (shrI .u64 (addI .u64 (andI .u64 (shrI .u64 (x0) (1 : Int)) (6148914691236517205 : Int)) (andI .u64 (x0) (6148914691236517205 : Int))) (2 : Int)) (3689348814741910323 : Int)) (andI .u64 (addI .u64 (andI .u64 (shrI .u64 (x0) (1 : Int)) (6148914691236517205 : Int)) (andI .u64 (x0) (6148914691236517205 : Int))) (3689348814741910323 : Int)))) (1085102592571150095 : Int)) (shrI .u64 (andI .u64 (addI .u64 (shrI .u64 (addI .u64 (andI .u64 (shrI .u64 (addI .u64 (andI .u64 (shrI .u64 (x0) (1 : Int)) (6148914691236517205 : Int)) (andI .u64 (x0) (6148914691236517205 : Int))) (2 : Int)) (3689348814741910323 : Int)) (andI .u64 (addI .u64 (andI .u64 (shrI .u64 (x0) (1 : Int)) (6148914691236517205 : Int)) (andI .u64 (x0) (6148914691236517205 : Int))) (3689348814741910323 : Int))) (4 : Int)) (addI .u64 (andI .u64 (shrI .u64 (addI .u64 (andI .u64 (shrI .u64 (x0) (1 : Int)) (6148914691236517205 : Int)) (andI .u64 (x0) (6148914691236517205 : Int))) (2 : Int)) (3689348814741910323 : Int)) (andI .u64 (addI .u64 (andI .u64 (shrI .u64 (x0) (1 : Int)) (6148914691236517205 : Int)) (andI .u64 (x0) (6148914691236517205 : Int))) (3689348814741910323 : Int)))) (1085102592571150095 : Int)) (8 : Int))) (shrI .u64 (addI .u64 (andI .u64 (addI .u64 (shrI .u64 (addI .u64 (andI .u64 (shrI .u64 (addI .u64 (andI .u64 (shrI .u64 (x0) (1 : Int)) (6148914691236517205 : Int)) (andI .u64 (x0) (6148914691236517205 : Int))) (2 : Int)) (3689348814741910323 : Int)) (andI .u64 (addI .u64 (andI .u64 (shrI .u64 (x0) (1 : Int)) (6148914691236517205 : Int)) (andI .u64 (x0) (6148914691236517205 : Int))) (3689348814741910323 : Int))) (4 : Int)) (addI .u64 (andI .u64 (shrI .u64 (addI .u64 (andI .u64 (shrI .u64 (x0) (1 : Int)) (6148914691236517205 : Int)) (andI .u64 (x0) (6148914691236517205 : Int))) (2 : Int)) (3689348814741910323 : Int)) (andI .u64 (addI .u64 (andI .u64 (shrI .u64 (x0) (1 : Int)) (6148914691236517205 : Int)) (andI .u64 (x0) (6148914691236517205 : Int))) (3689348814741910323 : Int)))) (1085102592571150095 : Int)) (shrI .u64 (andI .u64 (addI .u64 (shrI .u64 (addI .u64 (andI .u64 (shrI .u64 (addI .u64 (andI .u64 (shrI .u64 (x0) (1 : Int)) (6148914691236517205 : Int)) (andI .u64 (x0) (6148914691236517205 : Int))) (2 : Int)) (3689348814741910323 : Int)) (andI .u64 (addI .u64 (andI .u64 (shrI .u64 (x0) (1 : Int)) (6148914691236517205 : Int)) (andI .u64 (x0) (6148914691236517205 : Int))) (3689348814741910323 : Int))) (4 : Int)) (addI .u64 (andI .u64 (shrI .u64 (addI .u64 (andI .u64 (shrI .u64 (x0) (1 : Int)) (6148914691236517205 : Int)) (andI .u64 (x0) (6148914691236517205 : Int))) (2 : Int)) (3689348814741910323 : Int)) (andI .u64 (addI .u64 (andI .u64 (shrI .u64 (x0) (1 : Int)) (6148914691236517205 : Int)) (andI .u64 (x0) (6148914691236517205 : Int))) (3689348814741910323 : Int)))) (1085102592571150095 : Int)) (8 : Int))) (16 : Int))) (32 : Int)))) (127 : Int))) m)))))))
theorem F27_eq (x0 : Int) (m : Mem) (Q : Value → Mem → Prop) : F27 x0 m Q = vFn cx Tryd.f27 A27 [.int .u64 (x0)] m Q := by kernel_rfl
theorem F27_ok {x0 : Int} {m : Mem} {Q : Value → Mem → Prop} (h : F27 x0 m Q) : CallW cx 27 [.int .u64 (x0)] m Q :=
  CallW.of (by kernel_rfl) (by kernel_rfl) (Eq.mp (F27_eq x0 m Q) h)

-- 12 (beadle/mask.Mask).Len
noncomputable def A12 : Ann := [none, none]
def F12 (x0 : Int) (m : Mem) (Q : Value → Mem → Prop) : Prop :=
  (CallW cx 27 [.int .u64 (x0)] m fun r4 m1 => (∃ (x4 : Int), r4 = (.int .i64 (x4)) ∧ (Q (.int .i64 (x4)) m1)))
theorem F12_eq (x0 : Int) (m : Mem) (Q : Value → Mem → Prop) : F12 x0 m Q = vFn cx Tryd.f12 A12 [.int .u64 (x0)] m Q := by kernel_rfl
theorem F12_ok {x0 : Int} {m : Mem} {Q : Value → Mem → Prop} (h : F12 x0 m Q) : CallW cx 12 [.int .u64 (x0)] m Q :=
  CallW.of (by kernel_rfl) (by kernel_rfl) (Eq.mp (F12_eq x0 m Q) h)

-- 29 math/bits.TrailingZeros64
noncomputable def A29 : Ann := [none, none, none, none, none]
def F29 (x0 : Int) (m : Mem) (Q : Value → Mem → Prop) : Prop :=
  (splitB (eqI (x0) (0 : Int))
  (Q (.int .i64 (64 : Int)) m)
  (0 ≤ (58 : Int) ∧ ((0 ≤ (shrI .u64 (mulI .u64 (andI .u64 (x0) (subI .u64 0 (x0))) (285870213051353865 : Int)) (58 : Int)) ∧ (shrI .u64 (mulI .u64 (andI .u64 (x0) (subI .u64 0 (x0))) (285870213051353865 : Int)) (58 : Int)) < ((64 : Nat) : Int)) ∧ (∃ (x12 : Int), rd m 0 (0 + Int.toNat (shrI .u64 (mulI .u64 (andI .u64 (x0) (subI .u64 0 (x0))) (285870213051353865 : Int)) (58 : Int)) * 1) = some (.int .u8 (x12)) ∧ (Q (.int .i64 (cvI .i64 (x12))) m)))))
theorem F29_eq (x0 : Int) (m : Mem) (Q : Value → Mem → Prop) : F29 x0 m Q = vFn cx Tryd.f29 A29 [.int .u64 (x0)] m Q := by kernel_rfl
theorem F29_ok {x0 : Int} {m : Mem} {Q : Value → Mem → Prop} (h : F29 x0 m Q) : CallW cx 29 [.int .u64 (x0)] m Q :=
  CallW.of (by kernel_rfl) (by kernel_rfl) (Eq.mp (F29_eq x0 m Q) h)

-- 15 (beadle/mask.Mask).Rank
noncomputable def A15 : Ann := [none, none]
def F15 (x0 : Int) (x1 : Int) (m : Mem) (Q : Value → Mem → Prop) : Prop :=
  (CallW cx 28 [.int .i64 (x1)] m fun r7 m1 => (∃ (x7 : Int), r7 = (.int .u64 (x7)) ∧ (CallW cx 12 [.int .u64 (andI .u64 (x0) (x7))] m1 fun r9 m2 => (∃ (x9 : Int), r9 = (.int .i64 (x9)) ∧ (Q (.int .i64 (x9)) m2)))))
theorem F15_eq (x0 : Int) (x1 : Int) (m : Mem) (Q : Value → Mem → Prop) : F15 x0 x1 m Q = vFn cx Tryd.f15 A15 [.int .u64 (x0), .int .i64 (x1)] m Q := by kernel_rfl
theorem F15_ok {x0 : Int} {x1 : Int} {m : Mem} {Q : Value → Mem → Prop} (h : F15 x0 x1 m Q) : CallW cx 15 [.int .u64 (x0), .int .i64 (x1)] m Q :=
  CallW.of (by kernel_rfl) (by kernel_rfl) (Eq.mp (F15_eq x0 x1 m Q) h)

-- 20 (beadle/mask.Mask).List
noncomputable def A20 : Ann := [none, none, none, none, some ([0], [(3, .sl), (4, .int .i64), (5, .bool)]), none, none, none, none]
def F20 (x0 : Int) (m : Mem) (Q : Value → Mem → Prop) : Prop :=
  (CallW cx 18 [.int .u64 (x0), .int .i64 (0 : Int)] m fun r8 m1 => (∃ (x8 : Int), (∃ (b8 : Bool), r8 = (.tuple #[.int .i64 (x8), .bool (b8)]) ∧ (∃ Inv : Option Addr → Nat → Nat → Int → Bool → Mem → Nat → Prop, (∃ n : Nat, Inv none (0) (0) (x8) (b8) m1 n) ∧
  (∀ (a3 : Option Addr) (n3 c3 : Nat) (x4 : Int) (b5 : Bool), ∀ (m2 : Mem) (n_1 : Nat), Inv a3 (n3) (c3) (x4) (b5) m2 n_1 →
  (splitB (b5)
  (mBind (newO m2 (row [.int .i64 (x4)] 3 false)) fun m3 => (∃ (a22 : Option Addr) (n22 c22 : Nat) (m4 : Mem), appendA cx m3 [22, 22] [.slice a3 (n3) (c3), .slice (some ⟨m2.nx, 0, none⟩) (1) (1)] = some (.slice a22 (n22) (c22), m4) ∧ (CallW cx 18 [.int .u64 (x0), .int .i64 (addI .i64 (x4) (1 : Int))] m4 fun r16 m5 => (∃ (x16 : Int), (∃ (b16 : Bool), r16 = (.tuple #[.int .i64 (x16), .bool (b16)]) ∧ (∃ n_2 : Nat, n_2 < n_1 ∧ Inv a22 (n22) (c22) (x16) (b16) m5 n_2))))))
  (Q (.slice a3 (n3) (c3)) m2)))))))
theorem F20_eq (x0 : Int) (m : Mem) (Q : Value → Mem → Prop) : F20 x0 m Q = vFn cx Tryd.f20 A20 [.int .u64 (x0)] m Q := by kernel_rfl
theorem F20_ok {x0 : Int} {m : Mem} {Q : Value → Mem → Prop} (h : F20 x0 m Q) : CallW cx 20 [.int .u64 (x0)] m Q :=
  CallW.of (by kernel_rfl) (by kernel_rfl) (Eq.mp (F20_eq x0 m Q) h)

-- 14 (beadle/mask.Mask).Nth
noncomputable def A14 : Ann := [none, none, some ([1, 6], []), none, none, none]
def F14 (x0 : Int) (x1 : Int) (m : Mem) (Q : Value → Mem → Prop) : Prop :=
  (CallW cx 20 [.int .u64 (x0)] m fun r8 m1 => (∃ (a8 : Option Addr) (n8 c8 : Nat), r8 = (.slice a8 (n8) (c8)) ∧ (joinK (fun  (m2 : Mem) => ((0 ≤ (x1) ∧ (x1) < ((n8 : Nat) : Int)) ∧ (vPtr a8 fun ba8 oa8 => (∃ (x20 : Int), rd m2 ba8 (oa8 + Int.toNat (x1) * 1) = some (.int .i64 (x20)) ∧ (Q (.tuple #[.int .i64 (x20), .bool (true)]) m2))))) fun J =>
  (splitB (ltI (x1) (0 : Int)) (Q (.tuple #[.int .i64 (0 : Int), .bool (false)]) m1) (splitB (leI (lenI (n8)) (x1))
  (Q (.tuple #[.int .i64 (0 : Int), .bool (false)]) m1)
  (J  m1))))))
theorem F14_eq (x0 : Int) (x1 : Int) (m : Mem) (Q : Value → Mem → Prop) : F14 x0 x1 m Q = vFn cx Tryd.f14 A14 [.int .u64 (x0), .int .i64 (x1)] m Q := by kernel_rfl
theorem F14_ok {x0 : Int} {x1 : Int} {m : Mem} {Q : Value → Mem → Prop} (h : F14 x0 x1 m Q) : CallW cx 14 [.int .u64 (x0), .int .i64 (x1)] m Q :=
  CallW.of (by kernel_rfl) (by kernel_rfl) (Eq.mp (F14_eq x0 x1 m Q) h)

-- 23 beadle/mask.Of
noncomputable def A23 : Ann := [none, none, none, none, some ([6, 7], [(3, .int .u64), (8, .int .i64)]), none, none, none, none, none]
def F23 (a0 : Option Addr) (n0 c0 : Nat) (m : Mem) (Q : Value → Mem → Prop) : Prop :=
  (∃ Inv : Int → Int → Mem → Nat → Prop, (∃ n : Nat, Inv (0 : Int) (0 : Int) m n) ∧
  (∀ (x3 : Int) (x8 : Int), ∀ (m1 : Mem) (n_1 : Nat), Inv (x3) (x8) m1 n_1 →
  (splitB (ltI (x8) (lenI (n0)))
  ((0 ≤ (x8) ∧ (x8) < ((n0 : Nat) : Int)) ∧ (vPtr a0 fun ba0 oa0 => (∃ (x11 : Int), rd m1 ba0 (oa0 + Int.toNat (x8) * 1) = some (.int .i64 (x11)) ∧ (CallW cx 26 [.int .i64 (x11)] m1 fun r14 m2 => (∃ (x14 : Int), r14 = (.int .u64 (x14)) ∧ (∃ n_2 : Nat, n_2 < n_1 ∧ Inv (orI .u64 (x3) (x14)) (addI .i64 (x8) (1 : Int)) m2 n_2))))))
  (Q (.int .u64 (x3)) m1))))
theorem F23_eq (a0 : Option Addr) (n0 c0 : Nat) (m : Mem) (Q : Value → Mem → Prop) : F23 a0 n0 c0 m Q = vFn cx Tryd.f23 A23 [.slice a0 (n0) (c0)] m Q := by kernel_rfl
theorem F23_ok {a0 : Option Addr} {n0 c0 : Nat} {m : Mem} {Q : Value → Mem → Prop} (h : F23 a0 n0 c0 m Q) : CallW cx 23 [.slice a0 (n0) (c0)] m Q :=
  CallW.of (by kernel_rfl) (by kernel_rfl) (Eq.mp (F23_eq a0 n0 c0 m Q) h)

-- 3 beadle/beadlelaw3.MaskSets
noncomputable def A3 : Ann := [none, none, none, none, some ([0, 1], []), none, none, none, none, none, none, some ([0, 1, 6], [(5, .int .u64), (7, .int .i64)]), none, none, none, some ([0, 1, 6, 7], [(5, .int .u64)]), none, some ([0, 1, 5, 6, 7], [(55, .bool)]), none, none, none, some ([5, 6], [(8, .int .i64), (9, .int .i64)]), none, none, none, some ([5, 6, 9], [(8, .int .i64)]), none, none, none, none]
def F3 (a0 : Option Addr) (n0 c0 : Nat) (a1 : Option Addr) (n1 c1 : Nat) (m : Mem) (Q : Value → Mem → Prop) : Prop :=
  (CallW cx 8 [] m fun r10 m1 => (∃ (b10 : Bool), r10 = (.bool (b10)) ∧ (splitB (!(b10))
  (Q (.bool (false)) m1)
  (joinK (fun  (m2 : Mem) => (mBind (newO m2 (row [.bool (false), .bool (false), .bool (false), .bool (false), .bool (false), .bool (false), .bool (false), .bool (false), .bool (false), .bool (false), .bool (false), .bool (false), .bool (false), .bool (false), .bool (false), .bool (false), .bool (false), .bool (false), .bool (false), .bool (false), .bool (false), .bool (false), .bool (false), .bool (false), .bool (false), .bool (false), .bool (false), .bool (false), .bool (false), .bool (false), .bool (false), .bool (false), .bool (false), .bool (false), .bool (false), .bool (false), .bool (false), .bool (false), .bool (false), .bool (false), .bool (false), .bool (false), .bool (false), .bool (false), .bool (false), .bool (false), .bool (false), .bool (false), .bool (false), .bool (false), .bool (false), .bool (false), .bool (false), .bool (false), .bool (false), .bool (false), .bool (false), .bool (false), .bool (false), .bool (false), .bool (false), .bool (false), .bool (false), .bool (false)] 27 false)) fun m3 => (∃ Inv : Int → Int → Mem → Nat → Prop, (∃ n : Nat, Inv (0 : Int) (0 : Int) m3 n) ∧
  (∀ (x5 : Int) (x7 : Int), ∀ (m4 : Mem) (n_1 : Nat), Inv (x5) (x7) m4 n_1 →
  (splitB (ltI (x7) (lenI (n0)))
  (joinK (fun (x5_3 : Int) (m5 : Mem) => (joinK (fun (b55 : Bool) (m6 : Mem) => (splitB (b55)
  (mBind (bump m6 10) fun m7 => ((0 ≤ (x7) ∧ (x7) < ((n0 : Nat) : Int)) ∧ (vPtr a0 fun ba0 oa0 => (∃ (x59 : Int), rd m7 ba0 (oa0 + Int.toNat (x7) * 1) = some (.int .i64 (x59)) ∧ ((0 ≤ (x7) ∧ (x7) < ((n1 : Nat) : Int)) ∧ (vPtr a1 fun ba1 oa1 => (∃ (b63 : Bool), rd m7 ba1 (oa1 + Int.toNat (x7) * 1) = some (.bool (b63)) ∧ ((0 ≤ (x59) ∧ (x59) < ((64 : Nat) : Int)) ∧ (okW m7 m2.nx (0 + Int.toNat (x59) * 1) 1 ∧ (mBind (wr m7 m2.nx (0 + Int.toNat (x59) * 1) [.bool (b63)]) fun m8 => (∃ n_5 : Nat, n_5 < n_1 ∧ Inv (x5_3) (addI .i64 (x7) (1 : Int)) m8 n_5)))))))))))
  (∃ n_6 : Nat, n_6 < n_1 ∧ Inv (x5_3) (addI .i64 (x7) (1 : Int)) m6 n_6))) fun J_4 =>
  ((0 ≤ (x7) ∧ (x7) < ((n0 : Nat) : Int)) ∧ (vPtr a0 fun ba0_7 oa0_8 => (∃ (x47 : Int), rd m5 ba0_7 (oa0_8 + Int.toNat (x7) * 1) = some (.int .i64 (x47)) ∧ (splitB (leI (0 : Int) (x47)) ((0 ≤ (x7) ∧ (x7) < ((n0 : Nat) : Int)) ∧ (vPtr a0 fun ba0_9 oa0_10 => (∃ (x53 : Int), rd m5 ba0_9 (oa0_10 + Int.toNat (x7) * 1) = some (.int .i64 (x53)) ∧ (J_4 (ltI (x53) (64 : Int)) m5)))) (J_4 (false) m5))))))) fun J_2 =>
  ((0 ≤ (x7) ∧ (x7) < ((n1 : Nat) : Int)) ∧ (vPtr a1 fun ba1_11 oa1_12 => (∃ (b31 : Bool), rd m4 ba1_11 (oa1_12 + Int.toNat (x7) * 1) = some (.bool (b31)) ∧ (splitB (b31)
  ((0 ≤ (x7) ∧ (x7) < ((n0 : Nat) : Int)) ∧ (vPtr a0 fun ba0_13 oa0_14 => (∃ (x36 : Int), rd m4 ba0_13 (oa0_14 + Int.toNat (x7) * 1) = some (.int .i64 (x36)) ∧ (CallW cx 9 [.int .u64 (x5), .int .i64 (x36)] m4 fun r37 m9 => (∃ (x37 : Int), r37 = (.int .u64 (x37)) ∧ (J_2 (x37) m9))))))
  ((0 ≤ (x7) ∧ (x7) < ((n0 : Nat) : Int)) ∧ (vPtr a0 fun ba0_15 oa0_16 => (∃ (x42 : Int), rd m4 ba0_15 (oa0_16 + Int.toNat (x7) * 1) = some (.int .i64 (x42)) ∧ (CallW cx 10 [.int .u64 (x5), .int .i64 (x42)] m4 fun r43 m10 => (∃ (x43 : Int), r43 = (.int .u64 (x43)) ∧ (J_2 (x43) m10)))))))))))
  (∃ Inv_17 : Int → Int → Mem → Nat → Prop, (∃ n_18 : Nat, Inv_17 (0 : Int) (0 : Int) m4 n_18) ∧
  (∀ (x8 : Int) (x9 : Int), ∀ (m11 : Mem) (n_19 : Nat), Inv_17 (x8) (x9) m11 n_19 →
  (splitB (ltI (x9) (64 : Int))
  (joinK (fun (x8_21 : Int) (m12 : Mem) => (mBind (bump m12 7) fun m13 => (CallW cx 11 [.int .u64 (x5), .int .i64 (x9)] ((setFl (m13) m12.nx)) fun r76 m14 => (∃ (b76 : Bool), r76 = (.bool (b76)) ∧ ((0 ≤ (x9) ∧ (x9) < ((64 : Nat) : Int)) ∧ (∃ (b79 : Bool), rd m13 m2.nx (0 + Int.toNat (x9) * 1) = some (.bool (b79)) ∧ (splitB (!((b76) == (b79)))
  (Q (.bool (false)) ((setFl m14 m13.fl)))
  (∃ n_22 : Nat, n_22 < n_19 ∧ Inv_17 (x8_21) (addI .i64 (x9) (1 : Int)) ((setFl m14 m13.fl)) n_22)))))))) fun J_20 =>
  ((0 ≤ (x9) ∧ (x9) < ((64 : Nat) : Int)) ∧ (∃ (b71 : Bool), rd m11 m2.nx (0 + Int.toNat (x9) * 1) = some (.bool (b71)) ∧ (splitB (b71)
  (J_20 (addI .i64 (x8) (1 : Int)) m11)
  (J_20 (x8) m11)))))
  (CallW cx 12 [.int .u64 (x5)] m11 fun r82 m15 => (∃ (x82 : Int), r82 = (.int .i64 (x82)) ∧ (Q (.bool (eqI (x82) (x8))) m15))))))))))) fun J =>
  (splitB (ltI (100 : Int) (lenI (n0))) (Q (.bool (true)) m1) (splitB (neI (lenI (n1)) (lenI (n0)))
  (Q (.bool (true)) m1)
  (J  m1)))))))
theorem F3_eq (a0 : Option Addr) (n0 c0 : Nat) (a1 : Option Addr) (n1 c1 : Nat) (m : Mem) (Q : Value → Mem → Prop) : F3 a0 n0 c0 a1 n1 c1 m Q = vFn cx Tryd.f3 A3 [.slice a0 (n0) (c0), .slice a1 (n1) (c1)] m Q := by kernel_rfl
theorem F3_ok {a0 : Option Addr} {n0 c0 : Nat} {a1 : Option Addr} {n1 c1 : Nat} {m : Mem} {Q : Value → Mem → Prop} (h : F3 a0 n0 c0 a1 n1 c1 m Q) : CallW cx 3 [.slice a0 (n0) (c0), .slice a1 (n1) (c1)] m Q :=
  CallW.of (by kernel_rfl) (by kernel_rfl) (Eq.mp (F3_eq a0 n0 c0 a1 n1 c1 m Q) h)

-- 4 beadle/beadlelaw3.MaskAround
noncomputable def A4 : Ann := [none, none, none, none, none, some ([1, 5], []), none, none, none, none, some ([5], [(6, .int .u64)]), none, some ([5], [(6, .int .u64), (7, .int .i64), (8, .int .i64)]), some ([5, 6, 7, 8], []), none, none, none, some ([5, 6, 8, 9], []), none, none, none, none]
def F4 (x0 : Int) (x1 : Int) (m : Mem) (Q : Value → Mem → Prop) : Prop :=
  (CallW cx 8 [] m fun r11 m1 => (∃ (b11 : Bool), r11 = (.bool (b11)) ∧ (splitB (!(b11))
  (Q (.bool (false)) m1)
  (joinK (fun  (m2 : Mem) => (joinK (fun (x6 : Int) (m3 : Mem) => (Q (.bool (eqI (x6) (x0))) m3)) fun J_1 =>
  (∃ Inv : Int → Int → Int → Mem → Nat → Prop, (∃ n : Nat, Inv (0 : Int) (x1) (0 : Int) m2 n) ∧
  (∀ (x6_2 : Int) (x7 : Int) (x8 : Int), ∀ (m4 : Mem) (n_3 : Nat), Inv (x6_2) (x7) (x8) m4 n_3 →
  (joinK (fun  (m5 : Mem) => (CallW cx 13 [.int .u64 (x0), .int .i64 (x7)] m5 fun r34 m6 => (∃ (x34 : Int), (∃ (b34 : Bool), r34 = (.tuple #[.int .i64 (x34), .bool (b34)]) ∧ (joinK (fun  (m7 : Mem) => (CallW cx 9 [.int .u64 (x6_2), .int .i64 (x34)] m7 fun r52 m8 => (∃ (x52 : Int), r52 = (.int .u64 (x52)) ∧ (∃ n_6 : Nat, n_6 < n_3 ∧ Inv (x52) (addI .i64 (x34) (1 : Int)) (addI .i64 (x8) (1 : Int)) m8 n_6)))) fun J_5 =>
  (splitB (!(b34)) (Q (.bool (false)) m6) (CallW cx 11 [.int .u64 (x6_2), .int .i64 (x34)] m6 fun r42 m9 => (∃ (b42 : Bool), r42 = (.bool (b42)) ∧ (splitB (b42) (Q (.bool (false)) m9) (CallW cx 11 [.int .u64 (x0), .int .i64 (x34)] m9 fun r47 m10 => (∃ (b47 : Bool), r47 = (.bool (b47)) ∧ (splitB (!(b47))
  (Q (.bool (false)) m10)
  (J_5  m10))))))))))))) fun J_4 =>
  (CallW cx 12 [.int .u64 (x0)] m4 fun r23 m11 => (∃ (x23 : Int), r23 = (.int .i64 (x23)) ∧ (splitB (ltI (x8) (x23)) (splitB (ltI (x8) (64 : Int))
  (J_4  m11)
  (J_1 (x6_2) m11)) (J_1 (x6_2) m11))))))))) fun J =>
  (splitB (ltI (x1) (0 : Int)) (Q (.bool (true)) m1) (splitB (ltI (63 : Int) (x1))
  (Q (.bool (true)) m1)
  (J  m1)))))))
theorem F4_eq (x0 : Int) (x1 : Int) (m : Mem) (Q : Value → Mem → Prop) : F4 x0 x1 m Q = vFn cx Tryd.f4 A4 [.int .u64 (x0), .int .i64 (x1)] m Q := by kernel_rfl
theorem F4_ok {x0 : Int} {x1 : Int} {m : Mem} {Q : Value → Mem → Prop} (h : F4 x0 x1 m Q) : CallW cx 4 [.int .u64 (x0), .int .i64 (x1)] m Q :=
  CallW.of (by kernel_rfl) (by kernel_rfl) (Eq.mp (F4_eq x0 x1 m Q) h)

-- 5 beadle/beadlelaw3.MaskNths
noncomputable def A5 : Ann := [none, none, none, none, none, none, some ([3], [(4, .int .u64)]), none, some ([3], [(4, .int .u64), (5, .int .i64)]), some ([3, 4, 5], []), none, none, none, some ([3, 4, 5, 6], []), none, none, none, none]
def F5 (x0 : Int) (m : Mem) (Q : Value → Mem → Prop) : Prop :=
  (CallW cx 8 [] m fun r10 m1 => (∃ (b10 : Bool), r10 = (.bool (b10)) ∧ (splitB (!(b10))
  (Q (.bool (false)) m1)
  (joinK (fun (x4 : Int) (m2 : Mem) => (CallW cx 12 [.int .u64 (x0)] m2 fun r50 m3 => (∃ (x50 : Int), r50 = (.int .i64 (x50)) ∧ (CallW cx 14 [.int .u64 (x0), .int .i64 (x50)] m3 fun r51 m4 => (∃ (x51 : Int), (∃ (b51 : Bool), r51 = (.tuple #[.int .i64 (x51), .bool (b51)]) ∧ (splitB (eqI (x4) (x0)) (splitB (!(b51)) (CallW cx 12 [.int .u64 (x0)] m4 fun r63 m5 => (∃ (x63 : Int), r63 = (.int .i64 (x63)) ∧ (splitB (leI (0 : Int) (x63)) (CallW cx 12 [.int .u64 (x0)] m5 fun r68 m6 => (∃ (x68 : Int), r68 = (.int .i64 (x68)) ∧ (Q (.bool (leI (x68) (64 : Int))) m6))) (Q (.bool (false)) m5)))) (Q (.bool (false)) m4)) (Q (.bool (false)) m4)))))))) fun J =>
  (∃ Inv : Int → Int → Mem → Nat → Prop, (∃ n : Nat, Inv (0 : Int) (0 : Int) m1 n) ∧
  (∀ (x4_1 : Int) (x5 : Int), ∀ (m7 : Mem) (n_2 : Nat), Inv (x4_1) (x5) m7 n_2 →
  (joinK (fun  (m8 : Mem) => (CallW cx 14 [.int .u64 (x0), .int .i64 (x5)] m8 fun r26 m9 => (∃ (x26 : Int), (∃ (b26 : Bool), r26 = (.tuple #[.int .i64 (x26), .bool (b26)]) ∧ (joinK (fun  (m10 : Mem) => (CallW cx 9 [.int .u64 (x4_1), .int .i64 (x26)] m10 fun r46 m11 => (∃ (x46 : Int), r46 = (.int .u64 (x46)) ∧ (∃ n_5 : Nat, n_5 < n_2 ∧ Inv (x46) (addI .i64 (x5) (1 : Int)) m11 n_5)))) fun J_4 =>
  (splitB (!(b26)) (Q (.bool (false)) m9) (CallW cx 15 [.int .u64 (x0), .int .i64 (x26)] m9 fun r34 m12 => (∃ (x34 : Int), r34 = (.int .i64 (x34)) ∧ (splitB (neI (x34) (x5)) (Q (.bool (false)) m12) (CallW cx 11 [.int .u64 (x0), .int .i64 (x26)] m12 fun r41 m13 => (∃ (b41 : Bool), r41 = (.bool (b41)) ∧ (splitB (!(b41))
  (Q (.bool (false)) m13)
  (J_4  m13))))))))))))) fun J_3 =>
  (CallW cx 12 [.int .u64 (x0)] m7 fun r15 m14 => (∃ (x15 : Int), r15 = (.int .i64 (x15)) ∧ (splitB (ltI (x5) (x15)) (splitB (ltI (x5) (64 : Int))
  (J_3  m14)
  (J (x4_1) m14)) (J (x4_1) m14)))))))))))
theorem F5_eq (x0 : Int) (m : Mem) (Q : Value → Mem → Prop) : F5 x0 m Q = vFn cx Tryd.f5 A5 [.int .u64 (x0)] m Q := by kernel_rfl
theorem F5_ok {x0 : Int} {m : Mem} {Q : Value → Mem → Prop} (h : F5 x0 m Q) : CallW cx 5 [.int .u64 (x0)] m Q :=
  CallW.of (by kernel_rfl) (by kernel_rfl) (Eq.mp (F5_eq x0 m Q) h)

end
end Go.Proofs.YtlenjadchmlliaaDoor.vc
