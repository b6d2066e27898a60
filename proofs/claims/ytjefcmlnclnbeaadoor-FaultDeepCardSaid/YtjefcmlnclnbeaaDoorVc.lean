/-
  Formulas of the functions of package fault, of errors and of the laws: printed by a program (vcprint.py) out of the loaded code; Lean's kernel holds each against the code.
-/
import Derived.Test.YtjefcmlnclnbeaaDoorCx
import Derived.Test.YtjefcmlnclnbeaaDoorAxOpen
import Derived.KernelRfl
namespace Go.Proofs.YtjefcmlnclnbeaaDoor.vc
open Go Go.AX
set_option linter.unusedVariables false
set_option maxRecDepth 100000
noncomputable section

-- 59 (*beadle/fault.Fault).Unwrap
noncomputable def A59 : Ann := [none, none]
def F59 (p0 : Option Addr) (m : Mem) (Q : Value → Mem → Prop) : Prop :=
  (vPtr p0 fun bp0 op0 => (∃ (v6 : Value), rd m bp0 (op0 + 2) = some (v6) ∧ (Q (v6) m)))
theorem F59_eq (p0 : Option Addr) (m : Mem) (Q : Value → Mem → Prop) : F59 p0 m Q = vFn cx Tryd.f59 A59 [.pointer p0] m Q := by kernel_rfl
theorem F59_ok {p0 : Option Addr} {m : Mem} {Q : Value → Mem → Prop} (h : F59 p0 m Q) : CallW cx 59 [.pointer p0] m Q :=
  CallW.of (by kernel_rfl) (by kernel_rfl) (Eq.mp (F59_eq p0 m Q) h)

-- 47 internal/strconv.small
noncomputable def A47 : Ann := [none, none, none, none, none]
def F47 (x0 : Int) (m : Mem) (Q : Value → Mem → Prop) : Prop :=
  (splitB (ltI (x0) (10 : Int))
  (∃ s8 : ByteArray, sliceOp cx m 9 (.string (ByteArray.mk #[48, 49, 50, 51, 52, 53, 54, 55, 56, 57, 97, 98, 99, 100, 101, 102, 103, 104, 105, 106, 107, 108, 109, 110, 111, 112, 113, 114, 115, 116, 117, 118, 119, 120, 121, 122])) (some (.int .i64 (x0))) (some (.int .i64 (addI .i64 (x0) (1 : Int)))) none = some (.string s8) ∧ (Q (.string (s8)) m))
  (∃ s14 : ByteArray, sliceOp cx m 9 (.string (ByteArray.mk #[48, 48, 48, 49, 48, 50, 48, 51, 48, 52, 48, 53, 48, 54, 48, 55, 48, 56, 48, 57, 49, 48, 49, 49, 49, 50, 49, 51, 49, 52, 49, 53, 49, 54, 49, 55, 49, 56, 49, 57, 50, 48, 50, 49, 50, 50, 50, 51, 50, 52, 50, 53, 50, 54, 50, 55, 50, 56, 50, 57, 51, 48, 51, 49, 51, 50, 51, 51, 51, 52, 51, 53, 51, 54, 51, 55, 51, 56, 51, 57, 52, 48, 52, 49, 52, 50, 52, 51, 52, 52, 52, 53, 52, 54, 52, 55, 52, 56, 52, 57, 53, 48, 53, 49, 53, 50, 53, 51, 53, 52, 53, 53, 53, 54, 53, 55, 53, 56, 53, 57, 54, 48, 54, 49, 54, 50, 54, 51, 54, 52, 54, 53, 54, 54, 54, 55, 54, 56, 54, 57, 55, 48, 55, 49, 55, 50, 55, 51, 55, 52, 55, 53, 55, 54, 55, 55, 55, 56, 55, 57, 56, 48, 56, 49, 56, 50, 56, 51, 56, 52, 56, 53, 56, 54, 56, 55, 56, 56, 56, 57, 57, 48, 57, 49, 57, 50, 57, 51, 57, 52, 57, 53, 57, 54, 57, 55, 57, 56, 57, 57])) (some (.int .i64 (mulI .i64 (x0) (2 : Int)))) (some (.int .i64 (addI .i64 (mulI .i64 (x0) (2 : Int)) (2 : Int)))) none = some (.string s14) ∧ (Q (.string (s14)) m)))
theorem F47_eq (x0 : Int) (m : Mem) (Q : Value → Mem → Prop) : F47 x0 m Q = vFn cx Tryd.f47 A47 [.int .i64 (x0)] m Q := by kernel_rfl
theorem F47_ok {x0 : Int} {m : Mem} {Q : Value → Mem → Prop} (h : F47 x0 m Q) : CallW cx 47 [.int .i64 (x0)] m Q :=
  CallW.of (by kernel_rfl) (by kernel_rfl) (Eq.mp (F47_eq x0 m Q) h)

-- 46 internal/strconv.FormatInt
noncomputable def A46 : Ann := [none, none, none, none, some ([0], [(17, .bool)]), none, none, none, some ([0, 5], [(6, .int .u64)]), none, none, none, none, none, none, none, none, none, none]
def F46 (x0 : Int) (x1 : Int) (m : Mem) (Q : Value → Mem → Prop) : Prop :=
  (splitB (eqI (x1) (10 : Int))
  (joinK (fun (b17 : Bool) (m1 : Mem) => (splitB (b17)
  (CallW cx 47 [.int .i64 (x0)] m1 fun r19 m2 => (∃ (s19 : ByteArray), r19 = (.string (s19)) ∧ (Q (.string (s19)) m2)))
  (mBind (newO m1 (row [.int .u8 (0 : Int), .int .u8 (0 : Int), .int .u8 (0 : Int), .int .u8 (0 : Int), .int .u8 (0 : Int), .int .u8 (0 : Int), .int .u8 (0 : Int), .int .u8 (0 : Int), .int .u8 (0 : Int), .int .u8 (0 : Int), .int .u8 (0 : Int), .int .u8 (0 : Int), .int .u8 (0 : Int), .int .u8 (0 : Int), .int .u8 (0 : Int), .int .u8 (0 : Int), .int .u8 (0 : Int), .int .u8 (0 : Int), .int .u8 (0 : Int), .int .u8 (0 : Int), .int .u8 (0 : Int), .int .u8 (0 : Int), .int .u8 (0 : Int), .int .u8 (0 : Int)] 97 false)) fun m3 => (joinK (fun (x6 : Int) (m4 : Mem) => (CallW cx 48 [.int .u64 (x6)] m4 fun r27 m5 => (∃ (x27 : Int), r27 = (.int .i64 (x27)) ∧ (∃ (a30 : Option Addr) (n30 c30 : Nat), sliceOp cx m5 97 (.pointer (some ⟨m1.nx, 0, none⟩)) (some (.int .i64 (1 : Int))) (some (.int .i64 (addI .i64 (1 : Int) (x27)))) none = some (.slice a30 (n30) (c30)) ∧ (CallW cx 49 [.slice a30 (n30) (c30), .int .u64 (x6)] m5 fun r32 m6 => r32 = (.tuple #[]) ∧ (splitB (ltI (x0) (0 : Int))
  ((0 ≤ (0 : Int) ∧ (0 : Int) < ((24 : Nat) : Int)) ∧ (okW m6 m1.nx (0 + Int.toNat (0 : Int) * 1) 1 ∧ (mBind (wr m6 m1.nx (0 + Int.toNat (0 : Int) * 1) [.int .u8 (45 : Int)]) fun m7 => (∃ (a38 : Option Addr) (n38 c38 : Nat), sliceOp cx m7 97 (.pointer (some ⟨m1.nx, 0, none⟩)) none (some (.int .i64 (addI .i64 (1 : Int) (x27)))) none = some (.slice a38 (n38) (c38)) ∧ (∃ s39 : ByteArray, convertA cx m7 101 9 (.slice a38 (n38) (c38)) = some (.string s39) ∧ (Q (.string (s39)) m7))))))
  (∃ (a42 : Option Addr) (n42 c42 : Nat), sliceOp cx m6 97 (.pointer (some ⟨m1.nx, 0, none⟩)) (some (.int .i64 (1 : Int))) (some (.int .i64 (addI .i64 (1 : Int) (x27)))) none = some (.slice a42 (n42) (c42)) ∧ (∃ s43 : ByteArray, convertA cx m6 101 9 (.slice a42 (n42) (c42)) = some (.string s43) ∧ (Q (.string (s43)) m6))))))))) fun J_1 =>
  (splitB (ltI (x0) (0 : Int))
  (J_1 (subI .u64 0 (cvI .u64 (x0))) m3)
  (J_1 (cvI .u64 (x0)) m3)))))) fun J =>
  (splitB (leI (0 : Int) (x0)) (J (ltI (x0) (100 : Int)) m) (J (false) m)))
  (CallW cx 50 [.slice none (0) (0), .int .u64 (cvI .u64 (x0)), .int .i64 (x1), .bool (ltI (x0) (0 : Int)), .bool (false)] m fun r50 m8 => (∃ (a50 : Option Addr) (n50 c50 : Nat), (∃ (s50 : ByteArray), r50 = (.tuple #[.slice a50 (n50) (c50), .string (s50)]) ∧ (Q (.string (s50)) m8)))))
theorem F46_eq (x0 : Int) (x1 : Int) (m : Mem) (Q : Value → Mem → Prop) : F46 x0 x1 m Q = vFn cx Tryd.f46 A46 [.int .i64 (x0), .int .i64 (x1)] m Q := by kernel_rfl
theorem F46_ok {x0 : Int} {x1 : Int} {m : Mem} {Q : Value → Mem → Prop} (h : F46 x0 x1 m Q) : CallW cx 46 [.int .i64 (x0), .int .i64 (x1)] m Q :=
  CallW.of (by kernel_rfl) (by kernel_rfl) (Eq.mp (F46_eq x0 x1 m Q) h)

-- 45 internal/strconv.Itoa
noncomputable def A45 : Ann := [none, none]
def F45 (x0 : Int) (m : Mem) (Q : Value → Mem → Prop) : Prop :=
  (CallW cx 46 [.int .i64 (x0), .int .i64 (10 : Int)] m fun r4 m1 => (∃ (s4 : ByteArray), r4 = (.string (s4)) ∧ (Q (.string (s4)) m1)))
theorem F45_eq (x0 : Int) (m : Mem) (Q : Value → Mem → Prop) : F45 x0 m Q = vFn cx Tryd.f45 A45 [.int .i64 (x0)] m Q := by kernel_rfl
theorem F45_ok {x0 : Int} {m : Mem} {Q : Value → Mem → Prop} (h : F45 x0 m Q) : CallW cx 45 [.int .i64 (x0)] m Q :=
  CallW.of (by kernel_rfl) (by kernel_rfl) (Eq.mp (F45_eq x0 m Q) h)

-- 44 strconv.Itoa
noncomputable def A44 : Ann := [none, none]
def F44 (x0 : Int) (m : Mem) (Q : Value → Mem → Prop) : Prop :=
  (CallW cx 45 [.int .i64 (x0)] m fun r4 m1 => (∃ (s4 : ByteArray), r4 = (.string (s4)) ∧ (Q (.string (s4)) m1)))
theorem F44_eq (x0 : Int) (m : Mem) (Q : Value → Mem → Prop) : F44 x0 m Q = vFn cx Tryd.f44 A44 [.int .i64 (x0)] m Q := by kernel_rfl
theorem F44_ok {x0 : Int} {m : Mem} {Q : Value → Mem → Prop} (h : F44 x0 m Q) : CallW cx 44 [.int .i64 (x0)] m Q :=
  CallW.of (by kernel_rfl) (by kernel_rfl) (Eq.mp (F44_eq x0 m Q) h)

-- 43 (beadle/api.Errno).Error
noncomputable def A43 : Ann := [none, none]
def F43 (x0 : Int) (m : Mem) (Q : Value → Mem → Prop) : Prop :=
  (CallW cx 44 [.int .i64 (x0)] m fun r4 m1 => (∃ (s4 : ByteArray), r4 = (.string (s4)) ∧ (lenS (ByteArray.mk #[101, 114, 114, 111, 114, 32]) + lenS (s4) ≤ 140737488355328 ∧ (Q (.string (catS (ByteArray.mk #[101, 114, 114, 111, 114, 32]) (s4))) m1))))
theorem F43_eq (x0 : Int) (m : Mem) (Q : Value → Mem → Prop) : F43 x0 m Q = vFn cx Tryd.f43 A43 [.int .i64 (x0)] m Q := by kernel_rfl
theorem F43_ok {x0 : Int} {m : Mem} {Q : Value → Mem → Prop} (h : F43 x0 m Q) : CallW cx 43 [.int .i64 (x0)] m Q :=
  CallW.of (by kernel_rfl) (by kernel_rfl) (Eq.mp (F43_eq x0 m Q) h)

-- 7 beadle/fault.Wrap
noncomputable def A7 : Ann := [none, none, none, none, none]
def F7 (s0 : ByteArray) (x1 : Int) (v2 : Value) (m : Mem) (Q : Value → Mem → Prop) : Prop :=
  (∃ r : Bool, eqV cx m 40 24 (v2) (.nilIface) = some r ∧ (splitB (r)
  (Q (.nilIface) m)
  (vOne v2 (mBind (newO m (row [.string (s0), .int .i64 (x1), v2] 36 false)) fun m1 => (Q (.iface 31 (.pointer (some ⟨m.nx, 0, none⟩))) m1)))))
theorem F7_eq (s0 : ByteArray) (x1 : Int) (v2 : Value) (m : Mem) (Q : Value → Mem → Prop) : F7 s0 x1 v2 m Q = vFn cx Tryd.f7 A7 [.string (s0), .int .i64 (x1), v2] m Q := by kernel_rfl
theorem F7_ok {s0 : ByteArray} {x1 : Int} {v2 : Value} {m : Mem} {Q : Value → Mem → Prop} (h : F7 s0 x1 v2 m Q) : CallW cx 7 [.string (s0), .int .i64 (x1), v2] m Q :=
  CallW.of (by kernel_rfl) (by kernel_rfl) (Eq.mp (F7_eq s0 x1 v2 m Q) h)

-- 8 beadle/fault.New
noncomputable def A8 : Ann := [none, none, none, none, none]
def F8 (s0 : ByteArray) (x1 : Int) (x2 : Int) (m : Mem) (Q : Value → Mem → Prop) : Prop :=
  (splitB (eqI (x2) (0 : Int))
  (Q (.nilIface) m)
  (mBind (newO m (row [.string (s0), .int .i64 (x1), .iface 27 (.int .i64 (x2))] 36 false)) fun m1 => (Q (.iface 31 (.pointer (some ⟨m.nx, 0, none⟩))) m1)))
theorem F8_eq (s0 : ByteArray) (x1 : Int) (x2 : Int) (m : Mem) (Q : Value → Mem → Prop) : F8 s0 x1 x2 m Q = vFn cx Tryd.f8 A8 [.string (s0), .int .i64 (x1), .int .i64 (x2)] m Q := by kernel_rfl
theorem F8_ok {s0 : ByteArray} {x1 : Int} {x2 : Int} {m : Mem} {Q : Value → Mem → Prop} (h : F8 s0 x1 x2 m Q) : CallW cx 8 [.string (s0), .int .i64 (x1), .int .i64 (x2)] m Q :=
  CallW.of (by kernel_rfl) (by kernel_rfl) (Eq.mp (F8_eq s0 x1 x2 m Q) h)

-- 9 errors.Is
noncomputable def A9 : Ann := [none, none, some ([0, 1], [(11, .bool)]), none, none, none]
def F9 (v0 : Value) (v1 : Value) (m : Mem) (Q : Value → Mem → Prop) : Prop :=
  (joinK (fun (b11 : Bool) (m1 : Mem) => (splitB (b11)
  ((((v0) : Value) = .nilIface → ((v1) : Value) = .nilIface → False) ∧ (∃ r : Bool, eqV cx m1 40 24 (v0) (v1) = some r ∧ (Q (.bool (r)) m1)))
  (CallW cx 17 [v1] m1 fun r16 m2 => (∃ (v16 : Value), r16 = (v16) ∧ (vInvoke cx m2 (v16) "Comparable" [] fun r17 m3 => (∃ (b17 : Bool), r17 = (.bool (b17)) ∧ (CallW cx 18 [v0, v1, .bool (b17)] m3 fun r21 m4 => (∃ (b21 : Bool), r21 = (.bool (b21)) ∧ (Q (.bool (b21)) m4))))))))) fun J =>
  (∃ r_1 : Bool, eqV cx m 40 24 (v0) (.nilIface) = some r_1 ∧ (splitB (r_1) (J (true) m) (∃ r_2 : Bool, eqV cx m 40 24 (v1) (.nilIface) = some r_2 ∧ (J (r_2) m)))))
theorem F9_eq (v0 : Value) (v1 : Value) (m : Mem) (Q : Value → Mem → Prop) : F9 v0 v1 m Q = vFn cx Tryd.f9 A9 [v0, v1] m Q := by kernel_rfl
theorem F9_ok {v0 : Value} {v1 : Value} {m : Mem} {Q : Value → Mem → Prop} (h : F9 v0 v1 m Q) : CallW cx 9 [v0, v1] m Q :=
  CallW.of (by kernel_rfl) (by kernel_rfl) (Eq.mp (F9_eq v0 v1 m Q) h)

-- 18 errors.is
noncomputable def A18 : Ann := [none, some ([1, 2], [(0, .any)]), some ([0, 1, 2], []), none, none, some ([0, 1, 2], []), none, none, none, none, none, none, none, none, none, none, none, none, none, some ([1, 2, 43, 44], [(45, .int .i64)]), none, none, none, none, none, none, none, none, none]
def F18 (v0 : Value) (v1 : Value) (b2 : Bool) (m : Mem) (Q : Value → Mem → Prop) : Prop :=
  (∃ Inv : Value → Mem → Nat → Prop, (∃ n : Nat, Inv (v0) m n) ∧
  (∀ (v0_1 : Value), ∀ (m1 : Mem) (n_2 : Nat), Inv (v0_1) m1 n_2 →
  (joinK (fun  (m2 : Mem) => (joinK (fun  (m3 : Mem) => (∃ (v32 : Value), (∃ k32 : Bool, assertA cx (v0_1) 24 61 true = some (.tuple #[v32, .bool (k32)]) ∧ (splitB (k32)
  (vInvoke cx m3 (v32) "Unwrap" [] fun r36 m4 => (∃ (v36 : Value), r36 = (v36) ∧ (∃ r : Bool, eqV cx m4 40 24 (v36) (.nilIface) = some r ∧ (splitB (r)
  (Q (.bool (false)) m4)
  (∃ n_4 : Nat, n_4 < n_2 ∧ Inv (v36) m4 n_4)))))
  (∃ (v39 : Value), (∃ k39 : Bool, assertA cx (v0_1) 24 72 true = some (.tuple #[v39, .bool (k39)]) ∧ (splitB (k39)
  (vInvoke cx m3 (v39) "Unwrap" [] fun r43 m5 => (∃ (a43 : Option Addr) (n43 c43 : Nat), r43 = (.slice a43 (n43) (c43)) ∧ (∃ Inv_5 : Int → Mem → Nat → Prop, (∃ n_6 : Nat, Inv_5 (0 : Int) m5 n_6) ∧
  (∀ (x45 : Int), ∀ (m6 : Mem) (n_7 : Nat), Inv_5 (x45) m6 n_7 →
  (splitB (ltI (x45) (lenI (n43)))
  ((0 ≤ (x45) ∧ (x45) < ((n43 : Nat) : Int)) ∧ (vPtr a43 fun ba43 oa43 => (∃ (v48 : Value), rd m6 ba43 (oa43 + Int.toNat (x45) * 1) = some (v48) ∧ (CallW cx 18 [v48, v1, .bool (b2)] m6 fun r52 m7 => (∃ (b52 : Bool), r52 = (.bool (b52)) ∧ (splitB (b52)
  (Q (.bool (true)) m7)
  (∃ n_8 : Nat, n_8 < n_7 ∧ Inv_5 (addI .i64 (x45) (1 : Int)) m7 n_8)))))))
  (Q (.bool (false)) m6))))))
  (Q (.bool (false)) m3)))))))) fun J_3 =>
  (∃ (v22 : Value), (∃ k22 : Bool, assertA cx (v0_1) 24 69 true = some (.tuple #[v22, .bool (k22)]) ∧ (splitB (k22) (vInvoke cx m2 (v22) "Is" [v1] fun r29 m8 => (∃ (b29 : Bool), r29 = (.bool (b29)) ∧ (splitB (b29)
  (Q (.bool (true)) m8)
  (J_3  m8)))) (J_3  m2)))))) fun J =>
  (splitB (b2) ((((v0_1) : Value) = .nilIface → ((v1) : Value) = .nilIface → False) ∧ (∃ r_9 : Bool, eqV cx m1 40 24 (v0_1) (v1) = some r_9 ∧ (splitB (r_9)
  (Q (.bool (true)) m1)
  (J  m1)))) (J  m1)))))
theorem F18_eq (v0 : Value) (v1 : Value) (b2 : Bool) (m : Mem) (Q : Value → Mem → Prop) : F18 v0 v1 b2 m Q = vFn cx Tryd.f18 A18 [v0, v1, .bool (b2)] m Q := by kernel_rfl
theorem F18_ok {v0 : Value} {v1 : Value} {b2 : Bool} {m : Mem} {Q : Value → Mem → Prop} (h : F18 v0 v1 b2 m Q) : CallW cx 18 [v0, v1, .bool (b2)] m Q :=
  CallW.of (by kernel_rfl) (by kernel_rfl) (Eq.mp (F18_eq v0 v1 b2 m Q) h)

-- 12 errors.Unwrap
noncomputable def A12 : Ann := [none, none, none, none, none, none]
def F12 (v0 : Value) (m : Mem) (Q : Value → Mem → Prop) : Prop :=
  (∃ (v7 : Value), (∃ k7 : Bool, assertA cx (v0) 24 61 true = some (.tuple #[v7, .bool (k7)]) ∧ (splitB (!(k7))
  (Q (.nilIface) m)
  (vInvoke cx m (v7) "Unwrap" [] fun r13 m1 => (∃ (v13 : Value), r13 = (v13) ∧ (Q (v13) m1))))))
theorem F12_eq (v0 : Value) (m : Mem) (Q : Value → Mem → Prop) : F12 v0 m Q = vFn cx Tryd.f12 A12 [v0] m Q := by kernel_rfl
theorem F12_ok {v0 : Value} {m : Mem} {Q : Value → Mem → Prop} (h : F12 v0 m Q) : CallW cx 12 [v0] m Q :=
  CallW.of (by kernel_rfl) (by kernel_rfl) (Eq.mp (F12_eq v0 m Q) h)

-- 11 errors.As
noncomputable def A11 : Ann := [none, none, none, none, some ([0, 1], []), none, none, none, some ([0, 1, 5, 6], []), none, none, some ([0, 1, 5, 7], []), none, none]
def F11 (v0 : Value) (v1 : Value) (m : Mem) (Q : Value → Mem → Prop) : Prop :=
  (∃ r : Bool, eqV cx m 40 24 (v0) (.nilIface) = some r ∧ (splitB (r)
  (Q (.bool (false)) m)
  (joinK (fun  (m1 : Mem) => (CallW cx 19 [v1] m1 fun r14 m2 => (∃ l14 : List Value, l14.length = 3 ∧ r14 = (.agg (List.toArray l14)) ∧ (mBind (newO m2 (row [.pointer none, .pointer none, .int .u64 (0 : Int)] 54 false)) fun m3 => (okL l14 3 (okW m3 m2.nx (0) 3 ∧ (mBind (wr m3 m2.nx (0) l14) fun m4 => (∃ l15 : List Value, rowAtL m4 ⟨m2.nx, 0, none⟩ 3 = some l15 ∧ (CallW cx 20 [.agg (List.toArray l15)] m4 fun r16 m5 => (∃ (v16 : Value), r16 = (v16) ∧ (joinK (fun  (m6 : Mem) => (vInvoke cx m6 (v16) "Elem" [] fun r26 m7 => (∃ (v26 : Value), r26 = (v26) ∧ (joinK (fun  (m8 : Mem) => (∃ l39 : List Value, rowAtL m8 ⟨m2.nx, 0, none⟩ 3 = some l39 ∧ (CallW cx 22 [v0, v1, .agg (List.toArray l39), v26] m8 fun r41 m9 => (∃ (b41 : Bool), r41 = (.bool (b41)) ∧ (Q (.bool (b41)) m9))))) fun J_2 =>
  (vInvoke cx m7 (v26) "Kind" [] fun r28 m10 => (∃ (x28 : Int), r28 = (.int .u8 (x28)) ∧ (splitB (neI (x28) (20 : Int)) (∃ (v32 : Value), rd m10 0 (0) = some (v32) ∧ (vInvoke cx m10 (v26) "Implements" [v32] fun r33 m11 => (∃ (b33 : Bool), r33 = (.bool (b33)) ∧ (splitB (!(b33))
  False
  (J_2  m11))))) (J_2  m10)))))))) fun J_1 =>
  (vInvoke cx m5 (v16) "Kind" [] fun r18 m12 => (∃ (x18 : Int), r18 = (.int .u8 (x18)) ∧ (splitB (neI (x18) (22 : Int)) False (∃ l21 : List Value, rowAtL m12 ⟨m2.nx, 0, none⟩ 3 = some l21 ∧ (CallW cx 21 [.agg (List.toArray l21)] m12 fun r22 m13 => (∃ (b22 : Bool), r22 = (.bool (b22)) ∧ (splitB (b22)
  False
  (J_1  m13))))))))))))))))))) fun J =>
  (∃ r_3 : Bool, eqV cx m 40 20 (v1) (.nilIface) = some r_3 ∧ (splitB (r_3)
  False
  (J  m))))))
theorem F11_eq (v0 : Value) (v1 : Value) (m : Mem) (Q : Value → Mem → Prop) : F11 v0 v1 m Q = vFn cx Tryd.f11 A11 [v0, v1] m Q := by kernel_rfl
theorem F11_ok {v0 : Value} {v1 : Value} {m : Mem} {Q : Value → Mem → Prop} (h : F11 v0 v1 m Q) : CallW cx 11 [v0, v1] m Q :=
  CallW.of (by kernel_rfl) (by kernel_rfl) (Eq.mp (F11_eq v0 v1 m Q) h)

-- 22 errors.as
noncomputable def A22 : Ann := [none, some ([1, 3, 6], [(0, .any)]), none, none, none, none, some ([0, 1, 3, 6], []), none, none, none, none, none, none, none, none, none, none, none, none, none, some ([1, 3, 6, 48, 49], [(50, .int .i64)]), none, none, none, none, none, none, none, none, none, none, none]
def F22 (v0 : Value) (v1 : Value) (l2 : List Value) (v3 : Value) (m : Mem) (Q : Value → Mem → Prop) : Prop :=
  (mBind (newO m (row l2 54 false)) fun m1 => (∃ Inv : Value → Mem → Nat → Prop, (∃ n : Nat, Inv (v0) m1 n) ∧
  (∀ (v0_1 : Value), ∀ (m2 : Mem) (n_2 : Nat), Inv (v0_1) m2 n_2 →
  (CallW cx 17 [v0_1] m2 fun r17 m3 => (∃ (v17 : Value), r17 = (v17) ∧ (vInvoke cx m3 (v17) "AssignableTo" [v3] fun r19 m4 => (∃ (b19 : Bool), r19 = (.bool (b19)) ∧ (splitB (b19)
  (∃ l20 : List Value, rowAtL m4 ⟨m.nx, 0, none⟩ 3 = some l20 ∧ (CallW cx 24 [.agg (List.toArray l20)] m4 fun r21 m5 => (∃ l21 : List Value, l21.length = 3 ∧ r21 = (.agg (List.toArray l21)) ∧ (CallW cx 19 [v0_1] m5 fun r23 m6 => (∃ l23 : List Value, l23.length = 3 ∧ r23 = (.agg (List.toArray l23)) ∧ (CallW cx 25 [.agg (List.toArray l21), .agg (List.toArray l23)] m6 fun r24 m7 => r24 = (.tuple #[]) ∧ (Q (.bool (true)) m7)))))))
  (joinK (fun  (m8 : Mem) => (∃ (v37 : Value), (∃ k37 : Bool, assertA cx (v0_1) 24 61 true = some (.tuple #[v37, .bool (k37)]) ∧ (splitB (k37)
  (vInvoke cx m8 (v37) "Unwrap" [] fun r41 m9 => (∃ (v41 : Value), r41 = (v41) ∧ (∃ r : Bool, eqV cx m9 40 24 (v41) (.nilIface) = some r ∧ (splitB (r)
  (Q (.bool (false)) m9)
  (∃ n_3 : Nat, n_3 < n_2 ∧ Inv (v41) m9 n_3)))))
  (∃ (v44 : Value), (∃ k44 : Bool, assertA cx (v0_1) 24 72 true = some (.tuple #[v44, .bool (k44)]) ∧ (splitB (k44)
  (vInvoke cx m8 (v44) "Unwrap" [] fun r48 m10 => (∃ (a48 : Option Addr) (n48 c48 : Nat), r48 = (.slice a48 (n48) (c48)) ∧ (∃ Inv_4 : Int → Mem → Nat → Prop, (∃ n_5 : Nat, Inv_4 (0 : Int) m10 n_5) ∧
  (∀ (x50 : Int), ∀ (m11 : Mem) (n_6 : Nat), Inv_4 (x50) m11 n_6 →
  (splitB (ltI (x50) (lenI (n48)))
  ((0 ≤ (x50) ∧ (x50) < ((n48 : Nat) : Int)) ∧ (vPtr a48 fun ba48 oa48 => (∃ (v53 : Value), rd m11 ba48 (oa48 + Int.toNat (x50) * 1) = some (v53) ∧ (∃ r_7 : Bool, eqV cx m11 40 24 (v53) (.nilIface) = some r_7 ∧ (splitB (r_7)
  (∃ n_8 : Nat, n_8 < n_6 ∧ Inv_4 (addI .i64 (x50) (1 : Int)) m11 n_8)
  (∃ l58 : List Value, rowAtL m11 ⟨m.nx, 0, none⟩ 3 = some l58 ∧ (CallW cx 22 [v53, v1, .agg (List.toArray l58), v3] m11 fun r60 m12 => (∃ (b60 : Bool), r60 = (.bool (b60)) ∧ (splitB (b60)
  (Q (.bool (true)) m12)
  (∃ n_9 : Nat, n_9 < n_6 ∧ Inv_4 (addI .i64 (x50) (1 : Int)) m12 n_9))))))))))
  (Q (.bool (false)) m11))))))
  (Q (.bool (false)) m8)))))))) fun J =>
  (∃ (v27 : Value), (∃ k27 : Bool, assertA cx (v0_1) 24 77 true = some (.tuple #[v27, .bool (k27)]) ∧ (splitB (k27) (vInvoke cx m4 (v27) "As" [v1] fun r34 m13 => (∃ (b34 : Bool), r34 = (.bool (b34)) ∧ (splitB (b34)
  (Q (.bool (true)) m13)
  (J  m13)))) (J  m4)))))))))))))
theorem F22_eq (v0 : Value) (v1 : Value) (l2 : List Value) (v3 : Value) (m : Mem) (Q : Value → Mem → Prop) : F22 v0 v1 l2 v3 m Q = vFn cx Tryd.f22 A22 [v0, v1, .agg (List.toArray l2), v3] m Q := by kernel_rfl
theorem F22_ok {v0 : Value} {v1 : Value} {l2 : List Value} {v3 : Value} {m : Mem} {Q : Value → Mem → Prop} (h : F22 v0 v1 l2 v3 m Q) : CallW cx 22 [v0, v1, .agg (List.toArray l2), v3] m Q :=
  CallW.of (by kernel_rfl) (by kernel_rfl) (Eq.mp (F22_eq v0 v1 l2 v3 m Q) h)

-- 10 beadle/fault.Code
noncomputable def A10 : Ann := [none, none, none, none, none, none, none, none]
def F10 (v0 : Value) (m : Mem) (Q : Value → Mem → Prop) : Prop :=
  (mBind (newO m (row [.int .i64 (0 : Int)] 27 false)) fun m1 => (∃ r : Bool, eqV cx m1 40 24 (v0) (.nilIface) = some r ∧ (splitB (r)
  (Q (.int .i64 (0 : Int)) m1)
  (CallW cx 11 [v0, .iface 50 (.pointer (some ⟨m.nx, 0, none⟩))] m1 fun r10 m2 => (∃ (b10 : Bool), r10 = (.bool (b10)) ∧ (splitB (b10)
  (∃ (x11 : Int), rd m2 m.nx (0) = some (.int .i64 (x11)) ∧ (Q (.int .i64 (x11)) m2))
  (Q (.int .i64 (1 : Int)) m2)))))))
theorem F10_eq (v0 : Value) (m : Mem) (Q : Value → Mem → Prop) : F10 v0 m Q = vFn cx Tryd.f10 A10 [v0] m Q := by kernel_rfl
theorem F10_ok {v0 : Value} {m : Mem} {Q : Value → Mem → Prop} (h : F10 v0 m Q) : CallW cx 10 [v0] m Q :=
  CallW.of (by kernel_rfl) (by kernel_rfl) (Eq.mp (F10_eq v0 m Q) h)

-- 23 beadle/fault.all
noncomputable def A23 : Ann := [none, none, none, none, some ([4], [(0, .any), (3, .sl)]), none, none, none, none]
def F23 (v0 : Value) (m : Mem) (Q : Value → Mem → Prop) : Prop :=
  (mBind (newO m (row [.pointer none] 31 false)) fun m1 => (∃ Inv : Value → Option Addr → Nat → Nat → Mem → Nat → Prop, (∃ n : Nat, Inv (v0) none (0) (0) m1 n) ∧
  (∀ (v0_1 : Value) (a3 : Option Addr) (n3 c3 : Nat), ∀ (m2 : Mem) (n_2 : Nat), Inv (v0_1) a3 (n3) (c3) m2 n_2 →
  (CallW cx 11 [v0_1, .iface 33 (.pointer (some ⟨m.nx, 0, none⟩))] m2 fun r7 m3 => (∃ (b7 : Bool), r7 = (.bool (b7)) ∧ (splitB (b7)
  (∃ (p9 : Option Addr), rd m3 m.nx (0) = some (.pointer p9) ∧ (mBind (newO m3 (row [.pointer p9] 31 false)) fun m4 => (∃ (a11 : Option Addr) (n11 c11 : Nat) (m5 : Mem), appendA cx m4 [64, 64] [.slice a3 (n3) (c3), .slice (some ⟨m3.nx, 0, none⟩) (1) (1)] = some (.slice a11 (n11) (c11), m5) ∧ (∃ (p12 : Option Addr), rd m5 m.nx (0) = some (.pointer p12) ∧ (vPtr p12 fun bp12 op12 => (∃ (v15 : Value), rd m5 bp12 (op12 + 2) = some (v15) ∧ (∃ n_3 : Nat, n_3 < n_2 ∧ Inv (v15) a11 (n11) (c11) m5 n_3)))))))
  (Q (.slice a3 (n3) (c3)) m3)))))))
theorem F23_eq (v0 : Value) (m : Mem) (Q : Value → Mem → Prop) : F23 v0 m Q = vFn cx Tryd.f23 A23 [v0] m Q := by kernel_rfl
theorem F23_ok {v0 : Value} {m : Mem} {Q : Value → Mem → Prop} (h : F23 v0 m Q) : CallW cx 23 [v0] m Q :=
  CallW.of (by kernel_rfl) (by kernel_rfl) (Eq.mp (F23_eq v0 m Q) h)

-- 13 beadle/fault.Deep
noncomputable def A13 : Ann := [none, none]
def F13 (v0 : Value) (m : Mem) (Q : Value → Mem → Prop) : Prop :=
  (CallW cx 23 [v0] m fun r4 m1 => (∃ (a4 : Option Addr) (n4 c4 : Nat), r4 = (.slice a4 (n4) (c4)) ∧ (Q (.int .i64 (lenI (n4))) m1)))
theorem F13_eq (v0 : Value) (m : Mem) (Q : Value → Mem → Prop) : F13 v0 m Q = vFn cx Tryd.f13 A13 [v0] m Q := by kernel_rfl
theorem F13_ok {v0 : Value} {m : Mem} {Q : Value → Mem → Prop} (h : F13 v0 m Q) : CallW cx 13 [v0] m Q :=
  CallW.of (by kernel_rfl) (by kernel_rfl) (Eq.mp (F13_eq v0 m Q) h)

-- 14 beadle/fault.Ops
noncomputable def A14 : Ann := [none, none, none, none, some ([7, 8], [(3, .sl), (9, .int .i64)]), none, none, none, none, none]
def F14 (v0 : Value) (m : Mem) (Q : Value → Mem → Prop) : Prop :=
  (CallW cx 23 [v0] m fun r7 m1 => (∃ (a7 : Option Addr) (n7 c7 : Nat), r7 = (.slice a7 (n7) (c7)) ∧ (∃ Inv : Option Addr → Nat → Nat → Int → Mem → Nat → Prop, (∃ n : Nat, Inv none (0) (0) (0 : Int) m1 n) ∧
  (∀ (a3 : Option Addr) (n3 c3 : Nat) (x9 : Int), ∀ (m2 : Mem) (n_1 : Nat), Inv a3 (n3) (c3) (x9) m2 n_1 →
  (splitB (ltI (x9) (lenI (n7)))
  ((0 ≤ (x9) ∧ (x9) < ((n7 : Nat) : Int)) ∧ (vPtr a7 fun ba7 oa7 => (∃ (p12 : Option Addr), rd m2 ba7 (oa7 + Int.toNat (x9) * 1) = some (.pointer p12) ∧ (vPtr p12 fun bp12 op12 => (∃ (s17 : ByteArray), rd m2 bp12 (op12) = some (.string (s17)) ∧ (mBind (newO m2 (row [.string (s17)] 9 false)) fun m3 => (∃ (a19 : Option Addr) (n19 c19 : Nat) (m4 : Mem), appendA cx m3 [39, 39] [.slice a3 (n3) (c3), .slice (some ⟨m2.nx, 0, none⟩) (1) (1)] = some (.slice a19 (n19) (c19), m4) ∧ (∃ n_2 : Nat, n_2 < n_1 ∧ Inv a19 (n19) (c19) (addI .i64 (x9) (1 : Int)) m4 n_2))))))))
  (Q (.slice a3 (n3) (c3)) m2))))))
theorem F14_eq (v0 : Value) (m : Mem) (Q : Value → Mem → Prop) : F14 v0 m Q = vFn cx Tryd.f14 A14 [v0] m Q := by kernel_rfl
theorem F14_ok {v0 : Value} {m : Mem} {Q : Value → Mem → Prop} (h : F14 v0 m Q) : CallW cx 14 [v0] m Q :=
  CallW.of (by kernel_rfl) (by kernel_rfl) (Eq.mp (F14_eq v0 m Q) h)

-- 15 beadle/fault.Who
noncomputable def A15 : Ann := [none, none, none, some ([1, 9, 10], [(11, .int .i64)]), none, none, none, none, none, none, none]
def F15 (v0 : Value) (s1 : ByteArray) (m : Mem) (Q : Value → Mem → Prop) : Prop :=
  (CallW cx 23 [v0] m fun r9 m1 => (∃ (a9 : Option Addr) (n9 c9 : Nat), r9 = (.slice a9 (n9) (c9)) ∧ (∃ Inv : Int → Mem → Nat → Prop, (∃ n : Nat, Inv (0 : Int) m1 n) ∧
  (∀ (x11 : Int), ∀ (m2 : Mem) (n_1 : Nat), Inv (x11) m2 n_1 →
  (splitB (ltI (x11) (lenI (n9)))
  ((0 ≤ (x11) ∧ (x11) < ((n9 : Nat) : Int)) ∧ (vPtr a9 fun ba9 oa9 => (∃ (p14 : Option Addr), rd m2 ba9 (oa9 + Int.toNat (x11) * 1) = some (.pointer p14) ∧ (vPtr p14 fun bp14 op14 => (∃ (s18 : ByteArray), rd m2 bp14 (op14) = some (.string (s18)) ∧ (splitB (eqS (s18) (s1))
  (vPtr p14 fun bp14_2 op14_3 => (∃ (x24 : Int), rd m2 bp14_2 (op14_3 + 1) = some (.int .i64 (x24)) ∧ (Q (.tuple #[.int .i64 (x24), .bool (true)]) m2)))
  (∃ n_4 : Nat, n_4 < n_1 ∧ Inv (addI .i64 (x11) (1 : Int)) m2 n_4)))))))
  (Q (.tuple #[.int .i64 (0 : Int), .bool (false)]) m2))))))
theorem F15_eq (v0 : Value) (s1 : ByteArray) (m : Mem) (Q : Value → Mem → Prop) : F15 v0 s1 m Q = vFn cx Tryd.f15 A15 [v0, .string (s1)] m Q := by kernel_rfl
theorem F15_ok {v0 : Value} {s1 : ByteArray} {m : Mem} {Q : Value → Mem → Prop} (h : F15 v0 s1 m Q) : CallW cx 15 [v0, .string (s1)] m Q :=
  CallW.of (by kernel_rfl) (by kernel_rfl) (Eq.mp (F15_eq v0 s1 m Q) h)

-- 16 beadle/beadlelaw2.texts
noncomputable def A16 : Ann := [none, none, none, none, none, none, some ([0, 1], [(5, .int .i64)]), none, none, none, none, none, none]
def F16 (a0 : Option Addr) (n0 c0 : Nat) (a1 : Option Addr) (n1 c1 : Nat) (m : Mem) (Q : Value → Mem → Prop) : Prop :=
  (splitB (neI (lenI (n0)) (lenI (n1)))
  (Q (.bool (false)) m)
  (∃ Inv : Int → Mem → Nat → Prop, (∃ n : Nat, Inv (0 : Int) m n) ∧
  (∀ (x5 : Int), ∀ (m1 : Mem) (n_1 : Nat), Inv (x5) m1 n_1 →
  (splitB (ltI (x5) (lenI (n0)))
  (mBind (bump m1 9) fun m2 => ((0 ≤ (x5) ∧ (x5) < ((n0 : Nat) : Int)) ∧ (vPtr a0 fun ba0 oa0 => (∃ (s20 : ByteArray), rd m2 ba0 (oa0 + Int.toNat (x5) * 1) = some (.string (s20)) ∧ ((0 ≤ (x5) ∧ (x5) < ((n1 : Nat) : Int)) ∧ (vPtr a1 fun ba1 oa1 => (∃ (s24 : ByteArray), rd m2 ba1 (oa1 + Int.toNat (x5) * 1) = some (.string (s24)) ∧ (splitB (!eqS (s20) (s24))
  (Q (.bool (false)) m2)
  (∃ n_2 : Nat, n_2 < n_1 ∧ Inv (addI .i64 (x5) (1 : Int)) m2 n_2)))))))))
  (Q (.bool (true)) m1)))))
theorem F16_eq (a0 : Option Addr) (n0 c0 : Nat) (a1 : Option Addr) (n1 c1 : Nat) (m : Mem) (Q : Value → Mem → Prop) : F16 a0 n0 c0 a1 n1 c1 m Q = vFn cx Tryd.f16 A16 [.slice a0 (n0) (c0), .slice a1 (n1) (c1)] m Q := by kernel_rfl
theorem F16_ok {a0 : Option Addr} {n0 c0 : Nat} {a1 : Option Addr} {n1 c1 : Nat} {m : Mem} {Q : Value → Mem → Prop} (h : F16 a0 n0 c0 a1 n1 c1 m Q) : CallW cx 16 [.slice a0 (n0) (c0), .slice a1 (n1) (c1)] m Q :=
  CallW.of (by kernel_rfl) (by kernel_rfl) (Eq.mp (F16_eq a0 n0 c0 a1 n1 c1 m Q) h)

-- 58 (*beadle/fault.Fault).Error
noncomputable def A58 : Ann := [none, none, some ([0], [(3, .str)]), none, none]
def F58 (p0 : Option Addr) (m : Mem) (Q : Value → Mem → Prop) : Prop :=
  (joinK (fun (s3 : ByteArray) (m1 : Mem) => (mBind (bump m1 15) fun m2 => (vPtr p0 fun bp0 op0 => (∃ (s17 : ByteArray), rd m2 bp0 (op0) = some (.string (s17)) ∧ (lenS (s17) + lenS (ByteArray.mk #[32]) ≤ 140737488355328 ∧ (vPtr p0 fun bp0_1 op0_2 => (∃ (x22 : Int), rd m2 bp0_1 (op0_2 + 1) = some (.int .i64 (x22)) ∧ (CallW cx 44 [.int .i64 (x22)] ((setFl (m2) m1.nx)) fun r23 m3 => (∃ (s23 : ByteArray), r23 = (.string (s23)) ∧ (lenS (catS (s17) (ByteArray.mk #[32])) + lenS (s23) ≤ 140737488355328 ∧ (lenS (catS (catS (s17) (ByteArray.mk #[32])) (s23)) + lenS (ByteArray.mk #[58, 32]) ≤ 140737488355328 ∧ (lenS (catS (catS (catS (s17) (ByteArray.mk #[32])) (s23)) (ByteArray.mk #[58, 32])) + lenS (s3) ≤ 140737488355328 ∧ (Q (.string (catS (catS (catS (catS (s17) (ByteArray.mk #[32])) (s23)) (ByteArray.mk #[58, 32])) (s3))) ((setFl m3 m2.fl))))))))))))))) fun J =>
  (vPtr p0 fun bp0_3 op0_4 => (∃ (v7 : Value), rd m bp0_3 (op0_4 + 2) = some (v7) ∧ (∃ r : Bool, eqV cx m 40 24 (v7) (.nilIface) = some r ∧ (splitB (!r)
  (vPtr p0 fun bp0_5 op0_6 => (∃ (v12 : Value), rd m bp0_5 (op0_6 + 2) = some (v12) ∧ (vInvoke cx m (v12) "Error" [] fun r13 m4 => (∃ (s13 : ByteArray), r13 = (.string (s13)) ∧ (J (s13) m4)))))
  (J (ByteArray.mk #[111, 107]) m))))))
theorem F58_eq (p0 : Option Addr) (m : Mem) (Q : Value → Mem → Prop) : F58 p0 m Q = vFn cx Tryd.f58 A58 [.pointer p0] m Q := by kernel_rfl
theorem F58_ok {p0 : Option Addr} {m : Mem} {Q : Value → Mem → Prop} (h : F58 p0 m Q) : CallW cx 58 [.pointer p0] m Q :=
  CallW.of (by kernel_rfl) (by kernel_rfl) (Eq.mp (F58_eq p0 m Q) h)

-- 6 beadle/beadlelaw2.awake
noncomputable def A6 : Ann := [none, none, none]
def F6  (m : Mem) (Q : Value → Mem → Prop) : Prop :=
  (CallW cx 8 [.string (ByteArray.mk #[108, 111, 99, 107]), .int .i64 (3 : Int), .int .i64 (5 : Int)] m fun r2 m1 => (∃ (v2 : Value), r2 = (v2) ∧ (∃ r : Bool, eqV cx m1 40 24 (v2) (.nilIface) = some r ∧ (splitB (!r) (vInvoke cx m1 (v2) "Error" [] fun r7 m2 => (∃ (s7 : ByteArray), r7 = (.string (s7)) ∧ (splitB (eqS (s7) (ByteArray.mk #[108, 111, 99, 107, 32, 51, 58, 32, 101, 114, 114, 111, 114, 32, 53])) (CallW cx 10 [v2] m2 fun r12 m3 => (∃ (x12 : Int), r12 = (.int .i64 (x12)) ∧ (splitB (eqI (x12) (5 : Int)) (CallW cx 9 [v2, .iface 27 (.int .i64 (5 : Int))] m3 fun r18 m4 => (∃ (b18 : Bool), r18 = (.bool (b18)) ∧ (Q (.bool (b18)) m4))) (Q (.bool (false)) m3)))) (Q (.bool (false)) m2)))) (Q (.bool (false)) m1)))))
theorem F6_eq  (m : Mem) (Q : Value → Mem → Prop) : F6  m Q = vFn cx Tryd.f6 A6 [] m Q := by kernel_rfl
theorem F6_ok  {m : Mem} {Q : Value → Mem → Prop} (h : F6  m Q) : CallW cx 6 [] m Q :=
  CallW.of (by kernel_rfl) (by kernel_rfl) (Eq.mp (F6_eq  m Q) h)

-- 3 beadle/beadlelaw2.FaultSame
noncomputable def A3 : Ann := [none, none, none, none, some ([0, 1, 2, 3], []), none, none, none, none]
def F3 (x0 : Int) (x1 : Int) (s2 : ByteArray) (x3 : Int) (m : Mem) (Q : Value → Mem → Prop) : Prop :=
  (CallW cx 6 [] m fun r10 m1 => (∃ (b10 : Bool), r10 = (.bool (b10)) ∧ (splitB (!(b10))
  (Q (.bool (false)) m1)
  (joinK (fun  (m2 : Mem) => (CallW cx 8 [.string (s2), .int .i64 (x3), .int .i64 (x0)] m2 fun r34 m3 => (∃ (v34 : Value), r34 = (v34) ∧ (CallW cx 7 [.string (ByteArray.mk #[120]), .int .i64 (1 : Int), v34] m3 fun r35 m4 => (∃ (v35 : Value), r35 = (v35) ∧ (CallW cx 9 [v35, .iface 27 (.int .i64 (x1))] m4 fun r39 m5 => (∃ (b39 : Bool), r39 = (.bool (b39)) ∧ (splitB ((b39) == (eqI (x0) (x1))) (CallW cx 10 [v35] m5 fun r46 m6 => (∃ (x46 : Int), r46 = (.int .i64 (x46)) ∧ (Q (.bool ((eqI (x46) (x1)) == (eqI (x0) (x1)))) m6))) (Q (.bool (false)) m5))))))))) fun J =>
  (splitB (ltI (x0) (1 : Int)) (Q (.bool (true)) m1) (splitB (ltI (13 : Int) (x0)) (Q (.bool (true)) m1) (splitB (ltI (x1) (1 : Int)) (Q (.bool (true)) m1) (splitB (ltI (13 : Int) (x1)) (Q (.bool (true)) m1) (splitB (ltI (50 : Int) (lenI (lenS (s2))))
  (Q (.bool (true)) m1)
  (J  m1))))))))))
theorem F3_eq (x0 : Int) (x1 : Int) (s2 : ByteArray) (x3 : Int) (m : Mem) (Q : Value → Mem → Prop) : F3 x0 x1 s2 x3 m Q = vFn cx Tryd.f3 A3 [.int .i64 (x0), .int .i64 (x1), .string (s2), .int .i64 (x3)] m Q := by kernel_rfl
theorem F3_ok {x0 : Int} {x1 : Int} {s2 : ByteArray} {x3 : Int} {m : Mem} {Q : Value → Mem → Prop} (h : F3 x0 x1 s2 x3 m Q) : CallW cx 3 [.int .i64 (x0), .int .i64 (x1), .string (s2), .int .i64 (x3)] m Q :=
  CallW.of (by kernel_rfl) (by kernel_rfl) (Eq.mp (F3_eq x0 x1 s2 x3 m Q) h)

-- 4 beadle/beadlelaw2.FaultOne
noncomputable def A4 : Ann := [none, none, none, none, some ([0, 1, 2], []), none, none, none, none, none, some ([0, 1, 2, 7, 8, 9], []), none, none, none]
def F4 (s0 : ByteArray) (x1 : Int) (x2 : Int) (m : Mem) (Q : Value → Mem → Prop) : Prop :=
  (CallW cx 6 [] m fun r10 m1 => (∃ (b10 : Bool), r10 = (.bool (b10)) ∧ (splitB (!(b10))
  (Q (.bool (false)) m1)
  (joinK (fun  (m2 : Mem) => (CallW cx 8 [.string (s0), .int .i64 (x1), .int .i64 (x2)] m2 fun r26 m3 => (∃ (v26 : Value), r26 = (v26) ∧ (CallW cx 7 [.string (s0), .int .i64 (x1), v26] m3 fun r30 m4 => (∃ (v30 : Value), r30 = (v30) ∧ (mBind (newO m4 (row [.pointer none] 31 false)) fun m5 => (joinK (fun  (m6 : Mem) => (CallW cx 12 [v30] m6 fun r48 m7 => (∃ (v48 : Value), r48 = (v48) ∧ ((((v48) : Value) = .nilIface → ((v26) : Value) = .nilIface → False) ∧ (∃ r : Bool, eqV cx m7 40 24 (v48) (v26) = some r ∧ (splitB (r) (CallW cx 12 [v26] m7 fun r53 m8 => (∃ (v53 : Value), r53 = (v53) ∧ ((((v53) : Value) = .nilIface → ((.iface 27 (.int .i64 (x2))) : Value) = .nilIface → False) ∧ (∃ r_2 : Bool, eqV cx m8 40 24 (v53) (.iface 27 (.int .i64 (x2))) = some r_2 ∧ (splitB (r_2) (∃ (p59 : Option Addr), rd m8 m4.nx (0) = some (.pointer p59) ∧ (vPtr p59 fun bp59 op59 => (∃ (s62 : ByteArray), rd m8 bp59 (op59) = some (.string (s62)) ∧ (splitB (eqS (s62) (s0)) (∃ (p67 : Option Addr), rd m8 m4.nx (0) = some (.pointer p67) ∧ (vPtr p67 fun bp67 op67 => (∃ (x70 : Int), rd m8 bp67 (op67 + 1) = some (.int .i64 (x70)) ∧ (splitB (eqI (x70) (x1)) (CallW cx 13 [v30] m8 fun r76 m9 => (∃ (x76 : Int), r76 = (.int .i64 (x76)) ∧ (Q (.bool (eqI (x76) (2 : Int))) m9))) (Q (.bool (false)) m8))))) (Q (.bool (false)) m8))))) (Q (.bool (false)) m8)))))) (Q (.bool (false)) m7))))))) fun J_1 =>
  (∃ r_3 : Bool, eqV cx m5 40 24 (v26) (.nilIface) = some r_3 ∧ (splitB (r_3) (Q (.bool (false)) m5) (∃ r_4 : Bool, eqV cx m5 40 24 (v30) (.nilIface) = some r_4 ∧ (splitB (r_4) (Q (.bool (false)) m5) (CallW cx 11 [v30, .iface 33 (.pointer (some ⟨m4.nx, 0, none⟩))] m5 fun r40 m10 => (∃ (b40 : Bool), r40 = (.bool (b40)) ∧ (splitB (!(b40)) (Q (.bool (false)) m10) (∃ (p44 : Option Addr), rd m10 m4.nx (0) = some (.pointer p44) ∧ (splitB ((Option.isNone p44))
  (Q (.bool (false)) m10)
  (J_1  m10))))))))))))))))) fun J =>
  (splitB (ltI (x2) (1 : Int)) (Q (.bool (true)) m1) (splitB (ltI (13 : Int) (x2)) (Q (.bool (true)) m1) (splitB (ltI (40 : Int) (lenI (lenS (s0))))
  (Q (.bool (true)) m1)
  (J  m1))))))))
theorem F4_eq (s0 : ByteArray) (x1 : Int) (x2 : Int) (m : Mem) (Q : Value → Mem → Prop) : F4 s0 x1 x2 m Q = vFn cx Tryd.f4 A4 [.string (s0), .int .i64 (x1), .int .i64 (x2)] m Q := by kernel_rfl
theorem F4_ok {s0 : ByteArray} {x1 : Int} {x2 : Int} {m : Mem} {Q : Value → Mem → Prop} (h : F4 s0 x1 x2 m Q) : CallW cx 4 [.string (s0), .int .i64 (x1), .int .i64 (x2)] m Q :=
  CallW.of (by kernel_rfl) (by kernel_rfl) (Eq.mp (F4_eq s0 x1 x2 m Q) h)

-- 5 beadle/beadlelaw2.FaultDeep
noncomputable def A5 : Ann := [none, none, none, none, some ([0, 1], []), none, none, none, none, none, some ([0, 1], [(5, .any), (6, .int .i64)]), none, none, none, none, none, none, none, none, none, none]
def F5 (a0 : Option Addr) (n0 c0 : Nat) (x1 : Int) (m : Mem) (Q : Value → Mem → Prop) : Prop :=
  (CallW cx 6 [] m fun r12 m1 => (∃ (b12 : Bool), r12 = (.bool (b12)) ∧ (splitB (!(b12))
  (Q (.bool (false)) m1)
  (joinK (fun  (m2 : Mem) => ((0 ≤ (0 : Int) ∧ (0 : Int) < ((n0 : Nat) : Int)) ∧ (vPtr a0 fun ba0 oa0 => (∃ (s32 : ByteArray), rd m2 ba0 (oa0 + Int.toNat (0 : Int) * 1) = some (.string (s32)) ∧ (CallW cx 8 [.string (s32), .int .i64 (0 : Int), .int .i64 (x1)] m2 fun r34 m3 => (∃ (v34 : Value), r34 = (v34) ∧ (∃ Inv : Value → Int → Mem → Nat → Prop, (∃ n : Nat, Inv (v34) (1 : Int) m3 n) ∧
  (∀ (v5 : Value) (x6 : Int), ∀ (m4 : Mem) (n_1 : Nat), Inv (v5) (x6) m4 n_1 →
  (splitB (ltI (x6) (lenI (n0)))
  ((0 ≤ (x6) ∧ (x6) < ((n0 : Nat) : Int)) ∧ (vPtr a0 fun ba0_2 oa0_3 => (∃ (s44 : ByteArray), rd m4 ba0_2 (oa0_3 + Int.toNat (x6) * 1) = some (.string (s44)) ∧ (CallW cx 7 [.string (s44), .int .i64 (x6), v5] m4 fun r47 m5 => (∃ (v47 : Value), r47 = (v47) ∧ (CallW cx 14 [v47] m5 fun r49 m6 => (∃ (a49 : Option Addr) (n49 c49 : Nat), r49 = (.slice a49 (n49) (c49)) ∧ (CallW cx 14 [v5] m6 fun r51 m7 => (∃ (a51 : Option Addr) (n51 c51 : Nat), r51 = (.slice a51 (n51) (c51)) ∧ ((0 ≤ (x6) ∧ (x6) < ((n0 : Nat) : Int)) ∧ (vPtr a0 fun ba0_4 oa0_5 => (∃ (s57 : ByteArray), rd m7 ba0_4 (oa0_5 + Int.toNat (x6) * 1) = some (.string (s57)) ∧ (CallW cx 15 [v47, .string (s57)] m7 fun r58 m8 => (∃ (x58 : Int), (∃ (b58 : Bool), r58 = (.tuple #[.int .i64 (x58), .bool (b58)]) ∧ (mBind (bump m8 46) fun m9 => (CallW cx 13 [v47] m9 fun r62 m10 => (∃ (x62 : Int), r62 = (.int .i64 (x62)) ∧ (CallW cx 13 [v5] m10 fun r64 m11 => (∃ (x64 : Int), r64 = (.int .i64 (x64)) ∧ (splitB (neI (x62) (addI .i64 (x64) (1 : Int))) (Q (.bool (false)) m11) (CallW cx 10 [v47] m11 fun r69 m12 => (∃ (x69 : Int), r69 = (.int .i64 (x69)) ∧ (splitB (neI (x69) (x1)) (Q (.bool (false)) m12) (splitB (neI (lenI (n49)) (addI .i64 (lenI (n51)) (1 : Int))) (Q (.bool (false)) m12) ((0 ≤ (0 : Int) ∧ (0 : Int) < ((n49 : Nat) : Int)) ∧ (vPtr a49 fun ba49 oa49 => (∃ (s84 : ByteArray), rd m12 ba49 (oa49 + Int.toNat (0 : Int) * 1) = some (.string (s84)) ∧ ((0 ≤ (x6) ∧ (x6) < ((n0 : Nat) : Int)) ∧ (vPtr a0 fun ba0_6 oa0_7 => (∃ (s88 : ByteArray), rd m12 ba0_6 (oa0_7 + Int.toNat (x6) * 1) = some (.string (s88)) ∧ (splitB (!eqS (s84) (s88)) (Q (.bool (false)) m12) (∃ (a93 : Option Addr) (n93 c93 : Nat), sliceOp cx m12 39 (.slice a49 (n49) (c49)) (some (.int .i64 (1 : Int))) none none = some (.slice a93 (n93) (c93)) ∧ (CallW cx 16 [.slice a93 (n93) (c93), .slice a51 (n51) (c51)] m12 fun r95 m13 => (∃ (b95 : Bool), r95 = (.bool (b95)) ∧ (splitB (!(b95)) (Q (.bool (false)) m13) (splitB (!(b58)) (Q (.bool (false)) m13) (splitB (neI (x58) (x6))
  (Q (.bool (false)) m13)
  (∃ n_8 : Nat, n_8 < n_1 ∧ Inv (v47) (addI .i64 (x6) (1 : Int)) m13 n_8)))))))))))))))))))))))))))))))))))))))
  (Q (.bool (true)) m4)))))))))) fun J =>
  (splitB (ltI (lenI (n0)) (1 : Int)) (Q (.bool (true)) m1) (splitB (ltI (20 : Int) (lenI (n0))) (Q (.bool (true)) m1) (splitB (ltI (x1) (1 : Int)) (Q (.bool (true)) m1) (splitB (ltI (13 : Int) (x1))
  (Q (.bool (true)) m1)
  (J  m1)))))))))
theorem F5_eq (a0 : Option Addr) (n0 c0 : Nat) (x1 : Int) (m : Mem) (Q : Value → Mem → Prop) : F5 a0 n0 c0 x1 m Q = vFn cx Tryd.f5 A5 [.slice a0 (n0) (c0), .int .i64 (x1)] m Q := by kernel_rfl
theorem F5_ok {a0 : Option Addr} {n0 c0 : Nat} {x1 : Int} {m : Mem} {Q : Value → Mem → Prop} (h : F5 a0 n0 c0 x1 m Q) : CallW cx 5 [.slice a0 (n0) (c0), .int .i64 (x1)] m Q :=
  CallW.of (by kernel_rfl) (by kernel_rfl) (Eq.mp (F5_eq a0 n0 c0 x1 m Q) h)

end
end Go.Proofs.YtjefcmlnclnbeaaDoor.vc
