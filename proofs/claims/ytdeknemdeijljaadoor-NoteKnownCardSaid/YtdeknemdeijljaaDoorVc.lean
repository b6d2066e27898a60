/-
  Formulas of the functions of package note and of its laws: printed by a program (vcprint.py) out of the loaded code; Lean's kernel holds each against the code.
-/
import Derived.Test.YtdeknemdeijljaaDoorAwake
import Derived.Test.YtdeknemdeijljaaDoorAxOpen
import Derived.KernelRfl
namespace Go.Proofs.YtdeknemdeijljaaDoor.vc
open Go Go.AX
set_option linter.unusedVariables false
set_option maxRecDepth 100000
noncomputable section

-- 10 beadle/note.New
noncomputable def A10 : Ann := [none, none]
def F10 (x0 : Int) (m : Mem) (Q : Value → Mem → Prop) : Prop :=
  (mBind (newO m (row [.int .i64 (mnI (mxI (x0) (1 : Int)) (4096 : Int)), .slice none (0) (0), .int .i64 (0 : Int)] 58 false)) fun m1 => (Q (.pointer (some ⟨m.nx, 0, none⟩)) m1))
theorem F10_eq (x0 : Int) (m : Mem) (Q : Value → Mem → Prop) : F10 x0 m Q = vFn cx Tryd.f10 A10 [.int .i64 (x0)] m Q := by kernel_rfl
theorem F10_ok {x0 : Int} {m : Mem} {Q : Value → Mem → Prop} (h : F10 x0 m Q) : CallW cx 10 [.int .i64 (x0)] m Q :=
  CallW.of (by kernel_rfl) (by kernel_rfl) (Eq.mp (F10_eq x0 m Q) h)

-- 28 slices.Clone[[]beadle/model.Event,beadle/model.Event]
noncomputable def A28 : Ann := [none, none, none, none, none]
def F28 (a0 : Option Addr) (n0 c0 : Nat) (m : Mem) (Q : Value → Mem → Prop) : Prop :=
  (∃ r : Bool, eqV cx m 40 32 (.slice a0 (n0) (c0)) (.slice none (0) (0)) = some r ∧ (splitB (r)
  (Q (.slice none (0) (0)) m)
  (mBind (newO m (row [] 23 false)) fun m1 => (∃ (a7 : Option Addr) (n7 c7 : Nat) (m2 : Mem), appendA cx m1 [32, 32] [.slice (some ⟨m.nx, 0, none⟩) (0) (0), .slice a0 (n0) (c0)] = some (.slice a7 (n7) (c7), m2) ∧ (Q (.slice a7 (n7) (c7)) m2)))))
theorem F28_eq (a0 : Option Addr) (n0 c0 : Nat) (m : Mem) (Q : Value → Mem → Prop) : F28 a0 n0 c0 m Q = vFn cx Tryd.f28 A28 [.slice a0 (n0) (c0)] m Q := by kernel_rfl
theorem F28_ok {a0 : Option Addr} {n0 c0 : Nat} {m : Mem} {Q : Value → Mem → Prop} (h : F28 a0 n0 c0 m Q) : CallW cx 28 [.slice a0 (n0) (c0)] m Q :=
  CallW.of (by kernel_rfl) (by kernel_rfl) (Eq.mp (F28_eq a0 n0 c0 m Q) h)

-- 11 (*beadle/note.Notes).Put
noncomputable def A11 : Ann := [none, none, none, none]
def F11 (p0 : Option Addr) (a1 : Option Addr) (n1 c1 : Nat) (m : Mem) (Q : Value → Mem → Prop) : Prop :=
  (vPtr p0 fun bp0 op0 => (∃ (a9 : Option Addr) (n9 c9 : Nat), rd m bp0 (op0 + 1) = some (.slice a9 (n9) (c9)) ∧ (∃ (a11 : Option Addr) (n11 c11 : Nat) (m1 : Mem), appendA cx m [32, 32] [.slice a9 (n9) (c9), .slice a1 (n1) (c1)] = some (.slice a11 (n11) (c11), m1) ∧ (vPtr p0 fun bp0_1 op0_2 => (okW m1 bp0_1 (op0_2 + 1) 1 ∧ (mBind (wr m1 bp0_1 (op0_2 + 1) [.slice a11 (n11) (c11)]) fun m2 => (mBind (bump m2 11) fun m3 => (vPtr p0 fun bp0_3 op0_4 => (∃ (a17 : Option Addr) (n17 c17 : Nat), rd m3 bp0_3 (op0_4 + 1) = some (.slice a17 (n17) (c17)) ∧ (vPtr p0 fun bp0_5 op0_6 => (∃ (x22 : Int), rd m3 bp0_5 (op0_6) = some (.int .i64 (x22)) ∧ (splitB (ltI (0 : Int) (subI .i64 (lenI (n17)) (x22)))
  (vPtr p0 fun bp0_7 op0_8 => (∃ (a30 : Option Addr) (n30 c30 : Nat), rd m3 bp0_7 (op0_8 + 1) = some (.slice a30 (n30) (c30)) ∧ (∃ (a32 : Option Addr) (n32 c32 : Nat), sliceOp cx m3 32 (.slice a30 (n30) (c30)) (some (.int .i64 (subI .i64 (lenI (n17)) (x22)))) none none = some (.slice a32 (n32) (c32)) ∧ (CallW cx 28 [.slice a32 (n32) (c32)] m3 fun r33 m4 => (∃ (a33 : Option Addr) (n33 c33 : Nat), r33 = (.slice a33 (n33) (c33)) ∧ (vPtr p0 fun bp0_9 op0_10 => (okW m4 bp0_9 (op0_10 + 1) 1 ∧ (mBind (wr m4 bp0_9 (op0_10 + 1) [.slice a33 (n33) (c33)]) fun m5 => (vPtr p0 fun bp0_11 op0_12 => (∃ (x39 : Int), rd m5 bp0_11 (op0_12 + 2) = some (.int .i64 (x39)) ∧ (vPtr p0 fun bp0_13 op0_14 => (okW m5 bp0_13 (op0_14 + 2) 1 ∧ (mBind (wr m5 bp0_13 (op0_14 + 2) [.int .i64 (addI .i64 (x39) (subI .i64 (lenI (n17)) (x22)))]) fun m6 => (Q (.tuple #[]) m6))))))))))))))
  (Q (.tuple #[]) m3)))))))))))))
theorem F11_eq (p0 : Option Addr) (a1 : Option Addr) (n1 c1 : Nat) (m : Mem) (Q : Value → Mem → Prop) : F11 p0 a1 n1 c1 m Q = vFn cx Tryd.f11 A11 [.pointer p0, .slice a1 (n1) (c1)] m Q := by kernel_rfl
theorem F11_ok {p0 : Option Addr} {a1 : Option Addr} {n1 c1 : Nat} {m : Mem} {Q : Value → Mem → Prop} (h : F11 p0 a1 n1 c1 m Q) : CallW cx 11 [.pointer p0, .slice a1 (n1) (c1)] m Q :=
  CallW.of (by kernel_rfl) (by kernel_rfl) (Eq.mp (F11_eq p0 a1 n1 c1 m Q) h)

-- 12 (*beadle/note.Notes).All
noncomputable def A12 : Ann := [none, none]
def F12 (p0 : Option Addr) (m : Mem) (Q : Value → Mem → Prop) : Prop :=
  (vPtr p0 fun bp0 op0 => (∃ (a6 : Option Addr) (n6 c6 : Nat), rd m bp0 (op0 + 1) = some (.slice a6 (n6) (c6)) ∧ (CallW cx 28 [.slice a6 (n6) (c6)] m fun r7 m1 => (∃ (a7 : Option Addr) (n7 c7 : Nat), r7 = (.slice a7 (n7) (c7)) ∧ (Q (.slice a7 (n7) (c7)) m1)))))
theorem F12_eq (p0 : Option Addr) (m : Mem) (Q : Value → Mem → Prop) : F12 p0 m Q = vFn cx Tryd.f12 A12 [.pointer p0] m Q := by kernel_rfl
theorem F12_ok {p0 : Option Addr} {m : Mem} {Q : Value → Mem → Prop} (h : F12 p0 m Q) : CallW cx 12 [.pointer p0] m Q :=
  CallW.of (by kernel_rfl) (by kernel_rfl) (Eq.mp (F12_eq p0 m Q) h)

-- 13 (*beadle/note.Notes).Len
noncomputable def A13 : Ann := [none, none]
def F13 (p0 : Option Addr) (m : Mem) (Q : Value → Mem → Prop) : Prop :=
  (vPtr p0 fun bp0 op0 => (∃ (a6 : Option Addr) (n6 c6 : Nat), rd m bp0 (op0 + 1) = some (.slice a6 (n6) (c6)) ∧ (Q (.int .i64 (lenI (n6))) m)))
theorem F13_eq (p0 : Option Addr) (m : Mem) (Q : Value → Mem → Prop) : F13 p0 m Q = vFn cx Tryd.f13 A13 [.pointer p0] m Q := by kernel_rfl
theorem F13_ok {p0 : Option Addr} {m : Mem} {Q : Value → Mem → Prop} (h : F13 p0 m Q) : CallW cx 13 [.pointer p0] m Q :=
  CallW.of (by kernel_rfl) (by kernel_rfl) (Eq.mp (F13_eq p0 m Q) h)

-- 14 (*beadle/note.Notes).Lost
noncomputable def A14 : Ann := [none, none]
def F14 (p0 : Option Addr) (m : Mem) (Q : Value → Mem → Prop) : Prop :=
  (vPtr p0 fun bp0 op0 => (∃ (x6 : Int), rd m bp0 (op0 + 2) = some (.int .i64 (x6)) ∧ (Q (.int .i64 (x6)) m)))
theorem F14_eq (p0 : Option Addr) (m : Mem) (Q : Value → Mem → Prop) : F14 p0 m Q = vFn cx Tryd.f14 A14 [.pointer p0] m Q := by kernel_rfl
theorem F14_ok {p0 : Option Addr} {m : Mem} {Q : Value → Mem → Prop} (h : F14 p0 m Q) : CallW cx 14 [.pointer p0] m Q :=
  CallW.of (by kernel_rfl) (by kernel_rfl) (Eq.mp (F14_eq p0 m Q) h)

-- 16 beadle/beadlelaw21.same
noncomputable def A16 : Ann := [none, none, none, none, none, none, some ([0, 1], [(5, .int .i64)]), none, none, none, none, none, none]
def F16 (a0 : Option Addr) (n0 c0 : Nat) (a1 : Option Addr) (n1 c1 : Nat) (m : Mem) (Q : Value → Mem → Prop) : Prop :=
  (splitB (neI (lenI (n0)) (lenI (n1)))
  (Q (.bool (false)) m)
  (∃ Inv : Int → Mem → Nat → Prop, (∃ n : Nat, Inv (0 : Int) m n) ∧
  (∀ (x5 : Int), ∀ (m1 : Mem) (n_1 : Nat), Inv (x5) m1 n_1 →
  (splitB (ltI (x5) (lenI (n0)))
  (mBind (bump m1 9) fun m2 => ((0 ≤ (x5) ∧ (x5) < ((n0 : Nat) : Int)) ∧ (vPtr a0 fun ba0 oa0 => (∃ (x20 : Int), rd m2 ba0 (oa0 + Int.toNat (x5) * 4) = some (.int .i64 (x20)) ∧ (∃ (x20_2 : Int), rd m2 ba0 (oa0 + Int.toNat (x5) * 4 + 1) = some (.int .i64 (x20_2)) ∧ (∃ (x20_3 : Int), rd m2 ba0 (oa0 + Int.toNat (x5) * 4 + 2) = some (.int .i64 (x20_3)) ∧ (∃ (x20_4 : Int), rd m2 ba0 (oa0 + Int.toNat (x5) * 4 + 3) = some (.int .i64 (x20_4)) ∧ ((0 ≤ (x5) ∧ (x5) < ((n1 : Nat) : Int)) ∧ (vPtr a1 fun ba1 oa1 => (∃ (x24 : Int), rd m2 ba1 (oa1 + Int.toNat (x5) * 4) = some (.int .i64 (x24)) ∧ (∃ (x24_5 : Int), rd m2 ba1 (oa1 + Int.toNat (x5) * 4 + 1) = some (.int .i64 (x24_5)) ∧ (∃ (x24_6 : Int), rd m2 ba1 (oa1 + Int.toNat (x5) * 4 + 2) = some (.int .i64 (x24_6)) ∧ (∃ (x24_7 : Int), rd m2 ba1 (oa1 + Int.toNat (x5) * 4 + 3) = some (.int .i64 (x24_7)) ∧ (∃ r : Bool, eqV cx m2 40 23 (.agg #[.int .i64 (x20), .int .i64 (x20_2), .int .i64 (x20_3), .int .i64 (x20_4)]) (.agg #[.int .i64 (x24), .int .i64 (x24_5), .int .i64 (x24_6), .int .i64 (x24_7)]) = some r ∧ (splitB (!r)
  (Q (.bool (false)) m2)
  (∃ n_8 : Nat, n_8 < n_1 ∧ Inv (addI .i64 (x5) (1 : Int)) m2 n_8))))))))))))))))
  (Q (.bool (true)) m1)))))
theorem F16_eq (a0 : Option Addr) (n0 c0 : Nat) (a1 : Option Addr) (n1 c1 : Nat) (m : Mem) (Q : Value → Mem → Prop) : F16 a0 n0 c0 a1 n1 c1 m Q = vFn cx Tryd.f16 A16 [.slice a0 (n0) (c0), .slice a1 (n1) (c1)] m Q := by kernel_rfl
theorem F16_ok {a0 : Option Addr} {n0 c0 : Nat} {a1 : Option Addr} {n1 c1 : Nat} {m : Mem} {Q : Value → Mem → Prop} (h : F16 a0 n0 c0 a1 n1 c1 m Q) : CallW cx 16 [.slice a0 (n0) (c0), .slice a1 (n1) (c1)] m Q :=
  CallW.of (by kernel_rfl) (by kernel_rfl) (Eq.mp (F16_eq a0 n0 c0 a1 n1 c1 m Q) h)

-- 29 (*beadle/note.Notes).some
noncomputable def A29 : Ann := [none, none, none, none, some ([1, 11, 12], [(5, .sl), (13, .int .i64)]), none, none, none, none, none, none]
def F29 (p0 : Option Addr) (v1 : Value) (m : Mem) (Q : Value → Mem → Prop) : Prop :=
  (vPtr p0 fun bp0 op0 => (∃ (a11 : Option Addr) (n11 c11 : Nat), rd m bp0 (op0 + 1) = some (.slice a11 (n11) (c11)) ∧ (∃ Inv : Option Addr → Nat → Nat → Int → Mem → Nat → Prop, (∃ n : Nat, Inv none (0) (0) (0 : Int) m n) ∧
  (∀ (a5 : Option Addr) (n5 c5 : Nat) (x13 : Int), ∀ (m1 : Mem) (n_1 : Nat), Inv a5 (n5) (c5) (x13) m1 n_1 →
  (splitB (ltI (x13) (lenI (n11)))
  ((0 ≤ (x13) ∧ (x13) < ((n11 : Nat) : Int)) ∧ (vPtr a11 fun ba11 oa11 => (∃ (x16 : Int), rd m1 ba11 (oa11 + Int.toNat (x13) * 4) = some (.int .i64 (x16)) ∧ (∃ (x16_2 : Int), rd m1 ba11 (oa11 + Int.toNat (x13) * 4 + 1) = some (.int .i64 (x16_2)) ∧ (∃ (x16_3 : Int), rd m1 ba11 (oa11 + Int.toNat (x13) * 4 + 2) = some (.int .i64 (x16_3)) ∧ (∃ (x16_4 : Int), rd m1 ba11 (oa11 + Int.toNat (x13) * 4 + 3) = some (.int .i64 (x16_4)) ∧ (mBind (newO m1 (row [.int .i64 (0 : Int), .int .i64 (0 : Int), .int .i64 (0 : Int), .int .i64 (0 : Int)] 23 false)) fun m2 => (okW m2 m1.nx (0) 4 ∧ (mBind (wr m2 m1.nx (0) [.int .i64 (x16), .int .i64 (x16_2), .int .i64 (x16_3), .int .i64 (x16_4)]) fun m3 => (∃ (x18 : Int), rd m3 m1.nx (0) = some (.int .i64 (x18)) ∧ (∃ (x18_5 : Int), rd m3 m1.nx (1) = some (.int .i64 (x18_5)) ∧ (∃ (x18_6 : Int), rd m3 m1.nx (2) = some (.int .i64 (x18_6)) ∧ (∃ (x18_7 : Int), rd m3 m1.nx (3) = some (.int .i64 (x18_7)) ∧ (vCallF cx m3 (v1) [.agg #[.int .i64 (x18), .int .i64 (x18_5), .int .i64 (x18_6), .int .i64 (x18_7)]] fun r19 m4 => (∃ (b19 : Bool), r19 = (.bool (b19)) ∧ (splitB (b19)
  (∃ (x21 : Int), rd m4 m1.nx (0) = some (.int .i64 (x21)) ∧ (∃ (x21_8 : Int), rd m4 m1.nx (1) = some (.int .i64 (x21_8)) ∧ (∃ (x21_9 : Int), rd m4 m1.nx (2) = some (.int .i64 (x21_9)) ∧ (∃ (x21_10 : Int), rd m4 m1.nx (3) = some (.int .i64 (x21_10)) ∧ (mBind (newO m4 (row [.int .i64 (x21), .int .i64 (x21_8), .int .i64 (x21_9), .int .i64 (x21_10)] 23 false)) fun m5 => (∃ (a23 : Option Addr) (n23 c23 : Nat) (m6 : Mem), appendA cx m5 [32, 32] [.slice a5 (n5) (c5), .slice (some ⟨m4.nx, 0, none⟩) (1) (1)] = some (.slice a23 (n23) (c23), m6) ∧ (∃ n_11 : Nat, n_11 < n_1 ∧ Inv a23 (n23) (c23) (addI .i64 (x13) (1 : Int)) m6 n_11)))))))
  (∃ n_12 : Nat, n_12 < n_1 ∧ Inv a5 (n5) (c5) (addI .i64 (x13) (1 : Int)) m4 n_12)))))))))))))))))
  (Q (.slice a5 (n5) (c5)) m1))))))
theorem F29_eq (p0 : Option Addr) (v1 : Value) (m : Mem) (Q : Value → Mem → Prop) : F29 p0 v1 m Q = vFn cx Tryd.f29 A29 [.pointer p0, v1] m Q := by kernel_rfl
theorem F29_ok {p0 : Option Addr} {v1 : Value} {m : Mem} {Q : Value → Mem → Prop} (h : F29 p0 v1 m Q) : CallW cx 29 [.pointer p0, v1] m Q :=
  CallW.of (by kernel_rfl) (by kernel_rfl) (Eq.mp (F29_eq p0 v1 m Q) h)

-- 30 (*beadle/note.Notes).Since$1
noncomputable def A30 : Ann := [none, none]
def F30 (x0 : Int) (x0_1 : Int) (x0_2 : Int) (x0_3 : Int) (p1 : Option Addr) (m : Mem) (Q : Value → Mem → Prop) : Prop :=
  (mBind (newO m (row [.int .i64 (x0), .int .i64 (x0_1), .int .i64 (x0_2), .int .i64 (x0_3)] 23 false)) fun m1 => (∃ (x5 : Int), rd m1 m.nx (0) = some (.int .i64 (x5)) ∧ (vPtr p1 fun bp1 op1 => (∃ (x6 : Int), rd m1 bp1 (op1) = some (.int .i64 (x6)) ∧ (Q (.bool (leI (x6) (x5))) m1)))))
theorem F30_eq (x0 : Int) (x0_1 : Int) (x0_2 : Int) (x0_3 : Int) (p1 : Option Addr) (m : Mem) (Q : Value → Mem → Prop) : F30 x0 x0_1 x0_2 x0_3 p1 m Q = vFn cx Tryd.f30 A30 [.agg #[.int .i64 (x0), .int .i64 (x0_1), .int .i64 (x0_2), .int .i64 (x0_3)], .pointer p1] m Q := by kernel_rfl
theorem F30_ok {x0 : Int} {x0_1 : Int} {x0_2 : Int} {x0_3 : Int} {p1 : Option Addr} {m : Mem} {Q : Value → Mem → Prop} (h : F30 x0 x0_1 x0_2 x0_3 p1 m Q) : CallW cx 30 [.agg #[.int .i64 (x0), .int .i64 (x0_1), .int .i64 (x0_2), .int .i64 (x0_3)], .pointer p1] m Q :=
  CallW.of (by kernel_rfl) (by kernel_rfl) (Eq.mp (F30_eq x0 x0_1 x0_2 x0_3 p1 m Q) h)

-- 31 (*beadle/note.Notes).Of$1
noncomputable def A31 : Ann := [none, none]
def F31 (x0 : Int) (x0_1 : Int) (x0_2 : Int) (x0_3 : Int) (p1 : Option Addr) (m : Mem) (Q : Value → Mem → Prop) : Prop :=
  (mBind (newO m (row [.int .i64 (x0), .int .i64 (x0_1), .int .i64 (x0_2), .int .i64 (x0_3)] 23 false)) fun m1 => (∃ (x5 : Int), rd m1 m.nx (2) = some (.int .i64 (x5)) ∧ (vPtr p1 fun bp1 op1 => (∃ (x6 : Int), rd m1 bp1 (op1) = some (.int .i64 (x6)) ∧ (Q (.bool (eqI (x5) (x6))) m1)))))
theorem F31_eq (x0 : Int) (x0_1 : Int) (x0_2 : Int) (x0_3 : Int) (p1 : Option Addr) (m : Mem) (Q : Value → Mem → Prop) : F31 x0 x0_1 x0_2 x0_3 p1 m Q = vFn cx Tryd.f31 A31 [.agg #[.int .i64 (x0), .int .i64 (x0_1), .int .i64 (x0_2), .int .i64 (x0_3)], .pointer p1] m Q := by kernel_rfl
theorem F31_ok {x0 : Int} {x0_1 : Int} {x0_2 : Int} {x0_3 : Int} {p1 : Option Addr} {m : Mem} {Q : Value → Mem → Prop} (h : F31 x0 x0_1 x0_2 x0_3 p1 m Q) : CallW cx 31 [.agg #[.int .i64 (x0), .int .i64 (x0_1), .int .i64 (x0_2), .int .i64 (x0_3)], .pointer p1] m Q :=
  CallW.of (by kernel_rfl) (by kernel_rfl) (Eq.mp (F31_eq x0 x0_1 x0_2 x0_3 p1 m Q) h)

-- 15 (*beadle/note.Notes).Since
noncomputable def A15 : Ann := [none, none]
def F15 (p0 : Option Addr) (x1 : Int) (m : Mem) (Q : Value → Mem → Prop) : Prop :=
  (mBind (newO m (row [.int .i64 (x1)] 2 false)) fun m1 => (CallW cx 29 [.pointer p0, .func (.func 30) #[] #[.pointer (some ⟨m.nx, 0, none⟩)]] m1 fun r7 m2 => (∃ (a7 : Option Addr) (n7 c7 : Nat), r7 = (.slice a7 (n7) (c7)) ∧ (Q (.slice a7 (n7) (c7)) m2))))
theorem F15_eq (p0 : Option Addr) (x1 : Int) (m : Mem) (Q : Value → Mem → Prop) : F15 p0 x1 m Q = vFn cx Tryd.f15 A15 [.pointer p0, .int .i64 (x1)] m Q := by kernel_rfl
theorem F15_ok {p0 : Option Addr} {x1 : Int} {m : Mem} {Q : Value → Mem → Prop} (h : F15 p0 x1 m Q) : CallW cx 15 [.pointer p0, .int .i64 (x1)] m Q :=
  CallW.of (by kernel_rfl) (by kernel_rfl) (Eq.mp (F15_eq p0 x1 m Q) h)

-- 17 (*beadle/note.Notes).Of
noncomputable def A17 : Ann := [none, none]
def F17 (p0 : Option Addr) (x1 : Int) (m : Mem) (Q : Value → Mem → Prop) : Prop :=
  (mBind (newO m (row [.int .i64 (x1)] 3 false)) fun m1 => (CallW cx 29 [.pointer p0, .func (.func 31) #[] #[.pointer (some ⟨m.nx, 0, none⟩)]] m1 fun r7 m2 => (∃ (a7 : Option Addr) (n7 c7 : Nat), r7 = (.slice a7 (n7) (c7)) ∧ (Q (.slice a7 (n7) (c7)) m2))))
theorem F17_eq (p0 : Option Addr) (x1 : Int) (m : Mem) (Q : Value → Mem → Prop) : F17 p0 x1 m Q = vFn cx Tryd.f17 A17 [.pointer p0, .int .i64 (x1)] m Q := by kernel_rfl
theorem F17_ok {p0 : Option Addr} {x1 : Int} {m : Mem} {Q : Value → Mem → Prop} (h : F17 p0 x1 m Q) : CallW cx 17 [.pointer p0, .int .i64 (x1)] m Q :=
  CallW.of (by kernel_rfl) (by kernel_rfl) (Eq.mp (F17_eq p0 x1 m Q) h)

-- 53 internal/strconv.log10Pow2
noncomputable def A53 : Ann := [none, none]
def F53 (x0 : Int) (m : Mem) (Q : Value → Mem → Prop) : Prop :=
  (0 ≤ (18 : Int) ∧ (Q (.int .i64 (shrI .i64 (mulI .i64 (x0) (78913 : Int)) (18 : Int))) m))
theorem F53_eq (x0 : Int) (m : Mem) (Q : Value → Mem → Prop) : F53 x0 m Q = vFn cx Tryd.f53 A53 [.int .i64 (x0)] m Q := by kernel_rfl
theorem F53_ok {x0 : Int} {m : Mem} {Q : Value → Mem → Prop} (h : F53 x0 m Q) : CallW cx 53 [.int .i64 (x0)] m Q :=
  CallW.of (by kernel_rfl) (by kernel_rfl) (Eq.mp (F53_eq x0 m Q) h)

-- 55 internal/strconv.bool2[int]
noncomputable def A55 : Ann := [none, none, none, none, none]
def F55 (b0 : Bool) (m : Mem) (Q : Value → Mem → Prop) : Prop :=
  (splitB (b0)
  (Q (.int .i64 (1 : Int)) m)
  (Q (.int .i64 (0 : Int)) m))
theorem F55_eq (b0 : Bool) (m : Mem) (Q : Value → Mem → Prop) : F55 b0 m Q = vFn cx Tryd.f55 A55 [.bool (b0)] m Q := by kernel_rfl
theorem F55_ok {b0 : Bool} {m : Mem} {Q : Value → Mem → Prop} (h : F55 b0 m Q) : CallW cx 55 [.bool (b0)] m Q :=
  CallW.of (by kernel_rfl) (by kernel_rfl) (Eq.mp (F55_eq b0 m Q) h)

-- 42 internal/strconv.numDigits
noncomputable def A42 : Ann := [none, none, none]
def F42 (x0 : Int) (m : Mem) (Q : Value → Mem → Prop) : Prop :=
  (CallW cx 54 [.int .u64 (x0)] m fun r5 m1 => (∃ (x5 : Int), r5 = (.int .i64 (x5)) ∧ (CallW cx 53 [.int .i64 (x5)] m1 fun r6 m2 => (∃ (x6 : Int), r6 = (.int .i64 (x6)) ∧ ((0 ≤ (x6) ∧ (x6) < ((20 : Nat) : Int)) ∧ (∃ (x11 : Int), rd m2 0 (0 + Int.toNat (x6) * 1) = some (.int .u64 (x11)) ∧ (CallW cx 55 [.bool (leI (x11) (x0))] m2 fun r13 m3 => (∃ (x13 : Int), r13 = (.int .i64 (x13)) ∧ (Q (.int .i64 (addI .i64 (x6) (x13))) m3)))))))))
theorem F42_eq (x0 : Int) (m : Mem) (Q : Value → Mem → Prop) : F42 x0 m Q = vFn cx Tryd.f42 A42 [.int .u64 (x0)] m Q := by kernel_rfl
theorem F42_ok {x0 : Int} {m : Mem} {Q : Value → Mem → Prop} (h : F42 x0 m Q) : CallW cx 42 [.int .u64 (x0)] m Q :=
  CallW.of (by kernel_rfl) (by kernel_rfl) (Eq.mp (F42_eq x0 m Q) h)

-- 41 internal/strconv.small
noncomputable def A41 : Ann := [none, none, none, none, none]
def F41 (x0 : Int) (m : Mem) (Q : Value → Mem → Prop) : Prop :=
  (splitB (ltI (x0) (10 : Int))
  (∃ s8 : ByteArray, sliceOp cx m 9 (.string (ByteArray.mk #[48, 49, 50, 51, 52, 53, 54, 55, 56, 57, 97, 98, 99, 100, 101, 102, 103, 104, 105, 106, 107, 108, 109, 110, 111, 112, 113, 114, 115, 116, 117, 118, 119, 120, 121, 122])) (some (.int .i64 (x0))) (some (.int .i64 (addI .i64 (x0) (1 : Int)))) none = some (.string s8) ∧ (Q (.string (s8)) m))
  (∃ s14 : ByteArray, sliceOp cx m 9 (.string (ByteArray.mk #[48, 48, 48, 49, 48, 50, 48, 51, 48, 52, 48, 53, 48, 54, 48, 55, 48, 56, 48, 57, 49, 48, 49, 49, 49, 50, 49, 51, 49, 52, 49, 53, 49, 54, 49, 55, 49, 56, 49, 57, 50, 48, 50, 49, 50, 50, 50, 51, 50, 52, 50, 53, 50, 54, 50, 55, 50, 56, 50, 57, 51, 48, 51, 49, 51, 50, 51, 51, 51, 52, 51, 53, 51, 54, 51, 55, 51, 56, 51, 57, 52, 48, 52, 49, 52, 50, 52, 51, 52, 52, 52, 53, 52, 54, 52, 55, 52, 56, 52, 57, 53, 48, 53, 49, 53, 50, 53, 51, 53, 52, 53, 53, 53, 54, 53, 55, 53, 56, 53, 57, 54, 48, 54, 49, 54, 50, 54, 51, 54, 52, 54, 53, 54, 54, 54, 55, 54, 56, 54, 57, 55, 48, 55, 49, 55, 50, 55, 51, 55, 52, 55, 53, 55, 54, 55, 55, 55, 56, 55, 57, 56, 48, 56, 49, 56, 50, 56, 51, 56, 52, 56, 53, 56, 54, 56, 55, 56, 56, 56, 57, 57, 48, 57, 49, 57, 50, 57, 51, 57, 52, 57, 53, 57, 54, 57, 55, 57, 56, 57, 57])) (some (.int .i64 (mulI .i64 (x0) (2 : Int)))) (some (.int .i64 (addI .i64 (mulI .i64 (x0) (2 : Int)) (2 : Int)))) none = some (.string s14) ∧ (Q (.string (s14)) m)))
theorem F41_eq (x0 : Int) (m : Mem) (Q : Value → Mem → Prop) : F41 x0 m Q = vFn cx Tryd.f41 A41 [.int .i64 (x0)] m Q := by kernel_rfl
theorem F41_ok {x0 : Int} {m : Mem} {Q : Value → Mem → Prop} (h : F41 x0 m Q) : CallW cx 41 [.int .i64 (x0)] m Q :=
  CallW.of (by kernel_rfl) (by kernel_rfl) (Eq.mp (F41_eq x0 m Q) h)

-- 33 internal/strconv.FormatInt
noncomputable def A33 : Ann := [none, none, none, none, some ([0], [(17, .bool)]), none, none, none, some ([0, 5], [(6, .int .u64)]), none, none, none, none, none, none, none, none, none, none]
def F33 (x0 : Int) (x1 : Int) (m : Mem) (Q : Value → Mem → Prop) : Prop :=
  (splitB (eqI (x1) (10 : Int))
  (joinK (fun (b17 : Bool) (m1 : Mem) => (splitB (b17)
  (CallW cx 41 [.int .i64 (x0)] m1 fun r19 m2 => (∃ (s19 : ByteArray), r19 = (.string (s19)) ∧ (Q (.string (s19)) m2)))
  (mBind (newO m1 (row [.int .u8 (0 : Int), .int .u8 (0 : Int), .int .u8 (0 : Int), .int .u8 (0 : Int), .int .u8 (0 : Int), .int .u8 (0 : Int), .int .u8 (0 : Int), .int .u8 (0 : Int), .int .u8 (0 : Int), .int .u8 (0 : Int), .int .u8 (0 : Int), .int .u8 (0 : Int), .int .u8 (0 : Int), .int .u8 (0 : Int), .int .u8 (0 : Int), .int .u8 (0 : Int), .int .u8 (0 : Int), .int .u8 (0 : Int), .int .u8 (0 : Int), .int .u8 (0 : Int), .int .u8 (0 : Int), .int .u8 (0 : Int), .int .u8 (0 : Int), .int .u8 (0 : Int)] 65 false)) fun m3 => (joinK (fun (x6 : Int) (m4 : Mem) => (CallW cx 42 [.int .u64 (x6)] m4 fun r27 m5 => (∃ (x27 : Int), r27 = (.int .i64 (x27)) ∧ (∃ (a30 : Option Addr) (n30 c30 : Nat), sliceOp cx m5 65 (.pointer (some ⟨m1.nx, 0, none⟩)) (some (.int .i64 (1 : Int))) (some (.int .i64 (addI .i64 (1 : Int) (x27)))) none = some (.slice a30 (n30) (c30)) ∧ (CallW cx 43 [.slice a30 (n30) (c30), .int .u64 (x6)] m5 fun r32 m6 => r32 = (.tuple #[]) ∧ (splitB (ltI (x0) (0 : Int))
  ((0 ≤ (0 : Int) ∧ (0 : Int) < ((24 : Nat) : Int)) ∧ (okW m6 m1.nx (0 + Int.toNat (0 : Int) * 1) 1 ∧ (mBind (wr m6 m1.nx (0 + Int.toNat (0 : Int) * 1) [.int .u8 (45 : Int)]) fun m7 => (∃ (a38 : Option Addr) (n38 c38 : Nat), sliceOp cx m7 65 (.pointer (some ⟨m1.nx, 0, none⟩)) none (some (.int .i64 (addI .i64 (1 : Int) (x27)))) none = some (.slice a38 (n38) (c38)) ∧ (∃ s39 : ByteArray, convertA cx m7 69 9 (.slice a38 (n38) (c38)) = some (.string s39) ∧ (Q (.string (s39)) m7))))))
  (∃ (a42 : Option Addr) (n42 c42 : Nat), sliceOp cx m6 65 (.pointer (some ⟨m1.nx, 0, none⟩)) (some (.int .i64 (1 : Int))) (some (.int .i64 (addI .i64 (1 : Int) (x27)))) none = some (.slice a42 (n42) (c42)) ∧ (∃ s43 : ByteArray, convertA cx m6 69 9 (.slice a42 (n42) (c42)) = some (.string s43) ∧ (Q (.string (s43)) m6))))))))) fun J_1 =>
  (splitB (ltI (x0) (0 : Int))
  (J_1 (subI .u64 0 (cvI .u64 (x0))) m3)
  (J_1 (cvI .u64 (x0)) m3)))))) fun J =>
  (splitB (leI (0 : Int) (x0)) (J (ltI (x0) (100 : Int)) m) (J (false) m)))
  (CallW cx 44 [.slice none (0) (0), .int .u64 (cvI .u64 (x0)), .int .i64 (x1), .bool (ltI (x0) (0 : Int)), .bool (false)] m fun r50 m8 => (∃ (a50 : Option Addr) (n50 c50 : Nat), (∃ (s50 : ByteArray), r50 = (.tuple #[.slice a50 (n50) (c50), .string (s50)]) ∧ (Q (.string (s50)) m8)))))
theorem F33_eq (x0 : Int) (x1 : Int) (m : Mem) (Q : Value → Mem → Prop) : F33 x0 x1 m Q = vFn cx Tryd.f33 A33 [.int .i64 (x0), .int .i64 (x1)] m Q := by kernel_rfl
theorem F33_ok {x0 : Int} {x1 : Int} {m : Mem} {Q : Value → Mem → Prop} (h : F33 x0 x1 m Q) : CallW cx 33 [.int .i64 (x0), .int .i64 (x1)] m Q :=
  CallW.of (by kernel_rfl) (by kernel_rfl) (Eq.mp (F33_eq x0 x1 m Q) h)

-- 20 strconv.FormatInt
noncomputable def A20 : Ann := [none, none]
def F20 (x0 : Int) (x1 : Int) (m : Mem) (Q : Value → Mem → Prop) : Prop :=
  (CallW cx 33 [.int .i64 (x0), .int .i64 (x1)] m fun r7 m1 => (∃ (s7 : ByteArray), r7 = (.string (s7)) ∧ (Q (.string (s7)) m1)))
theorem F20_eq (x0 : Int) (x1 : Int) (m : Mem) (Q : Value → Mem → Prop) : F20 x0 x1 m Q = vFn cx Tryd.f20 A20 [.int .i64 (x0), .int .i64 (x1)] m Q := by kernel_rfl
theorem F20_ok {x0 : Int} {x1 : Int} {m : Mem} {Q : Value → Mem → Prop} (h : F20 x0 x1 m Q) : CallW cx 20 [.int .i64 (x0), .int .i64 (x1)] m Q :=
  CallW.of (by kernel_rfl) (by kernel_rfl) (Eq.mp (F20_eq x0 x1 m Q) h)

-- 34 internal/strconv.Itoa
noncomputable def A34 : Ann := [none, none]
def F34 (x0 : Int) (m : Mem) (Q : Value → Mem → Prop) : Prop :=
  (CallW cx 33 [.int .i64 (x0), .int .i64 (10 : Int)] m fun r4 m1 => (∃ (s4 : ByteArray), r4 = (.string (s4)) ∧ (Q (.string (s4)) m1)))
theorem F34_eq (x0 : Int) (m : Mem) (Q : Value → Mem → Prop) : F34 x0 m Q = vFn cx Tryd.f34 A34 [.int .i64 (x0)] m Q := by kernel_rfl
theorem F34_ok {x0 : Int} {m : Mem} {Q : Value → Mem → Prop} (h : F34 x0 m Q) : CallW cx 34 [.int .i64 (x0)] m Q :=
  CallW.of (by kernel_rfl) (by kernel_rfl) (Eq.mp (F34_eq x0 m Q) h)

-- 21 strconv.Itoa
noncomputable def A21 : Ann := [none, none]
def F21 (x0 : Int) (m : Mem) (Q : Value → Mem → Prop) : Prop :=
  (CallW cx 34 [.int .i64 (x0)] m fun r4 m1 => (∃ (s4 : ByteArray), r4 = (.string (s4)) ∧ (Q (.string (s4)) m1)))
theorem F21_eq (x0 : Int) (m : Mem) (Q : Value → Mem → Prop) : F21 x0 m Q = vFn cx Tryd.f21 A21 [.int .i64 (x0)] m Q := by kernel_rfl
theorem F21_ok {x0 : Int} {m : Mem} {Q : Value → Mem → Prop} (h : F21 x0 m Q) : CallW cx 21 [.int .i64 (x0)] m Q :=
  CallW.of (by kernel_rfl) (by kernel_rfl) (Eq.mp (F21_eq x0 m Q) h)

-- 69 internal/stringslite.IndexByte
noncomputable def A69 : Ann := [none, none]
def F69 (s0 : ByteArray) (x1 : Int) (m : Mem) (Q : Value → Mem → Prop) : Prop :=
  (CallW cx 73 [.string (s0), .int .u8 (x1)] m fun r7 m1 => (∃ (x7 : Int), r7 = (.int .i64 (x7)) ∧ (Q (.int .i64 (x7)) m1)))
theorem F69_eq (s0 : ByteArray) (x1 : Int) (m : Mem) (Q : Value → Mem → Prop) : F69 s0 x1 m Q = vFn cx Tryd.f69 A69 [.string (s0), .int .u8 (x1)] m Q := by kernel_rfl
theorem F69_ok {s0 : ByteArray} {x1 : Int} {m : Mem} {Q : Value → Mem → Prop} (h : F69 s0 x1 m Q) : CallW cx 69 [.string (s0), .int .u8 (x1)] m Q :=
  CallW.of (by kernel_rfl) (by kernel_rfl) (Eq.mp (F69_eq s0 x1 m Q) h)

-- 61 internal/stringslite.Index
noncomputable def A61 : Ann := [none, none, none, some ([0, 1, 5], [(16, .bool)]), none, none, none, none, none, some ([0, 1, 5], [(36, .bool)]), none, none, none, none, none, none, none, some ([0, 1, 5, 6, 7, 9], [(8, .int .i64), (10, .int .i64)]), none, none, some ([0, 1, 5, 6, 7, 9, 10], [(8, .int .i64)]), none, none, none, none, none, some ([0, 1, 5, 6, 7, 8, 9, 10], []), none, none, none, none, some ([0, 1, 5, 6, 7, 8, 9, 10], [(107, .bool)]), none, none, none, none, none, some ([0, 1, 5, 6, 7, 8, 9, 10], [(132, .bool)]), none, none, none, none, none, none]
def F61 (s0 : ByteArray) (s1 : ByteArray) (m : Mem) (Q : Value → Mem → Prop) : Prop :=
  (joinK (fun (b16 : Bool) (m1 : Mem) => (splitB (b16)
  (Q (.int .i64 (0 : Int)) m1)
  (splitB (eqI (lenI (lenS (s1))) (1 : Int))
  (0 ≤ (0 : Int) ∧ (∃ c29 : UInt8, (s1).data.toList[Int.toNat (0 : Int)]? = some c29 ∧ (CallW cx 69 [.string (s0), .int .u8 (lenI (c29).toNat)] m1 fun r30 m2 => (∃ (x30 : Int), r30 = (.int .i64 (x30)) ∧ (Q (.int .i64 (x30)) m2)))))
  (splitB (leI (lenI (lenS (s0))) (lenI (lenS (s1))))
  (Q (.int .i64 (-1 : Int)) m1)
  (joinK (fun (b36 : Bool) (m3 : Mem) => (splitB (b36)
  (CallW cx 70 [.string (s0), .string (s1)] m3 fun r47 m4 => (∃ (x47 : Int), r47 = (.int .i64 (x47)) ∧ (Q (.int .i64 (x47)) m4)))
  (0 ≤ (0 : Int) ∧ (∃ c49 : UInt8, (s1).data.toList[Int.toNat (0 : Int)]? = some c49 ∧ (0 ≤ (1 : Int) ∧ (∃ c51 : UInt8, (s1).data.toList[Int.toNat (1 : Int)]? = some c51 ∧ (∃ Inv : Int → Int → Mem → Nat → Prop, (∃ n : Nat, Inv (0 : Int) (0 : Int) m3 n) ∧
  (∀ (x8 : Int) (x10 : Int), ∀ (m5 : Mem) (n_2 : Nat), Inv (x8) (x10) m5 n_2 →
  (splitB (ltI (x8) (addI .i64 (subI .i64 (lenI (lenS (s0))) (lenI (lenS (s1)))) (1 : Int)))
  (joinK (fun (x8_4 : Int) (m6 : Mem) => (joinK (fun  (m7 : Mem) => (joinK (fun (b107 : Bool) (m8 : Mem) => (splitB (b107)
  (∃ s110 : ByteArray, sliceOp cx m8 9 (.string (s0)) (some (.int .i64 (addI .i64 (x8_4) (1 : Int)))) none none = some (.string s110) ∧ (CallW cx 70 [.string (s110), .string (s1)] m8 fun r112 m9 => (∃ (x112 : Int), r112 = (.int .i64 (x112)) ∧ (splitB (leI (0 : Int) (x112))
  (Q (.int .i64 (addI .i64 (x112) (addI .i64 (x8_4) (1 : Int)))) m9)
  (Q (.int .i64 (-1 : Int)) m9)))))
  (joinK (fun (b132 : Bool) (m10 : Mem) => (splitB (b132)
  (∃ s135 : ByteArray, sliceOp cx m10 9 (.string (s0)) (some (.int .i64 (addI .i64 (x8_4) (1 : Int)))) none none = some (.string s135) ∧ (CallW cx 72 [.string (s135), .string (s1)] m10 fun r137 m11 => (∃ (x137 : Int), r137 = (.int .i64 (x137)) ∧ (splitB (ltI (x137) (0 : Int))
  (Q (.int .i64 (-1 : Int)) m11)
  (Q (.int .i64 (addI .i64 (addI .i64 (x8_4) (1 : Int)) (x137))) m11)))))
  (∃ n_8 : Nat, n_8 < n_2 ∧ Inv (addI .i64 (x8_4) (1 : Int)) (addI .i64 (x10) (1 : Int)) m10 n_8))) fun J_7 =>
  (∃ (x119 : Int), rd m8 3 (0) = some (.int .i64 (x119)) ∧ (splitB (ltI (x119) (lenI (lenS (s1)))) (0 ≤ (4 : Int) ∧ (splitB (leI (addI .i64 (4 : Int) (shrI .i64 (addI .i64 (x8_4) (1 : Int)) (4 : Int))) (addI .i64 (x10) (1 : Int))) (J_7 (ltI (addI .i64 (x8_4) (1 : Int)) (addI .i64 (subI .i64 (lenI (lenS (s0))) (lenI (lenS (s1)))) (1 : Int))) m8) (J_7 (false) m8))) (J_7 (false) m8)))))) fun J_6 =>
  (∃ (x100 : Int), rd m7 3 (0) = some (.int .i64 (x100)) ∧ (splitB (leI (lenI (lenS (s1))) (x100)) (CallW cx 71 [.int .i64 (addI .i64 (x8_4) (1 : Int))] m7 fun r105 m12 => (∃ (x105 : Int), r105 = (.int .i64 (x105)) ∧ (J_6 (ltI (x105) (addI .i64 (x10) (1 : Int))) m12))) (J_6 (false) m7))))) fun J_5 =>
  (0 ≤ (addI .i64 (x8_4) (1 : Int)) ∧ (∃ c81 : UInt8, (s0).data.toList[Int.toNat (addI .i64 (x8_4) (1 : Int))]? = some c81 ∧ (splitB (eqI (lenI (c81).toNat) (lenI (c51).toNat)) (∃ s90 : ByteArray, sliceOp cx m6 9 (.string (s0)) (some (.int .i64 (x8_4))) (some (.int .i64 (addI .i64 (x8_4) (lenI (lenS (s1)))))) none = some (.string s90) ∧ (splitB (eqS (s90) (s1))
  (Q (.int .i64 (x8_4)) m6)
  (J_5  m6))) (J_5  m6)))))) fun J_3 =>
  (0 ≤ (x8) ∧ (∃ c62 : UInt8, (s0).data.toList[Int.toNat (x8)]? = some c62 ∧ (splitB (neI (lenI (c62).toNat) (lenI (c49).toNat))
  (∃ s69 : ByteArray, sliceOp cx m5 9 (.string (s0)) (some (.int .i64 (addI .i64 (x8) (1 : Int)))) (some (.int .i64 (addI .i64 (subI .i64 (lenI (lenS (s0))) (lenI (lenS (s1)))) (1 : Int)))) none = some (.string s69) ∧ (CallW cx 69 [.string (s69), .int .u8 (lenI (c49).toNat)] m5 fun r71 m13 => (∃ (x71 : Int), r71 = (.int .i64 (x71)) ∧ (splitB (ltI (x71) (0 : Int))
  (Q (.int .i64 (-1 : Int)) m13)
  (J_3 (addI .i64 (x8) (addI .i64 (x71) (1 : Int))) m13)))))
  (J_3 (x8) m5)))))
  (Q (.int .i64 (-1 : Int)) m5)))))))))) fun J_1 =>
  (∃ (x38 : Int), rd m1 3 (0) = some (.int .i64 (x38)) ∧ (splitB (leI (lenI (lenS (s1))) (x38)) (J_1 (leI (lenI (lenS (s0))) (64 : Int)) m1) (J_1 (false) m1)))))))) fun J =>
  (splitB (eqI (lenI (lenS (s1))) (0 : Int)) (J (true) m) (J (eqS (s1) (s0)) m)))
theorem F61_eq (s0 : ByteArray) (s1 : ByteArray) (m : Mem) (Q : Value → Mem → Prop) : F61 s0 s1 m Q = vFn cx Tryd.f61 A61 [.string (s0), .string (s1)] m Q := by kernel_rfl
theorem F61_ok {s0 : ByteArray} {s1 : ByteArray} {m : Mem} {Q : Value → Mem → Prop} (h : F61 s0 s1 m Q) : CallW cx 61 [.string (s0), .string (s1)] m Q :=
  CallW.of (by kernel_rfl) (by kernel_rfl) (Eq.mp (F61_eq s0 s1 m Q) h)

-- 47 strings.Index
noncomputable def A47 : Ann := [none, none]
def F47 (s0 : ByteArray) (s1 : ByteArray) (m : Mem) (Q : Value → Mem → Prop) : Prop :=
  (CallW cx 61 [.string (s0), .string (s1)] m fun r7 m1 => (∃ (x7 : Int), r7 = (.int .i64 (x7)) ∧ (Q (.int .i64 (x7)) m1)))
theorem F47_eq (s0 : ByteArray) (s1 : ByteArray) (m : Mem) (Q : Value → Mem → Prop) : F47 s0 s1 m Q = vFn cx Tryd.f47 A47 [.string (s0), .string (s1)] m Q := by kernel_rfl
theorem F47_ok {s0 : ByteArray} {s1 : ByteArray} {m : Mem} {Q : Value → Mem → Prop} (h : F47 s0 s1 m Q) : CallW cx 47 [.string (s0), .string (s1)] m Q :=
  CallW.of (by kernel_rfl) (by kernel_rfl) (Eq.mp (F47_eq s0 s1 m Q) h)

-- 46 strings.Count
noncomputable def A46 : Ann := [none, none, none, none, none, none, none, none, some ([1], [(0, .str), (5, .int .i64)]), none, none, none, none, none]
def F46 (s0 : ByteArray) (s1 : ByteArray) (m : Mem) (Q : Value → Mem → Prop) : Prop :=
  (splitB (eqI (lenI (lenS (s1))) (0 : Int))
  (CallW cx 58 [.string (s0)] m fun r11 m1 => (∃ (x11 : Int), r11 = (.int .i64 (x11)) ∧ (Q (.int .i64 (addI .i64 (x11) (1 : Int))) m1)))
  (splitB (eqI (lenI (lenS (s1))) (1 : Int))
  (0 ≤ (0 : Int) ∧ (∃ c18 : UInt8, (s1).data.toList[Int.toNat (0 : Int)]? = some c18 ∧ (CallW cx 60 [.string (s0), .int .u8 (lenI (c18).toNat)] m fun r19 m2 => (∃ (x19 : Int), r19 = (.int .i64 (x19)) ∧ (Q (.int .i64 (x19)) m2)))))
  (∃ Inv : ByteArray → Int → Mem → Nat → Prop, (∃ n : Nat, Inv (s0) (0 : Int) m n) ∧
  (∀ (s0_1 : ByteArray) (x5 : Int), ∀ (m3 : Mem) (n_2 : Nat), Inv (s0_1) (x5) m3 n_2 →
  (CallW cx 47 [.string (s0_1), .string (s1)] m3 fun r22 m4 => (∃ (x22 : Int), r22 = (.int .i64 (x22)) ∧ (splitB (eqI (x22) (-1 : Int))
  (Q (.int .i64 (x5)) m4)
  (∃ s33 : ByteArray, sliceOp cx m4 9 (.string (s0_1)) (some (.int .i64 (addI .i64 (x22) (lenI (lenS (s1)))))) none none = some (.string s33) ∧ (∃ n_3 : Nat, n_3 < n_2 ∧ Inv (s33) (addI .i64 (x5) (1 : Int)) m4 n_3)))))))))
theorem F46_eq (s0 : ByteArray) (s1 : ByteArray) (m : Mem) (Q : Value → Mem → Prop) : F46 s0 s1 m Q = vFn cx Tryd.f46 A46 [.string (s0), .string (s1)] m Q := by kernel_rfl
theorem F46_ok {s0 : ByteArray} {s1 : ByteArray} {m : Mem} {Q : Value → Mem → Prop} (h : F46 s0 s1 m Q) : CallW cx 46 [.string (s0), .string (s1)] m Q :=
  CallW.of (by kernel_rfl) (by kernel_rfl) (Eq.mp (F46_eq s0 s1 m Q) h)

-- 35 strings.genSplit
noncomputable def A35 : Ann := [none, none, none, none, none, none, none, some ([0, 1, 2], [(3, .int .i64)]), none, none, none, none, none, some ([9], [(0, .str), (10, .int .i64)]), some ([1, 2, 3, 9], [(0, .str), (10, .int .i64)]), none, none, none, none, none, none, none, none, none]
def F35 (s0 : ByteArray) (s1 : ByteArray) (x2 : Int) (x3 : Int) (m : Mem) (Q : Value → Mem → Prop) : Prop :=
  (splitB (eqI (x3) (0 : Int))
  (Q (.slice none (0) (0)) m)
  (splitB (eqS (s1) (ByteArray.mk #[]))
  (CallW cx 45 [.string (s0), .int .i64 (x3)] m fun r18 m1 => (∃ (a18 : Option Addr) (n18 c18 : Nat), r18 = (.slice a18 (n18) (c18)) ∧ (Q (.slice a18 (n18) (c18)) m1)))
  (joinK (fun (x3_1 : Int) (m2 : Mem) => ((0 ≤ mnI (x3_1) (addI .i64 (lenI (lenS (s0))) (1 : Int)) ∧ mnI (x3_1) (addI .i64 (lenI (lenS (s0))) (1 : Int)) ≤ mnI (x3_1) (addI .i64 (lenI (lenS (s0))) (1 : Int)) ∧ mnI (x3_1) (addI .i64 (lenI (lenS (s0))) (1 : Int)) ≤ 1073741824 ∧ 16 * Int.toNat (mnI (x3_1) (addI .i64 (lenI (lenS (s0))) (1 : Int))) ≤ 140737488355328) ∧ (mBind (newO m2 (row (repL [.string (ByteArray.mk #[])] (Int.toNat (mnI (x3_1) (addI .i64 (lenI (lenS (s0))) (1 : Int))))) 9 false)) fun m3 => (joinK (fun (s0_3 : ByteArray) (x10 : Int) (m4 : Mem) => ((0 ≤ (x10) ∧ (x10) < ((Int.toNat (mnI (x3_1) (addI .i64 (lenI (lenS (s0))) (1 : Int))) : Nat) : Int)) ∧ (okW m4 m2.nx (0 + Int.toNat (x10) * 1) 1 ∧ (mBind (wr m4 m2.nx (0 + Int.toNat (x10) * 1) [.string (s0_3)]) fun m5 => (∃ (a65 : Option Addr) (n65 c65 : Nat), sliceOp cx m5 37 (.slice (some ⟨m2.nx, 0, none⟩) (Int.toNat (mnI (x3_1) (addI .i64 (lenI (lenS (s0))) (1 : Int)))) (Int.toNat (mnI (x3_1) (addI .i64 (lenI (lenS (s0))) (1 : Int))))) none (some (.int .i64 (addI .i64 (x10) (1 : Int)))) none = some (.slice a65 (n65) (c65)) ∧ (Q (.slice a65 (n65) (c65)) m5)))))) fun J_2 =>
  (∃ Inv : ByteArray → Int → Mem → Nat → Prop, (∃ n : Nat, Inv (s0) (0 : Int) m3 n) ∧
  (∀ (s0_4 : ByteArray) (x10_5 : Int), ∀ (m6 : Mem) (n_6 : Nat), Inv (s0_4) (x10_5) m6 n_6 →
  (splitB (ltI (x10_5) (subI .i64 (mnI (x3_1) (addI .i64 (lenI (lenS (s0))) (1 : Int))) (1 : Int)))
  (CallW cx 47 [.string (s0_4), .string (s1)] m6 fun r39 m7 => (∃ (x39 : Int), r39 = (.int .i64 (x39)) ∧ (splitB (ltI (x39) (0 : Int))
  (J_2 (s0_4) (x10_5) m7)
  (∃ s48 : ByteArray, sliceOp cx m7 9 (.string (s0_4)) none (some (.int .i64 (addI .i64 (x39) (x2)))) none = some (.string s48) ∧ ((0 ≤ (x10_5) ∧ (x10_5) < ((Int.toNat (mnI (x3_1) (addI .i64 (lenI (lenS (s0))) (1 : Int))) : Nat) : Int)) ∧ (okW m7 m2.nx (0 + Int.toNat (x10_5) * 1) 1 ∧ (mBind (wr m7 m2.nx (0 + Int.toNat (x10_5) * 1) [.string (s48)]) fun m8 => (∃ s55 : ByteArray, sliceOp cx m8 9 (.string (s0_4)) (some (.int .i64 (addI .i64 (x39) (lenI (lenS (s1)))))) none none = some (.string s55) ∧ (∃ n_7 : Nat, n_7 < n_6 ∧ Inv (s55) (addI .i64 (x10_5) (1 : Int)) m8 n_7)))))))))
  (J_2 (s0_4) (x10_5) m6)))))))) fun J =>
  (splitB (ltI (x3) (0 : Int))
  (CallW cx 46 [.string (s0), .string (s1)] m fun r23 m9 => (∃ (x23 : Int), r23 = (.int .i64 (x23)) ∧ (J (addI .i64 (x23) (1 : Int)) m9)))
  (J (x3) m)))))
theorem F35_eq (s0 : ByteArray) (s1 : ByteArray) (x2 : Int) (x3 : Int) (m : Mem) (Q : Value → Mem → Prop) : F35 s0 s1 x2 x3 m Q = vFn cx Tryd.f35 A35 [.string (s0), .string (s1), .int .i64 (x2), .int .i64 (x3)] m Q := by kernel_rfl
theorem F35_ok {s0 : ByteArray} {s1 : ByteArray} {x2 : Int} {x3 : Int} {m : Mem} {Q : Value → Mem → Prop} (h : F35 s0 s1 x2 x3 m Q) : CallW cx 35 [.string (s0), .string (s1), .int .i64 (x2), .int .i64 (x3)] m Q :=
  CallW.of (by kernel_rfl) (by kernel_rfl) (Eq.mp (F35_eq s0 s1 x2 x3 m Q) h)

-- 22 strings.Split
noncomputable def A22 : Ann := [none, none]
def F22 (s0 : ByteArray) (s1 : ByteArray) (m : Mem) (Q : Value → Mem → Prop) : Prop :=
  (CallW cx 35 [.string (s0), .string (s1), .int .i64 (0 : Int), .int .i64 (-1 : Int)] m fun r7 m1 => (∃ (a7 : Option Addr) (n7 c7 : Nat), r7 = (.slice a7 (n7) (c7)) ∧ (Q (.slice a7 (n7) (c7)) m1)))
theorem F22_eq (s0 : ByteArray) (s1 : ByteArray) (m : Mem) (Q : Value → Mem → Prop) : F22 s0 s1 m Q = vFn cx Tryd.f22 A22 [.string (s0), .string (s1)] m Q := by kernel_rfl
theorem F22_ok {s0 : ByteArray} {s1 : ByteArray} {m : Mem} {Q : Value → Mem → Prop} (h : F22 s0 s1 m Q) : CallW cx 22 [.string (s0), .string (s1)] m Q :=
  CallW.of (by kernel_rfl) (by kernel_rfl) (Eq.mp (F22_eq s0 s1 m Q) h)

-- 32 internal/stringslite.CutSuffix
noncomputable def A32 : Ann := [none, none, none, none, none]
def F32 (s0 : ByteArray) (s1 : ByteArray) (m : Mem) (Q : Value → Mem → Prop) : Prop :=
  (CallW cx 40 [.string (s0), .string (s1)] m fun r8 m1 => (∃ (b8 : Bool), r8 = (.bool (b8)) ∧ (splitB (!(b8))
  (Q (.tuple #[.string (s0), .bool (false)]) m1)
  (∃ s17 : ByteArray, sliceOp cx m1 9 (.string (s0)) none (some (.int .i64 (subI .i64 (lenI (lenS (s0))) (lenI (lenS (s1)))))) none = some (.string s17) ∧ (Q (.tuple #[.string (s17), .bool (true)]) m1)))))
theorem F32_eq (s0 : ByteArray) (s1 : ByteArray) (m : Mem) (Q : Value → Mem → Prop) : F32 s0 s1 m Q = vFn cx Tryd.f32 A32 [.string (s0), .string (s1)] m Q := by kernel_rfl
theorem F32_ok {s0 : ByteArray} {s1 : ByteArray} {m : Mem} {Q : Value → Mem → Prop} (h : F32 s0 s1 m Q) : CallW cx 32 [.string (s0), .string (s1)] m Q :=
  CallW.of (by kernel_rfl) (by kernel_rfl) (Eq.mp (F32_eq s0 s1 m Q) h)

-- 19 strings.CutSuffix
noncomputable def A19 : Ann := [none, none]
def F19 (s0 : ByteArray) (s1 : ByteArray) (m : Mem) (Q : Value → Mem → Prop) : Prop :=
  (CallW cx 32 [.string (s0), .string (s1)] m fun r8 m1 => (∃ (s8 : ByteArray), (∃ (b8 : Bool), r8 = (.tuple #[.string (s8), .bool (b8)]) ∧ (Q (.tuple #[.string (s8), .bool (b8)]) m1))))
theorem F19_eq (s0 : ByteArray) (s1 : ByteArray) (m : Mem) (Q : Value → Mem → Prop) : F19 s0 s1 m Q = vFn cx Tryd.f19 A19 [.string (s0), .string (s1)] m Q := by kernel_rfl
theorem F19_ok {s0 : ByteArray} {s1 : ByteArray} {m : Mem} {Q : Value → Mem → Prop} (h : F19 s0 s1 m Q) : CallW cx 19 [.string (s0), .string (s1)] m Q :=
  CallW.of (by kernel_rfl) (by kernel_rfl) (Eq.mp (F19_eq s0 s1 m Q) h)

-- 40 internal/stringslite.HasSuffix
noncomputable def A40 : Ann := [none, none]
def F40 (s0 : ByteArray) (s1 : ByteArray) (m : Mem) (Q : Value → Mem → Prop) : Prop :=
  (splitB (leI (lenI (lenS (s1))) (lenI (lenS (s0)))) (∃ s17 : ByteArray, sliceOp cx m 9 (.string (s0)) (some (.int .i64 (subI .i64 (lenI (lenS (s0))) (lenI (lenS (s1)))))) none none = some (.string s17) ∧ (Q (.bool (eqS (s17) (s1))) m)) (Q (.bool (false)) m))
theorem F40_eq (s0 : ByteArray) (s1 : ByteArray) (m : Mem) (Q : Value → Mem → Prop) : F40 s0 s1 m Q = vFn cx Tryd.f40 A40 [.string (s0), .string (s1)] m Q := by kernel_rfl
theorem F40_ok {s0 : ByteArray} {s1 : ByteArray} {m : Mem} {Q : Value → Mem → Prop} (h : F40 s0 s1 m Q) : CallW cx 40 [.string (s0), .string (s1)] m Q :=
  CallW.of (by kernel_rfl) (by kernel_rfl) (Eq.mp (F40_eq s0 s1 m Q) h)

-- 39 internal/stringslite.TrimSuffix
noncomputable def A39 : Ann := [none, none, none, none, none]
def F39 (s0 : ByteArray) (s1 : ByteArray) (m : Mem) (Q : Value → Mem → Prop) : Prop :=
  (CallW cx 40 [.string (s0), .string (s1)] m fun r7 m1 => (∃ (b7 : Bool), r7 = (.bool (b7)) ∧ (splitB (b7)
  (∃ s14 : ByteArray, sliceOp cx m1 9 (.string (s0)) none (some (.int .i64 (subI .i64 (lenI (lenS (s0))) (lenI (lenS (s1)))))) none = some (.string s14) ∧ (Q (.string (s14)) m1))
  (Q (.string (s0)) m1))))
theorem F39_eq (s0 : ByteArray) (s1 : ByteArray) (m : Mem) (Q : Value → Mem → Prop) : F39 s0 s1 m Q = vFn cx Tryd.f39 A39 [.string (s0), .string (s1)] m Q := by kernel_rfl
theorem F39_ok {s0 : ByteArray} {s1 : ByteArray} {m : Mem} {Q : Value → Mem → Prop} (h : F39 s0 s1 m Q) : CallW cx 39 [.string (s0), .string (s1)] m Q :=
  CallW.of (by kernel_rfl) (by kernel_rfl) (Eq.mp (F39_eq s0 s1 m Q) h)

-- 27 strings.TrimSuffix
noncomputable def A27 : Ann := [none, none]
def F27 (s0 : ByteArray) (s1 : ByteArray) (m : Mem) (Q : Value → Mem → Prop) : Prop :=
  (CallW cx 39 [.string (s0), .string (s1)] m fun r7 m1 => (∃ (s7 : ByteArray), r7 = (.string (s7)) ∧ (Q (.string (s7)) m1)))
theorem F27_eq (s0 : ByteArray) (s1 : ByteArray) (m : Mem) (Q : Value → Mem → Prop) : F27 s0 s1 m Q = vFn cx Tryd.f27 A27 [.string (s0), .string (s1)] m Q := by kernel_rfl
theorem F27_ok {s0 : ByteArray} {s1 : ByteArray} {m : Mem} {Q : Value → Mem → Prop} (h : F27 s0 s1 m Q) : CallW cx 27 [.string (s0), .string (s1)] m Q :=
  CallW.of (by kernel_rfl) (by kernel_rfl) (Eq.mp (F27_eq s0 s1 m Q) h)

-- 65 errors.New
noncomputable def A65 : Ann := [none, none]
def F65 (s0 : ByteArray) (m : Mem) (Q : Value → Mem → Prop) : Prop :=
  (mBind (newO m (row [.string (s0)] 101 false)) fun m1 => (Q (.iface 99 (.pointer (some ⟨m.nx, 0, none⟩))) m1))
theorem F65_eq (s0 : ByteArray) (m : Mem) (Q : Value → Mem → Prop) : F65 s0 m Q = vFn cx Tryd.f65 A65 [.string (s0)] m Q := by kernel_rfl
theorem F65_ok {s0 : ByteArray} {m : Mem} {Q : Value → Mem → Prop} (h : F65 s0 m Q) : CallW cx 65 [.string (s0)] m Q :=
  CallW.of (by kernel_rfl) (by kernel_rfl) (Eq.mp (F65_eq s0 m Q) h)

-- 49 strconv.syntaxError
noncomputable def A49 : Ann := [none, none]
def F49 (s0 : ByteArray) (s1 : ByteArray) (m : Mem) (Q : Value → Mem → Prop) : Prop :=
  (mBind (bump m 7) fun m1 => (CallW cx 64 [.string (s1)] ((setFl (m1) m.nx)) fun r7 m2 => (∃ (s7 : ByteArray), r7 = (.string (s7)) ∧ (∃ (v8 : Value), rd m1 1 (0) = some (v8) ∧ (vOne v8 (mBind (addO ((setFl m2 m1.fl)) (m.nx + 5) (row [.string (s0), .string (s7), v8] 95 false)) fun m3 => (Q (.pointer (some ⟨(m.nx + 5), 0, none⟩)) m3)))))))
theorem F49_eq (s0 : ByteArray) (s1 : ByteArray) (m : Mem) (Q : Value → Mem → Prop) : F49 s0 s1 m Q = vFn cx Tryd.f49 A49 [.string (s0), .string (s1)] m Q := by kernel_rfl
theorem F49_ok {s0 : ByteArray} {s1 : ByteArray} {m : Mem} {Q : Value → Mem → Prop} (h : F49 s0 s1 m Q) : CallW cx 49 [.string (s0), .string (s1)] m Q :=
  CallW.of (by kernel_rfl) (by kernel_rfl) (Eq.mp (F49_eq s0 s1 m Q) h)

-- 50 strconv.rangeError
noncomputable def A50 : Ann := [none, none]
def F50 (s0 : ByteArray) (s1 : ByteArray) (m : Mem) (Q : Value → Mem → Prop) : Prop :=
  (mBind (bump m 7) fun m1 => (CallW cx 64 [.string (s1)] ((setFl (m1) m.nx)) fun r7 m2 => (∃ (s7 : ByteArray), r7 = (.string (s7)) ∧ (∃ (v8 : Value), rd m1 2 (0) = some (v8) ∧ (vOne v8 (mBind (addO ((setFl m2 m1.fl)) (m.nx + 5) (row [.string (s0), .string (s7), v8] 95 false)) fun m3 => (Q (.pointer (some ⟨(m.nx + 5), 0, none⟩)) m3)))))))
theorem F50_eq (s0 : ByteArray) (s1 : ByteArray) (m : Mem) (Q : Value → Mem → Prop) : F50 s0 s1 m Q = vFn cx Tryd.f50 A50 [.string (s0), .string (s1)] m Q := by kernel_rfl
theorem F50_ok {s0 : ByteArray} {s1 : ByteArray} {m : Mem} {Q : Value → Mem → Prop} (h : F50 s0 s1 m Q) : CallW cx 50 [.string (s0), .string (s1)] m Q :=
  CallW.of (by kernel_rfl) (by kernel_rfl) (Eq.mp (F50_eq s0 s1 m Q) h)

-- 37 strconv.toError
noncomputable def A37 : Ann := [none, none, none, none, none, none, none, none, none, none, none, none]
def F37 (s0 : ByteArray) (s1 : ByteArray) (x2 : Int) (x3 : Int) (v4 : Value) (m : Mem) (Q : Value → Mem → Prop) : Prop :=
  ((((v4) : Value) = .nilIface → ((.iface 74 (.int .i64 (2 : Int))) : Value) = .nilIface → False) ∧ (∃ r : Bool, eqV cx m 40 49 (v4) (.iface 74 (.int .i64 (2 : Int))) = some r ∧ (splitB (r)
  (CallW cx 49 [.string (s0), .string (s1)] m fun r17 m1 => (∃ (p17 : Option Addr), r17 = (.pointer p17) ∧ (Q (.iface 78 (.pointer p17)) m1)))
  ((((v4) : Value) = .nilIface → ((.iface 74 (.int .i64 (1 : Int))) : Value) = .nilIface → False) ∧ (∃ r_1 : Bool, eqV cx m 40 49 (v4) (.iface 74 (.int .i64 (1 : Int))) = some r_1 ∧ (splitB (r_1)
  (CallW cx 50 [.string (s0), .string (s1)] m fun r24 m2 => (∃ (p24 : Option Addr), r24 = (.pointer p24) ∧ (Q (.iface 78 (.pointer p24)) m2)))
  ((((v4) : Value) = .nilIface → ((.iface 74 (.int .i64 (3 : Int))) : Value) = .nilIface → False) ∧ (∃ r_2 : Bool, eqV cx m 40 49 (v4) (.iface 74 (.int .i64 (3 : Int))) = some r_2 ∧ (splitB (r_2)
  (CallW cx 51 [.string (s0), .string (s1), .int .i64 (x2)] m fun r32 m3 => (∃ (p32 : Option Addr), r32 = (.pointer p32) ∧ (Q (.iface 78 (.pointer p32)) m3)))
  ((((v4) : Value) = .nilIface → ((.iface 74 (.int .i64 (4 : Int))) : Value) = .nilIface → False) ∧ (∃ r_3 : Bool, eqV cx m 40 49 (v4) (.iface 74 (.int .i64 (4 : Int))) = some r_3 ∧ (splitB (r_3)
  (CallW cx 52 [.string (s0), .string (s1), .int .i64 (x3)] m fun r40 m4 => (∃ (p40 : Option Addr), r40 = (.pointer p40) ∧ (Q (.iface 78 (.pointer p40)) m4)))
  (Q (v4) m)))))))))))))
theorem F37_eq (s0 : ByteArray) (s1 : ByteArray) (x2 : Int) (x3 : Int) (v4 : Value) (m : Mem) (Q : Value → Mem → Prop) : F37 s0 s1 x2 x3 v4 m Q = vFn cx Tryd.f37 A37 [.string (s0), .string (s1), .int .i64 (x2), .int .i64 (x3), v4] m Q := by kernel_rfl
theorem F37_ok {s0 : ByteArray} {s1 : ByteArray} {x2 : Int} {x3 : Int} {v4 : Value} {m : Mem} {Q : Value → Mem → Prop} (h : F37 s0 s1 x2 x3 v4 m Q) : CallW cx 37 [.string (s0), .string (s1), .int .i64 (x2), .int .i64 (x3), v4] m Q :=
  CallW.of (by kernel_rfl) (by kernel_rfl) (Eq.mp (F37_eq s0 s1 x2 x3 v4 m Q) h)

-- 23 strconv.ParseInt
noncomputable def A23 : Ann := [none, none, none, none, none, none]
def F23 (s0 : ByteArray) (x1 : Int) (x2 : Int) (m : Mem) (Q : Value → Mem → Prop) : Prop :=
  (CallW cx 36 [.string (s0), .int .i64 (x1), .int .i64 (x2)] m fun r13 m1 => (∃ (x13 : Int), (∃ (v13 : Value), r13 = (.tuple #[.int .i64 (x13), v13]) ∧ (∃ r : Bool, eqV cx m1 40 49 (v13) (.nilIface) = some r ∧ (splitB (!r)
  (CallW cx 37 [.string (ByteArray.mk #[80, 97, 114, 115, 101, 73, 110, 116]), .string (s0), .int .i64 (x1), .int .i64 (x2), v13] m1 fun r23 m2 => (∃ (v23 : Value), r23 = (v23) ∧ (Q (.tuple #[.int .i64 (x13), v23]) m2)))
  (Q (.tuple #[.int .i64 (x13), .nilIface]) m1))))))
theorem F23_eq (s0 : ByteArray) (x1 : Int) (x2 : Int) (m : Mem) (Q : Value → Mem → Prop) : F23 s0 x1 x2 m Q = vFn cx Tryd.f23 A23 [.string (s0), .int .i64 (x1), .int .i64 (x2)] m Q := by kernel_rfl
theorem F23_ok {s0 : ByteArray} {x1 : Int} {x2 : Int} {m : Mem} {Q : Value → Mem → Prop} (h : F23 s0 x1 x2 m Q) : CallW cx 23 [.string (s0), .int .i64 (x1), .int .i64 (x2)] m Q :=
  CallW.of (by kernel_rfl) (by kernel_rfl) (Eq.mp (F23_eq s0 x1 x2 m Q) h)

-- 24 strconv.Atoi
noncomputable def A24 : Ann := [none, none, none, none, none, none]
def F24 (s0 : ByteArray) (m : Mem) (Q : Value → Mem → Prop) : Prop :=
  (CallW cx 38 [.string (s0)] m fun r8 m1 => (∃ (x8 : Int), (∃ (v8 : Value), r8 = (.tuple #[.int .i64 (x8), v8]) ∧ (∃ r : Bool, eqV cx m1 40 49 (v8) (.nilIface) = some r ∧ (splitB (!r)
  (CallW cx 37 [.string (ByteArray.mk #[65, 116, 111, 105]), .string (s0), .int .i64 (0 : Int), .int .i64 (0 : Int), v8] m1 fun r16 m2 => (∃ (v16 : Value), r16 = (v16) ∧ (Q (.tuple #[.int .i64 (x8), v16]) m2)))
  (Q (.tuple #[.int .i64 (x8), .nilIface]) m1))))))
theorem F24_eq (s0 : ByteArray) (m : Mem) (Q : Value → Mem → Prop) : F24 s0 m Q = vFn cx Tryd.f24 A24 [.string (s0)] m Q := by kernel_rfl
theorem F24_ok {s0 : ByteArray} {m : Mem} {Q : Value → Mem → Prop} (h : F24 s0 m Q) : CallW cx 24 [.string (s0)] m Q :=
  CallW.of (by kernel_rfl) (by kernel_rfl) (Eq.mp (F24_eq s0 m Q) h)

-- 18 beadle/note.words
noncomputable def A18 : Ann := [none, none]
def F18  (m : Mem) (Q : Value → Mem → Prop) : Prop :=
  (mBind (newO m (row [.string (ByteArray.mk #[]), .string (ByteArray.mk #[114, 101, 108, 101, 97, 115, 101, 32]), .string (ByteArray.mk #[100, 111, 110, 101, 32]), .string (ByteArray.mk #[97, 98, 111, 114, 116, 32]), .string (ByteArray.mk #[119, 97, 105, 116]), .string (ByteArray.mk #[116, 117, 114, 110]), .string (ByteArray.mk #[103, 114, 97, 110, 116, 32]), .string (ByteArray.mk #[100, 101, 97, 100]), .string (ByteArray.mk #[103, 97, 116, 101, 32]), .string (ByteArray.mk #[119, 97, 107, 101]), .string (ByteArray.mk #[105, 100, 108, 101])] 9 false)) fun m1 => (Q (.slice (some ⟨m.nx, 0, none⟩) (11) (11)) m1))
theorem F18_eq  (m : Mem) (Q : Value → Mem → Prop) : F18  m Q = vFn cx Tryd.f18 A18 [] m Q := by kernel_rfl
theorem F18_ok  {m : Mem} {Q : Value → Mem → Prop} (h : F18  m Q) : CallW cx 18 [] m Q :=
  CallW.of (by kernel_rfl) (by kernel_rfl) (Eq.mp (F18_eq  m Q) h)

-- 26 beadle/note.Parse$1
noncomputable def A26 : Ann := [none, none]
def F26 (s0 : ByteArray) (p1 : Option Addr) (m : Mem) (Q : Value → Mem → Prop) : Prop :=
  (mBind (bump m 11) fun m1 => (splitB (!eqS (s0) (ByteArray.mk #[])) (CallW cx 27 [.string (s0), .string (ByteArray.mk #[32])] ((setFl (m1) m.nx)) fun r8 m2 => (∃ (s8 : ByteArray), r8 = (.string (s8)) ∧ (vPtr p1 fun bp1 op1 => (∃ (a9 : Option Addr) (n9 c9 : Nat), rd m1 bp1 (op1) = some (.slice a9 (n9) (c9)) ∧ ((0 ≤ (1 : Int) ∧ (1 : Int) < ((n9 : Nat) : Int)) ∧ (vPtr a9 fun ba9 oa9 => (∃ (s11 : ByteArray), rd m1 ba9 (oa9 + Int.toNat (1 : Int) * 1) = some (.string (s11)) ∧ (Q (.bool (eqS (s8) (s11))) ((setFl m2 m1.fl)))))))))) (Q (.bool (false)) m1)))
theorem F26_eq (s0 : ByteArray) (p1 : Option Addr) (m : Mem) (Q : Value → Mem → Prop) : F26 s0 p1 m Q = vFn cx Tryd.f26 A26 [.string (s0), .pointer p1] m Q := by kernel_rfl
theorem F26_ok {s0 : ByteArray} {p1 : Option Addr} {m : Mem} {Q : Value → Mem → Prop} (h : F26 s0 p1 m Q) : CallW cx 26 [.string (s0), .pointer p1] m Q :=
  CallW.of (by kernel_rfl) (by kernel_rfl) (Eq.mp (F26_eq s0 p1 m Q) h)

-- 25 slices.IndexFunc[[]string,string]
noncomputable def A25 : Ann := [none, none, none, some ([0, 1, 7], [(8, .int .i64)]), none, none, none, none, none, none, none]
def F25 (a0 : Option Addr) (n0 c0 : Nat) (v1 : Value) (m : Mem) (Q : Value → Mem → Prop) : Prop :=
  (∃ Inv : Int → Mem → Nat → Prop, (∃ n : Nat, Inv (0 : Int) m n) ∧
  (∀ (x8 : Int), ∀ (m1 : Mem) (n_1 : Nat), Inv (x8) m1 n_1 →
  (splitB (ltI (x8) (lenI (n0)))
  ((0 ≤ (x8) ∧ (x8) < ((n0 : Nat) : Int)) ∧ (vPtr a0 fun ba0 oa0 => (∃ (s15 : ByteArray), rd m1 ba0 (oa0 + Int.toNat (x8) * 1) = some (.string (s15)) ∧ (vCallF cx m1 (v1) [.string (s15)] fun r16 m2 => (∃ (b16 : Bool), r16 = (.bool (b16)) ∧ (splitB (b16)
  (Q (.int .i64 (x8)) m2)
  (∃ n_2 : Nat, n_2 < n_1 ∧ Inv (addI .i64 (x8) (1 : Int)) m2 n_2)))))))
  (Q (.int .i64 (-1 : Int)) m1))))
theorem F25_eq (a0 : Option Addr) (n0 c0 : Nat) (v1 : Value) (m : Mem) (Q : Value → Mem → Prop) : F25 a0 n0 c0 v1 m Q = vFn cx Tryd.f25 A25 [.slice a0 (n0) (c0), v1] m Q := by kernel_rfl
theorem F25_ok {a0 : Option Addr} {n0 c0 : Nat} {v1 : Value} {m : Mem} {Q : Value → Mem → Prop} (h : F25 a0 n0 c0 v1 m Q) : CallW cx 25 [.slice a0 (n0) (c0), v1] m Q :=
  CallW.of (by kernel_rfl) (by kernel_rfl) (Eq.mp (F25_eq a0 n0 c0 v1 m Q) h)

-- 8 beadle/note.Text
noncomputable def A8 : Ann := [none, none, some ([1, 3], []), none, none, none, none, none, none, none]
def F8 (x0 : Int) (x0_1 : Int) (x0_2 : Int) (x0_3 : Int) (m : Mem) (Q : Value → Mem → Prop) : Prop :=
  (mBind (newO m (row [.int .i64 (x0), .int .i64 (x0_1), .int .i64 (x0_2), .int .i64 (x0_3)] 23 false)) fun m1 => (CallW cx 18 [] m1 fun r7 m2 => (∃ (a7 : Option Addr) (n7 c7 : Nat), r7 = (.slice a7 (n7) (c7)) ∧ (joinK (fun  (m3 : Mem) => (∃ (x36 : Int), rd m3 m.nx (1) = some (.int .i64 (x36)) ∧ ((0 ≤ (x36) ∧ (x36) < ((n7 : Nat) : Int)) ∧ (vPtr a7 fun ba7 oa7 => (∃ (s38 : ByteArray), rd m3 ba7 (oa7 + Int.toNat (x36) * 1) = some (.string (s38)) ∧ (CallW cx 19 [.string (s38), .string (ByteArray.mk #[32])] m3 fun r39 m4 => (∃ (s39 : ByteArray), (∃ (b39 : Bool), r39 = (.tuple #[.string (s39), .bool (b39)]) ∧ (mBind (bump m4 12) fun m5 => (∃ (x43 : Int), rd m5 m.nx (0) = some (.int .i64 (x43)) ∧ (CallW cx 20 [.int .i64 (x43), .int .i64 (10 : Int)] ((setFl (m5) m4.nx)) fun r44 m6 => (∃ (s44 : ByteArray), r44 = (.string (s44)) ∧ (lenS (s44) + lenS (ByteArray.mk #[32]) ≤ 140737488355328 ∧ (lenS (catS (s44) (ByteArray.mk #[32])) + lenS (s39) ≤ 140737488355328 ∧ (lenS (catS (catS (s44) (ByteArray.mk #[32])) (s39)) + lenS (ByteArray.mk #[32]) ≤ 140737488355328 ∧ (∃ (x50 : Int), rd m5 m.nx (2) = some (.int .i64 (x50)) ∧ (CallW cx 21 [.int .i64 (x50)] (((setFl m6 m5.fl))) fun r51 m7 => (∃ (s51 : ByteArray), r51 = (.string (s51)) ∧ (lenS (catS (catS (catS (s44) (ByteArray.mk #[32])) (s39)) (ByteArray.mk #[32])) + lenS (s51) ≤ 140737488355328 ∧ (splitB (b39)
  (∃ (x56 : Int), rd m7 m.nx (3) = some (.int .i64 (x56)) ∧ (CallW cx 20 [.int .i64 (x56), .int .i64 (10 : Int)] m7 fun r57 m8 => (∃ (s57 : ByteArray), r57 = (.string (s57)) ∧ (lenS (ByteArray.mk #[32]) + lenS (s57) ≤ 140737488355328 ∧ (lenS (catS (catS (catS (catS (s44) (ByteArray.mk #[32])) (s39)) (ByteArray.mk #[32])) (s51)) + lenS (catS (ByteArray.mk #[32]) (s57)) ≤ 140737488355328 ∧ (Q (.string (catS (catS (catS (catS (catS (s44) (ByteArray.mk #[32])) (s39)) (ByteArray.mk #[32])) (s51)) (catS (ByteArray.mk #[32]) (s57)))) m8))))))
  (Q (.string (catS (catS (catS (catS (s44) (ByteArray.mk #[32])) (s39)) (ByteArray.mk #[32])) (s51))) m7))))))))))))))))))))) fun J =>
  (∃ (x9 : Int), rd m2 m.nx (1) = some (.int .i64 (x9)) ∧ (splitB (ltI (x9) (1 : Int)) (Q (.string (ByteArray.mk #[])) m2) (∃ (x13 : Int), rd m2 m.nx (1) = some (.int .i64 (x13)) ∧ (splitB (leI (lenI (n7)) (x13)) (Q (.string (ByteArray.mk #[])) m2) (∃ (x20 : Int), rd m2 m.nx (0) = some (.int .i64 (x20)) ∧ (splitB (ltI (x20) (0 : Int)) (Q (.string (ByteArray.mk #[])) m2) (∃ (x25 : Int), rd m2 m.nx (2) = some (.int .i64 (x25)) ∧ (splitB (ltI (x25) (0 : Int)) (Q (.string (ByteArray.mk #[])) m2) (∃ (x30 : Int), rd m2 m.nx (3) = some (.int .i64 (x30)) ∧ (splitB (ltI (x30) (0 : Int))
  (Q (.string (ByteArray.mk #[])) m2)
  (J  m2)))))))))))))))
theorem F8_eq (x0 : Int) (x0_1 : Int) (x0_2 : Int) (x0_3 : Int) (m : Mem) (Q : Value → Mem → Prop) : F8 x0 x0_1 x0_2 x0_3 m Q = vFn cx Tryd.f8 A8 [.agg #[.int .i64 (x0), .int .i64 (x0_1), .int .i64 (x0_2), .int .i64 (x0_3)]] m Q := by kernel_rfl
theorem F8_ok {x0 : Int} {x0_1 : Int} {x0_2 : Int} {x0_3 : Int} {m : Mem} {Q : Value → Mem → Prop} (h : F8 x0 x0_1 x0_2 x0_3 m Q) : CallW cx 8 [.agg #[.int .i64 (x0), .int .i64 (x0_1), .int .i64 (x0_2), .int .i64 (x0_3)]] m Q :=
  CallW.of (by kernel_rfl) (by kernel_rfl) (Eq.mp (F8_eq x0 x0_1 x0_2 x0_3 m Q) h)

-- 9 beadle/note.Parse
noncomputable def A9 : Ann := [none, none, none, none, none, none, none, none, none, some ([0, 2, 5], []), none, none, none, none, none]
def F9 (s0 : ByteArray) (m : Mem) (Q : Value → Mem → Prop) : Prop :=
  (mBind (newO m (row [.int .i64 (0 : Int), .int .i64 (0 : Int), .int .i64 (0 : Int), .int .i64 (0 : Int)] 23 false)) fun m1 => (CallW cx 22 [.string (s0), .string (ByteArray.mk #[32])] m1 fun r7 m2 => (∃ (a7 : Option Addr) (n7 c7 : Nat), r7 = (.slice a7 (n7) (c7)) ∧ (mBind (newO m2 (row [.slice none (0) (0)] 37 false)) fun m3 => (okW m3 m2.nx (0) 1 ∧ (mBind (wr m3 m2.nx (0) [.slice a7 (n7) (c7)]) fun m4 => (∃ (a8 : Option Addr) (n8 c8 : Nat), rd m4 m2.nx (0) = some (.slice a8 (n8) (c8)) ∧ (splitB (ltI (lenI (n8)) (3 : Int))
  (okW m4 m.nx (0) 4 ∧ (mBind (wr m4 m.nx (0) [.int .i64 (0 : Int), .int .i64 (0 : Int), .int .i64 (0 : Int), .int .i64 (0 : Int)]) fun m5 => (∃ (xr : Int), rd m5 m.nx (0) = some (.int .i64 (xr)) ∧ (∃ (xr_1 : Int), rd m5 m.nx (1) = some (.int .i64 (xr_1)) ∧ (∃ (xr_2 : Int), rd m5 m.nx (2) = some (.int .i64 (xr_2)) ∧ (∃ (xr_3 : Int), rd m5 m.nx (3) = some (.int .i64 (xr_3)) ∧ (Q (.tuple #[.agg #[.int .i64 (xr), .int .i64 (xr_1), .int .i64 (xr_2), .int .i64 (xr_3)], .bool (false)]) m5)))))))
  (mBind (newO m4 (row [.int .i64 (0 : Int), .int .i64 (0 : Int), .int .i64 (0 : Int), .int .i64 (0 : Int)] 23 false)) fun m6 => (∃ (a13 : Option Addr) (n13 c13 : Nat), rd m6 m2.nx (0) = some (.slice a13 (n13) (c13)) ∧ ((0 ≤ (0 : Int) ∧ (0 : Int) < ((n13 : Nat) : Int)) ∧ (vPtr a13 fun ba13 oa13 => (∃ (s15 : ByteArray), rd m6 ba13 (oa13 + Int.toNat (0 : Int) * 1) = some (.string (s15)) ∧ (CallW cx 23 [.string (s15), .int .i64 (10 : Int), .int .i64 (64 : Int)] m6 fun r16 m7 => (∃ (x16 : Int), (∃ (v16 : Value), r16 = (.tuple #[.int .i64 (x16), v16]) ∧ (okW m7 m4.nx (0) 1 ∧ (mBind (wr m7 m4.nx (0) [.int .i64 (x16)]) fun m8 => (∃ (a21 : Option Addr) (n21 c21 : Nat), rd m8 m2.nx (0) = some (.slice a21 (n21) (c21)) ∧ ((0 ≤ (2 : Int) ∧ (2 : Int) < ((n21 : Nat) : Int)) ∧ (vPtr a21 fun ba21 oa21 => (∃ (s23 : ByteArray), rd m8 ba21 (oa21 + Int.toNat (2 : Int) * 1) = some (.string (s23)) ∧ (CallW cx 24 [.string (s23)] m8 fun r24 m9 => (∃ (x24 : Int), (∃ (v24 : Value), r24 = (.tuple #[.int .i64 (x24), v24]) ∧ (okW m9 m4.nx (2) 1 ∧ (mBind (wr m9 m4.nx (2) [.int .i64 (x24)]) fun m10 => (CallW cx 18 [] m10 fun r28 m11 => (∃ (a28 : Option Addr) (n28 c28 : Nat), r28 = (.slice a28 (n28) (c28)) ∧ (CallW cx 25 [.slice a28 (n28) (c28), .func (.func 26) #[] #[.pointer (some ⟨m2.nx, 0, none⟩)]] m11 fun r30 m12 => (∃ (x30 : Int), r30 = (.int .i64 (x30)) ∧ (okW m12 m4.nx (1) 1 ∧ (mBind (wr m12 m4.nx (1) [.int .i64 (x30)]) fun m13 => (joinK (fun  (m14 : Mem) => (∃ (x43 : Int), rd m14 m4.nx (0) = some (.int .i64 (x43)) ∧ (∃ (x43_4 : Int), rd m14 m4.nx (1) = some (.int .i64 (x43_4)) ∧ (∃ (x43_5 : Int), rd m14 m4.nx (2) = some (.int .i64 (x43_5)) ∧ (∃ (x43_6 : Int), rd m14 m4.nx (3) = some (.int .i64 (x43_6)) ∧ (CallW cx 8 [.agg #[.int .i64 (x43), .int .i64 (x43_4), .int .i64 (x43_5), .int .i64 (x43_6)]] m14 fun r44 m15 => (∃ (s44 : ByteArray), r44 = (.string (s44)) ∧ (splitB (!eqS (s44) (s0))
  (okW m15 m.nx (0) 4 ∧ (mBind (wr m15 m.nx (0) [.int .i64 (0 : Int), .int .i64 (0 : Int), .int .i64 (0 : Int), .int .i64 (0 : Int)]) fun m16 => (∃ (xr_7 : Int), rd m16 m.nx (0) = some (.int .i64 (xr_7)) ∧ (∃ (xr_8 : Int), rd m16 m.nx (1) = some (.int .i64 (xr_8)) ∧ (∃ (xr_9 : Int), rd m16 m.nx (2) = some (.int .i64 (xr_9)) ∧ (∃ (xr_10 : Int), rd m16 m.nx (3) = some (.int .i64 (xr_10)) ∧ (Q (.tuple #[.agg #[.int .i64 (xr_7), .int .i64 (xr_8), .int .i64 (xr_9), .int .i64 (xr_10)], .bool (false)]) m16)))))))
  (∃ (x48 : Int), rd m15 m4.nx (0) = some (.int .i64 (x48)) ∧ (∃ (x48_11 : Int), rd m15 m4.nx (1) = some (.int .i64 (x48_11)) ∧ (∃ (x48_12 : Int), rd m15 m4.nx (2) = some (.int .i64 (x48_12)) ∧ (∃ (x48_13 : Int), rd m15 m4.nx (3) = some (.int .i64 (x48_13)) ∧ (okW m15 m.nx (0) 4 ∧ (mBind (wr m15 m.nx (0) [.int .i64 (x48), .int .i64 (x48_11), .int .i64 (x48_12), .int .i64 (x48_13)]) fun m17 => (∃ (xr_14 : Int), rd m17 m.nx (0) = some (.int .i64 (xr_14)) ∧ (∃ (xr_15 : Int), rd m17 m.nx (1) = some (.int .i64 (xr_15)) ∧ (∃ (xr_16 : Int), rd m17 m.nx (2) = some (.int .i64 (xr_16)) ∧ (∃ (xr_17 : Int), rd m17 m.nx (3) = some (.int .i64 (xr_17)) ∧ (Q (.tuple #[.agg #[.int .i64 (xr_14), .int .i64 (xr_15), .int .i64 (xr_16), .int .i64 (xr_17)], .bool (true)]) m17))))))))))))))))))) fun J =>
  (∃ (a32 : Option Addr) (n32 c32 : Nat), rd m13 m2.nx (0) = some (.slice a32 (n32) (c32)) ∧ (splitB (ltI (3 : Int) (lenI (n32)))
  (∃ (a36 : Option Addr) (n36 c36 : Nat), rd m13 m2.nx (0) = some (.slice a36 (n36) (c36)) ∧ ((0 ≤ (3 : Int) ∧ (3 : Int) < ((n36 : Nat) : Int)) ∧ (vPtr a36 fun ba36 oa36 => (∃ (s38 : ByteArray), rd m13 ba36 (oa36 + Int.toNat (3 : Int) * 1) = some (.string (s38)) ∧ (CallW cx 23 [.string (s38), .int .i64 (10 : Int), .int .i64 (64 : Int)] m13 fun r39 m18 => (∃ (x39 : Int), (∃ (v39 : Value), r39 = (.tuple #[.int .i64 (x39), v39]) ∧ (okW m18 m4.nx (3) 1 ∧ (mBind (wr m18 m4.nx (3) [.int .i64 (x39)]) fun m19 => (J  m19))))))))))
  (J  m13)))))))))))))))))))))))))))))))))))))
theorem F9_eq (s0 : ByteArray) (m : Mem) (Q : Value → Mem → Prop) : F9 s0 m Q = vFn cx Tryd.f9 A9 [.string (s0)] m Q := by kernel_rfl
theorem F9_ok {s0 : ByteArray} {m : Mem} {Q : Value → Mem → Prop} (h : F9 s0 m Q) : CallW cx 9 [.string (s0)] m Q :=
  CallW.of (by kernel_rfl) (by kernel_rfl) (Eq.mp (F9_eq s0 m Q) h)

-- 4 beadle/beadlelaw21.NoteLast
noncomputable def A4 : Ann := [none, none, none, none, some ([0, 1], []), none, none, none, none, none, some ([0, 1, 5], [(6, .int .i64)]), none, none, none, none, some ([1, 5], [(7, .int .i64)]), none, none, some ([1, 7, 8], []), none, none, none, none, some ([1, 7, 8], [(9, .int .i64)]), none, none, none, none, none, none]
def F4 (x0 : Int) (x1 : Int) (m : Mem) (Q : Value → Mem → Prop) : Prop :=
  (CallW cx 7 [] m fun r10 m1 => (∃ (b10 : Bool), r10 = (.bool (b10)) ∧ (splitB (!(b10))
  (Q (.bool (false)) m1)
  (joinK (fun  (m2 : Mem) => (CallW cx 10 [.int .i64 (x0)] m2 fun r27 m3 => (∃ (p27 : Option Addr), r27 = (.pointer p27) ∧ (∃ Inv : Int → Mem → Nat → Prop, (∃ n : Nat, Inv (0 : Int) m3 n) ∧
  (∀ (x6 : Int), ∀ (m4 : Mem) (n_1 : Nat), Inv (x6) m4 n_1 →
  (splitB (ltI (x6) (x1))
  (mBind (newO m4 (row [.int .i64 (x6), .int .i64 (9 : Int), .int .i64 (1 : Int), .int .i64 (0 : Int)] 23 false)) fun m5 => (CallW cx 11 [.pointer p27, .slice (some ⟨m4.nx, 0, none⟩) (1) (1)] m5 fun r37 m6 => r37 = (.tuple #[]) ∧ (∃ n_2 : Nat, n_2 < n_1 ∧ Inv (addI .i64 (x6) (1 : Int)) m6 n_2)))
  (joinK (fun (x7 : Int) (m7 : Mem) => (CallW cx 12 [.pointer p27] m7 fun r44 m8 => (∃ (a44 : Option Addr) (n44 c44 : Nat), r44 = (.slice a44 (n44) (c44)) ∧ (joinK (fun  (m9 : Mem) => (∃ Inv_5 : Int → Mem → Nat → Prop, (∃ n_6 : Nat, Inv_5 (0 : Int) m9 n_6) ∧
  (∀ (x9 : Int), ∀ (m10 : Mem) (n_7 : Nat), Inv_5 (x9) m10 n_7 →
  (splitB (ltI (x9) (x7))
  ((0 ≤ (x9) ∧ (x9) < ((n44 : Nat) : Int)) ∧ (vPtr a44 fun ba44 oa44 => (∃ (x72 : Int), rd m10 ba44 (oa44 + Int.toNat (x9) * 4) = some (.int .i64 (x72)) ∧ (splitB (neI (x72) (addI .i64 (subI .i64 (x1) (x7)) (x9)))
  (Q (.bool (false)) m10)
  (∃ n_8 : Nat, n_8 < n_7 ∧ Inv_5 (addI .i64 (x9) (1 : Int)) m10 n_8)))))
  (Q (.bool (true)) m10))))) fun J_4 =>
  (splitB (neI (lenI (n44)) (x7)) (Q (.bool (false)) m8) (CallW cx 13 [.pointer p27] m8 fun r51 m11 => (∃ (x51 : Int), r51 = (.int .i64 (x51)) ∧ (splitB (neI (x51) (x7)) (Q (.bool (false)) m11) (CallW cx 14 [.pointer p27] m11 fun r57 m12 => (∃ (x57 : Int), r57 = (.int .i64 (x57)) ∧ (splitB (neI (x57) (subI .i64 (x1) (x7)))
  (Q (.bool (false)) m12)
  (J_4  m12)))))))))))) fun J_3 =>
  (splitB (ltI (x0) (x1))
  (J_3 (x0) m4)
  (J_3 (x1) m4))))))))) fun J =>
  (splitB (ltI (x0) (1 : Int)) (Q (.bool (true)) m1) (splitB (ltI (200 : Int) (x0)) (Q (.bool (true)) m1) (splitB (ltI (x1) (0 : Int)) (Q (.bool (true)) m1) (splitB (ltI (500 : Int) (x1))
  (Q (.bool (true)) m1)
  (J  m1)))))))))
theorem F4_eq (x0 : Int) (x1 : Int) (m : Mem) (Q : Value → Mem → Prop) : F4 x0 x1 m Q = vFn cx Tryd.f4 A4 [.int .i64 (x0), .int .i64 (x1)] m Q := by kernel_rfl
theorem F4_ok {x0 : Int} {x1 : Int} {m : Mem} {Q : Value → Mem → Prop} (h : F4 x0 x1 m Q) : CallW cx 4 [.int .i64 (x0), .int .i64 (x1)] m Q :=
  CallW.of (by kernel_rfl) (by kernel_rfl) (Eq.mp (F4_eq x0 x1 m Q) h)

-- 6 beadle/beadlelaw21.NotePlays
noncomputable def A6 : Ann := [none, none, none, none, none, none, none, none, none, none, none, none, some ([0, 1, 2, 3, 9], [(10, .int .i64)]), none, some ([0, 1, 2, 3, 9], [(10, .int .i64)]), none, none, none, some ([0, 1, 2, 3, 9, 10], [(11, .int .i64)]), none, none, none, none, some ([0, 1, 2, 3, 9], [(12, .int .i64)]), none, none, none, none, none, some ([0, 1, 2, 3, 9, 12, 13], [(14, .sl), (15, .sl), (16, .int .i64)]), none, none, none, some ([0, 1, 2, 3, 9, 12, 13, 15, 16], [(14, .sl)]), none, none, none, none, none]
def F6 (x0 : Int) (a1 : Option Addr) (n1 c1 : Nat) (x2 : Int) (x3 : Int) (m : Mem) (Q : Value → Mem → Prop) : Prop :=
  (CallW cx 7 [] m fun r18 m1 => (∃ (b18 : Bool), r18 = (.bool (b18)) ∧ (splitB (!(b18))
  (Q (.bool (false)) m1)
  (splitB (ltI (200 : Int) (lenI (n1)))
  (Q (.bool (true)) m1)
  (CallW cx 10 [.int .i64 (x0)] m1 fun r24 m2 => (∃ (p24 : Option Addr), r24 = (.pointer p24) ∧ (splitB ((Option.isNone p24))
  (Q (.bool (false)) m2)
  (joinK (fun (x10 : Int) (m3 : Mem) => (joinK (fun (x10_2 : Int) (m4 : Mem) => (∃ Inv : Int → Mem → Nat → Prop, (∃ n : Nat, Inv (0 : Int) m4 n) ∧
  (∀ (x11 : Int), ∀ (m5 : Mem) (n_3 : Nat), Inv (x11) m5 n_3 →
  (splitB (ltI (x11) (lenI (n1)))
  ((0 ≤ (x11) ∧ (x11) < ((n1 : Nat) : Int)) ∧ (vPtr a1 fun ba1 oa1 => (∃ (x42 : Int), rd m5 ba1 (oa1 + Int.toNat (x11) * 4) = some (.int .i64 (x42)) ∧ (∃ (x42_4 : Int), rd m5 ba1 (oa1 + Int.toNat (x11) * 4 + 1) = some (.int .i64 (x42_4)) ∧ (∃ (x42_5 : Int), rd m5 ba1 (oa1 + Int.toNat (x11) * 4 + 2) = some (.int .i64 (x42_5)) ∧ (∃ (x42_6 : Int), rd m5 ba1 (oa1 + Int.toNat (x11) * 4 + 3) = some (.int .i64 (x42_6)) ∧ (mBind (newO m5 (row [.int .i64 (x42), .int .i64 (x42_4), .int .i64 (x42_5), .int .i64 (x42_6)] 23 false)) fun m6 => (CallW cx 11 [.pointer p24, .slice (some ⟨m5.nx, 0, none⟩) (1) (1)] m6 fun r44 m7 => r44 = (.tuple #[]) ∧ (∃ n_7 : Nat, n_7 < n_3 ∧ Inv (addI .i64 (x11) (1 : Int)) m7 n_7)))))))))
  (joinK (fun (x12 : Int) (m8 : Mem) => (∃ (a55 : Option Addr) (n55 c55 : Nat), sliceOp cx m8 32 (.slice a1 (n1) (c1)) (some (.int .i64 (x12))) none none = some (.slice a55 (n55) (c55)) ∧ (∃ Inv_9 : Option Addr → Nat → Nat → Option Addr → Nat → Nat → Int → Mem → Nat → Prop, (∃ n_10 : Nat, Inv_9 none (0) (0) none (0) (0) (0 : Int) m8 n_10) ∧
  (∀ (a14 : Option Addr) (n14 c14 : Nat) (a15 : Option Addr) (n15 c15 : Nat) (x16 : Int), ∀ (m9 : Mem) (n_11 : Nat), Inv_9 a14 (n14) (c14) a15 (n15) (c15) (x16) m9 n_11 →
  (splitB (ltI (x16) (lenI (n55)))
  (joinK (fun (a14_13 : Option Addr) (n14_14 c14_15 : Nat) (m10 : Mem) => ((0 ≤ (x16) ∧ (x16) < ((n55 : Nat) : Int)) ∧ (vPtr a55 fun ba55 oa55 => (∃ (x80 : Int), rd m10 ba55 (oa55 + Int.toNat (x16) * 4 + 2) = some (.int .i64 (x80)) ∧ (splitB (eqI (x80) (x3))
  ((0 ≤ (x16) ∧ (x16) < ((n55 : Nat) : Int)) ∧ (vPtr a55 fun ba55_16 oa55_17 => (∃ (x87 : Int), rd m10 ba55_16 (oa55_17 + Int.toNat (x16) * 4) = some (.int .i64 (x87)) ∧ (∃ (x87_18 : Int), rd m10 ba55_16 (oa55_17 + Int.toNat (x16) * 4 + 1) = some (.int .i64 (x87_18)) ∧ (∃ (x87_19 : Int), rd m10 ba55_16 (oa55_17 + Int.toNat (x16) * 4 + 2) = some (.int .i64 (x87_19)) ∧ (∃ (x87_20 : Int), rd m10 ba55_16 (oa55_17 + Int.toNat (x16) * 4 + 3) = some (.int .i64 (x87_20)) ∧ (mBind (newO m10 (row [.int .i64 (x87), .int .i64 (x87_18), .int .i64 (x87_19), .int .i64 (x87_20)] 23 false)) fun m11 => (∃ (a89 : Option Addr) (n89 c89 : Nat) (m12 : Mem), appendA cx m11 [32, 32] [.slice a15 (n15) (c15), .slice (some ⟨m10.nx, 0, none⟩) (1) (1)] = some (.slice a89 (n89) (c89), m12) ∧ (∃ n_21 : Nat, n_21 < n_11 ∧ Inv_9 a14_13 (n14_14) (c14_15) a89 (n89) (c89) (addI .i64 (x16) (1 : Int)) m12 n_21)))))))))
  (∃ n_22 : Nat, n_22 < n_11 ∧ Inv_9 a14_13 (n14_14) (c14_15) a15 (n15) (c15) (addI .i64 (x16) (1 : Int)) m10 n_22)))))) fun J_12 =>
  ((0 ≤ (x16) ∧ (x16) < ((n55 : Nat) : Int)) ∧ (vPtr a55 fun ba55_23 oa55_24 => (∃ (x66 : Int), rd m9 ba55_23 (oa55_24 + Int.toNat (x16) * 4) = some (.int .i64 (x66)) ∧ (splitB (leI (x2) (x66))
  ((0 ≤ (x16) ∧ (x16) < ((n55 : Nat) : Int)) ∧ (vPtr a55 fun ba55_25 oa55_26 => (∃ (x73 : Int), rd m9 ba55_25 (oa55_26 + Int.toNat (x16) * 4) = some (.int .i64 (x73)) ∧ (∃ (x73_27 : Int), rd m9 ba55_25 (oa55_26 + Int.toNat (x16) * 4 + 1) = some (.int .i64 (x73_27)) ∧ (∃ (x73_28 : Int), rd m9 ba55_25 (oa55_26 + Int.toNat (x16) * 4 + 2) = some (.int .i64 (x73_28)) ∧ (∃ (x73_29 : Int), rd m9 ba55_25 (oa55_26 + Int.toNat (x16) * 4 + 3) = some (.int .i64 (x73_29)) ∧ (mBind (newO m9 (row [.int .i64 (x73), .int .i64 (x73_27), .int .i64 (x73_28), .int .i64 (x73_29)] 23 false)) fun m13 => (∃ (a75 : Option Addr) (n75 c75 : Nat) (m14 : Mem), appendA cx m13 [32, 32] [.slice a14 (n14) (c14), .slice (some ⟨m9.nx, 0, none⟩) (1) (1)] = some (.slice a75 (n75) (c75), m14) ∧ (J_12 a75 (n75) (c75) m14)))))))))
  (J_12 a14 (n14) (c14) m9))))))
  (CallW cx 10 [.int .i64 (x0)] m9 fun r91 m15 => (∃ (p91 : Option Addr), r91 = (.pointer p91) ∧ (CallW cx 11 [.pointer p91, .slice a1 (n1) (c1)] m15 fun r94 m16 => r94 = (.tuple #[]) ∧ (CallW cx 12 [.pointer p24] m16 fun r96 m17 => (∃ (a96 : Option Addr) (n96 c96 : Nat), r96 = (.slice a96 (n96) (c96)) ∧ (CallW cx 16 [.slice a96 (n96) (c96), .slice a55 (n55) (c55)] m17 fun r98 m18 => (∃ (b98 : Bool), r98 = (.bool (b98)) ∧ (splitB (b98) (CallW cx 13 [.pointer p24] m18 fun r101 m19 => (∃ (x101 : Int), r101 = (.int .i64 (x101)) ∧ (splitB (eqI (x101) (lenI (n55))) (CallW cx 14 [.pointer p24] m19 fun r108 m20 => (∃ (x108 : Int), r108 = (.int .i64 (x108)) ∧ (splitB (eqI (x108) (x12)) (CallW cx 15 [.pointer p24, .int .i64 (x2)] m20 fun r115 m21 => (∃ (a115 : Option Addr) (n115 c115 : Nat), r115 = (.slice a115 (n115) (c115)) ∧ (CallW cx 16 [.slice a115 (n115) (c115), .slice a14 (n14) (c14)] m21 fun r117 m22 => (∃ (b117 : Bool), r117 = (.bool (b117)) ∧ (splitB (b117) (CallW cx 17 [.pointer p24, .int .i64 (x3)] m22 fun r122 m23 => (∃ (a122 : Option Addr) (n122 c122 : Nat), r122 = (.slice a122 (n122) (c122)) ∧ (CallW cx 16 [.slice a122 (n122) (c122), .slice a15 (n15) (c15)] m23 fun r124 m24 => (∃ (b124 : Bool), r124 = (.bool (b124)) ∧ (splitB (b124) (CallW cx 12 [.pointer p91] m24 fun r128 m25 => (∃ (a128 : Option Addr) (n128 c128 : Nat), r128 = (.slice a128 (n128) (c128)) ∧ (CallW cx 16 [.slice a128 (n128) (c128), .slice a55 (n55) (c55)] m25 fun r130 m26 => (∃ (b130 : Bool), r130 = (.bool (b130)) ∧ (splitB (b130) (CallW cx 14 [.pointer p91] m26 fun r134 m27 => (∃ (x134 : Int), r134 = (.int .i64 (x134)) ∧ (Q (.bool (eqI (x134) (x12))) m27))) (Q (.bool (false)) m26)))))) (Q (.bool (false)) m24)))))) (Q (.bool (false)) m22)))))) (Q (.bool (false)) m20)))) (Q (.bool (false)) m19)))) (Q (.bool (false)) m18)))))))))))))) fun J_8 =>
  (splitB (ltI (x10_2) (lenI (n1)))
  (J_8 (subI .i64 (lenI (n1)) (x10_2)) m5)
  (J_8 (0 : Int) m5))))))) fun J_1 =>
  (splitB (ltI (4096 : Int) (x10))
  (J_1 (4096 : Int) m3)
  (J_1 (x10) m3)))) fun J =>
  (splitB (ltI (x0) (1 : Int))
  (J (1 : Int) m2)
  (J (x0) m2))))))))))
theorem F6_eq (x0 : Int) (a1 : Option Addr) (n1 c1 : Nat) (x2 : Int) (x3 : Int) (m : Mem) (Q : Value → Mem → Prop) : F6 x0 a1 n1 c1 x2 x3 m Q = vFn cx Tryd.f6 A6 [.int .i64 (x0), .slice a1 (n1) (c1), .int .i64 (x2), .int .i64 (x3)] m Q := by kernel_rfl
theorem F6_ok {x0 : Int} {a1 : Option Addr} {n1 c1 : Nat} {x2 : Int} {x3 : Int} {m : Mem} {Q : Value → Mem → Prop} (h : F6 x0 a1 n1 c1 x2 x3 m Q) : CallW cx 6 [.int .i64 (x0), .slice a1 (n1) (c1), .int .i64 (x2), .int .i64 (x3)] m Q :=
  CallW.of (by kernel_rfl) (by kernel_rfl) (Eq.mp (F6_eq x0 a1 n1 c1 x2 x3 m Q) h)

-- 3 beadle/beadlelaw21.NoteApart
noncomputable def A3 : Ann := [none, none, none, none, none, some ([2, 3, 5, 6], []), none, none, none, none, none]
def F3 (x0 : Int) (x0_1 : Int) (x0_2 : Int) (x0_3 : Int) (x1 : Int) (x1_4 : Int) (x1_5 : Int) (x1_6 : Int) (m : Mem) (Q : Value → Mem → Prop) : Prop :=
  (mBind (newO m (row [.int .i64 (x0), .int .i64 (x0_1), .int .i64 (x0_2), .int .i64 (x0_3)] 23 false)) fun m1 => (mBind (newO m1 (row [.int .i64 (x1), .int .i64 (x1_4), .int .i64 (x1_5), .int .i64 (x1_6)] 23 false)) fun m2 => (CallW cx 7 [] m2 fun r11 m3 => (∃ (b11 : Bool), r11 = (.bool (b11)) ∧ (splitB (!(b11))
  (Q (.bool (false)) m3)
  (mBind (bump m3 6) fun m4 => (∃ (x13 : Int), rd m4 m.nx (0) = some (.int .i64 (x13)) ∧ (∃ (x13_7 : Int), rd m4 m.nx (1) = some (.int .i64 (x13_7)) ∧ (∃ (x13_8 : Int), rd m4 m.nx (2) = some (.int .i64 (x13_8)) ∧ (∃ (x13_9 : Int), rd m4 m.nx (3) = some (.int .i64 (x13_9)) ∧ (CallW cx 8 [.agg #[.int .i64 (x13), .int .i64 (x13_7), .int .i64 (x13_8), .int .i64 (x13_9)]] ((setFl (m4) m3.nx)) fun r14 m5 => (∃ (s14 : ByteArray), r14 = (.string (s14)) ∧ (∃ (x15 : Int), rd m4 m1.nx (0) = some (.int .i64 (x15)) ∧ (∃ (x15_10 : Int), rd m4 m1.nx (1) = some (.int .i64 (x15_10)) ∧ (∃ (x15_11 : Int), rd m4 m1.nx (2) = some (.int .i64 (x15_11)) ∧ (∃ (x15_12 : Int), rd m4 m1.nx (3) = some (.int .i64 (x15_12)) ∧ (CallW cx 8 [.agg #[.int .i64 (x15), .int .i64 (x15_10), .int .i64 (x15_11), .int .i64 (x15_12)]] (((setFl m5 m4.fl))) fun r16 m6 => (∃ (s16 : ByteArray), r16 = (.string (s16)) ∧ (joinK (fun  (m7 : Mem) => (CallW cx 9 [.string (s14)] m7 fun r25 m8 => (∃ (x25 : Int), (∃ (x25_13 : Int), (∃ (x25_14 : Int), (∃ (x25_15 : Int), (∃ (b25 : Bool), r25 = (.tuple #[.agg #[.int .i64 (x25), .int .i64 (x25_13), .int .i64 (x25_14), .int .i64 (x25_15)], .bool (b25)]) ∧ (mBind (newO m8 (row [.int .i64 (0 : Int), .int .i64 (0 : Int), .int .i64 (0 : Int), .int .i64 (0 : Int)] 23 false)) fun m9 => (okW m9 m8.nx (0) 4 ∧ (mBind (wr m9 m8.nx (0) [.int .i64 (x25), .int .i64 (x25_13), .int .i64 (x25_14), .int .i64 (x25_15)]) fun m10 => (CallW cx 9 [.string (s16)] m10 fun r30 m11 => (∃ (x30 : Int), (∃ (x30_16 : Int), (∃ (x30_17 : Int), (∃ (x30_18 : Int), (∃ (b30 : Bool), r30 = (.tuple #[.agg #[.int .i64 (x30), .int .i64 (x30_16), .int .i64 (x30_17), .int .i64 (x30_18)], .bool (b30)]) ∧ (mBind (newO m11 (row [.int .i64 (0 : Int), .int .i64 (0 : Int), .int .i64 (0 : Int), .int .i64 (0 : Int)] 23 false)) fun m12 => (okW m12 m11.nx (0) 4 ∧ (mBind (wr m12 m11.nx (0) [.int .i64 (x30), .int .i64 (x30_16), .int .i64 (x30_17), .int .i64 (x30_18)]) fun m13 => (splitB (b25) (splitB (b30) (∃ (x41 : Int), rd m13 m8.nx (0) = some (.int .i64 (x41)) ∧ (∃ (x41_19 : Int), rd m13 m8.nx (1) = some (.int .i64 (x41_19)) ∧ (∃ (x41_20 : Int), rd m13 m8.nx (2) = some (.int .i64 (x41_20)) ∧ (∃ (x41_21 : Int), rd m13 m8.nx (3) = some (.int .i64 (x41_21)) ∧ (∃ (x42 : Int), rd m13 m11.nx (0) = some (.int .i64 (x42)) ∧ (∃ (x42_22 : Int), rd m13 m11.nx (1) = some (.int .i64 (x42_22)) ∧ (∃ (x42_23 : Int), rd m13 m11.nx (2) = some (.int .i64 (x42_23)) ∧ (∃ (x42_24 : Int), rd m13 m11.nx (3) = some (.int .i64 (x42_24)) ∧ (∃ r : Bool, eqV cx m13 40 23 (.agg #[.int .i64 (x41), .int .i64 (x41_19), .int .i64 (x41_20), .int .i64 (x41_21)]) (.agg #[.int .i64 (x42), .int .i64 (x42_22), .int .i64 (x42_23), .int .i64 (x42_24)]) = some r ∧ (splitB ((eqS (s14) (s16)) == (r)) (∃ (x47 : Int), rd m13 m.nx (0) = some (.int .i64 (x47)) ∧ (∃ (x47_25 : Int), rd m13 m.nx (1) = some (.int .i64 (x47_25)) ∧ (∃ (x47_26 : Int), rd m13 m.nx (2) = some (.int .i64 (x47_26)) ∧ (∃ (x47_27 : Int), rd m13 m.nx (3) = some (.int .i64 (x47_27)) ∧ (∃ (x48 : Int), rd m13 m1.nx (0) = some (.int .i64 (x48)) ∧ (∃ (x48_28 : Int), rd m13 m1.nx (1) = some (.int .i64 (x48_28)) ∧ (∃ (x48_29 : Int), rd m13 m1.nx (2) = some (.int .i64 (x48_29)) ∧ (∃ (x48_30 : Int), rd m13 m1.nx (3) = some (.int .i64 (x48_30)) ∧ (∃ r_31 : Bool, eqV cx m13 40 23 (.agg #[.int .i64 (x47), .int .i64 (x47_25), .int .i64 (x47_26), .int .i64 (x47_27)]) (.agg #[.int .i64 (x48), .int .i64 (x48_28), .int .i64 (x48_29), .int .i64 (x48_30)]) = some r_31 ∧ (splitB (!r_31) (Q (.bool (true)) m13) (Q (.bool (eqS (s14) (s16))) m13))))))))))) (Q (.bool (false)) m13))))))))))) (Q (.bool (false)) m13)) (Q (.bool (false)) m13))))))))))))))))))))) fun J =>
  (splitB (eqS (s14) (ByteArray.mk #[])) (Q (.bool (true)) m6) (splitB (eqS (s16) (ByteArray.mk #[]))
  (Q (.bool (true)) m6)
  (J  m6))))))))))))))))))))))
theorem F3_eq (x0 : Int) (x0_1 : Int) (x0_2 : Int) (x0_3 : Int) (x1 : Int) (x1_4 : Int) (x1_5 : Int) (x1_6 : Int) (m : Mem) (Q : Value → Mem → Prop) : F3 x0 x0_1 x0_2 x0_3 x1 x1_4 x1_5 x1_6 m Q = vFn cx Tryd.f3 A3 [.agg #[.int .i64 (x0), .int .i64 (x0_1), .int .i64 (x0_2), .int .i64 (x0_3)], .agg #[.int .i64 (x1), .int .i64 (x1_4), .int .i64 (x1_5), .int .i64 (x1_6)]] m Q := by kernel_rfl
theorem F3_ok {x0 : Int} {x0_1 : Int} {x0_2 : Int} {x0_3 : Int} {x1 : Int} {x1_4 : Int} {x1_5 : Int} {x1_6 : Int} {m : Mem} {Q : Value → Mem → Prop} (h : F3 x0 x0_1 x0_2 x0_3 x1 x1_4 x1_5 x1_6 m Q) : CallW cx 3 [.agg #[.int .i64 (x0), .int .i64 (x0_1), .int .i64 (x0_2), .int .i64 (x0_3)], .agg #[.int .i64 (x1), .int .i64 (x1_4), .int .i64 (x1_5), .int .i64 (x1_6)]] m Q :=
  CallW.of (by kernel_rfl) (by kernel_rfl) (Eq.mp (F3_eq x0 x0_1 x0_2 x0_3 x1 x1_4 x1_5 x1_6 m Q) h)

-- 5 beadle/beadlelaw21.NoteKnown
noncomputable def A5 : Ann := [none, none, none, none, none, none, none, some ([1], [(2, .int .i64)]), none, none, none, none, none, none, none, none, none, none, none, some ([5, 6], [(7, .int .i64)]), none, none, none, none, none]
def F5  (m : Mem) (Q : Value → Mem → Prop) : Prop :=
  (CallW cx 7 [] m fun r9 m1 => (∃ (b9 : Bool), r9 = (.bool (b9)) ∧ (splitB (!(b9))
  (Q (.bool (false)) m1)
  (mBind (newO m1 (row [.string (ByteArray.mk #[]), .string (ByteArray.mk #[54, 32, 100, 111, 110, 101, 32, 49]), .string (ByteArray.mk #[54, 32, 100, 111, 110, 101, 32, 49, 32, 49, 32, 49]), .string (ByteArray.mk #[48, 54, 32, 100, 111, 110, 101, 32, 49, 32, 49]), .string (ByteArray.mk #[54, 32, 119, 104, 97, 116, 32, 49]), .string (ByteArray.mk #[54, 32, 119, 97, 107, 101, 32, 49, 32, 48]), .string (ByteArray.mk #[54, 32, 32, 100, 111, 110, 101, 32, 49, 32, 49]), .string (ByteArray.mk #[45, 49, 32, 119, 97, 107, 101, 32, 49]), .string (ByteArray.mk #[54, 32, 119, 97, 107, 101, 32, 45, 49]), .string (ByteArray.mk #[54, 32, 119, 97, 107, 101]), .string (ByteArray.mk #[57, 57, 57, 57, 57, 57, 57, 57, 57, 57, 57, 57, 57, 57, 57, 57, 57, 57, 57, 57, 32, 119, 97, 107, 101, 32, 49]), .string (ByteArray.mk #[32, 54, 32, 119, 97, 107, 101, 32, 49])] 9 false)) fun m2 => (∃ Inv : Int → Mem → Nat → Prop, (∃ n : Nat, Inv (0 : Int) m2 n) ∧
  (∀ (x2 : Int), ∀ (m3 : Mem) (n_1 : Nat), Inv (x2) m3 n_1 →
  (splitB (ltI (x2) (lenI (12)))
  ((0 ≤ (x2) ∧ (x2) < ((12 : Nat) : Int)) ∧ (∃ (s22 : ByteArray), rd m3 m1.nx (0 + Int.toNat (x2) * 1) = some (.string (s22)) ∧ (CallW cx 9 [.string (s22)] m3 fun r23 m4 => (∃ (x23 : Int), (∃ (x23_2 : Int), (∃ (x23_3 : Int), (∃ (x23_4 : Int), (∃ (b23 : Bool), r23 = (.tuple #[.agg #[.int .i64 (x23), .int .i64 (x23_2), .int .i64 (x23_3), .int .i64 (x23_4)], .bool (b23)]) ∧ (mBind (newO m4 (row [.int .i64 (0 : Int), .int .i64 (0 : Int), .int .i64 (0 : Int), .int .i64 (0 : Int)] 23 false)) fun m5 => (okW m5 m4.nx (0) 4 ∧ (mBind (wr m5 m4.nx (0) [.int .i64 (x23), .int .i64 (x23_2), .int .i64 (x23_3), .int .i64 (x23_4)]) fun m6 => (splitB (b23) (Q (.bool (false)) m6) (∃ (x28 : Int), rd m6 m4.nx (0) = some (.int .i64 (x28)) ∧ (∃ (x28_5 : Int), rd m6 m4.nx (1) = some (.int .i64 (x28_5)) ∧ (∃ (x28_6 : Int), rd m6 m4.nx (2) = some (.int .i64 (x28_6)) ∧ (∃ (x28_7 : Int), rd m6 m4.nx (3) = some (.int .i64 (x28_7)) ∧ (∃ r : Bool, eqV cx m6 40 23 (.agg #[.int .i64 (x28), .int .i64 (x28_5), .int .i64 (x28_6), .int .i64 (x28_7)]) (.agg #[.int .i64 (0 : Int), .int .i64 (0 : Int), .int .i64 (0 : Int), .int .i64 (0 : Int)]) = some r ∧ (splitB (!r)
  (Q (.bool (false)) m6)
  (∃ n_8 : Nat, n_8 < n_1 ∧ Inv (addI .i64 (x2) (1 : Int)) m6 n_8)))))))))))))))))))
  (CallW cx 10 [.int .i64 (0 : Int)] m3 fun r32 m7 => (∃ (p32 : Option Addr), r32 = (.pointer p32) ∧ (mBind (newO m7 (row [.int .i64 (1 : Int), .int .i64 (9 : Int), .int .i64 (1 : Int), .int .i64 (0 : Int), .int .i64 (2 : Int), .int .i64 (9 : Int), .int .i64 (2 : Int), .int .i64 (0 : Int)] 23 false)) fun m8 => (CallW cx 11 [.pointer p32, .slice (some ⟨m7.nx, 0, none⟩) (2) (2)] m8 fun r37 m9 => r37 = (.tuple #[]) ∧ (CallW cx 10 [.int .i64 (1073741824 : Int)] m9 fun r38 m10 => (∃ (p38 : Option Addr), r38 = (.pointer p38) ∧ (∃ Inv_9 : Int → Mem → Nat → Prop, (∃ n_10 : Nat, Inv_9 (0 : Int) m10 n_10) ∧
  (∀ (x7 : Int), ∀ (m11 : Mem) (n_11 : Nat), Inv_9 (x7) m11 n_11 →
  (splitB (ltI (x7) (4097 : Int))
  ((2 : Int) ≠ 0 ∧ (mBind (newO m11 (row [.int .i64 (x7), .int .i64 (5 : Int), .int .i64 (addI .i64 (1 : Int) (Int.tmod (x7) (2 : Int))), .int .i64 (0 : Int)] 23 false)) fun m12 => (CallW cx 11 [.pointer p38, .slice (some ⟨m11.nx, 0, none⟩) (1) (1)] m12 fun r50 m13 => r50 = (.tuple #[]) ∧ (∃ n_12 : Nat, n_12 < n_11 ∧ Inv_9 (addI .i64 (x7) (1 : Int)) m13 n_12))))
  (CallW cx 15 [.pointer p38, .int .i64 (4095 : Int)] m11 fun r52 m14 => (∃ (a52 : Option Addr) (n52 c52 : Nat), r52 = (.slice a52 (n52) (c52)) ∧ (CallW cx 13 [.pointer p32] m14 fun r54 m15 => (∃ (x54 : Int), r54 = (.int .i64 (x54)) ∧ (splitB (eqI (x54) (1 : Int)) (CallW cx 14 [.pointer p32] m15 fun r58 m16 => (∃ (x58 : Int), r58 = (.int .i64 (x58)) ∧ (splitB (eqI (x58) (1 : Int)) (CallW cx 12 [.pointer p32] m16 fun r63 m17 => (∃ (a63 : Option Addr) (n63 c63 : Nat), r63 = (.slice a63 (n63) (c63)) ∧ (mBind (newO m17 (row [.int .i64 (2 : Int), .int .i64 (9 : Int), .int .i64 (2 : Int), .int .i64 (0 : Int)] 23 false)) fun m18 => (CallW cx 16 [.slice a63 (n63) (c63), .slice (some ⟨m17.nx, 0, none⟩) (1) (1)] m18 fun r66 m19 => (∃ (b66 : Bool), r66 = (.bool (b66)) ∧ (splitB (b66) (CallW cx 17 [.pointer p32, .int .i64 (1 : Int)] m19 fun r70 m20 => (∃ (a70 : Option Addr) (n70 c70 : Nat), r70 = (.slice a70 (n70) (c70)) ∧ (splitB (eqI (lenI (n70)) (0 : Int)) (CallW cx 17 [.pointer p32, .int .i64 (2 : Int)] m20 fun r76 m21 => (∃ (a76 : Option Addr) (n76 c76 : Nat), r76 = (.slice a76 (n76) (c76)) ∧ (splitB (eqI (lenI (n76)) (1 : Int)) (CallW cx 13 [.pointer p38] m21 fun r82 m22 => (∃ (x82 : Int), r82 = (.int .i64 (x82)) ∧ (splitB (eqI (x82) (4096 : Int)) (CallW cx 14 [.pointer p38] m22 fun r87 m23 => (∃ (x87 : Int), r87 = (.int .i64 (x87)) ∧ (splitB (eqI (x87) (1 : Int)) (mBind (newO m23 (row [.int .i64 (4095 : Int), .int .i64 (5 : Int), .int .i64 (2 : Int), .int .i64 (0 : Int), .int .i64 (4096 : Int), .int .i64 (5 : Int), .int .i64 (1 : Int), .int .i64 (0 : Int)] 23 false)) fun m24 => (CallW cx 16 [.slice a52 (n52) (c52), .slice (some ⟨m23.nx, 0, none⟩) (2) (2)] m24 fun r95 m25 => (∃ (b95 : Bool), r95 = (.bool (b95)) ∧ (splitB (b95) (CallW cx 8 [.agg #[.int .i64 (5 : Int), .int .i64 (9 : Int), .int .i64 (3 : Int), .int .i64 (0 : Int)]] m25 fun r99 m26 => (∃ (s99 : ByteArray), r99 = (.string (s99)) ∧ (splitB (eqS (s99) (ByteArray.mk #[53, 32, 119, 97, 107, 101, 32, 51])) (CallW cx 8 [.agg #[.int .i64 (5 : Int), .int .i64 (8 : Int), .int .i64 (3 : Int), .int .i64 (2 : Int)]] m26 fun r104 m27 => (∃ (s104 : ByteArray), r104 = (.string (s104)) ∧ (splitB (eqS (s104) (ByteArray.mk #[53, 32, 103, 97, 116, 101, 32, 51, 32, 50])) (CallW cx 8 [.agg #[.int .i64 (0 : Int), .int .i64 (11 : Int), .int .i64 (0 : Int), .int .i64 (0 : Int)]] m27 fun r109 m28 => (∃ (s109 : ByteArray), r109 = (.string (s109)) ∧ (splitB (eqS (s109) (ByteArray.mk #[])) (CallW cx 8 [.agg #[.int .i64 (0 : Int), .int .i64 (0 : Int), .int .i64 (0 : Int), .int .i64 (0 : Int)]] m28 fun r114 m29 => (∃ (s114 : ByteArray), r114 = (.string (s114)) ∧ (splitB (eqS (s114) (ByteArray.mk #[])) (CallW cx 8 [.agg #[.int .i64 (-1 : Int), .int .i64 (2 : Int), .int .i64 (0 : Int), .int .i64 (0 : Int)]] m29 fun r119 m30 => (∃ (s119 : ByteArray), r119 = (.string (s119)) ∧ (Q (.bool (eqS (s119) (ByteArray.mk #[]))) m30))) (Q (.bool (false)) m29)))) (Q (.bool (false)) m28)))) (Q (.bool (false)) m27)))) (Q (.bool (false)) m26)))) (Q (.bool (false)) m25))))) (Q (.bool (false)) m23)))) (Q (.bool (false)) m22)))) (Q (.bool (false)) m21)))) (Q (.bool (false)) m20)))) (Q (.bool (false)) m19))))))) (Q (.bool (false)) m16)))) (Q (.bool (false)) m15))))))))))))))))))))))
theorem F5_eq  (m : Mem) (Q : Value → Mem → Prop) : F5  m Q = vFn cx Tryd.f5 A5 [] m Q := by kernel_rfl
theorem F5_ok  {m : Mem} {Q : Value → Mem → Prop} (h : F5  m Q) : CallW cx 5 [] m Q :=
  CallW.of (by kernel_rfl) (by kernel_rfl) (Eq.mp (F5_eq  m Q) h)

end
end Go.Proofs.YtdeknemdeijljaaDoor.vc
