/-
  Formulas of the functions of package note and of its laws: printed by a program (vcprint.py) out of the loaded code; Lean's kernel holds each against the code.
-/
import Derived.Test.YtdeknemdeijljaaDoorAwake
import Derived.Test.YtdeknemdeijljaaDoorAxOpen
import Derived.KernelRfl
namespace Go.Proofs.YtdeknemdeijljaaDoor.vc
open Go Go.AX
set_option linter.unusedVariables false
set_option maxRecDepth 100000
noncomputable section

-- 10 beadle/note.New
noncomputable def A10 : Ann := [none, none]
def F10 (x0 : Int) (m : Mem) (Q : Value → Mem → Prop) : Prop :=
  (mBind (newO m (row [.int .i64 (mnI (mxI (x0) (1 : Int)) (4096 : Int)), .slice none (0) (0), .int .i64 (0 : Int)] 58 false)) fun m1 => (Q (.pointer (some ⟨m.nx, 0, none⟩)) m1))
theorem F10_eq (x0 : Int) (m : Mem) (Q : Value → Mem → Prop) : F10 x0 m Q = vFn cx Tryd.f10 A10 [.int .i64 (x0)] m Q := by kernel_rfl
theorem F10_ok {x0 : Int} {m : Mem} {Q : Value → Mem → Prop} (h : F10 x0 m Q) : CallW cx 10 [.int .i64 (x0)] m Q :=
  CallW.of (by kernel_rfl) (by kernel_rfl) (Eq.mp (F10_eq x0 m Q) h)

-- 28 slices.Clone[[]beadle/model.Event,beadle/model.Event]
noncomputable def A28 : Ann := [none, none, none, none, none]
def F28 (a0 : Option Addr) (n0 c0 : Nat) (m : Mem) (Q : Value → Mem → Prop) : Prop :=
  (∃ r : Bool, eqV cx m 40 32 (.slice a0 (n0) (c0)) (.slice none (0) (0)) = some r ∧ (splitB (r)
  (Q (.slice none (0) (0)) m)
  (mBind (newO m (row [] 23 false)) fun m1 => (∃ (a7 : Option Addr) (n7 c7 : Nat) (m2 : Mem), appendA cx m1 [32, 32] [.slice (some ⟨m.nx, 0, none⟩) (0) (0), .slice a0 (n0) (c0)] = some (.slice a7 (n7) (c7), m2) ∧ (Q (.slice a7 (n7) (c7)) m2)))))
theorem F28_eq (a0 : Option Addr) (n0 c0 : Nat) (m : Mem) (Q : Value → Mem → Prop) : F28 a0 n0 c0 m Q = vFn cx Tryd.f28 A28 [.slice a0 (n0) (c0)] m Q := by kernel_rfl
theorem F28_ok {a0 : Option Addr} {n0 c0 : Nat} {m : Mem} {Q : Value → Mem → Prop} (h : F28 a0 n0 c0 m Q) : CallW cx 28 [.slice a0 (n0) (c0)] m Q :=
  CallW.of (by kernel_rfl) (by kernel_rfl) (Eq.mp (F28_eq a0 n0 c0 m Q) h)

-- 11 (*beadle/note.Notes).Put
noncomputable def A11 : Ann := [none, none, none, none]
def F11 (p0 : Option Addr) (a1 : Option Addr) (n1 c1 : Nat) (m : Mem) (Q : Value → Mem → Prop) : Prop :=
  (vPtr p0 fun bp0 op0 => (∃ (a9 : Option Addr) (n9 c9 : Nat), rd m bp0 (op0 + 1) = some (.slice a9 (n9) (c9)) ∧ (∃ (a11 : Option Addr) (n11 c11 : Nat) (m1 : Mem), appendA cx m [32, 32] [.slice a9 (n9) (c9), .slice a1 (n1) (c1)] = some (.slice a11 (n11) (c11), m1) ∧ (vPtr p0 fun bp0_1 op0_2 => (okW m1 bp0_1 (op0_2 + 1) 1 ∧ (mBind (wr m1 bp0_1 (op0_2 + 1) [.slice a11 (n11) (c11)]) fun m2 => (mBind (bump m2 11) fun m3 => (vPtr p0 fun bp0_3 op0_4 => (∃ (a17 : Option Addr) (n17 c17 : Nat), rd m3 bp0_3 (op0_4 + 1) = some (.slice a17 (n17) (c17)) ∧ (vPtr p0 fun bp0_5 op0_6 => (∃ (x22 : Int), rd m3 bp0_5 (op0_6) = some (.int .i64 (x22)) ∧ (splitB (ltI (0 : Int) (subI .i64 (lenI (n17)) (x22)))
  (vPtr p0 fun bp0_7 op0_8 => (∃ (a30 : Option Addr) (n30 c30 : Nat), rd m3 bp0_7 (op0_8 + 1) = some (.slice a30 (n30) (c30)) ∧ (∃ (a32 : Option Addr) (n32 c32 : Nat), sliceOp cx m3 32 (.slice a30 (n30) (c30)) (some (.int .i64 (subI .i64 (lenI (n17)) (x22)))) none none = some (.slice a32 (n32) (c32)) ∧ (CallW cx 28 [.slice a32 (n32) (c32)] m3 fun r33 m4 => (∃ (a33 : Option Addr) (n33 c33 : Nat), r33 = (.slice a33 (n33) (c33)) ∧ (vPtr p0 fun bp0_9 op0_10 => (okW m4 bp0_9 (op0_10 + 1) 1 ∧ (mBind (wr m4 bp0_9 (op0_10 + 1) [.slice a33 (n33) (c33)]) fun m5 => (vPtr p0 fun bp0_11 op0_12 => (∃ (x39 : Int), rd m5 bp0_11 (op0_12 + 2) = some (.int .i64 (x39)) ∧ (vPtr p0 fun bp0_13 op0_14 => (okW m5 bp0_13 (op0_14 + 2) 1 ∧ (mBind (wr m5 bp0_13 (op0_14 + 2) [.int .i64 (addI .i64 (x39) (subI .i64 (lenI (n17)) (x22)))]) fun m6 => (Q (.tuple #[]) m6))))))))))))))
  (Q (.tuple #[]) m3)))))))))))))
theorem F11_eq (p0 : Option Addr) (a1 : Option Addr) (n1 c1 : Nat) (m : Mem) (Q : Value → Mem → Prop) : F11 p0 a1 n1 c1 m Q = vFn cx Tryd.f11 A11 [.pointer p0, .slice a1 (n1) (c1)] m Q := by kernel_rfl
theorem F11_ok {p0 : Option Addr} {a1 : Option Addr} {n1 c1 : Nat} {m : Mem} {Q : Value → Mem → Prop} (h : F11 p0 a1 n1 c1 m Q) : CallW cx 11 [.pointer p0, .slice a1 (n1) (c1)] m Q :=
  CallW.of (by kernel_rfl) (by kernel_rfl) (Eq.mp (F11_eq p0 a1 n1 c1 m Q) h)

-- 12 (*beadle/note.Notes).All
noncomputable def A12 : Ann := [none, none]
def F12 (p0 : Option Addr) (m : Mem) (Q : Value → Mem → Prop) : Prop :=
  (vPtr p0 fun bp0 op0 => (∃ (a6 : Option Addr) (n6 c6 : Nat), rd m bp0 (op0 + 1) = some (.slice a6 (n6) (c6)) ∧ (CallW cx 28 [.slice a6 (n6) (c6)] m fun r7 m1 => (∃ (a7 : Option Addr) (n7 c7 : Nat), r7 = (.slice a7 (n7) (c7)) ∧ (Q (.slice a7 (n7) (c7)) m1)))))
theorem F12_eq (p0 : Option Addr) (m : Mem) (Q : Value → Mem → Prop) : F12 p0 m Q = vFn cx Tryd.f12 A12 [.pointer p0] m Q := by kernel_rfl
theorem F12_ok {p0 : Option Addr} {m : Mem} {Q : Value → Mem → Prop} (h : F12 p0 m Q) : CallW cx 12 [.pointer p0] m Q :=
  CallW.of (by kernel_rfl) (by kernel_rfl) (Eq.mp (F12_eq p0 m Q) h)

-- 13 (*beadle/note.Notes).Len
noncomputable def A13 : Ann := [none, none]
def F13 (p0 : Option Addr) (m : Mem) (Q : Value → Mem → Prop) : Prop :=
  (vPtr p0 fun bp0 op0 => (∃ (a6 : Option Addr) (n6 c6 : Nat), rd m bp0 (op0 + 1) = some (.slice a6 (n6) (c6)) ∧ (Q (.int .i64 (lenI (n6))) m)))
theorem F13_eq (p0 : Option Addr) (m : Mem) (Q : Value → Mem → Prop) : F13 p0 m Q = vFn cx Tryd.f13 A13 [.pointer p0] m Q := by kernel_rfl
theorem F13_ok {p0 : Option Addr} {m : Mem} {Q : Value → Mem → Prop} (h : F13 p0 m Q) : CallW cx 13 [.pointer p0] m Q :=
  CallW.of (by kernel_rfl) (by kernel_rfl) (Eq.mp (F13_eq p0 m Q) h)

-- 14 (*beadle/note.Notes).Lost
noncomputable def A14 : Ann := [none, none]
def F14 (p0 : Option Addr) (m : Mem) (Q : Value → Mem → Prop) : Prop :=
  (vPtr p0 fun bp0 op0 => (∃ (x6 : Int), rd m bp0 (op0 + 2) = some (.int .i64 (x6)) ∧ (Q (.int .i64 (x6)) m)))
theorem F14_eq (p0 : Option Addr) (m : Mem) (Q : Value → Mem → Prop) : F14 p0 m Q = vFn cx Tryd.f14 A14 [.pointer p0] m Q := by kernel_rfl
theorem F14_ok {p0 : Option Addr} {m : Mem} {Q : Value → Mem → Prop} (h : F14 p0 m Q) : CallW cx 14 [.pointer p0] m Q :=
  CallW.of (by kernel_rfl) (by kernel_rfl) (Eq.mp (F14_eq p0 m Q) h)

-- 4 beadle/beadlelaw21.NoteLast
noncomputable def A4 : Ann := [none, none, none, none, some ([0, 1], []), none, none, none, none, none, some ([0, 1, 5], [(6, .int .i64)]), none, none, none, none, some ([1, 5], [(7, .int .i64)]), none, none, some ([1, 7, 8], []), none, none, none, none, some ([1, 7, 8], [(9, .int .i64)]), none, none, none, none, none, none]
def F4 (x0 : Int) (x1 : Int) (m : Mem) (Q : Value → Mem → Prop) : Prop :=
  (CallW cx 7 [] m fun r10 m1 => (∃ (b10 : Bool), r10 = (.bool (b10)) ∧ (splitB (!(b10))
  (Q (.bool (false)) m1)
  (joinK (fun  (m2 : Mem) => (CallW cx 10 [.int .i64 (x0)] m2 fun r27 m3 => (∃ (p27 : Option Addr), r27 = (.pointer p27) ∧ (∃ Inv : Int → Mem → Nat → Prop, (∃ n : Nat, Inv (0 : Int) m3 n) ∧
  (∀ (x6 : Int), ∀ (m4 : Mem) (n_1 : Nat), Inv (x6) m4 n_1 →
  (splitB (ltI (x6) (x1))
  (mBind (newO m4 (row [.int .i64 (x6), .int .i64 (9 : Int), .int .i64 (1 : Int), .int .i64 (0 : Int)] 23 false)) fun m5 => (CallW cx 11 [.pointer p27, .slice (some ⟨m4.nx, 0, none⟩) (1) (1)] m5 fun r37 m6 => r37 = (.tuple #[]) ∧ (∃ n_2 : Nat, n_2 < n_1 ∧ Inv (addI .i64 (x6) (1 : Int)) m6 n_2)))
  (joinK (fun (x7 : Int) (m7 : Mem) => (CallW cx 12 [.pointer p27] m7 fun r44 m8 => (∃ (a44 : Option Addr) (n44 c44 : Nat), r44 = (.slice a44 (n44) (c44)) ∧ (joinK (fun  (m9 : Mem) => (∃ Inv_5 : Int → Mem → Nat → Prop, (∃ n_6 : Nat, Inv_5 (0 : Int) m9 n_6) ∧
  (∀ (x9 : Int), ∀ (m10 : Mem) (n_7 : Nat), Inv_5 (x9) m10 n_7 →
  (splitB (ltI (x9) (x7))
  ((0 ≤ (x9) ∧ (x9) < ((n44 : Nat) : Int)) ∧ (vPtr a44 fun ba44 oa44 => (∃ (x72 : Int), rd m10 ba44 (oa44 + Int.toNat (x9) * 4) = some (.int .i64 (x72)) ∧ (splitB (neI (x72) (addI .i64 (subI .i64 (x1) (x7)) (x9)))
  (Q (.bool (false)) m10)
  (∃ n_8 : Nat, n_8 < n_7 ∧ Inv_5 (addI .i64 (x9) (1 : Int)) m10 n_8)))))
  (Q (.bool (true)) m10))))) fun J_4 =>
  (splitB (neI (lenI (n44)) (x7)) (Q (.bool (false)) m8) (CallW cx 13 [.pointer p27] m8 fun r51 m11 => (∃ (x51 : Int), r51 = (.int .i64 (x51)) ∧ (splitB (neI (x51) (x7)) (Q (.bool (false)) m11) (CallW cx 14 [.pointer p27] m11 fun r57 m12 => (∃ (x57 : Int), r57 = (.int .i64 (x57)) ∧ (splitB (neI (x57) (subI .i64 (x1) (x7)))
  (Q (.bool (false)) m12)
  (J_4  m12)))))))))))) fun J_3 =>
  (splitB (ltI (x0) (x1))
  (J_3 (x0) m4)
  (J_3 (x1) m4))))))))) fun J =>
  (splitB (ltI (x0) (1 : Int)) (Q (.bool (true)) m1) (splitB (ltI (200 : Int) (x0)) (Q (.bool (true)) m1) (splitB (ltI (x1) (0 : Int)) (Q (.bool (true)) m1) (splitB (ltI (500 : Int) (x1))
  (Q (.bool (true)) m1)
  (J  m1)))))))))
theorem F4_eq (x0 : Int) (x1 : Int) (m : Mem) (Q : Value → Mem → Prop) : F4 x0 x1 m Q = vFn cx Tryd.f4 A4 [.int .i64 (x0), .int .i64 (x1)] m Q := by kernel_rfl
theorem F4_ok {x0 : Int} {x1 : Int} {m : Mem} {Q : Value → Mem → Prop} (h : F4 x0 x1 m Q) : CallW cx 4 [.int .i64 (x0), .int .i64 (x1)] m Q :=
  CallW.of (by kernel_rfl) (by kernel_rfl) (Eq.mp (F4_eq x0 x1 m Q) h)

-- 16 beadle/beadlelaw21.same
noncomputable def A16 : Ann := [none, none, none, none, none, none, some ([0, 1], [(5, .int .i64)]), none, none, none, none, none, none]
def F16 (a0 : Option Addr) (n0 c0 : Nat) (a1 : Option Addr) (n1 c1 : Nat) (m : Mem) (Q : Value → Mem → Prop) : Prop :=
  (splitB (neI (lenI (n0)) (lenI (n1)))
  (Q (.bool (false)) m)
  (∃ Inv : Int → Mem → Nat → Prop, (∃ n : Nat, Inv (0 : Int) m n) ∧
  (∀ (x5 : Int), ∀ (m1 : Mem) (n_1 : Nat), Inv (x5) m1 n_1 →
  (splitB (ltI (x5) (lenI (n0)))
  (mBind (bump m1 9) fun m2 => ((0 ≤ (x5) ∧ (x5) < ((n0 : Nat) : Int)) ∧ (vPtr a0 fun ba0 oa0 => (∃ (x20 : Int), rd m2 ba0 (oa0 + Int.toNat (x5) * 4) = some (.int .i64 (x20)) ∧ (∃ (x20_2 : Int), rd m2 ba0 (oa0 + Int.toNat (x5) * 4 + 1) = some (.int .i64 (x20_2)) ∧ (∃ (x20_3 : Int), rd m2 ba0 (oa0 + Int.toNat (x5) * 4 + 2) = some (.int .i64 (x20_3)) ∧ (∃ (x20_4 : Int), rd m2 ba0 (oa0 + Int.toNat (x5) * 4 + 3) = some (.int .i64 (x20_4)) ∧ ((0 ≤ (x5) ∧ (x5) < ((n1 : Nat) : Int)) ∧ (vPtr a1 fun ba1 oa1 => (∃ (x24 : Int), rd m2 ba1 (oa1 + Int.toNat (x5) * 4) = some (.int .i64 (x24)) ∧ (∃ (x24_5 : Int), rd m2 ba1 (oa1 + Int.toNat (x5) * 4 + 1) = some (.int .i64 (x24_5)) ∧ (∃ (x24_6 : Int), rd m2 ba1 (oa1 + Int.toNat (x5) * 4 + 2) = some (.int .i64 (x24_6)) ∧ (∃ (x24_7 : Int), rd m2 ba1 (oa1 + Int.toNat (x5) * 4 + 3) = some (.int .i64 (x24_7)) ∧ (∃ r : Bool, eqV cx m2 40 23 (.agg #[.int .i64 (x20), .int .i64 (x20_2), .int .i64 (x20_3), .int .i64 (x20_4)]) (.agg #[.int .i64 (x24), .int .i64 (x24_5), .int .i64 (x24_6), .int .i64 (x24_7)]) = some r ∧ (splitB (!r)
  (Q (.bool (false)) m2)
  (∃ n_8 : Nat, n_8 < n_1 ∧ Inv (addI .i64 (x5) (1 : Int)) m2 n_8))))))))))))))))
  (Q (.bool (true)) m1)))))
theorem F16_eq (a0 : Option Addr) (n0 c0 : Nat) (a1 : Option Addr) (n1 c1 : Nat) (m : Mem) (Q : Value → Mem → Prop) : F16 a0 n0 c0 a1 n1 c1 m Q = vFn cx Tryd.f16 A16 [.slice a0 (n0) (c0), .slice a1 (n1) (c1)] m Q := by kernel_rfl
theorem F16_ok {a0 : Option Addr} {n0 c0 : Nat} {a1 : Option Addr} {n1 c1 : Nat} {m : Mem} {Q : Value → Mem → Prop} (h : F16 a0 n0 c0 a1 n1 c1 m Q) : CallW cx 16 [.slice a0 (n0) (c0), .slice a1 (n1) (c1)] m Q :=
  CallW.of (by kernel_rfl) (by kernel_rfl) (Eq.mp (F16_eq a0 n0 c0 a1 n1 c1 m Q) h)

-- 29 (*beadle/note.Notes).some
noncomputable def A29 : Ann := [none, none, none, none, some ([1, 11, 12], [(5, .sl), (13, .int .i64)]), none, none, none, none, none, none]
def F29 (p0 : Option Addr) (v1 : Value) (m : Mem) (Q : Value → Mem → Prop) : Prop :=
  (vPtr p0 fun bp0 op0 => (∃ (a11 : Option Addr) (n11 c11 : Nat), rd m bp0 (op0 + 1) = some (.slice a11 (n11) (c11)) ∧ (∃ Inv : Option Addr → Nat → Nat → Int → Mem → Nat → Prop, (∃ n : Nat, Inv none (0) (0) (0 : Int) m n) ∧
  (∀ (a5 : Option Addr) (n5 c5 : Nat) (x13 : Int), ∀ (m1 : Mem) (n_1 : Nat), Inv a5 (n5) (c5) (x13) m1 n_1 →
  (splitB (ltI (x13) (lenI (n11)))
  ((0 ≤ (x13) ∧ (x13) < ((n11 : Nat) : Int)) ∧ (vPtr a11 fun ba11 oa11 => (∃ (x16 : Int), rd m1 ba11 (oa11 + Int.toNat (x13) * 4) = some (.int .i64 (x16)) ∧ (∃ (x16_2 : Int), rd m1 ba11 (oa11 + Int.toNat (x13) * 4 + 1) = some (.int .i64 (x16_2)) ∧ (∃ (x16_3 : Int), rd m1 ba11 (oa11 + Int.toNat (x13) * 4 + 2) = some (.int .i64 (x16_3)) ∧ (∃ (x16_4 : Int), rd m1 ba11 (oa11 + Int.toNat (x13) * 4 + 3) = some (.int .i64 (x16_4)) ∧ (mBind (newO m1 (row [.int .i64 (0 : Int), .int .i64 (0 : Int), .int .i64 (0 : Int), .int .i64 (0 : Int)] 23 false)) fun m2 => (okW m2 m1.nx (0) 4 ∧ (mBind (wr m2 m1.nx (0) [.int .i64 (x16), .int .i64 (x16_2), .int .i64 (x16_3), .int .i64 (x16_4)]) fun m3 => (∃ (x18 : Int), rd m3 m1.nx (0) = some (.int .i64 (x18)) ∧ (∃ (x18_5 : Int), rd m3 m1.nx (1) = some (.int .i64 (x18_5)) ∧ (∃ (x18_6 : Int), rd m3 m1.nx (2) = some (.int .i64 (x18_6)) ∧ (∃ (x18_7 : Int), rd m3 m1.nx (3) = some (.int .i64 (x18_7)) ∧ (vCallF cx m3 (v1) [.agg #[.int .i64 (x18), .int .i64 (x18_5), .int .i64 (x18_6), .int .i64 (x18_7)]] fun r19 m4 => (∃ (b19 : Bool), r19 = (.bool (b19)) ∧ (splitB (b19)
  (∃ (x21 : Int), rd m4 m1.nx (0) = some (.int .i64 (x21)) ∧ (∃ (x21_8 : Int), rd m4 m1.nx (1) = some (.int .i64 (x21_8)) ∧ (∃ (x21_9 : Int), rd m4 m1.nx (2) = some (.int .i64 (x21_9)) ∧ (∃ (x21_10 : Int), rd m4 m1.nx (3) = some (.int .i64 (x21_10)) ∧ (mBind (newO m4 (row [.int .i64 (x21), .int .i64 (x21_8), .int .i64 (x21_9), .int .i64 (x21_10)] 23 false)) fun m5 => (∃ (a23 : Option Addr) (n23 c23 : Nat) (m6 : Mem), appendA cx m5 [32, 32] [.slice a5 (n5) (c5), .slice (some ⟨m4.nx, 0, none⟩) (1) (1)] = some (.slice a23 (n23) (c23), m6) ∧ (∃ n_11 : Nat, n_11 < n_1 ∧ Inv a23 (n23) (c23) (addI .i64 (x13) (1 : Int)) m6 n_11)))))))
  (∃ n_12 : Nat, n_12 < n_1 ∧ Inv a5 (n5) (c5) (addI .i64 (x13) (1 : Int)) m4 n_12)))))))))))))))))
  (Q (.slice a5 (n5) (c5)) m1))))))
theorem F29_eq (p0 : Option Addr) (v1 : Value) (m : Mem) (Q : Value → Mem → Prop) : F29 p0 v1 m Q = vFn cx Tryd.f29 A29 [.pointer p0, v1] m Q := by kernel_rfl
theorem F29_ok {p0 : Option Addr} {v1 : Value} {m : Mem} {Q : Value → Mem → Prop} (h : F29 p0 v1 m Q) : CallW cx 29 [.pointer p0, v1] m Q :=
  CallW.of (by kernel_rfl) (by kernel_rfl) (Eq.mp (F29_eq p0 v1 m Q) h)

-- 30 (*beadle/note.Notes).Since$1
noncomputable def A30 : Ann := [none, none]
def F30 (x0 : Int) (x0_1 : Int) (x0_2 : Int) (x0_3 : Int) (p1 : Option Addr) (m : Mem) (Q : Value → Mem → Prop) : Prop :=
  (mBind (newO m (row [.int .i64 (x0), .int .i64 (x0_1), .int .i64 (x0_2), .int .i64 (x0_3)] 23 false)) fun m1 => (∃ (x5 : Int), rd m1 m.nx (0) = some (.int .i64 (x5)) ∧ (vPtr p1 fun bp1 op1 => (∃ (x6 : Int), rd m1 bp1 (op1) = some (.int .i64 (x6)) ∧ (Q (.bool (leI (x6) (x5))) m1)))))
theorem F30_eq (x0 : Int) (x0_1 : Int) (x0_2 : Int) (x0_3 : Int) (p1 : Option Addr) (m : Mem) (Q : Value → Mem → Prop) : F30 x0 x0_1 x0_2 x0_3 p1 m Q = vFn cx Tryd.f30 A30 [.agg #[.int .i64 (x0), .int .i64 (x0_1), .int .i64 (x0_2), .int .i64 (x0_3)], .pointer p1] m Q := by kernel_rfl
theorem F30_ok {x0 : Int} {x0_1 : Int} {x0_2 : Int} {x0_3 : Int} {p1 : Option Addr} {m : Mem} {Q : Value → Mem → Prop} (h : F30 x0 x0_1 x0_2 x0_3 p1 m Q) : CallW cx 30 [.agg #[.int .i64 (x0), .int .i64 (x0_1), .int .i64 (x0_2), .int .i64 (x0_3)], .pointer p1] m Q :=
  CallW.of (by kernel_rfl) (by kernel_rfl) (Eq.mp (F30_eq x0 x0_1 x0_2 x0_3 p1 m Q) h)

-- 31 (*beadle/note.Notes).Of$1
noncomputable def A31 : Ann := [none, none]
def F31 (x0 : Int) (x0_1 : Int) (x0_2 : Int) (x0_3 : Int) (p1 : Option Addr) (m : Mem) (Q : Value → Mem → Prop) : Prop :=
  (mBind (newO m (row [.int .i64 (x0), .int .i64 (x0_1), .int .i64 (x0_2), .int .i64 (x0_3)] 23 false)) fun m1 => (∃ (x5 : Int), rd m1 m.nx (2) = some (.int .i64 (x5)) ∧ (vPtr p1 fun bp1 op1 => (∃ (x6 : Int), rd m1 bp1 (op1) = some (.int .i64 (x6)) ∧ (Q (.bool (eqI (x5) (x6))) m1)))))
theorem F31_eq (x0 : Int) (x0_1 : Int) (x0_2 : Int) (x0_3 : Int) (p1 : Option Addr) (m : Mem) (Q : Value → Mem → Prop) : F31 x0 x0_1 x0_2 x0_3 p1 m Q = vFn cx Tryd.f31 A31 [.agg #[.int .i64 (x0), .int .i64 (x0_1), .int .i64 (x0_2), .int .i64 (x0_3)], .pointer p1] m Q := by kernel_rfl
theorem F31_ok {x0 : Int} {x0_1 : Int} {x0_2 : Int} {x0_3 : Int} {p1 : Option Addr} {m : Mem} {Q : Value → Mem → Prop} (h : F31 x0 x0_1 x0_2 x0_3 p1 m Q) : CallW cx 31 [.agg #[.int .i64 (x0), .int .i64 (x0_1), .int .i64 (x0_2), .int .i64 (x0_3)], .pointer p1] m Q :=
  CallW.of (by kernel_rfl) (by kernel_rfl) (Eq.mp (F31_eq x0 x0_1 x0_2 x0_3 p1 m Q) h)

-- 15 (*beadle/note.Notes).Since
noncomputable def A15 : Ann := [none, none]
def F15 (p0 : Option Addr) (x1 : Int) (m : Mem) (Q : Value → Mem → Prop) : Prop :=
  (mBind (newO m (row [.int .i64 (x1)] 2 false)) fun m1 => (CallW cx 29 [.pointer p0, .func (.func 30) #[] #[.pointer (some ⟨m.nx, 0, none⟩)]] m1 fun r7 m2 => (∃ (a7 : Option Addr) (n7 c7 : Nat), r7 = (.slice a7 (n7) (c7)) ∧ (Q (.slice a7 (n7) (c7)) m2))))
theorem F15_eq (p0 : Option Addr) (x1 : Int) (m : Mem) (Q : Value → Mem → Prop) : F15 p0 x1 m Q = vFn cx Tryd.f15 A15 [.pointer p0, .int .i64 (x1)] m Q := by kernel_rfl
theorem F15_ok {p0 : Option Addr} {x1 : Int} {m : Mem} {Q : Value → Mem → Prop} (h : F15 p0 x1 m Q) : CallW cx 15 [.pointer p0, .int .i64 (x1)] m Q :=
  CallW.of (by kernel_rfl) (by kernel_rfl) (Eq.mp (F15_eq p0 x1 m Q) h)

-- 17 (*beadle/note.Notes).Of
noncomputable def A17 : Ann := [none, none]
def F17 (p0 : Option Addr) (x1 : Int) (m : Mem) (Q : Value → Mem → Prop) : Prop :=
  (mBind (newO m (row [.int .i64 (x1)] 3 false)) fun m1 => (CallW cx 29 [.pointer p0, .func (.func 31) #[] #[.pointer (some ⟨m.nx, 0, none⟩)]] m1 fun r7 m2 => (∃ (a7 : Option Addr) (n7 c7 : Nat), r7 = (.slice a7 (n7) (c7)) ∧ (Q (.slice a7 (n7) (c7)) m2))))
theorem F17_eq (p0 : Option Addr) (x1 : Int) (m : Mem) (Q : Value → Mem → Prop) : F17 p0 x1 m Q = vFn cx Tryd.f17 A17 [.pointer p0, .int .i64 (x1)] m Q := by kernel_rfl
theorem F17_ok {p0 : Option Addr} {x1 : Int} {m : Mem} {Q : Value → Mem → Prop} (h : F17 p0 x1 m Q) : CallW cx 17 [.pointer p0, .int .i64 (x1)] m Q :=
  CallW.of (by kernel_rfl) (by kernel_rfl) (Eq.mp (F17_eq p0 x1 m Q) h)

-- 6 beadle/beadlelaw21.NotePlays
noncomputable def A6 : Ann := [none, none, none, none, none, none, none, none, none, none, none, none, some ([0, 1, 2, 3, 9], [(10, .int .i64)]), none, some ([0, 1, 2, 3, 9], [(10, .int .i64)]), none, none, none, some ([0, 1, 2, 3, 9, 10], [(11, .int .i64)]), none, none, none, none, some ([0, 1, 2, 3, 9], [(12, .int .i64)]), none, none, none, none, none, some ([0, 1, 2, 3, 9, 12, 13], [(14, .sl), (15, .sl), (16, .int .i64)]), none, none, none, some ([0, 1, 2, 3, 9, 12, 13, 15, 16], [(14, .sl)]), none, none, none, none, none]
def F6 (x0 : Int) (a1 : Option Addr) (n1 c1 : Nat) (x2 : Int) (x3 : Int) (m : Mem) (Q : Value → Mem → Prop) : Prop :=
  (CallW cx 7 [] m fun r18 m1 => (∃ (b18 : Bool), r18 = (.bool (b18)) ∧ (splitB (!(b18))
  (Q (.bool (false)) m1)
  (splitB (ltI (200 : Int) (lenI (n1)))
  (Q (.bool (true)) m1)
  (CallW cx 10 [.int .i64 (x0)] m1 fun r24 m2 => (∃ (p24 : Option Addr), r24 = (.pointer p24) ∧ (splitB ((Option.isNone p24))
  (Q (.bool (false)) m2)
  (joinK (fun (x10 : Int) (m3 : Mem) => (joinK (fun (x10_2 : Int) (m4 : Mem) => (∃ Inv : Int → Mem → Nat → Prop, (∃ n : Nat, Inv (0 : Int) m4 n) ∧
  (∀ (x11 : Int), ∀ (m5 : Mem) (n_3 : Nat), Inv (x11) m5 n_3 →
  (splitB (ltI (x11) (lenI (n1)))
  ((0 ≤ (x11) ∧ (x11) < ((n1 : Nat) : Int)) ∧ (vPtr a1 fun ba1 oa1 => (∃ (x42 : Int), rd m5 ba1 (oa1 + Int.toNat (x11) * 4) = some (.int .i64 (x42)) ∧ (∃ (x42_4 : Int), rd m5 ba1 (oa1 + Int.toNat (x11) * 4 + 1) = some (.int .i64 (x42_4)) ∧ (∃ (x42_5 : Int), rd m5 ba1 (oa1 + Int.toNat (x11) * 4 + 2) = some (.int .i64 (x42_5)) ∧ (∃ (x42_6 : Int), rd m5 ba1 (oa1 + Int.toNat (x11) * 4 + 3) = some (.int .i64 (x42_6)) ∧ (mBind (newO m5 (row [.int .i64 (x42), .int .i64 (x42_4), .int .i64 (x42_5), .int .i64 (x42_6)] 23 false)) fun m6 => (CallW cx 11 [.pointer p24, .slice (some ⟨m5.nx, 0, none⟩) (1) (1)] m6 fun r44 m7 => r44 = (.tuple #[]) ∧ (∃ n_7 : Nat, n_7 < n_3 ∧ Inv (addI .i64 (x11) (1 : Int)) m7 n_7)))))))))
  (joinK (fun (x12 : Int) (m8 : Mem) => (∃ (a55 : Option Addr) (n55 c55 : Nat), sliceOp cx m8 32 (.slice a1 (n1) (c1)) (some (.int .i64 (x12))) none none = some (.slice a55 (n55) (c55)) ∧ (∃ Inv_9 : Option Addr → Nat → Nat → Option Addr → Nat → Nat → Int → Mem → Nat → Prop, (∃ n_10 : Nat, Inv_9 none (0) (0) none (0) (0) (0 : Int) m8 n_10) ∧
  (∀ (a14 : Option Addr) (n14 c14 : Nat) (a15 : Option Addr) (n15 c15 : Nat) (x16 : Int), ∀ (m9 : Mem) (n_11 : Nat), Inv_9 a14 (n14) (c14) a15 (n15) (c15) (x16) m9 n_11 →
  (splitB (ltI (x16) (lenI (n55)))
  (joinK (fun (a14_13 : Option Addr) (n14_14 c14_15 : Nat) (m10 : Mem) => ((0 ≤ (x16) ∧ (x16) < ((n55 : Nat) : Int)) ∧ (vPtr a55 fun ba55 oa55 => (∃ (x80 : Int), rd m10 ba55 (oa55 + Int.toNat (x16) * 4 + 2) = some (.int .i64 (x80)) ∧ (splitB (eqI (x80) (x3))
  ((0 ≤ (x16) ∧ (x16) < ((n55 : Nat) : Int)) ∧ (vPtr a55 fun ba55_16 oa55_17 => (∃ (x87 : Int), rd m10 ba55_16 (oa55_17 + Int.toNat (x16) * 4) = some (.int .i64 (x87)) ∧ (∃ (x87_18 : Int), rd m10 ba55_16 (oa55_17 + Int.toNat (x16) * 4 + 1) = some (.int .i64 (x87_18)) ∧ (∃ (x87_19 : Int), rd m10 ba55_16 (oa55_17 + Int.toNat (x16) * 4 + 2) = some (.int .i64 (x87_19)) ∧ (∃ (x87_20 : Int), rd m10 ba55_16 (oa55_17 + Int.toNat (x16) * 4 + 3) = some (.int .i64 (x87_20)) ∧ (mBind (newO m10 (row [.int .i64 (x87), .int .i64 (x87_18), .int .i64 (x87_19), .int .i64 (x87_20)] 23 false)) fun m11 => (∃ (a89 : Option Addr) (n89 c89 : Nat) (m12 : Mem), appendA cx m11 [32, 32] [.slice a15 (n15) (c15), .slice (some ⟨m10.nx, 0, none⟩) (1) (1)] = some (.slice a89 (n89) (c89), m12) ∧ (∃ n_21 : Nat, n_21 < n_11 ∧ Inv_9 a14_13 (n14_14) (c14_15) a89 (n89) (c89) (addI .i64 (x16) (1 : Int)) m12 n_21)))))))))
  (∃ n_22 : Nat, n_22 < n_11 ∧ Inv_9 a14_13 (n14_14) (c14_15) a15 (n15) (c15) (addI .i64 (x16) (1 : Int)) m10 n_22)))))) fun J_12 =>
  ((0 ≤ (x16) ∧ (x16) < ((n55 : Nat) : Int)) ∧ (vPtr a55 fun ba55_23 oa55_24 => (∃ (x66 : Int), rd m9 ba55_23 (oa55_24 + Int.toNat (x16) * 4) = some (.int .i64 (x66)) ∧ (splitB (leI (x2) (x66))
  ((0 ≤ (x16) ∧ (x16) < ((n55 : Nat) : Int)) ∧ (vPtr a55 fun ba55_25 oa55_26 => (∃ (x73 : Int), rd m9 ba55_25 (oa55_26 + Int.toNat (x16) * 4) = some (.int .i64 (x73)) ∧ (∃ (x73_27 : Int), rd m9 ba55_25 (oa55_26 + Int.toNat (x16) * 4 + 1) = some (.int .i64 (x73_27)) ∧ (∃ (x73_28 : Int), rd m9 ba55_25 (oa55_26 + Int.toNat (x16) * 4 + 2) = some (.int .i64 (x73_28)) ∧ (∃ (x73_29 : Int), rd m9 ba55_25 (oa55_26 + Int.toNat (x16) * 4 + 3) = some (.int .i64 (x73_29)) ∧ (mBind (newO m9 (row [.int .i64 (x73), .int .i64 (x73_27), .int .i64 (x73_28), .int .i64 (x73_29)] 23 false)) fun m13 => (∃ (a75 : Option Addr) (n75 c75 : Nat) (m14 : Mem), appendA cx m13 [32, 32] [.slice a14 (n14) (c14), .slice (some ⟨m9.nx, 0, none⟩) (1) (1)] = some (.slice a75 (n75) (c75), m14) ∧ (J_12 a75 (n75) (c75) m14)))))))))
  (J_12 a14 (n14) (c14) m9))))))
  (CallW cx 10 [.int .i64 (x0)] m9 fun r91 m15 => (∃ (p91 : Option Addr), r91 = (.pointer p91) ∧ (CallW cx 11 [.pointer p91, .slice a1 (n1) (c1)] m15 fun r94 m16 => r94 = (.tuple #[]) ∧ (CallW cx 12 [.pointer p24] m16 fun r96 m17 => (∃ (a96 : Option Addr) (n96 c96 : Nat), r96 = (.slice a96 (n96) (c96)) ∧ (CallW cx 16 [.slice a96 (n96) (c96), .slice a55 (n55) (c55)] m17 fun r98 m18 => (∃ (b98 : Bool), r98 = (.bool (b98)) ∧ (splitB (b98) (CallW cx 13 [.pointer p24] m18 fun r101 m19 => (∃ (x101 : Int), r101 = (.int .i64 (x101)) ∧ (splitB (eqI (x101) (lenI (n55))) (CallW cx 14 [.pointer p24] m19 fun r108 m20 => (∃ (x108 : Int), r108 = (.int .i64 (x108)) ∧ (splitB (eqI (x108) (x12)) (CallW cx 15 [.pointer p24, .int .i64 (x2)] m20 fun r115 m21 => (∃ (a115 : Option Addr) (n115 c115 : Nat), r115 = (.slice a115 (n115) (c115)) ∧ (CallW cx 16 [.slice a115 (n115) (c115), .slice a14 (n14) (c14)] m21 fun r117 m22 => (∃ (b117 : Bool), r117 = (.bool (b117)) ∧ (splitB (b117) (CallW cx 17 [.pointer p24, .int .i64 (x3)] m22 fun r122 m23 => (∃ (a122 : Option Addr) (n122 c122 : Nat), r122 = (.slice a122 (n122) (c122)) ∧ (CallW cx 16 [.slice a122 (n122) (c122), .slice a15 (n15) (c15)] m23 fun r124 m24 => (∃ (b124 : Bool), r124 = (.bool (b124)) ∧ (splitB (b124) (CallW cx 12 [.pointer p91] m24 fun r128 m25 => (∃ (a128 : Option Addr) (n128 c128 : Nat), r128 = (.slice a128 (n128) (c128)) ∧ (CallW cx 16 [.slice a128 (n128) (c128), .slice a55 (n55) (c55)] m25 fun r130 m26 => (∃ (b130 : Bool), r130 = (.bool (b130)) ∧ (splitB (b130) (CallW cx 14 [.pointer p91] m26 fun r134 m27 => (∃ (x134 : Int), r134 = (.int .i64 (x134)) ∧ (Q (.bool (eqI (x134) (x12))) m27))) (Q (.bool (false)) m26)))))) (Q (.bool (false)) m24)))))) (Q (.bool (false)) m22)))))) (Q (.bool (false)) m20)))) (Q (.bool (false)) m19)))) (Q (.bool (false)) m18)))))))))))))) fun J_8 =>
  (splitB (ltI (x10_2) (lenI (n1)))
  (J_8 (subI .i64 (lenI (n1)) (x10_2)) m5)
  (J_8 (0 : Int) m5))))))) fun J_1 =>
  (splitB (ltI (4096 : Int) (x10))
  (J_1 (4096 : Int) m3)
  (J_1 (x10) m3)))) fun J =>
  (splitB (ltI (x0) (1 : Int))
  (J (1 : Int) m2)
  (J (x0) m2))))))))))
theorem F6_eq (x0 : Int) (a1 : Option Addr) (n1 c1 : Nat) (x2 : Int) (x3 : Int) (m : Mem) (Q : Value → Mem → Prop) : F6 x0 a1 n1 c1 x2 x3 m Q = vFn cx Tryd.f6 A6 [.int .i64 (x0), .slice a1 (n1) (c1), .int .i64 (x2), .int .i64 (x3)] m Q := by kernel_rfl
theorem F6_ok {x0 : Int} {a1 : Option Addr} {n1 c1 : Nat} {x2 : Int} {x3 : Int} {m : Mem} {Q : Value → Mem → Prop} (h : F6 x0 a1 n1 c1 x2 x3 m Q) : CallW cx 6 [.int .i64 (x0), .slice a1 (n1) (c1), .int .i64 (x2), .int .i64 (x3)] m Q :=
  CallW.of (by kernel_rfl) (by kernel_rfl) (Eq.mp (F6_eq x0 a1 n1 c1 x2 x3 m Q) h)

end
end Go.Proofs.YtdeknemdeijljaaDoor.vc
