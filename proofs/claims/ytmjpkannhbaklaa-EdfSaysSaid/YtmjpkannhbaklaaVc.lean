/-
  Formulas of the functions of package edf, of the laws and of the reference's: printed by a program (vcprint.py) out of the loaded code; Lean's kernel holds each against the code.
-/
import Derived.Test.YtmjpkannhbaklaaDefs
namespace Go.Proofs.Ytmjpkannhbaklaa.vc
open Go Go.AX
set_option linter.unusedVariables false
set_option maxRecDepth 100000
noncomputable section

-- 53 cmp.isNaN[int64]
noncomputable def A53 : Ann := [none, none]
def F53 (x0 : Int) (m : Mem) (Q : Value → Mem → Prop) : Prop :=
  (Q (.bool (neI (x0) (x0))) m)
theorem F53_eq (x0 : Int) (m : Mem) (Q : Value → Mem → Prop) : F53 x0 m Q = vFn cx Try.f53 A53 [.int .i64 (x0)] m Q := by kernel_rfl
theorem F53_ok {x0 : Int} {m : Mem} {Q : Value → Mem → Prop} (h : F53 x0 m Q) : CallW cx 53 [.int .i64 (x0)] m Q :=
  CallW.of (by kernel_rfl) (by kernel_rfl) (Eq.mp (F53_eq x0 m Q) h)

-- 54 cmp.isNaN[int]
noncomputable def A54 : Ann := [none, none]
def F54 (x0 : Int) (m : Mem) (Q : Value → Mem → Prop) : Prop :=
  (Q (.bool (neI (x0) (x0))) m)
theorem F54_eq (x0 : Int) (m : Mem) (Q : Value → Mem → Prop) : F54 x0 m Q = vFn cx Try.f54 A54 [.int .i64 (x0)] m Q := by kernel_rfl
theorem F54_ok {x0 : Int} {m : Mem} {Q : Value → Mem → Prop} (h : F54 x0 m Q) : CallW cx 54 [.int .i64 (x0)] m Q :=
  CallW.of (by kernel_rfl) (by kernel_rfl) (Eq.mp (F54_eq x0 m Q) h)

-- 37 cmp.Compare[int64]
noncomputable def A37 : Ann := [none, none, none, none, none, none, none, none, none, none, none, none, none, none, none, none, none, none, none]
def F37 (x0 : Int) (x1 : Int) (m : Mem) (Q : Value → Mem → Prop) : Prop :=
  (CallW cx 53 [.int .i64 (x0)] m fun r8 m1 => (∃ (b8 : Bool), r8 = (.bool (b8)) ∧ (CallW cx 53 [.int .i64 (x1)] m1 fun r10 m2 => (∃ (b10 : Bool), r10 = (.bool (b10)) ∧ (splitB (b8)
  (splitB (b10)
  (Q (.int .i64 (0 : Int)) m2)
  (Q (.int .i64 (-1 : Int)) m2))
  (splitB (b10)
  (Q (.int .i64 (1 : Int)) m2)
  (splitB (ltI (x0) (x1))
  (Q (.int .i64 (-1 : Int)) m2)
  (splitB (ltI (x1) (x0))
  (Q (.int .i64 (1 : Int)) m2)
  (Q (.int .i64 (0 : Int)) m2)))))))))
theorem F37_eq (x0 : Int) (x1 : Int) (m : Mem) (Q : Value → Mem → Prop) : F37 x0 x1 m Q = vFn cx Try.f37 A37 [.int .i64 (x0), .int .i64 (x1)] m Q := by kernel_rfl
theorem F37_ok {x0 : Int} {x1 : Int} {m : Mem} {Q : Value → Mem → Prop} (h : F37 x0 x1 m Q) : CallW cx 37 [.int .i64 (x0), .int .i64 (x1)] m Q :=
  CallW.of (by kernel_rfl) (by kernel_rfl) (Eq.mp (F37_eq x0 x1 m Q) h)

-- 38 cmp.Compare[int]
noncomputable def A38 : Ann := [none, none, none, none, none, none, none, none, none, none, none, none, none, none, none, none, none, none, none]
def F38 (x0 : Int) (x1 : Int) (m : Mem) (Q : Value → Mem → Prop) : Prop :=
  (CallW cx 54 [.int .i64 (x0)] m fun r8 m1 => (∃ (b8 : Bool), r8 = (.bool (b8)) ∧ (CallW cx 54 [.int .i64 (x1)] m1 fun r10 m2 => (∃ (b10 : Bool), r10 = (.bool (b10)) ∧ (splitB (b8)
  (splitB (b10)
  (Q (.int .i64 (0 : Int)) m2)
  (Q (.int .i64 (-1 : Int)) m2))
  (splitB (b10)
  (Q (.int .i64 (1 : Int)) m2)
  (splitB (ltI (x0) (x1))
  (Q (.int .i64 (-1 : Int)) m2)
  (splitB (ltI (x1) (x0))
  (Q (.int .i64 (1 : Int)) m2)
  (Q (.int .i64 (0 : Int)) m2)))))))))
theorem F38_eq (x0 : Int) (x1 : Int) (m : Mem) (Q : Value → Mem → Prop) : F38 x0 x1 m Q = vFn cx Try.f38 A38 [.int .i64 (x0), .int .i64 (x1)] m Q := by kernel_rfl
theorem F38_ok {x0 : Int} {x1 : Int} {m : Mem} {Q : Value → Mem → Prop} (h : F38 x0 x1 m Q) : CallW cx 38 [.int .i64 (x0), .int .i64 (x1)] m Q :=
  CallW.of (by kernel_rfl) (by kernel_rfl) (Eq.mp (F38_eq x0 x1 m Q) h)

-- 36 cmp.Or[int]
noncomputable def A36 : Ann := [none, none, none, none, some ([3, 6, 7], [(8, .int .i64)]), none, none, none, none, none, none, none]
def F36 (a0 : Option Addr) (n0 c0 : Nat) (m : Mem) (Q : Value → Mem → Prop) : Prop :=
  (∃ Inv : Int → Mem → Nat → Prop, (∃ n : Nat, Inv (0 : Int) m n) ∧
  (∀ (x8 : Int), ∀ (m1 : Mem) (n_1 : Nat), Inv (x8) m1 n_1 →
  (splitB (ltI (x8) (lenI (n0)))
  ((0 ≤ (x8) ∧ (x8) < ((n0 : Nat) : Int)) ∧ (vPtr a0 fun ba0 oa0 => (∃ (x11 : Int), rd m1 ba0 (oa0 + Int.toNat (x8) * 1) = some (.int .i64 (x11)) ∧ (splitB (neI (x11) (0 : Int))
  (Q (.int .i64 (x11)) m1)
  (∃ n_2 : Nat, n_2 < n_1 ∧ Inv (addI .i64 (x8) (1 : Int)) m1 n_2)))))
  (Q (.int .i64 (0 : Int)) m1))))
theorem F36_eq (a0 : Option Addr) (n0 c0 : Nat) (m : Mem) (Q : Value → Mem → Prop) : F36 a0 n0 c0 m Q = vFn cx Try.f36 A36 [.slice a0 (n0) (c0)] m Q := by kernel_rfl
theorem F36_ok {a0 : Option Addr} {n0 c0 : Nat} {m : Mem} {Q : Value → Mem → Prop} (h : F36 a0 n0 c0 m Q) : CallW cx 36 [.slice a0 (n0) (c0)] m Q :=
  CallW.of (by kernel_rfl) (by kernel_rfl) (Eq.mp (F36_eq a0 n0 c0 m Q) h)

-- 27 beadle/edf.compare
noncomputable def A27 : Ann := [none, none]
def F27 (x0 : Int) (x0_1 : Int) (b0 : Bool) (x1 : Int) (x1_2 : Int) (b1 : Bool) (m : Mem) (Q : Value → Mem → Prop) : Prop :=
  (mBind (newO m (row [.int .i64 (x0), .int .i64 (x0_1), .bool (b0)] 29 false)) fun m1 => (mBind (newO m1 (row [.int .i64 (x1), .int .i64 (x1_2), .bool (b1)] 29 false)) fun m2 => (mBind (bump m2 13) fun m3 => (∃ (x6 : Int), rd m3 m.nx (1) = some (.int .i64 (x6)) ∧ (∃ (x8 : Int), rd m3 m1.nx (1) = some (.int .i64 (x8)) ∧ (CallW cx 37 [.int .i64 (x6), .int .i64 (x8)] ((setFl (m3) m2.nx)) fun r9 m4 => (∃ (x9 : Int), r9 = (.int .i64 (x9)) ∧ (∃ (x11 : Int), rd m3 m.nx (0) = some (.int .i64 (x11)) ∧ (∃ (x13 : Int), rd m3 m1.nx (0) = some (.int .i64 (x13)) ∧ (CallW cx 38 [.int .i64 (x11), .int .i64 (x13)] (((setFl m4 m3.fl))) fun r14 m5 => (∃ (x14 : Int), r14 = (.int .i64 (x14)) ∧ (CallW cx 36 [.slice (some ⟨(m2.nx + 10), 0, none⟩) (2) (2)] ((addO (m5) (m2.nx + 10) (row [.int .i64 (x9), .int .i64 (x14)] 3 false))) fun r16 m6 => (∃ (x16 : Int), r16 = (.int .i64 (x16)) ∧ (mBind (m6) fun m7 => (Q (.int .i64 (x16)) m7)))))))))))))))
theorem F27_eq (x0 : Int) (x0_1 : Int) (b0 : Bool) (x1 : Int) (x1_2 : Int) (b1 : Bool) (m : Mem) (Q : Value → Mem → Prop) : F27 x0 x0_1 b0 x1 x1_2 b1 m Q = vFn cx Try.f27 A27 [.agg #[.int .i64 (x0), .int .i64 (x0_1), .bool (b0)], .agg #[.int .i64 (x1), .int .i64 (x1_2), .bool (b1)]] m Q := by kernel_rfl
theorem F27_ok {x0 : Int} {x0_1 : Int} {b0 : Bool} {x1 : Int} {x1_2 : Int} {b1 : Bool} {m : Mem} {Q : Value → Mem → Prop} (h : F27 x0 x0_1 b0 x1 x1_2 b1 m Q) : CallW cx 27 [.agg #[.int .i64 (x0), .int .i64 (x0_1), .bool (b0)], .agg #[.int .i64 (x1), .int .i64 (x1_2), .bool (b1)]] m Q :=
  CallW.of (by kernel_rfl) (by kernel_rfl) (Eq.mp (F27_eq x0 x0_1 b0 x1 x1_2 b1 m Q) h)

-- 10 beadle/edf.Good
noncomputable def A10 : Ann := [none, some ([0, 1], []), none, none, none, none, none, none, some ([0, 5, 21, 22], [(6, .int .i64), (23, .int .i64)]), none, none, none, none, some ([0, 5, 6, 8, 21, 22, 23], []), none, none, none, none, none]
def F10 (x0 : Int) (a1 : Option Addr) (n1 c1 : Nat) (m : Mem) (Q : Value → Mem → Prop) : Prop :=
  (joinK (fun  (m1 : Mem) => (mBind (newO m1 (.map [] 0)) fun m2 => (∃ Inv : Int → Int → Mem → Nat → Prop, (∃ n : Nat, Inv (0 : Int) (0 : Int) m2 n) ∧
  (∀ (x6 : Int) (x23 : Int), ∀ (m3 : Mem) (n_1 : Nat), Inv (x6) (x23) m3 n_1 →
  (splitB (ltI (x23) (lenI (n1)))
  ((0 ≤ (x23) ∧ (x23) < ((n1 : Nat) : Int)) ∧ (vPtr a1 fun ba1 oa1 => (∃ (x26 : Int), rd m3 ba1 (oa1 + Int.toNat (x23) * 3) = some (.int .i64 (x26)) ∧ (∃ (x26_2 : Int), rd m3 ba1 (oa1 + Int.toNat (x23) * 3 + 1) = some (.int .i64 (x26_2)) ∧ (∃ (b26 : Bool), rd m3 ba1 (oa1 + Int.toNat (x23) * 3 + 2) = some (.bool (b26)) ∧ (mBind (newO m3 (row [.int .i64 (0 : Int), .int .i64 (0 : Int), .bool (false)] 29 false)) fun m4 => (okW m4 m3.nx (0) 3 ∧ (mBind (wr m4 m3.nx (0) [.int .i64 (x26), .int .i64 (x26_2), .bool (b26)]) fun m5 => (joinK (fun  (m6 : Mem) => (∃ (x43 : Int), rd m6 m3.nx (0) = some (.int .i64 (x43)) ∧ (∃ m7 : Mem, mapUpdateA cx m6 49 (.map (some m1.nx)) (.int .i64 (x43)) (.bool (true)) = some m7 ∧ (∃ (b45 : Bool), rd m7 m3.nx (2) = some (.bool (b45)) ∧ (splitB (b45)
  (∃ n_4 : Nat, n_4 < n_1 ∧ Inv (addI .i64 (x6) (1 : Int)) (addI .i64 (x23) (1 : Int)) m7 n_4)
  (∃ n_5 : Nat, n_5 < n_1 ∧ Inv (x6) (addI .i64 (x23) (1 : Int)) m7 n_5)))))) fun J_3 =>
  (∃ (x28 : Int), rd m5 m3.nx (0) = some (.int .i64 (x28)) ∧ (splitB (ltI (x28) (0 : Int)) (Q (.bool (false)) m5) (∃ (x32 : Int), rd m5 m3.nx (0) = some (.int .i64 (x32)) ∧ (splitB (leI (1024 : Int) (x32)) (Q (.bool (false)) m5) (∃ (x38 : Int), rd m5 m3.nx (0) = some (.int .i64 (x38)) ∧ (∃ (b39 : Bool), lookupA cx m5 49 (.map (some m1.nx)) (.int .i64 (x38)) false = some (.bool (b39)) ∧ (splitB (b39)
  (Q (.bool (false)) m5)
  (J_3  m5)))))))))))))))))
  (Q (.bool (leI (x6) (x0))) m3)))))) fun J =>
  (splitB (ltI (x0) (1 : Int)) (Q (.bool (false)) m) (splitB (ltI (64 : Int) (x0)) (Q (.bool (false)) m) (splitB (ltI (64 : Int) (lenI (n1)))
  (Q (.bool (false)) m)
  (J  m)))))
theorem F10_eq (x0 : Int) (a1 : Option Addr) (n1 c1 : Nat) (m : Mem) (Q : Value → Mem → Prop) : F10 x0 a1 n1 c1 m Q = vFn cx Try.f10 A10 [.int .i64 (x0), .slice a1 (n1) (c1)] m Q := by kernel_rfl
theorem F10_ok {x0 : Int} {a1 : Option Addr} {n1 c1 : Nat} {m : Mem} {Q : Value → Mem → Prop} (h : F10 x0 a1 n1 c1 m Q) : CallW cx 10 [.int .i64 (x0), .slice a1 (n1) (c1)] m Q :=
  CallW.of (by kernel_rfl) (by kernel_rfl) (Eq.mp (F10_eq x0 a1 n1 c1 m Q) h)

-- 25 beadle/edf.split
noncomputable def A25 : Ann := [none, none, none, none, none, none, none]
def F25 (x0 : Int) (a1 : Option Addr) (n1 c1 : Nat) (m : Mem) (Q : Value → Mem → Prop) : Prop :=
  (CallW cx 10 [.int .i64 (x0), .slice a1 (n1) (c1)] m fun r9 m1 => (∃ (b9 : Bool), r9 = (.bool (b9)) ∧ (splitB (!(b9))
  (Q (.tuple #[.slice none (0) (0), .slice none (0) (0)]) m1)
  (CallW cx 33 [.slice a1 (n1) (c1)] m1 fun r12 m2 => (∃ (a12 : Option Addr) (n12 c12 : Nat), r12 = (.slice a12 (n12) (c12)) ∧ (mBind (bump m2 8) fun m3 => (∃ (a19 : Option Addr) (n19 c19 : Nat), sliceOp cx m3 22 (.slice a12 (n12) (c12)) none (some (.int .i64 (mnI (x0) (lenI (n12))))) none = some (.slice a19 (n19) (c19)) ∧ (∃ (a22 : Option Addr) (n22 c22 : Nat), sliceOp cx m3 22 (.slice a12 (n12) (c12)) (some (.int .i64 (mnI (x0) (lenI (n12))))) none none = some (.slice a22 (n22) (c22)) ∧ (Q (.tuple #[.slice a19 (n19) (c19), .slice a22 (n22) (c22)]) m3)))))))))
theorem F25_eq (x0 : Int) (a1 : Option Addr) (n1 c1 : Nat) (m : Mem) (Q : Value → Mem → Prop) : F25 x0 a1 n1 c1 m Q = vFn cx Try.f25 A25 [.int .i64 (x0), .slice a1 (n1) (c1)] m Q := by kernel_rfl
theorem F25_ok {x0 : Int} {a1 : Option Addr} {n1 c1 : Nat} {m : Mem} {Q : Value → Mem → Prop} (h : F25 x0 a1 n1 c1 m Q) : CallW cx 25 [.int .i64 (x0), .slice a1 (n1) (c1)] m Q :=
  CallW.of (by kernel_rfl) (by kernel_rfl) (Eq.mp (F25_eq x0 a1 n1 c1 m Q) h)

-- 33 beadle/edf.order
noncomputable def A33 : Ann := [none, none, none, none]
def F33 (a0 : Option Addr) (n0 c0 : Nat) (m : Mem) (Q : Value → Mem → Prop) : Prop :=
  (CallW cx 28 [.slice a0 (n0) (c0)] m fun r4 m1 => (∃ (a4 : Option Addr) (n4 c4 : Nat), r4 = (.slice a4 (n4) (c4)) ∧ (CallW cx 40 [.slice a4 (n4) (c4), .func (.func 41) #[] #[]] m1 fun r6 m2 => r6 = (.tuple #[]) ∧ (Q (.slice a4 (n4) (c4)) m2))))
theorem F33_eq (a0 : Option Addr) (n0 c0 : Nat) (m : Mem) (Q : Value → Mem → Prop) : F33 a0 n0 c0 m Q = vFn cx Try.f33 A33 [.slice a0 (n0) (c0)] m Q := by kernel_rfl
theorem F33_ok {a0 : Option Addr} {n0 c0 : Nat} {m : Mem} {Q : Value → Mem → Prop} (h : F33 a0 n0 c0 m Q) : CallW cx 33 [.slice a0 (n0) (c0)] m Q :=
  CallW.of (by kernel_rfl) (by kernel_rfl) (Eq.mp (F33_eq a0 n0 c0 m Q) h)

-- 11 beadle/edf.Pick
noncomputable def A11 : Ann := [none, none, none, none, none, some ([16, 17], [(5, .sl), (18, .int .i64)]), none, none, none, none, none, none]
def F11 (x0 : Int) (a1 : Option Addr) (n1 c1 : Nat) (m : Mem) (Q : Value → Mem → Prop) : Prop :=
  (CallW cx 25 [.int .i64 (x0), .slice a1 (n1) (c1)] m fun r13 m1 => (∃ (a13 : Option Addr) (n13 c13 : Nat), (∃ (a13_1 : Option Addr) (n13_2 c13_3 : Nat), r13 = (.tuple #[.slice a13 (n13) (c13), .slice a13_1 (n13_2) (c13_3)]) ∧ (∃ Inv : Option Addr → Nat → Nat → Int → Mem → Nat → Prop, (∃ n : Nat, Inv none (0) (0) (0 : Int) m1 n) ∧
  (∀ (a5 : Option Addr) (n5 c5 : Nat) (x18 : Int), ∀ (m2 : Mem) (n_4 : Nat), Inv a5 (n5) (c5) (x18) m2 n_4 →
  (splitB (ltI (x18) (lenI (n13)))
  ((0 ≤ (x18) ∧ (x18) < ((n13 : Nat) : Int)) ∧ (vPtr a13 fun ba13 oa13 => (∃ (x21 : Int), rd m2 ba13 (oa13 + Int.toNat (x18) * 3) = some (.int .i64 (x21)) ∧ (∃ (x21_5 : Int), rd m2 ba13 (oa13 + Int.toNat (x18) * 3 + 1) = some (.int .i64 (x21_5)) ∧ (∃ (b21 : Bool), rd m2 ba13 (oa13 + Int.toNat (x18) * 3 + 2) = some (.bool (b21)) ∧ (mBind (newO m2 (row [.int .i64 (0 : Int), .int .i64 (0 : Int), .bool (false)] 29 false)) fun m3 => (okW m3 m2.nx (0) 3 ∧ (mBind (wr m3 m2.nx (0) [.int .i64 (x21), .int .i64 (x21_5), .bool (b21)]) fun m4 => (∃ (x24 : Int), rd m4 m2.nx (0) = some (.int .i64 (x24)) ∧ (mBind (newO m4 (row [.int .i64 (x24)] 3 false)) fun m5 => (∃ (a26 : Option Addr) (n26 c26 : Nat) (m6 : Mem), appendA cx m5 [25, 25] [.slice a5 (n5) (c5), .slice (some ⟨m4.nx, 0, none⟩) (1) (1)] = some (.slice a26 (n26) (c26), m6) ∧ (∃ n_6 : Nat, n_6 < n_4 ∧ Inv a26 (n26) (c26) (addI .i64 (x18) (1 : Int)) m6 n_6))))))))))))
  (CallW cx 26 [.slice a5 (n5) (c5)] m2 fun r29 m7 => r29 = (.tuple #[]) ∧ (Q (.slice a5 (n5) (c5)) m7))))))))
theorem F11_eq (x0 : Int) (a1 : Option Addr) (n1 c1 : Nat) (m : Mem) (Q : Value → Mem → Prop) : F11 x0 a1 n1 c1 m Q = vFn cx Try.f11 A11 [.int .i64 (x0), .slice a1 (n1) (c1)] m Q := by kernel_rfl
theorem F11_ok {x0 : Int} {a1 : Option Addr} {n1 c1 : Nat} {m : Mem} {Q : Value → Mem → Prop} (h : F11 x0 a1 n1 c1 m Q) : CallW cx 11 [.int .i64 (x0), .slice a1 (n1) (c1)] m Q :=
  CallW.of (by kernel_rfl) (by kernel_rfl) (Eq.mp (F11_eq x0 a1 n1 c1 m Q) h)

-- 12 beadle/edf.Less
noncomputable def A12 : Ann := [none, none]
def F12 (x0 : Int) (x0_1 : Int) (b0 : Bool) (x1 : Int) (x1_2 : Int) (b1 : Bool) (m : Mem) (Q : Value → Mem → Prop) : Prop :=
  (mBind (newO m (row [.int .i64 (x0), .int .i64 (x0_1), .bool (b0)] 29 false)) fun m1 => (mBind (newO m1 (row [.int .i64 (x1), .int .i64 (x1_2), .bool (b1)] 29 false)) fun m2 => (∃ (x5 : Int), rd m2 m.nx (0) = some (.int .i64 (x5)) ∧ (∃ (x5_3 : Int), rd m2 m.nx (1) = some (.int .i64 (x5_3)) ∧ (∃ (b5 : Bool), rd m2 m.nx (2) = some (.bool (b5)) ∧ (∃ (x6 : Int), rd m2 m1.nx (0) = some (.int .i64 (x6)) ∧ (∃ (x6_4 : Int), rd m2 m1.nx (1) = some (.int .i64 (x6_4)) ∧ (∃ (b6 : Bool), rd m2 m1.nx (2) = some (.bool (b6)) ∧ (CallW cx 27 [.agg #[.int .i64 (x5), .int .i64 (x5_3), .bool (b5)], .agg #[.int .i64 (x6), .int .i64 (x6_4), .bool (b6)]] m2 fun r7 m3 => (∃ (x7 : Int), r7 = (.int .i64 (x7)) ∧ (Q (.bool (ltI (x7) (0 : Int))) m3)))))))))))
theorem F12_eq (x0 : Int) (x0_1 : Int) (b0 : Bool) (x1 : Int) (x1_2 : Int) (b1 : Bool) (m : Mem) (Q : Value → Mem → Prop) : F12 x0 x0_1 b0 x1 x1_2 b1 m Q = vFn cx Try.f12 A12 [.agg #[.int .i64 (x0), .int .i64 (x0_1), .bool (b0)], .agg #[.int .i64 (x1), .int .i64 (x1_2), .bool (b1)]] m Q := by kernel_rfl
theorem F12_ok {x0 : Int} {x0_1 : Int} {b0 : Bool} {x1 : Int} {x1_2 : Int} {b1 : Bool} {m : Mem} {Q : Value → Mem → Prop} (h : F12 x0 x0_1 b0 x1 x1_2 b1 m Q) : CallW cx 12 [.agg #[.int .i64 (x0), .int .i64 (x0_1), .bool (b0)], .agg #[.int .i64 (x1), .int .i64 (x1_2), .bool (b1)]] m Q :=
  CallW.of (by kernel_rfl) (by kernel_rfl) (Eq.mp (F12_eq x0 x0_1 b0 x1 x1_2 b1 m Q) h)

-- 13 beadle/beadlelaw15.ints
noncomputable def A13 : Ann := [none, none, none, none, none, none, some ([0, 1], [(5, .int .i64)]), none, none, none, none, none, none]
def F13 (a0 : Option Addr) (n0 c0 : Nat) (a1 : Option Addr) (n1 c1 : Nat) (m : Mem) (Q : Value → Mem → Prop) : Prop :=
  (splitB (neI (lenI (n0)) (lenI (n1)))
  (Q (.bool (false)) m)
  (∃ Inv : Int → Mem → Nat → Prop, (∃ n : Nat, Inv (0 : Int) m n) ∧
  (∀ (x5 : Int), ∀ (m1 : Mem) (n_1 : Nat), Inv (x5) m1 n_1 →
  (splitB (ltI (x5) (lenI (n0)))
  (mBind (bump m1 9) fun m2 => ((0 ≤ (x5) ∧ (x5) < ((n0 : Nat) : Int)) ∧ (vPtr a0 fun ba0 oa0 => (∃ (x20 : Int), rd m2 ba0 (oa0 + Int.toNat (x5) * 1) = some (.int .i64 (x20)) ∧ ((0 ≤ (x5) ∧ (x5) < ((n1 : Nat) : Int)) ∧ (vPtr a1 fun ba1 oa1 => (∃ (x24 : Int), rd m2 ba1 (oa1 + Int.toNat (x5) * 1) = some (.int .i64 (x24)) ∧ (splitB (neI (x20) (x24))
  (Q (.bool (false)) m2)
  (∃ n_2 : Nat, n_2 < n_1 ∧ Inv (addI .i64 (x5) (1 : Int)) m2 n_2)))))))))
  (Q (.bool (true)) m1)))))
theorem F13_eq (a0 : Option Addr) (n0 c0 : Nat) (a1 : Option Addr) (n1 c1 : Nat) (m : Mem) (Q : Value → Mem → Prop) : F13 a0 n0 c0 a1 n1 c1 m Q = vFn cx Try.f13 A13 [.slice a0 (n0) (c0), .slice a1 (n1) (c1)] m Q := by kernel_rfl
theorem F13_ok {a0 : Option Addr} {n0 c0 : Nat} {a1 : Option Addr} {n1 c1 : Nat} {m : Mem} {Q : Value → Mem → Prop} (h : F13 a0 n0 c0 a1 n1 c1 m Q) : CallW cx 13 [.slice a0 (n0) (c0), .slice a1 (n1) (c1)] m Q :=
  CallW.of (by kernel_rfl) (by kernel_rfl) (Eq.mp (F13_eq a0 n0 c0 a1 n1 c1 m Q) h)

-- 14 beadle/edf.Worst
noncomputable def A14 : Ann := [none, none, none, some ([4, 6], [(25, .bool)]), none, none]
def F14 (x0 : Int) (a1 : Option Addr) (n1 c1 : Nat) (m : Mem) (Q : Value → Mem → Prop) : Prop :=
  (mBind (newO m (row [.int .i64 (0 : Int), .int .i64 (0 : Int), .bool (false)] 29 false)) fun m1 => (CallW cx 25 [.int .i64 (x0), .slice a1 (n1) (c1)] m1 fun r11 m2 => (∃ (a11 : Option Addr) (n11 c11 : Nat), (∃ (a11_1 : Option Addr) (n11_2 c11_3 : Nat), r11 = (.tuple #[.slice a11 (n11) (c11), .slice a11_1 (n11_2) (c11_3)]) ∧ (joinK (fun (b25 : Bool) (m3 : Mem) => (splitB (b25)
  (okW m3 m.nx (0) 3 ∧ (mBind (wr m3 m.nx (0) [.int .i64 (0 : Int), .int .i64 (0 : Int), .bool (false)]) fun m4 => (∃ (xr : Int), rd m4 m.nx (0) = some (.int .i64 (xr)) ∧ (∃ (xr_4 : Int), rd m4 m.nx (1) = some (.int .i64 (xr_4)) ∧ (∃ (br : Bool), rd m4 m.nx (2) = some (.bool (br)) ∧ (Q (.tuple #[.agg #[.int .i64 (xr), .int .i64 (xr_4), .bool (br)], .bool (false)]) m4))))))
  ((0 ≤ (subI .i64 (lenI (n11)) (1 : Int)) ∧ (subI .i64 (lenI (n11)) (1 : Int)) < ((n11 : Nat) : Int)) ∧ (vPtr a11 fun ba11 oa11 => (∃ (x32 : Int), rd m3 ba11 (oa11 + Int.toNat (subI .i64 (lenI (n11)) (1 : Int)) * 3) = some (.int .i64 (x32)) ∧ (∃ (x32_5 : Int), rd m3 ba11 (oa11 + Int.toNat (subI .i64 (lenI (n11)) (1 : Int)) * 3 + 1) = some (.int .i64 (x32_5)) ∧ (∃ (b32 : Bool), rd m3 ba11 (oa11 + Int.toNat (subI .i64 (lenI (n11)) (1 : Int)) * 3 + 2) = some (.bool (b32)) ∧ (okW m3 m.nx (0) 3 ∧ (mBind (wr m3 m.nx (0) [.int .i64 (x32), .int .i64 (x32_5), .bool (b32)]) fun m5 => (∃ (xr_6 : Int), rd m5 m.nx (0) = some (.int .i64 (xr_6)) ∧ (∃ (xr_7 : Int), rd m5 m.nx (1) = some (.int .i64 (xr_7)) ∧ (∃ (br_8 : Bool), rd m5 m.nx (2) = some (.bool (br_8)) ∧ (Q (.tuple #[.agg #[.int .i64 (xr_6), .int .i64 (xr_7), .bool (br_8)], .bool (true)]) m5))))))))))))) fun J =>
  (splitB (eqI (lenI (n11)) (0 : Int)) (J (true) m2) ((0 ≤ (subI .i64 (lenI (n11)) (1 : Int)) ∧ (subI .i64 (lenI (n11)) (1 : Int)) < ((n11 : Nat) : Int)) ∧ (vPtr a11 fun ba11_9 oa11_10 => (∃ (b24 : Bool), rd m2 ba11_9 (oa11_10 + Int.toNat (subI .i64 (lenI (n11)) (1 : Int)) * 3 + 2) = some (.bool (b24)) ∧ (J (b24) m2))))))))))
theorem F14_eq (x0 : Int) (a1 : Option Addr) (n1 c1 : Nat) (m : Mem) (Q : Value → Mem → Prop) : F14 x0 a1 n1 c1 m Q = vFn cx Try.f14 A14 [.int .i64 (x0), .slice a1 (n1) (c1)] m Q := by kernel_rfl
theorem F14_ok {x0 : Int} {a1 : Option Addr} {n1 c1 : Nat} {m : Mem} {Q : Value → Mem → Prop} (h : F14 x0 a1 n1 c1 m Q) : CallW cx 14 [.int .i64 (x0), .slice a1 (n1) (c1)] m Q :=
  CallW.of (by kernel_rfl) (by kernel_rfl) (Eq.mp (F14_eq x0 a1 n1 c1 m Q) h)

-- 15 beadle/edf.First
noncomputable def A15 : Ann := [none, none, none, none, none, none]
def F15 (x0 : Int) (a1 : Option Addr) (n1 c1 : Nat) (m : Mem) (Q : Value → Mem → Prop) : Prop :=
  (mBind (newO m (row [.int .i64 (0 : Int), .int .i64 (0 : Int), .bool (false)] 29 false)) fun m1 => (CallW cx 25 [.int .i64 (x0), .slice a1 (n1) (c1)] m1 fun r11 m2 => (∃ (a11 : Option Addr) (n11 c11 : Nat), (∃ (a11_1 : Option Addr) (n11_2 c11_3 : Nat), r11 = (.tuple #[.slice a11 (n11) (c11), .slice a11_1 (n11_2) (c11_3)]) ∧ (splitB (eqI (lenI (n11_2)) (0 : Int))
  (okW m2 m.nx (0) 3 ∧ (mBind (wr m2 m.nx (0) [.int .i64 (0 : Int), .int .i64 (0 : Int), .bool (false)]) fun m3 => (∃ (xr : Int), rd m3 m.nx (0) = some (.int .i64 (xr)) ∧ (∃ (xr_4 : Int), rd m3 m.nx (1) = some (.int .i64 (xr_4)) ∧ (∃ (br : Bool), rd m3 m.nx (2) = some (.bool (br)) ∧ (Q (.tuple #[.agg #[.int .i64 (xr), .int .i64 (xr_4), .bool (br)], .bool (false)]) m3))))))
  ((0 ≤ (0 : Int) ∧ (0 : Int) < ((n11_2 : Nat) : Int)) ∧ (vPtr a11_1 fun ba11_1 oa11_1 => (∃ (x20 : Int), rd m2 ba11_1 (oa11_1 + Int.toNat (0 : Int) * 3) = some (.int .i64 (x20)) ∧ (∃ (x20_5 : Int), rd m2 ba11_1 (oa11_1 + Int.toNat (0 : Int) * 3 + 1) = some (.int .i64 (x20_5)) ∧ (∃ (b20 : Bool), rd m2 ba11_1 (oa11_1 + Int.toNat (0 : Int) * 3 + 2) = some (.bool (b20)) ∧ (okW m2 m.nx (0) 3 ∧ (mBind (wr m2 m.nx (0) [.int .i64 (x20), .int .i64 (x20_5), .bool (b20)]) fun m4 => (∃ (xr_6 : Int), rd m4 m.nx (0) = some (.int .i64 (xr_6)) ∧ (∃ (xr_7 : Int), rd m4 m.nx (1) = some (.int .i64 (xr_7)) ∧ (∃ (br_8 : Bool), rd m4 m.nx (2) = some (.bool (br_8)) ∧ (Q (.tuple #[.agg #[.int .i64 (xr_6), .int .i64 (xr_7), .bool (br_8)], .bool (true)]) m4))))))))))))))))
theorem F15_eq (x0 : Int) (a1 : Option Addr) (n1 c1 : Nat) (m : Mem) (Q : Value → Mem → Prop) : F15 x0 a1 n1 c1 m Q = vFn cx Try.f15 A15 [.int .i64 (x0), .slice a1 (n1) (c1)] m Q := by kernel_rfl
theorem F15_ok {x0 : Int} {a1 : Option Addr} {n1 c1 : Nat} {m : Mem} {Q : Value → Mem → Prop} (h : F15 x0 a1 n1 c1 m Q) : CallW cx 15 [.int .i64 (x0), .slice a1 (n1) (c1)] m Q :=
  CallW.of (by kernel_rfl) (by kernel_rfl) (Eq.mp (F15_eq x0 a1 n1 c1 m Q) h)

-- 16 beadle/edf.Beats
noncomputable def A16 : Ann := [none, none, none, none, none, none, none, some ([8, 25, 26], [(27, .int .i64)]), none, none, none, none, none, none, none]
def F16 (x0 : Int) (a1 : Option Addr) (n1 c1 : Nat) (x2 : Int) (x2_1 : Int) (b2 : Bool) (m : Mem) (Q : Value → Mem → Prop) : Prop :=
  (mBind (newO m (row [.int .i64 (x2), .int .i64 (x2_1), .bool (b2)] 29 false)) fun m1 => (mBind (bump m1 8) fun m2 => (CallW cx 28 [.slice a1 (n1) (c1)] ((setFl (m2) m1.nx)) fun r13 m3 => (∃ (a13 : Option Addr) (n13 c13 : Nat), r13 = (.slice a13 (n13) (c13)) ∧ (∃ (x14 : Int), rd m2 m.nx (0) = some (.int .i64 (x14)) ∧ (∃ (x14_2 : Int), rd m2 m.nx (1) = some (.int .i64 (x14_2)) ∧ (∃ (b14 : Bool), rd m2 m.nx (2) = some (.bool (b14)) ∧ (∃ (a16 : Option Addr) (n16 c16 : Nat) (m4 : Mem), appendA cx (addO ((setFl m3 m2.fl)) (m1.nx + 4) (row [.int .i64 (x14), .int .i64 (x14_2), .bool (b14)] 29 false)) [22, 22] [.slice a13 (n13) (c13), .slice (some ⟨(m1.nx + 4), 0, none⟩) (1) (1)] = some (.slice a16 (n16) (c16), m4) ∧ (CallW cx 11 [.int .i64 (x0), .slice a16 (n16) (c16)] m4 fun r17 m5 => (∃ (a17 : Option Addr) (n17 c17 : Nat), r17 = (.slice a17 (n17) (c17)) ∧ (mBind (m5) fun m6 => (∃ (x20 : Int), rd m6 m.nx (0) = some (.int .i64 (x20)) ∧ (CallW cx 29 [.slice a17 (n17) (c17), .int .i64 (x20)] m6 fun r21 m7 => (∃ (b21 : Bool), r21 = (.bool (b21)) ∧ (splitB (!(b21))
  (Q (.tuple #[.int .i64 (0 : Int), .bool (false)]) m7)
  (CallW cx 11 [.int .i64 (x0), .slice a1 (n1) (c1)] m7 fun r25 m8 => (∃ (a25 : Option Addr) (n25 c25 : Nat), r25 = (.slice a25 (n25) (c25)) ∧ (∃ Inv : Int → Mem → Nat → Prop, (∃ n : Nat, Inv (0 : Int) m8 n) ∧
  (∀ (x27 : Int), ∀ (m9 : Mem) (n_3 : Nat), Inv (x27) m9 n_3 →
  (splitB (ltI (x27) (lenI (n25)))
  ((0 ≤ (x27) ∧ (x27) < ((n25 : Nat) : Int)) ∧ (vPtr a25 fun ba25 oa25 => (∃ (x30 : Int), rd m9 ba25 (oa25 + Int.toNat (x27) * 1) = some (.int .i64 (x30)) ∧ (CallW cx 29 [.slice a17 (n17) (c17), .int .i64 (x30)] m9 fun r33 m10 => (∃ (b33 : Bool), r33 = (.bool (b33)) ∧ (splitB (!(b33))
  (Q (.tuple #[.int .i64 (x30), .bool (true)]) m10)
  (∃ n_4 : Nat, n_4 < n_3 ∧ Inv (addI .i64 (x27) (1 : Int)) m10 n_4)))))))
  (Q (.tuple #[.int .i64 (-1 : Int), .bool (true)]) m9)))))))))))))))))))))
theorem F16_eq (x0 : Int) (a1 : Option Addr) (n1 c1 : Nat) (x2 : Int) (x2_1 : Int) (b2 : Bool) (m : Mem) (Q : Value → Mem → Prop) : F16 x0 a1 n1 c1 x2 x2_1 b2 m Q = vFn cx Try.f16 A16 [.int .i64 (x0), .slice a1 (n1) (c1), .agg #[.int .i64 (x2), .int .i64 (x2_1), .bool (b2)]] m Q := by kernel_rfl
theorem F16_ok {x0 : Int} {a1 : Option Addr} {n1 c1 : Nat} {x2 : Int} {x2_1 : Int} {b2 : Bool} {m : Mem} {Q : Value → Mem → Prop} (h : F16 x0 a1 n1 c1 x2 x2_1 b2 m Q) : CallW cx 16 [.int .i64 (x0), .slice a1 (n1) (c1), .agg #[.int .i64 (x2), .int .i64 (x2_1), .bool (b2)]] m Q :=
  CallW.of (by kernel_rfl) (by kernel_rfl) (Eq.mp (F16_eq x0 a1 n1 c1 x2 x2_1 b2 m Q) h)

-- 28 slices.Clone[[]beadle/edf.Ent,beadle/edf.Ent]
noncomputable def A28 : Ann := [none, none, none, none, none]
def F28 (a0 : Option Addr) (n0 c0 : Nat) (m : Mem) (Q : Value → Mem → Prop) : Prop :=
  (∃ r : Bool, eqV cx m 40 22 (.slice a0 (n0) (c0)) (.slice none (0) (0)) = some r ∧ (splitB (r)
  (Q (.slice none (0) (0)) m)
  (mBind (newO m (row [] 29 false)) fun m1 => (∃ (a7 : Option Addr) (n7 c7 : Nat) (m2 : Mem), appendA cx m1 [22, 22] [.slice (some ⟨m.nx, 0, none⟩) (0) (0), .slice a0 (n0) (c0)] = some (.slice a7 (n7) (c7), m2) ∧ (Q (.slice a7 (n7) (c7)) m2)))))
theorem F28_eq (a0 : Option Addr) (n0 c0 : Nat) (m : Mem) (Q : Value → Mem → Prop) : F28 a0 n0 c0 m Q = vFn cx Try.f28 A28 [.slice a0 (n0) (c0)] m Q := by kernel_rfl
theorem F28_ok {a0 : Option Addr} {n0 c0 : Nat} {m : Mem} {Q : Value → Mem → Prop} (h : F28 a0 n0 c0 m Q) : CallW cx 28 [.slice a0 (n0) (c0)] m Q :=
  CallW.of (by kernel_rfl) (by kernel_rfl) (Eq.mp (F28_eq a0 n0 c0 m Q) h)

-- 29 slices.Contains[[]int,int]
noncomputable def A29 : Ann := [none, none]
def F29 (a0 : Option Addr) (n0 c0 : Nat) (x1 : Int) (m : Mem) (Q : Value → Mem → Prop) : Prop :=
  (CallW cx 39 [.slice a0 (n0) (c0), .int .i64 (x1)] m fun r7 m1 => (∃ (x7 : Int), r7 = (.int .i64 (x7)) ∧ (Q (.bool (leI (0 : Int) (x7))) m1)))
theorem F29_eq (a0 : Option Addr) (n0 c0 : Nat) (x1 : Int) (m : Mem) (Q : Value → Mem → Prop) : F29 a0 n0 c0 x1 m Q = vFn cx Try.f29 A29 [.slice a0 (n0) (c0), .int .i64 (x1)] m Q := by kernel_rfl
theorem F29_ok {a0 : Option Addr} {n0 c0 : Nat} {x1 : Int} {m : Mem} {Q : Value → Mem → Prop} (h : F29 a0 n0 c0 x1 m Q) : CallW cx 29 [.slice a0 (n0) (c0), .int .i64 (x1)] m Q :=
  CallW.of (by kernel_rfl) (by kernel_rfl) (Eq.mp (F29_eq a0 n0 c0 x1 m Q) h)

-- 39 slices.Index[[]int,int]
noncomputable def A39 : Ann := [none, none, none, some ([0, 1, 7], [(8, .int .i64)]), none, none, none, none, none, none, none]
def F39 (a0 : Option Addr) (n0 c0 : Nat) (x1 : Int) (m : Mem) (Q : Value → Mem → Prop) : Prop :=
  (∃ Inv : Int → Mem → Nat → Prop, (∃ n : Nat, Inv (0 : Int) m n) ∧
  (∀ (x8 : Int), ∀ (m1 : Mem) (n_1 : Nat), Inv (x8) m1 n_1 →
  (splitB (ltI (x8) (lenI (n0)))
  ((0 ≤ (x8) ∧ (x8) < ((n0 : Nat) : Int)) ∧ (vPtr a0 fun ba0 oa0 => (∃ (x15 : Int), rd m1 ba0 (oa0 + Int.toNat (x8) * 1) = some (.int .i64 (x15)) ∧ (splitB (eqI (x1) (x15))
  (Q (.int .i64 (x8)) m1)
  (∃ n_2 : Nat, n_2 < n_1 ∧ Inv (addI .i64 (x8) (1 : Int)) m1 n_2)))))
  (Q (.int .i64 (-1 : Int)) m1))))
theorem F39_eq (a0 : Option Addr) (n0 c0 : Nat) (x1 : Int) (m : Mem) (Q : Value → Mem → Prop) : F39 a0 n0 c0 x1 m Q = vFn cx Try.f39 A39 [.slice a0 (n0) (c0), .int .i64 (x1)] m Q := by kernel_rfl
theorem F39_ok {a0 : Option Addr} {n0 c0 : Nat} {x1 : Int} {m : Mem} {Q : Value → Mem → Prop} (h : F39 a0 n0 c0 x1 m Q) : CallW cx 39 [.slice a0 (n0) (c0), .int .i64 (x1)] m Q :=
  CallW.of (by kernel_rfl) (by kernel_rfl) (Eq.mp (F39_eq a0 n0 c0 x1 m Q) h)

-- 3 beadle/beadlelaw15.EdfBest
noncomputable def A3 : Ann := [none, none, none, none, some ([0, 1], []), none, none, none, none, some ([1, 5], [(6, .int .i64)]), none, none, none, none, none, none, none, some ([1, 5, 7], [(8, .int .i64)]), none, none, none, none, none, some ([1, 5, 7, 8], [(9, .int .i64)]), none, none, none, none, none, none, none, some ([1, 7], [(10, .int .i64)]), none, none, none, none, some ([1, 7, 10], [(11, .int .i64)]), none, none, none, none, none, none]
def F3 (x0 : Int) (a1 : Option Addr) (n1 c1 : Nat) (m : Mem) (Q : Value → Mem → Prop) : Prop :=
  (CallW cx 9 [] m fun r12 m1 => (∃ (b12 : Bool), r12 = (.bool (b12)) ∧ (splitB (!(b12))
  (Q (.bool (false)) m1)
  (joinK (fun  (m2 : Mem) => (CallW cx 11 [.int .i64 (x0), .slice a1 (n1) (c1)] m2 fun r25 m3 => (∃ (a25 : Option Addr) (n25 c25 : Nat), r25 = (.slice a25 (n25) (c25)) ∧ (joinK (fun (x6 : Int) (m4 : Mem) => (splitB (neI (lenI (n25)) (x6))
  (Q (.bool (false)) m4)
  ((0 ≤ lenI (n1) ∧ lenI (n1) ≤ lenI (n1) ∧ lenI (n1) ≤ 1073741824 ∧ 1 * Int.toNat (lenI (n1)) ≤ 140737488355328) ∧ (mBind (newO m4 (row (repL [.bool (false)] (Int.toNat (lenI (n1)))) 4 false)) fun m5 => (∃ Inv : Int → Mem → Nat → Prop, (∃ n : Nat, Inv (0 : Int) m5 n) ∧
  (∀ (x8 : Int), ∀ (m6 : Mem) (n_2 : Nat), Inv (x8) m6 n_2 →
  (splitB (ltI (x8) (lenI (n1)))
  (∃ Inv_3 : Int → Mem → Nat → Prop, (∃ n_4 : Nat, Inv_3 (0 : Int) m6 n_4) ∧
  (∀ (x9 : Int), ∀ (m7 : Mem) (n_5 : Nat), Inv_3 (x9) m7 n_5 →
  (splitB (ltI (x9) (lenI (n25)))
  (mBind (bump m7 20) fun m8 => ((0 ≤ (x8) ∧ (x8) < ((Int.toNat (lenI (n1)) : Nat) : Int)) ∧ (∃ (b57 : Bool), rd m8 m4.nx (0 + Int.toNat (x8) * 1) = some (.bool (b57)) ∧ (splitB (b57) ((0 ≤ (x8) ∧ (x8) < ((Int.toNat (lenI (n1)) : Nat) : Int)) ∧ (okW m8 m4.nx (0 + Int.toNat (x8) * 1) 1 ∧ (mBind (wr m8 m4.nx (0 + Int.toNat (x8) * 1) [.bool (true)]) fun m9 => (∃ n_6 : Nat, n_6 < n_5 ∧ Inv_3 (addI .i64 (x9) (1 : Int)) m9 n_6)))) ((0 ≤ (x9) ∧ (x9) < ((n25 : Nat) : Int)) ∧ (vPtr a25 fun ba25 oa25 => (∃ (x62 : Int), rd m8 ba25 (oa25 + Int.toNat (x9) * 1) = some (.int .i64 (x62)) ∧ ((0 ≤ (x8) ∧ (x8) < ((n1 : Nat) : Int)) ∧ (vPtr a1 fun ba1 oa1 => (∃ (x67 : Int), rd m8 ba1 (oa1 + Int.toNat (x8) * 3) = some (.int .i64 (x67)) ∧ ((0 ≤ (x8) ∧ (x8) < ((Int.toNat (lenI (n1)) : Nat) : Int)) ∧ (okW m8 m4.nx (0 + Int.toNat (x8) * 1) 1 ∧ (mBind (wr m8 m4.nx (0 + Int.toNat (x8) * 1) [.bool (eqI (x62) (x67))]) fun m10 => (∃ n_7 : Nat, n_7 < n_5 ∧ Inv_3 (addI .i64 (x9) (1 : Int)) m10 n_7))))))))))))))
  ((0 ≤ (x8) ∧ (x8) < ((n1 : Nat) : Int)) ∧ (vPtr a1 fun ba1_8 oa1_9 => (∃ (b75 : Bool), rd m7 ba1_8 (oa1_9 + Int.toNat (x8) * 3 + 2) = some (.bool (b75)) ∧ (splitB (b75) ((0 ≤ (x8) ∧ (x8) < ((Int.toNat (lenI (n1)) : Nat) : Int)) ∧ (∃ (b80 : Bool), rd m7 m4.nx (0 + Int.toNat (x8) * 1) = some (.bool (b80)) ∧ (splitB (!(b80))
  (Q (.bool (false)) m7)
  (∃ n_10 : Nat, n_10 < n_2 ∧ Inv (addI .i64 (x8) (1 : Int)) m7 n_10)))) (∃ n_11 : Nat, n_11 < n_2 ∧ Inv (addI .i64 (x8) (1 : Int)) m7 n_11))))))))
  (∃ Inv_12 : Int → Mem → Nat → Prop, (∃ n_13 : Nat, Inv_12 (0 : Int) m6 n_13) ∧
  (∀ (x10 : Int), ∀ (m11 : Mem) (n_14 : Nat), Inv_12 (x10) m11 n_14 →
  (splitB (ltI (x10) (lenI (n1)))
  (∃ Inv_15 : Int → Mem → Nat → Prop, (∃ n_16 : Nat, Inv_15 (0 : Int) m11 n_16) ∧
  (∀ (x11 : Int), ∀ (m12 : Mem) (n_17 : Nat), Inv_15 (x11) m12 n_17 →
  (splitB (ltI (x11) (lenI (n1)))
  (mBind (bump m12 30) fun m13 => ((0 ≤ (x10) ∧ (x10) < ((Int.toNat (lenI (n1)) : Nat) : Int)) ∧ (∃ (b98 : Bool), rd m13 m4.nx (0 + Int.toNat (x10) * 1) = some (.bool (b98)) ∧ (splitB (b98) ((0 ≤ (x11) ∧ (x11) < ((Int.toNat (lenI (n1)) : Nat) : Int)) ∧ (∃ (b103 : Bool), rd m13 m4.nx (0 + Int.toNat (x11) * 1) = some (.bool (b103)) ∧ (splitB (!(b103)) ((0 ≤ (x10) ∧ (x10) < ((n1 : Nat) : Int)) ∧ (vPtr a1 fun ba1_18 oa1_19 => (∃ (b111 : Bool), rd m13 ba1_18 (oa1_19 + Int.toNat (x10) * 3 + 2) = some (.bool (b111)) ∧ (splitB (!(b111)) ((0 ≤ (x11) ∧ (x11) < ((n1 : Nat) : Int)) ∧ (vPtr a1 fun ba1_20 oa1_21 => (∃ (x118 : Int), rd m13 ba1_20 (oa1_21 + Int.toNat (x11) * 3) = some (.int .i64 (x118)) ∧ (∃ (x118_22 : Int), rd m13 ba1_20 (oa1_21 + Int.toNat (x11) * 3 + 1) = some (.int .i64 (x118_22)) ∧ (∃ (b118 : Bool), rd m13 ba1_20 (oa1_21 + Int.toNat (x11) * 3 + 2) = some (.bool (b118)) ∧ ((0 ≤ (x10) ∧ (x10) < ((n1 : Nat) : Int)) ∧ (vPtr a1 fun ba1_23 oa1_24 => (∃ (x122 : Int), rd m13 ba1_23 (oa1_24 + Int.toNat (x10) * 3) = some (.int .i64 (x122)) ∧ (∃ (x122_25 : Int), rd m13 ba1_23 (oa1_24 + Int.toNat (x10) * 3 + 1) = some (.int .i64 (x122_25)) ∧ (∃ (b122 : Bool), rd m13 ba1_23 (oa1_24 + Int.toNat (x10) * 3 + 2) = some (.bool (b122)) ∧ (CallW cx 12 [.agg #[.int .i64 (x118), .int .i64 (x118_22), .bool (b118)], .agg #[.int .i64 (x122), .int .i64 (x122_25), .bool (b122)]] m13 fun r123 m14 => (∃ (b123 : Bool), r123 = (.bool (b123)) ∧ (splitB (b123)
  (Q (.bool (false)) m14)
  (∃ n_26 : Nat, n_26 < n_17 ∧ Inv_15 (addI .i64 (x11) (1 : Int)) m14 n_26)))))))))))))) (∃ n_27 : Nat, n_27 < n_17 ∧ Inv_15 (addI .i64 (x11) (1 : Int)) m13 n_27))))) (∃ n_28 : Nat, n_28 < n_17 ∧ Inv_15 (addI .i64 (x11) (1 : Int)) m13 n_28)))) (∃ n_29 : Nat, n_29 < n_17 ∧ Inv_15 (addI .i64 (x11) (1 : Int)) m13 n_29)))))
  (∃ n_30 : Nat, n_30 < n_14 ∧ Inv_12 (addI .i64 (x10) (1 : Int)) m12 n_30))))
  (Q (.bool (true)) m11))))))))))) fun J_1 =>
  (splitB (ltI (lenI (n1)) (x0))
  (J_1 (lenI (n1)) m3)
  (J_1 (x0) m3)))))) fun J =>
  (splitB (ltI (64 : Int) (lenI (n1))) (Q (.bool (true)) m1) (CallW cx 10 [.int .i64 (x0), .slice a1 (n1) (c1)] m1 fun r20 m15 => (∃ (b20 : Bool), r20 = (.bool (b20)) ∧ (splitB (!(b20))
  (Q (.bool (true)) m15)
  (J  m15)))))))))
theorem F3_eq (x0 : Int) (a1 : Option Addr) (n1 c1 : Nat) (m : Mem) (Q : Value → Mem → Prop) : F3 x0 a1 n1 c1 m Q = vFn cx Try.f3 A3 [.int .i64 (x0), .slice a1 (n1) (c1)] m Q := by kernel_rfl
theorem F3_ok {x0 : Int} {a1 : Option Addr} {n1 c1 : Nat} {m : Mem} {Q : Value → Mem → Prop} (h : F3 x0 a1 n1 c1 m Q) : CallW cx 3 [.int .i64 (x0), .slice a1 (n1) (c1)] m Q :=
  CallW.of (by kernel_rfl) (by kernel_rfl) (Eq.mp (F3_eq x0 a1 n1 c1 m Q) h)

-- 5 beadle/beadlelaw15.EdfSplit
noncomputable def A5 : Ann := [none, none, none, none, some ([0, 1], []), none, none, none, none, none, none, none, some ([1, 5, 6, 7, 8, 9], [(10, .int .i64)]), none, none, none, none, none, none]
def F5 (x0 : Int) (a1 : Option Addr) (n1 c1 : Nat) (m : Mem) (Q : Value → Mem → Prop) : Prop :=
  (CallW cx 9 [] m fun r11 m1 => (∃ (b11 : Bool), r11 = (.bool (b11)) ∧ (splitB (!(b11))
  (Q (.bool (false)) m1)
  (joinK (fun  (m2 : Mem) => (CallW cx 14 [.int .i64 (x0), .slice a1 (n1) (c1)] m2 fun r25 m3 => (∃ (x25 : Int), (∃ (x25_1 : Int), (∃ (b25 : Bool), (∃ (b25_2 : Bool), r25 = (.tuple #[.agg #[.int .i64 (x25), .int .i64 (x25_1), .bool (b25)], .bool (b25_2)]) ∧ (mBind (newO m3 (row [.int .i64 (0 : Int), .int .i64 (0 : Int), .bool (false)] 29 false)) fun m4 => (okW m4 m3.nx (0) 3 ∧ (mBind (wr m4 m3.nx (0) [.int .i64 (x25), .int .i64 (x25_1), .bool (b25)]) fun m5 => (CallW cx 15 [.int .i64 (x0), .slice a1 (n1) (c1)] m5 fun r31 m6 => (∃ (x31 : Int), (∃ (x31_3 : Int), (∃ (b31 : Bool), (∃ (b31_4 : Bool), r31 = (.tuple #[.agg #[.int .i64 (x31), .int .i64 (x31_3), .bool (b31)], .bool (b31_4)]) ∧ (mBind (newO m6 (row [.int .i64 (0 : Int), .int .i64 (0 : Int), .bool (false)] 29 false)) fun m7 => (okW m7 m6.nx (0) 3 ∧ (mBind (wr m7 m6.nx (0) [.int .i64 (x31), .int .i64 (x31_3), .bool (b31)]) fun m8 => (CallW cx 11 [.int .i64 (x0), .slice a1 (n1) (c1)] m8 fun r36 m9 => (∃ (a36 : Option Addr) (n36 c36 : Nat), r36 = (.slice a36 (n36) (c36)) ∧ (∃ Inv : Int → Mem → Nat → Prop, (∃ n : Nat, Inv (1 : Int) m9 n) ∧
  (∀ (x10 : Int), ∀ (m10 : Mem) (n_5 : Nat), Inv (x10) m10 n_5 →
  (splitB (ltI (x10) (lenI (n36)))
  (mBind (bump m10 10) fun m11 => ((0 ≤ (x10) ∧ (x10) < ((n36 : Nat) : Int)) ∧ (vPtr a36 fun ba36 oa36 => (∃ (x46 : Int), rd m11 ba36 (oa36 + Int.toNat (x10) * 1) = some (.int .i64 (x46)) ∧ ((0 ≤ (subI .i64 (x10) (1 : Int)) ∧ (subI .i64 (x10) (1 : Int)) < ((n36 : Nat) : Int)) ∧ (vPtr a36 fun ba36_6 oa36_7 => (∃ (x51 : Int), rd m11 ba36_6 (oa36_7 + Int.toNat (subI .i64 (x10) (1 : Int)) * 1) = some (.int .i64 (x51)) ∧ (splitB (leI (x46) (x51))
  (Q (.bool (false)) m11)
  (∃ n_8 : Nat, n_8 < n_5 ∧ Inv (addI .i64 (x10) (1 : Int)) m11 n_8)))))))))
  (splitB ((b31_4) == (ltI (lenI (n36)) (lenI (n1)))) (splitB (!(b25_2)) (Q (.bool (true)) m10) (splitB (!(b31_4)) (Q (.bool (true)) m10) (∃ (x68 : Int), rd m10 m3.nx (0) = some (.int .i64 (x68)) ∧ (∃ (x68_9 : Int), rd m10 m3.nx (1) = some (.int .i64 (x68_9)) ∧ (∃ (b68 : Bool), rd m10 m3.nx (2) = some (.bool (b68)) ∧ (∃ (x69 : Int), rd m10 m6.nx (0) = some (.int .i64 (x69)) ∧ (∃ (x69_10 : Int), rd m10 m6.nx (1) = some (.int .i64 (x69_10)) ∧ (∃ (b69 : Bool), rd m10 m6.nx (2) = some (.bool (b69)) ∧ (CallW cx 12 [.agg #[.int .i64 (x68), .int .i64 (x68_9), .bool (b68)], .agg #[.int .i64 (x69), .int .i64 (x69_10), .bool (b69)]] m10 fun r70 m12 => (∃ (b70 : Bool), r70 = (.bool (b70)) ∧ (Q (.bool (b70)) m12))))))))))) (Q (.bool (false)) m10)))))))))))))))))))))))) fun J =>
  (splitB (ltI (64 : Int) (lenI (n1))) (Q (.bool (true)) m1) (CallW cx 10 [.int .i64 (x0), .slice a1 (n1) (c1)] m1 fun r19 m13 => (∃ (b19 : Bool), r19 = (.bool (b19)) ∧ (splitB (!(b19))
  (Q (.bool (true)) m13)
  (J  m13)))))))))
theorem F5_eq (x0 : Int) (a1 : Option Addr) (n1 c1 : Nat) (m : Mem) (Q : Value → Mem → Prop) : F5 x0 a1 n1 c1 m Q = vFn cx Try.f5 A5 [.int .i64 (x0), .slice a1 (n1) (c1)] m Q := by kernel_rfl
theorem F5_ok {x0 : Int} {a1 : Option Addr} {n1 c1 : Nat} {m : Mem} {Q : Value → Mem → Prop} (h : F5 x0 a1 n1 c1 m Q) : CallW cx 5 [.int .i64 (x0), .slice a1 (n1) (c1)] m Q :=
  CallW.of (by kernel_rfl) (by kernel_rfl) (Eq.mp (F5_eq x0 a1 n1 c1 m Q) h)

-- 6 beadle/beadlelaw15.EdfOut
noncomputable def A6 : Ann := [none, none, none, none, some ([0, 1, 5], []), none, none, none, none, none, none, none, none, none, none, none, none]
def F6 (x0 : Int) (a1 : Option Addr) (n1 c1 : Nat) (x2 : Int) (x2_1 : Int) (b2 : Bool) (m : Mem) (Q : Value → Mem → Prop) : Prop :=
  (mBind (newO m (row [.int .i64 (x2), .int .i64 (x2_1), .bool (b2)] 29 false)) fun m1 => (CallW cx 9 [] m1 fun r12 m2 => (∃ (b12 : Bool), r12 = (.bool (b12)) ∧ (splitB (!(b12))
  (Q (.bool (false)) m2)
  (joinK (fun  (m3 : Mem) => (∃ (x37 : Int), rd m3 m.nx (0) = some (.int .i64 (x37)) ∧ (∃ (x37_2 : Int), rd m3 m.nx (1) = some (.int .i64 (x37_2)) ∧ (∃ (b37 : Bool), rd m3 m.nx (2) = some (.bool (b37)) ∧ (CallW cx 16 [.int .i64 (x0), .slice a1 (n1) (c1), .agg #[.int .i64 (x37), .int .i64 (x37_2), .bool (b37)]] m3 fun r38 m4 => (∃ (x38 : Int), (∃ (b38 : Bool), r38 = (.tuple #[.int .i64 (x38), .bool (b38)]) ∧ (CallW cx 14 [.int .i64 (x0), .slice a1 (n1) (c1)] m4 fun r44 m5 => (∃ (x44 : Int), (∃ (x44_3 : Int), (∃ (b44 : Bool), (∃ (b44_4 : Bool), r44 = (.tuple #[.agg #[.int .i64 (x44), .int .i64 (x44_3), .bool (b44)], .bool (b44_4)]) ∧ (mBind (newO m5 (row [.int .i64 (0 : Int), .int .i64 (0 : Int), .bool (false)] 29 false)) fun m6 => (okW m6 m5.nx (0) 3 ∧ (mBind (wr m6 m5.nx (0) [.int .i64 (x44), .int .i64 (x44_3), .bool (b44)]) fun m7 => (CallW cx 11 [.int .i64 (x0), .slice a1 (n1) (c1)] m7 fun r49 m8 => (∃ (a49 : Option Addr) (n49 c49 : Nat), r49 = (.slice a49 (n49) (c49)) ∧ (splitB (ltI (lenI (n49)) (x0))
  (splitB (b38) (Q (.bool (eqI (x38) (-1 : Int))) m8) (Q (.bool (false)) m8))
  (∃ (b60 : Bool), rd m8 m.nx (2) = some (.bool (b60)) ∧ (splitB (b60)
  (splitB (b38) (splitB (b44_4) (∃ (x68 : Int), rd m8 m5.nx (0) = some (.int .i64 (x68)) ∧ (Q (.bool (eqI (x38) (x68))) m8)) (Q (.bool (false)) m8)) (Q (.bool (false)) m8))
  (splitB (b44_4) (∃ (x74 : Int), rd m8 m.nx (0) = some (.int .i64 (x74)) ∧ (∃ (x74_5 : Int), rd m8 m.nx (1) = some (.int .i64 (x74_5)) ∧ (∃ (b74 : Bool), rd m8 m.nx (2) = some (.bool (b74)) ∧ (∃ (x75 : Int), rd m8 m5.nx (0) = some (.int .i64 (x75)) ∧ (∃ (x75_6 : Int), rd m8 m5.nx (1) = some (.int .i64 (x75_6)) ∧ (∃ (b75 : Bool), rd m8 m5.nx (2) = some (.bool (b75)) ∧ (CallW cx 12 [.agg #[.int .i64 (x74), .int .i64 (x74_5), .bool (b74)], .agg #[.int .i64 (x75), .int .i64 (x75_6), .bool (b75)]] m8 fun r76 m9 => (∃ (b76 : Bool), r76 = (.bool (b76)) ∧ (splitB ((b38) == (b76)) (splitB (!(b38)) (Q (.bool (true)) m9) (∃ (x85 : Int), rd m9 m5.nx (0) = some (.int .i64 (x85)) ∧ (Q (.bool (eqI (x38) (x85))) m9))) (Q (.bool (false)) m9)))))))))) (splitB ((b38) == (false)) (splitB (!(b38)) (Q (.bool (true)) m8) (∃ (x85_7 : Int), rd m8 m5.nx (0) = some (.int .i64 (x85_7)) ∧ (Q (.bool (eqI (x38) (x85_7))) m8))) (Q (.bool (false)) m8))))))))))))))))))))))) fun J =>
  (mBind (bump m2 20) fun m10 => (splitB (ltI (63 : Int) (lenI (n1))) (Q (.bool (true)) m10) (CallW cx 10 [.int .i64 (x0), .slice a1 (n1) (c1)] m10 fun r20 m11 => (∃ (b20 : Bool), r20 = (.bool (b20)) ∧ (splitB (!(b20)) (Q (.bool (true)) m11) (∃ (a27 : Option Addr) (n27 c27 : Nat) (m12 : Mem), appendA cx (setFl (addO (m11) (m2.nx + 11) (row [] 29 false)) m11.nx) [22, 22] [.slice (some ⟨(m2.nx + 11), 0, none⟩) (0) (0), .slice a1 (n1) (c1)] = some (.slice a27 (n27) (c27), m12) ∧ (∃ (x28 : Int), rd m11 m.nx (0) = some (.int .i64 (x28)) ∧ (∃ (x28_8 : Int), rd m11 m.nx (1) = some (.int .i64 (x28_8)) ∧ (∃ (b28 : Bool), rd m11 m.nx (2) = some (.bool (b28)) ∧ (∃ (a30 : Option Addr) (n30 c30 : Nat) (m13 : Mem), appendA cx (addO ((setFl m12 m11.fl)) (m2.nx + 15) (row [.int .i64 (x28), .int .i64 (x28_8), .bool (b28)] 29 false)) [22, 22] [.slice a27 (n27) (c27), .slice (some ⟨(m2.nx + 15), 0, none⟩) (1) (1)] = some (.slice a30 (n30) (c30), m13) ∧ (CallW cx 10 [.int .i64 (x0), .slice a30 (n30) (c30)] m13 fun r31 m14 => (∃ (b31 : Bool), r31 = (.bool (b31)) ∧ (mBind (m14) fun m15 => (splitB (!(b31))
  (Q (.bool (true)) m15)
  (J  m15))))))))))))))))))))
theorem F6_eq (x0 : Int) (a1 : Option Addr) (n1 c1 : Nat) (x2 : Int) (x2_1 : Int) (b2 : Bool) (m : Mem) (Q : Value → Mem → Prop) : F6 x0 a1 n1 c1 x2 x2_1 b2 m Q = vFn cx Try.f6 A6 [.int .i64 (x0), .slice a1 (n1) (c1), .agg #[.int .i64 (x2), .int .i64 (x2_1), .bool (b2)]] m Q := by kernel_rfl
theorem F6_ok {x0 : Int} {a1 : Option Addr} {n1 c1 : Nat} {x2 : Int} {x2_1 : Int} {b2 : Bool} {m : Mem} {Q : Value → Mem → Prop} (h : F6 x0 a1 n1 c1 x2 x2_1 b2 m Q) : CallW cx 6 [.int .i64 (x0), .slice a1 (n1) (c1), .agg #[.int .i64 (x2), .int .i64 (x2_1), .bool (b2)]] m Q :=
  CallW.of (by kernel_rfl) (by kernel_rfl) (Eq.mp (F6_eq x0 a1 n1 c1 x2 x2_1 b2 m Q) h)

end
end Go.Proofs.Ytmjpkannhbaklaa.vc
