/-
  Formulas of the functions of package edf, of the laws and of the reference's: printed by a program (vcprint.py) out of the loaded code; Lean's kernel holds each against the code.
-/
import Derived.Test.YtmjpkannhbaklaaRows
import Derived.Test.YtmjpkannhbaklaaAxOpen
import Derived.KernelRfl
namespace Go.Proofs.Ytmjpkannhbaklaa.vc0
open Go Go.AX
set_option linter.unusedVariables false
set_option maxRecDepth 100000
noncomputable section
noncomputable def cx : Cx := Cx.of Try.prog

-- 53 cmp.isNaN[int64]
noncomputable def A53 : Ann := [none, none]
def F53 (x0 : Int) (m : Mem) (Q : Value → Mem → Prop) : Prop :=
  (Q (.bool (neI (x0) (x0))) m)
theorem F53_eq (x0 : Int) (m : Mem) (Q : Value → Mem → Prop) : F53 x0 m Q = vFn cx Try.f53 A53 [.int .i64 (x0)] m Q := by kernel_rfl
theorem F53_ok {x0 : Int} {m : Mem} {Q : Value → Mem → Prop} (h : F53 x0 m Q) : CallW cx 53 [.int .i64 (x0)] m Q :=
  CallW.of (by kernel_rfl) (by kernel_rfl) (Eq.mp (F53_eq x0 m Q) h)

-- 54 cmp.isNaN[int]
noncomputable def A54 : Ann := [none, none]
def F54 (x0 : Int) (m : Mem) (Q : Value → Mem → Prop) : Prop :=
  (Q (.bool (neI (x0) (x0))) m)
theorem F54_eq (x0 : Int) (m : Mem) (Q : Value → Mem → Prop) : F54 x0 m Q = vFn cx Try.f54 A54 [.int .i64 (x0)] m Q := by kernel_rfl
theorem F54_ok {x0 : Int} {m : Mem} {Q : Value → Mem → Prop} (h : F54 x0 m Q) : CallW cx 54 [.int .i64 (x0)] m Q :=
  CallW.of (by kernel_rfl) (by kernel_rfl) (Eq.mp (F54_eq x0 m Q) h)

-- 37 cmp.Compare[int64]
noncomputable def A37 : Ann := [none, none, none, none, none, none, none, none, none, none, none, none, none, none, none, none, none, none, none]
def F37 (x0 : Int) (x1 : Int) (m : Mem) (Q : Value → Mem → Prop) : Prop :=
  (CallW cx 53 [.int .i64 (x0)] m fun r8 m1 => (∃ (b8 : Bool), r8 = (.bool (b8)) ∧ (CallW cx 53 [.int .i64 (x1)] m1 fun r10 m2 => (∃ (b10 : Bool), r10 = (.bool (b10)) ∧ (splitB (b8)
  (splitB (b10)
  (Q (.int .i64 (0 : Int)) m2)
  (Q (.int .i64 (-1 : Int)) m2))
  (splitB (b10)
  (Q (.int .i64 (1 : Int)) m2)
  (splitB (ltI (x0) (x1))
  (Q (.int .i64 (-1 : Int)) m2)
  (splitB (ltI (x1) (x0))
  (Q (.int .i64 (1 : Int)) m2)
  (Q (.int .i64 (0 : Int)) m2)))))))))
theorem F37_eq (x0 : Int) (x1 : Int) (m : Mem) (Q : Value → Mem → Prop) : F37 x0 x1 m Q = vFn cx Try.f37 A37 [.int .i64 (x0), .int .i64 (x1)] m Q := by kernel_rfl
theorem F37_ok {x0 : Int} {x1 : Int} {m : Mem} {Q : Value → Mem → Prop} (h : F37 x0 x1 m Q) : CallW cx 37 [.int .i64 (x0), .int .i64 (x1)] m Q :=
  CallW.of (by kernel_rfl) (by kernel_rfl) (Eq.mp (F37_eq x0 x1 m Q) h)

-- 38 cmp.Compare[int]
noncomputable def A38 : Ann := [none, none, none, none, none, none, none, none, none, none, none, none, none, none, none, none, none, none, none]
def F38 (x0 : Int) (x1 : Int) (m : Mem) (Q : Value → Mem → Prop) : Prop :=
  (CallW cx 54 [.int .i64 (x0)] m fun r8 m1 => (∃ (b8 : Bool), r8 = (.bool (b8)) ∧ (CallW cx 54 [.int .i64 (x1)] m1 fun r10 m2 => (∃ (b10 : Bool), r10 = (.bool (b10)) ∧ (splitB (b8)
  (splitB (b10)
  (Q (.int .i64 (0 : Int)) m2)
  (Q (.int .i64 (-1 : Int)) m2))
  (splitB (b10)
  (Q (.int .i64 (1 : Int)) m2)
  (splitB (ltI (x0) (x1))
  (Q (.int .i64 (-1 : Int)) m2)
  (splitB (ltI (x1) (x0))
  (Q (.int .i64 (1 : Int)) m2)
  (Q (.int .i64 (0 : Int)) m2)))))))))
theorem F38_eq (x0 : Int) (x1 : Int) (m : Mem) (Q : Value → Mem → Prop) : F38 x0 x1 m Q = vFn cx Try.f38 A38 [.int .i64 (x0), .int .i64 (x1)] m Q := by kernel_rfl
theorem F38_ok {x0 : Int} {x1 : Int} {m : Mem} {Q : Value → Mem → Prop} (h : F38 x0 x1 m Q) : CallW cx 38 [.int .i64 (x0), .int .i64 (x1)] m Q :=
  CallW.of (by kernel_rfl) (by kernel_rfl) (Eq.mp (F38_eq x0 x1 m Q) h)

-- 36 cmp.Or[int]
noncomputable def A36 : Ann := [none, none, none, none, some ([3, 6, 7], [(8, .int .i64)]), none, none, none, none, none, none, none]
def F36 (a0 : Option Addr) (n0 c0 : Nat) (m : Mem) (Q : Value → Mem → Prop) : Prop :=
  (∃ Inv : Int → Mem → Nat → Prop, (∃ n : Nat, Inv (0 : Int) m n) ∧
  (∀ (x8 : Int), ∀ (m1 : Mem) (n_1 : Nat), Inv (x8) m1 n_1 →
  (splitB (ltI (x8) (lenI (n0)))
  ((0 ≤ (x8) ∧ (x8) < ((n0 : Nat) : Int)) ∧ (vPtr a0 fun ba0 oa0 => (∃ (x11 : Int), rd m1 ba0 (oa0 + Int.toNat (x8) * 1) = some (.int .i64 (x11)) ∧ (splitB (neI (x11) (0 : Int))
  (Q (.int .i64 (x11)) m1)
  (∃ n_2 : Nat, n_2 < n_1 ∧ Inv (addI .i64 (x8) (1 : Int)) m1 n_2)))))
  (Q (.int .i64 (0 : Int)) m1))))
theorem F36_eq (a0 : Option Addr) (n0 c0 : Nat) (m : Mem) (Q : Value → Mem → Prop) : F36 a0 n0 c0 m Q = vFn cx Try.f36 A36 [.slice a0 (n0) (c0)] m Q := by kernel_rfl
theorem F36_ok {a0 : Option Addr} {n0 c0 : Nat} {m : Mem} {Q : Value → Mem → Prop} (h : F36 a0 n0 c0 m Q) : CallW cx 36 [.slice a0 (n0) (c0)] m Q :=
  CallW.of (by kernel_rfl) (by kernel_rfl) (Eq.mp (F36_eq a0 n0 c0 m Q) h)

-- 27 beadle/edf.compare
noncomputable def A27 : Ann := [none, none]
def F27 (x0 : Int) (x0_1 : Int) (b0 : Bool) (x1 : Int) (x1_2 : Int) (b1 : Bool) (m : Mem) (Q : Value → Mem → Prop) : Prop :=
  (mBind (newO m (row [.int .i64 (x0), .int .i64 (x0_1), .bool (b0)] 29 false)) fun m1 => (mBind (newO m1 (row [.int .i64 (x1), .int .i64 (x1_2), .bool (b1)] 29 false)) fun m2 => (mBind (bump m2 13) fun m3 => (∃ (x6 : Int), rd m3 m.nx (1) = some (.int .i64 (x6)) ∧ (∃ (x8 : Int), rd m3 m1.nx (1) = some (.int .i64 (x8)) ∧ (CallW cx 37 [.int .i64 (x6), .int .i64 (x8)] ((setFl (m3) m2.nx)) fun r9 m4 => (∃ (x9 : Int), r9 = (.int .i64 (x9)) ∧ (∃ (x11 : Int), rd m3 m.nx (0) = some (.int .i64 (x11)) ∧ (∃ (x13 : Int), rd m3 m1.nx (0) = some (.int .i64 (x13)) ∧ (CallW cx 38 [.int .i64 (x11), .int .i64 (x13)] (((setFl m4 m3.fl))) fun r14 m5 => (∃ (x14 : Int), r14 = (.int .i64 (x14)) ∧ (CallW cx 36 [.slice (some ⟨(m2.nx + 10), 0, none⟩) (2) (2)] ((addO (m5) (m2.nx + 10) (row [.int .i64 (x9), .int .i64 (x14)] 3 false))) fun r16 m6 => (∃ (x16 : Int), r16 = (.int .i64 (x16)) ∧ (mBind (m6) fun m7 => (Q (.int .i64 (x16)) m7)))))))))))))))
theorem F27_eq (x0 : Int) (x0_1 : Int) (b0 : Bool) (x1 : Int) (x1_2 : Int) (b1 : Bool) (m : Mem) (Q : Value → Mem → Prop) : F27 x0 x0_1 b0 x1 x1_2 b1 m Q = vFn cx Try.f27 A27 [.agg #[.int .i64 (x0), .int .i64 (x0_1), .bool (b0)], .agg #[.int .i64 (x1), .int .i64 (x1_2), .bool (b1)]] m Q := by kernel_rfl
theorem F27_ok {x0 : Int} {x0_1 : Int} {b0 : Bool} {x1 : Int} {x1_2 : Int} {b1 : Bool} {m : Mem} {Q : Value → Mem → Prop} (h : F27 x0 x0_1 b0 x1 x1_2 b1 m Q) : CallW cx 27 [.agg #[.int .i64 (x0), .int .i64 (x0_1), .bool (b0)], .agg #[.int .i64 (x1), .int .i64 (x1_2), .bool (b1)]] m Q :=
  CallW.of (by kernel_rfl) (by kernel_rfl) (Eq.mp (F27_eq x0 x0_1 b0 x1 x1_2 b1 m Q) h)

-- 41 beadle/edf.order$1
noncomputable def A41 : Ann := [none, some ([2, 3], []), some ([2, 3], [(5, .bool)]), none, none, none, none]
def F41 (x0 : Int) (x0_1 : Int) (b0 : Bool) (x1 : Int) (x1_2 : Int) (b1 : Bool) (m : Mem) (Q : Value → Mem → Prop) : Prop :=
  (mBind (newO m (row [.int .i64 (x0), .int .i64 (x0_1), .bool (b0)] 29 false)) fun m1 => (mBind (newO m1 (row [.int .i64 (x1), .int .i64 (x1_2), .bool (b1)] 29 false)) fun m2 => (joinK (fun  (m3 : Mem) => (∃ (x21 : Int), rd m3 m.nx (0) = some (.int .i64 (x21)) ∧ (∃ (x21_3 : Int), rd m3 m.nx (1) = some (.int .i64 (x21_3)) ∧ (∃ (b21 : Bool), rd m3 m.nx (2) = some (.bool (b21)) ∧ (∃ (x22 : Int), rd m3 m1.nx (0) = some (.int .i64 (x22)) ∧ (∃ (x22_4 : Int), rd m3 m1.nx (1) = some (.int .i64 (x22_4)) ∧ (∃ (b22 : Bool), rd m3 m1.nx (2) = some (.bool (b22)) ∧ (CallW cx 27 [.agg #[.int .i64 (x21), .int .i64 (x21_3), .bool (b21)], .agg #[.int .i64 (x22), .int .i64 (x22_4), .bool (b22)]] m3 fun r23 m4 => (∃ (x23 : Int), r23 = (.int .i64 (x23)) ∧ (Q (.int .i64 (x23)) m4)))))))))) fun J =>
  (joinK (fun (b5 : Bool) (m5 : Mem) => (splitB (b5)
  (Q (.int .i64 (-1 : Int)) m5)
  (∃ (b15 : Bool), rd m5 m1.nx (2) = some (.bool (b15)) ∧ (splitB (b15) (∃ (b18 : Bool), rd m5 m.nx (2) = some (.bool (b18)) ∧ (splitB (!(b18))
  (Q (.int .i64 (1 : Int)) m5)
  (J  m5))) (J  m5))))) fun J_5 =>
  (∃ (b7 : Bool), rd m2 m.nx (2) = some (.bool (b7)) ∧ (splitB (b7) (∃ (b10 : Bool), rd m2 m1.nx (2) = some (.bool (b10)) ∧ (J_5 (!(b10)) m2)) (J_5 (false) m2)))))))
theorem F41_eq (x0 : Int) (x0_1 : Int) (b0 : Bool) (x1 : Int) (x1_2 : Int) (b1 : Bool) (m : Mem) (Q : Value → Mem → Prop) : F41 x0 x0_1 b0 x1 x1_2 b1 m Q = vFn cx Try.f41 A41 [.agg #[.int .i64 (x0), .int .i64 (x0_1), .bool (b0)], .agg #[.int .i64 (x1), .int .i64 (x1_2), .bool (b1)]] m Q := by kernel_rfl
theorem F41_ok {x0 : Int} {x0_1 : Int} {b0 : Bool} {x1 : Int} {x1_2 : Int} {b1 : Bool} {m : Mem} {Q : Value → Mem → Prop} (h : F41 x0 x0_1 b0 x1 x1_2 b1 m Q) : CallW cx 41 [.agg #[.int .i64 (x0), .int .i64 (x0_1), .bool (b0)], .agg #[.int .i64 (x1), .int .i64 (x1_2), .bool (b1)]] m Q :=
  CallW.of (by kernel_rfl) (by kernel_rfl) (Eq.mp (F41_eq x0 x0_1 b0 x1 x1_2 b1 m Q) h)

end
end Go.Proofs.Ytmjpkannhbaklaa.vc0
