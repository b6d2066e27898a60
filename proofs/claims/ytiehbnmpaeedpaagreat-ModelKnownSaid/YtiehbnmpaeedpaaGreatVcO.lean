/-
  Formulas of functions: printed by a program (vcp3.py) out of the loaded code; the kernel holds each against the code.
-/
import Derived.Test.YtiehbnmpaeedpaaGreatC0
import Derived.KernelRfl
namespace Go.Proofs.YtiehbnmpaeedpaaGreat.vc0
open Go Go.AX Go.Proofs.YtiehbnmpaeedpaaGreat.vc
set_option linter.unusedVariables false
set_option maxRecDepth 100000
noncomputable section

-- cmp.isNaN[int]
def G_cmp_isNaN_int (x0 : Int) (m : Mem) (Q : Value → Mem → Prop) : Prop :=
  (Q (.bool (neI (x0) (x0))) m)
theorem G_cmp_isNaN_int_ok {x0 : Int} {m : Mem} {Q : Value → Mem → Prop} (h : G_cmp_isNaN_int x0 m Q) : CallV cx n_cmp_isNaN_int [.int .i64 (x0)] m Q :=
  have e : G_cmp_isNaN_int x0 m Q = vFn2 cx Tryz.f116 [] [] [.int .i64 (x0)] m Q := by kernel_rfl
  CallV.of ovFr ovNi (by kernel_rfl) (by kernel_rfl) (Eq.mp e h)

-- cmp.isNaN[int64]
def G_cmp_isNaN_int64 (x0 : Int) (m : Mem) (Q : Value → Mem → Prop) : Prop :=
  (Q (.bool (neI (x0) (x0))) m)
theorem G_cmp_isNaN_int64_ok {x0 : Int} {m : Mem} {Q : Value → Mem → Prop} (h : G_cmp_isNaN_int64 x0 m Q) : CallV cx n_cmp_isNaN_int64 [.int .i64 (x0)] m Q :=
  have e : G_cmp_isNaN_int64 x0 m Q = vFn2 cx Tryz.f182 [] [] [.int .i64 (x0)] m Q := by kernel_rfl
  CallV.of ovFr ovNi (by kernel_rfl) (by kernel_rfl) (Eq.mp e h)

-- cmp.Compare[int]
def G_cmp_Compare_int (x0 : Int) (x1 : Int) (m : Mem) (Q : Value → Mem → Prop) : Prop :=
  (CallV cx n_cmp_isNaN_int [.int .i64 (x0)] m fun r8 m1 => (∃ (b8 : Bool), r8 = (.bool (b8)) ∧ (CallV cx n_cmp_isNaN_int [.int .i64 (x1)] m1 fun r10 m2 => (∃ (b10 : Bool), r10 = (.bool (b10)) ∧ (splitB (b8)
  (splitB (b10)
  (Q (.int .i64 (0 : Int)) m2)
  (Q (.int .i64 (-1 : Int)) m2))
  (splitB (b10)
  (Q (.int .i64 (1 : Int)) m2)
  (splitB (ltI (x0) (x1))
  (Q (.int .i64 (-1 : Int)) m2)
  (splitB (ltI (x1) (x0))
  (Q (.int .i64 (1 : Int)) m2)
  (Q (.int .i64 (0 : Int)) m2)))))))))
theorem G_cmp_Compare_int_ok {x0 : Int} {x1 : Int} {m : Mem} {Q : Value → Mem → Prop} (h : G_cmp_Compare_int x0 x1 m Q) : CallV cx n_cmp_Compare_int [.int .i64 (x0), .int .i64 (x1)] m Q :=
  have e : G_cmp_Compare_int x0 x1 m Q = vFn2 cx Tryz.f69 [] [] [.int .i64 (x0), .int .i64 (x1)] m Q := by kernel_rfl
  CallV.of ovFr ovNi (by kernel_rfl) (by kernel_rfl) (Eq.mp e h)

-- cmp.Compare[int64]
def G_cmp_Compare_int64 (x0 : Int) (x1 : Int) (m : Mem) (Q : Value → Mem → Prop) : Prop :=
  (CallV cx n_cmp_isNaN_int64 [.int .i64 (x0)] m fun r8 m1 => (∃ (b8 : Bool), r8 = (.bool (b8)) ∧ (CallV cx n_cmp_isNaN_int64 [.int .i64 (x1)] m1 fun r10 m2 => (∃ (b10 : Bool), r10 = (.bool (b10)) ∧ (splitB (b8)
  (splitB (b10)
  (Q (.int .i64 (0 : Int)) m2)
  (Q (.int .i64 (-1 : Int)) m2))
  (splitB (b10)
  (Q (.int .i64 (1 : Int)) m2)
  (splitB (ltI (x0) (x1))
  (Q (.int .i64 (-1 : Int)) m2)
  (splitB (ltI (x1) (x0))
  (Q (.int .i64 (1 : Int)) m2)
  (Q (.int .i64 (0 : Int)) m2)))))))))
theorem G_cmp_Compare_int64_ok {x0 : Int} {x1 : Int} {m : Mem} {Q : Value → Mem → Prop} (h : G_cmp_Compare_int64 x0 x1 m Q) : CallV cx n_cmp_Compare_int64 [.int .i64 (x0), .int .i64 (x1)] m Q :=
  have e : G_cmp_Compare_int64 x0 x1 m Q = vFn2 cx Tryz.f168 [] [] [.int .i64 (x0), .int .i64 (x1)] m Q := by kernel_rfl
  CallV.of ovFr ovNi (by kernel_rfl) (by kernel_rfl) (Eq.mp e h)

-- cmp.Or[int]
def G_cmp_Or_int (a0 : Option Addr) (n0 c0 : Nat) (m : Mem) (Q : Value → Mem → Prop) : Prop :=
  (∃ Inv : Int → Mem → Nat → Prop, (∃ n : Nat, Inv (0 : Int) m n) ∧
  (∀ (x8 : Int), ∀ (m1 : Mem) (n_1 : Nat), Inv (x8) m1 n_1 →
  (splitB (ltI (x8) (lenI (n0)))
  ((0 ≤ (x8) ∧ (x8) < ((n0 : Nat) : Int)) ∧ (vPtr a0 fun ba0 oa0 => (∃ (x11 : Int), rd m1 ba0 (oa0 + Int.toNat (x8) * 1) = some (.int .i64 (x11)) ∧ (splitB (neI (x11) (0 : Int))
  (Q (.int .i64 (x11)) m1)
  (∃ n_2 : Nat, n_2 < n_1 ∧ Inv (addI .i64 (x8) (1 : Int)) m1 n_2)))))
  (Q (.int .i64 (0 : Int)) m1))))
theorem G_cmp_Or_int_ok {a0 : Option Addr} {n0 c0 : Nat} {m : Mem} {Q : Value → Mem → Prop} (h : G_cmp_Or_int a0 n0 c0 m Q) : CallV cx n_cmp_Or_int [.slice a0 (n0) (c0)] m Q :=
  have e : G_cmp_Or_int a0 n0 c0 m Q = vFn2 cx Tryz.f167 [] [none, none, none, none, some ⟨[3, 6, 7], [(8, .int .i64)], [], [], [], 0⟩] [.slice a0 (n0) (c0)] m Q := by kernel_rfl
  CallV.of ovFr ovNi (by kernel_rfl) (by kernel_rfl) (Eq.mp e h)

-- beadle/edf.compare
def G_edf_compare (x0 : Int) (x0_1 : Int) (b0 : Bool) (x1 : Int) (x1_2 : Int) (b1 : Bool) (m : Mem) (Q : Value → Mem → Prop) : Prop :=
  (CallV cx n_cmp_Compare_int64 [.int .i64 (x0_1), .int .i64 (x1_2)] ((setFl ((bump m 15)) ((bump m 2)).nx)) fun r9 m1 => (∃ (x9 : Int), r9 = (.int .i64 (x9)) ∧ (CallV cx n_cmp_Compare_int [.int .i64 (x0), .int .i64 (x1)] (((setFl m1 ((bump m 15)).fl))) fun r14 m2 => (∃ (x14 : Int), r14 = (.int .i64 (x14)) ∧ (CallV cx n_cmp_Or_int [.slice (some ⟨(((bump m 2)).nx + 10), 0, none⟩) (2) (2)] ((addO (m2) (((bump m 2)).nx + 10) (row [.int .i64 (x9), .int .i64 (x14)] t_int false))) fun r16 m3 => (∃ (x16 : Int), r16 = (.int .i64 (x16)) ∧ (mBind (m3) fun m4 => (Q (.int .i64 (x16)) m4))))))))
theorem G_edf_compare_ok {x0 : Int} {x0_1 : Int} {b0 : Bool} {x1 : Int} {x1_2 : Int} {b1 : Bool} {m : Mem} {Q : Value → Mem → Prop} (h : G_edf_compare x0 x0_1 b0 x1 x1_2 b1 m Q) : CallV cx n_edf_compare [.agg #[.int .i64 (x0), .int .i64 (x0_1), .bool (b0)], .agg #[.int .i64 (x1), .int .i64 (x1_2), .bool (b1)]] m Q :=
  have e : G_edf_compare x0 x0_1 b0 x1 x1_2 b1 m Q = vFn2 cx Tryz.f149 [2, 3] [] [.agg #[.int .i64 (x0), .int .i64 (x0_1), .bool (b0)], .agg #[.int .i64 (x1), .int .i64 (x1_2), .bool (b1)]] m Q := by kernel_rfl
  CallV.of ovFr ovNi (by kernel_rfl) (by kernel_rfl) (Eq.mp e h)

-- beadle/edf.order$1
def G_edf_order_1 (x0 : Int) (x0_1 : Int) (b0 : Bool) (x1 : Int) (x1_2 : Int) (b1 : Bool) (m : Mem) (Q : Value → Mem → Prop) : Prop :=
  (joinK (fun  (m1 : Mem) => (CallV cx n_edf_compare [.agg #[.int .i64 (x0), .int .i64 (x0_1), .bool (b0)], .agg #[.int .i64 (x1), .int .i64 (x1_2), .bool (b1)]] m1 fun r23 m2 => (∃ (x23 : Int), r23 = (.int .i64 (x23)) ∧ (Q (.int .i64 (x23)) m2)))) fun J =>
  (joinK (fun (b5 : Bool) (m3 : Mem) => (splitB (b5)
  (Q (.int .i64 (-1 : Int)) m3)
  (splitB (b1) (splitB (!(b0))
  (Q (.int .i64 (1 : Int)) m3)
  (J  m3)) (J  m3)))) fun J_3 =>
  (splitB (b0) (J_3 (!(b1)) (bump m 2)) (J_3 (false) (bump m 2)))))
theorem G_edf_order_1_ok {x0 : Int} {x0_1 : Int} {b0 : Bool} {x1 : Int} {x1_2 : Int} {b1 : Bool} {m : Mem} {Q : Value → Mem → Prop} (h : G_edf_order_1 x0 x0_1 b0 x1 x1_2 b1 m Q) : CallV cx n_edf_order_1 [.agg #[.int .i64 (x0), .int .i64 (x0_1), .bool (b0)], .agg #[.int .i64 (x1), .int .i64 (x1_2), .bool (b1)]] m Q :=
  have e : G_edf_order_1 x0 x0_1 b0 x1 x1_2 b1 m Q = vFn2 cx Tryz.f148 [2, 3] [none, some ⟨[], [], [(2, 0, 0), (3, 1, 0)], [0, 1], [], 3⟩, some ⟨[], [(5, .bool)], [(2, 0, 0), (3, 1, 0)], [0, 1], [], 2⟩] [.agg #[.int .i64 (x0), .int .i64 (x0_1), .bool (b0)], .agg #[.int .i64 (x1), .int .i64 (x1_2), .bool (b1)]] m Q := by kernel_rfl
  CallV.of ovFr ovNi (by kernel_rfl) (by kernel_rfl) (Eq.mp e h)

-- slices.Insert[[]beadle/model.Serv,beadle/model.Serv]
def G_slices_Insert_sl_model_Serv (a0 : Option Addr) (n0 c0 : Nat) (x1 : Int) (a2 : Option Addr) (n2 c2 : Nat) (m : Mem) (Q : Value → Mem → Prop) : Prop :=
  (∃ (a12 : Option Addr) (n12 c12 : Nat), sliceOp cx m t_sl_model_Serv (.slice a0 (n0) (c0)) (some (.int .i64 (x1))) none none = some (.slice a12 (n12) (c12)) ∧ (splitB (eqI (lenI (n2)) (0 : Int))
  (Q (.slice a0 (n0) (c0)) m)
  (splitB (eqI (x1) (lenI (n0)))
  (∃ (a25 : Option Addr) (n25 c25 : Nat) (m1 : Mem), appendA cx m [t_sl_model_Serv, t_sl_model_Serv] [.slice a0 (n0) (c0), .slice a2 (n2) (c2)] = some (.slice a25 (n25) (c25), m1) ∧ (Q (.slice a25 (n25) (c25)) m1))
  (∃ x30 : Int, capA cx m [t_sl_model_Serv] [.slice a0 (n0) (c0)] = some (.int .i64 x30) ∧ (splitB (ltI (x30) (addI .i64 (lenI (n0)) (lenI (n2))))
  (∃ (a34 : Option Addr) (n34 c34 : Nat), sliceOp cx m t_sl_model_Serv (.slice a0 (n0) (c0)) none (some (.int .i64 (x1))) none = some (.slice a34 (n34) (c34)) ∧ (∃ (a40 : Option Addr) (n40 c40 : Nat) (m2 : Mem), appendA cx m [t_sl_model_Serv, t_int] [.slice a34 (n34) (c34), .int .i64 (subI .i64 (addI .i64 (lenI (n0)) (lenI (n2))) (x1))] = some (.slice a40 (n40) (c40), m2) ∧ (∃ (a43 : Option Addr) (n43 c43 : Nat), sliceOp cx m2 t_sl_model_Serv (.slice a40 (n40) (c40)) (some (.int .i64 (x1))) none none = some (.slice a43 (n43) (c43)) ∧ (∃ (x45 : Int) (m3 : Mem), copyA cx m2 [t_sl_model_Serv, t_sl_model_Serv] [.slice a43 (n43) (c43), .slice a2 (n2) (c2)] = some (.int .i64 x45, m3) ∧ (∃ (a50 : Option Addr) (n50 c50 : Nat), sliceOp cx ((bump m3 9)) t_sl_model_Serv (.slice a40 (n40) (c40)) (some (.int .i64 (addI .i64 (x1) (lenI (n2))))) none none = some (.slice a50 (n50) (c50)) ∧ (∃ (a53 : Option Addr) (n53 c53 : Nat), sliceOp cx ((bump m3 9)) t_sl_model_Serv (.slice a0 (n0) (c0)) (some (.int .i64 (x1))) none none = some (.slice a53 (n53) (c53)) ∧ (∃ (x54 : Int) (m4 : Mem), copyA cx ((bump m3 9)) [t_sl_model_Serv, t_sl_model_Serv] [.slice a50 (n50) (c50), .slice a53 (n53) (c53)] = some (.int .i64 x54, m4) ∧ (Q (.slice a40 (n40) (c40)) m4))))))))
  (∃ (a60 : Option Addr) (n60 c60 : Nat), sliceOp cx m t_sl_model_Serv (.slice a0 (n0) (c0)) none (some (.int .i64 (addI .i64 (lenI (n0)) (lenI (n2))))) none = some (.slice a60 (n60) (c60)) ∧ (∃ (a66 : Option Addr) (n66 c66 : Nat), sliceOp cx m t_sl_model_Serv (.slice a60 (n60) (c60)) (some (.int .i64 (addI .i64 (x1) (lenI (n2))))) none none = some (.slice a66 (n66) (c66)) ∧ (CallV cx n_slices_overlaps_model_Serv [.slice a2 (n2) (c2), .slice a66 (n66) (c66)] m fun r67 m5 => (∃ (b67 : Bool), r67 = (.bool (b67)) ∧ (splitB (!(b67))
  (∃ (a73 : Option Addr) (n73 c73 : Nat), sliceOp cx ((bump m5 9)) t_sl_model_Serv (.slice a60 (n60) (c60)) (some (.int .i64 (addI .i64 (x1) (lenI (n2))))) none none = some (.slice a73 (n73) (c73)) ∧ (∃ (a76 : Option Addr) (n76 c76 : Nat), sliceOp cx ((bump m5 9)) t_sl_model_Serv (.slice a60 (n60) (c60)) (some (.int .i64 (x1))) none none = some (.slice a76 (n76) (c76)) ∧ (∃ (x77 : Int) (m6 : Mem), copyA cx ((bump m5 9)) [t_sl_model_Serv, t_sl_model_Serv] [.slice a73 (n73) (c73), .slice a76 (n76) (c76)] = some (.int .i64 x77, m6) ∧ (∃ (a80 : Option Addr) (n80 c80 : Nat), sliceOp cx m6 t_sl_model_Serv (.slice a60 (n60) (c60)) (some (.int .i64 (x1))) none none = some (.slice a80 (n80) (c80)) ∧ (∃ (x82 : Int) (m7 : Mem), copyA cx m6 [t_sl_model_Serv, t_sl_model_Serv] [.slice a80 (n80) (c80), .slice a2 (n2) (c2)] = some (.int .i64 x82, m7) ∧ (Q (.slice a60 (n60) (c60)) m7))))))
  (∃ (a86 : Option Addr) (n86 c86 : Nat), sliceOp cx m5 t_sl_model_Serv (.slice a60 (n60) (c60)) (some (.int .i64 (lenI (n0)))) none none = some (.slice a86 (n86) (c86)) ∧ (∃ (x88 : Int) (m8 : Mem), copyA cx m5 [t_sl_model_Serv, t_sl_model_Serv] [.slice a86 (n86) (c86), .slice a2 (n2) (c2)] = some (.int .i64 x88, m8) ∧ (∃ (a91 : Option Addr) (n91 c91 : Nat), sliceOp cx m8 t_sl_model_Serv (.slice a60 (n60) (c60)) (some (.int .i64 (x1))) none none = some (.slice a91 (n91) (c91)) ∧ (CallV cx n_slices_rotateRight_model_Serv [.slice a91 (n91) (c91), .int .i64 (lenI (n2))] m8 fun r93 m9 => r93 = (.tuple #[]) ∧ (Q (.slice a60 (n60) (c60)) m9)))))))))))))))
theorem G_slices_Insert_sl_model_Serv_ok {a0 : Option Addr} {n0 c0 : Nat} {x1 : Int} {a2 : Option Addr} {n2 c2 : Nat} {m : Mem} {Q : Value → Mem → Prop} (h : G_slices_Insert_sl_model_Serv a0 n0 c0 x1 a2 n2 c2 m Q) : CallV cx n_slices_Insert_sl_model_Serv [.slice a0 (n0) (c0), .int .i64 (x1), .slice a2 (n2) (c2)] m Q :=
  have e : G_slices_Insert_sl_model_Serv a0 n0 c0 x1 a2 n2 c2 m Q = vFn2 cx Tryz.f35 [] [] [.slice a0 (n0) (c0), .int .i64 (x1), .slice a2 (n2) (c2)] m Q := by kernel_rfl
  CallV.of ovFr ovNi (by kernel_rfl) (by kernel_rfl) (Eq.mp e h)

end
end Go.Proofs.YtiehbnmpaeedpaaGreat.vc0
