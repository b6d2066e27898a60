/-
  Formulas of the functions that write sets in words, and of the reference's: printed by a program (vcprint.py) out of the loaded code; Lean's kernel holds each against the code.
-/
import Derived.Test.YtlenjadchmlliaaDoorVc
namespace Go.Proofs.YtlenjadchmlliaaDoor.vc
open Go Go.AX
set_option linter.unusedVariables false
set_option maxRecDepth 100000
noncomputable section

-- 40 internal/strconv.small
noncomputable def A40 : Ann := [none, none, none, none, none]
def F40 (x0 : Int) (m : Mem) (Q : Value → Mem → Prop) : Prop :=
  (splitB (ltI (x0) (10 : Int))
  (∃ s8 : ByteArray, sliceOp cx m 9 (.string (ByteArray.mk #[48, 49, 50, 51, 52, 53, 54, 55, 56, 57, 97, 98, 99, 100, 101, 102, 103, 104, 105, 106, 107, 108, 109, 110, 111, 112, 113, 114, 115, 116, 117, 118, 119, 120, 121, 122])) (some (.int .i64 (x0))) (some (.int .i64 (addI .i64 (x0) (1 : Int)))) none = some (.string s8) ∧ (Q (.string (s8)) m))
  (∃ s14 : ByteArray, sliceOp cx m 9 (.string (ByteArray.mk #[48, 48, 48, 49, 48, 50, 48, 51, 48, 52, 48, 53, 48, 54, 48, 55, 48, 56, 48, 57, 49, 48, 49, 49, 49, 50, 49, 51, 49, 52, 49, 53, 49, 54, 49, 55, 49, 56, 49, 57, 50, 48, 50, 49, 50, 50, 50, 51, 50, 52, 50, 53, 50, 54, 50, 55, 50, 56, 50, 57, 51, 48, 51, 49, 51, 50, 51, 51, 51, 52, 51, 53, 51, 54, 51, 55, 51, 56, 51, 57, 52, 48, 52, 49, 52, 50, 52, 51, 52, 52, 52, 53, 52, 54, 52, 55, 52, 56, 52, 57, 53, 48, 53, 49, 53, 50, 53, 51, 53, 52, 53, 53, 53, 54, 53, 55, 53, 56, 53, 57, 54, 48, 54, 49, 54, 50, 54, 51, 54, 52, 54, 53, 54, 54, 54, 55, 54, 56, 54, 57, 55, 48, 55, 49, 55, 50, 55, 51, 55, 52, 55, 53, 55, 54, 55, 55, 55, 56, 55, 57, 56, 48, 56, 49, 56, 50, 56, 51, 56, 52, 56, 53, 56, 54, 56, 55, 56, 56, 56, 57, 57, 48, 57, 49, 57, 50, 57, 51, 57, 52, 57, 53, 57, 54, 57, 55, 57, 56, 57, 57])) (some (.int .i64 (mulI .i64 (x0) (2 : Int)))) (some (.int .i64 (addI .i64 (mulI .i64 (x0) (2 : Int)) (2 : Int)))) none = some (.string s14) ∧ (Q (.string (s14)) m)))
theorem F40_eq (x0 : Int) (m : Mem) (Q : Value → Mem → Prop) : F40 x0 m Q = vFn cx Tryd.f40 A40 [.int .i64 (x0)] m Q := by kernel_rfl
theorem F40_ok {x0 : Int} {m : Mem} {Q : Value → Mem → Prop} (h : F40 x0 m Q) : CallW cx 40 [.int .i64 (x0)] m Q :=
  CallW.of (by kernel_rfl) (by kernel_rfl) (Eq.mp (F40_eq x0 m Q) h)

-- 37 internal/strconv.FormatInt
noncomputable def A37 : Ann := [none, none, none, none, some ([0], [(17, .bool)]), none, none, none, some ([0, 5], [(6, .int .u64)]), none, none, none, none, none, none, none, none, none, none]
def F37 (x0 : Int) (x1 : Int) (m : Mem) (Q : Value → Mem → Prop) : Prop :=
  (splitB (eqI (x1) (10 : Int))
  (joinK (fun (b17 : Bool) (m1 : Mem) => (splitB (b17)
  (CallW cx 40 [.int .i64 (x0)] m1 fun r19 m2 => (∃ (s19 : ByteArray), r19 = (.string (s19)) ∧ (Q (.string (s19)) m2)))
  (mBind (newO m1 (row [.int .u8 (0 : Int), .int .u8 (0 : Int), .int .u8 (0 : Int), .int .u8 (0 : Int), .int .u8 (0 : Int), .int .u8 (0 : Int), .int .u8 (0 : Int), .int .u8 (0 : Int), .int .u8 (0 : Int), .int .u8 (0 : Int), .int .u8 (0 : Int), .int .u8 (0 : Int), .int .u8 (0 : Int), .int .u8 (0 : Int), .int .u8 (0 : Int), .int .u8 (0 : Int), .int .u8 (0 : Int), .int .u8 (0 : Int), .int .u8 (0 : Int), .int .u8 (0 : Int), .int .u8 (0 : Int), .int .u8 (0 : Int), .int .u8 (0 : Int), .int .u8 (0 : Int)] 65 false)) fun m3 => (joinK (fun (x6 : Int) (m4 : Mem) => (CallW cx 41 [.int .u64 (x6)] m4 fun r27 m5 => (∃ (x27 : Int), r27 = (.int .i64 (x27)) ∧ (∃ (a30 : Option Addr) (n30 c30 : Nat), sliceOp cx m5 65 (.pointer (some ⟨m1.nx, 0, none⟩)) (some (.int .i64 (1 : Int))) (some (.int .i64 (addI .i64 (1 : Int) (x27)))) none = some (.slice a30 (n30) (c30)) ∧ (CallW cx 42 [.slice a30 (n30) (c30), .int .u64 (x6)] m5 fun r32 m6 => r32 = (.tuple #[]) ∧ (splitB (ltI (x0) (0 : Int))
  ((0 ≤ (0 : Int) ∧ (0 : Int) < ((24 : Nat) : Int)) ∧ (okW m6 m1.nx (0 + Int.toNat (0 : Int) * 1) 1 ∧ (mBind (wr m6 m1.nx (0 + Int.toNat (0 : Int) * 1) [.int .u8 (45 : Int)]) fun m7 => (∃ (a38 : Option Addr) (n38 c38 : Nat), sliceOp cx m7 65 (.pointer (some ⟨m1.nx, 0, none⟩)) none (some (.int .i64 (addI .i64 (1 : Int) (x27)))) none = some (.slice a38 (n38) (c38)) ∧ (∃ s39 : ByteArray, convertA cx m7 55 9 (.slice a38 (n38) (c38)) = some (.string s39) ∧ (Q (.string (s39)) m7))))))
  (∃ (a42 : Option Addr) (n42 c42 : Nat), sliceOp cx m6 65 (.pointer (some ⟨m1.nx, 0, none⟩)) (some (.int .i64 (1 : Int))) (some (.int .i64 (addI .i64 (1 : Int) (x27)))) none = some (.slice a42 (n42) (c42)) ∧ (∃ s43 : ByteArray, convertA cx m6 55 9 (.slice a42 (n42) (c42)) = some (.string s43) ∧ (Q (.string (s43)) m6))))))))) fun J_1 =>
  (splitB (ltI (x0) (0 : Int))
  (J_1 (subI .u64 0 (cvI .u64 (x0))) m3)
  (J_1 (cvI .u64 (x0)) m3)))))) fun J =>
  (splitB (leI (0 : Int) (x0)) (J (ltI (x0) (100 : Int)) m) (J (false) m)))
  (CallW cx 43 [.slice none (0) (0), .int .u64 (cvI .u64 (x0)), .int .i64 (x1), .bool (ltI (x0) (0 : Int)), .bool (false)] m fun r50 m8 => (∃ (a50 : Option Addr) (n50 c50 : Nat), (∃ (s50 : ByteArray), r50 = (.tuple #[.slice a50 (n50) (c50), .string (s50)]) ∧ (Q (.string (s50)) m8)))))
theorem F37_eq (x0 : Int) (x1 : Int) (m : Mem) (Q : Value → Mem → Prop) : F37 x0 x1 m Q = vFn cx Tryd.f37 A37 [.int .i64 (x0), .int .i64 (x1)] m Q := by kernel_rfl
theorem F37_ok {x0 : Int} {x1 : Int} {m : Mem} {Q : Value → Mem → Prop} (h : F37 x0 x1 m Q) : CallW cx 37 [.int .i64 (x0), .int .i64 (x1)] m Q :=
  CallW.of (by kernel_rfl) (by kernel_rfl) (Eq.mp (F37_eq x0 x1 m Q) h)

-- 33 internal/strconv.Itoa
noncomputable def A33 : Ann := [none, none]
def F33 (x0 : Int) (m : Mem) (Q : Value → Mem → Prop) : Prop :=
  (CallW cx 37 [.int .i64 (x0), .int .i64 (10 : Int)] m fun r4 m1 => (∃ (s4 : ByteArray), r4 = (.string (s4)) ∧ (Q (.string (s4)) m1)))
theorem F33_eq (x0 : Int) (m : Mem) (Q : Value → Mem → Prop) : F33 x0 m Q = vFn cx Tryd.f33 A33 [.int .i64 (x0)] m Q := by kernel_rfl
theorem F33_ok {x0 : Int} {m : Mem} {Q : Value → Mem → Prop} (h : F33 x0 m Q) : CallW cx 33 [.int .i64 (x0)] m Q :=
  CallW.of (by kernel_rfl) (by kernel_rfl) (Eq.mp (F33_eq x0 m Q) h)

-- 30 strconv.Itoa
noncomputable def A30 : Ann := [none, none]
def F30 (x0 : Int) (m : Mem) (Q : Value → Mem → Prop) : Prop :=
  (CallW cx 33 [.int .i64 (x0)] m fun r4 m1 => (∃ (s4 : ByteArray), r4 = (.string (s4)) ∧ (Q (.string (s4)) m1)))
theorem F30_eq (x0 : Int) (m : Mem) (Q : Value → Mem → Prop) : F30 x0 m Q = vFn cx Tryd.f30 A30 [.int .i64 (x0)] m Q := by kernel_rfl
theorem F30_ok {x0 : Int} {m : Mem} {Q : Value → Mem → Prop} (h : F30 x0 m Q) : CallW cx 30 [.int .i64 (x0)] m Q :=
  CallW.of (by kernel_rfl) (by kernel_rfl) (Eq.mp (F30_eq x0 m Q) h)

-- 16 beadle/beadleref1.Of
noncomputable def A16 : Ann := [none, none, none, none, some ([2, 3], [(0, .int .u64), (4, .int .i64)]), none, none, none, none, none]
def F16 (x0 : Int) (m : Mem) (Q : Value → Mem → Prop) : Prop :=
  (mBind (newO m (row [.bool (false), .bool (false), .bool (false), .bool (false), .bool (false), .bool (false), .bool (false), .bool (false), .bool (false), .bool (false), .bool (false), .bool (false), .bool (false), .bool (false), .bool (false), .bool (false), .bool (false), .bool (false), .bool (false), .bool (false), .bool (false), .bool (false), .bool (false), .bool (false), .bool (false), .bool (false), .bool (false), .bool (false), .bool (false), .bool (false), .bool (false), .bool (false), .bool (false), .bool (false), .bool (false), .bool (false), .bool (false), .bool (false), .bool (false), .bool (false), .bool (false), .bool (false), .bool (false), .bool (false), .bool (false), .bool (false), .bool (false), .bool (false), .bool (false), .bool (false), .bool (false), .bool (false), .bool (false), .bool (false), .bool (false), .bool (false), .bool (false), .bool (false), .bool (false), .bool (false), .bool (false), .bool (false), .bool (false), .bool (false)] 37 false)) fun m1 => (mBind (newO m1 (row [.bool (false), .bool (false), .bool (false), .bool (false), .bool (false), .bool (false), .bool (false), .bool (false), .bool (false), .bool (false), .bool (false), .bool (false), .bool (false), .bool (false), .bool (false), .bool (false), .bool (false), .bool (false), .bool (false), .bool (false), .bool (false), .bool (false), .bool (false), .bool (false), .bool (false), .bool (false), .bool (false), .bool (false), .bool (false), .bool (false), .bool (false), .bool (false), .bool (false), .bool (false), .bool (false), .bool (false), .bool (false), .bool (false), .bool (false), .bool (false), .bool (false), .bool (false), .bool (false), .bool (false), .bool (false), .bool (false), .bool (false), .bool (false), .bool (false), .bool (false), .bool (false), .bool (false), .bool (false), .bool (false), .bool (false), .bool (false), .bool (false), .bool (false), .bool (false), .bool (false), .bool (false), .bool (false), .bool (false), .bool (false)] 37 false)) fun m2 => (∃ Inv : Int → Int → Mem → Nat → Prop, (∃ n : Nat, Inv (x0) (0 : Int) m2 n) ∧
  (∀ (x0_1 : Int) (x4 : Int), ∀ (m3 : Mem) (n_2 : Nat), Inv (x0_1) (x4) m3 n_2 →
  (splitB (ltI (x4) (64 : Int))
  ((2 : Int) ≠ 0 ∧ ((0 ≤ (x4) ∧ (x4) < ((64 : Nat) : Int)) ∧ (okW m3 m1.nx (0 + Int.toNat (x4) * 1) 1 ∧ (mBind (wr m3 m1.nx (0 + Int.toNat (x4) * 1) [.bool (eqI (Int.tmod (x0_1) (2 : Int)) (1 : Int))]) fun m4 => ((2 : Int) ≠ 0 ∧ (∃ n_3 : Nat, n_3 < n_2 ∧ Inv (quoI .u64 (x0_1) (2 : Int)) (addI .i64 (x4) (1 : Int)) m4 n_3))))))
  (∃ l16 : List Value, rowAtL m3 ⟨m1.nx, 0, none⟩ 64 = some l16 ∧ (okL l16 64 (okW m3 m.nx (0) 64 ∧ (mBind (wr m3 m.nx (0) l16) fun m5 => (∃ lr : List Value, rowAtL m5 ⟨m.nx, 0, none⟩ 64 = some lr ∧ (Q (.agg (List.toArray lr)) m5)))))))))))
theorem F16_eq (x0 : Int) (m : Mem) (Q : Value → Mem → Prop) : F16 x0 m Q = vFn cx Tryd.f16 A16 [.int .u64 (x0)] m Q := by kernel_rfl
theorem F16_ok {x0 : Int} {m : Mem} {Q : Value → Mem → Prop} (h : F16 x0 m Q) : CallW cx 16 [.int .u64 (x0)] m Q :=
  CallW.of (by kernel_rfl) (by kernel_rfl) (Eq.mp (F16_eq x0 m Q) h)

-- 17 beadle/beadleref1.List
noncomputable def A17 : Ann := [none, none, none, none, some ([1], [(3, .sl), (4, .int .i64)]), none, none, none, none, none]
def F17 (l0 : List Value) (m : Mem) (Q : Value → Mem → Prop) : Prop :=
  (mBind (newO m (row l0 37 false)) fun m1 => (∃ Inv : Option Addr → Nat → Nat → Int → Mem → Nat → Prop, (∃ n : Nat, Inv none (0) (0) (0 : Int) m1 n) ∧
  (∀ (a3 : Option Addr) (n3 c3 : Nat) (x4 : Int), ∀ (m2 : Mem) (n_1 : Nat), Inv a3 (n3) (c3) (x4) m2 n_1 →
  (splitB (ltI (x4) (64 : Int))
  ((0 ≤ (x4) ∧ (x4) < ((64 : Nat) : Int)) ∧ (∃ (b11 : Bool), rd m2 m.nx (0 + Int.toNat (x4) * 1) = some (.bool (b11)) ∧ (splitB (b11)
  (mBind (newO m2 (row [.int .i64 (x4)] 3 false)) fun m3 => (∃ (a15 : Option Addr) (n15 c15 : Nat) (m4 : Mem), appendA cx m3 [22, 22] [.slice a3 (n3) (c3), .slice (some ⟨m2.nx, 0, none⟩) (1) (1)] = some (.slice a15 (n15) (c15), m4) ∧ (∃ n_2 : Nat, n_2 < n_1 ∧ Inv a15 (n15) (c15) (addI .i64 (x4) (1 : Int)) m4 n_2)))
  (∃ n_3 : Nat, n_3 < n_1 ∧ Inv a3 (n3) (c3) (addI .i64 (x4) (1 : Int)) m2 n_3))))
  (Q (.slice a3 (n3) (c3)) m2)))))
theorem F17_eq (l0 : List Value) (m : Mem) (Q : Value → Mem → Prop) : F17 l0 m Q = vFn cx Tryd.f17 A17 [.agg (List.toArray l0)] m Q := by kernel_rfl
theorem F17_ok {l0 : List Value} {m : Mem} {Q : Value → Mem → Prop} (h : F17 l0 m Q) : CallW cx 17 [.agg (List.toArray l0)] m Q :=
  CallW.of (by kernel_rfl) (by kernel_rfl) (Eq.mp (F17_eq l0 m Q) h)

-- 22 beadle/beadleref1.SetText
noncomputable def A22 : Ann := [none, none, none, none, some ([1], [(3, .str), (4, .int .i64)]), none, none, none, some ([1, 3, 4], []), none, none, some ([1, 3, 4], [(5, .int .i64)]), some ([1, 3, 4], [(5, .int .i64)]), none, none, some ([1, 4, 5], [(3, .str)]), none, none, none, none, none, none, none]
def F22 (l0 : List Value) (m : Mem) (Q : Value → Mem → Prop) : Prop :=
  (mBind (newO m (row l0 37 false)) fun m1 => (∃ Inv : ByteArray → Int → Mem → Nat → Prop, (∃ n : Nat, Inv (ByteArray.mk #[]) (0 : Int) m1 n) ∧
  (∀ (s3 : ByteArray) (x4 : Int), ∀ (m2 : Mem) (n_1 : Nat), Inv (s3) (x4) m2 n_1 →
  (splitB (ltI (x4) (64 : Int))
  (joinK (fun  (m3 : Mem) => (joinK (fun (x5 : Int) (m4 : Mem) => (joinK (fun (s3_4 : ByteArray) (m5 : Mem) => (CallW cx 32 [.int .i64 (x4)] m5 fun r41 m6 => (∃ (s41 : ByteArray), r41 = (.string (s41)) ∧ (lenS (s3_4) + lenS (s41) ≤ 140737488355328 ∧ (splitB (ltI (x4) (x5))
  (lenS (catS (s3_4) (s41)) + lenS (ByteArray.mk #[45]) ≤ 140737488355328 ∧ (CallW cx 32 [.int .i64 (x5)] m6 fun r49 m7 => (∃ (s49 : ByteArray), r49 = (.string (s49)) ∧ (lenS (catS (catS (s3_4) (s41)) (ByteArray.mk #[45])) + lenS (s49) ≤ 140737488355328 ∧ (∃ n_5 : Nat, n_5 < n_1 ∧ Inv (catS (catS (catS (s3_4) (s41)) (ByteArray.mk #[45])) (s49)) (addI .i64 (x4) (1 : Int)) m7 n_5)))))
  (∃ n_6 : Nat, n_6 < n_1 ∧ Inv (catS (s3_4) (s41)) (addI .i64 (x4) (1 : Int)) m6 n_6)))))) fun J_3 =>
  (splitB (!eqS (s3) (ByteArray.mk #[]))
  (lenS (s3) + lenS (ByteArray.mk #[44]) ≤ 140737488355328 ∧ (J_3 (catS (s3) (ByteArray.mk #[44])) m4))
  (J_3 (s3) m4)))) fun J_2 =>
  (∃ Inv_7 : Int → Mem → Nat → Prop, (∃ n_8 : Nat, Inv_7 (x4) m3 n_8) ∧
  (∀ (x5_9 : Int), ∀ (m8 : Mem) (n_10 : Nat), Inv_7 (x5_9) m8 n_10 →
  (splitB (ltI (x5_9) (63 : Int)) ((0 ≤ (addI .i64 (x5_9) (1 : Int)) ∧ (addI .i64 (x5_9) (1 : Int)) < ((64 : Nat) : Int)) ∧ (∃ (b31 : Bool), rd m8 m.nx (0 + Int.toNat (addI .i64 (x5_9) (1 : Int)) * 1) = some (.bool (b31)) ∧ (splitB (b31)
  (∃ n_11 : Nat, n_11 < n_10 ∧ Inv_7 (addI .i64 (x5_9) (1 : Int)) m8 n_11)
  (J_2 (x5_9) m8)))) (J_2 (x5_9) m8)))))) fun J =>
  ((0 ≤ (x4) ∧ (x4) < ((64 : Nat) : Int)) ∧ (∃ (b12 : Bool), rd m2 m.nx (0 + Int.toNat (x4) * 1) = some (.bool (b12)) ∧ (splitB (!(b12)) (∃ n_12 : Nat, n_12 < n_1 ∧ Inv (s3) (addI .i64 (x4) (1 : Int)) m2 n_12) (splitB (ltI (0 : Int) (x4)) ((0 ≤ (subI .i64 (x4) (1 : Int)) ∧ (subI .i64 (x4) (1 : Int)) < ((64 : Nat) : Int)) ∧ (∃ (b21 : Bool), rd m2 m.nx (0 + Int.toNat (subI .i64 (x4) (1 : Int)) * 1) = some (.bool (b21)) ∧ (splitB (b21)
  (∃ n_13 : Nat, n_13 < n_1 ∧ Inv (s3) (addI .i64 (x4) (1 : Int)) m2 n_13)
  (J  m2)))) (J  m2))))))
  (splitB (eqS (s3) (ByteArray.mk #[]))
  (Q (.string (ByteArray.mk #[110, 111, 110, 101])) m2)
  (Q (.string (s3)) m2))))))
theorem F22_eq (l0 : List Value) (m : Mem) (Q : Value → Mem → Prop) : F22 l0 m Q = vFn cx Tryd.f22 A22 [.agg (List.toArray l0)] m Q := by kernel_rfl
theorem F22_ok {l0 : List Value} {m : Mem} {Q : Value → Mem → Prop} (h : F22 l0 m Q) : CallW cx 22 [.agg (List.toArray l0)] m Q :=
  CallW.of (by kernel_rfl) (by kernel_rfl) (Eq.mp (F22_eq l0 m Q) h)

-- 24 beadle/beadleref1.Word
noncomputable def A24 : Ann := [none, none, none, none, some ([1], [(3, .int .u64), (4, .int .i64)]), none, none, none, none, none, none]
def F24 (l0 : List Value) (m : Mem) (Q : Value → Mem → Prop) : Prop :=
  (mBind (newO m (row l0 37 false)) fun m1 => (∃ Inv : Int → Int → Mem → Nat → Prop, (∃ n : Nat, Inv (0 : Int) (63 : Int) m1 n) ∧
  (∀ (x3 : Int) (x4 : Int), ∀ (m2 : Mem) (n_1 : Nat), Inv (x3) (x4) m2 n_1 →
  (splitB (leI (0 : Int) (x4))
  ((0 ≤ (x4) ∧ (x4) < ((64 : Nat) : Int)) ∧ (∃ (b13 : Bool), rd m2 m.nx (0 + Int.toNat (x4) * 1) = some (.bool (b13)) ∧ (splitB (b13)
  (∃ n_2 : Nat, n_2 < n_1 ∧ Inv (addI .u64 (mulI .u64 (2 : Int) (x3)) (1 : Int)) (subI .i64 (x4) (1 : Int)) m2 n_2)
  (∃ n_3 : Nat, n_3 < n_1 ∧ Inv (mulI .u64 (2 : Int) (x3)) (subI .i64 (x4) (1 : Int)) m2 n_3))))
  (Q (.int .u64 (x3)) m2)))))
theorem F24_eq (l0 : List Value) (m : Mem) (Q : Value → Mem → Prop) : F24 l0 m Q = vFn cx Tryd.f24 A24 [.agg (List.toArray l0)] m Q := by kernel_rfl
theorem F24_ok {l0 : List Value} {m : Mem} {Q : Value → Mem → Prop} (h : F24 l0 m Q) : CallW cx 24 [.agg (List.toArray l0)] m Q :=
  CallW.of (by kernel_rfl) (by kernel_rfl) (Eq.mp (F24_eq l0 m Q) h)

-- 32 beadle/beadleref1.Num
noncomputable def A32 : Ann := [none, none, none, none, none]
def F32 (x0 : Int) (m : Mem) (Q : Value → Mem → Prop) : Prop :=
  (splitB (ltI (x0) (10 : Int))
  (mBind (newO m (row [.int .u8 (cvI .u8 (addI .i64 (48 : Int) (x0)))] 5 false)) fun m1 => (∃ s9 : ByteArray, convertA cx m1 55 9 (.slice (some ⟨m.nx, 0, none⟩) (1) (1)) = some (.string s9) ∧ (Q (.string (s9)) m1)))
  (mBind (bump m 11) fun m2 => ((10 : Int) ≠ 0 ∧ (CallW cx 32 [.int .i64 (quoI .i64 (x0) (10 : Int))] ((setFl (m2) m.nx)) fun r12 m3 => (∃ (s12 : ByteArray), r12 = (.string (s12)) ∧ ((10 : Int) ≠ 0 ∧ (∃ s18 : ByteArray, convertA cx (addO (m2) (m.nx + 7) (row [.int .u8 (cvI .u8 (addI .i64 (48 : Int) (Int.tmod (x0) (10 : Int))))] 5 false)) 55 9 (.slice (some ⟨(m.nx + 7), 0, none⟩) (1) (1)) = some (.string s18) ∧ (lenS (s12) + lenS (s18) ≤ 140737488355328 ∧ (mBind (addO ((setFl m3 m2.fl)) (m.nx + 7) (row [.int .u8 (cvI .u8 (addI .i64 (48 : Int) (Int.tmod (x0) (10 : Int))))] 5 false)) fun m4 => (Q (.string (catS (s12) (s18))) m4))))))))))
theorem F32_eq (x0 : Int) (m : Mem) (Q : Value → Mem → Prop) : F32 x0 m Q = vFn cx Tryd.f32 A32 [.int .i64 (x0)] m Q := by kernel_rfl
theorem F32_ok {x0 : Int} {m : Mem} {Q : Value → Mem → Prop} (h : F32 x0 m Q) : CallW cx 32 [.int .i64 (x0)] m Q :=
  CallW.of (by kernel_rfl) (by kernel_rfl) (Eq.mp (F32_eq x0 m Q) h)

-- 19 beadle/beadlelaw3.ints
noncomputable def A19 : Ann := [none, none, none, none, none, none, some ([0, 1], [(5, .int .i64)]), none, none, none, none, none, none]
def F19 (a0 : Option Addr) (n0 c0 : Nat) (a1 : Option Addr) (n1 c1 : Nat) (m : Mem) (Q : Value → Mem → Prop) : Prop :=
  (splitB (neI (lenI (n0)) (lenI (n1)))
  (Q (.bool (false)) m)
  (∃ Inv : Int → Mem → Nat → Prop, (∃ n : Nat, Inv (0 : Int) m n) ∧
  (∀ (x5 : Int), ∀ (m1 : Mem) (n_1 : Nat), Inv (x5) m1 n_1 →
  (splitB (ltI (x5) (lenI (n0)))
  (mBind (bump m1 9) fun m2 => ((0 ≤ (x5) ∧ (x5) < ((n0 : Nat) : Int)) ∧ (vPtr a0 fun ba0 oa0 => (∃ (x20 : Int), rd m2 ba0 (oa0 + Int.toNat (x5) * 1) = some (.int .i64 (x20)) ∧ ((0 ≤ (x5) ∧ (x5) < ((n1 : Nat) : Int)) ∧ (vPtr a1 fun ba1 oa1 => (∃ (x24 : Int), rd m2 ba1 (oa1 + Int.toNat (x5) * 1) = some (.int .i64 (x24)) ∧ (splitB (neI (x20) (x24))
  (Q (.bool (false)) m2)
  (∃ n_2 : Nat, n_2 < n_1 ∧ Inv (addI .i64 (x5) (1 : Int)) m2 n_2)))))))))
  (Q (.bool (true)) m1)))))
theorem F19_eq (a0 : Option Addr) (n0 c0 : Nat) (a1 : Option Addr) (n1 c1 : Nat) (m : Mem) (Q : Value → Mem → Prop) : F19 a0 n0 c0 a1 n1 c1 m Q = vFn cx Tryd.f19 A19 [.slice a0 (n0) (c0), .slice a1 (n1) (c1)] m Q := by kernel_rfl
theorem F19_ok {a0 : Option Addr} {n0 c0 : Nat} {a1 : Option Addr} {n1 c1 : Nat} {m : Mem} {Q : Value → Mem → Prop} (h : F19 a0 n0 c0 a1 n1 c1 m Q) : CallW cx 19 [.slice a0 (n0) (c0), .slice a1 (n1) (c1)] m Q :=
  CallW.of (by kernel_rfl) (by kernel_rfl) (Eq.mp (F19_eq a0 n0 c0 a1 n1 c1 m Q) h)

-- 21 (beadle/mask.Mask).String
noncomputable def A21 : Ann := [none, none, none, none, some ([0], [(3, .sl), (4, .int .i64), (5, .bool)]), none, none, none, none, none, none, some ([0, 3, 6, 7], [(4, .int .i64)]), none, none, some ([0, 3, 4], [(6, .str)]), none, none, none, none, none]
def F21 (x0 : Int) (m : Mem) (Q : Value → Mem → Prop) : Prop :=
  (CallW cx 18 [.int .u64 (x0), .int .i64 (0 : Int)] m fun r10 m1 => (∃ (x10 : Int), (∃ (b10 : Bool), r10 = (.tuple #[.int .i64 (x10), .bool (b10)]) ∧ (∃ Inv : Option Addr → Nat → Nat → Int → Bool → Mem → Nat → Prop, (∃ n : Nat, Inv none (0) (0) (x10) (b10) m1 n) ∧
  (∀ (a3 : Option Addr) (n3 c3 : Nat) (x4 : Int) (b5 : Bool), ∀ (m2 : Mem) (n_1 : Nat), Inv a3 (n3) (c3) (x4) (b5) m2 n_1 →
  (splitB (b5)
  (CallW cx 30 [.int .i64 (x4)] m2 fun r22 m3 => (∃ (s22 : ByteArray), r22 = (.string (s22)) ∧ (∃ Inv_2 : Int → Mem → Nat → Prop, (∃ n_3 : Nat, Inv_2 (x4) m3 n_3) ∧
  (∀ (x4_4 : Int), ∀ (m4 : Mem) (n_5 : Nat), Inv_2 (x4_4) m4 n_5 →
  (CallW cx 11 [.int .u64 (x0), .int .i64 (addI .i64 (x4_4) (1 : Int))] m4 fun r27 m5 => (∃ (b27 : Bool), r27 = (.bool (b27)) ∧ (splitB (b27)
  (∃ n_6 : Nat, n_6 < n_5 ∧ Inv_2 (addI .i64 (x4_4) (1 : Int)) m5 n_6)
  (joinK (fun (s6 : ByteArray) (m6 : Mem) => (mBind (newO m6 (row [.string (s6)] 9 false)) fun m7 => (∃ (a41 : Option Addr) (n41 c41 : Nat) (m8 : Mem), appendA cx m7 [48, 48] [.slice a3 (n3) (c3), .slice (some ⟨m6.nx, 0, none⟩) (1) (1)] = some (.slice a41 (n41) (c41), m8) ∧ (CallW cx 18 [.int .u64 (x0), .int .i64 (addI .i64 (x4_4) (1 : Int))] m8 fun r18 m9 => (∃ (x18 : Int), (∃ (b18 : Bool), r18 = (.tuple #[.int .i64 (x18), .bool (b18)]) ∧ (∃ n_7 : Nat, n_7 < n_1 ∧ Inv a41 (n41) (c41) (x18) (b18) m9 n_7))))))) fun J =>
  (splitB (ltI (x4) (x4_4))
  (CallW cx 30 [.int .i64 (x4_4)] m5 fun r35 m10 => (∃ (s35 : ByteArray), r35 = (.string (s35)) ∧ (lenS (ByteArray.mk #[45]) + lenS (s35) ≤ 140737488355328 ∧ (lenS (s22) + lenS (catS (ByteArray.mk #[45]) (s35)) ≤ 140737488355328 ∧ (J (catS (s22) (catS (ByteArray.mk #[45]) (s35))) m10)))))
  (J (s22) m5))))))))))
  (splitB (eqI (lenI (n3)) (0 : Int))
  (Q (.string (ByteArray.mk #[110, 111, 110, 101])) m2)
  (CallW cx 31 [.slice a3 (n3) (c3), .string (ByteArray.mk #[44])] m2 fun r46 m11 => (∃ (s46 : ByteArray), r46 = (.string (s46)) ∧ (Q (.string (s46)) m11))))))))))
theorem F21_eq (x0 : Int) (m : Mem) (Q : Value → Mem → Prop) : F21 x0 m Q = vFn cx Tryd.f21 A21 [.int .u64 (x0)] m Q := by kernel_rfl
theorem F21_ok {x0 : Int} {m : Mem} {Q : Value → Mem → Prop} (h : F21 x0 m Q) : CallW cx 21 [.int .u64 (x0)] m Q :=
  CallW.of (by kernel_rfl) (by kernel_rfl) (Eq.mp (F21_eq x0 m Q) h)

-- 6 beadle/beadlelaw3.MaskSays
noncomputable def A6 : Ann := [none, none, none, none, none, none, none, none, none, none, none, none, some ([1, 2, 7, 8, 9, 10], [(11, .int .i64)]), none, none, none, some ([1, 2, 7, 8, 9, 10, 11], [(55, .bool)]), none, none, none, some ([1, 2, 7, 8, 9, 10], [(12, .int .i64), (13, .int .i64), (14, .bool), (15, .int .i64)]), none, none, none, some ([1, 2, 7, 8, 9, 10, 13, 14, 15], [(12, .int .i64)]), none, none, none, some ([1, 2, 7, 8, 9, 10, 12, 13, 14], [(16, .int .i64), (17, .bool)]), some ([1, 2, 7, 8, 9, 10, 12, 13, 14, 16, 17], [(94, .bool)]), some ([1, 2, 7, 8, 9, 10, 12, 13, 14, 16, 17], [(18, .int .i64), (19, .bool)]), some ([1, 2, 7, 8, 9, 10, 12, 13, 14, 16, 17, 19], [(18, .int .i64)]), none, none, some ([1, 2, 7, 8, 9, 10, 12, 13, 14, 16, 17, 18, 19, 20, 21], []), some ([1, 2, 7, 8, 9, 10, 12, 13, 14, 16, 17, 18, 19, 20, 21], [(118, .bool)]), none, none, none, none]
def F6 (x0 : Int) (x1 : Int) (a2 : Option Addr) (n2 c2 : Nat) (m : Mem) (Q : Value → Mem → Prop) : Prop :=
  (CallW cx 8 [] m fun r28 m1 => (∃ (b28 : Bool), r28 = (.bool (b28)) ∧ (splitB (!(b28))
  (Q (.bool (false)) m1)
  (splitB (ltI (200 : Int) (lenI (n2)))
  (Q (.bool (true)) m1)
  (CallW cx 16 [.int .u64 (x0)] m1 fun r35 m2 => (∃ l35 : List Value, l35.length = 64 ∧ r35 = (.agg (List.toArray l35)) ∧ (mBind (newO m2 (row [.bool (false), .bool (false), .bool (false), .bool (false), .bool (false), .bool (false), .bool (false), .bool (false), .bool (false), .bool (false), .bool (false), .bool (false), .bool (false), .bool (false), .bool (false), .bool (false), .bool (false), .bool (false), .bool (false), .bool (false), .bool (false), .bool (false), .bool (false), .bool (false), .bool (false), .bool (false), .bool (false), .bool (false), .bool (false), .bool (false), .bool (false), .bool (false), .bool (false), .bool (false), .bool (false), .bool (false), .bool (false), .bool (false), .bool (false), .bool (false), .bool (false), .bool (false), .bool (false), .bool (false), .bool (false), .bool (false), .bool (false), .bool (false), .bool (false), .bool (false), .bool (false), .bool (false), .bool (false), .bool (false), .bool (false), .bool (false), .bool (false), .bool (false), .bool (false), .bool (false), .bool (false), .bool (false), .bool (false), .bool (false)] 37 false)) fun m3 => (okL l35 64 (okW m3 m2.nx (0) 64 ∧ (mBind (wr m3 m2.nx (0) l35) fun m4 => (∃ l36 : List Value, rowAtL m4 ⟨m2.nx, 0, none⟩ 64 = some l36 ∧ (CallW cx 17 [.agg (List.toArray l36)] m4 fun r37 m5 => (∃ (a37 : Option Addr) (n37 c37 : Nat), r37 = (.slice a37 (n37) (c37)) ∧ (mBind (newO m5 (row [.bool (false), .bool (false), .bool (false), .bool (false), .bool (false), .bool (false), .bool (false), .bool (false), .bool (false), .bool (false), .bool (false), .bool (false), .bool (false), .bool (false), .bool (false), .bool (false), .bool (false), .bool (false), .bool (false), .bool (false), .bool (false), .bool (false), .bool (false), .bool (false), .bool (false), .bool (false), .bool (false), .bool (false), .bool (false), .bool (false), .bool (false), .bool (false), .bool (false), .bool (false), .bool (false), .bool (false), .bool (false), .bool (false), .bool (false), .bool (false), .bool (false), .bool (false), .bool (false), .bool (false), .bool (false), .bool (false), .bool (false), .bool (false), .bool (false), .bool (false), .bool (false), .bool (false), .bool (false), .bool (false), .bool (false), .bool (false), .bool (false), .bool (false), .bool (false), .bool (false), .bool (false), .bool (false), .bool (false), .bool (false)] 37 false)) fun m6 => (∃ Inv : Int → Mem → Nat → Prop, (∃ n : Nat, Inv (0 : Int) m6 n) ∧
  (∀ (x11 : Int), ∀ (m7 : Mem) (n_1 : Nat), Inv (x11) m7 n_1 →
  (splitB (ltI (x11) (lenI (n2)))
  (joinK (fun (b55 : Bool) (m8 : Mem) => (splitB (b55)
  ((0 ≤ (x11) ∧ (x11) < ((n2 : Nat) : Int)) ∧ (vPtr a2 fun ba2 oa2 => (∃ (x59 : Int), rd m8 ba2 (oa2 + Int.toNat (x11) * 1) = some (.int .i64 (x59)) ∧ ((0 ≤ (x59) ∧ (x59) < ((64 : Nat) : Int)) ∧ (okW m8 m5.nx (0 + Int.toNat (x59) * 1) 1 ∧ (mBind (wr m8 m5.nx (0 + Int.toNat (x59) * 1) [.bool (true)]) fun m9 => (∃ n_2 : Nat, n_2 < n_1 ∧ Inv (addI .i64 (x11) (1 : Int)) m9 n_2)))))))
  (∃ n_3 : Nat, n_3 < n_1 ∧ Inv (addI .i64 (x11) (1 : Int)) m8 n_3))) fun J =>
  ((0 ≤ (x11) ∧ (x11) < ((n2 : Nat) : Int)) ∧ (vPtr a2 fun ba2_4 oa2_5 => (∃ (x47 : Int), rd m7 ba2_4 (oa2_5 + Int.toNat (x11) * 1) = some (.int .i64 (x47)) ∧ (splitB (leI (0 : Int) (x47)) ((0 ≤ (x11) ∧ (x11) < ((n2 : Nat) : Int)) ∧ (vPtr a2 fun ba2_6 oa2_7 => (∃ (x53 : Int), rd m7 ba2_6 (oa2_7 + Int.toNat (x11) * 1) = some (.int .i64 (x53)) ∧ (J (ltI (x53) (64 : Int)) m7)))) (J (false) m7))))))
  (∃ Inv_8 : Int → Int → Bool → Int → Mem → Nat → Prop, (∃ n_9 : Nat, Inv_8 (0 : Int) (0 : Int) (false) (subI .i64 (lenI (n37)) (1 : Int)) m7 n_9) ∧
  (∀ (x12 : Int) (x13 : Int) (b14 : Bool) (x15 : Int), ∀ (m10 : Mem) (n_10 : Nat), Inv_8 (x12) (x13) (b14) (x15) m10 n_10 →
  (splitB (leI (0 : Int) (x15))
  (joinK (fun (x12_12 : Int) (m11 : Mem) => ((0 ≤ (x15) ∧ (x15) < ((n37 : Nat) : Int)) ∧ (vPtr a37 fun ba37 oa37 => (∃ (x79 : Int), rd m11 ba37 (oa37 + Int.toNat (x15) * 1) = some (.int .i64 (x79)) ∧ (splitB (leI (x1) (x79))
  ((0 ≤ (x15) ∧ (x15) < ((n37 : Nat) : Int)) ∧ (vPtr a37 fun ba37_13 oa37_14 => (∃ (x85 : Int), rd m11 ba37_13 (oa37_14 + Int.toNat (x15) * 1) = some (.int .i64 (x85)) ∧ (∃ n_15 : Nat, n_15 < n_10 ∧ Inv_8 (x12_12) (x85) (true) (subI .i64 (x15) (1 : Int)) m11 n_15))))
  (∃ n_16 : Nat, n_16 < n_10 ∧ Inv_8 (x12_12) (x13) (b14) (subI .i64 (x15) (1 : Int)) m11 n_16)))))) fun J_11 =>
  ((0 ≤ (x15) ∧ (x15) < ((n37 : Nat) : Int)) ∧ (vPtr a37 fun ba37_17 oa37_18 => (∃ (x71 : Int), rd m10 ba37_17 (oa37_18 + Int.toNat (x15) * 1) = some (.int .i64 (x71)) ∧ (splitB (ltI (x71) (x1))
  (J_11 (addI .i64 (x12) (1 : Int)) m10)
  (J_11 (x12) m10))))))
  (joinK (fun (x16 : Int) (b17 : Bool) (m12 : Mem) => (joinK (fun (x18 : Int) (b19 : Bool) (m13 : Mem) => (joinK (fun (x18_22 : Int) (m14 : Mem) => (mBind (bump m14 6) fun m15 => (∃ l111 : List Value, rowAtL m15 ⟨m2.nx, 0, none⟩ 64 = some l111 ∧ (∃ l112 : List Value, rowAtL m15 ⟨m2.nx, 0, none⟩ 64 = some l112 ∧ (okL l111 64 (okW (setFl (addO (addO (m15) (m14.nx + 2) (row [.bool (false), .bool (false), .bool (false), .bool (false), .bool (false), .bool (false), .bool (false), .bool (false), .bool (false), .bool (false), .bool (false), .bool (false), .bool (false), .bool (false), .bool (false), .bool (false), .bool (false), .bool (false), .bool (false), .bool (false), .bool (false), .bool (false), .bool (false), .bool (false), .bool (false), .bool (false), .bool (false), .bool (false), .bool (false), .bool (false), .bool (false), .bool (false), .bool (false), .bool (false), .bool (false), .bool (false), .bool (false), .bool (false), .bool (false), .bool (false), .bool (false), .bool (false), .bool (false), .bool (false), .bool (false), .bool (false), .bool (false), .bool (false), .bool (false), .bool (false), .bool (false), .bool (false), .bool (false), .bool (false), .bool (false), .bool (false), .bool (false), .bool (false), .bool (false), .bool (false), .bool (false), .bool (false), .bool (false), .bool (false)] 37 false)) (m14.nx + 3) (row [.bool (false), .bool (false), .bool (false), .bool (false), .bool (false), .bool (false), .bool (false), .bool (false), .bool (false), .bool (false), .bool (false), .bool (false), .bool (false), .bool (false), .bool (false), .bool (false), .bool (false), .bool (false), .bool (false), .bool (false), .bool (false), .bool (false), .bool (false), .bool (false), .bool (false), .bool (false), .bool (false), .bool (false), .bool (false), .bool (false), .bool (false), .bool (false), .bool (false), .bool (false), .bool (false), .bool (false), .bool (false), .bool (false), .bool (false), .bool (false), .bool (false), .bool (false), .bool (false), .bool (false), .bool (false), .bool (false), .bool (false), .bool (false), .bool (false), .bool (false), .bool (false), .bool (false), .bool (false), .bool (false), .bool (false), .bool (false), .bool (false), .bool (false), .bool (false), .bool (false), .bool (false), .bool (false), .bool (false), .bool (false)] 37 false)) m14.nx) (m14.nx + 2) (0) 64 ∧ (mBind (wr (setFl (addO (addO (m15) (m14.nx + 2) (row [.bool (false), .bool (false), .bool (false), .bool (false), .bool (false), .bool (false), .bool (false), .bool (false), .bool (false), .bool (false), .bool (false), .bool (false), .bool (false), .bool (false), .bool (false), .bool (false), .bool (false), .bool (false), .bool (false), .bool (false), .bool (false), .bool (false), .bool (false), .bool (false), .bool (false), .bool (false), .bool (false), .bool (false), .bool (false), .bool (false), .bool (false), .bool (false), .bool (false), .bool (false), .bool (false), .bool (false), .bool (false), .bool (false), .bool (false), .bool (false), .bool (false), .bool (false), .bool (false), .bool (false), .bool (false), .bool (false), .bool (false), .bool (false), .bool (false), .bool (false), .bool (false), .bool (false), .bool (false), .bool (false), .bool (false), .bool (false), .bool (false), .bool (false), .bool (false), .bool (false), .bool (false), .bool (false), .bool (false), .bool (false)] 37 false)) (m14.nx + 3) (row [.bool (false), .bool (false), .bool (false), .bool (false), .bool (false), .bool (false), .bool (false), .bool (false), .bool (false), .bool (false), .bool (false), .bool (false), .bool (false), .bool (false), .bool (false), .bool (false), .bool (false), .bool (false), .bool (false), .bool (false), .bool (false), .bool (false), .bool (false), .bool (false), .bool (false), .bool (false), .bool (false), .bool (false), .bool (false), .bool (false), .bool (false), .bool (false), .bool (false), .bool (false), .bool (false), .bool (false), .bool (false), .bool (false), .bool (false), .bool (false), .bool (false), .bool (false), .bool (false), .bool (false), .bool (false), .bool (false), .bool (false), .bool (false), .bool (false), .bool (false), .bool (false), .bool (false), .bool (false), .bool (false), .bool (false), .bool (false), .bool (false), .bool (false), .bool (false), .bool (false), .bool (false), .bool (false), .bool (false), .bool (false)] 37 false)) m14.nx) (m14.nx + 2) (0) l111) fun m16 => (okL l112 64 (okW ((setFl m16 m15.fl)) (m14.nx + 3) (0) 64 ∧ (mBind (wr ((setFl m16 m15.fl)) (m14.nx + 3) (0) l112) fun m17 => (mBind (m17) fun m18 => (joinK (fun  (m19 : Mem) => (CallW cx 18 [.int .u64 (x0), .int .i64 (x1)] m19 fun r126 m20 => (∃ (x126 : Int), (∃ (b126 : Bool), r126 = (.tuple #[.int .i64 (x126), .bool (b126)]) ∧ (CallW cx 13 [.int .u64 (x0), .int .i64 (x1)] m20 fun r132 m21 => (∃ (x132 : Int), (∃ (b132 : Bool), r132 = (.tuple #[.int .i64 (x132), .bool (b132)]) ∧ (CallW cx 14 [.int .u64 (x0), .int .i64 (x1)] m21 fun r138 m22 => (∃ (x138 : Int), (∃ (b138 : Bool), r138 = (.tuple #[.int .i64 (x138), .bool (b138)]) ∧ (mBind (bump m22 96) fun m23 => (CallW cx 20 [.int .u64 (x0)] m23 fun r142 m24 => (∃ (a142 : Option Addr) (n142 c142 : Nat), r142 = (.slice a142 (n142) (c142)) ∧ (CallW cx 19 [.slice a142 (n142) (c142), .slice a37 (n37) (c37)] m24 fun r144 m25 => (∃ (b144 : Bool), r144 = (.bool (b144)) ∧ (splitB (b144) (CallW cx 12 [.int .u64 (x0)] ((setFl (m25) m25.nx)) fun r147 m26 => (∃ (x147 : Int), r147 = (.int .i64 (x147)) ∧ (splitB (eqI (x147) (lenI (n37))) (CallW cx 21 [.int .u64 (x0)] ((setFl ((setFl m26 m25.fl)) ((setFl m26 m25.fl)).nx)) fun r154 m27 => (∃ (s154 : ByteArray), r154 = (.string (s154)) ∧ (∃ l155 : List Value, rowAtL ((setFl m26 m25.fl)) ⟨m2.nx, 0, none⟩ 64 = some l155 ∧ (CallW cx 22 [.agg (List.toArray l155)] (((setFl m27 ((setFl m26 m25.fl)).fl))) fun r156 m28 => (∃ (s156 : ByteArray), r156 = (.string (s156)) ∧ (splitB (eqS (s154) (s156)) (CallW cx 23 [.slice a2 (n2) (c2)] ((setFl (m28) m28.nx)) fun r161 m29 => (∃ (x161 : Int), r161 = (.int .u64 (x161)) ∧ (∃ l162 : List Value, rowAtL m28 ⟨m5.nx, 0, none⟩ 64 = some l162 ∧ (CallW cx 24 [.agg (List.toArray l162)] (((setFl m29 m28.fl))) fun r163 m30 => (∃ (x163 : Int), r163 = (.int .u64 (x163)) ∧ (splitB (eqI (x161) (x163)) (CallW cx 11 [.int .u64 (x0), .int .i64 (x1)] m30 fun r169 m31 => (∃ (b169 : Bool), r169 = (.bool (b169)) ∧ (splitB (leI (0 : Int) (x1)) (splitB (ltI (x1) (64 : Int)) ((0 ≤ (x1) ∧ (x1) < ((64 : Nat) : Int)) ∧ (∃ (b179 : Bool), rd m31 m2.nx (0 + Int.toNat (x1) * 1) = some (.bool (b179)) ∧ (splitB ((b169) == (b179)) (CallW cx 15 [.int .u64 (x0), .int .i64 (x1)] m31 fun r186 m32 => (∃ (x186 : Int), r186 = (.int .i64 (x186)) ∧ (splitB (eqI (x186) (x12)) (splitB (eqI (x126) (x13)) (splitB ((b126) == (b14)) (splitB (eqI (x132) (x16)) (splitB ((b132) == (b17)) (splitB (eqI (x138) (x18_22)) (splitB ((b138) == (b19)) (CallW cx 9 [.int .u64 (x0), .int .i64 (x1)] ((setFl (m32) m32.nx)) fun r223 m33 => (∃ (x223 : Int), r223 = (.int .u64 (x223)) ∧ (∃ l224 : List Value, rowAtL m32 ⟨(m14.nx + 2), 0, none⟩ 64 = some l224 ∧ (CallW cx 24 [.agg (List.toArray l224)] (((setFl m33 m32.fl))) fun r225 m34 => (∃ (x225 : Int), r225 = (.int .u64 (x225)) ∧ (splitB (eqI (x223) (x225)) (CallW cx 10 [.int .u64 (x0), .int .i64 (x1)] ((setFl (m34) m34.nx)) fun r231 m35 => (∃ (x231 : Int), r231 = (.int .u64 (x231)) ∧ (∃ l232 : List Value, rowAtL m34 ⟨(m14.nx + 3), 0, none⟩ 64 = some l232 ∧ (CallW cx 24 [.agg (List.toArray l232)] (((setFl m35 m34.fl))) fun r233 m36 => (∃ (x233 : Int), r233 = (.int .u64 (x233)) ∧ (Q (.bool (eqI (x231) (x233))) m36)))))) (Q (.bool (false)) m34))))))) (Q (.bool (false)) m32)) (Q (.bool (false)) m32)) (Q (.bool (false)) m32)) (Q (.bool (false)) m32)) (Q (.bool (false)) m32)) (Q (.bool (false)) m32)) (Q (.bool (false)) m32)))) (Q (.bool (false)) m31)))) (splitB ((b169) == (false)) (CallW cx 15 [.int .u64 (x0), .int .i64 (x1)] m31 fun r186_24 m37 => (∃ (x186_25 : Int), r186_24 = (.int .i64 (x186_25)) ∧ (splitB (eqI (x186_25) (x12)) (splitB (eqI (x126) (x13)) (splitB ((b126) == (b14)) (splitB (eqI (x132) (x16)) (splitB ((b132) == (b17)) (splitB (eqI (x138) (x18_22)) (splitB ((b138) == (b19)) (CallW cx 9 [.int .u64 (x0), .int .i64 (x1)] ((setFl (m37) m37.nx)) fun r223_26 m38 => (∃ (x223_27 : Int), r223_26 = (.int .u64 (x223_27)) ∧ (∃ l224_28 : List Value, rowAtL m37 ⟨(m14.nx + 2), 0, none⟩ 64 = some l224_28 ∧ (CallW cx 24 [.agg (List.toArray l224_28)] (((setFl m38 m37.fl))) fun r225_29 m39 => (∃ (x225_30 : Int), r225_29 = (.int .u64 (x225_30)) ∧ (splitB (eqI (x223_27) (x225_30)) (CallW cx 10 [.int .u64 (x0), .int .i64 (x1)] ((setFl (m39) m39.nx)) fun r231_31 m40 => (∃ (x231_32 : Int), r231_31 = (.int .u64 (x231_32)) ∧ (∃ l232_33 : List Value, rowAtL m39 ⟨(m14.nx + 3), 0, none⟩ 64 = some l232_33 ∧ (CallW cx 24 [.agg (List.toArray l232_33)] (((setFl m40 m39.fl))) fun r233_34 m41 => (∃ (x233_35 : Int), r233_34 = (.int .u64 (x233_35)) ∧ (Q (.bool (eqI (x231_32) (x233_35))) m41)))))) (Q (.bool (false)) m39))))))) (Q (.bool (false)) m37)) (Q (.bool (false)) m37)) (Q (.bool (false)) m37)) (Q (.bool (false)) m37)) (Q (.bool (false)) m37)) (Q (.bool (false)) m37)) (Q (.bool (false)) m37)))) (Q (.bool (false)) m31))) (splitB ((b169) == (false)) (CallW cx 15 [.int .u64 (x0), .int .i64 (x1)] m31 fun r186_36 m42 => (∃ (x186_37 : Int), r186_36 = (.int .i64 (x186_37)) ∧ (splitB (eqI (x186_37) (x12)) (splitB (eqI (x126) (x13)) (splitB ((b126) == (b14)) (splitB (eqI (x132) (x16)) (splitB ((b132) == (b17)) (splitB (eqI (x138) (x18_22)) (splitB ((b138) == (b19)) (CallW cx 9 [.int .u64 (x0), .int .i64 (x1)] ((setFl (m42) m42.nx)) fun r223_38 m43 => (∃ (x223_39 : Int), r223_38 = (.int .u64 (x223_39)) ∧ (∃ l224_40 : List Value, rowAtL m42 ⟨(m14.nx + 2), 0, none⟩ 64 = some l224_40 ∧ (CallW cx 24 [.agg (List.toArray l224_40)] (((setFl m43 m42.fl))) fun r225_41 m44 => (∃ (x225_42 : Int), r225_41 = (.int .u64 (x225_42)) ∧ (splitB (eqI (x223_39) (x225_42)) (CallW cx 10 [.int .u64 (x0), .int .i64 (x1)] ((setFl (m44) m44.nx)) fun r231_43 m45 => (∃ (x231_44 : Int), r231_43 = (.int .u64 (x231_44)) ∧ (∃ l232_45 : List Value, rowAtL m44 ⟨(m14.nx + 3), 0, none⟩ 64 = some l232_45 ∧ (CallW cx 24 [.agg (List.toArray l232_45)] (((setFl m45 m44.fl))) fun r233_46 m46 => (∃ (x233_47 : Int), r233_46 = (.int .u64 (x233_47)) ∧ (Q (.bool (eqI (x231_44) (x233_47))) m46)))))) (Q (.bool (false)) m44))))))) (Q (.bool (false)) m42)) (Q (.bool (false)) m42)) (Q (.bool (false)) m42)) (Q (.bool (false)) m42)) (Q (.bool (false)) m42)) (Q (.bool (false)) m42)) (Q (.bool (false)) m42)))) (Q (.bool (false)) m31))))) (Q (.bool (false)) m30))))))) (Q (.bool (false)) m28))))))) (Q (.bool (false)) ((setFl m26 m25.fl)))))) (Q (.bool (false)) m25))))))))))))))))) fun J_23 =>
  (joinK (fun (b118 : Bool) (m47 : Mem) => (splitB (b118)
  ((0 ≤ (x1) ∧ (x1) < ((64 : Nat) : Int)) ∧ (okW m47 (m14.nx + 2) (0 + Int.toNat (x1) * 1) 1 ∧ (mBind (wr m47 (m14.nx + 2) (0 + Int.toNat (x1) * 1) [.bool (true)]) fun m48 => ((0 ≤ (x1) ∧ (x1) < ((64 : Nat) : Int)) ∧ (okW m48 (m14.nx + 3) (0 + Int.toNat (x1) * 1) 1 ∧ (mBind (wr m48 (m14.nx + 3) (0 + Int.toNat (x1) * 1) [.bool (false)]) fun m49 => (J_23  m49)))))))
  (J_23  m47))) fun J_48 =>
  (splitB (leI (0 : Int) (x1)) (J_48 (ltI (x1) (64 : Int)) m18) (J_48 (false) m18))))))))))))))) fun J_21 =>
  (splitB (b19)
  ((0 ≤ (x1) ∧ (x1) < ((n37 : Nat) : Int)) ∧ (vPtr a37 fun ba37_49 oa37_50 => (∃ (x110 : Int), rd m13 ba37_49 (oa37_50 + Int.toNat (x1) * 1) = some (.int .i64 (x110)) ∧ (J_21 (x110) m13))))
  (J_21 (x18) m13)))) fun J_20 =>
  (splitB (leI (0 : Int) (x1)) (J_20 (0 : Int) (ltI (x1) (lenI (n37))) m12) (J_20 (0 : Int) (false) m12)))) fun J_19 =>
  (joinK (fun (b94 : Bool) (m50 : Mem) => (splitB (b94)
  ((0 ≤ (0 : Int) ∧ (0 : Int) < ((n37 : Nat) : Int)) ∧ (vPtr a37 fun ba37_52 oa37_53 => (∃ (x97 : Int), rd m50 ba37_52 (oa37_53 + Int.toNat (0 : Int) * 1) = some (.int .i64 (x97)) ∧ (J_19 (x97) (true) m50))))
  (J_19 (x13) (b14) m50))) fun J_51 =>
  (splitB (!(b14)) (J_51 (ltI (0 : Int) (lenI (n37))) m10) (J_51 (false) m10))))))))))))))))))))))))
theorem F6_eq (x0 : Int) (x1 : Int) (a2 : Option Addr) (n2 c2 : Nat) (m : Mem) (Q : Value → Mem → Prop) : F6 x0 x1 a2 n2 c2 m Q = vFn cx Tryd.f6 A6 [.int .u64 (x0), .int .i64 (x1), .slice a2 (n2) (c2)] m Q := by kernel_rfl
theorem F6_ok {x0 : Int} {x1 : Int} {a2 : Option Addr} {n2 c2 : Nat} {m : Mem} {Q : Value → Mem → Prop} (h : F6 x0 x1 a2 n2 c2 m Q) : CallW cx 6 [.int .u64 (x0), .int .i64 (x1), .slice a2 (n2) (c2)] m Q :=
  CallW.of (by kernel_rfl) (by kernel_rfl) (Eq.mp (F6_eq x0 x1 a2 n2 c2 m Q) h)

end
end Go.Proofs.YtlenjadchmlliaaDoor.vc
