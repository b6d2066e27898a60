/-
  Formulas of the functions of package edf, of the laws and of the reference's: printed by a program (vcprint.py) out of the loaded code; Lean's kernel holds each against the code.
-/
import Derived.Test.YtmjpkannhbaklaaDefs
namespace Go.Proofs.Ytmjpkannhbaklaa.vc
open Go Go.AX
set_option linter.unusedVariables false
set_option maxRecDepth 100000
noncomputable section

-- 4 beadle/beadlelaw15.EdfOrder
noncomputable def A4 : Ann := [none, none, none, none, some ([0, 1, 2], []), none, none, none, none, none, some ([0, 1, 2], [(7, .sl), (8, .int .i64)]), none, none, none, none, some ([9, 11], []), none, none, none, none, some ([9, 11], [(12, .int .i64)]), none, none, none, none, none, none, some ([9, 11, 12], [(13, .bool), (14, .int .i64)]), none, none, none, none, none, none]
def F4 (x0 : Int) (a1 : Option Addr) (n1 c1 : Nat) (x2 : Int) (m : Mem) (Q : Value → Mem → Prop) : Prop :=
  (CallW cx 9 [] m fun r15 m1 => (∃ (b15 : Bool), r15 = (.bool (b15)) ∧ (splitB (!(b15))
  (Q (.bool (false)) m1)
  (joinK (fun  (m2 : Mem) => (∃ Inv : Option Addr → Nat → Nat → Int → Mem → Nat → Prop, (∃ n : Nat, Inv none (0) (0) (0 : Int) m2 n) ∧
  (∀ (a7 : Option Addr) (n7 c7 : Nat) (x8 : Int), ∀ (m3 : Mem) (n_1 : Nat), Inv a7 (n7) (c7) (x8) m3 n_1 →
  (splitB (ltI (x8) (lenI (n1)))
  ((lenI (n1)) ≠ 0 ∧ ((lenI (n1)) ≠ 0 ∧ ((0 ≤ (Int.tmod (addI .i64 (x8) (Int.tmod (x2) (lenI (n1)))) (lenI (n1))) ∧ (Int.tmod (addI .i64 (x8) (Int.tmod (x2) (lenI (n1)))) (lenI (n1))) < ((n1 : Nat) : Int)) ∧ (vPtr a1 fun ba1 oa1 => (∃ (x57 : Int), rd m3 ba1 (oa1 + Int.toNat (Int.tmod (addI .i64 (x8) (Int.tmod (x2) (lenI (n1)))) (lenI (n1))) * 3) = some (.int .i64 (x57)) ∧ (∃ (x57_2 : Int), rd m3 ba1 (oa1 + Int.toNat (Int.tmod (addI .i64 (x8) (Int.tmod (x2) (lenI (n1)))) (lenI (n1))) * 3 + 1) = some (.int .i64 (x57_2)) ∧ (∃ (b57 : Bool), rd m3 ba1 (oa1 + Int.toNat (Int.tmod (addI .i64 (x8) (Int.tmod (x2) (lenI (n1)))) (lenI (n1))) * 3 + 2) = some (.bool (b57)) ∧ (mBind (newO m3 (row [.int .i64 (x57), .int .i64 (x57_2), .bool (b57)] 29 false)) fun m4 => (∃ (a59 : Option Addr) (n59 c59 : Nat) (m5 : Mem), appendA cx m4 [22, 22] [.slice a7 (n7) (c7), .slice (some ⟨m3.nx, 0, none⟩) (1) (1)] = some (.slice a59 (n59) (c59), m5) ∧ (∃ n_3 : Nat, n_3 < n_1 ∧ Inv a59 (n59) (c59) (addI .i64 (x8) (1 : Int)) m5 n_3))))))))))
  (CallW cx 11 [.int .i64 (x0), .slice a1 (n1) (c1)] m3 fun r62 m6 => (∃ (a62 : Option Addr) (n62 c62 : Nat), r62 = (.slice a62 (n62) (c62)) ∧ (CallW cx 11 [.int .i64 (x0), .slice a7 (n7) (c7)] m6 fun r65 m7 => (∃ (a65 : Option Addr) (n65 c65 : Nat), r65 = (.slice a65 (n65) (c65)) ∧ (CallW cx 11 [.int .i64 (addI .i64 (x0) (1 : Int)), .slice a1 (n1) (c1)] m7 fun r69 m8 => (∃ (a69 : Option Addr) (n69 c69 : Nat), r69 = (.slice a69 (n69) (c69)) ∧ (joinK (fun  (m9 : Mem) => (∃ Inv_5 : Int → Mem → Nat → Prop, (∃ n_6 : Nat, Inv_5 (0 : Int) m9 n_6) ∧
  (∀ (x12 : Int), ∀ (m10 : Mem) (n_7 : Nat), Inv_5 (x12) m10 n_7 →
  (splitB (ltI (x12) (lenI (n62)))
  (∃ Inv_8 : Bool → Int → Mem → Nat → Prop, (∃ n_9 : Nat, Inv_8 (false) (0 : Int) m10 n_9) ∧
  (∀ (b13 : Bool) (x14 : Int), ∀ (m11 : Mem) (n_10 : Nat), Inv_8 (b13) (x14) m11 n_10 →
  (splitB (ltI (x14) (lenI (n69)))
  (mBind (bump m11 13) fun m12 => (splitB (b13) (∃ n_11 : Nat, n_11 < n_10 ∧ Inv_8 (true) (addI .i64 (x14) (1 : Int)) m12 n_11) ((0 ≤ (x14) ∧ (x14) < ((n69 : Nat) : Int)) ∧ (vPtr a69 fun ba69 oa69 => (∃ (x99 : Int), rd m12 ba69 (oa69 + Int.toNat (x14) * 1) = some (.int .i64 (x99)) ∧ ((0 ≤ (x12) ∧ (x12) < ((n62 : Nat) : Int)) ∧ (vPtr a62 fun ba62 oa62 => (∃ (x103 : Int), rd m12 ba62 (oa62 + Int.toNat (x12) * 1) = some (.int .i64 (x103)) ∧ (∃ n_12 : Nat, n_12 < n_10 ∧ Inv_8 (eqI (x99) (x103)) (addI .i64 (x14) (1 : Int)) m12 n_12)))))))))
  (splitB (!(b13))
  (Q (.bool (false)) m11)
  (∃ n_13 : Nat, n_13 < n_7 ∧ Inv_5 (addI .i64 (x12) (1 : Int)) m11 n_13)))))
  (Q (.bool (true)) m10))))) fun J_4 =>
  (CallW cx 13 [.slice a62 (n62) (c62), .slice a65 (n65) (c65)] m8 fun r72 m13 => (∃ (b72 : Bool), r72 = (.bool (b72)) ∧ (splitB (!(b72)) (Q (.bool (false)) m13) (splitB (ltI (addI .i64 (lenI (n62)) (1 : Int)) (lenI (n69)))
  (Q (.bool (false)) m13)
  (J_4  m13)))))))))))))))) fun J =>
  (splitB (ltI (lenI (n1)) (1 : Int)) (Q (.bool (true)) m1) (splitB (ltI (64 : Int) (lenI (n1))) (Q (.bool (true)) m1) (splitB (ltI (x2) (0 : Int)) (Q (.bool (true)) m1) (splitB (ltI (63 : Int) (x0)) (Q (.bool (true)) m1) (CallW cx 10 [.int .i64 (x0), .slice a1 (n1) (c1)] m1 fun r36 m14 => (∃ (b36 : Bool), r36 = (.bool (b36)) ∧ (splitB (!(b36))
  (Q (.bool (true)) m14)
  (J  m14))))))))))))
theorem F4_eq (x0 : Int) (a1 : Option Addr) (n1 c1 : Nat) (x2 : Int) (m : Mem) (Q : Value → Mem → Prop) : F4 x0 a1 n1 c1 x2 m Q = vFn cx Try.f4 A4 [.int .i64 (x0), .slice a1 (n1) (c1), .int .i64 (x2)] m Q := by kernel_rfl
theorem F4_ok {x0 : Int} {a1 : Option Addr} {n1 c1 : Nat} {x2 : Int} {m : Mem} {Q : Value → Mem → Prop} (h : F4 x0 a1 n1 c1 x2 m Q) : CallW cx 4 [.int .i64 (x0), .slice a1 (n1) (c1), .int .i64 (x2)] m Q :=
  CallW.of (by kernel_rfl) (by kernel_rfl) (Eq.mp (F4_eq x0 a1 n1 c1 x2 m Q) h)

end
end Go.Proofs.Ytmjpkannhbaklaa.vc
