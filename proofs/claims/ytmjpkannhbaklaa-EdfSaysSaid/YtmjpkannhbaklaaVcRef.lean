/-
  Formulas of the functions of package edf, of the laws and of the reference's: printed by a program (vcprint.py) out of the loaded code; Lean's kernel holds each against the code.
-/
import Derived.Test.YtmjpkannhbaklaaDefs
namespace Go.Proofs.Ytmjpkannhbaklaa.vc
open Go Go.AX
set_option linter.unusedVariables false
set_option maxRecDepth 100000
noncomputable section

-- 8 beadle/beadlelaw15.EdfSays
noncomputable def A8 : Ann := [none, none, none, none, none, none, none, none, none, none, none, none, none, none, some ([0, 1, 7, 8, 9, 10, 11, 12, 13, 14, 15, 16, 17, 18, 19], []), none, none, none]
def F8 (x0 : Int) (a1 : Option Addr) (n1 c1 : Nat) (x2 : Int) (x2_1 : Int) (b2 : Bool) (m : Mem) (Q : Value → Mem → Prop) : Prop :=
  (mBind (newO m (row [.int .i64 (x2), .int .i64 (x2_1), .bool (b2)] 29 false)) fun m1 => (CallW cx 9 [] m1 fun r20 m2 => (∃ (b20 : Bool), r20 = (.bool (b20)) ∧ (splitB (!(b20))
  (Q (.bool (false)) m2)
  (splitB (ltI (70 : Int) (lenI (n1)))
  (Q (.bool (true)) m2)
  (CallW cx 17 [.slice a1 (n1) (c1)] m2 fun r26 m3 => (∃ (a26 : Option Addr) (n26 c26 : Nat), r26 = (.slice a26 (n26) (c26)) ∧ (CallW cx 14 [.int .i64 (x0), .slice a1 (n1) (c1)] m3 fun r30 m4 => (∃ (x30 : Int), (∃ (x30_2 : Int), (∃ (b30 : Bool), (∃ (b30_3 : Bool), r30 = (.tuple #[.agg #[.int .i64 (x30), .int .i64 (x30_2), .bool (b30)], .bool (b30_3)]) ∧ (mBind (newO m4 (row [.int .i64 (0 : Int), .int .i64 (0 : Int), .bool (false)] 29 false)) fun m5 => (okW m5 m4.nx (0) 3 ∧ (mBind (wr m5 m4.nx (0) [.int .i64 (x30), .int .i64 (x30_2), .bool (b30)]) fun m6 => (CallW cx 18 [.int .i64 (x0), .slice a26 (n26) (c26)] m6 fun r36 m7 => (∃ (x36 : Int), (∃ (x36_4 : Int), (∃ (b36 : Bool), (∃ (b36_5 : Bool), r36 = (.tuple #[.agg #[.int .i64 (x36), .int .i64 (x36_4), .bool (b36)], .bool (b36_5)]) ∧ (mBind (newO m7 (row [.int .i64 (0 : Int), .int .i64 (0 : Int), .bool (false)] 41 false)) fun m8 => (okW m8 m7.nx (0) 3 ∧ (mBind (wr m8 m7.nx (0) [.int .i64 (x36), .int .i64 (x36_4), .bool (b36)]) fun m9 => (CallW cx 15 [.int .i64 (x0), .slice a1 (n1) (c1)] m9 fun r42 m10 => (∃ (x42 : Int), (∃ (x42_6 : Int), (∃ (b42 : Bool), (∃ (b42_7 : Bool), r42 = (.tuple #[.agg #[.int .i64 (x42), .int .i64 (x42_6), .bool (b42)], .bool (b42_7)]) ∧ (mBind (newO m10 (row [.int .i64 (0 : Int), .int .i64 (0 : Int), .bool (false)] 29 false)) fun m11 => (okW m11 m10.nx (0) 3 ∧ (mBind (wr m11 m10.nx (0) [.int .i64 (x42), .int .i64 (x42_6), .bool (b42)]) fun m12 => (CallW cx 19 [.int .i64 (x0), .slice a26 (n26) (c26)] m12 fun r48 m13 => (∃ (x48 : Int), (∃ (x48_8 : Int), (∃ (b48 : Bool), (∃ (b48_9 : Bool), r48 = (.tuple #[.agg #[.int .i64 (x48), .int .i64 (x48_8), .bool (b48)], .bool (b48_9)]) ∧ (mBind (newO m13 (row [.int .i64 (0 : Int), .int .i64 (0 : Int), .bool (false)] 41 false)) fun m14 => (okW m14 m13.nx (0) 3 ∧ (mBind (wr m14 m13.nx (0) [.int .i64 (x48), .int .i64 (x48_8), .bool (b48)]) fun m15 => (∃ (x54 : Int), rd m15 m.nx (0) = some (.int .i64 (x54)) ∧ (∃ (x54_10 : Int), rd m15 m.nx (1) = some (.int .i64 (x54_10)) ∧ (∃ (b54 : Bool), rd m15 m.nx (2) = some (.bool (b54)) ∧ (CallW cx 16 [.int .i64 (x0), .slice a1 (n1) (c1), .agg #[.int .i64 (x54), .int .i64 (x54_10), .bool (b54)]] m15 fun r55 m16 => (∃ (x55 : Int), (∃ (b55 : Bool), r55 = (.tuple #[.int .i64 (x55), .bool (b55)]) ∧ (∃ (x61 : Int), rd m16 m.nx (0) = some (.int .i64 (x61)) ∧ (∃ (x61_11 : Int), rd m16 m.nx (1) = some (.int .i64 (x61_11)) ∧ (∃ (b61 : Bool), rd m16 m.nx (2) = some (.bool (b61)) ∧ (CallW cx 21 [.agg #[.int .i64 (x61), .int .i64 (x61_11), .bool (b61)]] m16 fun r62 m17 => (∃ (x62 : Int), (∃ (x62_12 : Int), (∃ (b62 : Bool), r62 = (.agg #[.int .i64 (x62), .int .i64 (x62_12), .bool (b62)]) ∧ (CallW cx 20 [.int .i64 (x0), .slice a26 (n26) (c26), .agg #[.int .i64 (x62), .int .i64 (x62_12), .bool (b62)]] m17 fun r63 m18 => (∃ (x63 : Int), (∃ (b63 : Bool), r63 = (.tuple #[.int .i64 (x63), .bool (b63)]) ∧ (joinK (fun  (m19 : Mem) => (mBind (bump m19 49) fun m20 => (CallW cx 10 [.int .i64 (x0), .slice a1 (n1) (c1)] m20 fun r88 m21 => (∃ (b88 : Bool), r88 = (.bool (b88)) ∧ (CallW cx 23 [.int .i64 (x0), .slice a26 (n26) (c26)] m21 fun r91 m22 => (∃ (b91 : Bool), r91 = (.bool (b91)) ∧ (splitB ((b88) == (b91)) (CallW cx 11 [.int .i64 (x0), .slice a1 (n1) (c1)] m22 fun r96 m23 => (∃ (a96 : Option Addr) (n96 c96 : Nat), r96 = (.slice a96 (n96) (c96)) ∧ (CallW cx 24 [.int .i64 (x0), .slice a26 (n26) (c26)] m23 fun r99 m24 => (∃ (a99 : Option Addr) (n99 c99 : Nat), r99 = (.slice a99 (n99) (c99)) ∧ (CallW cx 13 [.slice a96 (n96) (c96), .slice a99 (n99) (c99)] m24 fun r100 m25 => (∃ (b100 : Bool), r100 = (.bool (b100)) ∧ (splitB (b100) (∃ (x103 : Int), rd m25 m4.nx (0) = some (.int .i64 (x103)) ∧ (∃ (x103_13 : Int), rd m25 m4.nx (1) = some (.int .i64 (x103_13)) ∧ (∃ (b103 : Bool), rd m25 m4.nx (2) = some (.bool (b103)) ∧ (CallW cx 21 [.agg #[.int .i64 (x103), .int .i64 (x103_13), .bool (b103)]] ((setFl (m25) m25.nx)) fun r104 m26 => (∃ (x104 : Int), (∃ (x104_14 : Int), (∃ (b104 : Bool), r104 = (.agg #[.int .i64 (x104), .int .i64 (x104_14), .bool (b104)]) ∧ (∃ (x105 : Int), rd m25 m7.nx (0) = some (.int .i64 (x105)) ∧ (∃ (x105_15 : Int), rd m25 m7.nx (1) = some (.int .i64 (x105_15)) ∧ (∃ (b105 : Bool), rd m25 m7.nx (2) = some (.bool (b105)) ∧ (∃ r : Bool, eqV cx ((setFl m26 m25.fl)) 40 41 (.agg #[.int .i64 (x104), .int .i64 (x104_14), .bool (b104)]) (.agg #[.int .i64 (x105), .int .i64 (x105_15), .bool (b105)]) = some r ∧ (splitB (r) (splitB ((b30_3) == (b36_5)) (∃ (x114 : Int), rd ((setFl m26 m25.fl)) m10.nx (0) = some (.int .i64 (x114)) ∧ (∃ (x114_16 : Int), rd ((setFl m26 m25.fl)) m10.nx (1) = some (.int .i64 (x114_16)) ∧ (∃ (b114 : Bool), rd ((setFl m26 m25.fl)) m10.nx (2) = some (.bool (b114)) ∧ (CallW cx 21 [.agg #[.int .i64 (x114), .int .i64 (x114_16), .bool (b114)]] ((setFl ((setFl m26 m25.fl)) ((setFl m26 m25.fl)).nx)) fun r115 m27 => (∃ (x115 : Int), (∃ (x115_17 : Int), (∃ (b115 : Bool), r115 = (.agg #[.int .i64 (x115), .int .i64 (x115_17), .bool (b115)]) ∧ (∃ (x116 : Int), rd ((setFl m26 m25.fl)) m13.nx (0) = some (.int .i64 (x116)) ∧ (∃ (x116_18 : Int), rd ((setFl m26 m25.fl)) m13.nx (1) = some (.int .i64 (x116_18)) ∧ (∃ (b116 : Bool), rd ((setFl m26 m25.fl)) m13.nx (2) = some (.bool (b116)) ∧ (∃ r_19 : Bool, eqV cx ((setFl m27 ((setFl m26 m25.fl)).fl)) 40 41 (.agg #[.int .i64 (x115), .int .i64 (x115_17), .bool (b115)]) (.agg #[.int .i64 (x116), .int .i64 (x116_18), .bool (b116)]) = some r_19 ∧ (splitB (r_19) (splitB ((b42_7) == (b48_9)) (splitB (eqI (x55) (x63)) (Q (.bool ((b55) == (b63))) ((setFl m27 ((setFl m26 m25.fl)).fl))) (Q (.bool (false)) ((setFl m27 ((setFl m26 m25.fl)).fl)))) (Q (.bool (false)) ((setFl m27 ((setFl m26 m25.fl)).fl)))) (Q (.bool (false)) ((setFl m27 ((setFl m26 m25.fl)).fl))))))))))))))) (Q (.bool (false)) ((setFl m26 m25.fl)))) (Q (.bool (false)) ((setFl m26 m25.fl))))))))))))))) (Q (.bool (false)) m25)))))))) (Q (.bool (false)) m22)))))))) fun J =>
  (mBind (bump m18 20) fun m28 => (splitB (ltI (1 : Int) (lenI (n1))) ((0 ≤ (0 : Int) ∧ (0 : Int) < ((n1 : Nat) : Int)) ∧ (vPtr a1 fun ba1 oa1 => (∃ (x72 : Int), rd m28 ba1 (oa1 + Int.toNat (0 : Int) * 3) = some (.int .i64 (x72)) ∧ (∃ (x72_20 : Int), rd m28 ba1 (oa1 + Int.toNat (0 : Int) * 3 + 1) = some (.int .i64 (x72_20)) ∧ (∃ (b72 : Bool), rd m28 ba1 (oa1 + Int.toNat (0 : Int) * 3 + 2) = some (.bool (b72)) ∧ ((0 ≤ (1 : Int) ∧ (1 : Int) < ((n1 : Nat) : Int)) ∧ (vPtr a1 fun ba1_21 oa1_22 => (∃ (x75 : Int), rd m28 ba1_21 (oa1_22 + Int.toNat (1 : Int) * 3) = some (.int .i64 (x75)) ∧ (∃ (x75_23 : Int), rd m28 ba1_21 (oa1_22 + Int.toNat (1 : Int) * 3 + 1) = some (.int .i64 (x75_23)) ∧ (∃ (b75 : Bool), rd m28 ba1_21 (oa1_22 + Int.toNat (1 : Int) * 3 + 2) = some (.bool (b75)) ∧ (CallW cx 12 [.agg #[.int .i64 (x72), .int .i64 (x72_20), .bool (b72)], .agg #[.int .i64 (x75), .int .i64 (x75_23), .bool (b75)]] ((setFl (m28) m18.nx)) fun r76 m29 => (∃ (b76 : Bool), r76 = (.bool (b76)) ∧ ((0 ≤ (0 : Int) ∧ (0 : Int) < ((n26 : Nat) : Int)) ∧ (vPtr a26 fun ba26 oa26 => (∃ (x79 : Int), rd m28 ba26 (oa26 + Int.toNat (0 : Int) * 3) = some (.int .i64 (x79)) ∧ (∃ (x79_24 : Int), rd m28 ba26 (oa26 + Int.toNat (0 : Int) * 3 + 1) = some (.int .i64 (x79_24)) ∧ (∃ (b79 : Bool), rd m28 ba26 (oa26 + Int.toNat (0 : Int) * 3 + 2) = some (.bool (b79)) ∧ ((0 ≤ (1 : Int) ∧ (1 : Int) < ((n26 : Nat) : Int)) ∧ (vPtr a26 fun ba26_25 oa26_26 => (∃ (x82 : Int), rd m28 ba26_25 (oa26_26 + Int.toNat (1 : Int) * 3) = some (.int .i64 (x82)) ∧ (∃ (x82_27 : Int), rd m28 ba26_25 (oa26_26 + Int.toNat (1 : Int) * 3 + 1) = some (.int .i64 (x82_27)) ∧ (∃ (b82 : Bool), rd m28 ba26_25 (oa26_26 + Int.toNat (1 : Int) * 3 + 2) = some (.bool (b82)) ∧ (CallW cx 22 [.agg #[.int .i64 (x79), .int .i64 (x79_24), .bool (b79)], .agg #[.int .i64 (x82), .int .i64 (x82_27), .bool (b82)]] (((setFl m29 m28.fl))) fun r83 m30 => (∃ (b83 : Bool), r83 = (.bool (b83)) ∧ (splitB (!((b76) == (b83)))
  (Q (.bool (false)) m30)
  (J  m30)))))))))))))))))))))))))) (J  m28)))))))))))))))))))))))))))))))))))))))))))))))))))))))))))
theorem F8_eq (x0 : Int) (a1 : Option Addr) (n1 c1 : Nat) (x2 : Int) (x2_1 : Int) (b2 : Bool) (m : Mem) (Q : Value → Mem → Prop) : F8 x0 a1 n1 c1 x2 x2_1 b2 m Q = vFn cx Try.f8 A8 [.int .i64 (x0), .slice a1 (n1) (c1), .agg #[.int .i64 (x2), .int .i64 (x2_1), .bool (b2)]] m Q := by kernel_rfl
theorem F8_ok {x0 : Int} {a1 : Option Addr} {n1 c1 : Nat} {x2 : Int} {x2_1 : Int} {b2 : Bool} {m : Mem} {Q : Value → Mem → Prop} (h : F8 x0 a1 n1 c1 x2 x2_1 b2 m Q) : CallW cx 8 [.int .i64 (x0), .slice a1 (n1) (c1), .agg #[.int .i64 (x2), .int .i64 (x2_1), .bool (b2)]] m Q :=
  CallW.of (by kernel_rfl) (by kernel_rfl) (Eq.mp (F8_eq x0 a1 n1 c1 x2 x2_1 b2 m Q) h)

-- 17 beadle/beadlelaw15.ents
noncomputable def A17 : Ann := [none, none, none, none, some ([0], [(3, .sl), (4, .int .i64)]), none, none, none, none]
def F17 (a0 : Option Addr) (n0 c0 : Nat) (m : Mem) (Q : Value → Mem → Prop) : Prop :=
  (∃ Inv : Option Addr → Nat → Nat → Int → Mem → Nat → Prop, (∃ n : Nat, Inv none (0) (0) (0 : Int) m n) ∧
  (∀ (a3 : Option Addr) (n3 c3 : Nat) (x4 : Int), ∀ (m1 : Mem) (n_1 : Nat), Inv a3 (n3) (c3) (x4) m1 n_1 →
  (splitB (ltI (x4) (lenI (n0)))
  ((0 ≤ (x4) ∧ (x4) < ((n0 : Nat) : Int)) ∧ (vPtr a0 fun ba0 oa0 => (∃ (x15 : Int), rd m1 ba0 (oa0 + Int.toNat (x4) * 3) = some (.int .i64 (x15)) ∧ (∃ (x15_2 : Int), rd m1 ba0 (oa0 + Int.toNat (x4) * 3 + 1) = some (.int .i64 (x15_2)) ∧ (∃ (b15 : Bool), rd m1 ba0 (oa0 + Int.toNat (x4) * 3 + 2) = some (.bool (b15)) ∧ (CallW cx 21 [.agg #[.int .i64 (x15), .int .i64 (x15_2), .bool (b15)]] m1 fun r16 m2 => (∃ (x16 : Int), (∃ (x16_3 : Int), (∃ (b16 : Bool), r16 = (.agg #[.int .i64 (x16), .int .i64 (x16_3), .bool (b16)]) ∧ (mBind (newO m2 (row [.int .i64 (x16), .int .i64 (x16_3), .bool (b16)] 41 false)) fun m3 => (∃ (a18 : Option Addr) (n18 c18 : Nat) (m4 : Mem), appendA cx m3 [39, 39] [.slice a3 (n3) (c3), .slice (some ⟨m2.nx, 0, none⟩) (1) (1)] = some (.slice a18 (n18) (c18), m4) ∧ (∃ n_4 : Nat, n_4 < n_1 ∧ Inv a18 (n18) (c18) (addI .i64 (x4) (1 : Int)) m4 n_4))))))))))))
  (Q (.slice a3 (n3) (c3)) m1))))
theorem F17_eq (a0 : Option Addr) (n0 c0 : Nat) (m : Mem) (Q : Value → Mem → Prop) : F17 a0 n0 c0 m Q = vFn cx Try.f17 A17 [.slice a0 (n0) (c0)] m Q := by kernel_rfl
theorem F17_ok {a0 : Option Addr} {n0 c0 : Nat} {m : Mem} {Q : Value → Mem → Prop} (h : F17 a0 n0 c0 m Q) : CallW cx 17 [.slice a0 (n0) (c0)] m Q :=
  CallW.of (by kernel_rfl) (by kernel_rfl) (Eq.mp (F17_eq a0 n0 c0 m Q) h)

-- 18 beadle/beadleref10.Worst
noncomputable def A18 : Ann := [none, none, none, none, none, some ([1, 4, 6], [(7, .int .i64), (8, .int .i64)]), none, none, none, none, none, none, none, none]
def F18 (x0 : Int) (a1 : Option Addr) (n1 c1 : Nat) (m : Mem) (Q : Value → Mem → Prop) : Prop :=
  (mBind (newO m (row [.int .i64 (0 : Int), .int .i64 (0 : Int), .bool (false)] 41 false)) fun m1 => (CallW cx 30 [.int .i64 (x0), .slice a1 (n1) (c1)] m1 fun r11 m2 => (∃ (a11 : Option Addr) (n11 c11 : Nat), r11 = (.slice a11 (n11) (c11)) ∧ (∃ Inv : Int → Int → Mem → Nat → Prop, (∃ n : Nat, Inv (-1 : Int) (0 : Int) m2 n) ∧
  (∀ (x7 : Int) (x8 : Int), ∀ (m3 : Mem) (n_1 : Nat), Inv (x7) (x8) m3 n_1 →
  (splitB (ltI (x8) (lenI (n1)))
  (mBind (bump m3 27) fun m4 => ((0 ≤ (x8) ∧ (x8) < ((n11 : Nat) : Int)) ∧ (vPtr a11 fun ba11 oa11 => (∃ (b21 : Bool), rd m4 ba11 (oa11 + Int.toNat (x8) * 1) = some (.bool (b21)) ∧ (splitB (b21) ((0 ≤ (x8) ∧ (x8) < ((n1 : Nat) : Int)) ∧ (vPtr a1 fun ba1 oa1 => (∃ (b27 : Bool), rd m4 ba1 (oa1 + Int.toNat (x8) * 3 + 2) = some (.bool (b27)) ∧ (splitB (!(b27)) (splitB (ltI (x7) (0 : Int)) (∃ n_2 : Nat, n_2 < n_1 ∧ Inv (x8) (addI .i64 (x8) (1 : Int)) m4 n_2) ((0 ≤ (x7) ∧ (x7) < ((n1 : Nat) : Int)) ∧ (vPtr a1 fun ba1_3 oa1_4 => (∃ (x37 : Int), rd m4 ba1_3 (oa1_4 + Int.toNat (x7) * 3) = some (.int .i64 (x37)) ∧ (∃ (x37_5 : Int), rd m4 ba1_3 (oa1_4 + Int.toNat (x7) * 3 + 1) = some (.int .i64 (x37_5)) ∧ (∃ (b37 : Bool), rd m4 ba1_3 (oa1_4 + Int.toNat (x7) * 3 + 2) = some (.bool (b37)) ∧ ((0 ≤ (x8) ∧ (x8) < ((n1 : Nat) : Int)) ∧ (vPtr a1 fun ba1_6 oa1_7 => (∃ (x41 : Int), rd m4 ba1_6 (oa1_7 + Int.toNat (x8) * 3) = some (.int .i64 (x41)) ∧ (∃ (x41_8 : Int), rd m4 ba1_6 (oa1_7 + Int.toNat (x8) * 3 + 1) = some (.int .i64 (x41_8)) ∧ (∃ (b41 : Bool), rd m4 ba1_6 (oa1_7 + Int.toNat (x8) * 3 + 2) = some (.bool (b41)) ∧ (CallW cx 22 [.agg #[.int .i64 (x37), .int .i64 (x37_5), .bool (b37)], .agg #[.int .i64 (x41), .int .i64 (x41_8), .bool (b41)]] m4 fun r42 m5 => (∃ (b42 : Bool), r42 = (.bool (b42)) ∧ (splitB (b42)
  (∃ n_9 : Nat, n_9 < n_1 ∧ Inv (x8) (addI .i64 (x8) (1 : Int)) m5 n_9)
  (∃ n_10 : Nat, n_10 < n_1 ∧ Inv (x7) (addI .i64 (x8) (1 : Int)) m5 n_10))))))))))))))) (∃ n_11 : Nat, n_11 < n_1 ∧ Inv (x7) (addI .i64 (x8) (1 : Int)) m4 n_11))))) (∃ n_12 : Nat, n_12 < n_1 ∧ Inv (x7) (addI .i64 (x8) (1 : Int)) m4 n_12))))))
  (splitB (ltI (x7) (0 : Int))
  (okW m3 m.nx (0) 3 ∧ (mBind (wr m3 m.nx (0) [.int .i64 (0 : Int), .int .i64 (0 : Int), .bool (false)]) fun m6 => (∃ (xr : Int), rd m6 m.nx (0) = some (.int .i64 (xr)) ∧ (∃ (xr_13 : Int), rd m6 m.nx (1) = some (.int .i64 (xr_13)) ∧ (∃ (br : Bool), rd m6 m.nx (2) = some (.bool (br)) ∧ (Q (.tuple #[.agg #[.int .i64 (xr), .int .i64 (xr_13), .bool (br)], .bool (false)]) m6))))))
  ((0 ≤ (x7) ∧ (x7) < ((n1 : Nat) : Int)) ∧ (vPtr a1 fun ba1_14 oa1_15 => (∃ (x52 : Int), rd m3 ba1_14 (oa1_15 + Int.toNat (x7) * 3) = some (.int .i64 (x52)) ∧ (∃ (x52_16 : Int), rd m3 ba1_14 (oa1_15 + Int.toNat (x7) * 3 + 1) = some (.int .i64 (x52_16)) ∧ (∃ (b52 : Bool), rd m3 ba1_14 (oa1_15 + Int.toNat (x7) * 3 + 2) = some (.bool (b52)) ∧ (okW m3 m.nx (0) 3 ∧ (mBind (wr m3 m.nx (0) [.int .i64 (x52), .int .i64 (x52_16), .bool (b52)]) fun m7 => (∃ (xr_17 : Int), rd m7 m.nx (0) = some (.int .i64 (xr_17)) ∧ (∃ (xr_18 : Int), rd m7 m.nx (1) = some (.int .i64 (xr_18)) ∧ (∃ (br_19 : Bool), rd m7 m.nx (2) = some (.bool (br_19)) ∧ (Q (.tuple #[.agg #[.int .i64 (xr_17), .int .i64 (xr_18), .bool (br_19)], .bool (true)]) m7))))))))))))))))))
theorem F18_eq (x0 : Int) (a1 : Option Addr) (n1 c1 : Nat) (m : Mem) (Q : Value → Mem → Prop) : F18 x0 a1 n1 c1 m Q = vFn cx Try.f18 A18 [.int .i64 (x0), .slice a1 (n1) (c1)] m Q := by kernel_rfl
theorem F18_ok {x0 : Int} {a1 : Option Addr} {n1 c1 : Nat} {m : Mem} {Q : Value → Mem → Prop} (h : F18 x0 a1 n1 c1 m Q) : CallW cx 18 [.int .i64 (x0), .slice a1 (n1) (c1)] m Q :=
  CallW.of (by kernel_rfl) (by kernel_rfl) (Eq.mp (F18_eq x0 a1 n1 c1 m Q) h)

-- 19 beadle/beadleref10.First
noncomputable def A19 : Ann := [none, none, none, none, none, none, none, none, none]
def F19 (x0 : Int) (a1 : Option Addr) (n1 c1 : Nat) (m : Mem) (Q : Value → Mem → Prop) : Prop :=
  (mBind (newO m (row [.int .i64 (0 : Int), .int .i64 (0 : Int), .bool (false)] 41 false)) fun m1 => (CallW cx 23 [.int .i64 (x0), .slice a1 (n1) (c1)] m1 fun r9 m2 => (∃ (b9 : Bool), r9 = (.bool (b9)) ∧ (splitB (!(b9))
  (okW m2 m.nx (0) 3 ∧ (mBind (wr m2 m.nx (0) [.int .i64 (0 : Int), .int .i64 (0 : Int), .bool (false)]) fun m3 => (∃ (xr : Int), rd m3 m.nx (0) = some (.int .i64 (xr)) ∧ (∃ (xr_1 : Int), rd m3 m.nx (1) = some (.int .i64 (xr_1)) ∧ (∃ (br : Bool), rd m3 m.nx (2) = some (.bool (br)) ∧ (Q (.tuple #[.agg #[.int .i64 (xr), .int .i64 (xr_1), .bool (br)], .bool (false)]) m3))))))
  (CallW cx 30 [.int .i64 (x0), .slice a1 (n1) (c1)] m2 fun r15 m4 => (∃ (a15 : Option Addr) (n15 c15 : Nat), r15 = (.slice a15 (n15) (c15)) ∧ (CallW cx 31 [.slice a1 (n1) (c1), .slice a15 (n15) (c15)] m4 fun r16 m5 => (∃ (x16 : Int), r16 = (.int .i64 (x16)) ∧ (splitB (ltI (x16) (0 : Int))
  (okW m5 m.nx (0) 3 ∧ (mBind (wr m5 m.nx (0) [.int .i64 (0 : Int), .int .i64 (0 : Int), .bool (false)]) fun m6 => (∃ (xr_2 : Int), rd m6 m.nx (0) = some (.int .i64 (xr_2)) ∧ (∃ (xr_3 : Int), rd m6 m.nx (1) = some (.int .i64 (xr_3)) ∧ (∃ (br_4 : Bool), rd m6 m.nx (2) = some (.bool (br_4)) ∧ (Q (.tuple #[.agg #[.int .i64 (xr_2), .int .i64 (xr_3), .bool (br_4)], .bool (false)]) m6))))))
  ((0 ≤ (x16) ∧ (x16) < ((n1 : Nat) : Int)) ∧ (vPtr a1 fun ba1 oa1 => (∃ (x23 : Int), rd m5 ba1 (oa1 + Int.toNat (x16) * 3) = some (.int .i64 (x23)) ∧ (∃ (x23_5 : Int), rd m5 ba1 (oa1 + Int.toNat (x16) * 3 + 1) = some (.int .i64 (x23_5)) ∧ (∃ (b23 : Bool), rd m5 ba1 (oa1 + Int.toNat (x16) * 3 + 2) = some (.bool (b23)) ∧ (okW m5 m.nx (0) 3 ∧ (mBind (wr m5 m.nx (0) [.int .i64 (x23), .int .i64 (x23_5), .bool (b23)]) fun m7 => (∃ (xr_6 : Int), rd m7 m.nx (0) = some (.int .i64 (xr_6)) ∧ (∃ (xr_7 : Int), rd m7 m.nx (1) = some (.int .i64 (xr_7)) ∧ (∃ (br_8 : Bool), rd m7 m.nx (2) = some (.bool (br_8)) ∧ (Q (.tuple #[.agg #[.int .i64 (xr_6), .int .i64 (xr_7), .bool (br_8)], .bool (true)]) m7))))))))))))))))))))
theorem F19_eq (x0 : Int) (a1 : Option Addr) (n1 c1 : Nat) (m : Mem) (Q : Value → Mem → Prop) : F19 x0 a1 n1 c1 m Q = vFn cx Try.f19 A19 [.int .i64 (x0), .slice a1 (n1) (c1)] m Q := by kernel_rfl
theorem F19_ok {x0 : Int} {a1 : Option Addr} {n1 c1 : Nat} {m : Mem} {Q : Value → Mem → Prop} (h : F19 x0 a1 n1 c1 m Q) : CallW cx 19 [.int .i64 (x0), .slice a1 (n1) (c1)] m Q :=
  CallW.of (by kernel_rfl) (by kernel_rfl) (Eq.mp (F19_eq x0 a1 n1 c1 m Q) h)

-- 20 beadle/beadleref10.Beats
noncomputable def A20 : Ann := [none, none, none, none, none, none, none, none, none, none, none, none, some ([9, 10], [(11, .int .i64)]), none, none, none, none, none, none]
def F20 (x0 : Int) (a1 : Option Addr) (n1 c1 : Nat) (x2 : Int) (x2_1 : Int) (b2 : Bool) (m : Mem) (Q : Value → Mem → Prop) : Prop :=
  (mBind (newO m (row [.int .i64 (x2), .int .i64 (x2_1), .bool (b2)] 41 false)) fun m1 => (mBind (bump m1 7) fun m2 => (∃ (a14 : Option Addr) (n14 c14 : Nat) (m3 : Mem), appendA cx (setFl (addO (m2) (m1.nx + 0) (row [] 41 false)) m1.nx) [39, 39] [.slice (some ⟨(m1.nx + 0), 0, none⟩) (0) (0), .slice a1 (n1) (c1)] = some (.slice a14 (n14) (c14), m3) ∧ (∃ (x15 : Int), rd m2 m.nx (0) = some (.int .i64 (x15)) ∧ (∃ (x15_2 : Int), rd m2 m.nx (1) = some (.int .i64 (x15_2)) ∧ (∃ (b15 : Bool), rd m2 m.nx (2) = some (.bool (b15)) ∧ (∃ (a17 : Option Addr) (n17 c17 : Nat) (m4 : Mem), appendA cx (addO ((setFl m3 m2.fl)) (m1.nx + 4) (row [.int .i64 (x15), .int .i64 (x15_2), .bool (b15)] 41 false)) [39, 39] [.slice a14 (n14) (c14), .slice (some ⟨(m1.nx + 4), 0, none⟩) (1) (1)] = some (.slice a17 (n17) (c17), m4) ∧ (mBind (m4) fun m5 => (CallW cx 23 [.int .i64 (x0), .slice a17 (n17) (c17)] m5 fun r20 m6 => (∃ (b20 : Bool), r20 = (.bool (b20)) ∧ (splitB (!(b20))
  (Q (.tuple #[.int .i64 (0 : Int), .bool (false)]) m6)
  (CallW cx 24 [.int .i64 (x0), .slice a17 (n17) (c17)] m6 fun r24 m7 => (∃ (a24 : Option Addr) (n24 c24 : Nat), r24 = (.slice a24 (n24) (c24)) ∧ (∃ (x27 : Int), rd m7 m.nx (0) = some (.int .i64 (x27)) ∧ (CallW cx 32 [.slice a24 (n24) (c24), .int .i64 (x27)] m7 fun r28 m8 => (∃ (b28 : Bool), r28 = (.bool (b28)) ∧ (splitB (!(b28))
  (Q (.tuple #[.int .i64 (0 : Int), .bool (false)]) m8)
  (CallW cx 24 [.int .i64 (x0), .slice a1 (n1) (c1)] m8 fun r32 m9 => (∃ (a32 : Option Addr) (n32 c32 : Nat), r32 = (.slice a32 (n32) (c32)) ∧ (∃ Inv : Int → Mem → Nat → Prop, (∃ n : Nat, Inv (0 : Int) m9 n) ∧
  (∀ (x11 : Int), ∀ (m10 : Mem) (n_3 : Nat), Inv (x11) m10 n_3 →
  (splitB (ltI (x11) (lenI (n32)))
  ((0 ≤ (x11) ∧ (x11) < ((n32 : Nat) : Int)) ∧ (vPtr a32 fun ba32 oa32 => (∃ (x43 : Int), rd m10 ba32 (oa32 + Int.toNat (x11) * 1) = some (.int .i64 (x43)) ∧ (CallW cx 32 [.slice a24 (n24) (c24), .int .i64 (x43)] m10 fun r44 m11 => (∃ (b44 : Bool), r44 = (.bool (b44)) ∧ (splitB (!(b44))
  ((0 ≤ (x11) ∧ (x11) < ((n32 : Nat) : Int)) ∧ (vPtr a32 fun ba32_4 oa32_5 => (∃ (x49 : Int), rd m11 ba32_4 (oa32_5 + Int.toNat (x11) * 1) = some (.int .i64 (x49)) ∧ (Q (.tuple #[.int .i64 (x49), .bool (true)]) m11))))
  (∃ n_6 : Nat, n_6 < n_3 ∧ Inv (addI .i64 (x11) (1 : Int)) m11 n_6)))))))
  (Q (.tuple #[.int .i64 (-1 : Int), .bool (true)]) m10)))))))))))))))))))))))
theorem F20_eq (x0 : Int) (a1 : Option Addr) (n1 c1 : Nat) (x2 : Int) (x2_1 : Int) (b2 : Bool) (m : Mem) (Q : Value → Mem → Prop) : F20 x0 a1 n1 c1 x2 x2_1 b2 m Q = vFn cx Try.f20 A20 [.int .i64 (x0), .slice a1 (n1) (c1), .agg #[.int .i64 (x2), .int .i64 (x2_1), .bool (b2)]] m Q := by kernel_rfl
theorem F20_ok {x0 : Int} {a1 : Option Addr} {n1 c1 : Nat} {x2 : Int} {x2_1 : Int} {b2 : Bool} {m : Mem} {Q : Value → Mem → Prop} (h : F20 x0 a1 n1 c1 x2 x2_1 b2 m Q) : CallW cx 20 [.int .i64 (x0), .slice a1 (n1) (c1), .agg #[.int .i64 (x2), .int .i64 (x2_1), .bool (b2)]] m Q :=
  CallW.of (by kernel_rfl) (by kernel_rfl) (Eq.mp (F20_eq x0 a1 n1 c1 x2 x2_1 b2 m Q) h)

-- 21 beadle/beadlelaw15.ent
noncomputable def A21 : Ann := [none, none]
def F21 (x0 : Int) (x0_1 : Int) (b0 : Bool) (m : Mem) (Q : Value → Mem → Prop) : Prop :=
  (mBind (newO m (row [.int .i64 (x0), .int .i64 (x0_1), .bool (b0)] 29 false)) fun m1 => (mBind (newO m1 (row [.int .i64 (0 : Int), .int .i64 (0 : Int), .bool (false)] 41 false)) fun m2 => (∃ (x4 : Int), rd m2 m.nx (0) = some (.int .i64 (x4)) ∧ (∃ (x6 : Int), rd m2 m.nx (1) = some (.int .i64 (x6)) ∧ (∃ (b8 : Bool), rd m2 m.nx (2) = some (.bool (b8)) ∧ (okW m2 m1.nx (0) 3 ∧ (mBind (wr m2 m1.nx (0) [.int .i64 (x4), .int .i64 (x6), .bool (b8)]) fun m3 => (∃ (xr : Int), rd m3 m1.nx (0) = some (.int .i64 (xr)) ∧ (∃ (xr_2 : Int), rd m3 m1.nx (1) = some (.int .i64 (xr_2)) ∧ (∃ (br : Bool), rd m3 m1.nx (2) = some (.bool (br)) ∧ (Q (.agg #[.int .i64 (xr), .int .i64 (xr_2), .bool (br)]) m3)))))))))))
theorem F21_eq (x0 : Int) (x0_1 : Int) (b0 : Bool) (m : Mem) (Q : Value → Mem → Prop) : F21 x0 x0_1 b0 m Q = vFn cx Try.f21 A21 [.agg #[.int .i64 (x0), .int .i64 (x0_1), .bool (b0)]] m Q := by kernel_rfl
theorem F21_ok {x0 : Int} {x0_1 : Int} {b0 : Bool} {m : Mem} {Q : Value → Mem → Prop} (h : F21 x0 x0_1 b0 m Q) : CallW cx 21 [.agg #[.int .i64 (x0), .int .i64 (x0_1), .bool (b0)]] m Q :=
  CallW.of (by kernel_rfl) (by kernel_rfl) (Eq.mp (F21_eq x0 x0_1 b0 m Q) h)

-- 22 beadle/beadleref10.EntLess
noncomputable def A22 : Ann := [none, none, none, none, none]
def F22 (x0 : Int) (x0_1 : Int) (b0 : Bool) (x1 : Int) (x1_2 : Int) (b1 : Bool) (m : Mem) (Q : Value → Mem → Prop) : Prop :=
  (mBind (newO m (row [.int .i64 (x0), .int .i64 (x0_1), .bool (b0)] 41 false)) fun m1 => (mBind (newO m1 (row [.int .i64 (x1), .int .i64 (x1_2), .bool (b1)] 41 false)) fun m2 => (∃ (x6 : Int), rd m2 m.nx (1) = some (.int .i64 (x6)) ∧ (∃ (x8 : Int), rd m2 m1.nx (1) = some (.int .i64 (x8)) ∧ (splitB (neI (x6) (x8))
  (∃ (x11 : Int), rd m2 m.nx (1) = some (.int .i64 (x11)) ∧ (∃ (x13 : Int), rd m2 m1.nx (1) = some (.int .i64 (x13)) ∧ (Q (.bool (ltI (x11) (x13))) m2)))
  (∃ (x16 : Int), rd m2 m.nx (0) = some (.int .i64 (x16)) ∧ (∃ (x18 : Int), rd m2 m1.nx (0) = some (.int .i64 (x18)) ∧ (Q (.bool (ltI (x16) (x18))) m2))))))))
theorem F22_eq (x0 : Int) (x0_1 : Int) (b0 : Bool) (x1 : Int) (x1_2 : Int) (b1 : Bool) (m : Mem) (Q : Value → Mem → Prop) : F22 x0 x0_1 b0 x1 x1_2 b1 m Q = vFn cx Try.f22 A22 [.agg #[.int .i64 (x0), .int .i64 (x0_1), .bool (b0)], .agg #[.int .i64 (x1), .int .i64 (x1_2), .bool (b1)]] m Q := by kernel_rfl
theorem F22_ok {x0 : Int} {x0_1 : Int} {b0 : Bool} {x1 : Int} {x1_2 : Int} {b1 : Bool} {m : Mem} {Q : Value → Mem → Prop} (h : F22 x0 x0_1 b0 x1 x1_2 b1 m Q) : CallW cx 22 [.agg #[.int .i64 (x0), .int .i64 (x0_1), .bool (b0)], .agg #[.int .i64 (x1), .int .i64 (x1_2), .bool (b1)]] m Q :=
  CallW.of (by kernel_rfl) (by kernel_rfl) (Eq.mp (F22_eq x0 x0_1 b0 x1 x1_2 b1 m Q) h)

-- 23 beadle/beadleref10.GoodEnts
noncomputable def A23 : Ann := [none, none, none, none, some ([0, 1], [(5, .int .i64), (6, .int .i64)]), none, none, none, some ([0, 1, 5, 6], []), none, none, some ([0, 1, 6], [(5, .int .i64)]), none, none, some ([0, 1, 5, 6], [(7, .int .i64)]), none, none, none, none, none, none]
def F23 (x0 : Int) (a1 : Option Addr) (n1 c1 : Nat) (m : Mem) (Q : Value → Mem → Prop) : Prop :=
  (∃ Inv : Int → Int → Mem → Nat → Prop, (∃ n : Nat, Inv (0 : Int) (0 : Int) m n) ∧
  (∀ (x5 : Int) (x6 : Int), ∀ (m1 : Mem) (n_1 : Nat), Inv (x5) (x6) m1 n_1 →
  (splitB (ltI (x6) (lenI (n1)))
  (joinK (fun  (m2 : Mem) => (joinK (fun (x5_3 : Int) (m3 : Mem) => (∃ Inv_4 : Int → Mem → Nat → Prop, (∃ n_5 : Nat, Inv_4 (0 : Int) m3 n_5) ∧
  (∀ (x7 : Int), ∀ (m4 : Mem) (n_6 : Nat), Inv_4 (x7) m4 n_6 →
  (splitB (ltI (x7) (x6))
  (mBind (bump m4 11) fun m5 => ((0 ≤ (x7) ∧ (x7) < ((n1 : Nat) : Int)) ∧ (vPtr a1 fun ba1 oa1 => (∃ (x44 : Int), rd m5 ba1 (oa1 + Int.toNat (x7) * 3) = some (.int .i64 (x44)) ∧ ((0 ≤ (x6) ∧ (x6) < ((n1 : Nat) : Int)) ∧ (vPtr a1 fun ba1_7 oa1_8 => (∃ (x49 : Int), rd m5 ba1_7 (oa1_8 + Int.toNat (x6) * 3) = some (.int .i64 (x49)) ∧ (splitB (eqI (x44) (x49))
  (Q (.bool (false)) m5)
  (∃ n_9 : Nat, n_9 < n_6 ∧ Inv_4 (addI .i64 (x7) (1 : Int)) m5 n_9)))))))))
  (∃ n_10 : Nat, n_10 < n_1 ∧ Inv (x5_3) (addI .i64 (x6) (1 : Int)) m4 n_10))))) fun J_2 =>
  ((0 ≤ (x6) ∧ (x6) < ((n1 : Nat) : Int)) ∧ (vPtr a1 fun ba1_11 oa1_12 => (∃ (b32 : Bool), rd m2 ba1_11 (oa1_12 + Int.toNat (x6) * 3 + 2) = some (.bool (b32)) ∧ (splitB (b32)
  (J_2 (addI .i64 (x5) (1 : Int)) m2)
  (J_2 (x5) m2))))))) fun J =>
  ((0 ≤ (x6) ∧ (x6) < ((n1 : Nat) : Int)) ∧ (vPtr a1 fun ba1_13 oa1_14 => (∃ (x18 : Int), rd m1 ba1_13 (oa1_14 + Int.toNat (x6) * 3) = some (.int .i64 (x18)) ∧ (splitB (ltI (x18) (0 : Int)) (Q (.bool (false)) m1) ((0 ≤ (x6) ∧ (x6) < ((n1 : Nat) : Int)) ∧ (vPtr a1 fun ba1_15 oa1_16 => (∃ (x25 : Int), rd m1 ba1_15 (oa1_16 + Int.toNat (x6) * 3) = some (.int .i64 (x25)) ∧ (splitB (ltI (1023 : Int) (x25))
  (Q (.bool (false)) m1)
  (J  m1))))))))))
  (splitB (leI (1 : Int) (x0)) (splitB (leI (x0) (64 : Int)) (splitB (leI (lenI (n1)) (64 : Int)) (Q (.bool (leI (x5) (x0))) m1) (Q (.bool (false)) m1)) (Q (.bool (false)) m1)) (Q (.bool (false)) m1)))))
theorem F23_eq (x0 : Int) (a1 : Option Addr) (n1 c1 : Nat) (m : Mem) (Q : Value → Mem → Prop) : F23 x0 a1 n1 c1 m Q = vFn cx Try.f23 A23 [.int .i64 (x0), .slice a1 (n1) (c1)] m Q := by kernel_rfl
theorem F23_ok {x0 : Int} {a1 : Option Addr} {n1 c1 : Nat} {m : Mem} {Q : Value → Mem → Prop} (h : F23 x0 a1 n1 c1 m Q) : CallW cx 23 [.int .i64 (x0), .slice a1 (n1) (c1)] m Q :=
  CallW.of (by kernel_rfl) (by kernel_rfl) (Eq.mp (F23_eq x0 a1 n1 c1 m Q) h)

-- 24 beadle/beadleref10.Pick
noncomputable def A24 : Ann := [none, none, none, none, none, some ([1, 5], [(6, .sl), (7, .int .i64)]), none, none, none, none, some ([1, 5, 7], [(6, .sl), (8, .int .i64)]), none, none, none, some ([1, 5, 6, 7, 8], [(34, .bool)]), none]
def F24 (x0 : Int) (a1 : Option Addr) (n1 c1 : Nat) (m : Mem) (Q : Value → Mem → Prop) : Prop :=
  (CallW cx 30 [.int .i64 (x0), .slice a1 (n1) (c1)] m fun r11 m1 => (∃ (a11 : Option Addr) (n11 c11 : Nat), r11 = (.slice a11 (n11) (c11)) ∧ (∃ Inv : Option Addr → Nat → Nat → Int → Mem → Nat → Prop, (∃ n : Nat, Inv none (0) (0) (0 : Int) m1 n) ∧
  (∀ (a6 : Option Addr) (n6 c6 : Nat) (x7 : Int), ∀ (m2 : Mem) (n_1 : Nat), Inv a6 (n6) (c6) (x7) m2 n_1 →
  (splitB (leI (x7) (1023 : Int))
  (∃ Inv_2 : Option Addr → Nat → Nat → Int → Mem → Nat → Prop, (∃ n_3 : Nat, Inv_2 a6 (n6) (c6) (0 : Int) m2 n_3) ∧
  (∀ (a6_4 : Option Addr) (n6_5 c6_6 : Nat) (x8 : Int), ∀ (m3 : Mem) (n_7 : Nat), Inv_2 a6_4 (n6_5) (c6_6) (x8) m3 n_7 →
  (splitB (ltI (x8) (lenI (n1)))
  (joinK (fun (b34 : Bool) (m4 : Mem) => (splitB (b34)
  (mBind (newO m4 (row [.int .i64 (x7)] 3 false)) fun m5 => (∃ (a38 : Option Addr) (n38 c38 : Nat) (m6 : Mem), appendA cx m5 [25, 25] [.slice a6_4 (n6_5) (c6_6), .slice (some ⟨m4.nx, 0, none⟩) (1) (1)] = some (.slice a38 (n38) (c38), m6) ∧ (∃ n_8 : Nat, n_8 < n_7 ∧ Inv_2 a38 (n38) (c38) (addI .i64 (x8) (1 : Int)) m6 n_8)))
  (∃ n_9 : Nat, n_9 < n_7 ∧ Inv_2 a6_4 (n6_5) (c6_6) (addI .i64 (x8) (1 : Int)) m4 n_9))) fun J =>
  ((0 ≤ (x8) ∧ (x8) < ((n11 : Nat) : Int)) ∧ (vPtr a11 fun ba11 oa11 => (∃ (b25 : Bool), rd m3 ba11 (oa11 + Int.toNat (x8) * 1) = some (.bool (b25)) ∧ (splitB (b25) ((0 ≤ (x8) ∧ (x8) < ((n1 : Nat) : Int)) ∧ (vPtr a1 fun ba1 oa1 => (∃ (x31 : Int), rd m3 ba1 (oa1 + Int.toNat (x8) * 3) = some (.int .i64 (x31)) ∧ (J (eqI (x31) (x7)) m3)))) (J (false) m3))))))
  (∃ n_10 : Nat, n_10 < n_1 ∧ Inv a6_4 (n6_5) (c6_6) (addI .i64 (x7) (1 : Int)) m3 n_10))))
  (Q (.slice a6 (n6) (c6)) m2))))))
theorem F24_eq (x0 : Int) (a1 : Option Addr) (n1 c1 : Nat) (m : Mem) (Q : Value → Mem → Prop) : F24 x0 a1 n1 c1 m Q = vFn cx Try.f24 A24 [.int .i64 (x0), .slice a1 (n1) (c1)] m Q := by kernel_rfl
theorem F24_ok {x0 : Int} {a1 : Option Addr} {n1 c1 : Nat} {m : Mem} {Q : Value → Mem → Prop} (h : F24 x0 a1 n1 c1 m Q) : CallW cx 24 [.int .i64 (x0), .slice a1 (n1) (c1)] m Q :=
  CallW.of (by kernel_rfl) (by kernel_rfl) (Eq.mp (F24_eq x0 a1 n1 c1 m Q) h)

-- 30 beadle/beadleref10.picked
noncomputable def A30 : Ann := [none, none, none, none, some ([0, 1, 5], [(6, .int .i64)]), some ([0, 1, 5, 6], []), none, none, none, none, none, none]
def F30 (x0 : Int) (a1 : Option Addr) (n1 c1 : Nat) (m : Mem) (Q : Value → Mem → Prop) : Prop :=
  ((0 ≤ lenI (n1) ∧ lenI (n1) ≤ lenI (n1) ∧ lenI (n1) ≤ 1073741824 ∧ 1 * Int.toNat (lenI (n1)) ≤ 140737488355328) ∧ (mBind (newO m (row (repL [.bool (false)] (Int.toNat (lenI (n1)))) 4 false)) fun m1 => (∃ Inv : Int → Mem → Nat → Prop, (∃ n : Nat, Inv (0 : Int) m1 n) ∧
  (∀ (x6 : Int), ∀ (m2 : Mem) (n_1 : Nat), Inv (x6) m2 n_1 →
  (joinK (fun  (m3 : Mem) => (CallW cx 31 [.slice a1 (n1) (c1), .slice (some ⟨m.nx, 0, none⟩) (Int.toNat (lenI (n1))) (Int.toNat (lenI (n1)))] m3 fun r23 m4 => (∃ (x23 : Int), r23 = (.int .i64 (x23)) ∧ (splitB (ltI (x23) (0 : Int))
  (Q (.slice (some ⟨m.nx, 0, none⟩) (Int.toNat (lenI (n1))) (Int.toNat (lenI (n1)))) m4)
  ((0 ≤ (x23) ∧ (x23) < ((Int.toNat (lenI (n1)) : Nat) : Int)) ∧ (okW m4 m.nx (0 + Int.toNat (x23) * 1) 1 ∧ (mBind (wr m4 m.nx (0 + Int.toNat (x23) * 1) [.bool (true)]) fun m5 => (∃ n_2 : Nat, n_2 < n_1 ∧ Inv (addI .i64 (x6) (1 : Int)) m5 n_2)))))))) fun J =>
  (splitB (ltI (x6) (x0)) (CallW cx 23 [.int .i64 (x0), .slice a1 (n1) (c1)] m2 fun r17 m6 => (∃ (b17 : Bool), r17 = (.bool (b17)) ∧ (splitB (b17)
  (J  m6)
  (Q (.slice (some ⟨m.nx, 0, none⟩) (Int.toNat (lenI (n1))) (Int.toNat (lenI (n1)))) m6)))) (Q (.slice (some ⟨m.nx, 0, none⟩) (Int.toNat (lenI (n1))) (Int.toNat (lenI (n1)))) m2)))))))
theorem F30_eq (x0 : Int) (a1 : Option Addr) (n1 c1 : Nat) (m : Mem) (Q : Value → Mem → Prop) : F30 x0 a1 n1 c1 m Q = vFn cx Try.f30 A30 [.int .i64 (x0), .slice a1 (n1) (c1)] m Q := by kernel_rfl
theorem F30_ok {x0 : Int} {a1 : Option Addr} {n1 c1 : Nat} {m : Mem} {Q : Value → Mem → Prop} (h : F30 x0 a1 n1 c1 m Q) : CallW cx 30 [.int .i64 (x0), .slice a1 (n1) (c1)] m Q :=
  CallW.of (by kernel_rfl) (by kernel_rfl) (Eq.mp (F30_eq x0 a1 n1 c1 m Q) h)

-- 31 beadle/beadleref10.ahead
noncomputable def A31 : Ann := [none, none, none, none, some ([0, 1], [(5, .int .i64), (6, .int .i64)]), none, none, none, none, none, none, none]
def F31 (a0 : Option Addr) (n0 c0 : Nat) (a1 : Option Addr) (n1 c1 : Nat) (m : Mem) (Q : Value → Mem → Prop) : Prop :=
  (∃ Inv : Int → Int → Mem → Nat → Prop, (∃ n : Nat, Inv (-1 : Int) (0 : Int) m n) ∧
  (∀ (x5 : Int) (x6 : Int), ∀ (m1 : Mem) (n_1 : Nat), Inv (x5) (x6) m1 n_1 →
  (splitB (ltI (x6) (lenI (n0)))
  ((0 ≤ (x6) ∧ (x6) < ((n1 : Nat) : Int)) ∧ (vPtr a1 fun ba1 oa1 => (∃ (b16 : Bool), rd m1 ba1 (oa1 + Int.toNat (x6) * 1) = some (.bool (b16)) ∧ (splitB (b16)
  (∃ n_2 : Nat, n_2 < n_1 ∧ Inv (x5) (addI .i64 (x6) (1 : Int)) m1 n_2)
  (mBind (bump m1 41) fun m2 => (splitB (ltI (x5) (0 : Int)) (∃ n_3 : Nat, n_3 < n_1 ∧ Inv (x6) (addI .i64 (x6) (1 : Int)) m2 n_3) ((0 ≤ (x6) ∧ (x6) < ((n0 : Nat) : Int)) ∧ (vPtr a0 fun ba0 oa0 => (∃ (b24 : Bool), rd m2 ba0 (oa0 + Int.toNat (x6) * 3 + 2) = some (.bool (b24)) ∧ (splitB (b24) ((0 ≤ (x5) ∧ (x5) < ((n0 : Nat) : Int)) ∧ (vPtr a0 fun ba0_4 oa0_5 => (∃ (b30 : Bool), rd m2 ba0_4 (oa0_5 + Int.toNat (x5) * 3 + 2) = some (.bool (b30)) ∧ (splitB (!(b30)) (∃ n_6 : Nat, n_6 < n_1 ∧ Inv (x6) (addI .i64 (x6) (1 : Int)) m2 n_6) ((0 ≤ (x6) ∧ (x6) < ((n0 : Nat) : Int)) ∧ (vPtr a0 fun ba0_7 oa0_8 => (∃ (b39 : Bool), rd m2 ba0_7 (oa0_8 + Int.toNat (x6) * 3 + 2) = some (.bool (b39)) ∧ ((0 ≤ (x5) ∧ (x5) < ((n0 : Nat) : Int)) ∧ (vPtr a0 fun ba0_9 oa0_10 => (∃ (b44 : Bool), rd m2 ba0_9 (oa0_10 + Int.toNat (x5) * 3 + 2) = some (.bool (b44)) ∧ (splitB ((b39) == (b44)) ((0 ≤ (x6) ∧ (x6) < ((n0 : Nat) : Int)) ∧ (vPtr a0 fun ba0_11 oa0_12 => (∃ (x50 : Int), rd m2 ba0_11 (oa0_12 + Int.toNat (x6) * 3) = some (.int .i64 (x50)) ∧ (∃ (x50_13 : Int), rd m2 ba0_11 (oa0_12 + Int.toNat (x6) * 3 + 1) = some (.int .i64 (x50_13)) ∧ (∃ (b50 : Bool), rd m2 ba0_11 (oa0_12 + Int.toNat (x6) * 3 + 2) = some (.bool (b50)) ∧ ((0 ≤ (x5) ∧ (x5) < ((n0 : Nat) : Int)) ∧ (vPtr a0 fun ba0_14 oa0_15 => (∃ (x54 : Int), rd m2 ba0_14 (oa0_15 + Int.toNat (x5) * 3) = some (.int .i64 (x54)) ∧ (∃ (x54_16 : Int), rd m2 ba0_14 (oa0_15 + Int.toNat (x5) * 3 + 1) = some (.int .i64 (x54_16)) ∧ (∃ (b54 : Bool), rd m2 ba0_14 (oa0_15 + Int.toNat (x5) * 3 + 2) = some (.bool (b54)) ∧ (CallW cx 22 [.agg #[.int .i64 (x50), .int .i64 (x50_13), .bool (b50)], .agg #[.int .i64 (x54), .int .i64 (x54_16), .bool (b54)]] m2 fun r55 m3 => (∃ (b55 : Bool), r55 = (.bool (b55)) ∧ (splitB (b55)
  (∃ n_17 : Nat, n_17 < n_1 ∧ Inv (x6) (addI .i64 (x6) (1 : Int)) m3 n_17)
  (∃ n_18 : Nat, n_18 < n_1 ∧ Inv (x5) (addI .i64 (x6) (1 : Int)) m3 n_18)))))))))))))) (∃ n_19 : Nat, n_19 < n_1 ∧ Inv (x5) (addI .i64 (x6) (1 : Int)) m2 n_19)))))))))))) ((0 ≤ (x6) ∧ (x6) < ((n0 : Nat) : Int)) ∧ (vPtr a0 fun ba0_20 oa0_21 => (∃ (b39_22 : Bool), rd m2 ba0_20 (oa0_21 + Int.toNat (x6) * 3 + 2) = some (.bool (b39_22)) ∧ ((0 ≤ (x5) ∧ (x5) < ((n0 : Nat) : Int)) ∧ (vPtr a0 fun ba0_23 oa0_24 => (∃ (b44_25 : Bool), rd m2 ba0_23 (oa0_24 + Int.toNat (x5) * 3 + 2) = some (.bool (b44_25)) ∧ (splitB ((b39_22) == (b44_25)) ((0 ≤ (x6) ∧ (x6) < ((n0 : Nat) : Int)) ∧ (vPtr a0 fun ba0_26 oa0_27 => (∃ (x50_28 : Int), rd m2 ba0_26 (oa0_27 + Int.toNat (x6) * 3) = some (.int .i64 (x50_28)) ∧ (∃ (x50_29 : Int), rd m2 ba0_26 (oa0_27 + Int.toNat (x6) * 3 + 1) = some (.int .i64 (x50_29)) ∧ (∃ (b50_30 : Bool), rd m2 ba0_26 (oa0_27 + Int.toNat (x6) * 3 + 2) = some (.bool (b50_30)) ∧ ((0 ≤ (x5) ∧ (x5) < ((n0 : Nat) : Int)) ∧ (vPtr a0 fun ba0_31 oa0_32 => (∃ (x54_33 : Int), rd m2 ba0_31 (oa0_32 + Int.toNat (x5) * 3) = some (.int .i64 (x54_33)) ∧ (∃ (x54_34 : Int), rd m2 ba0_31 (oa0_32 + Int.toNat (x5) * 3 + 1) = some (.int .i64 (x54_34)) ∧ (∃ (b54_35 : Bool), rd m2 ba0_31 (oa0_32 + Int.toNat (x5) * 3 + 2) = some (.bool (b54_35)) ∧ (CallW cx 22 [.agg #[.int .i64 (x50_28), .int .i64 (x50_29), .bool (b50_30)], .agg #[.int .i64 (x54_33), .int .i64 (x54_34), .bool (b54_35)]] m2 fun r55_36 m4 => (∃ (b55_37 : Bool), r55_36 = (.bool (b55_37)) ∧ (splitB (b55_37)
  (∃ n_38 : Nat, n_38 < n_1 ∧ Inv (x6) (addI .i64 (x6) (1 : Int)) m4 n_38)
  (∃ n_39 : Nat, n_39 < n_1 ∧ Inv (x5) (addI .i64 (x6) (1 : Int)) m4 n_39)))))))))))))) (∃ n_40 : Nat, n_40 < n_1 ∧ Inv (x5) (addI .i64 (x6) (1 : Int)) m2 n_40))))))))))))))))))
  (Q (.int .i64 (x5)) m1))))
theorem F31_eq (a0 : Option Addr) (n0 c0 : Nat) (a1 : Option Addr) (n1 c1 : Nat) (m : Mem) (Q : Value → Mem → Prop) : F31 a0 n0 c0 a1 n1 c1 m Q = vFn cx Try.f31 A31 [.slice a0 (n0) (c0), .slice a1 (n1) (c1)] m Q := by kernel_rfl
theorem F31_ok {a0 : Option Addr} {n0 c0 : Nat} {a1 : Option Addr} {n1 c1 : Nat} {m : Mem} {Q : Value → Mem → Prop} (h : F31 a0 n0 c0 a1 n1 c1 m Q) : CallW cx 31 [.slice a0 (n0) (c0), .slice a1 (n1) (c1)] m Q :=
  CallW.of (by kernel_rfl) (by kernel_rfl) (Eq.mp (F31_eq a0 n0 c0 a1 n1 c1 m Q) h)

-- 32 beadle/beadleref10.in
noncomputable def A32 : Ann := [none, none, none, some ([0, 1], [(5, .int .i64)]), none, none, none, none, none, none]
def F32 (a0 : Option Addr) (n0 c0 : Nat) (x1 : Int) (m : Mem) (Q : Value → Mem → Prop) : Prop :=
  (∃ Inv : Int → Mem → Nat → Prop, (∃ n : Nat, Inv (0 : Int) m n) ∧
  (∀ (x5 : Int), ∀ (m1 : Mem) (n_1 : Nat), Inv (x5) m1 n_1 →
  (splitB (ltI (x5) (lenI (n0)))
  ((0 ≤ (x5) ∧ (x5) < ((n0 : Nat) : Int)) ∧ (vPtr a0 fun ba0 oa0 => (∃ (x15 : Int), rd m1 ba0 (oa0 + Int.toNat (x5) * 1) = some (.int .i64 (x15)) ∧ (splitB (eqI (x15) (x1))
  (Q (.bool (true)) m1)
  (∃ n_2 : Nat, n_2 < n_1 ∧ Inv (addI .i64 (x5) (1 : Int)) m1 n_2)))))
  (Q (.bool (false)) m1))))
theorem F32_eq (a0 : Option Addr) (n0 c0 : Nat) (x1 : Int) (m : Mem) (Q : Value → Mem → Prop) : F32 a0 n0 c0 x1 m Q = vFn cx Try.f32 A32 [.slice a0 (n0) (c0), .int .i64 (x1)] m Q := by kernel_rfl
theorem F32_ok {a0 : Option Addr} {n0 c0 : Nat} {x1 : Int} {m : Mem} {Q : Value → Mem → Prop} (h : F32 a0 n0 c0 x1 m Q) : CallW cx 32 [.slice a0 (n0) (c0), .int .i64 (x1)] m Q :=
  CallW.of (by kernel_rfl) (by kernel_rfl) (Eq.mp (F32_eq a0 n0 c0 x1 m Q) h)

end
end Go.Proofs.Ytmjpkannhbaklaa.vc
