/-
  Package mask: what its functions do, on the numbers below 2^64.
-/
import Derived.Test.YtlenjadchmlliaaDoorVc
import Derived.Test.YtlenjadchmlliaaDoorAxBits
import Derived.Test.YtlenjadchmlliaaDoorAxHeap
namespace Go.Proofs.YtlenjadchmlliaaDoor.vc
open Go Go.AX
set_option linter.unusedVariables false
set_option linter.unusedSimpArgs false

/-- the bit of a number, none outside 0..63 -/
def bitW (i : Int) : Nat := if 0 ≤ i ∧ i < 64 then 2 ^ i.toNat else 0
def hasB (x : Nat) (i : Int) : Bool := decide (0 ≤ i) && decide (i < 64) && x.testBit i.toNat
def clampW (i : Int) : Nat := (min (max i 0) 64).toNat

theorem bitW_lt (i : Int) : bitW i < 18446744073709551616 := by
  unfold bitW
  split
  · rename_i h
    exact (Nat.pow_lt_pow_right (by omega) (by omega : i.toNat < 64) : 2 ^ i.toNat < 2 ^ 64)
  · omega

theorem bit_ok {i : Int} {m : Mem} {Q : Value → Mem → Prop} (h : Q (.int .u64 (bitW i : Nat)) m) : CallW cx 26 [.int .i64 i] m Q := by
  apply F26_ok
  unfold F26
  simp only [splitB_iff, ltI_true, ltI_false, leI_true, leI_false]
  refine ⟨fun h1 => ?_, fun h1 => ⟨fun h2 => ?_, fun h2 => ⟨h1, ?_⟩⟩⟩
  · unfold bitW at h; rw [if_neg (by omega)] at h; exact h
  · unfold bitW at h; rw [if_neg (by omega)] at h; exact h
  · unfold bitW at h; rw [if_pos (by omega)] at h
    obtain ⟨k, rfl⟩ := Int.eq_ofNat_of_zero_le h1
    rw [shl1 (by omega)]
    exact h

theorem below_num : ∀ k : Fin 65, subI .u64 (shlI .u64 1 (k.val : Int)) 1 = ((2 ^ k.val - 1 : Nat) : Int) := by decide

theorem below_ok {i : Int} {m : Mem} {Q : Value → Mem → Prop} (h : Q (.int .u64 (2 ^ clampW i - 1 : Nat)) m) : CallW cx 28 [.int .i64 i] m Q := by
  apply F28_ok
  unfold F28
  have e : mnI (mxI i 0) 64 = ((clampW i : Nat) : Int) := by
    unfold clampW mnI mxI
    repeat' split
    all_goals omega
  have hl : clampW i < 65 := by unfold clampW; omega
  rw [e, below_num ⟨clampW i, hl⟩]
  exact ⟨by omega, h⟩

theorem testBit_bitW (i : Int) (j : Nat) : (bitW i).testBit j = decide ((j : Int) = i ∧ j < 64) := by
  unfold bitW
  split
  · rename_i h
    rw [Nat.testBit_two_pow]
    apply decide_eq_decide.2
    omega
  · rename_i h
    rw [Nat.zero_testBit]
    symm
    apply decide_eq_false
    omega

theorem hasB_iff {x : Nat} {i : Int} : hasB x i = true ↔ 0 ≤ i ∧ i < 64 ∧ x.testBit i.toNat = true := by
  unfold hasB; simp [and_assoc]

theorem with_ok {x : Nat} {i : Int} {m : Mem} {Q : Value → Mem → Prop} (hx : x < 18446744073709551616) (h : Q (.int .u64 (x ||| bitW i : Nat)) m) : CallW cx 9 [.int .u64 x, .int .i64 i] m Q := by
  apply F9_ok
  unfold F9
  apply bit_ok
  exact ⟨_, rfl, by rw [orI_u64 hx (bitW_lt i)]; exact h⟩

theorem without_ok {x : Nat} {i : Int} {m : Mem} {Q : Value → Mem → Prop} (hx : x < 18446744073709551616) (h : Q (.int .u64 (x &&& (18446744073709551615 - bitW i) : Nat)) m) : CallW cx 10 [.int .u64 x, .int .i64 i] m Q := by
  apply F10_ok
  unfold F10
  apply bit_ok
  exact ⟨_, rfl, by rw [andNotI_u64 hx (bitW_lt i)]; exact h⟩

theorem and_bitW (x : Nat) (i : Int) : (x &&& bitW i) = if hasB x i then bitW i else 0 := by
  apply Nat.eq_of_testBit_eq
  intro j
  rw [Nat.testBit_and, testBit_bitW]
  split
  · rename_i h
    rw [hasB_iff] at h
    rw [testBit_bitW]
    by_cases hj : (j : Int) = i ∧ j < 64
    · have : j = i.toNat := by omega
      subst this
      simp [h]
    · simp [hj]
  · rename_i h
    rw [hasB_iff] at h
    rw [Nat.zero_testBit]
    by_cases hj : (j : Int) = i ∧ j < 64
    · have e : j = i.toNat := by omega
      subst e
      have : x.testBit i.toNat = false := by
        cases hb : x.testBit i.toNat with
        | false => rfl
        | true => exact absurd ⟨by omega, by omega, hb⟩ h
      simp [this]
    · simp [hj]

theorem bitW_pos {i : Int} (h : 0 ≤ i ∧ i < 64) : 0 < bitW i := by
  unfold bitW; rw [if_pos h]; exact Nat.two_pow_pos _

theorem has_ok {x : Nat} {i : Int} {m : Mem} {Q : Value → Mem → Prop} (hx : x < 18446744073709551616) (h : Q (.bool (hasB x i)) m) : CallW cx 11 [.int .u64 x, .int .i64 i] m Q := by
  apply F11_ok
  unfold F11
  apply bit_ok
  refine ⟨_, rfl, ?_⟩
  rw [andI_u64 hx (bitW_lt i), and_bitW]
  cases hb : hasB x i with
  | true =>
    have := bitW_pos (i := i) (by rw [hasB_iff] at hb; exact ⟨hb.1, hb.2.1⟩)
    rw [if_pos rfl]
    have e : neI ((bitW i : Nat) : Int) 0 = true := by rw [neI_true]; omega
    rw [e, ← hb]; exact h
  | false =>
    have e : neI (((if false = true then bitW i else 0 : Nat) : Nat) : Int) 0 = false := by rw [neI_false]; rfl
    rw [e, ← hb]; exact h

theorem ones_ok {x : Nat} {m : Mem} {Q : Value → Mem → Prop} (hx : x < 18446744073709551616) (h : Q (.int .i64 (pop 64 x : Nat)) m) : CallW cx 27 [.int .u64 x] m Q := by
  apply F27_ok
  unfold F27
  refine ⟨by decide, by decide, by decide, by decide, by decide, by decide, ?_⟩
  have e : Q (.int .i64 (restS (fourS (twoS (oneS x))))) m := by rw [ones_eq hx]; exact h
  exact e

theorem len_ok {x : Nat} {m : Mem} {Q : Value → Mem → Prop} (hx : x < 18446744073709551616) (h : Q (.int .i64 (pop 64 x : Nat)) m) : CallW cx 12 [.int .u64 x] m Q := by
  apply F12_ok
  unfold F12
  apply ones_ok hx
  exact ⟨_, rfl, h⟩

end Go.Proofs.YtlenjadchmlliaaDoor.vc
