/-
  OWN WORK. UNSIGNED WORDS OF 64 BITS AS NUMBERS; HOW MANY BITS ARE SET, BY ADDING FIELDS.
-/
import Derived.Test.YtlenjadchmlliaaDoorAxVc
namespace Go.AX

/-! ## operators at numbers below 2^64 -/

theorem wrap_u64 {n : Nat} (h : n < 18446744073709551616) : IntKind.wrap .u64 (n : Int) = n := by
  unfold IntKind.wrap
  simp only [IntKind.bits, IntKind.signed, Bool.false_and, Bool.false_eq_true, if_false]
  omega

theorem ofInt_toNat {n : Nat} (h : n < 18446744073709551616) : (BitVec.ofInt 64 (n : Int)).toNat = n := by
  rw [BitVec.ofInt_natCast, BitVec.toNat_ofNat]
  exact Nat.mod_eq_of_lt h

theorem andI_u64 {x y : Nat} (hx : x < 18446744073709551616) (hy : y < 18446744073709551616) : andI .u64 x y = ((x &&& y : Nat) : Int) := by
  show IntKind.wrap .u64 ((BitVec.ofInt 64 (x : Int) &&& BitVec.ofInt 64 (y : Int)).toNat : Int) = _
  rw [BitVec.toNat_and, ofInt_toNat hx, ofInt_toNat hy]
  exact wrap_u64 (Nat.lt_of_le_of_lt Nat.and_le_left hx)

theorem orI_u64 {x y : Nat} (hx : x < 18446744073709551616) (hy : y < 18446744073709551616) : orI .u64 x y = ((x ||| y : Nat) : Int) := by
  show IntKind.wrap .u64 ((BitVec.ofInt 64 (x : Int) ||| BitVec.ofInt 64 (y : Int)).toNat : Int) = _
  rw [BitVec.toNat_or, ofInt_toNat hx, ofInt_toNat hy]
  exact wrap_u64 (Nat.or_lt_two_pow (n := 64) hx hy)

theorem andNotI_u64 {x y : Nat} (hx : x < 18446744073709551616) (hy : y < 18446744073709551616) : andNotI .u64 x y = ((x &&& (18446744073709551615 - y) : Nat) : Int) := by
  show IntKind.wrap .u64 ((BitVec.ofInt 64 (x : Int) &&& ~~~ BitVec.ofInt 64 (y : Int)).toNat : Int) = _
  rw [BitVec.toNat_and, BitVec.toNat_not, ofInt_toNat hx, ofInt_toNat hy]
  exact wrap_u64 (Nat.lt_of_le_of_lt Nat.and_le_left hx)

theorem addI_u64 {x y : Nat} (h : x + y < 18446744073709551616) : addI .u64 x y = ((x + y : Nat) : Int) := by
  unfold addI wrapI fitsI
  have h1 : IntKind.min .u64 = 0 := by decide
  have h2 : IntKind.max .u64 = 18446744073709551615 := by decide
  rw [h1, h2]
  have : (decide ((0 : Int) ≤ (x : Int) + y) && decide ((x : Int) + y ≤ 18446744073709551615)) = true := by
    simp; omega
  rw [this]
  show (x : Int) + y = _
  omega

theorem shrI_u64 {x k : Nat} (hk : k ≤ 64) : shrI .u64 x k = ((x / 2 ^ k : Nat) : Int) := by
  unfold shrI
  have : min (k : Int).toNat (IntKind.bits .u64) = k := by simp [IntKind.bits]; omega
  rw [this, Int.fdiv_eq_ediv_of_nonneg _ (Int.le_of_lt (Int.pow_pos (by decide)))]
  simp

theorem shl1 {i : Nat} (h : i < 64) : shlI .u64 1 i = ((2 ^ i : Nat) : Int) := by
  unfold shlI
  have : min (i : Int).toNat (IntKind.bits .u64) = i := by simp [IntKind.bits]; omega
  rw [this, Int.one_mul]
  have h2 : (2 : Nat) ^ i < 18446744073709551616 := Nat.pow_lt_pow_right (by decide : 1 < 2) h
  have := wrap_u64 h2
  simpa using this

theorem shl1_64 : shlI .u64 1 64 = 0 := by decide

/-! ## fields -/

theorem and_digits {k a c x y : Nat} (ha : a < 2 ^ k) (hc : c < 2 ^ k) : (a + 2 ^ k * x) &&& (c + 2 ^ k * y) = (a &&& c) + 2 ^ k * (x &&& y) := by
  have h3 : (a &&& c) < 2 ^ k := Nat.and_lt_two_pow _ hc
  apply Nat.eq_of_testBit_eq
  intro i
  rw [Nat.testBit_and, Nat.add_comm a, Nat.add_comm c, Nat.add_comm (a &&& c), Nat.testBit_two_pow_mul_add _ ha, Nat.testBit_two_pow_mul_add _ hc, Nat.testBit_two_pow_mul_add _ h3]
  split
  · rw [Nat.testBit_and]
  · rw [Nat.testBit_and]

/-- the mask of the low halves of n fields of 2w bits -/
def fmask (w : Nat) : Nat → Nat
  | 0 => 0
  | n + 1 => (2 ^ w - 1) + 2 ^ (2 * w) * fmask w n

/-- the halves of each field added -/
def fadd (w n y : Nat) : Nat := (y / 2 ^ w &&& fmask w n) + (y &&& fmask w n)

theorem pow2w (w : Nat) : 2 ^ (2 * w) = 2 ^ w * 2 ^ w := by rw [Nat.two_mul, Nat.pow_add]

theorem low_and (w v : Nat) : (v % 2 ^ (2 * w)) &&& (2 ^ w - 1) = v % 2 ^ w := by
  rw [Nat.and_two_pow_sub_one_eq_mod, pow2w]
  exact Nat.mod_mul_right_mod v (2 ^ w) (2 ^ w)

theorem mask_step (w n v : Nat) : v &&& fmask w (n + 1) = v % 2 ^ w + 2 ^ (2 * w) * (v / 2 ^ (2 * w) &&& fmask w n) := by
  have hp : 0 < 2 ^ (2 * w) := Nat.two_pow_pos _
  have h1 : 2 ^ w - 1 < 2 ^ (2 * w) := by
    rw [pow2w]
    have := Nat.two_pow_pos w
    have : 2 ^ w * 1 ≤ 2 ^ w * 2 ^ w := Nat.mul_le_mul_left _ this
    omega
  have h2 : v = v % 2 ^ (2 * w) + 2 ^ (2 * w) * (v / 2 ^ (2 * w)) := (Nat.mod_add_div v _).symm
  calc v &&& fmask w (n + 1) = (v % 2 ^ (2 * w) + 2 ^ (2 * w) * (v / 2 ^ (2 * w))) &&& ((2 ^ w - 1) + 2 ^ (2 * w) * fmask w n) := by rw [← h2]; rfl
    _ = ((v % 2 ^ (2 * w)) &&& (2 ^ w - 1)) + 2 ^ (2 * w) * (v / 2 ^ (2 * w) &&& fmask w n) := and_digits (Nat.mod_lt _ hp) h1
    _ = _ := by rw [low_and]

theorem fadd_step (w n y : Nat) : fadd w (n + 1) y = (y / 2 ^ w % 2 ^ w + y % 2 ^ w) + 2 ^ (2 * w) * fadd w n (y / 2 ^ (2 * w)) := by
  unfold fadd
  rw [mask_step, mask_step, Nat.div_div_eq_div_mul, Nat.mul_comm (2 ^ w) (2 ^ (2 * w)), ← Nat.div_div_eq_div_mul, Nat.mul_add]
  omega

/-- the sum of n digits -/
def dsum (c : Nat) : Nat → Nat → Nat
  | 0, _ => 0
  | n + 1, y => y % c + dsum c n (y / c)

def dle (c k : Nat) : Nat → Nat → Prop
  | 0, _ => True
  | n + 1, y => y % c ≤ k ∧ dle c k n (y / c)

theorem two_le {w : Nat} (hw : 0 < w) : 2 ≤ 2 ^ w := by
  have : 2 ^ 1 ≤ 2 ^ w := Nat.pow_le_pow_right (by omega) hw
  omega

theorem field_lt {w a b : Nat} (hw : 0 < w) (ha : a < 2 ^ w) (hb : b < 2 ^ w) : a + b < 2 ^ (2 * w) := by
  rw [pow2w]
  have h2 := two_le hw
  have : 2 * 2 ^ w ≤ 2 ^ w * 2 ^ w := Nat.mul_le_mul_right _ h2
  omega

theorem fadd_mod {w n y : Nat} (hw : 0 < w) : fadd w (n + 1) y % 2 ^ (2 * w) = y / 2 ^ w % 2 ^ w + y % 2 ^ w := by
  rw [fadd_step, Nat.add_mul_mod_self_left]
  exact Nat.mod_eq_of_lt (field_lt hw (Nat.mod_lt _ (Nat.two_pow_pos _)) (Nat.mod_lt _ (Nat.two_pow_pos _)))

theorem fadd_div {w n y : Nat} (hw : 0 < w) : fadd w (n + 1) y / 2 ^ (2 * w) = fadd w n (y / 2 ^ (2 * w)) := by
  rw [fadd_step, Nat.add_mul_div_left _ _ (Nat.two_pow_pos _), Nat.div_eq_of_lt (field_lt hw (Nat.mod_lt _ (Nat.two_pow_pos _)) (Nat.mod_lt _ (Nat.two_pow_pos _))), Nat.zero_add]

theorem dsum_fadd {w : Nat} (hw : 0 < w) : ∀ n y, dsum (2 ^ (2 * w)) n (fadd w n y) = dsum (2 ^ w) (2 * n) y
  | 0, y => rfl
  | n + 1, y => by
    show fadd w (n + 1) y % 2 ^ (2 * w) + dsum (2 ^ (2 * w)) n (fadd w (n + 1) y / 2 ^ (2 * w)) = _
    rw [fadd_mod hw, fadd_div hw, dsum_fadd hw n]
    show _ = y % 2 ^ w + (y / 2 ^ w % 2 ^ w + dsum (2 ^ w) (2 * n) (y / 2 ^ w / 2 ^ w))
    rw [Nat.div_div_eq_div_mul, ← pow2w]
    omega

theorem dle_fadd {w k : Nat} (hw : 0 < w) : ∀ n y, dle (2 ^ w) k (2 * n) y → dle (2 ^ (2 * w)) (2 * k) n (fadd w n y)
  | 0, y, _ => trivial
  | n + 1, y, h => by
    obtain ⟨h1, h2, h3⟩ : y % 2 ^ w ≤ k ∧ y / 2 ^ w % 2 ^ w ≤ k ∧ dle (2 ^ w) k (2 * n) (y / 2 ^ w / 2 ^ w) := h
    show fadd w (n + 1) y % 2 ^ (2 * w) ≤ 2 * k ∧ dle (2 ^ (2 * w)) (2 * k) n (fadd w (n + 1) y / 2 ^ (2 * w))
    rw [fadd_mod hw, fadd_div hw]
    rw [Nat.div_div_eq_div_mul, ← pow2w] at h3
    exact ⟨by omega, dle_fadd hw n _ h3⟩

theorem dle_bits : ∀ n y, dle 2 1 n y
  | 0, _ => trivial
  | n + 1, y => ⟨by omega, dle_bits n _⟩

/-- how many of the first n bits are set -/
def pop (n x : Nat) : Nat := dsum 2 n x

/-- the third step adds first and masks then -/
theorem add_mask : ∀ n y, dle 16 7 (2 * n) y → (y / 16 + y) &&& fmask 4 n = fadd 4 n y
  | 0, y, _ => by simp [fmask, fadd]
  | n + 1, y, h => by
    obtain ⟨h1, h2, h3⟩ : y % 16 ≤ 7 ∧ y / 16 % 16 ≤ 7 ∧ dle 16 7 (2 * n) (y / 16 / 16) := h
    have hq : dle 16 7 (2 * n) (y / 256) := by rwa [show y / 256 = y / 16 / 16 by omega]
    have hq1 : 0 < n → y / 256 % 16 ≤ 7 := by
      intro hn
      obtain ⟨n, rfl⟩ : ∃ n', n = n' + 1 := ⟨n - 1, by omega⟩
      exact hq.1
    rw [mask_step, fadd_step]
    have e8 : (2 : Nat) ^ (2 * 4) = 256 := by decide
    have e4 : (2 : Nat) ^ 4 = 16 := by decide
    rw [e8, e4, ← add_mask n (y / 256) hq]
    have h5 : (y / 16 + y) % 16 = y / 16 % 16 + y % 16 := by omega
    rw [h5]
    congr 1
    cases n with
    | zero => simp [fmask]
    | succ n =>
      have := hq1 (by omega)
      have h6 : (y / 16 + y) / 256 = y / 256 / 16 + y / 256 := by
        obtain ⟨r0, r1, d0, e, hy, k0, k1, k2⟩ : ∃ r0 r1 d0 e, y = r0 + 16 * r1 + 256 * d0 + 4096 * e ∧ r0 ≤ 7 ∧ r1 ≤ 7 ∧ d0 ≤ 7 := ⟨y % 16, y / 16 % 16, y / 256 % 16, y / 256 / 16, by omega, h1, h2, this⟩
        have q1 : y / 16 = r1 + 16 * d0 + 256 * e := by omega
        have q2 : y / 256 = d0 + 16 * e := by omega
        rw [q1, q2]
        subst hy
        clear q1 q2 h1 h2 h3 hq hq1 h5 this
        omega
      rw [h6]

theorem last_lin {y c0 c1 c2 c3 c4 c5 c6 c7 : Nat} (h0 : c0 ≤ 8) (h1 : c1 ≤ 8) (h2 : c2 ≤ 8) (h3 : c3 ≤ 8) (h4 : c4 ≤ 8) (h5 : c5 ≤ 8) (h6 : c6 ≤ 8) (h7 : c7 ≤ 8)
    (ye : y = c0 + 256 * (c1 + 256 * c2 + 65536 * c3 + 16777216 * c4 + 4294967296 * c5 + 1099511627776 * c6 + 281474976710656 * c7)) :
    (y + y / 256 + (y + y / 256) / 65536 + (y + y / 256 + (y + y / 256) / 65536) / 4294967296) % 128 = c0 + (c1 + (c2 + (c3 + (c4 + (c5 + (c6 + (c7 + 0))))))) := by
  have a1 : y / 256 = c1 + 256 * c2 + 65536 * c3 + 16777216 * c4 + 4294967296 * c5 + 1099511627776 * c6 + 281474976710656 * c7 := by
    rw [ye, Nat.add_mul_div_left _ _ (by decide : 0 < 256), Nat.div_eq_of_lt (by clear ye; omega), Nat.zero_add]
  rw [a1]
  have b1 : y + (c1 + 256 * c2 + 65536 * c3 + 16777216 * c4 + 4294967296 * c5 + 1099511627776 * c6 + 281474976710656 * c7) =
      (c0 + c1 + 256 * (c1 + c2)) + 65536 * (c2 + c3 + 256 * (c3 + c4) + 65536 * (c4 + c5) + 16777216 * (c5 + c6) + 4294967296 * (c6 + c7) + 1099511627776 * c7) := by clear a1 h0 h1 h2 h3 h4 h5 h6 h7; subst ye; omega
  rw [b1]
  have b2 : ((c0 + c1 + 256 * (c1 + c2)) + 65536 * (c2 + c3 + 256 * (c3 + c4) + 65536 * (c4 + c5) + 16777216 * (c5 + c6) + 4294967296 * (c6 + c7) + 1099511627776 * c7)) / 65536 = c2 + c3 + 256 * (c3 + c4) + 65536 * (c4 + c5) + 16777216 * (c5 + c6) + 4294967296 * (c6 + c7) + 1099511627776 * c7 := by
    rw [Nat.add_mul_div_left _ _ (by decide : 0 < 65536), Nat.div_eq_of_lt (by clear b1 a1 ye; omega), Nat.zero_add]
  rw [b2]
  have b3 : (c0 + c1 + 256 * (c1 + c2)) + 65536 * (c2 + c3 + 256 * (c3 + c4) + 65536 * (c4 + c5) + 16777216 * (c5 + c6) + 4294967296 * (c6 + c7) + 1099511627776 * c7) + (c2 + c3 + 256 * (c3 + c4) + 65536 * (c4 + c5) + 16777216 * (c5 + c6) + 4294967296 * (c6 + c7) + 1099511627776 * c7) =
      (c0 + c1 + c2 + c3 + 256 * (c1 + c2 + c3 + c4) + 65536 * (c2 + c3 + c4 + c5) + 16777216 * (c3 + c4 + c5 + c6)) + 4294967296 * (c4 + c5 + c6 + c7 + 256 * (c5 + c6 + c7) + 65536 * (c6 + c7) + 16777216 * c7) := by clear a1 b1 b2 h0 h1 h2 h3 h4 h5 h6 h7 ye; omega
  rw [b3]
  have b4 : ((c0 + c1 + c2 + c3 + 256 * (c1 + c2 + c3 + c4) + 65536 * (c2 + c3 + c4 + c5) + 16777216 * (c3 + c4 + c5 + c6)) + 4294967296 * (c4 + c5 + c6 + c7 + 256 * (c5 + c6 + c7) + 65536 * (c6 + c7) + 16777216 * c7)) / 4294967296 = c4 + c5 + c6 + c7 + 256 * (c5 + c6 + c7) + 65536 * (c6 + c7) + 16777216 * c7 := by
    rw [Nat.add_mul_div_left _ _ (by decide : 0 < 4294967296), Nat.div_eq_of_lt (by clear b1 b2 b3 a1 ye; omega), Nat.zero_add]
  rw [b4]
  have b5 : (c0 + c1 + c2 + c3 + 256 * (c1 + c2 + c3 + c4) + 65536 * (c2 + c3 + c4 + c5) + 16777216 * (c3 + c4 + c5 + c6)) + 4294967296 * (c4 + c5 + c6 + c7 + 256 * (c5 + c6 + c7) + 65536 * (c6 + c7) + 16777216 * c7) + (c4 + c5 + c6 + c7 + 256 * (c5 + c6 + c7) + 65536 * (c6 + c7) + 16777216 * c7) =
      (c0 + (c1 + (c2 + (c3 + (c4 + (c5 + (c6 + (c7 + 0)))))))) + 128 * (2 * (c1 + c2 + c3 + c4) + 512 * (c2 + c3 + c4 + c5) + 131072 * (c3 + c4 + c5 + c6) + 33554432 * (c4 + c5 + c6 + c7 + 256 * (c5 + c6 + c7) + 65536 * (c6 + c7) + 16777216 * c7) + 2 * (c5 + c6 + c7) + 512 * (c6 + c7) + 131072 * c7) := by clear a1 b1 b2 b3 b4 h0 h1 h2 h3 h4 h5 h6 h7 ye; omega
  rw [b5, Nat.add_mul_mod_self_left]
  exact Nat.mod_eq_of_lt (by clear b1 b2 b3 b4 b5 a1 ye; omega)

theorem last_steps {y : Nat} (h : dle 256 8 8 y) (hy : y < 18446744073709551616) :
    (y + y / 256 + (y + y / 256) / 65536 + (y + y / 256 + (y + y / 256) / 65536) / 4294967296) % 128 = dsum 256 8 y ∧ y < 648518346341351424 + 1 := by
  obtain ⟨h0, h1, h2, h3, h4, h5, h6, h7, _⟩ := h
  have e0 := Nat.mod_add_div y 256
  have e1 := Nat.mod_add_div (y / 256) 256
  have e2 := Nat.mod_add_div (y / 256 / 256) 256
  have e3 := Nat.mod_add_div (y / 256 / 256 / 256) 256
  have e4 := Nat.mod_add_div (y / 256 / 256 / 256 / 256) 256
  have e5 := Nat.mod_add_div (y / 256 / 256 / 256 / 256 / 256) 256
  have e6 := Nat.mod_add_div (y / 256 / 256 / 256 / 256 / 256 / 256) 256
  have e7 := Nat.mod_add_div (y / 256 / 256 / 256 / 256 / 256 / 256 / 256) 256
  show _ = y % 256 + (y / 256 % 256 + (y / 256 / 256 % 256 + (y / 256 / 256 / 256 % 256 + (y / 256 / 256 / 256 / 256 % 256 + (y / 256 / 256 / 256 / 256 / 256 % 256 + (y / 256 / 256 / 256 / 256 / 256 / 256 % 256 + (y / 256 / 256 / 256 / 256 / 256 / 256 / 256 % 256 + 0))))))) ∧ _
  generalize y / 256 / 256 / 256 / 256 / 256 / 256 / 256 / 256 = q8 at *
  generalize y / 256 / 256 / 256 / 256 / 256 / 256 / 256 % 256 = c7 at *
  generalize y / 256 / 256 / 256 / 256 / 256 / 256 / 256 = q7 at *
  generalize y / 256 / 256 / 256 / 256 / 256 / 256 % 256 = c6 at *
  generalize y / 256 / 256 / 256 / 256 / 256 / 256 = q6 at *
  generalize y / 256 / 256 / 256 / 256 / 256 % 256 = c5 at *
  generalize y / 256 / 256 / 256 / 256 / 256 = q5 at *
  generalize y / 256 / 256 / 256 / 256 % 256 = c4 at *
  generalize y / 256 / 256 / 256 / 256 = q4 at *
  generalize y / 256 / 256 / 256 % 256 = c3 at *
  generalize y / 256 / 256 / 256 = q3 at *
  generalize y / 256 / 256 % 256 = c2 at *
  generalize y / 256 / 256 = q2 at *
  generalize y / 256 % 256 = c1 at *
  have hq8 : q8 = 0 := by
    generalize y / 256 = q1 at *
    generalize y % 256 = c0 at *
    omega
  subst hq8
  have ye : y = y % 256 + 256 * (c1 + 256 * c2 + 65536 * c3 + 16777216 * c4 + 4294967296 * c5 + 1099511627776 * c6 + 281474976710656 * c7) := by
    generalize y / 256 = q1 at *
    generalize y % 256 = c0 at *
    omega
  refine ⟨last_lin h0 h1 h2 h3 h4 h5 h6 h7 ye, ?_⟩
  generalize y % 256 = c0 at *
  omega

theorem dle.mono {c k k' : Nat} (h : k ≤ k') : ∀ {n y}, dle c k n y → dle c k' n y
  | 0, _, _ => trivial
  | _ + 1, _, h2 => ⟨Nat.le_trans h2.1 h, dle.mono h h2.2⟩

theorem fadd_lt {w n y : Nat} (h : fmask w n < 9223372036854775808) : fadd w n y < 18446744073709551616 := by
  unfold fadd
  have h1 : (y / 2 ^ w &&& fmask w n) ≤ fmask w n := Nat.and_le_right
  have h2 : (y &&& fmask w n) ≤ fmask w n := Nat.and_le_right
  omega

theorem andI_i64 {x y : Nat} (hx : x < 9223372036854775808) (hy : y < 9223372036854775808) : andI .i64 x y = ((x &&& y : Nat) : Int) := by
  show IntKind.wrap .i64 ((BitVec.ofInt 64 (x : Int) &&& BitVec.ofInt 64 (y : Int)).toNat : Int) = _
  rw [BitVec.toNat_and, ofInt_toNat (by omega), ofInt_toNat (by omega)]
  have h1 : (x &&& y) ≤ x := Nat.and_le_left
  generalize (x &&& y) = z at *
  unfold IntKind.wrap
  have hz : ((z : Int) % (2 ^ IntKind.bits .i64 : Int)) = z := by
    show (z : Int) % 2 ^ 64 = z
    omega
  simp only [hz]
  rw [if_neg]
  intro h
  have h2 : (2 ^ (IntKind.bits .i64 - 1) : Int) ≤ z := by simpa [IntKind.signed] using h
  have h3 : (9223372036854775808 : Int) ≤ z := h2
  omega

theorem cvI_i64 {x : Nat} (hx : x < 9223372036854775808) : cvI .i64 x = x := by
  unfold cvI wrapI fitsI
  have h1 : IntKind.min .i64 = -9223372036854775808 := by decide
  have h2 : IntKind.max .i64 = 9223372036854775807 := by decide
  rw [h1, h2]
  have : (decide ((-9223372036854775808 : Int) ≤ (x : Int)) && decide ((x : Int) ≤ 9223372036854775807)) = true := by simp; omega
  rw [this]

def oneS (x : Int) : Int := addI .u64 (andI .u64 (shrI .u64 x 1) 6148914691236517205) (andI .u64 x 6148914691236517205)
def twoS (x : Int) : Int := addI .u64 (andI .u64 (shrI .u64 x 2) 3689348814741910323) (andI .u64 x 3689348814741910323)
def fourS (x : Int) : Int := andI .u64 (addI .u64 (shrI .u64 x 4) x) 1085102592571150095
def restS (x : Int) : Int := andI .i64 (cvI .i64 (addI .u64 (addI .u64 (addI .u64 x (shrI .u64 x 8)) (shrI .u64 (addI .u64 x (shrI .u64 x 8)) 16)) (shrI .u64 (addI .u64 (addI .u64 x (shrI .u64 x 8)) (shrI .u64 (addI .u64 x (shrI .u64 x 8)) 16)) 32))) 127

theorem oneS_eq {x : Nat} (hx : x < 18446744073709551616) : oneS x = (fadd 1 32 x : Nat) := by
  have hm : fmask 1 32 = 6148914691236517205 := by decide
  have h0 : (x / 2 ^ 1 &&& 6148914691236517205) ≤ 6148914691236517205 := Nat.and_le_right
  have h1 : (x &&& 6148914691236517205) ≤ 6148914691236517205 := Nat.and_le_right
  unfold oneS fadd
  rw [hm]
  have e1 : shrI .u64 (x : Int) 1 = ((x / 2 ^ 1 : Nat) : Int) := shrI_u64 (k := 1) (by omega)
  have e2 : andI .u64 ((x / 2 ^ 1 : Nat) : Int) 6148914691236517205 = _ := andI_u64 (y := 6148914691236517205) (by omega) (by omega)
  have e3 : andI .u64 (x : Int) 6148914691236517205 = _ := andI_u64 (y := 6148914691236517205) hx (by omega)
  rw [e1, e2, e3, addI_u64 (by omega)]

theorem twoS_eq {x : Nat} (hx : x < 18446744073709551616) : twoS x = (fadd 2 16 x : Nat) := by
  have hm : fmask 2 16 = 3689348814741910323 := by decide
  have h0 : (x / 2 ^ 2 &&& 3689348814741910323) ≤ 3689348814741910323 := Nat.and_le_right
  have h1 : (x &&& 3689348814741910323) ≤ 3689348814741910323 := Nat.and_le_right
  unfold twoS fadd
  rw [hm]
  have e1 : shrI .u64 (x : Int) 2 = ((x / 2 ^ 2 : Nat) : Int) := shrI_u64 (k := 2) (by omega)
  have e2 : andI .u64 ((x / 2 ^ 2 : Nat) : Int) 3689348814741910323 = _ := andI_u64 (y := 3689348814741910323) (by omega) (by omega)
  have e3 : andI .u64 (x : Int) 3689348814741910323 = _ := andI_u64 (y := 3689348814741910323) hx (by omega)
  rw [e1, e2, e3, addI_u64 (by omega)]

theorem fourS_eq {x : Nat} (hx : x < 9223372036854775808) (hd : dle 16 7 16 x) : fourS x = (fadd 4 8 x : Nat) := by
  have hm : fmask 4 8 = 1085102592571150095 := by decide
  unfold fourS
  have e1 : shrI .u64 (x : Int) 4 = ((x / 2 ^ 4 : Nat) : Int) := shrI_u64 (k := 4) (by omega)
  rw [e1, addI_u64 (by omega)]
  have e2 : andI .u64 ((x / 2 ^ 4 + x : Nat) : Int) 1085102592571150095 = _ := andI_u64 (y := 1085102592571150095) (by omega) (by omega)
  rw [e2]
  have := add_mask 8 x hd
  rw [hm] at this
  rw [← this]

theorem restS_eq {y : Nat} (hd : dle 256 8 8 y) (hy : y < 18446744073709551616) : restS y = (dsum 256 8 y : Nat) := by
  obtain ⟨h1, h2⟩ := last_steps hd hy
  unfold restS
  have e1 : shrI .u64 (y : Int) 8 = ((y / 256 : Nat) : Int) := shrI_u64 (k := 8) (by omega)
  rw [e1, addI_u64 (by omega)]
  have e2 : shrI .u64 ((y + y / 256 : Nat) : Int) 16 = (((y + y / 256) / 65536 : Nat) : Int) := shrI_u64 (k := 16) (by omega)
  rw [e2, addI_u64 (by omega)]
  have e3 : shrI .u64 ((y + y / 256 + (y + y / 256) / 65536 : Nat) : Int) 32 = (((y + y / 256 + (y + y / 256) / 65536) / 4294967296 : Nat) : Int) := shrI_u64 (k := 32) (by omega)
  rw [e3, addI_u64 (by omega)]
  rw [cvI_i64 (by omega)]
  have e4 : andI .i64 ((y + y / 256 + (y + y / 256) / 65536 + (y + y / 256 + (y + y / 256) / 65536) / 4294967296 : Nat) : Int) 127 = _ := andI_i64 (y := 127) (by omega) (by omega)
  rw [e4, ← h1]
  have := Nat.and_two_pow_sub_one_eq_mod (y + y / 256 + (y + y / 256) / 65536 + (y + y / 256 + (y + y / 256) / 65536) / 4294967296) 7
  rw [show (2 : Nat) ^ 7 - 1 = 127 by decide, show (2 : Nat) ^ 7 = 128 by decide] at this
  rw [this]

theorem dle_fadd1 (n y : Nat) (h : dle 2 1 (2 * n) y) : dle 4 2 n (fadd 1 n y) := dle_fadd (w := 1) (by omega) n y h
theorem dle_fadd2 (n y : Nat) (h : dle 4 2 (2 * n) y) : dle 16 4 n (fadd 2 n y) := dle_fadd (w := 2) (by omega) n y h
theorem dle_fadd4 (n y : Nat) (h : dle 16 4 (2 * n) y) : dle 256 8 n (fadd 4 n y) := dle_fadd (w := 4) (by omega) n y h
theorem dsum_fadd1 (n y : Nat) : dsum 4 n (fadd 1 n y) = dsum 2 (2 * n) y := dsum_fadd (w := 1) (by omega) n y
theorem dsum_fadd2 (n y : Nat) : dsum 16 n (fadd 2 n y) = dsum 4 (2 * n) y := dsum_fadd (w := 2) (by omega) n y
theorem dsum_fadd4 (n y : Nat) : dsum 256 n (fadd 4 n y) = dsum 16 (2 * n) y := dsum_fadd (w := 4) (by omega) n y

/-- how many bits are set -/
theorem ones_eq {x : Nat} (hx : x < 18446744073709551616) : restS (fourS (twoS (oneS x))) = (pop 64 x : Nat) := by
  have h1 : dle 4 2 32 (fadd 1 32 x) := dle_fadd1 32 x (dle_bits 64 x)
  have h2 : dle 16 4 16 (fadd 2 16 (fadd 1 32 x)) := dle_fadd2 16 _ h1
  have h3 : dle 256 8 8 (fadd 4 8 (fadd 2 16 (fadd 1 32 x))) := dle_fadd4 8 _ h2
  have l1 : fadd 1 32 x < 18446744073709551616 := fadd_lt (by decide)
  have l2 : fadd 2 16 (fadd 1 32 x) < 9223372036854775808 := by
    unfold fadd
    have a1 : ∀ v, (v &&& fmask 2 16) ≤ 3689348814741910323 := fun v => by
      have : fmask 2 16 = 3689348814741910323 := by decide
      rw [← this]; exact Nat.and_le_right
    have := a1 (((x / 2 ^ 1 &&& fmask 1 32) + (x &&& fmask 1 32)) / 2 ^ 2)
    have := a1 ((x / 2 ^ 1 &&& fmask 1 32) + (x &&& fmask 1 32))
    omega
  have l3 : fadd 4 8 (fadd 2 16 (fadd 1 32 x)) < 18446744073709551616 := fadd_lt (by decide)
  rw [oneS_eq hx, twoS_eq l1, fourS_eq l2 (h2.mono (by omega)), restS_eq h3 l3]
  rw [dsum_fadd4 8, dsum_fadd2 16, dsum_fadd1 32]
  rfl

theorem pop_succ (n x : Nat) : pop (n + 1) x = pop n x + x / 2 ^ n % 2 := by
  unfold pop
  induction n generalizing x with
  | zero => simp [dsum]
  | succ n ih =>
    show x % 2 + dsum 2 (n + 1) (x / 2) = (x % 2 + dsum 2 n (x / 2)) + _
    rw [ih, Nat.div_div_eq_div_mul, Nat.pow_succ, Nat.mul_comm 2]
    omega

theorem pop_bit (n x : Nat) : pop (n + 1) x = pop n x + (if x.testBit n then 1 else 0) := by
  rw [pop_succ, Nat.testBit_eq_decide_div_mod_eq]
  have : x / 2 ^ n % 2 < 2 := Nat.mod_lt _ (by decide)
  split
  · rename_i h; simp at h; omega
  · rename_i h; simp at h; omega

/-! ## the lowest bit -/

theorem mulI_u64 (x y : Nat) : mulI .u64 x y = ((x * y % 18446744073709551616 : Nat) : Int) := by
  unfold mulI wrapI fitsI
  have h1 : IntKind.min .u64 = 0 := by decide
  have h2 : IntKind.max .u64 = 18446744073709551615 := by decide
  rw [h1, h2]
  have e : (x : Int) * y = ((x * y : Nat) : Int) := (Int.natCast_mul x y).symm
  rw [e]
  generalize x * y = z
  have h0 : (0 : Int) ≤ (z : Int) := Int.natCast_nonneg z
  by_cases h : z ≤ 18446744073709551615
  · rw [decide_eq_true h0, decide_eq_true (show (z : Int) ≤ 18446744073709551615 by omega), Bool.and_self, Nat.mod_eq_of_lt (by omega)]
  · rw [decide_eq_false (show ¬ (z : Int) ≤ 18446744073709551615 by omega), Bool.and_false]
    show IntKind.wrap .u64 (z : Int) = _
    unfold IntKind.wrap
    simp only [IntKind.bits, IntKind.signed, Bool.false_and, Bool.false_eq_true, if_false]
    omega

theorem negI_u64 {x : Nat} (h0 : 0 < x) (hx : x < 18446744073709551616) : subI .u64 0 x = ((18446744073709551616 - x : Nat) : Int) := by
  unfold subI wrapI fitsI
  have h1 : IntKind.min .u64 = 0 := by decide
  have h2 : IntKind.max .u64 = 18446744073709551615 := by decide
  rw [h1, h2]
  have : (decide ((0 : Int) ≤ 0 - (x : Int)) && decide (0 - (x : Int) ≤ 18446744073709551615)) = false := by rw [decide_eq_false (by omega), Bool.false_and]
  rw [this]
  show IntKind.wrap .u64 (0 - (x : Int)) = _
  unfold IntKind.wrap
  simp only [IntKind.bits, IntKind.signed, Bool.false_and, Bool.false_eq_true, if_false]
  omega

theorem odd_low {n q : Nat} (h : q < 2 ^ n) : (2 * q + 1) &&& (2 ^ (n + 1) - (2 * q + 1)) = 1 := by
  have e : 2 ^ (n + 1) - (2 * q + 1) = 2 * (2 ^ n - (q + 1)) + 1 := by rw [Nat.pow_succ]; omega
  rw [e]
  apply Nat.eq_of_testBit_eq
  intro i
  rw [Nat.testBit_and]
  cases i with
  | zero => simp
  | succ i =>
    rw [Nat.testBit_succ, Nat.testBit_succ, Nat.testBit_succ]
    have e1 : (2 * q + 1) / 2 = q := by omega
    have e2 : (2 * (2 ^ n - (q + 1)) + 1) / 2 = 2 ^ n - (q + 1) := by omega
    rw [e1, e2, Nat.testBit_two_pow_sub_succ h]
    cases q.testBit i <;> simp

theorem low_bit {x : Nat} (h0 : 0 < x) (hx : x < 18446744073709551616) : ∃ k, k < 64 ∧ (x &&& (18446744073709551616 - x)) = 2 ^ k ∧ x.testBit k = true ∧ ∀ j, j < k → x.testBit j = false := by
  have key : ∀ n x, 0 < x → x < 2 ^ n → ∃ k q, k < n ∧ x = 2 ^ k * (2 * q + 1) := by
    intro n
    induction n with
    | zero => intro x h0 h1; simp at h1; omega
    | succ n ih =>
      intro x h0 h1
      by_cases hp : x % 2 = 1
      · exact ⟨0, x / 2, by omega, by omega⟩
      · obtain ⟨k, q, hk, hq⟩ := ih (x / 2) (by omega) (by rw [Nat.pow_succ] at h1; omega)
        exact ⟨k + 1, q, by omega, by rw [Nat.pow_succ, Nat.mul_comm (2 ^ k), Nat.mul_assoc, ← hq]; omega⟩
  obtain ⟨k, q, hk, rfl⟩ := key 64 x h0 hx
  have hpk : 0 < 2 ^ k := Nat.two_pow_pos k
  obtain ⟨n, hn⟩ : ∃ n, 64 = k + (n + 1) := ⟨63 - k, by omega⟩
  have h64 : (18446744073709551616 : Nat) = 2 ^ k * 2 ^ (n + 1) := by rw [← Nat.pow_add, ← hn]
  have hq : q < 2 ^ n := by
    rw [h64] at hx
    have := Nat.lt_of_mul_lt_mul_left hx
    rw [Nat.pow_succ] at this
    omega
  refine ⟨k, hk, ?_, ?_, ?_⟩
  · rw [h64, ← Nat.mul_sub]
    have h3 := and_digits (k := k) (a := 0) (c := 0) (x := 2 * q + 1) (y := 2 ^ (n + 1) - (2 * q + 1)) hpk hpk
    rw [Nat.zero_add, Nat.zero_add, odd_low hq] at h3
    rw [h3]; simp
  · rw [Nat.testBit_two_pow_mul]; simp
  · intro j hj
    rw [Nat.testBit_two_pow_mul]; simp; omega

end Go.AX
