/-
  Strings cut at a byte; numbers written and read again.
-/
import Derived.Test.YtdeknemdeijljaaDoorAxStr
import Derived.Test.YtdeknemdeijljaaDoorAxJoin
import Derived.Test.YtdeknemdeijljaaDoorAxFmt
import Derived.Lib.ParseIntBTie
import Derived.Lib.IndexLaws
namespace Go.AX
open Go
set_option linter.unusedVariables false
set_option linter.unusedSimpArgs false

/-- cut at a byte, so often at most -/
def pieces (c : UInt8) : Nat → List UInt8 → List (List UInt8)
  | 0, s => [s]
  | k + 1, s => if Lib.indexByte s c < 0 then [s] else s.take (Lib.indexByte s c).toNat :: pieces c k (s.drop ((Lib.indexByte s c).toNat + 1))

theorem indexByte_not {c : UInt8} : ∀ {l : List UInt8}, c ∉ l → Lib.indexByte l c = -1
  | [], _ => rfl
  | b :: r, h => by
    have h1 : ¬ (b == c) = true := fun e => h (by rw [beq_iff_eq.1 e]; exact List.mem_cons_self ..)
    have ih := indexByte_not (c := c) (l := r) fun e => h (List.mem_cons_of_mem _ e)
    unfold Lib.indexByte
    rw [if_neg h1, ih]; rfl

theorem indexByte_at {c : UInt8} {r : List UInt8} : ∀ {l : List UInt8}, c ∉ l → Lib.indexByte (l ++ c :: r) c = l.length
  | [], _ => by
    show Lib.indexByte (c :: r) c = 0
    unfold Lib.indexByte
    rw [if_pos (beq_self_eq_true c)]
  | b :: l, h => by
    have h1 : ¬ (b == c) = true := fun e => h (by rw [beq_iff_eq.1 e]; exact List.mem_cons_self ..)
    have ih := indexByte_at (c := c) (r := r) (l := l) fun e => h (List.mem_cons_of_mem _ e)
    show Lib.indexByte (b :: (l ++ c :: r)) c = _
    unfold Lib.indexByte
    rw [if_neg h1, ih]
    rw [if_neg (by simp)]
    simp

theorem join_cons (x : List UInt8) {r : List (List UInt8)} (hr : r ≠ []) (sep : List UInt8) : Lib.join (x :: r) sep = x ++ sep ++ Lib.join r sep := by
  cases r with
  | nil => exact absurd rfl hr
  | cons y r => simp [Lib.join]

theorem pieces_join {c : UInt8} : ∀ {l : List (List UInt8)} {k : Nat}, l ≠ [] → l.length ≤ k + 1 → (∀ x ∈ l, c ∉ x) → pieces c k (Lib.join l [c]) = l
  | [], _, h, _, _ => absurd rfl h
  | [x], k, _, _, hx => by
    have e : Lib.join [x] [c] = x := by simp [Lib.join]
    rw [e]
    cases k with
    | zero => rfl
    | succ k => unfold pieces; rw [indexByte_not (hx x (List.mem_cons_self ..)), if_pos (by omega)]
  | x :: y :: r, 0, _, h, _ => by simp at h
  | x :: y :: r, k + 1, _, h, hx => by
    rw [join_cons x (by simp), List.append_assoc]
    unfold pieces
    have hi : Lib.indexByte (x ++ ([c] ++ Lib.join (y :: r) [c])) c = x.length := indexByte_at (hx x (List.mem_cons_self ..))
    rw [hi, if_neg (by omega)]
    have ih := pieces_join (c := c) (l := y :: r) (k := k) (by simp) (by simp at h ⊢; omega) fun z hz => hx z (List.mem_cons_of_mem _ hz)
    rw [Int.toNat_natCast, List.take_left]
    congr 1
    rw [show x.length + 1 = x.length + ([c] : List UInt8).length by rfl, ← List.drop_drop, List.drop_left, List.drop_left]
    exact ih

/-! ## numbers -/

theorem parseUint10_snoc {c : UInt8} (hc : 48 ≤ c.toNat ∧ c.toNat ≤ 57) : ∀ {l : List UInt8} {acc v : Nat}, Lib.parseUint10 acc l = .ok v → v < 1844674407370955162 → v * 10 + (c.toNat - 48) < 18446744073709551616 → Lib.parseUint10 acc (l ++ [c]) = .ok (v * 10 + (c.toNat - 48))
  | [], acc, v, h, h1, h2 => by
    simp only [Lib.parseUint10] at h
    cases h
    simp only [List.nil_append, Lib.parseUint10]
    rw [if_pos hc, if_neg (by omega), if_neg (by omega)]
  | b :: l, acc, v, h, h1, h2 => by
    simp only [Lib.parseUint10, List.cons_append] at h ⊢
    split at h
    · rename_i hb
      rw [if_pos hb]
      split at h
      · cases h
      · rename_i h3
        rw [if_neg h3]
        split at h
        · cases h
        · rename_i h4
          rw [if_neg h4]
          exact parseUint10_snoc hc h h1 h2
    · cases h

theorem digit_nat {k : Nat} (h : k < 10) : (UInt8.ofNat (48 + k)).toNat = 48 + k := by
  simp; omega

theorem parse_dec : ∀ (u : Nat), u < 9223372036854775808 → Lib.parseUint10 0 (Lib.decDigits u) = .ok u := by
  intro u
  induction u using Nat.strongRecOn with
  | _ u ih =>
    intro hu
    rw [Lib.decDigits]
    by_cases h : u < 10
    · rw [dif_pos h]
      have := parseUint10_snoc (c := UInt8.ofNat (48 + u)) (by rw [digit_nat h]; omega) (l := []) (acc := 0) (v := 0) rfl (by omega) (by rw [digit_nat h]; omega)
      rw [digit_nat h] at this
      simpa using this
    · rw [dif_neg h]
      have hm : u % 10 < 10 := by omega
      have := parseUint10_snoc (c := UInt8.ofNat (48 + u % 10)) (by rw [digit_nat hm]; omega) (ih (u / 10) (by omega) (by omega)) (by omega) (by rw [digit_nat hm]; omega)
      rw [digit_nat hm] at this
      rw [this]
      congr 1
      omega

/-- the digits are digits -/
theorem dec_digit : ∀ (u : Nat), ∀ b ∈ Lib.decDigits u, 48 ≤ b.toNat ∧ b.toNat ≤ 57 := by
  intro u
  induction u using Nat.strongRecOn with
  | _ u ih =>
    intro b hb
    rw [Lib.decDigits] at hb
    by_cases h : u < 10
    · rw [dif_pos h] at hb
      simp only [List.mem_singleton] at hb
      subst hb
      rw [digit_nat h]; omega
    · rw [dif_neg h] at hb
      rcases List.mem_append.1 hb with hb | hb
      · exact ih (u / 10) (by omega) b hb
      · simp only [List.mem_singleton] at hb
        subst hb
        rw [digit_nat (by omega)]; omega

theorem dec_ne (u : Nat) : Lib.decDigits u ≠ [] := fun h => by
  have := Lib.decDigits_length u
  rw [h] at this
  have := Lib.nDigits_pos u
  simp at *; omega

theorem atoi_dec {u : Nat} (hu : u < 9223372036854775808) : Lib.atoiAll (Lib.decDigits u) = .ok (u : Int) := by
  have h1 := parse_dec u hu
  have h2 := dec_digit u
  have h3 := dec_ne u
  cases hd : Lib.decDigits u with
  | nil => exact absurd hd h3
  | cons c r =>
    have hc := h2 c (by rw [hd]; exact List.mem_cons_self ..)
    unfold Lib.atoiAll
    simp only
    rw [if_neg (by omega), ← hd]
    unfold Lib.parseMag
    rw [if_neg h3, h1]
    simp only
    rw [if_neg (by omega), if_neg (by omega), if_neg (by omega)]

theorem itoa_dec {x : Int} (h : 0 ≤ x) : Lib.itoa x = Lib.decDigits x.toNat := by
  unfold Lib.itoa
  rw [if_neg (by omega)]

theorem atoi_itoa {x : Int} (h0 : 0 ≤ x) (h1 : x < 9223372036854775808) : Lib.atoiAll (Lib.itoa x) = .ok x := by
  rw [itoa_dec h0, atoi_dec (by omega)]
  congr 1
  omega

def atoiV (l : List UInt8) : Int := match Lib.atoiAll l with
  | .ok v => v
  | .range => Lib.atoiSat l
  | _ => 0

theorem not_in_itoa {x : Int} (h : 0 ≤ x) {c : UInt8} (hc : c.toNat < 48 ∨ 57 < c.toNat) : c ∉ Lib.itoa x := by
  rw [itoa_dec h]
  intro hm
  have := dec_digit _ c hm
  omega

theorem pieces_succ (c : UInt8) (k : Nat) (s : List UInt8) : pieces c (k + 1) s = if Lib.indexByte s c < 0 then [s] else s.take (Lib.indexByte s c).toNat :: pieces c k (s.drop ((Lib.indexByte s c).toNat + 1)) := rfl

theorem indexByte_lt {c : UInt8} : ∀ {l : List UInt8}, Lib.indexByte l c < l.length
  | [] => by show (-1 : Int) < _; simp
  | b :: r => by
    have ih := indexByte_lt (c := c) (l := r)
    unfold Lib.indexByte
    simp only [List.length_cons]
    split
    · omega
    · split <;> omega

theorem repL_one (v : Value) : ∀ n, repL [v] n = List.replicate n v
  | 0 => rfl
  | n + 1 => by rw [repL, repL_one v n, List.replicate_succ]; rfl

theorem mnI_nat (a b : Nat) : mnI (a : Int) (b : Int) = ((min a b : Nat) : Int) := by
  unfold mnI
  split <;> omega

theorem set_rep {done : List Value} {v z : Value} {q : Nat} (hq : 0 < q) : (done ++ List.replicate q z).set done.length v = done ++ [v] ++ List.replicate (q - 1) z := by
  obtain ⟨p, rfl⟩ : ∃ p, q = p + 1 := ⟨q - 1, by omega⟩
  rw [List.replicate_succ]
  simp

theorem pieces_len {c : UInt8} : ∀ {k : Nat} {s x : List UInt8}, x ∈ pieces c k s → x.length ≤ s.length
  | 0, s, x, h => by
    simp only [pieces, List.mem_singleton] at h
    subst h; exact Nat.le_refl _
  | k + 1, s, x, h => by
    rw [pieces_succ] at h
    split at h
    · simp only [List.mem_singleton] at h
      subst h; exact Nat.le_refl _
    · rcases List.mem_cons.1 h with rfl | h
      · simp; omega
      · have := pieces_len h
        simp at this; omega

theorem u8_int (c : UInt8) : (Int.toNat (c.toNat : Int)).toUInt8 = c := by simp

theorem size_bs (l : List UInt8) : (bs l).size = l.length := by simp [ByteArray.size]

theorem intSat_64 (s : List UInt8) : Lib.intSat 64 s = Lib.atoiSat s := by
  unfold Lib.intSat Lib.atoiSat
  rfl


end Go.AX
