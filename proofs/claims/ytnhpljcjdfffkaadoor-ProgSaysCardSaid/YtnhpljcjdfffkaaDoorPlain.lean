/-
  The plain law of chapter 10: a program's text, split and read, is the program.
-/
import Derived.Test.YtnhpljcjdfffkaaDoorText
import Derived.Lib.ParseIntBTie
import Derived.Lib.IndexLaws
namespace Go.Proofs.YtnhpljcjdfffkaaDoor.vc
open Go Go.AX
set_option linter.unusedVariables false
set_option linter.unusedSimpArgs false

/-- cut at a byte, so often at most -/
def pieces (c : UInt8) : Nat → List UInt8 → List (List UInt8)
  | 0, s => [s]
  | k + 1, s => if Lib.indexByte s c < 0 then [s] else s.take (Lib.indexByte s c).toNat :: pieces c k (s.drop ((Lib.indexByte s c).toNat + 1))

theorem indexByte_not {c : UInt8} : ∀ {l : List UInt8}, c ∉ l → Lib.indexByte l c = -1
  | [], _ => rfl
  | b :: r, h => by
    have h1 : ¬ (b == c) = true := fun e => h (by rw [beq_iff_eq.1 e]; exact List.mem_cons_self ..)
    have ih := indexByte_not (c := c) (l := r) fun e => h (List.mem_cons_of_mem _ e)
    unfold Lib.indexByte
    rw [if_neg h1, ih]; rfl

theorem indexByte_at {c : UInt8} {r : List UInt8} : ∀ {l : List UInt8}, c ∉ l → Lib.indexByte (l ++ c :: r) c = l.length
  | [], _ => by
    show Lib.indexByte (c :: r) c = 0
    unfold Lib.indexByte
    rw [if_pos (beq_self_eq_true c)]
  | b :: l, h => by
    have h1 : ¬ (b == c) = true := fun e => h (by rw [beq_iff_eq.1 e]; exact List.mem_cons_self ..)
    have ih := indexByte_at (c := c) (r := r) (l := l) fun e => h (List.mem_cons_of_mem _ e)
    show Lib.indexByte (b :: (l ++ c :: r)) c = _
    unfold Lib.indexByte
    rw [if_neg h1, ih]
    rw [if_neg (by simp)]
    simp

theorem join_cons (x : List UInt8) {r : List (List UInt8)} (hr : r ≠ []) (sep : List UInt8) : Lib.join (x :: r) sep = x ++ sep ++ Lib.join r sep := by
  cases r with
  | nil => exact absurd rfl hr
  | cons y r => simp [Lib.join]

theorem pieces_join {c : UInt8} : ∀ {l : List (List UInt8)} {k : Nat}, l ≠ [] → l.length ≤ k + 1 → (∀ x ∈ l, c ∉ x) → pieces c k (Lib.join l [c]) = l
  | [], _, h, _, _ => absurd rfl h
  | [x], k, _, _, hx => by
    have e : Lib.join [x] [c] = x := by simp [Lib.join]
    rw [e]
    cases k with
    | zero => rfl
    | succ k => unfold pieces; rw [indexByte_not (hx x (List.mem_cons_self ..)), if_pos (by omega)]
  | x :: y :: r, 0, _, h, _ => by simp at h
  | x :: y :: r, k + 1, _, h, hx => by
    rw [join_cons x (by simp), List.append_assoc]
    unfold pieces
    have hi : Lib.indexByte (x ++ ([c] ++ Lib.join (y :: r) [c])) c = x.length := indexByte_at (hx x (List.mem_cons_self ..))
    rw [hi, if_neg (by omega)]
    have ih := pieces_join (c := c) (l := y :: r) (k := k) (by simp) (by simp at h ⊢; omega) fun z hz => hx z (List.mem_cons_of_mem _ hz)
    rw [Int.toNat_natCast, List.take_left]
    congr 1
    rw [show x.length + 1 = x.length + ([c] : List UInt8).length by rfl, ← List.drop_drop, List.drop_left, List.drop_left]
    exact ih

/-! ## numbers -/

theorem parseUint10_snoc {c : UInt8} (hc : 48 ≤ c.toNat ∧ c.toNat ≤ 57) : ∀ {l : List UInt8} {acc v : Nat}, Lib.parseUint10 acc l = .ok v → v < 1844674407370955162 → v * 10 + (c.toNat - 48) < 18446744073709551616 → Lib.parseUint10 acc (l ++ [c]) = .ok (v * 10 + (c.toNat - 48))
  | [], acc, v, h, h1, h2 => by
    simp only [Lib.parseUint10] at h
    cases h
    simp only [List.nil_append, Lib.parseUint10]
    rw [if_pos hc, if_neg (by omega), if_neg (by omega)]
  | b :: l, acc, v, h, h1, h2 => by
    simp only [Lib.parseUint10, List.cons_append] at h ⊢
    split at h
    · rename_i hb
      rw [if_pos hb]
      split at h
      · cases h
      · rename_i h3
        rw [if_neg h3]
        split at h
        · cases h
        · rename_i h4
          rw [if_neg h4]
          exact parseUint10_snoc hc h h1 h2
    · cases h

theorem digit_nat {k : Nat} (h : k < 10) : (UInt8.ofNat (48 + k)).toNat = 48 + k := by
  simp; omega

theorem parse_dec : ∀ (u : Nat), u < 9223372036854775808 → Lib.parseUint10 0 (Lib.decDigits u) = .ok u := by
  intro u
  induction u using Nat.strongRecOn with
  | _ u ih =>
    intro hu
    rw [Lib.decDigits]
    by_cases h : u < 10
    · rw [dif_pos h]
      have := parseUint10_snoc (c := UInt8.ofNat (48 + u)) (by rw [digit_nat h]; omega) (l := []) (acc := 0) (v := 0) rfl (by omega) (by rw [digit_nat h]; omega)
      rw [digit_nat h] at this
      simpa using this
    · rw [dif_neg h]
      have hm : u % 10 < 10 := by omega
      have := parseUint10_snoc (c := UInt8.ofNat (48 + u % 10)) (by rw [digit_nat hm]; omega) (ih (u / 10) (by omega) (by omega)) (by omega) (by rw [digit_nat hm]; omega)
      rw [digit_nat hm] at this
      rw [this]
      congr 1
      omega

/-- the digits are digits -/
theorem dec_digit : ∀ (u : Nat), ∀ b ∈ Lib.decDigits u, 48 ≤ b.toNat ∧ b.toNat ≤ 57 := by
  intro u
  induction u using Nat.strongRecOn with
  | _ u ih =>
    intro b hb
    rw [Lib.decDigits] at hb
    by_cases h : u < 10
    · rw [dif_pos h] at hb
      simp only [List.mem_singleton] at hb
      subst hb
      rw [digit_nat h]; omega
    · rw [dif_neg h] at hb
      rcases List.mem_append.1 hb with hb | hb
      · exact ih (u / 10) (by omega) b hb
      · simp only [List.mem_singleton] at hb
        subst hb
        rw [digit_nat (by omega)]; omega

theorem dec_ne (u : Nat) : Lib.decDigits u ≠ [] := fun h => by
  have := Lib.decDigits_length u
  rw [h] at this
  have := Lib.nDigits_pos u
  simp at *; omega

theorem atoi_dec {u : Nat} (hu : u < 9223372036854775808) : Lib.atoiAll (Lib.decDigits u) = .ok (u : Int) := by
  have h1 := parse_dec u hu
  have h2 := dec_digit u
  have h3 := dec_ne u
  cases hd : Lib.decDigits u with
  | nil => exact absurd hd h3
  | cons c r =>
    have hc := h2 c (by rw [hd]; exact List.mem_cons_self ..)
    unfold Lib.atoiAll
    simp only
    rw [if_neg (by omega), ← hd]
    unfold Lib.parseMag
    rw [if_neg h3, h1]
    simp only
    rw [if_neg (by omega), if_neg (by omega), if_neg (by omega)]

theorem itoa_dec {x : Int} (h : 0 ≤ x) : Lib.itoa x = Lib.decDigits x.toNat := by
  unfold Lib.itoa
  rw [if_neg (by omega)]

theorem atoi_itoa {x : Int} (h0 : 0 ≤ x) (h1 : x < 9223372036854775808) : Lib.atoiAll (Lib.itoa x) = .ok x := by
  rw [itoa_dec h0, atoi_dec (by omega)]
  congr 1
  omega

/-! ## a step's text -/

def atoiV (l : List UInt8) : Int := match Lib.atoiAll l with
  | .ok v => v
  | .range => Lib.atoiSat l
  | _ => 0

/-- what is read of a piece -/
def step1 (s : List UInt8) : Option Stp2 :=
  if Lib.indexByte s 64 < 0 then (match Lib.atoiAll s with | .ok v => some (0, v) | _ => none)
  else (match Lib.atoiAll (s.take (Lib.indexByte s 64).toNat) with | .ok v => some (atoiV (s.drop ((Lib.indexByte s 64).toNat + 1)), v) | _ => none)

theorem not_in_itoa {x : Int} (h : 0 ≤ x) {c : UInt8} (hc : c.toNat < 48 ∨ 57 < c.toNat) : c ∉ Lib.itoa x := by
  rw [itoa_dec h]
  intro hm
  have := dec_digit _ c hm
  omega

theorem step1_txt1 {x : Stp2} (h : 0 ≤ x.1 ∧ x.1 ≤ 8 ∧ 1 ≤ x.2 ∧ x.2 ≤ 2147483648) : step1 (txt1 x) = some x := by
  have hn : (64 : UInt8) ∉ Lib.itoa x.2 := not_in_itoa (by omega) (by decide)
  unfold step1 txt1
  by_cases hp : 0 < x.1
  · rw [if_pos hp, indexByte_at hn, if_neg (by omega)]
    rw [Int.toNat_natCast, List.take_left, ← List.drop_drop, List.drop_left, atoi_itoa (by omega) (by omega)]
    simp only [List.drop_succ_cons, List.drop_zero, atoiV]
    rw [atoi_itoa (by omega) (by omega)]
  · rw [if_neg hp, List.append_nil, indexByte_not hn, if_pos (by omega), atoi_itoa (by omega) (by omega)]
    have : x.1 = 0 := by omega
    simp only
    rw [← this]

theorem txt1_no {x : Stp2} (h : 0 ≤ x.1 ∧ x.1 ≤ 8 ∧ 1 ≤ x.2 ∧ x.2 ≤ 2147483648) : (43 : UInt8) ∉ txt1 x := by
  unfold txt1
  intro hm
  rcases List.mem_append.1 hm with hm | hm
  · exact not_in_itoa (by omega) (by decide) hm
  · split at hm
    · rcases List.mem_cons.1 hm with hm | hm
      · exact absurd hm (by decide)
      · exact not_in_itoa (by omega) (by decide) hm
    · cases hm

theorem txt1_ne {x : Stp2} (h : 0 ≤ x.1 ∧ x.1 ≤ 8 ∧ 1 ≤ x.2 ∧ x.2 ≤ 2147483648) : txt1 x ≠ [] := by
  unfold txt1
  rw [itoa_dec (by omega)]
  intro e
  exact dec_ne _ (List.append_eq_nil_iff.1 e).1

theorem mapM_some {α β : Type} {f : α → Option β} {g : β → α} : ∀ {l : List β}, (∀ x ∈ l, f (g x) = some x) → (l.map g).mapM f = some l
  | [], _ => rfl
  | x :: r, h => by
    rw [List.map_cons, List.mapM_cons, h x (List.mem_cons_self ..), mapM_some fun y hy => h y (List.mem_cons_of_mem _ hy)]
    rfl

/-- what Parse reads -/
def readP (s : List UInt8) : Option (List Stp2) := (pieces 43 (min 9 (s.length + 1) - 1) s).mapM step1

theorem join_len_ge : ∀ {l : List (List UInt8)}, l.length ≤ (Lib.join l [43]).length + 1
  | [] => by simp
  | [x] => by simp
  | x :: y :: r => by
    have ih := join_len_ge (l := y :: r)
    rw [join_cons x (by simp), List.length_append, List.length_append]
    simp only [List.length_cons, List.length_nil] at ih ⊢
    omega

theorem readP_txt {l : List Stp2} (h : goodP l = true) : readP (txt l) = some l := by
  obtain ⟨h1, h2, h3⟩ := goodP_len h
  unfold readP txt
  rw [if_pos h]
  have hj := join_len_ge (l := l.map txt1)
  rw [List.length_map] at hj
  rw [pieces_join (by
    intro e
    rw [List.map_eq_nil_iff] at e
    rw [e] at h1
    simp at h1) (by
    rw [List.length_map]
    have hm : l.length ≤ min 9 ((Lib.join (l.map txt1) [43]).length + 1) := Nat.le_min.2 ⟨by omega, by omega⟩
    omega) (by
    intro x hx
    obtain ⟨y, hy, rfl⟩ := List.mem_map.1 hx
    exact txt1_no (h3 y hy))]
  exact mapM_some fun x hx => step1_txt1 (h3 x hx)

theorem txt_inj {l k : List Stp2} (hl : goodP l = true) (hk : goodP k = true) : txt l = txt k ↔ l = k := by
  constructor
  · intro e
    have := readP_txt hl
    rw [e, readP_txt hk] at this
    exact (Option.some.inj this).symm
  · rintro rfl; rfl

theorem txt_ne {l : List Stp2} (h : goodP l = true) : txt l ≠ [] := by
  obtain ⟨h1, h2, h3⟩ := goodP_len h
  unfold txt
  rw [if_pos h]
  cases l with
  | nil => simp at h1
  | cons x r =>
    intro e
    have hx := txt1_ne (h3 x (List.mem_cons_self ..))
    cases r with
    | nil => simp [Lib.join] at e; exact hx e
    | cons y r =>
      rw [List.map_cons, join_cons _ (by simp)] at e
      exact hx (List.append_eq_nil_iff.1 (List.append_eq_nil_iff.1 e).1).1

/-- what Parse answers -/
def parseP (s : List UInt8) : Option (List Stp2) := match readP s with
  | none => none
  | some p => if s = [] ∨ txt p ≠ s then none else some p

theorem parseP_some {s : List UInt8} {p : List Stp2} : parseP s = some p ↔ goodP p = true ∧ txt p = s := by
  unfold parseP
  constructor
  · intro h
    split at h
    · cases h
    · rename_i q hq
      split at h
      · cases h
      · rename_i hn
        cases h
        have h1 : s ≠ [] := fun e => hn (.inl e)
        have h2 : txt p = s := Classical.byContradiction fun e => hn (.inr e)
        refine ⟨?_, h2⟩
        cases hg : goodP p with
        | true => rfl
        | false =>
          exfalso
          apply h1
          rw [← h2, txt, if_neg (by rw [hg]; decide)]
  · rintro ⟨h1, rfl⟩
    rw [readP_txt h1]
    simp only
    rw [if_neg (by simp [txt_ne h1])]

theorem goodP_append {l k : List Stp2} (hl : goodP l = true) (hk : goodP k = true) (h : l.length + k.length ≤ 8) : goodP (l ++ k) = true := by
  obtain ⟨h1, h2, h3⟩ := goodP_len hl
  obtain ⟨g1, g2, g3⟩ := goodP_len hk
  unfold goodP at *
  simp only [Bool.and_eq_true, decide_eq_true_eq, List.all_append] at *
  exact ⟨⟨by simp; omega, by simp; omega⟩, hl.2, hk.2⟩

theorem join_append : ∀ {l k : List (List UInt8)} {sep : List UInt8}, l ≠ [] → k ≠ [] → Lib.join (l ++ k) sep = Lib.join l sep ++ sep ++ Lib.join k sep
  | [], _, _, h, _ => absurd rfl h
  | [x], k, sep, _, hk => by
    rw [List.singleton_append, join_cons x hk]
    simp [Lib.join]
  | x :: y :: r, k, sep, _, hk => by
    rw [List.cons_append, join_cons x (by simp), join_append (l := y :: r) (by simp) hk, join_cons x (r := y :: r) (by simp)]
    simp only [List.append_assoc]

end Go.Proofs.YtnhpljcjdfffkaaDoor.vc
