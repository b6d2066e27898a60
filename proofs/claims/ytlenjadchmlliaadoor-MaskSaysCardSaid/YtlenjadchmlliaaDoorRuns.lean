/-
  Package mask: the words of a set are those of its runs, told by the program and by the reference alike.
-/
import Derived.Test.YtlenjadchmlliaaDoorText
namespace Go.Proofs.YtlenjadchmlliaaDoor.vc
open Go Go.AX
set_option linter.unusedVariables false
set_option linter.unusedSimpArgs false

/-! ## runs -/

/-- a run begins here -/
def isStart (x i : Nat) : Bool := x.testBit i && !(decide (0 < i) && x.testBit (i - 1))

def starts (n x : Nat) : List Nat := (List.range n).filter (fun i => isStart x i)

theorem starts_succ (n x : Nat) : starts (n + 1) x = starts n x ++ if isStart x n then [n] else [] := by
  unfold starts
  rw [List.range_succ, List.filter_append]
  congr 1
  cases h : isStart x n <;> simp [h]

theorem starts_length (n x : Nat) : (starts n x).length ≤ n := by
  induction n with
  | zero => exact Nat.le_refl _
  | succ n ih => rw [starts_succ, List.length_append]; split <;> simp <;> omega

theorem starts_gap {x c : Nat} : ∀ {d : Nat}, c ≤ d → (∀ j, c ≤ j → j < d → isStart x j = false) → starts d x = starts c x
  | 0, h, _ => by have : c = 0 := by omega
                  rw [this]
  | d + 1, h, hj => by
    by_cases he : c = d + 1
    · rw [he]
    · rw [starts_succ, hj d (by omega) (by omega), starts_gap (d := d) (by omega) fun j h1 h2 => hj j h1 (by omega)]
      simp

/-- where a run ends -/
def endN (x : Nat) : Nat → Nat → Nat
  | 0, i => i
  | n + 1, i => if x.testBit (i + 1) then endN x n (i + 1) else i

def runEnd (x i : Nat) : Nat := endN x 64 i

theorem endN_eq {x k : Nat} (he : x.testBit (k + 1) = false) : ∀ {n i : Nat}, i ≤ k → k - i ≤ n → (∀ j, i < j → j ≤ k → x.testBit j = true) → endN x n i = k
  | 0, i, h1, h2, _ => by unfold endN; omega
  | n + 1, i, h1, h2, h3 => by
    unfold endN
    by_cases hi : i = k
    · rw [hi, he]; simp
    · rw [h3 (i + 1) (by omega) (by omega), if_pos rfl]
      exact endN_eq he (by omega) (by omega) fun j a b => h3 j (by omega) b

theorem endN_ge (x : Nat) : ∀ n i, i ≤ endN x n i
  | 0, i => Nat.le_refl _
  | n + 1, i => by
    unfold endN
    split
    · have := endN_ge x n (i + 1); omega
    · exact Nat.le_refl _

theorem endN_bit {x : Nat} : ∀ {n i}, x.testBit i = true → x.testBit (endN x n i) = true
  | 0, i, h => h
  | n + 1, i, h => by
    unfold endN
    split
    · rename_i h1; exact endN_bit h1
    · exact h

theorem runEnd_eq {x i k : Nat} (he : x.testBit (k + 1) = false) (h1 : i ≤ k) (hk : k < 64) (h3 : ∀ j, i < j → j ≤ k → x.testBit j = true) : runEnd x i = k :=
  endN_eq he h1 (by omega) h3

def runB (x i : Nat) : List UInt8 := numB i ++ if i < runEnd x i then 45 :: numB (runEnd x i) else []

theorem runB_len (x i : Nat) : 0 < (runB x i).length ∧ (runB x i).length ≤ 5 := by
  unfold runB
  have h1 := numB_len i
  have h2 := numB_len (runEnd x i)
  split <;> simp <;> omega

/-- the words of a set -/
def textN (n x : Nat) : List UInt8 := Lib.join ((starts n x).map (runB x)) [44]

theorem join_snoc (l : List (List UInt8)) (y : List UInt8) : Lib.join (l ++ [y]) [44] = if l = [] then y else Lib.join l [44] ++ [44] ++ y := by
  cases l with
  | nil => simp [Lib.join_one]
  | cons a r =>
    rw [if_neg (by simp), List.cons_append, Lib.join_cons, Lib.join_cons]
    simp [Lib.joinTail]

theorem textN_start {n x : Nat} (h : isStart x n = true) : textN (n + 1) x = if starts n x = [] then runB x n else textN n x ++ [44] ++ runB x n := by
  unfold textN
  rw [starts_succ, if_pos h, List.map_append, List.map_cons, List.map_nil, join_snoc]
  simp only [List.map_eq_nil_iff]

theorem textN_no {n x : Nat} (h : isStart x n = false) : textN (n + 1) x = textN n x := by
  unfold textN
  rw [starts_succ, h]; simp

theorem textN_len (x : Nat) : ∀ n, (textN n x).length ≤ 6 * n
  | 0 => by simp [textN, starts, Lib.join_nil]
  | n + 1 => by
    have ih := textN_len x n
    have hr := runB_len x n
    cases h : isStart x n with
    | true =>
      rw [textN_start h]
      split
      · omega
      · simp; omega
    | false => rw [textN_no h]; omega

theorem textN_nil {n x : Nat} : textN n x = [] ↔ starts n x = [] := by
  constructor
  · intro h
    cases hs : starts n x with
    | nil => rfl
    | cons a r =>
      exfalso
      unfold textN at h
      rw [hs, List.map_cons, Lib.join_cons] at h
      have := runB_len x a
      have h2 := (List.append_eq_nil_iff.1 h).1
      rw [h2] at this
      simp at this
  · intro h
    unfold textN
    rw [h]; rfl

def setB (x : Nat) : List UInt8 := if starts 64 x = [] then [110, 111, 110, 101] else textN 64 x

/-! ## the reference's sets -/

def boolsOf (x : Nat) : List Value := (List.range 64).map fun j => Value.bool (x.testBit j)

theorem boolsOf_get {x j : Nat} (h : j < 64) : (boolsOf x)[j]? = some (.bool (x.testBit j)) := by
  unfold boolsOf
  rw [List.getElem?_map, List.getElem?_range h]; rfl

theorem boolsOf_length (x : Nat) : (boolsOf x).length = 64 := by unfold boolsOf; simp

theorem joinK_intro {α : Type} {j : α} {f : α → Prop} (R : α → Prop) (hj : R j) (hf : ∀ J, R J → f J) : joinK j f := hf j hj

theorem eqS_nil {l : List UInt8} : eqS ⟨l.toArray⟩ (ByteArray.mk #[]) = true ↔ l = [] := by
  unfold eqS
  cases l with
  | nil => simp [bytesEq]
  | cons a r => simp [bytesEq]

theorem settext_ok {x : Nat} {m : Mem} {Q : Value → Mem → Prop} (hx : x < 18446744073709551616) (hw : Wf m) (h : ∀ m', Keep m m' → Q (strV (setB x)) m') : CallW cx 22 [.agg (List.toArray (boolsOf x))] m Q := by
  apply F22_ok
  unfold F22
  rw [mBind_iff]
  generalize hm1 : newO m _ = m1
  have hk1 : Keep m m1 := hm1 ▸ (Keep.refl hw).newO
  have hR1 : Row m1 m.nx (boolsOf x) 37 false := hm1 ▸ Row.newO
  have hb0 : m.nx < m1.nx := hk1.wf.row hR1
  refine ⟨fun s3 x4 m2 w => ∃ i : Nat, s3 = ⟨(textN i x).toArray⟩ ∧ x4 = (i : Int) ∧ i ≤ 64 ∧ w = 64 - i ∧ Keep m1 m2, ⟨64, 0, rfl, rfl, by omega, rfl, Keep.refl hk1.wf⟩, ?_⟩
  rintro _ _ m2 w ⟨i, rfl, rfl, hi, rfl, hk2⟩
  have hR2 := hk2.row hk1.wf hR1
  rw [splitB_iff]
  refine ⟨fun hlt => ?_, fun hge => ?_⟩
  · rw [ltI_true] at hlt
    have hi64 : i < 64 := by omega
    have hk64 : 64 - (i + 1) < 64 - i := Nat.sub_lt_sub_left hi64 (Nat.lt_succ_self i)
    have nxt : addI .i64 (i : Int) 1 = ((i + 1 : Nat) : Int) := by rw [addI_64 (by omega) (by omega)]; omega
    have rdS : ∀ (M : Mem) (j : Nat), Row M m.nx (boolsOf x) 37 false → j < 64 → rd M m.nx (0 + Int.toNat (j : Int) * 1) = some (.bool (x.testBit j)) := fun M j hR hj => by
      rw [hR.rd, Int.toNat_natCast, Nat.mul_one, Nat.zero_add, boolsOf_get hj]
    have skip : isStart x i = false → ∃ n_12 : Nat, n_12 < 64 - i ∧ ∃ i' : Nat, (⟨(textN i x).toArray⟩ : ByteArray) = ⟨(textN i' x).toArray⟩ ∧ addI .i64 (i : Int) 1 = (i' : Int) ∧ i' ≤ 64 ∧ n_12 = 64 - i' ∧ Keep m1 m2 := fun hs =>
      ⟨64 - (i + 1), hk64, i + 1, by rw [textN_no hs], nxt, hi64, rfl, hk2⟩
    refine joinK_intro (fun J => isStart x i = true → J m2) ?_ ?_
    · intro hst
      have hxi : x.testBit i = true := by unfold isStart at hst; rw [Bool.and_eq_true] at hst; exact hst.1
      refine joinK_intro (fun J2 => J2 ((runEnd x i : Nat) : Int) m2) ?_ ?_
      · have hre : i ≤ runEnd x i ∧ runEnd x i < 64 := ⟨endN_ge x 64 i, bit_lt hx (endN_bit hxi)⟩
        refine joinK_intro (fun J3 => ∀ t : List UInt8, t ++ runB x i = textN (i + 1) x → J3 ⟨t.toArray⟩ m2) ?_ ?_
        · intro t ht
          have hlen : (t ++ runB x i).length ≤ 6 * (i + 1) := by rw [ht]; exact textN_len x (i + 1)
          have h1 := numB_len i
          have h2 := numB_len (runEnd x i)
          refine num_ok hi64 hk2.wf fun m6 hk6 => ⟨_, rfl, ?_, ?_⟩
          · show t.length + (numB i).length ≤ _
            unfold runB at hlen
            simp at hlen
            omega
          · have hk26 := hk2.trans hk6
            rw [splitB_iff]
            refine ⟨fun hlt2 => ?_, fun hge2 => ?_⟩
            · rw [ltI_true] at hlt2
              have hlt3 : i < runEnd x i := by omega
              unfold runB at hlen ht
              rw [if_pos hlt3] at hlen ht
              simp at hlen
              refine ⟨?_, ?_⟩
              · show (t ++ numB i).length + 1 ≤ _
                simp; omega
              · refine num_ok hre.2 hk26.wf fun m7 hk7 => ⟨_, rfl, ?_, 64 - (i + 1), hk64, i + 1, ?_, nxt, hi64, rfl, hk26.trans hk7⟩
                · show (t ++ numB i ++ [45]).length + (numB (runEnd x i)).length ≤ _
                  simp; omega
                · rw [← ht]
                  show (⟨(t ++ numB i ++ [45] ++ numB (runEnd x i)).toArray⟩ : ByteArray) = _
                  simp
            · rw [ltI_false] at hge2
              have hn : ¬ i < runEnd x i := by omega
              unfold runB at ht
              rw [if_neg hn] at ht
              refine ⟨64 - (i + 1), hk64, i + 1, ?_, nxt, hi64, rfl, hk26⟩
              rw [← ht]
              show (⟨(t ++ numB i).toArray⟩ : ByteArray) = _
              simp
        · intro J3 hJ3
          have hst2 := textN_start hst
          have hne := textN_nil (n := i) (x := x)
          rw [splitB_iff]
          refine ⟨fun he => ?_, fun he => ?_⟩
          · have hn : textN i x ≠ [] := by
              intro h0
              rw [eqS_nil.2 h0] at he; cases he
            rw [if_neg (fun h0 => hn (hne.2 h0))] at hst2
            refine ⟨?_, ?_⟩
            · have := textN_len x i
              show (textN i x).length + 1 ≤ _
              omega
            · exact hJ3 (textN i x ++ [44]) hst2.symm
          · have hn : textN i x = [] := by
              cases hb : eqS ⟨(textN i x).toArray⟩ (ByteArray.mk #[]) with
              | true => exact eqS_nil.1 hb
              | false => rw [hb] at he; cases he
            rw [if_pos (hne.1 hn)] at hst2
            have := hJ3 (textN i x) (by rw [hn, hst2]; rfl)
            exact this
      · intro J2 hJ2
        refine ⟨fun x5 m8 w => ∃ k : Nat, x5 = (k : Int) ∧ i ≤ k ∧ k < 64 ∧ w = 64 - k ∧ m8 = m2 ∧ (∀ j, i < j → j ≤ k → x.testBit j = true), ⟨64 - i, i, rfl, Nat.le_refl _, hi64, rfl, rfl, fun j a b => by omega⟩, ?_⟩
        rintro _ m8 w ⟨k, rfl, hik, hk, rfl, rfl, hall⟩
        have nk : addI .i64 (k : Int) 1 = ((k + 1 : Nat) : Int) := by rw [addI_64 (by omega) (by omega)]; omega
        rw [nk, splitB_iff]
        refine ⟨fun hlt2 => ?_, fun hge2 => ?_⟩
        · rw [ltI_true] at hlt2
          have hk1' : k + 1 < 64 := by omega
          refine ⟨⟨by omega, by omega⟩, _, rdS _ (k + 1) hR2 hk1', ?_⟩
          rw [splitB_iff]
          refine ⟨fun hb => ⟨64 - (k + 1), Nat.sub_lt_sub_left hk (Nat.lt_succ_self k), k + 1, rfl, by omega, hk1', rfl, rfl, fun j a b => ?_⟩, fun hb => ?_⟩
          · by_cases hj : j = k + 1
            · rw [hj]; exact hb
            · exact hall j a (by omega)
          · rw [← runEnd_eq hb hik hk hall]; exact hJ2
        · rw [ltI_false] at hge2
          have h63 : k = 63 := by omega
          have hb : x.testBit (k + 1) = false := by
            cases hb : x.testBit (k + 1) with
            | false => rfl
            | true => have := bit_lt hx hb; omega
          rw [← runEnd_eq hb hik hk hall]; exact hJ2
    · intro J hJ
      refine ⟨⟨by omega, by omega⟩, _, rdS _ i hR2 hi64, ?_⟩
      rw [splitB_iff]
      refine ⟨fun hb => ?_, fun hb => ?_⟩
      · exact skip (by unfold isStart; cases hxi : x.testBit i with
          | false => rfl
          | true => rw [hxi] at hb; cases hb)
      · have hxi : x.testBit i = true := by
          cases hxi : x.testBit i with
          | true => rfl
          | false => rw [hxi] at hb; cases hb
        rw [splitB_iff]
        refine ⟨fun h0 => ?_, fun h0 => ?_⟩
        · rw [ltI_true] at h0
          have hs : subI .i64 (i : Int) 1 = ((i - 1 : Nat) : Int) := by rw [subI_64 (by omega) (by omega)]; omega
          rw [hs]
          refine ⟨⟨by omega, by omega⟩, _, rdS _ (i - 1) hR2 (by omega), ?_⟩
          rw [splitB_iff]
          refine ⟨fun hb2 => skip ?_, fun hb2 => hJ ?_⟩
          · unfold isStart; rw [hxi, hb2, decide_eq_true (by omega)]; rfl
          · unfold isStart; rw [hxi, hb2, Bool.and_false]; rfl
        · rw [ltI_false] at h0
          refine hJ ?_
          unfold isStart; rw [hxi, decide_eq_false (by omega)]; rfl
  · rw [ltI_false] at hge
    have h64 : i = 64 := by omega
    subst h64
    have hQ := h m2 (hk1.trans hk2)
    unfold setB at hQ
    rw [splitB_iff]
    refine ⟨fun he => ?_, fun he => ?_⟩
    · rw [eqS_nil, textN_nil] at he
      rw [if_pos he] at hQ
      exact hQ
    · rw [if_neg (fun h0 => by rw [eqS_nil.2 (textN_nil.2 h0)] at he; cases he)] at hQ
      exact hQ

end Go.Proofs.YtlenjadchmlliaaDoor.vc
