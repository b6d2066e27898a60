/-
  Package mask: what the reference's loops over its list reckon, and the contracts in the list's words.
-/
import Derived.Test.YtlenjadchmlliaaDoorRefs
namespace Go.Proofs.YtlenjadchmlliaaDoor.vc
open Go Go.AX
set_option linter.unusedVariables false
set_option linter.unusedSimpArgs false

theorem joinK_of {α : Type} {j : α} {f : α → Prop} (P : α → Prop) (hj : P j) (h : ∀ J, P J → f J) : joinK j f := h j hj

theorem slis_keep {m m' : Mem} {a : Option Addr} {n : Nat} {l : List Value} (h : SlIs m a n l) (hw : Wf m) (k : Keep m m') : SlIs m' a n l :=
  ⟨h.1, fun i x hx => by
    obtain ⟨b, o, h1, h2⟩ := h.2 i x hx
    exact ⟨b, o, h1, by rw [rd_congr (k.get b (hw.rd h2))]; exact h2⟩⟩

theorem keep_unset {m m' : Mem} {f : Nat} (hw : Wf m) (k : Keep (setFl m f) m') : Keep m (setFl m' m.fl) :=
  ⟨⟨Nat.le_trans hw.1 k.nx, k.wf.2⟩, k.nx, rfl, k.get⟩

theorem wf_setFl {m : Mem} (hw : Wf m) {f : Nat} (hf : f ≤ m.nx) : Wf (setFl m f) := ⟨hf, hw.2⟩

/-- two slices of integers: alike? -/
theorem ints_ok {m : Mem} {a1 a2 : Option Addr} {n1 c1 n2 c2 : Nat} {ys : List Nat} {Q : Value → Mem → Prop} (hw : Wf m) (h1 : SlIs m a1 n1 (ys.map fun k : Nat => Value.int .i64 (k : Int))) (h2 : SlIs m a2 n2 (ys.map fun k : Nat => Value.int .i64 (k : Int))) (hn : n1 ≤ 1000000)
    (h : ∀ m', Keep m m' → Q (.bool true) m') : CallW cx 19 [.slice a1 n1 c1, .slice a2 n2 c2] m Q := by
  have l1 : ys.length = n1 := by have := h1.1; simpa using this
  have l2 : ys.length = n2 := by have := h2.1; simpa using this
  have en : n1 = n2 := by omega
  subst en
  apply F19_ok; unfold F19
  rw [splitB_iff]
  refine ⟨fun e => by rw [neI_true] at e; exact absurd rfl e, fun e => ?_⟩
  refine ⟨fun i m1 w => ∃ k : Nat, k ≤ n1 ∧ i = (k : Int) ∧ w = n1 - k ∧ Keep m m1, ⟨n1, 0, Nat.zero_le _, rfl, rfl, Keep.refl hw⟩, ?_⟩
  rintro i m1 w ⟨k, hk, rfl, rfl, k1⟩
  rw [splitB_iff]
  refine ⟨fun e => ?_, fun e => h m1 k1⟩
  rw [ltI_true] at e
  have hkn : k < n1 := by unfold lenI at e; omega
  rw [mBind_iff]
  generalize hm2 : bump m1 9 = m2
  have k2 : Keep m m2 := hm2 ▸ k1.bump
  obtain ⟨y, hy⟩ : ∃ y, ys[k]? = some y := ⟨_, List.getElem?_eq_getElem (by rw [l1]; exact hkn)⟩
  obtain ⟨b, o, rfl, h0⟩ := (slis_keep h1 hw k2).2 k (.int .i64 (y : Int)) (by rw [List.getElem?_map, hy]; rfl)
  obtain ⟨b', o', rfl, h0'⟩ := (slis_keep h2 hw k2).2 k (.int .i64 (y : Int)) (by rw [List.getElem?_map, hy]; rfl)
  refine ⟨⟨by omega, by omega⟩, ?_⟩
  rw [vPtr_some]
  refine ⟨y, by rw [Int.toNat_natCast, Nat.mul_one]; exact h0, ⟨by omega, by omega⟩, ?_⟩
  rw [vPtr_some]
  refine ⟨y, by rw [Int.toNat_natCast, Nat.mul_one]; exact h0', ?_⟩
  rw [splitB_iff]
  exact ⟨fun e2 => by rw [neI_true] at e2; exact absurd rfl e2, fun _ => ⟨n1 - (k + 1), less_w hkn, k + 1, hkn, inc64 (by omega), rfl, k2⟩⟩

/-! ## counted and found in the list -/

theorem count_elems {x c : Nat} : ∀ {n : Nat}, ((elemsN n x).countP fun v => decide (v < c)) = pop (min n c) x
  | 0 => by simp [elemsN, pop, dsum]
  | n + 1 => by
    rw [elemsN_succ, List.countP_append, count_elems (n := n)]
    by_cases h : n < c
    · rw [show min (n + 1) c = n + 1 by omega, show min n c = n by omega, pop_bit]
      cases x.testBit n <;> simp [h]
    · rw [show min (n + 1) c = c by omega, show min n c = c by omega]
      cases x.testBit n <;> simp [h]

theorem mem_elems {n x k : Nat} : k ∈ elemsN n x ↔ k < n ∧ x.testBit k = true := by
  unfold elemsN
  rw [List.mem_filter, List.mem_range]

theorem elems_sorted (n x : Nat) : (elemsN n x).Pairwise (· < ·) := List.Pairwise.filter _ List.pairwise_lt_range

theorem find_elems {l : List Nat} (hs : l.Pairwise (· < ·)) {p : Nat → Bool} {k : Nat} (hk : k ∈ l) (hp : p k = true) (hm : ∀ j ∈ l, j < k → p j = false) : l.find? p = some k := by
  induction l with
  | nil => cases hk
  | cons a r ih =>
    rw [List.pairwise_cons] at hs
    rw [List.find?_cons]
    rcases List.mem_cons.1 hk with e | e
    · subst e; rw [hp]
    · have ha := hs.1 k e
      rw [hm a (by simp) ha]
      exact ih hs.2 e fun j hj hjk => hm j (List.mem_cons_of_mem _ hj) hjk

theorem clamp_le {i : Int} {k : Nat} (hk : k < 64) : clampW i ≤ k ↔ i ≤ (k : Int) := by unfold clampW; omega
theorem lt_clamp {i : Int} {k : Nat} (hk : k < 64) : (k : Int) < i ↔ k < clampW i := by unfold clampW; omega

/-- the least from a number on, in the list: the number, is there one -/
def fromL (i : Int) (l : List Nat) : Int × Bool := match l.find? fun v : Nat => decide (i ≤ (v : Int)) with
  | some v => ((v : Int), true)
  | none => (0, false)

def roundL (i : Int) (l : List Nat) : Int × Bool := if (fromL i l).2 = true then fromL i l else match l.head? with
  | some v => ((v : Int), true)
  | none => (0, false)

def nthL (i : Int) (l : List Nat) : Int × Bool := if 0 ≤ i then match l[i.toNat]? with
  | some v => ((v : Int), true)
  | none => (0, false)
  else (0, false)

theorem fromL_some {x k : Nat} {i : Int} (hk : k < 64) (hb : x.testBit k = true) (hc : clampW i ≤ k) (hm : ∀ j, clampW i ≤ j → j < k → x.testBit j = false) : fromL i (elemsN 64 x) = ((k : Int), true) := by
  unfold fromL
  rw [find_elems (elems_sorted 64 x) (mem_elems.2 ⟨hk, hb⟩) (by rw [decide_eq_true_iff]; exact (clamp_le hk).1 hc) (fun j hj hjk => by
    rw [decide_eq_false_iff_not]
    intro h
    have := hm j ((clamp_le (by omega)).2 h) hjk
    rw [(mem_elems.1 hj).2] at this; cases this)]

theorem fromL_none {x : Nat} {i : Int} (hm : ∀ j, clampW i ≤ j → x.testBit j = false) : fromL i (elemsN 64 x) = (0, false) := by
  unfold fromL
  have : (elemsN 64 x).find? (fun v : Nat => decide (i ≤ (v : Int))) = none := by
    rw [List.find?_eq_none]
    intro j hj
    obtain ⟨h1, h2⟩ := mem_elems.1 hj
    intro h
    have := hm j ((clamp_le h1).2 (by simpa using h))
    rw [h2] at this; cases this
  rw [this]

theorem head_least {x k : Nat} (hk : k < 64) (hb : x.testBit k = true) (hm : ∀ j, j < k → x.testBit j = false) : (elemsN 64 x).head? = some k := by
  have h0 : pop k x = 0 := by
    have : elemsN k x = [] := elemsN_gap (c := 0) (by omega) fun j _ h => hm j h
    rw [← elemsN_length, this]; rfl
  rw [List.head?_eq_getElem?, elemsN_at]
  exact ⟨hk, hb, h0⟩

theorem elems_none {x : Nat} (h : ∀ j, x.testBit j = false) : elemsN 64 x = [] := elemsN_gap (c := 0) (by omega) fun j _ _ => h j

/-- what the loop over the list has reckoned, from its end down to a place -/
def Reckoned (i : Int) (l : List Nat) (k : Nat) (rank first : Int) (there : Bool) : Prop :=
  rank = (((l.drop k).countP fun v : Nat => decide ((v : Int) < i) : Nat) : Int) ∧ (first, there) = fromL i (l.drop k)

theorem reckon_step {i : Int} {l : List Nat} {k v : Nat} {rank first : Int} {there : Bool} (hv : l[k]? = some v) (h : Reckoned i l (k + 1) rank first there) :
    ((v : Int) < i → Reckoned i l k (rank + 1) first there) ∧ (i ≤ (v : Int) → Reckoned i l k rank (v : Int) true) := by
  have hk : k < l.length := (List.getElem?_eq_some_iff.1 hv).1
  have hd : l.drop k = v :: l.drop (k + 1) := by
    rw [List.drop_eq_getElem_cons hk]
    rw [List.getElem?_eq_getElem hk] at hv
    cases hv; rfl
  obtain ⟨h1, h2⟩ := h
  unfold Reckoned
  rw [hd, List.countP_cons]
  refine ⟨fun hi => ⟨?_, ?_⟩, fun hi => ⟨?_, ?_⟩⟩
  · rw [h1, if_pos (by simpa using hi)]; omega
  · rw [h2]; unfold fromL; rw [List.find?_cons, decide_eq_false (by omega)]
  · rw [h1, if_neg (by simp; omega)]; rfl
  · unfold fromL; rw [List.find?_cons, decide_eq_true hi]

theorem dec_len {k : Nat} (h : k ≤ 1000) : subI .i64 (lenI k) 1 = (k : Int) - 1 := by unfold lenI; rw [subI_64 (by omega) (by omega)]
theorem dec_int {k : Nat} (h : k ≤ 1000) : subI .i64 ((k : Int)) 1 = (k : Int) - 1 := by rw [subI_64 (by omega) (by omega)]

theorem ofN_testBit {j : Nat} (hj : j < 64) : ∀ {l : List Int} {v : Int}, (ofN (l ++ [v])).testBit j = if (j : Int) = v then true else (ofN l).testBit j := by
  intro l v
  rw [ofN_snoc, Nat.testBit_or, testBit_bitW]
  by_cases h : (j : Int) = v
  · simp [h, hj]
  · simp [h]

theorem ofN_out {l : List Int} {v : Int} (h : ¬ (0 ≤ v ∧ v < 64)) : ofN (l ++ [v]) = ofN l := by
  rw [ofN_snoc]
  unfold bitW
  rw [if_neg h, Nat.or_zero]

theorem eqS_same (l : List UInt8) : eqS ⟨l.toArray⟩ ⟨l.toArray⟩ = true := by
  unfold eqS
  have : ∀ l : List UInt8, bytesEq l l = true := by
    intro l
    induction l with
    | nil => rfl
    | cons a r ih => unfold bytesEq; rw [decide_eq_true rfl]; exact ih
  exact this _

theorem eqI_same (x : Int) : eqI x x = true := eqI_true.2 rfl

theorem fromL_off {i : Int} {l : List Nat} (h : (fromL i l).2 = false) : fromL i l = (0, false) := by
  unfold fromL at h ⊢
  split at h
  · cases h
  · rfl

theorem first_ok' {x : Nat} {i : Int} {m : Mem} {Q : Value → Mem → Prop} (hx : x < 18446744073709551616) (ht : tabsIn tabs m)
    (h : Q (.tuple #[.int .i64 (fromL i (elemsN 64 x)).1, .bool (fromL i (elemsN 64 x)).2]) m) : CallW cx 18 [.int .u64 x, .int .i64 i] m Q := by
  refine first_ok hx ht (fun k a b c d => ?_) (fun hno => ?_)
  · rw [fromL_some a b c d] at h; exact h
  · rw [fromL_none hno] at h; exact h

theorem around_ok' {x : Nat} {i : Int} {m : Mem} {Q : Value → Mem → Prop} (hx : x < 18446744073709551616) (ht : tabsIn tabs m)
    (h : Q (.tuple #[.int .i64 (roundL i (elemsN 64 x)).1, .bool (roundL i (elemsN 64 x)).2]) m) : CallW cx 13 [.int .u64 x, .int .i64 i] m Q := by
  unfold roundL at h
  refine around_ok hx ht (fun k a b c d => ?_) (fun hno k a b c => ?_) (fun hno => ?_)
  · rw [fromL_some a b c d, if_pos rfl] at h; exact h
  · rw [fromL_none hno, if_neg (by decide), head_least a b c] at h; exact h
  · rw [fromL_none (fun j _ => hno j), if_neg (by decide), elems_none hno] at h; exact h

theorem nth_ok' {x : Nat} {i : Int} {m : Mem} {Q : Value → Mem → Prop} (hx : x < 18446744073709551616) (hw : Wf m) (ht : tabsIn tabs m)
    (h : ∀ m', Keep m m' → Q (.tuple #[.int .i64 (nthL i (elemsN 64 x)).1, .bool (nthL i (elemsN 64 x)).2]) m') : CallW cx 14 [.int .u64 x, .int .i64 i] m Q := by
  refine nth_ok hx hw ht (fun m' j k e a b c w n f g => ?_) (fun m' hno w n f g => ?_)
  · have := h m' ⟨w, n, f, g⟩
    have e2 : nthL i (elemsN 64 x) = ((k : Int), true) := by
      unfold nthL
      rw [if_pos (by omega), show i.toNat = j by omega, elemsN_at.2 ⟨a, b, c⟩]
    rw [e2] at this; exact this
  · have := h m' ⟨w, n, f, g⟩
    have e2 : nthL i (elemsN 64 x) = (0, false) := by
      unfold nthL
      split
      · rename_i hi
        rw [List.getElem?_eq_none (by rw [elemsN_length]; omega)]
      · rfl
    rw [e2] at this; exact this

theorem list_ok' {x : Nat} {m : Mem} {Q : Value → Mem → Prop} (hx : x < 18446744073709551616) (hw : Wf m) (ht : tabsIn tabs m)
    (h : ∀ m' a n c, Keep m m' → SlIs m' a n ((elemsN 64 x).map fun k : Nat => Value.int .i64 (k : Int)) → Q (.slice a n c) m') : CallW cx 20 [.int .u64 x] m Q := by
  refine list_ok hx hw ht fun m' a n c hG w nx f g => h m' a n c ⟨w, nx, f, g⟩ ⟨(hG.1).trans (Nat.mul_one _), fun i v hv => ?_⟩
  rcases hG.2 with ⟨rfl, rfl, rfl⟩ | ⟨b, rfl, rfl, _, hR⟩
  · have h8 : ((elemsN 64 x).map fun k : Nat => Value.int .i64 (k : Int)).length = 0 * 1 := hG.1
    have := (List.getElem?_eq_some_iff.1 hv).1
    omega
  · exact ⟨b, 0, rfl, by rw [hR.rd, Nat.zero_add]; exact hv⟩

theorem beq_self' {b : Bool} : (b == b) = true := by cases b <;> rfl

theorem has_cases {x : Nat} {i : Int} {m : Mem} {b : Nat} {T F : Prop} (hr : Row m b (boolsOf x) 37 false) (hT : T) :
    splitB (leI 0 i) (splitB (ltI i 64) ((0 ≤ i ∧ i < ((64 : Nat) : Int)) ∧ (∃ b179 : Bool, rd m b (0 + Int.toNat i * 1) = some (.bool b179) ∧ (splitB (hasB x i == b179) T F))) (splitB (hasB x i == false) T F)) (splitB (hasB x i == false) T F) := by
  rw [splitB_iff]
  have off : ¬ (0 ≤ i ∧ i < 64) → hasB x i = false := fun h => by
    cases e : hasB x i with
    | false => rfl
    | true => rw [hasB_iff] at e; exact absurd ⟨e.1, e.2.1⟩ h
  refine ⟨fun e => ?_, fun e => ?_⟩
  · rw [leI_true] at e
    rw [splitB_iff]
    refine ⟨fun e2 => ?_, fun e2 => ?_⟩
    · rw [ltI_true] at e2
      refine ⟨⟨e, e2⟩, x.testBit i.toNat, by rw [hr.rd, Nat.mul_one, Nat.zero_add, boolsOf_get (by omega)], ?_⟩
      have : hasB x i = x.testBit i.toNat := by unfold hasB; rw [decide_eq_true e, decide_eq_true e2]; rfl
      rw [this, beq_self', splitB_true]
      exact hT
    · rw [ltI_false] at e2
      rw [off (by omega), beq_self', splitB_true]
      exact hT
  · rw [leI_false] at e
    rw [off (by omega), beq_self', splitB_true]
    exact hT

theorem bitW_out {i : Int} (h : ¬ (0 ≤ i ∧ i < 64)) : bitW i = 0 := by unfold bitW; rw [if_neg h]

theorem or_in {x u : Nat} (hu : u < 64) : ∀ j, j < 64 → (x ||| bitW (u : Int)).testBit j = if j = u then true else x.testBit j := by
  intro j hj
  rw [Nat.testBit_or, testBit_bitW]
  by_cases h : j = u
  · subst h; simp [hj]
  · rw [if_neg h]
    have : decide ((j : Int) = (u : Int) ∧ j < 64) = false := by rw [decide_eq_false_iff_not]; omega
    rw [this, Bool.or_false]

theorem andnot_in {x u : Nat} (hu : u < 64) : ∀ j, j < 64 → (x &&& (18446744073709551615 - bitW (u : Int))).testBit j = if j = u then false else x.testBit j := by
  intro j hj
  have e : 18446744073709551615 - bitW (u : Int) = 2 ^ 64 - (bitW (u : Int) + 1) := by omega
  rw [Nat.testBit_and, e, Nat.testBit_two_pow_sub_succ (bitW_lt _), testBit_bitW]
  by_cases h : j = u
  · subst h; simp [hj]
  · rw [if_neg h]
    have : decide ((j : Int) = (u : Int) ∧ j < 64) = false := by rw [decide_eq_false_iff_not]; omega
    rw [this, decide_eq_true hj]; simp

theorem andnot_out {x : Nat} {i : Int} (hx : x < 18446744073709551616) (h : ¬ (0 ≤ i ∧ i < 64)) : x &&& (18446744073709551615 - bitW i) = x := by
  rw [bitW_out h, Nat.sub_zero, show (18446744073709551615 : Nat) = 2 ^ 64 - 1 from rfl, Nat.and_two_pow_sub_one_eq_mod]
  exact Nat.mod_eq_of_lt hx

end Go.Proofs.YtlenjadchmlliaaDoor.vc
