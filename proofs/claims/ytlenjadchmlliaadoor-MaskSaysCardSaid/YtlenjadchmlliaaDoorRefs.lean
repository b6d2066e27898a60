/-
  Package mask: the reference's sets: of a word, its list, its word; a set of a list of numbers.
-/
import Derived.Test.YtlenjadchmlliaaDoorString
import Derived.Test.YtlenjadchmlliaaDoorAxArg
namespace Go.Proofs.YtlenjadchmlliaaDoor.vc
open Go Go.AX
set_option linter.unusedVariables false
set_option linter.unusedSimpArgs false

theorem inc64 {k : Nat} (h : k ≤ 1000000) : addI .i64 (k : Int) 1 = ((k + 1 : Nat) : Int) := by rw [addI_64 (by omega) (by omega)]; omega
theorem less_w {n k : Nat} (h : k < n) : n - (k + 1) < n - k := by omega

theorem okL_of {P : Prop} (h : P) : ∀ (l : List Value) (n : Nat), l.length = n → (∀ v ∈ l, one1 v = true) → okL l n P
  | [], 0, _, _ => h
  | [], n + 1, e, _ => by simp at e
  | v :: r, 0, e, _ => by simp at e
  | v :: r, n + 1, e, ho => by
    have ih := okL_of h r n (by simpa using e) (fun u hu => ho u (List.mem_cons_of_mem _ hu))
    have h1 := ho v (by simp)
    show vOne v _
    cases v <;> first | exact ih | (simp [one1] at h1)

theorem okL_bools {P : Prop} {x : Nat} (h : P) : okL (boolsOf x) 64 P := okL_of h _ _ (boolsOf_length x) fun v hv => by
  unfold boolsOf at hv
  obtain ⟨j, _, rfl⟩ := List.mem_map.1 hv
  rfl

theorem rows64 {m : Mem} {b x : Nat} {e : TypeId} {y : Bool} (h : Row m b (boolsOf x) e y) : rowAtL m ⟨b, 0, none⟩ 64 = some (boolsOf x) := by
  have := h.rowAll
  rw [boolsOf_length] at this
  exact this

theorem over64 {x y : Nat} : over (boolsOf x) 0 (boolsOf y) = boolsOf y := by
  unfold over
  rw [List.take_zero, List.nil_append, List.drop_eq_nil_of_le (by rw [boolsOf_length, boolsOf_length]; omega), List.append_nil]

theorem zeros64 : boolsOf 0 = [.bool (false), .bool (false), .bool (false), .bool (false), .bool (false), .bool (false), .bool (false), .bool (false), .bool (false), .bool (false), .bool (false), .bool (false), .bool (false), .bool (false), .bool (false), .bool (false), .bool (false), .bool (false), .bool (false), .bool (false), .bool (false), .bool (false), .bool (false), .bool (false), .bool (false), .bool (false), .bool (false), .bool (false), .bool (false), .bool (false), .bool (false), .bool (false), .bool (false), .bool (false), .bool (false), .bool (false), .bool (false), .bool (false), .bool (false), .bool (false), .bool (false), .bool (false), .bool (false), .bool (false), .bool (false), .bool (false), .bool (false), .bool (false), .bool (false), .bool (false), .bool (false), .bool (false), .bool (false), .bool (false), .bool (false), .bool (false), .bool (false), .bool (false), .bool (false), .bool (false), .bool (false), .bool (false), .bool (false), .bool (false)] := by
  kernel_rfl

/-- a place of the row written -/
theorem set64 {x y j : Nat} {b : Bool} (h : ∀ i, i < 64 → y.testBit i = if i = j then b else x.testBit i) : (boolsOf x).set j (.bool b) = boolsOf y := by
  apply List.ext_getElem?
  intro i
  rw [List.getElem?_set, boolsOf_length]
  by_cases hi : i < 64
  · rw [boolsOf_get hi, boolsOf_get hi, h i hi]
    by_cases e : j = i
    · rw [if_pos e, if_pos (by omega), if_pos e.symm]
    · rw [if_neg e, if_neg (fun q => e q.symm)]
  · rw [List.getElem?_eq_none (by rw [boolsOf_length]; omega), List.getElem?_eq_none (by rw [boolsOf_length]; omega)]
    by_cases e : j = i
    · rw [if_pos e, if_neg (by omega)]
    · rw [if_neg e]

theorem quoI_u64 {x y : Nat} (hx : x < 18446744073709551616) : quoI .u64 (x : Int) (y : Int) = ((x / y : Nat) : Int) := by
  have h1 : x / y ≤ x := Nat.div_le_self x y
  have e : Int.tdiv (x : Int) (y : Int) = ((x / y : Nat) : Int) := (Int.ofNat_tdiv x y).symm
  unfold quoI
  rw [e]
  clear e
  generalize x / y = q at h1 ⊢
  exact wrapI_fit (by show (0 : Int) ≤ _; omega) (by show _ ≤ (18446744073709551615 : Int); omega)

theorem bit_mod {x k : Nat} : eqI (Int.tmod ((x / 2 ^ k : Nat) : Int) 2) 1 = x.testBit k := by
  have e : Int.tmod ((x / 2 ^ k : Nat) : Int) ((2 : Nat) : Int) = ((x / 2 ^ k % 2 : Nat) : Int) := (Int.ofNat_tmod _ _).symm
  rw [show (2 : Int) = ((2 : Nat) : Int) from rfl, e, Bool.eq_iff_iff, eqI_true, Nat.testBit_eq_decide_div_mod_eq, decide_eq_true_iff]
  omega

theorem of_ok {x : Nat} {m : Mem} {Q : Value → Mem → Prop} (hx : x < 18446744073709551616) (hw : Wf m) (h : ∀ m', Keep m m' → Q (.agg (List.toArray (boolsOf x))) m') : CallW cx 16 [.int .u64 x] m Q := by
  apply F16_ok
  unfold F16
  rw [← zeros64, mBind_iff]
  generalize hm1 : newO m _ = m1
  have k1 : Keep m m1 := hm1 ▸ (Keep.refl hw).newO
  have n1 : m1.nx = m.nx + 1 := by rw [← hm1]; rfl
  have r1 : Row m1 m.nx (boolsOf 0) 37 false := hm1 ▸ Row.newO
  rw [mBind_iff]
  generalize hm2 : newO m1 _ = m2
  have k2 : Keep m m2 := hm2 ▸ k1.newO
  have n2 : m2.nx = m1.nx + 1 := by rw [← hm2]; rfl
  have r1' : Row m2 m.nx (boolsOf 0) 37 false := hm2 ▸ r1.old (by omega)
  have r2 : Row m2 m1.nx (boolsOf 0) 37 false := hm2 ▸ Row.newO
  have hfl := hw.1
  refine ⟨fun a i m3 w => ∃ k : Nat, k ≤ 64 ∧ i = (k : Int) ∧ w = 64 - k ∧ a = ((x / 2 ^ k : Nat) : Int) ∧ Keep m m3 ∧ m1.nx < m3.nx ∧ Row m3 m.nx (boolsOf 0) 37 false ∧ Row m3 m1.nx (boolsOf (x % 2 ^ k)) 37 false,
    ⟨64, 0, by omega, rfl, rfl, by simp, k2, by omega, r1', by rw [Nat.pow_zero, Nat.mod_one]; exact r2⟩, ?_⟩
  rintro a i m3 w ⟨k, hk, rfl, rfl, rfl, k3, n3, r3, r4⟩
  have eB : ∀ j : Nat, 0 + Int.toNat (j : Int) * 1 = j := fun j => by omega
  rw [splitB_iff]
  refine ⟨fun e => ?_, fun e => ?_⟩
  · rw [ltI_true] at e
    have hk64 : k < 64 := by omega
    refine ⟨by decide, ⟨by omega, by omega⟩, by rw [eB]; exact r4.okW (by have := k3.fl; omega) (by rw [boolsOf_length]; omega), ?_⟩
    rw [mBind_iff]
    refine ⟨by decide, 64 - (k + 1), less_w hk64, k + 1, hk64, inc64 (by omega), rfl, ?_, k3.wr (by omega), by simpa using n3, r3.apart (by omega), ?_⟩
    · have h1 : x / 2 ^ k ≤ x := Nat.div_le_self _ _
      have := quoI_u64 (x := x / 2 ^ k) (y := 2) (by omega)
      rw [show (2 : Int) = ((2 : Nat) : Int) from rfl, this, Nat.div_div_eq_div_mul, ← Nat.pow_succ]
    · rw [eB, bit_mod]
      have := r4.wr1 (o := k) (v := .bool (x.testBit k)) (by rw [boolsOf_length]; omega)
      rw [set64 (y := x % 2 ^ (k + 1)) (fun i hi => by
        rw [Nat.testBit_mod_two_pow, Nat.testBit_mod_two_pow]
        by_cases e : i = k
        · subst e; simp
        · rw [if_neg e]
          have : decide (i < k + 1) = decide (i < k) := by rw [decide_eq_decide]; omega
          rw [this])] at this
      exact this
  · rw [ltI_false] at e
    have hk64 : k = 64 := by omega
    subst hk64
    rw [Nat.mod_eq_of_lt (show x < 2 ^ 64 from hx)] at r4
    refine ⟨boolsOf x, rows64 r4, okL_bools ⟨r3.okW (by have := k3.fl; omega) (by rw [boolsOf_length]; omega), ?_⟩⟩
    rw [mBind_iff]
    have r5 := r3.wr (o := 0) (vs := boolsOf x) (by rw [boolsOf_length, boolsOf_length]; omega)
    rw [over64] at r5
    exact ⟨boolsOf x, rows64 r5, h _ (k3.wr (Nat.le_refl _))⟩

/-- a slice whose cells hold the elements -/
theorem refList_ok {x : Nat} {m : Mem} {Q : Value → Mem → Prop} (hx : x < 18446744073709551616) (hw : Wf m)
    (h : ∀ m' a n c, Keep m m' → SlIs m' a n ((elemsN 64 x).map fun k : Nat => Value.int .i64 (k : Int)) → Q (.slice a n c) m') : CallW cx 17 [.agg (List.toArray (boolsOf x))] m Q := by
  apply F17_ok
  unfold F17
  rw [mBind_iff]
  generalize hm1 : newO m _ = m1
  have k1 : Keep m m1 := hm1 ▸ (Keep.refl hw).newO
  have n1 : m1.nx = m.nx + 1 := by rw [← hm1]; rfl
  have r1 : Row m1 m.nx (boolsOf x) 37 false := hm1 ▸ Row.newO
  refine ⟨fun a3 n3 c3 i m2 w => ∃ k : Nat, k ≤ 64 ∧ i = (k : Int) ∧ w = 64 - k ∧ Keep m1 m2 ∧ Grow m2 a3 n3 c3 1 3 ((elemsN k x).map fun k : Nat => Value.int .i64 (k : Int)) ∧ ∀ b, a3 = some ⟨b, 0, none⟩ → m1.nx ≤ b,
    ⟨64, 0, by omega, rfl, rfl, Keep.refl k1.wf, Grow.nil _ _ _, fun b e => by cases e⟩, ?_⟩
  rintro a3 n3 c3 i m2 w ⟨k, hk, rfl, rfl, k2, hG, hb⟩
  have r2 : Row m2 m.nx (boolsOf x) 37 false := k2.row k1.wf r1
  have eB : 0 + Int.toNat (k : Int) * 1 = k := by omega
  rw [splitB_iff]
  refine ⟨fun e => ?_, fun e => ?_⟩
  · rw [ltI_true] at e
    have hk64 : k < 64 := by omega
    refine ⟨⟨by omega, by omega⟩, x.testBit k, by rw [eB, r2.rd, boolsOf_get hk64], ?_⟩
    rw [splitB_iff]
    refine ⟨fun hb1 => ?_, fun hb1 => ⟨64 - (k + 1), less_w hk64, k + 1, hk64, inc64 (by omega), rfl, k2, ?_, hb⟩⟩
    · rw [mBind_iff]
      generalize hm3 : newO m2 _ = m3
      have hn : n3 ≤ 64 := by
        have := hG.1
        rw [List.length_map, elemsN_length] at this
        have := pop_le k x
        omega
      obtain ⟨m4, e4, k4, hG4, hb4⟩ := push_ok (cx := cx) (t := 22) (i := ti3) (z := .int .i64 0) k2 k1.wf hG hb hm3 un22 ty3 ti3s z3 rfl rfl (by rw [ti3b]; omega) (by omega)
      refine ⟨_, _, _, m4, e4, 64 - (k + 1), less_w hk64, k + 1, hk64, inc64 (by omega), rfl, k4, ?_, ?_⟩
      · rw [elemsN_succ, hb1, if_pos rfl, List.map_append]; exact hG4
      · rintro b e'; cases e'; exact hb4
    · rw [elemsN_succ, hb1, if_neg Bool.false_ne_true, List.append_nil]; exact hG
  · rw [ltI_false] at e
    have hk64 : k = 64 := by omega
    subst hk64
    refine h m2 _ _ _ (k1.trans k2) ⟨(hG.1).trans (Nat.mul_one _), fun i v hv => ?_⟩
    rcases hG.2 with ⟨rfl, rfl, rfl⟩ | ⟨b, rfl, rfl, _, hR⟩
    · have h8 : ((elemsN 64 x).map fun k : Nat => Value.int .i64 (k : Int)).length = 0 * 1 := hG.1
      have := (List.getElem?_eq_some_iff.1 hv).1
      omega
    · exact ⟨b, 0, rfl, by rw [hR.rd, Nat.zero_add]; exact hv⟩

theorem div_step {x k : Nat} : x / 2 ^ k = 2 * (x / 2 ^ (k + 1)) + if x.testBit k then 1 else 0 := by
  rw [Nat.pow_succ, ← Nat.div_div_eq_div_mul, Nat.testBit_eq_decide_div_mod_eq]
  generalize x / 2 ^ k = y
  by_cases h : y % 2 = 1
  · rw [if_pos (by simpa using h)]; omega
  · rw [if_neg (by simpa using h)]; omega

theorem half_lt {x k : Nat} (hx : x < 18446744073709551616) : 2 * (x / 2 ^ (k + 1)) + 1 < 18446744073709551616 := by
  have h1 : x / 2 ^ (k + 1) ≤ x / 2 := by
    rw [Nat.pow_succ, Nat.mul_comm, ← Nat.div_div_eq_div_mul]
    exact Nat.div_le_self _ _
  omega

theorem dec64 {k : Nat} (h : k ≤ 1000000) : subI .i64 ((k : Int)) 1 = (k : Int) - 1 := by rw [subI_64 (by omega) (by omega)]

theorem word_ok {x : Nat} {m : Mem} {Q : Value → Mem → Prop} (hx : x < 18446744073709551616) (hw : Wf m) (h : ∀ m', Keep m m' → Q (.int .u64 x) m') : CallW cx 24 [.agg (List.toArray (boolsOf x))] m Q := by
  apply F24_ok
  unfold F24
  rw [mBind_iff]
  generalize hm1 : newO m _ = m1
  have k1 : Keep m m1 := hm1 ▸ (Keep.refl hw).newO
  have r1 : Row m1 m.nx (boolsOf x) 37 false := hm1 ▸ Row.newO
  refine ⟨fun a i m2 w => ∃ k : Nat, k ≤ 64 ∧ i = (k : Int) - 1 ∧ w = k ∧ a = ((x / 2 ^ k : Nat) : Int) ∧ m2 = m1, ⟨64, 64, by omega, rfl, rfl, by rw [Nat.div_eq_of_lt (show x < 2 ^ 64 from hx)]; rfl, rfl⟩, ?_⟩
  rintro a i m2 k ⟨_, hk, rfl, rfl, rfl, rfl⟩
  rw [splitB_iff]
  refine ⟨fun e => ?_, fun e => ?_⟩
  · rw [leI_true] at e
    obtain ⟨j, rfl⟩ : ∃ j, k = j + 1 := ⟨k - 1, by omega⟩
    have ej : ((j + 1 : Nat) : Int) - 1 = (j : Int) := by omega
    rw [ej]
    have eB : 0 + Int.toNat (j : Int) * 1 = j := by omega
    have hlt := half_lt (k := j) hx
    have hmul : mulI .u64 2 ((x / 2 ^ (j + 1) : Nat) : Int) = ((2 * (x / 2 ^ (j + 1)) : Nat) : Int) := by
      have := mulI_u64 2 (x / 2 ^ (j + 1))
      rw [Nat.mod_eq_of_lt (by omega)] at this
      exact this
    refine ⟨⟨by omega, by omega⟩, x.testBit j, by rw [eB, r1.rd, boolsOf_get (by omega)], ?_⟩
    rw [hmul, dec64 (by omega)]
    rw [splitB_iff]
    refine ⟨fun hb => ⟨j, by omega, j, by omega, rfl, rfl, ?_, rfl⟩, fun hb => ⟨j, by omega, j, by omega, rfl, rfl, ?_, rfl⟩⟩
    · have := addI_u64 (x := 2 * (x / 2 ^ (j + 1))) (y := 1) hlt
      rw [show (1 : Int) = ((1 : Nat) : Int) from rfl, this, div_step (k := j), hb, if_pos rfl]
    · rw [div_step (k := j), hb, if_neg Bool.false_ne_true]; rfl
  · rw [leI_false] at e
    have : k = 0 := by omega
    subst this
    rw [Nat.pow_zero, Nat.div_one]
    exact h _ k1

/-! ## a set of a list of numbers -/

def ofN (l : List Int) : Nat := l.foldl (fun x i => x ||| bitW i) 0

theorem ofN_snoc (l : List Int) (i : Int) : ofN (l ++ [i]) = ofN l ||| bitW i := by unfold ofN; rw [List.foldl_append]; rfl

theorem ofN_lt (l : List Int) : ofN l < 18446744073709551616 := by
  unfold ofN
  have : ∀ (l : List Int) (x : Nat), x < 18446744073709551616 → l.foldl (fun x i => x ||| bitW i) x < 18446744073709551616 := by
    intro l
    induction l with
    | nil => intro x h; exact h
    | cons i r ih => intro x h; exact ih _ (Nat.or_lt_two_pow (n := 64) h (bitW_lt i))
  exact this l 0 (by omega)

theorem maskOf_ok {m : Mem} {a : Option Addr} {n c : Nat} {l : List Int} {Q : Value → Mem → Prop} (hl : SlIs m a n (l.map (Value.int .i64))) (hn : n ≤ 1000) (h : Q (.int .u64 (ofN l)) m) : CallW cx 23 [.slice a n c] m Q := by
  have hlen : l.length = n := by have := hl.1; simpa using this
  apply F23_ok
  unfold F23
  refine ⟨fun w i m1 q => ∃ k : Nat, k ≤ n ∧ i = (k : Int) ∧ q = n - k ∧ w = ((ofN (l.take k) : Nat) : Int) ∧ m1 = m, ⟨n, 0, Nat.zero_le _, rfl, rfl, rfl, rfl⟩, ?_⟩
  rintro w i m1 q ⟨k, hk, rfl, rfl, rfl, rfl⟩
  rw [splitB_iff]
  refine ⟨fun e => ?_, fun e => ?_⟩
  · rw [ltI_true] at e
    have hkn : k < n := by unfold lenI at e; omega
    obtain ⟨v, hv⟩ : ∃ v, l[k]? = some v := ⟨_, List.getElem?_eq_getElem (by omega)⟩
    obtain ⟨b, o, rfl, h0⟩ := hl.2 k (.int .i64 v) (by rw [List.getElem?_map, hv]; rfl)
    refine ⟨⟨by omega, by omega⟩, ?_⟩
    rw [vPtr_some]
    refine ⟨v, by rw [Int.toNat_natCast, Nat.mul_one]; exact h0, bit_ok ⟨_, rfl, n - (k + 1), less_w hkn, k + 1, hkn, inc64 (by omega), rfl, ?_, rfl⟩⟩
    rw [orI_u64 (ofN_lt _) (bitW_lt v), List.take_add_one, hv]
    have : l.take k ++ (some v).toList = l.take k ++ [v] := rfl
    rw [this, ofN_snoc]
  · rw [ltI_false] at e
    have : k = n := by unfold lenI at e; omega
    subst this
    rw [List.take_of_length_le (by omega)]
    exact h

end Go.Proofs.YtlenjadchmlliaaDoor.vc
