/-
  Package mask: the least from a number on, round and round, all, the n-th, how many below.
-/
import Derived.Test.YtlenjadchmlliaaDoorMask
namespace Go.Proofs.YtlenjadchmlliaaDoor.vc
open Go Go.AX
set_option linter.unusedVariables false
set_option linter.unusedSimpArgs false

theorem tabs_congr {m m' : Mem} (ht : tabsIn tabs m) (hw : Wf m) (hg : ∀ b, b < m.nx → m'.hp.get b = m.hp.get b) : tabsIn tabs m' := by
  intro x hx i v hv
  have h1 := ht x hx i v hv
  rw [rd_congr (hg x.1 (hw.rd h1))]
  exact h1

theorem tab_at : ∀ k : Fin 64, tab64[(2 ^ k.val * 285870213051353865 % 18446744073709551616) / 2 ^ 58]? = some (k.val : Int) := by decide +kernel

theorem tz_ok {x : Nat} {m : Mem} {Q : Value → Mem → Prop} (hx : x < 18446744073709551616) (h0 : 0 < x) (ht : tabsIn tabs m)
    (h : ∀ k : Nat, k < 64 → x.testBit k = true → (∀ j, j < k → x.testBit j = false) → Q (.int .i64 (k : Int)) m) : CallW cx 29 [.int .u64 x] m Q := by
  apply F29_ok
  unfold F29
  rw [splitB_iff]
  refine ⟨fun e => by rw [eqI_true] at e; omega, fun _ => ?_⟩
  obtain ⟨k, hk, e1, h1, h2⟩ := low_bit h0 hx
  have en : subI .u64 0 (x : Int) = _ := negI_u64 h0 hx
  have ea : andI .u64 (x : Int) (subI .u64 0 (x : Int)) = ((2 ^ k : Nat) : Int) := by
    rw [en, andI_u64 hx (by omega), e1]
  have em : mulI .u64 (andI .u64 (x : Int) (subI .u64 0 (x : Int))) 285870213051353865 = ((2 ^ k * 285870213051353865 % 18446744073709551616 : Nat) : Int) := by
    rw [ea]; exact mulI_u64 (2 ^ k) 285870213051353865
  have hs : shrI .u64 (mulI .u64 (andI .u64 (x : Int) (subI .u64 0 (x : Int))) 285870213051353865) 58 = (((2 ^ k * 285870213051353865 % 18446744073709551616) / 2 ^ 58 : Nat) : Int) := by
    rw [em]; exact shrI_u64 (k := 58) (by omega)
  rw [hs]
  have ht1 := tab_at ⟨k, hk⟩
  simp only at ht1
  generalize (2 ^ k * 285870213051353865 % 18446744073709551616) / 2 ^ 58 = i at ht1
  have hi : i < 64 := by
    have := (List.getElem?_eq_some_iff.1 ht1).1
    exact this
  refine ⟨by decide, ⟨by omega, by omega⟩, (k : Int), ?_, ?_⟩
  · have := ht (0, tab64.map (Value.int .u8)) (by simp [tabs]) i (.int .u8 (k : Int)) (by rw [List.getElem?_map, ht1]; rfl)
    rw [Int.toNat_natCast, Nat.zero_add, Nat.mul_one]
    exact this
  · rw [cvI_i64 (by omega)]
    exact h k hk h1 h2

theorem clampW_nat {c : Nat} (h : c ≤ 64) : clampW (c : Int) = c := by unfold clampW; omega
theorem clampW_le (i : Int) : clampW i ≤ 64 := by unfold clampW; omega

theorem cut_testBit {x c j : Nat} (hc : c ≤ 64) (hx : x < 18446744073709551616) : (x &&& (18446744073709551615 - (2 ^ c - 1))).testBit j = (x.testBit j && decide (c ≤ j)) := by
  have hp : 2 ^ c ≤ 2 ^ 64 := Nat.pow_le_pow_right (by omega) hc
  have hp0 : 0 < 2 ^ c := Nat.two_pow_pos c
  have e : 18446744073709551615 - (2 ^ c - 1) = 2 ^ 64 - ((2 ^ c - 1) + 1) := by omega
  rw [Nat.testBit_and, e, Nat.testBit_two_pow_sub_succ (by omega), Nat.testBit_two_pow_sub_one]
  by_cases h : j < 64
  · by_cases h2 : j < c
    · simp [h, h2]
    · simp [h, h2]; omega
  · have : x.testBit j = false := Nat.testBit_lt_two_pow (Nat.lt_of_lt_of_le hx (Nat.pow_le_pow_right (by omega) (by omega) : 2 ^ 64 ≤ 2 ^ j))
    simp [this]

theorem below_lt (i : Int) : 2 ^ clampW i - 1 < 18446744073709551616 := by
  have hp : 2 ^ clampW i ≤ 2 ^ 64 := Nat.pow_le_pow_right (by omega) (clampW_le i)
  have hp0 : 0 < 2 ^ clampW i := Nat.two_pow_pos _
  omega

theorem bit_pos {x j : Nat} (h : x.testBit j = true) : 0 < x := by
  rcases Nat.eq_zero_or_pos x with rfl | h1
  · simp at h
  · exact h1

theorem bit_lt {x j : Nat} (hx : x < 18446744073709551616) (h : x.testBit j = true) : j < 64 := by
  by_cases hj : j < 64
  · exact hj
  · have : x.testBit j = false := Nat.testBit_lt_two_pow (Nat.lt_of_lt_of_le hx (Nat.pow_le_pow_right (by omega) (by omega) : 2 ^ 64 ≤ 2 ^ j))
    rw [this] at h; cases h

theorem first_ok {x : Nat} {i : Int} {m : Mem} {Q : Value → Mem → Prop} (hx : x < 18446744073709551616) (ht : tabsIn tabs m)
    (h1 : ∀ k : Nat, k < 64 → x.testBit k = true → clampW i ≤ k → (∀ j, clampW i ≤ j → j < k → x.testBit j = false) → Q (.tuple #[.int .i64 (k : Int), .bool true]) m)
    (h2 : (∀ j, clampW i ≤ j → x.testBit j = false) → Q (.tuple #[.int .i64 0, .bool false]) m) : CallW cx 18 [.int .u64 x, .int .i64 i] m Q := by
  apply F18_ok
  unfold F18
  apply below_ok
  refine ⟨_, rfl, ?_⟩
  rw [andNotI_u64 hx (below_lt i)]
  have hy : (x &&& (18446744073709551615 - (2 ^ clampW i - 1))) < 18446744073709551616 := Nat.lt_of_le_of_lt Nat.and_le_left hx
  have hb := fun j => cut_testBit (j := j) (clampW_le i) hx
  generalize (x &&& (18446744073709551615 - (2 ^ clampW i - 1))) = y at hy hb
  rw [splitB_iff]
  refine ⟨fun e => ?_, fun e => ?_⟩
  · rw [eqI_true] at e
    have : y = 0 := by omega
    subst this
    refine h2 fun j hj => ?_
    have := hb j
    rw [Nat.zero_testBit, decide_eq_true hj, Bool.and_true] at this
    exact this.symm
  · rw [eqI_false] at e
    refine tz_ok hy (by omega) ht fun k hk hk1 hk2 => ⟨_, rfl, ?_⟩
    rw [hb k, Bool.and_eq_true] at hk1
    refine h1 k hk hk1.1 (of_decide_eq_true hk1.2) fun j hj1 hj2 => ?_
    have := hk2 j hj2
    rw [hb j, decide_eq_true hj1, Bool.and_true] at this
    exact this

theorem around_ok {x : Nat} {i : Int} {m : Mem} {Q : Value → Mem → Prop} (hx : x < 18446744073709551616) (ht : tabsIn tabs m)
    (h1 : ∀ k : Nat, k < 64 → x.testBit k = true → clampW i ≤ k → (∀ j, clampW i ≤ j → j < k → x.testBit j = false) → Q (.tuple #[.int .i64 (k : Int), .bool true]) m)
    (h2 : (∀ j, clampW i ≤ j → x.testBit j = false) → ∀ k : Nat, k < 64 → x.testBit k = true → (∀ j, j < k → x.testBit j = false) → Q (.tuple #[.int .i64 (k : Int), .bool true]) m)
    (h3 : (∀ j, x.testBit j = false) → Q (.tuple #[.int .i64 0, .bool false]) m) : CallW cx 13 [.int .u64 x, .int .i64 i] m Q := by
  apply F13_ok
  unfold F13
  refine first_ok hx ht (fun k a b c d => ⟨_, _, rfl, ?_⟩) (fun hno => ⟨_, _, rfl, ?_⟩)
  · rw [splitB_true]; exact h1 k a b c d
  · rw [splitB_false]
    have c0 : clampW 0 = 0 := by decide
    refine first_ok hx ht (fun k a b c d => ⟨_, _, rfl, ?_⟩) (fun hno2 => ⟨_, _, rfl, ?_⟩)
    · exact h2 hno k a b fun j hj => d j (by rw [c0]; omega) hj
    · exact h3 fun j => hno2 j (by rw [c0]; omega)

/-! ## all, in order -/

def elemsN (n x : Nat) : List Nat := (List.range n).filter (fun j => x.testBit j)

theorem elemsN_succ (n x : Nat) : elemsN (n + 1) x = elemsN n x ++ if x.testBit n then [n] else [] := by
  unfold elemsN
  rw [List.range_succ, List.filter_append]
  congr 1
  cases h : x.testBit n <;> simp [h]

theorem elemsN_length (n x : Nat) : (elemsN n x).length = pop n x := by
  induction n with
  | zero => rfl
  | succ n ih =>
    rw [elemsN_succ, List.length_append, ih, pop_bit]
    split <;> rfl

theorem pop_le (n x : Nat) : pop n x ≤ n := by
  induction n with
  | zero => exact Nat.le_refl _
  | succ n ih => rw [pop_bit]; split <;> omega

theorem pop_mono {x a b : Nat} (h : a ≤ b) : pop a x ≤ pop b x := by
  induction b with
  | zero => have : a = 0 := by omega
            rw [this]; exact Nat.le_refl _
  | succ b ih =>
    by_cases he : a = b + 1
    · rw [he]; exact Nat.le_refl _
    · have := ih (by omega)
      rw [pop_bit]; omega

theorem elemsN_gap {x c : Nat} : ∀ {d : Nat}, c ≤ d → (∀ j, c ≤ j → j < d → x.testBit j = false) → elemsN d x = elemsN c x
  | 0, h, _ => by have : c = 0 := by omega
                  rw [this]
  | d + 1, h, hj => by
    by_cases he : c = d + 1
    · rw [he]
    · rw [elemsN_succ, hj d (by omega) (by omega), elemsN_gap (d := d) (by omega) fun j h1 h2 => hj j h1 (by omega)]
      simp

/-- the n-th has n below it -/
theorem elemsN_at {x n k : Nat} : ∀ {N : Nat}, (elemsN N x)[n]? = some k ↔ k < N ∧ x.testBit k = true ∧ pop k x = n
  | 0 => by simp [elemsN]
  | N + 1 => by
    rw [elemsN_succ, List.getElem?_append]
    rw [elemsN_length]
    by_cases hn : n < pop N x
    · rw [if_pos hn, elemsN_at (N := N)]
      constructor
      · rintro ⟨h1, h2, h3⟩; exact ⟨by omega, h2, h3⟩
      · rintro ⟨h1, h2, h3⟩
        refine ⟨?_, h2, h3⟩
        by_cases he : k = N
        · subst he; omega
        · omega
    · rw [if_neg hn]
      cases hb : x.testBit N with
      | true =>
        simp only [if_pos]
        constructor
        · intro h
          have h0 : n - pop N x = 0 := by
            by_cases h0 : n - pop N x = 0
            · exact h0
            · rw [List.getElem?_eq_none (by simp; omega)] at h; cases h
          rw [h0] at h
          cases h
          exact ⟨by omega, hb, by omega⟩
        · rintro ⟨h1, h2, h3⟩
          have hk : k = N := by
            by_cases he : k = N
            · exact he
            · have := pop_mono (x := x) (show k + 1 ≤ N by omega)
              rw [pop_bit, if_pos h2] at this
              omega
          subst hk
          rw [← h3, Nat.sub_self]; rfl
      | false =>
        simp only [Bool.false_eq_true, if_false]
        constructor
        · intro h; simp at h
        · rintro ⟨h1, h2, h3⟩
          exfalso
          by_cases he : k = N
          · subst he; rw [hb] at h2; cases h2
          · have := pop_mono (x := x) (show k + 1 ≤ N by omega)
            rw [pop_bit, if_pos h2] at this
            omega

theorem w_pos {k : Nat} (h : k < 64) : 0 < 65 - k := by omega
theorem w_less {k k' : Nat} (h : k < 64) (h2 : k + 1 ≤ k') : 65 - k' < 65 - k := by omega

theorem un22 : cx.un.get 22 = some (.slice 3) := by kernel_rfl
theorem z3 : zeroT cx 3 = some (.int .i64 0) := by kernel_rfl
noncomputable def ti3 : TypeInfo := match cx.ty.get 3 with | some i => i | none => default
theorem ty3 : cx.ty.get 3 = some ti3 := by kernel_rfl
theorem ti3s : ti3.size = 1 := by kernel_rfl
theorem ti3b : ti3.bytes = 8 := by kernel_rfl

theorem list_ok {x : Nat} {m : Mem} {Q : Value → Mem → Prop} (hx : x < 18446744073709551616) (hw : Wf m) (ht : tabsIn tabs m)
    (h : ∀ m' a n c, Grow m' a n c 1 3 ((elemsN 64 x).map fun k : Nat => Value.int .i64 (k : Int)) → Wf m' → m.nx ≤ m'.nx → m'.fl = m.fl → (∀ b, b < m.nx → m'.hp.get b = m.hp.get b) → Q (.slice a n c) m') : CallW cx 20 [.int .u64 x] m Q := by
  apply F20_ok
  unfold F20
  have c0 : clampW 0 = 0 := by decide
  have key : ∀ (x8 : Int) (b8 : Bool), ((b8 = true ∧ ∃ k : Nat, x8 = (k : Int) ∧ k < 64 ∧ x.testBit k = true ∧ elemsN k x = []) ∨ (b8 = false ∧ elemsN 64 x = [])) → (∃ Inv : Option Addr → Nat → Nat → Int → Bool → Mem → Nat → Prop, (∃ n : Nat, Inv none (0) (0) (x8) (b8) m n) ∧
      (∀ (a3 : Option Addr) (n3 c3 : Nat) (x4 : Int) (b5 : Bool), ∀ (m2 : Mem) (n_1 : Nat), Inv a3 (n3) (c3) (x4) (b5) m2 n_1 →
      (splitB (b5)
      (mBind (newO m2 (row [.int .i64 (x4)] 3 false)) fun m3 => (∃ (a22 : Option Addr) (n22 c22 : Nat) (m4 : Mem), appendA cx m3 [22, 22] [.slice a3 n3 (c3), .slice (some ⟨m2.nx, 0, none⟩) (1) (1)] = some (.slice a22 (n22) (c22), m4) ∧ (CallW cx 18 [.int .u64 (x : Int), .int .i64 (addI .i64 (x4) (1 : Int))] m4 fun r16 m5 => (∃ (x16 : Int), (∃ (b16 : Bool), r16 = (.tuple #[.int .i64 (x16), .bool (b16)]) ∧ (∃ n_2 : Nat, n_2 < n_1 ∧ Inv a22 (n22) (c22) (x16) (b16) m5 n_2))))))
      (Q (.slice a3 (n3) (c3)) m2)))) := by
    intro x8 b8 h8
    refine ⟨fun a n c x4 b5 m2 w => ∃ l : List Nat, Grow m2 a n c 1 3 (l.map fun k : Nat => Value.int .i64 (k : Int)) ∧ Wf m2 ∧ m.nx ≤ m2.nx ∧ m2.fl = m.fl ∧ (∀ b, b < m.nx → m2.hp.get b = m.hp.get b) ∧ (∀ b, a = some ⟨b, 0, none⟩ → m.nx ≤ b) ∧
      ((b5 = true ∧ ∃ k : Nat, x4 = (k : Int) ∧ k < 64 ∧ x.testBit k = true ∧ l = elemsN k x ∧ w = 65 - k) ∨ (b5 = false ∧ l = elemsN 64 x ∧ w = 0)), ?_, ?_⟩
    · rcases h8 with ⟨rfl, k, rfl, hk, hb, he⟩ | ⟨rfl, he⟩
      · exact ⟨65 - k, [], Grow.nil _ _ _, hw, Nat.le_refl _, rfl, fun _ _ => rfl, (fun _ e => nomatch e), .inl ⟨rfl, k, rfl, hk, hb, he.symm, rfl⟩⟩
      · exact ⟨0, [], Grow.nil _ _ _, hw, Nat.le_refl _, rfl, fun _ _ => rfl, (fun _ e => nomatch e), .inr ⟨rfl, he.symm, rfl⟩⟩
    · rintro a n c x4 b5 m2 w ⟨l, hG, hw2, nx2, fl2, g2, ha, ⟨rfl, k, rfl, hk, hb, rfl, rfl⟩ | ⟨rfl, rfl, rfl⟩⟩
      · rw [splitB_true, mBind_iff]
        generalize hm3 : newO m2 _ = m3
        have hw3 : Wf m3 := hm3 ▸ hw2.newO
        have nx3 : m3.nx = m2.nx + 1 := by rw [← hm3]; rfl
        have fl3 : m3.fl = m.fl := by rw [← hm3]; exact fl2
        have g3 : ∀ b, b < m2.nx → m3.hp.get b = m2.hp.get b := fun b hb => by rw [← hm3, newO_get, if_neg (by omega)]
        have hT : Row m3 m2.nx [Value.int .i64 (k : Int)] 3 false := hm3 ▸ Row.newO
        have hal : ∀ b, a = some ⟨b, 0, none⟩ → b < m2.nx := by
          rintro b rfl
          rcases hG.2 with ⟨h1, _⟩ | ⟨b', h1, _, _, h2⟩
          · cases h1
          · cases h1; exact hw2.row h2
        have hG3 : Grow m3 a n c 1 3 ((elemsN k x).map fun k : Nat => Value.int .i64 (k : Int)) := by
          refine ⟨hG.1, ?_⟩
          rcases hG.2 with h1 | ⟨b, h1, h2, h3, h4⟩
          · exact .inl h1
          · exact .inr ⟨b, h1, h2, by rw [fl3, ← fl2]; exact h3, h4.congr (g3 b (hal b h1))⟩
        have hn : n ≤ 64 := by
          have := hG.1
          rw [List.length_map, elemsN_length] at this
          have := pop_le k x
          omega
        obtain ⟨m4, h4, nx4, fl4, hR4, g4⟩ := append_grow hG3 un22 un22 rfl ty3 ti3s z3 rfl (by omega) (x := .slice (some ⟨m2.nx, 0, none⟩) 1 1) rfl (hT.rowAt (k := 1) (by simp)) rfl rfl (by omega) (by rw [ti3b]; omega) (by omega)
        refine ⟨some ⟨m3.nx, 0, none⟩, n + 1, n + 1, m4, h4, ?_⟩
        have g4' : ∀ b, b < m.nx → m4.hp.get b = m.hp.get b := fun b hb => by
          rw [g4 b (by omega) (fun b' e e' => by have := ha b' e; omega), g3 b (by omega), g2 b hb]
        have hw4 : Wf m4 := ⟨by rw [fl4, nx4, fl3]; have := hw.1; omega, fun b hb => by
          rw [nx4] at hb
          rw [g4 b (by omega) (fun b' e e' => by have := hal b' e; omega)]
          exact hw3.2 b (by omega)⟩
        have hG4 : Grow m4 (some ⟨m3.nx, 0, none⟩) (n + 1) (n + 1) 1 3 ((elemsN (k + 1) x).map fun k : Nat => Value.int .i64 (k : Int)) := by
          rw [elemsN_succ, hb, if_pos rfl, List.map_append]
          exact ⟨by have := hG.1; simp at this ⊢; omega, .inr ⟨m3.nx, rfl, rfl, by rw [fl4, fl3]; have := hw.1; omega, hR4⟩⟩
        have ea : addI .i64 (k : Int) 1 = ((k + 1 : Nat) : Int) := by rw [addI_64 (by omega) (by omega)]; omega
        rw [ea]
        have hha : ∀ b, (some ⟨m3.nx, 0, none⟩ : Option Addr) = some ⟨b, 0, none⟩ → m.nx ≤ b := by
          rintro b e; cases e; omega
        refine first_ok hx (tabs_congr ht hw g4') (fun k' a1 a2 a3 a4 => ⟨_, _, rfl, 65 - k', ?_, _, hG4, hw4, by omega, by rw [fl4, fl3], g4', hha, .inl ⟨rfl, k', rfl, a1, a2, ?_, rfl⟩⟩) (fun hno => ⟨_, _, rfl, 0, w_pos hk, _, hG4, hw4, by omega, by rw [fl4, fl3], g4', hha, .inr ⟨rfl, ?_, rfl⟩⟩)
        · rw [clampW_nat hk] at a3; exact w_less hk a3
        · rw [clampW_nat hk] at a3 a4
          exact (elemsN_gap a3 a4).symm
        · rw [clampW_nat hk] at hno
          exact (elemsN_gap hk fun j h1 _ => hno j h1).symm
      · rw [splitB_false]
        exact h m2 a n c hG hw2 nx2 fl2 g2
  refine first_ok hx ht (fun k a1 a2 a3 a4 => ⟨_, _, rfl, key _ _ (.inl ⟨rfl, k, rfl, a1, a2, ?_⟩)⟩) (fun hno => ⟨_, _, rfl, key _ _ (.inr ⟨rfl, ?_⟩)⟩)
  · rw [c0] at a4
    exact elemsN_gap (c := 0) (by omega) a4
  · rw [c0] at hno
    exact elemsN_gap (c := 0) (by omega) fun j h1 _ => hno j h1

theorem nth_ok {x : Nat} {i : Int} {m : Mem} {Q : Value → Mem → Prop} (hx : x < 18446744073709551616) (hw : Wf m) (ht : tabsIn tabs m)
    (h1 : ∀ m' (j k : Nat), i = (j : Int) → k < 64 → x.testBit k = true → pop k x = j → Wf m' → m.nx ≤ m'.nx → m'.fl = m.fl → (∀ b, b < m.nx → m'.hp.get b = m.hp.get b) → Q (.tuple #[.int .i64 (k : Int), .bool true]) m')
    (h2 : ∀ m', (i < 0 ∨ (pop 64 x : Int) ≤ i) → Wf m' → m.nx ≤ m'.nx → m'.fl = m.fl → (∀ b, b < m.nx → m'.hp.get b = m.hp.get b) → Q (.tuple #[.int .i64 0, .bool false]) m') : CallW cx 14 [.int .u64 x, .int .i64 i] m Q := by
  apply F14_ok
  unfold F14
  refine list_ok hx hw ht fun m1 a n c hG hw1 nx1 fl1 g1 => ⟨a, n, c, rfl, ?_⟩
  have hn : n = pop 64 x := by
    have := hG.1
    rw [List.length_map, elemsN_length] at this
    omega
  simp only [joinK, splitB_iff, ltI_true, ltI_false, leI_true, leI_false, lenI]
  refine ⟨fun e => h2 m1 (.inl e) hw1 nx1 fl1 g1, fun e => ⟨fun e2 => h2 m1 (.inr (by omega)) hw1 nx1 fl1 g1, fun e2 => ⟨⟨e, e2⟩, ?_⟩⟩⟩
  obtain ⟨j, rfl⟩ := Int.eq_ofNat_of_zero_le e
  have hj : j < (elemsN 64 x).length := by rw [elemsN_length]; omega
  obtain ⟨k, hk⟩ : ∃ k, (elemsN 64 x)[j]? = some k := ⟨_, List.getElem?_eq_getElem hj⟩
  rcases hG.2 with ⟨_, h3, _⟩ | ⟨b, rfl, rfl, _, hR⟩
  · omega
  · rw [vPtr_some]
    refine ⟨(k : Int), ?_, ?_⟩
    · rw [hR.rd, Int.toNat_natCast, Nat.zero_add, Nat.mul_one, List.getElem?_map, hk]; rfl
    · rw [elemsN_at] at hk
      exact h1 m1 j k rfl hk.1 hk.2.1 hk.2.2 hw1 nx1 fl1 g1

theorem rank_pop {x : Nat} : ∀ {c n : Nat}, pop n (x &&& (2 ^ c - 1)) = pop (min n c) x
  | c, 0 => by simp [pop, dsum]
  | c, n + 1 => by
    rw [pop_bit, rank_pop, Nat.testBit_and, Nat.testBit_two_pow_sub_one]
    by_cases h : n < c
    · rw [show min (n + 1) c = n + 1 by omega, show min n c = n by omega, pop_bit, decide_eq_true h, Bool.and_true]
    · rw [show min (n + 1) c = c by omega, show min n c = c by omega, decide_eq_false h, Bool.and_false]; rfl

theorem rank_ok {x : Nat} {i : Int} {m : Mem} {Q : Value → Mem → Prop} (hx : x < 18446744073709551616) (h : Q (.int .i64 (pop (clampW i) x : Nat)) m) : CallW cx 15 [.int .u64 x, .int .i64 i] m Q := by
  apply F15_ok
  unfold F15
  apply below_ok
  refine ⟨_, rfl, ?_⟩
  rw [andI_u64 hx (below_lt i)]
  refine len_ok (Nat.lt_of_le_of_lt Nat.and_le_left hx) ⟨_, rfl, ?_⟩
  rw [rank_pop, Nat.min_eq_right (clampW_le i)]
  exact h

end Go.Proofs.YtlenjadchmlliaaDoor.vc
