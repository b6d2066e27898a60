/-
  The reference's GoodProg, Total, Holds, ProgText, ProgFits; prog's Fits; the reference's ProgParse.
-/
import Derived.Test.YtnhpljcjdfffkaaDoorParse
namespace Go.Proofs.YtnhpljcjdfffkaaDoor.vc
open Go Go.AX
set_option linter.unusedVariables false
set_option linter.unusedSimpArgs false
set_option maxRecDepth 100000

theorem goodP_take {l : List Stp2} : goodP l = (l.all okS && (decide (1 ≤ l.length) && decide (l.length ≤ 8))) := by
  unfold goodP
  cases l.all okS <;> cases decide (1 ≤ l.length) <;> cases decide (l.length ≤ 8) <;> rfl

theorem rgood_ok {m : Mem} {a : Option Addr} {n c : Nat} {l : List Stp2} {Q : Value → Mem → Prop} (hw : Wf m) (hP : PS m a n l) (hn : n ≤ 1000000)
    (h : Q (.bool (goodP l)) m) : CallW cx 18 [.slice a n c] m Q := by
  apply F18_ok; unfold F18
  have hl := hP.1
  refine forN (n := n) (by omega) (fun k m1 => m1 = m ∧ (l.take k).all okS = true) ⟨rfl, rfl⟩ ?_
  rintro k m1 hk ⟨rfl, hall⟩ I w hI
  refine split_lt (fun hlt => ?_) (fun hge => ?_)
  · obtain ⟨x, hx⟩ := ArrP.get hP hlt
    have bad : okS x = false → Q (.bool false) m1 := fun hb => by
      have : goodP l = false := by
        rw [goodP_take]
        have : l.all okS = false := by
          rw [← Bool.not_eq_true, List.all_eq_true]
          intro hc
          have := hc x (List.mem_of_getElem? hx)
          rw [hb] at this; cases this
        rw [this]; rfl
      rwa [this] at h
    unfold okS at bad
    refine PS.open hP hx fun b o r1 _ => ⟨_, r1, split_ltI (fun h1 => bad (decide_eq_false (by omega))) (fun h1 => ?_)⟩
    refine PS.open hP hx fun b o r1 _ => ⟨_, r1, split_ltI (fun h2 => bad (decide_eq_false (by omega))) (fun h2 => ?_)⟩
    refine PS.open hP hx fun b o _ r2 => ⟨_, r2, split_ltI (fun h3 => bad (decide_eq_false (by omega))) (fun h3 => ?_)⟩
    refine PS.open hP hx fun b o _ r2 => ⟨_, r2, split_ltI (fun h4 => bad (decide_eq_false (by omega))) (fun h4 => ?_)⟩
    refine hI _ hlt ⟨rfl, ?_⟩
    rw [List.take_add_one, hx, List.all_append, hall]
    have : okS x = true := decide_eq_true ⟨by omega, by omega, by omega, by omega⟩
    simp [this]
  · rw [List.take_of_length_le (by omega)] at hall
    rw [goodP_take, hall] at h
    simp only [Bool.true_and] at h
    simp only [lenI]
    refine split_leI (fun h1 => ?_) (fun h1 => ?_)
    · rw [decide_eq_true (by omega), Bool.true_and] at h
      rw [leI_dec]
      rwa [show decide ((n : Int) ≤ 8) = decide (l.length ≤ 8) by rw [hl]; exact decide_eq_decide.2 (by omega)]
    · rwa [decide_eq_false (by omega)] at h

theorem rtotal_ok {m : Mem} {a : Option Addr} {n c : Nat} {l : List Stp2} {Q : Value → Mem → Prop} (hw : Wf m) (hP : PS m a n l) (hn : n ≤ 1000000)
    (h : Q (.int .i64 (total l)) m) : CallW cx 19 [.slice a n c] m Q := by
  apply F19_ok; unfold F19
  have hl := hP.1
  refine forN1 (n := n) (by omega) (fun k s m2 => m2 = m ∧ (goodP l = false → k = 0) ∧ s = ((l.take k).map (·.2)).sum) ⟨rfl, fun _ => rfl, rfl⟩ ?_
  rintro k s m2 hk ⟨rfl, h0, rfl⟩ I w hI
  refine joinK_of' (fun J => k < n → goodP l = true → J m2) (fun hlt hg => ?_) (fun J hJ => ?_)
  · obtain ⟨g1, g2, g3⟩ := goodP_len hg
    obtain ⟨x, hx⟩ := ArrP.get hP hlt
    refine PS.open hP hx fun b o _ r2 => ⟨_, r2, hI _ _ hlt ⟨rfl, (fun hb => by rw [hg] at hb; cases hb), ?_⟩⟩
    have hb := sum_bound (l := l.take k) fun y hy => g3 y (List.mem_of_mem_take hy)
    have hlk : (l.take k).length = k := by simp; omega
    have hx2 := g3 x (List.mem_of_getElem? hx)
    rw [List.take_add_one, hx]
    simp only [Option.toList_some, List.map_append, List.map_cons, List.map_nil, List.sum_append, List.sum_cons, List.sum_nil]
    rw [hlk] at hb
    rw [addI_64 (by omega) (by omega)]
    omega
  · refine split_lt (fun hlt => ?_) (fun hge => ?_)
    · refine rgood_ok hw hP hn ⟨_, rfl, split_b (fun hg => hJ hlt hg) (fun hg => ?_)⟩
      rw [h0 hg]
      rwa [total, if_neg (by rw [hg]; decide)] at h
    · rw [List.take_of_length_le (by omega)]
      unfold total at h
      split at h
      · exact h
      · rename_i hg
        have := h0 (by simpa using hg)
        have hl0 : l = [] := List.length_eq_zero_iff.1 (by omega)
        subst hl0
        exact h

theorem rholds_ok {m : Mem} {a : Option Addr} {n c : Nat} {l : List Stp2} {Q : Value → Mem → Prop} (hw : Wf m) (hP : PS m a n l) (hn : n ≤ 1000000)
    (h : Q (.int .i64 (holds l)) m) : CallW cx 20 [.slice a n c] m Q := by
  apply F20_ok; unfold F20
  have hl := hP.1
  refine forN1 (n := n) (by omega) (fun k s m2 => m2 = m ∧ (goodP l = false → k = 0) ∧ s = (((l.take k).filter fun x => decide (0 < x.1)).length : Int)) ⟨rfl, fun _ => rfl, rfl⟩ ?_
  rintro k s m2 hk ⟨rfl, h0, rfl⟩ I w hI
  refine joinK_of' (fun J => k < n → goodP l = true → J m2) (fun hlt hg => ?_) (fun J hJ => ?_)
  · obtain ⟨x, hx⟩ := ArrP.get hP hlt
    have hfl := List.length_filter_le (fun x : Stp2 => decide (0 < x.1)) (l.take k)
    have hlk : (l.take k).length = k := by simp; omega
    have hstep : (l.take (k + 1)).filter (fun x => decide (0 < x.1)) = (l.take k).filter (fun x => decide (0 < x.1)) ++ (if 0 < x.1 then [x] else []) := by
      rw [List.take_add_one, hx, List.filter_append]
      by_cases h : 0 < x.1 <;> simp [h]
    have hno : goodP l = false → k + 1 = 0 := fun hb => by rw [hg] at hb; cases hb
    refine PS.open hP hx fun b o r1 _ => ⟨_, r1, split_ltI (fun hp => hI _ _ hlt ⟨rfl, hno, ?_⟩) (fun hp => hI _ _ hlt ⟨rfl, hno, ?_⟩)⟩
    · rw [hstep, if_pos hp, List.length_append]
      rw [addI_64 (by omega) (by omega)]; simp
    · rw [hstep, if_neg (by omega)]; simp
  · refine split_lt (fun hlt => ?_) (fun hge => ?_)
    · refine rgood_ok hw hP hn ⟨_, rfl, split_b (fun hg => hJ hlt hg) (fun hg => ?_)⟩
      rw [h0 hg]
      rwa [holds, if_neg (by rw [hg]; decide)] at h
    · rw [List.take_of_length_le (by omega)]
      unfold holds at h
      split at h
      · exact h
      · rename_i hg
        have := h0 (by simpa using hg)
        have hl0 : l = [] := List.length_eq_zero_iff.1 (by omega)
        subst hl0
        exact h

theorem num_int {x : Int} {m : Mem} {Q : Value → Mem → Prop} (h0 : 0 ≤ x) (h1 : x ≤ 9223372036854775807) (hw : Wf m) (h : ∀ m', Keep m m' → Q (strV (Lib.itoa x)) m') : CallW cx 33 [.int .i64 x] m Q := by
  obtain ⟨k, rfl⟩ : ∃ k : Nat, x = (k : Int) := ⟨x.toNat, by omega⟩
  rw [itoa_dec h0, Int.toNat_natCast] at h
  exact num_ok k (by omega) hw h

theorem join_snoc : ∀ {l : List (List UInt8)} {x : List UInt8}, Lib.join (l ++ [x]) [43] = (if l.length = 0 then [] else Lib.join l [43] ++ [43]) ++ x
  | [], x => by simp [Lib.join]
  | y :: r, x => by
    rw [join_append (by simp) (by simp), if_neg (by simp)]
    simp [Lib.join]

theorem rtext_ok {m : Mem} {a : Option Addr} {n c : Nat} {l : List Stp2} {Q : Value → Mem → Prop} (hw : Wf m) (hP : PS m a n l) (hn : n ≤ 1000000)
    (h : ∀ m', Keep m m' → Q (strV (txt l)) m') : CallW cx 21 [.slice a n c] m Q := by
  apply F21_ok; unfold F21
  have hl := hP.1
  refine forN1 (n := n) (by omega) (fun k (s : ByteArray) m2 => Keep m m2 ∧ (goodP l = false → k = 0) ∧ s = bs (Lib.join ((l.take k).map txt1) [43])) ⟨Keep.refl hw, fun _ => rfl, rfl⟩ ?_
  rintro k s m2 hk ⟨k2, h0, rfl⟩ I w hI
  refine joinK_of' (fun J => k < n → goodP l = true → J m2) (fun hlt hg => ?_) (fun J hJ => ?_)
  · obtain ⟨g1, g2, g3⟩ := goodP_len hg
    obtain ⟨x, hx⟩ := ArrP.get hP hlt
    have hgx := g3 x (List.mem_of_getElem? hx)
    have hno : goodP l = false → k + 1 = 0 := fun hb => by rw [hg] at hb; cases hb
    have hlk : (l.take k).length = k := by simp; omega
    have hjl : (Lib.join ((l.take k).map txt1) [43]).length ≤ 400 := by
      have hj := join_len [43] (B := 43) (l := (l.take k).map txt1) (by
        intro y hy
        obtain ⟨z, hz, rfl⟩ := List.mem_map.1 hy
        exact txt1_len (g3 z (List.mem_of_mem_take hz)))
      rw [List.length_map, hlk] at hj
      have : k * (43 + ([43] : List UInt8).length) ≤ 8 * 44 := Nat.mul_le_mul (by omega) (by simp)
      omega
    have i1 := itoa_len (x := x.1) (by omega) (by omega)
    have i2 := itoa_len (x := x.2) (by omega) (by omega)
    have hnext : Lib.join ((l.take (k + 1)).map txt1) [43] = (if k = 0 then [] else Lib.join ((l.take k).map txt1) [43] ++ [43]) ++ txt1 x := by
      rw [List.take_add_one, hx]
      simp only [Option.toList_some, List.map_append, List.map_cons, List.map_nil]
      rw [join_snoc, List.length_map, hlk]
    generalize hpre : (if k = 0 then [] else Lib.join ((l.take k).map txt1) [43] ++ [43]) = pre at hnext
    have hprel : pre.length ≤ 401 := by
      rw [← hpre]
      split
      · simp
      · rw [List.length_append, List.length_singleton]; omega
    refine joinK_of' (fun J => J (bs pre) m2) ?_ (fun J hJ => ?_)
    · refine PS.open (hP.keep hw k2) hx fun b o _ r2 => ⟨_, r2, num_int (by omega) (by omega) k2.wf fun m4 k4 => ⟨_, rfl, ?_, ?_⟩⟩
      · show pre.length + (Lib.itoa x.2).length ≤ _
        omega
      have kk4 := k2.trans k4
      refine PS.open (hP.keep hw kk4) hx fun b o r1 _ => ⟨_, r1, split_ltI (fun hp1 => ?_) (fun hp1 => ?_)⟩
      · refine ⟨?_, PS.open (hP.keep hw kk4) hx fun b o r1 _ => ⟨_, r1, num_int (by omega) (by omega) kk4.wf fun m5 k5 => ⟨_, rfl, ?_, ?_⟩⟩⟩
        · show (pre ++ Lib.itoa x.2).length + 1 ≤ _
          rw [List.length_append]; omega
        · show ((pre ++ Lib.itoa x.2) ++ [64]).length + (Lib.itoa x.1).length ≤ _
          rw [List.length_append, List.length_append, List.length_singleton]; omega
        · refine hI _ _ hlt ⟨kk4.trans k5, hno, ?_⟩
          rw [hnext, txt1, if_pos hp1]
          show bs ((pre ++ Lib.itoa x.2) ++ [64] ++ Lib.itoa x.1) = _
          simp [List.append_assoc]
      · refine hI _ _ hlt ⟨kk4, hno, ?_⟩
        rw [hnext, txt1, if_neg (by omega), List.append_nil]
        rfl
    · refine split_ltI (fun hp => ?_) (fun hp => ?_)
      · refine ⟨?_, ?_⟩
        · show (Lib.join ((l.take k).map txt1) [43]).length + 1 ≤ _
          omega
        · rw [← hpre, if_neg (by omega)] at hJ
          exact hJ
      · have hk0 : k = 0 := by omega
        subst hk0
        rw [← hpre, if_pos rfl] at hJ
        simpa [Lib.join] using hJ
  · refine split_lt (fun hlt => ?_) (fun hge => ?_)
    · refine rgood_ok k2.wf (hP.keep hw k2) hn ⟨_, rfl, split_b (fun hg => hJ hlt hg) (fun hg => ?_)⟩
      have := h m2 k2
      rw [h0 hg]
      rw [txt, if_neg (by rw [hg]; decide)] at this
      exact this
    · rw [List.take_of_length_le (by omega)]
      have := h m2 k2
      unfold txt at this
      split at this
      · exact this
      · rename_i hg
        have := h0 (by simpa using hg)
        have hl0 : l = [] := List.length_eq_zero_iff.1 (by omega)
        subst hl0
        exact h m2 k2

def fits (l : List Stp2) (n : Int) : Bool := goodP l && !(l.any fun x => decide (n < x.1))

theorem rfits_ok {m : Mem} {a : Option Addr} {n c : Nat} {l : List Stp2} {z : Int} {Q : Value → Mem → Prop} (hw : Wf m) (hP : PS m a n l) (hn : n ≤ 1000000)
    (h : Q (.bool (fits l z)) m) : CallW cx 22 [.slice a n c, .int .i64 z] m Q := by
  apply F22_ok; unfold F22
  have hl := hP.1
  refine forN (n := n) (by omega) (fun k m1 => m1 = m ∧ ((l.take k).any fun x => decide (z < x.1)) = false) ⟨rfl, rfl⟩ ?_
  rintro k m1 hk ⟨rfl, hall⟩ I w hI
  unfold fits at h
  refine split_lt (fun hlt => ?_) (fun hge => ?_)
  · obtain ⟨x, hx⟩ := ArrP.get hP hlt
    refine PS.open hP hx fun b o r1 _ => ⟨_, r1, split_ltI (fun h1 => ?_) (fun h1 => ?_)⟩
    · have : (l.any fun x => decide (z < x.1)) = true := List.any_eq_true.2 ⟨x, List.mem_of_getElem? hx, decide_eq_true h1⟩
      rw [this] at h
      simpa using h
    · refine hI _ hlt ⟨rfl, ?_⟩
      rw [List.take_add_one, hx, List.any_append, hall]
      simp; omega
  · rw [List.take_of_length_le (by omega)] at hall
    rw [hall] at h
    refine rgood_ok hw hP hn ⟨_, rfl, by simpa using h⟩

theorem odd2_ok {m : Mem} {x : Stp2} {b : Nat} {a6 : Option Addr} {n6 c6 : Nat} {Q : Value → Mem → Prop} (hw : Wf m) (hr : rd m b 0 = some (.slice a6 n6 c6)) (h : ∀ m', Keep m m' → Q (.bool (decide ((n6 : Int) < x.1))) m') : CallW cx 32 [.agg #[.int .i64 x.1, .int .i64 x.2], .pointer (some ⟨b, 0, none⟩)] m Q := by
  apply F32_ok; unfold F32
  rw [mBind_iff]
  have k1 : Keep m (newO m (row [.int .i64 x.1, .int .i64 x.2] 39 false)) := (Keep.refl hw).newO
  have r1 : Row (newO m (row [.int .i64 x.1, .int .i64 x.2] 39 false)) m.nx _ 39 false := Row.newO
  refine ⟨x.1, r1.rd, ?_⟩
  rw [vPtr_some]
  refine ⟨_, _, _, rd_keep k1 hw hr, ?_⟩
  rw [ltI_dec]
  exact h _ k1

theorem fits_ok {m : Mem} {a a1 : Option Addr} {n c n1 c1 : Nat} {l : List Stp2} {Q : Value → Mem → Prop} (hw : Wf m) (hP : PS m a n l)
    (h : ∀ m', Keep m m' → Q (.bool (fits l n1)) m') : CallW cx 16 [.slice a n c, .slice a1 n1 c1] m Q := by
  apply F16_ok; unfold F16
  rw [mBind_iff]
  generalize hm1 : newO m _ = m1
  have k1 : Keep m m1 := hm1 ▸ (Keep.refl hw).newO
  have r1 : Row m1 m.nx [.slice a1 n1 c1] 42 false := hm1 ▸ Row.newO
  unfold fits at h
  refine good_ok k1.wf (hP.keep hw k1) fun m2 k2 => ⟨_, rfl, split_b (fun hg => ?_) (fun hg => ?_)⟩
  · obtain ⟨g1, g2, g3⟩ := goodP_len hg
    have kk2 := k1.trans k2
    have hl := hP.1
    refine contains_ok (p := fun x => decide ((n1 : Int) < x.1)) kk2.wf (hP.keep hw kk2) (by omega) (fun x m3 Q k3 h => ?_) fun m' k' => ⟨_, rfl, ?_⟩
    · show CallW cx 32 [.agg #[.int .i64 x.1, .int .i64 x.2], .pointer (some ⟨m.nx, 0, none⟩)] m3 Q
      refine odd2_ok (n6 := n1) (a6 := a1) (c6 := c1) k3.wf ?_ h
      exact ((k2.trans k3).row k1.wf r1).rd
    · have := h m' (kk2.trans k')
      rw [hg] at this
      simpa using this
  · have := h m2 (k1.trans k2)
    rw [hg] at this
    simpa using this

/-! ## ProgParse -/

def digI (b : UInt8) : Int := (b.toNat : Int) - 48

/-- the reading machine: the last step is what is being read -/
def rgo : List Stp2 → Stp2 → Bool → List UInt8 → Option (List Stp2)
  | p, x, _, [] => some (p ++ [x])
  | p, x, t, b :: r =>
    if p.length + 1 ≤ 9 then
      if b.toNat = 43 then rgo (p ++ [x]) (0, 0) false r
      else if b.toNat = 64 then rgo p x true r
      else if b.toNat < 48 ∨ 57 < b.toNat ∨ 1099511627776 < x.2 ∨ 1000 < x.1 then none
      else if t then rgo p (10 * x.1 + digI b, x.2) t r
      else rgo p (x.1, 10 * x.2 + digI b) t r
    else some (p ++ [x])

def rparse (s : List UInt8) : Option (List Stp2) := match rgo [] (0, 0) false s with
  | none => none
  | some p => if goodP p = true ∧ txt p = s then some p else none

theorem digI_of {k : Nat} (h : k < 10) : digI (UInt8.ofNat (48 + k)) = k := by
  unfold digI
  rw [digit_nat h]; omega

theorem rgo_N {p : List Stp2} (hp : p.length + 1 ≤ 9) {a : Int} (ha : a ≤ 1000) : ∀ (u : Nat), u ≤ 2147483648 → ∀ r, rgo p (a, 0) false (Lib.decDigits u ++ r) = rgo p (a, (u : Int)) false r := by
  intro u
  induction u using Nat.strongRecOn with
  | _ u ih =>
    intro hu r
    rw [Lib.decDigits]
    have step : ∀ v k, k < 10 → v ≤ 2147483648 → rgo p (a, ((v : Nat) : Int)) false (UInt8.ofNat (48 + k) :: r) = rgo p (a, 10 * (v : Int) + (k : Int)) false r := fun v k hk hv => by
      rw [rgo, if_pos hp]
      rw [digit_nat hk, if_neg (by omega), if_neg (by omega), if_neg (by simp only; omega), if_neg (by decide), digI_of hk]
    by_cases h : u < 10
    · rw [dif_pos h]
      have := step 0 u h (by omega)
      simpa using this
    · rw [dif_neg h, List.append_assoc, ih (u / 10) (by omega) (by omega)]
      have := step (u / 10) (u % 10) (by omega) (by omega)
      rw [List.singleton_append, this]
      congr 2
      omega

theorem rgo_S {p : List Stp2} (hp : p.length + 1 ≤ 9) {v : Int} (hv : v ≤ 1099511627776) {k : Nat} (hk : k < 10) (r : List UInt8) : rgo p (0, v) true (Lib.decDigits k ++ r) = rgo p ((k : Int), v) true r := by
  rw [Lib.decDigits_one hk, List.singleton_append, rgo, if_pos hp, digit_nat hk, if_neg (by omega), if_neg (by omega), if_neg (by simp only; omega), if_pos rfl, digI_of hk]
  congr 2
  omega

theorem rgo_step {p : List Stp2} (hp : p.length + 1 ≤ 9) {x : Stp2} (h : 0 ≤ x.1 ∧ x.1 ≤ 8 ∧ 1 ≤ x.2 ∧ x.2 ≤ 2147483648) (r : List UInt8) : ∃ t, rgo p (0, 0) false (txt1 x ++ r) = rgo p x t r := by
  unfold txt1
  rw [itoa_dec (by omega : 0 ≤ x.2), List.append_assoc, rgo_N hp (by omega) x.2.toNat (by omega)]
  rw [show ((x.2.toNat : Nat) : Int) = x.2 by omega]
  by_cases hs : 0 < x.1
  · rw [if_pos hs, itoa_dec (by omega)]
    refine ⟨true, ?_⟩
    rw [List.cons_append, rgo, if_pos hp, if_neg (by decide), if_pos (by decide), rgo_S hp (by omega) (by omega)]
    rw [show ((x.1.toNat : Nat) : Int) = x.1 by omega]
  · rw [if_neg hs]
    refine ⟨false, ?_⟩
    rw [List.nil_append, show (0, x.2) = x from Prod.ext (by simp only; omega) rfl]

theorem rgo_list : ∀ (l p : List Stp2) (x : Stp2), p.length + 1 + l.length ≤ 9 → (∀ y ∈ x :: l, 0 ≤ y.1 ∧ y.1 ≤ 8 ∧ 1 ≤ y.2 ∧ y.2 ≤ 2147483648) → rgo p (0, 0) false (Lib.join ((x :: l).map txt1) [43]) = some (p ++ x :: l)
  | [], p, x, h, hx => by
    obtain ⟨t, ht⟩ := rgo_step (p := p) (by simp at h; omega) (hx x (List.mem_cons_self ..)) []
    rw [List.append_nil] at ht
    have : Lib.join ([x].map txt1) [43] = txt1 x := by simp [Lib.join]
    rw [this, ht]
    rfl
  | y :: l, p, x, h, hx => by
    have hl : (y :: l).length = l.length + 1 := rfl
    obtain ⟨t, ht⟩ := rgo_step (p := p) (by omega) (hx x (List.mem_cons_self ..)) ([43] ++ Lib.join ((y :: l).map txt1) [43])
    rw [List.map_cons, join_cons _ (by simp), List.append_assoc, ht, List.singleton_append, rgo, if_pos (by omega), if_pos (by decide)]
    rw [rgo_list l (p ++ [x]) y (by simp; omega) fun z hz => hx z (List.mem_cons_of_mem _ hz)]
    simp

theorem rparse_some {s : List UInt8} {p : List Stp2} : rparse s = some p ↔ goodP p = true ∧ txt p = s := by
  unfold rparse
  constructor
  · intro h
    split at h
    · cases h
    · split at h
      · rename_i hc
        cases h
        exact hc
      · cases h
  · rintro ⟨h1, rfl⟩
    obtain ⟨g1, g2, g3⟩ := goodP_len h1
    have : rgo [] (0, 0) false (txt p) = some p := by
      unfold txt
      rw [if_pos h1]
      cases p with
      | nil => simp at g1
      | cons x l =>
        have := rgo_list l [] x (by simp at g2 ⊢; omega) g3
        simpa using this
    rw [this]
    simp only
    rw [if_pos ⟨h1, trivial⟩]

theorem rparse_eq (s : List UInt8) : rparse s = parseP s := by
  cases h : rparse s with
  | some p => exact (parseP_some.2 (rparse_some.1 h)).symm
  | none =>
    cases h2 : parseP s with
    | none => rfl
    | some p => rw [rparse_some.2 (parseP_some.1 h2)] at h; cases h

theorem rgo_len : ∀ {r : List UInt8} {p : List Stp2} {x : Stp2} {t : Bool} {q : List Stp2}, p.length + 1 ≤ 10 → rgo p x t r = some q → q.length ≤ 10
  | [], p, x, t, q, hp, h => by
    rw [rgo] at h; cases h; simp; omega
  | b :: r, p, x, t, q, hp, h => by
    rw [rgo] at h
    split at h
    · split at h
      · exact rgo_len (by simp; omega) h
      · split at h
        · exact rgo_len hp h
        · split at h
          · cases h
          · split at h
            · exact rgo_len hp h
            · exact rgo_len hp h
    · cases h; simp; omega

theorem flat_last {p : List Stp2} {x : Stp2} : (p ++ [x]).flatMap encS = p.flatMap encS ++ encS x := by simp [List.flatMap_append]

theorem set_last0 {p : List Stp2} {x : Stp2} {v : Int} : ((p ++ [x]).flatMap encS).set (p.length * 2) (.int .i64 v) = (p ++ [(v, x.2)]).flatMap encS := by
  rw [flat_last, flat_last]
  have hl := flat_length encS_len p
  rw [List.set_append_right _ _ (by omega), hl, Nat.sub_self]
  rfl
theorem set_last1 {p : List Stp2} {x : Stp2} {v : Int} : ((p ++ [x]).flatMap encS).set (p.length * 2 + 1) (.int .i64 v) = (p ++ [(x.1, v)]).flatMap encS := by
  rw [flat_last, flat_last]
  have hl := flat_length encS_len p
  rw [List.set_append_right _ _ (by omega), hl, show p.length * 2 + 1 - p.length * 2 = 1 by omega]
  rfl

theorem rd_last {m : Mem} {b : Nat} {p : List Stp2} {x : Stp2} {e : TypeId} {y : Bool} (h : Row m b ((p ++ [x]).flatMap encS) e y) : rd m b (p.length * 2) = some (.int .i64 x.1) ∧ rd m b (p.length * 2 + 1) = some (.int .i64 x.2) := by
  have hl := flat_length encS_len p
  constructor
  · rw [h.rd, flat_last, List.getElem?_append_right (by omega), hl, Nat.sub_self]; rfl
  · rw [h.rd, flat_last, List.getElem?_append_right (by omega), hl, show p.length * 2 + 1 - p.length * 2 = 1 by omega]; rfl

theorem dig_byte {b : UInt8} (h0 : 48 ≤ b.toNat) (h1 : b.toNat ≤ 57) : cvI .i64 (subI .u8 (lenI b.toNat) 48) = digI b := by
  have e1 : subI .u8 (lenI b.toNat) 48 = (b.toNat : Int) - 48 := wrapI_fit (show (0 : Int) ≤ (b.toNat : Int) - 48 by omega) (show (b.toNat : Int) - 48 ≤ 255 by omega)
  rw [e1]
  exact wrapI_64 (by omega) (by omega)

def RParseR (m : Mem) (s : List UInt8) (r : Value) : Prop := match rparse s with
  | none => r = .tuple #[.slice none 0 0, .bool false]
  | some p => ∃ a n c, r = .tuple #[.slice a n c, .bool true] ∧ PS m a n p

theorem app_step {m m7 : Mem} {b b1 : Nat} {y : Bool} {p : List Stp2} {z : Stp2} (k7 : Keep m m7) (r7' : Row m7 b ((p ++ [z]).flatMap encS) 65 y) (r7 : Row m7 b1 (encS (0, 0)) 65 false) (hp : p.length + 1 ≤ 1000) (hb : m.nx ≤ b) (hf : m.fl ≤ m.nx) :
    ∃ m8, appendA cx m7 [31, 31] [.slice (some ⟨b, 0, none⟩) (p.length + 1) (p.length + 1), .slice (some ⟨b1, 0, none⟩) 1 1] = some (.slice (some ⟨m7.nx, 0, none⟩) (p.length + 1 + 1) (p.length + 1 + 1), m8) ∧ Keep m m8 ∧ Row m8 m7.nx ((p ++ [z] ++ [(0, 0)]).flatMap encS) 65 true := by
  have hf7 : firstL m7 2 1 (.slice (some ⟨b1, 0, none⟩) 1 1) = some (encS (0, 0)) := r7.rowAll
  have hln : ((p ++ [z]).flatMap encS).length = (p.length + 1) * 2 := by rw [flat_length encS_len]; simp
  have hfm : (p ++ [z]).flatMap encS ++ encS (0, 0) = (p ++ [z] ++ [(0, 0)]).flatMap encS := by rw [flat_last (p := p ++ [z])]
  have hfl7 := k7.fl
  have fin : ∀ {m8 a'}, Appended m m7 m8 a' (p.length + 1 + 1) 2 65 ((p ++ [z]).flatMap encS ++ encS (0, 0)) → Keep m m8 ∧ Row m8 m7.nx ((p ++ [z] ++ [(0, 0)]).flatMap encS) 65 true := fun A => by
    refine ⟨A.keep, ?_⟩
    rw [← hfm]
    rcases A.grow.2 with ⟨h, _⟩ | ⟨b', h, _, _, h2⟩
    · cases h
    · cases h; exact h2
  cases y with
  | true =>
    have hG : Grow m7 (some ⟨b, 0, none⟩) (p.length + 1) (p.length + 1) 2 65 ((p ++ [z]).flatMap encS) := ⟨hln, .inr ⟨b, rfl, rfl, by omega, r7'⟩⟩
    obtain ⟨m8, e8, A8⟩ := grow_ok (cx := cx) (t := 31) (tx := 31) (k := 1) k7 hG (by intro b' h; simp [blk] at h; omega) (by kernel_rfl) (by kernel_rfl) rfl hf7 rfl rfl (by omega) (by omega)
    exact ⟨m8, e8, fin A8⟩
  | false =>
    obtain ⟨m8, e8, A8⟩ := append_row (cx := cx) (t := 31) (tx := 31) (k := 1) (s := 2) (e := 65) k7 r7' hln (by kernel_rfl) (by kernel_rfl) rfl hf7 rfl rfl (by omega) (by omega)
    exact ⟨m8, e8, fin A8⟩

theorem rparse_ok {s : List UInt8} {m : Mem} {Q : Value → Mem → Prop} (hw : Wf m) (hs : s.length ≤ 1000000)
    (h : ∀ r m', Keep m m' → RParseR m' s r → Q r m') : CallW cx 17 [.string (bs s)] m Q := by
  apply F17_ok; unfold F17
  rw [mBind_iff]
  generalize hm1 : newO m _ = m1
  have k1 : Keep m m1 := hm1 ▸ (Keep.refl hw).newO
  have r1 : Row m1 m.nx (encS (0, 0)) 65 false := hm1 ▸ Row.newO
  have hfl := hw.1
  refine joinK_of' (fun J => ∀ (p : List Stp2) (b : Nat) (y : Bool) m2, p.length ≤ 10 → rgo [] (0, 0) false s = some p → Keep m m2 → Row m2 b (p.flatMap encS) 65 y → J (some ⟨b, 0, none⟩) p.length p.length m2) (fun p b y m2 hpl hp k2 r2 => ?_) (fun J hJ => ?_)
  · have hPS : PS m2 (some ⟨b, 0, none⟩) p.length p := Arr.of_row encS_len r2
    have bad : ∀ m', Keep m m' → ¬ (goodP p = true ∧ txt p = s) → Q (.tuple #[.slice none 0 0, .bool false]) m' := fun m' k' hc => by
      refine h _ m' k' ?_
      unfold RParseR rparse
      rw [hp]
      simp only
      rw [if_neg hc]
      exact True.intro
    refine rgood_ok k2.wf hPS (by omega) ⟨_, rfl, split_nb (fun hg => bad m2 k2 fun hc => by rw [hg] at hc; cases hc.1) (fun hg => ?_)⟩
    refine rtext_ok k2.wf hPS (by omega) fun m4 k4 => ⟨_, rfl, split_neS (fun hne => bad m4 (k2.trans k4) fun hc => hne (by rw [hc.2])) (fun heq => ?_)⟩
    refine h _ m4 (k2.trans k4) ?_
    unfold RParseR rparse
    rw [hp]
    simp only
    rw [if_pos ⟨hg, bs_inj.1 heq⟩]
    exact ⟨_, _, _, rfl, hPS.keep k2.wf k4⟩
  · have h0 : rgo [] (0, 0) false s = rgo [] (0, 0) false s := rfl
    refine ⟨fun a n c t x m5 w => ∃ (k : Nat) (p : List Stp2) (z : Stp2) (b : Nat) (y : Bool), x = (k : Int) ∧ k ≤ s.length ∧ w = s.length - k ∧ a = some ⟨b, 0, none⟩ ∧ n = p.length + 1 ∧ c = p.length + 1 ∧ p.length + 1 ≤ 10 ∧ rgo [] (0, 0) false s = rgo p z t (s.drop k) ∧ Keep m m5 ∧ m.nx ≤ b ∧ Row m5 b ((p ++ [z]).flatMap encS) 65 y ∧ (0 ≤ z.1 ∧ z.1 ≤ 100000 ∧ 0 ≤ z.2 ∧ z.2 ≤ 100000000000000),
      ⟨s.length, 0, [], (0, 0), m.nx, false, rfl, Nat.zero_le _, rfl, rfl, rfl, rfl, by simp, rfl, k1, Nat.le_refl _, by simpa using r1, by simp⟩, ?_⟩
    rintro a n c t x m5 w ⟨k, p, z, b, y, rfl, hk, rfl, rfl, rfl, rfl, hpl, hgo, k5, hb, r5, hz⟩
    have hlast := rd_last r5
    have hfl5 := k5.fl
    have hidx : subI .i64 (lenI (p.length + 1)) 1 = ((p.length : Nat) : Int) := by
      show subI .i64 ((p.length + 1 : Nat) : Int) 1 = _
      rw [subI_64 (by omega) (by omega)]; omega
    refine joinK_of' (fun J' => k < s.length → p.length + 1 ≤ 9 → J' m5) (fun hlt h9 => ?_) (fun J' hJ' => ?_)
    · obtain ⟨d, hd⟩ : ∃ d, s[k]? = some d := ⟨s[k], List.getElem?_eq_getElem hlt⟩
      have hdrop : s.drop k = d :: s.drop (k + 1) := by
        rw [List.drop_eq_getElem_cons hlt]
        congr 1
        exact Option.some.inj ((List.getElem?_eq_getElem hlt).symm.trans hd)
      rw [hdrop, rgo, if_pos h9] at hgo
      have hstr : (bs s).data.toList[Int.toNat (k : Int)]? = some d := by simpa using hd
      have hnext : addI .i64 (k : Int) 1 = ((k + 1 : Nat) : Int) := by rw [addI_64 (by omega) (by omega)]; rfl
      have hin : 0 ≤ ((p.length : Nat) : Int) ∧ ((p.length : Nat) : Int) < ((p.length + 1 : Nat) : Int) := ⟨by omega, by omega⟩
      simp only [hidx, hnext]
      clear hidx hnext
      refine ⟨by omega, d, hstr, split_eq (fun h43 => ?_) (fun h43 => ?_)⟩
      · have h43 : d.toNat = 43 := by simp only [lenI] at h43; omega
        rw [if_pos h43] at hgo
        rw [mBind_iff]
        generalize hm7 : newO m5 _ = m7
        have k57 : Keep m5 m7 := hm7 ▸ (Keep.refl k5.wf).newO
        have r7 : Row m7 m5.nx (encS (0, 0)) 65 false := hm7 ▸ Row.newO
        have k7 := k5.trans k57
        have r7' := k57.row k5.wf r5
        have happ := app_step k7 r7' r7 (by omega) hb hfl
        obtain ⟨m8, e8, k8, r8⟩ := happ
        refine ⟨_, _, _, m8, e8, s.length - (k + 1), by omega, k + 1, p ++ [z], (0, 0), m7.nx, true, rfl, by omega, rfl, rfl, by simp, by simp, by simp; omega, hgo, k8, k7.nx, r8, by simp⟩
      · have h43 : d.toNat ≠ 43 := fun e => h43 (by simp only [lenI]; omega)
        rw [if_neg h43] at hgo
        refine ⟨by omega, d, hstr, split_eq (fun h64 => ?_) (fun h64 => ?_)⟩
        · have h64 : d.toNat = 64 := by simp only [lenI] at h64; omega
          rw [if_pos h64] at hgo
          exact ⟨s.length - (k + 1), by omega, k + 1, p, z, b, y, rfl, by omega, rfl, rfl, rfl, rfl, hpl, hgo, k5, hb, r5, hz⟩
        · have h64 : d.toNat ≠ 64 := fun e => h64 (by simp only [lenI]; omega)
          rw [if_neg h64] at hgo
          refine joinK_of' (fun J => J (decide (d.toNat < 48 ∨ 57 < d.toNat ∨ 1099511627776 < z.2 ∨ 1000 < z.1)) m5) ?_ (fun J hJ2 => ?_)
          · refine split_b (fun hbad => ?_) (fun hok => ?_)
            · rw [if_pos (of_decide_eq_true hbad)] at hgo
              refine h _ m5 k5 ?_
              unfold RParseR rparse
              rw [hgo]
            · have hok := of_decide_eq_false hok
              rw [if_neg hok] at hgo
              have hdg : digI d = (d.toNat : Int) - 48 := rfl
              refine split_b (fun ht => ?_) (fun ht => ?_)
              · subst ht
                rw [if_pos rfl] at hgo
                rw [mBind_iff]
                have k10 : Keep m (AX.bump m5 17) := k5.bump
                have r10 : Row (AX.bump m5 17) b ((p ++ [z]).flatMap encS) 65 y := r5
                refine ⟨hin, ?_⟩
                rw [vPtr_some]
                simp only [Int.toNat_natCast, Nat.zero_add]
                refine ⟨_, hlast.1, by omega, d, hstr, hin, ?_⟩
                rw [vPtr_some]
                simp only [Int.toNat_natCast, Nat.zero_add]
                refine ⟨r10.okW (by show m5.fl ≤ b; omega) (by rw [flat_length encS_len, List.length_append, List.length_singleton]; omega), ?_⟩
                rw [mBind_iff, dig_byte (by omega) (by omega)]
                have r11 := r10.wr1 (o := p.length * 2) (v := .int .i64 (addI .i64 (mulI .i64 10 z.1) (digI d))) (by rw [flat_length encS_len, List.length_append, List.length_singleton]; omega)
                rw [set_last0] at r11
                have ev : addI .i64 (mulI .i64 10 z.1) (digI d) = 10 * z.1 + digI d := by rw [mulI_64 (by omega) (by omega), addI_64 (by omega) (by omega)]
                rw [ev] at r11 ⊢
                exact ⟨s.length - (k + 1), by omega, k + 1, p, _, b, y, rfl, by omega, rfl, rfl, rfl, rfl, hpl, hgo, k10.wr hb, hb, r11, by simp only; omega⟩
              · subst ht
                rw [if_neg (by decide)] at hgo
                rw [mBind_iff]
                have k10 : Keep m (AX.bump m5 17) := k5.bump
                have r10 : Row (AX.bump m5 17) b ((p ++ [z]).flatMap encS) 65 y := r5
                refine ⟨hin, ?_⟩
                rw [vPtr_some]
                simp only [Int.toNat_natCast, Nat.zero_add]
                refine ⟨_, hlast.2, by omega, d, hstr, hin, ?_⟩
                rw [vPtr_some]
                simp only [Int.toNat_natCast, Nat.zero_add]
                refine ⟨r10.okW (by show m5.fl ≤ b; omega) (by rw [flat_length encS_len, List.length_append, List.length_singleton]; omega), ?_⟩
                rw [mBind_iff, dig_byte (by omega) (by omega)]
                have r11 := r10.wr1 (o := p.length * 2 + 1) (v := .int .i64 (addI .i64 (mulI .i64 10 z.2) (digI d))) (by rw [flat_length encS_len, List.length_append, List.length_singleton]; omega)
                rw [set_last1] at r11
                have ev : addI .i64 (mulI .i64 10 z.2) (digI d) = 10 * z.2 + digI d := by rw [mulI_64 (by omega) (by omega), addI_64 (by omega) (by omega)]
                rw [ev] at r11 ⊢
                exact ⟨s.length - (k + 1), by omega, k + 1, p, _, b, y, rfl, by omega, rfl, rfl, rfl, rfl, hpl, hgo, k10.wr hb, hb, r11, by simp only; omega⟩
          · refine ⟨by omega, d, hstr, split_ltI (fun h1 => ?_) (fun h1 => ?_)⟩
            · simp only [lenI] at h1
              rw [decide_eq_true (by omega)] at hJ2; exact hJ2
            refine ⟨by omega, d, hstr, split_ltI (fun h2 => ?_) (fun h2 => ?_)⟩
            · simp only [lenI] at h2
              rw [decide_eq_true (by omega)] at hJ2; exact hJ2
            simp only [lenI] at h1 h2
            refine ⟨hin, ?_⟩
            rw [vPtr_some]
            simp only [Int.toNat_natCast, Nat.zero_add]
            refine ⟨_, hlast.2, split_ltI (fun h3 => ?_) (fun h3 => ?_)⟩
            · rw [decide_eq_true (by omega)] at hJ2; exact hJ2
            refine ⟨hin, ?_⟩
            rw [vPtr_some]
            simp only [Int.toNat_natCast, Nat.zero_add]
            refine ⟨_, hlast.1, ?_⟩
            rw [ltI_dec]
            rw [show decide (d.toNat < 48 ∨ 57 < d.toNat ∨ 1099511627776 < z.2 ∨ 1000 < z.1) = decide (1000 < z.1) from decide_eq_decide.2 (by omega)] at hJ2
            exact hJ2
    · have hend : (s.length ≤ k ∨ 9 < p.length + 1) → J (some ⟨b, 0, none⟩) (p.length + 1) (p.length + 1) m5 := fun hc => by
        have hgo' : rgo [] (0, 0) false s = some (p ++ [z]) := by
          rw [hgo]
          rcases hc with hc | hc
          · rw [List.drop_eq_nil_of_le hc, rgo]
          · cases hd : s.drop k with
            | nil => rw [rgo]
            | cons d r => rw [rgo, if_neg (by omega)]
        have := hJ (p ++ [z]) b y m5 (by simp; omega) hgo' k5 r5
        simpa using this
      refine split_ltI (fun h1 => split_leI (fun h2 => hJ' ?_ ?_) (fun h2 => hend (.inr ?_))) (fun h1 => hend (.inl ?_))
      · have h1 : (k : Int) < ((s.length : Nat) : Int) := h1
        omega
      · have h2 : ((p.length + 1 : Nat) : Int) ≤ 9 := h2
        omega
      · have h2 : (9 : Int) < ((p.length + 1 : Nat) : Int) := h2
        omega
      · have h1 : ((s.length : Nat) : Int) ≤ (k : Int) := h1
        omega

end Go.Proofs.YtnhpljcjdfffkaaDoor.vc
