/-
  Package prog: what Good, Total, Holds return.
-/
import Derived.Test.YtnhpljcjdfffkaaDoorVc
import Derived.Test.YtnhpljcjdfffkaaDoorAxArr
namespace Go.Proofs.YtnhpljcjdfffkaaDoor.vc
open Go Go.AX
set_option linter.unusedVariables false
set_option linter.unusedSimpArgs false
set_option maxRecDepth 100000

/-- a step: its semaphore, its ticks -/
abbrev Stp2 := Int × Int
def encS (x : Stp2) : List Value := [.int .i64 x.1, .int .i64 x.2]
abbrev PS := Arr encS 2
theorem encS_len (x : Stp2) : (encS x).length = 2 := rfl

def okS (x : Stp2) : Bool := decide (0 ≤ x.1 ∧ x.1 ≤ 8 ∧ 1 ≤ x.2 ∧ x.2 ≤ 2147483648)
def goodP (l : List Stp2) : Bool := decide (1 ≤ l.length) && decide (l.length ≤ 8) && l.all okS
def total (l : List Stp2) : Int := if goodP l = true then (l.map (·.2)).sum else 0
def holds (l : List Stp2) : Int := if goodP l = true then ((l.filter fun x => decide (0 < x.1)).length : Int) else 0

theorem PS.open {m : Mem} {a : Option Addr} {n : Nat} {l : List Stp2} (h : PS m a n l) {k : Nat} {x : Stp2} {G : Nat → Nat → Prop} (hx : l[k]? = some x)
    (hG : ∀ b o, rd m b (o + Int.toNat (k : Int) * 2) = some (.int .i64 x.1) → rd m b (o + Int.toNat (k : Int) * 2 + 1) = some (.int .i64 x.2) → G b o) : (0 ≤ (k : Int) ∧ (k : Int) < ((n : Nat) : Int)) ∧ vPtr a G :=
  ArrP.open h hx fun b o hP => hG b o (hP 0 _ rfl) (hP 1 _ rfl)

theorem odd_ok {m : Mem} {x : Stp2} {Q : Value → Mem → Prop} (hw : Wf m) (h : ∀ m', Keep m m' → Q (.bool (!okS x)) m') : CallW cx 23 [.agg #[.int .i64 x.1, .int .i64 x.2]] m Q := by
  apply F23_ok; unfold F23
  rw [mBind_iff]
  have k1 : Keep m (newO m (row [.int .i64 x.1, .int .i64 x.2] 39 false)) := (Keep.refl hw).newO
  have r1 : Row (newO m (row [.int .i64 x.1, .int .i64 x.2] 39 false)) m.nx _ 39 false := Row.newO
  have h := h _ k1
  unfold okS at h
  refine ⟨x.1, r1.rd, split_ltI (fun h1 => ?_) (fun h1 => ⟨x.1, r1.rd, split_ltI (fun h2 => ?_) (fun h2 => ⟨x.2, r1.rd, split_ltI (fun h3 => ?_) (fun h3 => ⟨x.2, r1.rd, ?_⟩)⟩)⟩)⟩
  · rwa [decide_eq_false (by omega)] at h
  · rwa [decide_eq_false (by omega)] at h
  · rwa [decide_eq_false (by omega)] at h
  · rw [ltI_dec]
    by_cases h4 : x.2 ≤ 2147483648
    · rw [decide_eq_true (by omega)] at h
      rwa [decide_eq_false (by omega)]
    · rw [decide_eq_false (by omega)] at h
      rwa [decide_eq_true (by omega)]

/-- a function handed on, that says p -/
def Pred (m : Mem) (f : Value) (p : Stp2 → Bool) : Prop := ∀ x m1 (Q : Value → Mem → Prop), Keep m m1 → (∀ m2, Keep m1 m2 → Q (.bool (p x)) m2) → vCallF cx m1 f [.agg #[.int .i64 x.1, .int .i64 x.2]] Q

theorem indexFunc_ok {m : Mem} {a : Option Addr} {n c : Nat} {l : List Stp2} {f : Value} {p : Stp2 → Bool} {Q : Value → Mem → Prop} (hw : Wf m) (hP : PS m a n l) (hn : n ≤ 1000000000) (hf : Pred m f p)
    (h : ∀ m' x, Keep m m' → ((0 : Int) ≤ x ↔ l.any p = true) → Q (.int .i64 x) m') : CallW cx 34 [.slice a n c, f] m Q := by
  apply F34_ok; unfold F34
  have hl := hP.1
  refine forN (n := n) (by omega) (fun k m1 => Keep m m1 ∧ (l.take k).any p = false) ⟨Keep.refl hw, rfl⟩ ?_
  rintro k m1 hk ⟨k1, hno⟩ I w hI
  refine split_lt (fun hlt => ?_) (fun hge => ?_)
  · obtain ⟨x, hx⟩ := ArrP.get hP hlt
    refine PS.open (hP.keep hw k1) hx fun b o r1 r2 => ⟨_, r1, _, r2, hf x m1 _ k1 fun m2 k2 => ⟨_, rfl, split_b (fun hp => ?_) (fun hp => ?_)⟩⟩
    · refine h m2 k (k1.trans k2) ?_
      have : l.any p = true := List.any_eq_true.2 ⟨x, List.mem_of_getElem? hx, hp⟩
      simp [this]
    · refine hI m2 hlt ⟨k1.trans k2, ?_⟩
      rw [List.take_add_one, hx]
      simp [hno, hp]
  · refine h m1 (-1) k1 ?_
    rw [List.take_of_length_le (by omega)] at hno
    simp [hno]

theorem contains_ok {m : Mem} {a : Option Addr} {n c : Nat} {l : List Stp2} {f : Value} {p : Stp2 → Bool} {Q : Value → Mem → Prop} (hw : Wf m) (hP : PS m a n l) (hn : n ≤ 1000000000) (hf : Pred m f p)
    (h : ∀ m', Keep m m' → Q (.bool (l.any p)) m') : CallW cx 24 [.slice a n c, f] m Q := by
  apply F24_ok; unfold F24
  refine indexFunc_ok hw hP hn hf fun m' x k hx => ⟨x, rfl, ?_⟩
  have : leI 0 x = l.any p := by
    rw [leI_dec]
    cases hb : l.any p with
    | true => exact decide_eq_true (hx.2 hb)
    | false => exact decide_eq_false fun h => by rw [hx.1 h] at hb; cases hb
  rw [this]
  exact h m' k

theorem good_ok {m : Mem} {a : Option Addr} {n c : Nat} {l : List Stp2} {Q : Value → Mem → Prop} (hw : Wf m) (hP : PS m a n l)
    (h : ∀ m', Keep m m' → Q (.bool (goodP l)) m') : CallW cx 9 [.slice a n c] m Q := by
  apply F9_ok; unfold F9
  have hl := hP.1
  simp only [lenI]
  refine split_leI (fun h1 => split_leI (fun h2 => ?_) (fun h2 => ?_)) (fun h1 => ?_)
  · refine contains_ok (p := fun x => !okS x) hw hP (by omega) (fun x m1 Q k1 h => odd_ok k1.wf h) fun m' k => ⟨_, rfl, ?_⟩
    have := h m' k
    unfold goodP at this
    rw [decide_eq_true (by omega), decide_eq_true (by omega)] at this
    rw [List.any_eq_not_all_not, Bool.not_not]
    simpa using this
  · have := h m (Keep.refl hw)
    unfold goodP at this
    rw [decide_eq_false (p := l.length ≤ 8) (by omega)] at this
    simpa using this
  · have := h m (Keep.refl hw)
    unfold goodP at this
    rw [decide_eq_false (p := 1 ≤ l.length) (by omega)] at this
    simpa using this

theorem goodP_len {l : List Stp2} (h : goodP l = true) : 1 ≤ l.length ∧ l.length ≤ 8 ∧ ∀ x ∈ l, 0 ≤ x.1 ∧ x.1 ≤ 8 ∧ 1 ≤ x.2 ∧ x.2 ≤ 2147483648 := by
  unfold goodP at h
  simp only [Bool.and_eq_true, decide_eq_true_eq, List.all_eq_true] at h
  exact ⟨h.1.1, h.1.2, fun x hx => by simpa [okS] using h.2 x hx⟩

theorem sum_bound {l : List Stp2} (h : ∀ x ∈ l, 0 ≤ x.1 ∧ x.1 ≤ 8 ∧ 1 ≤ x.2 ∧ x.2 ≤ 2147483648) : (l.length : Int) ≤ (l.map (·.2)).sum ∧ (l.map (·.2)).sum ≤ l.length * 2147483648 := by
  induction l with
  | nil => simp
  | cons a r ih =>
    have h1 := h a (List.mem_cons_self ..)
    have h2 := ih fun x hx => h x (List.mem_cons_of_mem _ hx)
    simp only [List.map_cons, List.sum_cons, List.length_cons]
    omega

theorem total_ok {m : Mem} {a : Option Addr} {n c : Nat} {l : List Stp2} {Q : Value → Mem → Prop} (hw : Wf m) (hP : PS m a n l)
    (h : ∀ m', Keep m m' → Q (.int .i64 (total l)) m') : CallW cx 14 [.slice a n c] m Q := by
  apply F14_ok; unfold F14
  have hl := hP.1
  refine good_ok hw hP fun m1 k1 => ⟨_, rfl, split_nb (fun hg => ?_) (fun hg => ?_)⟩
  · have := h m1 k1
    rwa [total, if_neg (by rw [hg]; decide)] at this
  obtain ⟨g1, g2, g3⟩ := goodP_len hg
  refine forN1 (n := n) (by omega) (fun k s m2 => Keep m m2 ∧ s = ((l.take k).map (·.2)).sum) ⟨k1, rfl⟩ ?_
  rintro k s m2 hk ⟨k2, rfl⟩ I w hI
  refine split_lt (fun hlt => ?_) (fun hge => ?_)
  · obtain ⟨x, hx⟩ := ArrP.get hP hlt
    refine PS.open (hP.keep hw k2) hx fun b o r1 r2 => ⟨_, r1, _, r2, ?_⟩
    rw [mBind_iff]
    have rr : Row (newO m2 (row [.int .i64 0, .int .i64 0] 39 false)) m2.nx _ 39 false := Row.newO
    refine ⟨rr.okW (by have := k2.wf.1; simpa using this) (by simp), ?_⟩
    rw [mBind_iff]
    have rw4 := rr.wr (o := 0) (vs := [.int .i64 x.1, .int .i64 x.2]) (by simp)
    have k4 : Keep m (AX.wr (newO m2 (row [.int .i64 0, .int .i64 0] 39 false)) m2.nx 0 [.int .i64 x.1, .int .i64 x.2]) := k2.newO.wr k2.nx
    refine ⟨x.2, rw4.rd, hI _ _ hlt ⟨k4, ?_⟩⟩
    have hb := sum_bound (l := l.take k) fun y hy => g3 y (List.mem_of_mem_take hy)
    have hlk : (l.take k).length = k := by simp; omega
    have hx2 := g3 x (List.mem_of_getElem? hx)
    rw [List.take_add_one, hx]
    simp only [Option.toList_some, List.map_append, List.map_cons, List.map_nil, List.sum_append, List.sum_cons, List.sum_nil]
    rw [hlk] at hb
    rw [addI_64 (by omega) (by omega)]
    omega
  · rw [List.take_of_length_le (by omega)]
    have := h m2 k2
    rwa [total, if_pos hg] at this

theorem holds_ok {m : Mem} {a : Option Addr} {n c : Nat} {l : List Stp2} {Q : Value → Mem → Prop} (hw : Wf m) (hP : PS m a n l)
    (h : ∀ m', Keep m m' → Q (.int .i64 (holds l)) m') : CallW cx 15 [.slice a n c] m Q := by
  apply F15_ok; unfold F15
  have hl := hP.1
  refine good_ok hw hP fun m1 k1 => ⟨_, rfl, split_nb (fun hg => ?_) (fun hg => ?_)⟩
  · have := h m1 k1
    rwa [holds, if_neg (by rw [hg]; decide)] at this
  obtain ⟨g1, g2, g3⟩ := goodP_len hg
  refine forN1 (n := n) (by omega) (fun k s m2 => Keep m m2 ∧ s = (((l.take k).filter fun x => decide (0 < x.1)).length : Int)) ⟨k1, rfl⟩ ?_
  rintro k s m2 hk ⟨k2, rfl⟩ I w hI
  refine split_lt (fun hlt => ?_) (fun hge => ?_)
  · obtain ⟨x, hx⟩ := ArrP.get hP hlt
    refine PS.open (hP.keep hw k2) hx fun b o r1 r2 => ⟨_, r1, _, r2, ?_⟩
    rw [mBind_iff]
    have rr : Row (newO m2 (row [.int .i64 0, .int .i64 0] 39 false)) m2.nx _ 39 false := Row.newO
    refine ⟨rr.okW (by have := k2.wf.1; simpa using this) (by simp), ?_⟩
    rw [mBind_iff]
    have rw4 := rr.wr (o := 0) (vs := [.int .i64 x.1, .int .i64 x.2]) (by simp)
    have k4 : Keep m (AX.wr (newO m2 (row [.int .i64 0, .int .i64 0] 39 false)) m2.nx 0 [.int .i64 x.1, .int .i64 x.2]) := k2.newO.wr k2.nx
    have hfl := List.length_filter_le (fun x : Stp2 => decide (0 < x.1)) (l.take k)
    have hlk : (l.take k).length = k := by simp; omega
    have hstep : (l.take (k + 1)).filter (fun x => decide (0 < x.1)) = (l.take k).filter (fun x => decide (0 < x.1)) ++ (if 0 < x.1 then [x] else []) := by
      rw [List.take_add_one, hx, List.filter_append]
      by_cases h : 0 < x.1 <;> simp [h]
    refine ⟨x.1, rw4.rd, split_ltI (fun hp => hI _ _ hlt ⟨k4, ?_⟩) (fun hp => hI _ _ hlt ⟨k4, ?_⟩)⟩
    · rw [hstep, if_pos hp, List.length_append]
      rw [addI_64 (by omega) (by omega)]; simp
    · rw [hstep, if_neg (by omega)]; simp
  · rw [List.take_of_length_le (by omega)]
    have := h m2 k2
    rwa [holds, if_pos hg] at this

end Go.Proofs.YtnhpljcjdfffkaaDoor.vc
