/-
  Package edf in plain Lean: the order of entries, who runs; no program in sight.
-/
import Derived.Sort.Statements
namespace Go.AX.pl
set_option linter.unusedSimpArgs false
set_option linter.unusedVariables false
set_option linter.unusedSectionVars false
open Go.Sort

/-- an entry: its number, when it is due, may it not be stopped -/
abbrev E := Int × Int × Bool

def c2 (x y : Int) : Int := if x < y then -1 else if y < x then 1 else 0
def or2 (x y : Int) : Int := if x = 0 then y else x
def cmp0 (a b : E) : Int := or2 (c2 a.2.1 b.2.1) (c2 a.1 b.1)
def cmpE (a b : E) : Int := if (a.2.2 && !b.2.2) = true then -1 else if (b.2.2 && !a.2.2) = true then 1 else cmp0 a b
def less (a b : E) : Bool := decide (cmp0 a b < 0)
def lt (a b : E) : Bool := decide (cmpE a b < 0)

theorem cmp0_neg {a b : E} : cmp0 a b < 0 ↔ a.2.1 < b.2.1 ∨ (a.2.1 = b.2.1 ∧ a.1 < b.1) := by
  unfold cmp0 or2 c2
  by_cases h1 : a.2.1 < b.2.1
  · simp [h1]
  · by_cases h2 : b.2.1 < a.2.1
    · simp [h1, h2]; omega
    · have h3 : a.2.1 = b.2.1 := by omega
      by_cases h4 : a.1 < b.1
      · simp [h3, h4]
      · by_cases h5 : b.1 < a.1 <;> simp [h3, h4, h5]

theorem less_iff {a b : E} : less a b = true ↔ a.2.1 < b.2.1 ∨ (a.2.1 = b.2.1 ∧ a.1 < b.1) := by
  unfold less; rw [decide_eq_true_iff, cmp0_neg]

theorem lt_iff {a b : E} : lt a b = true ↔ (a.2.2 = true ∧ b.2.2 = false) ∨ (a.2.2 = b.2.2 ∧ (a.2.1 < b.2.1 ∨ (a.2.1 = b.2.1 ∧ a.1 < b.1))) := by
  unfold lt cmpE; rw [decide_eq_true_iff]
  cases a.2.2 <;> cases b.2.2 <;> simp [cmp0_neg]

theorem lt_irrefl (x : E) : lt x x = false := by
  cases h : lt x x with
  | false => rfl
  | true => rw [lt_iff] at h; rcases h with ⟨h, h'⟩ | ⟨_, h | ⟨_, h⟩⟩
            · rw [h] at h'; cases h'
            · omega
            · omega

theorem lt_trans {x y z : E} (h1 : lt x y = true) (h2 : lt y z = true) : lt x z = true := by
  rw [lt_iff] at *
  cases hx : x.2.2 <;> cases hy : y.2.2 <;> cases hz : z.2.2 <;> simp [hx, hy, hz] at * <;> omega

theorem lt_total {x y : E} (h1 : lt x y = false) (h2 : lt y x = false) : x = y := by
  have n1 := fun h => Bool.eq_false_iff.1 h1 (lt_iff.2 h)
  have n2 := fun h => Bool.eq_false_iff.1 h2 (lt_iff.2 h)
  obtain ⟨a, b, c⟩ := x
  obtain ⟨a', b', c'⟩ := y
  simp only at n1 n2
  have hc : c = c' := by
    cases c <;> cases c' <;> first | rfl | (exfalso; first | exact n1 (.inl ⟨rfl, rfl⟩) | exact n2 (.inl ⟨rfl, rfl⟩))
  subst hc
  have m1 : ¬ (b < b' ∨ (b = b' ∧ a < a')) := fun h => n1 (.inr ⟨rfl, h⟩)
  have m2 : ¬ (b' < b ∨ (b' = b ∧ a' < a)) := fun h => n2 (.inr ⟨rfl, h⟩)
  have e1 : b = b' := by omega
  subst e1
  have e2 : a = a' := by omega
  subst e2
  rfl

theorem lt_asymm {x y : E} (h : lt x y = true) : lt y x = false := by
  cases h2 : lt y x with
  | false => rfl
  | true => have := lt_trans h h2; rw [lt_irrefl] at this; cases this

theorem lt_ntrans {x y z : E} (h1 : lt x y = false) (h2 : lt y z = false) : lt x z = false := by
  cases h : lt x z with
  | false => rfl
  | true =>
    cases h3 : lt y x with
    | true => have := lt_trans h3 h; rw [h2] at this; cases this
    | false => obtain rfl := lt_total h1 h3; rw [h2] at h; cases h

theorem swo : SWO lt := ⟨lt_irrefl, fun _ _ _ => lt_trans, fun _ _ _ => lt_ntrans⟩

/-! ## in order -/

def srt (l : List E) : List E := l.mergeSort fun x y => !lt y x

theorem srt_perm (l : List E) : (srt l).Perm l := List.mergeSort_perm _ _
theorem srt_length (l : List E) : (srt l).length = l.length := (srt_perm l).length_eq
theorem mem_srt {l : List E} {x : E} : x ∈ srt l ↔ x ∈ l := (srt_perm l).mem_iff

theorem srt_sorted (l : List E) : (srt l).Pairwise fun x y => lt y x = false := by
  have := List.pairwise_mergeSort (le := fun x y : E => !lt y x) (fun a b c h1 h2 => by
    simp only [Bool.not_eq_true'] at *
    exact lt_ntrans h2 h1) (fun a b => by
    cases h : lt b a with
    | false => simp
    | true => simp [lt_asymm h]) l
  exact this.imp fun h => by simpa using h

def ids (l : List E) : List Int := l.map (·.1)

theorem srt_strict {l : List E} (hn : (ids l).Nodup) : (srt l).Pairwise fun x y => lt x y = true := by
  have h1 : (ids (srt l)).Nodup := ((srt_perm l).map _).nodup_iff.2 hn
  have h2 : (srt l).Pairwise fun x y => x.1 ≠ y.1 := by
    rw [ids, List.Nodup, List.pairwise_map] at h1; exact h1
  exact ((srt_sorted l).and h2).imp fun {x y} ⟨h3, h4⟩ => by
    cases h : lt x y with
    | true => rfl
    | false => exact absurd (congrArg (·.1) (lt_total h h3)) h4

/-- how many come ahead of one -/
def rank (l : List E) (y : E) : Nat := l.countP fun z => lt z y

theorem rank_perm {l l' : List E} (h : l.Perm l') (y : E) : rank l y = rank l' y := h.countP_eq _

theorem rank_at : ∀ {s : List E}, (s.Pairwise fun x y => lt x y = true) → ∀ {j : Nat} {y : E}, s[j]? = some y → rank s y = j
  | [], _, j, y, h => by simp at h
  | x :: s, hs, 0, y, h => by
    simp at h; subst h
    rw [List.pairwise_cons] at hs
    unfold rank
    rw [List.countP_cons, lt_irrefl, List.countP_eq_zero.2 (fun z hz => by rw [lt_asymm (hs.1 z hz)]; simp)]
    rfl
  | x :: s, hs, j + 1, y, h => by
    rw [List.pairwise_cons] at hs
    simp at h
    have ih := rank_at hs.2 h
    unfold rank at *
    rw [List.countP_cons, hs.1 y (List.mem_of_getElem? h), ih]
    rfl

theorem mem_take {l : List E} (hn : (ids l).Nodup) {n : Nat} {y : E} : y ∈ (srt l).take n ↔ y ∈ l ∧ rank l y < n := by
  rw [← mem_srt (l := l), ← rank_perm (srt_perm l) y]
  constructor
  · intro h
    obtain ⟨j, hj⟩ := List.getElem?_of_mem h
    rw [List.getElem?_take] at hj
    split at hj
    · rename_i hlt
      exact ⟨List.mem_of_getElem? hj, by rw [rank_at (srt_strict hn) hj]; exact hlt⟩
    · cases hj
  · rintro ⟨h1, h2⟩
    obtain ⟨j, hj⟩ := List.getElem?_of_mem h1
    rw [rank_at (srt_strict hn) hj] at h2
    exact List.mem_of_getElem? (i := j) (by rw [List.getElem?_take, if_pos h2]; exact hj)

theorem rank_lt {l : List E} {y z : E} (hy : y ∈ l) (h : lt y z = true) : rank l y < rank l z := by
  unfold rank
  induction l with
  | nil => cases hy
  | cons x r ih =>
    rw [List.countP_cons, List.countP_cons]
    have hmono : ∀ r : List E, r.countP (fun w => lt w y) ≤ r.countP (fun w => lt w z) := fun r => List.countP_mono_left fun w _ hw => lt_trans hw h
    rcases List.mem_cons.1 hy with e | e
    · subst e
      have := hmono r
      simp only [lt_irrefl, h]
      simp; omega
    · have := ih e
      cases h1 : lt x y with
      | true => simp [lt_trans h1 h]; exact this
      | false => cases lt x z <;> simp <;> omega

theorem rank_le_length (l : List E) (y : E) : rank l y ≤ l.length := List.countP_le_length

/-! ## who runs -/

def nfix (l : List E) : Nat := l.countP (·.2.2)

/-- so many CPUs, and these entries, may be -/
structure Good (m : Int) (l : List E) : Prop where
  m1 : 1 ≤ m
  m2 : m ≤ 64
  len : l.length ≤ 64
  id : ∀ x ∈ l, 0 ≤ x.1 ∧ x.1 ≤ 1023
  nd : (ids l).Nodup
  fx : (nfix l : Int) ≤ m

open Classical in
noncomputable def run (m : Int) (l : List E) : List E := if Good m l then (srt l).take m.toNat else []
open Classical in
noncomputable def rest (m : Int) (l : List E) : List E := if Good m l then (srt l).drop m.toNat else []

def srtI (l : List Int) : List Int := l.mergeSort fun x y => decide (x ≤ y)
noncomputable def pick (m : Int) (l : List E) : List Int := srtI (ids (run m l))

theorem srtI_perm (l : List Int) : (srtI l).Perm l := List.mergeSort_perm _ _
theorem mem_srtI {l : List Int} {x : Int} : x ∈ srtI l ↔ x ∈ l := (srtI_perm l).mem_iff
theorem srtI_sorted (l : List Int) : (srtI l).Pairwise fun x y => x ≤ y := by
  have := List.pairwise_mergeSort (le := fun x y : Int => decide (x ≤ y)) (fun a b c h1 h2 => by simp at *; omega) (fun a b => by simp; omega) l
  exact this.imp fun h => by simpa using h
theorem srtI_strict {l : List Int} (h : l.Nodup) : (srtI l).Pairwise fun x y => x < y := by
  have h1 : (srtI l).Nodup := (srtI_perm l).nodup_iff.2 h
  exact ((srtI_sorted l).and h1).imp fun ⟨h2, h3⟩ => by omega

theorem srtI_unique {l l' : List Int} (h : l.Perm l') : srtI l = srtI l' := by
  have hp : (srtI l).Perm (srtI l') := (srtI_perm l).trans (h.trans (srtI_perm l').symm)
  exact hp.eq_of_pairwise (le := fun x y => x ≤ y) (fun a b _ _ h1 h2 => by omega) (srtI_sorted l) (srtI_sorted l')

theorem srt_unique {l l' : List E} (h : l.Perm l') : srt l = srt l' := by
  have hp : (srt l).Perm (srt l') := (srt_perm l).trans (h.trans (srt_perm l').symm)
  exact hp.eq_of_pairwise (le := fun x y => lt y x = false) (fun a b _ _ h1 h2 => lt_total h2 h1) (srt_sorted l) (srt_sorted l')

variable {m : Int} {l : List E}

theorem run_good (h : Good m l) : run m l = (srt l).take m.toNat := by unfold run; rw [if_pos h]
theorem rest_good (h : Good m l) : rest m l = (srt l).drop m.toNat := by unfold rest; rw [if_pos h]
theorem run_bad (h : ¬ Good m l) : run m l = [] := by unfold run; rw [if_neg h]
theorem rest_bad (h : ¬ Good m l) : rest m l = [] := by unfold rest; rw [if_neg h]

theorem mem_run (h : Good m l) {y : E} : y ∈ run m l ↔ y ∈ l ∧ rank l y < m.toNat := by rw [run_good h]; exact mem_take h.nd
theorem run_length (h : Good m l) : (run m l).length = min m.toNat l.length := by rw [run_good h, List.length_take, srt_length]
theorem pick_length (h : Good m l) : (pick m l).length = min m.toNat l.length := by
  unfold pick
  rw [(srtI_perm _).length_eq, ids, List.length_map, run_length h]

theorem nd_inj : ∀ {l : List E}, (ids l).Nodup → ∀ {x y : E}, x ∈ l → y ∈ l → x.1 = y.1 → x = y
  | [], _, x, y, hx, _, _ => by cases hx
  | z :: l, hn, x, y, hx, hy, h => by
    rw [ids, List.map_cons, List.nodup_cons] at hn
    rcases List.mem_cons.1 hx with e | e
    · rcases List.mem_cons.1 hy with e' | e'
      · rw [e, e']
      · subst e; exact absurd (by rw [h]; exact List.mem_map_of_mem e') hn.1
    · rcases List.mem_cons.1 hy with e' | e'
      · subst e'; exact absurd (by rw [← h]; exact List.mem_map_of_mem e) hn.1
      · exact nd_inj hn.2 e e' h

theorem mem_pick {i : Int} : i ∈ pick m l ↔ ∃ x ∈ run m l, x.1 = i := by
  unfold pick
  rw [mem_srtI, ids, List.mem_map]

theorem run_sub {y : E} (hy : y ∈ run m l) : y ∈ l := by
  by_cases h : Good m l
  · exact ((mem_run h).1 hy).1
  · rw [run_bad h] at hy; cases hy

theorem mem_pick_id (h : Good m l) {x : E} (hx : x ∈ l) : x.1 ∈ pick m l ↔ x ∈ run m l := by
  rw [mem_pick]
  exact ⟨fun ⟨y, hy, e⟩ => by rw [← nd_inj h.nd (run_sub hy) hx e]; exact hy, fun hx => ⟨x, hx, rfl⟩⟩

theorem ids_run_nodup (h : Good m l) : (ids (run m l)).Nodup := by
  have h1 : (ids (srt l)).Nodup := ((srt_perm l).map _).nodup_iff.2 h.nd
  rw [run_good h]
  unfold ids at *
  rw [List.map_take]
  exact h1.sublist (List.take_sublist _ _)

theorem pick_strict : (pick m l).Pairwise fun x y => x < y := by
  by_cases h : Good m l
  · exact srtI_strict (ids_run_nodup h)
  · have : pick m l = [] := by unfold pick; rw [run_bad h]; exact List.mergeSort_nil
    rw [this]; exact .nil

/-- all that may not be stopped run -/
theorem fixed_runs (h : Good m l) {x : E} (hx : x ∈ l) (hf : x.2.2 = true) : x ∈ run m l := by
  rw [mem_run h]
  refine ⟨hx, ?_⟩
  have h1 : rank l x < nfix l := by
    have : ∀ r : List E, r.countP (fun z => lt z x) ≤ r.countP (·.2.2) := fun r => List.countP_mono_left fun z _ hz => by
      rw [lt_iff] at hz
      rcases hz with ⟨h1, _⟩ | ⟨h1, _⟩
      · exact h1
      · rw [h1]; exact hf
    unfold rank nfix
    clear h
    induction l with
    | nil => cases hx
    | cons y r ih =>
      rw [List.countP_cons, List.countP_cons]
      rcases List.mem_cons.1 hx with e | e
      · subst e
        have := this r
        simp only [lt_irrefl, hf]
        simp; omega
      · have := ih e
        cases h1 : lt y x with
        | true =>
          have h2 : y.2.2 = true := by
            rw [lt_iff] at h1
            rcases h1 with ⟨h1, _⟩ | ⟨h1, _⟩
            · exact h1
            · rw [h1]; exact hf
          simp [h2]; exact this
        | false => cases y.2.2 <;> simp <;> omega
  have := h.fx
  omega

/-- nobody that does not run is ahead of one that runs -/
theorem runs_ahead (h : Good m l) {x y : E} (hx : x ∈ run m l) (hy : y ∈ l) (hn : y ∉ run m l) : lt x y = true := by
  rw [mem_run h] at hx hn
  cases h1 : lt x y with
  | true => rfl
  | false =>
    exfalso
    cases h2 : lt y x with
    | true =>
      have := rank_lt hy h2
      exact hn ⟨hy, by omega⟩
    | false => obtain rfl := lt_total h1 h2; exact hn hx

theorem best (h : Good m l) {x y : E} (hx : x ∈ run m l) (hy : y ∈ l) (hn : y ∉ run m l) (hf : x.2.2 = false) : less x y = true ∧ y.2.2 = false ∧ less y x = false := by
  have h1 := runs_ahead h hx hy hn
  have hyf : y.2.2 = false := by
    cases h2 : y.2.2 with
    | false => rfl
    | true => exact absurd (fixed_runs h hy h2) hn
  rw [lt_iff, hf, hyf] at h1
  simp only [Bool.false_eq_true, false_and, true_and, false_or] at h1
  refine ⟨less_iff.2 h1, hyf, ?_⟩
  cases h2 : less y x with
  | false => rfl
  | true => rw [less_iff] at h2; omega

/-! ## the last of those that run, the first of those that do not, whom one pushes out -/

def zeroE : E := (0, 0, false)

noncomputable def worst (m : Int) (l : List E) : E × Bool := match (run m l).getLast? with
  | some x => if x.2.2 = true then (zeroE, false) else (x, true)
  | none => (zeroE, false)

noncomputable def first (m : Int) (l : List E) : E × Bool := match (rest m l).head? with
  | some x => (x, true)
  | none => (zeroE, false)

noncomputable def beats (m : Int) (l : List E) (x : E) : Int × Bool := if x.1 ∈ pick m (l ++ [x]) then
    match (pick m l).find? fun i => decide (i ∉ pick m (l ++ [x])) with
    | some i => (i, true)
    | none => (-1, true)
  else (0, false)

theorem worst_true {w : E} (h : worst m l = (w, true)) : (run m l).getLast? = some w ∧ w.2.2 = false := by
  unfold worst at h
  split at h
  · rename_i x hx
    split at h
    · cases h
    · rename_i hf
      cases h
      exact ⟨hx, by simpa using hf⟩
  · cases h

theorem first_true {f : E} (h : first m l = (f, true)) : (rest m l).head? = some f := by
  unfold first at h
  split at h
  · rename_i x hx; cases h; exact hx
  · cases h

theorem rest_mem (h : Good m l) {y : E} (hy : y ∈ rest m l) : y ∈ l ∧ y ∉ run m l := by
  rw [rest_good h] at hy
  refine ⟨mem_srt.1 (List.mem_of_mem_drop hy), fun hr => ?_⟩
  have hs := srt_strict h.nd
  rw [run_good h] at hr
  rw [← List.take_append_drop m.toNat (srt l), List.pairwise_append] at hs
  have := hs.2.2 y hr y hy
  rw [lt_irrefl] at this; cases this

theorem split_less (h : Good m l) {w f : E} (h1 : worst m l = (w, true)) (h2 : first m l = (f, true)) : less w f = true := by
  obtain ⟨a1, a2⟩ := worst_true h1
  have b1 := first_true h2
  have hw : w ∈ run m l := List.mem_of_getLast? a1
  obtain ⟨c1, c2⟩ := rest_mem h (List.mem_of_head? b1)
  exact (best h hw c1 c2 a2).1

theorem first_some (h : Good m l) : (first m l).2 = decide ((pick m l).length < l.length) := by
  have hl : (rest m l).length = l.length - m.toNat := by rw [rest_good h, List.length_drop, srt_length]
  rw [pick_length h]
  unfold first
  cases hr : (rest m l).head? with
  | some x =>
    have : (rest m l) ≠ [] := by rintro e; rw [e] at hr; cases hr
    have := List.length_pos_iff.2 this
    simp; omega
  | none =>
    rw [List.head?_eq_none_iff] at hr
    rw [hr] at hl
    simp at hl ⊢; omega

/-! ## in whatever order they stand -/

theorem Good.perm {l' : List E} (h : Good m l) (hp : l.Perm l') : Good m l' :=
  ⟨h.m1, h.m2, by rw [← hp.length_eq]; exact h.len, fun x hx => h.id x (hp.mem_iff.2 hx), ((hp.map _).nodup_iff).1 h.nd, by unfold nfix; rw [← hp.countP_eq]; exact h.fx⟩

theorem pick_perm {l' : List E} (hp : l.Perm l') : pick m l = pick m l' := by
  unfold pick run
  by_cases h : Good m l
  · rw [if_pos h, if_pos (h.perm hp), srt_unique hp]
  · rw [if_neg h, if_neg (fun h' => h (h'.perm hp.symm))]

theorem Good.more (h : Good m l) (hm : m ≤ 63) : Good (m + 1) l := ⟨by have := h.m1; omega, by omega, h.len, h.id, h.nd, by have := h.fx; omega⟩

theorem pick_more (h : Good m l) (hm : m ≤ 63) {i : Int} (hi : i ∈ pick m l) : i ∈ pick (m + 1) l := by
  rw [mem_pick] at hi ⊢
  obtain ⟨x, hx, e⟩ := hi
  refine ⟨x, ?_, e⟩
  rw [mem_run (h.more hm)]
  obtain ⟨h1, h2⟩ := (mem_run h).1 hx
  exact ⟨h1, by have := h.m1; omega⟩

/-! ## whom one pushes out -/

theorem rank_app (x y : E) : rank (l ++ [x]) y = rank l y + if lt x y = true then 1 else 0 := by
  unfold rank
  rw [List.countP_append, List.countP_cons, List.countP_nil]
  simp

theorem last_rank (h : Good m l) (hfull : m.toNat ≤ l.length) : ∃ w, (run m l).getLast? = some w ∧ w ∈ l ∧ rank l w + 1 = m.toNat := by
  have hm := h.m1
  have hl : (run m l).length = m.toNat := by rw [run_length h]; omega
  obtain ⟨w, hw⟩ : ∃ w, (run m l).getLast? = some w := by
    cases hg : (run m l).getLast? with
    | some w => exact ⟨w, rfl⟩
    | none => rw [List.getLast?_eq_none_iff] at hg; rw [hg] at hl; simp at hl; omega
  refine ⟨w, hw, run_sub (List.mem_of_getLast? hw), ?_⟩
  rw [List.getLast?_eq_getElem?, hl, run_good h, List.getElem?_take, if_pos (by omega)] at hw
  rw [← rank_perm (srt_perm l), rank_at (srt_strict h.nd) hw]
  omega

theorem rank_ne {x y : E} (hx : x ∈ l) (hy : y ∈ l) (h : rank l x = rank l y) : x = y := by
  cases h1 : lt x y with
  | true => have := rank_lt hx h1; omega
  | false => cases h2 : lt y x with
    | true => have := rank_lt hy h2; omega
    | false => exact lt_total h1 h2

theorem app_mem {x : E} (h2 : Good m (l ++ [x])) : x.1 ∈ pick m (l ++ [x]) ↔ rank l x < m.toNat := by
  rw [mem_pick_id h2 (by simp), mem_run h2, rank_app, lt_irrefl]
  simp

theorem find_one {α : Type} {p : α → Bool} {l : List α} {w : α} (hw : w ∈ l) (h : ∀ y ∈ l, p y = true ↔ y = w) : l.find? p = some w := by
  cases hf : l.find? p with
  | none => rw [List.find?_eq_none] at hf; exact absurd ((h w hw).2 rfl) (hf w hw)
  | some y => rw [(h y (List.mem_of_find?_eq_some hf)).1 (List.find?_some hf)]

/-- room for one more -/
theorem beats_room {x : E} (h2 : Good m (l ++ [x])) (hr : l.length < m.toNat) : beats m l x = (-1, true) := by
  have all : ∀ y ∈ l ++ [x], y ∈ run m (l ++ [x]) := fun y hy => by
    rw [run_good h2, List.take_of_length_le (by rw [srt_length]; simp; omega)]
    exact mem_srt.2 hy
  unfold beats
  rw [if_pos ((mem_pick_id h2 (by simp)).2 (all x (by simp)))]
  have : ((pick m l).find? fun i => decide (i ∉ pick m (l ++ [x]))) = none := by
    rw [List.find?_eq_none]
    intro i hi
    rw [mem_pick] at hi
    obtain ⟨y, hy, rfl⟩ := hi
    have hy' := all y (by simp [run_sub hy])
    simp [(mem_pick_id h2 (by simp [run_sub hy])).2 hy']
  rw [this]

/-- it comes ahead of the last one -/
theorem beats_out {x w : E} (h : Good m l) (h2 : Good m (l ++ [x])) (hw : w ∈ l) (hr : rank l w + 1 = m.toNat) (hx : lt x w = true) : beats m l x = (w.1, true) := by
  have hxl : x ∉ l := fun hx => by
    have := h2.nd
    unfold ids at this
    rw [List.map_append, List.nodup_append] at this
    exact this.2.2 _ (List.mem_map_of_mem hx) _ (by simp) rfl
  have hrx : rank l x ≤ rank l w := by
    unfold rank
    exact List.countP_mono_left fun z _ hz => lt_trans hz hx
  unfold beats
  rw [if_pos ((app_mem h2).2 (by omega))]
  rw [find_one (w := w.1) ((mem_pick_id h hw).2 ((mem_run h).2 ⟨hw, by omega⟩)) (fun i hi => by
    rw [mem_pick] at hi
    obtain ⟨y, hy, rfl⟩ := hi
    have hyl := run_sub hy
    rw [decide_eq_true_iff, mem_pick_id h2 (by simp [hyl]), mem_run h2, rank_app]
    have hry := ((mem_run h).1 hy).2
    constructor
    · intro hn
      have hn' : ¬ (rank l y + if lt x y = true then 1 else 0) < m.toNat := fun q => hn ⟨by simp [hyl], q⟩
      split at hn'
      · exact congrArg (·.1) (rank_ne hyl hw (by omega))
      · omega
    · intro e
      have := nd_inj h.nd hyl hw e
      subst this
      rw [if_pos hx]
      rintro ⟨_, q⟩
      omega)]

/-- it comes behind the last one -/
theorem beats_not {x w : E} (h2 : Good m (l ++ [x])) (hw : w ∈ l) (hr : rank l w + 1 = m.toNat) (hx : lt w x = true) : beats m l x = (0, false) := by
  have := rank_lt hw hx
  unfold beats
  rw [if_neg (fun q => by have := (app_mem h2).1 q; omega)]

theorem out_law {x : E} (h : Good m l) (h2 : Good m (l ++ [x])) :
    if ((pick m l).length : Int) < m then beats m l x = (-1, true) else
      if x.2.2 = true then (beats m l x).2 = true ∧ (worst m l).2 = true ∧ (beats m l x).1 = (worst m l).1.1
      else (beats m l x).2 = ((worst m l).2 && less x (worst m l).1) ∧ ((beats m l x).2 = false ∨ (beats m l x).1 = (worst m l).1.1) := by
  have hm := h.m1
  rw [pick_length h]
  by_cases hr : l.length < m.toNat
  · rw [if_pos (by omega)]
    exact beats_room h2 hr
  · rw [if_neg (by omega)]
    obtain ⟨w, h3, h4, h5⟩ := last_rank h (by omega)
    have hne : x.1 ≠ w.1 := fun e => by
      have := h2.nd
      unfold ids at this
      rw [List.map_append, List.nodup_append] at this
      exact this.2.2 _ (List.mem_map_of_mem h4) _ (by simp) e.symm
    have hcase : lt x w = true ∨ lt w x = true := by
      cases h6 : lt x w with
      | true => exact .inl rfl
      | false => cases h7 : lt w x with
        | true => exact .inr rfl
        | false => exact absurd (congrArg (·.1) (lt_total h6 h7)) hne
    by_cases hf : x.2.2 = true
    · rw [if_pos hf]
      -- then the last one may be stopped
      have hwf : w.2.2 = false := by
        cases hc : w.2.2 with
        | false => rfl
        | true =>
          exfalso
          have h6 : nfix (l ++ [x]) = nfix l + 1 := by
            unfold nfix
            rw [List.countP_append, List.countP_cons, List.countP_nil, hf]; simp
          have h7 : m.toNat ≤ nfix l := by
            have hsub : ∀ y ∈ (srt l).take m.toNat, y.2.2 = true := by
              intro y hy
              rw [mem_take h.nd] at hy
              cases hyw : lt y w with
              | true =>
                rw [lt_iff, hc] at hyw
                rcases hyw with ⟨q, _⟩ | ⟨q, _⟩
                · exact q
                · exact q
              | false =>
                cases hwy : lt w y with
                | true => have := rank_lt h4 hwy; omega
                | false => rw [lt_total hyw hwy]; exact hc
            have e1 : nfix l = nfix (srt l) := ((srt_perm l).countP_eq _).symm
            rw [e1]
            unfold nfix
            rw [← List.take_append_drop m.toNat (srt l), List.countP_append, List.countP_eq_length.2 hsub, List.length_take, srt_length]
            omega
          have := h2.fx
          omega
      have hxw : lt x w = true := by
        rw [lt_iff, hwf]; exact .inl ⟨hf, rfl⟩
      have hworst : worst m l = (w, true) := by
        unfold worst; rw [h3]; simp [hwf]
      rw [beats_out h h2 h4 h5 hxw, hworst]
      exact ⟨rfl, rfl, rfl⟩
    · rw [if_neg hf]
      have hf' : x.2.2 = false := by simpa using hf
      cases hwf : w.2.2 with
      | true =>
        have hworst : worst m l = (zeroE, false) := by
          unfold worst; rw [h3]; simp [hwf]
        have hwx : lt w x = true := by rw [lt_iff]; exact .inl ⟨hwf, hf'⟩
        rw [beats_not h2 h4 h5 hwx, hworst]
        exact ⟨rfl, .inl rfl⟩
      | false =>
        have hworst : worst m l = (w, true) := by
          unfold worst; rw [h3]; simp [hwf]
        rw [hworst]
        have hlt : lt x w = less x w := by
          rw [Bool.eq_iff_iff, lt_iff, less_iff, hf', hwf]; simp
        rcases hcase with q | q
        · rw [beats_out h h2 h4 h5 q]
          exact ⟨by rw [← hlt, q]; rfl, .inr rfl⟩
        · rw [beats_not h2 h4 h5 q]
          refine ⟨?_, .inl rfl⟩
          rw [← hlt, lt_asymm q]; rfl

end Go.AX.pl
