import Derived.Sort.Statements
set_option linter.unusedSimpArgs false
set_option linter.unusedVariables false
set_option linter.unusedSectionVars false
namespace Go.AX.pl
open Go.Sort
abbrev E := Int × Int × Bool
def c2 (x y : Int) : Int := if x < y then -1 else if y < x then 1 else 0
def or2 (x y : Int) : Int := if x = 0 then y else x
def cmp0 (a b : E) : Int := or2 (c2 a.2.1 b.2.1) (c2 a.1 b.1)
def cmpE (a b : E) : Int := if (a.2.2 && !b.2.2) = true then -1 else if (b.2.2 && !a.2.2) = true then 1 else cmp0 a b
def lt (a b : E) : Bool := decide (cmpE a b < 0)
theorem Ms {a b : E} : cmp0 a b < 0 ↔ a.2.1 < b.2.1 ∨ (a.2.1 = b.2.1 ∧ a.1 < b.1) := by
  unfold cmp0 or2 c2
  by_cases h1 : a.2.1 < b.2.1
  · simp [h1]
  · by_cases h2 : b.2.1 < a.2.1
    · simp [h1, h2]; omega
    · have h3 : a.2.1 = b.2.1 := by omega
      by_cases h4 : a.1 < b.1
      · simp [h3, h4]
      · by_cases h5 : b.1 < a.1 <;> simp [h3, h4, h5]
theorem tD {a b : E} : lt a b = true ↔ (a.2.2 = true ∧ b.2.2 = false) ∨ (a.2.2 = b.2.2 ∧ (a.2.1 < b.2.1 ∨ (a.2.1 = b.2.1 ∧ a.1 < b.1))) := by
  unfold lt cmpE; rw [decide_eq_true_iff]
  cases a.2.2 <;> cases b.2.2 <;> simp [Ms]
theorem lt_irrefl (x : E) : lt x x = false := by
  cases h : lt x x with
  | false => rfl
  | true => rw [tD] at h; rcases h with ⟨h, h'⟩ | ⟨_, h | ⟨_, h⟩⟩
            · rw [h] at h'; cases h'
            · omega
            · omega
theorem AK {x y z : E} (h1 : lt x y = true) (h2 : lt y z = true) : lt x z = true := by
  rw [tD] at *
  cases hx : x.2.2 <;> cases hy : y.2.2 <;> cases hz : z.2.2 <;> simp [hx, hy, hz] at * <;> omega
theorem lt_total {x y : E} (h1 : lt x y = false) (h2 : lt y x = false) : x = y := by
  have n1 := fun h => Bool.eq_false_iff.1 h1 (tD.2 h)
  have n2 := fun h => Bool.eq_false_iff.1 h2 (tD.2 h)
  obtain ⟨a, b, c⟩ := x
  obtain ⟨a', b', c'⟩ := y
  simp only at n1 n2
  have hc : c = c' := by
    cases c <;> cases c' <;> first | rfl | (exfalso; first | exact n1 (.inl ⟨rfl, rfl⟩) | exact n2 (.inl ⟨rfl, rfl⟩))
  subst hc
  have m1 : ¬ (b < b' ∨ (b = b' ∧ a < a')) := fun h => n1 (.inr ⟨rfl, h⟩)
  have m2 : ¬ (b' < b ∨ (b' = b ∧ a' < a)) := fun h => n2 (.inr ⟨rfl, h⟩)
  have e1 : b = b' := by omega
  subst e1
  have e2 : a = a' := by omega
  subst e2
  rfl
theorem Gf {x y : E} (h : lt x y = true) : lt y x = false := by
  cases h2 : lt y x with
  | false => rfl
  | true => have := AK h h2; rw [lt_irrefl] at this; cases this
theorem DR {x y z : E} (h1 : lt x y = false) (h2 : lt y z = false) : lt x z = false := by
  cases h : lt x z with
  | false => rfl
  | true =>
    cases h3 : lt y x with
    | true => have := AK h3 h; rw [h2] at this; cases this
    | false => obtain rfl := lt_total h1 h3; rw [h2] at h; cases h
theorem swo : SWO lt := ⟨lt_irrefl, fun _ _ _ => AK, fun _ _ _ => DR⟩
def srt (l : List E) : List E := l.mergeSort fun x y => !lt y x
theorem tE (l : List E) : (srt l).Perm l := List.mergeSort_perm _ _
theorem srt_length (l : List E) : (srt l).length = l.length := (tE l).length_eq
theorem Om {l : List E} {x : E} : x ∈ srt l ↔ x ∈ l := (tE l).mem_iff
theorem IU (l : List E) : (srt l).Pairwise fun x y => lt y x = false := by
  have := List.pairwise_mergeSort (le := fun x y : E => !lt y x) (fun a b c h1 h2 => by
    simp only [Bool.not_eq_true'] at *
    exact DR h2 h1) (fun a b => by
    cases h : lt b a with
    | false => simp
    | true => simp [Gf h]) l
  exact this.imp fun h => by simpa using h
def ids (l : List E) : List Int := l.map (·.1)
theorem BA {l : List E} (hn : (ids l).Nodup) : (srt l).Pairwise fun x y => lt x y = true := by
  have h1 : (ids (srt l)).Nodup := ((tE l).map _).nodup_iff.2 hn
  have h2 : (srt l).Pairwise fun x y => x.1 ≠ y.1 := by
    rw [ids, List.Nodup, List.pairwise_map] at h1; exact h1
  exact ((IU l).and h2).imp fun {x y} ⟨h3, h4⟩ => by
    cases h : lt x y with
    | true => rfl
    | false => exact absurd (congrArg (·.1) (lt_total h h3)) h4
def wU (l : List E) (y : E) : Nat := l.countP fun z => lt z y
theorem Kr {l l' : List E} (h : l.Perm l') (y : E) : wU l y = wU l' y := h.countP_eq _
theorem C1 : ∀ {s : List E}, (s.Pairwise fun x y => lt x y = true) → ∀ {j : Nat} {y : E}, s[j]? = some y → wU s y = j
  | [], _, j, y, h => by simp at h
  | x :: s, hs, 0, y, h => by
    simp at h; subst h
    rw [List.pairwise_cons] at hs
    unfold wU
    rw [List.countP_cons, lt_irrefl, List.countP_eq_zero.2 (fun z hz => by rw [Gf (hs.1 z hz)]; simp)]
    rfl
  | x :: s, hs, j + 1, y, h => by
    rw [List.pairwise_cons] at hs
    simp at h
    have ih := C1 hs.2 h
    unfold wU at *
    rw [List.countP_cons, hs.1 y (List.mem_of_getElem? h), ih]
    rfl
theorem Mt {l : List E} (hn : (ids l).Nodup) {n : Nat} {y : E} : y ∈ (srt l).take n ↔ y ∈ l ∧ wU l y < n := by
  rw [← Om (l := l), ← Kr (tE l) y]
  constructor
  · intro h
    obtain ⟨j, hj⟩ := List.getElem?_of_mem h
    rw [List.getElem?_take] at hj
    split at hj
    · rename_i hlt
      exact ⟨List.mem_of_getElem? hj, by rw [C1 (BA hn) hj]; exact hlt⟩
    · cases hj
  · rintro ⟨h1, h2⟩
    obtain ⟨j, hj⟩ := List.getElem?_of_mem h1
    rw [C1 (BA hn) hj] at h2
    exact List.mem_of_getElem? (i := j) (by rw [List.getElem?_take, if_pos h2]; exact hj)
def nfix (l : List E) : Nat := l.countP (·.2.2)
structure Good (m : Int) (l : List E) : Prop where
  m1 : 1 ≤ m
  m2 : m ≤ 64
  len : l.length ≤ 64
  id : ∀ x ∈ l, 0 ≤ x.1 ∧ x.1 ≤ 1023
  nd : (ids l).Nodup
  fx : (nfix l : Int) ≤ m
open Classical in
noncomputable def run (m : Int) (l : List E) : List E := if Good m l then (srt l).take m.toNat else []
open Classical in
noncomputable def rest (m : Int) (l : List E) : List E := if Good m l then (srt l).drop m.toNat else []
def srtI (l : List Int) : List Int := l.mergeSort fun x y => decide (x ≤ y)
noncomputable def pick (m : Int) (l : List E) : List Int := srtI (ids (run m l))
theorem srtI_perm (l : List Int) : (srtI l).Perm l := List.mergeSort_perm _ _
theorem Mu {l : List Int} {x : Int} : x ∈ srtI l ↔ x ∈ l := (srtI_perm l).mem_iff
theorem Ht (l : List Int) : (srtI l).Pairwise fun x y => x ≤ y := by
  have := List.pairwise_mergeSort (le := fun x y : Int => decide (x ≤ y)) (fun a b c h1 h2 => by simp at *; omega) (fun a b => by simp; omega) l
  exact this.imp fun h => by simpa using h
theorem Hu {l : List Int} (h : l.Nodup) : (srtI l).Pairwise fun x y => x < y := by
  have h1 : (srtI l).Nodup := (srtI_perm l).nodup_iff.2 h
  exact ((Ht l).and h1).imp fun ⟨h2, h3⟩ => by omega
variable {m : Int} {l : List E}
theorem run_good (h : Good m l) : run m l = (srt l).take m.toNat := by unfold run; rw [if_pos h]
theorem run_bad (h : ¬ Good m l) : run m l = [] := by unfold run; rw [if_neg h]
theorem zz (h : Good m l) {y : E} : y ∈ run m l ↔ y ∈ l ∧ wU l y < m.toNat := by rw [run_good h]; exact Mt h.nd
theorem run_length (h : Good m l) : (run m l).length = min m.toNat l.length := by rw [run_good h, List.length_take, srt_length]
theorem pick_length (h : Good m l) : (pick m l).length = min m.toNat l.length := by
  unfold pick
  rw [(srtI_perm _).length_eq, ids, List.length_map, run_length h]
theorem Ks : ∀ {l : List E}, (ids l).Nodup → ∀ {x y : E}, x ∈ l → y ∈ l → x.1 = y.1 → x = y
  | [], _, x, y, hx, _, _ => by cases hx
  | z :: l, hn, x, y, hx, hy, h => by
    rw [ids, List.map_cons, List.nodup_cons] at hn
    rcases List.mem_cons.1 hx with e | e
    · rcases List.mem_cons.1 hy with e' | e'
      · rw [e, e']
      · subst e; exact absurd (by rw [h]; exact List.mem_map_of_mem e') hn.1
    · rcases List.mem_cons.1 hy with e' | e'
      · subst e'; exact absurd (by rw [← h]; exact List.mem_map_of_mem e) hn.1
      · exact Ks hn.2 e e' h
theorem mem_pick {i : Int} : i ∈ pick m l ↔ ∃ x ∈ run m l, x.1 = i := by
  unfold pick
  rw [Mu, ids, List.mem_map]
theorem run_sub {y : E} (hy : y ∈ run m l) : y ∈ l := by
  by_cases h : Good m l
  · exact ((zz h).1 hy).1
  · rw [run_bad h] at hy; cases hy
theorem zY (h : Good m l) {x : E} (hx : x ∈ l) : x.1 ∈ pick m l ↔ x ∈ run m l := by
  rw [mem_pick]
  exact ⟨fun ⟨y, hy, e⟩ => by rw [← Ks h.nd (run_sub hy) hx e]; exact hy, fun hx => ⟨x, hx, rfl⟩⟩
theorem EW (h : Good m l) : (ids (run m l)).Nodup := by
  have h1 : (ids (srt l)).Nodup := ((tE l).map _).nodup_iff.2 h.nd
  rw [run_good h]
  unfold ids at *
  rw [List.map_take]
  exact h1.sublist (List.take_sublist _ _)
theorem pick_strict : (pick m l).Pairwise fun x y => x < y := by
  by_cases h : Good m l
  · exact Hu (EW h)
  · have : pick m l = [] := by unfold pick; rw [run_bad h]; exact List.mergeSort_nil
    rw [this]; exact .nil
theorem BB (h : Good m l) {x : E} (hx : x ∈ l) (hf : x.2.2 = true) : x ∈ run m l := by
  rw [zz h]
  refine ⟨hx, ?_⟩
  have h1 : wU l x < nfix l := by
    have : ∀ r : List E, r.countP (fun z => lt z x) ≤ r.countP (·.2.2) := fun r => List.countP_mono_left fun z _ hz => by
      rw [tD] at hz
      rcases hz with ⟨h1, _⟩ | ⟨h1, _⟩
      · exact h1
      · rw [h1]; exact hf
    unfold wU nfix
    clear h
    induction l with
    | nil => cases hx
    | cons y r ih =>
      rw [List.countP_cons, List.countP_cons]
      rcases List.mem_cons.1 hx with e | e
      · subst e
        have := this r
        simp only [lt_irrefl, hf]
        simp; omega
      · have := ih e
        cases h1 : lt y x with
        | true =>
          have h2 : y.2.2 = true := by
            rw [tD] at h1
            rcases h1 with ⟨h1, _⟩ | ⟨h1, _⟩
            · exact h1
            · rw [h1]; exact hf
          simp [h2]; exact this
        | false => cases y.2.2 <;> simp <;> omega
  have := h.fx
  omega
end Go.AX.pl
