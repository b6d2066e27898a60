/-
  Chapter 15's reference in plain Lean: the least of those that are left, again and again, are those that run; the last, the first of the others, the ids one by one.
-/
import Derived.Test.YtmjpkannhbaklaaPlain
namespace Go.Proofs.Ytmjpkannhbaklaa.pl

variable {m : Int} {l : List E}

theorem at_rank (hn : (ids l).Nodup) {k : Nat} (hk : k < l.length) : ∃ y, y ∈ l ∧ rank l y = k ∧ (srt l)[k]? = some y := by
  have hs : k < (srt l).length := by rw [srt_length]; exact hk
  refine ⟨(srt l)[k], mem_srt.1 (List.getElem_mem hs), ?_, List.getElem?_eq_getElem hs⟩
  rw [← rank_perm (srt_perm l)]
  exact rank_at (srt_strict hn) (List.getElem?_eq_getElem hs)

theorem rank_lt_length (hn : (ids l).Nodup) {x : E} (hx : x ∈ l) : rank l x < l.length := by
  obtain ⟨j, hj⟩ := List.getElem?_of_mem (mem_srt.2 hx)
  rw [← rank_perm (srt_perm l), rank_at (srt_strict hn) hj, ← srt_length]
  exact (List.getElem?_eq_some_iff.1 hj).1

/-- the least of those that are left has as many ahead of it as were taken -/
theorem least_rank (hn : (ids l).Nodup) {k : Nat} {x : E} (hx : x ∈ l) (hk : k ≤ rank l x) (hmin : ∀ y ∈ l, k ≤ rank l y → lt y x = false) : rank l x = k := by
  have := rank_lt_length hn hx
  obtain ⟨y, hy, hr, _⟩ := at_rank hn (show k < l.length by omega)
  have h1 := hmin y hy (by omega)
  cases h2 : lt x y with
  | true => have := rank_lt hx h2; omega
  | false => rw [lt_total h2 h1]; exact hr

theorem last_max (h : Good m l) {w : E} (hw : (run m l).getLast? = some w) {y : E} (hy : y ∈ run m l) : y = w ∨ lt y w = true := by
  have hst : (run m l).Pairwise fun x y => lt x y = true := by
    rw [run_good h]; exact (srt_strict h.nd).sublist (List.take_sublist _ _)
  rw [List.getLast?_eq_getElem?] at hw
  obtain ⟨j, hj⟩ := List.getElem?_of_mem hy
  obtain ⟨h1, h2⟩ := List.getElem?_eq_some_iff.1 hw
  obtain ⟨h3, h4⟩ := List.getElem?_eq_some_iff.1 hj
  by_cases e : j = (run m l).length - 1
  · subst e; exact .inl (h4.symm.trans h2)
  · right
    rw [List.pairwise_iff_getElem] at hst
    have := hst j ((run m l).length - 1) h3 h1 (by omega)
    rw [h4, h2] at this; exact this

theorem worst_is (h : Good m l) {x : E} (hx : x ∈ run m l) (hf : x.2.2 = false) (hmax : ∀ y ∈ run m l, y.2.2 = false → less x y = false) : worst m l = (x, true) := by
  cases hw : (run m l).getLast? with
  | none => rw [List.getLast?_eq_none_iff] at hw; rw [hw] at hx; cases hx
  | some w =>
    have hwm : w ∈ run m l := List.mem_of_getLast? hw
    rcases last_max h hw hx with e | e
    · subst e; unfold worst; rw [hw]; simp [hf]
    · exfalso
      have h2 := e
      rw [lt_iff, hf] at e
      rcases e with ⟨e, _⟩ | ⟨e, e'⟩
      · cases e
      · have := hmax w hwm e.symm
        rw [less_iff.2 e'] at this; cases this

theorem worst_none (hall : ∀ y ∈ run m l, y.2.2 = true) : worst m l = (zeroE, false) := by
  unfold worst
  cases hw : (run m l).getLast? with
  | none => rfl
  | some w => simp [hall w (List.mem_of_getLast? hw)]

theorem first_is (h : Good m l) {x : E} (hx : x ∈ l) (hn : x ∉ run m l) (hmin : ∀ y ∈ l, y ∉ run m l → lt y x = false) : first m l = (x, true) := by
  have hr : rank l x = m.toNat := least_rank h.nd hx (by
    rw [mem_run h] at hn
    have : ¬ rank l x < m.toNat := fun q => hn ⟨hx, q⟩
    omega) fun y hy hk => hmin y hy (fun q => by have := ((mem_run h).1 q).2; omega)
  have hlt := rank_lt_length h.nd hx
  obtain ⟨y, hy, hry, hs⟩ := at_rank h.nd (show m.toNat < l.length by omega)
  have : y = x := rank_ne hy hx (by omega)
  subst this
  unfold first
  rw [rest_good h, List.head?_drop, hs]

theorem first_none (hall : ∀ y ∈ l, y ∈ run m l) : first m l = (zeroE, false) := by
  unfold first
  cases hh : (rest m l).head? with
  | none => rfl
  | some w =>
    exfalso
    by_cases h : Good m l
    · obtain ⟨h1, h2⟩ := rest_mem h (List.mem_of_head? hh)
      exact h2 (hall w h1)
    · rw [rest_bad h] at hh; cases hh

/-- the ids below a number, one by one -/
noncomputable def idsTo (m : Int) (l : List E) (n : Nat) : List Int := ((List.range n).map fun j : Nat => (j : Int)).filter fun i => decide (i ∈ pick m l)

theorem idsTo_succ (n : Nat) : idsTo m l (n + 1) = idsTo m l n ++ if (n : Int) ∈ pick m l then [(n : Int)] else [] := by
  unfold idsTo
  rw [List.range_succ, List.map_append, List.filter_append]
  congr 1
  by_cases h : (n : Int) ∈ pick m l <;> simp [h]

theorem idsTo_strict (n : Nat) : (idsTo m l n).Pairwise fun x y => x < y := by
  refine List.Pairwise.filter _ ?_
  rw [List.pairwise_map]
  exact List.pairwise_lt_range.imp fun h => by omega

theorem mem_idsTo {n : Nat} {i : Int} : i ∈ idsTo m l n ↔ (0 ≤ i ∧ i < n) ∧ i ∈ pick m l := by
  unfold idsTo
  rw [List.mem_filter, List.mem_map]
  constructor
  · rintro ⟨⟨j, hj, rfl⟩, h⟩
    rw [List.mem_range] at hj
    exact ⟨by omega, by simpa using h⟩
  · rintro ⟨⟨h1, h2⟩, h3⟩
    exact ⟨⟨i.toNat, List.mem_range.2 (by omega), by omega⟩, by simpa using h3⟩

theorem idsTo_all : idsTo m l 1024 = pick m l := by
  have hs1 := idsTo_strict (m := m) (l := l) 1024
  have hs2 := pick_strict (m := m) (l := l)
  have hp : (idsTo m l 1024).Perm (pick m l) := by
    refine (List.perm_ext_iff_of_nodup (hs1.imp fun h => by omega) (hs2.imp fun h => by omega)).2 fun i => ?_
    rw [mem_idsTo]
    refine ⟨fun h => h.2, fun h => ⟨?_, h⟩⟩
    rw [mem_pick] at h
    obtain ⟨x, hx, rfl⟩ := h
    by_cases g : Good m l
    · have := g.id x (run_sub hx); omega
    · rw [run_bad g] at hx; cases hx
  exact hp.eq_of_pairwise (le := fun x y => x < y) (fun a b _ _ h1 h2 => by omega) hs1 hs2

theorem idsTo_length (n : Nat) : (idsTo m l n).length ≤ n := by
  unfold idsTo
  refine Nat.le_trans (List.length_filter_le _ _) ?_
  simp

theorem beats_bad {x : E} (h : ¬ Good m (l ++ [x])) : beats m l x = (0, false) := by
  have : pick m (l ++ [x]) = [] := by unfold pick; rw [run_bad h]; exact List.mergeSort_nil
  unfold beats
  rw [this]
  simp

end Go.Proofs.Ytmjpkannhbaklaa.pl
