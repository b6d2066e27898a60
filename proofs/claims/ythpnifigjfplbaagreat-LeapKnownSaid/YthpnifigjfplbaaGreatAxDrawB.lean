/-
  REGIONS THAT DRAW THEIR ORDER: facts on the run in the text's order.
-/
import Derived.Test.YthpnifigjfplbaaGreatAxDrawA
namespace Go.AX

variable [Kap]

variable {P : Program} {cx : Cx} {φ : Phi} {m : Mem} {w : World}

/-! ## what was made -/

omit [Kap] in
theorem addMade_nx (p : Nat → Bool) : ∀ (l : List (Nat × Nat × AObj)) (m : Mem), (addMade p l m).nx = m.nx ∧ (addMade p l m).fl = m.fl
  | [], m => ⟨rfl, rfl⟩
  | (i, id, o) :: r, m => by
    simp only [addMade]
    split
    · exact addMade_nx p r m
    · exact addMade_nx p r m

omit [Kap] in
theorem addMade_some {p : Nat → Bool} : ∀ {l : List (Nat × Nat × AObj)} {m : Mem} {b : Nat} {o : AObj}, (addMade p l m).hp.get b = some o → (∃ k, (k, b, o) ∈ l ∧ p k = true) ∨ (m.hp.get b = some o ∧ ∀ k o', (k, b, o') ∈ l → p k = false)
  | [], m, b, o, h => .inr ⟨h, fun k o' hm => by cases hm⟩
  | (i, id, ob) :: r, m, b, o, h => by
    simp only [addMade] at h
    split at h
    · rename_i hp
      dsimp only at h
      rw [Tr.get_put] at h
      by_cases e : b = id
      · subst e
        rw [if_pos rfl] at h; cases h
        exact .inl ⟨i, by simp, hp⟩
      · rw [if_neg e] at h
        rcases addMade_some h with ⟨k, h1, h2⟩ | ⟨h1, h2⟩
        · exact .inl ⟨k, List.mem_cons_of_mem _ h1, h2⟩
        · refine .inr ⟨h1, fun k o' hm => ?_⟩
          rcases List.mem_cons.1 hm with q | q
          · simp only [Prod.mk.injEq] at q; exact absurd q.2.1 e
          · exact h2 k o' q
    · rename_i hp
      rcases addMade_some h with ⟨k, h1, h2⟩ | ⟨h1, h2⟩
      · exact .inl ⟨k, List.mem_cons_of_mem _ h1, h2⟩
      · refine .inr ⟨h1, fun k o' hm => ?_⟩
        rcases List.mem_cons.1 hm with q | q
        · simp only [Prod.mk.injEq] at q; obtain ⟨rfl, rfl, rfl⟩ := q; simpa using hp
        · exact h2 k o' q

omit [Kap] in
theorem addMade_none {p : Nat → Bool} : ∀ {l : List (Nat × Nat × AObj)} {m : Mem} {b : Nat}, (∀ k o', (k, b, o') ∈ l → p k = false) → (addMade p l m).hp.get b = m.hp.get b
  | [], m, b, h => rfl
  | (i, id, ob) :: r, m, b, h => by
    have hr := addMade_none (p := p) (l := r) (m := m) (b := b) (fun k o' hm => h k o' (List.mem_cons_of_mem _ hm))
    simp only [addMade]
    split
    · rename_i hp
      dsimp only
      rw [Tr.get_put, if_neg]
      · exact hr
      · rintro rfl
        have := h i ob (by simp)
        rw [hp] at this; cases this
    · exact hr

omit [Kap] in
theorem addMade_mem {p : Nat → Bool} : ∀ {l : List (Nat × Nat × AObj)} {m : Mem} {b k : Nat} {o : AObj}, (∀ k' o', (k', b, o') ∈ l → o' = o) → (k, b, o) ∈ l → p k = true → (addMade p l m).hp.get b = some o
  | (i, id, ob) :: r, m, b, k, o, hu, hm, hp => by
    simp only [addMade]
    rcases List.mem_cons.1 hm with q | q
    · simp only [Prod.mk.injEq] at q
      obtain ⟨rfl, rfl, rfl⟩ := q
      rw [hp]
      dsimp only
      rw [Tr.get_put, if_pos rfl]
    · have hr := addMade_mem (m := m) (fun k' o' h => hu k' o' (List.mem_cons_of_mem _ h)) q hp
      split
      · dsimp only
        rw [Tr.get_put]
        by_cases e : b = id
        · subst e
          rw [if_pos rfl, hu i ob (by simp)]
        · rw [if_neg e]; exact hr
      · exact hr

/-! ## bits -/

omit [Kap] in
theorem hasBit_lor (a b k : Nat) : hasBit (Nat.lor a b) k = (hasBit a k || hasBit b k) := by
  show Nat.testBit (a ||| b) k = _
  rw [Nat.testBit_or]; rfl

omit [Kap] in
theorem hasBit_bit (i k : Nat) : hasBit (bit i) k = decide (i = k) := Nat.testBit_two_pow

omit [Kap] in
theorem hasBit_zero (k : Nat) : hasBit 0 k = false := Nat.zero_testBit k

omit [Kap] in
theorem land_eq {a b k : Nat} (h : Nat.land a b = a) (hk : hasBit a k = true) : hasBit b k = true := by
  have : Nat.testBit (a &&& b) k = true := by
    have e : a &&& b = a := h
    rw [e]; exact hk
  rw [Nat.testBit_and] at this
  simp at this
  exact this.2

omit [Kap] in
theorem ancOf_bit {anc : List Nat} : ∀ {es : List Edge} {k : Nat}, hasBit (ancOf anc es) k = true → ∃ e ∈ es, Region.binds .any e = true ∧ ∃ s, anc[e.on]? = some s ∧ (hasBit s k = true ∨ e.on = k)
  | [], k, h => by simp only [ancOf, hasBit_zero] at h; cases h
  | e :: r, k, h => by
    simp only [ancOf] at h
    split at h
    · rename_i hb
      split at h
      · rename_i s hs
        rw [hasBit_lor, hasBit_lor, hasBit_bit] at h
        simp only [Bool.or_eq_true, decide_eq_true_eq] at h
        rcases h with (h | h) | h
        · exact ⟨e, by simp, hb, s, hs, .inl h⟩
        · exact ⟨e, by simp, hb, s, hs, .inr h⟩
        · obtain ⟨e', h1, h2⟩ := ancOf_bit h
          exact ⟨e', List.mem_cons_of_mem _ h1, h2⟩
      · obtain ⟨e', h1, h2⟩ := ancOf_bit h
        exact ⟨e', List.mem_cons_of_mem _ h1, h2⟩
    · obtain ⟨e', h1, h2⟩ := ancOf_bit h
      exact ⟨e', List.mem_cons_of_mem _ h1, h2⟩

omit [Kap] in
theorem ancs_ext : ∀ (l : List Oper) (acc : List Nat), ∃ ext, ancs l acc = acc ++ ext ∧ ext.length = l.length ∧ ∀ j o, l[j]? = some o → ext[j]? = some (ancOf (acc ++ ext.take j) o.after.toList)
  | [], acc => ⟨[], by simp [ancs], rfl, fun j o h => by simp at h⟩
  | o :: r, acc => by
    obtain ⟨ext, h1, h2, h3⟩ := ancs_ext r (acc ++ [ancOf acc o.after.toList])
    refine ⟨ancOf acc o.after.toList :: ext, by simp [ancs, h1], by simp [h2], fun j o' h => ?_⟩
    cases j with
    | zero => simp at h; subst h; simp
    | succ j =>
      have := h3 j o' (by simpa using h)
      simpa using this

omit [Kap] in
theorem anc_edge {ops : List Oper} {i s k : Nat} {o : Oper} (ho : ops[i]? = some o) (hs : (ancs ops [])[i]? = some s) (hk : hasBit s k = true) :
    ∃ e ∈ o.after.toList, Region.binds .any e = true ∧ (e.on = k ∨ ∃ s', (ancs ops [])[e.on]? = some s' ∧ hasBit s' k = true) := by
  obtain ⟨ext, h1, h2, h3⟩ := ancs_ext ops []
  rw [h1] at hs ⊢
  simp only [List.nil_append] at hs ⊢ h3
  have := h3 i o ho
  rw [hs] at this
  cases this
  obtain ⟨e, q1, q2, s', q3, q4⟩ := ancOf_bit hk
  refine ⟨e, q1, q2, ?_⟩
  rcases q4 with q4 | q4
  · right
    refine ⟨s', ?_, q4⟩
    rw [List.getElem?_take] at q3
    split at q3
    · exact q3
    · cases q3
  · exact .inl q4

omit [Kap] in
theorem anc_some {ops : List Oper} {i : Nat} {o : Oper} (ho : ops[i]? = some o) : ∃ s, (ancs ops [])[i]? = some s := by
  obtain ⟨ext, h1, h2, h3⟩ := ancs_ext ops []
  rw [h1]
  exact ⟨_, by simpa using h3 i o ho⟩

/-! ## slots -/

omit [Kap] in
theorem apart_get {ops : List Oper} {y : Oper} {s : Nat} : ∀ {l : List Oper} {i j : Nat} {x : Oper}, apart ops y s l i = true → l[j]? = some x → clash ops x y = true → hasBit s (i + j) = true
  | [], i, j, x, h, hx, hc => by simp at hx
  | z :: r, i, j, x, h, hx, hc => by
    simp only [apart, Bool.and_eq_true] at h
    cases j with
    | zero =>
      simp at hx; subst hx
      simpa [hc] using h.1
    | succ j =>
      have := apart_get (j := j) h.2 (by simpa using hx) hc
      rwa [show i + (j + 1) = i + 1 + j by omega]

omit [Kap] in
theorem slots_get {ops : List Oper} : ∀ {l : List Oper} {q : List Nat} {i j : Nat} {o : Oper} {s : Nat}, slotsOk ops l q i = true → l[j]? = some o → q[j]? = some s →
    apart ops o s (ops.take (i + j)) 0 = true ∧ ∀ e ∈ o.after.toList, Region.binds .any e = true → e.on < i + j
  | [], q, i, j, o, s, h, ho, hs => by simp at ho
  | z :: r, [], i, j, o, s, h, ho, hs => by simp at hs
  | z :: r, t :: q, i, j, o, s, h, ho, hs => by
    simp only [slotsOk, Bool.and_eq_true] at h
    cases j with
    | zero =>
      simp at ho hs; subst ho; subst hs
      refine ⟨h.1.1, fun e he hb => ?_⟩
      have := List.all_eq_true.1 h.1.2 e he
      simp only [hb, Bool.not_true, Bool.false_or] at this
      exact Nat.le_of_ble_eq_true this
    | succ j =>
      have := slots_get (j := j) h.2 (by simpa using ho) (by simpa using hs)
      rwa [show i + (j + 1) = i + 1 + j by omega]

omit [Kap] in
/-- two operations that touch one slot stand in an order -/
theorem slots_order {ops : List Oper} (h : slotsOk ops ops (ancs ops []) 0 = true) {i j : Nat} {x y : Oper} {s : Nat} (hij : i < j) (hx : ops[i]? = some x) (hy : ops[j]? = some y) (hs : (ancs ops [])[j]? = some s) (hc : clash ops x y = true) : hasBit s i = true := by
  obtain ⟨h1, _⟩ := slots_get h hy hs
  have := apart_get (j := i) h1 (by rw [Nat.zero_add, List.getElem?_take, if_pos hij]; exact hx) hc
  simpa using this

omit [Kap] in
theorem slots_back {ops : List Oper} (h : slotsOk ops ops (ancs ops []) 0 = true) {j : Nat} {y : Oper} (hy : ops[j]? = some y) : ∀ e ∈ y.after.toList, Region.binds .any e = true → e.on < j := by
  obtain ⟨s, hs⟩ := anc_some hy
  obtain ⟨_, h2⟩ := slots_get h hy hs
  simpa using h2

omit [Kap] in
/-- whoever comes ahead is listed -/
theorem anc_listed {ops : List Oper} (hsl : slotsOk ops ops (ancs ops []) 0 = true) {L : Nat → Bool} (dc : ∀ i o, ops[i]? = some o → L i = true → ∀ e ∈ o.after.toList, Region.binds .any e = true → L e.on = true) :
    ∀ (i : Nat) (o : Oper) (s k : Nat), ops[i]? = some o → (ancs ops [])[i]? = some s → (∀ e ∈ o.after.toList, Region.binds .any e = true → L e.on = true) → hasBit s k = true → L k = true := by
  intro i
  induction i using Nat.strongRecOn with
  | _ i ih =>
    intro o s k ho hs hr hk
    obtain ⟨e, h1, h2, h3⟩ := anc_edge ho hs hk
    rcases h3 with rfl | ⟨s', h3, h4⟩
    · exact hr e h1 h2
    · have hlt := slots_back hsl ho e h1 h2
      have hilt : i < ops.length := (List.getElem?_eq_some_iff.1 ho).1
      obtain ⟨o', ho'⟩ : ∃ o', ops[e.on]? = some o' := ⟨ops[e.on]'(by omega), List.getElem?_eq_getElem (by omega)⟩
      exact ih e.on hlt o' s' k ho' h3 (dc e.on o' ho' (hr e h1 h2)) h4

end Go.AX
