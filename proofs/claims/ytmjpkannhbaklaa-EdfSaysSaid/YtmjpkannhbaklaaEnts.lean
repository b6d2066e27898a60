/-
  Package edf: entries in memory; a copy of them; in order.
-/
import Derived.Test.YtmjpkannhbaklaaCmp
import Derived.Test.YtmjpkannhbaklaaAxArg
namespace Go.Proofs.Ytmjpkannhbaklaa.vc
open Go Go.AX
set_option linter.unusedVariables false
set_option linter.unusedSimpArgs false

theorem un22 : cx.un.get 22 = some (.slice 29) := by kernel_rfl
theorem un25 : cx.un.get 25 = some (.slice 3) := by kernel_rfl
noncomputable def ti29 : TypeInfo := match cx.ty.get 29 with | some i => i | none => default
theorem ty29 : cx.ty.get 29 = some ti29 := by kernel_rfl
theorem ti29s : ti29.size = 3 := by kernel_rfl
theorem ti29b : ti29.bytes = 24 := by kernel_rfl
theorem z29 : zeroT cx 29 = some (.agg #[.int .i64 0, .int .i64 0, .bool false]) := by kernel_rfl
theorem sz29 : sizeT cx 29 = some 3 := by kernel_rfl
noncomputable def ti3 : TypeInfo := match cx.ty.get 3 with | some i => i | none => default
theorem ty3 : cx.ty.get 3 = some ti3 := by kernel_rfl
theorem ti3s : ti3.size = 1 := by kernel_rfl
theorem ti3b : ti3.bytes = 8 := by kernel_rfl
theorem z3 : zeroT cx 3 = some (.int .i64 0) := by kernel_rfl

/-- a slice of entries -/
def EntsIs (m : Mem) (a : Option Addr) (n : Nat) (l : List pl.E) : Prop :=
  l.length = n ∧ ∀ (i : Nat) x, l[i]? = some x → ∃ b o, a = some ⟨b, o, none⟩ ∧ rd m b (o + i * 3) = some (.int .i64 x.1) ∧ rd m b (o + i * 3 + 1) = some (.int .i64 x.2.1) ∧ rd m b (o + i * 3 + 2) = some (.bool x.2.2)

theorem EntsIs.nil (m : Mem) (a : Option Addr) : EntsIs m a 0 [] := ⟨rfl, fun i x h => by simp at h⟩

theorem EntsIs.keep {m m' : Mem} {a : Option Addr} {n : Nat} {l : List pl.E} (h : EntsIs m a n l) (hw : Wf m) (k : Keep m m') : EntsIs m' a n l :=
  ⟨h.1, fun i x hx => by
    obtain ⟨b, o, h1, h2, h3, h4⟩ := h.2 i x hx
    have hb := hw.rd h2
    have e := fun o => rd_congr (o := o) (k.get b hb)
    exact ⟨b, o, h1, by rw [e]; exact h2, by rw [e]; exact h3, by rw [e]; exact h4⟩⟩

theorem SlIs.keep {m m' : Mem} {a : Option Addr} {n : Nat} {l : List Value} (h : SlIs m a n l) (hw : Wf m) (k : Keep m m') : SlIs m' a n l :=
  ⟨h.1, fun i x hx => by
    obtain ⟨b, o, h1, h2⟩ := h.2 i x hx
    exact ⟨b, o, h1, by rw [rd_congr (k.get b (hw.rd h2))]; exact h2⟩⟩

/-- a memory whose bound was lifted for a while -/
theorem Keep.unset {m m' : Mem} {f : Nat} (hw : Wf m) (k : Keep (setFl m f) m') : Keep m (setFl m' m.fl) :=
  ⟨⟨Nat.le_trans hw.1 k.nx, k.wf.2⟩, k.nx, rfl, k.get⟩

theorem Wf.setFl {m : Mem} (hw : Wf m) {f : Nat} (hf : f ≤ m.nx) : Wf (setFl m f) := ⟨hf, hw.2⟩

theorem rd_row {m : Mem} {b i : Nat} {v : Value} (h : rd m b i = some v) : ∃ c n, rowO (m.hp.get b) = some (c, n) ∧ i < n ∧ c.get i = some v := by
  unfold rd at h
  split at h
  · rename_i c n hc
    split at h
    · rename_i hlt
      exact ⟨c, n, hc, Nat.le_of_ble_eq_true hlt, h⟩
    · cases h
  · cases h

theorem readL_of {c : Tr Value} : ∀ {n o : Nat} {l : List Value}, l.length = n → (∀ i v, l[i]? = some v → c.get (o + i) = some v) → readL c n o = some l
  | 0, o, l, h, _ => by rw [List.length_eq_zero_iff.1 h]; rfl
  | n + 1, o, [], h, _ => by simp at h
  | n + 1, o, v :: r, h, hc => by
    have h0 := hc 0 v rfl
    have hr := readL_of (c := c) (n := n) (o := o + 1) (l := r) (by simpa using h) (fun i v hv => by
      have := hc (i + 1) v (by simpa using hv)
      rw [← this]; congr 1; omega)
    unfold readL
    rw [Nat.add_zero] at h0
    simp only [h0, hr]

theorem rowAt_of {m : Mem} {b o : Nat} {l : List Value} (hl : 0 < l.length) (h : ∀ i v, l[i]? = some v → rd m b (o + i) = some v) : rowAtL m ⟨b, o, none⟩ l.length = some l := by
  obtain ⟨v, hv⟩ : ∃ v, l[l.length - 1]? = some v := ⟨_, List.getElem?_eq_getElem (by omega)⟩
  obtain ⟨c, n, hc, hn, _⟩ := rd_row (h _ v hv)
  have hle : o + l.length ≤ n := by omega
  have hrl : readL c l.length o = some l := readL_of rfl fun i v hv => by
    obtain ⟨c', n', hc', _, h2⟩ := rd_row (h i v hv)
    rw [hc] at hc'; cases hc'
    exact h2
  unfold rowAtL
  simp only
  unfold rowO at hc
  split at hc
  · rename_i heq
    cases hc
    simp only [heq, Nat.ble_eq_true_of_le hle, hrl]
  · rename_i heq
    cases hc
    simp only [heq, Nat.ble_eq_true_of_le hle, hrl]
  · cases hc

theorem flat_len (l : List pl.E) : (l.flatMap encE).length = l.length * 3 := by
  induction l with
  | nil => rfl
  | cons x r ih => rw [List.flatMap_cons, List.length_append, ih, List.length_cons]; show 3 + _ = _; omega

theorem flat_at : ∀ (l : List pl.E) (i : Nat) x, l[i]? = some x → (l.flatMap encE)[i * 3]? = some (.int .i64 x.1) ∧ (l.flatMap encE)[i * 3 + 1]? = some (.int .i64 x.2.1) ∧ (l.flatMap encE)[i * 3 + 2]? = some (.bool x.2.2)
  | [], i, x, h => by simp at h
  | y :: r, 0, x, h => by simp at h; subst h; exact ⟨rfl, rfl, rfl⟩
  | y :: r, i + 1, x, h => by
    have := flat_at r i x (by simpa using h)
    rw [List.flatMap_cons]
    have e : ∀ k, (encE y ++ r.flatMap encE)[(i + 1) * 3 + k]? = (r.flatMap encE)[i * 3 + k]? := fun k => by
      rw [List.getElem?_append_right (by show 3 ≤ _; omega)]
      congr 1
      show (i + 1) * 3 + k - 3 = _
      omega
    exact ⟨(e 0).trans this.1, (e 1).trans this.2.1, (e 2).trans this.2.2⟩

theorem flat_of : ∀ (l : List pl.E) (j : Nat) v, (l.flatMap encE)[j]? = some v → ∃ i x, l[i]? = some x ∧ ((j = i * 3 ∧ v = .int .i64 x.1) ∨ (j = i * 3 + 1 ∧ v = .int .i64 x.2.1) ∨ (j = i * 3 + 2 ∧ v = .bool x.2.2)) := by
  intro l j v h
  have hj : j < l.length * 3 := by rw [← flat_len]; exact (List.getElem?_eq_some_iff.1 h).1
  have hi : j / 3 < l.length := by omega
  obtain ⟨x, hx⟩ : ∃ x, l[j / 3]? = some x := ⟨_, List.getElem?_eq_getElem hi⟩
  obtain ⟨h0, h1, h2⟩ := flat_at l _ x hx
  refine ⟨j / 3, x, hx, ?_⟩
  have hm : j % 3 = 0 ∨ j % 3 = 1 ∨ j % 3 = 2 := by omega
  rcases hm with e | e | e
  · have : j = j / 3 * 3 := by omega
    rw [this, h0] at h; cases h; exact .inl ⟨this, rfl⟩
  · have : j = j / 3 * 3 + 1 := by omega
    rw [this, h1] at h; cases h; exact .inr (.inl ⟨this, rfl⟩)
  · have : j = j / 3 * 3 + 2 := by omega
    rw [this, h2] at h; cases h; exact .inr (.inr ⟨this, rfl⟩)

/-- all its cells -/
theorem EntsIs.cells {m : Mem} {a : Option Addr} {n : Nat} {l : List pl.E} (h : EntsIs m a n l) (hn : 0 < n) : ∃ b o, a = some ⟨b, o, none⟩ ∧ rowAtL m ⟨b, o, none⟩ (n * 3) = some (l.flatMap encE) := by
  obtain ⟨hl, h⟩ := h
  obtain ⟨x, hx⟩ : ∃ x, l[0]? = some x := ⟨_, List.getElem?_eq_getElem (by omega)⟩
  obtain ⟨b, o, ha, _⟩ := h 0 x hx
  refine ⟨b, o, ha, ?_⟩
  have := rowAt_of (m := m) (b := b) (o := o) (l := l.flatMap encE) (by rw [flat_len]; omega) (fun j v hv => by
    obtain ⟨i, y, hy, hc⟩ := flat_of l j v hv
    obtain ⟨b', o', ha', h1, h2, h3⟩ := h i y hy
    rw [ha] at ha'; cases ha'
    rcases hc with ⟨rfl, rfl⟩ | ⟨rfl, rfl⟩ | ⟨rfl, rfl⟩
    · exact h1
    · rw [← Nat.add_assoc]; exact h2
    · rw [← Nat.add_assoc]; exact h3)
  rw [flat_len, hl] at this
  exact this

/-- a whole block of them -/
theorem EntsIs.ofRow {m : Mem} {b o n : Nat} {l l' : List pl.E} {cs : List Value} {e : TypeId} {x : Bool} (h : Row m b cs e x) (hc : cs = l.flatMap encE) (hl : l'.length = n) (hi : ∀ i : Nat, i < n → l'[i]? = l[o + i]?) : EntsIs m (some ⟨b, o * 3, none⟩) n l' :=
  ⟨hl, fun i x hx => by
    have hin : i < n := by rw [← hl]; exact (List.getElem?_eq_some_iff.1 hx).1
    rw [hi i hin] at hx
    obtain ⟨h0, h1, h2⟩ := flat_at l _ x hx
    subst hc
    refine ⟨b, o * 3, rfl, ?_, ?_, ?_⟩
    · rw [h.rd, ← h0]; congr 1; omega
    · rw [h.rd, ← h1]; congr 1; omega
    · rw [h.rd, ← h2]; congr 1; omega⟩

theorem firstL_pos {m : Mem} {s n : Nat} {a : Addr} {k c : Nat} (hn : 0 < n) : firstL m s n (.slice (some a) k c) = rowAtL m a (n * s) := by
  cases n with
  | zero => omega
  | succ n => rfl

/-- an append to a block of one's own that holds nothing -/
theorem append_empty {m : Mem} {b n : Nat} {c : Tr Value} {k : Nat} {e0 : TypeId} {x : Value} {new : List Value} (hb : m.hp.get b = some (.cells c k e0 false)) (hx : lenV x = some n) (hf : firstL m 3 n x = some new) (hn : new.length = n * 3) (ho : new.all one1 = true) (hle : n ≤ 1000000) (hpos : 0 < n) :
    appendA cx m [22, 22] [.slice (some ⟨b, 0, none⟩) 0 0, x] = some (.slice (some ⟨m.nx, 0, none⟩) n n, newO m (row new 29 true)) := by
  unfold appendA
  simp only [un22, ty29, hx, isRowD]
  rw [ti29s, ti29b]
  simp only [hf]
  have e1 : (Nat.beq new.length (n * 3) && Nat.blt 0 3 && new.all one1) = true := by
    rw [hn, ho, show Nat.beq (n * 3) (n * 3) = true from Nat.beq_refl _]; rfl
  have e2 : (Nat.ble ((2 * (0 + n) + 192) * 24) 140737488355328 && Nat.ble (0 + n) 1099511627776) = true := by
    rw [Nat.ble_eq_true_of_le (by omega), Nat.ble_eq_true_of_le (by omega)]; rfl
  have e3 : Nat.ble (0 + n) 0 = false := by
    cases h : Nat.ble (0 + n) 0 with
    | false => rfl
    | true => have := Nat.le_of_ble_eq_true h; omega
  have e4 : rowAtL m ⟨b, 0, none⟩ (0 * 3) = some [] := by
    unfold rowAtL
    simp only [hb]
    rfl
  have e5 : giveUp m (some ⟨b, 0, none⟩) 29 3 0 = some m := by
    unfold giveUp
    simp only [hb]
  simp only [e1, e2, e3, firstL, e4, z29, e5]
  simp only [Nat.zero_add, List.nil_append]
  rfl

theorem encE_one (l : List pl.E) : (l.flatMap encE).all one1 = true := by
  rw [List.all_eq_true]
  intro v hv
  rw [List.mem_flatMap] at hv
  obtain ⟨x, _, hx⟩ := hv
  simp only [encE, List.mem_cons, List.not_mem_nil, or_false] at hx
  rcases hx with rfl | rfl | rfl <;> rfl

/-- a slice of one's own that holds entries -/
def OwnE (m0 m : Mem) (a : Option Addr) (n c : Nat) (l : List pl.E) : Prop := Grow m a n c 3 29 (l.flatMap encE) ∧ ∀ b, a = some ⟨b, 0, none⟩ → m0.nx ≤ b

/-- a copy: nil, or nothing in a block of its own, or a slice of one's own -/
theorem clone_ok {m : Mem} {a : Option Addr} {n c : Nat} {l : List pl.E} {Q : Value → Mem → Prop} (hw : Wf m) (hl : EntsIs m a n l) (hn : n ≤ 1000000)
    (h0 : ∀ m' a' c', n = 0 → Keep m m' → (a' = none ∧ c' = 0 ∨ ∃ b cc k e, a' = some ⟨b, 0, none⟩ ∧ c' = 0 ∧ m.nx ≤ b ∧ m'.hp.get b = some (.cells cc k e false)) → Q (.slice a' 0 c') m')
    (h1 : ∀ m' a' c', 0 < n → Keep m m' → OwnE m m' a' n c' l → Q (.slice a' n c') m') : CallW cx 28 [.slice a n c] m Q := by
  apply F28_ok; unfold F28
  cases a with
  | none =>
    refine ⟨true, by kernel_rfl, ?_⟩
    rw [splitB_true]
    have : n = 0 := by
      cases l with
      | nil => exact hl.1.symm
      | cons x r => obtain ⟨b, o, e, _⟩ := hl.2 0 x rfl; cases e
    subst this
    exact h0 m none 0 rfl (Keep.refl hw) (.inl ⟨rfl, rfl⟩)
  | some ad =>
    refine ⟨false, by kernel_rfl, ?_⟩
    rw [splitB_false, mBind_iff]
    generalize hm1 : newO m _ = m1
    have k1 : Keep m m1 := hm1 ▸ (Keep.refl hw).newO
    have n1 : m1.nx = m.nx + 1 := by rw [← hm1]; rfl
    have hb : m1.hp.get m.nx = some (.cells (writeL .nil [] 0) 0 29 false) := by
      rw [← hm1, newO_get, if_pos rfl]; rfl
    by_cases hn0 : n = 0
    · subst hn0
      refine ⟨some ⟨m.nx, 0, none⟩, 0, 0, m1, ?_, h0 m1 _ _ rfl k1 (.inr ⟨_, _, _, _, rfl, rfl, Nat.le_refl _, hb⟩)⟩
      unfold appendA
      simp only [un22, ty29, lenV, isRowD]
      rw [ti29s]
      simp only [firstL]
      rfl
    · obtain ⟨b, o, e, hrow⟩ := (hl.keep hw k1).cells (by omega)
      cases e
      have hap := append_empty (x := .slice (some ⟨b, o, none⟩) n c) hb rfl ((firstL_pos (by omega)).trans hrow) (by rw [flat_len, hl.1]) (encE_one l) hn (by omega)
      refine ⟨_, _, _, _, hap, h1 _ _ _ (by omega) k1.newO ⟨⟨by rw [flat_len, hl.1], .inr ⟨m1.nx, rfl, rfl, ?_, Row.newO⟩⟩, ?_⟩⟩
      · have := k1.wf.1; exact this
      · rintro b' e; cases e; omega

end Go.Proofs.Ytmjpkannhbaklaa.vc
