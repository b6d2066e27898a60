/-
  OWN WORK. COUNTING LOOPS; SLICES OF STRUCTS, told element by element.
-/
import Derived.Test.YtiehbnmpaeedpaaGreatAxSl
namespace Go.AX
set_option linter.unusedSimpArgs false
set_option linter.unusedVariables false
set_option linter.unusedSectionVars false
open Go

theorem joinK_of' {α : Type} {j : α} {f : α → Prop} (P : α → Prop) (hj : P j) (h : ∀ J, P J → f J) : joinK j f := h j hj

/-! ## counting loops -/

theorem addI_one {k n : Nat} (hn : n ≤ 4611686018427387904) (hk : k < n) : addI .i64 (k : Int) 1 = ((k + 1 : Nat) : Int) := by
  rw [addI_64 (by omega) (by omega)]; rfl

/-- a loop that counts to n -/
theorem forN {n : Nat} {m : Mem} {B : (Int → Mem → Nat → Prop) → Int → Mem → Nat → Prop} (hn : n ≤ 4611686018427387904) (R : Nat → Mem → Prop) (h0 : R 0 m)
    (hs : ∀ k m1, k ≤ n → R k m1 → ∀ I w, (∀ m2, k < n → R (k + 1) m2 → ∃ n', n' < w ∧ I (addI .i64 (k : Int) 1) m2 n') → B I (k : Int) m1 w) :
    ∃ Inv : Int → Mem → Nat → Prop, (∃ w, Inv 0 m w) ∧ ∀ x m1 w, Inv x m1 w → B Inv x m1 w := by
  refine ⟨fun x m1 w => ∃ k : Nat, x = (k : Int) ∧ k ≤ n ∧ w = n - k ∧ R k m1, ⟨n, 0, rfl, Nat.zero_le _, rfl, h0⟩, ?_⟩
  rintro x m1 w ⟨k, rfl, hk, rfl, hR⟩
  exact hs k m1 hk hR _ _ fun m2 hlt h => ⟨n - (k + 1), by omega, k + 1, addI_one hn hlt, by omega, rfl, h⟩

/-- .. with one value beside the count -/
theorem forN1 {α : Type} {n : Nat} {m : Mem} {a0 : α} {B : (α → Int → Mem → Nat → Prop) → α → Int → Mem → Nat → Prop} (hn : n ≤ 4611686018427387904) (R : Nat → α → Mem → Prop) (h0 : R 0 a0 m)
    (hs : ∀ k a m1, k ≤ n → R k a m1 → ∀ I w, (∀ a' m2, k < n → R (k + 1) a' m2 → ∃ n', n' < w ∧ I a' (addI .i64 (k : Int) 1) m2 n') → B I a (k : Int) m1 w) :
    ∃ Inv : α → Int → Mem → Nat → Prop, (∃ w, Inv a0 0 m w) ∧ ∀ a x m1 w, Inv a x m1 w → B Inv a x m1 w := by
  refine ⟨fun a x m1 w => ∃ k : Nat, x = (k : Int) ∧ k ≤ n ∧ w = n - k ∧ R k a m1, ⟨n, 0, rfl, Nat.zero_le _, rfl, h0⟩, ?_⟩
  rintro a x m1 w ⟨k, rfl, hk, rfl, hR⟩
  exact hs k a m1 hk hR _ _ fun a' m2 hlt h => ⟨n - (k + 1), by omega, k + 1, addI_one hn hlt, by omega, rfl, h⟩

/-- .. with a slice beside the count -/
theorem forN3 {α β γ : Type} {n : Nat} {m : Mem} {a0 : α} {b0 : β} {c0 : γ} {B : (α → β → γ → Int → Mem → Nat → Prop) → α → β → γ → Int → Mem → Nat → Prop} (hn : n ≤ 4611686018427387904) (R : Nat → α → β → γ → Mem → Prop) (h0 : R 0 a0 b0 c0 m)
    (hs : ∀ k a b c m1, k ≤ n → R k a b c m1 → ∀ I w, (∀ a' b' c' m2, k < n → R (k + 1) a' b' c' m2 → ∃ n', n' < w ∧ I a' b' c' (addI .i64 (k : Int) 1) m2 n') → B I a b c (k : Int) m1 w) :
    ∃ Inv : α → β → γ → Int → Mem → Nat → Prop, (∃ w, Inv a0 b0 c0 0 m w) ∧ ∀ a b c x m1 w, Inv a b c x m1 w → B Inv a b c x m1 w := by
  refine ⟨fun a b c x m1 w => ∃ k : Nat, x = (k : Int) ∧ k ≤ n ∧ w = n - k ∧ R k a b c m1, ⟨n, 0, rfl, Nat.zero_le _, rfl, h0⟩, ?_⟩
  rintro a b c x m1 w ⟨k, rfl, hk, rfl, hR⟩
  exact hs k a b c m1 hk hR _ _ fun a' b' c' m2 hlt h => ⟨n - (k + 1), by omega, k + 1, addI_one hn hlt, by omega, rfl, h⟩

/-- does the count go on? -/
theorem ltI_len {k n : Nat} : ltI (k : Int) (lenI n) = true ↔ k < n := by rw [ltI_true]; simp [lenI]
theorem ltI_len' {k n : Nat} : ltI (k : Int) (lenI n) = false ↔ n ≤ k := by rw [ltI_false]; simp [lenI]
theorem split_lt {k n : Nat} {t e : Prop} (h1 : k < n → t) (h2 : n ≤ k → e) : splitB (ltI (k : Int) (lenI n)) t e := by
  rw [splitB_iff]; exact ⟨fun h => h1 (ltI_len.1 h), fun h => h2 (ltI_len'.1 h)⟩

/-! ## ways, decided -/

theorem split_eq {x y : Int} {t e : Prop} (h1 : x = y → t) (h2 : x ≠ y → e) : splitB (eqI x y) t e := by
  rw [splitB_iff]; exact ⟨fun h => h1 (eqI_true.1 h), fun h => h2 (eqI_false.1 h)⟩
theorem split_ne {x y : Int} {t e : Prop} (h1 : x ≠ y → t) (h2 : x = y → e) : splitB (neI x y) t e := by
  rw [splitB_iff]; exact ⟨fun h => h1 (neI_true.1 h), fun h => h2 (neI_false.1 h)⟩
theorem split_ltI {x y : Int} {t e : Prop} (h1 : x < y → t) (h2 : y ≤ x → e) : splitB (ltI x y) t e := by
  rw [splitB_iff]; exact ⟨fun h => h1 (ltI_true.1 h), fun h => h2 (ltI_false.1 h)⟩
theorem split_leI {x y : Int} {t e : Prop} (h1 : x ≤ y → t) (h2 : y < x → e) : splitB (leI x y) t e := by
  rw [splitB_iff]; exact ⟨fun h => h1 (leI_true.1 h), fun h => h2 (leI_false.1 h)⟩
theorem split_eqS {x y : ByteArray} {t e : Prop} (h1 : x = y → t) (h2 : x ≠ y → e) : splitB (eqS x y) t e := by
  rw [splitB_iff]; exact ⟨fun h => h1 (eqS_iff.1 h), fun h => h2 (eqS_false.1 h)⟩
theorem split_neS {x y : ByteArray} {t e : Prop} (h1 : x ≠ y → t) (h2 : x = y → e) : splitB (!eqS x y) t e := by
  rw [splitB_iff]; exact ⟨fun h => h1 (eqS_false.1 (by simpa using h)), fun h => h2 (eqS_iff.1 (by simpa using h))⟩
theorem split_b {b : Bool} {t e : Prop} (h1 : b = true → t) (h2 : b = false → e) : splitB b t e := splitB_iff.2 ⟨h1, h2⟩
theorem split_nb {b : Bool} {t e : Prop} (h1 : b = false → t) (h2 : b = true → e) : splitB (!b) t e := by
  cases b
  · exact h1 rfl
  · exact h2 rfl

theorem eqI_dec (x y : Int) : eqI x y = decide (x = y) := by
  by_cases h : x = y
  · rw [decide_eq_true h]; exact eqI_true.2 h
  · rw [decide_eq_false h]; exact eqI_false.2 h
theorem neI_dec (x y : Int) : neI x y = decide (x ≠ y) := by
  by_cases h : x = y
  · rw [decide_eq_false (by simpa using h)]; exact neI_false.2 h
  · rw [decide_eq_true h]; exact neI_true.2 h
theorem ltI_dec (x y : Int) : ltI x y = decide (x < y) := by
  by_cases h : x < y
  · rw [decide_eq_true h]; exact ltI_true.2 h
  · rw [decide_eq_false h]; exact ltI_false.2 (by omega)
theorem leI_dec (x y : Int) : leI x y = decide (x ≤ y) := by
  by_cases h : x ≤ y
  · rw [decide_eq_true h]; exact leI_true.2 h
  · rw [decide_eq_false h]; exact leI_false.2 (by omega)
theorem eqS_dec [DecidableEq ByteArray] (x y : ByteArray) : eqS x y = decide (x = y) := by
  by_cases h : x = y
  · rw [decide_eq_true h]; exact eqS_iff.2 h
  · rw [decide_eq_false h]; exact eqS_false.2 h

/-! ## slices of structs -/

/-- a slice whose elements (so many cells each) stand one behind the other -/
def ArrP {α : Type} (P : Mem → Nat → Nat → α → Prop) (s : Nat) (m : Mem) (a : Option Addr) (n : Nat) (l : List α) : Prop :=
  l.length = n ∧ ∀ i x, l[i]? = some x → ∃ b o, a = some ⟨b, o, none⟩ ∧ P m b (o + i * s) x

theorem ArrP.open {α : Type} {P : Mem → Nat → Nat → α → Prop} {s : Nat} {m : Mem} {a : Option Addr} {n : Nat} {l : List α} (h : ArrP P s m a n l) {k : Nat} {x : α} {G : Nat → Nat → Prop} (hx : l[k]? = some x)
    (hG : ∀ b o, P m b (o + Int.toNat (k : Int) * s) x → G b o) : (0 ≤ (k : Int) ∧ (k : Int) < ((n : Nat) : Int)) ∧ vPtr a G := by
  have hlt := (List.getElem?_eq_some_iff.1 hx).1
  obtain ⟨b, o, rfl, hP⟩ := h.2 k x hx
  exact ⟨⟨by omega, by have := h.1; omega⟩, hG b o hP⟩

theorem ArrP.get {α : Type} {P : Mem → Nat → Nat → α → Prop} {s : Nat} {m : Mem} {a : Option Addr} {n : Nat} {l : List α} (h : ArrP P s m a n l) {k : Nat} (hk : k < n) : ∃ x, l[k]? = some x :=
  ⟨l[k]'(by have := h.1; omega), List.getElem?_eq_getElem (by have := h.1; omega)⟩

theorem ArrP.imp {α : Type} {P Q : Mem → Nat → Nat → α → Prop} {s : Nat} {m m' : Mem} {a : Option Addr} {n : Nat} {l : List α} (h : ArrP P s m a n l) (hP : ∀ b o x, x ∈ l → P m b o x → Q m' b o x) : ArrP Q s m' a n l :=
  ⟨h.1, fun i x hx => by
    obtain ⟨b, o, h1, h2⟩ := h.2 i x hx
    exact ⟨b, o, h1, hP _ _ _ (List.mem_of_getElem? hx) h2⟩⟩

theorem ArrP.nil {α : Type} {P : Mem → Nat → Nat → α → Prop} {s : Nat} {m : Mem} {a : Option Addr} : ArrP P s m a 0 [] := ⟨rfl, fun i x hx => by cases hx⟩

theorem rd_keep {m m' : Mem} (k : Keep m m') (hw : Wf m) {b o : Nat} {v : Value} (h : rd m b o = some v) : rd m' b o = some v := by
  rw [rd_congr (k.get b (hw.rd h))]; exact h
theorem rd_fr {m m' : Mem} {S : List Nat} (k : Fr m m' S) (hw : Wf m) {b o : Nat} {v : Value} (h : rd m b o = some v) (hb : b ∉ S) : rd m' b o = some v := by
  rw [rd_congr (k.get b (hw.rd h) hb)]; exact h

/-- elements given by their cells -/
def Cells {α : Type} (enc : α → List Value) (m : Mem) (b o : Nat) (x : α) : Prop := ∀ j v, (enc x)[j]? = some v → rd m b (o + j) = some v

theorem Cells.keep {α : Type} {enc : α → List Value} {m m' : Mem} {b o : Nat} {x : α} (h : Cells enc m b o x) (hw : Wf m) (k : Keep m m') : Cells enc m' b o x := fun j v hv => rd_keep k hw (h j v hv)

def Arr {α : Type} (enc : α → List Value) (s : Nat) := ArrP (Cells enc) s

theorem Arr.keep {α : Type} {enc : α → List Value} {s : Nat} {m m' : Mem} {a : Option Addr} {n : Nat} {l : List α} (h : Arr enc s m a n l) (hw : Wf m) (k : Keep m m') : Arr enc s m' a n l :=
  ArrP.imp h fun b o x _ hx => hx.keep hw k

theorem flat_get {α : Type} {enc : α → List Value} {s : Nat} (hs : ∀ x, (enc x).length = s) : ∀ {l : List α} {i j : Nat} {x : α}, l[i]? = some x → j < s → (l.flatMap enc)[i * s + j]? = (enc x)[j]?
  | [], i, j, x, h, _ => by cases h
  | y :: r, 0, j, x, h, hj => by
    simp at h; subst h
    rw [List.flatMap_cons, List.getElem?_append_left (by rw [hs]; omega)]
    simp
  | y :: r, i + 1, j, x, h, hj => by
    rw [List.flatMap_cons, List.getElem?_append_right (by rw [hs, Nat.succ_mul]; omega), hs, ← flat_get hs (by simpa using h) hj]
    congr 1
    rw [Nat.succ_mul]; omega

theorem flat_length {α : Type} {enc : α → List Value} {s : Nat} (hs : ∀ x, (enc x).length = s) (l : List α) : (l.flatMap enc).length = l.length * s := by
  induction l with
  | nil => simp
  | cons a r ih => rw [List.flatMap_cons, List.length_append, ih, hs, List.length_cons, Nat.succ_mul]; omega

/-- a slice of one's own, as elements -/
theorem Arr.of_grow {α : Type} {enc : α → List Value} {s : Nat} (hs : ∀ x, (enc x).length = s) {m : Mem} {a : Option Addr} {n c : Nat} {e : TypeId} {l : List α} (h0 : 0 < s) (h : Grow m a n c s e (l.flatMap enc)) : Arr enc s m a n l := by
  have hl := h.1
  rw [flat_length hs] at hl
  refine ⟨Nat.eq_of_mul_eq_mul_right h0 hl, fun i x hx => ?_⟩
  have hlt := (List.getElem?_eq_some_iff.1 hx).1
  have hne : ∃ b, a = some ⟨b, 0, none⟩ ∧ Row m b (l.flatMap enc) e true := by
    rcases h.2 with ⟨_, h2, _⟩ | ⟨b, h1, _, _, h4⟩
    · have : l.length * s = 0 := by rw [hl, h2, Nat.zero_mul]
      rcases Nat.mul_eq_zero.1 this with h | h <;> omega
    · exact ⟨b, h1, h4⟩
  obtain ⟨b, rfl, hr⟩ := hne
  refine ⟨b, 0, rfl, fun j v hv => ?_⟩
  have hj : j < s := by rw [← hs x]; exact (List.getElem?_eq_some_iff.1 hv).1
  rw [hr.rd, Nat.zero_add, flat_get hs hx hj, hv]

/-- .. of a whole block -/
theorem Arr.of_row {α : Type} {enc : α → List Value} {s : Nat} (hs : ∀ x, (enc x).length = s) {m : Mem} {b : Nat} {e : TypeId} {y : Bool} {l : List α} (h : Row m b (l.flatMap enc) e y) : Arr enc s m (some ⟨b, 0, none⟩) l.length l := by
  refine ⟨rfl, fun i x hx => ⟨b, 0, rfl, fun j v hv => ?_⟩⟩
  have hj : j < s := by rw [← hs x]; exact (List.getElem?_eq_some_iff.1 hv).1
  rw [h.rd, Nat.zero_add, flat_get hs hx hj, hv]

end Go.AX
