/-
  OWN WORK. AN ARGUMENT that is a slice of one-cell elements, opened.
-/
import Derived.Test.YthpnifigjfplbaaGreatAxLaw
namespace Go.AX
open Go Go.RowKit Go.ChangeShapes Go.WideShapes Go.Deep

section
variable {H : Type} {enc : TypeId × Value → H} {P : Program} {w : World} {base : Nat} {spare : Nat → Bool} {held : Bool}

theorem open_cells {t e : TypeId} {fuel : Nat} {cs : List Value} {x : DataW H × List MemPlace} (ht : P.underlying t = some (.slice e)) (hC : P.cellsOf e = 1) (h : DataW.trod enc P w base spare held fuel t cs = some x) :
    cs = [.slice none 0 0] ∨
    ∃ (a : Addr) (len cap m : Nat), cs = [.slice (some a) len cap] ∧ len ≤ cap ∧ cap ≤ maxLen ∧ m = (if spare a.block then cap else len) ∧
      ∀ i, i < m → ∃ (v : Value) (y : DataW H × List MemPlace) (n : Nat), w.cell? (a.add i) = some v ∧ DataW.trod enc P w base spare held n e [v] = some y := by
  rcases open_slice ht h with h0 | ⟨a, len, cap, m, n, D, Pl, hcs, hb, hl, hm, hmm, hx, hi⟩
  · exact .inl h0.1
  · refine .inr ⟨a, len, cap, m, hcs, hl, hm, hmm, fun i him => ?_⟩
    obtain ⟨cs', hc, ht'⟩ := hi i him
    rw [hC] at hc
    obtain ⟨_, hcl, hat⟩ := World.cells?_some hc
    have hcell := hat 0 (by omega)
    have h1 : cs' = [cs'[0]'(by omega)] := by
      match cs', hcl with
      | [v], _ => rfl
    have hv : cs'[0]? = some (cs'[0]'(by omega)) := List.getElem?_eq_getElem (by omega)
    rw [h1] at ht'
    refine ⟨_, _, _, ?_, ht'⟩
    have e0 : a.add (i * 1) = a.add i := by rw [Nat.mul_one]
    have e1 : ∀ x : Addr, x.add 0 = x := fun x => by simp [Addr.add]
    rw [← e0, ← e1 (a.add (i * 1)), hcell, hv]

/-- a slice of one-cell elements, cell by cell -/
theorem slice_cells {t e : TypeId} {r : Reach} {b0 : Nat} {v : Value} {d : DataW H} {ps : List MemPlace} (ht : P.underlying t = some (.slice e)) (hC : P.cellsOf e = 1)
    (hval : Value.okWide P w r b0 t v) (hd : DataW.Trod enc P w 0 (fun _ => true) true t v d ps) :
    ∃ a n c, v = .slice a n c ∧ n ≤ maxLen ∧ goodA (nOf P w) (.slice a n c) = true ∧
      ∀ i, i < n → ∃ b o, a = some ⟨b, o, none⟩ ∧ b < w.heap.size ∧ ∃ (x : Value) (y : DataW H × List MemPlace) (k : Nat), w.cell? ⟨b, o + i, none⟩ = some x ∧ DataW.trod enc P w 0 (fun _ => true) true k e [x] = some y := by
  obtain ⟨fuel, hf⟩ := hd
  rcases open_cells ht hC hf with h1 | ⟨a, n, c, m, h1, hl, hm, hmm, hi⟩
  · exact ⟨none, 0, 0, slice_of_cells ht hval h1, by unfold maxLen; omega, rfl, fun i hi => by omega⟩
  · have hmc : c = m := Eq.symm hmm
    subst hmc
    have first : 0 < c → ∃ b o, a = ⟨b, o, none⟩ ∧ b < w.heap.size := by
      intro hc
      obtain ⟨x, y, k, h2, h3⟩ := hi 0 hc
      have e0 : a.add 0 = a := by simp [Addr.add]
      rw [e0] at h2
      obtain ⟨b, o, sp⟩ := a
      have hsp : sp = none := by
        cases sp with
        | none => rfl
        | some s => unfold World.cell? at h2; split at h2 <;> simp at h2
      subst hsp
      exact ⟨b, o, rfl, cell_lt h2⟩
    refine ⟨some a, n, c, slice_of_cells ht hval h1, by omega, ?_, fun i hin => ?_⟩
    · by_cases hc : c = 0
      · subst hc
        have : n = 0 := by omega
        subst this
        rfl
      · obtain ⟨b, o, rfl, hb⟩ := first (by omega)
        have hN : b < nOf P w := Nat.lt_of_lt_of_le hb (Nat.le_max_left _ _)
        cases n with
        | zero => cases c with
          | zero => rfl
          | succ c => show (true && Nat.blt b (nOf P w)) = true; simpa using hN
        | succ n => show (true && Nat.blt b (nOf P w)) = true; simpa using hN
    · obtain ⟨b, o, rfl, hb⟩ := first (by omega)
      refine ⟨b, o, rfl, hb, ?_⟩
      obtain ⟨x, y, k, h4, h5⟩ := hi i (by omega)
      refine ⟨x, y, k, ?_, h5⟩
      have : (⟨b, o, none⟩ : Addr).add i = ⟨b, o + i, none⟩ := by
        unfold Addr.add
        by_cases hz : i = 0
        · rw [if_pos hz]; congr 1; omega
        · rw [if_neg hz]
      rwa [this] at h4

/-- a slice whose cells hold, one after another, the list's values -/
def SlIs (m : Mem) (a : Option Addr) (n : Nat) (l : List Value) : Prop := l.length = n ∧ ∀ i v, l[i]? = some v → ∃ b o, a = some ⟨b, o, none⟩ ∧ rd m b (o + i) = some v

theorem ints_arg {t e : TypeId} {r : Reach} {b0 : Nat} {v : Value} {d : DataW H} {ps : List MemPlace} (ht : P.underlying t = some (.slice e)) (he : P.underlying e = some (.int .i64)) (hC : P.cellsOf e = 1)
    (hval : Value.okWide P w r b0 t v) (hd : DataW.Trod enc P w 0 (fun _ => true) true t v d ps) :
    ∃ a n c, ∃ l : List Int, v = .slice a n c ∧ n ≤ maxLen ∧ goodA (nOf P w) (.slice a n c) = true ∧ SlIs (mW P w) a n (l.map (.int .i64 ·)) ∧ (∀ x ∈ l, -9223372036854775808 ≤ x ∧ x ≤ 9223372036854775807) := by
  obtain ⟨a, n, c, h1, h2, h3, h4⟩ := slice_cells ht hC hval hd
  obtain ⟨l, h5, h6⟩ := list_of (n := n) (R := fun i (x : Int) => (∃ b o, a = some ⟨b, o, none⟩ ∧ rd (mW P w) b (o + i) = some (.int .i64 x)) ∧ -9223372036854775808 ≤ x ∧ x ≤ 9223372036854775807) (by
    intro i hi
    obtain ⟨b, o, ha, _, x, y, k, hc, ht'⟩ := h4 i hi
    obtain ⟨z, p0, q0⟩ := rd_int he hc ht'
    exact ⟨z, ⟨b, o, ha, p0⟩, q0⟩)
  refine ⟨a, n, c, l, h1, h2, h3, ⟨by simp [h5], fun i v hv => ?_⟩, fun x hx => ?_⟩
  · rw [List.getElem?_map, Option.map_eq_some_iff] at hv
    obtain ⟨x, hx, rfl⟩ := hv
    exact (h6 i x hx).1
  · obtain ⟨i, hi⟩ := List.getElem?_of_mem hx
    exact (h6 i x hi).2

theorem bools_arg {t e : TypeId} {r : Reach} {b0 : Nat} {v : Value} {d : DataW H} {ps : List MemPlace} (ht : P.underlying t = some (.slice e)) (he : P.underlying e = some .bool) (hC : P.cellsOf e = 1)
    (hval : Value.okWide P w r b0 t v) (hd : DataW.Trod enc P w 0 (fun _ => true) true t v d ps) :
    ∃ a n c, ∃ l : List Bool, v = .slice a n c ∧ n ≤ maxLen ∧ goodA (nOf P w) (.slice a n c) = true ∧ SlIs (mW P w) a n (l.map (.bool ·)) := by
  obtain ⟨a, n, c, h1, h2, h3, h4⟩ := slice_cells ht hC hval hd
  obtain ⟨l, h5, h6⟩ := list_of (n := n) (R := fun i (x : Bool) => (∃ b o, a = some ⟨b, o, none⟩ ∧ rd (mW P w) b (o + i) = some (.bool x))) (by
    intro i hi
    obtain ⟨b, o, ha, _, x, y, k, hc, ht'⟩ := h4 i hi
    obtain ⟨z, p0⟩ := rd_bool he hc ht'
    exact ⟨z, b, o, ha, p0⟩)
  refine ⟨a, n, c, l, h1, h2, h3, ⟨by simp [h5], fun i v hv => ?_⟩⟩
  rw [List.getElem?_map, Option.map_eq_some_iff] at hv
  obtain ⟨x, hx, rfl⟩ := hv
  exact (h6 i x hx)

theorem rd_str {t : TypeId} {k : Nat} {b o : Nat} {x : Value} {y : DataW H × List MemPlace} (ht : P.underlying t = some .string) (hc : w.cell? ⟨b, o, none⟩ = some x) (h : DataW.trod enc P w 0 (fun _ => true) true k t [x] = some y) :
    ∃ n : ByteArray, rd (mW P w) b o = some (.string n) ∧ n.size ≤ maxLen := by
  obtain ⟨n, h1, h2, h3⟩ := DataW.trod_string ht h
  cases h1
  exact ⟨n, rd_mW hc rfl, h3⟩

theorem strs_arg {t e : TypeId} {r : Reach} {b0 : Nat} {v : Value} {d : DataW H} {ps : List MemPlace} (ht : P.underlying t = some (.slice e)) (he : P.underlying e = some .string) (hC : P.cellsOf e = 1)
    (hval : Value.okWide P w r b0 t v) (hd : DataW.Trod enc P w 0 (fun _ => true) true t v d ps) :
    ∃ a n c, ∃ l : List ByteArray, v = .slice a n c ∧ n ≤ maxLen ∧ goodA (nOf P w) (.slice a n c) = true ∧ SlIs (mW P w) a n (l.map (.string ·)) ∧ (∀ x ∈ l, x.size ≤ maxLen) := by
  obtain ⟨a, n, c, h1, h2, h3, h4⟩ := slice_cells ht hC hval hd
  obtain ⟨l, h5, h6⟩ := list_of (n := n) (R := fun i (x : ByteArray) => (∃ b o, a = some ⟨b, o, none⟩ ∧ rd (mW P w) b (o + i) = some (.string x)) ∧ x.size ≤ maxLen) (by
    intro i hi
    obtain ⟨b, o, ha, _, x, y, k, hc, ht'⟩ := h4 i hi
    obtain ⟨z, p0, q0⟩ := rd_str he hc ht'
    exact ⟨z, ⟨b, o, ha, p0⟩, q0⟩)
  refine ⟨a, n, c, l, h1, h2, h3, ⟨by simp [h5], fun i v hv => ?_⟩, fun x hx => ?_⟩
  · rw [List.getElem?_map, Option.map_eq_some_iff] at hv
    obtain ⟨x, hx, rfl⟩ := hv
    exact (h6 i x hx).1
  · obtain ⟨i, hi⟩ := List.getElem?_of_mem hx
    exact (h6 i x hi).2

end

/-- an element of the slice: what its reading through the pointer gives -/
theorem SlIs.at {m : Mem} {a : Option Addr} {n : Nat} {l : List Value} {i : Nat} {v : Value} (h : SlIs m a n l) (hv : l[i]? = some v) : ∃ b o, a = some ⟨b, o, none⟩ ∧ rd m b (o + i) = some v := h.2 i v hv

end Go.AX
