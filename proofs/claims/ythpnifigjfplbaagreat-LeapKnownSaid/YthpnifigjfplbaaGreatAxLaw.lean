/-
  OWN WORK. A LAW'S ARGUMENTS, AS THE EXECUTOR'S MEMORY READS THEM.
-/
import Derived.Test.YthpnifigjfplbaaGreatAxOpen
import Derived.Deep.Slices
import Derived.Deep.Fields
import Derived.ChangeSame
import Derived.OpenShut
namespace Go.AX
open Go Go.RowKit Go.ChangeShapes Go.WideShapes Go.Deep

section
variable {H : Type} {enc : TypeId × Value → H} {P : Program} {w : World} {base : Nat} {spare : Nat → Bool} {held : Bool}

/-- an argument that is a slice of structs of one-cell fields (after the kit's page of lemmas to copy) -/
theorem open_fields {t e : TypeId} {fs : Array Field} {fuel : Nat} {cs : List Value} {x : DataW H × List MemPlace} (ht : P.underlying t = some (.slice e)) (he : P.underlying e = some (.struct fs))
    (hone : oneCellFields P fs = true) (hC : P.cellsOf e = fs.size) (h : DataW.trod enc P w base spare held fuel t cs = some x) :
    cs = [.slice none 0 0] ∨
    ∃ (a : Addr) (len cap m : Nat), cs = [.slice (some a) len cap] ∧ len ≤ cap ∧ cap ≤ maxLen ∧ m = (if spare a.block then cap else len) ∧
      ∀ i, i < m → ∀ (j : Nat) (f : Field), fs[j]? = some f → ∃ (v : Value) (y : DataW H × List MemPlace) (n : Nat), w.cell? (a.add (i * fs.size + j)) = some v ∧ DataW.trod enc P w base spare held n f.type [v] = some y := by
  rcases open_slice ht h with h0 | ⟨a, len, cap, m, n, D, Pl, hcs, hb, hl, hm, hmm, hx, hi⟩
  · exact .inl h0.1
  · refine .inr ⟨a, len, cap, m, hcs, hl, hm, hmm, fun i him => ?_⟩
    obtain ⟨cs', hc, ht'⟩ := hi i him
    rw [hC] at hc
    obtain ⟨ys, n', hn', hy, hlen, hyl, hf⟩ := DataW.trod_struct he ht'
    obtain ⟨_, hcl, hat⟩ := World.cells?_some hc
    intro j f hj
    obtain ⟨ho, hk⟩ := hone_of hone j f hj
    have hjl : j < fs.size := (Array.getElem?_eq_some_iff.1 hj).1
    have hcell := hat j hjl
    have hv : cs'[j]? = some (cs'[j]'(by omega)) := List.getElem?_eq_getElem (by omega)
    have h1 := hf j f hj
    rw [ho, hk] at h1
    have hone' : (cs'.drop j).take 1 = [cs'[j]'(by omega)] := by
      rw [List.drop_eq_getElem_cons (by omega)]
      rfl
    rw [hone'] at h1
    have hys : ys[j]? = some (ys[j]'(by omega)) := List.getElem?_eq_getElem (by omega)
    refine ⟨_, _, _, ?_, h1.trans hys⟩
    rw [← Go.Deep.add_add, hcell, hv]

theorem slice_of_cells {t e : TypeId} {r : Reach} {b0 : Nat} {v : Value} {a : Option Addr} {n c : Nat} (ht : P.underlying t = some (.slice e)) (hval : Value.okWide P w r b0 t v) (h : v.cells.toList = [.slice a n c]) : v = .slice a n c := by
  obtain ⟨a', n', c', rfl⟩ := okWide_slice ht hval
  simpa [Value.cells] using h

/-- a slice of structs of one-cell fields, cell by cell -/
theorem slice_fields {t e : TypeId} {fs : Array Field} {r : Reach} {b0 : Nat} {v : Value} {d : DataW H} {ps : List MemPlace} (ht : P.underlying t = some (.slice e)) (he : P.underlying e = some (.struct fs))
    (hone : oneCellFields P fs = true) (hC : P.cellsOf e = fs.size) (h0 : 0 < fs.size) (hval : Value.okWide P w r b0 t v) (hd : DataW.Trod enc P w 0 (fun _ => true) true t v d ps) :
    ∃ a n c, v = .slice a n c ∧ n ≤ maxLen ∧ goodA (nOf P w) (.slice a n c) = true ∧
      ∀ i, i < n → ∃ b o, a = some ⟨b, o, none⟩ ∧ b < w.heap.size ∧ ∀ (j : Nat) (f : Field), fs[j]? = some f → ∃ (x : Value) (y : DataW H × List MemPlace) (k : Nat), w.cell? ⟨b, o + i * fs.size + j, none⟩ = some x ∧ DataW.trod enc P w 0 (fun _ => true) true k f.type [x] = some y := by
  obtain ⟨fuel, hf⟩ := hd
  rcases open_fields ht he hone hC hf with h1 | ⟨a, n, c, m, h1, hl, hm, hmm, hi⟩
  · exact ⟨none, 0, 0, slice_of_cells ht hval h1, by unfold maxLen; omega, rfl, fun i hi => by omega⟩
  · have hmc : c = m := Eq.symm hmm
    subst hmc
    refine ⟨some a, n, c, slice_of_cells ht hval h1, by omega, ?_, fun i hin => ?_⟩
    · by_cases hc : c = 0
      · subst hc
        have : n = 0 := by omega
        subst this
        rfl
      · obtain ⟨f, hf0⟩ : ∃ f, fs[0]? = some f := ⟨_, Array.getElem?_eq_getElem h0⟩
        obtain ⟨x, y, k, h2, h3⟩ := hi 0 (by omega) 0 f hf0
        have e0 : a.add (0 * fs.size + 0) = a := by simp [Addr.add]
        rw [e0] at h2
        obtain ⟨b, o, sp⟩ := a
        have hsp : sp = none := by
          cases sp with
          | none => rfl
          | some s => unfold World.cell? at h2; split at h2 <;> simp at h2
        subst hsp
        have hb := cell_lt h2
        have hN : b < nOf P w := Nat.lt_of_lt_of_le hb (Nat.le_max_left _ _)
        cases n with
        | zero => cases c with
          | zero => rfl
          | succ c => show (true && Nat.blt b (nOf P w)) = true; simpa using hN
        | succ n => show (true && Nat.blt b (nOf P w)) = true; simpa using hN
    · obtain ⟨f, hf0⟩ : ∃ f, fs[0]? = some f := ⟨_, Array.getElem?_eq_getElem h0⟩
      obtain ⟨x, y, k, h2, h3⟩ := hi 0 (by omega) 0 f hf0
      have e0 : a.add (0 * fs.size + 0) = a := by simp [Addr.add]
      rw [e0] at h2
      obtain ⟨b, o, sp⟩ := a
      have hsp : sp = none := by
        cases sp with
        | none => rfl
        | some s => unfold World.cell? at h2; split at h2 <;> simp at h2
      subst hsp
      refine ⟨b, o, rfl, cell_lt h2, fun j f hj => ?_⟩
      obtain ⟨x, y, k, h4, h5⟩ := hi i (by omega) j f hj
      refine ⟨x, y, k, ?_, h5⟩
      have : (⟨b, o, none⟩ : Addr).add (i * fs.size + j) = ⟨b, o + i * fs.size + j, none⟩ := by
        unfold Addr.add
        by_cases hz : i * fs.size + j = 0
        · rw [if_pos hz]; congr 1; omega
        · rw [if_neg hz, Nat.add_assoc]
      rwa [this] at h4

theorem int_range {n : Int} (h : (Lit.int .i64 n).wf = true) : -9223372036854775808 ≤ n ∧ n ≤ 9223372036854775807 := by
  simpa [Lit.wf, IntKind.min, IntKind.max, IntKind.bits, IntKind.signed] using h

/-- a cell that holds an int -/
theorem rd_int {t : TypeId} {k : Nat} {b o : Nat} {x : Value} {y : DataW H × List MemPlace} (ht : P.underlying t = some (.int .i64)) (hc : w.cell? ⟨b, o, none⟩ = some x) (h : DataW.trod enc P w 0 (fun _ => true) true k t [x] = some y) :
    ∃ n, rd (mW P w) b o = some (.int .i64 n) ∧ -9223372036854775808 ≤ n ∧ n ≤ 9223372036854775807 := by
  obtain ⟨n, h1, h2, h3⟩ := DataW.trod_int ht h
  cases h1
  exact ⟨n, rd_mW hc rfl, int_range h3⟩

theorem rd_bool {t : TypeId} {k : Nat} {b o : Nat} {x : Value} {y : DataW H × List MemPlace} (ht : P.underlying t = some .bool) (hc : w.cell? ⟨b, o, none⟩ = some x) (h : DataW.trod enc P w 0 (fun _ => true) true k t [x] = some y) :
    ∃ n, rd (mW P w) b o = some (.bool n) := by
  obtain ⟨n, h1, h2⟩ := DataW.trod_bool ht h
  cases h1
  exact ⟨n, rd_mW hc rfl⟩

end

/-- a list told index by index -/
theorem list_of {α : Type} {n : Nat} {R : Nat → α → Prop} (h : ∀ i, i < n → ∃ x, R i x) : ∃ l : List α, l.length = n ∧ ∀ i x, l[i]? = some x → R i x := by
  induction n with
  | zero => exact ⟨[], rfl, fun i x e => by simp at e⟩
  | succ n ih =>
    obtain ⟨l, h1, h2⟩ := ih (fun i hi => h i (by omega))
    obtain ⟨x, hx⟩ := h n (Nat.lt_succ_self n)
    refine ⟨l ++ [x], by simp [h1], fun i y e => ?_⟩
    by_cases hi : i < l.length
    · rw [List.getElem?_append_left hi] at e; exact h2 i y e
    · rw [List.getElem?_append_right (by omega)] at e
      have : i = n := by
        have := (List.getElem?_eq_some_iff.1 e).1
        simp at this; omega
      subst this
      rw [h1] at e; simp at e; subst e; exact hx

theorem mW_wf (P : Program) (w : World) : (mW P w).fl ≤ (mW P w).nx ∧ ∀ b, (mW P w).nx ≤ b → (mW P w).hp.get b = none :=
  ⟨Nat.le_refl _, fun b hb => by
    show (trOf (objOf (nOf P w) w) w.heap.size).get b = none
    have h1 : nOf P w ≤ b := hb
    have h2 : w.heap.size ≤ nOf P w := Nat.le_max_left _ _
    rw [trOf_get, if_neg (by omega)]⟩

/-- the row's post, where a law answers true and old memory is as it was -/
theorem post_law {H : Type} {enc : TypeId × Value → H} {P : Program} {f : Func} {s : ChangeSpec} {W W' : World} {args : Array Value} {ds : List (DataW H)} {p : List MemPlace} {tb : TypeId} (hb : P.underlying tb = some .bool) (hr : f.resultTypes = #[tb])
    (hvars : s.vars = []) (hfn : s.fn H ds = { results := [.lit (.bool true)], args := ds }) (hp : f.params.toList.all (plainT P 8) = true)
    (hW : DataW.Whole enc P f.params.toList s.vars false W args.toList ds [] p) (hA : DataW.TrodAll enc P W 0 (fun _ => true) true f.params.toList args.toList ds p) (hg : Below W.heap.size W W') :
    s.post enc P f false true false false W args (.bool true) W' := by
  have hds : s.fn H (ds ++ []) = { results := [.lit (.bool true)], args := ds } := by rw [List.append_nil]; exact hfn
  refine post_of_below (gs := []) (pa := p) (pv := []) hW ?_ ?_ ?_ (by simp) hg ?_
  · intro b sp hd
    rw [hds, hr]
    exact trodAll_cons_mk (shut_bool hb _) trodAll_mk0
  · intro sp hsp
    rw [hds]
    exact trodAll_below hg hp hA hsp
  · intro sp _
    rw [hds, hvars]
    rfl
  · exact ok_one hr rfl (okWide_bool_mk hb _)

end Go.AX
