/-
  Package note: an argument that is a slice of Events.
-/
import Derived.Test.YtdeknemdeijljaaDoorSome
import Derived.Test.YtdeknemdeijljaaDoorRows
import Derived.Test.YtdeknemdeijljaaDoorAxArg
import Derived.Test.YtdeknemdeijljaaDoorAxLaw
import Derived.WalkKit
import Derived.ProofKit
import Derived.OpenShut
namespace Go.Proofs.YtdeknemdeijljaaDoor.vc
open Go Go.AX Go.ChangeShapes Go.WideShapes Go.RowKit Go.Deep
set_option linter.unusedVariables false
set_option maxRecDepth 100000

section
variable {H : Type} {enc : TypeId × Value → H} {w : World}

theorem ro_of_cell {b o : Nat} {x : Value} (h : w.cell? ⟨b, o, none⟩ = some x) : ∃ cc k, (mW Tryd.prog w).hp.get b = some (.ro cc k) := by
  have hb := cell_lt h
  show ∃ cc k, (trOf (objOf (nOf Tryd.prog w) w) w.heap.size).get b = _
  rw [trOf_get, if_pos hb]
  unfold objOf
  unfold World.cell? at h
  split at h
  · rename_i heq
    simp only at heq
    rw [heq]
    exact ⟨_, _, rfl⟩
  · simp at h

theorem evs_arg {r : Reach} {b0 : Nat} {v : Value} {d : DataW H} {ps : List MemPlace} (hval : Value.okWide Tryd.prog w r b0 32 v) (hd : DataW.Trod enc Tryd.prog w 0 (fun _ => true) true 32 v d ps) :
    ∃ a n c l, v = .slice a n c ∧ goodA (nOf Tryd.prog w) (.slice a n c) = true ∧ EvsIs (mW Tryd.prog w) a n l ∧ Cut (mW Tryd.prog w) a n c := by
  have hd0 := hd
  obtain ⟨a, n, c, h1, hmx, h2, h3⟩ := slice_fields (fs := match Tryd.prog.underlying 23 with | some (.struct fs) => fs | _ => #[]) (e := 23) Tryd.underlying32 (by kernel_rfl) (by kernel_rfl) (by kernel_rfl) (by decide +kernel) hval hd
  obtain ⟨l, h4, h5⟩ := list_of (n := n) (R := fun i (e : E) => (∃ b o, a = some ⟨b, o, none⟩ ∧ rd (mW Tryd.prog w) b (o + i * 4) = some (.int .i64 e.1) ∧ rd (mW Tryd.prog w) b (o + i * 4 + 1) = some (.int .i64 e.2.1) ∧ rd (mW Tryd.prog w) b (o + i * 4 + 2) = some (.int .i64 e.2.2.1) ∧ rd (mW Tryd.prog w) b (o + i * 4 + 3) = some (.int .i64 e.2.2.2))) (by
    intro i hi
    obtain ⟨b, o, ha, _, hf⟩ := h3 i hi
    have field : ∀ (j : Nat) (t : TypeId), ((match Tryd.prog.underlying 23 with | some (.struct fs) => fs | _ => #[])[j]?).map (·.type) = some t → Tryd.prog.underlying t = some (.int .i64) → ∃ n, rd (mW Tryd.prog w) b (o + i * 4 + j) = some (.int .i64 n) := by
      intro j t hj hu
      obtain ⟨f, hj2, hj3⟩ := Option.map_eq_some_iff.1 hj
      subst hj3
      obtain ⟨x, y, k, hc, ht'⟩ := hf j f hj2
      obtain ⟨n, q, _⟩ := rd_int hu hc ht'
      exact ⟨n, q⟩
    obtain ⟨n0, p0⟩ := field 0 2 (by kernel_rfl) Tryd.underlying2
    obtain ⟨n1, p1⟩ := field 1 3 (by kernel_rfl) Tryd.underlying3
    obtain ⟨n2, p2⟩ := field 2 3 (by kernel_rfl) Tryd.underlying3
    obtain ⟨n3, p3⟩ := field 3 2 (by kernel_rfl) Tryd.underlying2
    exact ⟨(n0, n1, n2, n3), b, o, ha, p0, p1, p2, p3⟩)
  refine ⟨a, n, c, l, h1, h2, ⟨h4, fun j v hv => ?_⟩, ?_⟩
  · have hj : j < l.length * 4 := by rw [← flat_len]; exact (List.getElem?_eq_some_iff.1 hv).1
    obtain ⟨x, hx⟩ : ∃ x, l[j / 4]? = some x := ⟨_, List.getElem?_eq_getElem (by omega)⟩
    obtain ⟨b, o, ha, p0, p1, p2, p3⟩ := h5 _ _ hx
    refine ⟨b, o, ha, ?_⟩
    have hm : j % 4 = 0 ∨ j % 4 = 1 ∨ j % 4 = 2 ∨ j % 4 = 3 := by omega
    have hfa := fun k (hk : k < 4) => flat_at hx hk
    rcases hm with e | e | e | e
    · have ej : j = j / 4 * 4 + 0 := by omega
      rw [ej, hfa 0 (by omega)] at hv; cases hv
      rw [ej]; exact p0
    · have ej : j = j / 4 * 4 + 1 := by omega
      rw [ej, hfa 1 (by omega)] at hv; cases hv
      rw [ej, ← Nat.add_assoc]; exact p1
    · have ej : j = j / 4 * 4 + 2 := by omega
      rw [ej, hfa 2 (by omega)] at hv; cases hv
      rw [ej, ← Nat.add_assoc]; exact p2
    · have ej : j = j / 4 * 4 + 3 := by omega
      rw [ej, hfa 3 (by omega)] at hv; cases hv
      rw [ej, ← Nat.add_assoc]; exact p3
  · subst h1
    obtain ⟨fuel, hf⟩ := hd0
    rcases open_fields (fs := match Tryd.prog.underlying 23 with | some (.struct fs) => fs | _ => #[]) (e := 23) Tryd.underlying32 (by kernel_rfl) (by kernel_rfl) (by kernel_rfl) hf with h6 | ⟨a', n', c', m, h6, hl, hm, hmm, hi⟩
    · simp only [Value.cells, List.cons.injEq, Value.slice.injEq, and_true] at h6
      obtain ⟨rfl, rfl, rfl⟩ := h6
      exact ⟨Nat.le_refl _, .inl rfl⟩
    · simp only [Value.cells, List.cons.injEq, Value.slice.injEq, and_true] at h6
      obtain ⟨rfl, rfl, rfl⟩ := h6
      have hmc : c = m := Eq.symm hmm
      subst hmc
      refine ⟨hl, ?_⟩
      by_cases hc : c = 0
      · exact .inr (.inl hc)
      · obtain ⟨f, hf0⟩ : ∃ f, (match Tryd.prog.underlying 23 with | some (.struct fs) => fs | _ => #[])[0]? = some f := ⟨_, Array.getElem?_eq_getElem (by decide +kernel)⟩
        obtain ⟨x, y, k, h7, _⟩ := hi 0 (by omega) 0 f hf0
        have e0 : a'.add (0 * (match Tryd.prog.underlying 23 with | some (.struct fs) => fs | _ => #[]).size + 0) = a' := by simp [Addr.add]
        rw [e0] at h7
        obtain ⟨b, o, sp⟩ := a'
        have hsp : sp = none := by
          cases sp with
          | none => rfl
          | some s => unfold World.cell? at h7; split at h7 <;> simp at h7
        subst hsp
        obtain ⟨cc, kk, h8⟩ := ro_of_cell h7
        exact .inr (.inr ⟨b, o, cc, kk, rfl, h8⟩)
end
end Go.Proofs.YtdeknemdeijljaaDoor.vc
