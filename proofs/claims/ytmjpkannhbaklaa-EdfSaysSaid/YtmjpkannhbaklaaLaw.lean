/-
  Package edf: what the laws have in common: 'awake', an argument that is a slice of entries, an entry as an argument.
-/
import Derived.Test.YtmjpkannhbaklaaBeats
import Derived.Test.YtmjpkannhbaklaaSums
import Derived.Test.YtmjpkannhbaklaaAxArg
import Derived.WalkKit
import Derived.ProofKit
import Derived.OpenShut
namespace Go.Proofs.Ytmjpkannhbaklaa.vc
open Go Go.AX Go.ChangeShapes Go.WideShapes Go.RowKit
set_option linter.unusedVariables false
set_option maxRecDepth 100000

theorem awake_ok {m : Mem} {Q : Value → Mem → Prop} (h : Q (.bool true) m) : CallW cx 9 [] m Q := CallW.ov ov9 rfl h

section
variable {H : Type} {enc : TypeId × Value → H} {w : World}

/-- ids are in an int's range, dues in an int64's -/
def ERange (x : pl.E) : Prop := (-9223372036854775808 ≤ x.1 ∧ x.1 ≤ 9223372036854775807) ∧ -9223372036854775808 ≤ x.2.1 ∧ x.2.1 ≤ 9223372036854775807

theorem ents_arg {r : Reach} {b0 : Nat} {v : Value} {d : DataW H} {ps : List MemPlace} (hval : Value.okWide Try.prog w r b0 22 v) (hd : DataW.Trod enc Try.prog w 0 (fun _ => true) true 22 v d ps) :
    ∃ a n c l, v = .slice a n c ∧ goodA (nOf Try.prog w) (.slice a n c) = true ∧ EntsIs (mW Try.prog w) a n l ∧ n ≤ maxLen := by
  obtain ⟨a, n, c, h1, hmx, h2, h3⟩ := slice_fields (fs := match Try.prog.underlying 29 with | some (.struct fs) => fs | _ => #[]) (e := 29) Try.underlying22 (by kernel_rfl) (by kernel_rfl) (by kernel_rfl) (by decide +kernel) hval hd
  obtain ⟨l, h4, h5⟩ := list_of (n := n) (R := fun i (e : pl.E) => (∃ b o, a = some ⟨b, o, none⟩ ∧ rd (mW Try.prog w) b (o + i * 3) = some (.int .i64 e.1) ∧ rd (mW Try.prog w) b (o + i * 3 + 1) = some (.int .i64 e.2.1) ∧ rd (mW Try.prog w) b (o + i * 3 + 2) = some (.bool e.2.2))) (by
    intro i hi
    obtain ⟨b, o, ha, _, hf⟩ := h3 i hi
    have field : ∀ (j : Nat) (t : TypeId), ((match Try.prog.underlying 29 with | some (.struct fs) => fs | _ => #[])[j]?).map (·.type) = some t → Try.prog.underlying t = some (.int .i64) → ∃ n, rd (mW Try.prog w) b (o + i * 3 + j) = some (.int .i64 n) := by
      intro j t hj hu
      obtain ⟨f, hj2, hj3⟩ := Option.map_eq_some_iff.1 hj
      subst hj3
      obtain ⟨x, y, k, hc, ht'⟩ := hf j f hj2
      obtain ⟨n, q, _⟩ := rd_int hu hc ht'
      exact ⟨n, q⟩
    have fieldB : ∀ (j : Nat) (t : TypeId), ((match Try.prog.underlying 29 with | some (.struct fs) => fs | _ => #[])[j]?).map (·.type) = some t → Try.prog.underlying t = some .bool → ∃ n, rd (mW Try.prog w) b (o + i * 3 + j) = some (.bool n) := by
      intro j t hj hu
      obtain ⟨f, hj2, hj3⟩ := Option.map_eq_some_iff.1 hj
      subst hj3
      obtain ⟨x, y, k, hc, ht'⟩ := hf j f hj2
      exact rd_bool hu hc ht'
    obtain ⟨n0, p0⟩ := field 0 3 (by kernel_rfl) Try.underlying3
    obtain ⟨n1, p1⟩ := field 1 2 (by kernel_rfl) Try.underlying2
    obtain ⟨n2, p2⟩ := fieldB 2 4 (by kernel_rfl) Try.underlying4
    exact ⟨(n0, n1, n2), b, o, ha, p0, p1, p2⟩)
  exact ⟨a, n, c, l, h1, h2, ⟨h4, fun i e he => h5 i e he⟩, hmx⟩

/-- an entry as an argument -/
theorem ent_val {r : Reach} {b0 : Nat} {v : Value} {d : DataW H} {ps : List MemPlace} (hval : Value.okWide Try.prog w r b0 29 v) (hd : DataW.Trod enc Try.prog w 0 (fun _ => true) true 29 v d ps) :
    ∃ x : pl.E, v = .agg (encE x).toArray := by
  have ht : Try.prog.underlying 29 = some (.struct (match Try.prog.underlying 29 with | some (.struct fs) => fs | _ => #[])) := by kernel_rfl
  obtain ⟨cs, rfl, hsz⟩ := okWide_struct ht hval
  obtain ⟨fuel, hf⟩ := hd
  obtain ⟨ys, n', hn', hy, hlen, hyl, hf⟩ := DataW.trod_struct ht hf
  obtain ⟨l⟩ := cs
  have hl3 : l.length = 3 := by rw [show Try.prog.cellsOf 29 = 3 by kernel_rfl] at hsz; simpa using hsz
  have fld : ∀ (j : Nat) (t : TypeId) (o : Nat), ((match Try.prog.underlying 29 with | some (.struct fs) => fs | _ => #[])[j]?).map (fun f => (f.type, f.offset)) = some (t, o) → Try.prog.cellsOf t = 1 → j < ys.length → ∃ y, DataW.trod enc Try.prog w 0 (fun _ => true) true n' t ((l.drop o).take 1) = some y := by
    intro j t o hj hc hjl
    obtain ⟨f, hj2, hj3⟩ := Option.map_eq_some_iff.1 hj
    cases hj3
    have h1 := hf j f hj2
    rw [hc, List.getElem?_eq_getElem hjl] at h1
    exact ⟨_, h1⟩
  have h3 : ys.length = 3 := by rw [hyl]; kernel_rfl
  obtain ⟨y0, g0⟩ := fld 0 3 0 (by kernel_rfl) (by kernel_rfl) (by omega)
  obtain ⟨y1, g1⟩ := fld 1 2 1 (by kernel_rfl) (by kernel_rfl) (by omega)
  obtain ⟨y2, g2⟩ := fld 2 4 2 (by kernel_rfl) (by kernel_rfl) (by omega)
  obtain ⟨n0, h0, _⟩ := DataW.trod_int Try.underlying3 g0
  obtain ⟨n1, h1, _⟩ := DataW.trod_int Try.underlying2 g1
  obtain ⟨n2, h2, _⟩ := DataW.trod_bool Try.underlying4 g2
  refine ⟨(n0, n1, n2), ?_⟩
  obtain ⟨u0, u1, u2, rfl⟩ : ∃ u0 u1 u2, l = [u0, u1, u2] := by
    match l, hl3 with
    | [u0, u1, u2], _ => exact ⟨u0, u1, u2, rfl⟩
  simp at h0 h1 h2
  rw [h0, h1, h2]
  rfl

theorem ent_good (x : pl.E) : goodA (nOf Try.prog w) (.agg (encE x).toArray) = true := rfl

end
end Go.Proofs.Ytmjpkannhbaklaa.vc
