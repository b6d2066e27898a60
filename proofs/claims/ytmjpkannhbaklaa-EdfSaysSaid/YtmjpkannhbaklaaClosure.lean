/-
  Package edf: the comparator that SortFunc is handed: in whatever world it returns how the two compare, and leaves what was there (it draws, and lays blocks behind).
-/
import Derived.Test.YtmjpkannhbaklaaCmpO
import Derived.Sort.Grow
import Derived.Deep.Draws
namespace Go.Proofs.Ytmjpkannhbaklaa.vc0
open Go Go.AX Go.Sort
set_option linter.unusedVariables false

theorem cxOk : CxOk Try.prog cx := CxOk.of _ _
theorem hmix : Try.prog.follows .mixedOrders = true := by kernel_rfl

theorem m0_wf : Wf (m0 Try.prog) := ⟨Nat.zero_le _, fun b _ => Tr_nil_get b⟩

/-- the same world, with draws and blocks behind -/
theorem world_grown {W w' : World} (h1 : w'.os = W.os) (h2 : w'.tape = W.tape) (h3 : w'.output = W.output) (h4 : W.heap.size ≤ w'.heap.size) (h5 : ∀ r, r < W.heap.size → w'.heap[r]? = W.heap[r]?) (h6 : W.drawn ≤ w'.drawn) :
    ∃ q os', w' = grow (W.drewN q) os' := by
  refine ⟨w'.drawn - W.drawn, w'.heap.extract W.heap.size w'.heap.size, ?_⟩
  obtain ⟨hp, tp, dn, os, ou⟩ := w'
  obtain ⟨hp', tp', dn', os', ou'⟩ := W
  simp only at h1 h2 h3 h4 h5 h6
  subst h1 h2 h3
  have e1 : dn = dn' + (dn - dn') := by omega
  have e2 : hp = hp' ++ hp.extract hp'.size hp.size := by
    apply Array.ext_getElem?
    intro i
    rw [Array.getElem?_append]
    split
    · rename_i hi; exact h5 i hi
    · rename_i hi
      rw [Array.getElem?_extract]
      by_cases h : i < hp.size
      · rw [if_pos (by omega)]; congr 1; omega
      · rw [if_neg (by omega)]; exact Array.getElem?_eq_none (by omega)
  unfold grow World.drewN
  simp only
  rw [← e1, ← e2]

theorem closure41 (x y : pl.E) (W : World) : Calls Try.prog 41 #[.agg (encE x).toArray, .agg (encE y).toArray] W fun e w' => e = .returned (.int .i64 (pl.cmpE x y)) ∧ ∃ q os', w' = grow (W.drewN q) os' := by
  obtain ⟨n, r, m', h, hr⟩ := order41 (x := x) (y := y) (m := m0 Try.prog) (Q := fun r _ => r = .int .i64 (pl.cmpE x y)) m0_wf fun _ _ => rfl
  subst hr
  letI : Kap := ⟨True⟩
  have hv : ∀ z : pl.E, VR (φ0 Try.prog) (.agg (encE z).toArray) (.agg (encE z).toArray) := fun z => VR.plain _ rfl
  have hl : LR (φ0 Try.prog) [.agg (encE x).toArray, .agg (encE y).toArray] (#[.agg (encE x).toArray, .agg (encE y).toArray] : Array Value).toList := (LR.nil _).cons (hv y) |>.cons (hv x)
  refine (callN_ok (P := Try.prog) (cx := cx) (n := n) cxOk (OvOk.nil _) hmix h (φ0 Try.prog) W _ hl (rr0 _ W)).mono ?_
  rintro e w' ⟨v', φ', rfl, hv', _, hs⟩
  have hb := hs.below
  refine ⟨by cases hv'; rfl, world_grown hb.os hb.tape hb.output hb.size (fun r hr => hb.block r hr) (hs.drawn trivial)⟩

end Go.Proofs.Ytmjpkannhbaklaa.vc0
