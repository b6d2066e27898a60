/-
  OWN WORK. AN ERROR THAT A ROW LAYS: its cell.
-/
import Derived.Test.YtnhpljcjdfffkaaDoorAxTab
import Derived.Stop.LaidErr
namespace Go.AX
open Go Go.RowKit Go.ChangeShapes Go.WideShapes

/-- an error that the row lays: its cell -/
theorem laid_err {P : Program} {n nm : String} {text : List UInt8} {r : List (String × DataW Unit)} {W : World} {g : Nat} {ti tp te ts : TypeId} {ms : Array (String × TypeId)} {f : Field}
    (h : laidMet P ((n, .iface nm (.ptr (.agg [.lit (.string text)]))) :: r) W)
    (hg : P.globalNamed n = some g) (ht : (P.globals[g]?).map (·.type) = some ti) (hi : P.underlying ti = some (.interface ms)) (hrow : ∀ u, P.typeName? 3 u = some nm → u = tp)
    (hp : P.underlying tp = some (.pointer te)) (he : P.underlying te = some (.struct #[f])) (hft : f.type = ts) (hfo : f.offset = 0) (hs : P.underlying ts = some .string) (hc : P.cellsOf te = 1) (hcs : P.cellsOf ts = 1) :
    ∃ a t, W.heap[g]? = some (.cells #[.iface tp (.pointer (some a))] t (0, 0)) ∧ a.spot = none := by
  obtain ⟨a, s, h1, h2, _⟩ := laid_sentinel h hg ht hi hrow hp he hft hfo hs hc hcs
  obtain ⟨ps, hv, _, hz⟩ := h
  obtain ⟨g', t', cs', fuel, p, q, g1, g2, g3, g4, g5, rfl⟩ := hv
  have : g' = g := Option.some.inj (g1.symm.trans hg)
  subst this
  rw [h1] at g3
  obtain rfl := Option.some.inj g3
  obtain ⟨c, t, hct⟩ := (hz g' 0 (by simp [MemPlace.row])).1
  have hc1 : c = #[.iface tp (.pointer (some a))] := by
    unfold World.var? at h1
    rw [hg] at h1
    simpa [hct] using h1
  subst hc1
  refine ⟨a, t, hct, ?_⟩
  unfold World.cell? at h2
  split at h2
  · split at h2
    · cases h2
    · rename_i hsp
      cases hx : a.spot with
      | none => rfl
      | some y => simp [hx] at hsp
  · cases h2

end Go.AX
