/-
  OWN WORK. AN ERROR THAT A ROW LAYS: its cell.
-/
import Derived.Test.YtdeknemdeijljaaDoorAxTab
import Derived.Test.YtdeknemdeijljaaDoorAxOpen
import Derived.Stop.LaidErr
namespace Go.AX
open Go Go.RowKit Go.ChangeShapes Go.WideShapes

/-- an error that the row lays: its cell -/
theorem laid_err {P : Program} {n nm : String} {text : List UInt8} {r : List (String × DataW Unit)} {W : World} {g : Nat} {ti tp te ts : TypeId} {ms : Array (String × TypeId)} {f : Field}
    (h : laidMet P ((n, .iface nm (.ptr (.agg [.lit (.string text)]))) :: r) W)
    (hg : P.globalNamed n = some g) (ht : (P.globals[g]?).map (·.type) = some ti) (hi : P.underlying ti = some (.interface ms)) (hrow : ∀ u, P.typeName? 3 u = some nm → u = tp)
    (hp : P.underlying tp = some (.pointer te)) (he : P.underlying te = some (.struct #[f])) (hft : f.type = ts) (hfo : f.offset = 0) (hs : P.underlying ts = some .string) (hc : P.cellsOf te = 1) (hcs : P.cellsOf ts = 1) :
    ∃ a t, W.heap[g]? = some (.cells #[.iface tp (.pointer (some a))] t (0, 0)) ∧ a.spot = none := by
  obtain ⟨a, s, h1, h2, _⟩ := laid_sentinel h hg ht hi hrow hp he hft hfo hs hc hcs
  obtain ⟨ps, hv, _, hz⟩ := h
  obtain ⟨g', t', cs', fuel, p, q, g1, g2, g3, g4, g5, rfl⟩ := hv
  have : g' = g := Option.some.inj (g1.symm.trans hg)
  subst this
  rw [h1] at g3
  obtain rfl := Option.some.inj g3
  obtain ⟨c, t, hct⟩ := (hz g' 0 (by simp [MemPlace.row])).1
  have hc1 : c = #[.iface tp (.pointer (some a))] := by
    unfold World.var? at h1
    rw [hg] at h1
    simpa [hct] using h1
  subst hc1
  refine ⟨a, t, hct, ?_⟩
  unfold World.cell? at h2
  split at h2
  · split at h2
    · cases h2
    · rename_i hsp
      cases hx : a.spot with
      | none => rfl
      | some y => simp [hx] at hsp
  · cases h2

theorem laid_err2 {P : Program} {n nm : String} {text : List UInt8} {r : List (String × DataW Unit)} {W : World} {g : Nat} {ti tp te ts : TypeId} {ms : Array (String × TypeId)} {f : Field}
    (h : laidMet P ((n, .iface nm (.ptr (.agg [.lit (.string text)]))) :: r) W)
    (hg : P.globalNamed n = some g) (ht : (P.globals[g]?).map (·.type) = some ti) (hi : P.underlying ti = some (.interface ms)) (hrow : ∀ u, P.typeName? 3 u = some nm → u = tp)
    (hp : P.underlying tp = some (.pointer te)) (he : P.underlying te = some (.struct #[f])) (hft : f.type = ts) (hfo : f.offset = 0) (hs : P.underlying ts = some .string) (hc : P.cellsOf te = 1) (hcs : P.cellsOf ts = 1) :
    ∃ v, rd (mW P W) g 0 = some (.iface tp v) := by
  obtain ⟨a, t, h1, h2⟩ := laid_err h hg ht hi hrow hp he hft hfo hs hc hcs
  obtain ⟨a', s, g1, g2, _⟩ := laid_sentinel h hg ht hi hrow hp he hft hfo hs hc hcs
  have haa : a' = a := by
    unfold World.var? at g1
    rw [hg] at g1
    simp only [Option.bind_some, h1, Option.some.injEq] at g1
    simpa using g1.symm
  subst haa
  obtain ⟨b, o, sp⟩ := a'
  simp only at h2
  subst h2
  have hlt := cell_lt g2
  refine ⟨.pointer (some ⟨b, o, none⟩), rd_mW (v := .iface tp (.pointer (some ⟨b, o, none⟩))) ?_ ?_⟩
  · unfold World.cell?
    rw [h1]
    simp
  · have : b < nOf P W := Nat.lt_of_lt_of_le hlt (Nat.le_max_left _ _)
    simp [good1, good0, this]

end Go.AX
