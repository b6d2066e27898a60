/-
  Package note: what the laid memory tells: strconv's table of powers and its errors.
-/
import Derived.Test.YtdeknemdeijljaaDoorSay
import Derived.Test.YtdeknemdeijljaaDoorCards
import Derived.Test.YtdeknemdeijljaaDoorTie
import Derived.Test.YtdeknemdeijljaaDoorAxLaidErr
import Derived.Test.YtdeknemdeijljaaDoorAxTabs
import Derived.Test.YtdeknemdeijljaaDoorAxLaw
import Derived.Test.YtdeknemdeijljaaDoorAxApp
import Derived.ChangeMaps5
import Derived.WalkKit
import Derived.ProofKit
import Derived.OpenShut
import Derived.LaidMore
import Derived.Lay
import Derived.SevenTiedAt
namespace Go.Proofs.YtdeknemdeijljaaDoor.vc
open Go Go.AX Go.ChangeShapes Go.WideShapes Go.ChangeAt Go.RowKit Go.Deep
set_option linter.unusedVariables false

def pow10 : List Int := [1, 10, 100, 1000, 10000, 100000, 1000000, 10000000, 100000000, 1000000000, 10000000000, 100000000000, 1000000000000, 10000000000000, 100000000000000, 1000000000000000, 10000000000000000, 100000000000000000, 1000000000000000000, 10000000000000000000]
theorem pow10_at : ∀ i : Fin 20, pow10[i.val]? = some ((10 ^ i.val : Nat) : Int) := by decide +kernel
theorem laidPow : (Rows.laid_internal_strconv_uint64pow10 : DataW Unit) = .agg (pow10.map fun z => .lit (.int .u64 z)) := rfl

theorem laidMet_of {W : World} {L} (hL : L = Rows.noteKnownRow.laid) (h : laidMetH Tryd.prog L W) : laidMet Tryd.prog Rows.noteKnownRow.laid W := by
  subst hL
  rw [MakeChecks.laidMetH_plain _ _ _ (by kernel_rfl)] at h
  exact h

theorem powT_at {W : World} {L} (hL : L = Rows.noteKnownRow.laid) (h : laidMetH Tryd.prog L W) : PowT (mW Tryd.prog W) := by
  obtain ⟨ps, h1, _, h2⟩ := laidMet_of hL h
  have key := Go.AX.laid_heap h1 (fun b off hm => (h2 b off hm).1)
  obtain ⟨g, t, cs, fuel, p, g1, g2, g3, g4⟩ := key ("internal/strconv.uint64pow10", Rows.laid_internal_strconv_uint64pow10) (by simp [Rows.noteKnownRow])
  obtain rfl := Option.some.inj ((show Tryd.prog.globalNamed "internal/strconv.uint64pow10" = some 0 by kernel_rfl).symm.trans g1)
  obtain rfl := Option.some.inj ((show (Tryd.prog.globals[0]?).map (·.type) = some 83 by kernel_rfl).symm.trans g2)
  dsimp only at g3
  rw [laidPow] at g3
  have hcs := Go.AX.cells_ints (n := 20) (k := .u64) Tryd.underlying83 Tryd.underlying66 (by kernel_rfl) (by kernel_rfl) g3
  have hcs' : cs = (pow10.map (Value.int .u64)).toArray := Array.ext' (by simpa using hcs)
  obtain ⟨t', ht'⟩ := g4 (by rw [hcs']; decide)
  rw [hcs'] at ht'
  intro i hi
  refine rd_mW_tab ht' (by decide) i _ ?_
  rw [List.getElem?_map, pow10_at ⟨i, hi⟩]; rfl

theorem rows (u : TypeId) (h : Tryd.prog.typeName? 3 u = some "*errors.errorString") : u = 99 :=
  typeName_ptr_named (nm := "errors.errorString") (by kernel_rfl) (by kernel_rfl) (by decide) u h

theorem gsize : Tryd.prog.globals.size = 8 := by kernel_rfl

/-- strconv's two errors are something -/
def ErrsT (m : Mem) : Prop := ∀ g, g = 1 ∨ g = 2 → ∃ v, rd m g 0 = some (.iface 99 v) 
theorem ErrsT.keep {m m' : Mem} (h : ErrsT m) (hw : Wf m) (k : Keep m m') : ErrsT m' := fun g hg => by
  obtain ⟨v, hv⟩ := h g hg
  exact ⟨v, rd_keep k hw hv⟩

theorem errsT_at {W : World} {L} (hL : L = Rows.noteKnownRow.laid) (h : laidMetH Tryd.prog L W) : ErrsT (mW Tryd.prog W) := by
  have h4 := (laidMet_of hL h).tail.tail.tail.tail
  have h5 := h4.tail
  rintro g (rfl | rfl)
  · exact laid_err2 h5 (g := 1) (by kernel_rfl) (by kernel_rfl) Tryd.underlying49 rows Tryd.underlying99 Tryd.underlying101 rfl rfl Tryd.underlying9 (by kernel_rfl) (by kernel_rfl)
  · exact laid_err2 h4 (g := 2) (by kernel_rfl) (by kernel_rfl) Tryd.underlying49 rows Tryd.underlying99 Tryd.underlying101 rfl rfl Tryd.underlying9 (by kernel_rfl) (by kernel_rfl)

end Go.Proofs.YtdeknemdeijljaaDoor.vc
