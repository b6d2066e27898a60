/-
  A first context: no summaries but that of slices.overlaps.
-/
import Derived.Test.YtiehbnmpaeedpaaGreatRows
import Derived.Test.YtiehbnmpaeedpaaGreatNm
import Derived.Test.YtiehbnmpaeedpaaGreatAxInsOk
import Derived.Test.YtiehbnmpaeedpaaGreatAxOpen
import Derived.KernelRfl
namespace Go.Proofs.YtiehbnmpaeedpaaGreat.vc0
open Go Go.AX Go.Proofs.YtiehbnmpaeedpaaGreat.vc
noncomputable section

def ov : Tr (List Value → Mem → Option (Value × Mem)) := Tr.put .nil n_slices_overlaps_model_Serv ovlA
def cx : Cx := Cx.of Tryz.prog ov
theorem cxOk : CxOk Tryz.prog cx := CxOk.of _ _
theorem ovK : cx.ov.get n_slices_overlaps_model_Serv = some ovlA := by
  show ov.get _ = _
  unfold ov
  rw [Tr.get_put, if_pos rfl]
theorem ovE {k : FuncId} {f : List Value → Mem → Option (Value × Mem)} (h : cx.ov.get k = some f) : f = ovlA := by
  have h : ov.get k = some f := h
  unfold ov at h
  rw [Tr.get_put] at h
  split at h
  · exact (Option.some.inj h).symm
  · rw [Tr.get_nil] at h; cases h
theorem ovFr : OvFr cx := fun k f h a u r u' e E m hb => by
  have := ovE h; subst this; exact ovlA_bes e E m hb
theorem ovNi : OvNi cx := fun k f h a u r u' e hw => by
  have := ovE h; subst this; exact ovlA_nice e hw

theorem hmix : Tryz.prog.follows .mixedOrders = true := by kernel_rfl

theorem ovlSum [Kap] : SumOk Tryz.prog n_slices_overlaps_model_Serv ovlA :=
  ovl_ok (fn := Tryz.f76) (t := t_sl_model_Serv) (tb := t_bool) (e := t_model_Serv) (s := 11) Tryz.func76 (by kernel_rfl) (by kernel_rfl) (by kernel_rfl) (by kernel_rfl) Tryz.underlying25 Tryz.sizeOf47

theorem ovOk [Kap] : OvOk Tryz.prog cx := fun k f h =>
  ov_put (P := Tryz.prog) (k := n_slices_overlaps_model_Serv) (f := ovlA) (t := Tr.nil) ov_nil ovlSum k f h

end
end Go.Proofs.YtiehbnmpaeedpaaGreat.vc0
