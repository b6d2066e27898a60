/-
  ModelKnown is run in the kernel.
-/
import Derived.Test.YtiehbnmpaeedpaaGreatSums
namespace Go.Proofs.YtiehbnmpaeedpaaGreat.vc
open Go Go.AX
noncomputable section

def ovk : List (Nat × (List Value → Mem → Option (Value × Mem))) := [(n_slices_overlaps_model_Serv, ovlA), (n_slices_Insert_sl_model_Serv, servA)]
def cxk : Cx := Cx.of Tryz.prog (ovk.foldr (fun x t => t.put x.1 x.2) .nil)
theorem ovkOk : OvOk Tryz.prog cxk := ovOk_list (l := ovk) rfl fun x hx => by
  simp only [ovk, List.mem_cons, List.not_mem_nil, or_false] at hx
  rcases hx with h | h <;> rw [h]
  · exact vc0.ovlSum
  · exact serv_sum
theorem known_ran : isTrue (callN cxk 100000 n_law_ModelKnown [] (m0 Tryz.prog)) = true := by kernel_rfl

end
end Go.Proofs.YtiehbnmpaeedpaaGreat.vc
