/-
  The context: what stands as a summary: 'awake' (closed), slices.Sort at ints, slices.SortFunc with the comparator of edf, slices.Insert at servers.
-/
import Derived.Test.YtiehbnmpaeedpaaGreatC0
import Derived.Test.YtiehbnmpaeedpaaGreatAxPlEdf
import Derived.Test.YtiehbnmpaeedpaaGreatAxSort
import Derived.Test.YtiehbnmpaeedpaaGreatAxSortK
import Derived.Test.YtiehbnmpaeedpaaGreatAxOv
namespace Go.Proofs.YtiehbnmpaeedpaaGreat.vc
open Go Go.AX
noncomputable section

/-- an entry's cells -/
def encE (x : pl.E) : List Value := [.int .i64 x.1, .int .i64 x.2.1, .bool x.2.2]

def decE : List Value → Option (List pl.E)
  | [] => some []
  | .int .i64 a :: .int .i64 b :: .bool c :: r => match decE r with
    | some l => some ((a, b, c) :: l)
    | none => none
  | _ => none

theorem decE_flat : ∀ l : List pl.E, decE (l.flatMap encE) = some l
  | [] => rfl
  | (a, b, c) :: l => by
    show (match decE (l.flatMap encE) with | some l => some ((a, b, c) :: l) | none => none) = _
    rw [decE_flat l]

theorem decE_eq {l : List Value} {xs : List pl.E} (h : decE l = some xs) : l = xs.flatMap encE := by
  fun_induction decE l generalizing xs with
  | case1 => cases h; rfl
  | case2 a b c r l hl ih =>
    cases h
    rw [ih hl]; rfl
  | case3 => cases h
  | case4 => cases h

def srtA : List Value → Mem → Option (Value × Mem) := rowA 3 (anewK encE decE pl.srt) [.func (.func n_edf_order_1) #[] #[]]
def intsA : List Value → Mem → Option (Value × Mem) := rowA 1 anewI []
def servA : List Value → Mem → Option (Value × Mem) := insA vc0.cx t_sl_model_Serv t_model_Serv 11 104

def ovl : List (Nat × (List Value → Mem → Option (Value × Mem))) := [(n_law_awake, trueA), (n_slices_Sort_sl_int, intsA), (n_slices_SortFunc_sl_edf_Ent, srtA), (n_slices_Insert_sl_model_Serv, servA)]
def ov : Tr (List Value → Mem → Option (Value × Mem)) := ovl.foldr (fun x t => t.put x.1 x.2) .nil
def cx : Cx := Cx.of Tryz.prog ov
theorem cxOk : CxOk Tryz.prog cx := CxOk.of _ _

theorem ov_awake : cx.ov.get n_law_awake = some trueA := by
  show (ovl.foldr (fun x t => Tr.put t x.1 x.2) .nil).get _ = _
  simp only [ovl, List.foldr_cons, List.foldr_nil, Tr.get_put]; rfl
theorem ov_ints : cx.ov.get n_slices_Sort_sl_int = some intsA := by
  show (ovl.foldr (fun x t => Tr.put t x.1 x.2) .nil).get _ = _
  simp only [ovl, List.foldr_cons, List.foldr_nil, Tr.get_put]; rfl
theorem ov_srt : cx.ov.get n_slices_SortFunc_sl_edf_Ent = some srtA := by
  show (ovl.foldr (fun x t => Tr.put t x.1 x.2) .nil).get _ = _
  simp only [ovl, List.foldr_cons, List.foldr_nil, Tr.get_put]; rfl
theorem ov_serv : cx.ov.get n_slices_Insert_sl_model_Serv = some servA := by
  show (ovl.foldr (fun x t => Tr.put t x.1 x.2) .nil).get _ = _
  simp only [ovl, List.foldr_cons, List.foldr_nil, Tr.get_put]; rfl

theorem ovE : cx.ov = ovl.foldr (fun x t => Tr.put t x.1 x.2) .nil := rfl
theorem srtA_fr : FrF srtA := rowA_fr
theorem srtA_ni : NiF srtA := rowA_ni
theorem intsA_fr : FrF intsA := rowA_fr
theorem intsA_ni : NiF intsA := rowA_ni
theorem servA_fr : FrF servA := insA_fr
theorem servA_ni : NiF servA := insA_ni
theorem ovFr : OvFr cx := ovFr_list ovE fun x hx => by
  simp only [ovl, List.mem_cons, List.not_mem_nil, or_false] at hx
  rcases hx with h | h | h | h <;> rw [h]
  · exact trueA_fr
  · exact intsA_fr
  · exact srtA_fr
  · exact servA_fr
theorem ovNi : OvNi cx := ovNi_list ovE fun x hx => by
  simp only [ovl, List.mem_cons, List.not_mem_nil, or_false] at hx
  rcases hx with h | h | h | h <;> rw [h]
  · exact trueA_ni
  · exact intsA_ni
  · exact srtA_ni
  · exact servA_ni

end
end Go.Proofs.YtiehbnmpaeedpaaGreat.vc
