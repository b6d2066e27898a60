/-
  'Rows.StatKnownSaid': the law StatKnown, called, returns true. No condition narrows it.
  The walk is made by a proved executor (the texts ..Ax..): Lean's kernel runs it.
-/
import Derived.Test.YtcnjgpidlhndhaaRows
import Derived.WalkKit
import Derived.ProofKit
import Derived.OpenShut
import Derived.KernelRfl
import Derived.Test.YtcnjgpidlhndhaaAxTop
import Derived.Test.YtcnjgpidlhndhaaAxOpen
import Derived.Test.YtcnjgpidlhndhaaKeys
namespace Go.Proofs.Ytcnjgpidlhndhaa.statKnown
open Go.ChangeShapes Go.WideShapes Go.ChangeAt Go.RowKit
set_option linter.unusedVariables false      -- a walk need not use every 'w<i>' (that an integer argument fits its kind)

theorem own : ownKnob Try.prog.godebug = none := by kernel_rfl

noncomputable def ov : Go.AX.Tr (List Value → Go.AX.Mem → Option (Value × Go.AX.Mem)) := Go.AX.Tr.put .nil 13 (Go.AX.keysA 3)
theorem ovOk : Go.AX.OvOk Try.prog (Go.AX.Cx.of Try.prog ov) := fun k f h => Go.AX.ov_put Go.AX.ov_nil keysOk k f h

theorem ran : Go.AX.isTrue (Go.AX.callN (Go.AX.Cx.of Try.prog ov) 100000 7 [] (Go.AX.m0 Try.prog)) = true := by kernel_rfl

theorem walk (w : World) :
    Calls Try.prog 7 #[] w fun e w' => e = .returned (.bool true) ∧ Below w.heap.size w w' :=
  Go.AX.closed_true (Go.AX.CxOk.of _ _) ovOk (Checked.mixed Try.checked) ran w

set_option maxRecDepth 100000 in
theorem lifted (os : Os) (started : os.Started) (H : Type) (enc : TypeId × Value → H) :
    ReturnsInHanded {} Try.checked os 7 .any (Rows.statKnownSpec.pre6 enc Try.prog Try.f7 Rows.statKnownRow.domain false) (Rows.statKnownSpec.post enc Try.prog Try.f7 false true false false) := by
  refine returnsInHanded_of_change (C := Try.checked) own started (by kernel_rfl) Try.func7
    (ChangeSpec.witness6 (enc := enc) (C := Try.checked) false ⟨#[], #[], []⟩ 8 (by kernel_rfl) (by kernel_rfl) (by kernel_rfl) (by kernel_rfl)) ?_
  intro W base args ds gs before hval0 hW hcnd _
  have hval : ∀ (j : Nat) t v, Try.f7.params[j]? = some t → args[j]? = some v → Value.okWide Try.prog W .any base t v := hval0
  have hW' := hW
  obtain ⟨p, q, hA0, hV, rfl, hfz, hnd⟩ := hW
  have hA : DataW.TrodAll enc Try.prog W 0 (fun _ => true) true Try.f7.params.toList args.toList ds p := hA0
  rw [Try.params7] at hA hval
  obtain ⟨rfl, rfl, rfl⟩ := trodAll_none hA
  obtain ⟨rfl, rfl⟩ := trodVars_none hV
  clear hA0 hval0
  simp only [List.append_nil] at hW'
  refine (walk  W).mono fun e W' ⟨he, hg⟩ => ?_
  subst he
  exact ⟨_, rfl, Go.AX.post_of_below (pa := []) (pv := []) hW' (fun _ _ _ => (trodAll_cons_mk (shut_bool Try.underlying4 _) trodAll_mk0)) (fun sp _ => rfl) (fun _ _ => rfl) rfl
    hg (ok_one (by kernel_rfl) rfl (okWide_bool_mk Try.underlying4 _))⟩

theorem over : Rows.statKnownRow.holds Try.pinned (OpenSpec.ofChange Rows.statKnownSpec) :=
  OpenClaim.holds_of_wide 7 Try.f7 rfl rfl rfl rfl rfl rfl rfl ⟨rfl, rfl, rfl, rfl, rfl⟩ rfl rfl rfl rfl rfl (by kernel_rfl) Try.func7 (by kernel_rfl)
    (of_decide_eq_true (by kernel_rfl)) (by unfold Func.isWrapper; first | (rw [if_pos (by decide +kernel)]; kernel_rfl) | (rw [if_neg (by decide +kernel)]; exact ⟨rfl, rfl⟩))
    (fun os started H enc _ => lifted os started H enc)

theorem proved : Rows.StatKnownSaid :=
  over
#print axioms proved
end Go.Proofs.Ytcnjgpidlhndhaa.statKnown
