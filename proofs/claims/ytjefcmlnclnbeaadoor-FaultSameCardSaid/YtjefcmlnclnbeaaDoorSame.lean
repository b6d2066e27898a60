/-
  FaultSame: of two numbers the errors are each other's just if the numbers are the same: the law's walk.
-/
import Derived.Test.YtjefcmlnclnbeaaDoorAwake
import Derived.Test.YtjefcmlnclnbeaaDoorDoor
import Derived.Test.YtjefcmlnclnbeaaDoorCards
import Derived.Test.YtjefcmlnclnbeaaDoorTie
import Derived.Test.YtjefcmlnclnbeaaDoorAxLaw
import Derived.ChangeMaps5
import Derived.WalkKit
import Derived.ProofKit
import Derived.OpenShut
import Derived.LaidMore
import Derived.SevenTiedAt
namespace Go.Proofs.YtjefcmlnclnbeaaDoor.vc
open Go Go.AX
set_option linter.unusedVariables false
set_option linter.unusedSimpArgs false
set_option maxRecDepth 100000

theorem wrap_ok {m : Mem} {s : ByteArray} {id : Int} {v : Value} {n : Nat} {c : Int} {Q : Value → Mem → Prop} (hc : Ch m v n c) (h : Q (.iface 31 (.pointer (some ⟨m.nx, 0, none⟩))) (newO m (row [.string s, .int .i64 id, v] 36 false))) : CallW cx 7 [.string s, .int .i64 id, v] m Q := by
  apply F7_ok; unfold F7
  refine ⟨false, hc.some m, ?_⟩
  rw [splitB_false]
  have : mBind (newO m (row [.string s, .int .i64 id, v] 36 false)) fun m1 => Q (.iface 31 (.pointer (some ⟨m.nx, 0, none⟩))) m1 := by rw [mBind_iff]; exact h
  cases hc <;> exact this

theorem eqI_decide (x y : Int) : eqI x y = decide (x = y) := by
  by_cases h : x = y
  · rw [decide_eq_true h]; exact eqI_true.2 h
  · rw [decide_eq_false h]; exact eqI_false.2 h

theorem beq_same (b : Bool) : (b == b) = true := by cases b <;> rfl

theorem same_law {m : Mem} {x0 x1 x3 : Int} {s2 : ByteArray} (hw : Wf m) (hE : ErrT m) : F3 x0 x1 s2 x3 m fun r _ => r = .bool true := by
  unfold F3
  refine awake_ok hw hE fun m1 k1 => ⟨true, rfl, ?_⟩
  rw [show (!true) = false from rfl, splitB_false]
  refine joinK_of (fun J => 1 ≤ x0 → J m1) (fun h1 => ?_) (fun J hJ => ?_)
  · refine new_ok' (by omega) ?_
    generalize hm3 : newO m1 _ = m3
    have k3 : Keep m1 m3 := hm3 ▸ (Keep.refl k1.wf).newO
    have r3 : Row m3 m1.nx [.string s2, .int .i64 x3, .iface 27 (.int .i64 x0)] 36 false := hm3 ▸ Row.newO
    have hc3 : Ch m3 (.iface 31 (.pointer (some ⟨m1.nx, 0, none⟩))) 1 x0 := .wrap r3 (.num x0)
    refine ⟨_, rfl, wrap_ok hc3 ?_⟩
    generalize hm4 : newO m3 _ = m4
    have k4 : Keep m3 m4 := hm4 ▸ (Keep.refl k3.wf).newO
    have r4 : Row m4 m3.nx [.string (ByteArray.mk #[120]), .int .i64 1, .iface 31 (.pointer (some ⟨m1.nx, 0, none⟩))] 36 false := hm4 ▸ Row.newO
    have hc4 : Ch m4 (.iface 31 (.pointer (some ⟨m3.nx, 0, none⟩))) 2 x0 := .wrap r4 (hc3.keep k3.wf k4)
    refine ⟨_, rfl, is_ok hc4 ⟨_, rfl, ?_⟩⟩
    rw [eqI_decide x0 x1, beq_same, splitB_true]
    refine code_ok k4.wf (hE.keep hw ((k1.trans k3).trans k4)) hc4 fun m6 k6 => ⟨_, rfl, ?_⟩
    rw [eqI_decide x0 x1, beq_same]
  · simp only [splitB_iff, ltI_true, ltI_false]
    exact ⟨fun _ => trivial, fun h1 => ⟨fun _ => trivial, fun _ => ⟨fun _ => trivial, fun _ => ⟨fun _ => trivial, fun _ => ⟨fun _ => trivial, fun _ => hJ h1⟩⟩⟩⟩⟩

end Go.Proofs.YtjefcmlnclnbeaaDoor.vc

namespace Go.Proofs.YtjefcmlnclnbeaaDoor.faultSame
open Go Go.ChangeShapes Go.WideShapes Go.ChangeAt Go.RowKit Go.AX
set_option linter.unusedVariables false

set_option maxRecDepth 100000 in
theorem walk {H : Type} {enc : TypeId × Value → H} (W : World) (args : Array Value) (ds : List (DataW H)) (p : List MemPlace) (hL : laidMetH Tryd.prog Rows.faultSameRow.laid W) (hA : DataW.TrodAll enc Tryd.prog W 0 (fun _ => true) true [3, 3, 9, 3] args.toList ds p)
    (hval : ∀ (j : Nat) t v, ([3, 3, 9, 3] : List TypeId)[j]? = some t → args.toList[j]? = some v → Value.okWide Tryd.prog W .any 0 t v) :
    Calls Tryd.prog 3 args W (fun e w' => e = .returned (.bool true) ∧ Below W.heap.size W w') ∧ ∃ d1 d2 d3 d4, ds = [d1, d2, d3, d4] := by
  obtain ⟨l⟩ := args
  simp only at hA hval
  obtain ⟨v1, vs1, d1, ds1, p1, q1, rfl, rfl, rfl, h1, hA⟩ := trodAll_cons hA
  obtain ⟨v2, vs2, d2, ds2, p2, q2, rfl, rfl, rfl, h2, hA⟩ := trodAll_cons hA
  obtain ⟨v3, vs3, d3, ds3, p3, q3, rfl, rfl, rfl, h3, hA⟩ := trodAll_cons hA
  obtain ⟨v4, vs4, d4, ds4, p4, q4, rfl, rfl, rfl, h4, hA⟩ := trodAll_cons hA
  obtain ⟨rfl, rfl, rfl⟩ := trodAll_nil hA
  refine ⟨?_, d1, d2, d3, d4, rfl⟩
  have htab := vc.errT_at rfl hL
  obtain ⟨n0, rfl, _⟩ := open_int Tryd.underlying3 (hval 0 _ _ rfl rfl) h1
  obtain ⟨n1, rfl, _⟩ := open_int Tryd.underlying3 (hval 1 _ _ rfl rfl) h2
  obtain ⟨s, rfl, _⟩ := Go.ChangeMaps.open_string Tryd.underlying9 (hval 2 _ _ rfl rfl) h3
  obtain ⟨n3, rfl, _⟩ := open_int Tryd.underlying3 (hval 3 _ _ rfl rfl) h4
  refine open_true (ann := vc.A3) vc.cxOk vc.ovOk vc.hmix W _ (by kernel_rfl : vc.cx.fn.get 3 = some Tryd.f3) ?_ ?_
  · rfl
  · exact Eq.mp (vc.F3_eq n0 n1 s n3 _ _) (vc.same_law (mW_wf _ _) htab)

set_option maxRecDepth 100000 in
theorem lifted (os : Os) (started : os.Started) (H : Type) (enc : TypeId × Value → H) :
    ReturnsInHanded {} Tryd.checked os 3 .any (fun w args => (Rows.faultSameSpec.pre enc Tryd.prog Tryd.f3 [] false w args ∧ laidMetH Tryd.prog Rows.faultSameRow.laid w) ∧ sizedMet enc Tryd.prog Tryd.f3 (OpenSpec.ofChange Rows.faultSameSpec) false w args)
      (Rows.faultSameSpec.post enc Tryd.prog Tryd.f3 false true false false) := by
  refine returnsInHanded_of_change_and (C := Tryd.checked) (X := fun w _ => laidMetH Tryd.prog Rows.faultSameRow.laid w) (fun _ _ _ hh h => h.of_heap hh) vc.own started (by kernel_rfl) Tryd.func3
    (ChangeSpec.witness_at (enc := enc) (C := Tryd.checked) (os := os) (X := fun w _ => laidMetH Tryd.prog Rows.faultSameRow.laid w) false (vc.laidWorld os) #[.int .i64 0, .int .i64 0, .string ⟨#[]⟩, .int .i64 0] 8 rfl (by kernel_rfl) (by kernel_rfl) (by kernel_rfl) (by kernel_rfl) (by kernel_rfl) (vc.laidWorld_met os _)) ?_
  intro W base args ds gs before hval0 hW hcnd _ hL _
  have hval : ∀ (j : Nat) t v, Tryd.f3.params[j]? = some t → args[j]? = some v → Value.okWide Tryd.prog W .any base t v := hval0
  have hW' := hW
  obtain ⟨p, q, hA0, hV, rfl, hfz, hnd⟩ := hW
  have hA : DataW.TrodAll enc Tryd.prog W 0 (fun _ => true) true Tryd.f3.params.toList args.toList ds p := hA0
  rw [Tryd.params3] at hA hval
  obtain ⟨rfl, rfl⟩ := trodVars_none hV
  clear hA0 hval0
  simp only [List.append_nil] at hW'
  have hval' : ∀ (j : Nat) t v, ([3, 3, 9, 3] : List TypeId)[j]? = some t → args.toList[j]? = some v → Value.okWide Tryd.prog W .any base t v := fun j t v h1 h2 => hval j t v (by simpa using h1) (by simpa using h2)
  obtain ⟨hc, d1, d2, d3, d4, rfl⟩ := walk (enc := enc) W args ds p hL hA hval'
  refine hc.mono fun e W' ⟨he, hg⟩ => ?_
  subst he
  exact ⟨_, rfl, post_law Tryd.underlying4 (by kernel_rfl) rfl rfl (by kernel_rfl) (by rw [Tryd.params3]; exact hW') (by rw [Tryd.params3]; exact hA) hg⟩

theorem over : Rows.FaultSameSaid :=
  OpenClaim.holds_of_wide 3 Tryd.f3 rfl rfl rfl rfl rfl rfl rfl ⟨rfl, rfl, rfl, rfl, rfl⟩ rfl rfl rfl rfl rfl (by kernel_rfl) Tryd.func3 (by kernel_rfl)
    (of_decide_eq_true (by kernel_rfl)) (by unfold Func.isWrapper; first | (rw [if_pos (by decide +kernel)]; kernel_rfl) | (rw [if_neg (by decide +kernel)]; exact ⟨rfl, rfl⟩))
    (fun os started H enc _ => lifted os started H enc)

theorem plain : (Tryd.f3.params.toList.all fun t => !Tryd.prog.wantsStandIn t) = true := by kernel_rfl

theorem proved : Rows.FaultSameCardSaid :=
  Claim7.holds_tied_plain_at .later [] [.handle] true (true, "6e10b58e40f23e1b5838895329632b45c873922186fd96672493df75b349852c") true
    over (fun _ h => by cases h) (by kernel_rfl) (fun _ h => by cases h) faultSame_row_tie rfl ⟨rfl, rfl⟩ (by kernel_rfl) rfl
    (fun f fn hf hfn => by
      obtain rfl : f = 3 := Option.some.inj ((show Tryd.prog.funcNamed "beadle/beadlelaw2.FaultSame" = some 3 by kernel_rfl).symm.trans hf) |>.symm
      obtain rfl : fn = Tryd.f3 := (Option.some.inj (Tryd.func3.symm.trans hfn)).symm
      exact ⟨by kernel_rfl, fun j t ht => by
        have := List.all_eq_true.1 plain t (List.mem_of_getElem? (by simpa using ht))
        exact (show Tryd.prog.wantsStandIn t = false by simpa using this)⟩)
    (by kernel_rfl)
#print axioms proved
end Go.Proofs.YtjefcmlnclnbeaaDoor.faultSame
