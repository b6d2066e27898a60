/-
  FaultOne: one step out of a wrapped error is what was wrapped: the law's walk.
-/
import Derived.Test.YtjefcmlnclnbeaaDoorAll
import Derived.Test.YtjefcmlnclnbeaaDoorAwake
import Derived.Test.YtjefcmlnclnbeaaDoorDoor
import Derived.Test.YtjefcmlnclnbeaaDoorCards
import Derived.Test.YtjefcmlnclnbeaaDoorTie
import Derived.Test.YtjefcmlnclnbeaaDoorAxLaw
import Derived.ChangeMaps5
import Derived.WalkKit
import Derived.ProofKit
import Derived.OpenShut
import Derived.LaidMore
import Derived.SevenTiedAt
namespace Go.Proofs.YtjefcmlnclnbeaaDoor.vc
open Go Go.AX
set_option linter.unusedVariables false
set_option linter.unusedSimpArgs false
set_option maxRecDepth 100000

theorem wrapW_ok {m : Mem} {s : ByteArray} {id : Int} {v : Value} {n : Nat} {c : Int} {Q : Value → Mem → Prop} (hc : Ch m v n c) (h : Q (.iface 31 (.pointer (some ⟨m.nx, 0, none⟩))) (newO m (row [.string s, .int .i64 id, v] 36 false))) : CallW cx 7 [.string s, .int .i64 id, v] m Q := by
  apply F7_ok; unfold F7
  refine ⟨false, hc.some m, ?_⟩
  rw [splitB_false]
  have : mBind (newO m (row [.string s, .int .i64 id, v] 36 false)) fun m1 => Q (.iface 31 (.pointer (some ⟨m.nx, 0, none⟩))) m1 := by rw [mBind_iff]; exact h
  cases hc <;> exact this

theorem eqI_self (x : Int) : eqI x x = true := eqI_true.2 rfl

theorem eq_ptr31 {m : Mem} {b : Nat} {l : List Value} {e : TypeId} {x : Bool} (h : Row m b l e x) : eqV cx m 40 24 (.iface 31 (.pointer (some ⟨b, 0, none⟩))) (.iface 31 (.pointer (some ⟨b, 0, none⟩))) = some true := by
  have hl : liveCells m b = true := by
    obtain ⟨c, h1, _⟩ := h
    unfold liveCells; rw [h1]
  have e1 : eqPtr m (some ⟨b, 0, none⟩) (some ⟨b, 0, none⟩) = some true := by
    unfold eqPtr
    simp [hl]
  show eqPtr m (some ⟨b, 0, none⟩) (some ⟨b, 0, none⟩) = some true
  exact e1

theorem one_law {m : Mem} {x1 x2 : Int} {s0 : ByteArray} (hw : Wf m) (hE : ErrT m) : F4 s0 x1 x2 m fun r _ => r = .bool true := by
  unfold F4
  refine awake_ok hw hE fun m1 k1 => ⟨true, rfl, ?_⟩
  rw [show (!true) = false from rfl, splitB_false]
  refine joinK_of (fun J => 1 ≤ x2 → J m1) (fun h1 => ?_) (fun J hJ => ?_)
  · refine new_ok' (by omega) ?_
    generalize hm3 : newO m1 _ = m3
    have k3 : Keep m1 m3 := hm3 ▸ (Keep.refl k1.wf).newO
    have r3 : Row m3 m1.nx [.string s0, .int .i64 x1, .iface 27 (.int .i64 x2)] 36 false := hm3 ▸ Row.newO
    have hc3 : Chn m3 (.iface 31 (.pointer (some ⟨m1.nx, 0, none⟩))) [(m1.nx, s0, x1)] x2 := .wrap r3 (.num x2)
    refine ⟨_, rfl, wrapW_ok hc3.ch ?_⟩
    generalize hm4 : newO m3 _ = m4
    have k4 : Keep m3 m4 := hm4 ▸ (Keep.refl k3.wf).newO
    have r4 : Row m4 m3.nx [.string s0, .int .i64 x1, .iface 31 (.pointer (some ⟨m1.nx, 0, none⟩))] 36 false := hm4 ▸ Row.newO
    have hc4 : Chn m4 (.iface 31 (.pointer (some ⟨m3.nx, 0, none⟩))) [(m3.nx, s0, x1), (m1.nx, s0, x1)] x2 := .wrap r4 (hc3.keep k3.wf k4)
    refine ⟨_, rfl, ?_⟩
    rw [mBind_iff]
    generalize hm5 : newO m4 _ = m5
    have k5 : Keep m4 m5 := hm5 ▸ (Keep.refl k4.wf).newO
    have n5 : m4.nx = m3.nx + 1 := by rw [← hm4]; rfl
    have r5 : Row m5 m4.nx [.pointer none] 31 false := hm5 ▸ Row.newO
    have hc5 := hc4.keep k4.wf k5
    have k05 := ((k1.trans k3).trans k4).trans k5
    have hE5 := hE.keep hw k05
    have hfl := k4.wf.1
    have fl5 := k5.fl
    refine joinK_of (fun J => ∀ m', Keep m4 m' → Row m' m4.nx [.pointer (some ⟨m3.nx, 0, none⟩)] 31 false → J m') (fun m' k' r' => ?_) (fun J hJ => ?_)
    · have q3 := (k4.trans k').row k3.wf r3
      have q4 := k'.row k4.wf r4
      refine unwrap_ok q4 ⟨_, rfl, (fun h => by cases h), true, eq_ptr31 q3, ?_⟩
      rw [splitB_true]
      refine unwrap_ok q3 ⟨_, rfl, (fun h => by cases h), true, ?_, ?_⟩
      · rw [eq_nums, decide_eq_true rfl]
      rw [splitB_true]
      refine ⟨_, r'.rd, ?_⟩
      rw [vPtr_some]
      refine ⟨_, q4.rd, ?_⟩
      rw [eqS_self, splitB_true]
      refine ⟨_, r'.rd, ?_⟩
      rw [vPtr_some]
      refine ⟨_, q4.rd, ?_⟩
      rw [eqI_self, splitB_true]
      refine deep_ok k'.wf (hE.keep hw (((k1.trans k3).trans k4).trans k')) (hc4.keep k4.wf k') (by simp) fun m6 k6 => ⟨_, rfl, ?_⟩
      rw [show eqI (([(m3.nx, s0, x1), (m1.nx, s0, x1)] : List Lay).length : Nat) 2 = true from eqI_true.2 rfl]
    · refine ⟨false, (hc3.ch).some _, ?_⟩
      rw [splitB_false]
      refine ⟨false, (hc4.ch).some _, ?_⟩
      rw [splitB_false]
      refine asFault k5.wf hE5 hc5 r5 (by omega) fun r m6 hA => ?_
      obtain ⟨w6, f6, rfl, r6⟩ := hA
      refine ⟨true, rfl, ?_⟩
      rw [show (!true) = false from rfl, splitB_false]
      refine ⟨_, r6.rd, ?_⟩
      rw [show Option.isNone (some (⟨m3.nx, 0, none⟩ : Addr)) = false from rfl, splitB_false]
      exact hJ m6 (Keep.of_fr k5 w6 f6 (by simp)) r6
  · simp only [splitB_iff, ltI_true, ltI_false]
    exact ⟨fun _ => trivial, fun h1 => ⟨fun _ => trivial, fun _ => ⟨fun _ => trivial, fun _ => hJ h1⟩⟩⟩

end Go.Proofs.YtjefcmlnclnbeaaDoor.vc

namespace Go.Proofs.YtjefcmlnclnbeaaDoor.faultOne
open Go Go.ChangeShapes Go.WideShapes Go.ChangeAt Go.RowKit Go.AX
set_option linter.unusedVariables false

set_option maxRecDepth 100000 in
theorem walk {H : Type} {enc : TypeId × Value → H} (W : World) (args : Array Value) (ds : List (DataW H)) (p : List MemPlace) (hL : laidMetH Tryd.prog Rows.faultOneRow.laid W) (hA : DataW.TrodAll enc Tryd.prog W 0 (fun _ => true) true [9, 3, 3] args.toList ds p)
    (hval : ∀ (j : Nat) t v, ([9, 3, 3] : List TypeId)[j]? = some t → args.toList[j]? = some v → Value.okWide Tryd.prog W .any 0 t v) :
    Calls Tryd.prog 4 args W (fun e w' => e = .returned (.bool true) ∧ Below W.heap.size W w') ∧ ∃ d1 d2 d3, ds = [d1, d2, d3] := by
  obtain ⟨l⟩ := args
  simp only at hA hval
  obtain ⟨v1, vs1, d1, ds1, p1, q1, rfl, rfl, rfl, h1, hA⟩ := trodAll_cons hA
  obtain ⟨v2, vs2, d2, ds2, p2, q2, rfl, rfl, rfl, h2, hA⟩ := trodAll_cons hA
  obtain ⟨v3, vs3, d3, ds3, p3, q3, rfl, rfl, rfl, h3, hA⟩ := trodAll_cons hA
  obtain ⟨rfl, rfl, rfl⟩ := trodAll_nil hA
  refine ⟨?_, d1, d2, d3, rfl⟩
  have htab := vc.errT_at rfl hL
  obtain ⟨s, rfl, _⟩ := Go.ChangeMaps.open_string Tryd.underlying9 (hval 0 _ _ rfl rfl) h1
  obtain ⟨n1, rfl, _⟩ := open_int Tryd.underlying3 (hval 1 _ _ rfl rfl) h2
  obtain ⟨n2, rfl, _⟩ := open_int Tryd.underlying3 (hval 2 _ _ rfl rfl) h3
  refine open_true (ann := vc.A4) vc.cxOk vc.ovOk vc.hmix W _ (by kernel_rfl : vc.cx.fn.get 4 = some Tryd.f4) ?_ ?_
  · rfl
  · exact Eq.mp (vc.F4_eq s n1 n2 _ _) (vc.one_law (mW_wf _ _) htab)

set_option maxRecDepth 100000 in
theorem lifted (os : Os) (started : os.Started) (H : Type) (enc : TypeId × Value → H) :
    ReturnsInHanded {} Tryd.checked os 4 .any (fun w args => (Rows.faultOneSpec.pre enc Tryd.prog Tryd.f4 [] false w args ∧ laidMetH Tryd.prog Rows.faultOneRow.laid w) ∧ sizedMet enc Tryd.prog Tryd.f4 (OpenSpec.ofChange Rows.faultOneSpec) false w args)
      (Rows.faultOneSpec.post enc Tryd.prog Tryd.f4 false true false false) := by
  refine returnsInHanded_of_change_and (C := Tryd.checked) (X := fun w _ => laidMetH Tryd.prog Rows.faultOneRow.laid w) (fun _ _ _ hh h => h.of_heap hh) vc.own started (by kernel_rfl) Tryd.func4
    (ChangeSpec.witness_at (enc := enc) (C := Tryd.checked) (os := os) (X := fun w _ => laidMetH Tryd.prog Rows.faultOneRow.laid w) false (vc.laidWorld os) #[.string ⟨#[]⟩, .int .i64 0, .int .i64 0] 8 rfl (by kernel_rfl) (by kernel_rfl) (by kernel_rfl) (by kernel_rfl) (by kernel_rfl) (vc.laidWorld_met os _)) ?_
  intro W base args ds gs before hval0 hW hcnd _ hL _
  have hval : ∀ (j : Nat) t v, Tryd.f4.params[j]? = some t → args[j]? = some v → Value.okWide Tryd.prog W .any base t v := hval0
  have hW' := hW
  obtain ⟨p, q, hA0, hV, rfl, hfz, hnd⟩ := hW
  have hA : DataW.TrodAll enc Tryd.prog W 0 (fun _ => true) true Tryd.f4.params.toList args.toList ds p := hA0
  rw [Tryd.params4] at hA hval
  obtain ⟨rfl, rfl⟩ := trodVars_none hV
  clear hA0 hval0
  simp only [List.append_nil] at hW'
  have hval' : ∀ (j : Nat) t v, ([9, 3, 3] : List TypeId)[j]? = some t → args.toList[j]? = some v → Value.okWide Tryd.prog W .any base t v := fun j t v h1 h2 => hval j t v (by simpa using h1) (by simpa using h2)
  obtain ⟨hc, d1, d2, d3, rfl⟩ := walk (enc := enc) W args ds p hL hA hval'
  refine hc.mono fun e W' ⟨he, hg⟩ => ?_
  subst he
  exact ⟨_, rfl, post_law Tryd.underlying4 (by kernel_rfl) rfl rfl (by kernel_rfl) (by rw [Tryd.params4]; exact hW') (by rw [Tryd.params4]; exact hA) hg⟩

theorem over : Rows.FaultOneSaid :=
  OpenClaim.holds_of_wide 4 Tryd.f4 rfl rfl rfl rfl rfl rfl rfl ⟨rfl, rfl, rfl, rfl, rfl⟩ rfl rfl rfl rfl rfl (by kernel_rfl) Tryd.func4 (by kernel_rfl)
    (of_decide_eq_true (by kernel_rfl)) (by unfold Func.isWrapper; first | (rw [if_pos (by decide +kernel)]; kernel_rfl) | (rw [if_neg (by decide +kernel)]; exact ⟨rfl, rfl⟩))
    (fun os started H enc _ => lifted os started H enc)

theorem plain : (Tryd.f4.params.toList.all fun t => !Tryd.prog.wantsStandIn t) = true := by kernel_rfl

theorem proved : Rows.FaultOneCardSaid :=
  Claim7.holds_tied_plain_at .later [] [.handle] true (true, "6e10b58e40f23e1b5838895329632b45c873922186fd96672493df75b349852c") true
    over (fun _ h => by cases h) (by kernel_rfl) (fun _ h => by cases h) faultOne_row_tie rfl ⟨rfl, rfl⟩ (by kernel_rfl) rfl
    (fun f fn hf hfn => by
      obtain rfl : f = 4 := Option.some.inj ((show Tryd.prog.funcNamed "beadle/beadlelaw2.FaultOne" = some 4 by kernel_rfl).symm.trans hf) |>.symm
      obtain rfl : fn = Tryd.f4 := (Option.some.inj (Tryd.func4.symm.trans hfn)).symm
      exact ⟨by kernel_rfl, fun j t ht => by
        have := List.all_eq_true.1 plain t (List.mem_of_getElem? (by simpa using ht))
        exact (show Tryd.prog.wantsStandIn t = false by simpa using this)⟩)
    (by kernel_rfl)
#print axioms proved
end Go.Proofs.YtjefcmlnclnbeaaDoor.faultOne

