/-
  ProgBack: a program's text is read as it.
-/
import Derived.Test.YtnhpljcjdfffkaaDoorParse
namespace Go.Proofs.YtnhpljcjdfffkaaDoor.vc
open Go Go.AX
set_option linter.unusedVariables false
set_option linter.unusedSimpArgs false
set_option maxRecDepth 100000

theorem txt_len {l : List Stp2} (h : goodP l = true) : (txt l).length ≤ 400 := by
  obtain ⟨h1, h2, h3⟩ := goodP_len h
  unfold txt
  rw [if_pos h]
  have hj := join_len [43] (B := 43) (l := l.map txt1) (by
    intro x hx
    obtain ⟨y, hy, rfl⟩ := List.mem_map.1 hx
    exact txt1_len (h3 y hy))
  rw [List.length_map] at hj
  have : l.length * (43 + ([43] : List UInt8).length) ≤ 8 * 44 := Nat.mul_le_mul h2 (by simp)
  omega

theorem back_law {m : Mem} {a : Option Addr} {n c : Nat} {l : List Stp2} (hw : Wf m) (hp : PowT m) (he : ErrsT m) (hP : PS m a n l) : F3 a n c m fun r _ => r = .bool true := by
  unfold F3
  refine awake_ok ⟨true, rfl, split_nb (fun h => by cases h) (fun _ => ?_)⟩
  have hl := hP.1
  refine joinK_of' (fun J => goodP l = true → ∀ m', Keep m m' → J m') (fun h1 m2 k2 => ?_) (fun J hJ => ?_)
  · obtain ⟨g1, g2, g3⟩ := goodP_len h1
    have tl := txt_len h1
    refine text_ok k2.wf (hp.keep hw k2) (hP.keep hw k2) fun m3 k3 => ⟨_, rfl, ?_⟩
    have kk3 := k2.trans k3
    refine parse_ok kk3.wf (hp.keep hw kk3) (he.keep hw kk3) (by omega) fun r m4 k4 hR => ?_
    unfold ParseR at hR
    rw [parseP_some.2 ⟨h1, rfl⟩] at hR
    obtain ⟨a4, n4, c4, rfl, hP4⟩ := hR
    have kk4 := kk3.trans k4
    refine ⟨_, _, _, _, rfl, ?_⟩
    rw [splitB_true]
    refine own_ok kk4.wf (hP.keep hw kk4) (by omega) fun a5 n5 c5 m5 k5 _ hO => ⟨_, _, _, rfl, ?_⟩
    have kk5 := kk4.trans k5
    refine same_ok kk5.wf (hP4.keep kk4.wf k5) hO (by have := hP4.1; omega) fun m6 k6 => ⟨_, rfl, ?_⟩
    rw [decide_eq_true rfl, splitB_true]
    have kk6 := kk5.trans k6
    refine total_ok kk6.wf (hP4.keep kk4.wf (k5.trans k6)) fun m7 k7 => ⟨_, rfl, ?_⟩
    have kk7 := kk6.trans k7
    refine total_ok kk7.wf (hP.keep hw kk7) fun m8 k8 => ⟨_, rfl, ?_⟩
    rw [eqI_true.2 rfl, splitB_true]
    have kk8 := kk7.trans k8
    refine total_ok kk8.wf (hP.keep hw kk8) fun m9 k9 => ⟨_, rfl, ?_⟩
    have s1 := sum_bound g3
    rw [leI_true.2 (by unfold total; rw [if_pos h1]; simp only [lenI]; omega)]
  · refine split_ltI (fun _ => rfl) (fun _ => ?_)
    refine good_ok hw hP fun m1 k1 => ⟨_, rfl, split_nb (fun _ => rfl) (fun h1 => hJ h1 _ k1)⟩

end Go.Proofs.YtnhpljcjdfffkaaDoor.vc

namespace Go.Proofs.YtnhpljcjdfffkaaDoor.progBack
open Go Go.ChangeShapes Go.WideShapes Go.ChangeAt Go.RowKit Go.AX
set_option linter.unusedVariables false

set_option maxRecDepth 100000 in
theorem walk {H : Type} {enc : TypeId × Value → H} (W : World) (args : Array Value) (ds : List (DataW H)) (p : List MemPlace) (hL : laidMetH Tryd.prog Rows.progBackRow.laid W) (hA : DataW.TrodAll enc Tryd.prog W 0 (fun _ => true) true [22] args.toList ds p)
    (hval : ∀ (j : Nat) t v, ([22] : List TypeId)[j]? = some t → args.toList[j]? = some v → Value.okWide Tryd.prog W .any 0 t v) :
    Calls Tryd.prog 3 args W (fun e w' => e = .returned (.bool true) ∧ Below W.heap.size W w') ∧ ∃ d1, ds = [d1] := by
  obtain ⟨l⟩ := args
  simp only at hA hval
  obtain ⟨v1, vs1, d1, ds1, p1, q1, rfl, rfl, rfl, h1, hA⟩ := trodAll_cons hA
  obtain ⟨rfl, rfl, rfl⟩ := trodAll_nil hA
  refine ⟨?_, d1, rfl⟩
  have htab := vc.powT_at rfl hL
  have herr := vc.errsT_at rfl hL
  obtain ⟨a, n, c, l, rfl, hn, hg, hP, _⟩ := vc.steps_arg (hval 0 _ _ rfl rfl) h1
  refine open_true (ann := vc.A3) vc.cxOk vc.ovOk vc.hmix W _ (by kernel_rfl : vc.cx.fn.get 3 = some Tryd.f3) ?_ ?_
  · simp only [List.all_cons, hg]; rfl
  · exact Eq.mp (vc.F3_eq a n c _ _) (vc.back_law (mW_wf _ _) htab herr hP)

set_option maxRecDepth 100000 in
theorem lifted (os : Os) (started : os.Started) (H : Type) (enc : TypeId × Value → H) :
    ReturnsInHanded {} Tryd.checked os 3 .any (fun w args => (Rows.progBackSpec.pre enc Tryd.prog Tryd.f3 [] false w args ∧ laidMetH Tryd.prog Rows.progBackRow.laid w) ∧ sizedMet enc Tryd.prog Tryd.f3 (OpenSpec.ofChange Rows.progBackSpec) false w args)
      (Rows.progBackSpec.post enc Tryd.prog Tryd.f3 false true false false) := by
  refine returnsInHanded_of_change_and (C := Tryd.checked) (X := fun w _ => laidMetH Tryd.prog Rows.progBackRow.laid w) (fun _ _ _ hh h => h.of_heap hh) vc.own started (by kernel_rfl) Tryd.func3
    (ChangeSpec.witness_shaped (enc := enc) (C := Tryd.checked) (os := os) (X := fun w _ => laidMetH Tryd.prog Rows.progBackRow.laid w) false (World.laidAll Tryd.prog os Rows.progBackRow.laid) #[.slice none 0 0] 8 (World.laidAll_os _ _ _)
      (World.shaped_of_ZipB (by kernel_rfl) (by kernel_rfl)) (by kernel_rfl) (by kernel_rfl) (by kernel_rfl)
      (by rw [MakeChecks.laidMetH_plain _ _ _ (by kernel_rfl)]; exact laidMet_laidAll _ (by kernel_rfl) (by kernel_rfl))) ?_
  intro W base args ds gs before hval0 hW hcnd _ hL _
  have hval : ∀ (j : Nat) t v, Tryd.f3.params[j]? = some t → args[j]? = some v → Value.okWide Tryd.prog W .any base t v := hval0
  have hW' := hW
  obtain ⟨p, q, hA0, hV, rfl, hfz, hnd⟩ := hW
  have hA : DataW.TrodAll enc Tryd.prog W 0 (fun _ => true) true Tryd.f3.params.toList args.toList ds p := hA0
  rw [Tryd.params3] at hA hval
  obtain ⟨rfl, rfl⟩ := trodVars_none hV
  clear hA0 hval0
  simp only [List.append_nil] at hW'
  have hval' : ∀ (j : Nat) t v, ([22] : List TypeId)[j]? = some t → args.toList[j]? = some v → Value.okWide Tryd.prog W .any base t v := fun j t v h1 h2 => hval j t v (by simpa using h1) (by simpa using h2)
  obtain ⟨hc, d1, rfl⟩ := walk (enc := enc) W args ds p hL hA hval'
  refine hc.mono fun e W' ⟨he, hg⟩ => ?_
  subst he
  exact ⟨_, rfl, post_law Tryd.underlying4 (by kernel_rfl) rfl rfl (by kernel_rfl) (by rw [Tryd.params3]; exact hW') (by rw [Tryd.params3]; exact hA) hg⟩

theorem over : Rows.ProgBackSaid :=
  OpenClaim.holds_of_wide 3 Tryd.f3 rfl rfl rfl rfl rfl rfl rfl ⟨rfl, rfl, rfl, rfl, rfl⟩ rfl rfl rfl rfl rfl (by kernel_rfl) Tryd.func3 (by kernel_rfl)
    (of_decide_eq_true (by kernel_rfl)) (by unfold Func.isWrapper; first | (rw [if_pos (by decide +kernel)]; kernel_rfl) | (rw [if_neg (by decide +kernel)]; exact ⟨rfl, rfl⟩))
    (fun os started H enc _ => lifted os started H enc)

theorem plain : (Tryd.f3.params.toList.all fun t => !Tryd.prog.wantsStandIn t) = true := by kernel_rfl

theorem proved : Rows.ProgBackCardSaid :=
  Claim7.holds_tied_plain_at .later [] [.data, .data, .data, .data, .sentinel, .sentinel, .pinned] true (true, "8248196fa21c704be0958aeea8beb9695ba8342e99601f03b44f02d8f6aae9e5") true
    over (fun _ h => by cases h) (by kernel_rfl) (fun _ h => by cases h) progBack_row_tie rfl ⟨rfl, rfl⟩ (by kernel_rfl) rfl
    (fun f fn hf hfn => by
      obtain rfl : f = 3 := Option.some.inj ((show Tryd.prog.funcNamed "beadle/beadlelaw10.ProgBack" = some 3 by kernel_rfl).symm.trans hf) |>.symm
      obtain rfl : fn = Tryd.f3 := (Option.some.inj (Tryd.func3.symm.trans hfn)).symm
      exact ⟨by kernel_rfl, fun j t ht => by
        have := List.all_eq_true.1 plain t (List.mem_of_getElem? (by simpa using ht))
        exact (show Tryd.prog.wantsStandIn t = false by simpa using this)⟩)
    (by kernel_rfl)
#print axioms proved
end Go.Proofs.YtnhpljcjdfffkaaDoor.progBack
