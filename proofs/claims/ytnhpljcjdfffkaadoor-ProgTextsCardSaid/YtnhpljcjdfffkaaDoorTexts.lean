/-
  ProgTexts: two programs that may be have the same text just if they are the same.
-/
import Derived.Test.YtnhpljcjdfffkaaDoorArg
import Derived.Test.YtnhpljcjdfffkaaDoorPlain
namespace Go.Proofs.YtnhpljcjdfffkaaDoor.vc
open Go Go.AX
set_option linter.unusedVariables false
set_option linter.unusedSimpArgs false
set_option maxRecDepth 100000

theorem texts_law {m : Mem} {a a1 : Option Addr} {n c n1 c1 : Nat} {l k : List Stp2} (hw : Wf m) (hp : PowT m) (hP : PS m a n l) (hP1 : PS m a1 n1 k) : F4 a n c a1 n1 c1 m fun r _ => r = .bool true := by
  unfold F4
  refine awake_ok ⟨true, rfl, split_nb (fun h => by cases h) (fun _ => ?_)⟩
  have hl := hP.1
  have hl1 := hP1.1
  refine joinK_of' (fun J => goodP l = true → goodP k = true → ∀ m', Keep m m' → J m') (fun h1 h2 m2 k2 => ?_) (fun J hJ => ?_)
  · obtain ⟨g1, g2, g3⟩ := goodP_len h1
    obtain ⟨q1, q2, q3⟩ := goodP_len h2
    refine text_ok k2.wf (hp.keep hw k2) (hP.keep hw k2) fun m3 k3 => ⟨_, rfl, ?_⟩
    have kk3 := k2.trans k3
    refine text_ok kk3.wf (hp.keep hw kk3) (hP1.keep hw kk3) fun m4 k4 => ⟨_, rfl, ?_⟩
    have kk4 := kk3.trans k4
    refine own_ok kk4.wf (hP1.keep hw kk4) (by omega) fun a' n' c' m5 k5 _ hO => ⟨_, _, _, rfl, ?_⟩
    have kk5 := kk4.trans k5
    refine same_ok kk5.wf (hP.keep hw kk5) hO (by omega) fun m6 k6 => ⟨_, rfl, ?_⟩
    have : eqS (bs (txt l)) (bs (txt k)) = decide (l = k) := by
      by_cases e : l = k
      · rw [decide_eq_true e]; exact eqS_bs.2 ((txt_inj h1 h2).2 e)
      · rw [decide_eq_false e, ← Bool.not_eq_true, eqS_bs, txt_inj h1 h2]; exact e
    show Value.bool (eqS (bs (txt l)) (bs (txt k)) == decide (l = k)) = _
    rw [this]
    cases decide (l = k) <;> rfl
  · refine split_ltI (fun _ => rfl) (fun _ => split_ltI (fun _ => rfl) (fun _ => ?_))
    refine good_ok hw hP fun m1 k1 => ⟨_, rfl, split_nb (fun _ => rfl) (fun h1 => ?_)⟩
    refine good_ok k1.wf (hP1.keep hw k1) fun m2 k2 => ⟨_, rfl, split_nb (fun _ => rfl) (fun h2 => ?_)⟩
    exact hJ h1 h2 _ (k1.trans k2)

end Go.Proofs.YtnhpljcjdfffkaaDoor.vc

namespace Go.Proofs.YtnhpljcjdfffkaaDoor.progTexts
open Go Go.ChangeShapes Go.WideShapes Go.ChangeAt Go.RowKit Go.AX
set_option linter.unusedVariables false

set_option maxRecDepth 100000 in
theorem walk {H : Type} {enc : TypeId × Value → H} (W : World) (args : Array Value) (ds : List (DataW H)) (p : List MemPlace) (hL : laidMetH Tryd.prog Rows.progTextsRow.laid W) (hA : DataW.TrodAll enc Tryd.prog W 0 (fun _ => true) true [22, 22] args.toList ds p)
    (hval : ∀ (j : Nat) t v, ([22, 22] : List TypeId)[j]? = some t → args.toList[j]? = some v → Value.okWide Tryd.prog W .any 0 t v) :
    Calls Tryd.prog 4 args W (fun e w' => e = .returned (.bool true) ∧ Below W.heap.size W w') ∧ ∃ d1 d2, ds = [d1, d2] := by
  obtain ⟨l⟩ := args
  simp only at hA hval
  obtain ⟨v1, vs1, d1, ds1, p1, q1, rfl, rfl, rfl, h1, hA⟩ := trodAll_cons hA
  obtain ⟨v2, vs2, d2, ds2, p2, q2, rfl, rfl, rfl, h2, hA⟩ := trodAll_cons hA
  obtain ⟨rfl, rfl, rfl⟩ := trodAll_nil hA
  refine ⟨?_, d1, d2, rfl⟩
  have htab := vc.powT_at rfl hL
  obtain ⟨a, n, c, l, rfl, hn, hg, hP, _⟩ := vc.steps_arg (hval 0 _ _ rfl rfl) h1
  obtain ⟨a', n', c', l', rfl, hn', hg', hP', _⟩ := vc.steps_arg (hval 1 _ _ rfl rfl) h2
  refine open_true (ann := vc.A4) vc.cxOk vc.ovOk vc.hmix W _ (by kernel_rfl : vc.cx.fn.get 4 = some Tryd.f4) ?_ ?_
  · simp only [List.all_cons, hg, hg']; rfl
  · exact Eq.mp (vc.F4_eq a n c a' n' c' _ _) (vc.texts_law (mW_wf _ _) htab hP hP')

set_option maxRecDepth 100000 in
theorem lifted (os : Os) (started : os.Started) (H : Type) (enc : TypeId × Value → H) :
    ReturnsInHanded {} Tryd.checked os 4 .any (fun w args => (Rows.progTextsSpec.pre enc Tryd.prog Tryd.f4 [] false w args ∧ laidMetH Tryd.prog Rows.progTextsRow.laid w) ∧ sizedMet enc Tryd.prog Tryd.f4 (OpenSpec.ofChange Rows.progTextsSpec) false w args)
      (Rows.progTextsSpec.post enc Tryd.prog Tryd.f4 false true false false) := by
  refine returnsInHanded_of_change_and (C := Tryd.checked) (X := fun w _ => laidMetH Tryd.prog Rows.progTextsRow.laid w) (fun _ _ _ hh h => h.of_heap hh) vc.own started (by kernel_rfl) Tryd.func4
    (ChangeSpec.witness_shaped (enc := enc) (C := Tryd.checked) (os := os) (X := fun w _ => laidMetH Tryd.prog Rows.progTextsRow.laid w) false (World.laidAll Tryd.prog os Rows.progTextsRow.laid) #[.slice none 0 0, .slice none 0 0] 8 (World.laidAll_os _ _ _)
      (World.shaped_of_ZipB (by kernel_rfl) (by kernel_rfl)) (by kernel_rfl) (by kernel_rfl) (by kernel_rfl)
      (by rw [MakeChecks.laidMetH_plain _ _ _ (by kernel_rfl)]; exact laidMet_laidAll _ (by kernel_rfl) (by kernel_rfl))) ?_
  intro W base args ds gs before hval0 hW hcnd _ hL _
  have hval : ∀ (j : Nat) t v, Tryd.f4.params[j]? = some t → args[j]? = some v → Value.okWide Tryd.prog W .any base t v := hval0
  have hW' := hW
  obtain ⟨p, q, hA0, hV, rfl, hfz, hnd⟩ := hW
  have hA : DataW.TrodAll enc Tryd.prog W 0 (fun _ => true) true Tryd.f4.params.toList args.toList ds p := hA0
  rw [Tryd.params4] at hA hval
  obtain ⟨rfl, rfl⟩ := trodVars_none hV
  clear hA0 hval0
  simp only [List.append_nil] at hW'
  have hval' : ∀ (j : Nat) t v, ([22, 22] : List TypeId)[j]? = some t → args.toList[j]? = some v → Value.okWide Tryd.prog W .any base t v := fun j t v h1 h2 => hval j t v (by simpa using h1) (by simpa using h2)
  obtain ⟨hc, d1, d2, rfl⟩ := walk (enc := enc) W args ds p hL hA hval'
  refine hc.mono fun e W' ⟨he, hg⟩ => ?_
  subst he
  exact ⟨_, rfl, post_law Tryd.underlying4 (by kernel_rfl) rfl rfl (by kernel_rfl) (by rw [Tryd.params4]; exact hW') (by rw [Tryd.params4]; exact hA) hg⟩

theorem over : Rows.ProgTextsSaid :=
  OpenClaim.holds_of_wide 4 Tryd.f4 rfl rfl rfl rfl rfl rfl rfl ⟨rfl, rfl, rfl, rfl, rfl⟩ rfl rfl rfl rfl rfl (by kernel_rfl) Tryd.func4 (by kernel_rfl)
    (of_decide_eq_true (by kernel_rfl)) (by unfold Func.isWrapper; first | (rw [if_pos (by decide +kernel)]; kernel_rfl) | (rw [if_neg (by decide +kernel)]; exact ⟨rfl, rfl⟩))
    (fun os started H enc _ => lifted os started H enc)

theorem plain : (Tryd.f4.params.toList.all fun t => !Tryd.prog.wantsStandIn t) = true := by kernel_rfl

theorem proved : Rows.ProgTextsCardSaid :=
  Claim7.holds_tied_plain_at .later [] [.data, .data, .data, .data, .sentinel, .sentinel, .pinned] true (true, "8248196fa21c704be0958aeea8beb9695ba8342e99601f03b44f02d8f6aae9e5") true
    over (fun _ h => by cases h) (by kernel_rfl) (fun _ h => by cases h) progTexts_row_tie rfl ⟨rfl, rfl⟩ (by kernel_rfl) rfl
    (fun f fn hf hfn => by
      obtain rfl : f = 4 := Option.some.inj ((show Tryd.prog.funcNamed "beadle/beadlelaw10.ProgTexts" = some 4 by kernel_rfl).symm.trans hf) |>.symm
      obtain rfl : fn = Tryd.f4 := (Option.some.inj (Tryd.func4.symm.trans hfn)).symm
      exact ⟨by kernel_rfl, fun j t ht => by
        have := List.all_eq_true.1 plain t (List.mem_of_getElem? (by simpa using ht))
        exact (show Tryd.prog.wantsStandIn t = false by simpa using this)⟩)
    (by kernel_rfl)
#print axioms proved
end Go.Proofs.YtnhpljcjdfffkaaDoor.progTexts
