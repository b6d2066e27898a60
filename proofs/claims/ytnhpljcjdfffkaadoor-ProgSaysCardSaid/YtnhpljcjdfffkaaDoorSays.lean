/-
  ProgSays: any steps, any text: as the document says.
-/
import Derived.Test.YtnhpljcjdfffkaaDoorRead
namespace Go.Proofs.YtnhpljcjdfffkaaDoor.vc
open Go Go.AX
set_option linter.unusedVariables false
set_option linter.unusedSimpArgs false
set_option maxRecDepth 100000

theorem beq_self_b (b : Bool) : (b == b) = true := by cases b <;> rfl

theorem says_law {m : Mem} {a a2 : Option Addr} {n c n2 c2 : Nat} {l : List Stp2} {s : List UInt8} (hw : Wf m) (hp : PowT m) (he : ErrsT m) (hP : PS m a n l) : F7 a n c (bs s) a2 n2 c2 m fun r _ => r = .bool true := by
  unfold F7
  refine awake_ok ⟨true, rfl, split_nb (fun h => by cases h) (fun _ => ?_)⟩
  have hl := hP.1
  refine joinK_of' (fun J => n ≤ 20 → s.length ≤ 200 → J m) (fun hn hs => ?_) (fun J hJ => ?_)
  · refine own_ok hw hP (by omega) fun ao no co m3 k3 _ hO => ⟨_, _, _, rfl, ?_⟩
    have hno : no ≤ 1000 := by have := hO.1; omega
    refine parse_ok k3.wf (hp.keep hw k3) (he.keep hw k3) (by omega) fun r m4 k4 hR => ?_
    have kk4 := k3.trans k4
    have hO4 := hO.keep k3.wf k4
    -- what comes behind the two readings
    have main : ∀ (aa : Option Addr) (na ca : Nat) (ab : Option Addr) (nb cb : Nat) (ok : Bool) (p : List Stp2) m5, Keep m4 m5 → PS m5 aa na p → PS m5 ab nb p → na ≤ 1000 →
        (CallW cx 9 [.slice a (n) (c)] m5 fun r42 m6 => (∃ (b42 : Bool), r42 = (.bool (b42)) ∧ (CallW cx 18 [.slice ao (no) (co)] m6 fun r44 m7 => (∃ (b44 : Bool), r44 = (.bool (b44)) ∧ (splitB ((b42) == (b44)) (CallW cx 14 [.slice a (n) (c)] m7 fun r48 m8 => (∃ (x48 : Int), r48 = (.int .i64 (x48)) ∧ (CallW cx 19 [.slice ao (no) (co)] m8 fun r50 m9 => (∃ (x50 : Int), r50 = (.int .i64 (x50)) ∧ (splitB (eqI (x48) (x50)) (CallW cx 15 [.slice a (n) (c)] m9 fun r55 m10 => (∃ (x55 : Int), r55 = (.int .i64 (x55)) ∧ (CallW cx 20 [.slice ao (no) (co)] m10 fun r57 m11 => (∃ (x57 : Int), r57 = (.int .i64 (x57)) ∧ (splitB (eqI (x55) (x57)) (CallW cx 11 [.slice a (n) (c)] m11 fun r62 m12 => (∃ (s62 : ByteArray), r62 = (.string (s62)) ∧ (CallW cx 21 [.slice ao (no) (co)] m12 fun r64 m13 => (∃ (s64 : ByteArray), r64 = (.string (s64)) ∧ (splitB (eqS (s62) (s64)) (splitB ((ok) == (ok)) (CallW cx 12 [.slice aa (na) (ca), .slice ab (nb) (cb)] m13 fun r72 m14 => (∃ (b72 : Bool), r72 = (.bool (b72)) ∧ (splitB (b72) (CallW cx 16 [.slice a (n) (c), .slice a2 (n2) (c2)] m14 fun r77 m15 => (∃ (b77 : Bool), r77 = (.bool (b77)) ∧ (CallW cx 22 [.slice ao (no) (co), .int .i64 (lenI (n2))] m15 fun r80 m16 => (∃ (b80 : Bool), r80 = (.bool (b80)) ∧ ((fun (r : Value) (_ : Mem) => r = .bool true) (.bool ((b77) == (b80))) m16))))) ((fun (r : Value) (_ : Mem) => r = .bool true) (.bool (false)) m14)))) ((fun (r : Value) (_ : Mem) => r = .bool true) (.bool (false)) m13)) ((fun (r : Value) (_ : Mem) => r = .bool true) (.bool (false)) m13)))))) ((fun (r : Value) (_ : Mem) => r = .bool true) (.bool (false)) m11)))))) ((fun (r : Value) (_ : Mem) => r = .bool true) (.bool (false)) m9)))))) ((fun (r : Value) (_ : Mem) => r = .bool true) (.bool (false)) m7)))))) := by
      intro aa na ca ab nb cb ok p m5 k5 hA hB hna
      have kk5 := kk4.trans k5
      have hO5 := hO4.keep kk4.wf k5
      refine good_ok kk5.wf (hP.keep hw kk5) fun m6 k6 => ⟨_, rfl, ?_⟩
      have kk6 := kk5.trans k6
      refine rgood_ok kk6.wf (hO5.keep kk5.wf k6) (by omega) ⟨_, rfl, ?_⟩
      rw [beq_self_b, splitB_true]
      refine total_ok kk6.wf (hP.keep hw kk6) fun m8 k8 => ⟨_, rfl, ?_⟩
      have kk8 := kk6.trans k8
      have j8 := k6.trans k8
      refine rtotal_ok kk8.wf (hO5.keep kk5.wf j8) (by omega) ⟨_, rfl, ?_⟩
      rw [eqI_true.2 rfl, splitB_true]
      refine holds_ok kk8.wf (hP.keep hw kk8) fun m10 k10 => ⟨_, rfl, ?_⟩
      have kk10 := kk8.trans k10
      have j10 := j8.trans k10
      refine rholds_ok kk10.wf (hO5.keep kk5.wf j10) (by omega) ⟨_, rfl, ?_⟩
      rw [eqI_true.2 rfl, splitB_true]
      refine text_ok kk10.wf (hp.keep hw kk10) (hP.keep hw kk10) fun m12 k12 => ⟨_, rfl, ?_⟩
      have kk12 := kk10.trans k12
      have j12 := j10.trans k12
      refine rtext_ok kk12.wf (hO5.keep kk5.wf j12) (by omega) fun m13 k13 => ⟨_, rfl, ?_⟩
      have kk13 := kk12.trans k13
      have j13 := j12.trans k13
      rw [eqS_bs.2 rfl, splitB_true, beq_self_b, splitB_true]
      refine same_ok kk13.wf (hA.keep kk5.wf j13) (hB.keep kk5.wf j13) (by omega) fun m14 k14 => ⟨_, rfl, ?_⟩
      rw [decide_eq_true rfl, splitB_true]
      have kk14 := kk13.trans k14
      have j14 := j13.trans k14
      refine fits_ok kk14.wf (hP.keep hw kk14) fun m15 k15 => ⟨_, rfl, ?_⟩
      have kk15 := kk14.trans k15
      refine rfits_ok (z := lenI n2) kk15.wf (hO5.keep kk5.wf (j14.trans k15)) (by omega) ⟨_, rfl, ?_⟩
      show Value.bool (fits l (n2 : Int) == fits l (lenI n2)) = _
      rw [show (lenI n2) = (n2 : Int) from rfl, beq_self_b]
    have both : ∀ r2 m5, Keep m4 m5 → RParseR m5 s r2 → ∃ (aa : Option Addr) (na ca : Nat) (ok : Bool) (ab : Option Addr) (nb cb : Nat) (p : List Stp2), r = .tuple #[.slice aa na ca, .bool ok] ∧ r2 = .tuple #[.slice ab nb cb, .bool ok] ∧ PS m5 aa na p ∧ PS m5 ab nb p ∧ na ≤ 1000 := by
      intro r2 m5 k5 hR2
      unfold RParseR at hR2
      rw [rparse_eq] at hR2
      unfold ParseR at hR
      cases hps : parseP s with
      | none =>
        rw [hps] at hR hR2
        exact ⟨none, 0, 0, false, none, 0, 0, [], hR, hR2, ArrP.nil, ArrP.nil, by omega⟩
      | some p =>
        rw [hps] at hR hR2
        obtain ⟨a1, n1, c1, rfl, h1⟩ := hR
        obtain ⟨a3, n3, c3, rfl, h3⟩ := hR2
        have hg := (parseP_some.1 hps).1
        obtain ⟨g1, g2, g3⟩ := goodP_len hg
        exact ⟨a1, n1, c1, true, a3, n3, c3, p, rfl, rfl, h1.keep kk4.wf k5, h3, by have := h1.1; omega⟩
    have hr : ∃ (aa : Option Addr) (na ca : Nat) (ok : Bool), r = .tuple #[.slice aa na ca, .bool ok] := by
      unfold ParseR at hR
      cases hps : parseP s with
      | none => rw [hps] at hR; exact ⟨_, _, _, _, hR⟩
      | some p =>
        rw [hps] at hR
        obtain ⟨a1, n1, c1, rfl, h1⟩ := hR
        exact ⟨_, _, _, _, rfl⟩
    obtain ⟨aa, na, ca, ok, rfl⟩ := hr
    refine ⟨aa, na, ca, ok, rfl, rparse_ok kk4.wf (by omega) fun r2 m5 k5 hR2 => ?_⟩
    obtain ⟨aa', na', ca', ok', ab, nb, cb, p, e1, rfl, hA, hB, hna⟩ := both r2 m5 k5 hR2
    cases e1
    exact ⟨ab, nb, cb, ok, rfl, main aa na ca ab nb cb ok p m5 k5 hA hB hna⟩
  · refine split_ltI (fun _ => rfl) (fun h1 => split_ltI (fun _ => rfl) (fun h2 => split_ltI (fun _ => rfl) (fun _ => hJ ?_ ?_)))
    · have h1 : ((n : Nat) : Int) ≤ 20 := h1
      omega
    · have h2 : ((s.length : Nat) : Int) ≤ 200 := h2
      omega

end Go.Proofs.YtnhpljcjdfffkaaDoor.vc

namespace Go.Proofs.YtnhpljcjdfffkaaDoor.progSays
open Go Go.ChangeShapes Go.WideShapes Go.ChangeAt Go.RowKit Go.AX
set_option linter.unusedVariables false

set_option maxRecDepth 100000 in
theorem walk {H : Type} {enc : TypeId × Value → H} (W : World) (args : Array Value) (ds : List (DataW H)) (p : List MemPlace) (hL : laidMetH Tryd.prog Rows.progSaysRow.laid W) (hA : DataW.TrodAll enc Tryd.prog W 0 (fun _ => true) true [22, 9, 42] args.toList ds p)
    (hval : ∀ (j : Nat) t v, ([22, 9, 42] : List TypeId)[j]? = some t → args.toList[j]? = some v → Value.okWide Tryd.prog W .any 0 t v) :
    Calls Tryd.prog 7 args W (fun e w' => e = .returned (.bool true) ∧ Below W.heap.size W w') ∧ ∃ d1 d2 d3, ds = [d1, d2, d3] := by
  obtain ⟨l⟩ := args
  simp only at hA hval
  obtain ⟨v1, vs1, d1, ds1, p1, q1, rfl, rfl, rfl, h1, hA⟩ := trodAll_cons hA
  obtain ⟨v2, vs2, d2, ds2, p2, q2, rfl, rfl, rfl, h2, hA⟩ := trodAll_cons hA
  obtain ⟨v3, vs3, d3, ds3, p3, q3, rfl, rfl, rfl, h3, hA⟩ := trodAll_cons hA
  obtain ⟨rfl, rfl, rfl⟩ := trodAll_nil hA
  refine ⟨?_, d1, d2, d3, rfl⟩
  have htab := vc.powT_at rfl hL
  have herr := vc.errsT_at rfl hL
  obtain ⟨a, n, c, l, rfl, hn, hg, hP, _⟩ := vc.steps_arg (hval 0 _ _ rfl rfl) h1
  obtain ⟨s, rfl, _⟩ := Go.ChangeMaps.open_string Tryd.underlying9 (hval 1 _ _ rfl rfl) h2
  obtain ⟨a', n', c', l', rfl, hn', hg', hI, _⟩ := ints_arg Tryd.underlying42 Tryd.underlying2 (by kernel_rfl) (hval 2 _ _ rfl rfl) h3
  refine open_true (ann := vc.A7) vc.cxOk vc.ovOk vc.hmix W _ (by kernel_rfl : vc.cx.fn.get 7 = some Tryd.f7) ?_ ?_
  · simp only [List.all_cons, hg, hg']; rfl
  · exact Eq.mp (vc.F7_eq a n c s a' n' c' _ _) (by have := vc.says_law (a2 := a') (n2 := n') (c2 := c') (s := s.data.toList) (c := c) (mW_wf _ _) htab herr hP; rwa [bs_data] at this)

set_option maxRecDepth 100000 in
theorem lifted (os : Os) (started : os.Started) (H : Type) (enc : TypeId × Value → H) :
    ReturnsInHanded {} Tryd.checked os 7 .any (fun w args => (Rows.progSaysSpec.pre enc Tryd.prog Tryd.f7 [] false w args ∧ laidMetH Tryd.prog Rows.progSaysRow.laid w) ∧ sizedMet enc Tryd.prog Tryd.f7 (OpenSpec.ofChange Rows.progSaysSpec) false w args)
      (Rows.progSaysSpec.post enc Tryd.prog Tryd.f7 false true false false) := by
  refine returnsInHanded_of_change_and (C := Tryd.checked) (X := fun w _ => laidMetH Tryd.prog Rows.progSaysRow.laid w) (fun _ _ _ hh h => h.of_heap hh) vc.own started (by kernel_rfl) Tryd.func7
    (ChangeSpec.witness_shaped (enc := enc) (C := Tryd.checked) (os := os) (X := fun w _ => laidMetH Tryd.prog Rows.progSaysRow.laid w) false (World.laidAll Tryd.prog os Rows.progSaysRow.laid) #[.slice none 0 0, .string ⟨#[]⟩, .slice none 0 0] 8 (World.laidAll_os _ _ _)
      (World.shaped_of_ZipB (by kernel_rfl) (by kernel_rfl)) (by kernel_rfl) (by kernel_rfl) (by kernel_rfl)
      (by rw [MakeChecks.laidMetH_plain _ _ _ (by kernel_rfl)]; exact laidMet_laidAll _ (by kernel_rfl) (by kernel_rfl))) ?_
  intro W base args ds gs before hval0 hW hcnd _ hL _
  have hval : ∀ (j : Nat) t v, Tryd.f7.params[j]? = some t → args[j]? = some v → Value.okWide Tryd.prog W .any base t v := hval0
  have hW' := hW
  obtain ⟨p, q, hA0, hV, rfl, hfz, hnd⟩ := hW
  have hA : DataW.TrodAll enc Tryd.prog W 0 (fun _ => true) true Tryd.f7.params.toList args.toList ds p := hA0
  rw [Tryd.params7] at hA hval
  obtain ⟨rfl, rfl⟩ := trodVars_none hV
  clear hA0 hval0
  simp only [List.append_nil] at hW'
  have hval' : ∀ (j : Nat) t v, ([22, 9, 42] : List TypeId)[j]? = some t → args.toList[j]? = some v → Value.okWide Tryd.prog W .any base t v := fun j t v h1 h2 => hval j t v (by simpa using h1) (by simpa using h2)
  obtain ⟨hc, d1, d2, d3, rfl⟩ := walk (enc := enc) W args ds p hL hA hval'
  refine hc.mono fun e W' ⟨he, hg⟩ => ?_
  subst he
  exact ⟨_, rfl, post_law Tryd.underlying4 (by kernel_rfl) rfl rfl (by kernel_rfl) (by rw [Tryd.params7]; exact hW') (by rw [Tryd.params7]; exact hA) hg⟩

theorem over : Rows.ProgSaysSaid :=
  OpenClaim.holds_of_wide 7 Tryd.f7 rfl rfl rfl rfl rfl rfl rfl ⟨rfl, rfl, rfl, rfl, rfl⟩ rfl rfl rfl rfl rfl (by kernel_rfl) Tryd.func7 (by kernel_rfl)
    (of_decide_eq_true (by kernel_rfl)) (by unfold Func.isWrapper; first | (rw [if_pos (by decide +kernel)]; kernel_rfl) | (rw [if_neg (by decide +kernel)]; exact ⟨rfl, rfl⟩))
    (fun os started H enc _ => lifted os started H enc)

theorem plain : (Tryd.f7.params.toList.all fun t => !Tryd.prog.wantsStandIn t) = true := by kernel_rfl

theorem proved : Rows.ProgSaysCardSaid :=
  Claim7.holds_tied_plain_at .later [] [.data, .data, .data, .data, .sentinel, .sentinel, .pinned] true (true, "8248196fa21c704be0958aeea8beb9695ba8342e99601f03b44f02d8f6aae9e5") true
    over (fun _ h => by cases h) (by kernel_rfl) (fun _ h => by cases h) progSays_row_tie rfl ⟨rfl, rfl⟩ (by kernel_rfl) rfl
    (fun f fn hf hfn => by
      obtain rfl : f = 7 := Option.some.inj ((show Tryd.prog.funcNamed "beadle/beadlelaw10.ProgSays" = some 7 by kernel_rfl).symm.trans hf) |>.symm
      obtain rfl : fn = Tryd.f7 := (Option.some.inj (Tryd.func7.symm.trans hfn)).symm
      exact ⟨by kernel_rfl, fun j t ht => by
        have := List.all_eq_true.1 plain t (List.mem_of_getElem? (by simpa using ht))
        exact (show Tryd.prog.wantsStandIn t = false by simpa using this)⟩)
    (by kernel_rfl)
#print axioms proved
end Go.Proofs.YtnhpljcjdfffkaaDoor.progSays
