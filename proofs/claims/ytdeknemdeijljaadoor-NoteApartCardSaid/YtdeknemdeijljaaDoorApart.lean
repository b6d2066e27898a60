/-
  The law NoteApart.
-/
import Derived.Test.YtdeknemdeijljaaDoorRead
import Derived.Test.YtdeknemdeijljaaDoorSome
import Derived.Lib.SmallJoins
namespace Go.Proofs.YtdeknemdeijljaaDoor.vc
open Go Go.AX Go.ChangeShapes Go.WideShapes Go.RowKit Go.Deep
set_option linter.unusedVariables false
set_option linter.unusedSimpArgs false
set_option maxRecDepth 100000

section
variable {H : Type} {enc : TypeId × Value → H} {w : World}

theorem event_arg {r : Reach} {b0 : Nat} {v : Value} {d : DataW H} {ps : List MemPlace} (hval : Value.okWide Tryd.prog w r b0 23 v) (hd : DataW.Trod enc Tryd.prog w 0 (fun _ => true) true 23 v d ps) :
    ∃ e : E, v = .agg #[.int .i64 e.1, .int .i64 e.2.1, .int .i64 e.2.2.1, .int .i64 e.2.2.2] ∧ rangeE e := by
  obtain ⟨v0, v1, v2, v3, y0, y1, y2, y3, n, rfl, _, _, h0, h1, h2, h3⟩ := Go.Joins.open_agg4 Tryd.underlying23 (by kernel_rfl) (by kernel_rfl) hval hd
  obtain ⟨n0, e0, _, g0⟩ := DataW.trod_int Tryd.underlying2 h0
  obtain ⟨n1, e1, _, g1⟩ := DataW.trod_int Tryd.underlying3 h1
  obtain ⟨n2, e2, _, g2⟩ := DataW.trod_int Tryd.underlying3 h2
  obtain ⟨n3, e3, _, g3⟩ := DataW.trod_int Tryd.underlying2 h3
  cases e0; cases e1; cases e2; cases e3
  exact ⟨(n0, n1, n2, n3), rfl, (int_range g0).2, (int_range g2).2, (int_range g3).2⟩
end

theorem eqE_raw2 (a b c d a' b' c' d' : Int) (m : Mem) : eqV cx m 40 23 (.agg #[.int .i64 a, .int .i64 b, .int .i64 c, .int .i64 d]) (.agg #[.int .i64 a', .int .i64 b', .int .i64 c', .int .i64 d']) = andO (some (decide (a = a'))) (andO (some (decide (b = b'))) (andO (some (decide (c = c'))) (andO (some (decide (d = d'))) (some true)))) := by
  kernel_rfl

theorem eqE2 (e f : E) (m : Mem) : eqV cx m 40 23 (.agg #[.int .i64 e.1, .int .i64 e.2.1, .int .i64 e.2.2.1, .int .i64 e.2.2.2]) (.agg #[.int .i64 f.1, .int .i64 f.2.1, .int .i64 f.2.2.1, .int .i64 f.2.2.2]) = some (decide (e = f)) := by
  obtain ⟨a, b, c, d⟩ := e
  obtain ⟨a', b', c', d'⟩ := f
  refine (eqE_raw2 ..).trans ?_
  simp only [Prod.mk.injEq]
  by_cases h1 : a = a' <;> by_cases h2 : b = b' <;> by_cases h3 : c = c' <;> by_cases h4 : d = d' <;> simp [andO, h1, h2, h3, h4]

theorem text_nil {e : E} (h : textE e ≠ []) : okE e = true := by
  cases hb : okE e with
  | true => rfl
  | false =>
    exfalso; apply h
    unfold textE
    rw [if_neg (by rw [hb]; decide)]

theorem text_len {e : E} (hr : rangeE e) : (textE e).length ≤ 1000000 := by
  unfold textE
  split
  · rename_i h
    obtain ⟨h1, h2, h3, h4, h5⟩ := okE_iff.1 h
    obtain ⟨q1, q2, q3⟩ := hr
    have hk := (word_len (k := e.2.1.toNat) (by omega)).2
    have i1 := itoa_len h3 q1
    have i2 := itoa_len h4 q2
    have i3 := itoa_len h5 q3
    unfold partsE
    split <;> simp [Lib.join] <;> omega
  · simp

/-- the block of a variable that is told at once -/
theorem var_ok {m : Mem} (hw : Wf m) (e : E) {G : Mem → Prop} (hG : ∀ m', Keep m m' → Row m' m.nx (encV e) 23 false → G m') :
    mBind (newO m (row [.int .i64 0, .int .i64 0, .int .i64 0, .int .i64 0] 23 false)) fun m9 => okW m9 m.nx 0 4 ∧ mBind (AX.wr m9 m.nx 0 [.int .i64 e.1, .int .i64 e.2.1, .int .i64 e.2.2.1, .int .i64 e.2.2.2]) G := by
  rw [mBind_iff]
  have r : Row (newO m (row [.int .i64 0, .int .i64 0, .int .i64 0, .int .i64 0] 23 false)) m.nx [.int .i64 0, .int .i64 0, .int .i64 0, .int .i64 0] 23 false := Row.newO
  refine ⟨r.okW (by have := hw.1; simpa using this) (by simp), ?_⟩
  rw [mBind_iff]
  exact hG _ ((Keep.refl hw).newO.wr (Nat.le_refl _)) (r.wr (o := 0) (vs := encV e) (by simp [encV]))

theorem apart_law {e f : E} {m : Mem} (hw : Wf m) (hp : PowT m) (he : ErrsT m) (hr : rangeE e) (hs : rangeE f) :
    F3 e.1 e.2.1 e.2.2.1 e.2.2.2 f.1 f.2.1 f.2.2.1 f.2.2.2 m (fun r _ => r = .bool true) := by
  unfold F3
  rw [mBind_iff]
  generalize hm1 : newO m _ = m1
  have k1 : Keep m m1 := hm1 ▸ (Keep.refl hw).newO
  have r1 : Row m1 m.nx (encV e) 23 false := by rw [← hm1]; exact Row.newO
  rw [mBind_iff]
  generalize hm2 : newO m1 _ = m2
  have k12 : Keep m1 m2 := hm2 ▸ (Keep.refl k1.wf).newO
  have k2 := k1.trans k12
  have r2 : Row m2 m1.nx (encV f) 23 false := by rw [← hm2]; exact Row.newO
  have r12 := k12.row k1.wf r1
  refine awake_ok ⟨_, rfl, ?_⟩
  rw [show (!true) = false from rfl, splitB_false, mBind_iff]
  have kb : Keep m2 (AX.bump m2 6) := (Keep.refl k2.wf).bump
  have b1 := kb.row k2.wf r12
  have b2 := kb.row k2.wf r2
  refine ⟨_, b1.rd, _, b1.rd, _, b1.rd, _, b1.rd, ?_⟩
  have hp2 := hp.keep hw k2
  refine text_ok (e := e) (Wf.region 6 k2.wf) (fun i hi => hp2 i hi) hr fun m5 k5 => ⟨_, rfl, ?_⟩
  have k25 := Keep.region k2.wf k5
  have k05 := k2.trans k25
  refine ⟨_, b2.rd, _, b2.rd, _, b2.rd, _, b2.rd, ?_⟩
  refine text_ok (e := f) k05.wf (hp.keep hw k05) hs fun m6 k56 => ⟨_, rfl, ?_⟩
  have k06 := k05.trans k56
  have k26 := k25.trans k56
  refine joinK_of' (fun J => textE e ≠ [] → textE f ≠ [] → J m6) (fun h1 h2 => ?_) (fun J hJ => split_eqS (fun _ => rfl) (fun h1 => split_eqS (fun _ => rfl) (fun h2 => hJ (fun e => h1 (by rw [e])) (fun e => h2 (by rw [e])))))
  have o1 := text_nil h1
  have o2 := text_nil h2
  have p1 := parse_text o1 hr
  have p2 := parse_text o2 hs
  refine parse_ok k06.wf (hp.keep hw k06) (he.keep hw k06) (text_len hr) fun m8 k68 => ?_
  rw [p1]
  have k08 := k06.trans k68
  refine ⟨_, _, _, _, _, rfl, ?_⟩
  refine var_ok k08.wf (normE e) fun m10 k810 q1 => ?_
  have k010 := k08.trans k810
  refine parse_ok k010.wf (hp.keep hw k010) (he.keep hw k010) (text_len hs) fun m11 k1011 => ?_
  rw [p2]
  have k011 := k010.trans k1011
  refine ⟨_, _, _, _, _, rfl, ?_⟩
  refine var_ok k011.wf (normE f) fun m13 k1113 q2 => ?_
  rw [splitB_true, splitB_true]
  have q1' := (k1011.trans k1113).row k010.wf q1
  have k613 := ((k68.trans k810).trans k1011).trans k1113
  have k213 := k26.trans k613
  have a1 := k213.row k2.wf r12
  have a2 := k213.row k2.wf r2
  have tt : textE e = textE f ↔ normE e = normE f := by
    constructor
    · intro h
      rw [h, p2] at p1
      exact (Option.some.inj p1).symm
    · intro h
      rw [← text_norm o1, ← text_norm o2, h]
  refine ⟨_, q1'.rd, _, q1'.rd, _, q1'.rd, _, q1'.rd, _, q2.rd, _, q2.rd, _, q2.rd, _, q2.rd, _, eqE2 _ _ _, ?_⟩
  rw [eqS_dec', show (decide (textE e = textE f) == decide (normE e = normE f)) = true by simp [tt], splitB_true]
  refine ⟨_, a1.rd, _, a1.rd, _, a1.rd, _, a1.rd, _, a2.rd, _, a2.rd, _, a2.rd, _, a2.rd, _, eqE2 _ _ _, ?_⟩
  refine split_nb (fun _ => rfl) (fun h => ?_)
  have : e = f := decide_eq_true_iff.1 h
  subst this
  rw [decide_eq_true rfl]

theorem own : ownKnob Tryd.prog.godebug = none := by kernel_rfl

end Go.Proofs.YtdeknemdeijljaaDoor.vc

namespace Go.Proofs.YtdeknemdeijljaaDoor.noteApart
open Go Go.ChangeShapes Go.WideShapes Go.ChangeAt Go.RowKit Go.AX
set_option linter.unusedVariables false

set_option maxRecDepth 100000 in
theorem walk {H : Type} {enc : TypeId × Value → H} (W : World) (args : Array Value) (ds : List (DataW H)) (p : List MemPlace) (hL : laidMetH Tryd.prog Rows.noteApartRow.laid W) (hA : DataW.TrodAll enc Tryd.prog W 0 (fun _ => true) true [23, 23] args.toList ds p)
    (hval : ∀ (j : Nat) t v, ([23, 23] : List TypeId)[j]? = some t → args.toList[j]? = some v → Value.okWide Tryd.prog W .any 0 t v) :
    Calls Tryd.prog 3 args W (fun e w' => e = .returned (.bool true) ∧ Below W.heap.size W w') ∧ ∃ d1 d2, ds = [d1, d2] := by
  obtain ⟨l⟩ := args
  simp only at hA hval
  obtain ⟨v1, vs1, d1, ds1, p1, q1, rfl, rfl, rfl, h1, hA⟩ := trodAll_cons hA
  obtain ⟨v2, vs2, d2, ds2, p2, q2, rfl, rfl, rfl, h2, hA⟩ := trodAll_cons hA
  obtain ⟨rfl, rfl, rfl⟩ := trodAll_nil hA
  refine ⟨?_, d1, d2, rfl⟩
  have htab := vc.powT_at rfl hL
  have herr := vc.errsT_at rfl hL
  obtain ⟨e, rfl, q1⟩ := vc.event_arg (hval 0 _ _ rfl rfl) h1
  obtain ⟨f, rfl, q2⟩ := vc.event_arg (hval 1 _ _ rfl rfl) h2
  refine open_true (ann := vc.A3) vc.cxOk vc.ovOk vc.hmix W _ (by kernel_rfl : vc.cx.fn.get 3 = some Tryd.f3) ?_ ?_
  · rfl
  · exact Eq.mp (vc.F3_eq e.1 e.2.1 e.2.2.1 e.2.2.2 f.1 f.2.1 f.2.2.1 f.2.2.2 _ _) (vc.apart_law (mW_wf _ _) htab herr q1 q2)

set_option maxRecDepth 100000 in
theorem lifted (os : Os) (started : os.Started) (H : Type) (enc : TypeId × Value → H) :
    ReturnsInHanded {} Tryd.checked os 3 .any (fun w args => (Rows.noteApartSpec.pre enc Tryd.prog Tryd.f3 [] false w args ∧ laidMetH Tryd.prog Rows.noteApartRow.laid w) ∧ sizedMet enc Tryd.prog Tryd.f3 (OpenSpec.ofChange Rows.noteApartSpec) false w args)
      (Rows.noteApartSpec.post enc Tryd.prog Tryd.f3 false true false false) := by
  refine returnsInHanded_of_change_and (C := Tryd.checked) (X := fun w _ => laidMetH Tryd.prog Rows.noteApartRow.laid w) (fun _ _ _ hh h => h.of_heap hh) vc.own started (by kernel_rfl) Tryd.func3
    (ChangeSpec.witness_shaped (enc := enc) (C := Tryd.checked) (os := os) (X := fun w _ => laidMetH Tryd.prog Rows.noteApartRow.laid w) false (World.laidAll Tryd.prog os Rows.noteApartRow.laid) #[.agg #[.int .i64 0, .int .i64 0, .int .i64 0, .int .i64 0], .agg #[.int .i64 0, .int .i64 0, .int .i64 0, .int .i64 0]] 8 (World.laidAll_os _ _ _)
      (World.shaped_of_ZipB (by kernel_rfl) (by kernel_rfl)) (by kernel_rfl) (by kernel_rfl) (by kernel_rfl)
      (by rw [MakeChecks.laidMetH_plain _ _ _ (by kernel_rfl)]; exact laidMet_laidAll _ (by kernel_rfl) (by kernel_rfl))) ?_
  intro W base args ds gs before hval0 hW hcnd _ hL _
  have hval : ∀ (j : Nat) t v, Tryd.f3.params[j]? = some t → args[j]? = some v → Value.okWide Tryd.prog W .any base t v := hval0
  have hW' := hW
  obtain ⟨p, q, hA0, hV, rfl, hfz, hnd⟩ := hW
  have hA : DataW.TrodAll enc Tryd.prog W 0 (fun _ => true) true Tryd.f3.params.toList args.toList ds p := hA0
  rw [Tryd.params3] at hA hval
  obtain ⟨rfl, rfl⟩ := trodVars_none hV
  clear hA0 hval0
  simp only [List.append_nil] at hW'
  have hval' : ∀ (j : Nat) t v, ([23, 23] : List TypeId)[j]? = some t → args.toList[j]? = some v → Value.okWide Tryd.prog W .any base t v := fun j t v h1 h2 => hval j t v (by simpa using h1) (by simpa using h2)
  obtain ⟨hc, d1, d2, rfl⟩ := walk (enc := enc) W args ds p hL hA hval'
  refine hc.mono fun e W' ⟨he, hg⟩ => ?_
  subst he
  exact ⟨_, rfl, post_law Tryd.underlying4 (by kernel_rfl) rfl rfl (by kernel_rfl) (by rw [Tryd.params3]; exact hW') (by rw [Tryd.params3]; exact hA) hg⟩

theorem over : Rows.NoteApartSaid :=
  OpenClaim.holds_of_wide 3 Tryd.f3 rfl rfl rfl rfl rfl rfl rfl ⟨rfl, rfl, rfl, rfl, rfl⟩ rfl rfl rfl rfl rfl (by kernel_rfl) Tryd.func3 (by kernel_rfl)
    (of_decide_eq_true (by kernel_rfl)) (by unfold Func.isWrapper; first | (rw [if_pos (by decide +kernel)]; kernel_rfl) | (rw [if_neg (by decide +kernel)]; exact ⟨rfl, rfl⟩))
    (fun os started H enc _ => lifted os started H enc)

theorem plain : (Tryd.f3.params.toList.all fun t => !Tryd.prog.wantsStandIn t) = true := by kernel_rfl

theorem proved : Rows.NoteApartCardSaid :=
  Claim7.holds_tied_plain_at .later [] [.data, .data, .data, .data, .sentinel, .sentinel, .pinned] true (true, "c30ddd46be1fac33a1844d5dc694f1f6238effd4d6a68e7e5fdb6c8e6b4ecc99") true
    over (fun _ h => by cases h) (by kernel_rfl) (fun _ h => by cases h) noteApart_row_tie rfl ⟨rfl, rfl⟩ (by kernel_rfl) rfl
    (fun f fn hf hfn => by
      obtain rfl : f = 3 := Option.some.inj ((show Tryd.prog.funcNamed "beadle/beadlelaw21.NoteApart" = some 3 by kernel_rfl).symm.trans hf) |>.symm
      obtain rfl : fn = Tryd.f3 := (Option.some.inj (Tryd.func3.symm.trans hfn)).symm
      exact ⟨by kernel_rfl, fun j t ht => by
        have := List.all_eq_true.1 plain t (List.mem_of_getElem? (by simpa using ht))
        exact (show Tryd.prog.wantsStandIn t = false by simpa using this)⟩)
    (by kernel_rfl)
#print axioms proved
end Go.Proofs.YtdeknemdeijljaaDoor.noteApart
