/-
  EdfSays: at every input the law returns true: who runs, who is last, who is first of the others, whom one pushes out, are as the reference says.
-/
import Derived.Test.YtmjpkannhbaklaaRef
namespace Go.Proofs.Ytmjpkannhbaklaa.vc
open Go Go.AX
set_option linter.unusedVariables false

/-- an entry laid anew -/
theorem put3 {m4 : Mem} {e : TypeId} (hw : Wf m4) (x : pl.E) {P : Mem → Prop} (h : ∀ m6, Keep m4 m6 → Row m6 m4.nx (encE x) e false → m4.nx < m6.nx → P m6) :
    mBind (newO m4 (row [.int .i64 0, .int .i64 0, .bool false] e false)) fun m5 => (okW m5 m4.nx 0 3 ∧ mBind (wr m5 m4.nx 0 [.int .i64 x.1, .int .i64 x.2.1, .bool x.2.2]) P) := by
  rw [mBind_iff]
  generalize hm5 : newO m4 _ = m5
  have k5 : Keep m4 m5 := hm5 ▸ (Keep.refl hw).newO
  have n5 : m5.nx = m4.nx + 1 := by rw [← hm5]; rfl
  have r5 : Row m5 m4.nx [.int .i64 0, .int .i64 0, .bool false] e false := hm5 ▸ Row.newO
  refine ⟨r5.okW (by have := k5.fl; have := hw.1; omega) (by simp), ?_⟩
  rw [mBind_iff]
  refine h _ (k5.wr (Nat.le_refl _)) ?_ (by simp; omega)
  exact r5.wr (o := 0) (vs := encE x) (by simp [encE])

theorem rd3 {m : Mem} {b : Nat} {x : pl.E} {e : TypeId} {K : Int → Int → Bool → Prop} (hr : Row m b (encE x) e false) (h : K x.1 x.2.1 x.2.2) :
    ∃ (u : Int), rd m b 0 = some (.int .i64 u) ∧ ∃ (v : Int), rd m b 1 = some (.int .i64 v) ∧ ∃ (w : Bool), rd m b 2 = some (.bool w) ∧ K u v w :=
  ⟨x.1, by rw [hr.rd]; rfl, x.2.1, by rw [hr.rd]; rfl, x.2.2, by rw [hr.rd]; rfl, h⟩

theorem says_law {mm : Int} {m : Mem} {a : Option Addr} {n c : Nat} {l : List pl.E} {x : pl.E} (hw : Wf m) (hl : EntsIs m a n l) : F8 mm a n c x.1 x.2.1 x.2.2 m fun r _ => r = .bool true := by
  have hlen := hl.1
  unfold F8
  rw [mBind_iff]
  generalize hm1 : newO m _ = m1
  have k1 : Keep m m1 := hm1 ▸ (Keep.refl hw).newO
  have n1 : m1.nx = m.nx + 1 := by rw [← hm1]; rfl
  have rx1 : Row m1 m.nx (encE x) 29 false := hm1 ▸ Row.newO
  refine awake_ok ⟨true, rfl, ?_⟩
  rw [show (!true) = false from rfl, splitB_false]
  rw [splitB_iff]
  refine ⟨fun _ => rfl, fun e70 => ?_⟩
  rw [ltI_false] at e70
  have hn70 : n ≤ 70 := by unfold lenI at e70; omega
  clear e70
  refine ents_ok k1.wf (hl.keep hw k1) (by omega) fun m3 aR cR k3 hlR => ⟨_, _, _, rfl, ?_⟩
  have k3m := k1.trans k3
  have rx3 := k3.row k1.wf rx1
  refine worst_ok k3m.wf (hl.keep hw k3m) fun m4 k4 => ⟨_, _, _, _, rfl, ?_⟩
  have k4m := k3m.trans k4
  have rx4 := k4.row k3m.wf rx3
  refine put3 k4m.wf (pl.worst mm l).1 fun m6 k6 rw6 l6 => ?_
  have k6m := k4m.trans k6
  have k36 := k4.trans k6
  have rx6 := k6.row k4m.wf rx4
  refine refWorst_ok k6m.wf (hlR.keep k3m.wf k36) (by omega) fun m7 k7 => ⟨_, _, _, _, rfl, ?_⟩
  have k7m := k6m.trans k7
  have k37 := k36.trans k7
  have rx7 := k7.row k6m.wf rx6
  have rw7 := k7.row k6m.wf rw6
  refine put3 k7m.wf (pl.worst mm l).1 fun m9 k9 rv9 l9 => ?_
  have k9m := k7m.trans k9
  have k39 := k37.trans k9
  have rx9 := k9.row k7m.wf rx7
  have rw9 := k9.row k7m.wf rw7
  refine first_ok k9m.wf (hl.keep hw k9m) fun m10 k10 => ⟨_, _, _, _, rfl, ?_⟩
  have k10m := k9m.trans k10
  have k310 := k39.trans k10
  have rx10 := k10.row k9m.wf rx9
  have rw10 := k10.row k9m.wf rw9
  have rv10 := k10.row k9m.wf rv9
  refine put3 k10m.wf (pl.first mm l).1 fun m12 k12 rf12 l12 => ?_
  have k12m := k10m.trans k12
  have k312 := k310.trans k12
  have rx12 := k12.row k10m.wf rx10
  have rw12 := k12.row k10m.wf rw10
  have rv12 := k12.row k10m.wf rv10
  refine refFirst_ok k12m.wf (hlR.keep k3m.wf k312) (by omega) fun m13 k13 => ⟨_, _, _, _, rfl, ?_⟩
  have k13m := k12m.trans k13
  have k313 := k312.trans k13
  have rx13 := k13.row k12m.wf rx12
  have rw13 := k13.row k12m.wf rw12
  have rv13 := k13.row k12m.wf rv12
  have rf13 := k13.row k12m.wf rf12
  refine put3 k13m.wf (pl.first mm l).1 fun m15 k15 rg15 l15 => ?_
  have k15m := k13m.trans k15
  have k315 := k313.trans k15
  have rx15 := k15.row k13m.wf rx13
  have rw15 := k15.row k13m.wf rw13
  have rv15 := k15.row k13m.wf rv13
  have rf15 := k15.row k13m.wf rf13
  refine ⟨x.1, by rw [rx15.rd]; rfl, x.2.1, by rw [rx15.rd]; rfl, x.2.2, by rw [rx15.rd]; rfl, ?_⟩
  refine beats_ok (x := x) k15m.wf (hl.keep hw k15m) (by omega) fun m16 k16 => ⟨_, _, rfl, ?_⟩
  have k16m := k15m.trans k16
  have rx16 := k16.row k15m.wf rx15
  refine ⟨x.1, by rw [rx16.rd]; rfl, x.2.1, by rw [rx16.rd]; rfl, x.2.2, by rw [rx16.rd]; rfl, ?_⟩
  refine ent_ok (x := x) k16m.wf fun m17 k17 => ⟨_, _, _, rfl, ?_⟩
  have k17m := k16m.trans k17
  have k317 := (k315.trans k16).trans k17
  refine refBeats_ok (x := x) k17m.wf (hlR.keep k3m.wf k317) (by omega) fun m18 k18 => ⟨_, _, rfl, ?_⟩
  have k18m := k17m.trans k18
  have k318 := k317.trans k18
  have k1518 := (k16.trans k17).trans k18
  refine joinK_of (fun J => ∀ m', Keep m18 m' → J m') (fun m19 k19 => ?_) (fun J hJ => ?_)
  · have k19m := k18m.trans k19
    rw [mBind_iff]
    generalize hm20 : bump m19 49 = m20
    have k1920 : Keep m19 m20 := hm20 ▸ (Keep.refl k19m.wf).bump
    have k20m := k19m.trans k1920
    have k320 := (k318.trans k19).trans k1920
    refine good_ok k20m.wf (hl.keep hw k20m) fun m21 k21 => ⟨_, rfl, ?_⟩
    have k21m := k20m.trans k21
    have k321 := k320.trans k21
    refine refGood_ok k21m.wf (hlR.keep k3m.wf k321) (by omega) fun m22 k22 => ⟨_, rfl, ?_⟩
    have k22m := k21m.trans k22
    have k322 := k321.trans k22
    rw [beq_self_eq_true, splitB_true]
    refine pick_ok k22m.wf (hl.keep hw k22m) fun m23 pa na ca k23 hpa => ⟨_, _, _, rfl, ?_⟩
    have k23m := k22m.trans k23
    have k323 := k322.trans k23
    refine refPick_ok k23m.wf (hlR.keep k3m.wf k323) (by omega) fun m24 pb nb cb k24 hpb => ⟨_, _, _, rfl, ?_⟩
    have k24m := k23m.trans k24
    obtain ⟨hla, hsa⟩ := sl_small hpa
    refine ints_ok k24m.wf (SlIs.keep hpa k23m.wf k24) hpb (by omega) fun m25 k25 => ⟨_, rfl, ?_⟩
    have k25m := k24m.trans k25
    rw [decide_eq_true rfl, splitB_true]
    have k1525 : Keep m15 m25 := ((((((k1518.trans k19).trans k1920).trans k21).trans k22).trans k23).trans k24).trans k25
    have rw25 := k1525.row k15m.wf rw15
    have rv25 := k1525.row k15m.wf rv15
    have rf25 := k1525.row k15m.wf rf15
    have rg25 := k1525.row k15m.wf rg15
    refine ⟨(pl.worst mm l).1.1, by rw [rw25.rd]; rfl, (pl.worst mm l).1.2.1, by rw [rw25.rd]; rfl, (pl.worst mm l).1.2.2, by rw [rw25.rd]; rfl, ?_⟩
    refine ent_ok (x := (pl.worst mm l).1) (Wf.setFl k25m.wf (Nat.le_refl _)) fun m26 k26 => ⟨_, _, _, rfl, ?_⟩
    have k26u := Keep.unset k25m.wf k26
    refine ⟨(pl.worst mm l).1.1, by rw [rv25.rd]; rfl, (pl.worst mm l).1.2.1, by rw [rv25.rd]; rfl, (pl.worst mm l).1.2.2, by rw [rv25.rd]; rfl, true, eqE (pl.worst mm l).1 _, ?_⟩
    rw [splitB_true, beq_self_eq_true, splitB_true]
    generalize hM : setFl m26 m25.fl = M at k26u
    have kM := k25m.trans k26u
    have rfM := k26u.row k25m.wf rf25
    have rgM := k26u.row k25m.wf rg25
    refine ⟨(pl.first mm l).1.1, by rw [rfM.rd]; rfl, (pl.first mm l).1.2.1, by rw [rfM.rd]; rfl, (pl.first mm l).1.2.2, by rw [rfM.rd]; rfl, ?_⟩
    refine ent_ok (x := (pl.first mm l).1) (Wf.setFl kM.wf (Nat.le_refl _)) fun m27 k27 => ⟨_, _, _, rfl, ?_⟩
    refine ⟨(pl.first mm l).1.1, by rw [rgM.rd]; rfl, (pl.first mm l).1.2.1, by rw [rgM.rd]; rfl, (pl.first mm l).1.2.2, by rw [rgM.rd]; rfl, true, eqE (pl.first mm l).1 _, ?_⟩
    rw [splitB_true, beq_self_eq_true, splitB_true]
    rw [(eqI_true (x := (pl.beats mm l x).1) (y := (pl.beats mm l x).1)).2 rfl, splitB_true, beq_self_eq_true]
  · rw [mBind_iff]
    generalize hm28 : bump m18 20 = m28
    have k28 : Keep m18 m28 := hm28 ▸ (Keep.refl k18m.wf).bump
    have n28 : m28.nx = m18.nx + 20 := by rw [← hm28]; rfl
    have k28m := k18m.trans k28
    rw [splitB_iff]
    refine ⟨fun e => ?_, fun _ => hJ _ k28⟩
    rw [ltI_true] at e
    have hn2 : 1 < n := by unfold lenI at e; omega
    obtain ⟨y, hy⟩ : ∃ y, l[0]? = some y := ⟨_, List.getElem?_eq_getElem (by omega)⟩
    obtain ⟨z, hz⟩ : ∃ z, l[1]? = some z := ⟨_, List.getElem?_eq_getElem (by omega)⟩
    obtain ⟨b, o, rfl, y0, y1, y2⟩ := (hl.keep hw k28m).2 _ _ hy
    obtain ⟨b', o', e', z0, z1, z2⟩ := (hl.keep hw k28m).2 _ _ hz
    cases e'
    obtain ⟨p, q, rfl, u0, u1, u2⟩ := (hlR.keep k3m.wf (k318.trans k28)).2 _ _ hy
    obtain ⟨p', q', e', v0, v1, v2⟩ := (hlR.keep k3m.wf (k318.trans k28)).2 _ _ hz
    cases e'
    refine ⟨⟨by omega, by omega⟩, ?_⟩
    rw [vPtr_some]
    refine ⟨y.1, y0, y.2.1, y1, y.2.2, y2, ⟨by omega, by omega⟩, ?_⟩
    rw [vPtr_some]
    refine ⟨z.1, z0, z.2.1, z1, z.2.2, z2, ?_⟩
    refine less_ok (x := y) (y := z) (Wf.setFl k28m.wf (by omega)) fun m29 k29 => ⟨_, rfl, ⟨by omega, by omega⟩, ?_⟩
    have k29u := Keep.unset k28m.wf k29
    rw [vPtr_some]
    refine ⟨y.1, u0, y.2.1, u1, y.2.2, u2, ⟨by omega, by omega⟩, ?_⟩
    rw [vPtr_some]
    refine ⟨z.1, v0, z.2.1, v1, z.2.2, v2, ?_⟩
    refine refLess_ok (x := y) (y := z) (k28m.trans k29u).wf fun m30 k30 => ⟨_, rfl, ?_⟩
    rw [beq_self_eq_true, show (!true) = false from rfl, splitB_false]
    exact hJ _ ((k28.trans k29u).trans k30)

end Go.Proofs.Ytmjpkannhbaklaa.vc

namespace Go.Proofs.Ytmjpkannhbaklaa.edfSays
open Go Go.ChangeShapes Go.WideShapes Go.ChangeAt Go.RowKit Go.AX
set_option linter.unusedVariables false

theorem own : ownKnob Try.prog.godebug = none := by kernel_rfl

theorem walk {H : Type} {enc : TypeId × Value → H} (W : World) (args : Array Value) (ds : List (DataW H)) (p : List MemPlace) (hA : DataW.TrodAll enc Try.prog W 0 (fun _ => true) true [3, 22, 29] args.toList ds p)
    (hval : ∀ (j : Nat) t v, ([3, 22, 29] : List TypeId)[j]? = some t → args.toList[j]? = some v → Value.okWide Try.prog W .any 0 t v) :
    Calls Try.prog 8 args W (fun e w' => e = .returned (.bool true) ∧ Below W.heap.size W w') ∧ ∃ d1 d2 d3, ds = [d1, d2, d3] := by
  obtain ⟨l⟩ := args
  simp only at hA hval
  obtain ⟨v1, vs1, d1, ds1, p1, q1, rfl, rfl, rfl, h1, hA⟩ := trodAll_cons hA
  obtain ⟨v2, vs2, d2, ds2, p2, q2, rfl, rfl, rfl, h2, hA⟩ := trodAll_cons hA
  obtain ⟨v3, vs3, d3, ds3, p3, q3, rfl, rfl, rfl, h3, hA⟩ := trodAll_cons hA
  obtain ⟨rfl, rfl, rfl⟩ := trodAll_nil hA
  refine ⟨?_, d1, d2, d3, rfl⟩
  obtain ⟨mm, rfl, _⟩ := open_int Try.underlying3 (hval 0 _ _ rfl rfl) h1
  obtain ⟨a, n, c, l, rfl, hg, hl, _⟩ := vc.ents_arg (hval 1 _ _ rfl rfl) h2
  obtain ⟨x, rfl⟩ := vc.ent_val (hval 2 _ _ rfl rfl) h3
  have hx := vc.ent_good (w := W) x
  refine open_true (ann := vc.A8) vc.cxOk vc.ovOk vc.hmix W _ (by kernel_rfl : vc.cx.fn.get 8 = some Try.f8) ?_ ?_
  · simp only [List.all_cons, hg, hx]; rfl
  · exact Eq.mp (vc.F8_eq mm a n c x.1 x.2.1 x.2.2 _ _) (vc.says_law (mW_wf _ _) hl)

set_option maxRecDepth 100000 in
theorem lifted (os : Os) (started : os.Started) (H : Type) (enc : TypeId × Value → H) :
    ReturnsInHanded {} Try.checked os 8 .any (Rows.edfSaysSpec.pre6 enc Try.prog Try.f8 Rows.edfSaysRow.domain false) (Rows.edfSaysSpec.post enc Try.prog Try.f8 false true false false) := by
  refine returnsInHanded_of_change (C := Try.checked) own started (by kernel_rfl) Try.func8
    (ChangeSpec.witness6 (enc := enc) (C := Try.checked) false ⟨#[], #[.int .i64 0, .slice none 0 0, .agg #[.int .i64 0, .int .i64 0, .bool false]], []⟩ 8 (by kernel_rfl) (by kernel_rfl) (by kernel_rfl) (by kernel_rfl)) ?_
  intro W base args ds gs before hval0 hW hcnd _
  have hval : ∀ (j : Nat) t v, Try.f8.params[j]? = some t → args[j]? = some v → Value.okWide Try.prog W .any base t v := hval0
  have hW' := hW
  obtain ⟨p, q, hA0, hV, rfl, hfz, hnd⟩ := hW
  have hA : DataW.TrodAll enc Try.prog W 0 (fun _ => true) true Try.f8.params.toList args.toList ds p := hA0
  rw [Try.params8] at hA hval
  obtain ⟨rfl, rfl⟩ := trodVars_none hV
  clear hA0 hval0
  simp only [List.append_nil] at hW'
  have hval' : ∀ (j : Nat) t v, ([3, 22, 29] : List TypeId)[j]? = some t → args.toList[j]? = some v → Value.okWide Try.prog W .any base t v := fun j t v h1 h2 => hval j t v (by simpa using h1) (by simpa using h2)
  obtain ⟨hc, d1, d2, d3, rfl⟩ := walk (enc := enc) W args ds p hA hval'
  refine hc.mono fun e W' ⟨he, hg⟩ => ?_
  subst he
  exact ⟨_, rfl, post_law Try.underlying4 (by kernel_rfl) rfl rfl (by kernel_rfl) (by rw [Try.params8]; exact hW') (by rw [Try.params8]; exact hA) hg⟩

theorem over : Rows.edfSaysRow.holds Try.pinned (OpenSpec.ofChange Rows.edfSaysSpec) :=
  OpenClaim.holds_of_wide 8 Try.f8 rfl rfl rfl rfl rfl rfl rfl ⟨rfl, rfl, rfl, rfl, rfl⟩ rfl rfl rfl rfl rfl (by kernel_rfl) Try.func8 (by kernel_rfl)
    (of_decide_eq_true (by kernel_rfl)) (by unfold Func.isWrapper; first | (rw [if_pos (by decide +kernel)]; kernel_rfl) | (rw [if_neg (by decide +kernel)]; exact ⟨rfl, rfl⟩))
    (fun os started H enc _ => lifted os started H enc)

theorem proved : Rows.EdfSaysSaid :=
  over
#print axioms proved
end Go.Proofs.Ytmjpkannhbaklaa.edfSays
