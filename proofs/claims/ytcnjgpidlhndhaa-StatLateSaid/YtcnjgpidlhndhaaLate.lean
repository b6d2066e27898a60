/-
  'Rows.StatLateSaid': the law StatLate, called with whatever Events and numbers, returns true and leaves its arguments. No condition narrows it.
-/
import Derived.Test.YtcnjgpidlhndhaaStat
import Derived.WalkKit
import Derived.ProofKit
import Derived.OpenShut
import Derived.KernelRfl
namespace Go.Proofs.Ytcnjgpidlhndhaa.vc
open Go Go.AX
set_option linter.unusedVariables false
set_option linter.unusedSimpArgs false

theorem Small.nil : Small (fun _ => none) 0 := (fun _ _ e => nomatch e)
theorem GoodS.nil : GoodS (fun _ => none) 0 := (fun _ _ e => nomatch e)

theorem lateN_mono (l : List Int) {a b : Int} (h : a ≤ b) : lateN l b ≤ lateN l a := by
  induction l with
  | nil => exact Int.le_refl _
  | cons x l ih =>
    unfold lateN at ih ⊢
    simp only [List.filter_cons]
    by_cases h1 : b < x
    · have h2 : a < x := by omega
      simp [h1, h2]; omega
    · by_cases h2 : a < x
      · simp [h1, h2]; omega
      · simp [h1, h2]; omega

theorem lateN_top (l : List Int) {p : Int} (h : ∀ t ∈ l, t ≤ p) : lateN l p = 0 := by
  unfold lateN
  have : l.filter (fun t => decide (p < t)) = [] := by
    rw [List.filter_eq_nil_iff]
    intro t ht
    have := h t ht
    simp; omega
  rw [this]; rfl

theorem late_law {m : Mem} (hw : Wf m) {a : Option Addr} {n c : Nat} {es : List Ev} (he : EvS m a n es) (hok : ∀ e ∈ es, EvOk e) (hb : ∀ b o, a = some ⟨b, o, none⟩ → n ≠ 0 → b < m.nx) (who p1 p2 : Int) :
    F5 a n c who p1 p2 m fun r _ => r = .bool true := by
  unfold F5
  refine awake_ok ⟨true, rfl, ?_⟩
  rw [show (!true) = false from rfl, splitB_false]
  simp only [joinK]
  rw [splitB_iff]
  refine ⟨fun _ => trivial, fun h200 => ?_⟩
  rw [ltI_false] at h200
  have hn : n ≤ 150 := by simp [lenI] at h200; omega
  rw [splitB_iff]
  refine ⟨fun _ => trivial, fun hp1 => ?_⟩
  rw [splitB_iff]
  refine ⟨fun _ => trivial, fun hp2 => ?_⟩
  rw [ltI_false] at hp1 hp2
  refine new_ok (lab := fun _ => (0, 0, 0)) (q := 1) hw ?_
  intro m3 bs rs lab3 hS3 st3 g3
  refine ⟨_, rfl, ?_⟩
  have hlen := he.1
  refine putAll_ok st3.wf hS3 (he.keep (fun b o e h0 => g3 b (hb b o e h0))) (fun b o e h0 => ⟨Nat.lt_of_lt_of_le (hb b o e h0) st3.nx, ?_⟩) Small.nil (by omega) ?_
  · rw [st3.labs b (hb b o e h0)]; simp
  intro m4 lab4 hS4 st4
  refine ⟨rfl, ?_⟩
  have hgood : GoodS (es.foldl putM fun _ => none) n := by
    have := GoodS.nil.fold (l := es) (by omega) hok
    rwa [Nat.zero_add, hlen] at this
  have hsmall : Small (es.foldl putM fun _ => none) 1000000 := by
    have := Small.nil.fold (l := es)
    exact this.mono (by omega)
  generalize es.foldl putM (fun _ => none) = σ at hS4 hgood hsmall
  refine of_ok st4.wf hS4 ?_
  intro m5 hw5 nx5 fl5 g5
  refine ⟨_, _, _, _, _, _, _, _, _, _, _, _, _, rfl, ?_⟩
  rw [mBind_iff]
  refine ⟨Row.newO.okW (by simpa using hw5.1) (by simp), ?_⟩
  rw [mBind_iff]
  generalize hX : (σ who).getD Own.zero = X
  generalize hm7 : AX.wr (AX.newO m5 _) m5.nx 0 _ = m7
  have hR7 : Row m7 m5.nx (over _ 0 _) 27 false := hm7 ▸ Row.newO.wr (o := 0) (by simp)
  have hw7 : Wf m7 := hm7 ▸ hw5.newO.wr
  have g7 : ∀ b, b < m4.nx → m7.hp.get b = m4.hp.get b := fun b hb' => by rw [← hm7, wr_get (by omega), newO_get, if_neg (by omega), g5 b hb']
  have fl7 : m7.fl = m4.fl := by rw [← hm7]; simp [fl5]
  have hS7 : StatsAt m7 lab4 1 bs rs σ := hS4.keep st4.wf fl7 (fun b hb' _ => g7 b hb') (fun _ _ => rfl)
  rw [splitB_iff]
  refine ⟨fun hs => ?_, fun hs => ?_⟩
  · have hnone : σ who = none := by
      cases h : σ who with
      | none => rfl
      | some Y => rw [h] at hs; cases hs
    refine late_ok hS7 hsmall rfl ⟨_, rfl, ?_⟩
    rw [splitB_iff]
    refine ⟨fun _ => ?_, fun hz => ?_⟩
    · iterate 12 refine ⟨_, hR7.rd.trans rfl, ?_⟩
      refine ⟨true, ?_, rfl⟩
      rw [eq27]
      refine eqInts_same _ ?_
      rw [hnone] at hX
      rw [← hX]
      intro x hx
      simp [Own.zero] at hx
      rw [hx]
    · rw [eqI_false, hnone] at hz
      exact (hz rfl).elim
  · obtain ⟨Y, hY⟩ : ∃ Y, σ who = some Y := by
      cases h : σ who with
      | none => rw [h] at hs; cases hs
      | some Y => exact ⟨Y, rfl⟩
    have hXY : X = Y := by rw [← hX, hY]; rfl
    have hG := hgood who Y hY
    rw [mBind_iff]
    have hS9 : StatsAt (AX.bump m7 39) lab4 1 bs rs σ := hS7.keep hw7 rfl (fun _ _ _ => rfl) (fun _ _ => rfl)
    refine late_ok hS9 hsmall rfl ⟨_, rfl, ?_⟩
    refine late_ok hS9 hsmall rfl ⟨_, rfl, ?_⟩
    rw [hX, hXY]
    rw [splitB_iff]
    refine ⟨fun _ => ?_, fun h => ?_⟩
    · refine ⟨X.wor, hR7.rd.trans rfl, ?_⟩
      refine late_ok hS9 hsmall rfl ⟨_, rfl, ?_⟩
      rw [hX, hXY]
      rw [splitB_iff]
      refine ⟨fun _ => ?_, fun h => ?_⟩
      · refine late_ok hS9 hsmall rfl ⟨_, rfl, X.don, hR7.rd.trans rfl, ?_⟩
        rw [hX, hXY]
        rw [splitB_iff]
        refine ⟨fun _ => ?_, fun h => ?_⟩
        · refine ⟨X.sum, hR7.rd.trans rfl, X.wor, hR7.rd.trans rfl, ?_⟩
          rw [splitB_iff]
          refine ⟨fun _ => trivial, fun h => ⟨X.sum, hR7.rd.trans rfl, ?_⟩⟩
          rw [leI_false] at h
          have := hG.big
          rw [← hXY] at this
          rw [(eqI_true (x := X.sum)).2 (by omega)]
        · rw [leI_false] at h
          have h1 := lateN_le Y.times p1
          have h2 := hG.don
          omega
      · rw [eqI_false] at h
        exact (h (lateN_top _ hG.tim)).elim
    · rw [leI_false] at h
      have := lateN_mono Y.times hp2
      omega

end Go.Proofs.Ytcnjgpidlhndhaa.vc

namespace Go.Proofs.Ytcnjgpidlhndhaa.statLate
open Go Go.ChangeShapes Go.WideShapes Go.ChangeAt Go.RowKit Go.AX
set_option linter.unusedVariables false

theorem own : ownKnob Try.prog.godebug = none := by kernel_rfl

theorem walk {H : Type} {enc : TypeId × Value → H} (W : World) (args : Array Value) (ds : List (DataW H)) (p : List MemPlace) (hA : DataW.TrodAll enc Try.prog W 0 (fun _ => true) true [22, 3, 2, 2] args.toList ds p)
    (hval : ∀ (j : Nat) t v, ([22, 3, 2, 2] : List TypeId)[j]? = some t → args.toList[j]? = some v → Value.okWide Try.prog W .any 0 t v) :
    Calls Try.prog 5 args W (fun e w' => e = .returned (.bool true) ∧ Below W.heap.size W w') ∧ ∃ d1 d2 d3 d4, ds = [d1, d2, d3, d4] := by
  obtain ⟨l⟩ := args
  simp only at hA hval
  obtain ⟨v1, vs1, d1, ds1, p1, q1, rfl, rfl, rfl, h1, hA⟩ := trodAll_cons hA
  obtain ⟨v2, vs2, d2, ds2, p2, q2, rfl, rfl, rfl, h2, hA⟩ := trodAll_cons hA
  obtain ⟨v3, vs3, d3, ds3, p3, q3, rfl, rfl, rfl, h3, hA⟩ := trodAll_cons hA
  obtain ⟨v4, vs4, d4, ds4, p4, q4, rfl, rfl, rfl, h4, hA⟩ := trodAll_cons hA
  obtain ⟨rfl, rfl, rfl⟩ := trodAll_nil hA
  refine ⟨?_, d1, d2, d3, d4, rfl⟩
  obtain ⟨a, n, c, es, rfl, hg, he, hok, hb⟩ := vc.ev_arg (hval 0 _ _ rfl rfl) h1
  obtain ⟨n2, rfl, _⟩ := open_int Try.underlying3 (hval 1 _ _ rfl rfl) h2
  obtain ⟨n3, rfl, _⟩ := open_int Try.underlying2 (hval 2 _ _ rfl rfl) h3
  obtain ⟨n4, rfl, _⟩ := open_int Try.underlying2 (hval 3 _ _ rfl rfl) h4
  refine open_true (ann := vc.A5) vc.cxOk vc.ovOk vc.hmix W _ (by kernel_rfl : vc.cx.fn.get 5 = some Try.f5) (by simp only [List.all_cons, hg]; rfl) ?_
  exact Eq.mp (vc.F5_eq a n c n2 n3 n4 _ _) (vc.late_law (mW_wf _ _) he hok hb n2 n3 n4)

set_option maxRecDepth 100000 in
theorem lifted (os : Os) (started : os.Started) (H : Type) (enc : TypeId × Value → H) :
    ReturnsInHanded {} Try.checked os 5 .any (Rows.statLateSpec.pre6 enc Try.prog Try.f5 Rows.statLateRow.domain false) (Rows.statLateSpec.post enc Try.prog Try.f5 false true false false) := by
  refine returnsInHanded_of_change (C := Try.checked) own started (by kernel_rfl) Try.func5
    (ChangeSpec.witness6 (enc := enc) (C := Try.checked) false ⟨#[], #[.slice none 0 0, .int .i64 0, .int .i64 0, .int .i64 0], []⟩ 8 (by kernel_rfl) (by kernel_rfl) (by kernel_rfl) (by kernel_rfl)) ?_
  intro W base args ds gs before hval0 hW hcnd _
  have hval : ∀ (j : Nat) t v, Try.f5.params[j]? = some t → args[j]? = some v → Value.okWide Try.prog W .any base t v := hval0
  have hW' := hW
  obtain ⟨p, q, hA0, hV, rfl, hfz, hnd⟩ := hW
  have hA : DataW.TrodAll enc Try.prog W 0 (fun _ => true) true Try.f5.params.toList args.toList ds p := hA0
  rw [Try.params5] at hA hval
  obtain ⟨rfl, rfl⟩ := trodVars_none hV
  clear hA0 hval0
  simp only [List.append_nil] at hW'
  have hval' : ∀ (j : Nat) t v, ([22, 3, 2, 2] : List TypeId)[j]? = some t → args.toList[j]? = some v → Value.okWide Try.prog W .any base t v := fun j t v h1 h2 => hval j t v (by simpa using h1) (by simpa using h2)
  obtain ⟨hc, d1, d2, d3, d4, rfl⟩ := walk (enc := enc) W args ds p hA hval'
  refine hc.mono fun e W' ⟨he, hg⟩ => ?_
  subst he
  exact ⟨_, rfl, post_law Try.underlying4 (by kernel_rfl) rfl rfl (by kernel_rfl) (by rw [Try.params5]; exact hW') (by rw [Try.params5]; exact hA) hg⟩

theorem over : Rows.statLateRow.holds Try.pinned (OpenSpec.ofChange Rows.statLateSpec) :=
  OpenClaim.holds_of_wide 5 Try.f5 rfl rfl rfl rfl rfl rfl rfl ⟨rfl, rfl, rfl, rfl, rfl⟩ rfl rfl rfl rfl rfl (by kernel_rfl) Try.func5 (by kernel_rfl)
    (of_decide_eq_true (by kernel_rfl)) (by unfold Func.isWrapper; first | (rw [if_pos (by decide +kernel)]; kernel_rfl) | (rw [if_neg (by decide +kernel)]; exact ⟨rfl, rfl⟩))
    (fun os started H enc _ => lifted os started H enc)

theorem proved : Rows.StatLateSaid :=
  over
#print axioms proved
end Go.Proofs.Ytcnjgpidlhndhaa.statLate
