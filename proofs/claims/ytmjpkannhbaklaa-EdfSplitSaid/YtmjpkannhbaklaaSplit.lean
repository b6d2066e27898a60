/-
  EdfSplit: at every input the law returns true: who runs and who does not are all, each once, in order; the first of the others is behind the last of those that run and could be stopped.
-/
import Derived.Test.YtmjpkannhbaklaaLaw
namespace Go.Proofs.Ytmjpkannhbaklaa.vc
open Go Go.AX
set_option linter.unusedVariables false

theorem split_law {mm : Int} {m : Mem} {a : Option Addr} {n c : Nat} {l : List pl.E} (hw : Wf m) (hl : EntsIs m a n l) : F5 mm a n c m fun r _ => r = .bool true := by
  unfold F5
  refine awake_ok ⟨true, rfl, ?_⟩
  rw [show (!true) = false from rfl, splitB_false]
  simp only [joinK]
  rw [splitB_iff]
  refine ⟨fun _ => trivial, fun _ => ?_⟩
  refine good_ok hw hl fun m1 k1 => ⟨_, rfl, ?_⟩
  rw [splitB_iff]
  refine ⟨fun _ => trivial, fun e => ?_⟩
  have hg : pl.Good mm l := goodB_iff.1 (by simpa using e)
  clear e
  refine worst_ok k1.wf (hl.keep hw k1) fun m3 k3 => ?_
  have k03 := k1.trans k3
  refine ⟨_, _, _, _, rfl, ?_⟩
  rw [mBind_iff]
  generalize hm4 : newO m3 _ = m4
  have k4 : Keep m3 m4 := hm4 ▸ (Keep.refl k03.wf).newO
  have n4 : m4.nx = m3.nx + 1 := by rw [← hm4]; rfl
  have r4 : Row m4 m3.nx [.int .i64 0, .int .i64 0, .bool false] 29 false := hm4 ▸ Row.newO
  refine ⟨r4.okW (by have := k4.fl; have := k03.wf.1; omega) (by simp), ?_⟩
  rw [mBind_iff]
  generalize hm5 : wr m4 m3.nx 0 _ = m5
  have k5 : Keep m3 m5 := hm5 ▸ k4.wr (Nat.le_refl _)
  have n5 : m5.nx = m3.nx + 1 := by rw [← hm5, ← n4]; simp
  have r5 : Row m5 m3.nx (encE (pl.worst mm l).1) 29 false := by
    have := r4.wr (o := 0) (vs := encE (pl.worst mm l).1) (by simp [encE])
    have e : over [.int .i64 0, .int .i64 0, .bool false] 0 (encE (pl.worst mm l).1) = encE (pl.worst mm l).1 := rfl
    rw [e] at this
    exact hm5 ▸ this
  have k05 := k03.trans k5
  refine first_ok k05.wf (hl.keep hw k05) fun m6 k6 => ?_
  have k06 := k05.trans k6
  refine ⟨_, _, _, _, rfl, ?_⟩
  rw [mBind_iff]
  generalize hm7 : newO m6 _ = m7
  have k7 : Keep m6 m7 := hm7 ▸ (Keep.refl k06.wf).newO
  have n7 : m7.nx = m6.nx + 1 := by rw [← hm7]; rfl
  have r7 : Row m7 m6.nx [.int .i64 0, .int .i64 0, .bool false] 29 false := hm7 ▸ Row.newO
  refine ⟨r7.okW (by have := k7.fl; have := k06.wf.1; omega) (by simp), ?_⟩
  rw [mBind_iff]
  generalize hm8 : wr m7 m6.nx 0 _ = m8
  have k8 : Keep m6 m8 := hm8 ▸ k7.wr (Nat.le_refl _)
  have r8 : Row m8 m6.nx (encE (pl.first mm l).1) 29 false := by
    have := r7.wr (o := 0) (vs := encE (pl.first mm l).1) (by simp [encE])
    have e : over [.int .i64 0, .int .i64 0, .bool false] 0 (encE (pl.first mm l).1) = encE (pl.first mm l).1 := rfl
    rw [e] at this
    exact hm8 ▸ this
  have r58 : Row m8 m3.nx (encE (pl.worst mm l).1) 29 false := k8.row k06.wf (k6.row k05.wf r5)
  have k08 := k06.trans k8
  refine pick_ok k08.wf (hl.keep hw k08) fun m9 a9 n9 c9 k9 hp => ?_
  obtain ⟨hl9, hs9⟩ := sl_small hp
  have r59 : Row m9 m3.nx (encE (pl.worst mm l).1) 29 false := k9.row k08.wf r58
  have r89 : Row m9 m6.nx (encE (pl.first mm l).1) 29 false := k9.row k08.wf r8
  have k09 := k08.trans k9
  refine ⟨_, _, _, rfl, ?_⟩
  refine ⟨fun i m10 w => ∃ k : Nat, 1 ≤ k ∧ i = (k : Int) ∧ w = 64 + 2 - k ∧ k ≤ 65 ∧ Keep m9 m10, ⟨65, 1, Nat.le_refl _, rfl, rfl, by omega, Keep.refl k09.wf⟩, ?_⟩
  rintro i m10 w ⟨k, hk1, rfl, rfl, hk65, k10⟩
  rw [splitB_iff]
  refine ⟨fun e => ?_, fun _ => ?_⟩
  · rw [ltI_true] at e
    have hkn : k < n9 := by unfold lenI at e; omega
    rw [mBind_iff]
    generalize hm11 : bump m10 10 = m11
    have k11 : Keep m9 m11 := hm11 ▸ k10.bump
    have hp11 := SlIs.keep hp k09.wf k11
    obtain ⟨y, hy⟩ : ∃ y, (pl.pick mm l)[k]? = some y := ⟨_, List.getElem?_eq_getElem (by omega)⟩
    obtain ⟨z, hz⟩ : ∃ z, (pl.pick mm l)[k - 1]? = some z := ⟨_, List.getElem?_eq_getElem (by omega)⟩
    obtain ⟨b, o, rfl, h0⟩ := hp11.2 k (.int .i64 y) (by rw [List.getElem?_map, hy]; rfl)
    obtain ⟨b', o', e', h0'⟩ := hp11.2 (k - 1) (.int .i64 z) (by rw [List.getElem?_map, hz]; rfl)
    cases e'
    have es : subI .i64 (k : Int) 1 = ((k - 1 : Nat) : Int) := by rw [subI_64 (by omega) (by omega)]; omega
    refine ⟨⟨by omega, by omega⟩, ?_⟩
    rw [vPtr_some]
    refine ⟨y, by rw [Int.toNat_natCast, Nat.mul_one]; exact h0, ?_⟩
    rw [es]
    refine ⟨⟨by omega, by omega⟩, ?_⟩
    rw [vPtr_some]
    refine ⟨z, by rw [Int.toNat_natCast, Nat.mul_one]; exact h0', ?_⟩
    have hzy : z < y := by
      have hst := pl.pick_strict (m := mm) (l := l)
      rw [List.pairwise_iff_getElem] at hst
      obtain ⟨hy1, hy2⟩ := List.getElem?_eq_some_iff.1 hy
      obtain ⟨hz1, hz2⟩ := List.getElem?_eq_some_iff.1 hz
      have := hst (k - 1) k hz1 hy1 (by omega)
      rw [hz2, hy2] at this
      exact this
    rw [splitB_iff]
    refine ⟨fun e2 => by rw [leI_true] at e2; omega, fun _ => ⟨66 - (k + 1), by omega, k + 1, by omega, inc64 (by omega), rfl, by omega, k11⟩⟩
  · have hf := pl.first_some hg
    have e1 : ltI (lenI n9) (lenI n) = decide ((pl.pick mm l).length < l.length) := by
      rw [Bool.eq_iff_iff, ltI_true, decide_eq_true_iff]
      have := hl.1
      unfold lenI; omega
    rw [e1, ← hf, beq_self_eq_true, splitB_true]
    rw [splitB_iff]
    refine ⟨fun _ => trivial, fun e2 => ?_⟩
    rw [splitB_iff]
    refine ⟨fun _ => trivial, fun e3 => ?_⟩
    have r5x := k10.row k09.wf r59
    have r8x := k10.row k09.wf r89
    refine ⟨(pl.worst mm l).1.1, by rw [r5x.rd]; rfl, (pl.worst mm l).1.2.1, by rw [r5x.rd]; rfl, (pl.worst mm l).1.2.2, by rw [r5x.rd]; rfl, (pl.first mm l).1.1, by rw [r8x.rd]; rfl, (pl.first mm l).1.2.1, by rw [r8x.rd]; rfl, (pl.first mm l).1.2.2, by rw [r8x.rd]; rfl, ?_⟩
    refine less_ok (x := (pl.worst mm l).1) (y := (pl.first mm l).1) (k09.trans k10).wf fun m12 _ => ⟨_, rfl, ?_⟩
    have h1 : pl.worst mm l = ((pl.worst mm l).1, true) := by
      have : (pl.worst mm l).2 = true := by simpa using e2
      rw [← this]
    have h2 : pl.first mm l = ((pl.first mm l).1, true) := by
      have : (pl.first mm l).2 = true := by simpa using e3
      rw [← this]
    rw [pl.split_less hg h1 h2]

end Go.Proofs.Ytmjpkannhbaklaa.vc

namespace Go.Proofs.Ytmjpkannhbaklaa.edfSplit
open Go Go.ChangeShapes Go.WideShapes Go.ChangeAt Go.RowKit Go.AX
set_option linter.unusedVariables false

theorem own : ownKnob Try.prog.godebug = none := by kernel_rfl

theorem walk {H : Type} {enc : TypeId × Value → H} (W : World) (args : Array Value) (ds : List (DataW H)) (p : List MemPlace) (hA : DataW.TrodAll enc Try.prog W 0 (fun _ => true) true [3, 22] args.toList ds p)
    (hval : ∀ (j : Nat) t v, ([3, 22] : List TypeId)[j]? = some t → args.toList[j]? = some v → Value.okWide Try.prog W .any 0 t v) :
    Calls Try.prog 5 args W (fun e w' => e = .returned (.bool true) ∧ Below W.heap.size W w') ∧ ∃ d1 d2, ds = [d1, d2] := by
  obtain ⟨l⟩ := args
  simp only at hA hval
  obtain ⟨v1, vs1, d1, ds1, p1, q1, rfl, rfl, rfl, h1, hA⟩ := trodAll_cons hA
  obtain ⟨v2, vs2, d2, ds2, p2, q2, rfl, rfl, rfl, h2, hA⟩ := trodAll_cons hA
  obtain ⟨rfl, rfl, rfl⟩ := trodAll_nil hA
  refine ⟨?_, d1, d2, rfl⟩
  obtain ⟨mm, rfl, _⟩ := open_int Try.underlying3 (hval 0 _ _ rfl rfl) h1
  obtain ⟨a, n, c, l, rfl, hg, hl, _⟩ := vc.ents_arg (hval 1 _ _ rfl rfl) h2
  refine open_true (ann := vc.A5) vc.cxOk vc.ovOk vc.hmix W _ (by kernel_rfl : vc.cx.fn.get 5 = some Try.f5) ?_ ?_
  · simp only [List.all_cons, hg]; rfl
  · exact Eq.mp (vc.F5_eq mm a n c _ _) (vc.split_law (mW_wf _ _) hl)

set_option maxRecDepth 100000 in
theorem lifted (os : Os) (started : os.Started) (H : Type) (enc : TypeId × Value → H) :
    ReturnsInHanded {} Try.checked os 5 .any (Rows.edfSplitSpec.pre6 enc Try.prog Try.f5 Rows.edfSplitRow.domain false) (Rows.edfSplitSpec.post enc Try.prog Try.f5 false true false false) := by
  refine returnsInHanded_of_change (C := Try.checked) own started (by kernel_rfl) Try.func5
    (ChangeSpec.witness6 (enc := enc) (C := Try.checked) false ⟨#[], #[.int .i64 0, .slice none 0 0], []⟩ 8 (by kernel_rfl) (by kernel_rfl) (by kernel_rfl) (by kernel_rfl)) ?_
  intro W base args ds gs before hval0 hW hcnd _
  have hval : ∀ (j : Nat) t v, Try.f5.params[j]? = some t → args[j]? = some v → Value.okWide Try.prog W .any base t v := hval0
  have hW' := hW
  obtain ⟨p, q, hA0, hV, rfl, hfz, hnd⟩ := hW
  have hA : DataW.TrodAll enc Try.prog W 0 (fun _ => true) true Try.f5.params.toList args.toList ds p := hA0
  rw [Try.params5] at hA hval
  obtain ⟨rfl, rfl⟩ := trodVars_none hV
  clear hA0 hval0
  simp only [List.append_nil] at hW'
  have hval' : ∀ (j : Nat) t v, ([3, 22] : List TypeId)[j]? = some t → args.toList[j]? = some v → Value.okWide Try.prog W .any base t v := fun j t v h1 h2 => hval j t v (by simpa using h1) (by simpa using h2)
  obtain ⟨hc, d1, d2, rfl⟩ := walk (enc := enc) W args ds p hA hval'
  refine hc.mono fun e W' ⟨he, hg⟩ => ?_
  subst he
  exact ⟨_, rfl, post_law Try.underlying4 (by kernel_rfl) rfl rfl (by kernel_rfl) (by rw [Try.params5]; exact hW') (by rw [Try.params5]; exact hA) hg⟩

theorem over : Rows.edfSplitRow.holds Try.pinned (OpenSpec.ofChange Rows.edfSplitSpec) :=
  OpenClaim.holds_of_wide 5 Try.f5 rfl rfl rfl rfl rfl rfl rfl ⟨rfl, rfl, rfl, rfl, rfl⟩ rfl rfl rfl rfl rfl (by kernel_rfl) Try.func5 (by kernel_rfl)
    (of_decide_eq_true (by kernel_rfl)) (by unfold Func.isWrapper; first | (rw [if_pos (by decide +kernel)]; kernel_rfl) | (rw [if_neg (by decide +kernel)]; exact ⟨rfl, rfl⟩))
    (fun os started H enc _ => lifted os started H enc)

theorem proved : Rows.EdfSplitSaid :=
  over
#print axioms proved
end Go.Proofs.Ytmjpkannhbaklaa.edfSplit
