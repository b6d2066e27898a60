/-
  EdfOut: at every input the law returns true: whom a new entry pushes out is the last of those that ran and could be stopped.
-/
import Derived.Test.YtmjpkannhbaklaaLaw
namespace Go.Proofs.Ytmjpkannhbaklaa.vc
open Go Go.AX
set_option linter.unusedVariables false

/-- entries appended to an empty slice of one's own -/
theorem append_cl {m : Mem} {b n c : Nat} {a : Option Addr} {l : List pl.E} {cc : Tr Value} {k : Nat} {e : TypeId} (hw : Wf m) (hb : m.hp.get b = some (.cells cc k e false)) (hl : EntsIs m a n l) (hn : n ≤ 1000000) :
    ∃ a' c' m', appendA cx m [22, 22] [.slice (some ⟨b, 0, none⟩) 0 0, .slice a n c] = some (.slice a' n c', m') ∧ Keep m m' ∧ ((n = 0 ∧ m' = m ∧ a' = some ⟨b, 0, none⟩ ∧ c' = 0) ∨ (0 < n ∧ OwnE m m' a' n c' l)) := by
  by_cases h0 : n = 0
  · subst h0
    refine ⟨_, _, m, ?_, Keep.refl hw, .inl ⟨rfl, rfl, rfl, rfl⟩⟩
    unfold appendA
    simp only [un22, ty29, lenV, isRowD]
    rw [ti29s]
    cases a <;> (simp only [firstL]; rfl)
  · obtain ⟨b', o, rfl, hrow⟩ := hl.cells (by omega)
    have hap := append_empty (x := .slice (some ⟨b', o, none⟩) n c) hb rfl ((firstL_pos (by omega)).trans hrow) (by rw [flat_len, hl.1]) (encE_one l) hn (by omega)
    refine ⟨_, _, _, hap, (Keep.refl hw).newO, .inr ⟨by omega, ⟨by rw [flat_len, hl.1], .inr ⟨m.nx, rfl, rfl, hw.1, Row.newO⟩⟩, ?_⟩⟩
    rintro b' e; cases e; exact Nat.le_refl _

theorem bool_ok {b : Bool} (h : b = true) : Value.bool b = .bool true := by rw [h]

theorem out_law {mm : Int} {m : Mem} {a : Option Addr} {n c : Nat} {l : List pl.E} {x : pl.E} (hw : Wf m) (hl : EntsIs m a n l) : F6 mm a n c x.1 x.2.1 x.2.2 m fun r _ => r = .bool true := by
  unfold F6
  rw [mBind_iff]
  generalize hm1 : newO m _ = m1
  have k1 : Keep m m1 := hm1 ▸ (Keep.refl hw).newO
  have n1 : m1.nx = m.nx + 1 := by rw [← hm1]; rfl
  have r1 : Row m1 m.nx (encE x) 29 false := hm1 ▸ Row.newO
  refine awake_ok ⟨true, rfl, ?_⟩
  rw [show (!true) = false from rfl, splitB_false]
  simp only [joinK]
  rw [mBind_iff]
  generalize hm10 : bump m1 20 = m10
  have k10 : Keep m1 m10 := hm10 ▸ (Keep.refl k1.wf).bump
  have n10 : m10.nx = m1.nx + 20 := by rw [← hm10]; rfl
  rw [splitB_iff]
  refine ⟨fun _ => trivial, fun e63 => ?_⟩
  rw [ltI_false] at e63
  have hn63 : n ≤ 63 := by unfold lenI at e63; omega
  have hl10 := hl.keep hw (k1.trans k10)
  refine good_ok k10.wf hl10 fun m11 k11 => ⟨_, rfl, ?_⟩
  rw [splitB_iff]
  refine ⟨fun _ => trivial, fun e => ?_⟩
  have hg : pl.Good mm l := goodB_iff.1 (by simpa using e)
  clear e
  have k1_11 := k10.trans k11
  have r11 : Row m11 m.nx (encE x) 29 false := k1_11.row k1.wf r1
  have nx11 := k11.nx
  -- the first append
  generalize hA : addO m11 (m1.nx + 11) (row [] 29 false) = mA
  have kA : Keep m1 mA := hA ▸ k1_11.addO (by omega) (by omega)
  have nA : mA.nx = m11.nx := by rw [← hA]; simp
  have gA : mA.hp.get (m1.nx + 11) = some (row [] 29 false) := by rw [← hA, addO_get, if_pos rfl]
  have flA : mA.fl = m11.fl := by rw [← hA]; simp
  have hlA := hl.keep hw (k1.trans kA)
  obtain ⟨a2, c2, m12, e12, k12, h12⟩ := append_cl (m := setFl mA m11.nx) (c := c) (Wf.setFl kA.wf (by omega)) (show (setFl mA m11.nx).hp.get (m1.nx + 11) = some (.cells _ _ _ false) from gA) (show EntsIs mA a n l from hlA) (by omega)
  refine ⟨a2, n, c2, m12, e12, x.1, by rw [r11.rd]; rfl, x.2.1, by rw [r11.rd]; rfl, x.2.2, by rw [r11.rd]; rfl, ?_⟩
  have kU := Keep.unset kA.wf k12
  rw [flA] at kU
  generalize hB : addO (setFl m12 m11.fl) (m1.nx + 15) _ = mB
  have nx12 : mA.nx ≤ m12.nx := k12.nx
  have kB : Keep m1 mB := hB ▸ (kA.trans kU).addO (by omega) (by simp; omega)
  have rB : Row mB (m1.nx + 15) (encE x) 29 false := Row.of_row (by rw [← hB, addO_get, if_pos rfl]; rfl)
  have gB : ∀ b, b ≠ m1.nx + 15 → mB.hp.get b = m12.hp.get b := fun b hb => by rw [← hB, addO_get, if_neg hb]; rfl
  have hcl : Cl m1 mB a2 n c2 l := by
    rcases h12 with ⟨h1, h2, h3, h4⟩ | ⟨hp, ⟨hG1, hG2⟩, hb⟩
    · subst h1
      refine .inl ⟨rfl, List.length_eq_zero_iff.1 hl.1, h4, .inr ⟨m1.nx + 11, writeL .nil [] 0, 0, 29, h3, by omega, ?_⟩⟩
      rw [gB _ (by omega), h2]; exact gA
    · have hb' : ∀ b, a2 = some ⟨b, 0, none⟩ → mA.nx ≤ b := hb
      refine .inr ⟨hp, ⟨hG1, ?_⟩, fun b e => by have := hb' b e; omega⟩
      rcases hG2 with h1 | ⟨b, h1, h2, h3, h4⟩
      · exact .inl h1
      · have h5 := hb' b h1
        have hf := kB.fl
        have hf2 := k1.wf.1
        exact .inr ⟨b, h1, h2, by omega, h4.congr (gB b (by omega))⟩
  obtain ⟨m13, e13, k13, hO⟩ := push_ents kB hcl rB (by omega)
  refine ⟨_, _, _, m13, e13, ?_⟩
  have k13m := k1.trans k13
  refine good_ok k13.wf hO.ents fun m14 k14 => ⟨_, rfl, ?_⟩
  rw [mBind_iff, splitB_iff]
  refine ⟨fun _ => trivial, fun e => ?_⟩
  have hg2 : pl.Good mm (l ++ [x]) := goodB_iff.1 (by simpa using e)
  clear e
  have k1_14 := k13.trans k14
  have r14 : Row m14 m.nx (encE x) 29 false := k1_14.row k1.wf r1
  have k14m := k1.trans k1_14
  refine ⟨x.1, by rw [r14.rd]; rfl, x.2.1, by rw [r14.rd]; rfl, x.2.2, by rw [r14.rd]; rfl, ?_⟩
  refine beats_ok (x := x) k14m.wf (hl.keep hw k14m) (by omega) fun m15 k15 => ⟨_, _, rfl, ?_⟩
  have k15m := k14m.trans k15
  refine worst_ok k15m.wf (hl.keep hw k15m) fun m16 k16 => ⟨_, _, _, _, rfl, ?_⟩
  have k16m := k15m.trans k16
  rw [mBind_iff]
  generalize hm4 : newO m16 _ = m17
  have k17 : Keep m16 m17 := hm4 ▸ (Keep.refl k16m.wf).newO
  have r4 : Row m17 m16.nx [.int .i64 0, .int .i64 0, .bool false] 29 false := hm4 ▸ Row.newO
  refine ⟨r4.okW (by have := k17.fl; have := k16m.wf.1; omega) (by simp), ?_⟩
  rw [mBind_iff]
  generalize hm5 : wr m17 m16.nx 0 _ = m18
  have k18 : Keep m16 m18 := hm5 ▸ k17.wr (Nat.le_refl _)
  have r5 : Row m18 m16.nx (encE (pl.worst mm l).1) 29 false := by
    have := r4.wr (o := 0) (vs := encE (pl.worst mm l).1) (by simp [encE])
    have e : over [.int .i64 0, .int .i64 0, .bool false] 0 (encE (pl.worst mm l).1) = encE (pl.worst mm l).1 := rfl
    rw [e] at this
    exact hm5 ▸ this
  have k18m := k16m.trans k18
  refine pick_ok k18m.wf (hl.keep hw k18m) fun m19 a9 n9 c9 k19 hp => ⟨_, _, _, rfl, ?_⟩
  obtain ⟨hl9, hs9⟩ := sl_small hp
  have rw19 : Row m19 m16.nx (encE (pl.worst mm l).1) 29 false := k19.row k18m.wf r5
  have k19m := k18m.trans k19
  have rx19 : Row m19 m.nx (encE x) 29 false := (((k1_14.trans k15).trans k16).trans k18 |>.trans k19).row k1.wf r1
  have law := pl.out_law hg hg2
  rw [splitB_iff]
  refine ⟨fun e => ?_, fun e => ?_⟩
  · rw [ltI_true] at e
    rw [if_pos (by unfold lenI at e; omega)] at law
    rw [law, splitB_true]
    rfl
  · rw [ltI_false] at e
    rw [if_neg (by unfold lenI at e; omega)] at law
    refine ⟨x.2.2, by rw [rx19.rd]; rfl, ?_⟩
    rw [splitB_iff]
    refine ⟨fun hf => ?_, fun hf => ?_⟩
    · rw [if_pos hf] at law
      obtain ⟨l1, l2, l3⟩ := law
      rw [l1, splitB_true, l2, splitB_true]
      refine ⟨(pl.worst mm l).1.1, by rw [rw19.rd]; rfl, ?_⟩
      exact bool_ok (eqI_true.2 l3)
    · rw [if_neg (by rw [hf]; exact Bool.false_ne_true)] at law
      obtain ⟨l1, l2⟩ := law
      rw [splitB_iff]
      refine ⟨fun ht => ?_, fun ht => ?_⟩
      · refine ⟨x.1, by rw [rx19.rd]; rfl, x.2.1, by rw [rx19.rd]; rfl, x.2.2, by rw [rx19.rd]; rfl, (pl.worst mm l).1.1, by rw [rw19.rd]; rfl, (pl.worst mm l).1.2.1, by rw [rw19.rd]; rfl, (pl.worst mm l).1.2.2, by rw [rw19.rd]; rfl, ?_⟩
        refine less_ok (x := x) (y := (pl.worst mm l).1) k19m.wf fun m20 k20 => ⟨_, rfl, ?_⟩
        rw [ht, Bool.true_and] at l1
        rw [l1, beq_self_eq_true, splitB_true]
        rw [splitB_iff]
        refine ⟨fun _ => trivial, fun e2 => ?_⟩
        have rw20 : Row m20 m16.nx (encE (pl.worst mm l).1) 29 false := k20.row k19m.wf rw19
        refine ⟨(pl.worst mm l).1.1, by rw [rw20.rd]; rfl, ?_⟩
        rcases l2 with l2 | l2
        · rw [l1] at l2; rw [l2] at e2; cases e2
        · exact bool_ok (eqI_true.2 l2)
      · rw [ht, Bool.false_and] at l1
        rw [l1]
        exact trivial

end Go.Proofs.Ytmjpkannhbaklaa.vc

namespace Go.Proofs.Ytmjpkannhbaklaa.edfOut
open Go Go.ChangeShapes Go.WideShapes Go.ChangeAt Go.RowKit Go.AX
set_option linter.unusedVariables false

theorem own : ownKnob Try.prog.godebug = none := by kernel_rfl

theorem walk {H : Type} {enc : TypeId × Value → H} (W : World) (args : Array Value) (ds : List (DataW H)) (p : List MemPlace) (hA : DataW.TrodAll enc Try.prog W 0 (fun _ => true) true [3, 22, 29] args.toList ds p)
    (hval : ∀ (j : Nat) t v, ([3, 22, 29] : List TypeId)[j]? = some t → args.toList[j]? = some v → Value.okWide Try.prog W .any 0 t v) :
    Calls Try.prog 6 args W (fun e w' => e = .returned (.bool true) ∧ Below W.heap.size W w') ∧ ∃ d1 d2 d3, ds = [d1, d2, d3] := by
  obtain ⟨l⟩ := args
  simp only at hA hval
  obtain ⟨v1, vs1, d1, ds1, p1, q1, rfl, rfl, rfl, h1, hA⟩ := trodAll_cons hA
  obtain ⟨v2, vs2, d2, ds2, p2, q2, rfl, rfl, rfl, h2, hA⟩ := trodAll_cons hA
  obtain ⟨v3, vs3, d3, ds3, p3, q3, rfl, rfl, rfl, h3, hA⟩ := trodAll_cons hA
  obtain ⟨rfl, rfl, rfl⟩ := trodAll_nil hA
  refine ⟨?_, d1, d2, d3, rfl⟩
  obtain ⟨mm, rfl, _⟩ := open_int Try.underlying3 (hval 0 _ _ rfl rfl) h1
  obtain ⟨a, n, c, l, rfl, hg, hl, _⟩ := vc.ents_arg (hval 1 _ _ rfl rfl) h2
  obtain ⟨x, rfl⟩ := vc.ent_val (hval 2 _ _ rfl rfl) h3
  have hx := vc.ent_good (w := W) x
  refine open_true (ann := vc.A6) vc.cxOk vc.ovOk vc.hmix W _ (by kernel_rfl : vc.cx.fn.get 6 = some Try.f6) ?_ ?_
  · simp only [List.all_cons, hg, hx]; rfl
  · exact Eq.mp (vc.F6_eq mm a n c x.1 x.2.1 x.2.2 _ _) (vc.out_law (mW_wf _ _) hl)

set_option maxRecDepth 100000 in
theorem lifted (os : Os) (started : os.Started) (H : Type) (enc : TypeId × Value → H) :
    ReturnsInHanded {} Try.checked os 6 .any (Rows.edfOutSpec.pre6 enc Try.prog Try.f6 Rows.edfOutRow.domain false) (Rows.edfOutSpec.post enc Try.prog Try.f6 false true false false) := by
  refine returnsInHanded_of_change (C := Try.checked) own started (by kernel_rfl) Try.func6
    (ChangeSpec.witness6 (enc := enc) (C := Try.checked) false ⟨#[], #[.int .i64 0, .slice none 0 0, .agg #[.int .i64 0, .int .i64 0, .bool false]], []⟩ 8 (by kernel_rfl) (by kernel_rfl) (by kernel_rfl) (by kernel_rfl)) ?_
  intro W base args ds gs before hval0 hW hcnd _
  have hval : ∀ (j : Nat) t v, Try.f6.params[j]? = some t → args[j]? = some v → Value.okWide Try.prog W .any base t v := hval0
  have hW' := hW
  obtain ⟨p, q, hA0, hV, rfl, hfz, hnd⟩ := hW
  have hA : DataW.TrodAll enc Try.prog W 0 (fun _ => true) true Try.f6.params.toList args.toList ds p := hA0
  rw [Try.params6] at hA hval
  obtain ⟨rfl, rfl⟩ := trodVars_none hV
  clear hA0 hval0
  simp only [List.append_nil] at hW'
  have hval' : ∀ (j : Nat) t v, ([3, 22, 29] : List TypeId)[j]? = some t → args.toList[j]? = some v → Value.okWide Try.prog W .any base t v := fun j t v h1 h2 => hval j t v (by simpa using h1) (by simpa using h2)
  obtain ⟨hc, d1, d2, d3, rfl⟩ := walk (enc := enc) W args ds p hA hval'
  refine hc.mono fun e W' ⟨he, hg⟩ => ?_
  subst he
  exact ⟨_, rfl, post_law Try.underlying4 (by kernel_rfl) rfl rfl (by kernel_rfl) (by rw [Try.params6]; exact hW') (by rw [Try.params6]; exact hA) hg⟩

theorem over : Rows.edfOutRow.holds Try.pinned (OpenSpec.ofChange Rows.edfOutSpec) :=
  OpenClaim.holds_of_wide 6 Try.f6 rfl rfl rfl rfl rfl rfl rfl ⟨rfl, rfl, rfl, rfl, rfl⟩ rfl rfl rfl rfl rfl (by kernel_rfl) Try.func6 (by kernel_rfl)
    (of_decide_eq_true (by kernel_rfl)) (by unfold Func.isWrapper; first | (rw [if_pos (by decide +kernel)]; kernel_rfl) | (rw [if_neg (by decide +kernel)]; exact ⟨rfl, rfl⟩))
    (fun os started H enc _ => lifted os started H enc)

theorem proved : Rows.EdfOutSaid :=
  over
#print axioms proved
end Go.Proofs.Ytmjpkannhbaklaa.edfOut
