/-
  'Rows.StatOthersSaid': the law StatOthers, called with whatever Events and number, returns true and leaves its arguments. No condition narrows it.
-/
import Derived.Test.YtcnjgpidlhndhaaStat
import Derived.WalkKit
import Derived.ProofKit
import Derived.OpenShut
import Derived.KernelRfl
namespace Go.Proofs.Ytcnjgpidlhndhaa.vc
open Go Go.AX
set_option linter.unusedVariables false
set_option linter.unusedSimpArgs false

theorem Small.none' : Small (fun _ => none) 0 := (fun _ _ e => nomatch e)

theorem others_law {m : Mem} (hw : Wf m) {a0 : Option Addr} {n0 c0 : Nat} {es : List Ev} (he : EvS m a0 n0 es) (hb0 : ∀ b o, a0 = some ⟨b, o, none⟩ → n0 ≠ 0 → b < m.nx)
    {a2 : Option Addr} {n2 c2 : Nat} {fs : List Ev} (hf : EvS m a2 n2 fs) (hb2 : ∀ b o, a2 = some ⟨b, o, none⟩ → n2 ≠ 0 → b < m.nx) (who : Int) :
    F4 a0 n0 c0 who a2 n2 c2 m fun r _ => r = .bool true := by
  unfold F4
  refine awake_ok ⟨true, rfl, ?_⟩
  rw [show (!true) = false from rfl, splitB_false]
  rw [joinK, splitB_iff]
  refine ⟨fun _ => rfl, fun h100 => ?_⟩
  rw [ltI_false] at h100
  have hn0 : n0 ≤ 100 := by simp [lenI] at h100; omega
  rw [splitB_iff]
  refine ⟨fun _ => rfl, fun h100 => ?_⟩
  rw [ltI_false] at h100
  have hn2 : n2 ≤ 100 := by simp [lenI] at h100; omega
  have hlen := he.1
  refine new_ok (lab := fun _ => (0, 0, 0)) (q := 1) hw ?_
  intro m3 bs rs lab3 hS3 st3 g3
  refine ⟨_, rfl, ?_⟩
  refine new_ok (lab := lab3) (q := 2) st3.wf ?_
  intro m4 bt rt lab4 hT4 st4 g4
  refine ⟨_, rfl, ?_⟩
  have nx3 := st3.nx
  have nx4 := st4.nx
  have hS4 : StatsAt m4 lab4 1 bs rs _ := hS3.keep st3.wf st4.fl (fun b hb _ => g4 b hb) st4.labs
  have g04 : ∀ b, b < m.nx → m4.hp.get b = m.hp.get b := fun b hb => (g4 b (by omega)).trans (g3 b hb)
  have l04 : ∀ b, b < m.nx → lab4 b = (0, 0, 0) := fun b hb => (st4.labs b (by omega)).trans (st3.labs b hb)
  refine putAll_ok st4.wf hS4 (he.keep (fun b o e h0 => g04 b (hb0 b o e h0))) (fun b o e h0 => ⟨Nat.lt_of_lt_of_le (hb0 b o e h0) (by omega), by rw [l04 b (hb0 b o e h0)]; simp⟩) Small.none' (by omega) ?_
  intro m5 lab5 hS5 st5
  refine ⟨rfl, ?_⟩
  have nx5 := st5.nx
  have hT5 : StatsAt m5 lab5 2 bt rt _ := hT4.keep st4.wf st5.fl (fun b hb h => st5.get b hb (by rw [h]; simp)) st5.labs
  have g05 : ∀ b, b < m.nx → m5.hp.get b = m.hp.get b := fun b hb => (st5.get b (by omega) (by rw [l04 b hb]; simp)).trans (g04 b hb)
  have l05 : ∀ b, b < m.nx → lab5 b = (0, 0, 0) := fun b hb => (st5.labs b (by omega)).trans (l04 b hb)
  have hsmall : Small (es.foldl putM fun _ => none) 1000000 := by
    have := Small.none'.fold (l := es)
    exact this.mono (by omega)
  refine ⟨fun x m6 k => ∃ i : Nat, x = i ∧ i ≤ n0 ∧ k = n0 - i ∧ ∃ lab6 τ, Wf m6 ∧ m5.nx ≤ m6.nx ∧ StatsAt m6 lab6 1 bs rs (es.foldl putM fun _ => none) ∧ StatsAt m6 lab6 2 bt rt τ ∧ Small τ (2 * i) ∧
      τ who = (es.take i).foldl putM (fun _ => none) who ∧ (∀ b, b < m.nx → m6.hp.get b = m.hp.get b ∧ lab6 b = (0, 0, 0)),
    ⟨n0, 0, rfl, by omega, by omega, lab5, _, st5.wf, Nat.le_refl _, hS5, hT5, Small.none', rfl, fun b hb => ⟨g05 b hb, l05 b hb⟩⟩, ?_⟩
  rintro x m6 k ⟨i, rfl, hi, rfl, lab6, τ, hw6, nx6, hS6, hT6, hsm6, htau, hold⟩
  rw [splitB_iff]
  refine ⟨fun hlt => ?_, fun hge => ?_⟩
  · rw [ltI_true] at hlt
    have hlt' : i < n0 := by simpa [lenI] using hlt
    -- the second half of a round: l[i] is put
    have J2 : ∀ m7 lab7 τ7, Wf m7 → m5.nx ≤ m7.nx → StatsAt m7 lab7 1 bs rs (es.foldl putM fun _ => none) → StatsAt m7 lab7 2 bt rt τ7 → Small τ7 (2 * i + 1) → τ7 who = (es.take i).foldl putM (fun _ => none) who →
        (∀ b, b < m.nx → m7.hp.get b = m.hp.get b ∧ lab7 b = (0, 0, 0)) → (fun (m7 : Mem) => ((0 ≤ (i : Int) ∧ (i : Int) < ((n0 : Nat) : Int)) ∧ (vPtr a0 fun ba0 oa0 => (∃ (x59 : Int), rd m7 ba0 (oa0 + Int.toNat (i : Int) * 4) = some (.int .i64 (x59)) ∧ (∃ (x59_3 : Int), rd m7 ba0 (oa0 + Int.toNat (i : Int) * 4 + 1) = some (.int .i64 (x59_3)) ∧ (∃ (x59_4 : Int), rd m7 ba0 (oa0 + Int.toNat (i : Int) * 4 + 2) = some (.int .i64 (x59_4)) ∧ (∃ (x59_5 : Int), rd m7 ba0 (oa0 + Int.toNat (i : Int) * 4 + 3) = some (.int .i64 (x59_5)) ∧ (mBind (newO m7 (row [.int .i64 (x59), .int .i64 (x59_3), .int .i64 (x59_4), .int .i64 (x59_5)] 29 false)) fun m8 => (CallW cx 10 [.pointer (some ⟨bt, 0, none⟩), .slice (some ⟨m7.nx, 0, none⟩) (1) (1)] m8 fun r61 m9 => r61 = (.tuple #[]) ∧ (∃ n_6 : Nat, n_6 < n0 - i ∧ ∃ i' : Nat, (addI .i64 (i : Int) (1 : Int)) = i' ∧ i' ≤ n0 ∧ n_6 = n0 - i' ∧ ∃ lab6 τ, Wf m9 ∧ m5.nx ≤ m9.nx ∧ StatsAt m9 lab6 1 bs rs (es.foldl putM fun _ => none) ∧ StatsAt m9 lab6 2 bt rt τ ∧ Small τ (2 * i') ∧
      τ who = (es.take i').foldl putM (fun _ => none) who ∧ (∀ b, b < m.nx → m9.hp.get b = m.hp.get b ∧ lab6 b = (0, 0, 0)))))))))))) m7 := by
      intro m7 lab7 τ7 hw7 nx7 hS7 hT7 hsm7 ht7 hold7
      refine ⟨⟨by omega, by omega⟩, ?_⟩
      obtain ⟨e, hei⟩ : ∃ e, es[i]? = some e := ⟨_, List.getElem?_eq_getElem (by omega)⟩
      obtain ⟨b, o, ha, hA, hK, hW, hN⟩ := he.2 i e hei
      have hb := hb0 b o ha (by omega)
      have hgb := (hold7 b hb).1
      subst ha
      simp only [vPtr_some, Int.toNat_natCast]
      refine ⟨e.At, (rd_congr hgb).trans hA, e.Kind, (rd_congr hgb).trans hK, e.Who, (rd_congr hgb).trans hW, e.N, (rd_congr hgb).trans hN, ?_⟩
      rw [mBind_iff]
      refine put1_ok hw7 (by omega) hT7 hsm7 (by omega) ?_
      intro m9 lab9 hT9 st9
      have nx9 := st9.nx
      refine ⟨rfl, n0 - (i + 1), by omega, i + 1, wrapNat (by omega), by omega, rfl, lab9, _, st9.wf, by omega, hS7.keep hw7 st9.fl (fun b hb h => st9.get b hb (by rw [h]; simp)) st9.labs, hT9, (hsm7.put e).mono (by omega), ?_, fun b hb => ?_⟩
      · rw [List.take_add_one, hei]
        simp only [Option.toList_some, List.foldl_append, List.foldl_cons, List.foldl_nil]
        exact putM_who ht7 e
      · have h1 := hold7 b hb
        exact ⟨(st9.get b (by omega) (by rw [h1.2]; simp)).trans h1.1, (st9.labs b (by omega)).trans h1.2⟩
    rw [joinK, joinK, splitB_iff]
    refine ⟨fun hlt2 => ?_, fun _ => ?_⟩
    · rw [ltI_true] at hlt2
      have hlt2' : i < n2 := by simpa [lenI] using hlt2
      refine ⟨⟨by omega, by omega⟩, ?_⟩
      obtain ⟨e, hei⟩ : ∃ e, fs[i]? = some e := ⟨_, List.getElem?_eq_getElem (by have := hf.1; omega)⟩
      obtain ⟨b, o, ha, hA, hK, hW, hN⟩ := hf.2 i e hei
      have hb := hb2 b o ha (by omega)
      have hgb := (hold b hb).1
      subst ha
      simp only [vPtr_some, Int.toNat_natCast]
      refine ⟨e.Who, (rd_congr hgb).trans hW, ?_⟩
      rw [splitB_iff]
      refine ⟨fun hne => ?_, fun _ => ?_⟩
      · rw [neI_true] at hne
        refine ⟨⟨by omega, by omega⟩, ?_⟩
        refine ⟨e.At, (rd_congr hgb).trans hA, e.Kind, (rd_congr hgb).trans hK, e.Who, (rd_congr hgb).trans hW, e.N, (rd_congr hgb).trans hN, ?_⟩
        rw [mBind_iff]
        refine put1_ok hw6 (by omega) hT6 hsm6 (by omega) ?_
        intro m9 lab9 hT9 st9
        have nx9 := st9.nx
        refine ⟨rfl, ?_⟩
        refine J2 m9 lab9 _ st9.wf (by omega) (hS6.keep hw6 st9.fl (fun b hb h => st9.get b hb (by rw [h]; simp)) st9.labs) hT9 (hsm6.put e) ?_ (fun b hb => ?_)
        · rw [putM_other hne]; exact htau
        · have h1 := hold b hb
          exact ⟨(st9.get b (by omega) (by rw [h1.2]; simp)).trans h1.1, (st9.labs b (by omega)).trans h1.2⟩
      · exact J2 m6 lab6 τ hw6 nx6 hS6 hT6 (hsm6.mono (by omega)) htau hold
    · exact J2 m6 lab6 τ hw6 nx6 hS6 hT6 (hsm6.mono (by omega)) htau hold
  · rw [ltI_false] at hge
    have hin : i = n0 := by simp [lenI] at hge; omega
    have hfin : τ who = es.foldl putM (fun _ => none) who := by rw [htau, List.take_of_length_le (by omega)]
    generalize es.foldl putM (fun _ => none) = σ at hS6 hsmall hfin
    refine of_ok hw6 hS6 ?_
    intro m13 hw13 nx13 fl13 g13
    refine ⟨_, _, _, _, _, _, _, _, _, _, _, _, _, rfl, ?_⟩
    rw [mBind_iff]
    refine ⟨Row.newO.okW (by simpa using hw13.1) (by simp), ?_⟩
    rw [mBind_iff]
    generalize hX : (σ who).getD Own.zero = X
    generalize hm15 : AX.wr (AX.newO m13 _) m13.nx 0 _ = m15
    have hR15 : Row m15 m13.nx (over _ 0 _) 27 false := hm15 ▸ Row.newO.wr (o := 0) (by simp)
    have hw15 : Wf m15 := hm15 ▸ hw13.newO.wr
    have nx15 : m15.nx = m13.nx + 1 := by rw [← hm15]; simp
    have g15 : ∀ b, b < m6.nx → m15.hp.get b = m6.hp.get b := fun b hb' => by rw [← hm15, wr_get (by omega), newO_get, if_neg (by omega), g13 b hb']
    have fl15 : m15.fl = m6.fl := by rw [← hm15]; simp [fl13]
    have hT15 : StatsAt m15 lab6 2 bt rt τ := hT6.keep hw6 fl15 (fun b hb' _ => g15 b hb') (fun _ _ => rfl)
    refine of_ok hw15 hT15 ?_
    intro m16 hw16 nx16 fl16 g16
    refine ⟨_, _, _, _, _, _, _, _, _, _, _, _, _, rfl, ?_⟩
    rw [mBind_iff]
    refine ⟨Row.newO.okW (by simpa using hw16.1) (by simp), ?_⟩
    rw [mBind_iff]
    rw [hfin, hX]
    generalize hm18 : AX.wr (AX.newO m16 _) m16.nx 0 _ = m18
    have hR18 : Row m18 m16.nx (over _ 0 _) 27 false := hm18 ▸ Row.newO.wr (o := 0) (by simp)
    have hw18 : Wf m18 := hm18 ▸ hw16.newO.wr
    have g18 : ∀ b, b < m15.nx → m18.hp.get b = m15.hp.get b := fun b hb' => by rw [← hm18, wr_get (by omega), newO_get, if_neg (by omega), g16 b hb']
    have fl18 : m18.fl = m15.fl := by rw [← hm18]; simp [fl16]
    have hR18' : Row m18 m13.nx _ 27 false := hR15.congr (g18 _ (by omega))
    rw [splitB_iff]
    refine ⟨fun _ => ?_, fun hne => ?_⟩
    · iterate 12 refine ⟨_, hR18'.rd.trans rfl, ?_⟩
      iterate 12 refine ⟨_, hR18.rd.trans rfl, ?_⟩
      refine ⟨true, ?_, ?_⟩
      · rw [eq27]
        refine eqInts_same _ ?_
        intro x hx
        simp at hx
        rcases hx with rfl | rfl | rfl | rfl | rfl | rfl | rfl | rfl | rfl | rfl | rfl | rfl <;> rfl
      · rw [splitB_true]
        have g618 : ∀ b, b < m6.nx → m18.hp.get b = m6.hp.get b := fun b hb => (g18 b (by omega)).trans (g15 b hb)
        have hS18 : StatsAt m18 lab6 1 bs rs σ := hS6.keep hw6 (fl18.trans fl15) (fun b hb _ => g618 b hb) (fun _ _ => rfl)
        have hT18 : StatsAt m18 lab6 2 bt rt τ := hT6.keep hw6 (fl18.trans fl15) (fun b hb _ => g618 b hb) (fun _ _ => rfl)
        refine late_ok hS18 hsmall rfl ⟨_, rfl, ?_⟩
        refine late_ok hT18 (hsm6.mono (by omega)) rfl ⟨_, rfl, ?_⟩
        rw [hfin, eqI_true.2 rfl]
    · simp at hne

end Go.Proofs.Ytcnjgpidlhndhaa.vc

namespace Go.Proofs.Ytcnjgpidlhndhaa.statOthers
open Go Go.ChangeShapes Go.WideShapes Go.ChangeAt Go.RowKit Go.AX
set_option linter.unusedVariables false

theorem own : ownKnob Try.prog.godebug = none := by kernel_rfl

theorem walk {H : Type} {enc : TypeId × Value → H} (W : World) (args : Array Value) (ds : List (DataW H)) (p : List MemPlace) (hA : DataW.TrodAll enc Try.prog W 0 (fun _ => true) true [22, 3, 22] args.toList ds p)
    (hval : ∀ (j : Nat) t v, ([22, 3, 22] : List TypeId)[j]? = some t → args.toList[j]? = some v → Value.okWide Try.prog W .any 0 t v) :
    Calls Try.prog 4 args W (fun e w' => e = .returned (.bool true) ∧ Below W.heap.size W w') ∧ ∃ d1 d2 d3, ds = [d1, d2, d3] := by
  obtain ⟨l⟩ := args
  simp only at hA hval
  obtain ⟨v1, vs1, d1, ds1, p1, q1, rfl, rfl, rfl, h1, hA⟩ := trodAll_cons hA
  obtain ⟨v2, vs2, d2, ds2, p2, q2, rfl, rfl, rfl, h2, hA⟩ := trodAll_cons hA
  obtain ⟨v3, vs3, d3, ds3, p3, q3, rfl, rfl, rfl, h3, hA⟩ := trodAll_cons hA
  obtain ⟨rfl, rfl, rfl⟩ := trodAll_nil hA
  refine ⟨?_, d1, d2, d3, rfl⟩
  obtain ⟨a, n, c, es, rfl, hg, he, hok, hb⟩ := vc.ev_arg (hval 0 _ _ rfl rfl) h1
  obtain ⟨n2, rfl, _⟩ := open_int Try.underlying3 (hval 1 _ _ rfl rfl) h2
  obtain ⟨a3, n3, c3, fs, rfl, hg3, hf, hok3, hb3⟩ := vc.ev_arg (hval 2 _ _ rfl rfl) h3
  refine open_true (ann := vc.A4) vc.cxOk vc.ovOk vc.hmix W _ (by kernel_rfl : vc.cx.fn.get 4 = some Try.f4) ?_ ?_
  · simp only [List.all_cons, hg, hg3]; rfl
  · exact Eq.mp (vc.F4_eq a n c n2 a3 n3 c3 _ _) (vc.others_law (mW_wf _ _) he hb hf hb3 n2)

set_option maxRecDepth 100000 in
theorem lifted (os : Os) (started : os.Started) (H : Type) (enc : TypeId × Value → H) :
    ReturnsInHanded {} Try.checked os 4 .any (Rows.statOthersSpec.pre6 enc Try.prog Try.f4 Rows.statOthersRow.domain false) (Rows.statOthersSpec.post enc Try.prog Try.f4 false true false false) := by
  refine returnsInHanded_of_change (C := Try.checked) own started (by kernel_rfl) Try.func4
    (ChangeSpec.witness6 (enc := enc) (C := Try.checked) false ⟨#[], #[.slice none 0 0, .int .i64 0, .slice none 0 0], []⟩ 8 (by kernel_rfl) (by kernel_rfl) (by kernel_rfl) (by kernel_rfl)) ?_
  intro W base args ds gs before hval0 hW hcnd _
  have hval : ∀ (j : Nat) t v, Try.f4.params[j]? = some t → args[j]? = some v → Value.okWide Try.prog W .any base t v := hval0
  have hW' := hW
  obtain ⟨p, q, hA0, hV, rfl, hfz, hnd⟩ := hW
  have hA : DataW.TrodAll enc Try.prog W 0 (fun _ => true) true Try.f4.params.toList args.toList ds p := hA0
  rw [Try.params4] at hA hval
  obtain ⟨rfl, rfl⟩ := trodVars_none hV
  clear hA0 hval0
  simp only [List.append_nil] at hW'
  have hval' : ∀ (j : Nat) t v, ([22, 3, 22] : List TypeId)[j]? = some t → args.toList[j]? = some v → Value.okWide Try.prog W .any base t v := fun j t v h1 h2 => hval j t v (by simpa using h1) (by simpa using h2)
  obtain ⟨hc, d1, d2, d3, rfl⟩ := walk (enc := enc) W args ds p hA hval'
  refine hc.mono fun e W' ⟨he, hg⟩ => ?_
  subst he
  exact ⟨_, rfl, post_law Try.underlying4 (by kernel_rfl) rfl rfl (by kernel_rfl) (by rw [Try.params4]; exact hW') (by rw [Try.params4]; exact hA) hg⟩

theorem over : Rows.statOthersRow.holds Try.pinned (OpenSpec.ofChange Rows.statOthersSpec) :=
  OpenClaim.holds_of_wide 4 Try.f4 rfl rfl rfl rfl rfl rfl rfl ⟨rfl, rfl, rfl, rfl, rfl⟩ rfl rfl rfl rfl rfl (by kernel_rfl) Try.func4 (by kernel_rfl)
    (of_decide_eq_true (by kernel_rfl)) (by unfold Func.isWrapper; first | (rw [if_pos (by decide +kernel)]; kernel_rfl) | (rw [if_neg (by decide +kernel)]; exact ⟨rfl, rfl⟩))
    (fun os started H enc _ => lifted os started H enc)

theorem proved : Rows.StatOthersSaid :=
  over
#print axioms proved
end Go.Proofs.Ytcnjgpidlhndhaa.statOthers
