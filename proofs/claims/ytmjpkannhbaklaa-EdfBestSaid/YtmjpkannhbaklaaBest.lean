/-
  EdfBest: at every input the law returns true: who runs is as many as can be, all that may not be stopped, and nobody that does not run is ahead of one that does and could be stopped.
-/
import Derived.Test.YtmjpkannhbaklaaLaw
namespace Go.Proofs.Ytmjpkannhbaklaa.vc
open Go Go.AX
set_option linter.unusedVariables false

/-- a row of bools, told by place -/
def boolsL (n : Nat) (g : Nat → Bool) : List Value := (List.range n).map fun j => .bool (g j)

theorem boolsL_length (n : Nat) (g : Nat → Bool) : (boolsL n g).length = n := by simp [boolsL]
theorem boolsL_get {n : Nat} {g : Nat → Bool} {j : Nat} (h : j < n) : (boolsL n g)[j]? = some (.bool (g j)) := by
  unfold boolsL
  rw [List.getElem?_map, List.getElem?_range h]; rfl
theorem boolsL_set {n : Nat} {g g' : Nat → Bool} {o : Nat} (h : ∀ j, j < n → g' j = if j = o then g' o else g j) : (boolsL n g).set o (.bool (g' o)) = boolsL n g' := by
  apply List.ext_getElem?
  intro j
  rw [List.getElem?_set, boolsL_length]
  by_cases hj : j < n
  · rw [boolsL_get hj, boolsL_get hj]
    by_cases e : o = j
    · subst e; rw [if_pos rfl, if_pos hj]
    · rw [if_neg e, h j hj, if_neg (fun q => e q.symm)]
  · rw [List.getElem?_eq_none (by rw [boolsL_length]; omega), List.getElem?_eq_none (by rw [boolsL_length]; omega)]
    by_cases e : o = j
    · rw [if_pos e, if_neg (by omega)]
    · rw [if_neg e]
theorem boolsL_false (n : Nat) : repL [.bool false] n = boolsL n fun _ => false := by
  apply List.ext_getElem?
  intro j
  have h : ∀ n j, (repL [.bool false] n)[j]? = if j < n then some (.bool false) else none := by
    intro n
    induction n with
    | zero => intro j; simp [repL]
    | succ n ih =>
      intro j
      cases j with
      | zero => simp [repL]
      | succ j =>
        have := ih j
        simp only [repL, List.cons_append, List.nil_append, List.getElem?_cons_succ, this]
        by_cases q : j < n
        · rw [if_pos q, if_pos (by omega)]
        · rw [if_neg q, if_neg (by omega)]
  rw [h]
  by_cases hj : j < n
  · rw [if_pos hj, boolsL_get hj]
  · rw [if_neg hj, List.getElem?_eq_none (by rw [boolsL_length]; omega)]

/-- does the one at this place run -/
noncomputable def runsF (mm : Int) (l : List pl.E) (j : Nat) : Bool := match l[j]? with
  | some x => decide (x.1 ∈ pl.pick mm l)
  | none => false

theorem joinK_of {α : Type} {j : α} {f : α → Prop} (P : α → Prop) (hj : P j) (h : ∀ J, P J → f J) : joinK j f := h j hj

theorem best_law {mm : Int} {m : Mem} {a : Option Addr} {n c : Nat} {l : List pl.E} (hw : Wf m) (hl : EntsIs m a n l) : F3 mm a n c m fun r _ => r = .bool true := by
  unfold F3
  refine awake_ok ⟨true, rfl, ?_⟩
  rw [show (!true) = false from rfl, splitB_false]
  refine joinK_of (fun J => ∀ m', Keep m m' → pl.Good mm l → n ≤ 64 → J m') (fun m1 k1 hg hn64 => ?_) (fun J hJ => ?_)
  · have hlen := hl.1
    refine pick_ok k1.wf (hl.keep hw k1) fun m3 ap np cp k3 hp => ⟨_, _, _, rfl, ?_⟩
    obtain ⟨hlp, hsp⟩ := sl_small hp
    have k3m := k1.trans k3
    have hpl := pl.pick_length hg
    have hm1 := hg.m1
    refine joinK_of (fun J => ∀ x6 : Int, x6 = (np : Int) → J x6 m3) (fun x6 h6 => ?_) (fun J main => ?_)
    · subst h6
      have eN : Int.toNat (lenI n) = n := by unfold lenI; omega
      rw [splitB_iff]
      refine ⟨fun e => by rw [neI_true] at e; unfold lenI at e; omega, fun _ => ⟨?_, ?_⟩⟩
      · rw [eN]; unfold lenI; omega
      rw [mBind_iff, eN, boolsL_false]
      generalize hm5 : newO m3 _ = m5
      have k5 : Keep m3 m5 := hm5 ▸ (Keep.refl k3m.wf).newO
      have n5 : m5.nx = m3.nx + 1 := by rw [← hm5]; rfl
      have r5 : Row m5 m3.nx (boolsL n fun _ => false) 4 false := hm5 ▸ Row.newO
      have hfl := k3m.wf.1
      have ekN : ∀ i : Nat, 0 + Int.toNat (i : Int) * 1 = i := fun i => by omega
      refine ⟨fun i m6 w => ∃ k : Nat, k ≤ n ∧ i = (k : Int) ∧ w = n - k ∧ Keep m3 m6 ∧ m3.nx < m6.nx ∧ Row m6 m3.nx (boolsL n fun j => decide (j < k) && runsF mm l j) 4 false,
        ⟨n, 0, Nat.zero_le _, rfl, rfl, k5, by omega, by simpa using r5⟩, ?_⟩
      rintro i m6 w ⟨k, hk, rfl, rfl, k6, n6, r6⟩
      rw [splitB_iff]
      refine ⟨fun e => ?_, fun e => ?_⟩
      · rw [ltI_true] at e
        have hkn : k < n := by unfold lenI at e; omega
        obtain ⟨x, hx⟩ : ∃ x, l[k]? = some x := ⟨_, List.getElem?_eq_getElem (by omega)⟩
        refine ⟨fun i' m7 w' => ∃ q : Nat, q ≤ np ∧ i' = (q : Int) ∧ w' = np - q ∧ Keep m3 m7 ∧ m3.nx < m7.nx ∧ Row m7 m3.nx (boolsL n fun j => if j = k then decide (x.1 ∈ (pl.pick mm l).take q) else decide (j < k) && runsF mm l j) 4 false,
          ⟨np, 0, Nat.zero_le _, rfl, rfl, k6, n6, ?_⟩, ?_⟩
        · have : (boolsL n fun j => if j = k then decide (x.1 ∈ (pl.pick mm l).take 0) else decide (j < k) && runsF mm l j) = boolsL n fun j => decide (j < k) && runsF mm l j := by
            unfold boolsL
            refine List.map_congr_left fun j hj => ?_
            dsimp only
            by_cases q : j = k
            · rw [if_pos q]; simp [q]
            · rw [if_neg q]
          rw [this]; exact r6
        rintro i' m7 w' ⟨q, hq, rfl, rfl, k7, n7, r7⟩
        rw [splitB_iff]
        refine ⟨fun e2 => ?_, fun e2 => ?_⟩
        · rw [ltI_true] at e2
          have hqn : q < np := by unfold lenI at e2; omega
          rw [mBind_iff]
          generalize hm8 : bump m7 20 = m8
          have k8 : Keep m3 m8 := hm8 ▸ k7.bump
          have n8 : m3.nx < m8.nx := by rw [← hm8]; simp; omega
          have r8 : Row m8 m3.nx _ 4 false := hm8 ▸ r7.bump
          have hlt : (k : Int) < ((n : Nat) : Int) := by omega
          obtain ⟨y, hy⟩ : ∃ y, (pl.pick mm l)[q]? = some y := ⟨_, List.getElem?_eq_getElem (by omega)⟩
          have ok8 : okW m8 m3.nx (0 + Int.toNat (k : Int) * 1) 1 := by
            rw [ekN]; exact r8.okW (by have := k8.fl; omega) (by rw [boolsL_length]; omega)
          have next : ∀ v : Bool, v = decide (x.1 ∈ (pl.pick mm l).take (q + 1)) → ∃ n_6 : Nat, n_6 < np - q ∧ ∃ q' : Nat, q' ≤ np ∧ addI .i64 (q : Int) 1 = (q' : Int) ∧ n_6 = np - q' ∧ Keep m3 (wr m8 m3.nx (0 + Int.toNat (k : Int) * 1) [.bool v]) ∧ m3.nx < (wr m8 m3.nx (0 + Int.toNat (k : Int) * 1) [.bool v]).nx ∧
              Row (wr m8 m3.nx (0 + Int.toNat (k : Int) * 1) [.bool v]) m3.nx (boolsL n fun j => if j = k then decide (x.1 ∈ (pl.pick mm l).take q') else decide (j < k) && runsF mm l j) 4 false := by
            rintro v rfl
            refine ⟨np - (q + 1), less_w hqn, q + 1, hqn, inc64 (by omega), rfl, k8.wr (Nat.le_refl _), by simpa using n8, ?_⟩
            rw [ekN]
            have := r8.wr1 (o := k) (v := .bool (decide (x.1 ∈ (pl.pick mm l).take (q + 1)))) (by rw [boolsL_length]; exact hkn)
            have e3 := boolsL_set (n := n) (o := k) (g := fun j => if j = k then decide (x.1 ∈ (pl.pick mm l).take q) else decide (j < k) && runsF mm l j) (g' := fun j => if j = k then decide (x.1 ∈ (pl.pick mm l).take (q + 1)) else decide (j < k) && runsF mm l j) (fun j _ => by
              by_cases e : j = k
              · simp [e]
              · simp [e])
            simp only [if_true] at e3
            rw [← e3]
            exact this
          have ht : (pl.pick mm l).take (q + 1) = (pl.pick mm l).take q ++ [y] := by rw [List.take_add_one, hy]; rfl
          refine ⟨⟨by omega, hlt⟩, decide (x.1 ∈ (pl.pick mm l).take q), ?_, ?_⟩
          · rw [ekN, r8.rd, boolsL_get hkn, if_pos rfl]
          rw [splitB_iff]
          refine ⟨fun e3 => ⟨⟨by omega, hlt⟩, ok8, ?_⟩, fun e3 => ?_⟩
          · rw [mBind_iff]
            refine next true ?_
            rw [ht]
            have : x.1 ∈ (pl.pick mm l).take q := by simpa using e3
            simp [this]
          · obtain ⟨b, o, rfl, h0⟩ := (SlIs.keep hp k3m.wf k8).2 q (.int .i64 y) (by rw [List.getElem?_map, hy]; rfl)
            refine ⟨⟨by omega, by omega⟩, ?_⟩
            rw [vPtr_some]
            refine ⟨y, by rw [Int.toNat_natCast, Nat.mul_one]; exact h0, ⟨by omega, hlt⟩, ?_⟩
            obtain ⟨b', o', rfl, g0, _, _⟩ := (hl.keep hw (k3m.trans k8)).2 k _ hx
            rw [vPtr_some]
            refine ⟨x.1, by rw [Int.toNat_natCast]; exact g0, ⟨by omega, hlt⟩, ok8, ?_⟩
            rw [mBind_iff]
            refine next (eqI y x.1) ?_
            rw [ht]
            have h9 : x.1 ∉ (pl.pick mm l).take q := by simpa using e3
            rw [Bool.eq_iff_iff, eqI_true, decide_eq_true_iff, List.mem_append, List.mem_singleton]
            exact ⟨fun h => .inr h.symm, fun h => h.elim (fun h => absurd h h9) fun h => h.symm⟩
        · rw [ltI_false] at e2
          have hqe : q = np := by unfold lenI at e2; omega
          subst hqe
          have hrun : decide (x.1 ∈ (pl.pick mm l).take q) = runsF mm l k := by
            rw [List.take_of_length_le (by omega)]
            unfold runsF; rw [hx]
          have hrow : (boolsL n fun j => if j = k then decide (x.1 ∈ (pl.pick mm l).take q) else decide (j < k) && runsF mm l j) = boolsL n fun j => decide (j < k + 1) && runsF mm l j := by
            unfold boolsL
            refine List.map_congr_left fun j hj => ?_
            dsimp only
            by_cases e : j = k
            · subst e; rw [if_pos rfl, hrun]; simp
            · rw [if_neg e]
              have : decide (j < k) = decide (j < k + 1) := by rw [decide_eq_decide]; omega
              rw [this]
          rw [hrow] at r7
          have nxt : ∃ n_10 : Nat, n_10 < n - k ∧ ∃ k' : Nat, k' ≤ n ∧ addI .i64 (k : Int) 1 = (k' : Int) ∧ n_10 = n - k' ∧ Keep m3 m7 ∧ m3.nx < m7.nx ∧ Row m7 m3.nx (boolsL n fun j => decide (j < k') && runsF mm l j) 4 false :=
            ⟨n - (k + 1), less_w hkn, k + 1, hkn, inc64 (by omega), rfl, k7, n7, r7⟩
          obtain ⟨b', o', rfl, g0, _, g2⟩ := (hl.keep hw (k3m.trans k7)).2 k _ hx
          refine ⟨⟨by omega, by omega⟩, ?_⟩
          rw [vPtr_some]
          refine ⟨x.2.2, by rw [Int.toNat_natCast]; exact g2, ?_⟩
          rw [splitB_iff]
          refine ⟨fun hf => ⟨⟨by omega, by omega⟩, runsF mm l k, ?_, ?_⟩, fun _ => nxt⟩
          · rw [ekN, r7.rd, boolsL_get hkn]; simp
          · rw [splitB_iff]
            refine ⟨fun hr => ?_, fun _ => nxt⟩
            exfalso
            have h1 := (pl.mem_pick_id hg (List.mem_of_getElem? hx)).2 (pl.fixed_runs hg (List.mem_of_getElem? hx) hf)
            rw [← hrun, List.take_of_length_le (by omega)] at hr
            simp [h1] at hr
      · rw [ltI_false] at e
        have hke : k = n := by unfold lenI at e; omega
        subst hke
        have hrow : (boolsL k fun j => decide (j < k) && runsF mm l j) = boolsL k (runsF mm l) := by
          unfold boolsL
          refine List.map_congr_left fun j hj => ?_
          dsimp only
          rw [List.mem_range] at hj
          simp [hj]
        rw [hrow] at r6
        refine ⟨fun i m11 w => ∃ p : Nat, p ≤ k ∧ i = (p : Int) ∧ w = k - p ∧ Keep m6 m11, ⟨k, 0, Nat.zero_le _, rfl, rfl, Keep.refl k6.wf⟩, ?_⟩
        rintro i m11 w ⟨p, hp', rfl, rfl, k11⟩
        rw [splitB_iff]
        refine ⟨fun e2 => ?_, fun _ => rfl⟩
        rw [ltI_true] at e2
        have hpn : p < k := by unfold lenI at e2; omega
        obtain ⟨x, hx⟩ : ∃ x, l[p]? = some x := ⟨_, List.getElem?_eq_getElem (by omega)⟩
        refine ⟨fun i m12 w => ∃ q : Nat, q ≤ k ∧ i = (q : Int) ∧ w = k - q ∧ Keep m6 m12, ⟨k, 0, Nat.zero_le _, rfl, rfl, k11⟩, ?_⟩
        rintro i m12 w ⟨q, hq, rfl, rfl, k12⟩
        rw [splitB_iff]
        refine ⟨fun e3 => ?_, fun _ => ⟨k - (p + 1), less_w hpn, p + 1, hpn, inc64 (by omega), rfl, k12⟩⟩
        rw [ltI_true] at e3
        have hqn : q < k := by unfold lenI at e3; omega
        obtain ⟨y, hy⟩ : ∃ y, l[q]? = some y := ⟨_, List.getElem?_eq_getElem (by omega)⟩
        rw [mBind_iff]
        generalize hm13 : bump m12 30 = m13
        have k13 : Keep m6 m13 := hm13 ▸ k12.bump
        have r13 : Row m13 m3.nx (boolsL k (runsF mm l)) 4 false := k13.row k6.wf r6
        have hl13 := hl.keep hw ((k3m.trans k6).trans k13)
        have nxt : ∀ {m' : Mem}, Keep m6 m' → ∃ n_27 : Nat, n_27 < k - q ∧ ∃ q' : Nat, q' ≤ k ∧ addI .i64 (q : Int) 1 = (q' : Int) ∧ n_27 = k - q' ∧ Keep m6 m' :=
          fun km => ⟨k - (q + 1), less_w hqn, q + 1, hqn, inc64 (by omega), rfl, km⟩
        obtain ⟨b, o, rfl, x0, x1, x2⟩ := hl13.2 p _ hx
        obtain ⟨b', o', e', y0, y1, y2⟩ := hl13.2 q _ hy
        cases e'
        refine ⟨⟨by omega, by omega⟩, runsF mm l p, by rw [ekN, r13.rd, boolsL_get hpn], ?_⟩
        rw [splitB_iff]
        refine ⟨fun h1 => ⟨⟨by omega, by omega⟩, runsF mm l q, by rw [ekN, r13.rd, boolsL_get hqn], ?_⟩, fun _ => nxt k13⟩
        rw [splitB_iff]
        refine ⟨fun h2 => ⟨⟨by omega, by omega⟩, ?_⟩, fun _ => nxt k13⟩
        rw [vPtr_some]
        refine ⟨x.2.2, by rw [Int.toNat_natCast]; exact x2, ?_⟩
        rw [splitB_iff]
        refine ⟨fun h3 => ⟨⟨by omega, by omega⟩, ?_⟩, fun _ => nxt k13⟩
        rw [vPtr_some]
        refine ⟨y.1, by rw [Int.toNat_natCast]; exact y0, y.2.1, by rw [Int.toNat_natCast]; exact y1, y.2.2, by rw [Int.toNat_natCast]; exact y2, ⟨by omega, by omega⟩, ?_⟩
        rw [vPtr_some]
        refine ⟨x.1, by rw [Int.toNat_natCast]; exact x0, x.2.1, by rw [Int.toNat_natCast]; exact x1, x.2.2, by rw [Int.toNat_natCast]; exact x2, ?_⟩
        refine less_ok (x := y) (y := x) k13.wf fun m14 k14 => ⟨_, rfl, ?_⟩
        rw [splitB_iff]
        refine ⟨fun h4 => ?_, fun _ => nxt (k13.trans k14)⟩
        exfalso
        have hxm := List.mem_of_getElem? hx
        have hym := List.mem_of_getElem? hy
        unfold runsF at h1 h2
        rw [hx] at h1
        rw [hy] at h2
        have hxr : x ∈ pl.run mm l := (pl.mem_pick_id hg hxm).1 (by simpa using h1)
        have hyr : y ∉ pl.run mm l := fun h => by
          have := (pl.mem_pick_id hg hym).2 h
          simp [this] at h2
        have := (pl.best hg hxr hym hyr (by simpa using h3)).2.2
        rw [this] at h4; cases h4
    · rw [splitB_iff]
      refine ⟨fun e => main _ ?_, fun e => main _ ?_⟩
      · rw [ltI_true] at e; unfold lenI at *; omega
      · rw [ltI_false] at e; unfold lenI at e; omega
  · rw [splitB_iff]
    refine ⟨fun _ => rfl, fun e64 => ?_⟩
    rw [ltI_false] at e64
    refine good_ok hw hl fun m1 k1 => ⟨_, rfl, ?_⟩
    rw [splitB_iff]
    refine ⟨fun _ => rfl, fun e => hJ m1 k1 (goodB_iff.1 (by simpa using e)) (by unfold lenI at e64; omega)⟩

end Go.Proofs.Ytmjpkannhbaklaa.vc

namespace Go.Proofs.Ytmjpkannhbaklaa.edfBest
open Go Go.ChangeShapes Go.WideShapes Go.ChangeAt Go.RowKit Go.AX
set_option linter.unusedVariables false

theorem own : ownKnob Try.prog.godebug = none := by kernel_rfl

theorem walk {H : Type} {enc : TypeId × Value → H} (W : World) (args : Array Value) (ds : List (DataW H)) (p : List MemPlace) (hA : DataW.TrodAll enc Try.prog W 0 (fun _ => true) true [3, 22] args.toList ds p)
    (hval : ∀ (j : Nat) t v, ([3, 22] : List TypeId)[j]? = some t → args.toList[j]? = some v → Value.okWide Try.prog W .any 0 t v) :
    Calls Try.prog 3 args W (fun e w' => e = .returned (.bool true) ∧ Below W.heap.size W w') ∧ ∃ d1 d2, ds = [d1, d2] := by
  obtain ⟨l⟩ := args
  simp only at hA hval
  obtain ⟨v1, vs1, d1, ds1, p1, q1, rfl, rfl, rfl, h1, hA⟩ := trodAll_cons hA
  obtain ⟨v2, vs2, d2, ds2, p2, q2, rfl, rfl, rfl, h2, hA⟩ := trodAll_cons hA
  obtain ⟨rfl, rfl, rfl⟩ := trodAll_nil hA
  refine ⟨?_, d1, d2, rfl⟩
  obtain ⟨mm, rfl, _⟩ := open_int Try.underlying3 (hval 0 _ _ rfl rfl) h1
  obtain ⟨a, n, c, l, rfl, hg, hl, _⟩ := vc.ents_arg (hval 1 _ _ rfl rfl) h2
  refine open_true (ann := vc.A3) vc.cxOk vc.ovOk vc.hmix W _ (by kernel_rfl : vc.cx.fn.get 3 = some Try.f3) ?_ ?_
  · simp only [List.all_cons, hg]; rfl
  · exact Eq.mp (vc.F3_eq mm a n c _ _) (vc.best_law (mW_wf _ _) hl)

set_option maxRecDepth 100000 in
theorem lifted (os : Os) (started : os.Started) (H : Type) (enc : TypeId × Value → H) :
    ReturnsInHanded {} Try.checked os 3 .any (Rows.edfBestSpec.pre6 enc Try.prog Try.f3 Rows.edfBestRow.domain false) (Rows.edfBestSpec.post enc Try.prog Try.f3 false true false false) := by
  refine returnsInHanded_of_change (C := Try.checked) own started (by kernel_rfl) Try.func3
    (ChangeSpec.witness6 (enc := enc) (C := Try.checked) false ⟨#[], #[.int .i64 0, .slice none 0 0], []⟩ 8 (by kernel_rfl) (by kernel_rfl) (by kernel_rfl) (by kernel_rfl)) ?_
  intro W base args ds gs before hval0 hW hcnd _
  have hval : ∀ (j : Nat) t v, Try.f3.params[j]? = some t → args[j]? = some v → Value.okWide Try.prog W .any base t v := hval0
  have hW' := hW
  obtain ⟨p, q, hA0, hV, rfl, hfz, hnd⟩ := hW
  have hA : DataW.TrodAll enc Try.prog W 0 (fun _ => true) true Try.f3.params.toList args.toList ds p := hA0
  rw [Try.params3] at hA hval
  obtain ⟨rfl, rfl⟩ := trodVars_none hV
  clear hA0 hval0
  simp only [List.append_nil] at hW'
  have hval' : ∀ (j : Nat) t v, ([3, 22] : List TypeId)[j]? = some t → args.toList[j]? = some v → Value.okWide Try.prog W .any base t v := fun j t v h1 h2 => hval j t v (by simpa using h1) (by simpa using h2)
  obtain ⟨hc, d1, d2, rfl⟩ := walk (enc := enc) W args ds p hA hval'
  refine hc.mono fun e W' ⟨he, hg⟩ => ?_
  subst he
  exact ⟨_, rfl, post_law Try.underlying4 (by kernel_rfl) rfl rfl (by kernel_rfl) (by rw [Try.params3]; exact hW') (by rw [Try.params3]; exact hA) hg⟩

theorem over : Rows.edfBestRow.holds Try.pinned (OpenSpec.ofChange Rows.edfBestSpec) :=
  OpenClaim.holds_of_wide 3 Try.f3 rfl rfl rfl rfl rfl rfl rfl ⟨rfl, rfl, rfl, rfl, rfl⟩ rfl rfl rfl rfl rfl (by kernel_rfl) Try.func3 (by kernel_rfl)
    (of_decide_eq_true (by kernel_rfl)) (by unfold Func.isWrapper; first | (rw [if_pos (by decide +kernel)]; kernel_rfl) | (rw [if_neg (by decide +kernel)]; exact ⟨rfl, rfl⟩))
    (fun os started H enc _ => lifted os started H enc)

theorem proved : Rows.EdfBestSaid :=
  over
#print axioms proved
end Go.Proofs.Ytmjpkannhbaklaa.edfBest
