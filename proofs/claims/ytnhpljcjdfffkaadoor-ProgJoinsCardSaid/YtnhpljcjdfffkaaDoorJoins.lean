/-
  ProgJoins: of two programs one behind the other the ticks are both together, and the steps that hold.
-/
import Derived.Test.YtnhpljcjdfffkaaDoorArg
import Derived.Test.YtnhpljcjdfffkaaDoorPlain
namespace Go.Proofs.YtnhpljcjdfffkaaDoor.vc
open Go Go.AX
set_option linter.unusedVariables false
set_option linter.unusedSimpArgs false
set_option maxRecDepth 100000

theorem encS_all : ∀ l : List Stp2, (l.flatMap encS).all one1 = true
  | [] => rfl
  | x :: r => by
    rw [List.flatMap_cons, List.all_append, encS_all r]; rfl

theorem txt_len {l : List Stp2} (h : goodP l = true) : (txt l).length ≤ 400 := by
  obtain ⟨h1, h2, h3⟩ := goodP_len h
  unfold txt
  rw [if_pos h]
  have hj := join_len [43] (B := 43) (l := l.map txt1) (by
    intro x hx
    obtain ⟨y, hy, rfl⟩ := List.mem_map.1 hx
    exact txt1_len (h3 y hy))
  rw [List.length_map] at hj
  have : l.length * (43 + ([43] : List UInt8).length) ≤ 8 * 44 := Nat.mul_le_mul h2 (by simp)
  omega

theorem joins_law {m : Mem} {a a1 : Option Addr} {n c n1 c1 : Nat} {l k : List Stp2} (hw : Wf m) (hp : PowT m) (hP : PS m a n l) (hP1 : PS m a1 n1 k) (hn : n ≤ 9223372036854775807) (hn1 : n1 ≤ 9223372036854775807) : F5 a n c a1 n1 c1 m fun r _ => r = .bool true := by
  unfold F5
  refine awake_ok ⟨true, rfl, split_nb (fun h => by cases h) (fun _ => ?_)⟩
  have hl := hP.1
  have hl1 := hP1.1
  refine joinK_of' (fun J => goodP l = true → goodP k = true → l.length + k.length ≤ 8 → ∀ m', Keep m m' → J m') (fun h1 h2 h3 m2 k2 => ?_) (fun J hJ => ?_)
  · obtain ⟨g1, g2, g3⟩ := goodP_len h1
    obtain ⟨q1, q2, q3⟩ := goodP_len h2
    have hgj := goodP_append h1 h2 h3
    rw [mBind_iff]
    generalize hm3 : newO m2 (row [] 39 false) = m3
    have k3 : Keep m m3 := hm3 ▸ k2.newO
    have r3 : Row m3 m2.nx [] 39 false := hm3 ▸ Row.newO
    have hf := Arr.first encS_len (by omega) (hP.keep hw k3) (c := c)
    obtain ⟨m4, e4, A4⟩ := append_new (cx := cx) (t := 22) (tx := 22) (e := 39) (s := 2) (o := 0) (k := n) (x := .slice a n c) k3 r3 (by kernel_rfl) (by kernel_rfl) rfl hf (by rw [flat_length encS_len, hl]) (encS_all l) (by omega) (by omega)
    refine ⟨_, _, _, m4, e4, ?_⟩
    have hf1 := Arr.first encS_len (by omega) (hP1.keep hw A4.keep) (c := c1)
    obtain ⟨m5, e5, A5⟩ := grow_ok (cx := cx) (t := 22) (tx := 22) (k := n1) (x := .slice a1 n1 c1) A4.keep A4.grow (by intro b hb; have := k3.nx; simp [blk] at hb; omega) (by kernel_rfl) (by kernel_rfl) rfl hf1 (by rw [flat_length encS_len, hl1]) (encS_all k) (by omega) (by omega)
    refine ⟨_, _, _, m5, e5, ?_⟩
    have k5 := A5.keep
    have hG5 := A5.grow
    rw [← List.flatMap_append] at hG5
    have hJ5 : PS m5 _ _ (l ++ k) := Arr.of_grow encS_len (by omega) hG5
    generalize (some ⟨m4.nx, 0, none⟩ : Option Addr) = aj at hJ5 ⊢
    refine good_ok k5.wf hJ5 fun m6 k6 => ⟨_, rfl, ?_⟩
    rw [hgj, splitB_true]
    have kk6 := k5.trans k6
    refine total_ok kk6.wf (hJ5.keep k5.wf k6) fun m7 k7 => ⟨_, rfl, ?_⟩
    have kk7 := kk6.trans k7
    refine total_ok kk7.wf (hP.keep hw kk7) fun m8 k8 => ⟨_, rfl, ?_⟩
    have kk8 := kk7.trans k8
    refine total_ok kk8.wf (hP1.keep hw kk8) fun m9 k9 => ⟨_, rfl, ?_⟩
    have kk9 := kk8.trans k9
    have ht : total (l ++ k) = addI .i64 (total l) (total k) := by
      have s1 := sum_bound g3
      have s2 := sum_bound q3
      unfold total
      rw [if_pos h1, if_pos h2, if_pos hgj, List.map_append, List.sum_append, addI_64 (by omega) (by omega)]
    rw [ht, eqI_true.2 rfl, splitB_true]
    have j9 := ((k6.trans k7).trans k8).trans k9
    refine holds_ok kk9.wf (hJ5.keep k5.wf j9) fun m10 k10 => ⟨_, rfl, ?_⟩
    have kk10 := kk9.trans k10
    refine holds_ok kk10.wf (hP.keep hw kk10) fun m11 k11 => ⟨_, rfl, ?_⟩
    have kk11 := kk10.trans k11
    refine holds_ok kk11.wf (hP1.keep hw kk11) fun m12 k12 => ⟨_, rfl, ?_⟩
    have kk12 := kk11.trans k12
    have hh : holds (l ++ k) = addI .i64 (holds l) (holds k) := by
      unfold holds
      rw [if_pos h1, if_pos h2, if_pos hgj, List.filter_append, List.length_append]
      have f1 := List.length_filter_le (fun x : Stp2 => decide (0 < x.1)) l
      have f2 := List.length_filter_le (fun x : Stp2 => decide (0 < x.1)) k
      rw [addI_64 (by omega) (by omega)]; simp
    rw [hh, eqI_true.2 rfl, splitB_true]
    have j12 := ((j9.trans k10).trans k11).trans k12
    refine text_ok kk12.wf (hp.keep hw kk12) (hJ5.keep k5.wf j12) fun m13 k13 => ⟨_, rfl, ?_⟩
    have kk13 := kk12.trans k13
    have tl := txt_len h1
    have tk := txt_len h2
    refine text_ok kk13.wf (hp.keep hw kk13) (hP.keep hw kk13) fun m14 k14 => ⟨_, rfl, by show (txt l).length + 1 ≤ _; omega, ?_⟩
    have kk14 := kk13.trans k14
    refine text_ok kk14.wf (hp.keep hw kk14) (hP1.keep hw kk14) fun m15 k15 => ⟨_, rfl, by show (txt l ++ [43]).length + (txt k).length ≤ _; rw [List.length_append]; simp only [List.length_singleton]; omega, ?_⟩
    have : txt (l ++ k) = txt l ++ [43] ++ txt k := by
      unfold txt
      rw [if_pos h1, if_pos h2, if_pos hgj, List.map_append, join_append (by intro e; rw [List.map_eq_nil_iff] at e; rw [e] at g1; simp at g1) (by intro e; rw [List.map_eq_nil_iff] at e; rw [e] at q1; simp at q1)]
    show Value.bool (eqS (bs (txt (l ++ k))) (bs (txt l ++ [43] ++ txt k))) = _
    rw [this, eqS_bs.2 rfl]
  · refine good_ok hw hP fun m1 k1 => ⟨_, rfl, split_nb (fun _ => rfl) (fun h1 => ?_)⟩
    refine good_ok k1.wf (hP1.keep hw k1) fun m2 k2 => ⟨_, rfl, split_nb (fun _ => rfl) (fun h2 => ?_)⟩
    obtain ⟨g1, g2, g3⟩ := goodP_len h1
    obtain ⟨q1, q2, q3⟩ := goodP_len h2
    simp only [lenI]
    refine split_ltI (fun _ => trivial) (fun h3 => ?_)
    rw [addI_64 (by omega) (by omega)] at h3
    exact hJ h1 h2 (by omega) _ (k1.trans k2)

end Go.Proofs.YtnhpljcjdfffkaaDoor.vc

namespace Go.Proofs.YtnhpljcjdfffkaaDoor.progJoins
open Go Go.ChangeShapes Go.WideShapes Go.ChangeAt Go.RowKit Go.AX
set_option linter.unusedVariables false

set_option maxRecDepth 100000 in
theorem walk {H : Type} {enc : TypeId × Value → H} (W : World) (args : Array Value) (ds : List (DataW H)) (p : List MemPlace) (hL : laidMetH Tryd.prog Rows.progJoinsRow.laid W) (hA : DataW.TrodAll enc Tryd.prog W 0 (fun _ => true) true [22, 22] args.toList ds p)
    (hval : ∀ (j : Nat) t v, ([22, 22] : List TypeId)[j]? = some t → args.toList[j]? = some v → Value.okWide Tryd.prog W .any 0 t v) :
    Calls Tryd.prog 5 args W (fun e w' => e = .returned (.bool true) ∧ Below W.heap.size W w') ∧ ∃ d1 d2, ds = [d1, d2] := by
  obtain ⟨l⟩ := args
  simp only at hA hval
  obtain ⟨v1, vs1, d1, ds1, p1, q1, rfl, rfl, rfl, h1, hA⟩ := trodAll_cons hA
  obtain ⟨v2, vs2, d2, ds2, p2, q2, rfl, rfl, rfl, h2, hA⟩ := trodAll_cons hA
  obtain ⟨rfl, rfl, rfl⟩ := trodAll_nil hA
  refine ⟨?_, d1, d2, rfl⟩
  have htab := vc.powT_at rfl hL
  obtain ⟨a, n, c, l, rfl, hn, hg, hP, _⟩ := vc.steps_arg (hval 0 _ _ rfl rfl) h1
  obtain ⟨a', n', c', l', rfl, hn', hg', hP', _⟩ := vc.steps_arg (hval 1 _ _ rfl rfl) h2
  refine open_true (ann := vc.A5) vc.cxOk vc.ovOk vc.hmix W _ (by kernel_rfl : vc.cx.fn.get 5 = some Tryd.f5) ?_ ?_
  · simp only [List.all_cons, hg, hg']; rfl
  · exact Eq.mp (vc.F5_eq a n c a' n' c' _ _) (vc.joins_law (mW_wf _ _) htab hP hP' (by unfold maxLen at hn; omega) (by unfold maxLen at hn'; omega))

set_option maxRecDepth 100000 in
theorem lifted (os : Os) (started : os.Started) (H : Type) (enc : TypeId × Value → H) :
    ReturnsInHanded {} Tryd.checked os 5 .any (fun w args => (Rows.progJoinsSpec.pre enc Tryd.prog Tryd.f5 [] false w args ∧ laidMetH Tryd.prog Rows.progJoinsRow.laid w) ∧ sizedMet enc Tryd.prog Tryd.f5 (OpenSpec.ofChange Rows.progJoinsSpec) false w args)
      (Rows.progJoinsSpec.post enc Tryd.prog Tryd.f5 false true false false) := by
  refine returnsInHanded_of_change_and (C := Tryd.checked) (X := fun w _ => laidMetH Tryd.prog Rows.progJoinsRow.laid w) (fun _ _ _ hh h => h.of_heap hh) vc.own started (by kernel_rfl) Tryd.func5
    (ChangeSpec.witness_shaped (enc := enc) (C := Tryd.checked) (os := os) (X := fun w _ => laidMetH Tryd.prog Rows.progJoinsRow.laid w) false (World.laidAll Tryd.prog os Rows.progJoinsRow.laid) #[.slice none 0 0, .slice none 0 0] 8 (World.laidAll_os _ _ _)
      (World.shaped_of_ZipB (by kernel_rfl) (by kernel_rfl)) (by kernel_rfl) (by kernel_rfl) (by kernel_rfl)
      (by rw [MakeChecks.laidMetH_plain _ _ _ (by kernel_rfl)]; exact laidMet_laidAll _ (by kernel_rfl) (by kernel_rfl))) ?_
  intro W base args ds gs before hval0 hW hcnd _ hL _
  have hval : ∀ (j : Nat) t v, Tryd.f5.params[j]? = some t → args[j]? = some v → Value.okWide Tryd.prog W .any base t v := hval0
  have hW' := hW
  obtain ⟨p, q, hA0, hV, rfl, hfz, hnd⟩ := hW
  have hA : DataW.TrodAll enc Tryd.prog W 0 (fun _ => true) true Tryd.f5.params.toList args.toList ds p := hA0
  rw [Tryd.params5] at hA hval
  obtain ⟨rfl, rfl⟩ := trodVars_none hV
  clear hA0 hval0
  simp only [List.append_nil] at hW'
  have hval' : ∀ (j : Nat) t v, ([22, 22] : List TypeId)[j]? = some t → args.toList[j]? = some v → Value.okWide Tryd.prog W .any base t v := fun j t v h1 h2 => hval j t v (by simpa using h1) (by simpa using h2)
  obtain ⟨hc, d1, d2, rfl⟩ := walk (enc := enc) W args ds p hL hA hval'
  refine hc.mono fun e W' ⟨he, hg⟩ => ?_
  subst he
  exact ⟨_, rfl, post_law Tryd.underlying4 (by kernel_rfl) rfl rfl (by kernel_rfl) (by rw [Tryd.params5]; exact hW') (by rw [Tryd.params5]; exact hA) hg⟩

theorem over : Rows.ProgJoinsSaid :=
  OpenClaim.holds_of_wide 5 Tryd.f5 rfl rfl rfl rfl rfl rfl rfl ⟨rfl, rfl, rfl, rfl, rfl⟩ rfl rfl rfl rfl rfl (by kernel_rfl) Tryd.func5 (by kernel_rfl)
    (of_decide_eq_true (by kernel_rfl)) (by unfold Func.isWrapper; first | (rw [if_pos (by decide +kernel)]; kernel_rfl) | (rw [if_neg (by decide +kernel)]; exact ⟨rfl, rfl⟩))
    (fun os started H enc _ => lifted os started H enc)

theorem plain : (Tryd.f5.params.toList.all fun t => !Tryd.prog.wantsStandIn t) = true := by kernel_rfl

theorem proved : Rows.ProgJoinsCardSaid :=
  Claim7.holds_tied_plain_at .later [] [.data, .data, .data, .data, .sentinel, .sentinel, .pinned] true (true, "8248196fa21c704be0958aeea8beb9695ba8342e99601f03b44f02d8f6aae9e5") true
    over (fun _ h => by cases h) (by kernel_rfl) (fun _ h => by cases h) progJoins_row_tie rfl ⟨rfl, rfl⟩ (by kernel_rfl) rfl
    (fun f fn hf hfn => by
      obtain rfl : f = 5 := Option.some.inj ((show Tryd.prog.funcNamed "beadle/beadlelaw10.ProgJoins" = some 5 by kernel_rfl).symm.trans hf) |>.symm
      obtain rfl : fn = Tryd.f5 := (Option.some.inj (Tryd.func5.symm.trans hfn)).symm
      exact ⟨by kernel_rfl, fun j t ht => by
        have := List.all_eq_true.1 plain t (List.mem_of_getElem? (by simpa using ht))
        exact (show Tryd.prog.wantsStandIn t = false by simpa using this)⟩)
    (by kernel_rfl)
#print axioms proved
end Go.Proofs.YtnhpljcjdfffkaaDoor.progJoins
