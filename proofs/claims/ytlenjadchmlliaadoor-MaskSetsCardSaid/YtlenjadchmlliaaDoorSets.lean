/-
  'Rows.MaskSetsCardSaid': the law MaskSets, called where the library's tables stand as the program's text lays them, returns true and leaves its arguments. No further condition narrows it.
-/
import Derived.Test.YtlenjadchmlliaaDoorMask
import Derived.Test.YtlenjadchmlliaaDoorDoor
import Derived.Test.YtlenjadchmlliaaDoorCards
import Derived.Test.YtlenjadchmlliaaDoorTie
namespace Go.Proofs.YtlenjadchmlliaaDoor.vc
open Go Go.AX
set_option linter.unusedVariables false
set_option linter.unusedSimpArgs false

/-- one step of the set: put in or taken out -/
def upd (x : Nat) (v : Int) (b : Bool) : Nat := if b then x ||| bitW v else x &&& (18446744073709551615 - bitW v)

theorem upd_lt {x : Nat} {v : Int} {b : Bool} (hx : x < 18446744073709551616) : upd x v b < 18446744073709551616 := by
  unfold upd
  split
  · exact Nat.or_lt_two_pow (n := 64) hx (bitW_lt v)
  · exact Nat.lt_of_le_of_lt Nat.and_le_left hx

theorem upd_testBit {x : Nat} {v : Int} {b : Bool} {j : Nat} (hj : j < 64) : (upd x v b).testBit j = if (j : Int) = v then b else x.testBit j := by
  unfold upd
  cases b with
  | true =>
    rw [if_pos rfl, Nat.testBit_or, testBit_bitW]
    by_cases h : (j : Int) = v
    · simp [h, hj]
    · simp [h]
  | false =>
    have e : 18446744073709551615 - bitW v = 2 ^ 64 - (bitW v + 1) := by omega
    rw [if_neg (by decide), Nat.testBit_and, e, Nat.testBit_two_pow_sub_succ (bitW_lt v), testBit_bitW]
    by_cases h : (j : Int) = v
    · simp [h, hj]
    · simp [h, hj]

def boolsOf (x : Nat) : List Value := (List.range 64).map fun j => Value.bool (x.testBit j)

theorem boolsOf_get {x j : Nat} (h : j < 64) : (boolsOf x)[j]? = some (.bool (x.testBit j)) := by
  unfold boolsOf
  rw [List.getElem?_map, List.getElem?_range h]; rfl

theorem boolsOf_length (x : Nat) : (boolsOf x).length = 64 := by unfold boolsOf; simp

theorem boolsOf_in {x : Nat} {v : Int} {b : Bool} (h0 : 0 ≤ v) (h1 : v < 64) : (boolsOf x).set v.toNat (.bool b) = boolsOf (upd x v b) := by
  apply List.ext_getElem?
  intro j
  rw [List.getElem?_set, boolsOf_length]
  by_cases hj : j < 64
  · rw [boolsOf_get hj, boolsOf_get hj, upd_testBit hj]
    by_cases h : v.toNat = j
    · rw [if_pos h, if_pos (by omega), if_pos (by omega)]
    · rw [if_neg h, if_neg (by omega)]
  · rw [if_neg (by omega)]
    rw [List.getElem?_eq_none (by rw [boolsOf_length]; omega), List.getElem?_eq_none (by rw [boolsOf_length]; omega)]

theorem boolsOf_out {x : Nat} {v : Int} {b : Bool} (h : ¬ (0 ≤ v ∧ v < 64)) : boolsOf (upd x v b) = boolsOf x := by
  apply List.ext_getElem?
  intro j
  by_cases hj : j < 64
  · rw [boolsOf_get hj, boolsOf_get hj, upd_testBit hj, if_neg (by omega)]
  · rw [List.getElem?_eq_none (by rw [boolsOf_length]; omega), List.getElem?_eq_none (by rw [boolsOf_length]; omega)]

theorem joinK_intro {α : Type} {j : α} {f : α → Prop} (R : α → Prop) (hj : R j) (hf : ∀ J, R J → f J) : joinK j f := hf j hj

theorem sets_law {m : Mem} {Q : Value → Mem → Prop} (hw : Wf m) (ht : tabsIn tabs m) {a0 a1 : Option Addr} {n0 c0 n1 c1 : Nat} {is : List Int} {bs : List Bool}
    (h0 : SlIs m a0 n0 (is.map (.int .i64 ·))) (h1 : SlIs m a1 n1 (bs.map (.bool ·))) (hq : ∀ m', Q (.bool true) m') : F3 a0 n0 c0 a1 n1 c1 m Q := by
  unfold F3
  refine trueT_ok ov8 ht ⟨true, rfl, ?_⟩
  rw [splitB_iff]
  refine ⟨(fun e => nomatch e), fun _ => ?_⟩
  refine joinK_intro (fun J => n0 ≤ 100 → n1 = n0 → J m) ?_ ?_
  rotate_left
  · intro J hJ
    simp only [splitB_iff, ltI_true, ltI_false, neI_true, neI_false]
    exact ⟨fun _ => hq _, fun h2 => ⟨fun _ => hq _, fun h3 => hJ (by unfold lenI at h2; omega) (by unfold lenI at h3; omega)⟩⟩
  intro hn0 hn1
  subst hn1
  rw [mBind_iff]
  generalize hm3 : newO m _ = m3
  have hw3 : Wf m3 := hm3 ▸ hw.newO
  have hR3 : Row m3 m.nx (boolsOf 0) 27 false := hm3 ▸ Row.newO
  have g3 : ∀ b, b < m.nx → m3.hp.get b = m.hp.get b := fun b hb => by rw [← hm3, newO_get, if_neg (by omega)]
  have fl3 : m3.fl = m.fl := by rw [← hm3]; rfl
  clear hm3
  refine ⟨fun x5 x7 m4 k => ∃ x i : Nat, x5 = (x : Int) ∧ x < 18446744073709551616 ∧ x7 = (i : Int) ∧ i ≤ n1 ∧ k = n1 - i ∧ Wf m4 ∧ Row m4 m.nx (boolsOf x) 27 false ∧ m4.fl = m.fl ∧ ∀ b, b < m.nx → m4.hp.get b = m.hp.get b, ⟨n1, 0, 0, rfl, by omega, rfl, by omega, by omega, hw3, hR3, fl3, g3⟩, ?_⟩
  rintro _ _ m4 k ⟨x, i, rfl, hx, rfl, hi, rfl, hw4, hR4, fl4, g4⟩
  rw [splitB_iff]
  refine ⟨fun hlt => ?_, fun hge => ?_⟩
  · rw [ltI_true] at hlt
    have hin : i < n1 := by unfold lenI at hlt; omega
    have l0 : is.length = n1 := by have := h0.1; simpa using this
    have l1 : bs.length = n1 := by have := h1.1; simpa using this
    obtain ⟨v, hv⟩ : ∃ v, is[i]? = some v := ⟨_, List.getElem?_eq_getElem (by omega)⟩
    obtain ⟨b, hb⟩ : ∃ b, bs[i]? = some b := ⟨_, List.getElem?_eq_getElem (by omega)⟩
    obtain ⟨ba0, oa0, rfl, r0⟩ := h0.2 i (.int .i64 v) (by rw [List.getElem?_map, hv]; rfl)
    obtain ⟨ba1, oa1, rfl, r1⟩ := h1.2 i (.bool b) (by rw [List.getElem?_map, hb]; rfl)
    have b0 : ba0 < m.nx := hw.rd r0
    have b1 : ba1 < m.nx := hw.rd r1
    have rd0 : ∀ M : Mem, (∀ b, b < m.nx → M.hp.get b = m.hp.get b) → rd M ba0 (oa0 + Int.toNat (i : Int) * 1) = some (.int .i64 v) := fun M hM => by
      rw [rd_congr (hM ba0 b0), Int.toNat_natCast, Nat.mul_one]; exact r0
    have rd1 : ∀ M : Mem, (∀ b, b < m.nx → M.hp.get b = m.hp.get b) → rd M ba1 (oa1 + Int.toNat (i : Int) * 1) = some (.bool b) := fun M hM => by
      rw [rd_congr (hM ba1 b1), Int.toNat_natCast, Nat.mul_one]; exact r1
    have bd : (0 : Int) ≤ (i : Int) ∧ (i : Int) < ((n1 : Nat) : Int) := ⟨by omega, by omega⟩
    have nxt : addI .i64 (i : Int) 1 = ((i + 1 : Nat) : Int) := by rw [addI_64 (by omega) (by omega)]; omega
    have hk : n1 - (i + 1) < n1 - i := Nat.sub_lt_sub_left hin (Nat.lt_succ_self i)
    have hi1 : i + 1 ≤ n1 := hin
    refine joinK_intro (fun J => ∀ y : Nat, y = upd x v b → J y m4) ?_ ?_
    · rintro y rfl
      have hy := upd_lt (v := v) (b := b) hx
      refine joinK_intro (fun J => ∀ c, c = decide (0 ≤ v ∧ v < 64) → J c m4) ?_ ?_
      · rintro c rfl
        rw [splitB_iff]
        refine ⟨fun hc => ?_, fun hc => ?_⟩
        · have hc := of_decide_eq_true hc
          rw [mBind_iff]
          refine ⟨bd, ?_⟩
          rw [vPtr_some]
          refine ⟨v, rd0 _ (by simpa using g4), bd, ?_⟩
          rw [vPtr_some]
          refine ⟨b, rd1 _ (by simpa using g4), ⟨hc.1, hc.2⟩, ?_⟩
          have hR7 : Row (bump m4 10) m.nx (boolsOf x) 27 false := hR4
          have hlen : 0 + v.toNat * 1 < (boolsOf x).length := by rw [boolsOf_length]; omega
          refine ⟨hR7.okW (by rw [show (bump m4 10).fl = m.fl from fl4]; exact hw.1) (by omega), ?_⟩
          rw [mBind_iff]
          generalize hm8 : AX.wr (bump m4 10) m.nx _ _ = m8
          have hR8 : Row m8 m.nx (boolsOf (upd x v b)) 27 false := by
            have := hR7.wr1 (v := .bool b) hlen
            rw [hm8, Nat.zero_add, Nat.mul_one, boolsOf_in hc.1 hc.2] at this
            exact this
          refine ⟨n1 - (i + 1), hk, upd x v b, i + 1, rfl, hy, nxt, hi1, rfl, hm8 ▸ hw4.bump.wr, hR8, by rw [← hm8]; simpa using fl4, fun b hb => by rw [← hm8, wr_get (by omega)]; exact g4 b hb⟩
        · have hc := of_decide_eq_false hc
          exact ⟨n1 - (i + 1), hk, upd x v b, i + 1, rfl, hy, nxt, hi1, rfl, hw4, by rw [boolsOf_out hc]; exact hR4, fl4, g4⟩
      · intro J hJ
        refine ⟨bd, ?_⟩
        rw [vPtr_some]
        refine ⟨v, rd0 _ g4, ?_⟩
        rw [splitB_iff]
        refine ⟨fun h2 => ⟨bd, ?_⟩, fun h2 => ?_⟩
        · rw [leI_true] at h2
          rw [vPtr_some]
          refine ⟨v, rd0 _ g4, hJ _ ?_⟩
          unfold ltI
          exact decide_eq_decide.2 ⟨fun h => ⟨h2, h⟩, fun h => h.2⟩
        · rw [leI_false] at h2
          exact hJ _ (decide_eq_false (by omega)).symm
    · intro J hJ
      refine ⟨bd, ?_⟩
      rw [vPtr_some]
      refine ⟨b, rd1 _ g4, ?_⟩
      rw [splitB_iff]
      refine ⟨?_, ?_⟩
      · rintro rfl
        refine ⟨bd, ?_⟩
        rw [vPtr_some]
        refine ⟨v, rd0 _ g4, with_ok hx ⟨_, rfl, hJ _ rfl⟩⟩
      · rintro rfl
        refine ⟨bd, ?_⟩
        rw [vPtr_some]
        refine ⟨v, rd0 _ g4, without_ok hx ⟨_, rfl, hJ _ rfl⟩⟩
  · refine ⟨fun x8 x9 m11 k => ∃ j : Nat, x8 = (pop j x : Nat) ∧ x9 = (j : Int) ∧ j ≤ 64 ∧ k = 64 - j ∧ Row m11 m.nx (boolsOf x) 27 false, ⟨64, 0, rfl, rfl, by omega, by omega, hR4⟩, ?_⟩
    rintro _ _ m11 k ⟨j, rfl, rfl, hj, rfl, hR⟩
    rw [splitB_iff]
    refine ⟨fun hlt => ?_, fun hge => ?_⟩
    · rw [ltI_true] at hlt
      have hj' : j < 64 := by omega
      have bd : (0 : Int) ≤ (j : Int) ∧ (j : Int) < ((64 : Nat) : Int) := ⟨by omega, by omega⟩
      have hrd : ∀ M : Mem, M.hp = m11.hp → rd M m.nx (0 + Int.toNat (j : Int) * 1) = some (.bool (x.testBit j)) := fun M hM => by
        rw [rd_congr (m := m11) (m' := M) (by rw [hM]), hR.rd, Int.toNat_natCast, Nat.mul_one, Nat.zero_add, boolsOf_get hj']
      have nxt : addI .i64 (j : Int) 1 = ((j + 1 : Nat) : Int) := by rw [addI_64 (by omega) (by omega)]; omega
      refine joinK_intro (fun J => J ((pop (j + 1) x : Nat) : Int) m11) ?_ ?_
      · rw [mBind_iff]
        refine has_ok hx ⟨_, rfl, bd, _, hrd _ rfl, ?_⟩
        have e : hasB x (j : Int) = x.testBit j := by
          unfold hasB
          rw [decide_eq_true (by omega), decide_eq_true (by omega), Int.toNat_natCast]; rfl
        rw [e, splitB_iff]
        refine ⟨fun h => by simp at h, fun _ => ?_⟩
        exact ⟨64 - (j + 1), by omega, j + 1, rfl, nxt, by omega, rfl, hR⟩
      · intro J hJ
        refine ⟨bd, _, hrd _ rfl, ?_⟩
        rw [pop_bit] at hJ
        have hp : pop j x ≤ j := by
          clear hJ hrd nxt bd hlt hR
          induction j with
          | zero => exact Nat.le_refl _
          | succ j ih => rw [pop_bit]; have := ih (by omega) (by omega); split <;> omega
        cases hb : x.testBit j with
        | true =>
          rw [splitB_true]
          rw [hb, if_pos rfl] at hJ
          rw [addI_64 (by omega) (by omega)]
          exact_mod_cast hJ
        | false =>
          rw [splitB_false]
          rw [hb] at hJ
          exact hJ
    · rw [ltI_false] at hge
      have : j = 64 := by omega
      subst this
      refine len_ok hx ⟨_, rfl, ?_⟩
      rw [eqI_true.2 rfl]
      exact hq _

end Go.Proofs.YtlenjadchmlliaaDoor.vc

namespace Go.Proofs.YtlenjadchmlliaaDoor.maskSets
open Go Go.ChangeShapes Go.WideShapes Go.ChangeAt Go.RowKit Go.AX
set_option linter.unusedVariables false

theorem walk {H : Type} {enc : TypeId × Value → H} (W : World) (args : Array Value) (ds : List (DataW H)) (p : List MemPlace) (hL : laidMetH Tryd.prog Rows.maskSetsRow.laid W) (hA : DataW.TrodAll enc Tryd.prog W 0 (fun _ => true) true [22, 23] args.toList ds p)
    (hval : ∀ (j : Nat) t v, ([22, 23] : List TypeId)[j]? = some t → args.toList[j]? = some v → Value.okWide Tryd.prog W .any 0 t v) :
    Calls Tryd.prog 3 args W (fun e w' => e = .returned (.bool true) ∧ Below W.heap.size W w') ∧ ∃ d1 d2, ds = [d1, d2] := by
  obtain ⟨l⟩ := args
  simp only at hA hval
  obtain ⟨v1, vs1, d1, ds1, p1, q1, rfl, rfl, rfl, h1, hA⟩ := trodAll_cons hA
  obtain ⟨v2, vs2, d2, ds2, p2, q2, rfl, rfl, rfl, h2, hA⟩ := trodAll_cons hA
  obtain ⟨rfl, rfl, rfl⟩ := trodAll_nil hA
  refine ⟨?_, d1, d2, rfl⟩
  have htab := vc.tabs_at rfl hL
  obtain ⟨a, n, c, is, rfl, _, hg, he, hok⟩ := ints_arg Tryd.underlying22 Tryd.underlying3 (by kernel_rfl) (hval 0 _ _ rfl rfl) h1
  obtain ⟨a', n', c', bs, rfl, _, hg', he'⟩ := bools_arg Tryd.underlying23 Tryd.underlying4 (by kernel_rfl) (hval 1 _ _ rfl rfl) h2
  refine open_true (ann := vc.A3) vc.cxOk vc.ovOk vc.hmix W _ (by kernel_rfl : vc.cx.fn.get 3 = some Tryd.f3) ?_ ?_
  · simp only [List.all_cons, hg, hg']; rfl
  · exact Eq.mp (vc.F3_eq a n c a' n' c' _ _) (vc.sets_law (mW_wf _ _) htab he he' (fun _ => rfl))

set_option maxRecDepth 100000 in
theorem lifted (os : Os) (started : os.Started) (H : Type) (enc : TypeId × Value → H) :
    ReturnsInHanded {} Tryd.checked os 3 .any (fun w args => (Rows.maskSetsSpec.pre enc Tryd.prog Tryd.f3 [] false w args ∧ laidMetH Tryd.prog Rows.maskSetsRow.laid w) ∧ sizedMet enc Tryd.prog Tryd.f3 (OpenSpec.ofChange Rows.maskSetsSpec) false w args)
      (Rows.maskSetsSpec.post enc Tryd.prog Tryd.f3 false true false false) := by
  refine returnsInHanded_of_change_and (C := Tryd.checked) (X := fun w _ => laidMetH Tryd.prog Rows.maskSetsRow.laid w) (fun _ _ _ hh h => h.of_heap hh) vc.own started (by kernel_rfl) Tryd.func3
    (ChangeSpec.witness_shaped (enc := enc) (C := Tryd.checked) (os := os) (X := fun w _ => laidMetH Tryd.prog Rows.maskSetsRow.laid w) false (World.doorLaid Tryd.prog 24 os) #[.slice none 0 0, .slice none 0 0] 8 rfl (World.shaped_of_RefB (by kernel_rfl) (by kernel_rfl)) (by kernel_rfl) (by kernel_rfl) (by kernel_rfl) (vc.door_met os _)) ?_
  intro W base args ds gs before hval0 hW hcnd _ hL _
  have hval : ∀ (j : Nat) t v, Tryd.f3.params[j]? = some t → args[j]? = some v → Value.okWide Tryd.prog W .any base t v := hval0
  have hW' := hW
  obtain ⟨p, q, hA0, hV, rfl, hfz, hnd⟩ := hW
  have hA : DataW.TrodAll enc Tryd.prog W 0 (fun _ => true) true Tryd.f3.params.toList args.toList ds p := hA0
  rw [Tryd.params3] at hA hval
  obtain ⟨rfl, rfl⟩ := trodVars_none hV
  clear hA0 hval0
  simp only [List.append_nil] at hW'
  have hval' : ∀ (j : Nat) t v, ([22, 23] : List TypeId)[j]? = some t → args.toList[j]? = some v → Value.okWide Tryd.prog W .any base t v := fun j t v h1 h2 => hval j t v (by simpa using h1) (by simpa using h2)
  obtain ⟨hc, d1, d2, rfl⟩ := walk (enc := enc) W args ds p hL hA hval'
  refine hc.mono fun e W' ⟨he, hg⟩ => ?_
  subst he
  exact ⟨_, rfl, post_law Tryd.underlying4 (by kernel_rfl) rfl rfl (by kernel_rfl) (by rw [Tryd.params3]; exact hW') (by rw [Tryd.params3]; exact hA) hg⟩

theorem over : Rows.MaskSetsSaid :=
  OpenClaim.holds_of_wide 3 Tryd.f3 rfl rfl rfl rfl rfl rfl rfl ⟨rfl, rfl, rfl, rfl, rfl⟩ rfl rfl rfl rfl rfl (by kernel_rfl) Tryd.func3 (by kernel_rfl)
    (of_decide_eq_true (by kernel_rfl)) (by unfold Func.isWrapper; first | (rw [if_pos (by decide +kernel)]; kernel_rfl) | (rw [if_neg (by decide +kernel)]; exact ⟨rfl, rfl⟩))
    (fun os started H enc _ => lifted os started H enc)

theorem plain : (Tryd.f3.params.toList.all fun t => !Tryd.prog.wantsStandIn t) = true := by kernel_rfl

theorem proved : Rows.MaskSetsCardSaid :=
  Claim7.holds_tied_plain_at .later [] [.data, .data, .data] true (true, "03d43ed8b915a9594593e4a6da3b2d9b0d6915be055e58c22c4e7135fb6a2efe") false
    over (fun _ h => by cases h) (by kernel_rfl) (fun _ h => by cases h) maskSets_row_tie rfl ⟨rfl, rfl⟩ (by kernel_rfl) rfl
    (fun f fn hf hfn => by
      obtain rfl : f = 3 := Option.some.inj ((show Tryd.prog.funcNamed "beadle/beadlelaw3.MaskSets" = some 3 by kernel_rfl).symm.trans hf) |>.symm
      obtain rfl : fn = Tryd.f3 := (Option.some.inj (Tryd.func3.symm.trans hfn)).symm
      exact ⟨by kernel_rfl, fun j t ht => by
        have := List.all_eq_true.1 plain t (List.mem_of_getElem? (by simpa using ht))
        exact (show Tryd.prog.wantsStandIn t = false by simpa using this)⟩)
    (by kernel_rfl)
#print axioms proved
end Go.Proofs.YtlenjadchmlliaaDoor.maskSets
