/-
  'Rows.MaskNthsCardSaid': the law MaskNths, called where the library's tables stand as the program's text lays them, returns true and leaves its arguments. No further condition narrows it.
-/
import Derived.Test.YtlenjadchmlliaaDoorList
import Derived.Test.YtlenjadchmlliaaDoorDoor
import Derived.Test.YtlenjadchmlliaaDoorCards
import Derived.Test.YtlenjadchmlliaaDoorTie
namespace Go.Proofs.YtlenjadchmlliaaDoor.vc
open Go Go.AX
set_option linter.unusedVariables false
set_option linter.unusedSimpArgs false

theorem joinK_intro {α : Type} {j : α} {f : α → Prop} (R : α → Prop) (hj : R j) (hf : ∀ J, R J → f J) : joinK j f := hf j hj

theorem or_bit {x k j : Nat} (hk : k < 64) : (x ||| bitW (k : Int)).testBit j = (x.testBit j || decide (j = k)) := by
  rw [Nat.testBit_or, testBit_bitW]
  congr 1
  exact decide_eq_decide.2 ⟨fun h => by omega, fun h => by omega⟩

theorem or_lt {x k : Nat} (hx : x < 18446744073709551616) : (x ||| bitW (k : Int)) < 18446744073709551616 := Nat.or_lt_two_pow (n := 64) hx (bitW_lt _)

theorem hasB_nat {x k : Nat} (hk : k < 64) : hasB x (k : Int) = x.testBit k := by
  unfold hasB
  rw [decide_eq_true (by omega), decide_eq_true (by omega), Int.toNat_natCast]; rfl

theorem nths_law {m : Mem} {Q : Value → Mem → Prop} (hw : Wf m) (ht : tabsIn tabs m) {x : Nat} (hx : x < 18446744073709551616) (hq : ∀ m', Q (.bool true) m') : F5 (x : Int) m Q := by
  unfold F5
  refine trueT_ok ov8 ht ⟨true, rfl, ?_⟩
  rw [splitB_iff]
  refine ⟨(fun e => nomatch e), fun _ => ?_⟩
  have hp := pop_le 64 x
  refine joinK_intro (fun J => ∀ m2, Wf m2 → tabsIn tabs m2 → J (x : Int) m2) ?_ ?_
  · intro m2 hw2 ht2
    refine len_ok hx ⟨_, rfl, ?_⟩
    refine nth_ok hx hw2 ht2 (fun m' j k hj hk hb hpk _ _ _ _ => ?_) (fun m' _ _ _ _ _ => ⟨_, _, rfl, ?_⟩)
    · exfalso
      have := pop_mono (x := x) (show k + 1 ≤ 64 by omega)
      rw [pop_bit, if_pos hb] at this
      omega
    · rw [eqI_true.2 rfl, splitB_true]
      show CallW _ _ _ _ _
      refine len_ok hx ⟨_, rfl, ?_⟩
      rw [leI_true.2 (by omega), splitB_true]
      refine len_ok hx ⟨_, rfl, ?_⟩
      rw [leI_true.2 (by omega)]
      exact hq _
  · intro J hJ
    refine ⟨fun x4 x5 m7 w => ∃ y n : Nat, x4 = (y : Int) ∧ y < 18446744073709551616 ∧ x5 = (n : Int) ∧ n ≤ 64 ∧ w = 64 - n ∧ Wf m7 ∧ tabsIn tabs m7 ∧ (∀ j, y.testBit j = (x.testBit j && decide (pop j x < n))), ⟨64, 0, 0, rfl, by omega, rfl, by omega, by omega, hw, ht, fun j => by simp⟩, ?_⟩
    rintro _ _ m7 w ⟨y, n, rfl, hy, rfl, hn, rfl, hw7, ht7, hyb⟩
    have fin : pop 64 x ≤ n → (y : Int) = x := by
      intro hle
      congr 1
      apply Nat.eq_of_testBit_eq
      intro j
      rw [hyb]
      cases hb : x.testBit j with
      | false => rfl
      | true =>
        have hj := bit_lt hx hb
        have := pop_mono (x := x) (show j + 1 ≤ 64 by omega)
        rw [pop_bit, if_pos hb] at this
        rw [decide_eq_true (by omega)]; rfl
    have hk1 : n < 64 → 64 - (n + 1) < 64 - n := fun h => Nat.sub_lt_sub_left h (Nat.lt_succ_self n)
    refine joinK_intro (fun J3 => n < 64 → n < pop 64 x → J3 m7) ?_ ?_
    · intro hn64 hnp
      refine nth_ok hx hw7 ht7 (fun m9 j k hj hk hb hpk hw9 nx9 fl9 g9 => ⟨_, _, rfl, ?_⟩) (fun m' hno _ _ _ _ => ?_)
      · obtain rfl : n = j := by omega
        refine joinK_intro (fun J4 => J4 m9) ?_ ?_
        · refine with_ok hy ⟨_, rfl, 64 - (n + 1), hk1 hn64, y ||| bitW (k : Int), n + 1, rfl, or_lt hy, ?_, hn64, rfl, hw9, tabs_congr ht7 hw7 g9, fun i => ?_⟩
          · rw [addI_64 (by omega) (by omega)]; rfl
          · rw [or_bit hk, hyb]
            by_cases hik : i = k
            · subst hik
              rw [hb, hpk, decide_eq_true rfl, decide_eq_true (show n < n + 1 by omega), Bool.or_true]; rfl
            · rw [decide_eq_false hik, Bool.or_false]
              cases hbi : x.testBit i with
              | false => rfl
              | true =>
                rw [Bool.true_and, Bool.true_and]
                apply decide_eq_decide.2
                constructor
                · intro h; omega
                · intro h
                  by_cases he : pop i x = n
                  · exfalso
                    have h1 := (elemsN_at (x := x) (n := n) (k := i) (N := 64)).2 ⟨bit_lt hx hbi, hbi, he⟩
                    have h2 := (elemsN_at (x := x) (n := n) (k := k) (N := 64)).2 ⟨hk, hb, hpk⟩
                    rw [h1] at h2; cases h2; exact hik rfl
                  · omega
        · intro J4 hJ4
          rw [splitB_iff]
          refine ⟨fun e => (nomatch e), fun _ => ?_⟩
          refine rank_ok hx ⟨_, rfl, ?_⟩
          rw [clampW_nat (by omega), hpk, neI_false.2 rfl, splitB_false]
          refine has_ok hx ⟨_, rfl, ?_⟩
          rw [hasB_nat hk, hb]
          exact hJ4
      · omega
    · intro J3 hJ3
      refine len_ok hx ⟨_, rfl, ?_⟩
      simp only [splitB_iff, ltI_true, ltI_false]
      refine ⟨fun h => ⟨fun h2 => hJ3 (by omega) (by omega), fun h2 => ?_⟩, fun h => ?_⟩
      · rw [fin (by omega)]; exact hJ m7 hw7 ht7
      · rw [fin (by omega)]; exact hJ m7 hw7 ht7


theorem u64_nat {n : Int} (h : (Lit.int .u64 n).wf = true) : ∃ x : Nat, n = (x : Int) ∧ x < 18446744073709551616 := by
  have : (0 : Int) ≤ n ∧ n ≤ 18446744073709551615 := by
    simpa [Lit.wf, IntKind.min, IntKind.max, IntKind.bits, IntKind.signed] using h
  obtain ⟨x, rfl⟩ := Int.eq_ofNat_of_zero_le this.1
  exact ⟨x, rfl, by omega⟩

end Go.Proofs.YtlenjadchmlliaaDoor.vc

namespace Go.Proofs.YtlenjadchmlliaaDoor.maskNths
open Go Go.ChangeShapes Go.WideShapes Go.ChangeAt Go.RowKit Go.AX
set_option linter.unusedVariables false

theorem walk {H : Type} {enc : TypeId × Value → H} (W : World) (args : Array Value) (ds : List (DataW H)) (p : List MemPlace) (hL : laidMetH Tryd.prog Rows.maskNthsRow.laid W) (hA : DataW.TrodAll enc Tryd.prog W 0 (fun _ => true) true [25] args.toList ds p)
    (hval : ∀ (j : Nat) t v, ([25] : List TypeId)[j]? = some t → args.toList[j]? = some v → Value.okWide Tryd.prog W .any 0 t v) :
    Calls Tryd.prog 5 args W (fun e w' => e = .returned (.bool true) ∧ Below W.heap.size W w') ∧ ∃ d1, ds = [d1] := by
  obtain ⟨l⟩ := args
  simp only at hA hval
  obtain ⟨v1, vs1, d1, ds1, p1, q1, rfl, rfl, rfl, h1, hA⟩ := trodAll_cons hA
  obtain ⟨rfl, rfl, rfl⟩ := trodAll_nil hA
  refine ⟨?_, d1, rfl⟩
  have htab := vc.tabs_at rfl hL
  obtain ⟨n0, rfl, hr0⟩ := open_int Tryd.underlying25 (hval 0 _ _ rfl rfl) h1
  obtain ⟨x, rfl, hx⟩ := vc.u64_nat hr0.2.2
  refine open_true (ann := vc.A5) vc.cxOk vc.ovOk vc.hmix W _ (by kernel_rfl : vc.cx.fn.get 5 = some Tryd.f5) ?_ ?_
  · rfl
  · exact Eq.mp (vc.F5_eq (x : Int) _ _) (vc.nths_law (mW_wf _ _) htab hx (fun _ => rfl))

set_option maxRecDepth 100000 in
theorem lifted (os : Os) (started : os.Started) (H : Type) (enc : TypeId × Value → H) :
    ReturnsInHanded {} Tryd.checked os 5 .any (fun w args => (Rows.maskNthsSpec.pre enc Tryd.prog Tryd.f5 [] false w args ∧ laidMetH Tryd.prog Rows.maskNthsRow.laid w) ∧ sizedMet enc Tryd.prog Tryd.f5 (OpenSpec.ofChange Rows.maskNthsSpec) false w args)
      (Rows.maskNthsSpec.post enc Tryd.prog Tryd.f5 false true false false) := by
  refine returnsInHanded_of_change_and (C := Tryd.checked) (X := fun w _ => laidMetH Tryd.prog Rows.maskNthsRow.laid w) (fun _ _ _ hh h => h.of_heap hh) vc.own started (by kernel_rfl) Tryd.func5
    (ChangeSpec.witness_shaped (enc := enc) (C := Tryd.checked) (os := os) (X := fun w _ => laidMetH Tryd.prog Rows.maskNthsRow.laid w) false (World.doorLaid Tryd.prog 24 os) #[.int .u64 0] 8 rfl (World.shaped_of_RefB (by kernel_rfl) (by kernel_rfl)) (by kernel_rfl) (by kernel_rfl) (by kernel_rfl) (vc.door_met os _)) ?_
  intro W base args ds gs before hval0 hW hcnd _ hL _
  have hval : ∀ (j : Nat) t v, Tryd.f5.params[j]? = some t → args[j]? = some v → Value.okWide Tryd.prog W .any base t v := hval0
  have hW' := hW
  obtain ⟨p, q, hA0, hV, rfl, hfz, hnd⟩ := hW
  have hA : DataW.TrodAll enc Tryd.prog W 0 (fun _ => true) true Tryd.f5.params.toList args.toList ds p := hA0
  rw [Tryd.params5] at hA hval
  obtain ⟨rfl, rfl⟩ := trodVars_none hV
  clear hA0 hval0
  simp only [List.append_nil] at hW'
  have hval' : ∀ (j : Nat) t v, ([25] : List TypeId)[j]? = some t → args.toList[j]? = some v → Value.okWide Tryd.prog W .any base t v := fun j t v h1 h2 => hval j t v (by simpa using h1) (by simpa using h2)
  obtain ⟨hc, d1, rfl⟩ := walk (enc := enc) W args ds p hL hA hval'
  refine hc.mono fun e W' ⟨he, hg⟩ => ?_
  subst he
  exact ⟨_, rfl, post_law Tryd.underlying4 (by kernel_rfl) rfl rfl (by kernel_rfl) (by rw [Tryd.params5]; exact hW') (by rw [Tryd.params5]; exact hA) hg⟩

theorem over : Rows.MaskNthsSaid :=
  OpenClaim.holds_of_wide 5 Tryd.f5 rfl rfl rfl rfl rfl rfl rfl ⟨rfl, rfl, rfl, rfl, rfl⟩ rfl rfl rfl rfl rfl (by kernel_rfl) Tryd.func5 (by kernel_rfl)
    (of_decide_eq_true (by kernel_rfl)) (by unfold Func.isWrapper; first | (rw [if_pos (by decide +kernel)]; kernel_rfl) | (rw [if_neg (by decide +kernel)]; exact ⟨rfl, rfl⟩))
    (fun os started H enc _ => lifted os started H enc)

theorem plain : (Tryd.f5.params.toList.all fun t => !Tryd.prog.wantsStandIn t) = true := by kernel_rfl

theorem proved : Rows.MaskNthsCardSaid :=
  Claim7.holds_tied_plain_at .later [] [.data, .data, .data] true (true, "03d43ed8b915a9594593e4a6da3b2d9b0d6915be055e58c22c4e7135fb6a2efe") false
    over (fun _ h => by cases h) (by kernel_rfl) (fun _ h => by cases h) maskNths_row_tie rfl ⟨rfl, rfl⟩ (by kernel_rfl) rfl
    (fun f fn hf hfn => by
      obtain rfl : f = 5 := Option.some.inj ((show Tryd.prog.funcNamed "beadle/beadlelaw3.MaskNths" = some 5 by kernel_rfl).symm.trans hf) |>.symm
      obtain rfl : fn = Tryd.f5 := (Option.some.inj (Tryd.func5.symm.trans hfn)).symm
      exact ⟨by kernel_rfl, fun j t ht => by
        have := List.all_eq_true.1 plain t (List.mem_of_getElem? (by simpa using ht))
        exact (show Tryd.prog.wantsStandIn t = false by simpa using this)⟩)
    (by kernel_rfl)
#print axioms proved
end Go.Proofs.YtlenjadchmlliaaDoor.maskNths
