/-
  'Rows.MaskAroundCardSaid': the law MaskAround, called where the library's tables stand as the program's text lays them, returns true and leaves its arguments. No further condition narrows it.
-/
import Derived.Test.YtlenjadchmlliaaDoorList
import Derived.Test.YtlenjadchmlliaaDoorDoor
import Derived.Test.YtlenjadchmlliaaDoorCards
import Derived.Test.YtlenjadchmlliaaDoorTie
namespace Go.Proofs.YtlenjadchmlliaaDoor.vc
open Go Go.AX
set_option linter.unusedVariables false
set_option linter.unusedSimpArgs false

theorem joinK_intro {α : Type} {j : α} {f : α → Prop} (R : α → Prop) (hj : R j) (hf : ∀ J, R J → f J) : joinK j f := hf j hj

theorem or_bit {x k j : Nat} (hk : k < 64) : (x ||| bitW (k : Int)).testBit j = (x.testBit j || decide (j = k)) := by
  rw [Nat.testBit_or, testBit_bitW]
  congr 1
  exact decide_eq_decide.2 ⟨fun h => by omega, fun h => by omega⟩

theorem or_lt {x k : Nat} (hx : x < 18446744073709551616) : (x ||| bitW (k : Int)) < 18446744073709551616 := Nat.or_lt_two_pow (n := 64) hx (bitW_lt _)

theorem hasB_nat {x k : Nat} (hk : k < 64) : hasB x (k : Int) = x.testBit k := by
  unfold hasB
  rw [decide_eq_true (by omega), decide_eq_true (by omega), Int.toNat_natCast]; rfl

theorem pop_or {y k : Nat} (hk : k < 64) (h : y.testBit k = false) : ∀ n, pop n (y ||| bitW (k : Int)) = pop n y + if k < n then 1 else 0
  | 0 => rfl
  | n + 1 => by
    rw [pop_bit, pop_or hk h n, pop_bit, or_bit hk]
    by_cases he : n = k
    · subst he
      simp [h]
    · rw [decide_eq_false he, Bool.or_false]
      generalize (if y.testBit n = true then 1 else 0) = u
      split <;> split <;> omega

/-- what is among others and counts as many is they -/
theorem pop_sub {x y : Nat} : ∀ n, (∀ j, j < n → y.testBit j = true → x.testBit j = true) → pop n y ≤ pop n x ∧ (pop n x ≤ pop n y → ∀ j, j < n → x.testBit j = true → y.testBit j = true)
  | 0, _ => ⟨Nat.le_refl _, fun _ j hj => by omega⟩
  | n + 1, h => by
    obtain ⟨h1, h2⟩ := pop_sub (x := x) (y := y) n fun j hj => h j (by omega)
    rw [pop_bit, pop_bit]
    have h3 := h n (by omega)
    cases hy : y.testBit n with
    | true =>
      rw [h3 hy, if_pos rfl]
      refine ⟨by omega, fun h4 j hj hxj => ?_⟩
      by_cases he : j = n
      · subst he; exact hy
      · exact h2 (by omega) j (by omega) hxj
    | false =>
      cases hxn : x.testBit n with
      | true =>
        simp only [if_pos, Bool.false_eq_true, if_false]
        exact ⟨by omega, fun h4 => by omega⟩
      | false =>
        simp only [Bool.false_eq_true, if_false]
        refine ⟨by omega, fun h4 j hj hxj => ?_⟩
        by_cases he : j = n
        · subst he; rw [hxn] at hxj; cases hxj
        · exact h2 (by omega) j (by omega) hxj

theorem missing {x y : Nat} (n : Nat) (h : pop n y < pop n x) : ∃ j, j < n ∧ x.testBit j = true ∧ y.testBit j = false := by
  induction n with
  | zero => exact absurd h (Nat.lt_irrefl _)
  | succ n ih =>
    rw [pop_bit, pop_bit] at h
    by_cases h1 : pop n y < pop n x
    · obtain ⟨j, a, b, c⟩ := ih h1
      exact ⟨j, by omega, b, c⟩
    · cases hx : x.testBit n with
      | true =>
        cases hy : y.testBit n with
        | false => exact ⟨n, by omega, hx, hy⟩
        | true => rw [hx, hy] at h; simp at h; omega
      | false => rw [hx] at h; simp at h; omega

theorem pop_zero : ∀ n, pop n 0 = 0
  | 0 => rfl
  | n + 1 => by rw [pop_bit, pop_zero n, Nat.zero_testBit]; rfl

theorem around_law {m : Mem} {Q : Value → Mem → Prop} (ht : tabsIn tabs m) {x : Nat} {x1 : Int} (hx : x < 18446744073709551616) (hq : ∀ m', Q (.bool true) m') : F4 (x : Int) x1 m Q := by
  unfold F4
  refine trueT_ok ov8 ht ⟨true, rfl, ?_⟩
  rw [splitB_iff]
  refine ⟨(fun e => nomatch e), fun _ => ?_⟩
  have hp := pop_le 64 x
  refine joinK_intro (fun J => 0 ≤ x1 → x1 ≤ 63 → J m) ?_ ?_
  rotate_left
  · intro J hJ
    simp only [splitB_iff, ltI_true, ltI_false]
    exact ⟨fun _ => hq _, fun h => ⟨fun _ => hq _, fun h2 => hJ h h2⟩⟩
  intro h0 h63
  obtain ⟨from', rfl⟩ := Int.eq_ofNat_of_zero_le h0
  refine joinK_intro (fun J => J (x : Int) m) ?_ ?_
  · show Q (.bool (eqI x x)) m
    rw [eqI_true.2 rfl]; exact hq _
  intro J1 hJ1
  refine ⟨fun x6 x7 x8 m4 w => ∃ y at' n : Nat, ∃ B : Bool, x6 = (y : Int) ∧ y < 18446744073709551616 ∧ x7 = (at' : Int) ∧ x8 = (n : Int) ∧ n ≤ 64 ∧ w = 64 - n ∧ m4 = m ∧ pop 64 y = n ∧
    (B = false → from' ≤ at' ∧ at' ≤ 64 ∧ ∀ j, y.testBit j = (x.testBit j && decide (from' ≤ j ∧ j < at'))) ∧ (B = true → at' ≤ from' ∧ ∀ j, y.testBit j = (x.testBit j && decide (from' ≤ j ∨ j < at'))),
    ⟨64, 0, from', 0, false, rfl, by omega, rfl, rfl, by omega, by omega, rfl, pop_zero 64, fun _ => ⟨by omega, by omega, fun j => by rw [Nat.zero_testBit, decide_eq_false (by omega), Bool.and_false]⟩, (fun e => nomatch e)⟩, ?_⟩
  rintro _ _ _ m4 w ⟨y, at', n, B, rfl, hy, rfl, rfl, hn, rfl, rfl, hpy, hA, hB⟩
  have hsub : ∀ j, j < 64 → y.testBit j = true → x.testBit j = true := by
    intro j _ hj
    cases B with
    | false => rw [(hA rfl).2.2 j, Bool.and_eq_true] at hj; exact hj.1
    | true => rw [(hB rfl).2 j, Bool.and_eq_true] at hj; exact hj.1
  have fin : pop 64 x ≤ n → (y : Int) = x := by
    intro hle
    refine congrArg (fun z : Nat => (z : Int)) (?_ : y = x)
    apply Nat.eq_of_testBit_eq
    intro j
    have hs := (pop_sub (x := x) (y := y) 64 hsub).2 (by omega)
    cases hyj : y.testBit j with
    | true => exact (hsub j (bit_lt hy hyj) hyj).symm
    | false =>
      cases hxj : x.testBit j with
      | false => rfl
      | true => rw [hs j (bit_lt hx hxj) hxj] at hyj; cases hyj
  have hk1 : n < 64 → 64 - (n + 1) < 64 - n := fun h => Nat.sub_lt_sub_left h (Nat.lt_succ_self n)
  refine joinK_intro (fun J4 => n < 64 → n < pop 64 x → J4 m4) ?_ ?_
  rotate_left
  · intro J4 hJ4
    refine len_ok hx ⟨_, rfl, ?_⟩
    simp only [splitB_iff, ltI_true, ltI_false]
    refine ⟨fun h => ⟨fun h2 => hJ4 (by omega) (by omega), fun h2 => ?_⟩, fun h => ?_⟩
    · rw [fin (by omega)]; exact hJ1
    · rw [fin (by omega)]; exact hJ1
  intro hn64 hnp
  obtain ⟨u, hu, hxu, hyu⟩ := missing (x := x) (y := y) 64 (by omega)
  -- one step: k is met, and the rest stands
  have step : ∀ k : Nat, k < 64 → x.testBit k = true → y.testBit k = false → (∃ B : Bool, (B = false → from' ≤ k + 1 ∧ k + 1 ≤ 64 ∧ ∀ j, (y ||| bitW (k : Int)).testBit j = (x.testBit j && decide (from' ≤ j ∧ j < k + 1))) ∧ (B = true → k + 1 ≤ from' ∧ ∀ j, (y ||| bitW (k : Int)).testBit j = (x.testBit j && decide (from' ≤ j ∨ j < k + 1)))) →
      (joinK (fun (m7 : Mem) => (CallW cx 9 [.int .u64 (y : Int), .int .i64 (k : Int)] m7 fun r52 m8 => (∃ (x52 : Int), r52 = (.int .u64 (x52)) ∧ (∃ n_6 : Nat, n_6 < 64 - n ∧ ∃ y at' n_1 : Nat, ∃ B : Bool, x52 = (y : Int) ∧ y < 18446744073709551616 ∧ addI .i64 (k : Int) (1 : Int) = (at' : Int) ∧ addI .i64 (n : Int) (1 : Int) = (n_1 : Int) ∧ n_1 ≤ 64 ∧ n_6 = 64 - n_1 ∧ m8 = m4 ∧ pop 64 y = n_1 ∧
          (B = false → from' ≤ at' ∧ at' ≤ 64 ∧ ∀ j, y.testBit j = (x.testBit j && decide (from' ≤ j ∧ j < at'))) ∧ (B = true → at' ≤ from' ∧ ∀ j, y.testBit j = (x.testBit j && decide (from' ≤ j ∨ j < at'))))))) fun J_5 =>
        (splitB (!(true)) (Q (.bool (false)) m4) (CallW cx 11 [.int .u64 (y : Int), .int .i64 (k : Int)] m4 fun r42 m9 => (∃ (b42 : Bool), r42 = (.bool (b42)) ∧ (splitB (b42) (Q (.bool (false)) m9) (CallW cx 11 [.int .u64 (x : Int), .int .i64 (k : Int)] m9 fun r47 m10 => (∃ (b47 : Bool), r47 = (.bool (b47)) ∧ (splitB (!(b47))
          (Q (.bool (false)) m10)
          (J_5 m10))))))))) := by
    intro k hk hxk hyk hB'
    obtain ⟨B', hB1, hB2⟩ := hB'
    refine joinK_intro (fun J5 => J5 m4) ?_ ?_
    · refine with_ok hy ⟨_, rfl, 64 - (n + 1), hk1 hn64, y ||| bitW (k : Int), k + 1, n + 1, B', rfl, or_lt hy, ?_, ?_, hn64, rfl, rfl, ?_, hB1, hB2⟩
      · rw [addI_64 (by omega) (by omega)]; rfl
      · rw [addI_64 (by omega) (by omega)]; rfl
      · rw [pop_or hk hyk 64, if_pos hk, hpy]
    · intro J5 hJ5
      rw [splitB_iff]
      refine ⟨(fun e => nomatch e), fun _ => ?_⟩
      refine has_ok hy ⟨_, rfl, ?_⟩
      rw [hasB_nat hk, hyk, splitB_false]
      refine has_ok hx ⟨_, rfl, ?_⟩
      rw [hasB_nat hk, hxk]
      exact hJ5
  have h64 : at' ≤ 64 := by
    cases B with
    | false => exact (hA rfl).2.1
    | true => have := (hB rfl).1; omega
  refine around_ok hx ht (fun k a1 a2 a3 a4 => ⟨_, _, rfl, ?_⟩) (fun hno k a1 a2 a3 => ⟨_, _, rfl, ?_⟩) (fun hno => ?_)
  · rw [clampW_nat h64] at a3 a4
    cases B with
    | false =>
      obtain ⟨e1, e2, e3⟩ := hA rfl
      refine step k a1 a2 (by rw [e3 k, decide_eq_false (by omega), Bool.and_false]) ⟨false, fun _ => ⟨by omega, by omega, fun j => ?_⟩, (fun e => nomatch e)⟩
      rw [or_bit a1, e3 j]
      by_cases hjk : j = k
      · subst hjk
        rw [a2, decide_eq_true (show j = j from rfl), decide_eq_true (show from' ≤ j ∧ j < j + 1 by omega), Bool.or_true]; rfl
      · rw [decide_eq_false hjk, Bool.or_false]
        cases hxj : x.testBit j with
        | false => rfl
        | true =>
          rw [Bool.true_and, Bool.true_and]
          apply decide_eq_decide.2
          constructor
          · intro h; omega
          · intro h
            refine ⟨h.1, ?_⟩
            by_cases hja : at' ≤ j
            · rw [a4 j hja (by omega)] at hxj; cases hxj
            · omega
    | true =>
      obtain ⟨e1, e3⟩ := hB rfl
      have hk : k < from' := by
        rw [e3 u, hxu, Bool.true_and] at hyu
        have := of_decide_eq_false hyu
        by_cases hku : u < k
        · rw [a4 u (by omega) hku] at hxu; cases hxu
        · omega
      refine step k a1 a2 (by rw [e3 k, decide_eq_false (by omega), Bool.and_false]) ⟨true, (fun e => nomatch e), fun _ => ⟨by omega, fun j => ?_⟩⟩
      rw [or_bit a1, e3 j]
      by_cases hjk : j = k
      · subst hjk
        rw [a2, decide_eq_true (show j = j from rfl), decide_eq_true (show from' ≤ j ∨ j < j + 1 by omega), Bool.or_true]; rfl
      · rw [decide_eq_false hjk, Bool.or_false]
        cases hxj : x.testBit j with
        | false => rfl
        | true =>
          rw [Bool.true_and, Bool.true_and]
          apply decide_eq_decide.2
          constructor
          · intro h; omega
          · intro h
            by_cases hja : at' ≤ j
            · by_cases hjf : from' ≤ j
              · exact .inl hjf
              · rw [a4 j hja (by omega)] at hxj; cases hxj
            · omega
  · rw [clampW_nat h64] at hno
    cases B with
    | false =>
      obtain ⟨e1, e2, e3⟩ := hA rfl
      have hk : k < from' := by
        rw [e3 u, hxu, Bool.true_and] at hyu
        have h1 := of_decide_eq_false hyu
        have h2 : u < at' := by
          by_cases h3 : at' ≤ u
          · rw [hno u h3] at hxu; cases hxu
          · omega
        by_cases hku : u < k
        · rw [a3 u hku] at hxu; cases hxu
        · omega
      refine step k a1 a2 (by rw [e3 k, decide_eq_false (by omega), Bool.and_false]) ⟨true, (fun e => nomatch e), fun _ => ⟨by omega, fun j => ?_⟩⟩
      rw [or_bit a1, e3 j]
      by_cases hjk : j = k
      · subst hjk
        rw [a2, decide_eq_true (show j = j from rfl), decide_eq_true (show from' ≤ j ∨ j < j + 1 by omega), Bool.or_true]; rfl
      · rw [decide_eq_false hjk, Bool.or_false]
        cases hxj : x.testBit j with
        | false => rfl
        | true =>
          rw [Bool.true_and, Bool.true_and]
          apply decide_eq_decide.2
          constructor
          · intro h; exact .inl h.1
          · intro h
            have h2 : ¬ j < k := fun h3 => by rw [a3 j h3] at hxj; cases hxj
            have h3 : j < at' := by
              by_cases h3 : at' ≤ j
              · rw [hno j h3] at hxj; cases hxj
              · omega
            omega
    | true =>
      obtain ⟨e1, e3⟩ := hB rfl
      exfalso
      rw [e3 u, hxu, Bool.true_and] at hyu
      have h1 := of_decide_eq_false hyu
      rw [hno u (by omega)] at hxu; cases hxu
  · exfalso
    rw [hno u] at hxu; cases hxu


theorem u64_nat {n : Int} (h : (Lit.int .u64 n).wf = true) : ∃ x : Nat, n = (x : Int) ∧ x < 18446744073709551616 := by
  have : (0 : Int) ≤ n ∧ n ≤ 18446744073709551615 := by
    simpa [Lit.wf, IntKind.min, IntKind.max, IntKind.bits, IntKind.signed] using h
  obtain ⟨x, rfl⟩ := Int.eq_ofNat_of_zero_le this.1
  exact ⟨x, rfl, by omega⟩

end Go.Proofs.YtlenjadchmlliaaDoor.vc

namespace Go.Proofs.YtlenjadchmlliaaDoor.maskAround
open Go Go.ChangeShapes Go.WideShapes Go.ChangeAt Go.RowKit Go.AX
set_option linter.unusedVariables false

theorem walk {H : Type} {enc : TypeId × Value → H} (W : World) (args : Array Value) (ds : List (DataW H)) (p : List MemPlace) (hL : laidMetH Tryd.prog Rows.maskAroundRow.laid W) (hA : DataW.TrodAll enc Tryd.prog W 0 (fun _ => true) true [25, 3] args.toList ds p)
    (hval : ∀ (j : Nat) t v, ([25, 3] : List TypeId)[j]? = some t → args.toList[j]? = some v → Value.okWide Tryd.prog W .any 0 t v) :
    Calls Tryd.prog 4 args W (fun e w' => e = .returned (.bool true) ∧ Below W.heap.size W w') ∧ ∃ d1 d2, ds = [d1, d2] := by
  obtain ⟨l⟩ := args
  simp only at hA hval
  obtain ⟨v1, vs1, d1, ds1, p1, q1, rfl, rfl, rfl, h1, hA⟩ := trodAll_cons hA
  obtain ⟨v2, vs2, d2, ds2, p2, q2, rfl, rfl, rfl, h2, hA⟩ := trodAll_cons hA
  obtain ⟨rfl, rfl, rfl⟩ := trodAll_nil hA
  refine ⟨?_, d1, d2, rfl⟩
  have htab := vc.tabs_at rfl hL
  obtain ⟨n0, rfl, hr0⟩ := open_int Tryd.underlying25 (hval 0 _ _ rfl rfl) h1
  obtain ⟨n1, rfl, _⟩ := open_int Tryd.underlying3 (hval 1 _ _ rfl rfl) h2
  obtain ⟨x, rfl, hx⟩ := vc.u64_nat hr0.2.2
  refine open_true (ann := vc.A4) vc.cxOk vc.ovOk vc.hmix W _ (by kernel_rfl : vc.cx.fn.get 4 = some Tryd.f4) ?_ ?_
  · rfl
  · exact Eq.mp (vc.F4_eq (x : Int) n1 _ _) (vc.around_law htab hx (fun _ => rfl))

set_option maxRecDepth 100000 in
theorem lifted (os : Os) (started : os.Started) (H : Type) (enc : TypeId × Value → H) :
    ReturnsInHanded {} Tryd.checked os 4 .any (fun w args => (Rows.maskAroundSpec.pre enc Tryd.prog Tryd.f4 [] false w args ∧ laidMetH Tryd.prog Rows.maskAroundRow.laid w) ∧ sizedMet enc Tryd.prog Tryd.f4 (OpenSpec.ofChange Rows.maskAroundSpec) false w args)
      (Rows.maskAroundSpec.post enc Tryd.prog Tryd.f4 false true false false) := by
  refine returnsInHanded_of_change_and (C := Tryd.checked) (X := fun w _ => laidMetH Tryd.prog Rows.maskAroundRow.laid w) (fun _ _ _ hh h => h.of_heap hh) vc.own started (by kernel_rfl) Tryd.func4
    (ChangeSpec.witness_shaped (enc := enc) (C := Tryd.checked) (os := os) (X := fun w _ => laidMetH Tryd.prog Rows.maskAroundRow.laid w) false (World.doorLaid Tryd.prog 24 os) #[.int .u64 0, .int .i64 0] 8 rfl (World.shaped_of_RefB (by kernel_rfl) (by kernel_rfl)) (by kernel_rfl) (by kernel_rfl) (by kernel_rfl) (vc.door_met os _)) ?_
  intro W base args ds gs before hval0 hW hcnd _ hL _
  have hval : ∀ (j : Nat) t v, Tryd.f4.params[j]? = some t → args[j]? = some v → Value.okWide Tryd.prog W .any base t v := hval0
  have hW' := hW
  obtain ⟨p, q, hA0, hV, rfl, hfz, hnd⟩ := hW
  have hA : DataW.TrodAll enc Tryd.prog W 0 (fun _ => true) true Tryd.f4.params.toList args.toList ds p := hA0
  rw [Tryd.params4] at hA hval
  obtain ⟨rfl, rfl⟩ := trodVars_none hV
  clear hA0 hval0
  simp only [List.append_nil] at hW'
  have hval' : ∀ (j : Nat) t v, ([25, 3] : List TypeId)[j]? = some t → args.toList[j]? = some v → Value.okWide Tryd.prog W .any base t v := fun j t v h1 h2 => hval j t v (by simpa using h1) (by simpa using h2)
  obtain ⟨hc, d1, d2, rfl⟩ := walk (enc := enc) W args ds p hL hA hval'
  refine hc.mono fun e W' ⟨he, hg⟩ => ?_
  subst he
  exact ⟨_, rfl, post_law Tryd.underlying4 (by kernel_rfl) rfl rfl (by kernel_rfl) (by rw [Tryd.params4]; exact hW') (by rw [Tryd.params4]; exact hA) hg⟩

theorem over : Rows.MaskAroundSaid :=
  OpenClaim.holds_of_wide 4 Tryd.f4 rfl rfl rfl rfl rfl rfl rfl ⟨rfl, rfl, rfl, rfl, rfl⟩ rfl rfl rfl rfl rfl (by kernel_rfl) Tryd.func4 (by kernel_rfl)
    (of_decide_eq_true (by kernel_rfl)) (by unfold Func.isWrapper; first | (rw [if_pos (by decide +kernel)]; kernel_rfl) | (rw [if_neg (by decide +kernel)]; exact ⟨rfl, rfl⟩))
    (fun os started H enc _ => lifted os started H enc)

theorem plain : (Tryd.f4.params.toList.all fun t => !Tryd.prog.wantsStandIn t) = true := by kernel_rfl

theorem proved : Rows.MaskAroundCardSaid :=
  Claim7.holds_tied_plain_at .later [] [.data, .data, .data] true (true, "03d43ed8b915a9594593e4a6da3b2d9b0d6915be055e58c22c4e7135fb6a2efe") false
    over (fun _ h => by cases h) (by kernel_rfl) (fun _ h => by cases h) maskAround_row_tie rfl ⟨rfl, rfl⟩ (by kernel_rfl) rfl
    (fun f fn hf hfn => by
      obtain rfl : f = 4 := Option.some.inj ((show Tryd.prog.funcNamed "beadle/beadlelaw3.MaskAround" = some 4 by kernel_rfl).symm.trans hf) |>.symm
      obtain rfl : fn = Tryd.f4 := (Option.some.inj (Tryd.func4.symm.trans hfn)).symm
      exact ⟨by kernel_rfl, fun j t ht => by
        have := List.all_eq_true.1 plain t (List.mem_of_getElem? (by simpa using ht))
        exact (show Tryd.prog.wantsStandIn t = false by simpa using this)⟩)
    (by kernel_rfl)
#print axioms proved
end Go.Proofs.YtlenjadchmlliaaDoor.maskAround
