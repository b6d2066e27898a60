/-
  'Rows.NotePlaysCardSaid': the law NotePlays, called where the library's tables stand as the program's text lays them, returns true and leaves its arguments. No further condition narrows it.
-/
import Derived.Test.YtdeknemdeijljaaDoorArg
import Derived.Test.YtdeknemdeijljaaDoorCards
import Derived.Test.YtdeknemdeijljaaDoorTie
import Derived.LaidMore
import Derived.Lay
import Derived.SevenTiedAt
namespace Go.Proofs.YtdeknemdeijljaaDoor.vc
open Go Go.AX
set_option linter.unusedVariables false
set_option linter.unusedSimpArgs false

theorem eqI_same (x : Int) : eqI x x = true := eqI_true.2 rfl

theorem put_any {m0 m : Mem} {p room : Nat} {evs : List E} {a1 : Option Addr} {n1 c1 : Nat} {Q : Value → Mem → Prop} (hw0 : Wf m0) (k : Keep m0 m) (hN : NoteIs m0.nx m p room [] 0) (hE : EvsIs m a1 n1 evs)
    (hr : 1 ≤ room) (hr2 : room ≤ 4096) (hn1 : n1 ≤ 1000)
    (h : ∀ m', Keep m0 m' → NoteIs m0.nx m' p room (keepN room evs) (evs.length - room) → Q (.tuple #[]) m') : CallW cx 11 [.pointer (some ⟨p, 0, none⟩), .slice a1 n1 c1] m Q := by
  by_cases hpos : 0 < n1
  · refine put_ok hw0 k hN hE hpos hr hr2 (by simp) hn1 (by omega) fun m' k' N' => h m' k' ?_
    rw [List.nil_append, Nat.zero_add] at N'
    exact N'
  · have e : n1 = 0 := by omega
    subst e
    have : evs = [] := List.eq_nil_of_length_eq_zero hE.1
    subst this
    refine put0_ok hw0 k hN hr hr2 fun m' k' N' => h m' k' ?_
    have e1 : keepN room ([] : List E) = [] := by unfold keepN; simp
    rw [e1]
    have e2 : ([] : List E).length - room = 0 := by simp
    rw [e2]; exact N'

theorem plays_law {m : Mem} {x0 x2 x3 : Int} {a1 : Option Addr} {n1 c1 : Nat} {l : List E} (hw : Wf m) (hl : EvsIs m a1 n1 l) (hC : Cut m a1 n1 c1) : F6 x0 a1 n1 c1 x2 x3 m fun r _ => r = .bool true := by
  have hlen := hl.1
  unfold F6
  refine awake_ok ⟨true, rfl, ?_⟩
  rw [show (!true) = false from rfl, splitB_false]
  rw [splitB_iff]
  refine ⟨fun _ => rfl, fun e200 => ?_⟩
  rw [ltI_false] at e200
  have hn200 : n1 ≤ 200 := by unfold lenI at e200; omega
  clear e200
  refine new_ok hw fun m2 r k2 r1 r2 er N2 => ⟨_, rfl, ?_⟩
  rw [show Option.isNone (some (⟨m.nx, 0, none⟩ : Addr)) = false from rfl, splitB_false]
  refine joinK_of (fun J => J (max x0 1) m2) ?_ (fun J hJ => ?_)
  rotate_left
  · rw [splitB_iff]
    refine ⟨fun e => ?_, fun e => ?_⟩
    · rw [ltI_true] at e; rw [show max x0 1 = 1 by omega] at hJ; exact hJ
    · rw [ltI_false] at e; rw [show max x0 1 = x0 by omega] at hJ; exact hJ
  refine joinK_of (fun J => J (r : Int) m2) ?_ (fun J hJ => ?_)
  rotate_left
  · rw [splitB_iff]
    refine ⟨fun e => ?_, fun e => ?_⟩
    · rw [ltI_true] at e; rw [show (r : Int) = 4096 by omega] at hJ; exact hJ
    · rw [ltI_false] at e; rw [show (r : Int) = max x0 1 by omega] at hJ; exact hJ
  -- one by one
  refine ⟨fun i m4 w => ∃ k : Nat, k ≤ n1 ∧ i = (k : Int) ∧ w = n1 - k ∧ Keep m m4 ∧ NoteIs m.nx m4 m.nx r (keepN r (l.take k)) ((l.take k).length - r), ⟨n1, 0, Nat.zero_le _, rfl, rfl, k2, ?_⟩, ?_⟩
  · rw [List.take_zero, show keepN r ([] : List E) = [] from by unfold keepN; simp, show ([] : List E).length - r = 0 from by simp]; exact N2
  rintro i m5 w ⟨k, hk, rfl, rfl, k5, N5⟩
  rw [splitB_iff]
  refine ⟨fun e => ?_, fun e => ?_⟩
  · rw [ltI_true] at e
    have hkn : k < n1 := by unfold lenI at e; omega
    obtain ⟨x, hx⟩ : ∃ x, l[k]? = some x := ⟨_, List.getElem?_eq_getElem (by omega)⟩
    obtain ⟨b, o, rfl, p0, p1, p2, p3⟩ := (hl.keep hw k5).at hx
    refine ⟨⟨by omega, by omega⟩, ?_⟩
    rw [vPtr_some, Int.toNat_natCast]
    refine ⟨_, p0, _, p1, _, p2, _, p3, ?_⟩
    rw [mBind_iff]
    generalize hm6 : newO m5 _ = m6
    have k56 : Keep m5 m6 := hm6 ▸ (Keep.refl k5.wf).newO
    have hE : EvsIs m6 (some ⟨m5.nx, 0, none⟩) 1 [x] := EvsIs.one (e := 23) (y := false) (hm6 ▸ Row.newO)
    have htk : (l.take k).length ≤ 200 := by rw [List.length_take]; omega
    refine put_ok hw (k5.trans k56) (N5.keep k5.wf k56) hE (by omega) r1 r2 (by rw [keepN_len]; omega) (by omega) (by omega) fun m7 k7 N7 => ⟨rfl, ?_⟩
    refine ⟨n1 - (k + 1), less_w hkn, k + 1, hkn, inc64 (by omega), rfl, k7, ?_⟩
    have hl2 := lost_more (r := r) (L := l.take k) (M := [x])
    rw [keepN_more, hl2] at N7
    have et : l.take (k + 1) = l.take k ++ [x] := by rw [List.take_add_one, hx]; rfl
    rw [et]; exact N7
  rw [ltI_false] at e
  have hkn : k = n1 := by unfold lenI at e; omega
  subst hkn
  rw [List.take_of_length_le (by omega)] at N5
  clear e hk N2
  refine joinK_of (fun J => J ((k - r : Nat) : Int) m5) ?_ (fun J hJ => ?_)
  rotate_left
  · rw [splitB_iff]
    refine ⟨fun e => ?_, fun e => ?_⟩
    · rw [ltI_true] at e
      unfold lenI at e
      have : subI .i64 (lenI k) (r : Int) = ((k - r : Nat) : Int) := by rw [sub_room (by omega) r2]; omega
      rw [this]; exact hJ
    · rw [ltI_false] at e
      unfold lenI at e
      rw [show k - r = 0 by omega] at hJ; exact hJ
  have hl5 := hl.keep hw k5
  obtain ⟨aW, cW, eW, hW5⟩ := cut_ok (lo := k - r) (hC.keep hw k5) hl5 (by omega)
  refine ⟨aW, k - (k - r), cW, eW, ?_⟩
  have eK : l.drop (k - r) = keepN r l := by unfold keepN; rw [hlen]
  rw [eK] at hW5
  have hWl := hW5.1
  generalize hnW : k - (k - r) = nW at hW5 hWl ⊢
  have hnW200 : nW ≤ 200 := by omega
  rw [hlen] at N5
  generalize hWd : keepN r l = W at hW5 hWl N5
  refine ⟨fun a14 n14 c14 a15 n15 c15 i m9 w => ∃ j : Nat, j ≤ nW ∧ i = (j : Int) ∧ w = nW - j ∧ Keep m5 m9 ∧ OwnE m5.nx m9 a14 n14 c14 ((W.take j).filter fun x => leI x2 x.1) ∧ OwnE m5.nx m9 a15 n15 c15 ((W.take j).filter fun x => eqI x.2.2.1 x3) ∧ Apart a14 a15,
    ⟨nW, 0, Nat.zero_le _, rfl, rfl, Keep.refl k5.wf, OwnE.nil _ _, OwnE.nil _ _, fun b e => by cases e⟩, ?_⟩
  rintro a14 n14 c14 a15 n15 c15 i m9 w ⟨j, hj, rfl, rfl, k9, O14, O15, ap⟩
  rw [splitB_iff]
  refine ⟨fun e => ?_, fun e => ?_⟩
  · rw [ltI_true] at e
    have hjn : j < nW := by unfold lenI at e; omega
    obtain ⟨x, hx⟩ : ∃ x, W[j]? = some x := ⟨_, List.getElem?_eq_getElem (by omega)⟩
    have hj0 : 0 ≤ (j : Int) ∧ (j : Int) < ((nW : Nat) : Int) := ⟨by omega, by omega⟩
    have sm14 := filter_le (f := fun x => leI x2 x.1) (l := W) (k := j)
    have sm15 := filter_le (f := fun x => eqI x.2.2.1 x3) (l := W) (k := j)
    have l14 := O14.evs.1
    have l15 := O15.evs.1
    obtain ⟨b, o, rfl, q0, q1, q2, q3⟩ := (hW5.keep k5.wf k9).at hx
    refine joinK_of (fun J => ∀ a n c m', Keep m5 m' → OwnE m5.nx m' a n c ((W.take (j + 1)).filter fun x => leI x2 x.1) → OwnE m5.nx m' a15 n15 c15 ((W.take j).filter fun x => eqI x.2.2.1 x3) → Apart a a15 → J a n c m') ?_ (fun J hJ => ?_)
    · intro a n c m10 k10 O14' O15' ap'
      have l14' := O14'.evs.1
      obtain ⟨b', o', e', s0, s1, s2, s3⟩ := (hW5.keep k5.wf k10).at hx
      cases e'
      refine ⟨hj0, ?_⟩
      rw [vPtr_some, Int.toNat_natCast]
      refine ⟨_, s2, ?_⟩
      rw [splitB_iff]
      refine ⟨fun hb => ⟨hj0, ?_⟩, fun hb => ?_⟩
      · rw [vPtr_some]
        refine ⟨_, s0, _, s1, _, s2, _, s3, ?_⟩
        rw [mBind_iff]
        generalize hm11 : newO m10 _ = m11
        obtain ⟨m12, e12, k12, O1, O2, ap2⟩ := push_two (x := x) k5.wf k10 O15' O14' ap'.symm (by omega) hm11
        refine ⟨_, _, _, m12, e12, nW - (j + 1), less_w hjn, j + 1, hjn, inc64 (by omega), rfl, k12, O2, ?_, ap2.symm⟩
        rw [filter_next hx, hb, if_pos rfl]; exact O1
      · refine ⟨nW - (j + 1), less_w hjn, j + 1, hjn, inc64 (by omega), rfl, k10, O14', ?_, ap'⟩
        rw [filter_next hx, hb, if_neg Bool.false_ne_true, List.append_nil]; exact O15'
    · refine ⟨hj0, ?_⟩
      rw [vPtr_some, Int.toNat_natCast]
      refine ⟨_, q0, ?_⟩
      rw [splitB_iff]
      refine ⟨fun hb => ⟨hj0, ?_⟩, fun hb => hJ _ _ _ _ k9 ?_ O15 ap⟩
      · rw [vPtr_some]
        refine ⟨_, q0, _, q1, _, q2, _, q3, ?_⟩
        rw [mBind_iff]
        generalize hm13 : newO m9 _ = m13
        obtain ⟨m14, e14, k14, O1, O2, ap2⟩ := push_two (x := x) k5.wf k9 O14 O15 ap (by omega) hm13
        refine ⟨_, _, _, m14, e14, hJ _ _ _ _ k14 ?_ O2 ap2⟩
        rw [filter_next hx, hb, if_pos rfl]; exact O1
      · rw [filter_next hx, hb, if_neg Bool.false_ne_true, List.append_nil]; exact O14
  rw [ltI_false] at e
  have hjn : j = nW := by unfold lenI at e; omega
  subst hjn
  rw [List.take_of_length_le (by omega)] at O14 O15
  clear e hj
  -- all at once
  refine new_ok k9.wf fun m15 r' k15 r1' r2' er' N15 => ⟨_, rfl, ?_⟩
  obtain rfl : r' = r := by omega
  have k59 := k5.trans k9
  refine put_any k9.wf k15 N15 (hl.keep hw (k59.trans k15)) r1' r2' (by omega) fun m16 k16 N16 => ⟨rfl, ?_⟩
  rw [hWd, hlen] at N16
  have h16 := (k9.trans k16)
  have N5' := N5.keep k5.wf h16
  have W16 := hW5.keep k5.wf h16
  refine all_ok h16.wf N5' (by omega) fun m17 a96 c96 k17 E96 => ⟨_, _, _, rfl, ?_⟩
  rw [hWl] at E96 ⊢
  refine same_ok k17.wf E96 (W16.keep h16.wf k17) (by omega) fun m18 k18 => ⟨_, rfl, ?_⟩
  rw [splitB_true]
  have h18 := h16.trans (k17.trans k18)
  refine len_ok (N5.keep k5.wf h18) ⟨_, rfl, ?_⟩
  have e1 : eqI ((W.length : Nat) : Int) (lenI j) = true := by rw [eqI_true]; unfold lenI; omega
  rw [e1, splitB_true]
  refine lost_ok (N5.keep k5.wf h18) ⟨_, rfl, ?_⟩
  rw [eqI_same, splitB_true]
  refine since_ok h18.wf (N5.keep k5.wf h18) (by omega) fun m21 a115 n115 c115 k21 E115 => ⟨_, _, _, rfl, ?_⟩
  have h21 := h18.trans k21
  have h9 : ∀ {m'}, Keep m5 m' → Keep m16 m' → Keep m9 m' := fun h1 h2 => k16.trans h2
  have g21 := k16.trans ((k17.trans k18).trans k21)
  have l115 := E115.1
  have hf1 := List.length_filter_le (fun x : E => leI x2 x.1) W
  have hf2 := List.length_filter_le (fun x : E => eqI x.2.2.1 x3) W
  refine same_ok k21.wf E115 (O14.evs.keep k9.wf g21) (by omega) fun m22 k22 => ⟨_, rfl, ?_⟩
  rw [splitB_true]
  have h22 := h21.trans k22
  refine of_ok k22.wf (N5.keep k5.wf h22) (by omega) fun m23 a122 n122 c122 k23 E122 => ⟨_, _, _, rfl, ?_⟩
  have g23 := (g21.trans k22).trans k23
  have l122 := E122.1
  refine same_ok k23.wf E122 (O15.evs.keep k9.wf g23) (by omega) fun m24 k24 => ⟨_, rfl, ?_⟩
  rw [splitB_true]
  have h24 := (h22.trans k23).trans k24
  have k1624 : Keep m16 m24 := (((k17.trans k18).trans k21).trans (k22.trans k23)).trans k24
  have N24 := N16.keep k16.wf k1624
  refine all_ok k24.wf N24 (by omega) fun m25 a128 c128 k25 E128 => ⟨_, _, _, rfl, ?_⟩
  rw [hWl] at E128 ⊢
  refine same_ok k25.wf E128 (hW5.keep k5.wf (h24.trans k25)) (by omega) fun m26 k26 => ⟨_, rfl, ?_⟩
  rw [splitB_true]
  refine lost_ok (N24.keep k24.wf (k25.trans k26)) ⟨_, rfl, ?_⟩
  rw [eqI_same]

theorem own : ownKnob Tryd.prog.godebug = none := by kernel_rfl

end Go.Proofs.YtdeknemdeijljaaDoor.vc

namespace Go.Proofs.YtdeknemdeijljaaDoor.notePlays
open Go Go.ChangeShapes Go.WideShapes Go.ChangeAt Go.RowKit Go.AX
set_option linter.unusedVariables false

set_option maxRecDepth 100000 in
theorem walk {H : Type} {enc : TypeId × Value → H} (W : World) (args : Array Value) (ds : List (DataW H)) (p : List MemPlace) (hL : laidMetH Tryd.prog Rows.notePlaysRow.laid W) (hA : DataW.TrodAll enc Tryd.prog W 0 (fun _ => true) true [3, 32, 2, 3] args.toList ds p)
    (hval : ∀ (j : Nat) t v, ([3, 32, 2, 3] : List TypeId)[j]? = some t → args.toList[j]? = some v → Value.okWide Tryd.prog W .any 0 t v) :
    Calls Tryd.prog 6 args W (fun e w' => e = .returned (.bool true) ∧ Below W.heap.size W w') ∧ ∃ d1 d2 d3 d4, ds = [d1, d2, d3, d4] := by
  obtain ⟨l⟩ := args
  simp only at hA hval
  obtain ⟨v1, vs1, d1, ds1, p1, q1, rfl, rfl, rfl, h1, hA⟩ := trodAll_cons hA
  obtain ⟨v2, vs2, d2, ds2, p2, q2, rfl, rfl, rfl, h2, hA⟩ := trodAll_cons hA
  obtain ⟨v3, vs3, d3, ds3, p3, q3, rfl, rfl, rfl, h3, hA⟩ := trodAll_cons hA
  obtain ⟨v4, vs4, d4, ds4, p4, q4, rfl, rfl, rfl, h4, hA⟩ := trodAll_cons hA
  obtain ⟨rfl, rfl, rfl⟩ := trodAll_nil hA
  refine ⟨?_, d1, d2, d3, d4, rfl⟩
  obtain ⟨n0, rfl, _⟩ := open_int Tryd.underlying3 (hval 0 _ _ rfl rfl) h1
  obtain ⟨a, n, c, l, rfl, hg, hl, hC⟩ := vc.evs_arg (hval 1 _ _ rfl rfl) h2
  obtain ⟨n2, rfl, _⟩ := open_int Tryd.underlying2 (hval 2 _ _ rfl rfl) h3
  obtain ⟨n3, rfl, _⟩ := open_int Tryd.underlying3 (hval 3 _ _ rfl rfl) h4
  refine open_true (ann := vc.A6) vc.cxOk vc.ovOk vc.hmix W _ (by kernel_rfl : vc.cx.fn.get 6 = some Tryd.f6) ?_ ?_
  · simp only [List.all_cons, hg]; rfl
  · exact Eq.mp (vc.F6_eq n0 a n c n2 n3 _ _) (vc.plays_law (mW_wf _ _) hl hC)

set_option maxRecDepth 100000 in
theorem lifted (os : Os) (started : os.Started) (H : Type) (enc : TypeId × Value → H) :
    ReturnsInHanded {} Tryd.checked os 6 .any (fun w args => (Rows.notePlaysSpec.pre enc Tryd.prog Tryd.f6 [] false w args ∧ laidMetH Tryd.prog Rows.notePlaysRow.laid w) ∧ sizedMet enc Tryd.prog Tryd.f6 (OpenSpec.ofChange Rows.notePlaysSpec) false w args)
      (Rows.notePlaysSpec.post enc Tryd.prog Tryd.f6 false true false false) := by
  refine returnsInHanded_of_change_and (C := Tryd.checked) (X := fun w _ => laidMetH Tryd.prog Rows.notePlaysRow.laid w) (fun _ _ _ hh h => h.of_heap hh) vc.own started (by kernel_rfl) Tryd.func6
    (ChangeSpec.witness_shaped (enc := enc) (C := Tryd.checked) (os := os) (X := fun w _ => laidMetH Tryd.prog Rows.notePlaysRow.laid w) false (World.laidAll Tryd.prog os Rows.notePlaysRow.laid) #[.int .i64 0, .slice none 0 0, .int .i64 0, .int .i64 0] 8 (World.laidAll_os _ _ _)
      (World.shaped_of_ZipB (by kernel_rfl) (by kernel_rfl)) (by kernel_rfl) (by kernel_rfl) (by kernel_rfl)
      (by rw [MakeChecks.laidMetH_plain _ _ _ (by kernel_rfl)]; exact laidMet_laidAll _ (by kernel_rfl) (by kernel_rfl))) ?_
  intro W base args ds gs before hval0 hW hcnd _ hL _
  have hval : ∀ (j : Nat) t v, Tryd.f6.params[j]? = some t → args[j]? = some v → Value.okWide Tryd.prog W .any base t v := hval0
  have hW' := hW
  obtain ⟨p, q, hA0, hV, rfl, hfz, hnd⟩ := hW
  have hA : DataW.TrodAll enc Tryd.prog W 0 (fun _ => true) true Tryd.f6.params.toList args.toList ds p := hA0
  rw [Tryd.params6] at hA hval
  obtain ⟨rfl, rfl⟩ := trodVars_none hV
  clear hA0 hval0
  simp only [List.append_nil] at hW'
  have hval' : ∀ (j : Nat) t v, ([3, 32, 2, 3] : List TypeId)[j]? = some t → args.toList[j]? = some v → Value.okWide Tryd.prog W .any base t v := fun j t v h1 h2 => hval j t v (by simpa using h1) (by simpa using h2)
  obtain ⟨hc, d1, d2, d3, d4, rfl⟩ := walk (enc := enc) W args ds p hL hA hval'
  refine hc.mono fun e W' ⟨he, hg⟩ => ?_
  subst he
  exact ⟨_, rfl, post_law Tryd.underlying4 (by kernel_rfl) rfl rfl (by kernel_rfl) (by rw [Tryd.params6]; exact hW') (by rw [Tryd.params6]; exact hA) hg⟩

theorem over : Rows.NotePlaysSaid :=
  OpenClaim.holds_of_wide 6 Tryd.f6 rfl rfl rfl rfl rfl rfl rfl ⟨rfl, rfl, rfl, rfl, rfl⟩ rfl rfl rfl rfl rfl (by kernel_rfl) Tryd.func6 (by kernel_rfl)
    (of_decide_eq_true (by kernel_rfl)) (by unfold Func.isWrapper; first | (rw [if_pos (by decide +kernel)]; kernel_rfl) | (rw [if_neg (by decide +kernel)]; exact ⟨rfl, rfl⟩))
    (fun os started H enc _ => lifted os started H enc)

theorem plain : (Tryd.f6.params.toList.all fun t => !Tryd.prog.wantsStandIn t) = true := by kernel_rfl

theorem proved : Rows.NotePlaysCardSaid :=
  Claim7.holds_tied_plain_at .later [] [.data, .data, .data, .data, .sentinel, .sentinel, .pinned] true (true, "c30ddd46be1fac33a1844d5dc694f1f6238effd4d6a68e7e5fdb6c8e6b4ecc99") true
    over (fun _ h => by cases h) (by kernel_rfl) (fun _ h => by cases h) notePlays_row_tie rfl ⟨rfl, rfl⟩ (by kernel_rfl) rfl
    (fun f fn hf hfn => by
      obtain rfl : f = 6 := Option.some.inj ((show Tryd.prog.funcNamed "beadle/beadlelaw21.NotePlays" = some 6 by kernel_rfl).symm.trans hf) |>.symm
      obtain rfl : fn = Tryd.f6 := (Option.some.inj (Tryd.func6.symm.trans hfn)).symm
      exact ⟨by kernel_rfl, fun j t ht => by
        have := List.all_eq_true.1 plain t (List.mem_of_getElem? (by simpa using ht))
        exact (show Tryd.prog.wantsStandIn t = false by simpa using this)⟩)
    (by kernel_rfl)
#print axioms proved
end Go.Proofs.YtdeknemdeijljaaDoor.notePlays
