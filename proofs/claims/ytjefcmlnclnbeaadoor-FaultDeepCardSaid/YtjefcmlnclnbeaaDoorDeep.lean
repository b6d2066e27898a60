/-
  FaultDeep: wrapped once more it is one deeper, with one Op more at its front; its number stays: the law's walk.
-/
import Derived.Test.YtjefcmlnclnbeaaDoorAll
import Derived.Test.YtjefcmlnclnbeaaDoorAxSl
import Derived.Test.YtjefcmlnclnbeaaDoorAwake
import Derived.Test.YtjefcmlnclnbeaaDoorDoor
import Derived.Test.YtjefcmlnclnbeaaDoorCards
import Derived.Test.YtjefcmlnclnbeaaDoorTie
import Derived.Test.YtjefcmlnclnbeaaDoorAxLaw
import Derived.ChangeMaps5
import Derived.WalkKit
import Derived.ProofKit
import Derived.OpenShut
import Derived.LaidMore
import Derived.SevenTiedAt
namespace Go.Proofs.YtjefcmlnclnbeaaDoor.vc
open Go Go.AX
set_option linter.unusedVariables false
set_option linter.unusedSimpArgs false
set_option maxRecDepth 100000

theorem wrapW_ok {m : Mem} {s : ByteArray} {id : Int} {v : Value} {n : Nat} {c : Int} {Q : Value → Mem → Prop} (hc : Ch m v n c) (h : Q (.iface 31 (.pointer (some ⟨m.nx, 0, none⟩))) (newO m (row [.string s, .int .i64 id, v] 36 false))) : CallW cx 7 [.string s, .int .i64 id, v] m Q := by
  apply F7_ok; unfold F7
  refine ⟨false, hc.some m, ?_⟩
  rw [splitB_false]
  have : mBind (newO m (row [.string s, .int .i64 id, v] 36 false)) fun m1 => Q (.iface 31 (.pointer (some ⟨m.nx, 0, none⟩))) m1 := by rw [mBind_iff]; exact h
  cases hc <;> exact this

theorem texts_ok {m : Mem} {a0 a1 : Option Addr} {n0 c0 n1 c1 : Nat} {l0 l1 : List ByteArray} {Q : Value → Mem → Prop} (hw : Wf m) (h0 : SlIs m a0 n0 (l0.map (.string ·))) (h1 : SlIs m a1 n1 (l1.map (.string ·))) (hn : n0 ≤ 1000)
    (h : ∀ m', Keep m m' → Q (.bool (decide (l0 = l1))) m') : CallW cx 16 [.slice a0 n0 c0, .slice a1 n1 c1] m Q := by
  apply F16_ok; unfold F16
  have e0 : l0.length = n0 := by simpa using h0.1
  have e1 : l1.length = n1 := by simpa using h1.1
  rw [splitB_iff]
  constructor
  · intro hne
    rw [neI_true] at hne
    simp only [lenI] at hne
    have := h m (Keep.refl hw)
    rwa [decide_eq_false (fun e => by subst e; omega)] at this
  · intro he
    rw [neI_false] at he
    simp only [lenI] at he
    have he : n0 = n1 := by omega
    refine ⟨fun x m1 w => ∃ k : Nat, x = (k : Int) ∧ k ≤ n0 ∧ Keep m m1 ∧ l0.take k = l1.take k ∧ w = n0 - k, ⟨n0, 0, rfl, by omega, Keep.refl hw, rfl, rfl⟩, ?_⟩
    rintro x m1 w ⟨k, rfl, hk, k1, ht, rfl⟩
    rw [splitB_iff]
    constructor
    · intro hlt
      rw [ltI_true] at hlt
      simp only [lenI] at hlt
      rw [mBind_iff]
      have k2 : Keep m (bump m1 9) := k1.bump
      refine ⟨⟨by omega, by omega⟩, ?_⟩
      have hk0 : k < l0.length := by omega
      have hk1 : k < l1.length := by omega
      obtain ⟨b, o, rfl, hr⟩ := (h0.keep hw k2).at (i := k) (v := .string l0[k]) (by simp [hk0])
      obtain ⟨b', o', rfl, hr'⟩ := (h1.keep hw k2).at (i := k) (v := .string l1[k]) (by simp [hk1])
      rw [vPtr_some]
      refine ⟨l0[k], by simpa using hr, ⟨by omega, by omega⟩, ?_⟩
      rw [vPtr_some]
      refine ⟨l1[k], by simpa using hr', ?_⟩
      rw [splitB_iff]
      constructor
      · intro hne
        have hne : eqS l0[k] l1[k] = false := by simpa using hne
        rw [eqS_false] at hne
        have := h _ k2
        rwa [decide_eq_false (fun e => hne (by simp [e]))] at this
      · intro heq
        have heq : eqS l0[k] l1[k] = true := by simpa using heq
        rw [eqS_iff] at heq
        refine ⟨n0 - (k + 1), by omega, k + 1, by rw [addI_64 (by omega) (by omega)]; rfl, by omega, k2, ?_, rfl⟩
        rw [List.take_add_one, List.take_add_one, ht, List.getElem?_eq_getElem hk0, List.getElem?_eq_getElem hk1, heq]
    · intro hge
      rw [ltI_false] at hge
      simp only [lenI] at hge
      have := h _ k1
      rwa [decide_eq_true (by
        rw [List.take_of_length_le (by omega), List.take_of_length_le (by omega)] at ht
        exact ht)] at this

theorem eqI_self (x : Int) : eqI x x = true := eqI_true.2 rfl
theorem neI_self (x : Int) : neI x x = false := neI_false.2 rfl

theorem deep_law {m : Mem} {a0 : Option Addr} {n0 c0 : Nat} {x1 : Int} {l : List ByteArray} (hw : Wf m) (hE : ErrT m) (hs : SlIs m a0 n0 (l.map (.string ·))) : F5 a0 n0 c0 x1 m fun r _ => r = .bool true := by
  unfold F5
  have en : l.length = n0 := by simpa using hs.1
  refine awake_ok hw hE fun m1 k1 => ⟨true, rfl, ?_⟩
  rw [show (!true) = false from rfl, splitB_false]
  refine joinK_of (fun J => 1 ≤ n0 → n0 ≤ 20 → 1 ≤ x1 → J m1) (fun hn1 hn2 hx => ?_) (fun J hJ => ?_)
  · refine ⟨⟨by omega, by omega⟩, ?_⟩
    have hs1 := hs.keep hw k1
    obtain ⟨b, o, rfl, hr⟩ := hs1.at (i := 0) (v := .string l[0]) (by simp)
    rw [vPtr_some]
    refine ⟨l[0], by simpa using hr, ?_⟩
    refine new_ok' (by omega) ?_
    generalize hm3 : newO m1 _ = m3
    have k3 : Keep m1 m3 := hm3 ▸ (Keep.refl k1.wf).newO
    have r3 : Row m3 m1.nx [.string l[0], .int .i64 0, .iface 27 (.int .i64 x1)] 36 false := hm3 ▸ Row.newO
    have hc3 : Chn m3 (.iface 31 (.pointer (some ⟨m1.nx, 0, none⟩))) [(m1.nx, l[0], 0)] x1 := .wrap r3 (.num x1)
    refine ⟨_, rfl, ?_⟩
    refine ⟨fun v x m4 w => ∃ (k : Nat) (ch : List Lay), x = (k : Int) ∧ 1 ≤ k ∧ k ≤ n0 ∧ Keep m m4 ∧ Chn m4 v ch x1 ∧ ch.length = k ∧ w = n0 - k,
      ⟨n0 - 1, 1, _, rfl, by omega, by omega, k1.trans k3, hc3, rfl, rfl⟩, ?_⟩
    rintro v x m4 w ⟨k, ch, rfl, hk1, hk2, k4, hc4, hch, rfl⟩
    rw [splitB_iff]
    constructor
    · intro hlt
      rw [ltI_true] at hlt
      simp only [lenI] at hlt
      refine ⟨⟨by omega, by omega⟩, ?_⟩
      have hkl : k < l.length := by omega
      have hat : ∀ m', Keep m m' → rd m' b (o + k) = some (.string l[k]) := fun m' k' => by
        obtain ⟨b', o', e, hr⟩ := (hs.keep hw k').at (i := k) (v := .string l[k]) (by simp [hkl])
        cases e
        exact hr
      rw [vPtr_some]
      refine ⟨l[k], by simpa using hat m4 k4, ?_⟩
      refine wrapW_ok hc4.ch ?_
      generalize hm5 : newO m4 _ = m5
      have k45 : Keep m4 m5 := hm5 ▸ (Keep.refl k4.wf).newO
      have r5 : Row m5 m4.nx [.string l[k], .int .i64 (k : Int), v] 36 false := hm5 ▸ Row.newO
      have hc5 : Chn m5 v ch x1 := hc4.keep k4.wf k45
      have hc5' : Chn m5 (.iface 31 (.pointer (some ⟨m4.nx, 0, none⟩))) ((m4.nx, l[k], (k : Int)) :: ch) x1 := .wrap r5 hc5
      have k5 := k4.trans k45
      refine ⟨_, rfl, ?_⟩
      refine ops_ok k5.wf (hE.keep hw k5) hc5' (by simp; omega) fun a49 n49 c49 m6 k56 g6 hn6 => ⟨_, _, _, rfl, ?_⟩
      have k6 := k5.trans k56
      refine ops_ok k6.wf (hE.keep hw k6) (hc5.keep k5.wf k56) (by omega) fun a51 n51 c51 m7 k67 g7 hn7 => ⟨_, _, _, rfl, ?_⟩
      have k7 := k6.trans k67
      refine ⟨⟨by omega, by omega⟩, ?_⟩
      rw [vPtr_some]
      refine ⟨l[k], by simpa using hat m7 k7, ?_⟩
      have k57 := k56.trans k67
      refine who_ok k7.wf (hE.keep hw k7) (hc5'.keep k5.wf k57) (by simp; omega) fun m8 k78 => ⟨_, _, rfl, ?_⟩
      rw [mBind_iff]
      have k8 := k7.trans k78
      have k79 : Keep m7 (bump m8 46) := k78.bump
      generalize bump m8 46 = m9 at k79 ⊢
      have k9 := k7.trans k79
      have k59 := k57.trans k79
      refine deep_ok k9.wf (hE.keep hw k9) (hc5'.keep k5.wf k59) (by simp; omega) fun m10 k90 => ⟨_, rfl, ?_⟩
      have k10 := k9.trans k90
      have k510 := k59.trans k90
      refine deep_ok k10.wf (hE.keep hw k10) (hc5.keep k5.wf k510) (by omega) fun m11 k01 => ⟨_, rfl, ?_⟩
      have k11 := k10.trans k01
      have k511 := k510.trans k01
      rw [neI_false.2 (by rw [addI_64 (by omega) (by omega)]; simp), splitB_false]
      refine code_ok k11.wf (hE.keep hw k11) (hc5'.keep k5.wf k511).ch fun m12 k12' => ⟨_, rfl, ?_⟩
      have k12 := k11.trans k12'
      have k712 := ((k79.trans k90).trans k01).trans k12'
      have k612 := k67.trans k712
      rw [neI_self, splitB_false, neI_false.2 (by simp only [lenI]; rw [addI_64 (by omega) (by omega), hn6, hn7]; simp), splitB_false]
      refine ⟨⟨by omega, by simp at hn6; omega⟩, ?_⟩
      have g12 := k612.grow k6.wf g6
      have g12' := k712.grow k7.wf g7
      obtain ⟨b9, rfl, hr9⟩ := g12.at (j := 0) (v := .string l[k]) (by simp)
      rw [vPtr_some]
      refine ⟨l[k], by simpa using hr9, ⟨by omega, by omega⟩, ?_⟩
      rw [vPtr_some]
      refine ⟨l[k], by simpa using hat m12 k12, ?_⟩
      rw [show (!eqS l[k] l[k]) = false by rw [eqS_self]; rfl, splitB_false]
      have hc49 : c49 = n49 := by
        rcases g12.2 with ⟨h, _⟩ | ⟨_, _, h, _⟩
        · cases h
        · exact h
      have hn6' : n49 = ch.length + 1 := by simpa using hn6
      obtain ⟨hrow⟩ : Nonempty (Row m12 b9 (((m4.nx, l[k], (k : Int)) :: ch).map fun x => .string x.2.1) 9 true) := by
        rcases g12.2 with ⟨h, _⟩ | ⟨b', h, _, _, h2⟩
        · cases h
        · cases h; exact ⟨h2⟩
      refine ⟨_, _, _, sliceOp_at (s := 1) (e := 9) (j := n49) (i := 1) (by kernel_rfl) (by kernel_rfl) boundA_none (boundA_int rfl (by omega)) (hrow.sameSize (by kernel_rfl)) (by omega), ?_⟩
      refine texts_ok (l0 := ch.map (·.2.1)) (l1 := ch.map (·.2.1)) k12.wf ⟨by simp; omega, fun i v hv => ⟨b9, 0 + 1 * 1, rfl, ?_⟩⟩ (by simpa [Function.comp_def] using SlIs.of_grow g12') (by omega) fun m13 k13 => ⟨_, rfl, ?_⟩
      · have := hrow.rd (o := i + 1)
        rw [show 0 + 1 * 1 + i = i + 1 by omega, this]
        simpa [Function.comp_def] using hv
      rw [decide_eq_true rfl, show (!true) = false from rfl, splitB_false]
      have hwho : who l[k] ((m4.nx, l[k], (k : Int)) :: ch) = ((k : Int), true) := by rw [who, if_pos (eqS_self _)]
      rw [hwho]
      rw [show (!((k : Int), true).2) = false from rfl, splitB_false, neI_self, splitB_false]
      exact ⟨n0 - (k + 1), by omega, k + 1, _, by rw [addI_64 (by omega) (by omega)]; rfl, by omega, by omega, k12.trans k13, hc5'.keep k5.wf (k511.trans (k12'.trans k13)), by simp [hch], rfl⟩
    · intro _; trivial
  · simp only [splitB_iff, ltI_true, ltI_false, lenI]
    exact ⟨fun _ => trivial, fun h1 => ⟨fun _ => trivial, fun h2 => ⟨fun _ => trivial, fun h3 => ⟨fun _ => trivial, fun _ => hJ (by omega) (by omega) h3⟩⟩⟩⟩

end Go.Proofs.YtjefcmlnclnbeaaDoor.vc

namespace Go.Proofs.YtjefcmlnclnbeaaDoor.faultDeep
open Go Go.ChangeShapes Go.WideShapes Go.ChangeAt Go.RowKit Go.AX
set_option linter.unusedVariables false

set_option maxRecDepth 100000 in
theorem walk {H : Type} {enc : TypeId × Value → H} (W : World) (args : Array Value) (ds : List (DataW H)) (p : List MemPlace) (hL : laidMetH Tryd.prog Rows.faultDeepRow.laid W) (hA : DataW.TrodAll enc Tryd.prog W 0 (fun _ => true) true [39, 3] args.toList ds p)
    (hval : ∀ (j : Nat) t v, ([39, 3] : List TypeId)[j]? = some t → args.toList[j]? = some v → Value.okWide Tryd.prog W .any 0 t v) :
    Calls Tryd.prog 5 args W (fun e w' => e = .returned (.bool true) ∧ Below W.heap.size W w') ∧ ∃ d1 d2, ds = [d1, d2] := by
  obtain ⟨l⟩ := args
  simp only at hA hval
  obtain ⟨v1, vs1, d1, ds1, p1, q1, rfl, rfl, rfl, h1, hA⟩ := trodAll_cons hA
  obtain ⟨v2, vs2, d2, ds2, p2, q2, rfl, rfl, rfl, h2, hA⟩ := trodAll_cons hA
  obtain ⟨rfl, rfl, rfl⟩ := trodAll_nil hA
  refine ⟨?_, d1, d2, rfl⟩
  have htab := vc.errT_at rfl hL
  obtain ⟨a, n, c, l, rfl, hn, hg, hsl, _⟩ := strs_arg Tryd.underlying39 Tryd.underlying9 (by kernel_rfl) (hval 0 _ _ rfl rfl) h1
  obtain ⟨n1, rfl, _⟩ := open_int Tryd.underlying3 (hval 1 _ _ rfl rfl) h2
  refine open_true (ann := vc.A5) vc.cxOk vc.ovOk vc.hmix W _ (by kernel_rfl : vc.cx.fn.get 5 = some Tryd.f5) ?_ ?_
  · simp only [List.all_cons, hg]; rfl
  · exact Eq.mp (vc.F5_eq a n c n1 _ _) (vc.deep_law (mW_wf _ _) htab hsl)

set_option maxRecDepth 100000 in
theorem lifted (os : Os) (started : os.Started) (H : Type) (enc : TypeId × Value → H) :
    ReturnsInHanded {} Tryd.checked os 5 .any (fun w args => (Rows.faultDeepSpec.pre enc Tryd.prog Tryd.f5 [] false w args ∧ laidMetH Tryd.prog Rows.faultDeepRow.laid w) ∧ sizedMet enc Tryd.prog Tryd.f5 (OpenSpec.ofChange Rows.faultDeepSpec) false w args)
      (Rows.faultDeepSpec.post enc Tryd.prog Tryd.f5 false true false false) := by
  refine returnsInHanded_of_change_and (C := Tryd.checked) (X := fun w _ => laidMetH Tryd.prog Rows.faultDeepRow.laid w) (fun _ _ _ hh h => h.of_heap hh) vc.own started (by kernel_rfl) Tryd.func5
    (ChangeSpec.witness_at (enc := enc) (C := Tryd.checked) (os := os) (X := fun w _ => laidMetH Tryd.prog Rows.faultDeepRow.laid w) false (vc.laidWorld os) #[.slice none 0 0, .int .i64 0] 8 rfl (by kernel_rfl) (by kernel_rfl) (by kernel_rfl) (by kernel_rfl) (by kernel_rfl) (vc.laidWorld_met os _)) ?_
  intro W base args ds gs before hval0 hW hcnd _ hL _
  have hval : ∀ (j : Nat) t v, Tryd.f5.params[j]? = some t → args[j]? = some v → Value.okWide Tryd.prog W .any base t v := hval0
  have hW' := hW
  obtain ⟨p, q, hA0, hV, rfl, hfz, hnd⟩ := hW
  have hA : DataW.TrodAll enc Tryd.prog W 0 (fun _ => true) true Tryd.f5.params.toList args.toList ds p := hA0
  rw [Tryd.params5] at hA hval
  obtain ⟨rfl, rfl⟩ := trodVars_none hV
  clear hA0 hval0
  simp only [List.append_nil] at hW'
  have hval' : ∀ (j : Nat) t v, ([39, 3] : List TypeId)[j]? = some t → args.toList[j]? = some v → Value.okWide Tryd.prog W .any base t v := fun j t v h1 h2 => hval j t v (by simpa using h1) (by simpa using h2)
  obtain ⟨hc, d1, d2, rfl⟩ := walk (enc := enc) W args ds p hL hA hval'
  refine hc.mono fun e W' ⟨he, hg⟩ => ?_
  subst he
  exact ⟨_, rfl, post_law Tryd.underlying4 (by kernel_rfl) rfl rfl (by kernel_rfl) (by rw [Tryd.params5]; exact hW') (by rw [Tryd.params5]; exact hA) hg⟩

theorem over : Rows.FaultDeepSaid :=
  OpenClaim.holds_of_wide 5 Tryd.f5 rfl rfl rfl rfl rfl rfl rfl ⟨rfl, rfl, rfl, rfl, rfl⟩ rfl rfl rfl rfl rfl (by kernel_rfl) Tryd.func5 (by kernel_rfl)
    (of_decide_eq_true (by kernel_rfl)) (by unfold Func.isWrapper; first | (rw [if_pos (by decide +kernel)]; kernel_rfl) | (rw [if_neg (by decide +kernel)]; exact ⟨rfl, rfl⟩))
    (fun os started H enc _ => lifted os started H enc)

theorem plain : (Tryd.f5.params.toList.all fun t => !Tryd.prog.wantsStandIn t) = true := by kernel_rfl

theorem proved : Rows.FaultDeepCardSaid :=
  Claim7.holds_tied_plain_at .later [] [.handle] true (true, "6e10b58e40f23e1b5838895329632b45c873922186fd96672493df75b349852c") true
    over (fun _ h => by cases h) (by kernel_rfl) (fun _ h => by cases h) faultDeep_row_tie rfl ⟨rfl, rfl⟩ (by kernel_rfl) rfl
    (fun f fn hf hfn => by
      obtain rfl : f = 5 := Option.some.inj ((show Tryd.prog.funcNamed "beadle/beadlelaw2.FaultDeep" = some 5 by kernel_rfl).symm.trans hf) |>.symm
      obtain rfl : fn = Tryd.f5 := (Option.some.inj (Tryd.func5.symm.trans hfn)).symm
      exact ⟨by kernel_rfl, fun j t ht => by
        have := List.all_eq_true.1 plain t (List.mem_of_getElem? (by simpa using ht))
        exact (show Tryd.prog.wantsStandIn t = false by simpa using this)⟩)
    (by kernel_rfl)
#print axioms proved
end Go.Proofs.YtjefcmlnclnbeaaDoor.faultDeep

