/-
  EdfOrder: at every input the law returns true: in whatever order the entries stand, the same run; one more CPU, one more runs at most, and none less.
-/
import Derived.Test.YtmjpkannhbaklaaLaw
import Derived.Test.YtmjpkannhbaklaaVcOrder
namespace Go.Proofs.Ytmjpkannhbaklaa.vc
open Go Go.AX
set_option linter.unusedVariables false

theorem joinK_of {α : Type} {j : α} {f : α → Prop} (P : α → Prop) (hj : P j) (h : ∀ J, P J → f J) : joinK j f := h j hj

/-- turned by so many places -/
def turned (l : List pl.E) (t : Nat) : List pl.E := l.drop t ++ l.take t

theorem turned_perm (l : List pl.E) (t : Nat) : (turned l t).Perm l := by
  unfold turned
  have := (List.perm_append_comm (l₁ := l.drop t) (l₂ := l.take t))
  rw [List.take_append_drop] at this
  exact this

theorem turned_get {l : List pl.E} {n t i : Nat} (hl : l.length = n) (ht : t < n) (hi : i < n) : (turned l t)[i]? = l[(i + t) % n]? := by
  unfold turned
  by_cases h : i < n - t
  · rw [List.getElem?_append_left (by rw [List.length_drop]; omega), List.getElem?_drop, Nat.mod_eq_of_lt (by omega), Nat.add_comm]
  · rw [List.getElem?_append_right (by rw [List.length_drop]; omega), List.length_drop, List.getElem?_take, if_pos (by omega)]
    congr 1
    have : (i + t) % n = i + t - n := by
      rw [Nat.mod_eq_sub_mod (by omega), Nat.mod_eq_of_lt (by omega)]
    omega

theorem len_more {na nc n : Nat} {mm : Int} (h1 : na = min mm.toNat n) (h2 : nc = min (mm + 1).toNat n) (h0 : 1 ≤ mm) : ¬ ((na + 1 : Nat) : Int) < lenI nc := by
  unfold lenI; omega

theorem order_law {mm turn : Int} {m : Mem} {a : Option Addr} {n c : Nat} {l : List pl.E} (hw : Wf m) (hl : EntsIs m a n l) (htr : turn ≤ 9223372036854775807) : F4 mm a n c turn m fun r _ => r = .bool true := by
  unfold F4
  refine awake_ok ⟨true, rfl, ?_⟩
  rw [show (!true) = false from rfl, splitB_false]
  refine joinK_of (fun J => ∀ m', Keep m m' → pl.Good mm l → 1 ≤ n → n ≤ 64 → 0 ≤ turn → mm ≤ 63 → J m') (fun m2 k2 hg hn1 hn64 ht0 hm63 => ?_) (fun J hJ => ?_)
  · have hlen := hl.1
    have hm1 := hg.m1
    obtain ⟨T, rfl⟩ := Int.eq_ofNat_of_zero_le ht0
    generalize hT : T % n = t
    have htn : t < n := by rw [← hT]; exact Nat.mod_lt _ (by omega)
    have eT : Int.tmod (T : Int) (lenI n) = (t : Int) := by
      unfold lenI; rw [← hT]; exact (Int.ofNat_tmod T n).symm
    rw [eT]
    refine ⟨fun a7 n7 c7 i m3 w => ∃ k : Nat, k ≤ n ∧ i = (k : Int) ∧ w = n - k ∧ n7 = k ∧ Keep m2 m3 ∧ ((k = 0 ∧ a7 = none ∧ c7 = 0) ∨ (0 < k ∧ OwnE m2 m3 a7 k c7 ((turned l t).take k))),
      ⟨n, 0, Nat.zero_le _, rfl, rfl, rfl, Keep.refl k2.wf, .inl ⟨rfl, rfl, rfl⟩⟩, ?_⟩
    rintro a7 n7 c7 i m3 w ⟨k, hk, rfl, rfl, rfl, k3, hO⟩
    have k3m := k2.trans k3
    rw [splitB_iff]
    refine ⟨fun e => ?_, fun e => ?_⟩
    · rw [ltI_true] at e
      have hkn : n7 < n := by unfold lenI at e; omega
      have ea : addI .i64 (n7 : Int) (t : Int) = ((n7 + t : Nat) : Int) := by rw [addI_64 (by omega) (by omega)]; omega
      have em : Int.tmod (addI .i64 (n7 : Int) (t : Int)) (lenI n) = (((n7 + t) % n : Nat) : Int) := by
        rw [ea]; unfold lenI; exact (Int.ofNat_tmod (n7 + t) n).symm
      have hmod : (n7 + t) % n < n := Nat.mod_lt _ (by omega)
      have hln : lenI n ≠ 0 := by unfold lenI; omega
      rw [em]
      obtain ⟨x, hx⟩ : ∃ x, l[(n7 + t) % n]? = some x := ⟨_, List.getElem?_eq_getElem (by omega)⟩
      obtain ⟨b, o, rfl, h0, h1, h2⟩ := (hl.keep hw k3m).2 _ _ hx
      refine ⟨hln, hln, ⟨by omega, by omega⟩, ?_⟩
      rw [vPtr_some]
      refine ⟨x.1, by rw [Int.toNat_natCast]; exact h0, x.2.1, by rw [Int.toNat_natCast]; exact h1, x.2.2, by rw [Int.toNat_natCast]; exact h2, ?_⟩
      rw [mBind_iff]
      generalize hm4 : newO m3 _ = m4
      have k4 : Keep m2 m4 := hm4 ▸ k3.newO
      have n4 : m4.nx = m3.nx + 1 := by rw [← hm4]; rfl
      have k34 : Keep m3 m4 := hm4 ▸ (Keep.refl k3.wf).newO
      have r4 : Row m4 m3.nx (encE x) 29 false := hm4 ▸ Row.newO
      have hcl : Cl m2 m4 a7 n7 c7 ((turned l t).take n7) := by
        rcases hO with ⟨h1, h2, h3⟩ | ⟨hp, hG, hb⟩
        · exact .inl ⟨h1, by rw [h1]; rfl, h3, .inl h2⟩
        · exact .inr ⟨hp, k34.grow k3.wf hG, hb⟩
      obtain ⟨m5, e5, k5, hO5⟩ := push_ents (x := x) k4 hcl r4 (by omega)
      refine ⟨_, _, _, m5, e5, n - (n7 + 1), less_w hkn, n7 + 1, hkn, inc64 (by omega), rfl, rfl, k5, .inr ⟨by omega, ?_⟩⟩
      have htk : (turned l t).take (n7 + 1) = (turned l t).take n7 ++ [x] := by
        rw [List.take_add_one, turned_get hlen htn hkn, hx]; rfl
      rw [htk]; exact hO5
    · rw [ltI_false] at e
      have hkn : n7 = n := by unfold lenI at e; omega
      subst hkn
      have hfull : (turned l t).take n7 = turned l t := List.take_of_length_le (by rw [(turned_perm l t).length_eq, hlen]; exact Nat.le_refl _)
      have hE : EntsIs m3 a7 n7 (turned l t) := by
        rcases hO with ⟨h1, _⟩ | ⟨_, h2⟩
        · omega
        · rw [hfull] at h2; exact h2.ents
      refine pick_ok k3m.wf (hl.keep hw k3m) fun m6 pa na ca k6 hpa => ⟨_, _, _, rfl, ?_⟩
      have k6m := k3m.trans k6
      refine pick_ok k6m.wf (hE.keep k3m.wf k6) fun m7 pb nb cb k7 hpb => ⟨_, _, _, rfl, ?_⟩
      have k7m := k6m.trans k7
      rw [pl.pick_perm (turned_perm l t)] at hpb
      have em1 : addI .i64 mm 1 = mm + 1 := addI_64 (by omega) (by omega)
      rw [em1]
      refine pick_ok k7m.wf (hl.keep hw k7m) fun m8 pc nc cc k8 hpc => ⟨_, _, _, rfl, ?_⟩
      have k8m := k7m.trans k8
      obtain ⟨hla, hsa⟩ := sl_small hpa
      obtain ⟨hlb, hsb⟩ := sl_small hpb
      obtain ⟨hlc, hsc⟩ := sl_small hpc
      have hpa8 := SlIs.keep hpa k6m.wf (k7.trans k8)
      have hpb8 := SlIs.keep hpb k7m.wf k8
      have hla2 := pl.pick_length hg
      have hlc2 := pl.pick_length (hg.more hm63)
      refine joinK_of (fun J => ∀ m', Keep m8 m' → J m') (fun m9 k9 => ?_) (fun J hJ => ?_)
      · have k9m := k8m.trans k9
        have hpa9 := SlIs.keep hpa8 k8m.wf k9
        have hpc9 := SlIs.keep hpc k8m.wf k9
        refine ⟨fun i m10 w => ∃ p : Nat, p ≤ na ∧ i = (p : Int) ∧ w = na - p ∧ Keep m9 m10, ⟨na, 0, Nat.zero_le _, rfl, rfl, Keep.refl k9m.wf⟩, ?_⟩
        rintro i m10 w ⟨p, hp', rfl, rfl, k10⟩
        rw [splitB_iff]
        refine ⟨fun e => ?_, fun _ => rfl⟩
        rw [ltI_true] at e
        have hpn : p < na := by unfold lenI at e; omega
        obtain ⟨y, hy⟩ : ∃ y, (pl.pick mm l)[p]? = some y := ⟨_, List.getElem?_eq_getElem (by omega)⟩
        refine ⟨fun b i m11 w => ∃ q : Nat, q ≤ nc ∧ i = (q : Int) ∧ w = nc - q ∧ Keep m9 m11 ∧ b = decide (y ∈ (pl.pick (mm + 1) l).take q), ⟨nc, 0, Nat.zero_le _, rfl, rfl, k10, by simp⟩, ?_⟩
        rintro b i m11 w ⟨q, hq, rfl, rfl, k11, rfl⟩
        rw [splitB_iff]
        refine ⟨fun e2 => ?_, fun e2 => ?_⟩
        · rw [ltI_true] at e2
          have hqn : q < nc := by unfold lenI at e2; omega
          rw [mBind_iff]
          generalize hm12 : bump m11 13 = m12
          have k12 : Keep m9 m12 := hm12 ▸ k11.bump
          obtain ⟨z, hz⟩ : ∃ z, (pl.pick (mm + 1) l)[q]? = some z := ⟨_, List.getElem?_eq_getElem (by omega)⟩
          have htk : (pl.pick (mm + 1) l).take (q + 1) = (pl.pick (mm + 1) l).take q ++ [z] := by rw [List.take_add_one, hz]; rfl
          rw [splitB_iff]
          refine ⟨fun h => ⟨nc - (q + 1), less_w hqn, q + 1, hqn, inc64 (by omega), rfl, k12, ?_⟩, fun h => ?_⟩
          · have : y ∈ (pl.pick (mm + 1) l).take q := by simpa using h
            rw [htk]; simp [this]
          · have hno : y ∉ (pl.pick (mm + 1) l).take q := by simpa using h
            obtain ⟨b, o, rfl, h0⟩ := (SlIs.keep hpc9 k9m.wf k12).2 q (.int .i64 z) (by rw [List.getElem?_map, hz]; rfl)
            refine ⟨⟨by omega, by omega⟩, ?_⟩
            rw [vPtr_some]
            refine ⟨z, by rw [Int.toNat_natCast, Nat.mul_one]; exact h0, ⟨by omega, by omega⟩, ?_⟩
            obtain ⟨b', o', rfl, h0'⟩ := (SlIs.keep hpa9 k9m.wf k12).2 p (.int .i64 y) (by rw [List.getElem?_map, hy]; rfl)
            rw [vPtr_some]
            refine ⟨y, by rw [Int.toNat_natCast, Nat.mul_one]; exact h0', nc - (q + 1), less_w hqn, q + 1, hqn, inc64 (by omega), rfl, k12, ?_⟩
            rw [htk, Bool.eq_iff_iff, eqI_true, decide_eq_true_iff, List.mem_append, List.mem_singleton]
            exact ⟨fun h => .inr h.symm, fun h => h.elim (fun h => absurd h hno) fun h => h.symm⟩
        · rw [ltI_false] at e2
          have hqe : q = nc := by unfold lenI at e2; omega
          subst hqe
          rw [List.take_of_length_le (by omega)]
          have hin := pl.pick_more hg hm63 (List.mem_of_getElem? hy)
          rw [decide_eq_true hin, show (!true) = false from rfl, splitB_false]
          exact ⟨na - (p + 1), less_w hpn, p + 1, hpn, inc64 (by omega), rfl, k11⟩
      · refine ints_ok k8m.wf hpa8 hpb8 (by omega) fun m13 k13 => ⟨_, rfl, ?_⟩
        rw [decide_eq_true rfl, show (!true) = false from rfl, splitB_false]
        rw [splitB_iff]
        refine ⟨fun e2 => ?_, fun _ => hJ m13 k13⟩
        exfalso
        have el : addI .i64 (lenI na) 1 = ((na + 1 : Nat) : Int) := inc64 (by omega)
        rw [ltI_true, el] at e2
        exact len_more (hla.trans hla2) (hlc.trans hlc2) hm1 e2
  · rw [splitB_iff]
    refine ⟨fun _ => rfl, fun e1 => ?_⟩
    rw [splitB_iff]
    refine ⟨fun _ => rfl, fun e2 => ?_⟩
    rw [splitB_iff]
    refine ⟨fun _ => rfl, fun e3 => ?_⟩
    rw [splitB_iff]
    refine ⟨fun _ => rfl, fun e4 => ?_⟩
    rw [ltI_false] at e1 e2 e3 e4
    refine good_ok hw hl fun m1 k1 => ⟨_, rfl, ?_⟩
    rw [splitB_iff]
    refine ⟨fun _ => rfl, fun e => hJ m1 k1 (goodB_iff.1 (by simpa using e)) (by unfold lenI at e1; omega) (by unfold lenI at e2; omega) e3 (by omega)⟩

end Go.Proofs.Ytmjpkannhbaklaa.vc

namespace Go.Proofs.Ytmjpkannhbaklaa.edfOrder
open Go Go.ChangeShapes Go.WideShapes Go.ChangeAt Go.RowKit Go.AX
set_option linter.unusedVariables false

theorem own : ownKnob Try.prog.godebug = none := by kernel_rfl

theorem walk {H : Type} {enc : TypeId × Value → H} (W : World) (args : Array Value) (ds : List (DataW H)) (p : List MemPlace) (hA : DataW.TrodAll enc Try.prog W 0 (fun _ => true) true [3, 22, 3] args.toList ds p)
    (hval : ∀ (j : Nat) t v, ([3, 22, 3] : List TypeId)[j]? = some t → args.toList[j]? = some v → Value.okWide Try.prog W .any 0 t v) :
    Calls Try.prog 4 args W (fun e w' => e = .returned (.bool true) ∧ Below W.heap.size W w') ∧ ∃ d1 d2 d3, ds = [d1, d2, d3] := by
  obtain ⟨l⟩ := args
  simp only at hA hval
  obtain ⟨v1, vs1, d1, ds1, p1, q1, rfl, rfl, rfl, h1, hA⟩ := trodAll_cons hA
  obtain ⟨v2, vs2, d2, ds2, p2, q2, rfl, rfl, rfl, h2, hA⟩ := trodAll_cons hA
  obtain ⟨v3, vs3, d3, ds3, p3, q3, rfl, rfl, rfl, h3, hA⟩ := trodAll_cons hA
  obtain ⟨rfl, rfl, rfl⟩ := trodAll_nil hA
  refine ⟨?_, d1, d2, d3, rfl⟩
  obtain ⟨mm, rfl, _⟩ := open_int Try.underlying3 (hval 0 _ _ rfl rfl) h1
  obtain ⟨a, n, c, l, rfl, hg, hl, _⟩ := vc.ents_arg (hval 1 _ _ rfl rfl) h2
  obtain ⟨tn, rfl, _, _, hwf⟩ := open_int Try.underlying3 (hval 2 _ _ rfl rfl) h3
  refine open_true (ann := vc.A4) vc.cxOk vc.ovOk vc.hmix W _ (by kernel_rfl : vc.cx.fn.get 4 = some Try.f4) ?_ ?_
  · simp only [List.all_cons, hg]; rfl
  · exact Eq.mp (vc.F4_eq mm a n c tn _ _) (vc.order_law (mW_wf _ _) hl (int_range hwf).2)

set_option maxRecDepth 100000 in
theorem lifted (os : Os) (started : os.Started) (H : Type) (enc : TypeId × Value → H) :
    ReturnsInHanded {} Try.checked os 4 .any (Rows.edfOrderSpec.pre6 enc Try.prog Try.f4 Rows.edfOrderRow.domain false) (Rows.edfOrderSpec.post enc Try.prog Try.f4 false true false false) := by
  refine returnsInHanded_of_change (C := Try.checked) own started (by kernel_rfl) Try.func4
    (ChangeSpec.witness6 (enc := enc) (C := Try.checked) false ⟨#[], #[.int .i64 0, .slice none 0 0, .int .i64 0], []⟩ 8 (by kernel_rfl) (by kernel_rfl) (by kernel_rfl) (by kernel_rfl)) ?_
  intro W base args ds gs before hval0 hW hcnd _
  have hval : ∀ (j : Nat) t v, Try.f4.params[j]? = some t → args[j]? = some v → Value.okWide Try.prog W .any base t v := hval0
  have hW' := hW
  obtain ⟨p, q, hA0, hV, rfl, hfz, hnd⟩ := hW
  have hA : DataW.TrodAll enc Try.prog W 0 (fun _ => true) true Try.f4.params.toList args.toList ds p := hA0
  rw [Try.params4] at hA hval
  obtain ⟨rfl, rfl⟩ := trodVars_none hV
  clear hA0 hval0
  simp only [List.append_nil] at hW'
  have hval' : ∀ (j : Nat) t v, ([3, 22, 3] : List TypeId)[j]? = some t → args.toList[j]? = some v → Value.okWide Try.prog W .any base t v := fun j t v h1 h2 => hval j t v (by simpa using h1) (by simpa using h2)
  obtain ⟨hc, d1, d2, d3, rfl⟩ := walk (enc := enc) W args ds p hA hval'
  refine hc.mono fun e W' ⟨he, hg⟩ => ?_
  subst he
  exact ⟨_, rfl, post_law Try.underlying4 (by kernel_rfl) rfl rfl (by kernel_rfl) (by rw [Try.params4]; exact hW') (by rw [Try.params4]; exact hA) hg⟩

theorem over : Rows.edfOrderRow.holds Try.pinned (OpenSpec.ofChange Rows.edfOrderSpec) :=
  OpenClaim.holds_of_wide 4 Try.f4 rfl rfl rfl rfl rfl rfl rfl ⟨rfl, rfl, rfl, rfl, rfl⟩ rfl rfl rfl rfl rfl (by kernel_rfl) Try.func4 (by kernel_rfl)
    (of_decide_eq_true (by kernel_rfl)) (by unfold Func.isWrapper; first | (rw [if_pos (by decide +kernel)]; kernel_rfl) | (rw [if_neg (by decide +kernel)]; exact ⟨rfl, rfl⟩))
    (fun os started H enc _ => lifted os started H enc)

theorem proved : Rows.EdfOrderSaid :=
  over
#print axioms proved
end Go.Proofs.Ytmjpkannhbaklaa.edfOrder
