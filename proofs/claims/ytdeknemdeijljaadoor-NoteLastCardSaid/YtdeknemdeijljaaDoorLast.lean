/-
  'Rows.NoteLastCardSaid': the law NoteLast, called where the library's tables stand as the program's text lays them, returns true and leaves its arguments. No further condition narrows it.
-/
import Derived.Test.YtdeknemdeijljaaDoorNote
import Derived.Test.YtdeknemdeijljaaDoorCards
import Derived.Test.YtdeknemdeijljaaDoorTie
import Derived.Test.YtdeknemdeijljaaDoorAxArg
import Derived.Test.YtdeknemdeijljaaDoorAxLaw
import Derived.WalkKit
import Derived.ProofKit
import Derived.OpenShut
import Derived.LaidMore
import Derived.Lay
import Derived.SevenTiedAt
namespace Go.Proofs.YtdeknemdeijljaaDoor.vc
open Go Go.AX
set_option linter.unusedVariables false
set_option linter.unusedSimpArgs false

theorem keepN_more {r : Nat} {L M : List E} : keepN r (keepN r L ++ M) = keepN r (L ++ M) := by
  unfold keepN
  have e : L.drop (L.length - r) ++ M = (L ++ M).drop (L.length - r) := by rw [List.drop_append_of_le_length (by omega)]
  rw [e, List.drop_drop, List.length_drop, List.length_append]
  congr 1
  omega

theorem lost_more {r : Nat} {L M : List E} : (L.length - r) + ((keepN r L ++ M).length - r) = (L ++ M).length - r := by
  rw [List.length_append, keepN_len, List.length_append]
  omega

theorem EvsIs.one {m : Mem} {b : Nat} {x : E} {e : TypeId} {y : Bool} (h : Row m b (encV x) e y) : EvsIs m (some ⟨b, 0, none⟩) 1 [x] :=
  ⟨rfl, fun j v hv => ⟨b, 0, rfl, by rw [h.rd, Nat.zero_add, ← hv]; simp⟩⟩

def evL (k : Nat) : List E := (List.range k).map fun j : Nat => ((j : Int), 9, 1, 0)
theorem evL_len (k : Nat) : (evL k).length = k := by unfold evL; simp
theorem evL_succ (k : Nat) : evL (k + 1) = evL k ++ [((k : Int), 9, 1, 0)] := by unfold evL; rw [List.range_succ, List.map_append]; rfl
theorem evL_at {k j : Nat} (h : j < k) : (evL k)[j]? = some ((j : Int), 9, 1, 0) := by unfold evL; rw [List.getElem?_map, List.getElem?_range h]; rfl

theorem last_law {m : Mem} {x0 x1 : Int} (hw : Wf m) : F4 x0 x1 m fun r _ => r = .bool true := by
  unfold F4
  refine awake_ok ⟨true, rfl, ?_⟩
  rw [show (!true) = false from rfl, splitB_false]
  refine joinK_of (fun J => 1 ≤ x0 → x0 ≤ 200 → 0 ≤ x1 → x1 ≤ 500 → J m) (fun h1 h2 h3 h4 => ?_) (fun J hJ => ?_)
  rotate_left
  · simp only [splitB_iff, ltI_true, ltI_false]
    exact ⟨fun _ => trivial, fun h1 => ⟨fun _ => trivial, fun h2 => ⟨fun _ => trivial, fun h3 => ⟨fun _ => trivial, fun h4 => hJ h1 h2 h3 h4⟩⟩⟩⟩
  obtain ⟨n, rfl⟩ := Int.eq_ofNat_of_zero_le h3
  refine new_ok hw fun m3 r k3 r1 r2 er N3 => ⟨_, rfl, ?_⟩
  have er' : (r : Int) = x0 := by omega
  subst er'
  refine ⟨fun i m4 w => ∃ k : Nat, k ≤ n ∧ i = (k : Int) ∧ w = n - k ∧ Keep m m4 ∧ NoteIs m.nx m4 m.nx r (keepN r (evL k)) (k - r), ⟨n, 0, Nat.zero_le _, rfl, rfl, k3, ?_⟩, ?_⟩
  · rw [Nat.zero_sub, show keepN r (evL 0) = [] from by unfold keepN evL; simp]; exact N3
  rintro i m4 w ⟨k, hk, rfl, rfl, k4, N4⟩
  rw [splitB_iff]
  refine ⟨fun e => ?_, fun e => ?_⟩
  · rw [ltI_true] at e
    have hkn : k < n := by omega
    rw [mBind_iff]
    generalize hm5 : newO m4 _ = m5
    have k45 : Keep m4 m5 := hm5 ▸ (Keep.refl k4.wf).newO
    have hE : EvsIs m5 (some ⟨m4.nx, 0, none⟩) 1 [((k : Int), 9, 1, 0)] := EvsIs.one (e := 23) (y := false) (hm5 ▸ Row.newO)
    refine put_ok hw (k4.trans k45) (N4.keep k4.wf k45) hE (by omega) r1 r2 (by rw [keepN_len]; omega) (by omega) (by omega) fun m6 k6 N6 => ⟨rfl, ?_⟩
    refine ⟨n - (k + 1), less_w hkn, k + 1, hkn, inc64 (by omega), rfl, k6, ?_⟩
    have hl := lost_more (r := r) (L := evL k) (M := [((k : Int), 9, 1, 0)])
    rw [keepN_more] at N6
    rw [evL_len] at hl
    rw [hl, ← evL_succ, evL_len] at N6
    exact N6
  · rw [ltI_false] at e
    have hkn : k = n := by omega
    subst hkn
    clear e hk N3
    refine joinK_of (fun J => J ((min k r : Nat) : Int) m4) ?_ (fun J hJ => ?_)
    · have hlen : (keepN r (evL k)).length = min k r := by rw [keepN_len, evL_len]
      refine all_ok k4.wf N4 (by omega) fun m8 a8 c8 k8 hE8 => ⟨_, _, _, rfl, ?_⟩
      have N8 := N4.keep k4.wf k8
      rw [hlen] at hE8 ⊢
      have esub : subI .i64 (k : Int) ((min k r : Nat) : Int) = ((k - min k r : Nat) : Int) := by rw [subI_64 (by omega) (by omega)]; omega
      rw [esub]
      refine joinK_of (fun J => J m8) ?_ (fun J hJ => ?_)
      · refine ⟨fun i m9 w => ∃ j : Nat, j ≤ min k r ∧ i = (j : Int) ∧ w = min k r - j ∧ m9 = m8, ⟨min k r, 0, Nat.zero_le _, rfl, rfl, rfl⟩, ?_⟩
        rintro i m9 w ⟨j, hj, rfl, rfl, rfl⟩
        rw [splitB_iff]
        refine ⟨fun e => ?_, fun e => rfl⟩
        rw [ltI_true] at e
        have hjn : j < min k r := by omega
        have hx : (keepN r (evL k))[j]? = some (((k - min k r + j : Nat) : Int), 9, 1, 0) := by
          unfold keepN
          rw [List.getElem?_drop, evL_len, show k - r + j = k - min k r + j by omega]
          exact evL_at (by omega)
        obtain ⟨b, o, rfl, h0, _⟩ := hE8.at hx
        refine ⟨⟨by omega, by omega⟩, ?_⟩
        rw [vPtr_some]
        refine ⟨_, by rw [Int.toNat_natCast]; exact h0, ?_⟩
        have ea : addI .i64 ((k - min k r : Nat) : Int) (j : Int) = ((k - min k r + j : Nat) : Int) := by rw [addI_64 (by omega) (by omega)]; omega
        rw [ea, splitB_iff]
        refine ⟨fun e2 => by rw [neI_true] at e2; exact absurd rfl e2, fun _ => ⟨min k r - (j + 1), less_w hjn, j + 1, hjn, inc64 (by omega), rfl, rfl⟩⟩
      · have z : ∀ (a b : Nat), a = b → neI (a : Int) (b : Int) = false := fun a b e => neI_false.2 (by omega)
        rw [show lenI (min k r) = ((min k r : Nat) : Int) from rfl, z _ _ rfl, splitB_false]
        refine len_ok N8 ⟨_, rfl, ?_⟩
        rw [hlen, z _ _ rfl, splitB_false]
        refine lost_ok N8 ⟨_, rfl, ?_⟩
        rw [z (k - r) (k - min k r) (by omega), splitB_false]
        exact hJ
    · rw [splitB_iff]
      refine ⟨fun e => ?_, fun e => ?_⟩
      · rw [ltI_true] at e
        rw [show min k r = r by omega] at hJ; exact hJ
      · rw [ltI_false] at e
        rw [show min k r = k by omega] at hJ; exact hJ

theorem own : ownKnob Tryd.prog.godebug = none := by kernel_rfl

end Go.Proofs.YtdeknemdeijljaaDoor.vc

namespace Go.Proofs.YtdeknemdeijljaaDoor.noteLast
open Go Go.ChangeShapes Go.WideShapes Go.ChangeAt Go.RowKit Go.AX
set_option linter.unusedVariables false

set_option maxRecDepth 100000 in
theorem walk {H : Type} {enc : TypeId × Value → H} (W : World) (args : Array Value) (ds : List (DataW H)) (p : List MemPlace) (hL : laidMetH Tryd.prog Rows.noteLastRow.laid W) (hA : DataW.TrodAll enc Tryd.prog W 0 (fun _ => true) true [3, 3] args.toList ds p)
    (hval : ∀ (j : Nat) t v, ([3, 3] : List TypeId)[j]? = some t → args.toList[j]? = some v → Value.okWide Tryd.prog W .any 0 t v) :
    Calls Tryd.prog 4 args W (fun e w' => e = .returned (.bool true) ∧ Below W.heap.size W w') ∧ ∃ d1 d2, ds = [d1, d2] := by
  obtain ⟨l⟩ := args
  simp only at hA hval
  obtain ⟨v1, vs1, d1, ds1, p1, q1, rfl, rfl, rfl, h1, hA⟩ := trodAll_cons hA
  obtain ⟨v2, vs2, d2, ds2, p2, q2, rfl, rfl, rfl, h2, hA⟩ := trodAll_cons hA
  obtain ⟨rfl, rfl, rfl⟩ := trodAll_nil hA
  refine ⟨?_, d1, d2, rfl⟩
  obtain ⟨n0, rfl, _⟩ := open_int Tryd.underlying3 (hval 0 _ _ rfl rfl) h1
  obtain ⟨n1, rfl, _⟩ := open_int Tryd.underlying3 (hval 1 _ _ rfl rfl) h2
  refine open_true (ann := vc.A4) vc.cxOk vc.ovOk vc.hmix W _ (by kernel_rfl : vc.cx.fn.get 4 = some Tryd.f4) ?_ ?_
  · rfl
  · exact Eq.mp (vc.F4_eq n0 n1 _ _) (vc.last_law (mW_wf _ _))

set_option maxRecDepth 100000 in
theorem lifted (os : Os) (started : os.Started) (H : Type) (enc : TypeId × Value → H) :
    ReturnsInHanded {} Tryd.checked os 4 .any (fun w args => (Rows.noteLastSpec.pre enc Tryd.prog Tryd.f4 [] false w args ∧ laidMetH Tryd.prog Rows.noteLastRow.laid w) ∧ sizedMet enc Tryd.prog Tryd.f4 (OpenSpec.ofChange Rows.noteLastSpec) false w args)
      (Rows.noteLastSpec.post enc Tryd.prog Tryd.f4 false true false false) := by
  refine returnsInHanded_of_change_and (C := Tryd.checked) (X := fun w _ => laidMetH Tryd.prog Rows.noteLastRow.laid w) (fun _ _ _ hh h => h.of_heap hh) vc.own started (by kernel_rfl) Tryd.func4
    (ChangeSpec.witness_shaped (enc := enc) (C := Tryd.checked) (os := os) (X := fun w _ => laidMetH Tryd.prog Rows.noteLastRow.laid w) false (World.laidAll Tryd.prog os Rows.noteLastRow.laid) #[.int .i64 0, .int .i64 0] 8 (World.laidAll_os _ _ _)
      (World.shaped_of_ZipB (by kernel_rfl) (by kernel_rfl)) (by kernel_rfl) (by kernel_rfl) (by kernel_rfl)
      (by rw [MakeChecks.laidMetH_plain _ _ _ (by kernel_rfl)]; exact laidMet_laidAll _ (by kernel_rfl) (by kernel_rfl))) ?_
  intro W base args ds gs before hval0 hW hcnd _ hL _
  have hval : ∀ (j : Nat) t v, Tryd.f4.params[j]? = some t → args[j]? = some v → Value.okWide Tryd.prog W .any base t v := hval0
  have hW' := hW
  obtain ⟨p, q, hA0, hV, rfl, hfz, hnd⟩ := hW
  have hA : DataW.TrodAll enc Tryd.prog W 0 (fun _ => true) true Tryd.f4.params.toList args.toList ds p := hA0
  rw [Tryd.params4] at hA hval
  obtain ⟨rfl, rfl⟩ := trodVars_none hV
  clear hA0 hval0
  simp only [List.append_nil] at hW'
  have hval' : ∀ (j : Nat) t v, ([3, 3] : List TypeId)[j]? = some t → args.toList[j]? = some v → Value.okWide Tryd.prog W .any base t v := fun j t v h1 h2 => hval j t v (by simpa using h1) (by simpa using h2)
  obtain ⟨hc, d1, d2, rfl⟩ := walk (enc := enc) W args ds p hL hA hval'
  refine hc.mono fun e W' ⟨he, hg⟩ => ?_
  subst he
  exact ⟨_, rfl, post_law Tryd.underlying4 (by kernel_rfl) rfl rfl (by kernel_rfl) (by rw [Tryd.params4]; exact hW') (by rw [Tryd.params4]; exact hA) hg⟩

theorem over : Rows.NoteLastSaid :=
  OpenClaim.holds_of_wide 4 Tryd.f4 rfl rfl rfl rfl rfl rfl rfl ⟨rfl, rfl, rfl, rfl, rfl⟩ rfl rfl rfl rfl rfl (by kernel_rfl) Tryd.func4 (by kernel_rfl)
    (of_decide_eq_true (by kernel_rfl)) (by unfold Func.isWrapper; first | (rw [if_pos (by decide +kernel)]; kernel_rfl) | (rw [if_neg (by decide +kernel)]; exact ⟨rfl, rfl⟩))
    (fun os started H enc _ => lifted os started H enc)

theorem plain : (Tryd.f4.params.toList.all fun t => !Tryd.prog.wantsStandIn t) = true := by kernel_rfl

theorem proved : Rows.NoteLastCardSaid :=
  Claim7.holds_tied_plain_at .later [] [.data, .data, .data, .data, .sentinel, .sentinel, .pinned] true (true, "c30ddd46be1fac33a1844d5dc694f1f6238effd4d6a68e7e5fdb6c8e6b4ecc99") true
    over (fun _ h => by cases h) (by kernel_rfl) (fun _ h => by cases h) noteLast_row_tie rfl ⟨rfl, rfl⟩ (by kernel_rfl) rfl
    (fun f fn hf hfn => by
      obtain rfl : f = 4 := Option.some.inj ((show Tryd.prog.funcNamed "beadle/beadlelaw21.NoteLast" = some 4 by kernel_rfl).symm.trans hf) |>.symm
      obtain rfl : fn = Tryd.f4 := (Option.some.inj (Tryd.func4.symm.trans hfn)).symm
      exact ⟨by kernel_rfl, fun j t ht => by
        have := List.all_eq_true.1 plain t (List.mem_of_getElem? (by simpa using ht))
        exact (show Tryd.prog.wantsStandIn t = false by simpa using this)⟩)
    (by kernel_rfl)
#print axioms proved
end Go.Proofs.YtdeknemdeijljaaDoor.noteLast
