/-
  'Rows.ProgKnownCardSaid': the law ProgKnown, called where the library's tables stand as the program's text lays them, returns true.
  The walk is made by a proved executor (the texts ..Ax..): Lean's kernel runs it; strings.Join is taken by the library's contract.
-/
import Derived.Test.YtnhpljcjdfffkaaDoorRows
import Derived.Test.YtnhpljcjdfffkaaDoorCards
import Derived.Test.YtnhpljcjdfffkaaDoorTie
import Derived.Test.YtnhpljcjdfffkaaDoorShelf
import Derived.Test.YtnhpljcjdfffkaaDoorAxErr
import Derived.Test.YtnhpljcjdfffkaaDoorAxJoin
import Derived.WalkKit
import Derived.ProofKit
import Derived.OpenShut
import Derived.LaidMore
import Derived.Lay
import Derived.SevenTiedAt
import Derived.KernelRfl
namespace Go.Proofs.YtnhpljcjdfffkaaDoor.progKnown
open Go.ChangeShapes Go.WideShapes Go.ChangeAt Go.RowKit

theorem own : ownKnob Tryd.prog.godebug = none := by kernel_rfl

def pow10 : List Int := [1, 10, 100, 1000, 10000, 100000, 1000000, 10000000, 100000000, 1000000000, 10000000000, 100000000000, 1000000000000, 10000000000000, 100000000000000, 1000000000000000, 10000000000000000, 100000000000000000, 1000000000000000000, 10000000000000000000]

def tabs : Go.AX.Tabs := [(3, pow10.map (Value.int .u64))]

/-- strconv.ErrSyntax, strconv.ErrRange -/
def errs : Go.AX.Errs := [(1, 8, 114), (2, 9, 114)]

theorem laidPow : (Rows.laid_internal_strconv_uint64pow10 : DataW Unit) = .agg (pow10.map fun z => .lit (.int .u64 z)) := rfl

theorem laidMet_of {W : World} (h : laidMetH Tryd.prog Rows.progKnownRow.laid W) : laidMet Tryd.prog Rows.progKnownRow.laid W := by
  rw [MakeChecks.laidMetH_plain _ _ _ (by kernel_rfl)] at h
  exact h

theorem tabs_at {W : World} (h : laidMet Tryd.prog Rows.progKnownRow.laid W) : Go.AX.TabsAt Tryd.prog tabs W := by
  obtain ⟨ps, h1, _, h2⟩ := h
  have key := Go.AX.laid_heap h1 (fun b off hm => (h2 b off hm).1)
  intro x hx
  obtain ⟨g, t, cs, fuel, p, g1, g2, g3, g4⟩ := key ("internal/strconv.uint64pow10", Rows.laid_internal_strconv_uint64pow10) (by simp [Rows.progKnownRow])
  obtain rfl := Option.some.inj ((show Tryd.prog.globalNamed "internal/strconv.uint64pow10" = some 3 by kernel_rfl).symm.trans g1)
  obtain rfl := Option.some.inj ((show (Tryd.prog.globals[3]?).map (·.type) = some 104 by kernel_rfl).symm.trans g2)
  dsimp only at g3
  rw [laidPow] at g3
  have hcs := Go.AX.cells_ints (n := 20) (k := .u64) Tryd.underlying104 Tryd.underlying79 (by kernel_rfl) (by kernel_rfl) g3
  obtain rfl : x = (3, pow10.map (Value.int .u64)) := by simpa [tabs] using hx
  have hcs' : cs = (pow10.map (Value.int .u64)).toArray := Array.ext' (by simpa using hcs)
  obtain ⟨t', ht'⟩ := g4 (by rw [hcs']; decide)
  exact ⟨(show (3 : Nat) < Tryd.prog.globals.size from of_decide_eq_true (by kernel_rfl)), rfl, t', by rw [← hcs']; exact ht'⟩

theorem rows (u : TypeId) (h : Tryd.prog.typeName? 3 u = some "*errors.errorString") : u = 114 :=
  typeName_ptr_named (nm := "errors.errorString") (by kernel_rfl) (by kernel_rfl) (by decide) u h

theorem errs_at {W : World} (h : laidMet Tryd.prog Rows.progKnownRow.laid W) : Go.AX.ErrsAt Tryd.prog errs 10 W := by
  have h4 := h.tail.tail.tail.tail
  have h5 := h4.tail
  obtain ⟨a2, t2, e2, s2⟩ := Go.AX.laid_err h4 (g := 2) (by kernel_rfl) (by kernel_rfl) Tryd.underlying57 rows Tryd.underlying114 Tryd.underlying116 rfl rfl Tryd.underlying9 (by kernel_rfl) (by kernel_rfl)
  obtain ⟨a1, t1, e1, s1⟩ := Go.AX.laid_err h5 (g := 1) (by kernel_rfl) (by kernel_rfl) Tryd.underlying57 rows Tryd.underlying114 Tryd.underlying116 rfl rfl Tryd.underlying9 (by kernel_rfl) (by kernel_rfl)
  have hsz : Tryd.prog.globals.size = 8 := by kernel_rfl
  refine ⟨by rw [hsz]; decide, fun x hx => ?_⟩
  simp only [errs, List.mem_cons, List.mem_nil_iff, or_false] at hx
  rcases hx with rfl | rfl
  · exact ⟨by rw [hsz]; decide, by rw [hsz]; decide, by decide, rfl, a1, t1, e1, s1⟩
  · exact ⟨by rw [hsz]; decide, by rw [hsz]; decide, by decide, rfl, a2, t2, e2, s2⟩

/-- the functions that stand as a summary -/
def ov : Go.AX.Tr (List Value → Go.AX.Mem → Option (Value × Go.AX.Mem)) :=
  (((((Go.AX.Tr.put .nil 31 Go.AX.joinA).put 37 (Go.AX.parseIntA 78)).put 39 (Go.AX.atoiA 78)).put 62 Go.AX.countA).put 69 Go.AX.cloneA).put 79 Go.AX.indexByteA

theorem sums : Go.AX.OvOk Tryd.prog (Go.AX.Cx.of Tryd.prog ov) := by
  intro k f h
  have h' : ov.get k = some f := h
  unfold ov at h'
  repeat rw [Go.AX.Tr.get_put] at h'
  split at h'
  · rename_i e
    subst e; cases h'
    exact Go.AX.indexByte_ok Tryd.func79 (by kernel_rfl) (by kernel_rfl) (by kernel_rfl) (by kernel_rfl)
  split at h'
  · rename_i e
    subst e; cases h'
    exact Go.AX.clone_ok Tryd.func69 (by kernel_rfl) (by kernel_rfl) (fun s w h => Tryd.stringslite_Clone s w h)
  split at h'
  · rename_i e
    subst e; cases h'
    exact Go.AX.count_ok Tryd.func62 (by kernel_rfl) (by kernel_rfl) (by kernel_rfl) (by kernel_rfl)
  split at h'
  · rename_i e
    subst e; cases h'
    exact Go.AX.atoi_ok Tryd.func39 (by kernel_rfl) (by kernel_rfl) Tryd.internal_strconv_Atoi_all
  split at h'
  · rename_i e
    subst e; cases h'
    exact Go.AX.parseInt_ok Tryd.func37 (by kernel_rfl) (by kernel_rfl) Tryd.internal_strconv_ParseInt_10_all64
  split at h'
  · rename_i e
    subst e; cases h'
    exact Go.AX.join_ok Tryd.func31 (by kernel_rfl) (by kernel_rfl) Tryd.strings_Join_none Tryd.strings_Join
  · rw [Go.AX.Tr_nil_get] at h'; cases h'

theorem ran : ∀ f, Go.AX.isTrue (Go.AX.callN (Go.AX.Cx.of Tryd.prog ov) 100000 6 [] (Go.AX.errMem f tabs errs 10)) = true := by
  intro f
  kernel_rfl

theorem walk (w : World) (h : laidMetH Tryd.prog Rows.progKnownRow.laid w) :
    Calls Tryd.prog 6 #[] w fun e w' => e = .returned (.bool true) ∧ Below w.heap.size w w' :=
  Go.AX.err_true (Go.AX.CxOk.of _ _) sums (Checked.mixed Tryd.checked) ran w (tabs_at (laidMet_of h)) (errs_at (laidMet_of h))

set_option maxRecDepth 100000 in
theorem lifted (os : Os) (started : os.Started) (H : Type) (enc : TypeId × Value → H) :
    ReturnsInHanded {} Tryd.checked os 6 .any (fun w args => (Rows.progKnownSpec.pre enc Tryd.prog Tryd.f6 [] false w args ∧ laidMetH Tryd.prog Rows.progKnownRow.laid w) ∧ sizedMet enc Tryd.prog Tryd.f6 (OpenSpec.ofChange Rows.progKnownSpec) false w args)
      (Rows.progKnownSpec.post enc Tryd.prog Tryd.f6 false true false false) := by
  refine returnsInHanded_of_change_and (C := Tryd.checked) (X := fun w _ => laidMetH Tryd.prog Rows.progKnownRow.laid w) (fun _ _ _ hh h => h.of_heap hh) own started (by kernel_rfl) Tryd.func6
    (ChangeSpec.witness_shaped (enc := enc) (C := Tryd.checked) (os := os) (X := fun w _ => laidMetH Tryd.prog Rows.progKnownRow.laid w) false (World.laidAll Tryd.prog os Rows.progKnownRow.laid) #[] 8 (World.laidAll_os _ _ _)
      (World.shaped_of_ZipB (by kernel_rfl) (by kernel_rfl)) (by kernel_rfl) (by kernel_rfl) (by kernel_rfl)
      (by rw [MakeChecks.laidMetH_plain _ _ _ (by kernel_rfl)]; exact laidMet_laidAll _ (by kernel_rfl) (by kernel_rfl))) ?_
  intro W base args ds gs before hval0 hW _ _ hL _
  have hW' := hW
  obtain ⟨p, q, hA0, hV, rfl, hfz, hnd⟩ := hW
  have hA : DataW.TrodAll enc Tryd.prog W 0 (fun _ => true) true Tryd.f6.params.toList args.toList ds p := hA0
  rw [Tryd.params6] at hA
  obtain ⟨rfl, rfl, rfl⟩ := trodAll_none hA
  obtain ⟨rfl, rfl⟩ := trodVars_none hV
  clear hA0 hval0
  simp only [List.append_nil] at hW'
  refine (walk W hL).mono fun e W' ⟨he, hg⟩ => ?_
  subst he
  exact ⟨_, rfl, Go.AX.post_of_below (pa := []) (pv := []) hW' (fun _ _ _ => (trodAll_cons_mk (shut_bool Tryd.underlying4 _) trodAll_mk0)) (fun sp _ => rfl) (fun _ _ => rfl) rfl
    hg (ok_one (by kernel_rfl) rfl (okWide_bool_mk Tryd.underlying4 _))⟩

theorem over : Rows.ProgKnownSaid :=
  OpenClaim.holds_of_wide 6 Tryd.f6 rfl rfl rfl rfl rfl rfl rfl ⟨rfl, rfl, rfl, rfl, rfl⟩ rfl rfl rfl rfl rfl (by kernel_rfl) Tryd.func6 (by kernel_rfl)
    (of_decide_eq_true (by kernel_rfl)) (by unfold Func.isWrapper; first | (rw [if_pos (by decide +kernel)]; kernel_rfl) | (rw [if_neg (by decide +kernel)]; exact ⟨rfl, rfl⟩))
    (fun os started H enc _ => lifted os started H enc)

theorem proved : Rows.ProgKnownCardSaid :=
  Claim7.holds_tied_plain_at .later [] [.data, .data, .data, .data, .sentinel, .sentinel, .pinned] true (true, "8248196fa21c704be0958aeea8beb9695ba8342e99601f03b44f02d8f6aae9e5") true
    over (fun _ h => by cases h) (by kernel_rfl) (fun _ h => by cases h) progKnown_row_tie rfl ⟨rfl, rfl⟩ (by kernel_rfl) rfl
    (fun f fn hf hfn => by
      obtain rfl : f = 6 := Option.some.inj ((show Tryd.prog.funcNamed "beadle/beadlelaw10.ProgKnown" = some 6 by kernel_rfl).symm.trans hf) |>.symm
      obtain rfl : fn = Tryd.f6 := (Option.some.inj (Tryd.func6.symm.trans hfn)).symm
      exact ⟨by kernel_rfl, fun j t ht => by
        rw [Tryd.params6] at ht
        simp at ht⟩)
    (by kernel_rfl)
#print axioms proved
end Go.Proofs.YtnhpljcjdfffkaaDoor.progKnown
