/-
  'Rows.MaskKnownCardSaid': the law MaskKnown, called where the library's tables stand as the program's text lays them, returns true.
  The walk is made by a proved executor (the texts ..Ax..): Lean's kernel runs it; strings.Join is taken by the library's contract.
-/
import Derived.Test.YtlenjadchmlliaaDoorRows
import Derived.Test.YtlenjadchmlliaaDoorCards
import Derived.Test.YtlenjadchmlliaaDoorTie
import Derived.Test.YtlenjadchmlliaaDoorShelf
import Derived.Test.YtlenjadchmlliaaDoorAxTab
import Derived.Test.YtlenjadchmlliaaDoorAxJoin
import Derived.WalkKit
import Derived.ProofKit
import Derived.OpenShut
import Derived.LaidMore
import Derived.SevenTiedAt
import Derived.KernelRfl
namespace Go.Proofs.YtlenjadchmlliaaDoor.maskKnown
open Go.ChangeShapes Go.WideShapes Go.ChangeAt Go.RowKit

theorem own : ownKnob Tryd.prog.godebug = none := by kernel_rfl

def tab64 : List Int := [0, 1, 56, 2, 57, 49, 28, 3, 61, 58, 42, 50, 38, 29, 17, 4, 62, 47, 59, 36, 45, 43, 51, 22, 53, 39, 33, 30, 24, 18, 12, 5, 63, 55, 48, 27, 60, 41, 37, 16, 46, 35, 44, 21, 52, 32, 23, 11, 54, 26, 40, 15, 34, 20, 31, 10, 25, 14, 19, 9, 13, 8, 7, 6]

def tabs : Go.AX.Tabs := [(0, tab64.map (Value.int .u8))]

theorem laid64 : (Rows.laid_math_bits_deBruijn64tab : DataW Unit) = .agg (tab64.map fun z => .lit (.int .u8 z)) := rfl

theorem tabs_at {W : World} (h : laidMetH Tryd.prog Rows.maskKnownRow.laid W) : Go.AX.TabsAt Tryd.prog tabs W := by
  rw [MakeChecks.laidMetH_plain _ _ _ (by kernel_rfl)] at h
  obtain ⟨ps, h1, _, h2⟩ := h
  have key := Go.AX.laid_heap h1 (fun b off hm => (h2 b off hm).1)
  intro x hx
  obtain ⟨g, t, cs, fuel, p, g1, g2, g3, g4⟩ := key ("math/bits.deBruijn64tab", Rows.laid_math_bits_deBruijn64tab) (by simp [Rows.maskKnownRow])
  obtain rfl := Option.some.inj ((show Tryd.prog.globalNamed "math/bits.deBruijn64tab" = some 0 by kernel_rfl).symm.trans g1)
  obtain rfl := Option.some.inj ((show (Tryd.prog.globals[0]?).map (·.type) = some 53 by kernel_rfl).symm.trans g2)
  dsimp only at g3
  rw [laid64] at g3
  have hcs := Go.AX.cells_ints (n := 64) (k := .u8) Tryd.underlying53 Tryd.underlying5 (by kernel_rfl) (by kernel_rfl) g3
  obtain rfl : x = (0, tab64.map (Value.int .u8)) := by simpa [tabs] using hx
  have hcs' : cs = (tab64.map (Value.int .u8)).toArray := Array.ext' (by simpa using hcs)
  obtain ⟨t', ht'⟩ := g4 (by rw [hcs']; decide)
  exact ⟨(show (0 : Nat) < Tryd.prog.globals.size from of_decide_eq_true (by kernel_rfl)), rfl, t', by rw [← hcs']; exact ht'⟩

/-- the functions that stand as a summary: strings.Join -/
def ov : Go.AX.Tr (List Value → Go.AX.Mem → Option (Value × Go.AX.Mem)) := Go.AX.Tr.put .nil 31 Go.AX.joinA

theorem sums : Go.AX.OvOk Tryd.prog (Go.AX.Cx.of Tryd.prog ov) := by
  intro k f h
  have h' : (Go.AX.Tr.put (Go.AX.Tr.nil) 31 Go.AX.joinA).get k = some f := h
  rw [Go.AX.Tr.get_put] at h'
  split at h'
  · rename_i e
    subst e; cases h'
    exact Go.AX.join_ok Tryd.func31 (by kernel_rfl) (by kernel_rfl) Tryd.strings_Join_none Tryd.strings_Join
  · rw [Go.AX.Tr_nil_get] at h'; cases h'

theorem ran : ∀ f, Go.AX.isTrue (Go.AX.callN (Go.AX.Cx.of Tryd.prog ov) 100000 7 [] (Go.AX.tabMem Tryd.prog f tabs)) = true := by
  intro f
  kernel_rfl

theorem walk (w : World) (h : laidMetH Tryd.prog Rows.maskKnownRow.laid w) :
    Calls Tryd.prog 7 #[] w fun e w' => e = .returned (.bool true) ∧ Below w.heap.size w w' :=
  Go.AX.tab_true (Go.AX.CxOk.of _ _) sums (Checked.mixed Tryd.checked) ran w (tabs_at h)

/-- The door's own heap meets the condition. -/
theorem door_met (os : Os) (args : Array Value) : laidMetH Tryd.prog Rows.maskKnownRow.laid ((World.doorLaid Tryd.prog 24 os).forCall (fun _ _ => 0) ⟨#[], args, []⟩).memory := by
  rw [MakeChecks.laidMetH_plain _ _ _ (by kernel_rfl)]
  exact laidMet_of_run' 8 (by kernel_rfl) (by kernel_rfl)

set_option maxRecDepth 100000 in
theorem lifted (os : Os) (started : os.Started) (H : Type) (enc : TypeId × Value → H) :
    ReturnsInHanded {} Tryd.checked os 7 .any (fun w args => (Rows.maskKnownSpec.pre enc Tryd.prog Tryd.f7 [] false w args ∧ laidMetH Tryd.prog Rows.maskKnownRow.laid w) ∧ sizedMet enc Tryd.prog Tryd.f7 (OpenSpec.ofChange Rows.maskKnownSpec) false w args)
      (Rows.maskKnownSpec.post enc Tryd.prog Tryd.f7 false true false false) := by
  refine returnsInHanded_of_change_and (C := Tryd.checked) (X := fun w _ => laidMetH Tryd.prog Rows.maskKnownRow.laid w) (fun _ _ _ hh h => h.of_heap hh) own started (by kernel_rfl) Tryd.func7
    (ChangeSpec.witness_shaped (enc := enc) (C := Tryd.checked) (os := os) (X := fun w _ => laidMetH Tryd.prog Rows.maskKnownRow.laid w) false (World.doorLaid Tryd.prog 24 os) #[] 8 rfl (World.shaped_of_RefB (by kernel_rfl) (by kernel_rfl)) (by kernel_rfl) (by kernel_rfl) (by kernel_rfl) (door_met os _)) ?_
  intro W base args ds gs before hval0 hW _ _ hL _
  have hW' := hW
  obtain ⟨p, q, hA0, hV, rfl, hfz, hnd⟩ := hW
  have hA : DataW.TrodAll enc Tryd.prog W 0 (fun _ => true) true Tryd.f7.params.toList args.toList ds p := hA0
  rw [Tryd.params7] at hA
  obtain ⟨rfl, rfl, rfl⟩ := trodAll_none hA
  obtain ⟨rfl, rfl⟩ := trodVars_none hV
  clear hA0 hval0
  simp only [List.append_nil] at hW'
  refine (walk W hL).mono fun e W' ⟨he, hg⟩ => ?_
  subst he
  exact ⟨_, rfl, Go.AX.post_of_below (pa := []) (pv := []) hW' (fun _ _ _ => (trodAll_cons_mk (shut_bool Tryd.underlying4 _) trodAll_mk0)) (fun sp _ => rfl) (fun _ _ => rfl) rfl
    hg (ok_one (by kernel_rfl) rfl (okWide_bool_mk Tryd.underlying4 _))⟩

theorem over : Rows.MaskKnownSaid :=
  OpenClaim.holds_of_wide 7 Tryd.f7 rfl rfl rfl rfl rfl rfl rfl ⟨rfl, rfl, rfl, rfl, rfl⟩ rfl rfl rfl rfl rfl (by kernel_rfl) Tryd.func7 (by kernel_rfl)
    (of_decide_eq_true (by kernel_rfl)) (by unfold Func.isWrapper; first | (rw [if_pos (by decide +kernel)]; kernel_rfl) | (rw [if_neg (by decide +kernel)]; exact ⟨rfl, rfl⟩))
    (fun os started H enc _ => lifted os started H enc)

theorem proved : Rows.MaskKnownCardSaid :=
  Claim7.holds_tied_plain_at .later [] [.data, .data, .data] true (true, "03d43ed8b915a9594593e4a6da3b2d9b0d6915be055e58c22c4e7135fb6a2efe") false
    over (fun _ h => by cases h) (by kernel_rfl) (fun _ h => by cases h) maskKnown_row_tie rfl ⟨rfl, rfl⟩ (by kernel_rfl) rfl
    (fun f fn hf hfn => by
      obtain rfl : f = 7 := Option.some.inj ((show Tryd.prog.funcNamed "beadle/beadlelaw3.MaskKnown" = some 7 by kernel_rfl).symm.trans hf) |>.symm
      obtain rfl : fn = Tryd.f7 := (Option.some.inj (Tryd.func7.symm.trans hfn)).symm
      exact ⟨by kernel_rfl, fun j t ht => by
        rw [Tryd.params7] at ht
        simp at ht⟩)
    (by kernel_rfl)
#print axioms proved
end Go.Proofs.YtlenjadchmlliaaDoor.maskKnown
