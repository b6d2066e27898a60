/-
  Package edf: the summaries are what the machine does: slices.Sort, slices.SortFunc with the comparator of 'order', 'awake'.
-/
import Derived.Test.YtmjpkannhbaklaaShelf
import Derived.Test.YtmjpkannhbaklaaClosure
import Derived.Test.YtmjpkannhbaklaaDefs
import Derived.Test.YtmjpkannhbaklaaAxSortK
namespace Go.Proofs.Ytmjpkannhbaklaa.vc
open Go Go.AX Go.Sort Go.RowKit
set_option linter.unusedVariables false
set_option maxRecDepth 100000

instance : Kap := ⟨False⟩

theorem enc_same (x : pl.E) : vc0.encE x = encE x := rfl

theorem cmpLays (blk off size : Nat) (w : World) : CmpLays Try.prog 41 #[] encE 3 pl.cmpE blk off size w :=
  fun _ _ _ _ x y => vc0.closure41 x y _

theorem lt_of : ltOf pl.cmpE = pl.lt := rfl

theorem srt_sum : SumOk Try.prog 40 srtA := by
  refine sortK_sum (P := Try.prog) (f := 40) (fn := Try.f40) Try.func40 (by kernel_rfl) (by kernel_rfl) (enc := encE) (k := 3) (fun _ => rfl) (by omega) (fun _ => rfl) (fun l xs h => decE_eq h) pl.srt_length (fv := .func (.func 41) #[] #[]) ?_ ?_ ?_
  · intro φ v h
    cases h with
    | func fn f f' c c' hf _ hc _ =>
      obtain ⟨l⟩ := f'
      obtain ⟨l2⟩ := c'
      have e1 : l = [] := List.eq_nil_of_length_eq_zero (by simpa using hf.symm)
      have e2 : l2 = [] := List.eq_nil_of_length_eq_zero (by simpa using hc.symm)
      subst e1; subst e2; rfl
  · intro p cap w
    exact AnyF.slices_SortFunc_none Try.sortE p cap (.func (.func 41) #[] #[]) w
  · intro blk off cap d w hH hb hs
    have eg : ∀ args w, (callFunc 41 args).run Try.prog w = .ok (.enter 41 args) w := enters_of Try.func41 (by kernel_rfl) rfl
    exact AnyQ.slices_SortFunc_total Try.sortE 3 Try.isAgg29 Try.sizeOf29 encE (fun _ => rfl) (fun x v hv => by simp [encE] at hv; rcases hv with rfl | rfl | rfl <;> rfl) pl.cmpE (lt_of ▸ pl.swo) 41 #[] blk off cap d w eg (cmpLays blk off d.size w) hH hb hs (fun x y h1 h2 => pl.lt_total (lt_of ▸ h1) (lt_of ▸ h2))

theorem ints_sum : SumOk Try.prog 26 intsA :=
  sortInts_sum (P := Try.prog) (k := 26) (fn := Try.f26) Try.func26 (by kernel_rfl) (by kernel_rfl) Try.slices_Sort_int_none Try.slices_Sort_int

theorem hmix : Try.prog.follows .mixedOrders = true := by kernel_rfl

theorem awake_ran : isTrue (callN (Cx.of Try.prog) 100000 9 [] (m0 Try.prog)) = true := by
  kernel_rfl

theorem awake_sum : SumOk Try.prog 9 trueA :=
  true_sum (P := Try.prog) (cx := Cx.of Try.prog) (n := 100000) (k := 9) (fn := Try.f9) (CxOk.of _ _) (OvOk.nil _) hmix Try.func9 (by kernel_rfl) (by kernel_rfl) awake_ran

theorem ovOk : OvOk Try.prog cx := fun k f h =>
  ov_put (P := Try.prog) (k := 9) (f := trueA) (fun j g hj => ov_put (P := Try.prog) (k := 40) (f := srtA) (fun j g hj => ov_put (P := Try.prog) (t := Tr.nil) (k := 26) (f := intsA) ov_nil ints_sum j g hj) srt_sum j g hj) awake_sum k f h

end Go.Proofs.Ytmjpkannhbaklaa.vc
