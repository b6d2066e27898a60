/-
  Package edf: what stands as a summary where the executor meets it: 'awake' (closed), slices.Sort, slices.SortFunc with the comparator of 'order'.
-/
import Derived.Test.YtmjpkannhbaklaaRows
import Derived.Test.YtmjpkannhbaklaaPlain
import Derived.Test.YtmjpkannhbaklaaAxOpen
import Derived.Test.YtmjpkannhbaklaaAxSort
import Derived.KernelRfl
namespace Go.Proofs.Ytmjpkannhbaklaa.vc
open Go Go.AX
noncomputable section

/-- an entry's cells -/
def encE (x : pl.E) : List Value := [.int .i64 x.1, .int .i64 x.2.1, .bool x.2.2]

def decE : List Value → Option (List pl.E)
  | [] => some []
  | .int .i64 a :: .int .i64 b :: .bool c :: r => match decE r with
    | some l => some ((a, b, c) :: l)
    | none => none
  | _ => none

theorem decE_flat : ∀ l : List pl.E, decE (l.flatMap encE) = some l
  | [] => rfl
  | (a, b, c) :: l => by
    show (match decE (l.flatMap encE) with | some l => some ((a, b, c) :: l) | none => none) = _
    rw [decE_flat l]

theorem decE_eq {l : List Value} {xs : List pl.E} (h : decE l = some xs) : l = xs.flatMap encE := by
  fun_induction decE l generalizing xs with
  | case1 => cases h; rfl
  | case2 a b c r l hl ih =>
    cases h
    rw [ih hl]; rfl
  | case3 => cases h
  | case4 => cases h

def srtA : List Value → Mem → Option (Value × Mem) := rowA 3 (anewK encE decE pl.srt) [.func (.func 41) #[] #[]]
def intsA : List Value → Mem → Option (Value × Mem) := rowA 1 anewI []

def ov : Tr (List Value → Mem → Option (Value × Mem)) := Tr.put (Tr.put (Tr.put .nil 26 intsA) 40 srtA) 9 trueA
def cx : Cx := Cx.of Try.prog ov
theorem cxOk : CxOk Try.prog cx := CxOk.of _ _

theorem ov9 : cx.ov.get 9 = some trueA := by
  show ov.get 9 = _
  unfold ov
  rw [Tr.get_put, if_pos rfl]
theorem ov40 : cx.ov.get 40 = some srtA := by
  show ov.get 40 = _
  unfold ov
  rw [Tr.get_put, if_neg (by decide), Tr.get_put, if_pos rfl]
theorem ov26 : cx.ov.get 26 = some intsA := by
  show ov.get 26 = _
  unfold ov
  rw [Tr.get_put, if_neg (by decide), Tr.get_put, if_neg (by decide), Tr.get_put, if_pos rfl]

end
end Go.Proofs.Ytmjpkannhbaklaa.vc
