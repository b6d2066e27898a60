/-
  OWN WORK. CUTS OF SLICES; slices of one's own, read.
-/
import Derived.Test.YthpnifigjfplbaaGreatAxKeep
import Derived.Test.YthpnifigjfplbaaGreatAxArg
namespace Go.AX
open Go

theorem Row.sameSize {cx : Cx} {m : Mem} {b : Nat} {l : List Value} {e : TypeId} {x : Bool} {s : Nat} (h : Row m b l e x) (hs : sizeT cx e = some s) : sameSize cx m b s = true := by
  obtain ⟨c, h1, _⟩ := h
  unfold AX.sameSize
  rw [h1]
  cases x with
  | false => rfl
  | true => simp [hs]

/-- a cut of a slice of a block -/
theorem sliceOp_at {cx : Cx} {m : Mem} {t e : TypeId} {s b o n c i j : Nat} {lo hi : Option Value} (ht : cx.un.get t = some (.slice e)) (hs : sizeT cx e = some s) (hhi : boundA n hi c = some j) (hlo : boundA 0 lo j = some i) (hss : sameSize cx m b s = true) (hjc : j ≤ c) :
    sliceOp cx m t (.slice (some ⟨b, o, none⟩) n c) lo hi none = some (.slice (some ⟨b, o + i * s, none⟩) (j - i) (c - i)) := by
  unfold sliceOp
  simp only [ht, hs, hhi, hlo, hss, Nat.ble_eq_true_of_le hjc, Bool.and_self]
  rfl

/-- a cut of nothing -/
theorem sliceOp_nil {cx : Cx} {m : Mem} {t e : TypeId} {s : Nat} {lo hi : Option Value} (ht : cx.un.get t = some (.slice e)) (hs : sizeT cx e = some s) (hhi : boundA 0 hi 0 = some 0) (hlo : boundA 0 lo 0 = some 0) :
    sliceOp cx m t (.slice none 0 0) lo hi none = some (.slice none 0 0) := by
  unfold sliceOp
  simp only [ht, hs, hhi, hlo]

theorem boundA_some {d y : Nat} {k : IntKind} {i : Nat} (h : i ≤ y) : boundA d (some (.int k (i : Int))) y = some i := by
  unfold boundA
  simp [h]
theorem boundA_int {d y : Nat} {k : IntKind} {i : Int} {j : Nat} (e : i = (j : Int)) (h : j ≤ y) : boundA d (some (.int k i)) y = some j := by subst e; exact boundA_some h
theorem boundA_none {d y : Nat} : boundA d none y = some d := rfl

theorem SlIs.of_grow {m : Mem} {a : Option Addr} {n c : Nat} {e : TypeId} {l : List Value} (h : Grow m a n c 1 e l) : SlIs m a n l := by
  refine ⟨by have := h.1; omega, fun i v hv => ?_⟩
  obtain ⟨b, h1, h2⟩ := h.at hv
  exact ⟨b, 0, h1, by rwa [Nat.zero_add]⟩

theorem SlIs.keep {m m' : Mem} {a : Option Addr} {n : Nat} {l : List Value} (h : SlIs m a n l) (hw : Wf m) (k : Keep m m') : SlIs m' a n l := by
  refine ⟨h.1, fun i v hv => ?_⟩
  obtain ⟨b, o, h1, h2⟩ := h.2 i v hv
  exact ⟨b, o, h1, by rw [rd_congr (k.get b (hw.rd h2))]; exact h2⟩

theorem bytesEq_iff : ∀ {l k : List UInt8}, bytesEq l k = true ↔ l = k
  | [], [] => by simp [bytesEq]
  | [], _ :: _ => by simp [bytesEq]
  | _ :: _, [] => by simp [bytesEq]
  | a :: l, b :: k => by
    have ih := @bytesEq_iff l k
    by_cases h : a = b
    · simp [bytesEq, h, ih]
    · simp [bytesEq, h]
theorem eqS_iff {s t : ByteArray} : eqS s t = true ↔ s = t := by
  unfold eqS
  rw [bytesEq_iff]
  constructor
  · intro h
    cases s; cases t
    simp only at h
    congr 1
    exact Array.toList_inj.1 h
  · rintro rfl; rfl
theorem eqS_false {s t : ByteArray} : eqS s t = false ↔ s ≠ t := by
  rw [← Bool.not_eq_true, eqS_iff]

end Go.AX
