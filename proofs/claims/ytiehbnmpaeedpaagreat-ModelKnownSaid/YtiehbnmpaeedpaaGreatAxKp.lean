/-
  OWN WORK. CALLS THAT LEAVE WHAT WAS THERE: small laws.
-/
import Derived.Test.YtiehbnmpaeedpaaGreatAxVdRun
import Derived.Test.YtiehbnmpaeedpaaGreatAxArr
namespace Go.AX
set_option linter.unusedSimpArgs false
set_option linter.unusedSectionVars false
open Go
set_option linter.unusedVariables false

theorem neI_self (x : Int) : neI x x = false := by simp [neI]

theorem Keep.unset {m m1 : Mem} {n : Nat} (hw : Wf m) (h : Keep (setFl m n) m1) : Keep m (setFl m1 m.fl) := by
  refine ⟨⟨?_, h.wf.2⟩, h.nx, rfl, h.get⟩
  have := h.nx
  have h2 := hw.1
  simp only [setFl_fl, setFl_nx] at *
  omega

theorem Wf.setFl {m : Mem} (h : Wf m) {n : Nat} (hn : n ≤ m.nx) : Wf (AX.setFl m n) := ⟨hn, h.2⟩

/-- .. behind other new blocks -/
theorem Keep.unset' {m m0 m1 : Mem} {n : Nat} (h0 : Keep m m0) (h : Keep (AX.setFl m0 n) m1) : Keep m (AX.setFl m1 m0.fl) := h0.trans (Keep.unset h0.wf h)


/-! ## appending to what has no room: a new block -/

theorem append_new {cx : Cx} {m : Mem} {t e s n k c ck : Nat} {a v : Option Addr} {old new : List Value} (hp : pushT cx t e s = true) (hgu : giveUp m a e s c = some m) (hold : firstL m s n (.slice a n c) = some old) (hol : old.length = n * s)
    (hnew : firstL m s k (.slice v k ck) = some new) (hnl : new.length = k * s) (ho : new.all one1 = true) (hcn : c < n + k) (hn : n + k ≤ 1000000) :
    appendA cx m [t, t] [.slice a n c, .slice v k ck] = some (.slice (some ⟨m.nx, 0, none⟩) (n + k) (n + k), newO m (row (old ++ new) e true)) := by
  obtain ⟨i, z, h1, h2, h3, h4, h5, h6, h7⟩ := pushT_of hp
  subst h3
  have hb : (2 * (n + k) + 192) * i.bytes ≤ 140737488355328 := by
    have h1 : (2 * (n + k) + 192) ≤ 2000194 := by omega
    have h2 := Nat.mul_le_mul h1 h7
    omega
  unfold appendA
  simp only [h1, h2, lenV, isRowD, hnew]
  have b1 : (Nat.beq new.length (k * i.size) && Nat.blt 0 i.size && new.all one1) = true := by
    rw [hnl, Tr.beq_true.2 rfl, show Nat.blt 0 i.size = true from Nat.ble_eq_true_of_le h6, ho]; rfl
  have b2 : Nat.ble (n + k) c = false := by
    cases hh : Nat.ble (n + k) c with
    | false => rfl
    | true => have := Nat.le_of_ble_eq_true hh; omega
  have b3 : (Nat.ble ((2 * (n + k) + 192) * i.bytes) 140737488355328 && Nat.ble (n + k) 1099511627776) = true := by
    rw [Nat.ble_eq_true_of_le hb, Nat.ble_eq_true_of_le (by omega)]; rfl
  have b4 : (Nat.beq old.length (n * i.size) && Nat.beq (cellsL z).length i.size) = true := by
    rw [hol, h5, Tr.beq_true.2 rfl, Tr.beq_true.2 rfl]; rfl
  simp only [b1, b2, b3, hold, h4, hgu, b4]
  rfl

/-- the cells of a slice's elements -/
theorem Arr.first {α : Type} {enc : α → List Value} {s : Nat} (hs : ∀ x, (enc x).length = s) (h0 : 0 < s) {m : Mem} {a : Option Addr} {n c : Nat} {l : List α} (h : Arr enc s m a n l) : firstL m s n (.slice a n c) = some (l.flatMap enc) := by
  have hl := h.1
  cases a with
  | none =>
    cases l with
    | nil => rfl
    | cons x r => obtain ⟨b, o, e, _⟩ := h.2 0 x rfl; cases e
  | some ad =>
    cases n with
    | zero => rw [List.length_eq_zero_iff.1 hl]; rfl
    | succ n =>
      have hx0 : l[0]? = some (l[0]'(by omega)) := List.getElem?_eq_getElem (by omega)
      obtain ⟨b, o, e, _⟩ := h.2 0 _ hx0
      cases e
      simp only [firstL]
      have hcell : ∀ j v, (l.flatMap enc)[j]? = some v → rd m b (o + j) = some v := by
        intro j v hv
        have hj : j < l.length * s := by rw [← flat_length hs]; exact (List.getElem?_eq_some_iff.1 hv).1
        have hq : j / s < l.length := (Nat.div_lt_iff_lt_mul h0).2 hj
        have hxx : l[j / s]? = some (l[j / s]) := List.getElem?_eq_getElem hq
        obtain ⟨b', o', e', hc⟩ := h.2 _ _ hxx
        cases e'
        have hm := Nat.div_add_mod j s
        have hr := Nat.mod_lt j h0
        have := hc (j % s) v (by
          rw [← flat_get hs hxx hr, ← hv]; congr 1
          rw [Nat.mul_comm]; exact hm)
        rw [show o + j = o + j / s * s + j % s by rw [Nat.mul_comm (j / s) s]; omega]
        exact this
      have hfl := flat_length hs l
      have hlen : (l.flatMap enc).length = (n + 1) * s := by rw [hfl, hl]
      have hpos : 0 < (l.flatMap enc).length := by rw [hlen, Nat.succ_mul]; omega
      -- the block
      have h1 := hcell ((l.flatMap enc).length - 1) _ (List.getElem?_eq_getElem (by omega))
      rw [rowAtL_eq, ← hlen]
      unfold rd at h1 hcell
      cases hr : rowO (m.hp.get b) with
      | none => rw [hr] at h1; cases h1
      | some cn =>
        obtain ⟨c', N⟩ := cn
        simp only [hr] at h1 hcell ⊢
        have hN : o + ((l.flatMap enc).length - 1) < N := by
          split at h1
          · rename_i hb; exact Nat.le_of_ble_eq_true hb
          · cases h1
        simp only [Nat.ble_eq_true_of_le (show o + (l.flatMap enc).length ≤ N by omega)]
        exact readL_of fun j v hj => by
          have := hcell j v hj
          split at this
          · exact this
          · cases this

end Go.AX
