/-
  Package note: Events in memory; a copy of them; a row of Notes.
-/
import Derived.Test.YtdeknemdeijljaaDoorVc
import Derived.Test.YtdeknemdeijljaaDoorAxKeep
namespace Go.Proofs.YtdeknemdeijljaaDoor.vc
open Go Go.AX
set_option linter.unusedVariables false
set_option linter.unusedSimpArgs false

theorem un32 : cx.un.get 32 = some (.slice 23) := by kernel_rfl
noncomputable def ti23 : TypeInfo := match cx.ty.get 23 with | some i => i | none => default
theorem ty23 : cx.ty.get 23 = some ti23 := by kernel_rfl
theorem ti23s : ti23.size = 4 := by kernel_rfl
theorem ti23b : ti23.bytes = 32 := by kernel_rfl
theorem z23 : zeroT cx 23 = some (.agg #[.int .i64 0, .int .i64 0, .int .i64 0, .int .i64 0]) := by kernel_rfl
theorem sz23 : sizeT cx 23 = some 4 := by kernel_rfl

abbrev E := Int × Int × Int × Int
def encV (x : E) : List Value := [.int .i64 x.1, .int .i64 x.2.1, .int .i64 x.2.2.1, .int .i64 x.2.2.2]

/-- cells from an address on -/
def CellsAt (m : Mem) (a : Option Addr) (cs : List Value) : Prop := ∀ j v, cs[j]? = some v → ∃ b o, a = some ⟨b, o, none⟩ ∧ rd m b (o + j) = some v

/-- a slice of Events -/
def EvsIs (m : Mem) (a : Option Addr) (n : Nat) (l : List E) : Prop := l.length = n ∧ CellsAt m a (l.flatMap encV)

theorem CellsAt.nil (m : Mem) (a : Option Addr) : CellsAt m a [] := fun j v h => by simp at h
theorem EvsIs.nil (m : Mem) (a : Option Addr) : EvsIs m a 0 [] := ⟨rfl, CellsAt.nil m a⟩

theorem CellsAt.keep {m m' : Mem} {a : Option Addr} {cs : List Value} (h : CellsAt m a cs) (hw : Wf m) (k : Keep m m') : CellsAt m' a cs := fun j v hv => by
  obtain ⟨b, o, h1, h2⟩ := h j v hv
  exact ⟨b, o, h1, by rw [rd_congr (k.get b (hw.rd h2))]; exact h2⟩
theorem EvsIs.keep {m m' : Mem} {a : Option Addr} {n : Nat} {l : List E} (h : EvsIs m a n l) (hw : Wf m) (k : Keep m m') : EvsIs m' a n l := ⟨h.1, h.2.keep hw k⟩

theorem flat_len (l : List E) : (l.flatMap encV).length = l.length * 4 := by
  induction l with
  | nil => rfl
  | cons x r ih => rw [List.flatMap_cons, List.length_append, ih, List.length_cons]; show 4 + _ = _; omega

theorem flat_drop : ∀ (i : Nat) (l : List E), (l.drop i).flatMap encV = (l.flatMap encV).drop (i * 4)
  | 0, l => by simp
  | i + 1, [] => by simp
  | i + 1, x :: r => by
    rw [List.drop_succ_cons, flat_drop i r, List.flatMap_cons]
    have : (i + 1) * 4 = (encV x).length + i * 4 := by show _ = 4 + i * 4; omega
    rw [this, List.drop_append]
    have h : (encV x).drop ((encV x).length + i * 4) = [] := List.drop_eq_nil_of_le (by omega)
    rw [h, List.nil_append]
    congr 1
    omega

theorem flat_at {l : List E} {i k : Nat} {x : E} (h : l[i]? = some x) (hk : k < 4) : (l.flatMap encV)[i * 4 + k]? = (encV x)[k]? := by
  have h2 := flat_drop i l
  have h3 : ((l.drop i).flatMap encV)[k]? = (l.flatMap encV)[i * 4 + k]? := by rw [h2, List.getElem?_drop]
  rw [← h3]
  have hi := (List.getElem?_eq_some_iff.1 h)
  obtain ⟨hi1, hi2⟩ := hi
  rw [List.drop_eq_getElem_cons hi1, hi2, List.flatMap_cons, List.getElem?_append_left (by show k < 4; exact hk)]

theorem EvsIs.at {m : Mem} {a : Option Addr} {n i : Nat} {l : List E} {x : E} (h : EvsIs m a n l) (hx : l[i]? = some x) :
    ∃ b o, a = some ⟨b, o, none⟩ ∧ rd m b (o + i * 4) = some (.int .i64 x.1) ∧ rd m b (o + i * 4 + 1) = some (.int .i64 x.2.1) ∧ rd m b (o + i * 4 + 2) = some (.int .i64 x.2.2.1) ∧ rd m b (o + i * 4 + 3) = some (.int .i64 x.2.2.2) := by
  obtain ⟨b, o, ha, h0⟩ := h.2 (i * 4 + 0) _ ((flat_at hx (by omega)).trans rfl)
  have k : ∀ j (v : Value), (l.flatMap encV)[i * 4 + j]? = some v → rd m b (o + i * 4 + j) = some v := fun j v e => by
    obtain ⟨b', o', ha', h1⟩ := h.2 (i * 4 + j) v e
    rw [ha] at ha'; cases ha'
    rw [Nat.add_assoc]; exact h1
  exact ⟨b, o, ha, h0, k 1 _ ((flat_at hx (by omega)).trans rfl), k 2 _ ((flat_at hx (by omega)).trans rfl), k 3 _ ((flat_at hx (by omega)).trans rfl)⟩

theorem rd_row {m : Mem} {b i : Nat} {v : Value} (h : rd m b i = some v) : ∃ c n, rowO (m.hp.get b) = some (c, n) ∧ i < n ∧ c.get i = some v := by
  unfold rd at h
  split at h
  · rename_i c n hc
    split at h
    · rename_i hlt
      exact ⟨c, n, hc, Nat.le_of_ble_eq_true hlt, h⟩
    · cases h
  · cases h

theorem readL_of' {c : Tr Value} : ∀ {n o : Nat} {l : List Value}, l.length = n → (∀ i v, l[i]? = some v → c.get (o + i) = some v) → readL c n o = some l
  | 0, o, l, h, _ => by rw [List.length_eq_zero_iff.1 h]; rfl
  | n + 1, o, [], h, _ => by simp at h
  | n + 1, o, v :: r, h, hc => by
    have h0 := hc 0 v rfl
    have hr := readL_of' (c := c) (n := n) (o := o + 1) (l := r) (by simpa using h) (fun i v hv => by
      have := hc (i + 1) v (by simpa using hv)
      rw [← this]; congr 1; omega)
    unfold readL
    rw [Nat.add_zero] at h0
    simp only [h0, hr]

theorem rowAt_of {m : Mem} {b o : Nat} {l : List Value} (hl : 0 < l.length) (h : ∀ i v, l[i]? = some v → rd m b (o + i) = some v) : rowAtL m ⟨b, o, none⟩ l.length = some l := by
  obtain ⟨v, hv⟩ : ∃ v, l[l.length - 1]? = some v := ⟨_, List.getElem?_eq_getElem (by omega)⟩
  obtain ⟨c, n, hc, hn, _⟩ := rd_row (h _ v hv)
  have hle : o + l.length ≤ n := by omega
  have hrl : readL c l.length o = some l := readL_of' rfl fun i v hv => by
    obtain ⟨c', n', hc', _, h2⟩ := rd_row (h i v hv)
    rw [hc] at hc'; cases hc'
    exact h2
  unfold rowAtL
  simp only
  unfold rowO at hc
  split at hc
  · rename_i heq
    cases hc
    simp only [heq, Nat.ble_eq_true_of_le hle, hrl]
  · rename_i heq
    cases hc
    simp only [heq, Nat.ble_eq_true_of_le hle, hrl]
  · cases hc

/-- all its cells -/
theorem EvsIs.cells {m : Mem} {a : Option Addr} {n : Nat} {l : List E} (h : EvsIs m a n l) (hn : 0 < n) : ∃ b o, a = some ⟨b, o, none⟩ ∧ rowAtL m ⟨b, o, none⟩ (n * 4) = some (l.flatMap encV) := by
  obtain ⟨hl, h⟩ := h
  have hlen := flat_len l
  obtain ⟨v, hv⟩ : ∃ v, (l.flatMap encV)[0]? = some v := ⟨_, List.getElem?_eq_getElem (by omega)⟩
  obtain ⟨b, o, ha, _⟩ := h 0 v hv
  refine ⟨b, o, ha, ?_⟩
  have := rowAt_of (m := m) (b := b) (o := o) (l := l.flatMap encV) (by omega) (fun j v hv => by
    obtain ⟨b', o', ha', h1⟩ := h j v hv
    rw [ha] at ha'; cases ha'
    exact h1)
  rw [hlen, hl] at this
  exact this

theorem firstL_pos {m : Mem} {s n : Nat} {a : Addr} {k c : Nat} (hn : 0 < n) : firstL m s n (.slice (some a) k c) = rowAtL m a (n * s) := by
  cases n with
  | zero => omega
  | succ n => rfl

theorem EvsIs.first {m : Mem} {a : Option Addr} {n c : Nat} {l : List E} (h : EvsIs m a n l) (hn : 0 < n) : firstL m 4 n (.slice a n c) = some (l.flatMap encV) := by
  obtain ⟨b, o, rfl, hr⟩ := h.cells hn
  rw [firstL_pos hn]; exact hr

theorem encV_one (l : List E) : (l.flatMap encV).all one1 = true := by
  rw [List.all_eq_true]
  intro v hv
  rw [List.mem_flatMap] at hv
  obtain ⟨x, _, hx⟩ := hv
  simp only [encV, List.mem_cons, List.not_mem_nil, or_false] at hx
  rcases hx with rfl | rfl | rfl | rfl <;> rfl

/-- a slice of one's own that holds Events -/
def OwnE (s : Nat) (m : Mem) (a : Option Addr) (n c : Nat) (l : List E) : Prop := Grow m a n c 4 23 (l.flatMap encV) ∧ ∀ b, a = some ⟨b, 0, none⟩ → s ≤ b

theorem OwnE.evs {s : Nat} {m : Mem} {a : Option Addr} {n c : Nat} {l : List E} (h : OwnE s m a n c l) : EvsIs m a n l := by
  obtain ⟨⟨hl, hG⟩, _⟩ := h
  rw [flat_len] at hl
  refine ⟨by omega, fun j v hv => ?_⟩
  rcases hG with ⟨rfl, rfl, rfl⟩ | ⟨b, rfl, rfl, _, hR⟩
  · have := (List.getElem?_eq_some_iff.1 hv).1
    rw [flat_len] at this
    omega
  · exact ⟨b, 0, rfl, by rw [hR.rd, Nat.zero_add]; exact hv⟩

theorem OwnE.nil (s : Nat) (m : Mem) : OwnE s m none 0 0 [] := ⟨Grow.nil _ _ _, fun b e => by cases e⟩

theorem OwnE.keep {s : Nat} {m m' : Mem} {a : Option Addr} {n c : Nat} {l : List E} (h : OwnE s m a n c l) (hw : Wf m) (k : Keep m m') : OwnE s m' a n c l := ⟨k.grow hw h.1, h.2⟩

/-- an append to a block of one's own that holds nothing -/
theorem append_empty {m : Mem} {b n : Nat} {c : Tr Value} {k : Nat} {e0 : TypeId} {x : Value} {new : List Value} (hb : m.hp.get b = some (.cells c k e0 false)) (hx : lenV x = some n) (hf : firstL m 4 n x = some new) (hn : new.length = n * 4) (ho : new.all one1 = true) (hle : n ≤ 1000000) (hpos : 0 < n) :
    appendA cx m [32, 32] [.slice (some ⟨b, 0, none⟩) 0 0, x] = some (.slice (some ⟨m.nx, 0, none⟩) n n, newO m (row new 23 true)) := by
  unfold appendA
  simp only [un32, ty23, hx, isRowD]
  rw [ti23s, ti23b]
  simp only [hf]
  have e1 : (Nat.beq new.length (n * 4) && Nat.blt 0 4 && new.all one1) = true := by
    rw [hn, ho, show Nat.beq (n * 4) (n * 4) = true from Nat.beq_refl _]; rfl
  have e2 : (Nat.ble ((2 * (0 + n) + 192) * 32) 140737488355328 && Nat.ble (0 + n) 1099511627776) = true := by
    rw [Nat.ble_eq_true_of_le (by omega), Nat.ble_eq_true_of_le (by omega)]; rfl
  have e3 : Nat.ble (0 + n) 0 = false := by
    cases h : Nat.ble (0 + n) 0 with
    | false => rfl
    | true => have := Nat.le_of_ble_eq_true h; omega
  have e4 : rowAtL m ⟨b, 0, none⟩ (0 * 4) = some [] := by
    unfold rowAtL
    simp only [hb]
    rfl
  have e5 : giveUp m (some ⟨b, 0, none⟩) 23 4 0 = some m := by
    unfold giveUp
    simp only [hb]
  simp only [e1, e2, e3, firstL, e4, z23, e5]
  simp only [Nat.zero_add, List.nil_append]
  rfl

/-- a copy -/
theorem clone_ok {m : Mem} {a : Option Addr} {n c : Nat} {l : List E} {Q : Value → Mem → Prop} (hw : Wf m) (hl : EvsIs m a n l) (hn : n ≤ 1000000)
    (h : ∀ m' a' c', Keep m m' → EvsIs m' a' n l → (0 < n → OwnE m.nx m' a' n c' l) → Q (.slice a' n c') m') : CallW cx 28 [.slice a n c] m Q := by
  have l0 : n = 0 → l = [] := fun e => List.eq_nil_of_length_eq_zero (by rw [hl.1]; exact e)
  apply F28_ok; unfold F28
  cases a with
  | none =>
    refine ⟨true, by kernel_rfl, ?_⟩
    rw [splitB_true]
    have : n = 0 := by
      cases l with
      | nil => exact hl.1.symm
      | cons x r => obtain ⟨b, o, e, _⟩ := hl.2 0 _ rfl; cases e
    subst this
    exact h m none 0 (Keep.refl hw) hl (fun e => by omega)
  | some ad =>
    refine ⟨false, by kernel_rfl, ?_⟩
    rw [splitB_false, mBind_iff]
    generalize hm1 : newO m _ = m1
    have k1 : Keep m m1 := hm1 ▸ (Keep.refl hw).newO
    have n1 : m1.nx = m.nx + 1 := by rw [← hm1]; rfl
    have hb : m1.hp.get m.nx = some (.cells (writeL .nil [] 0) 0 23 false) := by
      rw [← hm1, newO_get, if_pos rfl]; rfl
    by_cases hn0 : n = 0
    · subst hn0
      refine ⟨some ⟨m.nx, 0, none⟩, 0, 0, m1, ?_, h m1 _ _ k1 (by rw [l0 rfl]; exact EvsIs.nil _ _) (fun e => by omega)⟩
      unfold appendA
      simp only [un32, ty23, lenV, isRowD]
      rw [ti23s]
      simp only [firstL]
      rfl
    · have hap := append_empty (x := .slice (some ad) n c) hb rfl ((hl.keep hw k1).first (by omega)) (by rw [flat_len, hl.1]) (encV_one l) hn (by omega)
      have hO : OwnE m.nx (newO m1 (row (l.flatMap encV) 23 true)) (some ⟨m1.nx, 0, none⟩) n n l := by
        refine ⟨⟨by rw [flat_len, hl.1], .inr ⟨m1.nx, rfl, rfl, ?_, Row.newO⟩⟩, ?_⟩
        · have := k1.wf.1; exact this
        · rintro b' e; cases e; omega
      exact ⟨_, _, _, _, hap, h _ _ _ k1.newO hO.evs (fun _ => hO)⟩

/-- Events behind a slice of one's own -/
theorem app_ok {m0 m : Mem} {a a1 : Option Addr} {n c n1 c1 : Nat} {l l1 : List E} (hk : Keep m0 m) (hw0 : Wf m0) (hO : OwnE m0.nx m a n c l) (h1 : EvsIs m a1 n1 l1) (hpos : 0 < n1) (hn : n + n1 ≤ 1000000) :
    ∃ m', appendA cx m [32, 32] [.slice a n c, .slice a1 n1 c1] = some (.slice (some ⟨m.nx, 0, none⟩) (n + n1) (n + n1), m') ∧ Keep m0 m' ∧ m'.nx = m.nx + 1 ∧ OwnE m.nx m' (some ⟨m.nx, 0, none⟩) (n + n1) (n + n1) (l ++ l1) ∧
      ∀ b', b' ≠ m.nx → (∀ b, a = some ⟨b, 0, none⟩ → b' ≠ b) → m'.hp.get b' = m.hp.get b' := by
  have hw := hk.wf
  obtain ⟨hG, ha⟩ := hO
  have hal : ∀ b, a = some ⟨b, 0, none⟩ → b < m.nx := by
    rintro b rfl
    rcases hG.2 with ⟨e1, _⟩ | ⟨b', e1, _, _, h2⟩
    · cases e1
    · cases e1; exact hw.row h2
  obtain ⟨m', h4, nx4, fl4, hR4, g4⟩ := append_grow hG un32 un32 rfl ty23 ti23s z23 rfl (by omega) (x := .slice a1 n1 c1) rfl (h1.first hpos) (by rw [flat_len, h1.1]) (encV_one l1) hpos (by rw [ti23b]; omega) (by omega)
  have nx0 := hk.nx
  have fl0 := hk.fl
  have hwf := hw0.1
  refine ⟨m', h4, ⟨⟨by rw [fl4, nx4, fl0]; omega, fun b hb => ?_⟩, by omega, by rw [fl4, fl0], fun b hb => ?_⟩, nx4, ⟨⟨?_, .inr ⟨m.nx, rfl, rfl, by rw [fl4, fl0]; omega, ?_⟩⟩, ?_⟩, g4⟩
  · rw [nx4] at hb
    rw [g4 b (by omega) (fun b' e e' => by have := hal b' e; omega)]
    exact hw.2 b (by omega)
  · rw [g4 b (by omega) (fun b' e e' => by have := ha b' e; omega), hk.get b hb]
  · have := hG.1
    rw [flat_len] at this ⊢
    rw [List.length_append, h1.1]
    omega
  · rw [List.flatMap_append]; exact hR4
  · rintro b e; cases e; exact Nat.le_refl _

theorem bound_lo {i : Nat} {y : Nat} (h : i ≤ y) : boundA 0 (some (.int .i64 (i : Int))) y = some i := by
  unfold boundA
  simp only
  rw [show (decide (0 ≤ (i : Int)) && decide ((i : Int) ≤ (y : Int))) = true by simp; omega]
  simp

theorem slice_some {m : Mem} {b n c i j o : Nat} {cc : Tr Value} {k : Nat} {e : TypeId} {x : Bool} (hb : m.hp.get b = some (.cells cc k e x)) (he : x = true → e = 23) {hi lo : Option Value} (h1 : boundA n hi c = some j) (h2 : boundA 0 lo j = some i) (hj : j ≤ c) :
    sliceOp cx m 32 (.slice (some ⟨b, o, none⟩) n c) lo hi none = some (.slice (some ⟨b, o + i * 4, none⟩) (j - i) (c - i)) := by
  unfold sliceOp
  simp only [un32, sz23, h1, h2]
  have hs : sameSize cx m b 4 = true := by
    unfold sameSize
    simp only [hb]
    cases x with
    | false => rfl
    | true => rw [he rfl]; simp only [sz23]; rfl
  rw [hs, Nat.ble_eq_true_of_le hj]
  simp [addA]

end Go.Proofs.YtdeknemdeijljaaDoor.vc
