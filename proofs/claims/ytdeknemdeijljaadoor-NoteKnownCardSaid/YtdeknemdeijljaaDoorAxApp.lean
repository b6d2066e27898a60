/-
  OWN WORK. ONE SLICE's ELEMENTS BEHIND ANOTHER's.
-/
import Derived.Test.YtdeknemdeijljaaDoorAxStr
namespace Go.AX
open Go

theorem Arr.first {α : Type} {enc : α → List Value} {s : Nat} (hs : ∀ x, (enc x).length = s) (hs0 : 0 < s) {m : Mem} {a : Option Addr} {n c : Nat} {l : List α} (h : Arr enc s m a n l) : firstL m s n (.slice a n c) = some (l.flatMap enc) := by
  have hl := h.1
  subst hl
  cases a with
  | none =>
    cases l with
    | nil => rfl
    | cons x r =>
      obtain ⟨b, o, h1, _⟩ := h.2 0 x rfl
      cases h1
  | some a =>
    cases l with
    | nil => rfl
    | cons x r =>
      obtain ⟨b, o, h1, _⟩ := h.2 0 x rfl
      cases h1
      simp only [List.length_cons, firstL]
      have hfl := flat_length hs (x :: r)
      rw [List.length_cons] at hfl
      rw [← hfl]
      refine rowAtL_of_rd (fun e => by
        rw [e] at hfl
        simp only [List.length_nil] at hfl
        have := Nat.mul_eq_zero.1 hfl.symm
        omega) fun j v hv => ?_
      have hj : j < (r.length + 1) * s := by rw [← hfl]; exact (List.getElem?_eq_some_iff.1 hv).1
      have hd : j / s < r.length + 1 := Nat.div_lt_of_lt_mul (by rwa [Nat.mul_comm])
      obtain ⟨b', o', e1, h2⟩ := h.2 (j / s) ((x :: r)[j / s]'(by simpa using hd)) (List.getElem?_eq_getElem _)
      cases e1
      have hm : j % s < s := Nat.mod_lt _ (by omega)
      have hjs : j = j / s * s + j % s := by rw [Nat.mul_comm]; exact (Nat.div_add_mod j s).symm
      have hv' : (enc ((x :: r)[j / s]'(by simpa using hd)))[j % s]? = some v := by
        rw [← flat_get hs (List.getElem?_eq_getElem (by simpa using hd)) hm, ← hjs, hv]
      have := h2 (j % s) v hv'
      rw [show o + j = o + j / s * s + j % s by omega]
      exact this

/-- what comes of an append: the slice grown, at a new block -/
structure Appended (m0 m m' : Mem) (a : Option Addr) (n s : Nat) (e : TypeId) (l : List Value) : Prop where
  keep : Keep m0 m'
  grow : Grow m' (some ⟨m.nx, 0, none⟩) n n s e l
  nx : m'.nx = m.nx + 1
  fr : Fr m m' (blk a)

/-- so many elements behind a slice of one's own -/
theorem grow_ok {cx : Cx} {m0 m : Mem} {a : Option Addr} {n c s k : Nat} {e t tx : TypeId} {x : Value} {l new : List Value} (k0 : Keep m0 m) (hG : Grow m a n c s e l) (hb : ∀ b ∈ blk a, m0.nx ≤ b) (hp : pushT cx t e s = true)
    (hux : (match cx.un.get tx with | some u => isRowD u | none => false) = true) (hx : lenV x = some k) (hf : firstL m s k x = some new) (hn : new.length = k * s) (ho : new.all one1 = true) (hk : 0 < k) (hnk : n + k ≤ 1000000) :
    ∃ m', appendA cx m [t, tx] [.slice a n c, x] = some (.slice (some ⟨m.nx, 0, none⟩) (n + k) (n + k), m') ∧ Appended m0 m m' a (n + k) s e (l ++ new) := by
  obtain ⟨i, z, h1, h2, h3, h4, h5, h6, h7⟩ := pushT_of hp
  obtain ⟨ux, hu1, hu2⟩ : ∃ ux, cx.un.get tx = some ux ∧ isRowD ux = true := by
    cases hu : cx.un.get tx with
    | none => rw [hu] at hux; cases hux
    | some u => rw [hu] at hux; exact ⟨u, rfl, hux⟩
  have hbb : (2 * (n + k) + 192) * i.bytes ≤ 140737488355328 := by
    have h1 : (2 * (n + k) + 192) ≤ 2000194 := by omega
    have h2 := Nat.mul_le_mul h1 h7
    omega
  obtain ⟨m', q1, q2, q3, q4, q5⟩ := append_grow hG h1 hu1 hu2 h2 h3 h4 h5 h6 hx hf hn ho hk hbb (by omega)
  have hbl := hG.blk_lt k0.wf
  have hfl := k0.wf.1
  have q5' : ∀ b', b' ≠ m.nx → b' ∉ blk a → m'.hp.get b' = m.hp.get b' := fun b' g1 g2 => q5 b' g1 (fun b e e' => g2 (by rw [e, e']; simp [blk]))
  have hw : Wf m' := ⟨by omega, fun b hb' => by
    rw [q2] at hb'
    rw [q5' b (by omega) (fun h => by have := hbl b h; omega)]
    exact k0.wf.2 b (by omega)⟩
  have fr : Fr m m' (blk a) := ⟨by omega, q3, fun b hb' hn' => q5' b (by omega) hn'⟩
  refine ⟨m', q1, Keep.of_fr k0 hw fr hb, ⟨?_, .inr ⟨_, rfl, rfl, by omega, q4⟩⟩, q2, fr⟩
  have := hG.1
  rw [List.length_append, this, hn, Nat.add_mul]

/-- so many elements behind a slice literal that has none -/
theorem append_new {cx : Cx} {m0 m : Mem} {b o s k : Nat} {e t tx : TypeId} {x : Value} {new : List Value} {ty : TypeId} {l : List Value} (k0 : Keep m0 m) (hR : Row m b l ty false) (hp : pushT cx t e s = true)
    (hux : (match cx.un.get tx with | some u => isRowD u | none => false) = true) (hx : lenV x = some k) (hf : firstL m s k x = some new) (hn : new.length = k * s) (ho : new.all one1 = true) (hk : 0 < k) (hnk : k ≤ 1000000) :
    ∃ m', appendA cx m [t, tx] [.slice (some ⟨b, o, none⟩) 0 0, x] = some (.slice (some ⟨m.nx, 0, none⟩) k k, m') ∧ Appended m0 m m' none k s e new := by
  obtain ⟨i, z, h1, h2, h3, h4, h5, h6, h7⟩ := pushT_of hp
  obtain ⟨ux, hu1, hu2⟩ : ∃ ux, cx.un.get tx = some ux ∧ isRowD ux = true := by
    cases hu : cx.un.get tx with
    | none => rw [hu] at hux; cases hux
    | some u => rw [hu] at hux; exact ⟨u, rfl, hux⟩
  obtain ⟨c, g1, _⟩ := hR
  have hfl := k0.wf.1
  refine ⟨newO m (row new e true), ?_, k0.newO, ⟨hn, .inr ⟨_, rfl, rfl, by simpa using hfl, Row.newO⟩⟩, rfl, (Fr.refl m _).newO⟩
  have his : i.size = s := h3
  subst his
  unfold appendA
  simp only [h1, hu1, h2, hx, hu2, hf]
  have hbb : (2 * k + 192) * i.bytes ≤ 140737488355328 := by
    have h1 : (2 * k + 192) ≤ 2000194 := by omega
    have h2 := Nat.mul_le_mul h1 h7
    omega
  have e1 : (Nat.beq new.length (k * i.size) && Nat.blt 0 i.size && new.all one1) = true := by
    rw [hn, ho, show Nat.beq (k * i.size) (k * i.size) = true from Nat.beq_refl _, show Nat.blt 0 i.size = true from Nat.ble_eq_true_of_le h6]; rfl
  have e2 : (Nat.ble ((2 * k + 192) * i.bytes) 140737488355328 && Nat.ble k 1099511627776) = true := by
    rw [Nat.ble_eq_true_of_le hbb, Nat.ble_eq_true_of_le (by omega)]; rfl
  have e3 : Nat.ble k 0 = false := by
    cases h : Nat.ble k 0 with
    | false => rfl
    | true => have := Nat.le_of_ble_eq_true h; omega
  have e4 : firstL m i.size 0 (.slice (some ⟨b, o, none⟩) 0 0) = some [] := rfl
  have e5 : giveUp m (some ⟨b, o, none⟩) e i.size 0 = some m := by unfold giveUp; simp only [g1]
  have e6 : (Nat.beq ([] : List Value).length (0 * i.size) && Nat.beq (cellsL z).length i.size) = true := by
    rw [Nat.zero_mul, h5, show Nat.beq i.size i.size = true from Nat.beq_refl _]; rfl
  simp only [Nat.zero_add, e1, e2, e3, e4, e5, e6, h4, List.nil_append]
  rfl

/-- nothing more behind a slice -/
theorem append_none {cx : Cx} {m : Mem} {a : Option Addr} {n c s : Nat} {e t tx : TypeId} {x : Value} (hp : pushT cx t e s = true) (hux : (match cx.un.get tx with | some u => isRowD u | none => false) = true) (hx : lenV x = some 0) (hf : firstL m s 0 x = some []) (hnc : n ≤ c) :
    appendA cx m [t, tx] [.slice a n c, x] = some (.slice a n c, m) := by
  obtain ⟨i, z, h1, h2, h3, h4, h5, h6, h7⟩ := pushT_of hp
  obtain ⟨ux, hu1, hu2⟩ : ∃ ux, cx.un.get tx = some ux ∧ isRowD ux = true := by
    cases hu : cx.un.get tx with
    | none => rw [hu] at hux; cases hux
    | some u => rw [hu] at hux; exact ⟨u, rfl, hux⟩
  have his : i.size = s := h3
  subst his
  unfold appendA
  simp only [h1, hu1, h2, hx, hu2, hf]
  have e1 : (Nat.beq ([] : List Value).length (0 * i.size) && Nat.blt 0 i.size && ([] : List Value).all one1) = true := by
    rw [Nat.zero_mul, show Nat.blt 0 i.size = true from Nat.ble_eq_true_of_le h6]; rfl
  simp only [e1, Nat.add_zero, Nat.ble_eq_true_of_le hnc]
  cases a <;> rfl

/-- so many elements behind a slice that is a whole block whose room is known -/
theorem append_row {cx : Cx} {m0 m : Mem} {b s n k : Nat} {e t tx : TypeId} {x : Value} {new l : List Value} {ty : TypeId} (k0 : Keep m0 m) (hR : Row m b l ty false) (hln : l.length = n * s) (hp : pushT cx t e s = true)
    (hux : (match cx.un.get tx with | some u => isRowD u | none => false) = true) (hx : lenV x = some k) (hf : firstL m s k x = some new) (hn : new.length = k * s) (ho : new.all one1 = true) (hk : 0 < k) (hnk : n + k ≤ 1000000) :
    ∃ m', appendA cx m [t, tx] [.slice (some ⟨b, 0, none⟩) n n, x] = some (.slice (some ⟨m.nx, 0, none⟩) (n + k) (n + k), m') ∧ Appended m0 m m' none (n + k) s e (l ++ new) := by
  obtain ⟨i, z, h1, h2, h3, h4, h5, h6, h7⟩ := pushT_of hp
  obtain ⟨ux, hu1, hu2⟩ : ∃ ux, cx.un.get tx = some ux ∧ isRowD ux = true := by
    cases hu : cx.un.get tx with
    | none => rw [hu] at hux; cases hux
    | some u => rw [hu] at hux; exact ⟨u, rfl, hux⟩
  have hfl := k0.wf.1
  refine ⟨newO m (row (l ++ new) e true), ?_, k0.newO, ⟨by rw [List.length_append, hln, hn, Nat.add_mul], .inr ⟨_, rfl, rfl, by simpa using hfl, Row.newO⟩⟩, rfl, (Fr.refl m _).newO⟩
  have his : i.size = s := h3
  subst his
  have hall := hR.rowAll
  obtain ⟨c, g1, _⟩ := hR
  unfold appendA
  simp only [h1, hu1, h2, hx, hu2, hf]
  have hbb : (2 * (n + k) + 192) * i.bytes ≤ 140737488355328 := by
    have h1 : (2 * (n + k) + 192) ≤ 2000194 := by omega
    have h2 := Nat.mul_le_mul h1 h7
    omega
  have e1 : (Nat.beq new.length (k * i.size) && Nat.blt 0 i.size && new.all one1) = true := by
    rw [hn, ho, show Nat.beq (k * i.size) (k * i.size) = true from Nat.beq_refl _, show Nat.blt 0 i.size = true from Nat.ble_eq_true_of_le h6]; rfl
  have e2 : (Nat.ble ((2 * (n + k) + 192) * i.bytes) 140737488355328 && Nat.ble (n + k) 1099511627776) = true := by
    rw [Nat.ble_eq_true_of_le hbb, Nat.ble_eq_true_of_le (by omega)]; rfl
  have e3 : Nat.ble (n + k) n = false := by
    cases h : Nat.ble (n + k) n with
    | false => rfl
    | true => have := Nat.le_of_ble_eq_true h; omega
  have e4 : firstL m i.size n (.slice (some ⟨b, 0, none⟩) n n) = some l := by
    cases n with
    | zero =>
      rw [Nat.zero_mul] at hln
      rw [List.length_eq_zero_iff.1 hln]; rfl
    | succ n => simp only [firstL]; rw [← hln]; exact hall
  have e5 : giveUp m (some ⟨b, 0, none⟩) e i.size n = some m := by unfold giveUp; simp only [g1]
  have e6 : (Nat.beq l.length (n * i.size) && Nat.beq (cellsL z).length i.size) = true := by
    rw [hln, h5, show Nat.beq i.size i.size = true from Nat.beq_refl _, show Nat.beq (n * i.size) (n * i.size) = true from Nat.beq_refl _]; rfl
  simp only [e1, e2, e3, e4, e5, e6, h4]
  rfl

end Go.AX
