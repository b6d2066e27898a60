/-
  OWN WORK. A CALL THAT LEAVES WHAT WAS THERE; a slice of one's own, one longer.
-/
import Derived.Test.YthpnifigjfplbaaGreatAxHeap
namespace Go.AX
open Go

/-- what was there stays -/
structure Keep (m m' : Mem) : Prop where
  wf : Wf m'
  nx : m.nx ≤ m'.nx
  fl : m'.fl = m.fl
  get : ∀ b, b < m.nx → m'.hp.get b = m.hp.get b

theorem Keep.refl {m : Mem} (h : Wf m) : Keep m m := ⟨h, Nat.le_refl _, rfl, fun _ _ => rfl⟩
theorem Keep.trans {m m1 m2 : Mem} (h : Keep m m1) (k : Keep m1 m2) : Keep m m2 :=
  ⟨k.wf, Nat.le_trans h.nx k.nx, k.fl.trans h.fl, fun b hb => (k.get b (Nat.lt_of_lt_of_le hb h.nx)).trans (h.get b hb)⟩
theorem Keep.newO {m m1 : Mem} {o : AObj} (h : Keep m m1) : Keep m (newO m1 o) :=
  ⟨h.wf.newO, by simp; have := h.nx; omega, h.fl, fun b hb => by rw [newO_get, if_neg (by have := h.nx; omega)]; exact h.get b hb⟩
theorem Keep.bump {m m1 : Mem} {n : Nat} (h : Keep m m1) : Keep m (AX.bump m1 n) :=
  ⟨h.wf.bump, by simp; have := h.nx; omega, h.fl, fun b hb => h.get b hb⟩
theorem Keep.wr {m m1 : Mem} {b o : Nat} {l : List Value} (h : Keep m m1) (hb : m.nx ≤ b) : Keep m (AX.wr m1 b o l) :=
  ⟨h.wf.wr, by simpa using h.nx, by simpa using h.fl, fun b' hb' => by rw [wr_get (by omega)]; exact h.get b' hb'⟩
theorem Keep.addO {m m1 : Mem} {b : Nat} {o : AObj} (h : Keep m m1) (hb : m.nx ≤ b) (hb2 : b < m1.nx) : Keep m (AX.addO m1 b o) :=
  ⟨h.wf.addO hb2, by simpa using h.nx, by simpa using h.fl, fun b' hb' => by rw [addO_get, if_neg (by omega)]; exact h.get b' hb'⟩
theorem Keep.row {m m' : Mem} (h : Keep m m') (hw : Wf m) {b : Nat} {l : List Value} {e : TypeId} {x : Bool} (hr : Row m b l e x) : Row m' b l e x := hr.congr (h.get b (hw.row hr))
theorem Keep.grow {m m' : Mem} (h : Keep m m') (hw : Wf m) {a : Option Addr} {n c s : Nat} {e : TypeId} {l : List Value} (hg : Grow m a n c s e l) : Grow m' a n c s e l := by
  refine ⟨hg.1, ?_⟩
  rcases hg.2 with h1 | ⟨b, h1, h2, h3, h4⟩
  · exact .inl h1
  · exact .inr ⟨b, h1, h2, by rw [h.fl]; exact h3, h.row hw h4⟩


/-- one more behind a slice of one's own -/
theorem push_ok {cx : Cx} {m0 m2 m3 : Mem} {a : Option Addr} {n c : Nat} {e t : TypeId} {i : TypeInfo} {z v : Value} {l : List Value} (hk : Keep m0 m2) (hw0 : Wf m0) (hG : Grow m2 a n c 1 e l) (ha : ∀ b, a = some ⟨b, 0, none⟩ → m0.nx ≤ b)
    (hm3 : newO m2 (row [v] e false) = m3) (ht : cx.un.get t = some (.slice e)) (hi : cx.ty.get e = some i) (his : i.size = 1) (hz : zeroT cx e = some z) (hzl : (cellsL z).length = 1) (ho : one1 v = true) (hb : i.bytes ≤ 1000) (hn : n ≤ 1000000) :
    ∃ m4, appendA cx m3 [t, t] [.slice a n c, .slice (some ⟨m2.nx, 0, none⟩) 1 1] = some (.slice (some ⟨m3.nx, 0, none⟩) (n + 1) (n + 1), m4) ∧ Keep m0 m4 ∧ Grow m4 (some ⟨m3.nx, 0, none⟩) (n + 1) (n + 1) 1 e (l ++ [v]) ∧ m0.nx ≤ m3.nx := by
  have hw2 := hk.wf
  have hw3 : Wf m3 := hm3 ▸ hw2.newO
  have nx3 : m3.nx = m2.nx + 1 := by rw [← hm3]; rfl
  have fl3 : m3.fl = m2.fl := by rw [← hm3]; rfl
  have g3 : ∀ b, b < m2.nx → m3.hp.get b = m2.hp.get b := fun b hb => by rw [← hm3, newO_get, if_neg (by omega)]
  have hT : Row m3 m2.nx [v] e false := hm3 ▸ Row.newO
  have hal : ∀ b, a = some ⟨b, 0, none⟩ → b < m2.nx := by
    rintro b rfl
    rcases hG.2 with ⟨h1, _⟩ | ⟨b', h1, _, _, h2⟩
    · cases h1
    · cases h1; exact hw2.row h2
  have hG3 : Grow m3 a n c 1 e l := by
    refine ⟨hG.1, ?_⟩
    rcases hG.2 with h1 | ⟨b, h1, h2, h3, h4⟩
    · exact .inl h1
    · exact .inr ⟨b, h1, h2, by rw [fl3]; exact h3, h4.congr (g3 b (hal b h1))⟩
  have hbb : (2 * (n + 1) + 192) * i.bytes ≤ 140737488355328 := by
    have h1 : (2 * (n + 1) + 192) ≤ 2000194 := by omega
    have h2 := Nat.mul_le_mul h1 hb
    omega
  obtain ⟨m4, h4, nx4, fl4, hR4, g4⟩ := append_grow hG3 ht ht rfl hi his hz hzl (by omega) (x := .slice (some ⟨m2.nx, 0, none⟩) 1 1) rfl (hT.rowAt (k := 1) (by simp)) rfl (by simp [ho]) (by omega) hbb (by omega)
  have nx0 := hk.nx
  have fl0 := hk.fl
  have hwf := hw0.1
  refine ⟨m4, h4, ⟨⟨by rw [fl4, nx4, fl3, fl0]; omega, fun b hb => ?_⟩, by omega, by rw [fl4, fl3, fl0], fun b hb => ?_⟩, ⟨?_, .inr ⟨m3.nx, rfl, rfl, by rw [fl4, fl3, fl0]; omega, hR4⟩⟩, by omega⟩
  · rw [nx4] at hb
    rw [g4 b (by omega) (fun b' e e' => by have := hal b' e; omega)]
    exact hw3.2 b (by omega)
  · rw [g4 b (by omega) (fun b' e e' => by have := ha b' e; omega), g3 b (by omega), hk.get b hb]
  · have := hG.1
    simp at this ⊢
    omega

/-- the block of a slice of one's own -/
def blk : Option Addr → List Nat
  | none => []
  | some a => [a.block]

theorem Grow.fr {m m' : Mem} {S : List Nat} (h : Fr m m' S) (hw : Wf m) {a : Option Addr} {n c s : Nat} {e : TypeId} {l : List Value} (hg : Grow m a n c s e l) (hn : ∀ b ∈ blk a, b ∉ S) : Grow m' a n c s e l := by
  refine ⟨hg.1, ?_⟩
  rcases hg.2 with h1 | ⟨b, h1, h2, h3, h4⟩
  · exact .inl h1
  · exact .inr ⟨b, h1, h2, by rw [h.fl]; exact h3, h.row h4 (hw.row h4) (hn b (by rw [h1]; simp [blk]))⟩

theorem Grow.blk_lt {m : Mem} (hw : Wf m) {a : Option Addr} {n c s : Nat} {e : TypeId} {l : List Value} (hg : Grow m a n c s e l) : ∀ b ∈ blk a, b < m.nx := by
  intro b hb
  rcases hg.2 with ⟨h1, _⟩ | ⟨b', h1, _, _, h2⟩
  · rw [h1] at hb; cases hb
  · rw [h1] at hb; simp [blk] at hb; subst hb; exact hw.row h2

/-- one more (of so many cells) behind a slice of one's own: what else changes -/
theorem push_fr {cx : Cx} {m2 m3 : Mem} {a : Option Addr} {n c s : Nat} {e t : TypeId} {i : TypeInfo} {z : Value} {vs l : List Value} (hw2 : Wf m2) (hG : Grow m2 a n c s e l)
    (hm3 : newO m2 (row vs e false) = m3) (hvs : vs.length = s) (hs : 0 < s) (ht : cx.un.get t = some (.slice e)) (hi : cx.ty.get e = some i) (his : i.size = s) (hz : zeroT cx e = some z) (hzl : (cellsL z).length = s) (ho : vs.all one1 = true) (hb : i.bytes ≤ 1000) (hn : n ≤ 1000000) :
    ∃ m4, appendA cx m3 [t, t] [.slice a n c, .slice (some ⟨m2.nx, 0, none⟩) 1 1] = some (.slice (some ⟨m2.nx + 1, 0, none⟩) (n + 1) (n + 1), m4) ∧ Wf m4 ∧ Fr m2 m4 (blk a) ∧ m4.nx = m2.nx + 2 ∧ Grow m4 (some ⟨m2.nx + 1, 0, none⟩) (n + 1) (n + 1) s e (l ++ vs) := by
  have hw3 : Wf m3 := hm3 ▸ hw2.newO
  have nx3 : m3.nx = m2.nx + 1 := by rw [← hm3]; rfl
  have fl3 : m3.fl = m2.fl := by rw [← hm3]; rfl
  have f3 : Fr m2 m3 [] := hm3 ▸ (Fr.refl m2 []).newO
  have hT : Row m3 m2.nx vs e false := hm3 ▸ Row.newO
  have hG3 : Grow m3 a n c s e l := hG.fr f3 hw2 (fun _ _ h => by cases h)
  have hbl := hG.blk_lt hw2
  have hbb : (2 * (n + 1) + 192) * i.bytes ≤ 140737488355328 := by
    have h1 : (2 * (n + 1) + 192) ≤ 2000194 := by omega
    have h2 := Nat.mul_le_mul h1 hb
    omega
  have hrow : rowAtL m3 ⟨m2.nx, 0, none⟩ (1 * s) = some vs := by
    have := hT.rowAt (o := 0) (k := 1 * s) (by omega)
    rw [this]; congr 1; simp
    rw [List.take_of_length_le (by omega)]
  obtain ⟨m4, h4, nx4, fl4, hR4, g4⟩ := append_grow hG3 ht ht rfl hi his hz hzl hs (x := .slice (some ⟨m2.nx, 0, none⟩) 1 1) (k := 1) rfl (by simp only [firstL]; exact hrow) (by omega) ho (by omega) hbb (by omega)
  rw [nx3] at h4 hR4
  have hfl := hw2.1
  have g4' : ∀ b', b' ≠ m3.nx → b' ∉ blk a → m4.hp.get b' = m3.hp.get b' := fun b' h1 h2 => g4 b' h1 (fun b e e' => h2 (by rw [e, e']; simp [blk]))
  refine ⟨m4, h4, ⟨by omega, fun b hb => ?_⟩, ⟨by omega, by omega, fun b hb hn' => ?_⟩, by omega, ⟨?_, .inr ⟨_, rfl, rfl, by omega, hR4⟩⟩⟩
  · rw [nx4] at hb
    rw [g4' b (by omega) (fun h => by have := hbl b h; omega)]
    exact hw3.2 b (by omega)
  · rw [g4' b (by omega) hn', f3.get b hb (by simp)]
  · have := hG.1
    simp [this, hvs, Nat.succ_mul]

/-- may a slice of this type grow by elements of so many cells -/
noncomputable def pushT (cx : Cx) (t e s : Nat) : Bool := match cx.un.get t, cx.ty.get e, zeroT cx e with
  | some (.slice e'), some i, some z => Nat.beq e' e && (Nat.beq i.size s && (Nat.blt 0 s && (Nat.beq (cellsL z).length s && Nat.ble i.bytes 1000)))
  | _, _, _ => false

theorem pushT_of {cx : Cx} {t e s : Nat} (h : pushT cx t e s = true) : ∃ i z, cx.un.get t = some (.slice e) ∧ cx.ty.get e = some i ∧ i.size = s ∧ zeroT cx e = some z ∧ (cellsL z).length = s ∧ 0 < s ∧ i.bytes ≤ 1000 := by
  unfold pushT at h
  split at h
  · next e' i z h1 h2 h3 =>
    simp only [Bool.and_eq_true] at h
    obtain ⟨a, b, c, d, f⟩ := h
    have ea : e' = e := Nat.eq_of_beq_eq_true a
    exact ⟨i, z, ea ▸ h1, h2, Nat.eq_of_beq_eq_true b, h3, Nat.eq_of_beq_eq_true d, Nat.le_of_ble_eq_true c, Nat.le_of_ble_eq_true f⟩
  · cases h

theorem push {cx : Cx} {m2 : Mem} {a : Option Addr} {n c s e t : Nat} {vs l : List Value} (hp : pushT cx t e s = true) (hw2 : Wf m2) (hG : Grow m2 a n c s e l) (hvs : vs.length = s) (ho : vs.all one1 = true) (hn : n ≤ 1000000) :
    ∃ m4, appendA cx (newO m2 (row vs e false)) [t, t] [.slice a n c, .slice (some ⟨m2.nx, 0, none⟩) 1 1] = some (.slice (some ⟨m2.nx + 1, 0, none⟩) (n + 1) (n + 1), m4) ∧ Wf m4 ∧ Fr m2 m4 (blk a) ∧ m4.nx = m2.nx + 2 ∧ Grow m4 (some ⟨m2.nx + 1, 0, none⟩) (n + 1) (n + 1) s e (l ++ vs) := by
  obtain ⟨i, z, h1, h2, h3, h4, h5, h6, h7⟩ := pushT_of hp
  exact push_fr hw2 hG rfl hvs h6 h1 h2 h3 h4 h5 ho h7 hn

theorem Grow.at {m : Mem} {a : Option Addr} {n c s : Nat} {e : TypeId} {l : List Value} (h : Grow m a n c s e l) {j : Nat} {v : Value} (hv : l[j]? = some v) : ∃ b, a = some ⟨b, 0, none⟩ ∧ rd m b j = some v := by
  rcases h.2 with ⟨_, h2, _⟩ | ⟨b, h1, _, _, h4⟩
  · have := h.1
    rw [h2, Nat.zero_mul] at this
    rw [List.length_eq_zero_iff.1 this] at hv
    cases hv
  · exact ⟨b, h1, by rw [h4.rd, hv]⟩

/-- a call that may change blocks that are not older than so and so -/
theorem Keep.of_fr {m m1 m2 : Mem} {S : List Nat} (k : Keep m m1) (hw : Wf m2) (f : Fr m1 m2 S) (hS : ∀ b ∈ S, m.nx ≤ b) : Keep m m2 :=
  ⟨hw, Nat.le_trans k.nx f.nx, f.fl.trans k.fl, fun b hb => (f.get b (Nat.lt_of_lt_of_le hb k.nx) (fun h => by have := hS b h; omega)).trans (k.get b hb)⟩

theorem Keep.fr {m m' : Mem} (k : Keep m m') (S : List Nat) : Fr m m' S := ⟨k.nx, k.fl, fun b hb _ => k.get b hb⟩

end Go.AX
