/-
  OWN WORK. A CALL THAT LEAVES WHAT WAS THERE; a slice of one's own, one longer.
-/
import Derived.Test.YtjefcmlnclnbeaaDoorAxHeap
namespace Go.AX
open Go

/-- what was there stays -/
structure Keep (m m' : Mem) : Prop where
  wf : Wf m'
  nx : m.nx ≤ m'.nx
  fl : m'.fl = m.fl
  get : ∀ b, b < m.nx → m'.hp.get b = m.hp.get b

theorem Keep.refl {m : Mem} (h : Wf m) : Keep m m := ⟨h, Nat.le_refl _, rfl, fun _ _ => rfl⟩
theorem Keep.trans {m m1 m2 : Mem} (h : Keep m m1) (k : Keep m1 m2) : Keep m m2 :=
  ⟨k.wf, Nat.le_trans h.nx k.nx, k.fl.trans h.fl, fun b hb => (k.get b (Nat.lt_of_lt_of_le hb h.nx)).trans (h.get b hb)⟩
theorem Keep.newO {m m1 : Mem} {o : AObj} (h : Keep m m1) : Keep m (newO m1 o) :=
  ⟨h.wf.newO, by simp; have := h.nx; omega, h.fl, fun b hb => by rw [newO_get, if_neg (by have := h.nx; omega)]; exact h.get b hb⟩
theorem Keep.bump {m m1 : Mem} {n : Nat} (h : Keep m m1) : Keep m (AX.bump m1 n) :=
  ⟨h.wf.bump, by simp; have := h.nx; omega, h.fl, fun b hb => h.get b hb⟩
theorem Keep.wr {m m1 : Mem} {b o : Nat} {l : List Value} (h : Keep m m1) (hb : m.nx ≤ b) : Keep m (AX.wr m1 b o l) :=
  ⟨h.wf.wr, by simpa using h.nx, by simpa using h.fl, fun b' hb' => by rw [wr_get (by omega)]; exact h.get b' hb'⟩
theorem Keep.addO {m m1 : Mem} {b : Nat} {o : AObj} (h : Keep m m1) (hb : m.nx ≤ b) (hb2 : b < m1.nx) : Keep m (AX.addO m1 b o) :=
  ⟨h.wf.addO hb2, by simpa using h.nx, by simpa using h.fl, fun b' hb' => by rw [addO_get, if_neg (by omega)]; exact h.get b' hb'⟩
theorem Keep.row {m m' : Mem} (h : Keep m m') (hw : Wf m) {b : Nat} {l : List Value} {e : TypeId} {x : Bool} (hr : Row m b l e x) : Row m' b l e x := hr.congr (h.get b (hw.row hr))
theorem Keep.grow {m m' : Mem} (h : Keep m m') (hw : Wf m) {a : Option Addr} {n c s : Nat} {e : TypeId} {l : List Value} (hg : Grow m a n c s e l) : Grow m' a n c s e l := by
  refine ⟨hg.1, ?_⟩
  rcases hg.2 with h1 | ⟨b, h1, h2, h3, h4⟩
  · exact .inl h1
  · exact .inr ⟨b, h1, h2, by rw [h.fl]; exact h3, h.row hw h4⟩


/-- one more behind a slice of one's own -/
theorem push_ok {cx : Cx} {m0 m2 m3 : Mem} {a : Option Addr} {n c : Nat} {e t : TypeId} {i : TypeInfo} {z v : Value} {l : List Value} (hk : Keep m0 m2) (hw0 : Wf m0) (hG : Grow m2 a n c 1 e l) (ha : ∀ b, a = some ⟨b, 0, none⟩ → m0.nx ≤ b)
    (hm3 : newO m2 (row [v] e false) = m3) (ht : cx.un.get t = some (.slice e)) (hi : cx.ty.get e = some i) (his : i.size = 1) (hz : zeroT cx e = some z) (hzl : (cellsL z).length = 1) (ho : one1 v = true) (hb : i.bytes ≤ 1000) (hn : n ≤ 1000000) :
    ∃ m4, appendA cx m3 [t, t] [.slice a n c, .slice (some ⟨m2.nx, 0, none⟩) 1 1] = some (.slice (some ⟨m3.nx, 0, none⟩) (n + 1) (n + 1), m4) ∧ Keep m0 m4 ∧ Grow m4 (some ⟨m3.nx, 0, none⟩) (n + 1) (n + 1) 1 e (l ++ [v]) ∧ m0.nx ≤ m3.nx := by
  have hw2 := hk.wf
  have hw3 : Wf m3 := hm3 ▸ hw2.newO
  have nx3 : m3.nx = m2.nx + 1 := by rw [← hm3]; rfl
  have fl3 : m3.fl = m2.fl := by rw [← hm3]; rfl
  have g3 : ∀ b, b < m2.nx → m3.hp.get b = m2.hp.get b := fun b hb => by rw [← hm3, newO_get, if_neg (by omega)]
  have hT : Row m3 m2.nx [v] e false := hm3 ▸ Row.newO
  have hal : ∀ b, a = some ⟨b, 0, none⟩ → b < m2.nx := by
    rintro b rfl
    rcases hG.2 with ⟨h1, _⟩ | ⟨b', h1, _, _, h2⟩
    · cases h1
    · cases h1; exact hw2.row h2
  have hG3 : Grow m3 a n c 1 e l := by
    refine ⟨hG.1, ?_⟩
    rcases hG.2 with h1 | ⟨b, h1, h2, h3, h4⟩
    · exact .inl h1
    · exact .inr ⟨b, h1, h2, by rw [fl3]; exact h3, h4.congr (g3 b (hal b h1))⟩
  have hbb : (2 * (n + 1) + 192) * i.bytes ≤ 140737488355328 := by
    have h1 : (2 * (n + 1) + 192) ≤ 2000194 := by omega
    have h2 := Nat.mul_le_mul h1 hb
    omega
  obtain ⟨m4, h4, nx4, fl4, hR4, g4⟩ := append_grow hG3 ht ht rfl hi his hz hzl (by omega) (x := .slice (some ⟨m2.nx, 0, none⟩) 1 1) rfl (hT.rowAt (k := 1) (by simp)) rfl (by simp [ho]) (by omega) hbb (by omega)
  have nx0 := hk.nx
  have fl0 := hk.fl
  have hwf := hw0.1
  refine ⟨m4, h4, ⟨⟨by rw [fl4, nx4, fl3, fl0]; omega, fun b hb => ?_⟩, by omega, by rw [fl4, fl3, fl0], fun b hb => ?_⟩, ⟨?_, .inr ⟨m3.nx, rfl, rfl, by rw [fl4, fl3, fl0]; omega, hR4⟩⟩, by omega⟩
  · rw [nx4] at hb
    rw [g4 b (by omega) (fun b' e e' => by have := hal b' e; omega)]
    exact hw3.2 b (by omega)
  · rw [g4 b (by omega) (fun b' e e' => by have := ha b' e; omega), g3 b (by omega), hk.get b hb]
  · have := hG.1
    simp at this ⊢
    omega

end Go.AX
