/-
  Package edf: how two entries are compared: what the code's comparators return (they leave what was there).
-/
import Derived.Test.YtmjpkannhbaklaaVcO
import Derived.Test.YtmjpkannhbaklaaPlain
import Derived.Test.YtmjpkannhbaklaaAxKeep
namespace Go.Proofs.Ytmjpkannhbaklaa.vc0
open Go Go.AX
set_option linter.unusedVariables false
set_option linter.unusedSimpArgs false

theorem neI_self (x : Int) : neI x x = false := by simp [neI]

theorem isNaN53 {x : Int} {m : Mem} {Q : Value → Mem → Prop} (h : Q (.bool false) m) : CallW cx 53 [.int .i64 x] m Q := by
  apply F53_ok; unfold F53; rw [neI_self]; exact h
theorem isNaN54 {x : Int} {m : Mem} {Q : Value → Mem → Prop} (h : Q (.bool false) m) : CallW cx 54 [.int .i64 x] m Q := by
  apply F54_ok; unfold F54; rw [neI_self]; exact h

theorem compare37 {x y : Int} {m : Mem} {Q : Value → Mem → Prop} (h : Q (.int .i64 (pl.c2 x y)) m) : CallW cx 37 [.int .i64 x, .int .i64 y] m Q := by
  apply F37_ok; unfold F37
  refine isNaN53 ⟨_, rfl, isNaN53 ⟨_, rfl, ?_⟩⟩
  unfold pl.c2 at h
  rw [splitB_false, splitB_false]
  simp only [splitB_iff, ltI_true, ltI_false]
  exact ⟨fun e => by rw [if_pos e] at h; exact h, fun e => ⟨fun e2 => by rw [if_neg (by omega), if_pos e2] at h; exact h, fun e2 => by rw [if_neg (by omega), if_neg (by omega)] at h; exact h⟩⟩

theorem compare38 {x y : Int} {m : Mem} {Q : Value → Mem → Prop} (h : Q (.int .i64 (pl.c2 x y)) m) : CallW cx 38 [.int .i64 x, .int .i64 y] m Q := by
  apply F38_ok; unfold F38
  refine isNaN54 ⟨_, rfl, isNaN54 ⟨_, rfl, ?_⟩⟩
  unfold pl.c2 at h
  rw [splitB_false, splitB_false]
  simp only [splitB_iff, ltI_true, ltI_false]
  exact ⟨fun e => by rw [if_pos e] at h; exact h, fun e => ⟨fun e2 => by rw [if_neg (by omega), if_pos e2] at h; exact h, fun e2 => by rw [if_neg (by omega), if_neg (by omega)] at h; exact h⟩⟩

theorem or36 {b : Nat} {x y : Int} {m : Mem} {Q : Value → Mem → Prop} (h0 : rd m b 0 = some (.int .i64 x)) (h1 : rd m b 1 = some (.int .i64 y)) (h : Q (.int .i64 (pl.or2 x y)) m) : CallW cx 36 [.slice (some ⟨b, 0, none⟩) 2 2] m Q := by
  apply F36_ok; unfold F36
  refine ⟨fun i m1 w => m1 = m ∧ ((i = 0 ∧ w = 2) ∨ (i = 1 ∧ x = 0 ∧ w = 1) ∨ (i = 2 ∧ x = 0 ∧ y = 0 ∧ w = 0)), ⟨2, rfl, .inl ⟨rfl, rfl⟩⟩, ?_⟩
  rintro i m1 w ⟨rfl, ⟨rfl, rfl⟩ | ⟨rfl, hx, rfl⟩ | ⟨rfl, hx, hy, rfl⟩⟩
  · rw [splitB_iff]
    refine ⟨fun _ => ⟨by omega, ?_⟩, fun e => by simp [ltI, lenI] at e⟩
    rw [vPtr_some]
    refine ⟨x, h0, ?_⟩
    rw [splitB_iff]
    refine ⟨fun e => ?_, fun e => ⟨1, by omega, rfl, .inr (.inl ⟨rfl, by rw [neI_false] at e; exact e, rfl⟩)⟩⟩
    rw [neI_true] at e
    unfold pl.or2 at h; rw [if_neg e] at h; exact h
  · rw [splitB_iff]
    refine ⟨fun _ => ⟨by omega, ?_⟩, fun e => by simp [ltI, lenI] at e⟩
    rw [vPtr_some]
    refine ⟨y, h1, ?_⟩
    rw [splitB_iff]
    refine ⟨fun e => ?_, fun e => ⟨0, by omega, rfl, .inr (.inr ⟨rfl, hx, by rw [neI_false] at e; exact e, rfl⟩)⟩⟩
    unfold pl.or2 at h; rw [if_pos hx] at h; exact h
  · rw [splitB_iff]
    refine ⟨fun e => by simp [ltI, lenI] at e, fun _ => ?_⟩
    unfold pl.or2 at h; rw [if_pos hx, hy] at h; exact h

/-- an entry's cells -/
def encE (x : pl.E) : List Value := [.int .i64 x.1, .int .i64 x.2.1, .bool x.2.2]

theorem compare27 {x y : pl.E} {m : Mem} {Q : Value → Mem → Prop} (hw : Wf m) (h : ∀ m', Keep m m' → Q (.int .i64 (pl.cmp0 x y)) m') : CallW cx 27 [.agg (encE x).toArray, .agg (encE y).toArray] m Q := by
  obtain ⟨x0, x1, xb⟩ := x
  obtain ⟨y0, y1, yb⟩ := y
  apply F27_ok; unfold F27
  rw [mBind_iff]
  generalize hm1 : newO m _ = m1
  have k1 : Keep m m1 := hm1 ▸ (Keep.refl hw).newO
  have n1 : m1.nx = m.nx + 1 := by rw [← hm1]; rfl
  have r1 : Row m1 m.nx [.int .i64 x0, .int .i64 x1, .bool xb] 29 false := hm1 ▸ Row.newO
  rw [mBind_iff]
  generalize hm2 : newO m1 _ = m2
  have k2 : Keep m m2 := hm2 ▸ k1.newO
  have n2 : m2.nx = m1.nx + 1 := by rw [← hm2]; rfl
  have r1' : Row m2 m.nx [.int .i64 x0, .int .i64 x1, .bool xb] 29 false := hm2 ▸ r1.old (by omega)
  have r2 : Row m2 m1.nx [.int .i64 y0, .int .i64 y1, .bool yb] 29 false := hm2 ▸ Row.newO
  rw [mBind_iff]
  generalize hm3 : bump m2 13 = m3
  have k3 : Keep m m3 := hm3 ▸ k2.bump
  have n3 : m3.nx = m2.nx + 13 := by rw [← hm3]; rfl
  have r1'' : Row m3 m.nx [.int .i64 x0, .int .i64 x1, .bool xb] 29 false := hm3 ▸ r1'.bump
  have r2' : Row m3 m1.nx [.int .i64 y0, .int .i64 y1, .bool yb] 29 false := hm3 ▸ r2.bump
  refine ⟨x1, by rw [r1''.rd]; rfl, y1, by rw [r2'.rd]; rfl, compare37 ⟨_, rfl, x0, by rw [r1''.rd]; rfl, y0, by rw [r2'.rd]; rfl, compare38 ⟨_, rfl, ?_⟩⟩⟩
  have e : setFl (setFl m3 m2.nx) m3.fl = m3 := rfl
  rw [e]
  have r3 : Row (addO m3 (m2.nx + 10) (row [.int .i64 (pl.c2 x1 y1), .int .i64 (pl.c2 x0 y0)] 3 false)) (m2.nx + 10) [.int .i64 (pl.c2 x1 y1), .int .i64 (pl.c2 x0 y0)] 3 false := Row.of_row (by rw [addO_get, if_pos rfl])
  have k4 : Keep m (addO m3 (m2.nx + 10) (row [.int .i64 (pl.c2 x1 y1), .int .i64 (pl.c2 x0 y0)] 3 false)) := k3.addO (by omega) (by omega)
  refine or36 (by rw [r3.rd]; rfl) (by rw [r3.rd]; rfl) ⟨_, rfl, ?_⟩
  rw [mBind_iff]
  exact h _ k4

theorem order41 {x y : pl.E} {m : Mem} {Q : Value → Mem → Prop} (hw : Wf m) (h : ∀ m', Keep m m' → Q (.int .i64 (pl.cmpE x y)) m') : CallW cx 41 [.agg (encE x).toArray, .agg (encE y).toArray] m Q := by
  obtain ⟨x0, x1, xb⟩ := x
  obtain ⟨y0, y1, yb⟩ := y
  apply F41_ok; unfold F41
  rw [mBind_iff]
  generalize hm1 : newO m _ = m1
  have k1 : Keep m m1 := hm1 ▸ (Keep.refl hw).newO
  have n1 : m1.nx = m.nx + 1 := by rw [← hm1]; rfl
  have r1 : Row m1 m.nx [.int .i64 x0, .int .i64 x1, .bool xb] 29 false := hm1 ▸ Row.newO
  rw [mBind_iff]
  generalize hm2 : newO m1 _ = m2
  have k2 : Keep m m2 := hm2 ▸ k1.newO
  have r1' : Row m2 m.nx [.int .i64 x0, .int .i64 x1, .bool xb] 29 false := hm2 ▸ r1.old (by omega)
  have r2 : Row m2 m1.nx [.int .i64 y0, .int .i64 y1, .bool yb] 29 false := hm2 ▸ Row.newO
  have last : ∀ (hc : pl.cmpE (x0, x1, xb) (y0, y1, yb) = pl.cmp0 (x0, x1, xb) (y0, y1, yb)), ∃ (x21 : Int), rd m2 m.nx (0) = some (.int .i64 (x21)) ∧ (∃ (x21_3 : Int), rd m2 m.nx (1) = some (.int .i64 (x21_3)) ∧ (∃ (b21 : Bool), rd m2 m.nx (2) = some (.bool (b21)) ∧ (∃ (x22 : Int), rd m2 m1.nx (0) = some (.int .i64 (x22)) ∧ (∃ (x22_4 : Int), rd m2 m1.nx (1) = some (.int .i64 (x22_4)) ∧ (∃ (b22 : Bool), rd m2 m1.nx (2) = some (.bool (b22)) ∧ (CallW cx 27 [.agg #[.int .i64 (x21), .int .i64 (x21_3), .bool (b21)], .agg #[.int .i64 (x22), .int .i64 (x22_4), .bool (b22)]] m2 fun r23 m4 => (∃ (x23 : Int), r23 = (.int .i64 (x23)) ∧ (Q (.int .i64 (x23)) m4)))))))) := by
    intro hc
    refine ⟨x0, by rw [r1'.rd]; rfl, x1, by rw [r1'.rd]; rfl, xb, by rw [r1'.rd]; rfl, y0, by rw [r2.rd]; rfl, y1, by rw [r2.rd]; rfl, yb, by rw [r2.rd]; rfl, ?_⟩
    refine compare27 (x := (x0, x1, xb)) (y := (y0, y1, yb)) k2.wf fun m4 k4 => ⟨_, rfl, ?_⟩
    rw [← hc]
    exact h _ (k2.trans k4)
  unfold joinK
  refine ⟨xb, by rw [r1'.rd]; rfl, ?_⟩
  cases xb with
  | true =>
    rw [splitB_true]
    refine ⟨yb, by rw [r2.rd]; rfl, ?_⟩
    cases yb with
    | true =>
      refine ⟨true, by rw [r2.rd]; rfl, true, by rw [r1'.rd]; rfl, ?_⟩
      exact last rfl
    | false => exact h _ k2
  | false =>
    rw [splitB_false]
    refine ⟨yb, by rw [r2.rd]; rfl, ?_⟩
    cases yb with
    | true => exact ⟨false, by rw [r1'.rd]; rfl, h _ k2⟩
    | false => exact last rfl

end Go.Proofs.Ytmjpkannhbaklaa.vc0
