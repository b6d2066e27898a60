/-
  Package fault: errors.As where a number is asked for; Code.
-/
import Derived.Test.YtjefcmlnclnbeaaDoorAs
namespace Go.Proofs.YtjefcmlnclnbeaaDoor.vc
open Go Go.AX
set_option linter.unusedVariables false
set_option linter.unusedSimpArgs false
set_option maxRecDepth 100000

theorem meKind (a : Nat) : methodA cx 67 (.agg #[hT 4 a]) "Kind" = some (40, hT 4 a) := by kernel_rfl
theorem meElem (c : Value) : methodA cx 67 c "Elem" = some (66, c) := by kernel_rfl
theorem meImpl (c : Value) : methodA cx 67 c "Implements" = some (67, c) := by kernel_rfl

/-- errors.errorType is told -/
def ErrT (m : Mem) : Prop := rd m 0 0 = some (.iface 67 (.agg #[hT 4 24]))
theorem ErrT.keep {m m' : Mem} (h : ErrT m) (hw : Wf m) (k : Keep m m') : ErrT m' := by
  unfold ErrT at h ⊢
  rw [rd_congr (k.get 0 (hw.rd h))]; exact h

theorem nil50 {m : Mem} {a p : Nat} (h : rowAtL m ⟨a, 0, none⟩ 1 = some [.pointer (some ⟨p, 0, none⟩)]) :
    s21 [.agg #[hT 4 50, .pointer (some ⟨a, 0, none⟩), .int .u64 150]] m = some (.bool false, m) := by
  have ev : valT 4 (.agg #[hT 4 50, .pointer (some ⟨a, 0, none⟩), .int .u64 150]) = some (50, ⟨a, 0, none⟩, 150) := rfl
  unfold s21 visNilA
  simp only [ev, h]
  rfl

theorem asNum {m0 m : Mem} {v : Value} {n p : Nat} {c x : Int} {Q : Value → Mem → Prop} (hw0 : Wf m0) (k : Keep m0 m) (hE : ErrT m) (hc : Ch m v n c) (hp : Row m p [.int .i64 x] 27 false) (hp0 : m0.nx ≤ p)
    (h : ∀ m', Keep m0 m' → Row m' p [.int .i64 c] 27 false → Q (.bool true) m') : CallW cx 11 [v, .iface 50 (.pointer (some ⟨p, 0, none⟩))] m Q := by
  apply F11_ok; unfold F11
  refine ⟨false, hc.some m, ?_⟩
  rw [splitB_false]
  refine joinK_of (fun J => J m) ?_ (fun J hJ => ⟨false, by kernel_rfl, hJ⟩)
  refine CallW.ov (f := s19) (r := .agg #[hT 4 50, .pointer (some ⟨m.nx, 0, none⟩), .int .u64 150]) (m' := newO m (row [.pointer (some ⟨p, 0, none⟩)] 50 false)) (by kernel_rfl) rfl ⟨[hT 4 50, .pointer (some ⟨m.nx, 0, none⟩), .int .u64 150], rfl, rfl, ?_⟩
  generalize hm2 : newO m (row [.pointer (some ⟨p, 0, none⟩)] 50 false) = m2
  have k2 : Keep m m2 := hm2 ▸ (Keep.refl k.wf).newO
  have n2 : m2.nx = m.nx + 1 := by rw [← hm2]; rfl
  have ra2 : Row m2 m.nx [.pointer (some ⟨p, 0, none⟩)] 50 false := hm2 ▸ Row.newO
  rw [mBind_iff]
  generalize hm3 : newO m2 _ = m3
  have k3 : Keep m2 m3 := hm3 ▸ (Keep.refl k2.wf).newO
  have r3 : Row m3 m2.nx [.pointer none, .pointer none, .int .u64 0] 54 false := hm3 ▸ Row.newO
  have ra3 := k3.row k2.wf ra2
  have hfl := (k.trans k2).wf.1
  have fl3 := k3.fl
  show okW m3 m2.nx 0 3 ∧ _
  refine ⟨r3.okW (by omega) (by simp), ?_⟩
  rw [mBind_iff]
  have r4 := r3.wr (o := 0) (vs := [hT 4 50, .pointer (some ⟨m.nx, 0, none⟩), .int .u64 150]) (by simp)
  have k4 : Keep m2 (AX.wr m3 m2.nx 0 [hT 4 50, .pointer (some ⟨m.nx, 0, none⟩), .int .u64 150]) := k3.wr (Nat.le_refl _)
  show ∃ l15, rowAtL (AX.wr m3 m2.nx 0 [hT 4 50, .pointer (some ⟨m.nx, 0, none⟩), .int .u64 150]) _ _ = _ ∧ _
  generalize AX.wr m3 m2.nx 0 [hT 4 50, .pointer (some ⟨m.nx, 0, none⟩), .int .u64 150] = m4 at r4 k4 ⊢
  have r4' : Row m4 m2.nx [hT 4 50, .pointer (some ⟨m.nx, 0, none⟩), .int .u64 150] 54 false := r4
  have k04 := k2.trans k4
  have ra4 := k4.row k2.wf ra2
  refine ⟨_, r4'.rowAll, CallW.ov (f := s20) (by kernel_rfl) rfl ⟨_, rfl, ?_⟩⟩
  refine joinK_of (fun J => J m4) ?_ (fun J hJ => ?_)
  · refine ⟨67, _, rfl, 66, _, meElem _, CallW.ov (f := s66) (by kernel_rfl) rfl ⟨_, rfl, ?_⟩⟩
    refine joinK_of (fun J => J m4) ?_ (fun J hJ => ?_)
    · refine ⟨_, r4'.rowAll, as27 hw0 (k.trans k04) (hc.keep k.wf k04) (k04.row k.wf hp) hp0 ra4 fun m' k' r' => ⟨_, rfl, h m' k' r'⟩⟩
    · refine ⟨67, _, rfl, 40, _, meKind 27, CallW.ov (f := s40) (by kernel_rfl) rfl ⟨_, rfl, ?_⟩⟩
      rw [show neI 2 20 = true from neI_true.2 (by decide), splitB_true]
      refine ⟨_, hE.keep k.wf k04, ?_⟩
      refine ⟨67, _, rfl, 67, _, meImpl _, CallW.ov (f := s67) (by kernel_rfl) rfl ⟨true, rfl, ?_⟩⟩
      rw [show (!true) = false from rfl, splitB_false]
      exact hJ
  · refine ⟨67, _, rfl, 40, _, meKind 50, CallW.ov (f := s40) (by kernel_rfl) rfl ⟨_, rfl, ?_⟩⟩
    rw [show neI 22 22 = false from neI_false.2 rfl, splitB_false]
    refine ⟨_, r4'.rowAll, CallW.ov (f := s21) (by kernel_rfl) (nil50 ra4.rowAll) ⟨false, rfl, ?_⟩⟩
    rw [splitB_false]
    exact hJ

theorem code_ok {m : Mem} {v : Value} {n : Nat} {c : Int} {Q : Value → Mem → Prop} (hw : Wf m) (hE : ErrT m) (hc : Ch m v n c) (h : ∀ m', Keep m m' → Q (.int .i64 c) m') : CallW cx 10 [v] m Q := by
  apply F10_ok; unfold F10
  rw [mBind_iff]
  generalize hm1 : newO m _ = m1
  have k1 : Keep m m1 := hm1 ▸ (Keep.refl hw).newO
  have r1 : Row m1 m.nx [.int .i64 0] 27 false := hm1 ▸ Row.newO
  refine ⟨false, hc.some m1, ?_⟩
  rw [splitB_false]
  refine asNum hw k1 (hE.keep hw k1) (hc.keep hw k1) r1 (Nat.le_refl _) fun m' k' r' => ⟨_, rfl, ?_⟩
  rw [splitB_true]
  exact ⟨c, r'.rd, h m' k'⟩

end Go.Proofs.YtjefcmlnclnbeaaDoor.vc
