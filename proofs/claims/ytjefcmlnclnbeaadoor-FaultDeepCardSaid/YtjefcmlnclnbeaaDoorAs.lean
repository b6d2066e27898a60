/-
  Package fault: errors.as where a number is asked for.
-/
import Derived.Test.YtjefcmlnclnbeaaDoorIs
namespace Go.Proofs.YtjefcmlnclnbeaaDoor.vc
open Go Go.AX
set_option linter.unusedVariables false
set_option linter.unusedSimpArgs false
set_option maxRecDepth 100000

theorem meAss (c : Value) : methodA cx 67 c "AssignableTo" = some (64, c) := by kernel_rfl
theorem asAs31 (c : Value) : assertA cx (.iface 31 c) 24 77 true = some (.tuple #[.nilIface, .bool false]) := by kernel_rfl

theorem elem50 {m : Mem} {a p : Nat} (h : rowAtL m ⟨a, 0, none⟩ 1 = some [.pointer (some ⟨p, 0, none⟩)]) :
    s24 [.agg #[hT 4 50, .pointer (some ⟨a, 0, none⟩), .int .u64 150]] m = some (.agg #[hT 4 27, .pointer (some ⟨p, 0, none⟩), .int .u64 386], m) := by
  have ev : valT 4 (.agg #[hT 4 50, .pointer (some ⟨a, 0, none⟩), .int .u64 150]) = some (50, ⟨a, 0, none⟩, 150) := rfl
  unfold s24 velemA
  simp only [ev, h]
  rfl

theorem set27 {m m' : Mem} {p b : Nat} {c : Int} (h : rowAtL m ⟨b, 0, none⟩ 1 = some [.int .i64 c]) (hs : storeL m ⟨p, 0, none⟩ [.int .i64 c] = some m') :
    s25 [.agg #[hT 4 27, .pointer (some ⟨p, 0, none⟩), .int .u64 386], .agg #[hT 4 27, .pointer (some ⟨b, 0, none⟩), .int .u64 130]] m = some (.tuple #[], m') := by
  have ev : valT 4 (.agg #[hT 4 27, .pointer (some ⟨p, 0, none⟩), .int .u64 386]) = some (27, ⟨p, 0, none⟩, 386) := rfl
  have ew : valT 4 (.agg #[hT 4 27, .pointer (some ⟨b, 0, none⟩), .int .u64 130]) = some (27, ⟨b, 0, none⟩, 130) := rfl
  unfold s25 vsetA
  simp only [ev, ew, h]
  show (match storeL m ⟨p, 0, none⟩ [.int .i64 c] with | some m' => (match one1 (Value.int .i64 c) with | true => some (Value.tuple #[], m') | false => none) | none => none) = _
  rw [hs]
  rfl

theorem as27 {m0 m : Mem} {v v1 : Value} {n p a : Nat} {c x : Int} {Q : Value → Mem → Prop} (hw0 : Wf m0) (k : Keep m0 m) (hc : Ch m v n c) (hp : Row m p [.int .i64 x] 27 false) (hp0 : m0.nx ≤ p) (ha : Row m a [.pointer (some ⟨p, 0, none⟩)] 50 false)
    (h : ∀ m', Keep m0 m' → Row m' p [.int .i64 c] 27 false → Q (.bool true) m') : CallW cx 22 [v, v1, .agg #[hT 4 50, .pointer (some ⟨a, 0, none⟩), .int .u64 150], .iface 67 (.agg #[hT 4 27])] m Q := by
  apply F22_ok (l2 := [hT 4 50, .pointer (some ⟨a, 0, none⟩), .int .u64 150]); unfold F22
  rw [mBind_iff]
  generalize hm1 : newO m _ = m1
  have k01 : Keep m m1 := hm1 ▸ (Keep.refl k.wf).newO
  have k1 := k.trans k01
  have r1 : Row m1 m.nx [hT 4 50, .pointer (some ⟨a, 0, none⟩), .int .u64 150] 54 false := hm1 ▸ Row.newO
  have hp1 := k01.row k.wf hp
  have ha1 := k01.row k.wf ha
  refine ⟨fun v m2 w => m2 = m1 ∧ Ch m1 v w c, ⟨n, rfl, hc.keep k.wf k01⟩, ?_⟩
  rintro v m2 w ⟨rfl, hc⟩
  cases hc with
  | num c =>
    refine typeOf_ok' ⟨_, rfl, 67, _, rfl, 64, _, meAss _, CallW.ov (f := s64) (by kernel_rfl) rfl ⟨true, rfl, ?_⟩⟩
    rw [splitB_true]
    refine ⟨_, r1.rowAll, CallW.ov (f := s24) (by kernel_rfl) (elem50 ha1.rowAll) ⟨_, rfl, rfl, ?_⟩⟩
    refine CallW.ov (f := s19) (by kernel_rfl) rfl ⟨_, rfl, rfl, ?_⟩
    show CallW cx 25 _ (newO m2 (row [.int .i64 c] 27 false)) _
    generalize hm6 : newO m2 (row [.int .i64 c] 27 false) = m6
    have k16 : Keep m2 m6 := hm6 ▸ (Keep.refl k1.wf).newO
    have r6 : Row m6 m2.nx [.int .i64 c] 27 false := hm6 ▸ Row.newO
    have hp6 := k16.row k1.wf hp1
    have k6 := k1.trans k16
    have hfl := hw0.1
    have fl6 := k6.fl
    have hst : storeL m6 ⟨p, 0, none⟩ [.int .i64 c] = some (wr m6 p 0 [.int .i64 c]) := storeL_of_okW (hp6.okW (by omega) (by simp)) rfl
    refine CallW.ov (f := s25) (by kernel_rfl) (set27 r6.rowAll hst) ⟨rfl, ?_⟩
    exact h _ (k6.wr hp0) (hp6.wr1 (o := 0) (by simp))
  | wrap hr hc =>
    refine typeOf_ok' ⟨_, rfl, 67, _, rfl, 64, _, meAss _, CallW.ov (f := s64) (by kernel_rfl) rfl ⟨false, rfl, ?_⟩⟩
    rw [splitB_false]
    refine joinK_of (fun J => J m2) ?_ (fun J hJ => ?_)
    · refine ⟨_, _, asUn31 _, ?_⟩
      rw [splitB_true]
      refine ⟨31, _, rfl, 59, _, meUn31 _, ?_⟩
      apply F59_ok; unfold F59
      rw [vPtr_some]
      refine ⟨_, hr.rd, ?_⟩
      refine ⟨_, rfl, false, hc.some m2, ?_⟩
      rw [splitB_false]
      exact ⟨_, Nat.lt_succ_self _, rfl, hc⟩
    · refine ⟨_, _, asAs31 _, ?_⟩
      rw [splitB_false]
      exact hJ

end Go.Proofs.YtjefcmlnclnbeaaDoor.vc
