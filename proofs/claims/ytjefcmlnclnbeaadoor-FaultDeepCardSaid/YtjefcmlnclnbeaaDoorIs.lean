/-
  Package fault: errors in errors; errors.Is.
-/
import Derived.Test.YtjefcmlnclnbeaaDoorVc
import Derived.Test.YtjefcmlnclnbeaaDoorAxKeep
namespace Go.Proofs.YtjefcmlnclnbeaaDoor.vc
open Go Go.AX
set_option linter.unusedVariables false
set_option linter.unusedSimpArgs false
set_option maxRecDepth 100000

theorem joinK_of {α : Type} {j : α} {f : α → Prop} (P : α → Prop) (hj : P j) (h : ∀ J, P J → f J) : joinK j f := h j hj

/-- a number, wrapped so often -/
inductive Ch (m : Mem) : Value → Nat → Int → Prop
  | num (c : Int) : Ch m (.iface 27 (.int .i64 c)) 0 c
  | wrap {b : Nat} {s : ByteArray} {id : Int} {v : Value} {n : Nat} {c : Int} (hr : Row m b [.string s, .int .i64 id, v] 36 false) (h : Ch m v n c) : Ch m (.iface 31 (.pointer (some ⟨b, 0, none⟩))) (n + 1) c

theorem Ch.keep {m m' : Mem} {v : Value} {n : Nat} {c : Int} (h : Ch m v n c) (hw : Wf m) (k : Keep m m') : Ch m' v n c := by
  induction h with
  | num c => exact .num c
  | wrap hr _ ih => exact .wrap (k.row hw hr) ih

theorem Ch.some {m : Mem} {v : Value} {n : Nat} {c : Int} (h : Ch m v n c) (m1 : Mem) : eqV cx m1 40 24 v .nilIface = some false := by
  cases h <;> kernel_rfl

theorem eq_nums (c d : Int) (m : Mem) : eqV cx m 40 24 (.iface 27 (.int .i64 c)) (.iface 27 (.int .i64 d)) = some (decide (c = d)) := by kernel_rfl
theorem eq_wrap (p : Option Addr) (d : Int) (m : Mem) : eqV cx m 40 24 (.iface 31 (.pointer p)) (.iface 27 (.int .i64 d)) = some false := by kernel_rfl

theorem asIs27 (c : Value) : assertA cx (.iface 27 c) 24 69 true = some (.tuple #[.nilIface, .bool false]) := by kernel_rfl
theorem asUn27 (c : Value) : assertA cx (.iface 27 c) 24 61 true = some (.tuple #[.nilIface, .bool false]) := by kernel_rfl
theorem asUns27 (c : Value) : assertA cx (.iface 27 c) 24 72 true = some (.tuple #[.nilIface, .bool false]) := by kernel_rfl
theorem asIs31 (c : Value) : assertA cx (.iface 31 c) 24 69 true = some (.tuple #[.nilIface, .bool false]) := by kernel_rfl
theorem asUn31 (c : Value) : assertA cx (.iface 31 c) 24 61 true = some (.tuple #[.iface 31 c, .bool true]) := by kernel_rfl
theorem meUn31 (c : Value) : methodA cx 31 c "Unwrap" = some (59, c) := by kernel_rfl
theorem meCmp (c : Value) : methodA cx 67 c "Comparable" = some (65, c) := by kernel_rfl

theorem typeOf_ok' {t : TypeId} {v : Value} {m : Mem} {Q : Value → Mem → Prop} (h : Q (.iface 67 (.agg #[hT 4 t])) m) : CallW cx 17 [.iface t v] m Q := CallW.ov (f := s17) (by kernel_rfl) rfl h

theorem comparable_ok {m : Mem} {Q : Value → Mem → Prop} (h : Q (.bool true) m) : CallW cx 65 [.agg #[hT 4 27]] m Q := CallW.ov (f := s65) (by kernel_rfl) rfl h

theorem is_loop {m : Mem} {v : Value} {n : Nat} {c d : Int} {Q : Value → Mem → Prop} (hc : Ch m v n c) (h : Q (.bool (decide (c = d))) m) : CallW cx 18 [v, .iface 27 (.int .i64 d), .bool true] m Q := by
  apply F18_ok; unfold F18
  refine ⟨fun v m1 w => m1 = m ∧ Ch m v w c, ⟨n, rfl, hc⟩, ?_⟩
  rintro v m1 w ⟨rfl, hc⟩
  cases hc with
  | num c =>
    refine joinK_of (fun J => c ≠ d → J m1) (fun hne => ?_) (fun J hJ => ?_)
    · refine joinK_of (fun J => J m1) ?_ (fun J hJ => ?_)
      · refine ⟨_, _, asUn27 _, ?_⟩
        rw [splitB_false]
        refine ⟨_, _, asUns27 _, ?_⟩
        rw [splitB_false]
        rw [decide_eq_false hne] at h
        exact h
      · refine ⟨_, _, asIs27 _, ?_⟩
        rw [splitB_false]
        exact hJ
    · rw [splitB_true]
      refine ⟨(fun e => by cases e), decide (c = d), eq_nums c d m1, ?_⟩
      rw [splitB_iff]
      refine ⟨fun e => by rw [e] at h; exact h, fun e => hJ (of_decide_eq_false e)⟩
  | wrap hr hc =>
    refine joinK_of (fun J => J m1) ?_ (fun J hJ => ?_)
    · refine joinK_of (fun J => J m1) ?_ (fun J hJ => ?_)
      · refine ⟨_, _, asUn31 _, ?_⟩
        rw [splitB_true]
        refine ⟨31, _, rfl, 59, _, meUn31 _, ?_⟩
        apply F59_ok; unfold F59
        rw [vPtr_some]
        refine ⟨_, hr.rd, ?_⟩
        refine ⟨_, rfl, false, hc.some m1, ?_⟩
        rw [splitB_false]
        exact ⟨_, Nat.lt_succ_self _, rfl, hc⟩
      · refine ⟨_, _, asIs31 _, ?_⟩
        rw [splitB_false]
        exact hJ
    · rw [splitB_true]
      refine ⟨(fun e => by cases e), false, eq_wrap _ d m1, ?_⟩
      rw [splitB_false]
      exact hJ

theorem is_ok {m : Mem} {v : Value} {n : Nat} {c d : Int} {Q : Value → Mem → Prop} (hc : Ch m v n c) (h : Q (.bool (decide (c = d))) m) : CallW cx 9 [v, .iface 27 (.int .i64 d)] m Q := by
  apply F9_ok; unfold F9
  refine joinK_of (fun J => J false m) ?_ (fun J hJ => ?_)
  · rw [splitB_false]
    refine typeOf_ok' ⟨_, rfl, 67, _, rfl, 65, _, meCmp _, comparable_ok ⟨_, rfl, is_loop hc ⟨_, rfl, h⟩⟩⟩
  · refine ⟨false, hc.some m, ?_⟩
    rw [splitB_false]
    exact ⟨false, by kernel_rfl, hJ⟩

end Go.Proofs.YtjefcmlnclnbeaaDoor.vc
