/-
  Package fault: awake.
-/
import Derived.Test.YtjefcmlnclnbeaaDoorCode
namespace Go.Proofs.YtjefcmlnclnbeaaDoor.vc
open Go Go.AX
set_option linter.unusedVariables false
set_option linter.unusedSimpArgs false
set_option maxRecDepth 100000

theorem itoa_ok {x : Int} {s : ByteArray} {m : Mem} {Q : Value → Mem → Prop} (h0 : 0 ≤ x) (h1 : x < 10)
    (hs : sliceOp cx m 9 (.string (ByteArray.mk #[48, 49, 50, 51, 52, 53, 54, 55, 56, 57, 97, 98, 99, 100, 101, 102, 103, 104, 105, 106, 107, 108, 109, 110, 111, 112, 113, 114, 115, 116, 117, 118, 119, 120, 121, 122])) (some (.int .i64 x)) (some (.int .i64 (addI .i64 x 1))) none = some (.string s))
    (h : Q (.string s) m) : CallW cx 44 [.int .i64 x] m Q := by
  apply F44_ok; unfold F44
  apply F45_ok; unfold F45
  apply F46_ok; unfold F46
  rw [show eqI 10 10 = true from eqI_true.2 rfl, splitB_true]
  refine joinK_of (fun J => J true m) ?_ (fun J hJ => ?_)
  · rw [splitB_true]
    apply F47_ok; unfold F47
    rw [show ltI x 10 = true from ltI_true.2 h1, splitB_true]
    exact ⟨s, hs, _, rfl, _, rfl, _, rfl, h⟩
  · rw [show leI 0 x = true from leI_true.2 h0, splitB_true]
    rw [show ltI x 100 = true from ltI_true.2 (by omega)]
    exact hJ

def errS : ByteArray := catS (ByteArray.mk #[101, 114, 114, 111, 114, 32]) ⟨#[53]⟩
def lockS : ByteArray := catS (catS (catS (catS (ByteArray.mk #[108, 111, 99, 107]) (ByteArray.mk #[32])) ⟨#[51]⟩) (ByteArray.mk #[58, 32])) errS

theorem lock_text {m : Mem} {b : Nat} {Q : Value → Mem → Prop} (hr : Row m b [.string (ByteArray.mk #[108, 111, 99, 107]), .int .i64 3, .iface 27 (.int .i64 5)] 36 false)
    (h : Q (.string lockS) (bump m 15)) : CallW cx 58 [.pointer (some ⟨b, 0, none⟩)] m Q := by
  apply F58_ok; unfold F58
  refine joinK_of (fun J => J errS m) ?_ (fun J hJ => ?_)
  · rw [mBind_iff, vPtr_some]
    refine ⟨_, (hr.bump (n := 15)).rd, of_decide_eq_true (by kernel_rfl), ?_⟩
    rw [vPtr_some]
    refine ⟨_, (hr.bump (n := 15)).rd, ?_⟩
    refine itoa_ok (s := ⟨#[51]⟩) (by decide) (by decide) (by kernel_rfl) ⟨_, rfl, of_decide_eq_true (by kernel_rfl), of_decide_eq_true (by kernel_rfl), of_decide_eq_true (by kernel_rfl), ?_⟩
    exact h
  · rw [vPtr_some]
    refine ⟨_, hr.rd, false, by kernel_rfl, ?_⟩
    rw [show (!false) = true from rfl, splitB_true, vPtr_some]
    refine ⟨_, hr.rd, 27, _, rfl, 43, .int .i64 5, by kernel_rfl, ?_⟩
    apply F43_ok; unfold F43
    refine itoa_ok (s := ⟨#[53]⟩) (by decide) (by decide) (by kernel_rfl) ⟨_, rfl, of_decide_eq_true (by kernel_rfl), _, rfl, ?_⟩
    exact hJ

theorem new_ok' {m : Mem} {s : ByteArray} {id c : Int} {Q : Value → Mem → Prop} (hc : c ≠ 0) (h : Q (.iface 31 (.pointer (some ⟨m.nx, 0, none⟩))) (newO m (row [.string s, .int .i64 id, .iface 27 (.int .i64 c)] 36 false))) : CallW cx 8 [.string s, .int .i64 id, .int .i64 c] m Q := by
  apply F8_ok; unfold F8
  rw [show eqI c 0 = false from eqI_false.2 hc, splitB_false, mBind_iff]
  exact h

theorem awake_ok {m : Mem} {Q : Value → Mem → Prop} (hw : Wf m) (hE : ErrT m) (h : ∀ m', Keep m m' → Q (.bool true) m') : CallW cx 6 [] m Q := by
  apply F6_ok; unfold F6
  refine new_ok' (by decide) ?_
  generalize hm1 : newO m _ = m1
  have k1 : Keep m m1 := hm1 ▸ (Keep.refl hw).newO
  have r1 : Row m1 m.nx [.string (ByteArray.mk #[108, 111, 99, 107]), .int .i64 3, .iface 27 (.int .i64 5)] 36 false := hm1 ▸ Row.newO
  refine ⟨_, rfl, false, by kernel_rfl, ?_⟩
  rw [show (!false) = true from rfl, splitB_true]
  refine ⟨31, _, rfl, 58, .pointer (some ⟨m.nx, 0, none⟩), by kernel_rfl, ?_⟩
  refine lock_text r1 ⟨_, rfl, ?_⟩
  rw [show eqS lockS (ByteArray.mk #[108, 111, 99, 107, 32, 51, 58, 32, 101, 114, 114, 111, 114, 32, 53]) = true by kernel_rfl, splitB_true]
  have k2 : Keep m (bump m1 15) := k1.bump
  have hc : Ch (bump m1 15) (.iface 31 (.pointer (some ⟨m.nx, 0, none⟩))) 1 5 := .wrap r1.bump (.num 5)
  refine code_ok k2.wf (hE.keep hw k2) hc fun m3 k3 => ⟨_, rfl, ?_⟩
  rw [show eqI 5 5 = true from eqI_true.2 rfl, splitB_true]
  refine is_ok (hc.keep k2.wf k3) ⟨_, rfl, ?_⟩
  rw [decide_eq_true rfl]
  exact h _ (k2.trans k3)

end Go.Proofs.YtjefcmlnclnbeaaDoor.vc
