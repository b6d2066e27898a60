/-
  Package mask: numbers and sets in words: what the program's functions and the reference's write is the same.
-/
import Derived.Test.YtlenjadchmlliaaDoorList
import Derived.Test.YtlenjadchmlliaaDoorVcSay
import Derived.Test.YtlenjadchmlliaaDoorAxKeep
namespace Go.Proofs.YtlenjadchmlliaaDoor.vc
open Go Go.AX
set_option linter.unusedVariables false
set_option linter.unusedSimpArgs false

theorem keep_tabs {m m' : Mem} (h : Keep m m') (hw : Wf m) (ht : tabsIn tabs m) : tabsIn tabs m' := tabs_congr ht hw h.get

/-! ## numbers -/

def numB (k : Nat) : List UInt8 := if k < 10 then [UInt8.ofNat (48 + k)] else [UInt8.ofNat (48 + k / 10), UInt8.ofNat (48 + k % 10)]

theorem numB_len (k : Nat) : 0 < (numB k).length ∧ (numB k).length ≤ 2 := by unfold numB; split <;> simp

def strV (l : List UInt8) : Value := .string ⟨l.toArray⟩

theorem catS_mk (a b : List UInt8) : catS ⟨a.toArray⟩ ⟨b.toArray⟩ = ⟨(a ++ b).toArray⟩ := rfl
theorem lenS_mk (a : List UInt8) : lenS ⟨a.toArray⟩ = a.length := rfl

theorem un55 : cx.un.get 55 = some (.slice 5) := by kernel_rfl
theorem un9 : cx.un.get 9 = some .string := by kernel_rfl
theorem un5 : cx.un.get 5 = some (.int .u8) := by kernel_rfl

theorem conv1 {m : Mem} {b : Nat} {z : Int} {x : Bool} (h : Row m b [.int .u8 z] 5 x) : convertA cx m 55 9 (.slice (some ⟨b, 0, none⟩) 1 1) = some (.string ⟨[UInt8.ofNat z.toNat].toArray⟩) := by
  unfold convertA
  have := h.rowAll
  simp only [un55, un9, un5, List.length_singleton] at this ⊢
  rw [this]
  rfl

theorem dig_num : ∀ k : Fin 10, UInt8.ofNat (cvI .u8 (addI .i64 48 (k.val : Int))).toNat = UInt8.ofNat (48 + k.val) := by decide
theorem dig_mod : ∀ k : Fin 64, quoI .i64 (k.val : Int) 10 = ((k.val / 10 : Nat) : Int) ∧ Int.tmod (k.val : Int) 10 = ((k.val % 10 : Nat) : Int) := by decide +kernel

theorem num1_ok {k : Nat} {m : Mem} {Q : Value → Mem → Prop} (hk : k < 10) (hw : Wf m) (h : ∀ m', Keep m m' → Q (strV (numB k)) m') : CallW cx 32 [.int .i64 (k : Int)] m Q := by
  apply F32_ok
  unfold F32
  rw [ltI_true.2 (by omega), splitB_true, mBind_iff]
  refine ⟨_, conv1 Row.newO, ?_⟩
  have e := dig_num ⟨k, hk⟩
  simp only at e
  rw [e]
  have en : [UInt8.ofNat (48 + k)] = numB k := by unfold numB; rw [if_pos hk]
  rw [en]
  exact h _ (Keep.refl hw).newO

theorem num_ok {k : Nat} {m : Mem} {Q : Value → Mem → Prop} (hk : k < 64) (hw : Wf m) (h : ∀ m', Keep m m' → Q (strV (numB k)) m') : CallW cx 32 [.int .i64 (k : Int)] m Q := by
  by_cases h10 : k < 10
  · exact num1_ok h10 hw h
  · apply F32_ok
    unfold F32
    obtain ⟨e1, e2⟩ := dig_mod ⟨k, hk⟩
    simp only at e1 e2
    rw [ltI_false.2 (by omega), splitB_false, mBind_iff]
    refine ⟨by decide, ?_⟩
    rw [e1, e2]
    have hd : k / 10 < 10 := by omega
    have hm : k % 10 < 10 := by omega
    have hwb : Wf (setFl (AX.bump m 11) m.nx) := ⟨Nat.le_add_right _ _, fun b hb => hw.2 b (by simp at hb; omega)⟩
    refine num1_ok hd hwb fun m3 hk3 => ⟨_, rfl, by decide, ?_⟩
    have hR : Row (AX.addO (AX.bump m 11) (m.nx + 7) (row [.int .u8 (cvI .u8 (addI .i64 48 ((k % 10 : Nat) : Int)))] 5 false)) (m.nx + 7) [.int .u8 (cvI .u8 (addI .i64 48 ((k % 10 : Nat) : Int)))] 5 false := Row.of_row (by rw [addO_get, if_pos rfl])
    refine ⟨_, conv1 hR, ?_, ?_⟩
    · have := (numB_len (k / 10)).2
      show (numB (k / 10)).length + 1 ≤ _
      omega
    · rw [mBind_iff]
      have e := dig_num ⟨k % 10, hm⟩
      simp only at e
      rw [e]
      have hnx : m.nx + 11 ≤ m3.nx := hk3.nx
      have hget : ∀ b, b < m.nx → m3.hp.get b = m.hp.get b := fun b hb => hk3.get b (by simp; omega)
      have hkp : Keep m (setFl m3 (AX.bump m 11).fl) := ⟨⟨by simp; have := hw.1; omega, hk3.wf.2⟩, by simp; omega, rfl, hget⟩
      have := h _ (hkp.addO (b := m.nx + 7) (o := row [.int .u8 (cvI .u8 (addI .i64 48 ((k % 10 : Nat) : Int)))] 5 false) (by omega) (by simp; omega))
      have en : numB k = numB (k / 10) ++ [UInt8.ofNat (48 + k % 10)] := by
        unfold numB
        rw [if_neg h10, if_pos hd]; rfl
      rw [en] at this
      exact this

def isStr (o : Option Value) (l : List UInt8) : Bool := match o with
  | some (.string s) => s.data.toList == l
  | _ => false

theorem isStr_eq {o : Option Value} {l : List UInt8} (h : isStr o l = true) : o = some (strV l) := by
  unfold isStr at h
  split at h
  · have : _ = l := eq_of_beq h
    subst this
    rfl
  · cases h

noncomputable def smallD (k : Nat) (m : Mem) : Option Value := sliceOp cx m 9 (.string (ByteArray.mk #[48, 49, 50, 51, 52, 53, 54, 55, 56, 57, 97, 98, 99, 100, 101, 102, 103, 104, 105, 106, 107, 108, 109, 110, 111, 112, 113, 114, 115, 116, 117, 118, 119, 120, 121, 122])) (some (.int .i64 (k : Int))) (some (.int .i64 (addI .i64 (k : Int) (1 : Int)))) none

noncomputable def smallE (k : Nat) (m : Mem) : Option Value := sliceOp cx m 9 (.string (ByteArray.mk #[48, 48, 48, 49, 48, 50, 48, 51, 48, 52, 48, 53, 48, 54, 48, 55, 48, 56, 48, 57, 49, 48, 49, 49, 49, 50, 49, 51, 49, 52, 49, 53, 49, 54, 49, 55, 49, 56, 49, 57, 50, 48, 50, 49, 50, 50, 50, 51, 50, 52, 50, 53, 50, 54, 50, 55, 50, 56, 50, 57, 51, 48, 51, 49, 51, 50, 51, 51, 51, 52, 51, 53, 51, 54, 51, 55, 51, 56, 51, 57, 52, 48, 52, 49, 52, 50, 52, 51, 52, 52, 52, 53, 52, 54, 52, 55, 52, 56, 52, 57, 53, 48, 53, 49, 53, 50, 53, 51, 53, 52, 53, 53, 53, 54, 53, 55, 53, 56, 53, 57, 54, 48, 54, 49, 54, 50, 54, 51, 54, 52, 54, 53, 54, 54, 54, 55, 54, 56, 54, 57, 55, 48, 55, 49, 55, 50, 55, 51, 55, 52, 55, 53, 55, 54, 55, 55, 55, 56, 55, 57, 56, 48, 56, 49, 56, 50, 56, 51, 56, 52, 56, 53, 56, 54, 56, 55, 56, 56, 56, 57, 57, 48, 57, 49, 57, 50, 57, 51, 57, 52, 57, 53, 57, 54, 57, 55, 57, 56, 57, 57])) (some (.int .i64 (mulI .i64 (k : Int) (2 : Int)))) (some (.int .i64 (addI .i64 (mulI .i64 (k : Int) (2 : Int)) (2 : Int)))) none

theorem smallD_all (m : Mem) : ((List.range 10).all fun k => isStr (smallD k m) (numB k)) = true := by kernel_rfl
theorem smallE_all (m : Mem) : ((List.range 64).all fun k => decide (k < 10) || isStr (smallE k m) (numB k)) = true := by kernel_rfl

theorem itoa_ok {k : Nat} {m : Mem} {Q : Value → Mem → Prop} (hk : k < 64) (h : Q (strV (numB k)) m) : CallW cx 30 [.int .i64 (k : Int)] m Q := by
  apply F30_ok
  unfold F30
  apply F33_ok
  unfold F33
  apply F37_ok
  unfold F37
  rw [eqI_true.2 rfl, splitB_true]
  simp only [joinK]
  rw [leI_true.2 (by omega), splitB_true, ltI_true.2 (by omega), splitB_true]
  apply F40_ok
  unfold F40
  rw [splitB_iff]
  refine ⟨fun e => ?_, fun e => ?_⟩
  · rw [ltI_true] at e
    have := List.all_eq_true.1 (smallD_all m) k (List.mem_range.2 (by omega))
    exact ⟨_, isStr_eq this, _, rfl, _, rfl, _, rfl, h⟩
  · rw [ltI_false] at e
    have := List.all_eq_true.1 (smallE_all m) k (List.mem_range.2 hk)
    rw [decide_eq_false (by omega), Bool.false_or] at this
    exact ⟨_, isStr_eq this, _, rfl, _, rfl, _, rfl, h⟩

end Go.Proofs.YtlenjadchmlliaaDoor.vc
