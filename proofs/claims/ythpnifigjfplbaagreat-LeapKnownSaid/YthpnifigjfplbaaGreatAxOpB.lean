/-
  NUMBERS, STRINGS, COMPARISONS: what the executor says of them the machine does.
-/
import Derived.Test.YthpnifigjfplbaaGreatAxOpA
import Derived.Laws.Strings
import Derived.Laws.Strings2
import Derived.Laws.StructEq
namespace Go.AX

variable {P : Program} {cx : Cx} {φ : Phi} {m : Mem} {w : World}

theorem wrap_fits (k : IntKind) (r : Int) (h : fitsI k r = true) : k.wrap r = r := by
  have h' : k.min ≤ r ∧ r ≤ k.max := by simpa [fitsI] using h
  obtain ⟨h1, h2⟩ := h'
  cases k <;> simp [IntKind.min, IntKind.max, IntKind.bits, IntKind.signed] at h1 h2 <;>
    simp [IntKind.wrap, IntKind.bits, IntKind.signed] <;> omega

theorem wrapI_eq (k : IntKind) (r : Int) : wrapI k r = k.wrap r := by
  unfold wrapI
  split
  · rename_i h; exact (wrap_fits k r h).symm
  · rfl

theorem intOp_ok {op : BinOp} {t : TypeId} {k : IntKind} {x y : Int} {v : Value} (hs : op ≠ .shl) (hs' : op ≠ .shr) (h : intOp op k x y = some v) (w : World) :
    (binOp op t (.int k x) (.int k y)).run P w = .ok v w := by
  cases op
  case quo | rem =>
    simp only [intOp] at h
    split at h
    · cases h
    · rename_i hy
      have hy' : ¬ y = 0 := by simpa using hy
      simp only [Option.some.injEq, wrapI_eq] at h; subst h
      simp [binOp, Op.intDiv, hy']
  case shl => exact absurd rfl hs
  case shr => exact absurd rfl hs'
  all_goals
    simp only [intOp, Option.some.injEq, wrapI_eq] at h; subst h
    first
    | (simp [binOp, Op.intArith, Op.intBits, Op.intCmp]; done)
    | (simp only [binOp, Op.intCmp, ne_eq, not_true_eq_false, if_false, Sem.run_pure]
       by_cases e : x = y
       · subst e; simp
       · simp [e])

theorem shiftOp_ok {l : Bool} {t : TypeId} {k k' : IntKind} {x y : Int} {v : Value} (h : shiftOp l k x y = some v) (w : World) :
    (binOp (if l then .shl else .shr) t (.int k x) (.int k' y)).run P w = .ok v w := by
  simp only [shiftOp] at h
  split at h
  · cases h
  · rename_i hy
    have hy' : ¬ y < 0 := by simpa using hy
    cases l <;> simp only [Option.some.injEq] at h <;> subst h <;> simp [binOp, Op.shift, hy']

theorem bytesEq_eq : ∀ (a b : List UInt8), bytesEq a b = (a == b)
  | [], [] => rfl
  | [], b :: y => rfl
  | a :: x, [] => rfl
  | a :: x, b :: y => by
    simp only [bytesEq]
    split
    · rename_i h; rw [bytesEq_eq x y]; have : a = b := by simpa using h
      subst this; simp
    · rename_i h; have : ¬ a = b := by simpa using h
      simp [this]

theorem mk_append (x y : ByteArray) : (⟨(x.data.toList ++ y.data.toList).toArray⟩ : ByteArray) = x ++ y := by
  apply ByteArray.ext
  simp [ByteArray.data_append]

theorem stringOp_ok {op : BinOp} {t : TypeId} {x y : ByteArray} {v : Value} (h : stringOp op x y = some v) (w : World) :
    (binOp op t (.string x) (.string y)).run P w = .ok v w := by
  cases op
  case add =>
    simp only [stringOp] at h
    split at h
    · rename_i hle
      have hle' : x.data.toList.length + y.data.toList.length ≤ 140737488355328 := Nat.le_of_ble_eq_true hle
      have hs : ¬ ((x.size + y.size : Nat) : Int) > IntKind.i64.max := by
        have e1 : x.size = x.data.toList.length := rfl
        have e2 : y.size = y.data.toList.length := rfl
        have e3 : IntKind.i64.max = 9223372036854775807 := by simp [IntKind.max, IntKind.bits, IntKind.signed]
        rw [e3]
        omega
      simp only [Option.some.injEq] at h; subst h
      simp only [binOp, Op.stringOp, hs, if_false, Sem.run_pure, mk_append]
    · cases h
  case eql | neq | lss | leq | gtr | geq =>
    simp only [stringOp, bytesEq_eq, Option.some.injEq] at h; subst h
    simp [binOp, Op.stringOp, ByteArray.toList_eq]
  all_goals (simp only [stringOp, reduceCtorEq] at h)

/-! ## equality -/

theorem partL_ok (hcx : CxOk P cx) {t : TypeId} {cs cs' : List Value} {off : Nat} {v : Value} (hl : LR φ cs cs') (h : partL cx t cs off = some v) :
    ∃ v', (part t cs'.toArray off).run P w = .ok v' w ∧ VR φ v v' := by
  simp only [partL] at h
  split at h
  · rename_i d n hd hn
    obtain ⟨i, hi, rfl⟩ := sizeT_ok hcx hn
    have hu := hcx.un _ _ hd
    split at h
    · rename_i hag
      simp only [Option.some.injEq] at h; subst h
      refine ⟨.agg ((cs'.drop off).take i.size).toArray, ?_, ?_⟩
      · simp only [part, Sem.run_bind, run_isAgg hu, hag, Result.andThen_ok, if_true, run_size hi, Sem.run_pure]
        congr 2
        apply Array.ext'
        simp
      · have := (hl.drop off).take i.size
        exact .agg _ _ (by simpa using this.1) (by simpa using this.2)
    · rename_i hag
      obtain ⟨v', h1, h2⟩ := hl.get h
      refine ⟨v', ?_, h2⟩
      simp only [part, Sem.run_bind, run_isAgg hu, hag, Result.andThen_ok]
      simp [h1]
  · cases h

theorem live_ok (h0 : R0 P φ m w) {b : Nat} {l : Loc} (hl : liveCells m b = true) (hb : φ b = some l) : ∃ c e, w.heap[l.rb]? = some (.cells c e (0, 0)) ∧ ∃ o, m.hp.get b = some o := by
  simp only [liveCells] at hl
  split at hl
  · rename_i c n e x hk
    obtain ⟨l0, hl0, c', hc', _⟩ := h0.obj _ _ hk
    rw [hb] at hl0; cases hl0
    exact ⟨c', e, hc', _, hk⟩
  · cases hl

theorem sameAddr_ok (h0 : R0 P φ m w) {a b : Option Addr} {r : Bool} {x y : Value} (h : eqPtr m a b = some r) (hx : VR φ (.pointer a) x) (hy : VR φ (.pointer b) y) :
    ∃ a' b', x = .pointer a' ∧ y = .pointer b' ∧
      (match a', b' with
        | none, b => r = b.isNone
        | some _, none => r = false
        | some a, some b => (sameAddr a b).run P w = .ok r w) := by
  cases hx with
  | ptr0 =>
    cases hy with
    | ptr0 => simp [eqPtr] at h; subst h; exact ⟨none, none, rfl, rfl, rfl⟩
    | ptr b off l hb => simp [eqPtr] at h; subst h; exact ⟨none, _, rfl, rfl, rfl⟩
  | ptr ba offa la hba =>
    cases hy with
    | ptr0 => simp [eqPtr] at h; subst h; exact ⟨_, none, rfl, rfl, rfl⟩
    | ptr bb offb lb hbb =>
      refine ⟨_, _, rfl, rfl, ?_⟩
      simp only [eqPtr] at h
      split at h
      · rename_i la1 lb1
        simp only [Option.some.injEq] at h
        obtain ⟨ca, ea, hA, oa, hoa⟩ := live_ok h0 la1 hba
        obtain ⟨cb, eb, hB, ob, hob⟩ := live_ok h0 lb1 hbb
        by_cases hab : ba = bb
        · subst hab
          rw [hba] at hbb; cases hbb
          have e : (Nat.beq ba ba && Nat.beq offa offb) = decide (offa = offb) := by
            rw [Tr.beq_true.2 rfl]
            by_cases ho : offa = offb
            · subst ho; rw [Tr.beq_true.2 rfl]; simp
            · rw [Tr.beq_false.2 ho]; simp [ho]
          rw [e] at h; subst h
          simp only [sameAddr, beq_self_eq_true, if_true, Sem.run_pure]
          congr 1
          by_cases ho : offa = offb
          · subst ho; simp
          · simp [ho]
        · have hne : la.rb ≠ lb.rb := fun e => hab (h0.inj _ _ _ _ _ _ hoa hob hba hbb e)
          have e : (Nat.beq ba bb && Nat.beq offa offb) = false := by
            rw [Tr.beq_false.2 hab]; rfl
          rw [e] at h; subst h
          have hne' : (la.rb == lb.rb) = false := by simpa using hne
          simp [sameAddr, hne', frozen, Sem.run, World.frozen?, hA, hB, noView, viewAt, shape, World.shape?, mayBeOne, stringish]
      · cases h

end Go.AX
