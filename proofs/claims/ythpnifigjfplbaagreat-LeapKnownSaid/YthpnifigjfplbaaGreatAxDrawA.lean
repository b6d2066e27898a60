/-
  REGIONS THAT DRAW THEIR ORDER: what an operation's result hangs on; the run in the text's order, taken apart.
-/
import Derived.Test.YthpnifigjfplbaaGreatAxRunB
namespace Go.AX

variable [Kap]

variable {P : Program} {cx : Cx} {φ : Phi} {m : Mem} {w : World}

omit [Kap] in
theorem evalA_congr {st1 st2 : St} {x : Operand} (h : ∀ t, x = .tmp t → st1.tm.get t = st2.tm.get t) : evalA cx st1 x = evalA cx st2 x := by
  cases x with
  | tmp t => exact h t rfl
  | _ => rfl

omit [Kap] in
theorem evalL_congr {st1 st2 : St} : ∀ {xs : List Operand}, (∀ t, Operand.tmp t ∈ xs → st1.tm.get t = st2.tm.get t) → evalL cx st1 xs = evalL cx st2 xs
  | [], _ => rfl
  | x :: r, h => by
    simp only [evalL]
    rw [evalA_congr (x := x) (fun t e => h t (by simp [e])), evalL_congr (xs := r) (fun t ht => h t (by simp [ht]))]

omit [Kap] in
theorem evalP_congr {st1 st2 : St} : ∀ {xs : List (Nat × Operand)}, (∀ t, Operand.tmp t ∈ xs.map (·.2) → st1.tm.get t = st2.tm.get t) → evalP cx st1 xs = evalP cx st2 xs
  | [], _ => rfl
  | (i, x) :: r, h => by
    simp only [evalP]
    rw [evalA_congr (x := x) (fun t e => h t (by simp [e])), evalP_congr (xs := r) (fun t ht => h t (by rw [List.map_cons]; exact List.mem_cons_of_mem _ ht))]

omit [Kap] in
theorem evalO_congr {st1 st2 : St} {x : Option Operand} (h : ∀ t, x = some (.tmp t) → st1.tm.get t = st2.tm.get t) : evalO cx st1 x = evalO cx st2 x := by
  cases x with
  | none => rfl
  | some x =>
    simp only [evalO]
    rw [evalA_congr (x := x) (fun t e => h t (by rw [e]))]

omit [Kap] in
theorem opA_congr {call : Caller} {st1 st2 : St} {o : Oper} (hm : st1.m = st2.m) (h : ∀ t, Operand.tmp t ∈ o.op.operands.toList → st1.tm.get t = st2.tm.get t) : opA cx call st1 o = opA cx call st2 o := by
  cases hop : o.op <;> simp only [hop, Op.operands] at h
  case call c =>
    obtain ⟨callee, args, ats⟩ := c
    simp only [opA, hop, callA]
    cases callee with
    | builtin b =>
      dsimp only
      rw [evalL_congr (xs := args.toList) (fun t ht => h t (by simpa [Call.operands] using ht)), hm]
    | value f =>
      dsimp only
      rw [evalL_congr (xs := args.toList) (fun t ht => h t (by simp [Call.operands]; right; simpa using ht)), evalA_congr (x := f) (fun t e => h t (by simp [Call.operands, e])), hm]
    | invoke f n =>
      dsimp only
      rw [evalL_congr (xs := args.toList) (fun t ht => h t (by simp [Call.operands]; right; simpa using ht)), evalA_congr (x := f) (fun t e => h t (by simp [Call.operands, e])), hm]
  case build t ps =>
    simp only [opA, hop]
    rw [evalP_congr (xs := ps.toList) (fun t ht => h t (by simpa using ht)), hm]
  case buildSlice t n ps =>
    simp only [opA, hop]
    rw [evalP_congr (xs := ps.toList) (fun t ht => h t (by simpa using ht)), hm]
  case makeFunc fn f c =>
    simp only [opA, hop]
    rw [evalL_congr (xs := f.toList) (fun t ht => h t (by simp; left; simpa using ht)), evalL_congr (xs := c.toList) (fun t ht => h t (by simp; right; simpa using ht)), hm]
  case makeMap t r =>
    cases r <;> simp only [opA, hop, hm]
  case slice t x lo hi mx =>
    simp only [opA, hop]
    rw [evalA_congr (x := x) (fun t e => h t (by simp [e])), evalO_congr (x := lo) (fun t e => h t (by simp [e])), evalO_congr (x := hi) (fun t e => h t (by simp [e])), evalO_congr (x := mx) (fun t e => h t (by simp [e])), hm]
  case pick c x y =>
    simp only [opA, hop]
    rw [evalA_congr (x := c) (fun t e => h t (by simp [e])), evalA_congr (x := x) (fun t e => h t (by simp [e])), evalA_congr (x := y) (fun t e => h t (by simp [e])), hm]
  case mapUpdate t x k y =>
    simp only [opA, hop]
    rw [evalA_congr (x := x) (fun t e => h t (by simp [e])), evalA_congr (x := k) (fun t e => h t (by simp [e])), evalA_congr (x := y) (fun t e => h t (by simp [e])), hm]
  case insert t x k y =>
    simp only [opA, hop]
    rw [evalA_congr (x := x) (fun t e => h t (by simp [e])), evalA_congr (x := k) (fun t e => h t (by simp [e])), evalA_congr (x := y) (fun t e => h t (by simp [e])), hm]
  case entryStore t x k y =>
    simp only [opA, hop]
    rw [evalA_congr (x := x) (fun t e => h t (by simp [e])), evalA_congr (x := k) (fun t e => h t (by simp [e])), evalA_congr (x := y) (fun t e => h t (by simp [e])), hm]
  case store t x y | makeSlice t x y | indexAddr t x y | index t x y | mapEntry t x y =>
    simp only [opA, hop]
    rw [evalA_congr (x := x) (fun t e => h t (by simp [e])), evalA_congr (x := y) (fun t e => h t (by simp [e])), hm]
  case lookup t x y ok =>
    simp only [opA, hop]
    rw [evalA_congr (x := x) (fun t e => h t (by simp [e])), evalA_congr (x := y) (fun t e => h t (by simp [e])), hm]
  case binOp op t x y yt =>
    simp only [opA, hop]
    rw [evalA_congr (x := x) (fun t e => h t (by simp [e])), evalA_congr (x := y) (fun t e => h t (by simp [e])), hm]
  case move x | assign x | nilCheck x =>
    simp only [opA, hop]
    rw [evalA_congr (x := x) (fun t e => h t (by simp [e])), hm]
  case box t x | load t x | makeInterface t x =>
    simp only [opA, hop]
    rw [evalA_congr (x := x) (fun t e => h t (by simp [e])), hm]
  case unOp u t x | convert u t x | fieldAddr u x t | field u x t =>
    simp only [opA, hop]
    rw [evalA_congr (x := x) (fun t e => h t (by simp [e])), hm]
  case typeAssert x a b ok =>
    simp only [opA, hop]
    rw [evalA_congr (x := x) (fun t e => h t (by simp [e])), hm]
  case extract x i =>
    simp only [opA, hop]
    rw [evalA_congr (x := x) (fun t e => h t (by simp [e])), hm]
  all_goals simp only [opA, hop, hm]

omit [Kap] in
theorem wantedA_congr {ops : List Oper} {st1 st2 : St} {o : Oper} (h : ∀ d ∈ readsO ops o, st1.tm.get d = st2.tm.get d) : wantedA ops st1 o = wantedA ops st2 o := by
  unfold wantedA
  cases hg : o.guard with
  | none => rfl
  | some p =>
    obtain ⟨j, want⟩ := p
    cases hj : ops[j]? with
    | none => simp [hj]
    | some g =>
      cases hd : g.dst with
      | none => simp [hj, hd]
      | some d =>
        simp only [hj, hd]
        rw [h d (by simp [readsO, hg, hj, hd])]

omit [Kap] in
theorem reads_operand {ops : List Oper} {o : Oper} {t : Nat} (h : Operand.tmp t ∈ o.op.operands.toList) : t ∈ readsO ops o := by
  unfold readsO
  refine List.mem_append_left _ ?_
  exact List.mem_filterMap.2 ⟨.tmp t, h, rfl⟩

/-! ## the run in the text's order, operation by operation -/

def OneStep (cx : Cx) (call : Caller) (ops : List Oper) (base : Nat) (i : Nat) (o : Oper) (s : Nat) (r : List Oper) (q : List Nat) (d : Dr) (st : St) (d' : Dr) (st' : St) : Prop :=
  (wantedA ops st o = some true ∧ ∃ v m, drawOp cx call ops o r s q i base d st = some (v, m, d') ∧ putT st o.dst v m = some st') ∨
  (wantedA ops st o = some false ∧ d' = d ∧ putT st o.dst skipV st.m = some st')

/-- the states between -/
structure Trace (cx : Cx) (call : Caller) (ops : List Oper) (anc : List Nat) (base i : Nat) (d : Dr) (st st' : St) where
  D : Nat → Dr
  S : Nat → St
  d0 : D i = d
  s0 : S i = st
  step : ∀ (j : Nat) (o : Oper) (s : Nat), i ≤ j → ops[j]? = some o → anc[j]? = some s → OneStep cx call ops base j o s (ops.drop (j + 1)) (anc.drop (j + 1)) (D j) (S j) (D (j + 1)) (S (j + 1))
  last : st' = { S ops.length with m := addMade (fun k => !hasBit (D ops.length).took k) (D ops.length).made (S ops.length).m }

omit [Kap] in
theorem trace_of {call : Caller} {ops : List Oper} {anc : List Nat} {base : Nat} : ∀ (l : List Oper) (q : List Nat) (i : Nat) (d : Dr) (st st' : St), l = ops.drop i → q = anc.drop i → i ≤ ops.length →
    runDraw cx call ops base l q i d st = some st' → Nonempty (Trace cx call ops anc base i d st st')
  | [], q, i, d, st, st', hl, hq, hi, h => by
    simp only [runDraw, Option.some.injEq] at h
    have hin : i = ops.length := by
      have := congrArg List.length hl
      simp at this; omega
    refine ⟨⟨fun _ => d, fun _ => st, rfl, rfl, fun j o s hj ho => ?_, h.symm⟩⟩
    have := (List.getElem?_eq_some_iff.1 ho).1
    omega
  | o :: r, [], i, d, st, st', hl, hq, hi, h => by simp [runDraw] at h
  | o :: r, s :: q, i, d, st, st', hl, hq, hi, h => by
    have hio : ops[i]? = some o := by
      have := congrArg (fun x => x[0]?) hl
      simpa using this.symm
    have his : anc[i]? = some s := by
      have := congrArg (fun x => x[0]?) hq
      simpa using this.symm
    have hil : i < ops.length := (List.getElem?_eq_some_iff.1 hio).1
    have hr : r = ops.drop (i + 1) := by
      have := congrArg List.tail hl
      simpa [List.tail_drop] using this
    have hq' : q = anc.drop (i + 1) := by
      have := congrArg List.tail hq
      simpa [List.tail_drop] using this
    have go : ∀ (d1 : Dr) (st1 : St), OneStep cx call ops base i o s r q d st d1 st1 → runDraw cx call ops base r q (i + 1) d1 st1 = some st' → Nonempty (Trace cx call ops anc base i d st st') := by
      intro d1 st1 hs1 h1
      obtain ⟨T⟩ := trace_of r q (i + 1) d1 st1 st' hr hq' (by omega) h1
      refine ⟨⟨fun j => if j = i then d else T.D j, fun j => if j = i then st else T.S j, by simp, by simp, fun j o' s' hj ho' hs' => ?_, ?_⟩⟩
      · by_cases e : j = i
        · subst e
          rw [hio] at ho'; cases ho'
          rw [his] at hs'; cases hs'
          simp only [if_true, if_neg (show ¬ j + 1 = j by omega), T.d0, T.s0]
          rw [← hr, ← hq']; exact hs1
        · simp only [if_neg e, if_neg (show ¬ j + 1 = i by omega)]
          exact T.step j o' s' (by omega) ho' hs'
      · simp only [if_neg (show ¬ ops.length = i by omega)]
        exact T.last
    simp only [runDraw] at h
    split at h
    · rename_i hw
      split at h
      · rename_i v m1 d1 hd
        split at h
        · rename_i st1 hp
          exact go d1 st1 (.inl ⟨hw, v, m1, hd, hp⟩) h
        · cases h
      · cases h
    · rename_i hw
      split at h
      · rename_i st1 hp
        exact go d st1 (.inr ⟨hw, rfl, hp⟩) h
      · cases h
    · cases h

end Go.AX
