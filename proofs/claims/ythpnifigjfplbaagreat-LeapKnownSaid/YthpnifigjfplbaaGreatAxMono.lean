/-
  OWN WORK. THE EXECUTOR, MORE ROUNDS AND MORE SLOTS: what it says with some rounds it says with more; what it says with some slots known it says with more known.
-/
import Derived.Test.YthpnifigjfplbaaGreatAxRel
namespace Go.AX

variable [Kap]

variable {cx : Cx}

def LeC (f g : Caller) : Prop := ∀ k a m r, f k a m = some r → g k a m = some r

omit [Kap] in
theorem callA_mono {f g : Caller} (h : LeC f g) {st : St} {c : Call} {r : Value × Mem} (e : callA cx f st c = some r) : callA cx g st c = some r := by
  unfold callA at e ⊢
  split at e
  · cases e
  · split at e
    · exact e
    · split at e
      · exact h _ _ _ _ e
      · cases e
    · split at e
      · split at e
        · exact h _ _ _ _ e
        · cases e
      · cases e

omit [Kap] in
theorem opA_mono {f g : Caller} (h : LeC f g) {st : St} {o : Oper} {r : Option Value × Mem} (e : opA cx f st o = some r) : opA cx g st o = some r := by
  unfold opA at e ⊢
  cases ho : o.op with
  | call c =>
    simp only [ho] at e ⊢
    cases hc : callA cx f st c with
    | none => rw [hc] at e; cases e
    | some x => rw [hc] at e; rw [callA_mono h hc]; exact e
  | makeMap t r => cases r <;> (simp only [ho] at e ⊢; exact e)
  | _ => simp only [ho] at e ⊢; exact e

omit [Kap] in
theorem runOps_mono {f g : Caller} (h : LeC f g) {ops : List Oper} : ∀ {rest : List Oper} {st st' : St}, runOps cx f ops rest st = some st' → runOps cx g ops rest st = some st'
  | [], st, st', e => e
  | o :: r, st, st', e => by
    unfold runOps at e ⊢
    split at e
    · rename_i hw
      try simp only [hw]
      split at e
      · rename_i h1
        simp only [opA_mono h h1]
        split at e
        · rename_i h2; (try simp only [h2]); exact runOps_mono h e
        · cases e
      · cases e
    · rename_i hw
      try simp only [hw]
      split at e
      · rename_i h2; (try simp only [h2]); exact runOps_mono h e
      · cases e
    · cases e

omit [Kap] in
theorem drawMake_mono {f g : Caller} (h : LeC f g) {o : Oper} {i base : Nat} {d : Dr} {st : St} {r : Option Value × Mem × Dr} (e : drawMake cx f o i base d st = some r) : drawMake cx g o i base d st = some r := by
  unfold drawMake at e ⊢
  split at e
  · rename_i h1; simp only [opA_mono h h1]; exact e
  · cases e

omit [Kap] in
theorem drawChange_mono {f g : Caller} (h : LeC f g) {ops : List Oper} {o : Oper} {r : List Oper} {s : Nat} {q : List Nat} {i base : Nat} {d : Dr} {st : St} {x : Option Value × Mem × Dr} (e : drawChange cx f ops o r s q i base d st = some x) : drawChange cx g ops o r s q i base d st = some x := by
  unfold drawChange at e ⊢
  split at e
  · cases e
  · split at e
    · split at e
      · split at e
        · split at e
          · rename_i h1; simp only [opA_mono h h1]; exact e
          · cases e
        · cases e
      · split at e
        · rename_i h1; simp only [opA_mono h h1]; exact e
        · cases e
    · split at e
      · rename_i h1; simp only [opA_mono h h1]; exact e
      · cases e

omit [Kap] in
theorem drawRead_mono {f g : Caller} (h : LeC f g) {o : Oper} {s i : Nat} {d : Dr} {st : St} {x : Option Value × Mem × Dr} (e : drawRead cx f o s i d st = some x) : drawRead cx g o s i d st = some x := by
  unfold drawRead at e ⊢
  split at e
  · split at e
    · rename_i h1; simp only [opA_mono h h1]; exact e
    · cases e
  · cases e

omit [Kap] in
theorem drawPlain_mono {f g : Caller} (h : LeC f g) {o : Oper} {d : Dr} {st : St} {x : Option Value × Mem × Dr} (e : drawPlain cx f o d st = some x) : drawPlain cx g o d st = some x := by
  unfold drawPlain at e ⊢
  split at e
  · rename_i h1; simp only [opA_mono h h1]; exact e
  · cases e

omit [Kap] in
theorem drawOp_mono {f g : Caller} (h : LeC f g) {ops : List Oper} {o : Oper} {r : List Oper} {s : Nat} {q : List Nat} {i base : Nat} {d : Dr} {st : St} {x : Option Value × Mem × Dr} (e : drawOp cx f ops o r s q i base d st = some x) : drawOp cx g ops o r s q i base d st = some x := by
  unfold drawOp at e ⊢
  split at e
  · split at e
    · exact drawMake_mono h e
    · exact drawChange_mono h e
  · exact drawRead_mono h e
  · exact drawPlain_mono h e

omit [Kap] in
theorem runDraw_mono {f g : Caller} (h : LeC f g) {ops : List Oper} {base : Nat} : ∀ {rest : List Oper} {ss : List Nat} {i : Nat} {d : Dr} {st st' : St}, runDraw cx f ops base rest ss i d st = some st' → runDraw cx g ops base rest ss i d st = some st'
  | [], ss, i, d, st, st', e => by unfold runDraw at e ⊢; exact e
  | o :: r, [], i, d, st, st', e => by unfold runDraw at e; cases e
  | o :: r, s :: q, i, d, st, st', e => by
    unfold runDraw at e ⊢
    split at e
    · rename_i hw
      try simp only [hw]
      split at e
      · rename_i h1
        simp only [drawOp_mono h h1]
        split at e
        · rename_i h2; (try simp only [h2]); exact runDraw_mono h e
        · cases e
      · cases e
    · rename_i hw
      try simp only [hw]
      split at e
      · rename_i h2; (try simp only [h2]); exact runDraw_mono h e
      · cases e
    · cases e

def LeR (f g : Code → St → Option (Ex × St)) : Prop := ∀ c st r, f c st = some r → g c st = some r

omit [Kap] in
theorem callBody_mono {f g : Code → St → Option (Ex × St)} (h : LeR f g) : LeC (callBody cx f) (callBody cx g) := by
  intro k a m r e
  unfold callBody at e ⊢
  split at e
  · split at e
    · split at e
      · rename_i hle
        try rw [hle]
        try simp only
        split at e
        · rename_i h1; simp only [h _ _ _ h1]; exact e
        · rename_i h1; simp only [h _ _ _ h1]; exact e
        · cases e
      · cases e
    · cases e
  · cases e

omit [Kap] in
theorem callOf_mono {f g : Code → St → Option (Ex × St)} (h : LeR f g) : LeC (callOf cx f) (callOf cx g) := by
  intro k a m r e
  unfold callOf at e ⊢
  split at e
  · exact e
  · exact callBody_mono h _ _ _ _ e

omit [Kap] in
theorem step_mono {f g : Code → St → Option (Ex × St)} (h : LeR f g) : LeR (step cx f) (step cx g) := by
  intro c st r e
  have hc := callOf_mono (cx := cx) h
  cases c with
  | skip => exact e
  | label l => exact e
  | exit id => exact e
  | ret => exact e
  | region id ops draw =>
    cases draw with
    | false =>
      simp only [step] at e ⊢
      split at e
      · rename_i h1; rw [runOps_mono hc h1]; exact e
      · cases e
    | true =>
      simp only [step] at e ⊢
      split at e
      · split at e
        · rename_i h1; simp only [runDraw_mono hc h1]; exact e
        · cases e
      · cases e
  | seq x y =>
    simp only [step] at e ⊢
    split at e
    · rename_i h1; rw [h _ _ _ h1]; exact h _ _ _ e
    · rename_i hne
      rw [h _ _ _ e]
      split
      · rename_i heq; cases heq; exact (hne _ e).elim
      · rfl
  | cond o x y =>
    simp only [step] at e ⊢
    split at e
    · exact h _ _ _ e
    · exact h _ _ _ e
    · cases e
  | block id x =>
    simp only [step] at e ⊢
    split at e
    · rename_i h1; simp only [h _ _ _ h1]; exact e
    · rename_i hne
      rw [h _ _ _ e]
      split
      · rename_i heq; cases heq; exact (hne _ _ e).elim
      · rfl
  | loop x =>
    simp only [step] at e ⊢
    split at e
    · rename_i h1; rw [h _ _ _ h1]; exact h _ _ _ e
    · rename_i hne
      rw [h _ _ _ e]
      split
      · rename_i heq; cases heq; exact (hne _ e).elim
      · rfl
  | rangeFunc _ _ _ _ => simp [step] at e
  | goto _ => simp [step] at e
  | scope _ => simp [step] at e
  | refuse _ => simp [step] at e

omit [Kap] in
theorem exec_succ : ∀ n, LeR (exec cx n) (exec cx (n + 1))
  | 0 => fun c st r e => by cases e
  | n + 1 => step_mono (exec_succ n)

omit [Kap] in
theorem exec_mono {n n' : Nat} (h : n ≤ n') : LeR (exec cx n) (exec cx n') := by
  induction h with
  | refl => exact fun _ _ _ e => e
  | step _ ih => exact fun c st r e => exec_succ _ c st r (ih c st r e)

omit [Kap] in
theorem exec_call_mono {n n' : Nat} (h : n ≤ n') : LeC (callOf cx (exec cx n)) (callOf cx (exec cx n')) := callOf_mono (exec_mono h)

/-! ## more slots known -/

def Sub (a b : Tr Value) : Prop := ∀ i v, a.get i = some v → b.get i = some v

omit [Kap] in
theorem Sub.refl (a : Tr Value) : Sub a a := fun _ _ h => h
omit [Kap] in
theorem Sub.trans {a b c : Tr Value} (h : Sub a b) (k : Sub b c) : Sub a c := fun i v e => k i v (h i v e)

omit [Kap] in
theorem Sub.put {a b : Tr Value} (h : Sub a b) (d : Nat) (v : Value) : Sub (a.put d v) (b.put d v) := by
  intro i x e
  rw [Tr.get_put] at e ⊢
  split at e
  · rename_i hi; rw [if_pos hi]; exact e
  · rename_i hi; rw [if_neg hi]; exact h i x e

omit [Kap] in
theorem Sub.del {a b : Tr Value} (h : Sub a b) (d : Nat) : Sub (a.del d) (b.del d) := by
  intro i x e
  rw [Tr.get_del] at e ⊢
  split at e
  · rename_i hi; rw [if_pos hi]; exact e
  · rename_i hi; rw [if_neg hi]; exact h i x e

omit [Kap] in
theorem Sub.put_of {a b : Tr Value} (h : Sub a b) {d : Nat} {v : Value} (e : b.get d = some v) : Sub (a.put d v) b := by
  intro i x k
  rw [Tr.get_put] at k
  split at k
  · rename_i hi; subst hi; rw [e]; exact k
  · exact h i x k

omit [Kap] in
theorem evalA_sub {a b : Tr Value} (h : Sub a b) {sz : Nat} {m : Mem} {x : Operand} {v : Value} (e : evalA cx ⟨a, sz, m⟩ x = some v) : evalA cx ⟨b, sz, m⟩ x = some v := by
  cases x with
  | tmp t => exact h _ _ e
  | const c => exact e
  | global g => exact e
  | func f => exact e

omit [Kap] in
theorem evalL_sub {a b : Tr Value} (h : Sub a b) {sz : Nat} {m : Mem} : ∀ {l : List Operand} {v : List Value}, evalL cx ⟨a, sz, m⟩ l = some v → evalL cx ⟨b, sz, m⟩ l = some v
  | [], v, e => e
  | x :: r, v, e => by
    unfold evalL at e ⊢
    split at e
    · rename_i h1
      split at e
      · rename_i h2; simp only [evalA_sub h h1, evalL_sub h h2]; exact e
      · cases e
    · cases e

omit [Kap] in
theorem evalO_sub {a b : Tr Value} (h : Sub a b) {sz : Nat} {m : Mem} {x : Option Operand} {v : Option Value} (e : evalO cx ⟨a, sz, m⟩ x = some v) : evalO cx ⟨b, sz, m⟩ x = some v := by
  cases x with
  | none => exact e
  | some x =>
    cases h1 : evalA cx ⟨a, sz, m⟩ x with
    | none => simp only [evalO, h1] at e; cases e
    | some y => simp only [evalO, h1] at e ⊢; simp only [evalA_sub h h1]; exact e

omit [Kap] in
theorem evalP_sub {a b : Tr Value} (h : Sub a b) {sz : Nat} {m : Mem} : ∀ {l : List (Nat × Operand)} {v : List (Nat × Value)}, evalP cx ⟨a, sz, m⟩ l = some v → evalP cx ⟨b, sz, m⟩ l = some v
  | [], v, e => e
  | (i, x) :: r, v, e => by
    unfold evalP at e ⊢
    split at e
    · rename_i h1
      split at e
      · rename_i h2; simp only [evalA_sub h h1, evalP_sub h h2]; exact e
      · cases e
    · cases e

omit [Kap] in
theorem callA_sub {call : Caller} {a b : Tr Value} (h : Sub a b) {sz : Nat} {m : Mem} {c : Call} {r : Value × Mem} (e : callA cx call ⟨a, sz, m⟩ c = some r) : callA cx call ⟨b, sz, m⟩ c = some r := by
  unfold callA at e ⊢
  cases h1 : evalL cx ⟨a, sz, m⟩ c.args.toList with
  | none => simp [h1] at e
  | some l =>
    simp only [h1] at e
    simp only [evalL_sub h h1]
    cases hc : c.callee with
    | builtin q => simp only [hc] at e ⊢; exact e
    | value f =>
      simp only [hc] at e ⊢
      cases h2 : evalA cx ⟨a, sz, m⟩ f with
      | none => simp [h2] at e
      | some y => simp only [h2] at e; simp only [evalA_sub h h2]; exact e
    | invoke x name =>
      simp only [hc] at e ⊢
      cases h2 : evalA cx ⟨a, sz, m⟩ x with
      | none => simp [h2] at e
      | some y => simp only [h2] at e; simp only [evalA_sub h h2]; exact e

omit [Kap] in
theorem opA_sub {call : Caller} {a b : Tr Value} (h : Sub a b) {sz : Nat} {m : Mem} {o : Oper} {r : Option Value × Mem} (e : opA cx call ⟨a, sz, m⟩ o = some r) : opA cx call ⟨b, sz, m⟩ o = some r := by
  unfold opA at e ⊢
  cases ho : o.op with
  | move x =>
    simp only [ho] at e ⊢
    cases h1 : evalA cx ⟨a, sz, m⟩ x with
    | none => simp [h1] at e
    | some y => simp only [h1] at e; simp only [evalA_sub h h1]; exact e
  | assign x =>
    simp only [ho] at e ⊢
    cases h1 : evalA cx ⟨a, sz, m⟩ x with
    | none => simp [h1] at e
    | some y => simp only [h1] at e; simp only [evalA_sub h h1]; exact e
  | pick c x y =>
    simp only [ho] at e ⊢
    cases h1 : evalA cx ⟨a, sz, m⟩ c with
    | none => simp [h1] at e
    | some q =>
      cases q with
      | bool t =>
        cases t with
        | true =>
          cases h2 : evalA cx ⟨a, sz, m⟩ x with
          | none => simp [h1, h2] at e
          | some v => simp only [h1, h2] at e; simp only [evalA_sub h h1, evalA_sub h h2]; exact e
        | false =>
          cases h2 : evalA cx ⟨a, sz, m⟩ y with
          | none => simp [h1, h2] at e
          | some v => simp only [h1, h2] at e; simp only [evalA_sub h h1, evalA_sub h h2]; exact e
      | _ => simp [h1] at e
  | alloc t => simp only [ho] at e ⊢; exact e
  | box t x =>
    simp only [ho] at e ⊢
    cases h1 : evalA cx ⟨a, sz, m⟩ x with
    | none => simp [h1] at e
    | some y => simp only [h1] at e; simp only [evalA_sub h h1]; exact e
  | build t ps =>
    simp only [ho] at e ⊢
    cases h1 : evalP cx ⟨a, sz, m⟩ ps.toList with
    | none => simp [h1] at e
    | some y => simp only [h1] at e; simp only [evalP_sub h h1]; exact e
  | buildSlice t n ps =>
    simp only [ho] at e ⊢
    cases h1 : evalP cx ⟨a, sz, m⟩ ps.toList with
    | none => simp [h1] at e
    | some y => simp only [h1] at e; simp only [evalP_sub h h1]; exact e
  | load t x =>
    simp only [ho] at e ⊢
    cases h1 : evalA cx ⟨a, sz, m⟩ x with
    | none => simp [h1] at e
    | some y => simp only [h1] at e; simp only [evalA_sub h h1]; exact e
  | store t x z =>
    simp only [ho] at e ⊢
    cases h1 : evalA cx ⟨a, sz, m⟩ x with
    | none => simp [h1] at e
    | some v1 =>
      cases h2 : evalA cx ⟨a, sz, m⟩ z with
      | none => simp [h1, h2] at e
      | some v2 => simp only [h1, h2] at e; simp only [evalA_sub h h1, evalA_sub h h2]; exact e
  | nilCheck x =>
    simp only [ho] at e ⊢
    cases h1 : evalA cx ⟨a, sz, m⟩ x with
    | none => simp [h1] at e
    | some y => simp only [h1] at e; simp only [evalA_sub h h1]; exact e
  | binOp op t x z u =>
    simp only [ho] at e ⊢
    cases h1 : evalA cx ⟨a, sz, m⟩ x with
    | none => simp [h1] at e
    | some v1 =>
      cases h2 : evalA cx ⟨a, sz, m⟩ z with
      | none => simp [h1, h2] at e
      | some v2 => simp only [h1, h2] at e; simp only [evalA_sub h h1, evalA_sub h h2]; exact e
  | unOp op t x =>
    simp only [ho] at e ⊢
    cases h1 : evalA cx ⟨a, sz, m⟩ x with
    | none => simp [h1] at e
    | some y => simp only [h1] at e; simp only [evalA_sub h h1]; exact e
  | convert p q x =>
    simp only [ho] at e ⊢
    cases h1 : evalA cx ⟨a, sz, m⟩ x with
    | none => simp [h1] at e
    | some y => simp only [h1] at e; simp only [evalA_sub h h1]; exact e
  | makeInterface t x =>
    simp only [ho] at e ⊢
    cases h1 : evalA cx ⟨a, sz, m⟩ x with
    | none => simp [h1] at e
    | some y => simp only [h1] at e; simp only [evalA_sub h h1]; exact e
  | makeFunc fn f c =>
    simp only [ho] at e ⊢
    cases h1 : evalL cx ⟨a, sz, m⟩ f.toList with
    | none => simp [h1] at e
    | some v1 =>
      cases h2 : evalL cx ⟨a, sz, m⟩ c.toList with
      | none => simp [h1, h2] at e
      | some v2 => simp only [h1, h2] at e; simp only [evalL_sub h h1, evalL_sub h h2]; exact e
  | makeMap t r => cases r <;> (simp only [ho] at e ⊢; exact e)
  | makeSlice t x z =>
    simp only [ho] at e ⊢
    cases h1 : evalA cx ⟨a, sz, m⟩ x with
    | none => simp [h1] at e
    | some v1 =>
      cases h2 : evalA cx ⟨a, sz, m⟩ z with
      | none => simp [h1, h2] at e
      | some v2 => simp only [h1, h2] at e; simp only [evalA_sub h h1, evalA_sub h h2]; exact e
  | slice t x lo hi mx =>
    simp only [ho] at e ⊢
    cases h1 : evalA cx ⟨a, sz, m⟩ x with
    | none => simp [h1] at e
    | some v1 =>
      cases h2 : evalO cx ⟨a, sz, m⟩ lo with
      | none => simp [h1, h2] at e
      | some v2 =>
        cases h3 : evalO cx ⟨a, sz, m⟩ hi with
        | none => simp [h1, h2, h3] at e
        | some v3 =>
          cases h4 : evalO cx ⟨a, sz, m⟩ mx with
          | none => simp [h1, h2, h3, h4] at e
          | some v4 => simp only [h1, h2, h3, h4] at e; simp only [evalA_sub h h1, evalO_sub h h2, evalO_sub h h3, evalO_sub h h4]; exact e
  | fieldAddr t x f =>
    simp only [ho] at e ⊢
    cases h1 : evalA cx ⟨a, sz, m⟩ x with
    | none => simp [h1] at e
    | some y => simp only [h1] at e; simp only [evalA_sub h h1]; exact e
  | field t x f =>
    simp only [ho] at e ⊢
    cases h1 : evalA cx ⟨a, sz, m⟩ x with
    | none => simp [h1] at e
    | some y => simp only [h1] at e; simp only [evalA_sub h h1]; exact e
  | indexAddr t x z =>
    simp only [ho] at e ⊢
    cases h1 : evalA cx ⟨a, sz, m⟩ x with
    | none => simp [h1] at e
    | some v1 =>
      cases h2 : evalA cx ⟨a, sz, m⟩ z with
      | none => simp [h1, h2] at e
      | some v2 => simp only [h1, h2] at e; simp only [evalA_sub h h1, evalA_sub h h2]; exact e
  | index t x z =>
    simp only [ho] at e ⊢
    cases h1 : evalA cx ⟨a, sz, m⟩ x with
    | none => simp [h1] at e
    | some v1 =>
      cases h2 : evalA cx ⟨a, sz, m⟩ z with
      | none => simp [h1, h2] at e
      | some v2 => simp only [h1, h2] at e; simp only [evalA_sub h h1, evalA_sub h h2]; exact e
  | lookup t x z ok =>
    simp only [ho] at e ⊢
    cases h1 : evalA cx ⟨a, sz, m⟩ x with
    | none => simp [h1] at e
    | some v1 =>
      cases h2 : evalA cx ⟨a, sz, m⟩ z with
      | none => simp [h1, h2] at e
      | some v2 => simp only [h1, h2] at e; simp only [evalA_sub h h1, evalA_sub h h2]; exact e
  | mapUpdate t x y z =>
    simp only [ho] at e ⊢
    cases h1 : evalA cx ⟨a, sz, m⟩ x with
    | none => simp [h1] at e
    | some v1 =>
      cases h2 : evalA cx ⟨a, sz, m⟩ y with
      | none => simp [h1, h2] at e
      | some v2 =>
        cases h3 : evalA cx ⟨a, sz, m⟩ z with
        | none => simp [h1, h2, h3] at e
        | some v3 => simp only [h1, h2, h3] at e; simp only [evalA_sub h h1, evalA_sub h h2, evalA_sub h h3]; exact e
  | insert t x y z =>
    simp only [ho] at e ⊢
    cases h1 : evalA cx ⟨a, sz, m⟩ x with
    | none => simp [h1] at e
    | some v1 =>
      cases h2 : evalA cx ⟨a, sz, m⟩ y with
      | none => simp [h1, h2] at e
      | some v2 =>
        cases h3 : evalA cx ⟨a, sz, m⟩ z with
        | none => simp [h1, h2, h3] at e
        | some v3 => simp only [h1, h2, h3] at e; simp only [evalA_sub h h1, evalA_sub h h2, evalA_sub h h3]; exact e
  | mapEntry t x z =>
    simp only [ho] at e ⊢
    cases h1 : evalA cx ⟨a, sz, m⟩ x with
    | none => simp [h1] at e
    | some v1 =>
      cases h2 : evalA cx ⟨a, sz, m⟩ z with
      | none => simp [h1, h2] at e
      | some v2 => simp only [h1, h2] at e; simp only [evalA_sub h h1, evalA_sub h h2]; exact e
  | entryStore t x y z =>
    simp only [ho] at e ⊢
    cases h1 : evalA cx ⟨a, sz, m⟩ x with
    | none => simp [h1] at e
    | some v1 =>
      cases h2 : evalA cx ⟨a, sz, m⟩ y with
      | none => simp [h1, h2] at e
      | some v2 =>
        cases h3 : evalA cx ⟨a, sz, m⟩ z with
        | none => simp [h1, h2, h3] at e
        | some v3 => simp only [h1, h2, h3] at e; simp only [evalA_sub h h1, evalA_sub h h2, evalA_sub h h3]; exact e
  | typeAssert x t u ok =>
    simp only [ho] at e ⊢
    cases h1 : evalA cx ⟨a, sz, m⟩ x with
    | none => simp [h1] at e
    | some y => simp only [h1] at e; simp only [evalA_sub h h1]; exact e
  | extract x i =>
    simp only [ho] at e ⊢
    cases h1 : evalA cx ⟨a, sz, m⟩ x with
    | none => simp [h1] at e
    | some y => simp only [h1] at e; simp only [evalA_sub h h1]; exact e
  | call c =>
    simp only [ho] at e ⊢
    cases h1 : callA cx call ⟨a, sz, m⟩ c with
    | none => rw [h1] at e; cases e
    | some x => rw [h1] at e; rw [callA_sub h h1]; exact e
  | _ => simp only [ho] at e; cases e

end Go.AX
