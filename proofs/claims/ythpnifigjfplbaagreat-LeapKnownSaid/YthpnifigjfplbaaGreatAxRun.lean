/-
  OPERATIONS, REGIONS, CODE, CALLS: what the executor runs the machine runs.
-/
import Derived.Test.YthpnifigjfplbaaGreatAxOpJ
namespace Go.AX

variable {P : Program} {cx : Cx} {φ : Phi} {m : Mem} {w : World}

theorem R0.g (h : R0 P φ m w) : ∀ g, g ≤ P.globals.size → ∃ l, φ g = some l ∧ l.rb = g ∧ l.ro = 0 := h.glob

theorem evalO_ok (hcx : CxOk P cx) (hg : ∀ g, g ≤ P.globals.size → ∃ l, φ g = some l ∧ l.rb = g ∧ l.ro = 0) {st : St} {a : Act} (ht : TR φ st a) {x : Option Operand} {v : Option Value} (h : evalO cx st x = some v) : OVR φ v (x.map a.eval) := by
  cases x with
  | none => simp only [evalO, Option.some.injEq] at h; subst h; trivial
  | some x =>
    simp only [evalO] at h
    split at h
    · rename_i y hy
      simp only [Option.some.injEq] at h; subst h
      exact eval_ok hcx hg ht hy
    · cases h

set_option maxHeartbeats 1000000 in
/-- an operation that leaves memory alone -/
theorem quiet_ok (hcx : CxOk P cx) {call : Caller} {st : St} {a : Act} (ht : TR φ st a) (h0 : R0 P φ st.m w) {o : Oper} (hk : kindO o.op ≤ 1) {ov : Option Value} {m' : Mem} (h : opA cx call st o = some (ov, m')) :
    m' = st.m ∧ ∃ v v', ov = some v ∧ (execOp a.eval o).run P w = .ok (.value v') w ∧ VR φ v v' := by
  have fin : ∀ {r : Option Value} {s : Sem Value}, (match r with | some x => some (some x, st.m) | none => (none : Out (Option Value))) = some (ov, m') →
      (∀ v, r = some v → ∃ v', s.run P w = .ok v' w ∧ VR φ v v') → execOp a.eval o = (do pure (.value (← s))) →
      m' = st.m ∧ ∃ v v', ov = some v ∧ (execOp a.eval o).run P w = .ok (.value v') w ∧ VR φ v v' := by
    intro r s hr hs he
    cases r with
    | none => cases hr
    | some v =>
      simp only [Option.some.injEq, Prod.mk.injEq] at hr
      obtain ⟨rfl, rfl⟩ := hr
      obtain ⟨v', h1, h2⟩ := hs v rfl
      exact ⟨rfl, v, v', rfl, by rw [he]; simp [h1], h2⟩
  have hg := h0.glob
  cases hop : o.op <;> simp only [hop, kindO] at hk <;> try omega
  case move x =>
    simp only [opA, hop] at h
    refine fin (s := pure (a.eval x)) h (fun v hv => ⟨_, rfl, eval_ok hcx hg ht hv⟩) (by simp [execOp, hop])
  case assign x =>
    simp only [opA, hop] at h
    refine fin (s := pure (a.eval x)) h (fun v hv => ⟨_, rfl, eval_ok hcx hg ht hv⟩) (by simp [execOp, hop])
  case pick c x y =>
    simp only [opA, hop] at h
    split at h
    · rename_i vx hc hx
      have h1 := eval_ok hcx hg ht hc
      have h2 := eval_ok hcx hg ht hx
      have hb : a.eval c = .bool true := by generalize a.eval c = q at h1; cases h1; rfl
      refine fin (r := some vx) (s := pure (a.eval x)) h (fun v hv => by cases hv; exact ⟨_, rfl, h2⟩) (by simp [execOp, hop, hb, asBool])
    · rename_i vy hc hy
      have h1 := eval_ok hcx hg ht hc
      have h2 := eval_ok hcx hg ht hy
      have hb : a.eval c = .bool false := by generalize a.eval c = q at h1; cases h1; rfl
      refine fin (r := some vy) (s := pure (a.eval y)) h (fun v hv => by cases hv; exact ⟨_, rfl, h2⟩) (by simp [execOp, hop, hb, asBool])
    · cases h
  case build t ps =>
    simp only [opA, hop] at h
    split at h
    · rename_i l hl
      have hpr := evalP_ok hcx hg ht hl
      refine fin (s := Instr.build t (ps.map fun (i, x) => (i, a.eval x))) h (fun v hv => build_ok hcx hv (by rw [Array.toList_map]; exact hpr)) (by simp [execOp, hop])
    · cases h
  case load t x =>
    simp only [opA, hop] at h
    split at h
    · rename_i p hp
      have h1 := eval_ok hcx hg ht hp
      refine fin (s := Instr.loadAt t (a.eval x)) h (fun v hv => loadT_ok hcx h0 hv h1) (by simp [execOp, hop])
    · cases h
  case nilCheck x =>
    simp only [opA, hop] at h
    split at h
    · rename_i p hp
      have h1 := eval_ok hcx hg ht hp
      obtain ⟨p', hq⟩ : ∃ p', a.eval x = .pointer (some p') := by generalize a.eval x = q at h1; cases h1; exact ⟨_, rfl⟩
      refine fin (r := some (.pointer (some p))) (s := pure (a.eval x)) h (fun v hv => by cases hv; exact ⟨_, rfl, h1⟩) (by simp [execOp, hop, hq])
    · rename_i t y hp
      have h1 := eval_ok hcx hg ht hp
      obtain ⟨p', hq⟩ : ∃ p', a.eval x = .iface t p' := by generalize a.eval x = q at h1; cases h1; exact ⟨_, rfl⟩
      refine fin (r := some (.iface t y)) (s := pure (a.eval x)) h (fun v hv => by cases hv; exact ⟨_, rfl, h1⟩) (by simp [execOp, hop, hq])
    · rename_i k f c hp
      have h1 := eval_ok hcx hg ht hp
      obtain ⟨f', c', hq⟩ : ∃ f' c', a.eval x = .func (.func k) f' c' := by generalize a.eval x = q at h1; cases h1; exact ⟨_, _, rfl⟩
      refine fin (r := some (.func (.func k) f c)) (s := pure (a.eval x)) h (fun v hv => by cases hv; exact ⟨_, rfl, h1⟩) (by simp [execOp, hop, hq])
    · cases h
  case binOp op t x y yt =>
    simp only [opA, hop] at h
    split at h
    · rename_i va vb hx hy
      have h1 := eval_ok hcx hg ht hx
      have h2 := eval_ok hcx hg ht hy
      split at h
      · rename_i hgd
        have hgu := guard_ok (P := P) (w := w) hcx hgd h1 h2
        refine fin (s := do eqGuard op t x y (a.eval x) (a.eval y); binOp op t (a.eval x) (a.eval y)) h (fun v hv => ?_) (by simp [execOp, hop])
        obtain ⟨g1, g2⟩ := binOp_ok hcx h0 hv h1 h2
        exact ⟨v, by simp [hgu, g1], g2⟩
      · cases h
    · cases h
  case unOp op t x =>
    simp only [opA, hop] at h
    split at h
    · rename_i va hx
      have h1 := eval_ok hcx hg ht hx
      refine fin (s := Op.unary op (a.eval x)) h (fun v hv => ⟨v, unOp_ok hv h1⟩) (by simp [execOp, hop])
    · cases h
  case convert s d x =>
    simp only [opA, hop] at h
    split at h
    · rename_i va hx
      have h1 := eval_ok hcx hg ht hx
      refine fin (s := convert s d (a.eval x)) h (fun v hv => convert_ok hcx h0 hv h1) (by simp [execOp, hop])
    · cases h
  case makeInterface t x =>
    simp only [opA, hop] at h
    split at h
    · cases h
    · rename_i va d hne hx hd
      have h1 := eval_ok hcx hg ht hx
      have hu := hcx.un _ _ hd
      refine fin (r := some (.iface t va)) (s := Instr.makeInterface t (a.eval x)) h (fun v hv => ?_) (by simp [execOp, hop])
      cases hv
      refine ⟨.iface t (a.eval x), ?_, .iface _ _ _ h1⟩
      simp only [Instr.makeInterface, Sem.run_bind, run_underlying hu, Result.andThen_ok]
      cases d <;> first | rfl | exact (hne _ _ hx hd).elim
    · cases h
  case makeFunc fn f c =>
    simp only [opA, hop] at h
    split at h
    · rename_i lf lc hf hc
      have h1 := evalL_ok hcx hg ht hf
      have h2 := evalL_ok hcx hg ht hc
      refine fin (r := some (.func fn lf.toArray lc.toArray)) (s := Instr.makeFunc fn (f.map a.eval) (c.map a.eval)) h (fun v hv => ?_) (by simp [execOp, hop])
      cases hv
      refine ⟨_, rfl, .func _ _ _ _ _ ?_ ?_ ?_ ?_⟩
      · simpa using h1.1
      · simpa [Array.toList_map] using h1.2
      · simpa using h2.1
      · simpa [Array.toList_map] using h2.2
    · cases h
  case slice t x lo hi mx =>
    simp only [opA, hop] at h
    split at h
    · rename_i vx vlo vhi vmx hx hlo hhi hmx
      have h1 := eval_ok hcx hg ht hx
      refine fin (s := Instr.sliceAt t (a.eval x) (lo.map a.eval) (hi.map a.eval) (mx.map a.eval)) h
        (fun v hv => sliceOp_ok hcx h0 hv h1 (evalO_ok hcx hg ht hlo) (evalO_ok hcx hg ht hhi) (evalO_ok hcx hg ht hmx)) (by simp [execOp, hop])
    · cases h
  case fieldAddr t x f =>
    simp only [opA, hop] at h
    split at h
    · rename_i va hx
      have h1 := eval_ok hcx hg ht hx
      refine fin (s := Instr.fieldAt t (a.eval x) f) h (fun v hv => fieldAddr_ok hcx hv h1) (by simp [execOp, hop])
    · cases h
  case field t x f =>
    simp only [opA, hop] at h
    split at h
    · rename_i va hx
      have h1 := eval_ok hcx hg ht hx
      refine fin (s := Instr.field t (a.eval x) f) h (fun v hv => field_ok hcx hv h1) (by simp [execOp, hop])
    · cases h
  case indexAddr t x i =>
    simp only [opA, hop] at h
    split at h
    · rename_i va vi hx hi
      have h1 := eval_ok hcx hg ht hx
      have h2 := eval_ok hcx hg ht hi
      refine fin (s := Instr.indexAt t (a.eval x) (a.eval i)) h (fun v hv => indexAddr_ok hcx hv h1 h2) (by simp [execOp, hop])
    · cases h
  case index t x i =>
    simp only [opA, hop] at h
    split at h
    · rename_i va vi hx hi
      have h1 := eval_ok hcx hg ht hx
      have h2 := eval_ok hcx hg ht hi
      refine fin (s := Instr.index t (a.eval x) (a.eval i)) h (fun v hv => index_ok hcx hv h1 h2) (by simp [execOp, hop])
    · cases h
  case lookup t x k ok =>
    simp only [opA, hop] at h
    split at h
    · rename_i va vk hx hk
      have h1 := eval_ok hcx hg ht hx
      have h2 := eval_ok hcx hg ht hk
      refine fin (s := Instr.lookup t (a.eval x) (a.eval k) ok) h (fun v hv => lookup_ok hcx h0 hv h1 h2) (by simp [execOp, hop])
    · cases h
  case typeAssert x xT t ok =>
    simp only [opA, hop] at h
    split at h
    · rename_i va hx
      have h1 := eval_ok hcx hg ht hx
      refine fin (s := Instr.typeAssert (a.eval x) xT t ok) h (fun v hv => assert_ok hcx hv h1) (by simp [execOp, hop])
    · cases h
  case extract x i =>
    simp only [opA, hop] at h
    split at h
    · rename_i vs hx
      have h1 := eval_ok hcx hg ht hx
      obtain ⟨vs', hq, hl⟩ : ∃ vs', a.eval x = .tuple vs' ∧ LR φ vs.toList vs'.toList := by
        generalize a.eval x = q at h1
        cases h1 with
        | tuple c c' hc hcv => exact ⟨_, rfl, hc, hcv⟩
      refine fin (s := Instr.extract (a.eval x) i) h (fun v hv => ?_) (by simp [execOp, hop])
      obtain ⟨v', g1, g2⟩ := hl.get hv
      refine ⟨v', ?_, g2⟩
      have g1' : vs'[i]? = some v' := by simpa using g1
      simp [Instr.extract, hq, g1']
    · cases h
  case call c =>
    simp only [opA, hop] at h
    cases hc : callA cx call st c with
    | none => rw [hc] at h; cases h
    | some p =>
      rw [hc] at h
      obtain ⟨v, m1⟩ := p
      simp only [Option.some.injEq, Prod.mk.injEq] at h
      obtain ⟨rfl, rfl⟩ := h
      obtain ⟨callee, args, ats⟩ := c
      cases callee with
      | value f => simp at hk
      | invoke r n => simp at hk
      | builtin bi =>
        simp only [callA] at hc
        split at hc
        · cases hc
        · rename_i l hl
          have hlr := evalL_ok hcx hg ht hl
          rw [← Array.toList_map] at hlr
          have key : ∀ {r : Option Value} {s : Sem Value}, (match r with | some x => some (x, st.m) | none => (none : Out Value)) = some (v, m1) → (∀ u, r = some u → ∃ v', s.run P w = .ok v' w ∧ VR φ u v') →
              (execOp a.eval o) = (do pure (.value (← s))) →
              m1 = st.m ∧ ∃ u v', some v = some u ∧ (execOp a.eval o).run P w = .ok (.value v') w ∧ VR φ u v' := by
            intro r s hr hs he
            cases r with
            | none => cases hr
            | some u =>
              simp only [Option.some.injEq, Prod.mk.injEq] at hr
              obtain ⟨rfl, rfl⟩ := hr
              obtain ⟨v', g1, g2⟩ := hs _ rfl
              exact ⟨rfl, _, v', rfl, by rw [he]; simp [g1], g2⟩
          cases bi <;> simp only [] at hk <;> try omega
          case len =>
            simp only [builtinA] at hc
            exact key (s := Builtin.len_ ats o.type (args.map a.eval)) hc (fun u hu => len_ok hcx h0 hu hlr) (by simp [execOp, hop, resolve, invoke, builtin])
          case cap =>
            simp only [builtinA] at hc
            exact key (s := Builtin.cap_ ats o.type (args.map a.eval)) hc (fun u hu => cap_ok hcx h0 hu hlr) (by simp [execOp, hop, resolve, invoke, builtin])
          case max =>
            simp only [builtinA] at hc
            split at hc
            · rename_i x r
              refine key (s := Builtin.max_ ats o.type (args.map a.eval)) hc (fun u hu => ?_) (by simp [execOp, hop, resolve, invoke, builtin])
              obtain ⟨x', r', e1, hx, hr⟩ := hlr.uncons
              obtain ⟨v', g1, g2⟩ := maxMin_ok (P := P) (w := w) true _ _ _ _ _ hu hx hr
              exact ⟨v', by simp only [Builtin.max_, e1]; exact g1, g2⟩
            · cases hc
          case min =>
            simp only [builtinA] at hc
            split at hc
            · rename_i x r
              refine key (s := Builtin.min_ ats o.type (args.map a.eval)) hc (fun u hu => ?_) (by simp [execOp, hop, resolve, invoke, builtin])
              obtain ⟨x', r', e1, hx, hr⟩ := hlr.uncons
              obtain ⟨v', g1, g2⟩ := maxMin_ok (P := P) (w := w) false _ _ _ _ _ hu hx hr
              exact ⟨v', by simp only [Builtin.min_, e1]; exact g1, g2⟩
            · cases hc

end Go.AX
