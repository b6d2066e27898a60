/-
  CALLS, REGIONS IN THE TEXT's ORDER, CODE.
-/
import Derived.Test.YthpnifigjfplbaaGreatAxRun
namespace Go.AX

variable [Kap]

variable {P : Program} {cx : Cx} {φ : Phi} {m : Mem} {w : World}

/-- a call, of a function that the program tells or of one that the machine has -/
def Called (P : Program) (k : FuncId) (args' : Array Value) (w : World) (R : Ending → World → Prop) : Prop :=
  ((callFunc k args').run P w = .ok (.enter k args') w ∧ Calls P k args' w R) ∨ (∃ v' w', (callFunc k args').run P w = .ok (.value v') w' ∧ R (.returned v') w')

/-- what is asked of a summary -/
def SumOk (P : Program) (k : FuncId) (f : List Value → Mem → Option (Value × Mem)) : Prop :=
  ∀ (args : List Value) (m : Mem) (v : Value) (m' : Mem), f args m = some (v, m') →
    ∀ (φ : Phi) (w : World) (args' : Array Value), LR φ args args'.toList → RR P φ m w →
      Called P k args' w (fun e w' => ∃ v' φ', e = .returned v' ∧ VR φ' v v' ∧ RR P φ' m' w' ∧ Stp φ m w φ' m' w')

/-- what is asked of the calls that the executor makes -/
def CallerOk (P : Program) (call : Caller) : Prop := ∀ (k : FuncId), SumOk P k (call k)

/-- .. of the context's summaries -/
def OvOk (P : Program) (cx : Cx) : Prop := ∀ k f, cx.ov.get k = some f → SumOk P k f

omit [Kap] in
theorem run_callFunc {k : FuncId} {fn : Func} {c : Code} (hf : P.funcs[k]? = some fn) (hb : fn.body = some c) (hn : (fn.name == "runtime.NumGoroutine") = false) (args : Array Value) (w : World) :
    (callFunc k args).run P w = .ok (.enter k args) w := by
  have hn' : ¬ fn.name = "runtime.NumGoroutine" := by simpa using hn
  simp [callFunc, hf, hn', hb]

/-- what an operation leaves -/
def Post (P : Program) (φ : Phi) (m : Mem) (w : World) (ov : Option Value) (m' : Mem) (a : Act) (dst : Option Tmp) (next : Act → World → Prop) : Prop :=
  ∀ φ' w' v', RR P φ' m' w' → Stp φ m w φ' m' w' → (∀ v, ov = some v → VR φ' v v') → next (a.put dst v') w'

omit [Kap] in
theorem wp_value {o : Oper} {a : Act} {next : Act → World → Prop} {Q : Exit → Act → World → Prop} {v' : Value} {w' : World} (h : (execOp a.eval o).run P w = .ok (.value v') w') (hn : next (a.put o.dst v') w') : o.wp P a w next Q := by
  unfold Oper.wp; rw [h]; exact hn
omit [Kap] in
theorem wp_skip' {o : Oper} {a : Act} {next : Act → World → Prop} {Q : Exit → Act → World → Prop} {w' : World} (h : (execOp a.eval o).run P w = .ok .skip w') (hn : next (a.put o.dst undef) w') : o.wp P a w next Q := by
  unfold Oper.wp; rw [h]; exact hn
omit [Kap] in
theorem wp_enter {o : Oper} {a : Act} {next : Act → World → Prop} {Q : Exit → Act → World → Prop} {k : FuncId} {args : Array Value} (h : (execOp a.eval o).run P w = .ok (.enter k args) w) {R : Ending → World → Prop}
    (hc : Calls P k args w R) (hn : ∀ e w', R e w' → ∃ v', e = .returned v' ∧ next (a.put o.dst v') w') : o.wp P a w next Q := by
  unfold Oper.wp; rw [h]
  show Calls P k args w _
  refine hc.mono (fun e w' hr => ?_)
  obtain ⟨v', rfl, hq⟩ := hn e w' hr
  exact hq

omit [Kap] in
theorem RR.same {m' : Mem} {w' : World} (hr : RR P φ m w) (h0 : R0 P φ m' w') (hn : m'.nx = m.nx) (hf : m'.fl = m.fl) : RR P φ m' w' :=
  ⟨h0, by rw [hn]; exact hr.fresh, by rw [hn, hf]; exact hr.fl⟩

omit [Kap] in
theorem recv_first (v : Value) (l : Array Value) : (#[v] ++ l)[0]? = some v := by
  rw [← Array.getElem?_toList, Array.toList_append]
  rfl

omit [Kap] in
theorem recv_rest (v : Value) (l : Array Value) : (#[v] ++ l).extract 1 (#[v] ++ l).size = l := by
  apply Array.ext'
  rw [Array.toList_extract, Array.toList_append]
  simp only [List.extract_eq_take_drop]
  exact List.take_of_length_le (by simp)

omit [Kap] in
theorem method_ok (hcx : CxOk P cx) {t : TypeId} {v v' r : Value} {name : String} {k : FuncId} (h : methodA cx t v name = some (k, r)) (hv : VR φ v v') (n : Nat) :
    ∃ r', (method (n + 1) t v' name).run P w = .ok (k, r') w ∧ VR φ r r' := by
  unfold methodA at h
  split at h
  · rename_i i u hi hd
    have hu := hcx.un _ _ hd
    split at h
    · rename_i md hmd
      have hmd' : i.methods.find? (fun x => x.name == name) = some md := by
        rw [← Array.find?_toList, ← hmd]
      split at h
      · rename_i f b hp hf
        have hp' : md.path = #[] := Array.ext' (by simpa using hp)
        split at h
        · rename_i hpt
          simp only [Option.some.injEq, Prod.mk.injEq] at h
          obtain ⟨rfl, rfl⟩ := h
          refine ⟨v', ?_, hv⟩
          cases u <;> first
            | (simp [isPtrD] at hpt; done)
            | simp [method, run_info (hcx.ty _ _ hi), hmd', follow, hp', hf, receiverAt, run_underlying hu, Place.get]
        · rename_i hpt
          simp only [Option.some.injEq, Prod.mk.injEq] at h
          obtain ⟨rfl, rfl⟩ := h
          refine ⟨v', ?_, hv⟩
          cases u <;> first
            | (simp [isPtrD] at hpt; done)
            | simp [method, run_info (hcx.ty _ _ hi), hmd', follow, hp', hf, receiverAt, run_underlying hu, Place.get]
        · cases h
      · rename_i s f b hp hf
        have hp' : md.path = #[s] := Array.ext' (by simpa using hp)
        split at h
        · rename_i fs c hd1 hst
          split at h
          · rename_i fd hfd
            split at h
            · rename_i e a hut hca
              simp only [Option.some.injEq, Prod.mk.injEq] at h
              obtain ⟨rfl, rfl⟩ := h
              cases hv with
              | agg _ c' hc hcv =>
                obtain ⟨x, hx⟩ : ∃ x, c'.toList[fd.offset]? = some x := ⟨_, List.getElem?_eq_getElem (by rw [← hc]; exact (List.getElem?_eq_some_iff.1 hca).1)⟩
                have hx' : c'[fd.offset]? = some x := by rw [← Array.getElem?_toList]; exact hx
                refine ⟨x, ?_, hcv _ _ _ hca hx⟩
                have hu1 := hcx.un _ _ hst
                have hu2 := hcx.un _ _ hut
                simp [method, run_info (hcx.ty _ _ hi), hmd', follow, hp', hf, hd1, receiverAt, run_underlying hu1, run_underlying hu2, hfd, part, isAgg, hx', Place.get]
            · cases h
          · cases h
        · cases h
      · cases h
    · cases h
  · cases h

set_option maxHeartbeats 1000000 in
theorem op_ok (hcx : CxOk P cx) {call : Caller} (hcall : CallerOk P call) {st : St} {a : Act} (ht : TR φ st a) (hr : RR P φ st.m w) {o : Oper} {ov : Option Value} {m' : Mem} (h : opA cx call st o = some (ov, m'))
    {next : Act → World → Prop} {Q : Exit → Act → World → Prop} (hn : Post P φ st.m w ov m' a o.dst next) : o.wp P a w next Q := by
  have h0 := hr.r0
  have hg := h0.glob
  by_cases hk : kindO o.op ≤ 1
  · obtain ⟨rfl, v, v', rfl, hrun, hv⟩ := quiet_ok hcx ht h0 hk h
    exact wp_value hrun (hn φ w v' hr (Stp.refl _ _ _) (fun u hu => by cases hu; exact hv))
  by_cases hm : makesO o.op = true
  · obtain ⟨v, v', ob', ob, l, rfl, rfl, hl, hrun, hv, ho⟩ := maker_ok (w := w) hcx hg ht hm h hr.fresh_id
    obtain ⟨g1, g2⟩ := add_ok (P := P) h0 (n := st.m.nx + 1) (f := st.m.fl) hr.fresh_id hl ho hr.fl rfl (by omega) (Nat.le_refl _)
    exact wp_value hrun (hn _ _ v' ⟨g1, fresh_put hr.fresh, by have := hr.fl; show st.m.fl ≤ st.m.nx + 1; omega⟩ g2 (fun u hu => by cases hu; exact hv))
  have unit : ∀ {r : Option Mem} {s : Sem Unit}, (match r with | some m => some ((none : Option Value), m) | none => none) = some (ov, m') →
      (∀ m1, r = some m1 → ∃ w', s.run P w = .ok () w' ∧ R0 P φ m1 w' ∧ Stp φ st.m w φ m1 w' ∧ m1.nx = st.m.nx) → execOp a.eval o = (do s; pure .skip) → o.wp P a w next Q := by
    intro r s hr1 hs he
    cases r with
    | none => cases hr1
    | some m1 =>
      simp only [Option.some.injEq, Prod.mk.injEq] at hr1
      obtain ⟨rfl, rfl⟩ := hr1
      obtain ⟨w', g1, g2, g3, g4⟩ := hs _ rfl
      exact wp_skip' (by rw [he]; simp [g1]) (hn φ w' undef (hr.same g2 g4 g3.fl) g3 (fun u hu => by cases hu))
  have val : ∀ {r : Out Value} {s : Sem Value}, (match r with | some (x, m) => some (some x, m) | none => none) = some (ov, m') →
      (∀ v m1, r = some (v, m1) → ∃ v' w', s.run P w = .ok v' w' ∧ VR φ v v' ∧ R0 P φ m1 w' ∧ Stp φ st.m w φ m1 w' ∧ m1.nx = st.m.nx) → execOp a.eval o = (do pure (.value (← s))) → o.wp P a w next Q := by
    intro r s hr1 hs he
    cases r with
    | none => cases hr1
    | some p =>
      obtain ⟨v, m1⟩ := p
      simp only [Option.some.injEq, Prod.mk.injEq] at hr1
      obtain ⟨rfl, rfl⟩ := hr1
      obtain ⟨v', w', g1, g2, g3, g4, g5⟩ := hs _ _ rfl
      exact wp_value (by rw [he]; simp [g1]) (hn φ w' v' (hr.same g3 g5 g4.fl) g4 (fun u hu => by cases hu; exact g2))
  cases hop : o.op <;> simp only [hop, kindO, makesO] at hk hm <;> try (first | omega | (exact absurd rfl hm) | (exact absurd trivial hm))
  case store t x y =>
    simp only [opA, hop] at h
    split at h
    · rename_i p vy hx hy
      exact unit (s := Instr.storeAt t (a.eval x) (a.eval y)) h (fun m1 hm1 => store_ok hcx h0 hm1 (eval_ok hcx hg ht hx) (eval_ok hcx hg ht hy)) (by simp [execOp, hop])
    · cases h
  case insert t x k y =>
    simp only [opA, hop] at h
    split at h
    · rename_i vx vk vy hx hk' hy
      exact unit (s := Instr.mapUpdate t (a.eval x) (a.eval k) (a.eval y)) h (fun m1 hm1 => mapUpdate_ok hcx h0 hm1 (eval_ok hcx hg ht hx) (eval_ok hcx hg ht hk') (eval_ok hcx hg ht hy)) (by simp [execOp, hop])
    · cases h
  case mapUpdate t x k y =>
    simp only [opA, hop] at h
    split at h
    · rename_i vx vk vy hx hk' hy
      exact unit (s := Instr.mapUpdate t (a.eval x) (a.eval k) (a.eval y)) h (fun m1 hm1 => mapUpdate_ok hcx h0 hm1 (eval_ok hcx hg ht hx) (eval_ok hcx hg ht hk') (eval_ok hcx hg ht hy)) (by simp [execOp, hop])
    · cases h
  case mapEntry t x k =>
    simp only [opA, hop] at h
    split at h
    · rename_i vx vk hx hk'
      exact val (s := Instr.mapEntry t (a.eval x) (a.eval k)) h (fun v m1 hm1 => mapEntry_ok hcx h0 hm1 (eval_ok hcx hg ht hx) (eval_ok hcx hg ht hk')) (by simp [execOp, hop])
    · cases h
  case entryStore t x s y =>
    simp only [opA, hop] at h
    split at h
    · rename_i vx vs vy hx hs hy
      exact unit (s := Instr.entryStore t (a.eval x) (a.eval s) (a.eval y)) h (fun m1 hm1 => entryStore_ok h0 hm1 (eval_ok hcx hg ht hx) (eval_ok hcx hg ht hs) (eval_ok hcx hg ht hy)) (by simp [execOp, hop])
    · cases h
  case call c =>
    simp only [opA, hop] at h
    cases hc : callA cx call st c with
    | none => rw [hc] at h; cases h
    | some p =>
      rw [hc] at h
      obtain ⟨v, m1⟩ := p
      simp only [Option.some.injEq, Prod.mk.injEq] at h
      obtain ⟨rfl, rfl⟩ := h
      obtain ⟨callee, args, ats⟩ := c
      simp only [callA] at hc
      split at hc
      · cases hc
      · rename_i l hl
        have hlr := evalL_ok hcx hg ht hl
        rw [← Array.toList_map] at hlr
        have enter : ∀ {k : FuncId} {as : List Value} {as' : Array Value}, call k as st.m = some (v, m1) → LR φ as as'.toList → (execOp a.eval o).run P w = (callFunc k as').run P w → o.wp P a w next Q := by
          intro k as as' hk' hla hrun
          rcases hcall _ _ _ _ _ hk' φ w as' hla hr with ⟨q1, hC⟩ | ⟨v', w', q1, v'', φ', hv, g1, g2, g3⟩
          · refine wp_enter (hrun.trans q1) hC ?_
            rintro e w' ⟨v', φ', rfl, g1, g2, g3⟩
            exact ⟨v', rfl, hn φ' w' v' g2 g3 (fun u hu => by cases hu; exact g1)⟩
          · cases hv
            exact wp_value (hrun.trans q1) (hn φ' w' v' g2 g3 (fun u hu => by cases hu; exact g1))
        cases callee with
        | value f =>
          dsimp only at hc
          split at hc
          · rename_i k first captured hf
            have h1 := eval_ok hcx hg ht hf
            obtain ⟨f', c', hq, hf1, hf2⟩ : ∃ f' c', a.eval f = .func (.func k) f' c' ∧ LR φ first.toList f'.toList ∧ LR φ captured.toList c'.toList := by
              generalize a.eval f = q at h1
              cases h1 with
              | func fn f f' c c' a1 a2 a3 a4 => exact ⟨_, _, rfl, ⟨a1, a2⟩, ⟨a3, a4⟩⟩
            refine enter (as' := (f' ++ args.map a.eval) ++ c') hc ?_ ?_
            · simp only [Array.toList_append]
              exact (hf1.append hlr).append hf2
            · simp only [execOp, hop, resolve, hq, Deferred.ofValue, Sem.run_bind, Sem.run_pure, Result.andThen_ok, invoke]
          · cases hc
        | invoke x name =>
          dsimp only at hc
          split at hc
          · rename_i t vv hx
            have h1 := eval_ok hcx hg ht hx
            obtain ⟨vv', hq, hvv⟩ : ∃ vv', a.eval x = .iface t vv' ∧ VR φ vv vv' := by
              generalize a.eval x = q at h1
              cases h1 with
              | iface _ _ v' hv => exact ⟨_, rfl, hv⟩
            split at hc
            · rename_i k r hmt
              obtain ⟨n, hnn⟩ : ∃ n, P.types.size + Made.depth = n + 1 := ⟨P.types.size + Made.depth - 1, by have : 0 < Made.depth := (by decide); omega⟩
              obtain ⟨r', g1, g2⟩ := method_ok (P := P) (w := w) hcx hmt hvv n
              refine enter (as' := #[r'] ++ args.map a.eval) hc ?_ ?_
              · rw [Array.toList_append]
                exact hlr.cons g2
              · have he : (#[a.eval x] ++ args.map a.eval)[0]? = some (a.eval x) := recv_first _ _
                have he2 : (#[a.eval x] ++ args.map a.eval).extract 1 (#[a.eval x] ++ args.map a.eval).size = args.map a.eval := recv_rest _ _
                rw [hq] at he he2
                simp only [execOp, hop, resolve, Sem.run_bind, Sem.run_pure, Result.andThen_ok, invoke, hq, he, he2, callMethod, run_program, hnn, g1]
            · cases hc
          · cases hc
        | builtin bi =>
          dsimp only at hc
          have bval : ∀ {s : Sem Value}, (∃ v' w', s.run P w = .ok v' w' ∧ VR φ v v' ∧ R0 P φ m1 w' ∧ Stp φ st.m w φ m1 w' ∧ m1.nx = st.m.nx) → execOp a.eval o = (do pure (.value (← s))) → o.wp P a w next Q := by
            rintro s ⟨v', w', g1, g2, g3, g4, g5⟩ he
            exact wp_value (by rw [he]; simp [g1]) (hn φ w' v' (hr.same g3 g5 g4.fl) g4 (fun u hu => by cases hu; exact g2))
          cases bi <;> simp only [builtinA, reduceCtorEq] at hc hk <;> try (first | omega | (cases hc; done))
          case append =>
            obtain ⟨v', w', φ', g1, g2, g3, g4⟩ := append_ok (ty := o.type) hcx hr hc hlr
            exact wp_value (by simp [execOp, hop, resolve, invoke, builtin, g1]) (hn φ' w' v' g3 g4 (fun u hu => by cases hu; exact g2))
          case copy => exact bval (s := Builtin.copy_ ats o.type (args.map a.eval)) (copy_ok hcx h0 hc hlr) (by simp [execOp, hop, resolve, invoke, builtin])
          case clear => exact bval (s := Builtin.clear_ ats o.type (args.map a.eval)) (clear_ok hcx h0 hc hlr) (by simp [execOp, hop, resolve, invoke, builtin])
          case delete =>
            split at hc
            · rename_i t r x k hts
              split at hc
              · rename_i m2 hd
                simp only [Option.some.injEq, Prod.mk.injEq] at hc
                obtain ⟨rfl, rfl⟩ := hc
                have ht0 : ats[0]? = some t := by rw [← Array.getElem?_toList, hts]; rfl
                obtain ⟨w', g1, g2, g3, g4⟩ := delete_ok (ty := o.type) hcx h0 ht0 hd hlr
                exact bval (s := Builtin.delete_ ats o.type (args.map a.eval)) ⟨_, w', g1, .tuple _ _ rfl (LR.nil φ).2, g2, g3, g4⟩ (by simp [execOp, hop, resolve, invoke, builtin])
              · cases hc
            · cases hc
  case binOp op t x y yt =>
    exfalso
    cases op <;> simp at hk
  case makeMap t r =>
    cases r with
    | none => exact absurd rfl hm
    | some r => simp only [opA, hop, reduceCtorEq] at h
  all_goals (simp only [opA, hop, reduceCtorEq] at h)


/-! ## a region in the text's order -/

omit [Kap] in
theorem put_size (a : Act) (d : Option Tmp) (v : Value) : (a.put d v).tmps.size = a.tmps.size := by
  cases d <;> simp [Act.put]

omit [Kap] in
theorem put_get (a : Act) (d t : Nat) (v : Value) (hd : d < a.tmps.size) : (a.put (some d) v).tmps.getD t undef = if t = d then v else a.tmps.getD t undef := by
  simp only [Act.put, Array.getD_eq_getD_getElem?, Array.getElem?_setIfInBounds]
  by_cases h : d = t
  · subst h; simp [hd]
  · rw [if_neg h, if_neg (Ne.symm h)]

omit [Kap] in
/-- a slot is written -/
theorem put_ok {φ' : Phi} {st st' : St} {a : Act} {dst : Option Tmp} {ov : Option Value} {m' : Mem} (he : Ext φ φ') (ht : TR φ st a) (h : putT st dst ov m' = some st') {v' : Value} (hv : ∀ v, ov = some v → VR φ' v v') :
    TR φ' st' (a.put dst v') ∧ st'.m = m' ∧ st'.sz = st.sz := by
  have h2 : ∀ (t : Nat) (v : Value), st.tm.get t = some v → VR φ' v (a.tmps.getD t undef) := fun t v g => (ht.2.2 t v g).mono he
  cases dst with
  | none =>
    simp only [putT, Option.some.injEq] at h; subst h
    exact ⟨⟨ht.1, ht.2.1, h2⟩, rfl, rfl⟩
  | some d =>
    simp only [putT] at h
    split at h
    · rename_i hd
      have hd' : d < st.sz := Nat.le_of_ble_eq_true hd
      have hda : d < a.tmps.size := by rw [ht.1]; exact hd'
      have hdf : (a.put (some d) v').defers = [] := ht.2.1
      cases ov with
      | some x =>
        simp only [Option.some.injEq] at h; subst h
        refine ⟨⟨by rw [put_size]; exact ht.1, hdf, fun t v g => ?_⟩, rfl, rfl⟩
        rw [Tr.get_put] at g
        rw [put_get a d t v' hda]
        by_cases e : t = d
        · rw [if_pos e] at g ⊢
          cases g
          exact hv x rfl
        · rw [if_neg e] at g ⊢
          exact h2 t v g
      | none =>
        simp only [Option.some.injEq] at h; subst h
        refine ⟨⟨by rw [put_size]; exact ht.1, hdf, fun t v g => ?_⟩, rfl, rfl⟩
        rw [Tr.get_del] at g
        rw [put_get a d t v' hda]
        by_cases e : t = d
        · rw [if_pos e] at g; cases g
        · rw [if_neg e] at g ⊢
          exact h2 t v g
    · cases h

omit [Kap] in
theorem getD_some {xs : Array Value} {d : Nat} {v : Value} (h : xs.getD d undef = v) (hne : v ≠ undef) : xs[d]? = some v := by
  rw [Array.getD_eq_getD_getElem?] at h
  cases hx : xs[d]? with
  | none => rw [hx] at h; exact absurd h.symm hne
  | some u => rw [hx] at h; simp at h; rw [h]

omit [Kap] in
theorem wanted_ok {ops : Array Oper} {st : St} {a : Act} (ht : TR φ st a) {o : Oper} {b : Bool} (h : wantedA ops.toList st o = some b) : Region.wanted o (yielded ops a.tmps) = b := by
  unfold wantedA at h
  unfold Region.wanted
  split at h
  · rename_i hg
    simp only [Option.some.injEq] at h; subst h
    simp [hg]
  · rename_i j want hg
    simp only [hg]
    split at h
    · rename_i g hj
      have hj' : ops[j]? = some g := by simpa using hj
      split at h
      · rename_i d hd
        split at h
        · rename_i c hc
          simp only [Option.some.injEq] at h; subst h
          have hv := ht.2.2 d _ hc
          have hq : a.tmps.getD d undef = .bool c := by
            generalize a.tmps.getD d undef = q at hv
            cases hv; rfl
          have hs := getD_some hq (by simp [undef])
          simp only [yielded, hj', Option.bind_some, hd, hs]
          cases c <;> cases want <;> rfl
        · rename_i c hne hc
          simp only [Option.some.injEq] at h; subst h
          have hv := ht.2.2 d _ hc
          have hnb : ∀ q, a.tmps.getD d undef ≠ .bool q := by
            intro q e
            rw [e] at hv
            cases hv
            exact hne _ rfl
          have hy : yielded ops a.tmps j = none := by
            unfold yielded
            simp only [hj', Option.bind_some, hd]
            cases hx : a.tmps[d]? with
            | none => rfl
            | some u =>
              cases u with
              | bool q => exact (hnb q (by rw [Array.getD_eq_getD_getElem?, hx]; rfl)).elim
              | _ => rfl
          rw [hy]; rfl
        · cases h
      · cases h
    · cases h

theorem ops_ok (hcx : CxOk P cx) {call : Caller} (hcall : CallerOk P call) {ops : Array Oper} {Q : Exit → Act → World → Prop} :
    ∀ (l : List Oper) (k : Nat) (φ : Phi) (w : World) (st : St) (a : Act) (st' : St), (∀ j, l[j]? = ops[k + j]?) → k + l.length = ops.size → RR P φ st.m w → TR φ st a → runOps cx call ops.toList l st = some st' →
      (∀ φ' a' w', RR P φ' st'.m w' → TR φ' st' a' → Stp φ st.m w φ' st'.m w' → st'.sz = st.sz → Q .normal a' w') → wpOps P ops Q (List.range' k l.length) a w
  | [], k, φ, w, st, a, st', hl, hk, hr, ht, h, hq => by
    simp only [runOps, Option.some.injEq] at h; subst h
    exact hq φ a w hr ht (Stp.refl _ _ _) rfl
  | o :: r, k, φ, w, st, a, st', hl, hk, hr, ht, h, hq => by
    have ho : ops[k]? = some o := by have := hl 0; simpa using this.symm
    have hl' : ∀ j, r[j]? = ops[k + 1 + j]? := fun j => by have := hl (j + 1); rw [show k + 1 + j = k + (j + 1) by omega, ← this]; simp
    have hk' : k + 1 + r.length = ops.size := by simp at hk; omega
    rw [List.length_cons, List.range'_succ]
    simp only [wpOps, ho]
    simp only [runOps] at h
    split at h
    · rename_i hw
      rw [wanted_ok ht hw]
      simp only [if_true]
      split at h
      · rename_i ov m1 hop
        split at h
        · rename_i st1 hput
          left
          refine op_ok hcx hcall ht hr hop ?_
          intro φ1 w1 v1 hr1 hs1 hv1
          obtain ⟨ht1, hm1, hz1⟩ := put_ok hs1.ext ht hput hv1
          refine ops_ok hcx hcall r (k + 1) φ1 w1 st1 _ st' hl' hk' (by rw [hm1]; exact hr1) ht1 h ?_
          intro φ' a' w' g1 g2 g3 g4
          exact hq φ' a' w' g1 g2 (hs1.trans (by rw [hm1] at g3; exact g3)) (by rw [g4, hz1])
        · cases h
      · cases h
    · rename_i hw
      rw [wanted_ok ht hw]
      simp only [Bool.false_eq_true, if_false]
      split at h
      · rename_i st1 hput
        obtain ⟨ht1, hm1, hz1⟩ := put_ok (fun _ _ h => h) ht hput (v' := undef) (fun v hv => by cases hv; exact .tuple _ _ rfl (LR.nil φ).2)
        refine ops_ok hcx hcall r (k + 1) φ w st1 _ st' hl' hk' (by rw [hm1]; exact hr) ht1 h ?_
        intro φ' a' w' g1 g2 g3 g4
        exact hq φ' a' w' g1 g2 (by rw [hm1] at g3; exact g3) (by rw [g4, hz1])
      · cases h
    · cases h

end Go.AX
