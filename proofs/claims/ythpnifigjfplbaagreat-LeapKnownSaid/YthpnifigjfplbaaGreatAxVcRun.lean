/-
  OWN WORK. THE FORMULA IS RIGHT: regions, code, functions.
-/
import Derived.Test.YthpnifigjfplbaaGreatAxVcOk
namespace Go.AX

variable [Kap]

variable {cx : Cx}

omit [Kap] in
theorem vPut_ok {sz : Nat} {tm tm1 : Tr Value} {dst : Option Tmp} {v : Option Value} {K : Tr Value → Prop} (h : vPut sz tm dst v K) (hs : Sub tm tm1) (m m' : Mem) :
    ∃ st', putT ⟨tm1, sz, m⟩ dst v m' = some st' ∧ st'.sz = sz ∧ st'.m = m' ∧ ∃ tm', Sub tm' st'.tm ∧ K tm' := by
  unfold vPut at h
  split at h
  · exact ⟨_, rfl, rfl, rfl, tm, hs, h⟩
  · rename_i d
    split at h
    · rename_i hd
      split at h
      · rename_i x
        exact ⟨⟨tm1.put d x, sz, m'⟩, by simp only [putT, hd], rfl, rfl, _, hs.put d x, h⟩
      · exact ⟨⟨tm1.del d, sz, m'⟩, by simp only [putT, hd], rfl, rfl, _, hs.del d, h⟩
    · exact h.elim

omit [Kap] in
theorem vGuard_ok {ops : List Oper} {tm tm1 : Tr Value} {o : Oper} {run : Tr Value → Bool → Prop} (h : vGuard ops tm o run) (hs : Sub tm tm1) (sz : Nat) (m : Mem) :
    ∃ b tm', wantedA ops ⟨tm1, sz, m⟩ o = some b ∧ Sub tm' tm1 ∧ run tm' b := by
  unfold vGuard at h
  split at h
  · rename_i hg
    exact ⟨true, tm, by simp only [wantedA, hg], hs, h⟩
  · rename_i j want hg
    split at h
    · rename_i g hj
      split at h
      · rename_i d hd
        split at h
        · rename_i b hb
          have h1 := hs _ _ hb
          rcases splitB_ok h with ⟨rfl, h2⟩ | ⟨rfl, h2⟩
          · exact ⟨want, _, by simp only [wantedA, hg, hj, hd, h1]; cases want <;> rfl, hs.put_of h1, h2⟩
          · exact ⟨!want, _, by simp only [wantedA, hg, hj, hd, h1]; cases want <;> rfl, hs.put_of h1, h2⟩
        · rename_i c hc
          have h1 := hs _ _ hc
          exact ⟨false, tm, by simp only [wantedA, hg, hj, hd, h1], hs, h⟩
        · exact h.elim
      · exact h.elim
    · exact h.elim

omit [Kap] in
theorem vOps_ok {sz : Nat} {ops : List Oper} : ∀ {rest : List Oper} {tm : Tr Value} {m : Mem} {K : Tr Value → Mem → Prop}, vOps cx sz ops rest tm m K → ∀ {tm1 : Tr Value}, Sub tm tm1 →
    ∃ n st', runOps cx (callOf cx (exec cx n)) ops rest ⟨tm1, sz, m⟩ = some st' ∧ st'.sz = sz ∧ ∃ tm', Sub tm' st'.tm ∧ K tm' st'.m
  | [], tm, m, K, h, tm1, hs => ⟨0, _, rfl, rfl, tm, hs, h⟩
  | o :: r, tm, m, K, h, tm1, hs => by
    obtain ⟨b, tm2, h1, h2, h3⟩ := vGuard_ok h hs sz m
    cases b with
    | true =>
      obtain ⟨n1, v, m', k1, k2⟩ := vOp_ok (sz := sz) h3
      obtain ⟨st1, p1, p2, p3, tm3, p4, p5⟩ := vPut_ok k2 h2 m m'
      obtain ⟨tma, sza, ma⟩ := st1
      simp only at p2 p3; subst p2; subst p3
      obtain ⟨n2, st', q1, q2, q3⟩ := vOps_ok p5 p4
      refine ⟨max n1 n2, st', ?_, q2, q3⟩
      unfold runOps
      simp only [h1, opA_mono (exec_call_mono (Nat.le_max_left n1 n2)) (opA_sub h2 k1), p1]
      exact runOps_mono (exec_call_mono (Nat.le_max_right n1 n2)) q1
    | false =>
      obtain ⟨st1, p1, p2, p3, tm3, p4, p5⟩ := vPut_ok h3 h2 m m
      obtain ⟨tma, sza, ma⟩ := st1
      simp only at p2 p3; subst p2; subst p3
      obtain ⟨n2, st', q1, q2, q3⟩ := vOps_ok p5 p4
      refine ⟨n2, st', ?_, q2, q3⟩
      unfold runOps
      simp only [h1, p1]
      exact q1

omit [Kap] in
theorem vDrawOp_ok {ops : List Oper} {tm tm1 : Tr Value} {sz : Nat} {m : Mem} {o : Oper} {r : List Oper} {s : Nat} {q : List Nat} {i base : Nat} {d : Dr} {K : Option Value → Mem → Dr → Prop}
    (h : vDrawOp cx ops tm m o r s q i base d K) (hs : Sub tm tm1) :
    ∃ n v m' d', drawOp cx (callOf cx (exec cx n)) ops o r s q i base d ⟨tm1, sz, m⟩ = some (v, m', d') ∧ K v m' d' := by
  unfold vDrawOp at h
  split at h
  · rename_i hk
    split at h
    · rename_i hm
      obtain ⟨v, ob, h1, h2⟩ := vMake_ok (call := callOf cx (exec cx 0)) (sz := sz) h
      have h3 := opA_sub hs (h1 ⟨.nil, base + i, 0⟩ rfl)
      refine ⟨0, _, _, _, ?_, h2⟩
      unfold drawOp
      simp only [hk, hm]
      unfold drawMake
      simp only [h3]
      have : (newO ⟨.nil, base + i, 0⟩ ob).hp.get (base + i) = some ob := by unfold newO; rw [Tr.get_put, if_pos rfl]
      simp only [this]
    · rename_i hm
      split at h
      · exact h.elim
      · rename_i hw
        split at h
        · rename_i hc
          split at h
          · exact h.elim
          · rename_i hap
            obtain ⟨n, v, m', h1, h2⟩ := vOp_ok (sz := sz) h
            refine ⟨n, _, _, _, ?_, h2⟩
            unfold drawOp
            simp only [hk, hm]
            unfold drawChange
            simp only [hw, hc, hap]
            have h3 := opA_sub hs h1
            unfold setFl at h3
            simp only [h3]
            rfl
        · rename_i hc
          obtain ⟨n, v, m', h1, h2⟩ := vOp_ok (sz := sz) h
          refine ⟨n, _, _, _, ?_, h2⟩
          unfold drawOp
          simp only [hk, hm]
          unfold drawChange
          simp only [hw, hc]
          have h3 := opA_sub hs h1
          simp only [h3]
  · rename_i hk
    split at h
    · rename_i m0 tk hm
      obtain ⟨n, v, m', h1, h2⟩ := vOp_ok (sz := sz) h
      refine ⟨n, _, _, _, ?_, h2⟩
      unfold drawOp
      simp only [hk]
      unfold drawRead
      simp only [hm]
      have h3 := opA_sub hs h1
      simp only [h3]
    · exact h.elim
  · rename_i hk1 hk2
    obtain ⟨n, v, m', h1, h2⟩ := vOp_ok (sz := sz) h
    refine ⟨n, _, _, _, ?_, h2⟩
    unfold drawOp
    split
    · rename_i e; exact (hk1 e).elim
    · rename_i e; exact (hk2 e).elim
    · unfold drawPlain
      have h3 := opA_sub hs h1
      simp only [h3]

omit [Kap] in
theorem vDraw_ok {sz : Nat} {ops : List Oper} {base : Nat} : ∀ {rest : List Oper} {ss : List Nat} {i : Nat} {d : Dr} {tm : Tr Value} {m : Mem} {K : Tr Value → Mem → Prop}, vDraw cx sz ops base rest ss i d tm m K → ∀ {tm1 : Tr Value}, Sub tm tm1 →
    ∃ n st', runDraw cx (callOf cx (exec cx n)) ops base rest ss i d ⟨tm1, sz, m⟩ = some st' ∧ st'.sz = sz ∧ ∃ tm', Sub tm' st'.tm ∧ K tm' st'.m
  | [], ss, i, d, tm, m, K, h, tm1, hs => ⟨0, ⟨tm1, sz, addMade (fun k => !hasBit d.took k) d.made m⟩, by unfold runDraw; rfl, rfl, tm, hs, by
      unfold vDraw at h
      split at h
      · rename_i e; simp only [e]; exact h
      · exact mBind_ok h⟩
  | o :: r, [], i, d, tm, m, K, h, tm1, hs => by unfold vDraw at h; exact h.elim
  | o :: r, s :: q, i, d, tm, m, K, h, tm1, hs => by
    unfold vDraw at h
    obtain ⟨b, tm2, h1, h2, h3⟩ := vGuard_ok h hs sz m
    cases b with
    | true =>
      obtain ⟨n1, v, m', d', k1, k2⟩ := vDrawOp_ok (sz := sz) h3 h2
      obtain ⟨st1, p1, p2, p3, tm3, p4, p5⟩ := vPut_ok k2 h2 m m'
      obtain ⟨tma, sza, ma⟩ := st1
      simp only at p2 p3; subst p2; subst p3
      obtain ⟨n2, st', q1, q2, q3⟩ := vDraw_ok p5 p4
      refine ⟨max n1 n2, st', ?_, q2, q3⟩
      unfold runDraw
      simp only [h1, drawOp_mono (exec_call_mono (Nat.le_max_left n1 n2)) k1, p1]
      exact runDraw_mono (exec_call_mono (Nat.le_max_right n1 n2)) q1
    | false =>
      obtain ⟨st1, p1, p2, p3, tm3, p4, p5⟩ := vPut_ok h3 h2 m m
      obtain ⟨tma, sza, ma⟩ := st1
      simp only at p2 p3; subst p2; subst p3
      obtain ⟨n2, st', q1, q2, q3⟩ := vDraw_ok p5 p4
      refine ⟨n2, st', ?_, q2, q3⟩
      unfold runDraw
      simp only [h1, p1]
      exact q1

/-! ## live slots -/

omit [Kap] in
theorem appT_mk {T : Type} {d : Mem → T} {tm big : Tr Value} (hb : Sub tm big) : ∀ {live : Live} {f : Tr Value → Mem → T} {tm0 : Tr Value} {m : Mem}, Sub tm0 big →
    appT live (mkJ live tm0 f) tm d m = d m ∨ ∃ tm', Sub tm' big ∧ appT live (mkJ live tm0 f) tm d m = f tm' m := by
  intro live
  induction live with
  | nil => intro f tm0 m hs; exact .inr ⟨tm0, hs, rfl⟩
  | cons x r ih =>
    intro f tm0 m hs
    obtain ⟨i, l⟩ := x
    cases l with
    | any =>
      cases hg : tm.get i with
      | none => exact .inl (by simp only [appT, hg])
      | some v =>
        have := ih (f := f) (tm0 := tm0.put i v) (m := m) (hs.put_of (hb _ _ hg))
        simpa only [appT, hg, mkJ] using this
    | int k =>
      cases hg : tm.get i with
      | none => exact .inl (by simp only [appT, hg])
      | some v =>
        cases v with
        | int k' x =>
          by_cases hk : k = k'
          · subst hk
            have := ih (f := f) (tm0 := tm0.put i (.int k x)) (m := m) (hs.put_of (hb _ _ hg))
            simpa only [appT, hg, mkJ, decide_true] using this
          · exact .inl (by simp only [appT, hg, decide_eq_false hk])
        | _ => exact .inl (by simp only [appT, hg])
    | sl =>
      cases hg : tm.get i with
      | none => exact .inl (by simp only [appT, hg])
      | some v =>
        cases v with
        | slice a n c =>
          have := ih (f := f) (tm0 := tm0.put i (.slice a n c)) (m := m) (hs.put_of (hb _ _ hg))
          simpa only [appT, hg, mkJ] using this
        | _ => exact .inl (by simp only [appT, hg])
    | bool =>
      cases hg : tm.get i with
      | none => exact .inl (by simp only [appT, hg])
      | some v =>
        cases v with
        | bool x =>
          have := ih (f := f) (tm0 := tm0.put i (.bool x)) (m := m) (hs.put_of (hb _ _ hg))
          simpa only [appT, hg, mkJ] using this
        | _ => exact .inl (by simp only [appT, hg])
    | str =>
      cases hg : tm.get i with
      | none => exact .inl (by simp only [appT, hg])
      | some v =>
        cases v with
        | string x =>
          have := ih (f := f) (tm0 := tm0.put i (.string x)) (m := m) (hs.put_of (hb _ _ hg))
          simpa only [appT, hg, mkJ] using this
        | _ => exact .inl (by simp only [appT, hg])
    | ptr =>
      cases hg : tm.get i with
      | none => exact .inl (by simp only [appT, hg])
      | some v =>
        cases v with
        | pointer x =>
          have := ih (f := f) (tm0 := tm0.put i (.pointer x)) (m := m) (hs.put_of (hb _ _ hg))
          simpa only [appT, hg, mkJ] using this
        | _ => exact .inl (by simp only [appT, hg])
    | map =>
      cases hg : tm.get i with
      | none => exact .inl (by simp only [appT, hg])
      | some v =>
        cases v with
        | map x =>
          have := ih (f := f) (tm0 := tm0.put i (.map x)) (m := m) (hs.put_of (hb _ _ hg))
          simpa only [appT, hg, mkJ] using this
        | _ => exact .inl (by simp only [appT, hg])

omit [Kap] in
theorem appT_al {T : Type} {d : T} {tm big : Tr Value} (hb : Sub tm big) : ∀ {live : Live} {J : Cur live T} {tm0 : Tr Value} {F : T → Tr Value → Prop}, alL live J tm0 F → Sub tm0 big →
    appT live J tm d = d ∨ ∃ I tm', Sub tm' big ∧ appT live J tm d = I ∧ F I tm' := by
  intro live
  induction live with
  | nil => intro J tm0 F h hs; exact .inr ⟨J, tm0, hs, rfl, h⟩
  | cons x r ih =>
    intro J tm0 F h hs
    obtain ⟨i, l⟩ := x
    cases l with
    | any =>
      cases hg : tm.get i with
      | none => exact .inl (by simp only [appT, hg])
      | some v =>
        have := ih (h v) (hs.put_of (hb _ _ hg))
        simpa only [appT, hg] using this
    | int k =>
      cases hg : tm.get i with
      | none => exact .inl (by simp only [appT, hg])
      | some v =>
        cases v with
        | int k' x =>
          by_cases hk : k = k'
          · subst hk
            have := ih (h x) (hs.put_of (hb _ _ hg))
            simpa only [appT, hg, decide_true] using this
          · exact .inl (by simp only [appT, hg, decide_eq_false hk])
        | _ => exact .inl (by simp only [appT, hg])
    | sl =>
      cases hg : tm.get i with
      | none => exact .inl (by simp only [appT, hg])
      | some v =>
        cases v with
        | slice a n c =>
          have := ih (h a n c) (hs.put_of (hb _ _ hg))
          simpa only [appT, hg] using this
        | _ => exact .inl (by simp only [appT, hg])
    | bool =>
      cases hg : tm.get i with
      | none => exact .inl (by simp only [appT, hg])
      | some v =>
        cases v with
        | bool x =>
          have := ih (h x) (hs.put_of (hb _ _ hg))
          simpa only [appT, hg] using this
        | _ => exact .inl (by simp only [appT, hg])
    | str =>
      cases hg : tm.get i with
      | none => exact .inl (by simp only [appT, hg])
      | some v =>
        cases v with
        | string x =>
          have := ih (h x) (hs.put_of (hb _ _ hg))
          simpa only [appT, hg] using this
        | _ => exact .inl (by simp only [appT, hg])
    | ptr =>
      cases hg : tm.get i with
      | none => exact .inl (by simp only [appT, hg])
      | some v =>
        cases v with
        | pointer x =>
          have := ih (h x) (hs.put_of (hb _ _ hg))
          simpa only [appT, hg] using this
        | _ => exact .inl (by simp only [appT, hg])
    | map =>
      cases hg : tm.get i with
      | none => exact .inl (by simp only [appT, hg])
      | some v =>
        cases v with
        | map x =>
          have := ih (h x) (hs.put_of (hb _ _ hg))
          simpa only [appT, hg] using this
        | _ => exact .inl (by simp only [appT, hg])

/-! ## code -/

omit [Kap] in
theorem exec_one (n : Nat) (c : Code) (st : St) : exec cx (n + 1) c st = step cx (exec cx n) c st := rfl

/-- code comes to its end as wanted -/
def CWp (cx : Cx) (sz : Nat) (c : Code) (tm : Tr Value) (m : Mem) (Q : Ex → Tr Value → Mem → Prop) : Prop :=
  ∀ (tm1 : Tr Value), Sub tm tm1 → ∃ n ex st', exec cx n c ⟨tm1, sz, m⟩ = some (ex, st') ∧ st'.sz = sz ∧ ∃ tm', Sub tm' st'.tm ∧ Q ex tm' st'.m

omit [Kap] in
theorem CWp.sub {sz : Nat} {c : Code} {tm tm0 : Tr Value} {m : Mem} {Q : Ex → Tr Value → Mem → Prop} (h : CWp cx sz c tm0 m Q) (hs : Sub tm0 tm) : CWp cx sz c tm m Q :=
  fun tm1 hs1 => h tm1 (hs.trans hs1)

omit [Kap] in
theorem CWp.now {sz : Nat} {c : Code} {tm : Tr Value} {m : Mem} {Q : Ex → Tr Value → Mem → Prop} {ex : Ex} (hc : ∀ n st, exec cx (n + 1) c st = some (ex, st)) (h : Q ex tm m) : CWp cx sz c tm m Q :=
  fun _ hs => ⟨1, ex, _, hc 0 _, rfl, tm, hs, h⟩

omit [Kap] in
theorem CWp.mono {sz : Nat} {c : Code} {tm : Tr Value} {m : Mem} {Q R : Ex → Tr Value → Mem → Prop} (h : CWp cx sz c tm m Q) (k : ∀ ex tm m, Q ex tm m → R ex tm m) : CWp cx sz c tm m R := by
  intro tm1 hs
  obtain ⟨n, ex, st', h1, h2, tm', h3, h4⟩ := h _ hs
  exact ⟨n, ex, st', h1, h2, tm', h3, k _ _ _ h4⟩

omit [Kap] in
theorem CWp.seq {sz : Nat} {a b : Code} {tm : Tr Value} {m : Mem} {Q : Ex → Tr Value → Mem → Prop} (h : CWp cx sz a tm m fun
    | .normal, tm, m => CWp cx sz b tm m Q
    | .exit i, tm, m => Q (.exit i) tm m
    | .ret, tm, m => Q .ret tm m) : CWp cx sz (.seq a b) tm m Q := by
  intro tm1 hs
  obtain ⟨n1, ex, ⟨tma, sza, ma⟩, h1, h2, tm', h3, h4⟩ := h _ hs
  simp only at h2; subst h2
  cases ex with
  | normal =>
    obtain ⟨n2, ex2, st2, k1, k2, k3⟩ := h4 _ h3
    refine ⟨max n1 n2 + 1, ex2, st2, ?_, k2, k3⟩
    rw [exec_one]
    simp only [step, exec_mono (Nat.le_max_left n1 n2) _ _ _ h1]
    exact exec_mono (Nat.le_max_right n1 n2) _ _ _ k1
  | exit i =>
    refine ⟨n1 + 1, _, _, ?_, rfl, tm', h3, h4⟩
    rw [exec_one]
    simp only [step, h1]
  | ret =>
    refine ⟨n1 + 1, _, _, ?_, rfl, tm', h3, h4⟩
    rw [exec_one]
    simp only [step, h1]

omit [Kap] in
theorem CWp.block {sz : Nat} {id : Nat} {c : Code} {tm : Tr Value} {m : Mem} {Q : Ex → Tr Value → Mem → Prop} (h : CWp cx sz c tm m fun
    | .normal, tm, m => Q .normal tm m
    | .exit i, tm, m => match Nat.beq i id with
      | true => Q .normal tm m
      | false => Q (.exit i) tm m
    | .ret, tm, m => Q .ret tm m) : CWp cx sz (.block id c) tm m Q := by
  intro tm1 hs
  obtain ⟨n1, ex, ⟨tma, sza, ma⟩, h1, h2, tm', h3, h4⟩ := h _ hs
  simp only at h2; subst h2
  cases ex with
  | normal =>
    refine ⟨n1 + 1, .normal, _, ?_, rfl, tm', h3, h4⟩
    rw [exec_one]
    simp only [step, h1]
  | exit i =>
    cases hb : Nat.beq i id with
    | true =>
      simp only [hb] at h4
      refine ⟨n1 + 1, .normal, _, ?_, rfl, tm', h3, h4⟩
      rw [exec_one]
      simp only [step, h1, hb]
    | false =>
      simp only [hb] at h4
      refine ⟨n1 + 1, .exit i, _, ?_, rfl, tm', h3, h4⟩
      rw [exec_one]
      simp only [step, h1, hb]
  | ret =>
    refine ⟨n1 + 1, .ret, _, ?_, rfl, tm', h3, h4⟩
    rw [exec_one]
    simp only [step, h1]

/-! ## slots that stay -/

omit [Kap] in
theorem memN_false {l : List Nat} {i : Nat} (h : memN l i = false) : ∀ x ∈ l, x ≠ i := by
  induction l with
  | nil => intro x hx; cases hx
  | cons a r ih =>
    simp only [memN] at h
    split at h
    · cases h
    · rename_i hb
      intro x hx
      rcases List.mem_cons.1 hx with rfl | hx
      · exact Tr.beq_false.1 hb
      · exact ih h x hx

omit [Kap] in
theorem apartN_ok {keep ws : List Nat} (h : apartN keep ws = true) : ∀ i ∈ keep, ∀ x ∈ ws, x ≠ i := by
  induction keep with
  | nil => intro i hi; cases hi
  | cons a r ih =>
    simp only [apartN] at h
    split at h
    · cases h
    · rename_i hm
      intro i hi
      rcases List.mem_cons.1 hi with rfl | hi
      · exact memN_false hm
      · exact ih h i hi

omit [Kap] in
theorem keepT_get {tm : Tr Value} : ∀ {keep : List Nat} {i : Nat} {v : Value}, (keepT tm keep).get i = some v → i ∈ keep ∧ tm.get i = some v
  | [], i, v, h => by simp only [keepT] at h; rw [Tr.get_nil] at h; cases h
  | j :: r, i, v, h => by
    simp only [keepT] at h
    split at h
    · rename_i x hx
      rw [Tr.get_put] at h
      split at h
      · rename_i e; subst e; cases h; exact ⟨List.mem_cons_self .., hx⟩
      · obtain ⟨h1, h2⟩ := keepT_get h; exact ⟨List.mem_cons_of_mem _ h1, h2⟩
    · obtain ⟨h1, h2⟩ := keepT_get h; exact ⟨List.mem_cons_of_mem _ h1, h2⟩

omit [Kap] in
theorem putT_keeps {st st' : St} {dst : Option Tmp} {v : Option Value} {m : Mem} (h : putT st dst v m = some st') {i : Nat} (hi : dst ≠ some i) : st'.tm.get i = st.tm.get i := by
  unfold putT at h
  split at h
  · cases h; rfl
  · rename_i d
    split at h
    · split at h
      · cases h; show (st.tm.put d _).get i = _; rw [Tr.get_put, if_neg (fun e => hi (by rw [e]))]
      · cases h; show (st.tm.del d).get i = _; rw [Tr.get_del, if_neg (fun e => hi (by rw [e]))]
    · cases h

omit [Kap] in
theorem runOps_keeps {call : Caller} {ops : List Oper} {i : Nat} : ∀ {rest : List Oper} {st st' : St}, (∀ o ∈ rest, o.dst ≠ some i) → runOps cx call ops rest st = some st' → st'.tm.get i = st.tm.get i
  | [], st, st', _, h => by cases h; rfl
  | o :: r, st, st', hr, h => by
    unfold runOps at h
    split at h
    · split at h
      · split at h
        · rename_i hp
          rw [runOps_keeps (fun o ho => hr o (List.mem_cons_of_mem _ ho)) h, putT_keeps hp (hr o (List.mem_cons_self ..))]
        · cases h
      · cases h
    · split at h
      · rename_i hp
        rw [runOps_keeps (fun o ho => hr o (List.mem_cons_of_mem _ ho)) h, putT_keeps hp (hr o (List.mem_cons_self ..))]
      · cases h
    · cases h

omit [Kap] in
theorem runDraw_keeps {call : Caller} {ops : List Oper} {base i : Nat} : ∀ {rest : List Oper} {ss : List Nat} {k : Nat} {d : Dr} {st st' : St}, (∀ o ∈ rest, o.dst ≠ some i) → runDraw cx call ops base rest ss k d st = some st' → st'.tm.get i = st.tm.get i
  | [], ss, k, d, st, st', _, h => by unfold runDraw at h; cases h; rfl
  | o :: r, [], k, d, st, st', _, h => by unfold runDraw at h; cases h
  | o :: r, s :: q, k, d, st, st', hr, h => by
    unfold runDraw at h
    split at h
    · split at h
      · split at h
        · rename_i hp
          rw [runDraw_keeps (fun o ho => hr o (List.mem_cons_of_mem _ ho)) h, putT_keeps hp (hr o (List.mem_cons_self ..))]
        · cases h
      · cases h
    · split at h
      · rename_i hp
        rw [runDraw_keeps (fun o ho => hr o (List.mem_cons_of_mem _ ho)) h, putT_keeps hp (hr o (List.mem_cons_self ..))]
      · cases h
    · cases h

omit [Kap] in
theorem exec_keeps {i : Nat} : ∀ {n : Nat} {c : Code} {st : St} {ex : Ex} {st' : St}, (∀ x ∈ writesC c, x ≠ i) → exec cx n c st = some (ex, st') → st'.tm.get i = st.tm.get i := by
  intro n
  induction n with
  | zero => intro c st ex st' _ h; cases h
  | succ n ih =>
    intro c st ex st' hw h
    rw [exec_one] at h
    cases c with
    | skip => cases h; rfl
    | label l => cases h; rfl
    | exit id => cases h; rfl
    | ret => cases h; rfl
    | region id ops draw =>
      have hd : ∀ o ∈ ops.toList, o.dst ≠ some i := fun o ho e => hw i (List.mem_filterMap.2 ⟨o, ho, e⟩) rfl
      cases draw with
      | false =>
        simp only [step] at h
        split at h
        · rename_i h1; cases h; exact runOps_keeps hd h1
        · cases h
      | true =>
        simp only [step] at h
        split at h
        · split at h
          · rename_i h1; cases h; exact (runDraw_keeps hd h1).trans rfl
          · cases h
        · cases h
    | seq x y =>
      have hx : ∀ a ∈ writesC x, a ≠ i := fun a ha => hw a (List.mem_append.2 (.inl ha))
      have hy : ∀ a ∈ writesC y, a ≠ i := fun a ha => hw a (List.mem_append.2 (.inr ha))
      simp only [step] at h
      split at h
      · rename_i h1; rw [ih hy h, ih hx h1]
      · exact ih hx h
    | cond o x y =>
      have hx : ∀ a ∈ writesC x, a ≠ i := fun a ha => hw a (List.mem_append.2 (.inl ha))
      have hy : ∀ a ∈ writesC y, a ≠ i := fun a ha => hw a (List.mem_append.2 (.inr ha))
      simp only [step] at h
      split at h
      · exact ih hx h
      · exact ih hy h
      · cases h
    | block id x =>
      simp only [step] at h
      split at h
      · rename_i h1
        split at h
        · cases h; exact ih (c := x) hw h1
        · cases h; exact ih (c := x) hw h1
      · exact ih (c := x) hw h
    | loop x =>
      simp only [step] at h
      split at h
      · rename_i h1; rw [ih (c := .loop x) hw h, ih (c := x) hw h1]
      · exact ih (c := x) hw h
    | rangeFunc _ _ _ _ => simp [step] at h
    | goto _ => simp [step] at h
    | scope _ => simp [step] at h
    | refuse _ => simp [step] at h

omit [Kap] in
theorem keepT_sub {tm big st : Tr Value} {keep : List Nat} (hs : Sub tm big) (hk : ∀ i ∈ keep, st.get i = big.get i) : Sub (keepT tm keep) st := by
  intro i v h
  obtain ⟨h1, h2⟩ := keepT_get h
  rw [hk i h1]
  exact hs i v h2

omit [Kap] in
theorem CWp.region {sz : Nat} {id : Nat} {ops : Array Oper} {draw : Bool} {tm : Tr Value} {m : Mem} {Q : Ex → Tr Value → Mem → Prop} (h : vRegion cx sz ops.toList draw tm m fun tm m => Q .normal tm m) : CWp cx sz (.region id ops draw) tm m Q := by
  intro tm1 hs
  unfold vRegion at h
  cases draw with
  | false =>
    simp only at h
    obtain ⟨n, st', h1, h2, tm', h3, h4⟩ := vOps_ok h hs
    refine ⟨n + 1, .normal, st', ?_, h2, tm', h3, h4⟩
    rw [exec_one]
    simp only [step, h1]
  | true =>
    simp only at h
    split at h
    · rename_i hsl
      obtain ⟨n, st', h1, h2, tm', h3, h4⟩ := vDraw_ok (mBind_ok h) hs
      refine ⟨n + 1, .normal, st', ?_, h2, tm', h3, h4⟩
      rw [exec_one]
      simp only [step, hsl]
      unfold bump at h1
      simp only [h1]
    · exact h.elim

omit [Kap] in
theorem CWp.cond {sz : Nat} {c : Operand} {x y : Code} {tm : Tr Value} {m : Mem} {Q : Ex → Tr Value → Mem → Prop} {F : Tr Value → Bool → Prop} (h : vCond cx tm c F)
    (hx : ∀ tm, F tm true → CWp cx sz x tm m Q) (hy : ∀ tm, F tm false → CWp cx sz y tm m Q) : CWp cx sz (.cond c x y) tm m Q := by
  have key : ∃ b tm2, (∀ tm1, Sub tm tm1 → evalA cx ⟨tm1, sz, m⟩ c = some (.bool b) ∧ Sub tm2 tm1) ∧ F tm2 b := by
    unfold vCond at h
    split at h
    · rename_i t
      split at h
      · rename_i b hb
        rcases splitB_ok h with ⟨rfl, h2⟩ | ⟨rfl, h2⟩
        · exact ⟨true, _, fun tm1 hs => ⟨hs _ _ hb, hs.put_of (hs _ _ hb)⟩, h2⟩
        · exact ⟨false, _, fun tm1 hs => ⟨hs _ _ hb, hs.put_of (hs _ _ hb)⟩, h2⟩
      · exact h.elim
    · split at h
      · rename_i b hb
        have hev : ∀ tm1, Sub tm tm1 → evalA cx ⟨tm1, sz, m⟩ c = some (.bool b) := fun tm1 hs => evalA_sub hs (by rw [← evT_eq]; exact hb)
        rcases splitB_ok h with ⟨rfl, h2⟩ | ⟨rfl, h2⟩
        · exact ⟨true, tm, fun tm1 hs => ⟨hev tm1 hs, hs⟩, h2⟩
        · exact ⟨false, tm, fun tm1 hs => ⟨hev tm1 hs, hs⟩, h2⟩
      · exact h.elim
  obtain ⟨b, tm2, h1, h2⟩ := key
  intro tm1 hs
  obtain ⟨e1, e2⟩ := h1 tm1 hs
  cases b with
  | true =>
    obtain ⟨n, ex, st', k1, k2, k3⟩ := hx tm2 h2 _ e2
    refine ⟨n + 1, ex, st', ?_, k2, k3⟩
    rw [exec_one]
    simp only [step, e1, k1]
  | false =>
    obtain ⟨n, ex, st', k1, k2, k3⟩ := hy tm2 h2 _ e2
    refine ⟨n + 1, ex, st', ?_, k2, k3⟩
    rw [exec_one]
    simp only [step, e1, k1]

omit [Kap] in
theorem vcg_ok {sz : Nat} : ∀ {c : AC} {tm : Tr Value} {m : Mem} {Q : Ex → Tr Value → Mem → Prop}, vcg cx sz c tm m Q → CWp cx sz c.code tm m Q := by
  intro c
  induction c with
  | skip => intro tm m Q h; exact CWp.now (fun _ _ => rfl) h
  | label l => intro tm m Q h; exact CWp.now (fun _ _ => rfl) h
  | exit id => intro tm m Q h; exact CWp.now (fun _ _ => rfl) h
  | ret => intro tm m Q h; exact CWp.now (fun _ _ => rfl) h
  | region id ops draw => intro tm m Q h; exact CWp.region h
  | seq a b iha ihb =>
    intro tm m Q h
    refine CWp.seq ((iha h).mono ?_)
    intro ex tm m h
    cases ex with
    | normal => exact ihb h
    | exit i => exact h
    | ret => exact h
  | seqJ a keep live b iha ihb =>
    intro tm m Q h tm1 hs
    have h' : (match apartN keep (writesC a.code) with
      | true => vcg cx sz a tm m fun
        | .normal, tm', m => appT live (mkJ live (keepT tm keep) fun tm m => vcg cx sz b tm m Q) tm' (fun _ => False) m
        | .exit i, tm, m => Q (.exit i) tm m
        | .ret, tm, m => Q .ret tm m
      | false => False) := h
    split at h'
    · rename_i hap
      obtain ⟨n1, ex, ⟨tma, sza, ma⟩, h1, h2, tm', h3, h4⟩ := iha h' _ hs
      simp only at h2; subst h2
      cases ex with
      | normal =>
        have hk : Sub (keepT tm keep) tma := keepT_sub hs (fun i hi => exec_keeps (apartN_ok hap i hi) h1)
        rcases appT_mk (d := fun _ => False) h3 (live := live) (f := fun tm m => vcg cx sza b tm m Q) (m := ma) hk with e | ⟨tm2, hs2, e⟩
        · simp only at h4; rw [e] at h4; exact h4.elim
        · simp only at h4; rw [e] at h4
          obtain ⟨n2, ex2, st2, k1, k2, k3⟩ := ihb h4 _ hs2
          refine ⟨max n1 n2 + 1, ex2, st2, ?_, k2, k3⟩
          show exec cx _ (.seq a.code b.code) _ = _
          rw [exec_one]
          simp only [step, exec_mono (Nat.le_max_left n1 n2) _ _ _ h1]
          exact exec_mono (Nat.le_max_right n1 n2) _ _ _ k1
      | exit i =>
        refine ⟨n1 + 1, _, _, ?_, rfl, tm', h3, h4⟩
        show exec cx _ (.seq a.code b.code) _ = _
        rw [exec_one]
        simp only [step, h1]
      | ret =>
        refine ⟨n1 + 1, _, _, ?_, rfl, tm', h3, h4⟩
        show exec cx _ (.seq a.code b.code) _ = _
        rw [exec_one]
        simp only [step, h1]
    · exact h'.elim
  | cond c x y ihx ihy =>
    intro tm m Q h
    exact CWp.cond h (fun tm h => ihx h) (fun tm h => ihy h)
  | block id c ih =>
    intro tm m Q h
    exact CWp.block (ih h)
  | loop keep live c ih =>
    intro tm0 m Q h tm1 hs
    have h' : (match apartN keep (writesC c.code) with
      | true => ∃ Inv : Cur live (Mem → Nat → Prop), (∃ n, appT live Inv tm0 (fun _ _ => False) m n) ∧
        alL live Inv (keepT tm0 keep) fun I tm => ∀ m n, I m n → vcg cx sz c tm m fun
          | .normal, tm, m => ∃ n', n' < n ∧ appT live Inv tm (fun _ _ => False) m n'
          | .exit i, tm, m => Q (.exit i) tm m
          | .ret, tm, m => Q .ret tm m
      | false => False) := h
    split at h'
    · rename_i hap
      obtain ⟨Inv, ⟨n, h0⟩, hb⟩ := h'
      have key : ∀ n tm m tm1, Sub tm tm1 → Sub (keepT tm0 keep) tm1 → appT live Inv tm (fun _ _ => False) m n →
          ∃ n ex st', exec cx n (.loop c.code) ⟨tm1, sz, m⟩ = some (ex, st') ∧ st'.sz = sz ∧ ∃ tm', Sub tm' st'.tm ∧ Q ex tm' st'.m := by
        intro n
        induction n using Nat.strongRecOn with
        | ind n ihn =>
          intro tm m tm1 hs hk hI
          rcases appT_al (d := fun _ _ => False) hs hb hk with e | ⟨I, tm2, hs2, e, hF⟩
          · rw [e] at hI; exact hI.elim
          · rw [e] at hI
            obtain ⟨n1, ex, ⟨tma, sza, ma⟩, h1, h2, tm', h3, h4⟩ := ih (hF m n hI) _ hs2
            simp only at h2; subst h2
            cases ex with
            | normal =>
              obtain ⟨n', hlt, hI'⟩ := h4
              have hk' : Sub (keepT tm0 keep) tma := fun i v hv => by
                rw [exec_keeps (apartN_ok hap i (keepT_get hv).1) h1]; exact hk i v hv
              obtain ⟨n2, ex2, st2, k1, k2, k3⟩ := ihn n' hlt tm' ma tma h3 hk' hI'
              refine ⟨max n1 n2 + 1, ex2, st2, ?_, k2, k3⟩
              rw [exec_one]
              simp only [step, exec_mono (Nat.le_max_left n1 n2) _ _ _ h1]
              exact exec_mono (Nat.le_max_right n1 n2) _ _ _ k1
            | exit i =>
              refine ⟨n1 + 1, _, _, ?_, rfl, tm', h3, h4⟩
              rw [exec_one]
              simp only [step, h1]
            | ret =>
              refine ⟨n1 + 1, _, _, ?_, rfl, tm', h3, h4⟩
              rw [exec_one]
              simp only [step, h1]
      exact key n tm0 m tm1 hs (keepT_sub hs (fun _ _ => rfl)) h0
    · exact h'.elim
  | other c => intro tm m Q h; exact h.elim

/-! ## functions -/

omit [Kap] in
theorem vResults_ok {tm tm1 : Tr Value} {sz : Nat} {m : Mem} (hs : Sub tm tm1) : ∀ {l : List ResultVar} {ts : List TypeId} {K : List Value → Prop}, vResults cx tm m l ts K → ∃ vs, resultsA cx ⟨tm1, sz, m⟩ l = some vs ∧ K vs
  | [], _, K, h => ⟨[], rfl, h⟩
  | .tmp t :: r, ts, K, h => by
    unfold vResults at h
    obtain ⟨v, h1, h2⟩ := vVal_ok h
    obtain ⟨vs, h3, h4⟩ := vResults_ok (sz := sz) hs h2
    exact ⟨v :: vs, by simp only [resultsA, hs _ _ h1, h3], h4⟩
  | .cell a t :: r, ts, K, h => by
    unfold vResults at h
    split at h
    · rename_i p hp
      obtain ⟨b, o, rfl, h2⟩ := vPtr_ok h
      obtain ⟨v, h3, h4⟩ := vLoad_ok h2
      obtain ⟨vs, h5, h6⟩ := vResults_ok (sz := sz) hs h4
      exact ⟨v :: vs, by simp only [resultsA, hs _ _ hp, h3, h5], h6⟩
    · exact h.elim

omit [Kap] in
theorem AC.of_code : ∀ {c : Code} {n : Ann}, (AC.of c n).1.code = c := by
  intro c
  induction c with
  | seq a b iha ihb =>
    intro n
    simp only [AC.of]
    rcases annHead n with ⟨_ | ⟨k, l⟩, n'⟩
    · exact congr (congrArg Code.seq (iha (n := n'))) (ihb (n := (AC.of a n').2))
    · exact congr (congrArg Code.seq (iha (n := n'))) (ihb (n := (AC.of a n').2))
  | cond c a b iha ihb =>
    intro n
    exact congr (congrArg (Code.cond c) (iha (n := n))) (ihb (n := (AC.of a n).2))
  | block id c ih => intro n; exact congrArg (Code.block id) (ih (n := n))
  | loop c ih =>
    intro n
    simp only [AC.of]
    rcases annHead n with ⟨_ | ⟨k, l⟩, n'⟩
    · rfl
    · exact congrArg Code.loop (ih (n := n'))
  | _ => intro n; rfl

omit [Kap] in
theorem body_ok {k : FuncId} {fn : Func} {ann : Ann} {args : List Value} {m : Mem} {Q : Value → Mem → Prop} (hf : cx.fn.get k = some fn) (h : vFn cx fn ann args m Q) :
    ∃ n r m', callBody cx (exec cx n) k args m = some (r, m') ∧ Q r m' := by
  unfold vFn at h
  split at h
  · exact h.elim
  · rename_i c hb
    split at h
    · exact h.elim
    · rename_i hl
      obtain ⟨n, ex, ⟨tma, sza, ma⟩, h1, h2, tm', h3, h4⟩ := vcg_ok h _ (Sub.refl _)
      rw [AC.of_code] at h1
      simp only at h2; subst h2
      cases ex with
      | normal =>
        obtain ⟨vs, k1, k2⟩ := vResults_ok (sz := fn.ntmps) h3 h4
        refine ⟨n, _, _, ?_, k2⟩
        unfold callBody
        simp only [hf, hb, hl, h1, retOf, k1]
      | ret =>
        obtain ⟨vs, k1, k2⟩ := vResults_ok (sz := fn.ntmps) h3 h4
        refine ⟨n, _, _, ?_, k2⟩
        unfold callBody
        simp only [hf, hb, hl, h1, retOf, k1]
      | exit i => exact h4.elim

omit [Kap] in
theorem CallW.of {k : FuncId} {fn : Func} {ann : Ann} {args : List Value} {m : Mem} {Q : Value → Mem → Prop} (ho : cx.ov.get k = none) (hf : cx.fn.get k = some fn) (h : vFn cx fn ann args m Q) :
    CallW cx k args m Q := by
  obtain ⟨n, r, m', h1, h2⟩ := body_ok hf h
  exact ⟨n, r, m', by unfold callOf; rw [ho]; exact h1, h2⟩

omit [Kap] in
theorem CallW.ov {k : FuncId} {f : List Value → Mem → Option (Value × Mem)} {args : List Value} {m : Mem} {Q : Value → Mem → Prop} (ho : cx.ov.get k = some f) {r : Value} {m' : Mem} (h : f args m = some (r, m')) (hq : Q r m') : CallW cx k args m Q :=
  ⟨0, r, m', by unfold callOf; rw [ho]; exact h, hq⟩

omit [Kap] in
theorem CallW.mono {k : FuncId} {args : List Value} {m : Mem} {Q R : Value → Mem → Prop} (h : CallW cx k args m Q) (hq : ∀ r m', Q r m' → R r m') : CallW cx k args m R := by
  obtain ⟨n, r, m', h1, h2⟩ := h
  exact ⟨n, r, m', h1, hq _ _ h2⟩

end Go.AX
