/-
  EQUALITY OF VALUES, AND THE OPERATORS.
-/
import Derived.Test.YthpnifigjfplbaaGreatAxOpB
namespace Go.AX

variable {P : Program} {cx : Cx} {φ : Phi} {m : Mem} {w : World}

theorem eqFields_ok (hcx : CxOk P cx) {eq : TypeId → Value → Value → Option Bool} {d : Nat}
    (ih : ∀ (t : TypeId) (x y x' y' : Value) (b : Bool), eq t x y = some b → VR φ x x' → VR φ y y' → (Op.equalIn d t x' y').run P w = .ok b w)
    {xs ys xs' ys' : List Value} (hx : LR φ xs xs') (hy : LR φ ys ys') : ∀ (fs : List Field) (b : Bool), eqFields cx eq xs ys fs = some b → (Op.eqFields d xs'.toArray ys'.toArray fs).run P w = .ok b w
  | [], b, h => by simp only [eqFields, Option.some.injEq] at h; subst h; rfl
  | f :: r, b, h => by
    simp only [eqFields] at h
    split at h
    · rename_i hn
      have hn' : f.name = "_" := by simpa using hn
      simp only [Op.eqFields, hn', ne_eq, not_true_eq_false, if_false]
      exact eqFields_ok hcx ih hx hy r b h
    · rename_i hn
      have hn' : ¬ f.name = "_" := by simpa using hn
      split at h
      · rename_i x y px py
        obtain ⟨x', rx, vx⟩ := partL_ok (w := w) hcx hx px
        obtain ⟨y', ry, vy⟩ := partL_ok (w := w) hcx hy py
        simp only [Op.eqFields, ne_eq, hn', not_false_eq_true, if_true, Sem.run_bind, rx, ry, Result.andThen_ok]
        split at h
        · rename_i e
          rw [ih _ _ _ _ _ _ e vx vy]
          simp only [Result.andThen_ok, Bool.not_true, Bool.false_eq_true, if_false]
          exact eqFields_ok hcx ih hx hy r b h
        · rename_i e
          cases h
          rw [ih _ _ _ _ _ _ e vx vy]
          simp
        · cases h
      · cases h

set_option maxHeartbeats 1000000 in
theorem eqV_ok (hcx : CxOk P cx) (h0 : R0 P φ m w) : ∀ (d d' : Nat), d ≤ d' → ∀ (t : TypeId) (x y x' y' : Value) (b : Bool), eqV cx m d t x y = some b → VR φ x x' → VR φ y y' → (Op.equalIn d' t x' y').run P w = .ok b w := by
  intro d
  induction d with
  | zero => intro d' _ t x y x' y' b h; simp [eqV] at h
  | succ d ih =>
    intro d' hd t x y x' y' b h hx hy
    obtain ⟨e', rfl⟩ : ∃ e', d' = e' + 1 := ⟨d' - 1, by omega⟩
    have hd' : d ≤ e' := by omega
    simp only [eqV] at h
    split at h
    · cases h
    · rename_i u hu0
      have hu := hcx.un _ _ hu0
      split at h
      · cases hx; cases hy
        simp only [Option.some.injEq] at h; subst h
        simp [Op.equalIn, run_underlying hu]
      · cases hx; cases hy
        split at h
        · rename_i hk
          have hk' : _ = _ := of_decide_eq_true hk
          subst hk'
          simp only [Option.some.injEq] at h; subst h
          simp only [Op.equalIn, Sem.run_bind, run_underlying hu, Result.andThen_ok, if_true, Sem.run_pure]
          congr 1
        · cases h
      · cases hx; cases hy
        simp only [Option.some.injEq, bytesEq_eq] at h; subst h
        rename_i a c
        have : (a == c) = (a.data.toList == c.data.toList) := by rw [beq_toListBytes, ByteArray.toList_eq, ByteArray.toList_eq]
        simp [Op.equalIn, run_underlying hu, this]
      · -- pointers
        rename_i e a c
        split at h
        · rename_i n hn
          obtain ⟨i, hi, hin⟩ := sizeT_ok hcx hn
          obtain ⟨a', c', rfl, rfl, hr⟩ := sameAddr_ok h0 h hx hy
          cases a' with
          | none =>
            simp only at hr; subst hr
            simp [Op.equalIn, run_underlying hu]
          | some a' =>
            cases c' with
            | none => simp only at hr; subst hr; simp [Op.equalIn, run_underlying hu]
            | some c' =>
              simp only at hr
              have : ¬ i.size = 0 := by omega
              simp [Op.equalIn, run_underlying hu, run_size hi, this, hr]
        · cases h
      · cases hx; cases hy
        simp only [Option.some.injEq] at h; subst h
        simp [Op.equalIn, run_underlying hu]
      · cases hx; cases hy
        simp only [Option.some.injEq] at h; subst h
        simp [Op.equalIn, run_underlying hu]
      · cases hx; cases hy
        simp only [Option.some.injEq] at h; subst h
        simp [Op.equalIn, run_underlying hu]
      · -- two interface values
        cases hx with
        | iface tx vx vx' hvx =>
          cases hy with
          | iface ty vy vy' hvy =>
            split at h
            · rename_i ht
              have ht' := Tr.beq_false.1 ht
              simp only [Option.some.injEq] at h; subst h
              simp [Op.equalIn, run_underlying hu, ht']
            · rename_i ht
              have ht' := Tr.beq_true.1 ht
              subst ht'
              split at h
              · rename_i i hi
                split at h
                · rename_i hc
                  simp [Op.equalIn, run_underlying hu, run_info (hcx.ty _ _ hi), hc, ih _ hd' _ _ _ _ _ _ h hvx hvy]
                · cases h
              · cases h
      · -- structs
        rename_i fs xs ys
        cases hx with
        | agg xs xs' hx1 hx2 =>
          cases hy with
          | agg ys ys' hy1 hy2 =>
            split at h
            · rename_i hnh
              have hf : P.underlying t = some (.struct (P.fieldsOf t)) := by
                have : P.fieldsOf t = fs := by simp [Program.fieldsOf, hu]
                rw [this]; exact hu
              have hfs : P.fieldsOf t = fs := by simp [Program.fieldsOf, hu]
              rw [run_equalIn_struct _ _ _ _ _ hf (hcx.nh _ hnh), hfs]
              exact eqFields_ok (xs' := xs'.toList) (ys' := ys'.toList) hcx (fun t x y x' y' b h1 h2 h3 => ih _ hd' t x y x' y' b h1 h2 h3) ⟨hx1, hx2⟩ ⟨hy1, hy2⟩ _ _ h
            · cases h
      · -- slices
        simp only [Option.some.injEq] at h; subst h
        cases hx; cases hy <;> simp only [Op.equalIn, Sem.run_bind, run_underlying hu, Result.andThen_ok, Sem.run_pure, Option.isNone_none, Option.isNone_some]
      · rename_i hnn
        simp only [Option.some.injEq] at h; subst h
        cases hy
        cases hx
        · exact (hnn rfl).elim
        · simp only [Op.equalIn, Sem.run_bind, run_underlying hu, Result.andThen_ok, Sem.run_pure]
        · simp only [Op.equalIn, Sem.run_bind, run_underlying hu, Result.andThen_ok, Sem.run_pure]
      · -- maps
        simp only [Option.some.injEq] at h; subst h
        cases hx; cases hy <;> simp only [Op.equalIn, Sem.run_bind, run_underlying hu, Result.andThen_ok, Sem.run_pure, Option.isNone_none, Option.isNone_some]
      · rename_i hnn
        simp only [Option.some.injEq] at h; subst h
        cases hy
        cases hx
        · exact (hnn rfl).elim
        · simp only [Op.equalIn, Sem.run_bind, run_underlying hu, Result.andThen_ok, Sem.run_pure]
      · cases hx; cases hy
        simp only [Option.some.injEq] at h; subst h
        simp [Op.equalIn, run_underlying hu]
      · cases hx; cases hy
        simp only [Option.some.injEq] at h; subst h
        simp [Op.equalIn, run_underlying hu]
      · cases hx; cases hy
        simp only [Option.some.injEq] at h; subst h
        simp [Op.equalIn, run_underlying hu]
      · cases h

end Go.AX
