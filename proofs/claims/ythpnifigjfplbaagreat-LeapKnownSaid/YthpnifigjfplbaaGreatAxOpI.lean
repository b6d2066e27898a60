/-
  APPEND, COPY, CLEAR.
-/
import Derived.Test.YthpnifigjfplbaaGreatAxOpH
namespace Go.AX

variable [Kap]

variable {P : Program} {cx : Cx} {φ : Phi} {m : Mem} {w : World}

omit [Kap] in
theorem grow_le (need : Nat) : ∀ (k c : Nat), c ≤ 2 * need + 192 → Builtin.growBy need k c ≤ 2 * need + 192
  | 0, c, h => h
  | k + 1, c, h => by
    simp only [Builtin.growBy]
    split
    · exact h
    · exact grow_le need k _ (by omega)

omit [Kap] in
theorem next_le {need c : Nat} (h : c < need) : Builtin.nextslicecap need c ≤ 2 * need + 192 := by
  unfold Builtin.nextslicecap
  split
  · omega
  · split
    · omega
    · exact grow_le _ _ _ (by omega)

omit [Kap] in
theorem lenV_ok {x x' : Value} {n : Nat} (h : lenV x = some n) (hx : VR φ x x') : (Builtin.lenOf x').run P w = .ok n w := by
  cases hx <;> simp only [lenV, Option.some.injEq, reduceCtorEq] at h <;> subst h <;> simp [Builtin.lenOf] <;> rfl

omit [Kap] in
theorem firstL_ok (h0 : R0 P φ m w) {s n k : Nat} {x x' : Value} {l : List Value} (h : firstL m s n x = some l) (hx : VR φ x x') (hk : lenV x = some k) (hn : n ≤ k) :
    ∃ l', (Builtin.firstCells s n x').run P w = .ok l'.toArray w ∧ LR φ l l' := by
  cases hx with
  | sl b off len cap cap' lc hb hc =>
    simp only [firstL] at h
    split at h
    · cases h
      exact ⟨[], by simp [Builtin.firstCells, loadCells, loadCellsFrom], LR.nil φ⟩
    · obtain ⟨_, l', hlr, hlen, hcl⟩ := row_ok h0 h (.ptr b off lc hb)
      have hrun := run_loadCells_list (P := P) w _ l' hcl
      refine ⟨l', ?_, hlr⟩
      simp only [Builtin.firstCells]
      rw [← hlen, hlr.1]
      simpa using hrun
  | slE a a' =>
    simp only [lenV, Option.some.injEq] at hk
    obtain rfl : n = 0 := by omega
    simp only [firstL, Option.some.injEq] at h
    subst h
    exact ⟨[], by simp [Builtin.firstCells, loadCells, loadCellsFrom], LR.nil φ⟩
  | sl0 len cap =>
    simp only [firstL, Option.some.injEq] at h; subst h
    exact ⟨[], by simp [Builtin.firstCells], LR.nil φ⟩
  | string z =>
    simp only [firstL, Option.some.injEq] at h; subst h
    refine ⟨(z.data.toList.take n).map fun b => .int .u8 b.toNat, ?_, ?_⟩
    · simp only [Builtin.firstCells, Sem.run_pure]
      congr 1
      apply Array.ext'
      have : z.extract 0 n = ⟨((z.data.toList.drop 0).take (n - 0)).toArray⟩ := by rw [← ByteArray.extract_mk]
      rw [this]
      simp
    · refine ⟨rfl, fun i v v' h1 h2 => ?_⟩
      rw [h1] at h2; cases h2
      simp only [List.getElem?_map, Option.map_eq_some_iff] at h1
      obtain ⟨b, _, rfl⟩ := h1
      exact .int _ _
  | _ => simp [firstL] at h

theorem copy_ok (hcx : CxOk P cx) (h0 : R0 P φ m w) {ts : Array TypeId} {ty : TypeId} {args : List Value} {args' : Array Value} {v : Value} {m' : Mem} (h : copyA cx m ts.toList args = some (v, m')) (ha : LR φ args args'.toList) :
    ∃ v' w', (Builtin.copy_ ts ty args').run P w = .ok v' w' ∧ VR φ v v' ∧ R0 P φ m' w' ∧ Stp φ m w φ m' w' ∧ m'.nx = m.nx := by
  unfold copyA at h
  split at h
  · rename_i t r base dl cap src hts
    obtain ⟨d', r1, e1, hd0, hr1⟩ := ha.uncons
    obtain ⟨s', r2, e2, hs0, hr2⟩ := hr1.uncons
    have := hr2.nil_iff
    subst this; subst e2
    have ea : args' = #[d', s'] := Array.ext' (by simpa using e1)
    subst ea
    have ht : ts[0]? = some t := by rw [← Array.getElem?_toList, hts]; rfl
    split at h
    · rename_i e hd
      have hu := hcx.un _ _ hd
      split at h
      · rename_i s n hs hn
        obtain ⟨i, hi, rfl⟩ := sizeT_ok hcx hs
        have hlen := lenV_ok (P := P) (w := w) hn hs0
        split at h
        · rename_i l hl
          obtain ⟨l', hf, hlr⟩ := firstL_ok h0 hl hs0 hn (Nat.min_le_left _ _)
          have hmin : Nat.min n dl = min n dl := rfl
          have done : ∀ (b' : Option Addr) (c' : Nat) (w1 : World) , (match b' with | some a => storeCells a l' | none => pure ()).run P w = .ok () w1 →
              (Builtin.copy_ ts ty #[.slice b' dl c', s']).run P w = .ok (.int .i64 (min n dl : Nat)) w1 := by
            intro b' c' w1 hst
            cases b' with
            | none =>
              have hst' : w1 = w := by simpa using hst.symm
              subst hst'
              simp [Builtin.copy_, ht, run_underlying hu, hlen, hmin, hf, run_size hi, goInt]
            | some a =>
              have hst' : (storeCells a l').run P w = .ok () w1 := hst
              simp [Builtin.copy_, ht, run_underlying hu, hlen, hmin, hf, run_size hi, hst', goInt]
          split at h
          · rename_i a
            split at h
            · -- nothing is copied
              simp only [Option.some.injEq, Prod.mk.injEq] at h
              obtain ⟨rfl, rfl⟩ := h
              have := hlr.nil_iff
              subst this
              cases hd0 with
              | sl b off _ _ cap' lc hb hc => exact ⟨_, w, done _ _ w (by simp [storeCells]), .int _ _, h0, Stp.refl _ _ _, rfl⟩
              | slE a a' => exact ⟨_, w, done _ _ w (by simp [storeCells]), .int _ _, h0, Stp.refl _ _ _, rfl⟩
            · rename_i hne
              split at h
              · rename_i m1 hst
                simp only [Option.some.injEq, Prod.mk.injEq] at h
                obtain ⟨rfl, rfl⟩ := h
                cases hd0 with
                | sl b off _ _ cap' lc hb hc =>
                  obtain ⟨w1, g1, g2, g3, g4⟩ := storeL_ok h0 hst (.ptr b off lc hb) hlr
                  exact ⟨_, w1, done _ _ w1 g1, .int _ _, g2, g3, g4⟩
                | slE a a' =>
                  exfalso
                  rw [show min n 0 = 0 by omega] at hl
                  cases hs0 with
                  | sl b off len cap cap' lc hb hc => simp only [firstL, Option.some.injEq] at hl; exact hne hl.symm
                  | slE a a' => simp only [firstL, Option.some.injEq] at hl; exact hne hl.symm
                  | sl0 len cap => simp only [firstL, Option.some.injEq] at hl; exact hne hl.symm
                  | string z => simp only [firstL, Option.some.injEq, List.take_zero, List.map_nil] at hl; exact hne hl.symm
                  | _ => simp [firstL] at hl
              · cases h
          · simp only [Option.some.injEq, Prod.mk.injEq] at h
            obtain ⟨rfl, rfl⟩ := h
            cases hd0
            exact ⟨_, w, done none _ w rfl, .int _ _, h0, Stp.refl _ _ _, rfl⟩
        · cases h
      · cases h
    · cases h
  · cases h

theorem clear_ok (hcx : CxOk P cx) (h0 : R0 P φ m w) {ts : Array TypeId} {ty : TypeId} {args : List Value} {args' : Array Value} {v : Value} {m' : Mem} (h : clearA cx m ts.toList args = some (v, m')) (ha : LR φ args args'.toList) :
    ∃ v' w', (Builtin.clear_ ts ty args').run P w = .ok v' w' ∧ VR φ v v' ∧ R0 P φ m' w' ∧ Stp φ m w φ m' w' ∧ m'.nx = m.nx := by
  have tup : VR φ (.tuple #[]) (.tuple #[]) := .tuple _ _ rfl (LR.nil φ).2
  unfold clearA at h
  split at h
  · rename_i t r a n cap hts
    obtain ⟨d', r1, e1, hd0, hr1⟩ := ha.uncons
    have := hr1.nil_iff
    subst this
    have ea : args' = #[d'] := Array.ext' (by simpa using e1)
    subst ea
    have ht : ts[0]? = some t := by rw [← Array.getElem?_toList, hts]; rfl
    split at h
    · rename_i e hd
      have hu := hcx.un _ _ hd
      split at h
      · simp only [Option.some.injEq, Prod.mk.injEq] at h
        obtain ⟨rfl, rfl⟩ := h
        cases hd0
        exact ⟨_, w, by simp [Builtin.clear_, ht, run_underlying hu], tup, h0, Stp.refl _ _ _, rfl⟩
      · simp only [Option.some.injEq, Prod.mk.injEq] at h
        obtain ⟨rfl, rfl⟩ := h
        refine ⟨.tuple #[], w, ?_, tup, h0, Stp.refl _ _ _, rfl⟩
        cases hd0 <;> simp [Builtin.clear_, ht, run_underlying hu]
      · rename_i a n
        split at h
        · rename_i z hz
          obtain ⟨hzr, _⟩ := zeroT_ok hcx hz w
          obtain ⟨i, hi, hiz, hp⟩ := zeroT_info hcx hz
          split at h
          · rename_i hpos
            have hpos' : 0 < (cellsL z).length := Nat.le_of_ble_eq_true hpos
            split at h
            · rename_i m1 hst
              simp only [Option.some.injEq, Prod.mk.injEq] at h
              obtain ⟨rfl, rfl⟩ := h
              cases hd0 with
              | sl b off _ _ cap' lc hb hc =>
                have hzl : LR φ (cellsL z) (cellsL z) := (VR.plain φ hp).cells
                obtain ⟨w1, g1, g2, g3, g4⟩ := storeL_ok h0 hst (.ptr b off lc hb) (hzl.rep (n + 1))
                refine ⟨.tuple #[], w1, ?_, tup, g2, g3, g4⟩
                have hzs : (cellsL z).length = z.cells.size := by rw [← cells_toList]; simp
                have hzc : (Builtin.zeroCells z.cells (n + 1)).toList = repL (cellsL z) (n + 1) := by
                  unfold Builtin.zeroCells
                  rw [rep_eq z.cells (n + 1) z.cells.size rfl (by omega), cells_toList]
                simp [Builtin.clear_, ht, run_underlying hu, hzr, hzc, g1]
            · cases h
          · cases h
        · cases h
    · cases h
  · cases h

/-! ## append -/

omit [Kap] in
/-- what is there behind the giving up -/
theorem giveUp_sub {m m1 : Mem} {base : Option Addr} {e s cap : Nat} (h : giveUp m base e s cap = some m1) :
    m1.nx = m.nx ∧ m1.fl = m.fl ∧ (∀ b o, m1.hp.get b = some o → m.hp.get b = some o) ∧ (∀ b, b < m.fl → m1.hp.get b = m.hp.get b) := by
  unfold giveUp at h
  split at h
  · simp only [Option.some.injEq] at h; subst h; exact ⟨rfl, rfl, fun _ _ h => h, fun _ _ => rfl⟩
  · split at h
    · simp only [Option.some.injEq] at h; subst h; exact ⟨rfl, rfl, fun _ _ h => h, fun _ _ => rfl⟩
    split at h
    · split at h
      · simp only [Option.some.injEq] at h; subst h; exact ⟨rfl, rfl, fun _ _ h => h, fun _ _ => rfl⟩
      · split at h
        · split at h
          · split at h
            · rename_i hfl
              have := Nat.le_of_ble_eq_true hfl
              simp only [Option.some.injEq] at h; subst h
              refine ⟨rfl, rfl, fun b o hb => ?_, fun b hb => ?_⟩
              · rw [Tr.get_del] at hb
                split at hb
                · cases hb
                · exact hb
              · rw [Tr.get_del, if_neg (by omega)]
            · cases h
          · simp only [Option.some.injEq] at h; subst h; exact ⟨rfl, rfl, fun _ _ h => h, fun _ _ => rfl⟩
        · cases h
    · cases h

omit [Kap] in
/-- where the room behind may be used, the block is given up -/
theorem giveUp_room (h0 : R0 P φ m w) {m1 : Mem} {b off e s cap cap' : Nat} {l : Loc} {i : TypeInfo} (hi : P.info? e = some i) (his : i.size = s) (h : giveUp m (some ⟨b, off, none⟩) e s cap = some m1) (hb : φ b = some l) (hc : CapR l off cap cap') :
    cap' = cap ∨ (m1.hp.get b = none ∧ l.s = s ∧ 0 < s ∧ off + cap * s = l.n ∧ cap ≤ cap' ∧ off + cap' * s ≤ l.re ∧ m.fl ≤ b ∧ ∃ c' : Array Value, w.heap[l.rb]? = some (.cells c' e (0, 0)) ∧ l.ro + l.re ≤ c'.size ∧ ∃ o, m.hp.get b = some o) := by
  rcases hc with rfl | ⟨h1, h2, h3, h4⟩
  · exact .inl rfl
  · unfold giveUp at h
    dsimp only at h
    split at h
    · rename_i c n e' loose hk
      obtain ⟨l0, hl0, c', hc', hn, hre, hsz, hcells, hx1, hx2⟩ := h0.obj _ _ hk
      rw [hb] at hl0; cases hl0
      split at h
      · have := (hx1 rfl).1; omega
      · split at h
        · rename_i he
          have he' := Nat.eq_of_beq_eq_true he
          subst he'
          have hls : l.s = s := by rw [← his]; exact ((hx2 rfl).2 i hi).symm
          rw [hls] at h1 h2 h4
          split at h
          · split at h
            · rename_i hfl
              simp only [Option.some.injEq] at h; subst h
              right
              refine ⟨by rw [Tr.get_del, if_pos rfl], hls, h1, h2, h3, h4, Nat.le_of_ble_eq_true hfl, c', hc', hsz, _, hk⟩
            · cases h
          · rename_i hne
            have := Tr.beq_false.1 hne
            omega
        · cases h
    · cases h

end Go.AX
