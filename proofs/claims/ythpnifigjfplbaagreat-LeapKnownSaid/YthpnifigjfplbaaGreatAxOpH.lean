/-
  STORES, MAPS THAT ARE WRITTEN, APPEND, COPY.
-/
import Derived.Test.YthpnifigjfplbaaGreatAxOpG
namespace Go.AX

variable [Kap]

variable {P : Program} {cx : Cx} {φ : Phi} {m : Mem} {w : World}

/-- a store of some cells -/
theorem storeL_ok (h0 : R0 P φ m w) {a a' : Addr} {l l' : List Value} {m' : Mem} (h : storeL m a l = some m') (ha : VR φ (.pointer (some a)) (.pointer (some a'))) (hl : LR φ l l') :
    ∃ w', (storeCells a' l').run P w = .ok () w' ∧ R0 P φ m' w' ∧ Stp φ m w φ m' w' ∧ m'.nx = m.nx := by
  cases ha with
  | ptr b off lc hb =>
    unfold storeL at h
    split at h
    · cases ‹_›
    · split at h
      · rename_i c k e x hk
        split at h
        · rename_i hc
          simp only [Option.some.injEq] at h; subst h
          simp only [Bool.and_eq_true] at hc
          obtain ⟨⟨hc1, hc2⟩, hc3⟩ := hc
          have c1 : off + l.length ≤ k := Nat.le_of_ble_eq_true hc1
          have c2 : m.fl ≤ b := Nat.le_of_ble_eq_true hc2
          obtain ⟨l0, hl0, c', hc', hn, hre, hsz, hcells, hx1, hx2⟩ := h0.obj _ _ hk
          rw [hb] at hl0; cases hl0
          have hrun := run_storeCells_at P lc.rb (lc.ro + off) e l' 0 c' w hc' (by rw [← hl.1]; omega) (hl.one1 hc3)
          generalize hnew : (c'.toList.take (lc.ro + off + 0) ++ l' ++ c'.toList.drop (lc.ro + off + 0 + l'.length)).toArray = cn at hrun
          have hcnl : cn.toList = splice c'.toList (lc.ro + off) l' := by rw [← hnew]; simp [AX.splice]
          have hcsz : cn.size = c'.size := by
            have := splice_length (a := c'.toList) (b := l') (off := lc.ro + off) (by rw [← hl.1]; simp; omega)
            rw [← hcnl] at this
            simpa using this
          have hup := upd_ok (P := P) h0 (o := .cells (writeL c l off) k e x) (w' := w.setRow lc.rb cn) hk hb c2 (fun r hr => setRow_other w lc.rb r cn hr) (by simp) rfl rfl rfl (Nat.le_refl _) (by
            refine ⟨cn, setRow_heap w lc.rb c' cn e (0, 0) hc', hn, hre, by omega, ?_, hx1, hx2⟩
            intro i hi
            obtain ⟨v', g2, g3⟩ := hcells i hi
            by_cases hin : off ≤ i ∧ i < off + l.length
            · have h1 : i - off < l.length := by omega
              have h2 : i - off < l'.length := by rw [← hl.1]; exact h1
              refine cellR_of (v := l[i - off]) (v' := l'[i - off]) ?_ ?_ (hl.2 _ _ _ (List.getElem?_eq_getElem h1) (List.getElem?_eq_getElem h2))
              · rw [writeL_get, if_pos hin]; simp [h1]
              · rw [← Array.getElem?_toList, hcnl]
                unfold AX.splice
                rw [List.append_assoc, List.getElem?_append_right (by simp; omega)]
                have e1 : (List.take (lc.ro + off) c'.toList).length = lc.ro + off := by simp; omega
                rw [e1, List.getElem?_append_left (by omega)]
                rw [show lc.ro + i - (lc.ro + off) = i - off by omega]
                exact List.getElem?_eq_getElem h2
            · refine ⟨v', ?_, fun v hv => g3 v (by rw [writeL_get, if_neg hin] at hv; exact hv)⟩
              · rw [← Array.getElem?_toList, hcnl]
                unfold AX.splice
                rw [← Array.getElem?_toList] at g2
                have e1 : (List.take (lc.ro + off) c'.toList).length = lc.ro + off := by simp; omega
                by_cases hlt : i < off
                · rw [List.append_assoc, List.getElem?_append_left (by omega), List.getElem?_take, if_pos (by omega)]; exact g2
                · rw [List.getElem?_append_right (by simp; rw [← hl.1]; omega), List.getElem?_drop]
                  rw [← g2]
                  congr 1
                  simp
                  rw [← hl.1]
                  omega)
          exact ⟨_, hrun, hup.1, hup.2, rfl⟩
        · cases h
      · cases h

theorem store_ok (hcx : CxOk P cx) (h0 : R0 P φ m w) {t : TypeId} {a : Addr} {x y y' : Value} {m' : Mem} (h : storeT cx m t a y = some m') (ha : VR φ (.pointer (some a)) x) (hy : VR φ y y') :
    ∃ w', (Instr.storeAt t x y').run P w = .ok () w' ∧ R0 P φ m' w' ∧ Stp φ m w φ m' w' ∧ m'.nx = m.nx := by
  obtain ⟨a', rfl⟩ : ∃ a', x = .pointer (some a') := by cases ha; exact ⟨_, rfl⟩
  unfold storeT at h
  split at h
  · rename_i n hn
    obtain ⟨i, hi, rfl⟩ := sizeT_ok hcx hn
    split at h
    · rename_i hc
      have c2 : (cellsL y).length = i.size := Nat.eq_of_beq_eq_true hc
      obtain ⟨w', h1, h2⟩ := storeL_ok h0 h ha hy.cells
      refine ⟨w', ?_, h2⟩
      have hsz : y'.cells.size = i.size := by rw [← c2, hy.cells.1, ← cells_toList]; simp
      simp only [Instr.storeAt, Instr.sureAddr, storeVar, Sem.run_bind, Sem.run_pure, Result.andThen_ok, run_size hi]
      rw [if_neg (by simp [hsz])]
      rw [← cells_toList] at h1
      simpa using h1
    · cases h
  · cases h

/-! ## maps -/

theorem setO_ok (h0 : R0 P φ m w) {r : Nat} {l : Loc} {es es1 : List MapEntry} {clock clock1 : Nat} {es' es1' : Array MapEntry} {m' : Mem} (h : setO m r (.map es1 clock1) = some m') (hm : m.hp.get r = some (.map es clock)) (hr : φ r = some l)
    (hw : w.heap[l.rb]? = some (.map es' clock)) (he : ER φ es1 es1'.toList) :
    ∃ w', (setObj l.rb (.map es1' clock1)).run P w = .ok () w' ∧ R0 P φ m' w' ∧ Stp φ m w φ m' w' ∧ m'.nx = m.nx := by
  unfold setO at h
  split at h
  · rename_i hf
    simp only [Option.some.injEq] at h; subst h
    have hlt : l.rb < w.heap.size := (Array.getElem?_eq_some_iff.1 hw).1
    have hup := upd_ok (P := P) h0 (o := .map es1 clock1) (w' := { w with heap := w.heap.setIfInBounds l.rb (.map es1' clock1) }) hm hr (Nat.le_of_ble_eq_true hf)
      (fun r hr => by simp [Ne.symm hr]) (by simp) rfl rfl rfl (Nat.le_refl _) ⟨es1', by simp [hlt], he⟩
    refine ⟨_, ?_, hup.1, hup.2, rfl⟩
    simp [setObj, Sem.run, hw]
  · cases h

omit [Kap] in
theorem ER.get {es es' : List MapEntry} (h : ER φ es es') {i : Nat} {e : MapEntry} (hi : es[i]? = some e) : ∃ e', es'[i]? = some e' ∧ VR φ e.key e'.key ∧ VR φ e.val e'.val ∧ e.born = e'.born := by
  have hlt : i < es.length := (List.getElem?_eq_some_iff.1 hi).1
  have hlt' : i < es'.length := by rw [← h.1]; exact hlt
  exact ⟨es'[i], List.getElem?_eq_getElem hlt', h.2 i e _ hi (List.getElem?_eq_getElem hlt')⟩

omit [Kap] in
theorem ER.modify {es es' : List MapEntry} (h : ER φ es es') (i : Nat) {f f' : MapEntry → MapEntry}
    (hf : ∀ e e', VR φ e.key e'.key → VR φ e.val e'.val → e.born = e'.born → VR φ (f e).key (f' e').key ∧ VR φ (f e).val (f' e').val ∧ (f e).born = (f' e').born) : ER φ (es.modify i f) (es'.modify i f') := by
  refine ⟨by simp [h.1], fun j e e' h1 h2 => ?_⟩
  rw [List.getElem?_modify] at h1 h2
  cases ha : es[j]? with
  | none => simp [ha] at h1
  | some a =>
    cases hb : es'[j]? with
    | none => simp [hb] at h2
    | some b =>
      obtain ⟨k1, k2, k3⟩ := h.2 j a b ha hb
      simp only [ha, hb, Option.map_eq_map, Option.map_some, Option.some.injEq] at h1 h2
      by_cases hij : i = j
      · simp only [hij, if_true] at h1 h2
        subst h1; subst h2
        exact hf _ _ k1 k2 k3
      · simp only [hij, if_false] at h1 h2
        subst h1; subst h2
        exact ⟨k1, k2, k3⟩

omit [Kap] in
theorem ER.snoc {es es' : List MapEntry} (h : ER φ es es') {e e' : MapEntry} (he : VR φ e.key e'.key ∧ VR φ e.val e'.val ∧ e.born = e'.born) : ER φ (es ++ [e]) (es' ++ [e']) := by
  refine ⟨by simp [h.1], fun j a b h1 h2 => ?_⟩
  by_cases hj : j < es.length
  · rw [List.getElem?_append_left hj] at h1
    rw [List.getElem?_append_left (by rw [← h.1]; exact hj)] at h2
    exact h.2 j a b h1 h2
  · rw [List.getElem?_append_right (by omega)] at h1
    rw [List.getElem?_append_right (by rw [← h.1]; omega)] at h2
    rw [← h.1] at h2
    cases hd : j - es.length with
    | zero => rw [hd] at h1 h2; simp at h1 h2; subst h1; subst h2; exact he
    | succ n => rw [hd] at h1; simp at h1

omit [Kap] in
theorem ER.erase {es es' : List MapEntry} (h : ER φ es es') (i : Nat) : ER φ (es.eraseIdx i) (es'.eraseIdx i) := by
  refine ⟨by simp [List.length_eraseIdx, h.1], fun j a b h1 h2 => ?_⟩
  rw [List.getElem?_eraseIdx] at h1 h2
  split at h1
  · rw [if_pos ‹_›] at h2; exact h.2 _ a b h1 h2
  · rw [if_neg ‹_›] at h2; exact h.2 _ a b h1 h2

omit [Kap] in
theorem findNow_key {d : TypeDesc} {k : Value} : ∀ (es : List MapEntry) (i j : Nat) (v : Value), Instr.findNow d k es i = some (some (j, v)) → i ≤ j ∧ ∃ e, es[j - i]? = some e ∧ Instr.sameNow d k e.key = some true ∧ e.val = v
  | [], i, j, v, h => by simp [Instr.findNow] at h
  | e :: es, i, j, v, h => by
    unfold Instr.findNow at h
    split at h
    · rename_i hs
      simp only [Option.some.injEq, Prod.mk.injEq] at h
      obtain ⟨rfl, rfl⟩ := h
      exact ⟨Nat.le_refl _, e, by simp, hs, rfl⟩
    · obtain ⟨h1, e', h2, h3⟩ := findNow_key es (i + 1) j v h
      refine ⟨by omega, e', ?_, h3⟩
      rw [show j - i = (j - (i + 1)) + 1 by omega]; simpa using h2
    · cases h

omit [Kap] in
theorem sameNow_bits {d : TypeDesc} {a b : Value} (h : Instr.sameNow d a b = some true) : Instr.sameBits 10000 b a = true := by
  unfold Instr.sameNow at h
  split at h
  · split at h
    · rename_i hk
      subst hk
      have e := eq_of_beq (Option.some.inj h)
      subst e
      simp [Instr.sameBits]
    · cases h
  · have e := Option.some.inj h
    rw [beq_toListBytes] at e
    have e' := eq_of_beq e
    unfold Instr.sameBits
    rw [beq_toListBytes, e']
    simp
  · have e := eq_of_beq (Option.some.inj h)
    subst e
    simp [Instr.sameBits]
  · cases h

omit [Kap] in
theorem keyStays_ok {old new : Value} (h : Instr.sameBits 10000 old new = true) : (Instr.keyThatStays old new).run P w = .ok new w := by
  simp [Instr.keyThatStays, h]

theorem mapUpdate_ok (hcx : CxOk P cx) (h0 : R0 P φ m w) {t : TypeId} {x k v x' k' v' : Value} {m' : Mem} (h : mapUpdateA cx m t x k v = some m') (hx : VR φ x x') (hk : VR φ k k') (hv : VR φ v v') :
    ∃ w', (Instr.mapUpdate t x' k' v').run P w = .ok () w' ∧ R0 P φ m' w' ∧ Stp φ m w φ m' w' ∧ m'.nx = m.nx := by
  unfold mapUpdateA at h
  split at h
  · rename_i d et r hmk
    obtain ⟨kt, hu, hd, hkk⟩ := mapKey_ok hcx hmk
    have e := keyKind_same hkk hk
    subst e
    cases hx with
    | map _ l hr =>
      split at h
      · rename_i es clock hm
        obtain ⟨es', hw, he⟩ := map_of h0 hm hr
        have hg := run_getObj_map (P := P) (w := w) _ _ _ hw
        split at h
        · rename_i i u hf
          obtain ⟨r', g1, g2⟩ := findK_ok _ _ _ _ he hf
          cases r' with
          | none => exact g2.elim
          | some p =>
            obtain ⟨i', u'⟩ := p
            obtain ⟨rfl, hu'⟩ := g2
            obtain ⟨_, e', q1, q2, q3⟩ := findNow_key _ _ _ _ g1
            rw [Nat.sub_zero] at q1
            have hes : (es'[i]?).map (·.key) = some e'.key := by rw [← Array.getElem?_toList, q1]; rfl
            obtain ⟨w', s1, s2⟩ := setO_ok h0 (es1' := es'.modify i fun e => { e with key := k', val := v' }) h hm hr hw (by
              rw [Array.toList_modify]
              exact he.modify i (fun a b ha hb hc => ⟨hk, hv, hc⟩))
            refine ⟨w', ?_, s2⟩
            simp [Instr.mapUpdate, run_underlying hu, hg, checkKey_ok hd hkk, findKey_ok hd g1, hes, keyStays_ok (sameNow_bits q2), s1]
        · rename_i hf
          obtain ⟨r', g1, g2⟩ := findK_ok _ _ _ _ he hf
          cases r' with
          | some p => exact g2.elim
          | none =>
            obtain ⟨w', s1, s2⟩ := setO_ok h0 (es1' := es'.push { key := k', val := v', born := clock }) h hm hr hw (by
              rw [Array.toList_push]
              exact he.snoc ⟨hk, hv, rfl⟩)
            refine ⟨w', ?_, s2⟩
            simp [Instr.mapUpdate, run_underlying hu, hg, checkKey_ok hd hkk, findKey_ok hd g1, s1]
        · cases h
      · cases h
  · cases h

theorem mapEntry_ok (hcx : CxOk P cx) (h0 : R0 P φ m w) {t : TypeId} {x k x' k' v : Value} {m' : Mem} (h : mapEntryA cx m t x k = some (v, m')) (hx : VR φ x x') (hk : VR φ k k') :
    ∃ v' w', (Instr.mapEntry t x' k').run P w = .ok v' w' ∧ VR φ v v' ∧ R0 P φ m' w' ∧ Stp φ m w φ m' w' ∧ m'.nx = m.nx := by
  unfold mapEntryA at h
  split at h
  · rename_i d et r hmk
    obtain ⟨kt, hu, hd, hkk⟩ := mapKey_ok hcx hmk
    have e := keyKind_same hkk hk
    subst e
    cases hx with
    | map _ l hr =>
      split at h
      · rename_i es clock hm
        obtain ⟨es', hw, he⟩ := map_of h0 hm hr
        have hg := run_getObj_map (P := P) (w := w) _ _ _ hw
        split at h
        · rename_i i u hf
          obtain ⟨r', g1, g2⟩ := findK_ok _ _ _ _ he hf
          cases r' with
          | none => exact g2.elim
          | some p =>
            obtain ⟨i', u'⟩ := p
            obtain ⟨rfl, hu'⟩ := g2
            obtain ⟨_, e', q1, q2, q3⟩ := findNow_key _ _ _ _ g1
            rw [Nat.sub_zero] at q1
            have hbn : es'[i]? = some e' := by rw [← Array.getElem?_toList, q1]
            have hlt : i < es.length := by rw [he.1]; exact (List.getElem?_eq_some_iff.1 q1).1
            have hbe : es[i].born = e'.born := (he.2 i _ _ (List.getElem?_eq_getElem hlt) q1).2.2
            split at h
            · rename_i m1 hs
              simp only [Option.some.injEq, Prod.mk.injEq] at h
              obtain ⟨rfl, rfl⟩ := h
              obtain ⟨w', s1, s2⟩ := setO_ok h0 (es1' := es'.modify i fun e => { e with key := k' }) hs hm hr hw (by
                rw [Array.toList_modify]
                exact he.modify i (fun a b ha hb hc => ⟨hk, hb, hc⟩))
              refine ⟨.tuple #[u', .int .i64 e'.born], w', ?_, ?_, s2⟩
              · simp [Instr.mapEntry, run_underlying hu, hg, checkKey_ok hd hkk, findKey_ok hd g1, hbn, keyStays_ok (sameNow_bits q2), s1, goInt]
              · simp only [List.getElem?_eq_getElem hlt, hbe]
                exact .tuple _ _ rfl ((LR.nil φ).cons (.int _ _) |>.cons hu').2
            · cases h
        · rename_i hf
          obtain ⟨r', g1, g2⟩ := findK_ok _ _ _ _ he hf
          cases r' with
          | some p => exact g2.elim
          | none =>
            split at h
            · rename_i z hz
              obtain ⟨hzr, hp⟩ := zeroT_ok hcx hz w
              split at h
              · rename_i m1 hs
                simp only [Option.some.injEq, Prod.mk.injEq] at h
                obtain ⟨rfl, rfl⟩ := h
                obtain ⟨w', s1, s2⟩ := setO_ok h0 (es1' := es'.push { key := k', val := z, born := clock }) hs hm hr hw (by
                  rw [Array.toList_push]
                  exact he.snoc ⟨hk, VR.plain φ hp, rfl⟩)
                refine ⟨.tuple #[z, .int .i64 clock], w', ?_, ?_, s2⟩
                · simp [Instr.mapEntry, run_underlying hu, hg, checkKey_ok hd hkk, findKey_ok hd g1, hzr, s1, goInt]
                · exact .tuple _ _ rfl ((LR.nil φ).cons (.int _ _) |>.cons (VR.plain φ hp)).2
              · cases h
            · cases h
        · cases h
      · cases h
  · cases h

omit [Kap] in
theorem findIdx_same {born : Int} : ∀ (es es' : List MapEntry), ER φ es es' → es'.findIdx? (fun e => (e.born : Int) == born) = es.findIdx? (fun e => decide ((e.born : Int) = born))
  | [], es', h => by
    have : es' = [] := List.length_eq_zero_iff.1 h.1.symm
    subst this; rfl
  | e :: es, es', h => by
    obtain ⟨e', r', rfl, ⟨_, _, hb⟩, hr⟩ := h.uncons
    simp only [List.findIdx?_cons, findIdx_same es r' hr, hb]
    by_cases q : (e'.born : Int) = born <;> simp [q]

theorem entryStore_ok (h0 : R0 P φ m w) {t : TypeId} {x s v x' s' v' : Value} {m' : Mem} (h : entryStoreA m x s v = some m') (hx : VR φ x x') (hs : VR φ s s') (hv : VR φ v v') :
    ∃ w', (Instr.entryStore t x' s' v').run P w = .ok () w' ∧ R0 P φ m' w' ∧ Stp φ m w φ m' w' ∧ m'.nx = m.nx := by
  unfold entryStoreA at h
  split at h
  · rename_i r k born
    have := vr_int hs
    subst this
    cases hx with
    | map _ l hr =>
      split at h
      · rename_i es clock hm
        obtain ⟨es', hw, he⟩ := map_of h0 hm hr
        have hg := run_getObj_map (P := P) (w := w) _ _ _ hw
        split at h
        · rename_i i hi
          obtain ⟨w', s1, s2⟩ := setO_ok h0 (es1' := es'.modify i fun e => { e with val := v' }) h hm hr hw (by
            rw [Array.toList_modify]
            exact he.modify i (fun a b ha hb hc => ⟨ha, hv, hc⟩))
          have hi' : es'.findIdx? (fun e => (e.born : Int) == born) = some i := by
            rw [← hi, ← findIdx_same es es'.toList he]
            cases es'
            rw [List.findIdx?_toArray]
          refine ⟨w', ?_, s2⟩
          simp [Instr.entryStore, hg, asInt, asIntOf, hi', s1]
        · cases h
      · cases h
  · cases h

theorem delete_ok (hcx : CxOk P cx) (h0 : R0 P φ m w) {ts : Array TypeId} {ty t : TypeId} {x k : Value} {args' : Array Value} {m' : Mem} (ht : ts[0]? = some t) (h : deleteA cx m t x k = some m') (ha : LR φ [x, k] args'.toList) :
    ∃ w', (Builtin.delete_ ts ty args').run P w = .ok (.tuple #[]) w' ∧ R0 P φ m' w' ∧ Stp φ m w φ m' w' ∧ m'.nx = m.nx := by
  obtain ⟨x', r1, e1, hx, hr1⟩ := ha.uncons
  obtain ⟨k', r2, e2, hk, hr2⟩ := hr1.uncons
  have := hr2.nil_iff
  subst this; subst e2
  have ea : args' = #[x', k'] := Array.ext' (by simpa using e1)
  subst ea
  unfold deleteA at h
  split at h
  · rename_i p hmk
    obtain ⟨d, et⟩ := p
    obtain ⟨kt, hu, hd, hkk⟩ := mapKey_ok hcx hmk
    have e := keyKind_same hkk hk
    subst e
    cases hx
    simp only [Option.some.injEq] at h; subst h
    refine ⟨w, ?_, h0, Stp.refl _ _ _, rfl⟩
    simp [Builtin.delete_, ht, run_underlying hu, checkKey_ok hd hkk]
  · rename_i d et r hmk
    obtain ⟨kt, hu, hd, hkk⟩ := mapKey_ok hcx hmk
    have e := keyKind_same hkk hk
    subst e
    cases hx with
    | map _ l hr =>
      split at h
      · rename_i es clock hm
        obtain ⟨es', hw, he⟩ := map_of h0 hm hr
        have hg := run_getObj_map (P := P) (w := w) _ _ _ hw
        split at h
        · rename_i i u hf
          obtain ⟨r', g1, g2⟩ := findK_ok _ _ _ _ he hf
          cases r' with
          | none => exact g2.elim
          | some p =>
            obtain ⟨i', u'⟩ := p
            obtain ⟨rfl, hu'⟩ := g2
            obtain ⟨w', s1, s2⟩ := setO_ok h0 (es1' := es'.eraseIdxIfInBounds i) h hm hr hw (by
              rw [Array.toList_eraseIdxIfInBounds]
              exact he.erase i)
            refine ⟨w', ?_, s2⟩
            simp [Builtin.delete_, ht, run_underlying hu, hg, checkKey_ok hd hkk, findKey_ok hd g1, s1]
        · rename_i hf
          obtain ⟨r', g1, g2⟩ := findK_ok _ _ _ _ he hf
          cases r' with
          | some p => exact g2.elim
          | none =>
            simp only [Option.some.injEq] at h; subst h
            refine ⟨{ w with heap := w.heap.setIfInBounds l.rb (.map es' clock) }, ?_, ?_, ?_, rfl⟩
            · simp [Builtin.delete_, ht, run_underlying hu, hg, checkKey_ok hd hkk, findKey_ok hd g1, setObj, Sem.run, hw]
            · have hlt : l.rb < w.heap.size := (Array.getElem?_eq_some_iff.1 hw).1
              have hsame : w.heap.setIfInBounds l.rb (.map es' clock) = w.heap := by
                apply Array.ext_getElem?
                intro i
                rw [Array.getElem?_setIfInBounds]
                split
                · rename_i q; subst q; first | exact hw.symm | (rw [if_pos hlt]; exact hw.symm)
                · rfl
              rw [hsame]; exact h0
            · have hlt : l.rb < w.heap.size := (Array.getElem?_eq_some_iff.1 hw).1
              have hsame : w.heap.setIfInBounds l.rb (.map es' clock) = w.heap := by
                apply Array.ext_getElem?
                intro i
                rw [Array.getElem?_setIfInBounds]
                split
                · rename_i q; subst q; first | exact hw.symm | (rw [if_pos hlt]; exact hw.symm)
                · rfl
              rw [hsame]; exact Stp.refl _ _ _
        · cases h
      · cases h
  · cases h

end Go.AX
