/-
  OWN WORK. slices.Sorted(maps.Keys(m)) (m a map of ints, a field behind a pointer), BY THE SHELF's CONTRACT, as a summary.
-/
import Derived.Test.YtcnjgpidlhndhaaAxBelow
import Derived.Test.YtcnjgpidlhndhaaAxHeap
import Derived.Test.YtcnjgpidlhndhaaAxKeep
import Derived.Test.YtcnjgpidlhndhaaAxArg
import Derived.Maps.Own
import Derived.Lib.SlKeysI
namespace Go.AX

variable [Kap]
open Go Go.RowKit Go.Maps Go.ChangeMaps Go.MapKept

def keysI : List MapEntry → Option (List Int)
  | [] => some []
  | e :: r => match e.key, keysI r with
    | .int .i64 x, some l => some (x :: l)
    | _, _ => none

def insI (x : Int) : List Int → List Int
  | [] => [x]
  | y :: r => match decide (x ≤ y) with
    | true => x :: y :: r
    | false => y :: insI x r
def sortI : List Int → List Int
  | [] => []
  | x :: r => insI x (sortI r)

def stampB (es : List MapEntry) (ks : List Int) (clock : Nat) : Bool :=
  es.all (fun e => Nat.blt e.born clock) && (decide (es.map (·.born)).Nodup && (decide ks.Nodup && (ks.all (fun x => decide (-9223372036854775808 ≤ x ∧ x ≤ 9223372036854775807)) && Nat.ble es.length 1000000)))

noncomputable def sortedA (e : TypeId) (ks : List Int) (m : Mem) : Value × Mem := match ks with
  | [] => (.slice none 0 0, m)
  | _ :: _ => (.slice (some ⟨m.nx, 0, none⟩) ks.length ks.length, { hp := m.hp.put m.nx (.cells (writeL .nil ((sortI ks).map (.int .i64 ·)) 0) ks.length e true), nx := m.nx + 1, fl := m.fl })

noncomputable def keysA (e : TypeId) : List Value → Mem → Option (Value × Mem)
  | [.pointer (some ⟨b, off, none⟩)], m => match m.hp.get b with
    | some (.cells c n _ _) => match Nat.blt off n, c.get off with
      | true, some (.map none) => some (.slice none 0 0, m)
      | true, some (.map (some r)) => match m.hp.get r with
        | some (.map es clock) => match keysI es with
          | some ks => match stampB es ks clock with
            | true => some (sortedA e ks m)
            | false => none
          | none => none
        | _ => none
      | _, _ => none
    | _ => none
  | _, _ => none

section
omit [Kap]
theorem keysI_map : ∀ {es : List MapEntry} {ks : List Int}, keysI es = some ks → es.map (·.key) = ks.map (.int .i64 ·)
  | [], ks, h => by simp [keysI] at h; subst h; rfl
  | e :: r, ks, h => by
    unfold keysI at h
    split at h
    · rename_i x l hk hl
      cases h
      simp [hk, keysI_map hl]
    · cases h

theorem insI_perm (x : Int) : ∀ l : List Int, (insI x l).Perm (x :: l)
  | [] => List.Perm.refl _
  | y :: r => by
    unfold insI
    split
    · exact List.Perm.refl _
    · exact ((insI_perm x r).cons y).trans (List.Perm.swap x y r)
theorem sortI_perm : ∀ l : List Int, (sortI l).Perm l
  | [] => List.Perm.refl _
  | x :: r => (insI_perm x _).trans ((sortI_perm r).cons x)
theorem sortI_len (l : List Int) : (sortI l).length = l.length := (sortI_perm l).length_eq
theorem insI_sorted (x : Int) : ∀ {l : List Int}, l.Pairwise (· ≤ ·) → (insI x l).Pairwise (· ≤ ·)
  | [], _ => List.pairwise_singleton _ _
  | y :: r, h => by
    obtain ⟨h1, h2⟩ := List.pairwise_cons.1 h
    unfold insI
    split
    · rename_i hc
      have hc := of_decide_eq_true hc
      refine List.pairwise_cons.2 ⟨fun z hz => ?_, h⟩
      rcases List.mem_cons.1 hz with rfl | hz
      · exact hc
      · exact Int.le_trans hc (h1 z hz)
    · rename_i hc
      have hc := of_decide_eq_false hc
      refine List.pairwise_cons.2 ⟨fun z hz => ?_, insI_sorted x h2⟩
      have := (insI_perm x r).mem_iff.1 hz
      rcases List.mem_cons.1 this with rfl | hz
      · omega
      · exact h1 z hz
theorem sortI_sorted : ∀ l : List Int, (sortI l).Pairwise (· ≤ ·)
  | [] => List.Pairwise.nil
  | x :: r => insI_sorted x (sortI_sorted r)

theorem sortI_merge {ss ks : List Int} (h : ss.Perm ks) : ss.mergeSort (fun x y => decide (x ≤ y)) = sortI ks := by
  have tr : ∀ a b c : Int, (fun x y => decide (x ≤ y)) a b = true → (fun x y => decide (x ≤ y)) b c = true → (fun x y => decide (x ≤ y)) a c = true := fun a b c h1 h2 => by simp only [decide_eq_true_eq] at *; exact Int.le_trans h1 h2
  have to : ∀ a b : Int, ((fun x y => decide (x ≤ y)) a b || (fun x y => decide (x ≤ y)) b a) = true := fun a b => by simp only [Bool.or_eq_true, decide_eq_true_eq]; exact Int.le_total a b
  have h1 : (ss.mergeSort (fun x y => decide (x ≤ y))).Pairwise (fun a b => a ≤ b) := (List.pairwise_mergeSort (le := fun x y => decide (x ≤ y)) tr to ss).imp fun h => of_decide_eq_true h
  exact List.Perm.eq_of_pairwise (le := fun a b : Int => a ≤ b) (fun a b _ _ h1 h2 => Int.le_antisymm h1 h2) h1 (sortI_sorted ks) (((List.mergeSort_perm ss _).trans h).trans (sortI_perm ks).symm)
end

section
variable {P : Program} {φ : Phi} {m : Mem} {w w' : World}

/-- a row that a call has made, behind other new blocks -/
theorem adopt (hr : RR P φ m w) (hb : Below w.heap.size w w') (hkk : ¬ Kap.k) {g : Nat} {l : List Value} {c' : Array Value} {e : TypeId} (hg : w.heap.size ≤ g) (hh : w'.heap[g]? = some (.cells c' e (0, 0))) (hle : l.length ≤ c'.size)
    (ht : c'.toList.take l.length = l) (hpl : l.all plain1 = true) (hs : ∀ i, P.info? e = some i → i.size = 1) :
    RR P (Phi.put φ m.nx ⟨g, 0, l.length, c'.size, 1⟩) { hp := m.hp.put m.nx (.cells (writeL .nil l 0) l.length e true), nx := m.nx + 1, fl := m.fl } w' ∧
      Stp φ m w (Phi.put φ m.nx ⟨g, 0, l.length, c'.size, 1⟩) { hp := m.hp.put m.nx (.cells (writeL .nil l 0) l.length e true), nx := m.nx + 1, fl := m.fl } w' := by
  have hid := hr.fresh_id
  have h0 := hr.r0
  have hfl := hr.fl
  have hext := Phi.put_ext (l := ⟨g, 0, l.length, c'.size, 1⟩) hid
  refine ⟨⟨⟨?_, ?_, ?_⟩, fresh_put hr.fresh, Nat.le_succ_of_le hr.fl⟩, ⟨hext, ?_, ?_, hb.size, hb.os, hb.tape, hb.output, Nat.le_succ _, rfl, ?_, ?_, ?_, fun h => absurd h hkk⟩⟩
  · intro b o' hb'
    rw [Tr.get_put] at hb'
    by_cases e' : b = m.nx
    · subst e'
      rw [if_pos rfl] at hb'; cases hb'
      refine ⟨_, Phi.put_self, c', hh, rfl, hle, by simp, fun i hi => ?_, (fun h => by cases h), fun _ => ⟨by simp, hs⟩⟩
      have hi' : i < c'.size := by omega
      have e1 : (c'.toList.take l.length)[i]? = l[i]? := by rw [ht]
      rw [List.getElem?_take_of_lt hi, List.getElem?_eq_getElem hi, List.getElem?_eq_getElem (by simpa using hi')] at e1
      have e2 : c'[i] = l[i] := by simpa using e1
      refine ⟨l[i], l[i], ?_, ?_, ?_⟩
      · rw [writeL_get, if_pos (by simpa using hi)]; simp [hi]
      · simp [hi', e2]
      · exact VR.plain1 _ (List.all_eq_true.1 hpl _ (List.getElem_mem hi))
    · rw [if_neg e'] at hb'
      obtain ⟨l', hl', ho'⟩ := h0.obj _ _ hb'
      exact ⟨l', hext _ _ hl', ho'.mono hext (hb.block _ ho'.lt)⟩
  · intro b1 b2 o1 o2 l1 l2 h1 h2 p1 p2 hr'
    rw [Tr.get_put] at h1 h2
    have key : ∀ b o' l', b ≠ m.nx → m.hp.get b = some o' → Phi.put φ m.nx ⟨g, 0, l.length, c'.size, 1⟩ b = some l' → φ b = some l' ∧ l'.rb < w.heap.size := by
      intro b o' l' hb hg hp
      have hp' : φ b = some l' := by simpa [Phi.put, hb] using hp
      obtain ⟨l'', hl'', ho''⟩ := h0.obj _ _ hg
      rw [hp'] at hl''; cases hl''
      exact ⟨hp', ho''.lt⟩
    by_cases e1 : b1 = m.nx
    · by_cases e2 : b2 = m.nx
      · rw [e1, e2]
      · rw [if_neg e2] at h2
        obtain ⟨_, hlt⟩ := key b2 _ _ e2 h2 p2
        subst e1
        rw [Phi.put_self] at p1; cases p1
        simp only at hr'; omega
    · rw [if_neg e1] at h1
      obtain ⟨q1, hlt1⟩ := key b1 _ _ e1 h1 p1
      by_cases e2 : b2 = m.nx
      · subst e2
        rw [Phi.put_self] at p2; cases p2
        simp only at hr'; omega
      · rw [if_neg e2] at h2
        obtain ⟨q2, hlt2⟩ := key b2 _ _ e2 h2 p2
        exact h0.inj _ _ _ _ _ _ h1 h2 q1 q2 hr'
  · intro g' hg'
    obtain ⟨l', h1, h2⟩ := h0.glob g' hg'
    exact ⟨l', hext _ _ h1, h2⟩
  · rintro r ⟨b, o', l', hfb, hb', hp, hr'⟩
    dsimp only at hb' hfb
    rw [Tr.get_put] at hb'
    by_cases e' : b = m.nx
    · subst e'
      rw [Phi.put_self] at hp; cases hp
      left; simp only at hr'; omega
    · rw [if_neg e'] at hb'
      have hp' : φ b = some l' := by simpa [Phi.put, e'] using hp
      exact .inr ⟨b, o', l', hfb, hb', hp', hr'⟩
  · intro r hr' _; exact hb.block r hr'
  · intro b hb'
    rw [Tr.get_put, if_neg (by omega)]
  · intro b hb' hnn
    rw [Tr.get_put, if_neg (by omega)]; exact hnn
  · intro b hb'
    simp only [Phi.put]
    rw [if_neg (by omega)]

omit [Kap] in
theorem plain_ints (l : List Int) : (l.map (Value.int .i64 ·)).all plain1 = true := by
  induction l with
  | nil => rfl
  | cons a r ih => simp [plain1, ih]

omit [Kap] in
theorem ER.keys {es es' : List MapEntry} (h : ER φ es es') {ks : List Int} (hk : es.map (·.key) = ks.map (.int .i64 ·)) : es'.map (·.key) = ks.map (.int .i64 ·) := by
  apply List.ext_getElem?
  intro i
  have h1 : (es.map (·.key))[i]? = (ks.map (Value.int .i64 ·))[i]? := by rw [hk]
  rw [← h1, List.getElem?_map, List.getElem?_map]
  by_cases hi : i < es.length
  · have hi' : i < es'.length := by rw [← h.1]; exact hi
    have e1 := List.getElem?_eq_getElem hi
    have e2 := List.getElem?_eq_getElem hi'
    rw [e1, e2]
    have hv := (h.2 i _ _ e1 e2).1
    rw [List.getElem?_map, List.getElem?_map, e1] at h1
    cases hks : ks[i]? with
    | none => rw [hks] at h1; cases h1
    | some x =>
      rw [hks] at h1
      have h1 : es[i].key = Value.int .i64 x := Option.some.inj h1
      rw [h1] at hv
      simp only [Option.map_some]
      rw [vr_int hv, h1]
  · rw [List.getElem?_eq_none (by have := h.1; omega), List.getElem?_eq_none (by omega)]

omit [Kap] in
theorem ER.borns {es es' : List MapEntry} (h : ER φ es es') : es'.map (·.born) = es.map (·.born) := by
  apply List.ext_getElem?
  intro i
  rw [List.getElem?_map, List.getElem?_map]
  by_cases hi : i < es.length
  · have hi' : i < es'.length := by rw [← h.1]; exact hi
    have e1 := List.getElem?_eq_getElem hi
    have e2 := List.getElem?_eq_getElem hi'
    rw [e1, e2]
    simp only [Option.map_some]
    rw [(h.2 i _ _ e1 e2).2.2]
  · rw [List.getElem?_eq_none (by have := h.1; omega), List.getElem?_eq_none (by omega)]

def rAny : Value → Option (DataW Unit × List MemPlace) := fun _ => some (.nil, [])

theorem keysA_ok {k : FuncId} {fn : Func} {kt et : TypeId} (hkk : ¬ Kap.k) (hf : P.funcs[k]? = some fn) (hb : fn.body.isSome = true) (hn : (fn.name == "runtime.NumGoroutine") = false) (hkt : P.underlying kt = some (.int .i64)) (hs : ∀ i, P.info? et = some i → i.size = 1)
    (h1 : ∀ (a : Addr) (b nn : Nat) (D0 : DataW Unit) (w : World), w.cell? a = some (.map (some b)) → w.ownsMap P kt rAny b nn D0 → Maps.size D0 ≤ maxLen → Maps.size D0 * 8 ≤ 140737488355328 →
      Calls P k #[.pointer (some a)] w fun e w' => ∃ (v : Value) (ss : List Int), e = .returned v ∧ ss.Perm (intKeys D0) ∧ w'.ownsRow w.heap.size et 1 v ss.length ((ss.mergeSort (fun x y => decide (x ≤ y))).map encZ) ∧ (v = .slice none 0 0 ↔ ss = []) ∧ Below w.heap.size w w')
    (h2 : ∀ (a : Addr) (w : World), w.cell? a = some (.map none) → Calls P k #[.pointer (some a)] w fun e w' => e = .returned (.slice none 0 0) ∧ Below w.heap.size w w') : SumOk P k (keysA et) := by
  intro args m v m' h φ w args' hl hr
  obtain ⟨bd, hb⟩ := Option.isSome_iff_exists.1 hb
  refine .inl ⟨run_callFunc hf hb hn _ _, ?_⟩
  unfold keysA at h
  split at h
  · rename_i b off
    obtain ⟨x1, r1, e1, g1, hl⟩ := hl.one
    rw [hl.none] at e1
    obtain ⟨l'⟩ := args'
    simp only at e1; subst e1
    cases g1 with
    | ptr _ _ lc hlc =>
    split at h
    · rename_i c n e0 x0 hg
      obtain ⟨lc', hlc', ho⟩ := hr.r0.obj _ _ hg
      rw [hlc] at hlc'; cases hlc'
      obtain ⟨c', q1, q2, q3, q4, q5, _, _⟩ := ho
      have cell : ∀ {x : Value}, Nat.blt off n = true → c.get off = some x → ∃ x', w.cell? ⟨lc.rb, lc.ro + off, none⟩ = some x' ∧ VR φ x x' := by
        intro x hlt hx
        have hlt : off < n := Nat.le_of_ble_eq_true hlt
        obtain ⟨v, v', a1, a2, a3⟩ := q5 off hlt
        rw [hx] at a1; cases a1
        exact ⟨v', by unfold World.cell?; rw [q1]; simpa using a2, a3⟩
      split at h
      · rename_i hlt hx
        cases h
        obtain ⟨x', hc, hv⟩ := cell hlt hx
        cases hv
        refine (h2 _ w hc).mono ?_
        rintro e w' ⟨rfl, hbl⟩
        exact ⟨_, φ, rfl, .sl0 0 0, hr.below hbl, Stp.ofBelow hkk hbl⟩
      · rename_i r hlt hx
        split at h
        · rename_i es clock hgr
          split at h
          · rename_i ks hks
            split at h
            · rename_i hst
              obtain ⟨x', hc, hv⟩ := cell hlt hx
              cases hv with
              | map _ lr hlr =>
              obtain ⟨lr', hlr', ho⟩ := hr.r0.obj _ _ hgr
              rw [hlr] at hlr'; cases hlr'
              obtain ⟨es', p1, p2⟩ := ho
              have hst' := hst
              unfold stampB at hst'
              simp only [Bool.and_eq_true, List.all_eq_true, decide_eq_true_eq] at hst'
              obtain ⟨s1, s2, s3, s4, s5⟩ := hst'
              have s5 : es.length ≤ 1000000 := Nat.le_of_ble_eq_true s5
              have km := keysI_map hks
              have km' := p2.keys km
              have bm' := p2.borns
              have hlen : es'.size = es.length := by have := p2.1; simpa using this.symm
              have hkl : ks.length = es.length := by have := congrArg List.length km; simpa using this.symm
              have hStamp : Stamped es' clock := by
                refine ⟨fun x hx => ?_, by rw [bm']; exact s2, ?_⟩
                · have : x.born ∈ es'.toList.map (·.born) := List.mem_map_of_mem hx
                  rw [bm'] at this
                  obtain ⟨y, hy, e⟩ := List.mem_map.1 this
                  have := Nat.le_of_ble_eq_true (s1 y hy)
                  omega
                · rw [km']
                  exact List.pairwise_map.2 (s3.imp fun hne e => hne (by injection e))
              have hkey : ∀ x ∈ es'.toList, ∃ z : Int, x.key = .int .i64 z ∧ z ∈ ks ∧ (Lit.int .i64 z).wf = true := by
                intro x hx
                have : x.key ∈ es'.toList.map (·.key) := List.mem_map_of_mem hx
                rw [km'] at this
                obtain ⟨z, hz, e⟩ := List.mem_map.1 this
                exact ⟨z, e.symm, hz, by
                  have h := s4 z hz
                  show (decide ((-9223372036854775808 : Int) ≤ z) && decide (z ≤ (9223372036854775807 : Int))) = true
                  simp [h.1, h.2]⟩
              have hFit : Go.WideElems.Fit P kt rAny es' clock := ⟨by rw [hlen]; unfold maxLen; omega, hStamp, fun x hx => by
                obtain ⟨z, hz, _, hw⟩ := hkey x hx
                refine ⟨(.int .i64 z, .nil), ?_⟩
                unfold Go.WideElems.rd
                rw [hz, Maps.keyOf_int_mk hkt hw]
                rfl⟩
              have hown : w.ownsMap P kt rAny lr.rb es'.size (.map ((es'.toList.map (Go.WideElems.rg P kt rAny)).foldr DataW.insert [])) := ⟨es', clock, p1, hFit, Nat.le_refl _, rfl⟩
              have hsz : Maps.size (.map ((es'.toList.map (Go.WideElems.rg P kt rAny)).foldr DataW.insert []) : DataW Unit) = es.length := by
                show List.length _ = _
                rw [DataW.length_sorted, List.length_map, ← hlen]; simp
              have hperm : (intKeys (.map ((es'.toList.map (Go.WideElems.rg P kt rAny)).foldr DataW.insert []) : DataW Unit)).Perm ks := by
                show (List.map (fun p : Lit × DataW Unit => intOf p.1) _).Perm ks
                refine ((Go.WideShapes.sorted_perm _).map _).trans ?_
                rw [List.map_map]
                have : es'.toList.map ((fun p : Lit × DataW Unit => intOf p.1) ∘ Go.WideElems.rg P kt rAny) = ks := by
                  apply List.ext_getElem?
                  intro i
                  have h3 : (es'.toList.map (·.key))[i]? = (ks.map (Value.int .i64 ·))[i]? := by rw [km']
                  rw [List.getElem?_map, List.getElem?_map] at h3
                  rw [List.getElem?_map]
                  cases he : es'.toList[i]? with
                  | none =>
                    rw [he] at h3
                    cases hk : ks[i]? with
                    | none => rfl
                    | some z => rw [hk] at h3; cases h3
                  | some x =>
                    rw [he] at h3
                    cases hk : ks[i]? with
                    | none => rw [hk] at h3; cases h3
                    | some z =>
                      rw [hk] at h3
                      have h3 : x.key = Value.int .i64 z := Option.some.inj h3
                      obtain ⟨z', e1, _, hw⟩ := hkey x (List.mem_of_getElem? he)
                      rw [h3] at e1
                      have ez : z = z' := by injection e1
                      subst ez
                      simp only [Option.map_some, Function.comp_apply]
                      have : Go.WideElems.rg P kt rAny x = (.int .i64 z, .nil) := Go.WideElems.rg_of (by
                        unfold Go.WideElems.rd
                        rw [h3, Maps.keyOf_int_mk hkt hw]
                        rfl)
                      rw [this]; rfl
                rw [this]
              have h := Option.some.inj h
              refine (h1 _ _ _ _ w hc hown (by rw [hsz]; unfold maxLen; omega) (by rw [hsz]; omega)).mono ?_
              rintro e w' ⟨v, ss, rfl, hp, hrow, hnil, hbl⟩
              have hp' := hp.trans hperm
              rw [sortI_merge hp'] at hrow
              have hsl : ss.length = ks.length := hp'.length_eq
              cases ks with
              | nil =>
                have : ss = [] := List.perm_nil.1 hp'
                obtain rfl := hnil.2 this
                cases h
                exact ⟨_, φ, rfl, .sl0 0 0, hr.below hbl, Stp.ofBelow hkk hbl⟩
              | cons k0 kr =>
                cases h
                obtain ⟨w1, w2⟩ := hrow
                rcases w2 with ⟨_, w3⟩ | ⟨g, cap, cur, rfl, w3, w4, w5, w6, w7, w8⟩
                · rw [hsl] at w3; simp at w3
                · have hll : ((sortI (k0 :: kr)).map (Value.int .i64 ·)).length = ss.length := by rw [List.length_map, sortI_len, hsl]
                  obtain ⟨a1, a2⟩ := adopt hr hbl hkk (l := (sortI (k0 :: kr)).map (.int .i64 ·)) w3 w4 (by rw [hll, w7]; omega) (by rw [hll]; simpa using w8) (plain_ints _) hs
                  rw [hll, hsl] at a1 a2
                  refine ⟨_, _, rfl, ?_, a1, a2⟩
                  rw [hsl]
                  refine vr_new_slice ?_
                  refine .inr ⟨by simp, by simp, by rw [← hsl]; exact w5, by simp [w7]⟩
            · cases h
          · cases h
        · cases h
      · cases h
    · cases h
  · cases h
end

/-! ## the summary at a map that is told -/

omit [Kap] in
theorem nodup_le : ∀ {ks L : List Int}, ks.Nodup → (∀ x ∈ ks, x ∈ L) → ks.length ≤ L.length
  | [], L, _, _ => Nat.zero_le _
  | x :: r, L, h, hs => by
    obtain ⟨h1, h2⟩ := List.nodup_cons.1 h
    have hx := hs x (List.mem_cons_self ..)
    have ih := nodup_le (L := L.erase x) h2 fun y hy => (List.mem_erase_of_ne (fun e : y = x => h1 (by rw [← e]; exact hy))).2 (hs y (List.mem_cons_of_mem _ hy))
    rw [List.length_erase_of_mem hx] at ih
    have : 0 < L.length := List.length_pos_of_mem hx
    rw [List.length_cons]; omega

omit [Kap] in
theorem keysI_of : ∀ {es : List MapEntry}, (∀ e ∈ es, ∃ n, e.key = .int .i64 n) → ∃ ks, keysI es = some ks
  | [], _ => ⟨[], rfl⟩
  | e :: r, h => by
    obtain ⟨x, hx⟩ := h e (List.mem_cons_self ..)
    obtain ⟨l, hl⟩ := keysI_of (es := r) fun e he => h e (List.mem_cons_of_mem _ he)
    exact ⟨x :: l, by unfold keysI; rw [hx, hl]⟩

omit [Kap] in
theorem keysA_at {m : Mem} {bs r : Nat} {e et : TypeId} {x : Bool} {f : Int → Option Value} {L : List Int} (hrow : Row m bs [.map (some r)] e x) (hM : IMap m r .i64 f)
    (hr : ∀ w, f w ≠ none → -9223372036854775808 ≤ w ∧ w ≤ 9223372036854775807) (hL : ∀ w, f w ≠ none → w ∈ L) (hl : L.length ≤ 1000000) :
    ∃ ks, keysA et [.pointer (some ⟨bs, 0, none⟩)] m = some (sortedA et ks m) ∧ ks.Nodup ∧ ∀ w, w ∈ ks ↔ f w ≠ none := by
  obtain ⟨es, cl, h1, ⟨h2, h3⟩, s1, s2, s3⟩ := hM
  obtain ⟨ks, hks⟩ := keysI_of h2
  have km := keysI_map hks
  have hnd : ks.Nodup := by
    rw [km] at s3
    exact (List.pairwise_map.1 s3).imp fun h e => h (by rw [e])
  have hm : ∀ w, w ∈ ks ↔ f w ≠ none := fun w => by
    have hw : w ∈ ks ↔ ∃ e ∈ es, e.key = .int .i64 w := by
      constructor
      · intro h
        have : Value.int .i64 w ∈ ks.map (.int .i64 ·) := List.mem_map_of_mem h
        rw [← km] at this
        obtain ⟨e, he, e2⟩ := List.mem_map.1 this
        exact ⟨e, he, e2⟩
      · rintro ⟨e, he, e2⟩
        have : e.key ∈ es.map (·.key) := List.mem_map_of_mem he
        rw [km] at this
        obtain ⟨z, hz, e3⟩ := List.mem_map.1 this
        rw [e2] at e3
        injection e3 with _ e3
        exact e3 ▸ hz
    rw [hw]
    obtain ⟨q, hq, he⟩ := h3 w
    cases q with
    | none =>
      have h0 := findK_none h2 hq
      rw [← he]
      exact ⟨fun ⟨e, h4, h5⟩ => absurd h5 (h0 e h4), fun h => absurd rfl h⟩
    | some p =>
      rw [← he]
      exact ⟨fun _ h => (nomatch h), fun _ => findK_some h2 hq⟩
  have hlen : es.length ≤ 1000000 := by
    have e1 : es.length = ks.length := by have := congrArg List.length km; simpa using this
    have := nodup_le hnd fun y hy => hL y ((hm y).1 hy)
    omega
  obtain ⟨c, g1, g2⟩ := hrow
  have g3 := g2 0 (by simp)
  refine ⟨ks, ?_, hnd, hm⟩
  have hst : stampB es ks cl = true := by
    unfold stampB
    simp only [Bool.and_eq_true, List.all_eq_true, decide_eq_true_eq]
    exact ⟨fun e he => Nat.ble_eq_true_of_le (s1 e he), s2, hnd, fun y hy => hr y ((hm y).1 hy), Nat.ble_eq_true_of_le hlen⟩
  unfold keysA
  simp only [g1]
  rw [show c.get 0 = some (Value.map (some r)) from g3]
  simp only [show Nat.blt 0 [Value.map (some r)].length = true from rfl, h1, hks, hst]

omit [Kap] in
theorem sortedA_at {m : Mem} {et : TypeId} {ks : List Int} (hw : Wf m) {G : Value × Mem → Prop} (hn : ks.Nodup)
    (h : ∀ m' a n c (l : List Int), Keep m m' → SlIs m' a n (l.map (.int .i64 ·)) → l.Pairwise (· < ·) → (∀ w : Int, w ∈ l ↔ w ∈ ks) → G (.slice a n c, m')) : G (sortedA et ks m) := by
  have hs : (sortI ks).Pairwise (· < ·) := by
    have h1 := sortI_sorted ks
    have h2 : (sortI ks).Nodup := (sortI_perm ks).nodup_iff.2 hn
    exact (h1.and h2).imp fun ⟨a, b⟩ => by omega
  cases hk : ks with
  | nil =>
    subst hk
    exact h m none 0 0 [] (Keep.refl hw) ⟨rfl, fun i v hv => by cases hv⟩ List.Pairwise.nil (fun w => Iff.rfl)
  | cons k0 kr =>
    have e1 : sortedA et (k0 :: kr) m = (.slice (some ⟨m.nx, 0, none⟩) ks.length ks.length, newO m (AX.row ((sortI ks).map (.int .i64 ·)) et true)) := by
      rw [← hk]
      have : ((sortI ks).map (Value.int .i64 ·)).length = ks.length := by rw [List.length_map, sortI_len]
      unfold newO row
      rw [this, hk]
      rfl
    rw [e1]
    have r : Row (newO m (AX.row ((sortI ks).map (.int .i64 ·)) et true)) m.nx ((sortI ks).map (.int .i64 ·)) et true := Row.newO
    refine h _ _ _ _ (sortI ks) (Keep.refl hw).newO ⟨by rw [List.length_map, sortI_len], fun i v hv => ⟨m.nx, 0, rfl, by rw [r.rd, Nat.zero_add]; exact hv⟩⟩ hs fun w => (sortI_perm ks).mem_iff
end Go.AX
