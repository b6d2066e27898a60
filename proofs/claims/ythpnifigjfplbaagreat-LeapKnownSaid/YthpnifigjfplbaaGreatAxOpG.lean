/-
  OPERATIONS THAT MAKE OR WRITE MEMORY.
-/
import Derived.Test.YthpnifigjfplbaaGreatAxOpF
namespace Go.AX

variable [Kap]

variable {P : Program} {cx : Cx} {φ : Phi} {m : Mem} {w : World}

/-- the executor's memory stands for the machine's -/
structure RR (P : Program) (φ : Phi) (m : Mem) (w : World) : Prop where
  r0 : R0 P φ m w
  fresh : Fresh φ m.nx
  fl : m.fl ≤ m.nx

omit [Kap] in
theorem OR.mono {φ' : Phi} {w' : World} {l : Loc} {o : AObj} (he : Ext φ φ') (hw : w'.heap[l.rb]? = w.heap[l.rb]?) (h : OR P φ w l o) : OR P φ' w' l o := by
  cases o with
  | cells c n e x =>
    obtain ⟨c', h1, h2, h3, h4, h5, h6, h7⟩ := h
    exact ⟨c', hw.trans h1, h2, h3, h4, fun i hi => let ⟨v', b, c⟩ := h5 i hi; ⟨v', b, fun v hv => (c v hv).mono he⟩, h6, h7⟩
  | map es clock =>
    obtain ⟨es', h1, h2, h3⟩ := h
    exact ⟨es', hw.trans h1, h2, fun i e e' a b => let ⟨x, y, z⟩ := h3 i e e' a b; ⟨x.mono he, y.mono he, z⟩⟩
  | iter s p => exact hw.trans h
  | ro c n =>
    obtain ⟨c', e, fr, h1, h2, h3, h4, h5⟩ := h
    exact ⟨c', e, fr, hw.trans h1, h2, h3, h4, fun i v hi hv => let ⟨v', a, b⟩ := h5 i v hi hv; ⟨v', a, b.mono he⟩⟩

omit [Kap] in
theorem OR.lt {l : Loc} {o : AObj} (h : OR P φ w l o) : l.rb < w.heap.size := by
  cases o with
  | cells c n e x => obtain ⟨c', h1, _⟩ := h; exact (Array.getElem?_eq_some_iff.1 h1).1
  | map es clock => obtain ⟨c', h1, _⟩ := h; exact (Array.getElem?_eq_some_iff.1 h1).1
  | iter s p => exact (Array.getElem?_eq_some_iff.1 h).1
  | ro c n => obtain ⟨c', e, fr, h1, _⟩ := h; exact (Array.getElem?_eq_some_iff.1 h1).1

def Phi.put (φ : Phi) (id : Nat) (l : Loc) : Phi := fun b => if b = id then some l else φ b

omit [Kap] in
theorem Phi.put_ext {id : Nat} {l : Loc} (h : φ id = none) : Ext φ (Phi.put φ id l) := by
  intro b x hb
  have : b ≠ id := by rintro rfl; rw [h] at hb; cases hb
  simp [Phi.put, this, hb]

omit [Kap] in
theorem Phi.put_self {id : Nat} {l : Loc} : Phi.put φ id l id = some l := by simp [Phi.put]

omit [Kap] in
/-- a block is added: what it stands for -/
theorem add_r0 (h0 : R0 P φ m w) {id : Nat} {l : Loc} {o : AObj} {ob : Obj} {n f : Nat} (hid : φ id = none) (hl : l.rb = w.heap.size) (ho : OR P (Phi.put φ id l) (w.alloc ob) l o)
 :
    R0 P (Phi.put φ id l) { hp := m.hp.put id o, nx := n, fl := f } (w.alloc ob) := by
  have hext := Phi.put_ext (l := l) hid
  have hold : ∀ r, r < w.heap.size → (w.alloc ob).heap[r]? = w.heap[r]? := by
    intro r hr
    show (w.heap.push ob)[r]? = _
    rw [Array.getElem?_push, if_neg (by omega)]
  refine ⟨?_, ?_, ?_⟩
  · intro b o' hb
    rw [Tr.get_put] at hb
    by_cases e : b = id
    · subst e
      rw [if_pos rfl] at hb; cases hb
      exact ⟨l, Phi.put_self, ho⟩
    · rw [if_neg e] at hb
      obtain ⟨l', hl', ho'⟩ := h0.obj _ _ hb
      exact ⟨l', hext _ _ hl', ho'.mono hext (hold _ ho'.lt)⟩
  · intro b1 b2 o1 o2 l1 l2 h1 h2 p1 p2 hr
    rw [Tr.get_put] at h1 h2
    have key : ∀ b o' l', b ≠ id → m.hp.get b = some o' → Phi.put φ id l b = some l' → φ b = some l' ∧ l'.rb < w.heap.size := by
      intro b o' l' hb hg hp
      have hp' : φ b = some l' := by simpa [Phi.put, hb] using hp
      obtain ⟨l'', hl'', ho''⟩ := h0.obj _ _ hg
      rw [hp'] at hl''; cases hl''
      exact ⟨hp', ho''.lt⟩
    by_cases e1 : b1 = id
    · by_cases e2 : b2 = id
      · rw [e1, e2]
      · rw [if_neg e2] at h2
        obtain ⟨_, hlt⟩ := key b2 _ _ e2 h2 p2
        subst e1
        rw [Phi.put_self] at p1; cases p1
        omega
    · rw [if_neg e1] at h1
      obtain ⟨q1, hlt1⟩ := key b1 _ _ e1 h1 p1
      by_cases e2 : b2 = id
      · subst e2
        rw [Phi.put_self] at p2; cases p2
        omega
      · rw [if_neg e2] at h2
        obtain ⟨q2, hlt2⟩ := key b2 _ _ e2 h2 p2
        exact h0.inj _ _ _ _ _ _ h1 h2 q1 q2 hr
  · intro g hg
    obtain ⟨l', h1, h2⟩ := h0.glob g hg
    exact ⟨l', hext _ _ h1, h2⟩

/-- a block is added -/
theorem add_ok (h0 : R0 P φ m w) {id : Nat} {l : Loc} {o : AObj} {ob : Obj} {n f : Nat} (hid : φ id = none) (hl : l.rb = w.heap.size) (ho : OR P (Phi.put φ id l) (w.alloc ob) l o)
    (hfl : f ≤ id) (hf : m.fl = f) (hn : m.nx ≤ n) (hge : m.nx ≤ id) :
    R0 P (Phi.put φ id l) { hp := m.hp.put id o, nx := n, fl := f } (w.alloc ob) ∧ Stp φ m w (Phi.put φ id l) { hp := m.hp.put id o, nx := n, fl := f } (w.alloc ob) := by
  have hext := Phi.put_ext (l := l) hid
  have hold : ∀ r, r < w.heap.size → (w.alloc ob).heap[r]? = w.heap[r]? := by
    intro r hr
    show (w.heap.push ob)[r]? = _
    rw [Array.getElem?_push, if_neg (by omega)]
  refine ⟨⟨?_, ?_, ?_⟩, ⟨hext, ?_, ?_, by show w.heap.size ≤ (w.heap.push ob).size; simp, rfl, rfl, rfl, hn, hf.symm, ?_, ?_, ?_, fun _ => Nat.le_refl _⟩⟩
  · intro b o' hb
    rw [Tr.get_put] at hb
    by_cases e : b = id
    · subst e
      rw [if_pos rfl] at hb; cases hb
      exact ⟨l, Phi.put_self, ho⟩
    · rw [if_neg e] at hb
      obtain ⟨l', hl', ho'⟩ := h0.obj _ _ hb
      exact ⟨l', hext _ _ hl', ho'.mono hext (hold _ ho'.lt)⟩
  · intro b1 b2 o1 o2 l1 l2 h1 h2 p1 p2 hr
    rw [Tr.get_put] at h1 h2
    have key : ∀ b o' l', b ≠ id → m.hp.get b = some o' → Phi.put φ id l b = some l' → φ b = some l' ∧ l'.rb < w.heap.size := by
      intro b o' l' hb hg hp
      have hp' : φ b = some l' := by simpa [Phi.put, hb] using hp
      obtain ⟨l'', hl'', ho''⟩ := h0.obj _ _ hg
      rw [hp'] at hl''; cases hl''
      exact ⟨hp', ho''.lt⟩
    by_cases e1 : b1 = id
    · by_cases e2 : b2 = id
      · rw [e1, e2]
      · rw [if_neg e2] at h2
        obtain ⟨_, hlt⟩ := key b2 _ _ e2 h2 p2
        subst e1
        rw [Phi.put_self] at p1; cases p1
        omega
    · rw [if_neg e1] at h1
      obtain ⟨q1, hlt1⟩ := key b1 _ _ e1 h1 p1
      by_cases e2 : b2 = id
      · subst e2
        rw [Phi.put_self] at p2; cases p2
        omega
      · rw [if_neg e2] at h2
        obtain ⟨q2, hlt2⟩ := key b2 _ _ e2 h2 p2
        exact h0.inj _ _ _ _ _ _ h1 h2 q1 q2 hr
  · intro g hg
    obtain ⟨l', h1, h2⟩ := h0.glob g hg
    exact ⟨l', hext _ _ h1, h2⟩
  · rintro r ⟨b, o', l', hfb, hb, hp, hr⟩
    dsimp only at hb hfb
    rw [Tr.get_put] at hb
    by_cases e : b = id
    · subst e
      rw [Phi.put_self] at hp; cases hp
      left; omega
    · rw [if_neg e] at hb
      have hp' : φ b = some l' := by simpa [Phi.put, e] using hp
      exact .inr ⟨b, o', l', by omega, hb, hp', hr⟩
  · intro r hr _; exact hold r hr
  · intro b hb
    rw [Tr.get_put, if_neg (by omega)]
  · intro b hb hnn
    rw [Tr.get_put, if_neg (by omega)]; exact hnn
  · intro b hb
    simp only [Phi.put]
    rw [if_neg (by omega)]

/-- a block is changed -/
theorem upd_ok (h0 : R0 P φ m w) {b : Nat} {l : Loc} {o0 o : AObj} {w' : World} (hb : m.hp.get b = some o0) (hl : φ b = some l) (hfl : m.fl ≤ b)
    (hw : ∀ r, r ≠ l.rb → w'.heap[r]? = w.heap[r]?) (hs : w'.heap.size = w.heap.size) (h1 : w'.os = w.os) (h2 : w'.tape = w.tape) (h3 : w'.output = w.output) (h4 : w.drawn ≤ w'.drawn) (ho : OR P φ w' l o) :
    R0 P φ { m with hp := m.hp.put b o } w' ∧ Stp φ m w φ { m with hp := m.hp.put b o } w' := by
  refine ⟨⟨?_, ?_, h0.glob⟩, ⟨fun _ _ h => h, ?_, ?_, by omega, h1, h2, h3, Nat.le_refl _, rfl, ?_, ?_, fun _ _ => rfl, fun _ => h4⟩⟩
  · intro b' o' hb'
    rw [Tr.get_put] at hb'
    by_cases e : b' = b
    · subst e; rw [if_pos rfl] at hb'; cases hb'
      exact ⟨l, hl, ho⟩
    · rw [if_neg e] at hb'
      obtain ⟨l', hl', ho'⟩ := h0.obj _ _ hb'
      refine ⟨l', hl', ho'.mono (fun _ _ h => h) (hw _ ?_)⟩
      exact fun e' => e (h0.inj _ _ _ _ _ _ hb' hb hl' hl e')
  · intro b1 b2 o1 o2 l1 l2 g1 g2 p1 p2 hr
    rw [Tr.get_put] at g1 g2
    have key : ∀ b' o', (if b' = b then some o else m.hp.get b') = some o' → ∃ o'', m.hp.get b' = some o'' := by
      intro b' o' h
      by_cases e : b' = b
      · subst e; exact ⟨_, hb⟩
      · rw [if_neg e] at h; exact ⟨_, h⟩
    obtain ⟨_, k1⟩ := key _ _ g1
    obtain ⟨_, k2⟩ := key _ _ g2
    exact h0.inj _ _ _ _ _ _ k1 k2 p1 p2 hr
  · rintro r ⟨b', o', l', hfb, hb', hp, hr⟩
    dsimp only at hb' hfb
    rw [Tr.get_put] at hb'
    by_cases e : b' = b
    · subst e; rw [hl] at hp; cases hp; exact .inr ⟨b', _, l, hfb, hb, hl, hr⟩
    · rw [if_neg e] at hb'; exact .inr ⟨b', o', l', hfb, hb', hp, hr⟩
  · intro r hr hn
    exact hw r (fun e => hn ⟨b, _, l, hfl, hb, hl, e.symm⟩)
  · intro b' hb'
    rw [Tr.get_put, if_neg (by omega)]
  · intro b' _ hnn
    rw [Tr.get_put, if_neg (fun e => by subst e; rw [hb] at hnn; cases hnn)]; exact hnn

omit [Kap] in
/-- less is known -/
theorem less_ok {m' : Mem} (h0 : R0 P φ m w) (hs : ∀ b o, m'.hp.get b = some o → m.hp.get b = some o) : R0 P φ m' w :=
  ⟨fun b o h => h0.obj b o (hs b o h), fun b1 b2 o1 o2 l1 l2 a b => h0.inj b1 b2 o1 o2 l1 l2 (hs _ _ a) (hs _ _ b), h0.glob⟩

theorem less_stp {m' : Mem} (hs : ∀ b o, m'.hp.get b = some o → m.hp.get b = some o) (hn : m.nx ≤ m'.nx) (hf : m'.fl = m.fl) (hl : ∀ b, b < m.fl → m'.hp.get b = m.hp.get b) : Stp φ m w φ m' w :=
  ⟨fun _ _ h => h, fun _ ⟨b, o, l, h0, h1, h2, h3⟩ => .inr ⟨b, o, l, hf ▸ h0, hs _ _ h1, h2, h3⟩, fun _ _ _ => rfl, Nat.le_refl _, rfl, rfl, rfl, hn, hf, hl, fun b _ hnn => (by
    cases hb : m'.hp.get b with
    | none => rfl
    | some o => rw [hs _ _ hb] at hnn; cases hnn), fun _ _ => rfl, fun _ => Nat.le_refl _⟩

omit [Kap] in
theorem writeL_get : ∀ (l : List Value) (c : Tr Value) (i j : Nat), (writeL c l i).get j = if i ≤ j ∧ j < i + l.length then l[j - i]? else c.get j
  | [], c, i, j => by
    simp only [writeL, List.length_nil, Nat.add_zero]
    rw [if_neg (by omega)]
  | v :: r, c, i, j => by
    simp only [writeL]
    rw [writeL_get r _ (i + 1) j, Tr.get_put]
    by_cases h1 : j = i
    · subst h1
      rw [if_neg (by omega), if_pos rfl, if_pos (by simp)]
      simp
    · by_cases h2 : i + 1 ≤ j ∧ j < i + 1 + r.length
      · rw [if_pos h2, if_pos (by simp only [List.length_cons]; omega)]
        rw [show j - i = (j - (i + 1)) + 1 by omega]; simp
      · rw [if_neg h2, if_neg h1, if_neg (by simp only [List.length_cons]; omega)]

/-- a new row of cells -/
theorem new_ok (h0 : R0 P φ m w) {l : List Value} {c' : Array Value} {e : TypeId} {loose : Bool} {s : Nat} {id n f : Nat} (hid : φ id = none) (hf : m.fl = f) (hfl : f ≤ id) (hn : m.nx ≤ n) (hge : m.nx ≤ id)
    (hle : l.length ≤ c'.size) (hc : ∀ (i : Nat) (v v' : Value), l[i]? = some v → c'[i]? = some v' → VR φ v v')
    (h1 : loose = false → s = 0 ∧ c'.size = l.length) (h2 : loose = true → 0 < s ∧ ∀ i, P.info? e = some i → i.size = s) :
    ∃ φ', φ' = Phi.put φ id ⟨w.heap.size, 0, l.length, c'.size, s⟩ ∧
      R0 P φ' { hp := m.hp.put id (.cells (writeL .nil l 0) l.length e loose), nx := n, fl := f } (w.alloc (.cells c' e)) ∧
      Stp φ m w φ' { hp := m.hp.put id (.cells (writeL .nil l 0) l.length e loose), nx := n, fl := f } (w.alloc (.cells c' e)) := by
  have hext := Phi.put_ext (l := ⟨w.heap.size, 0, l.length, c'.size, s⟩) hid
  refine ⟨_, rfl, add_ok h0 hid rfl ?_ hfl hf hn hge⟩
  refine ⟨c', ?_, rfl, hle, by simp, ?_, ?_, h2⟩
  · show (w.heap.push _)[w.heap.size]? = _
    rw [Array.getElem?_push, if_pos rfl]
  · intro i hi
    have hi' : i < c'.size := by omega
    refine cellR_of (v := l[i]) (v' := c'[i]) ?_ ?_ ?_
    · rw [writeL_get, if_pos (by simpa using hi)]; simp [hi]
    · simp [hi']
    · exact (hc i l[i] c'[i] (List.getElem?_eq_getElem hi) (Array.getElem?_eq_getElem hi')).mono hext
  · intro hlo
    have := h1 hlo
    exact ⟨this.1, this.2⟩

omit [Kap] in
theorem RR.fresh_id (h : RR P φ m w) : φ m.nx = none := h.fresh _ (Nat.le_refl _)

omit [Kap] in
theorem fresh_put {id : Nat} {l : Loc} (h : Fresh φ id) : Fresh (Phi.put φ id l) (id + 1) := by
  intro b hb
  simp only [Phi.put]
  rw [if_neg (by omega)]
  exact h b (by omega)

omit [Kap] in
theorem newCells_eq (m : Mem) (l : List Value) (e : TypeId) (x : Bool) : newCells m l e x = (m.nx, { hp := m.hp.put m.nx (.cells (writeL .nil l 0) l.length e x), nx := m.nx + 1, fl := m.fl }) := rfl

omit [Kap] in
theorem vr_new {id n re s : Nat} {r : Nat} : VR (Phi.put φ id ⟨r, 0, n, re, s⟩) (.pointer (some ⟨id, 0, none⟩)) (.pointer (some ⟨r, 0, none⟩)) :=
  .ptr id 0 ⟨r, 0, n, re, s⟩ Phi.put_self

omit [Kap] in
theorem vr_new_slice {id n re s len cap cap' : Nat} {r : Nat} (h : CapR ⟨r, 0, n, re, s⟩ 0 cap cap') : VR (Phi.put φ id ⟨r, 0, n, re, s⟩) (.slice (some ⟨id, 0, none⟩) len cap) (.slice (some ⟨r, 0, none⟩) len cap') :=
  .sl id 0 len cap cap' ⟨r, 0, n, re, s⟩ Phi.put_self h


omit [Kap] in
theorem repL_length (z : List Value) : ∀ n, (repL z n).length = n * z.length
  | 0 => by simp [repL]
  | n + 1 => by simp [repL, repL_length z n, Nat.add_mul, Nat.add_comm]

omit [Kap] in
theorem repL_get (z : List Value) : ∀ (n i : Nat), i < n * z.length → (repL z n)[i]? = z[i % z.length]?
  | 0, i, h => by simp at h
  | n + 1, i, h => by
    simp only [repL]
    by_cases hi : i < z.length
    · rw [List.getElem?_append_left hi, Nat.mod_eq_of_lt hi]
    · rw [List.getElem?_append_right (by omega), repL_get z n (i - z.length) (by rw [Nat.add_mul] at h; omega)]
      congr 1
      exact (Nat.mod_eq_sub_mod (by omega)).symm

omit [Kap] in
theorem LR.rep {l l' : List Value} (h : LR φ l l') : ∀ n, LR φ (repL l n) (repL l' n)
  | 0 => LR.nil φ
  | n + 1 => h.append (LR.rep h n)

omit [Kap] in
theorem rep_eq (z : Array Value) (n s : Nat) (hs : z.size = s) (h0 : 0 < s) : ((Array.range (n * s)).map (fun j => z[j % z.size]!)).toList = repL z.toList n := by
  apply List.ext_getElem?
  intro i
  by_cases hi : i < n * s
  · rw [repL_get _ _ _ (by simpa [hs] using hi)]
    have hm : i % s < s := Nat.mod_lt _ h0
    have hm' : i % z.size < z.size := by rw [hs]; exact hm
    simp only [Array.toList_map, Array.toList_range, List.getElem?_map, List.getElem?_range hi, Option.map_some]
    rw [List.getElem?_eq_getElem (by simpa using hm')]
    simp [hm']
  · rw [List.getElem?_eq_none (by simp; omega), List.getElem?_eq_none (by rw [repL_length]; simp [hs]; omega)]

omit [Kap] in
theorem map_range0 (f : Nat → Value) : Array.map f (Array.range 0) = #[] := by
  apply Array.ext'
  simp [Array.toList_map, Array.toList_range]

/-- the row of zeros that a make lays -/
def zeroRow (z : Value) (n s : Nat) : Array Value := if n * s = 0 then #[] else (Array.range (n * s)).map (z.cells[· % z.cells.size]!)

omit [Kap] in
theorem zeroRow_list {z : Value} {s : Nat} (c2 : (cellsL z).length = s) (c3 : 0 < s) (n : Nat) : (zeroRow z n s).toList = repL (cellsL z) n := by
  unfold zeroRow
  by_cases hn0 : n = 0
  · subst hn0; simp [repL]
  · have hnz : ¬ n * s = 0 := by
      intro q; rcases Nat.mul_eq_zero.1 q with q | q <;> omega
    rw [if_neg hnz, rep_eq z.cells n s (by rw [← c2, ← cells_toList]; simp) c3, cells_toList]

omit [Kap] in
theorem vr_int {k : IntKind} {n : Int} {v : Value} (h : VR φ (.int k n) v) : v = .int k n := by cases h; rfl

omit [Kap] in
theorem evalP_ok (hcx : CxOk P cx) (hg : ∀ g, g ≤ P.globals.size → ∃ l, φ g = some l ∧ l.rb = g ∧ l.ro = 0) {st : St} {a : Act} (ht : TR φ st a) : ∀ {xs : List (Nat × Operand)} {l : List (Nat × Value)}, evalP cx st xs = some l → PR φ l (xs.map fun (i, x) => (i, a.eval x))
  | [], l, h => by simp only [evalP, Option.some.injEq] at h; subst h; trivial
  | (i, x) :: r, l, h => by
    simp only [evalP] at h
    split at h
    · rename_i v hv
      split at h
      · rename_i l0 hl
        simp only [Option.some.injEq] at h; subst h
        exact ⟨rfl, eval_ok hcx hg ht hv, evalP_ok hcx hg ht hl⟩
      · cases h
    · cases h

omit [Kap] in
theorem wrap_small (n : Int) (h0 : 0 ≤ n) (h : n ≤ 1073741824) : IntKind.i64.wrap n = n := by
  apply wrap_fits
  simp [fitsI, IntKind.min, IntKind.max, IntKind.bits, IntKind.signed]
  omega

omit [Kap] in
theorem run_askRoom (n : Nat) : (askRoom n).run P w = .ok () w := by
  unfold askRoom
  split <;> rfl

/-! ## makings: one block, whatever memory holds -/

omit [Kap] in
/-- what a lone making does: at any world, at any number that is free -/
theorem maker_ok (hcx : CxOk P cx) (hg : ∀ g, g ≤ P.globals.size → ∃ l, φ g = some l ∧ l.rb = g ∧ l.ro = 0) {call : Caller} {st : St} {a : Act} (ht : TR φ st a) {o : Oper} (hm : makesO o.op = true) {ov : Option Value} {m' : Mem}
    (h : opA cx call st o = some (ov, m')) (hid : φ st.m.nx = none) :
    ∃ v v' ob' ob l, ov = some v ∧ m' = { hp := st.m.hp.put st.m.nx ob', nx := st.m.nx + 1, fl := st.m.fl } ∧ l.rb = w.heap.size ∧
      (execOp a.eval o).run P w = .ok (.value v') (w.alloc ob) ∧ VR (Phi.put φ st.m.nx l) v v' ∧ OR P (Phi.put φ st.m.nx l) (w.alloc ob) l ob' := by
  have cells : ∀ (l : List Value) (c' : Array Value) (e : TypeId), LR φ l c'.toList →
      OR P (Phi.put φ st.m.nx ⟨w.heap.size, 0, l.length, l.length, 0⟩) (w.alloc (.cells c' e)) ⟨w.heap.size, 0, l.length, l.length, 0⟩ (.cells (writeL .nil l 0) l.length e false) := by
    intro l c' e hl
    have hext := Phi.put_ext (l := ⟨w.heap.size, 0, l.length, l.length, 0⟩) hid
    have hsz : c'.size = l.length := by rw [hl.1]; simp
    refine ⟨c', ?_, rfl, Nat.le_refl _, by simp [hsz], ?_, fun _ => ⟨rfl, rfl⟩, fun q => by cases q⟩
    · show (w.heap.push _)[w.heap.size]? = _
      rw [Array.getElem?_push, if_pos rfl]
    · intro i hi
      have hi' : i < c'.size := by omega
      refine cellR_of (v := l[i]) (v' := c'[i]) ?_ ?_ ?_
      · rw [writeL_get, if_pos (by simpa using hi)]; simp [hi]
      · simp [hi']
      · exact (hl.2 i l[i] c'[i] (List.getElem?_eq_getElem hi) (by simp [hi'])).mono hext
  cases hop : o.op <;> simp only [hop, makesO, Bool.false_eq_true] at hm
  case alloc e =>
    simp only [opA, hop] at h
    split at h
    · rename_i z hz
      simp only [newCells_eq, Option.some.injEq, Prod.mk.injEq] at h
      obtain ⟨rfl, rfl⟩ := h
      obtain ⟨hr, hp⟩ := zeroT_ok hcx hz w
      have hl : LR φ (cellsL z) z.cells.toList := by rw [cells_toList]; exact (VR.plain φ hp).cells
      refine ⟨_, .pointer (some ⟨w.heap.size, 0, none⟩), _, .cells z.cells e, ⟨w.heap.size, 0, (cellsL z).length, (cellsL z).length, 0⟩, rfl, rfl, rfl, ?_, vr_new, cells _ _ e hl⟩
      simp [execOp, hop, Instr.alloc, hr, newVar, newRow]
    · cases h
  case box e x =>
    simp only [opA, hop] at h
    split at h
    · rename_i y hy
      simp only [newCells_eq, Option.some.injEq, Prod.mk.injEq] at h
      obtain ⟨rfl, rfl⟩ := h
      have hv := eval_ok hcx hg ht hy
      have hl : LR φ (cellsL y) (a.eval x).cells.toList := by rw [cells_toList]; exact hv.cells
      refine ⟨_, .pointer (some ⟨w.heap.size, 0, none⟩), _, .cells (a.eval x).cells e, ⟨w.heap.size, 0, (cellsL y).length, (cellsL y).length, 0⟩, rfl, rfl, rfl, ?_, vr_new, cells _ _ e hl⟩
      simp [execOp, hop, Instr.box, newVar, newRow]
    · cases h
  case buildSlice t n ps =>
    simp only [opA, hop] at h
    split at h
    · rename_i l hl
      have hpr := evalP_ok hcx hg ht hl
      cases hb : buildSliceA cx st.m t n l with
      | none => rw [hb] at h; cases h
      | some p =>
        rw [hb] at h
        obtain ⟨v, m1⟩ := p
        simp only [Option.some.injEq, Prod.mk.injEq] at h
        obtain ⟨rfl, rfl⟩ := h
        unfold buildSliceA at hb
        split at hb
        · rename_i e hd
          have hu := hcx.un _ _ hd
          split at hb
          · rename_i s z hs hz
            obtain ⟨i, hi, rfl⟩ := sizeT_ok hcx hs
            obtain ⟨hr, hp⟩ := zeroT_ok hcx hz w
            split at hb
            · rename_i hc
              simp only [Bool.and_eq_true] at hc
              obtain ⟨⟨hc1, hc2⟩, hc3⟩ := hc
              have c1 : n * i.size ≤ 16777216 := Nat.le_of_ble_eq_true hc1
              have c2 : (cellsL z).length = i.size := Nat.eq_of_beq_eq_true hc2
              have c3 : 0 < i.size := Nat.le_of_ble_eq_true hc3
              split at hb
              · rename_i r hf
                simp only [newCells_eq, Option.some.injEq, Prod.mk.injEq] at hb
                obtain ⟨rfl, rfl⟩ := hb
                have hzl : LR φ (cellsL z) (cellsL z) := (VR.plain φ hp).cells
                have hzc := zeroRow_list c2 c3 n
                obtain ⟨r', hf', hlr⟩ := fill_ok l _ (repL (cellsL z) n) r (zeroRow z n i.size) hf (by rw [hzc]; exact hzl.rep n) hpr
                refine ⟨_, .slice (some ⟨w.heap.size, 0, none⟩) n n, _, .cells r' e, ⟨w.heap.size, 0, r.length, r.length, 0⟩, rfl, rfl, rfl, ?_, vr_new_slice (.inl rfl), cells _ _ e hlr⟩
                have hfill : Instr.fill (fun i_1 => some (i_1 * i.size, i.size)) (zeroRow z n i.size) (ps.map fun (i, x) => (i, a.eval x)).toList = some r' := by
                  rw [← hf']; simp
                simp only [execOp, hop, Instr.buildSlice, Sem.run_bind, run_underlying hu, Result.andThen_ok, run_size hi]
                rw [if_neg (by omega)]
                unfold zeroRow at hfill
                by_cases hnz : n * i.size = 0
                · rw [if_pos hnz] at hfill
                  rw [Array.toList_map] at hfill
                  have hf2 : Instr.fill (fun i_1 => some (i_1 * i.size, i.size)) #[] (List.map (fun x => (x.fst, a.eval x.snd)) ps.toList) = some r' := hfill
                  simp [hnz, newRow, map_range0, hf2]
                · rw [if_neg hnz] at hfill
                  rw [Array.toList_map] at hfill
                  have hf2 : Instr.fill (fun i_1 => some (i_1 * i.size, i.size)) ((Array.range (n * i.size)).map (z.cells[· % z.cells.size]!)) (List.map (fun x => (x.fst, a.eval x.snd)) ps.toList) = some r' := hfill
                  simp [hnz, hr, newRow, hf2]
              · cases hb
            · cases hb
          · cases hb
        · cases hb
    · cases h
  case makeMap t r =>
    cases r with
    | some r => simp at hm
    | none =>
      simp only [opA, hop, Option.some.injEq, Prod.mk.injEq] at h
      obtain ⟨rfl, rfl⟩ := h
      refine ⟨_, .map (some w.heap.size), _, .map #[] 0, ⟨w.heap.size, 0, 0, 0, 0⟩, rfl, rfl, rfl, ?_, ?_, ?_⟩
      · simp [execOp, hop, Instr.makeMap]
      · exact .map _ ⟨w.heap.size, 0, 0, 0, 0⟩ Phi.put_self
      · refine ⟨#[], ?_, ER.nil _⟩
        show (w.heap.push _)[w.heap.size]? = _
        rw [Array.getElem?_push, if_pos rfl]
  case makeSlice t l c =>
    simp only [opA, hop] at h
    split at h
    · rename_i vl vc hvl hvc
      have hl := eval_ok hcx hg ht hvl
      have hc := eval_ok hcx hg ht hvc
      cases hb : makeSliceA cx st.m t vl vc with
      | none => rw [hb] at h; cases h
      | some p =>
        rw [hb] at h
        obtain ⟨v, m1⟩ := p
        simp only [Option.some.injEq, Prod.mk.injEq] at h
        obtain ⟨rfl, rfl⟩ := h
        unfold makeSliceA at hb
        split at hb
        · rename_i e k1 nl k2 nc hd
          have hu := hcx.un _ _ hd
          split at hb
          · rename_i s z i hs hz hi0
            have hi := hcx.ty _ _ hi0
            obtain ⟨i', hi', rfl⟩ := sizeT_ok hcx hs
            rw [hi] at hi'; cases hi'
            obtain ⟨hr, hp⟩ := zeroT_ok hcx hz w
            split at hb
            · rename_i hcnd
              simp only [Bool.and_eq_true, decide_eq_true_eq] at hcnd
              obtain ⟨⟨⟨⟨⟨b1, b2⟩, b3⟩, b4⟩, b5⟩, b6⟩ := hcnd
              have c4 : i.bytes * nc.toNat ≤ 140737488355328 := Nat.le_of_ble_eq_true b4
              have c2 : (cellsL z).length = i.size := Nat.eq_of_beq_eq_true b5
              have c3 : 0 < i.size := Nat.le_of_ble_eq_true b6
              simp only [newCells_eq, Option.some.injEq, Prod.mk.injEq] at hb
              obtain ⟨rfl, rfl⟩ := hb
              have hzl : LR φ (cellsL z) (cellsL z) := (VR.plain φ hp).cells
              have hel : a.eval l = .int k1 nl := vr_int hl
              have hec : a.eval c = .int k2 nc := vr_int hc
              have hzc := zeroRow_list c2 c3 nc.toNat
              have hlr : LR φ (repL (cellsL z) nc.toNat) (zeroRow z nc.toNat i.size).toList := by rw [hzc]; exact hzl.rep _
              refine ⟨_, .slice (some ⟨w.heap.size, 0, none⟩) nl.toNat nc.toNat, _, .cells (zeroRow z nc.toNat i.size) e, ⟨w.heap.size, 0, (repL (cellsL z) nc.toNat).length, (repL (cellsL z) nc.toNat).length, 0⟩, rfl, rfl, rfl, ?_, vr_new_slice (.inl rfl), cells _ _ e hlr⟩
              have w1 := wrap_small nl b1 (by omega)
              have w2 := wrap_small nc (by omega) b3
              have hbig : ¬ ((i.bytes : Int) * nc > 2 ^ 48) := by
                have e1 : (nc.toNat : Int) = nc := Int.toNat_of_nonneg (by omega)
                have e2 : ((i.bytes * nc.toNat : Nat) : Int) = (i.bytes : Int) * nc := by rw [Int.natCast_mul, e1]
                omega
              simp only [execOp, hop, Instr.makeSlice, hel, hec, asInt, asIntOf, Sem.run_bind, run_underlying hu, Result.andThen_ok, Sem.run_pure, run_info hi, w1, w2]
              rw [if_neg (by simp; omega)]
              unfold zeroRow
              by_cases hnz : nc.toNat * i.size = 0
              · simp [run_size hi, hnz, newRow, map_range0]
              · simp [run_size hi, hnz, newRow, hr]
            · cases hb
          · cases hb
        · cases hb
    · cases h

end Go.AX
