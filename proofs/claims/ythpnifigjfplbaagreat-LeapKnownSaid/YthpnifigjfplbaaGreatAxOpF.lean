/-
  MAPS THAT ARE READ, CONVERSIONS, ASSERTIONS, LENGTHS.
-/
import Derived.Test.YthpnifigjfplbaaGreatAxOpE
import Derived.Laws.BytesString
namespace Go.AX

variable {P : Program} {cx : Cx} {φ : Phi} {m : Mem} {w : World}

theorem keyKind_same {d : TypeDesc} {k k' : Value} (h : keyKind d k = true) (hv : VR φ k k') : k' = k := by
  cases hv <;> first | rfl | (cases d <;> simp [keyKind] at h)

theorem checkKey_ok {b : Bool} {kt : TypeId} {d : TypeDesc} {k : Value} (hd : P.underlying kt = some d) (hk : keyKind d k = true) : (Instr.checkKey b 10000 kt k).run P w = .ok () w := by
  have gen : ∀ n, (Instr.checkKey b (n + 1) kt k).run P w = .ok () w := by
    intro n
    simp only [Instr.checkKey, Sem.run_bind, run_underlying hd, Result.andThen_ok]
    cases d <;> cases k <;> simp only [keyKind, Bool.false_eq_true] at hk <;> rfl
  exact gen 9999

theorem ER.nil (φ : Phi) : ER φ [] [] := ⟨rfl, fun i e e' h => by simp at h⟩

theorem ER.uncons {e : MapEntry} {es es' : List MapEntry} (h : ER φ (e :: es) es') : ∃ e' r', es' = e' :: r' ∧ (VR φ e.key e'.key ∧ VR φ e.val e'.val ∧ e.born = e'.born) ∧ ER φ es r' := by
  cases es' with
  | nil => have := h.1; simp at this
  | cons e' r' =>
    refine ⟨e', r', rfl, h.2 0 e e' rfl rfl, by simpa using h.1, fun i a a' h1 h2 => h.2 (i + 1) a a' (by simpa using h1) (by simpa using h2)⟩

/-- what is found, in both -/
def FR (φ : Phi) : Option (Nat × Value) → Option (Nat × Value) → Prop
  | none, none => True
  | some (i, v), some (i', v') => i = i' ∧ VR φ v v'
  | _, _ => False

theorem findK_ok {d : TypeDesc} {k : Value} : ∀ (es es' : List MapEntry) (i : Nat) (r : Option (Nat × Value)), ER φ es es' → findK d k es i = some r → ∃ r', Instr.findNow d k es' i = some r' ∧ FR φ r r'
  | [], es', i, r, he, h => by
    simp only [findK, Option.some.injEq] at h; subst h
    have : es' = [] := List.length_eq_zero_iff.1 he.1.symm
    subst this
    exact ⟨none, rfl, trivial⟩
  | e :: es, es', i, r, he, h => by
    obtain ⟨e', r', rfl, ⟨hk, hv, hb⟩, her⟩ := he.uncons
    simp only [findK] at h
    split at h
    · rename_i h1 h2
      simp only [Option.some.injEq] at h; subst h
      simp only [Bool.and_eq_true] at h1
      have e1 := keyKind_same h1.2 hk
      refine ⟨some (i, e'.val), ?_, rfl, hv⟩
      have : Instr.sameNow d k e'.key = some true := by
        rw [e1]
        obtain ⟨h1a, h1b⟩ := h1
        generalize e.key = ek at *
        cases d <;> cases k <;> simp only [keyKind, Bool.false_eq_true] at h1a <;> cases ek <;> simp only [keyKind, Bool.false_eq_true] at h1b <;> simp only [keySame] at h2 <;> simp only [Instr.sameNow]
        · simpa using h2
        · split at h2
          · rename_i hkk
            have hkk' : _ = _ := of_decide_eq_true hkk
            subst hkk'
            rw [if_pos rfl]; simpa using h2
          · cases h2
        · rw [bytesEq_eq] at h2
          rw [beq_toListBytes, ByteArray.toList_eq, ByteArray.toList_eq]; exact h2
      simp [Instr.findNow, this]
    · rename_i h1 h2
      simp only [Bool.and_eq_true] at h1
      have e1 := keyKind_same h1.2 hk
      obtain ⟨r'', g1, g2⟩ := findK_ok es r' (i + 1) r her h
      refine ⟨r'', ?_, g2⟩
      have : Instr.sameNow d k e'.key = some false := by
        rw [e1]
        obtain ⟨h1a, h1b⟩ := h1
        generalize e.key = ek at *
        cases d <;> cases k <;> simp only [keyKind, Bool.false_eq_true] at h1a <;> cases ek <;> simp only [keyKind, Bool.false_eq_true] at h1b <;> simp only [keySame] at h2 <;> simp only [Instr.sameNow]
        · simpa using h2
        · split at h2
          · rename_i hkk
            have hkk' : _ = _ := of_decide_eq_true hkk
            subst hkk'
            rw [if_pos rfl]; simpa using h2
          · cases h2
        · rw [bytesEq_eq] at h2
          rw [beq_toListBytes, ByteArray.toList_eq, ByteArray.toList_eq]; exact h2
      simp [Instr.findNow, this, g1]
    · cases h

theorem mapKey_ok (hcx : CxOk P cx) {t : TypeId} {k : Value} {d : TypeDesc} {et : TypeId} (h : mapKey cx t k = some (d, et)) :
    ∃ kt, P.underlying t = some (.map kt et) ∧ P.underlying kt = some d ∧ keyKind d k = true := by
  unfold mapKey at h
  split at h
  · rename_i kt et' hd
    split at h
    · rename_i d' hd'
      split at h
      · rename_i hk
        simp only [Option.some.injEq, Prod.mk.injEq] at h
        obtain ⟨rfl, rfl⟩ := h
        exact ⟨kt, hcx.un _ _ hd, hcx.un _ _ hd', hk⟩
      · cases h
    · cases h
  · cases h

theorem map_of (h0 : R0 P φ m w) {r : Nat} {l : Loc} {es : List MapEntry} {clock : Nat} (hk : m.hp.get r = some (.map es clock)) (hr : φ r = some l) :
    ∃ es' : Array MapEntry, w.heap[l.rb]? = some (.map es' clock) ∧ ER φ es es'.toList := by
  obtain ⟨l0, hl0, h⟩ := h0.obj _ _ hk
  rw [hr] at hl0; cases hl0
  exact h

theorem findKey_ok {kt : TypeId} {d : TypeDesc} {k : Value} {es : List MapEntry} {r : Option (Nat × Value)} (hd : P.underlying kt = some d) (h : Instr.findNow d k es 0 = some r) :
    (Instr.findKey kt k es).run P w = .ok r w := by
  simp [Instr.findKey, run_underlying hd, h]

theorem okV_ok {v v' : Value} (ok b : Bool) (h : VR φ v v') : VR φ (okV ok v b) (if ok then .tuple #[v', .bool b] else v') := by
  cases ok
  · exact h
  · exact .tuple _ _ rfl ((LR.nil φ).cons (.bool b) |>.cons h).2

theorem lookupIn_ok (hcx : CxOk P cx) {t kt et : TypeId} {d : TypeDesc} {es : List MapEntry} {es' : Array MapEntry} {x' k v : Value} {ok : Bool} (h : lookupIn cx d et es k ok = some v) (he : ER φ es es'.toList)
    (hu : P.underlying t = some (.map kt et)) (hd : P.underlying kt = some d) (hkk : keyKind d k = true)
    (hx : (x' = .map none ∧ es' = #[]) ∨ ∃ r clock, x' = .map (some r) ∧ w.heap[r]? = some (.map es' clock)) :
    ∃ v', (Instr.lookup t x' k ok).run P w = .ok v' w ∧ VR φ v v' := by
  unfold lookupIn at h
  split at h
  · rename_i i u hf
    obtain ⟨r', g1, g2⟩ := findK_ok _ _ _ _ he hf
    cases r' with
    | none => exact g2.elim
    | some p =>
      obtain ⟨i', u'⟩ := p
      obtain ⟨rfl, hv⟩ := g2
      simp only [Option.some.injEq] at h; subst h
      refine ⟨_, ?_, okV_ok ok true hv⟩
      rcases hx with ⟨rfl, rfl⟩ | ⟨r, clock, rfl, hw⟩
      · simp [Instr.findNow] at g1
      · have hg := run_getObj_map (P := P) (w := w) _ _ _ hw
        simp [Instr.lookup, run_underlying hu, hg, checkKey_ok hd hkk, findKey_ok hd g1]
  · rename_i hf
    obtain ⟨r', g1, g2⟩ := findK_ok _ _ _ _ he hf
    cases r' with
    | some p => exact g2.elim
    | none =>
      split at h
      · rename_i z hz
        simp only [Option.some.injEq] at h; subst h
        obtain ⟨hr, hp⟩ := zeroT_ok hcx hz w
        refine ⟨_, ?_, okV_ok ok false (VR.plain φ hp)⟩
        rcases hx with ⟨rfl, rfl⟩ | ⟨r, clock, rfl, hw⟩
        · have g1' : Instr.findNow d k [] 0 = some none := by simpa using g1
          simp [Instr.lookup, run_underlying hu, checkKey_ok hd hkk, findKey_ok hd g1', hr]
        · have hg := run_getObj_map (P := P) (w := w) _ _ _ hw
          simp [Instr.lookup, run_underlying hu, hg, checkKey_ok hd hkk, findKey_ok hd g1, hr]
      · cases h
  · cases h

theorem lookup_ok (hcx : CxOk P cx) (h0 : R0 P φ m w) {t : TypeId} {x k x' k' v : Value} {ok : Bool} (h : lookupA cx m t x k ok = some v) (hx : VR φ x x') (hk : VR φ k k') :
    ∃ v', (Instr.lookup t x' k' ok).run P w = .ok v' w ∧ VR φ v v' := by
  unfold lookupA at h
  split at h
  · rename_i d et hmk
    obtain ⟨kt, hu, hd, hkk⟩ := mapKey_ok hcx hmk
    have e := keyKind_same hkk hk
    subst e
    split at h
    · cases hx
      exact lookupIn_ok hcx (es' := #[]) h (ER.nil φ) hu hd hkk (.inl ⟨rfl, rfl⟩)
    · rename_i r
      cases hx with
      | map _ l hr =>
        split at h
        · rename_i es clock hm
          obtain ⟨es', hw, he⟩ := map_of h0 hm hr
          exact lookupIn_ok hcx h he hu hd hkk (.inr ⟨_, _, rfl, hw⟩)
        · cases h
    · cases h
  · cases h

theorem readL_zero {a : Addr} {l : List Value} (h : rowAtL m a 0 = some l) : l = [] := by
  unfold rowAtL at h
  split at h
  · cases h
  · split at h
    · split at h
      · simp only [readL, Option.some.injEq] at h; exact h.symm
      · cases h
    · split at h
      · simp only [readL, Option.some.injEq] at h; exact h.symm
      · cases h
    · cases h

theorem bytesOf_ints : ∀ (l : List Value) (bs : List UInt8), bytesOf l = some bs → ∃ ns : List Int, l = ns.map (Value.int .u8) ∧ bs = ns.map (fun n => UInt8.ofNat n.toNat)
  | [], bs, h => by
    simp only [bytesOf, Option.some.injEq] at h; subst h
    exact ⟨[], rfl, rfl⟩
  | x :: r, bs, h => by
    unfold bytesOf at h
    split at h
    · cases ‹x :: r = []›
    · rename_i n q heq
      cases heq
      split at h
      · rename_i l hl
        simp only [Option.some.injEq] at h; subst h
        obtain ⟨ns, h1, h2⟩ := bytesOf_ints r l hl
        exact ⟨n :: ns, by simp [h1], by simp [h2]⟩
      · cases h
    · cases h

theorem fold_push : ∀ (ns : List Int) (acc : ByteArray), ns.foldl (fun r n => r.push (UInt8.ofNat n.toNat)) acc = ⟨(acc.data.toList ++ ns.map (fun n => UInt8.ofNat n.toNat)).toArray⟩
  | [], acc => by simp
  | n :: ns, acc => by
    rw [List.foldl_cons, fold_push ns]
    simp [ByteArray.push]

theorem ints_same {ns : List Int} : ∀ {l' : List Value}, LR φ (ns.map (Value.int .u8)) l' → l' = ns.map (Value.int .u8) := by
  induction ns with
  | nil => intro l' h; exact h.nil_iff
  | cons n ns ih =>
    intro l' h
    obtain ⟨x', r', rfl, hx, hr⟩ := LR.uncons h
    cases hx
    rw [ih hr]; rfl

theorem convert_ok (hcx : CxOk P cx) (h0 : R0 P φ m w) {s d : TypeId} {x x' v : Value} (h : convertA cx m s d x = some v) (hx : VR φ x x') :
    ∃ v', (convert s d x').run P w = .ok v' w ∧ VR φ v v' := by
  unfold convertA at h
  split at h
  · rename_i us k k0 n hs hd
    cases hx
    simp only [Option.some.injEq, wrapI_eq] at h; subst h
    refine ⟨_, ?_, .int _ _⟩
    simp [convert, run_underlying (hcx.un _ _ hs), run_underlying (hcx.un _ _ hd), Conv.intToInt]
  · rename_i us sv hs hd
    cases hx
    simp only [Option.some.injEq] at h; subst h
    refine ⟨_, ?_, .string _⟩
    simp [convert, run_underlying (hcx.un _ _ hs), run_underlying (hcx.un _ _ hd)]
  · rename_i e a len cap hs hd
    split at h
    · rename_i a0 he
      split at h
      · rename_i l hl
        split at h
        · rename_i bs hbs
          simp only [Option.some.injEq] at h; subst h
          obtain ⟨ns, rfl, rfl⟩ := bytesOf_ints _ _ hbs
          have hfin : ∀ (a' : Addr) (cap' : Nat), VR φ (.pointer (some a0)) (.pointer (some a')) → ∃ v', (convert s d (.slice (some a') len cap')).run P w = .ok v' w ∧ VR φ (.string ⟨(ns.map (fun n => UInt8.ofNat n.toNat)).toArray⟩) v' := by
            intro a' cap' hp
            obtain ⟨hs0, l', hlr, hlen, hc⟩ := row_ok h0 hl hp
            have e := ints_same hlr
            subst e
            have hrun := run_loadCells_list (P := P) w a' _ hc
            have hlen' : (ns.map (Value.int .u8)).length = len := hlen
            rw [hlen'] at hrun
            refine ⟨_, (run_convert_bytes_string w s d e a' len cap' (hcx.un _ _ hs) (hcx.un _ _ he) (hcx.un _ _ hd)).trans (run_bytesToString w a' len cap' ns hrun), ?_⟩
            rw [fold_push]
            exact .string _
          cases hx with
          | sl b off _ _ cap' lc hb hc => exact hfin _ _ (.ptr _ _ _ hb)
          | slE a a' =>
            have : ns = [] := by
              have := (readL_zero hl)
              simpa using this
            subst this
            refine ⟨.string ByteArray.empty, ?_, .string _⟩
            have hl0 : (loadCells a' 0).run P w = .ok (([] : List Int).map (Value.int .u8)).toArray w := by simp [loadCells, loadCellsFrom]
            exact (run_convert_bytes_string w s d e (some a') 0 0 (hcx.un _ _ hs) (hcx.un _ _ he) (hcx.un _ _ hd)).trans (run_bytesToString w a' 0 0 [] hl0)
        · cases h
      · cases h
    · rename_i he
      cases hx
      simp only [Option.some.injEq] at h; subst h
      refine ⟨_, ?_, .string _⟩
      simp [convert, run_underlying (hcx.un _ _ hs), run_underlying (hcx.un _ _ hd), run_underlying (hcx.un _ _ he), Conv.bytesToString]
    · cases h
  · cases h

theorem assert_ok (hcx : CxOk P cx) {x x' v : Value} {xT t : TypeId} {ok : Bool} (h : assertA cx x xT t ok = some v) (hx : VR φ x x') :
    ∃ v', (Instr.typeAssert x' xT t ok).run P w = .ok v' w ∧ VR φ v v' := by
  have miss : ∀ {z : Value}, zeroT cx t = some z → VR φ (.tuple #[z, .bool false]) (.tuple #[z, .bool false]) := by
    intro z hz
    exact .tuple _ _ rfl ((LR.nil φ).cons (.bool false) |>.cons (VR.plain φ (zeroT_ok hcx hz w).2)).2
  unfold assertA at h
  split at h
  · rename_i want tt vv hd
    cases hx with
    | iface _ _ v' hv =>
      split at h
      · rename_i i hi
        split at h
        · rename_i hm
          have hm := missingMethod_none hm
          simp only [Option.some.injEq] at h; subst h
          refine ⟨_, ?_, okV_ok ok true (.iface _ _ _ hv)⟩
          simp [Instr.typeAssert, run_underlying (hcx.un _ _ hd), run_info (hcx.ty _ _ hi), hm]
        · rename_i hm
          obtain ⟨mm, hm⟩ := missingMethod_some (want := want) (got := i.methods) (by rw [hm]; simp)
          split at h
          · rename_i z hz
            simp only [Option.some.injEq] at h; subst h
            refine ⟨_, ?_, miss hz⟩
            simp [Instr.typeAssert, run_underlying (hcx.un _ _ hd), run_info (hcx.ty _ _ hi), hm, (zeroT_ok hcx hz w).1]
          · cases h
      · cases h
  · rename_i want hd
    cases hx
    split at h
    · rename_i z hz
      simp only [Option.some.injEq] at h; subst h
      refine ⟨_, ?_, miss hz⟩
      simp [Instr.typeAssert, run_underlying (hcx.un _ _ hd), (zeroT_ok hcx hz w).1]
    · cases h
  · rename_i d hn hd
    cases hx
    split at h
    · rename_i z hz
      simp only [Option.some.injEq] at h; subst h
      refine ⟨_, ?_, miss hz⟩
      cases d <;> first
        | exact (hn _ rfl).elim
        | simp [Instr.typeAssert, run_underlying (hcx.un _ _ hd), (zeroT_ok hcx hz w).1]
    · cases h
  · rename_i d tt vv hn hd
    cases hx with
    | iface _ _ v' hv =>
      split at h
      · rename_i e
        have e' := Tr.beq_true.1 e
        subst e'
        simp only [Option.some.injEq] at h; subst h
        refine ⟨_, ?_, okV_ok ok true hv⟩
        cases d <;> first
          | exact (hn _ _ _ rfl rfl).elim
          | exact (hn _ rfl).elim
          | simp [Instr.typeAssert, run_underlying (hcx.un _ _ hd)]
      · rename_i e
        have e' := Tr.beq_false.1 e
        split at h
        · rename_i z hz
          simp only [Option.some.injEq] at h; subst h
          refine ⟨_, ?_, miss hz⟩
          cases d <;> first
            | exact (hn _ _ _ rfl rfl).elim
            | exact (hn _ rfl).elim
            | simp [Instr.typeAssert, run_underlying (hcx.un _ _ hd), e', (zeroT_ok hcx hz w).1]
        · cases h
  · cases h

theorem len_ok (hcx : CxOk P cx) (h0 : R0 P φ m w) {ts : Array TypeId} {args : List Value} {args' : Array Value} {ty : TypeId} {v : Value} (h : lenA cx m ts.toList args = some v) (ha : LR φ args args'.toList) :
    ∃ v', (Builtin.len_ ts ty args').run P w = .ok v' w ∧ VR φ v v' := by
  unfold lenA at h
  split at h
  · rename_i t r x hts
    obtain ⟨x', r', e1, hx, hr⟩ := ha.uncons
    have hr' := hr.nil_iff
    subst hr'
    have ea : args' = #[x'] := Array.ext' (by simpa using e1)
    subst ea
    have ht : ts[0]? = some t := by rw [← Array.getElem?_toList, hts]; rfl
    split at h
    · rename_i s hd
      cases hx
      simp only [Option.some.injEq] at h; subst h
      refine ⟨.int .i64 (s.size : Int), ?_, .int _ _⟩
      simp [Builtin.len_, ht, run_underlying (hcx.un _ _ hd), goInt]
    · rename_i n e hd
      simp only [Option.some.injEq] at h; subst h
      refine ⟨_, ?_, .int _ _⟩
      simp [Builtin.len_, ht, run_underlying (hcx.un _ _ hd), goInt]
    · rename_i e a n c hd
      simp only [Option.some.injEq] at h; subst h
      cases hx <;> exact ⟨_, by simp [Builtin.len_, ht, run_underlying (hcx.un _ _ hd), goInt], .int _ _⟩
    · rename_i k e hd
      cases hx
      simp only [Option.some.injEq] at h; subst h
      exact ⟨_, by simp [Builtin.len_, ht, run_underlying (hcx.un _ _ hd), goInt], .int _ _⟩
    · rename_i k e r hd
      cases hx with
      | map _ l hr =>
        split at h
        · rename_i es clock hm
          simp only [Option.some.injEq] at h; subst h
          obtain ⟨es', hw, he⟩ := map_of h0 hm hr
          have hg := run_getObj_map (P := P) (w := w) _ _ _ hw
          refine ⟨_, ?_, .int _ _⟩
          have hsz : es'.size = es.length := by rw [he.1]; simp
          simp [Builtin.len_, ht, run_underlying (hcx.un _ _ hd), goInt, hg, hsz]
        · cases h
    · cases h
  · cases h

theorem cap_ok (hcx : CxOk P cx) (h0 : R0 P φ m w) {ts : Array TypeId} {args : List Value} {args' : Array Value} {ty : TypeId} {v : Value} (h : capA cx m ts.toList args = some v) (ha : LR φ args args'.toList) :
    ∃ v', (Builtin.cap_ ts ty args').run P w = .ok v' w ∧ VR φ v v' := by
  unfold capA at h
  split at h
  · rename_i t r x hts
    obtain ⟨x', r', e1, hx, hr⟩ := ha.uncons
    have hr' := hr.nil_iff
    subst hr'
    have ea : args' = #[x'] := Array.ext' (by simpa using e1)
    subst ea
    have ht : ts[0]? = some t := by rw [← Array.getElem?_toList, hts]; rfl
    split at h
    · rename_i n e hd
      simp only [Option.some.injEq] at h; subst h
      refine ⟨_, ?_, .int _ _⟩
      simp [Builtin.cap_, ht, run_underlying (hcx.un _ _ hd), goInt]
    · rename_i e n c hd
      cases hx
      simp only [Option.some.injEq] at h; subst h
      exact ⟨_, by simp [Builtin.cap_, ht, run_underlying (hcx.un _ _ hd), goInt], .int _ _⟩
    · rename_i e a n c hd
      split at h
      · rename_i cc nn ee hk
        simp only [Option.some.injEq] at h; subst h
        cases hx with
        | slE a a' => exact ⟨_, by simp [Builtin.cap_, ht, run_underlying (hcx.un _ _ hd), goInt], .int _ _⟩
        | sl b off _ _ cap' lc hb hc =>
          obtain ⟨l0, hl0, c', hc', hn, hre, hsz, hcells, hx1, hx2⟩ := h0.obj _ _ hk
          rw [hb] at hl0; cases hl0
          have : cap' = c := by
            rcases hc with rfl | ⟨q, _⟩
            · rfl
            · have := (hx1 rfl).1; omega
          subst this
          exact ⟨_, by simp [Builtin.cap_, ht, run_underlying (hcx.un _ _ hd), goInt], .int _ _⟩
      · cases h
    · cases h
  · cases h

theorem maxMin_ok (big : Bool) : ∀ (r : List Value) (x : Value) (r' : List Value) (x' v : Value), maxMin big x r = some v → VR φ x x' → LR φ r r' →
    ∃ v', (r'.foldlM (if big then Builtin.max2 else Builtin.min2) x').run P w = .ok v' w ∧ VR φ v v'
  | [], x, r', x', v, h, hx, hr => by
    unfold maxMin at h
    simp only [Option.some.injEq] at h; subst h
    rw [hr.nil_iff]
    exact ⟨x', by simp, hx⟩
  | y :: r, x, r', x', v, h, hx, hr => by
    obtain ⟨y', q', rfl, hy, hq⟩ := hr.uncons
    unfold maxMin at h
    split at h
    · cases ‹y :: r = []›
    · rename_i k a k' b q e
      cases e
      cases hx; cases hy
      split at h
      · obtain ⟨v', h1, h2⟩ := maxMin_ok true r _ q' _ v h (.int _ _) hq
        refine ⟨v', ?_, h2⟩
        simp only [if_true, List.foldlM_cons, Sem.run_bind, Builtin.max2, Sem.run_pure, Result.andThen_ok] at h1 ⊢
        exact h1
      · obtain ⟨v', h1, h2⟩ := maxMin_ok false r _ q' _ v h (.int _ _) hq
        refine ⟨v', ?_, h2⟩
        simp only [Bool.false_eq_true, if_false, List.foldlM_cons, Sem.run_bind, Builtin.min2, Sem.run_pure, Result.andThen_ok] at h1 ⊢
        exact h1
    · cases h

theorem unOp_ok {op : UnOp} {x x' v : Value} (h : unOpA op x = some v) (hx : VR φ x x') : (Op.unary op x').run P w = .ok v w ∧ VR φ v v := by
  unfold unOpA at h
  split at h
  · cases hx
    simp only [intOp, Option.some.injEq, wrapI_eq] at h; subst h
    exact ⟨by simp [Op.unary, Op.intArith], .int _ _⟩
  · cases hx
    simp only [intOp, Option.some.injEq] at h; subst h
    exact ⟨by simp [Op.unary, Op.intBits], .int _ _⟩
  · cases hx
    simp only [Option.some.injEq] at h; subst h
    exact ⟨by simp [Op.unary], .bool _⟩
  · cases h

end Go.AX
