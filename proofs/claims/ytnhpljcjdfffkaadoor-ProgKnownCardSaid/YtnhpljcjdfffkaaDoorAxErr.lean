/-
  OWN WORK. TABLES AND ERRORS: package variables that hold plain data, and such as hold an error (an interface with a pointer that is not nil).
-/
import Derived.Test.YtnhpljcjdfffkaaDoorAxTab
import Derived.Stop.LaidErr
namespace Go.AX
open Go Go.RowKit

/-- errors: which variable, which block the pointer goes to, of what type -/
abbrev Errs := List (Nat × Nat × TypeId)

def errHeap (f : Nat → TypeId) (h : Tr AObj) : Errs → Tr AObj
  | [] => h
  | x :: r => (errHeap f h r).put x.1 (.cells (writeL .nil [.iface x.2.2 (.pointer (some ⟨x.2.1, 0, none⟩))] 0) 1 (f x.1) false)

/-- the memory ahead of a call: 'nx' the first free number -/
def errMem (f : Nat → TypeId) (ts : Tabs) (es : Errs) (nx : Nat) : Mem := ⟨errHeap f (tabHeap f ts) es, nx, nx⟩

theorem errHeap_get {f : Nat → TypeId} {h : Tr AObj} : ∀ {es : Errs} {b : Nat} {o : AObj}, (errHeap f h es).get b = some o →
    (∃ x ∈ es, x.1 = b ∧ o = .cells (writeL .nil [.iface x.2.2 (.pointer (some ⟨x.2.1, 0, none⟩))] 0) 1 (f x.1) false) ∨ h.get b = some o
  | [], b, o, hg => .inr hg
  | x :: r, b, o, hg => by
    simp only [errHeap] at hg
    rw [Tr.get_put] at hg
    by_cases e : b = x.1
    · rw [if_pos e] at hg; cases hg
      exact .inl ⟨x, List.mem_cons_self .., e.symm, rfl⟩
    · rw [if_neg e] at hg
      rcases errHeap_get hg with ⟨y, h1, h2⟩ | h1
      · exact .inl ⟨y, List.mem_cons_of_mem _ h1, h2⟩
      · exact .inr h1

def ptrAt (w : World) (g : Nat) : Option Loc := match w.heap[g]? with
  | some (.cells ⟨[Value.iface _ (.pointer (some a))]⟩ _ _) => some ⟨a.block, a.off, 0, 0, 0⟩
  | _ => none

def φE (P : Program) (es : Errs) (w : World) : Phi := fun b => if b < P.globals.size then some ⟨b, 0, szAt w b, szAt w b, 0⟩ else match es.find? (fun x => x.2.1 == b) with
  | some x => ptrAt w x.1
  | none => none

def ErrsAt (P : Program) (es : Errs) (nx : Nat) (w : World) : Prop :=
  P.globals.size ≤ nx ∧ ∀ x ∈ es, x.1 < P.globals.size ∧ P.globals.size ≤ x.2.1 ∧ x.2.1 < nx ∧ (es.find? (fun y => y.2.1 == x.2.1)) = some x ∧
    ∃ a t, w.heap[x.1]? = some (.cells #[.iface x.2.2 (.pointer (some a))] t (0, 0)) ∧ a.spot = none

theorem err_rr {P : Program} {ts : Tabs} {es : Errs} {nx : Nat} {w : World} (h : TabsAt P ts w) (he : ErrsAt P es nx w) : RR P (φE P es w) (errMem (tyAt w) ts es nx) w := by
  have low : ∀ {b o}, (errMem (tyAt w) ts es nx).hp.get b = some o → b < P.globals.size := by
    intro b o hb
    rcases errHeap_get hb with ⟨x, hx, rfl, _⟩ | hb
    · exact (he.2 x hx).1
    · obtain ⟨x, hx, rfl, _⟩ := tabHeap_get hb
      exact (h x hx).1
  refine ⟨⟨?_, ?_, ?_⟩, ?_, Nat.le_refl _⟩
  · intro b o hb
    rcases errHeap_get hb with ⟨x, hx, rfl, rfl⟩ | hb
    · obtain ⟨h1, h2, _, h3, a, t, h4, h5⟩ := he.2 x hx
      refine ⟨_, if_pos h1, ?_⟩
      refine ⟨#[.iface x.2.2 (.pointer (some a))], ?_, ?_, ?_, ?_, ?_, fun _ => ⟨rfl, ?_⟩, fun q => by cases q⟩
      · show w.heap[x.1]? = _
        rw [h4, tyAt, h4]
      · simp [szAt, h4]
      · simp [szAt, h4]
      · simp [szAt, h4]
      · intro i hi
        obtain rfl : i = 0 := by omega
        refine ⟨_, .iface x.2.2 (.pointer (some a)), rfl, by simp, .iface _ _ _ ?_⟩
        have hφ : φE P es w x.2.1 = some ⟨a.block, a.off, 0, 0, 0⟩ := by
          unfold φE
          rw [if_neg (by omega), h3]
          simp [ptrAt, h4]
        have := VR.ptr (φ := φE P es w) x.2.1 0 _ hφ
        obtain ⟨ab, ao, asp⟩ := a
        dsimp only at h5
        subst h5
        exact this
      · simp [szAt, h4]
    · obtain ⟨x, hx, rfl, rfl⟩ := tabHeap_get hb
      obtain ⟨h1, h2, t, h3⟩ := h x hx
      refine ⟨_, if_pos h1, ?_⟩
      refine ⟨x.2.toArray, ?_, ?_, ?_, ?_, ?_, fun _ => ⟨rfl, ?_⟩, fun q => by cases q⟩
      · show w.heap[x.1]? = _
        rw [h3, tyAt, h3]
      · simp [szAt, h3]
      · simp [szAt, h3]
      · simp [szAt, h3]
      · intro i hi
        refine ⟨x.2[i], x.2[i], ?_, ?_, VR.plain1 _ (List.all_eq_true.1 h2 _ (List.getElem_mem hi))⟩
        · rw [writeL_get, if_pos ⟨Nat.zero_le _, by omega⟩, Nat.sub_zero, List.getElem?_eq_getElem hi]
        · simp [hi]
      · simp [szAt, h3]
  · intro b1 b2 o1 o2 l1 l2 h1 h2 p1 p2 hr
    unfold φE at p1 p2
    rw [if_pos (low h1)] at p1
    rw [if_pos (low h2)] at p2
    cases p1; cases p2; exact hr
  · intro g hg
    exact ⟨_, if_pos hg, rfl, rfl⟩
  · intro b hb
    have hb' : nx ≤ b := hb
    unfold φE
    rw [if_neg (by have := he.1; omega)]
    split
    · rename_i x hx
      have h1 := List.mem_of_find?_eq_some hx
      have h2 := List.find?_some hx
      simp only [beq_iff_eq] at h2
      have := (he.2 x h1).2.2.1
      omega
    · rfl

theorem err_true {P : Program} {cx : Cx} (hcx : CxOk P cx) (hov : OvOk P cx) (hmix : P.follows .mixedOrders = true) {n k nx : Nat} {ts : Tabs} {es : Errs} (h : ∀ f, isTrue (callN cx n k [] (errMem f ts es nx)) = true) (w : World) (hw : TabsAt P ts w) (he : ErrsAt P es nx w) :
    Calls P k #[] w fun e w' => e = .returned (.bool true) ∧ Below w.heap.size w w' := by
  have h := h (tyAt w)
  rcases hc : callN cx n k [] (errMem (tyAt w) ts es nx) with _ | ⟨v, m'⟩
  · rw [hc] at h; cases h
  · rw [hc] at h
    have hv : v = .bool true := by
      unfold isTrue at h
      split at h
      · rename_i heq; cases heq; rfl
      · cases h
    subst hv
    have := callN_ok hcx hov hmix hc (φE P es w) w #[] ⟨rfl, fun i v v' h => by simp at h⟩ (err_rr hw he)
    refine this.mono ?_
    rintro e w' ⟨v', φ', rfl, hv, _, hs⟩
    refine ⟨?_, hs.os, hs.tape, hs.output, hs.size, fun k hk => hs.same k hk ?_⟩
    · cases hv
      rfl
    · rintro ⟨b, o, l, h0, h1, _⟩
      have h0' : nx ≤ b := h0
      rcases errHeap_get h1 with ⟨x, hx, rfl, _⟩ | h1
      · have := (he.2 x hx).1
        have := he.1
        omega
      · obtain ⟨x, hx, rfl, _⟩ := tabHeap_get h1
        have := (hw x hx).1
        have := he.1
        omega

/-- an error that the row lays: its cell -/
theorem laid_err {P : Program} {n nm : String} {text : List UInt8} {r : List (String × DataW Unit)} {W : World} {g : Nat} {ti tp te ts : TypeId} {ms : Array (String × TypeId)} {f : Field}
    (h : laidMet P ((n, .iface nm (.ptr (.agg [.lit (.string text)]))) :: r) W)
    (hg : P.globalNamed n = some g) (ht : (P.globals[g]?).map (·.type) = some ti) (hi : P.underlying ti = some (.interface ms)) (hrow : ∀ u, P.typeName? 3 u = some nm → u = tp)
    (hp : P.underlying tp = some (.pointer te)) (he : P.underlying te = some (.struct #[f])) (hft : f.type = ts) (hfo : f.offset = 0) (hs : P.underlying ts = some .string) (hc : P.cellsOf te = 1) (hcs : P.cellsOf ts = 1) :
    ∃ a t, W.heap[g]? = some (.cells #[.iface tp (.pointer (some a))] t (0, 0)) ∧ a.spot = none := by
  obtain ⟨a, s, h1, h2, _⟩ := laid_sentinel h hg ht hi hrow hp he hft hfo hs hc hcs
  obtain ⟨ps, hv, _, hz⟩ := h
  obtain ⟨g', t', cs', fuel, p, q, g1, g2, g3, g4, g5, rfl⟩ := hv
  have : g' = g := Option.some.inj (g1.symm.trans hg)
  subst this
  rw [h1] at g3
  obtain rfl := Option.some.inj g3
  obtain ⟨c, t, hct⟩ := (hz g' 0 (by simp [MemPlace.row])).1
  have hc1 : c = #[.iface tp (.pointer (some a))] := by
    unfold World.var? at h1
    rw [hg] at h1
    simpa [hct] using h1
  subst hc1
  refine ⟨a, t, hct, ?_⟩
  unfold World.cell? at h2
  split at h2
  · split at h2
    · cases h2
    · rename_i hsp
      cases hx : a.spot with
      | none => rfl
      | some y => simp [hx] at hsp
  · cases h2

end Go.AX
