/-
  OWN WORK. THE PROGRAM's TABLES: package variables whose text lays plain data: the executor's memory ahead of a call that reads them.
-/
import Derived.Test.YtdeknemdeijljaaDoorAxTop
import Derived.OpenShut
namespace Go.AX

variable [Kap]
open Go Go.RowKit

/-- tables: which variable, what its cells hold -/
abbrev Tabs := List (Nat × List Value)

noncomputable def tabHeap (f : Nat → TypeId) : Tabs → Tr AObj
  | [] => .nil
  | x :: r => (tabHeap f r).put x.1 (.cells (writeL .nil x.2 0) x.2.length (f x.1) false)

/-- the memory ahead of a call: the tables, which none may write -/
noncomputable def tabMem (P : Program) (f : Nat → TypeId) (ts : Tabs) : Mem := ⟨tabHeap f ts, P.globals.size + 1, P.globals.size + 1⟩

omit [Kap] in
theorem tabHeap_get {f : Nat → TypeId} : ∀ {ts : Tabs} {b : Nat} {o : AObj}, (tabHeap f ts).get b = some o → ∃ x ∈ ts, x.1 = b ∧ o = .cells (writeL .nil x.2 0) x.2.length (f x.1) false
  | [], b, o, h => by rw [show (tabHeap f []).get b = none from Tr_nil_get b] at h; cases h
  | x :: r, b, o, h => by
    simp only [tabHeap] at h
    rw [Tr.get_put] at h
    by_cases e : b = x.1
    · rw [if_pos e] at h; cases h
      exact ⟨x, List.mem_cons_self .., e.symm, rfl⟩
    · rw [if_neg e] at h
      obtain ⟨y, h1, h2⟩ := tabHeap_get h
      exact ⟨y, List.mem_cons_of_mem _ h1, h2⟩

def tyAt (w : World) (b : Nat) : TypeId := match w.heap[b]? with
  | some (.cells _ t _) => t
  | _ => 0

def szAt (w : World) (b : Nat) : Nat := match w.heap[b]? with
  | some (.cells c _ _) => c.size
  | _ => 0

def φT (P : Program) (w : World) : Phi := fun b => if b < P.globals.size + 1 then some ⟨b, 0, szAt w b, szAt w b, 0⟩ else none

/-- in this world the tables stand -/
def TabsAt (P : Program) (ts : Tabs) (w : World) : Prop := ∀ x ∈ ts, x.1 < P.globals.size ∧ x.2.all plain1 = true ∧ ∃ t, w.heap[x.1]? = some (.cells x.2.toArray t (0, 0))

omit [Kap] in
theorem tab_rr {P : Program} {ts : Tabs} {w : World} (h : TabsAt P ts w) : RR P (φT P w) (tabMem P (tyAt w) ts) w := by
  refine ⟨⟨?_, ?_, ?_⟩, ?_, Nat.le_refl _⟩
  · intro b o hb
    obtain ⟨x, hx, rfl, rfl⟩ := tabHeap_get hb
    obtain ⟨h1, h2, t, h3⟩ := h x hx
    refine ⟨_, if_pos (Nat.lt_succ_of_lt h1), ?_⟩
    refine ⟨x.2.toArray, ?_, ?_, ?_, ?_, ?_, fun _ => ⟨rfl, ?_⟩, fun q => by cases q⟩
    · show w.heap[x.1]? = _
      rw [h3, tyAt, h3]
    · simp [szAt, h3]
    · simp [szAt, h3]
    · simp [szAt, h3]
    · intro i hi
      refine ⟨x.2[i], x.2[i], ?_, ?_, VR.plain1 _ (List.all_eq_true.1 h2 _ (List.getElem_mem hi))⟩
      · rw [writeL_get, if_pos ⟨Nat.zero_le _, by omega⟩, Nat.sub_zero, List.getElem?_eq_getElem hi]
      · simp [hi]
    · simp [szAt, h3]
  · intro b1 b2 o1 o2 l1 l2 h1 h2 p1 p2 hr
    unfold φT at p1 p2
    split at p1
    · split at p2
      · cases p1; cases p2; exact hr
      · cases p2
    · cases p1
  · intro g hg
    exact ⟨_, if_pos (Nat.lt_succ_of_le hg), rfl, rfl⟩
  · intro b hb
    exact if_neg (by have : P.globals.size + 1 ≤ b := hb; omega)

theorem tab_below {P : Program} {ts : Tabs} {w w' : World} {φ' : Phi} {m' : Mem} {f : Nat → TypeId} (ht : ∀ x ∈ ts, x.1 < P.globals.size) (h : Stp (φT P w) (tabMem P f ts) w φ' m' w') : Below w.heap.size w w' :=
  ⟨h.os, h.tape, h.output, h.size, fun k hk => h.same k hk (by
    rintro ⟨b, o, l, h0, h1, _⟩
    obtain ⟨x, hx, rfl, _⟩ := tabHeap_get h1
    have : P.globals.size + 1 ≤ x.1 := h0
    have := ht x hx
    omega)⟩

theorem tab_true {P : Program} {cx : Cx} (hcx : CxOk P cx) (hov : OvOk P cx) (hmix : P.follows .mixedOrders = true) {n k : Nat} {ts : Tabs} (h : ∀ f, isTrue (callN cx n k [] (tabMem P f ts)) = true) (w : World) (hw : TabsAt P ts w) :
    Calls P k #[] w fun e w' => e = .returned (.bool true) ∧ Below w.heap.size w w' := by
  have h := h (tyAt w)
  rcases hc : callN cx n k [] (tabMem P (tyAt w) ts) with _ | ⟨v, m'⟩
  · rw [hc] at h; cases h
  · rw [hc] at h
    have hv : v = .bool true := by
      unfold isTrue at h
      split at h
      · rename_i heq; cases heq; rfl
      · cases h
    subst hv
    have := callN_ok hcx hov hmix hc (φT P w) w #[] ⟨rfl, fun i v v' h => by simp at h⟩ (tab_rr hw)
    refine this.mono ?_
    rintro e w' ⟨v', φ', rfl, hv, _, hs⟩
    refine ⟨?_, tab_below (fun x hx => (hw x hx).1) hs⟩
    cases hv
    rfl

/-! ## from what the row lays -/

omit [Kap] in
theorem laid_heap {P : Program} {w : World} : ∀ {laid : List (String × DataW Unit)} {ps : List MemPlace}, DataW.LaidVars P w laid ps →
    (∀ b off, MemPlace.cell b off ∈ ps → ∃ c t, w.heap[b]? = some (.cells c t (0, 0))) →
    ∀ x ∈ laid, ∃ g t cs fuel p, P.globalNamed x.1 = some g ∧ (P.globals[g]?).map (·.type) = some t ∧ DataW.trod (fun _ => ()) P w 0 (fun _ => true) false fuel t cs.toList = some (x.2, p) ∧
      (0 < cs.size → ∃ t', w.heap[g]? = some (.cells cs t' (0, 0)))
  | [], _, _, _, x, hx => by cases hx
  | (n, d) :: r, ps, h, hz, x, hx => by
    obtain ⟨g, t, cs, fuel, p, q, h1, h2, h3, h4, h5, rfl⟩ := h
    rcases List.mem_cons.1 hx with rfl | hx
    · refine ⟨g, t, cs, fuel, p, h1, h2, h4, fun hpos => ?_⟩
      obtain ⟨c, t', hc⟩ := hz g 0 (by
        rw [List.append_assoc]
        refine List.mem_append_left _ ?_
        simp only [MemPlace.row, List.mem_map, List.mem_range]
        exact ⟨0, hpos, by simp⟩)
      unfold World.var? at h3
      rw [h1] at h3
      simp only [Option.bind_some, hc, Option.some.injEq] at h3
      subst h3
      exact ⟨t', hc⟩
    · exact laid_heap h5 (fun b off hm => hz b off (List.mem_append_right _ hm)) x hx

omit [Kap] in
/-- an array of integers: its cells -/
theorem cells_ints {P : Program} {w : World} {t e : TypeId} {n : Nat} {k : IntKind} (ht : P.underlying t = some (.array n e)) (he : P.underlying e = some (.int k)) (hc : P.cellsOf e = 1) (hn : P.cellsOf t = n)
    {fuel : Nat} {cs : List Value} {zs : List Int} {p : List MemPlace} (h : DataW.trod (fun _ => ()) P w 0 (fun _ => true) false fuel t cs = some (.agg (zs.map fun z => .lit (.int k z)), p)) : cs = zs.map (Value.int k) := by
  obtain ⟨xs, m, _, h1, h2, h3, h4⟩ := DataW.trod_array ht h
  simp only [Prod.mk.injEq, DataW.agg.injEq] at h1
  have hl : zs.length = n := by
    have := congrArg List.length h1.1
    simpa [h3] using this
  refine List.ext_getElem? fun i => ?_
  by_cases hi : i < n
  · have hi4 := h4 i hi
    rw [hc, Nat.mul_one] at hi4
    have hix : i < xs.length := by omega
    rw [List.getElem?_eq_getElem hix] at hi4
    obtain ⟨z, g1, g2, _⟩ := DataW.trod_int he hi4
    have hz : (xs.map (·.1))[i]? = some (.lit (.int k z)) := by
      rw [List.getElem?_map, List.getElem?_eq_getElem hix]
      simp [g2]
    rw [← h1.1, List.getElem?_map] at hz
    have hic : i < cs.length := by omega
    have hd : cs[i]? = some (.int k z) := by
      have := congrArg (·[0]?) g1
      simpa [List.getElem?_take, List.getElem?_drop] using this
    rw [hd, List.getElem?_map]
    rw [List.getElem?_eq_getElem (by omega)] at hz ⊢
    simp only [Option.map_some, Option.some.injEq, DataW.lit.injEq, Lit.int.injEq, true_and] at hz ⊢
    rw [hz]
  · rw [List.getElem?_eq_none (by omega), List.getElem?_eq_none (by simp; omega)]

end Go.AX
