/-
  OWN WORK. slices.Insert AT ANY ELEMENT, AS A SUMMARY: the executor does not know the room of a slice that has grown; the machine does. The code is run in a memory in which the slice's block is told with its whole room; what comes of it is told anew.
-/
import Derived.Test.YthpnifigjfplbaaGreatAxVdRun
import Derived.Test.YthpnifigjfplbaaGreatAxSl
import Derived.Lib.Overlaps
namespace Go.AX
set_option linter.unusedVariables false
set_option linter.unusedSectionVars false
open Go
set_option linter.unusedSimpArgs false
noncomputable section

/-! ## slices.overlaps of two blocks -/

def cellsB (m : Mem) (b : Nat) : Bool := match m.hp.get b with
  | some (.cells ..) => true
  | _ => false

def ovlA : List Value → Mem → Option (Value × Mem)
  | [.slice (some a) n _, .slice (some b) n' _], m =>
    match a.spot, b.spot with
    | none, none => match Nat.beq a.block b.block, cellsB m a.block && Nat.blt 0 n && Nat.blt 0 n', cellsB m b.block, Nat.blt 0 (match m.hp.get b.block with | some (.cells _ n _ _) => n | _ => 0) with
      | false, true, true, true => some (.bool false, m)
      | _, _, _, _ => none
    | _, _ => none
  | _, _ => none

/-! ## what an insertion makes -/

/-- what a value points to was there -/
def lowV (nx : Nat) : Value → Bool
  | .slice (some a) _ _ => match a.spot with
    | some _ => true
    | none => Nat.blt a.block nx
  | .pointer (some a) => match a.spot with
    | some _ => false
    | none => Nat.blt a.block nx
  | v => plain1 v

def insOk (m : Mem) (e e' sz b off n c i k bv N by_ : Nat) (l vs : List Value) : Bool :=
  Nat.beq e' e && Nat.beq (off + c * sz) N && Nat.ble m.fl b && !Nat.beq bv b && cellsB m bv && l.all (lowV m.nx) && vs.all (lowV m.nx) && l.all one1 && vs.all one1 && Nat.blt 0 k && Nat.blt i n && Nat.ble n c && Nat.beq vs.length (k * sz) && Nat.beq l.length (n * sz) &&
    Nat.blt 0 sz && Nat.ble by_ 1000 && Nat.ble (n + k) 1000000

def insB (e sz by_ : Nat) (m : Mem) (b off n c i k : Nat) (av : Addr) (ck : Nat) : Option (Value × Mem) :=
  match m.hp.get b, rowAtL m ⟨b, off, none⟩ (n * sz), firstL m sz k (.slice (some av) k ck) with
  | some (.cells _ N e' true), some l, some vs => match insOk m e e' sz b off n c i k av.block N by_ l vs with
    | true => some (.slice (some ⟨m.nx, 0, none⟩) (n + k) (n + k), (newCells { m with hp := m.hp.del b } (l.take (i * sz) ++ vs ++ l.drop (i * sz)) e true).2)
    | false => none
  | _, _, _ => none

def isSlV : Option Value → Bool
  | some (.slice ..) => true
  | _ => false

/-- cxb: the program without summaries; t: the slice's type; e: the element's; sz: its cells; by_: its bytes -/
def insA (cxb : Cx) (t e sz by_ : Nat) : List Value → Mem → Option (Value × Mem)
  | [.slice a n c, .int .i64 i, .slice v k ck], m =>
    match decide (i = (n : Int)) with
    | true => match isSlV (sliceOp cxb m t (.slice a n c) (some (.int .i64 i)) none none), Nat.blt 0 k with
      | true, true => appendA cxb m [t, t] [.slice a n c, .slice v k ck]
      | _, _ => none
    | false => match decide (0 ≤ i), a, v with
      | true, some ⟨b, off, none⟩, some av => match av.spot with
        | none => insB e sz by_ m b off n c i.toNat k av ck
        | some _ => none
      | _, _, _ => none
  | _, _ => none

/-! ## they leave what is beside; they keep memory in form -/

theorem cellsB_bes {E : Nat → Option AObj} {u m : Mem} (h : Bes E u m) {b : Nat} (e : cellsB u b = true) : cellsB m b = true := by
  unfold cellsB at e ⊢
  cases hg : u.hp.get b with
  | none => rw [hg] at e; cases e
  | some o => rw [hg] at e; rw [h.got hg]; exact e

theorem ovlA_bes {a : List Value} {u : Mem} {r : Value} {u' : Mem} (e : ovlA a u = some (r, u')) (E : Nat → Option AObj) (m : Mem) (h : Bes E u m) : ∃ m', ovlA a m = some (r, m') ∧ Bes E u' m' := by
  unfold ovlA at e ⊢
  split at e
  · rename_i a n c b n' c'
    split at e
    · rename_i h1 h2
      split at e
      · rename_i g1 g2 g3 g4
        cases e
        refine ⟨m, ?_, h⟩
        have k4 : (match m.hp.get b.block with | some (.cells _ n _ _) => n | _ => 0) = (match u.hp.get b.block with | some (.cells _ n _ _) => n | _ => 0) := by
          unfold cellsB at g3
          cases hg : u.hp.get b.block with
          | none => rw [hg] at g3; cases g3
          | some o => rw [h.got hg]
        simp only [Bool.and_eq_true] at g2
        have g2' : (cellsB m a.block && Nat.blt 0 n && Nat.blt 0 n') = true := by rw [cellsB_bes h g2.1.1, g2.1.2, g2.2]; rfl
        simp only [h1, h2, g1, g2', cellsB_bes h g3, k4, g4]
      · cases e
    · cases e
  · cases e

theorem insOk_bes {E : Nat → Option AObj} {u m : Mem} (h : Bes E u m) {e e' sz b off n c i k bv N by_ : Nat} {l vs : List Value} (g : insOk u e e' sz b off n c i k bv N by_ l vs = true) : insOk m e e' sz b off n c i k bv N by_ l vs = true := by
  unfold insOk at g ⊢
  rw [h.nx, h.fl]
  simp only [Bool.and_eq_true] at g ⊢
  obtain ⟨⟨⟨⟨⟨⟨⟨⟨⟨⟨⟨⟨⟨⟨⟨⟨g1, g2⟩, g3⟩, g4⟩, g5⟩, g6⟩, g7⟩, g8⟩, g9⟩, g10⟩, g11⟩, g12⟩, g13⟩, g14⟩, g15⟩, g16⟩, g17⟩ := g
  exact ⟨⟨⟨⟨⟨⟨⟨⟨⟨⟨⟨⟨⟨⟨⟨⟨g1, g2⟩, g3⟩, g4⟩, cellsB_bes h g5⟩, g6⟩, g7⟩, g8⟩, g9⟩, g10⟩, g11⟩, g12⟩, g13⟩, g14⟩, g15⟩, g16⟩, g17⟩

theorem insB_bes {e sz by_ : Nat} {u : Mem} {b off n c i k : Nat} {av : Addr} {ck : Nat} {r : Value} {u' : Mem} (g : insB e sz by_ u b off n c i k av ck = some (r, u')) (E : Nat → Option AObj) (m : Mem) (h : Bes E u m) : ∃ m', insB e sz by_ m b off n c i k av ck = some (r, m') ∧ Bes E u' m' := by
  unfold insB at g ⊢
  split at g
  · rename_i cc N e' l vs h1 h2 h3
    split at g
    · rename_i hok
      cases g
      have hd := h.del (b := b) (h.noE h1)
      obtain ⟨_, hb⟩ := newCells_bes hd (l.take (i * sz) ++ vs ++ l.drop (i * sz)) e true
      refine ⟨_, ?_, hb⟩
      simp only [h.got h1, rowAtL_bes h h2, firstL_bes h h3, insOk_bes h hok, h.nx]
    · cases g
  · cases g

theorem insA_bes {cxb : Cx} {t e sz by_ : Nat} {a : List Value} {u : Mem} {r : Value} {u' : Mem} (g : insA cxb t e sz by_ a u = some (r, u')) (E : Nat → Option AObj) (m : Mem) (h : Bes E u m) : ∃ m', insA cxb t e sz by_ a m = some (r, m') ∧ Bes E u' m' := by
  unfold insA at g ⊢
  split at g
  · rename_i a n c i v k ck
    split at g
    · rename_i hd
      split at g
      · rename_i h1 h2
        obtain ⟨m', p, q⟩ := appendA_bes h g
        refine ⟨m', ?_, q⟩
        have h1' : isSlV (sliceOp cxb m t (.slice a n c) (some (.int .i64 i)) none none) = true := by
          cases hs : sliceOp cxb u t (.slice a n c) (some (.int .i64 i)) none none with
          | none => rw [hs] at h1; cases h1
          | some x => rw [hs] at h1; rw [sliceOp_bes h hs]; exact h1
        (try simp only [hd, h1', h2]); exact p
      · cases g
    · rename_i hd
      split at g
      · rename_i b off av h1
        split at g
        · rename_i hs
          obtain ⟨m', p, q⟩ := insB_bes g E m h
          refine ⟨m', ?_, q⟩
          (try simp only [hd, h1, hs]); exact p
        · cases g
      · cases g
  · cases g

theorem ovlA_nice {a : List Value} {u : Mem} {r : Value} {u' : Mem} (e : ovlA a u = some (r, u')) (hw : Wf u) : Nice u u' := by
  unfold ovlA at e
  split at e
  · split at e
    · split at e
      · cases e; exact Nice.refl hw
      · cases e
    · cases e
  · cases e

theorem del_nice {u : Mem} (hw : Wf u) (b : Nat) : Nice u { u with hp := u.hp.del b } :=
  ⟨⟨hw.1, fun b' hb' => by
    show (u.hp.del b).get b' = none
    rw [Tr.get_del]
    split
    · rfl
    · exact hw.2 b' hb'⟩, rfl, Nat.le_refl _⟩

theorem insB_nice {e sz by_ : Nat} {u : Mem} {b off n c i k : Nat} {av : Addr} {ck : Nat} {r : Value} {u' : Mem} (g : insB e sz by_ u b off n c i k av ck = some (r, u')) (hw : Wf u) : Nice u u' := by
  unfold insB at g
  split at g
  · split at g
    · cases g
      have h1 := del_nice hw b
      exact h1.trans (newCells_nice h1.wf _ _ _)
    · cases g
  · cases g

theorem insA_nice {cxb : Cx} {t e sz by_ : Nat} {a : List Value} {u : Mem} {r : Value} {u' : Mem} (g : insA cxb t e sz by_ a u = some (r, u')) (hw : Wf u) : Nice u u' := by
  unfold insA at g
  split at g
  · split at g
    · split at g
      · exact appendA_nice hw g
      · cases g
    · split at g
      · split at g
        · exact insB_nice g hw
        · cases g
      · cases g
  · cases g

end
end Go.AX
