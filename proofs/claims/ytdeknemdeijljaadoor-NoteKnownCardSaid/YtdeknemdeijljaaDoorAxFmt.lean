/-
  OWN WORK. math/bits.Len64 AND internal/strconv.formatBase10 BY THEIR CONTRACTS (the shelf's), as summaries.
-/
import Derived.Test.YtdeknemdeijljaaDoorAxSort
import Derived.Test.YtdeknemdeijljaaDoorAxBelow
import Derived.Lib.ItoaNum
import Derived.Deep.Draws
namespace Go.AX

variable [Kap]
open Go Go.Sort Go.RowKit

def len64A : List Value → Mem → Option (Value × Mem)
  | [.int .u64 x], m => if 0 ≤ x ∧ x ≤ 18446744073709551615 then some (.int .i64 (Lib.bitLen x.toNat), m) else none
  | _, _ => none

theorem len64_ok {P : Program} {k : FuncId} {fn : Func} (hf : P.funcs[k]? = some fn) (hb : fn.body.isSome = true) (hn : (fn.name == "runtime.NumGoroutine") = false)
    (h0 : ∀ (x : Int) (w : World), 0 ≤ x → x ≤ 18446744073709551615 → Calls P k #[.int .u64 x] w fun e w' => e = .returned (.int .i64 (Lib.bitLen x.toNat)) ∧ w' = w) : SumOk P k len64A := by
  intro args m v m' h φ w args' hl hr
  obtain ⟨bd, hb⟩ := Option.isSome_iff_exists.1 hb
  refine .inl ⟨run_callFunc hf hb hn _ _, ?_⟩
  unfold len64A at h
  split at h
  · rename_i x
    split at h
    · rename_i hc
      cases h
      obtain ⟨x1, r1, e1, g1, hl⟩ := hl.one
      rw [hl.none] at e1
      obtain ⟨l'⟩ := args'
      simp only at e1; subst e1
      cases g1
      refine (h0 x w hc.1 hc.2).mono ?_
      rintro e w' ⟨rfl, rfl⟩
      exact ⟨_, φ, rfl, .int _ _, hr, Stp.refl _ _ _⟩
    · cases h
  · cases h

def u8V (b : UInt8) : Value := .int .u8 (b.toNat : Int)

/-- the digits of u, n of them and one more -/
def digs (n u : Nat) : List UInt8 := (List.range (n + 1)).map fun t => Lib.dg u (n - t)

open Classical in
noncomputable def fmt10A : List Value → Mem → Option (Value × Mem)
  | [.slice (some a) (n + 1) _, .int .u64 u], m => match a.spot, m.hp.get a.block with
    | none, some (.cells c k e x) => match readL c (n + 1) a.off with
      | some l => if (∃ bs : List UInt8, l = bs.map u8V) ∧ 0 ≤ u ∧ u < 18446744073709551616 ∧ u.toNat < 10 ^ (n + 1) ∧ a.off + (n + 1) ≤ k ∧ m.fl ≤ a.block ∧ n + 1 ≤ 1000000000
        then some (.tuple #[], { m with hp := m.hp.put a.block (.cells (writeL c ((digs n u.toNat).map u8V) a.off) k e x) }) else none
      | none => none
    | _, _ => none
  | _, _ => none

omit [Kap] in
theorem all_plain_u8 (l : List UInt8) : (l.map u8V).all plain1 = true := by
  induction l with
  | nil => rfl
  | cons a r ih => simp [u8V, plain1, ih]

theorem fmt10_ok {P : Program} {k : FuncId} {fn : Func} (hf : P.funcs[k]? = some fn) (hb : fn.body.isSome = true) (hn : (fn.name == "runtime.NumGoroutine") = false)
    (h0 : ∀ (blk off cap : Nat) (u : Nat) (d : Array UInt8) (w : World), Holds (fun (b : UInt8) => Value.int .u8 (b.toNat : Int)) w blk off d → u < 10 ^ d.size → u < 18446744073709551616 → d.size < 4611686018427387904 →
      Calls P k #[.slice (some ⟨blk, off, none⟩) d.size cap, .int .u64 u] w fun e w' =>
        e = .returned (.tuple #[]) ∧ ∃ (n v' : Nat) (dk : Array UInt8), w' = (putRow (fun (b : UInt8) => Value.int .u8 (b.toNat : Int)) w blk off dk).drewN n ∧ Lib.FmtInv d.size u 0 v' dk) : SumOk P k fmt10A := by
  intro args m v m' h φ w args' hl hr
  obtain ⟨bd, hb⟩ := Option.isSome_iff_exists.1 hb
  refine .inl ⟨run_callFunc hf hb hn _ _, ?_⟩
  unfold fmt10A at h
  split at h
  · rename_i a n c0 u
    obtain ⟨x1, r1, e1, g1, hl⟩ := hl.one
    obtain ⟨x2, r2, e2, g2, hl⟩ := hl.one
    rw [hl.none] at e2; rw [e2] at e1
    obtain ⟨l'⟩ := args'
    simp only at e1; subst e1
    cases g2
    split at h
    · rename_i c k' e x hs hk
      split at h
      · rename_i l hrl
        split at h
        · rename_i hc
          obtain ⟨⟨bs, rfl⟩, h1, h2, h3, h4, h5, h6⟩ := hc
          cases h
          obtain ⟨un, rfl⟩ : ∃ un : Nat, u = (un : Int) := ⟨u.toNat, by omega⟩
          simp only [Int.toNat_natCast] at h3 ⊢
          have hll := (readL_get' hrl).1
          have hbs : bs.length = n + 1 := by simpa using hll
          cases g1 with
          | sl b off _ _ cap' lc hlc hcr =>
            have hdl : (digs n un).length = n + 1 := by simp [digs]
            obtain ⟨q1, q2, q3⟩ := row_anew hr hk hlc h4 hrl (all_plain_u8 bs) (all_plain_u8 (digs n un)) (by simp [hdl]) h5
            have hH : Holds (fun (b : UInt8) => Value.int .u8 (b.toNat : Int)) w lc.rb (lc.ro + off) bs.toArray := by
              intro j hj
              simp only [List.size_toArray] at hj
              obtain ⟨a1, a2⟩ := q2 j (by simpa using hj)
              refine ⟨?_, a2⟩
              rw [a1]
              simp [hj, u8V]
            have hcall := h0 lc.rb (lc.ro + off) cap' un bs.toArray w hH (by simpa [hbs] using h3) (by omega) (by simp [hbs]; omega)
            simp only [List.size_toArray, hbs] at hcall
            refine hcall.mono ?_
            rintro e w' ⟨rfl, q, v', dk, rfl, inv⟩
            have hdk : dk.toList = digs n un := by
              have hsz := inv.size
              apply List.ext_getElem?
              intro i
              by_cases hi : i < n + 1
              · have := inv.done i (by omega) hi
                have hi' : i < dk.size := by omega
                rw [getElem!_pos dk i hi'] at this
                simp only [Array.getElem?_toList]
                rw [Array.getElem?_eq_getElem hi', this]
                simp [digs, hi]
              · rw [List.getElem?_eq_none (by simp; omega), List.getElem?_eq_none (by omega)]
            have hw' : (putRow (fun (b : UInt8) => Value.int .u8 (b.toNat : Int)) w lc.rb (lc.ro + off) dk).drewN q = grow (putRow (id : Value → Value) (Sort.ahead w q) lc.rb (lc.ro + off) ((digs n un).map u8V).toArray) #[] := by
              have e1 : putRow (fun (b : UInt8) => Value.int .u8 (b.toNat : Int)) w lc.rb (lc.ro + off) dk = putRow u8V w lc.rb (lc.ro + off) dk := rfl
              rw [e1, putRow_map, show Array.map u8V dk = ((digs n un).map u8V).toArray by rw [← hdk]; exact Array.ext' (by rw [Array.toList_map])]
              simp [grow, putRow, mapBlock, Sort.ahead, World.drewN]
            rw [hw']
            exact ⟨_, φ, rfl, .tuple _ _ rfl (fun i v v' h => by simp at h), (q3 q #[]).1, (q3 q #[]).2⟩
        · cases h
      · cases h
    · cases h
  · cases h

end Go.AX
