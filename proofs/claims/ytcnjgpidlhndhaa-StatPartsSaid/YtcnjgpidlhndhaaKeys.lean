/-
  (*Stats).All: slices.Sorted(maps.Keys(s.m)), by the shelf's contracts, as a summary.
-/
import Derived.Shelf.SlIterI.Nil
import Derived.Shelf.SortM.Plain
import Derived.Shelf.SortM.SortNone
import Derived.Ground.GgzProg
import Derived.Ground.SlgmProg
import Derived.Test.YtcnjgpidlhndhaaRows
import Derived.Test.YtcnjgpidlhndhaaAxKeys
import Derived.KernelRfl
namespace Go.Proofs.Ytcnjgpidlhndhaa
open Go.RowKit Go.Maps Go.Sort Go.Shelf Go.Proofs

instance : Go.AX.Kap := ⟨False⟩
theorem nk : ¬ Go.AX.Kap.k := fun h => h

shelf_lay_g SlLaysZI.n7 Ggz 7 at Try 16 as keysA
shelf_lay_g SlLaysZI.n6 Ggz 6 at Try 15 as sortedA
shelf_lay_g SlLaysM.n5 Slgm 5 at Try 19 as sortA

/-- slices.Sort's two contracts at this dump, at the fence that asks nothing. -/
theorem sortsA (m : Nat) : AnyZI.SortsIn Try.prog sortedA_ren Fence.wide m :=
  ⟨fun blk off cap ss W hH hblk hsz => callsIn_wide.2 (AnyM.slices_Sort_int sortA blk off cap ss W hH hblk hsz),
   fun p cap W => callsIn_wide.2 (AnyM.slices_Sort_int_none sortA p cap W)⟩

theorem add0 (a : Addr) : a.add 0 = a := by unfold Addr.add; rw [if_pos rfl]

set_option maxHeartbeats 1000000 in
theorem all_some (a : Addr) (b nn : Nat) (D0 : DataW Unit) (w : World) (hc : w.cell? a = some (.map (some b))) (hown : w.ownsMap Try.prog 3 Go.AX.rAny b nn D0) (hmax : Maps.size D0 ≤ maxLen) (hbytes : Maps.size D0 * 8 ≤ 140737488355328) :
    Calls Try.prog 13 #[.pointer (some a)] w fun e w' => ∃ (v : Value) (ss : List Int), e = .returned v ∧ ss.Perm (intKeys D0) ∧
      w'.ownsRow w.heap.size 3 1 v ss.length ((ss.mergeSort (fun x y => decide (x ≤ y))).map encZ) ∧ (v = .slice none 0 0 ↔ ss = []) ∧ Below w.heap.size w w' := by
  refine (callsIn_wide (n := 6)).1 ?_
  have hbl := hown.lt
  have hseq : SeqGives Fence.wide 2 Try.prog 20 #[.pointer (some ⟨w.heap.size, 0, none⟩)] encZ (fun ss => ss.Perm (intKeys D0)) (Maps.size D0) (w.alloc (.cells #[.map (some b)] 40)) :=
    AnyZI.keys_gives (ρ := keysA_ren) { keysA with } Fence.wide _ trivial rfl (by omega) w.heap.size b nn D0 _ (by simp) (by simp) (by
      obtain ⟨es, clock, hb, Ft, hs, hD⟩ := hown
      exact ⟨es, clock, (Below.heap_alloc _ _ b hbl).trans hb, Ft, hs, hD⟩)
  have cK : ∀ mb W, CallsIn Fence.wide 5 Try.prog 16 #[.map mb] W fun e w' => e = .returned (.func (.func 20) #[] #[.pointer (some ⟨W.heap.size, 0, none⟩)]) ∧ w' = W.alloc (.cells #[.map mb] 40) := fun mb W => AnyZI.keys_in keysA Fence.wide 5 trivial rfl mb W
  have cS := AnyZI.sorted_in sortedA Fence.wide 5 trivial trivial trivial trivial rfl (by omega) (sortsA _) (enters_of Try.func19 (by kernel_rfl) rfl) 20 #[.pointer (some ⟨w.heap.size, 0, none⟩)] trivial (enters_of Try.func20 (by kernel_rfl) rfl) _ _ hmax hbytes _ hseq
  change CallsIn _ _ Try.prog 15 _ _ _ at cS
  have hfK : Fence.wide.fn 16 := trivial
  have hfS : Fence.wide.fn 15 := trivial
  refine callsIn_of_wp Try.func13 rfl trivial ?_ rfl
  simp only [Try.ntmps13, List.size_toArray, List.length_cons, List.length_nil, Nat.reduceAdd, Nat.reduceSub, Array.replicate_succ, Array.replicate_zero, List.push_toArray, List.append_toArray, List.nil_append, List.cons_append]
  gi_wp2_with (first
    | (gi_at_call 16; refine (cK _ _).mono ?_; rintro e w' ⟨rfl, rfl⟩)
    | (gi_at_call 15; refine cS.mono ?_; rintro e w' ⟨v, ss, rfl, hS, hrow, hnil, hb⟩))
  go_ret
  exact ⟨v, ss, rfl, hS, ownsRow_base_a hrow (by simp), hnil, ((Below.refl _ w).alloc (Nat.le_refl _) _).trans (hb.mono (by simp))⟩

set_option maxHeartbeats 1000000 in
theorem all_nil (a : Addr) (w : World) (hc : w.cell? a = some (.map none)) : Calls Try.prog 13 #[.pointer (some a)] w fun e w' => e = .returned (.slice none 0 0) ∧ Below w.heap.size w w' := by
  refine (callsIn_wide (n := 6)).1 ?_
  have hseq : SeqGives Fence.wide 2 Try.prog 20 #[.pointer (some ⟨w.heap.size, 0, none⟩)] encZ (fun ss : List Int => ss = []) 0 (w.alloc (.cells #[.map none] 40)) :=
    AnyZI.keys_gives_nil (ρ := keysA_ren) { keysA with } Fence.wide _ trivial rfl w.heap.size _ (by simp) (by simp)
  have cK : ∀ mb W, CallsIn Fence.wide 5 Try.prog 16 #[.map mb] W fun e w' => e = .returned (.func (.func 20) #[] #[.pointer (some ⟨W.heap.size, 0, none⟩)]) ∧ w' = W.alloc (.cells #[.map mb] 40) := fun mb W => AnyZI.keys_in keysA Fence.wide 5 trivial rfl mb W
  have cS := AnyZI.sorted_in sortedA Fence.wide 5 trivial trivial trivial trivial rfl (by omega) (sortsA _) (enters_of Try.func19 (by kernel_rfl) rfl) 20 #[.pointer (some ⟨w.heap.size, 0, none⟩)] trivial (enters_of Try.func20 (by kernel_rfl) rfl) _ 0 (Nat.zero_le _) (by omega) _ hseq
  change CallsIn _ _ Try.prog 15 _ _ _ at cS
  have hfK : Fence.wide.fn 16 := trivial
  have hfS : Fence.wide.fn 15 := trivial
  refine callsIn_of_wp Try.func13 rfl trivial ?_ rfl
  simp only [Try.ntmps13, List.size_toArray, List.length_cons, List.length_nil, Nat.reduceAdd, Nat.reduceSub, Array.replicate_succ, Array.replicate_zero, List.push_toArray, List.append_toArray, List.nil_append, List.cons_append]
  gi_wp2_with (first
    | (gi_at_call 16; refine (cK _ _).mono ?_; rintro e w' ⟨rfl, rfl⟩)
    | (gi_at_call 15; refine cS.mono ?_; rintro e w' ⟨v, ss, rfl, rfl, hrow, hnil, hb⟩; obtain rfl : v = .slice none 0 0 := hnil.2 rfl))
  go_ret
  exact ⟨rfl, ((Below.refl _ w).alloc (Nat.le_refl _) _).trans (hb.mono (by simp))⟩

theorem keysOk : Go.AX.SumOk Try.prog 13 (Go.AX.keysA 3) :=
  Go.AX.keysA_ok nk Try.func13 (by kernel_rfl) (by kernel_rfl) Try.underlying3 (fun i hi => by
    have h : (Try.prog.info? 3).map (·.size) = some 1 := by kernel_rfl
    rw [hi] at h
    exact Option.some.inj h) all_some all_nil
#print axioms keysOk
end Go.Proofs.Ytcnjgpidlhndhaa
