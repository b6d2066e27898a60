/-
  The calls that the law makes, one by one: each run by the kernel on its own; a table of them stands as a summary for the calls around them.
-/
import Derived.Test.YthpnifigjfplbaaGreatRows
import Derived.Test.YthpnifigjfplbaaGreatAxMemo
import Derived.Test.YthpnifigjfplbaaGreatAxTop
import Derived.KernelRfl
namespace Go.Proofs.YthpnifigjfplbaaGreat.memo
open Go Go.AX Go.RowKit
set_option linter.unusedVariables false
set_option linter.unusedSimpArgs false
set_option maxRecDepth 100000
noncomputable section
instance : Kap := ⟨True⟩
abbrev I (n : Int) : Value := .int .i64 n
abbrev P (b o : Nat) : Value := .pointer (some ⟨b, o, none⟩)
abbrev L (b o n c : Nat) : Value := .slice (some ⟨b, o, none⟩) n c
theorem hmix : Tryz.prog.follows .mixedOrders = true := by kernel_rfl
theorem ents_nil {k : Nat} : ∀ e ∈ ([] : List Ent), EntOk Tryz.prog k e := fun e h => by cases h
theorem ents_cons {k : Nat} {e : Ent} {l : List Ent} (h : EntOk Tryz.prog k e) (hl : ∀ e ∈ l, EntOk Tryz.prog k e) : ∀ x ∈ e :: l, EntOk Tryz.prog k x := fun x hx => by
  rcases List.mem_cons.1 hx with rfl | hx
  · exact h
  · exact hl x hx
def cxOf (l : List (Nat × (List Value → Mem → Option (Value × Mem)))) : Cx := Cx.of Tryz.prog (l.foldr (fun x t => t.put x.1 x.2) .nil)
theorem cxOf_ok (l : List (Nat × (List Value → Mem → Option (Value × Mem)))) : CxOk Tryz.prog (cxOf l) := CxOk.of _ _
theorem ov_cons {k : Nat} {f : List Value → Mem → Option (Value × Mem)} {l : List (Nat × (List Value → Mem → Option (Value × Mem)))} (h : SumOk Tryz.prog k f) (hl : ∀ x ∈ l, SumOk Tryz.prog x.1 x.2) : ∀ x ∈ (k, f) :: l, SumOk Tryz.prog x.1 x.2 := fun x hx => by
  rcases List.mem_cons.1 hx with rfl | hx
  · exact h
  · exact hl x hx
theorem fr_cons {k : Nat} {f : List Value → Mem → Option (Value × Mem)} {l : List (Nat × (List Value → Mem → Option (Value × Mem)))} (h : FrF f) (hl : ∀ x ∈ l, FrF x.2) : ∀ x ∈ (k, f) :: l, FrF x.2 := fun x hx => by
  rcases List.mem_cons.1 hx with rfl | hx
  · exact h
  · exact hl x hx
theorem ent_of {l : List (Nat × (List Value → Mem → Option (Value × Mem)))} (hs : ∀ x ∈ l, SumOk Tryz.prog x.1 x.2) (hf : ∀ x ∈ l, FrF x.2) {k : Nat} {e : Ent} (h : chkE (cxOf l) 100000 k e = true) : EntOk Tryz.prog k e :=
  ent_ok (cxOf_ok l) (ovOk_list rfl hs) hmix (ovFr_list rfl hf) h
def ov0 : List (Nat × (List Value → Mem → Option (Value × Mem))) := []
theorem sums0 : ∀ x ∈ ov0, SumOk Tryz.prog x.1 x.2 := fun x h => by cases h
theorem frs0 : ∀ x ∈ ov0, FrF x.2 := fun x h => by cases h

-- beadle/beadlelaw22.one
def c0_0 : Ent := { args := [], nx := 1, fl := 0, pre := [], r := (.agg #[(I 1), (I 0), (L 57 0 1 1), (.slice none 0 0), (.slice none 0 0)]), post := [(57, some (.cells (writeL .nil [(I 1), (I 2), (I 5), (I 2), (I 5), (I 1), (L 88 0 1 1), (I 0), (I 0), (I 1), (I 0)] 0) 11 78 true)), (75, some (.cells (writeL .nil [(I 0), (I 3)] 0) 2 97 true)), (88, some (.cells (writeL .nil [(I 1), (L 75 0 1 1), (I 0), (I 0)] 0) 4 109 true))], nx' := 123 }
theorem c0_0_ok : EntOk Tryz.prog 16 c0_0 := ent_of sums0 frs0 (by kernel_rfl)
def c0_1 : Ent := { args := [], nx := 756, fl := 0, pre := [], r := (.agg #[(I 1), (I 0), (L 812 0 1 1), (.slice none 0 0), (.slice none 0 0)]), post := [(812, some (.cells (writeL .nil [(I 1), (I 2), (I 5), (I 2), (I 5), (I 1), (L 843 0 1 1), (I 0), (I 0), (I 1), (I 0)] 0) 11 78 true)), (830, some (.cells (writeL .nil [(I 0), (I 3)] 0) 2 97 true)), (843, some (.cells (writeL .nil [(I 1), (L 830 0 1 1), (I 0), (I 0)] 0) 4 109 true))], nx' := 878 }
theorem c0_1_ok : EntOk Tryz.prog 16 c0_1 := ent_of sums0 frs0 (by kernel_rfl)
def c0_2 : Ent := { args := [], nx := 1955, fl := 0, pre := [], r := (.agg #[(I 1), (I 0), (L 2011 0 1 1), (.slice none 0 0), (.slice none 0 0)]), post := [(2011, some (.cells (writeL .nil [(I 1), (I 2), (I 5), (I 2), (I 5), (I 1), (L 2042 0 1 1), (I 0), (I 0), (I 1), (I 0)] 0) 11 78 true)), (2029, some (.cells (writeL .nil [(I 0), (I 3)] 0) 2 97 true)), (2042, some (.cells (writeL .nil [(I 1), (L 2029 0 1 1), (I 0), (I 0)] 0) 4 109 true))], nx' := 2077 }
theorem c0_2_ok : EntOk Tryz.prog 16 c0_2 := ent_of sums0 frs0 (by kernel_rfl)
def c0_3 : Ent := { args := [], nx := 3413, fl := 0, pre := [], r := (.agg #[(I 1), (I 0), (L 3469 0 1 1), (.slice none 0 0), (.slice none 0 0)]), post := [(3469, some (.cells (writeL .nil [(I 1), (I 2), (I 5), (I 2), (I 5), (I 1), (L 3500 0 1 1), (I 0), (I 0), (I 1), (I 0)] 0) 11 78 true)), (3487, some (.cells (writeL .nil [(I 0), (I 3)] 0) 2 97 true)), (3500, some (.cells (writeL .nil [(I 1), (L 3487 0 1 1), (I 0), (I 0)] 0) 4 109 true))], nx' := 3535 }
theorem c0_3_ok : EntOk Tryz.prog 16 c0_3 := ent_of sums0 frs0 (by kernel_rfl)
def c0_4 : Ent := { args := [], nx := 3538, fl := 0, pre := [], r := (.agg #[(I 1), (I 0), (L 3594 0 1 1), (.slice none 0 0), (.slice none 0 0)]), post := [(3594, some (.cells (writeL .nil [(I 1), (I 2), (I 5), (I 2), (I 5), (I 1), (L 3625 0 1 1), (I 0), (I 0), (I 1), (I 0)] 0) 11 78 true)), (3612, some (.cells (writeL .nil [(I 0), (I 3)] 0) 2 97 true)), (3625, some (.cells (writeL .nil [(I 1), (L 3612 0 1 1), (I 0), (I 0)] 0) 4 109 true))], nx' := 3660 }
theorem c0_4_ok : EntOk Tryz.prog 16 c0_4 := ent_of sums0 frs0 (by kernel_rfl)
def c0_5 : Ent := { args := [], nx := 4970, fl := 0, pre := [], r := (.agg #[(I 1), (I 0), (L 5026 0 1 1), (.slice none 0 0), (.slice none 0 0)]), post := [(5026, some (.cells (writeL .nil [(I 1), (I 2), (I 5), (I 2), (I 5), (I 1), (L 5057 0 1 1), (I 0), (I 0), (I 1), (I 0)] 0) 11 78 true)), (5044, some (.cells (writeL .nil [(I 0), (I 3)] 0) 2 97 true)), (5057, some (.cells (writeL .nil [(I 1), (L 5044 0 1 1), (I 0), (I 0)] 0) 4 109 true))], nx' := 5092 }
theorem c0_5_ok : EntOk Tryz.prog 16 c0_5 := ent_of sums0 frs0 (by kernel_rfl)
def c0_6 : Ent := { args := [], nx := 5382, fl := 5382, pre := [], r := (.agg #[(I 1), (I 0), (L 5438 0 1 1), (.slice none 0 0), (.slice none 0 0)]), post := [(5438, some (.cells (writeL .nil [(I 1), (I 2), (I 5), (I 2), (I 5), (I 1), (L 5469 0 1 1), (I 0), (I 0), (I 1), (I 0)] 0) 11 78 true)), (5456, some (.cells (writeL .nil [(I 0), (I 3)] 0) 2 97 true)), (5469, some (.cells (writeL .nil [(I 1), (L 5456 0 1 1), (I 0), (I 0)] 0) 4 109 true))], nx' := 5504 }
theorem c0_6_ok : EntOk Tryz.prog 16 c0_6 := ent_of sums0 frs0 (by kernel_rfl)
def c0 : List Ent := [c0_0, c0_1, c0_2, c0_3, c0_4, c0_5, c0_6]
theorem c0_ok : ∀ e ∈ c0, EntOk Tryz.prog 16 e := ents_cons c0_0_ok (ents_cons c0_1_ok (ents_cons c0_2_ok (ents_cons c0_3_ok (ents_cons c0_4_ok (ents_cons c0_5_ok (ents_cons c0_6_ok (ents_nil)))))))
def ov1 : List (Nat × (List Value → Mem → Option (Value × Mem))) := (16, tabA c0) :: ov0
theorem sums1 : ∀ x ∈ ov1, SumOk Tryz.prog x.1 x.2 := ov_cons (tab_sum c0_ok) sums0
theorem frs1 : ∀ x ∈ ov1, FrF x.2 := fr_cons (tabA_fr c0) frs0

-- beadle/model.Same
def c1_0 : Ent := { args := [(.agg #[(I 1), (I 0), (L 5026 0 1 1), (.slice none 0 0), (.slice none 0 0)]), (.agg #[(I 1), (I 0), (L 5438 0 1 1), (.slice none 0 0), (.slice none 0 0)])], nx := 5504, fl := 0, pre := [(5026, (.cells (writeL .nil [(I 1), (I 2), (I 5), (I 2), (I 5), (I 1), (L 5057 0 1 1), (I 0), (I 0), (I 1), (I 0)] 0) 11 78 true)), (5044, (.cells (writeL .nil [(I 0), (I 3)] 0) 2 97 true)), (5057, (.cells (writeL .nil [(I 1), (L 5044 0 1 1), (I 0), (I 0)] 0) 4 109 true)), (5438, (.cells (writeL .nil [(I 1), (I 2), (I 5), (I 2), (I 5), (I 1), (L 5469 0 1 1), (I 0), (I 0), (I 1), (I 0)] 0) 11 78 true)), (5456, (.cells (writeL .nil [(I 0), (I 3)] 0) 2 97 true)), (5469, (.cells (writeL .nil [(I 1), (L 5456 0 1 1), (I 0), (I 0)] 0) 4 109 true))], r := (.bool true), post := [], nx' := 5523 }
theorem c1_0_ok : EntOk Tryz.prog 18 c1_0 := ent_of sums1 frs1 (by kernel_rfl)
def c1 : List Ent := [c1_0]
theorem c1_ok : ∀ e ∈ c1, EntOk Tryz.prog 18 e := ents_cons c1_0_ok (ents_nil)
def ov2 : List (Nat × (List Value → Mem → Option (Value × Mem))) := (18, tabA c1) :: ov1
theorem sums2 : ∀ x ∈ ov2, SumOk Tryz.prog x.1 x.2 := ov_cons (tab_sum c1_ok) sums1
theorem frs2 : ∀ x ∈ ov2, FrF x.2 := fr_cons (tabA_fr c1) frs1

-- beadle/leap.Quiet
def c2_0 : Ent := { args := [(.agg #[(I 1), (I 0), (L 57 0 1 1), (.slice none 0 0), (.slice none 0 0)])], nx := 123, fl := 0, pre := [(57, (.cells (writeL .nil [(I 1), (I 2), (I 5), (I 2), (I 5), (I 1), (L 88 0 1 1), (I 0), (I 0), (I 1), (I 0)] 0) 11 78 true)), (75, (.cells (writeL .nil [(I 0), (I 3)] 0) 2 97 true)), (88, (.cells (writeL .nil [(I 1), (L 75 0 1 1), (I 0), (I 0)] 0) 4 109 true))], r := (.tuple #[(I 2), (.bool true)]), post := [], nx' := 756 }
theorem c2_0_ok : EntOk Tryz.prog 14 c2_0 := ent_of sums2 frs2 (by kernel_rfl)
def c2_1 : Ent := { args := [(.agg #[(I 2), (I 0), (.slice none 0 0), (.slice none 0 0), (.slice none 0 0)])], nx := 1633, fl := 0, pre := [], r := (.tuple #[(I 0), (.bool false)]), post := [], nx' := 1721 }
theorem c2_1_ok : EntOk Tryz.prog 14 c2_1 := ent_of sums2 frs2 (by kernel_rfl)
def c2_2 : Ent := { args := [(.agg #[(I 2), (I 0), (.slice none 0 0), (.slice none 0 0), (.slice none 0 0)])], nx := 1798, fl := 0, pre := [], r := (.tuple #[(I 0), (.bool false)]), post := [], nx' := 1886 }
theorem c2_2_ok : EntOk Tryz.prog 14 c2_2 := ent_of sums2 frs2 (by kernel_rfl)
def c2_3 : Ent := { args := [(.agg #[(I 1), (I 0), (L 2011 0 1 1), (.slice none 0 0), (.slice none 0 0)])], nx := 2079, fl := 0, pre := [(2011, (.cells (writeL .nil [(I 1), (I 2), (I 5), (I 2), (I 5), (I 1), (L 2042 0 1 1), (I 0), (I 0), (I 1), (I 0)] 0) 11 78 true)), (2029, (.cells (writeL .nil [(I 0), (I 3)] 0) 2 97 true)), (2042, (.cells (writeL .nil [(I 1), (L 2029 0 1 1), (I 0), (I 0)] 0) 4 109 true))], r := (.tuple #[(I 2), (.bool true)]), post := [], nx' := 2712 }
theorem c2_3_ok : EntOk Tryz.prog 14 c2_3 := ent_of sums2 frs2 (by kernel_rfl)
def c2 : List Ent := [c2_0, c2_1, c2_2, c2_3]
theorem c2_ok : ∀ e ∈ c2, EntOk Tryz.prog 14 e := ents_cons c2_0_ok (ents_cons c2_1_ok (ents_cons c2_2_ok (ents_cons c2_3_ok (ents_nil))))
def ov3 : List (Nat × (List Value → Mem → Option (Value × Mem))) := (14, tabA c2) :: ov2
theorem sums3 : ∀ x ∈ ov3, SumOk Tryz.prog x.1 x.2 := ov_cons (tab_sum c2_ok) sums2
theorem frs3 : ∀ x ∈ ov3, FrF x.2 := fr_cons (tabA_fr c2) frs2

-- beadle/leap.Go
def c3_0 : Ent := { args := [(.agg #[(I 1), (I 0), (L 812 0 1 1), (.slice none 0 0), (.slice none 0 0)]), (I 2)], nx := 878, fl := 0, pre := [(812, (.cells (writeL .nil [(I 1), (I 2), (I 5), (I 2), (I 5), (I 1), (L 843 0 1 1), (I 0), (I 0), (I 1), (I 0)] 0) 11 78 true)), (830, (.cells (writeL .nil [(I 0), (I 3)] 0) 2 97 true)), (843, (.cells (writeL .nil [(I 1), (L 830 0 1 1), (I 0), (I 0)] 0) 4 109 true))], r := (.tuple #[(.agg #[(I 1), (I 2), (L 1335 0 1 1), (.slice none 0 0), (.slice none 0 0)]), (L 1577 0 1 1), (I 0)]), post := [(1335, some (.cells (writeL .nil [(I 1), (I 2), (I 5), (I 0), (I 5), (I 2), (L 1350 0 1 1), (I 0), (I 0), (I 1), (I 2)] 0) 11 78 true)), (1350, some (.cells (writeL .nil [(I 1), (L 830 0 1 1), (I 0), (I 2)] 0) 4 109 true)), (1577, some (.cells (writeL .nil [(I 2), (I 4), (I 1), (I 0)] 0) 4 79 true))], nx' := 1578 }
theorem c3_0_ok : EntOk Tryz.prog 13 c3_0 := ent_of sums3 frs3 (by kernel_rfl)
def c3_1 : Ent := { args := [(.agg #[(I 2), (I 0), (.slice none 0 0), (.slice none 0 0), (.slice none 0 0)]), (I 4611686018427387904)], nx := 1721, fl := 0, pre := [], r := (.tuple #[(.agg #[(I 2), (I 4611686018427387904), (.slice none 0 0), (.slice none 0 0), (.slice none 0 0)]), (.slice none 0 0), (I 0)]), post := [], nx' := 1789 }
theorem c3_1_ok : EntOk Tryz.prog 13 c3_1 := ent_of sums3 frs3 (by kernel_rfl)
def c3_2 : Ent := { args := [(.agg #[(I 2), (I 4611686018427387904), (.slice none 0 0), (.slice none 0 0), (.slice none 0 0)]), (I 1)], nx := 1790, fl := 0, pre := [], r := (.tuple #[(.agg #[(I 2), (I 4611686018427387904), (.slice none 0 0), (.slice none 0 0), (.slice none 0 0)]), (.slice none 0 0), (I 6)]), post := [], nx' := 1792 }
theorem c3_2_ok : EntOk Tryz.prog 13 c3_2 := ent_of sums3 frs3 (by kernel_rfl)
def c3_3 : Ent := { args := [(.agg #[(I 2), (I 0), (.slice none 0 0), (.slice none 0 0), (.slice none 0 0)]), (I (-1))], nx := 1793, fl := 0, pre := [], r := (.tuple #[(.agg #[(I 2), (I 0), (.slice none 0 0), (.slice none 0 0), (.slice none 0 0)]), (.slice none 0 0), (I 1)]), post := [], nx' := 1795 }
theorem c3_3_ok : EntOk Tryz.prog 13 c3_3 := ent_of sums3 frs3 (by kernel_rfl)
def c3_4 : Ent := { args := [(.agg #[(I 2), (I 0), (.slice none 0 0), (.slice none 0 0), (.slice none 0 0)]), (I 7)], nx := 1886, fl := 0, pre := [], r := (.tuple #[(.agg #[(I 2), (I 7), (.slice none 0 0), (.slice none 0 0), (.slice none 0 0)]), (.slice none 0 0), (I 0)]), post := [], nx' := 1954 }
theorem c3_4_ok : EntOk Tryz.prog 13 c3_4 := ent_of sums3 frs3 (by kernel_rfl)
def c3_5 : Ent := { args := [(.agg #[(I 1), (I 0), (L 2011 0 1 1), (.slice none 0 0), (.slice none 0 0)]), (I 2)], nx := 2712, fl := 0, pre := [(2011, (.cells (writeL .nil [(I 1), (I 2), (I 5), (I 2), (I 5), (I 1), (L 2042 0 1 1), (I 0), (I 0), (I 1), (I 0)] 0) 11 78 true)), (2029, (.cells (writeL .nil [(I 0), (I 3)] 0) 2 97 true)), (2042, (.cells (writeL .nil [(I 1), (L 2029 0 1 1), (I 0), (I 0)] 0) 4 109 true))], r := (.tuple #[(.agg #[(I 1), (I 2), (L 3169 0 1 1), (.slice none 0 0), (.slice none 0 0)]), (L 3411 0 1 1), (I 0)]), post := [(3169, some (.cells (writeL .nil [(I 1), (I 2), (I 5), (I 0), (I 5), (I 2), (L 3184 0 1 1), (I 0), (I 0), (I 1), (I 2)] 0) 11 78 true)), (3184, some (.cells (writeL .nil [(I 1), (L 2029 0 1 1), (I 0), (I 2)] 0) 4 109 true)), (3411, some (.cells (writeL .nil [(I 2), (I 4), (I 1), (I 0)] 0) 4 79 true))], nx' := 3412 }
theorem c3_5_ok : EntOk Tryz.prog 13 c3_5 := ent_of sums3 frs3 (by kernel_rfl)
def c3_6 : Ent := { args := [(.agg #[(I 1), (I 0), (L 3594 0 1 1), (.slice none 0 0), (.slice none 0 0)]), (I 6)], nx := 3660, fl := 0, pre := [(3594, (.cells (writeL .nil [(I 1), (I 2), (I 5), (I 2), (I 5), (I 1), (L 3625 0 1 1), (I 0), (I 0), (I 1), (I 0)] 0) 11 78 true)), (3612, (.cells (writeL .nil [(I 0), (I 3)] 0) 2 97 true)), (3625, (.cells (writeL .nil [(I 1), (L 3612 0 1 1), (I 0), (I 0)] 0) 4 109 true))], r := (.tuple #[(.agg #[(I 1), (I 6), (L 4689 0 1 1), (.slice none 0 0), (.slice none 0 0)]), (L 4968 0 4 4), (I 0)]), post := [(4689, some (.cells (writeL .nil [(I 1), (I 2), (I 5), (I 1), (I 10), (I 0), (L 4704 4 0 0), (I 0), (I 0), (I 1), (I 3)] 0) 11 78 true)), (4704, some (.cells (writeL .nil [(I 1), (L 3612 0 1 1), (I 1), (I 0)] 0) 4 109 true)), (4968, some (.cells (writeL .nil [(I 2), (I 4), (I 1), (I 0), (I 5), (I 5), (I 1), (I 0), (I 6), (I 2), (I 1), (I 1), (I 6), (I 10), (I 1), (I 0)] 0) 16 79 true))], nx' := 4969 }
theorem c3_6_ok : EntOk Tryz.prog 13 c3_6 := ent_of sums3 frs3 (by kernel_rfl)
def c3_7 : Ent := { args := [(.agg #[(I 1), (I 0), (L 5026 0 1 1), (.slice none 0 0), (.slice none 0 0)]), (I 0)], nx := 5092, fl := 0, pre := [(5026, (.cells (writeL .nil [(I 1), (I 2), (I 5), (I 2), (I 5), (I 1), (L 5057 0 1 1), (I 0), (I 0), (I 1), (I 0)] 0) 11 78 true)), (5044, (.cells (writeL .nil [(I 0), (I 3)] 0) 2 97 true)), (5057, (.cells (writeL .nil [(I 1), (L 5044 0 1 1), (I 0), (I 0)] 0) 4 109 true))], r := (.tuple #[(.agg #[(I 1), (I 0), (L 5026 0 1 1), (.slice none 0 0), (.slice none 0 0)]), (.slice none 0 0), (I 0)]), post := [], nx' := 5094 }
theorem c3_7_ok : EntOk Tryz.prog 13 c3_7 := ent_of sums3 frs3 (by kernel_rfl)
def c3 : List Ent := [c3_0, c3_1, c3_2, c3_3, c3_4, c3_5, c3_6, c3_7]
theorem c3_ok : ∀ e ∈ c3, EntOk Tryz.prog 13 e := ents_cons c3_0_ok (ents_cons c3_1_ok (ents_cons c3_2_ok (ents_cons c3_3_ok (ents_cons c3_4_ok (ents_cons c3_5_ok (ents_cons c3_6_ok (ents_cons c3_7_ok (ents_nil))))))))
def ov4 : List (Nat × (List Value → Mem → Option (Value × Mem))) := (13, tabA c3) :: ov3
theorem sums4 : ∀ x ∈ ov4, SumOk Tryz.prog x.1 x.2 := ov_cons (tab_sum c3_ok) sums3
theorem frs4 : ∀ x ∈ ov4, FrF x.2 := fr_cons (tabA_fr c3) frs3

-- beadle/leap.Until
def c4_0 : Ent := { args := [(.agg #[(I 2), (I 0), (.slice none 0 0), (.slice none 0 0), (.slice none 0 0)]), (I 7)], nx := 1796, fl := 0, pre := [], r := (.tuple #[(.agg #[(I 2), (I 7), (.slice none 0 0), (.slice none 0 0), (.slice none 0 0)]), (.slice none 0 0), (I 7), (I 0)]), post := [], nx' := 1954 }
theorem c4_0_ok : EntOk Tryz.prog 15 c4_0 := ent_of sums4 frs4 (by kernel_rfl)
def c4_1 : Ent := { args := [(.agg #[(I 1), (I 0), (L 2011 0 1 1), (.slice none 0 0), (.slice none 0 0)]), (I 99)], nx := 2077, fl := 0, pre := [(2011, (.cells (writeL .nil [(I 1), (I 2), (I 5), (I 2), (I 5), (I 1), (L 2042 0 1 1), (I 0), (I 0), (I 1), (I 0)] 0) 11 78 true)), (2029, (.cells (writeL .nil [(I 0), (I 3)] 0) 2 97 true)), (2042, (.cells (writeL .nil [(I 1), (L 2029 0 1 1), (I 0), (I 0)] 0) 4 109 true))], r := (.tuple #[(.agg #[(I 1), (I 2), (L 3169 0 1 1), (.slice none 0 0), (.slice none 0 0)]), (L 3411 0 1 1), (I 2), (I 0)]), post := [(3169, some (.cells (writeL .nil [(I 1), (I 2), (I 5), (I 0), (I 5), (I 2), (L 3184 0 1 1), (I 0), (I 0), (I 1), (I 2)] 0) 11 78 true)), (3184, some (.cells (writeL .nil [(I 1), (L 2029 0 1 1), (I 0), (I 2)] 0) 4 109 true)), (3411, some (.cells (writeL .nil [(I 2), (I 4), (I 1), (I 0)] 0) 4 79 true))], nx' := 3412 }
theorem c4_1_ok : EntOk Tryz.prog 15 c4_1 := ent_of sums4 frs4 (by kernel_rfl)
def c4_2 : Ent := { args := [(.agg #[(I 1), (I 0), (L 3469 0 1 1), (.slice none 0 0), (.slice none 0 0)]), (I (-1))], nx := 3535, fl := 0, pre := [(3469, (.cells (writeL .nil [(I 1), (I 2), (I 5), (I 2), (I 5), (I 1), (L 3500 0 1 1), (I 0), (I 0), (I 1), (I 0)] 0) 11 78 true)), (3487, (.cells (writeL .nil [(I 0), (I 3)] 0) 2 97 true)), (3500, (.cells (writeL .nil [(I 1), (L 3487 0 1 1), (I 0), (I 0)] 0) 4 109 true))], r := (.tuple #[(.agg #[(I 1), (I 0), (L 3469 0 1 1), (.slice none 0 0), (.slice none 0 0)]), (.slice none 0 0), (I 0), (I 1)]), post := [], nx' := 3537 }
theorem c4_2_ok : EntOk Tryz.prog 15 c4_2 := ent_of sums4 frs4 (by kernel_rfl)
def c4 : List Ent := [c4_0, c4_1, c4_2]
theorem c4_ok : ∀ e ∈ c4, EntOk Tryz.prog 15 e := ents_cons c4_0_ok (ents_cons c4_1_ok (ents_cons c4_2_ok (ents_nil)))
def ov5 : List (Nat × (List Value → Mem → Option (Value × Mem))) := (15, tabA c4) :: ov4
theorem sums5 : ∀ x ∈ ov5, SumOk Tryz.prog x.1 x.2 := ov_cons (tab_sum c4_ok) sums4
theorem frs5 : ∀ x ∈ ov5, FrF x.2 := fr_cons (tabA_fr c4) frs4

-- beadle/beadlelaw22.awake
def c5_0 : Ent := { args := [], nx := 1, fl := 0, pre := [], r := (.bool true), post := [], nx' := 1630 }
theorem c5_0_ok : EntOk Tryz.prog 10 c5_0 := ent_of sums5 frs5 (by kernel_rfl)
def c5 : List Ent := [c5_0]
theorem c5_ok : ∀ e ∈ c5, EntOk Tryz.prog 10 e := ents_cons c5_0_ok (ents_nil)
def ov6 : List (Nat × (List Value → Mem → Option (Value × Mem))) := (10, tabA c5) :: ov5
theorem sums6 : ∀ x ∈ ov6, SumOk Tryz.prog x.1 x.2 := ov_cons (tab_sum c5_ok) sums5
theorem frs6 : ∀ x ∈ ov6, FrF x.2 := fr_cons (tabA_fr c5) frs5

theorem ovOk : OvOk Tryz.prog (cxOf ov6) := ovOk_list rfl sums6
theorem ran : isTrue (callN (cxOf ov6) 100000 4 [] (m0 Tryz.prog)) = true := by kernel_rfl
theorem law_ok (w : World) : Calls Tryz.prog 4 #[] w fun e w' => e = .returned (.bool true) ∧ Below w.heap.size w w' :=
  closed_true (cxOf_ok _) ovOk hmix ran w
theorem law_sum {fn : Func} (hf : Tryz.prog.funcs[4]? = some fn) (hb : fn.body.isSome = true) (hn : (fn.name == "runtime.NumGoroutine") = false) : SumOk Tryz.prog 4 trueA :=
  true_sum (cxOf_ok _) ovOk hmix hf hb hn ran

end
end Go.Proofs.YthpnifigjfplbaaGreat.memo
