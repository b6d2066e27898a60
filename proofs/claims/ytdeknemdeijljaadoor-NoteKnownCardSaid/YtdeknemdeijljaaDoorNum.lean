/-
  Package strconv: what FormatInt and Itoa return (base 10); the reference's Num.
-/
import Derived.Test.YtdeknemdeijljaaDoorVc
import Derived.Test.YtdeknemdeijljaaDoorAxStr
namespace Go.Proofs.YtdeknemdeijljaaDoor.vc
open Go Go.AX
set_option linter.unusedVariables false
set_option linter.unusedSimpArgs false
set_option maxRecDepth 100000

/-- internal/strconv.uint64pow10 is told -/
def PowT (m : Mem) : Prop := ∀ i, i < 20 → rd m 0 i = some (.int .u64 ((10 ^ i : Nat) : Int))
theorem PowT.keep {m m' : Mem} (h : PowT m) (hw : Wf m) (k : Keep m m') : PowT m' := fun i hi => rd_keep k hw (h i hi)

theorem over_rep {n : Nat} {z : Value} {D : List Value} (h : 1 + D.length ≤ n) : over (List.replicate n z) 1 D = z :: (D ++ List.replicate (n - 1 - D.length) z) := by
  obtain ⟨k, rfl⟩ : ∃ k, n = k + 1 := ⟨n - 1, by omega⟩
  unfold over
  rw [List.replicate_succ, List.take_succ_cons, List.take_zero, Nat.add_comm 1, List.drop_succ_cons, List.drop_replicate]
  simp

theorem cvU_neg {x : Int} (h0 : -9223372036854775808 ≤ x) (h1 : x < 0) : cvI .u64 x = x + 18446744073709551616 := by
  unfold cvI wrapI fitsI
  rw [decide_eq_false (show ¬ IntKind.u64.min ≤ x by rw [show IntKind.u64.min = 0 from rfl]; omega)]
  show x % 18446744073709551616 = _
  omega
theorem negU {y : Int} (h0 : 0 < y) (h1 : y < 18446744073709551616) : subI .u64 0 y = 18446744073709551616 - y := by
  unfold subI wrapI fitsI
  rw [decide_eq_false (show ¬ IntKind.u64.min ≤ 0 - y by rw [show IntKind.u64.min = 0 from rfl]; omega)]
  show (0 - y) % 18446744073709551616 = _
  omega

theorem small_ok {x : Nat} {m : Mem} {Q : Value → Mem → Prop} (hx : x < 100) (h : Q (.string (bs (Lib.decDigits x))) m) : CallW cx 41 [.int .i64 (x : Int)] m Q := by
  apply F41_ok; unfold F41
  have un9 : cx.un.get 9 = some .string := by kernel_rfl
  refine split_ltI (fun h1 => ?_) (fun h1 => ?_)
  · have hl : Lib.digits36.data.toList.length = 36 := by decide +kernel
    refine ⟨_, sliceOp_str (l := Lib.digits36.data.toList) (i := x) (j := x + 1) un9 ?_ ?_, ?_⟩
    · rw [addI_64 (by omega) (by omega)]; exact boundA_int (by omega) (by omega)
    · exact boundA_some (by omega)
    · rw [Lib.digits36_piece (by omega)]; exact h
  · have hl : Lib.smalls.data.toList.length = 200 := by decide +kernel
    refine ⟨_, sliceOp_str (l := Lib.smalls.data.toList) (i := x * 2) (j := x * 2 + 2) un9 ?_ ?_, ?_⟩
    · rw [mulI_64 (by omega) (by omega), addI_64 (by omega) (by omega)]; exact boundA_int (by omega) (by omega)
    · rw [mulI_64 (by omega) (by omega)]; exact boundA_int (by omega) (by omega)
    · rw [Lib.smalls_piece (by omega) hx]; exact h

theorem wrapU {x : Int} (h0 : 0 ≤ x) (h1 : x < 18446744073709551616) : wrapI .u64 x = x := wrapI_fit (show (0 : Int) ≤ x from h0) (show x ≤ 18446744073709551615 by omega)

theorem numDigits_ok {u : Nat} {m : Mem} {Q : Value → Mem → Prop} (h1 : 1 ≤ u) (h2 : u < 18446744073709551616) (hp : PowT m) (h : Q (.int .i64 (Lib.nDigits u : Int)) m) : CallW cx 42 [.int .u64 (u : Int)] m Q := by
  obtain ⟨e1, e2⟩ := Lib.numDigits_eq u h1 h2
  apply F42_ok; unfold F42
  refine CallW.ov (f := len64A) (r := .int .i64 (Lib.bitLen u)) (m' := m) (by kernel_rfl) ?_ ⟨_, rfl, ?_⟩
  · show (if 0 ≤ (u : Int) ∧ (u : Int) ≤ 18446744073709551615 then some (Value.int .i64 ((Lib.bitLen (u : Int).toNat : Nat) : Int), m) else none) = _
    rw [if_pos ⟨by omega, by omega⟩, Int.toNat_natCast]
  have hbl : Lib.bitLen u ≤ 64 := Lib.bitLen_le u 64 (Nat.le_refl _) h2
  apply F53_ok; unfold F53
  refine ⟨by omega, _, rfl, ?_⟩
  have hsh : shrI .i64 (mulI .i64 ((Lib.bitLen u : Nat) : Int) 78913) 18 = ((Lib.l10 (Lib.bitLen u) : Nat) : Int) := by
    rw [mulI_64 (by omega) (by omega)]
    unfold shrI Lib.l10
    generalize Lib.bitLen u = L at hbl
    show ((L : Int) * 78913).fdiv (2 ^ min (Int.toNat 18) 64) = _
    have : (2 : Int) ^ min (Int.toNat 18) 64 = 262144 := by decide
    rw [this, Int.fdiv_eq_ediv_of_nonneg _ (by omega)]
    omega
  rw [hsh]
  generalize Lib.l10 (Lib.bitLen u) = q at e1 e2
  refine ⟨⟨by omega, by omega⟩, ((10 ^ q : Nat) : Int), ?_, ?_⟩
  · simp only [Int.toNat_natCast, Nat.zero_add, Nat.mul_one]
    exact hp q (by omega)
  apply F55_ok; unfold F55
  refine split_leI (fun h3 => ?_) (fun h3 => ?_)
  · rw [if_pos (by omega)] at e1
    refine ⟨_, rfl, ?_⟩
    rw [addI_64 (by omega) (by omega)]
    rw [show (q : Int) + 1 = ((Lib.nDigits u : Nat) : Int) by omega]; exact h
  · rw [if_neg (by omega)] at e1
    refine ⟨_, rfl, ?_⟩
    rw [addI_64 (by omega) (by omega)]
    rw [show (q : Int) + 0 = ((Lib.nDigits u : Nat) : Int) by omega]; exact h

theorem nDigits_le {u : Nat} (h2 : u < 18446744073709551616) : Lib.nDigits u ≤ 20 := by
  by_cases h1 : 1 ≤ u
  · obtain ⟨e1, e2⟩ := Lib.numDigits_eq u h1 h2
    split at e1 <;> omega
  · have : u = 0 := by omega
    subst this
    rw [Lib.nDigits_small (by omega)]; omega

theorem cutA {M : Mem} {b d : Nat} {lo : Option Value} {i : Nat} (hM : liveCells M b = true) (hd : d + 2 ≤ 24) (hi : i ≤ d + 2) (hlo : boundA 0 lo (d + 2) = some i) (hi2 : i < 24) : sliceOp cx M 65 (.pointer (some ⟨b, 0, none⟩)) lo (some (.int .i64 ((d + 2 : Nat) : Int))) none = some (.slice (some ⟨b, i, none⟩) (d + 2 - i) (24 - i)) := by
  have h1 : boundA 24 (some (.int .i64 ((d + 2 : Nat) : Int))) 24 = some (d + 2) := boundA_some hd
  have := sliceOp_arr (cx := cx) (m := M) (t := 65) (e := 5) (s := 1) (n := 24) (by kernel_rfl) (by kernel_rfl) hM h1 hlo hi2
  rw [this, Nat.mul_one]

/-- the digits are laid -/
theorem lay_ok {m m3 : Mem} {b d u : Nat} {Q : Value → Mem → Prop} (r3 : Row m3 b (List.replicate 24 (u8V 0)) 65 false) (hw3 : Wf m3) (hf : m3.fl ≤ b) (hd : Lib.nDigits u = d + 1) (hd2 : d + 1 ≤ 20) (hu2 : u < 18446744073709551616)
    (h : ∀ m6 q, (∀ m0, Keep m0 m3 → m0.nx ≤ b → Keep m0 m6) → Row m6 b (u8V 0 :: ((Lib.decDigits u).map u8V ++ List.replicate q (u8V 0))) 65 false → Q (.tuple #[]) m6) :
    CallW cx 43 [.slice (some ⟨b, 1, none⟩) (d + 1) 23, .int .u64 (u : Int)] m3 Q := by
  have hlt := Lib.lt_pow_nDigits u
  have hdd := dg_digs u
  have hdl := Lib.decDigits_length u
  rw [hd] at hlt hdd hdl
  have hdd' : digs d u = Lib.decDigits u := hdd
  have hrep : ∃ bs' : List UInt8, ((List.replicate 24 (u8V 0)).drop 1).take (d + 1) = bs'.map u8V := by
    refine ⟨List.replicate (d + 1) 0, ?_⟩
    rw [List.drop_replicate, List.take_replicate, List.map_replicate]
    congr 1
    omega
  have hb := hw3.row r3
  obtain ⟨m6, hm6, r6, n6, f6, g6⟩ := fmt10_at (c := 23) (o := 1) (n := d) (u := u) r3 (by rw [List.length_replicate]; omega) hf hrep hlt hu2 (by omega)
  refine CallW.ov (f := fmt10A) (by kernel_rfl) hm6 ?_
  rw [hdd'] at r6
  rw [over_rep (by rw [List.length_map, hdl]; omega)] at r6
  exact h m6 _ (fun m0 k hm0 => Keep.of_get k hm0 hb n6 f6 g6) r6

theorem rows_fin {M : Mem} {b d u q : Nat} {b0 : UInt8} (hdl : (Lib.decDigits u).length = d + 1) (r : Row M b (u8V b0 :: ((Lib.decDigits u).map u8V ++ List.replicate q (u8V 0))) 65 false) :
    rowAtL M ⟨b, 1, none⟩ (d + 1) = some ((Lib.decDigits u).map u8V) ∧ rowAtL M ⟨b, 0, none⟩ (d + 2) = some ((b0 :: Lib.decDigits u).map u8V) := by
  refine ⟨(r.rowAt (o := 1) (k := d + 1) (by simp only [List.length_cons, List.length_append, List.length_map, hdl]; omega)).trans ?_, (r.rowAt (o := 0) (k := d + 2) (by simp only [List.length_cons, List.length_append, List.length_map, hdl]; omega)).trans ?_⟩
  · congr 1
    simp only [List.drop_succ_cons, List.drop_zero]
    rw [List.take_append_of_le_length (by rw [List.length_map, hdl]; omega), List.take_of_length_le (by rw [List.length_map, hdl]; omega)]
  · congr 1
    simp only [List.drop_zero, List.take_succ_cons, List.map_cons]
    rw [List.take_append_of_le_length (by rw [List.length_map, hdl]; omega), List.take_of_length_le (by rw [List.length_map, hdl]; omega)]

theorem itoa_abs (x : Int) : Lib.itoa x = (if x < 0 then [45] else []) ++ Lib.decDigits x.natAbs := by
  unfold Lib.itoa
  by_cases hn : x < 0
  · rw [if_pos hn, if_pos hn]; rfl
  · rw [if_neg hn, if_neg hn]
    rw [show x.toNat = x.natAbs by omega]; rfl

theorem un71 : cx.un.get 69 = some (.slice 5) := by kernel_rfl
theorem un9 : cx.un.get 9 = some .string := by kernel_rfl
theorem un5 : cx.un.get 5 = some (.int .u8) := by kernel_rfl

theorem formatInt_ok {x : Int} {m : Mem} {Q : Value → Mem → Prop} (hw : Wf m) (hp : PowT m) (h0 : -9223372036854775808 ≤ x) (h1 : x ≤ 9223372036854775807) (h : ∀ m', Keep m m' → Q (.string (bs (Lib.itoa x))) m') : CallW cx 33 [.int .i64 x, .int .i64 10] m Q := by
  apply F33_ok; unfold F33
  refine split_eq (fun _ => ?_) (fun h => absurd rfl h)
  refine joinK_of' (fun J => J (decide (0 ≤ x ∧ x < 100)) m) ?_ (fun J hJ => ?_)
  · by_cases hs : 0 ≤ x ∧ x < 100
    · rw [decide_eq_true hs, splitB_true]
      obtain ⟨k, rfl⟩ : ∃ k : Nat, x = (k : Int) := ⟨x.toNat, by omega⟩
      refine small_ok (by omega) ⟨_, rfl, ?_⟩
      have := h m (Keep.refl hw)
      unfold Lib.itoa at this
      rw [if_neg (by omega)] at this
      simpa using this
    · rw [decide_eq_false hs, splitB_false, mBind_iff]
      generalize hm3 : newO m _ = m3
      have k3 : Keep m m3 := hm3 ▸ (Keep.refl hw).newO
      have r3 : Row m3 m.nx (List.replicate 24 (u8V 0)) 65 false := by rw [← hm3]; exact Row.newO
      have hfl := hw.1
      have fl3 := k3.fl
      refine joinK_of' (fun J => J (x.natAbs : Int) m3) ?_ (fun J hJ => ?_)
      · have hu1 : 1 ≤ x.natAbs := by omega
        have hu2 : x.natAbs < 18446744073709551616 := by omega
        have hab := itoa_abs x
        rw [hab] at h
        have hd1 := Lib.nDigits_pos x.natAbs
        have hd2 := nDigits_le hu2
        refine numDigits_ok hu1 hu2 (hp.keep hw k3) ⟨_, rfl, ?_⟩
        have hdl := Lib.decDigits_length x.natAbs
        clear hs hab
        obtain ⟨d, hd⟩ : ∃ d, Lib.nDigits x.natAbs = d + 1 := ⟨_, (Nat.sub_add_cancel hd1).symm⟩
        rw [hd] at hd2 hdl ⊢
        have e30 : addI .i64 1 ((d + 1 : Nat) : Int) = ((d + 2 : Nat) : Int) := by rw [addI_64 (by omega) (by omega)]; omega
        rw [e30]
        have lay := fun Q => lay_ok (m := m) (Q := Q) r3 k3.wf (by omega) hd hd2 hu2
        clear hu2 hu1
        have hb1 : boundA 0 (some (.int .i64 1)) (d + 2) = some 1 := boundA_int (j := 1) rfl (by omega)
        refine ⟨_, _, _, cutA r3.live (by omega) (by omega) hb1 (by omega), ?_⟩
        refine lay _ fun m6 q k6' r6 => ⟨rfl, ?_⟩
        have k6 := k6' m k3 (Nat.le_refl _)
        have fl6 := k6.fl
        refine split_ltI (fun hn => ?_) (fun hn => ?_)
        · refine ⟨⟨by omega, by omega⟩, r6.okW (by omega) (by simp), ?_⟩
          rw [mBind_iff, show (Value.int IntKind.u8 (45 : Int)) = u8V 45 from rfl]
          have r7 : Row (AX.wr m6 m.nx 0 [u8V 45]) m.nx (u8V 45 :: ((Lib.decDigits x.natAbs).map u8V ++ List.replicate q (u8V 0))) 65 false := r6.wr (o := 0) (vs := [u8V 45]) (by simp)
          have k7 : Keep m (AX.wr m6 m.nx 0 [u8V 45]) := k6.wr (Nat.le_refl _)
          refine ⟨_, _, _, cutA (lo := none) r7.live (by omega) (Nat.zero_le _) rfl (by omega), _, convert_bytes un71 un9 un5 (rows_fin hdl r7).2, ?_⟩
          have := h _ k7
          rw [if_pos hn] at this
          exact this
        · refine ⟨_, _, _, cutA r6.live (by omega) (by omega) hb1 (by omega), _, convert_bytes un71 un9 un5 (rows_fin hdl r6).1, ?_⟩
          have := h _ k6
          rw [if_neg (by omega)] at this
          exact this
      · refine split_ltI (fun hn => ?_) (fun hn => ?_)
        · have e1 : subI .u64 0 (cvI .u64 x) = (x.natAbs : Int) := by
            rw [cvU_neg h0 hn, negU (by omega) (by omega)]; omega
          rw [e1]; exact hJ
        · have e1 : cvI .u64 x = (x.natAbs : Int) := by
            unfold cvI
            rw [wrapU (by omega) (by omega)]; omega
          rw [e1]; exact hJ
  · refine split_leI (fun h2 => ?_) (fun h2 => ?_)
    · rw [ltI_dec]
      rw [show decide (x < 100) = decide (0 ≤ x ∧ x < 100) by simp [h2]]
      exact hJ
    · rw [show false = decide (0 ≤ x ∧ x < 100) from (decide_eq_false (by omega)).symm]
      exact hJ

theorem formatInt_ok' {x : Int} {m : Mem} {Q : Value → Mem → Prop} (hw : Wf m) (hp : PowT m) (h0 : -9223372036854775808 ≤ x) (h1 : x ≤ 9223372036854775807) (h : ∀ m', Keep m m' → Q (.string (bs (Lib.itoa x))) m') : CallW cx 20 [.int .i64 x, .int .i64 10] m Q := by
  apply F20_ok; unfold F20
  exact formatInt_ok hw hp h0 h1 fun m' k => ⟨_, rfl, h m' k⟩
theorem itoa_ok {x : Int} {m : Mem} {Q : Value → Mem → Prop} (hw : Wf m) (hp : PowT m) (h0 : -9223372036854775808 ≤ x) (h1 : x ≤ 9223372036854775807) (h : ∀ m', Keep m m' → Q (.string (bs (Lib.itoa x))) m') : CallW cx 21 [.int .i64 x] m Q := by
  apply F21_ok; unfold F21
  apply F34_ok; unfold F34
  exact formatInt_ok hw hp h0 h1 fun m' k => ⟨_, rfl, _, rfl, h m' k⟩

end Go.Proofs.YtdeknemdeijljaaDoor.vc
