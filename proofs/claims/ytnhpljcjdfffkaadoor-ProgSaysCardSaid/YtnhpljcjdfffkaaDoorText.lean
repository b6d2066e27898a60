/-
  Package prog: Text; the reference's Num, GoodProg, Total, Holds, ProgText, ProgFits; Fits.
-/
import Derived.Test.YtnhpljcjdfffkaaDoorNum
import Derived.Test.YtnhpljcjdfffkaaDoorAxJoin
namespace Go.Proofs.YtnhpljcjdfffkaaDoor.vc
open Go Go.AX
set_option linter.unusedVariables false
set_option linter.unusedSimpArgs false
set_option maxRecDepth 100000

theorem dig_fin : ∀ k : Fin 10, cvI .u8 (addI .i64 48 (k.val : Int)) = ((UInt8.ofNat (48 + k.val)).toNat : Int) := by decide
theorem dig_eq {k : Nat} (h : k < 10) : Value.int .u8 (cvI .u8 (addI .i64 48 (k : Int))) = u8V (UInt8.ofNat (48 + k)) := by
  have := dig_fin ⟨k, h⟩
  simp only at this
  rw [this]; rfl

theorem quo10 {x : Nat} (h : x < 9223372036854775808) : quoI .i64 (x : Int) 10 = ((x / 10 : Nat) : Int) := by
  unfold quoI
  rw [Int.tdiv_eq_ediv_of_nonneg (by omega)]
  rw [wrapI_64 (by omega) (by omega)]
  omega
theorem rem10 (x : Nat) : Int.tmod (x : Int) 10 = ((x % 10 : Nat) : Int) := by
  rw [Int.tmod_eq_emod_of_nonneg (by omega)]
  omega

theorem dec_len {x : Nat} (h : x < 9223372036854775808) : (Lib.decDigits x).length ≤ 20 := by
  rw [Lib.decDigits_length]; exact nDigits_le (by omega)

theorem num_ok : ∀ (x : Nat) {m : Mem} {Q : Value → Mem → Prop}, x < 9223372036854775808 → Wf m → (∀ m', Keep m m' → Q (.string (bs (Lib.decDigits x))) m') → CallW cx 33 [.int .i64 (x : Int)] m Q := by
  intro x
  induction x using Nat.strongRecOn with
  | _ x ih =>
    intro m Q hx hw h
    apply F33_ok; unfold F33
    rw [Lib.decDigits] at h
    refine split_ltI (fun h1 => ?_) (fun h1 => ?_)
    · rw [dif_pos (by omega)] at h
      rw [mBind_iff, dig_eq (by omega)]
      have r1 : Row (newO m (row [u8V (UInt8.ofNat (48 + x))] 5 false)) m.nx [u8V (UInt8.ofNat (48 + x))] 5 false := Row.newO
      refine ⟨_, convert_bytes un71 un9 un5 (l := [UInt8.ofNat (48 + x)]) r1.rowAll, ?_⟩
      exact h _ (Keep.refl hw).newO
    · rw [dif_neg (by omega)] at h
      rw [mBind_iff]
      refine ⟨by decide, ?_⟩
      rw [quo10 hx, rem10, dig_eq (by omega)]
      have hwb : Wf (setFl (AX.bump m 11) m.nx) := ⟨Nat.le_add_right _ _, fun b hb => hw.2 b (by simp at hb; omega)⟩
      refine ih (x / 10) (by omega) (by omega) hwb fun m3 k3 => ⟨_, rfl, by decide, ?_⟩
      have hR : Row (AX.addO (AX.bump m 11) (m.nx + 7) (row [u8V (UInt8.ofNat (48 + x % 10))] 5 false)) (m.nx + 7) [u8V (UInt8.ofNat (48 + x % 10))] 5 false := Row.of_row (by rw [addO_get, if_pos rfl])
      refine ⟨_, convert_bytes un71 un9 un5 (l := [UInt8.ofNat (48 + x % 10)]) hR.rowAll, ?_, ?_⟩
      · have := dec_len (x := x / 10) (by omega)
        show (Lib.decDigits (x / 10)).length + 1 ≤ _
        omega
      · rw [mBind_iff]
        have nx3 := k3.nx
        simp at nx3
        refine h _ ⟨?_, ?_, by simp, fun b hb => ?_⟩
        · refine Wf.addO (m := setFl m3 (AX.bump m 11).fl) ⟨?_, fun b hb => k3.wf.2 b hb⟩ (show m.nx + 7 < m3.nx by omega)
          have := hw.1
          show m.fl ≤ m3.nx; omega
        · show m.nx ≤ m3.nx; omega
        · rw [addO_get, if_neg (by omega)]
          show m3.hp.get b = _
          exact k3.get b (by show b < m.nx + 11; omega)

/-! ## Text -/

def txt1 (x : Stp2) : List UInt8 := Lib.itoa x.2 ++ (if 0 < x.1 then 64 :: Lib.itoa x.1 else [])
def txt (l : List Stp2) : List UInt8 := if goodP l = true then Lib.join (l.map txt1) [43] else []

theorem itoa_len {x : Int} (h0 : -9223372036854775808 ≤ x) (h1 : x ≤ 9223372036854775807) : (Lib.itoa x).length ≤ 21 := by
  rw [itoa_abs, List.length_append]
  have := dec_len (x := x.natAbs) |> fun f => by
    by_cases h : x.natAbs < 9223372036854775808
    · exact f h
    · have e : x.natAbs = 9223372036854775808 := by omega
      rw [e, Lib.decDigits_length]; exact nDigits_le (by omega)
  split <;> simp <;> omega

theorem txt1_len {x : Stp2} (h : 0 ≤ x.1 ∧ x.1 ≤ 8 ∧ 1 ≤ x.2 ∧ x.2 ≤ 2147483648) : (txt1 x).length ≤ 43 := by
  unfold txt1
  have h1 := itoa_len (x := x.2) (by omega) (by omega)
  have h2 := itoa_len (x := x.1) (by omega) (by omega)
  rw [List.length_append]
  split
  · simp only [List.length_cons]; omega
  · simp only [List.length_nil]; omega

theorem join_len (sep : List UInt8) {B : Nat} : ∀ {l : List (List UInt8)}, (∀ x ∈ l, x.length ≤ B) → (Lib.join l sep).length ≤ l.length * (B + sep.length)
  | [], _ => by simp [Lib.join]
  | [x], h => by
    have := h x (List.mem_cons_self ..)
    simp [Lib.join]; omega
  | x :: y :: r, h => by
    have h1 := h x (List.mem_cons_self ..)
    have ih := join_len sep (l := y :: r) fun z hz => h z (List.mem_cons_of_mem _ hz)
    have e : Lib.join (x :: y :: r) sep = x ++ sep ++ Lib.join (y :: r) sep := by simp [Lib.join]
    rw [e, List.length_append, List.length_append]
    rw [List.length_cons (a := x), Nat.succ_mul]
    omega

def strV (l : List UInt8) : Value := .string (bs l)

theorem strsA_of {c : Tr Value} : ∀ {l : List (List UInt8)} {o : Nat}, (∀ i x, l[i]? = some x → c.get (o + i) = some (strV x)) → strsA c l.length o = some (l.map bs)
  | [], _, _ => rfl
  | x :: r, o, h => by
    have h0 := h 0 x rfl
    have ih := strsA_of (c := c) (l := r) (o := o + 1) fun i y hy => by
      have := h (i + 1) y (by simpa using hy)
      rwa [show o + (i + 1) = o + 1 + i by omega] at this
    simp only [List.length_cons, strsA]
    rw [Nat.add_zero] at h0
    rw [h0]
    simp only [strV, ih, List.map_cons]

theorem joinA_at {m : Mem} {a : Option Addr} {n c : Nat} {e : TypeId} {l : List (List UInt8)} {sep : List UInt8} (h : Grow m a n c 1 e (l.map strV)) (h1 : 1 ≤ l.length) (h2 : l.length ≤ 1000000) (hl : (Lib.join l sep).length ≤ 140737488355328) :
    joinA [.slice a n c, .string (bs sep)] m = some (.string (bs (Lib.join l sep)), m) := by
  have hn : l.length = n := by have := h.1; simpa using this
  subst hn
  rcases h.2 with ⟨_, h3, _⟩ | ⟨b, rfl, rfl, _, hr⟩
  · omega
  · obtain ⟨cc, g1, g2⟩ := hr
    have hs : strsA cc l.length 0 = some (l.map bs) := strsA_of fun i x hx => by
      rw [Nat.zero_add, g2 i (by simp; exact (List.getElem?_eq_some_iff.1 hx).1)]
      simp [hx]
    have hmap : (l.map bs).map (fun x : ByteArray => x.data.toList) = l := by simp [Function.comp_def]
    unfold joinA
    simp only [g1, hs, hmap]
    have e1 : (Nat.ble (0 + l.length) (l.map strV).length && Nat.ble l.length l.length && Nat.ble l.length 140737488355328 && Nat.ble (Lib.join l sep).length 140737488355328) = true := by
      rw [Nat.ble_eq_true_of_le (by simp), Nat.ble_eq_true_of_le (Nat.le_refl _), Nat.ble_eq_true_of_le (by omega), Nat.ble_eq_true_of_le hl]; rfl
    rw [e1]

theorem text_ok {m : Mem} {a : Option Addr} {n c : Nat} {l : List Stp2} {Q : Value → Mem → Prop} (hw : Wf m) (hp : PowT m) (hP : PS m a n l)
    (h : ∀ m', Keep m m' → Q (strV (txt l)) m') : CallW cx 11 [.slice a n c] m Q := by
  apply F11_ok; unfold F11
  have hl := hP.1
  refine good_ok hw hP fun m1 k1 => ⟨_, rfl, split_nb (fun hg => ?_) (fun hg => ?_)⟩
  · have := h m1 k1
    rwa [txt, if_neg (by rw [hg]; decide)] at this
  obtain ⟨g1, g2, g3⟩ := goodP_len hg
  refine forN3 (n := n) (by omega) (fun k a3 n3 c3 m2 => Keep m m2 ∧ Grow m2 a3 n3 c3 1 9 ((l.take k).map fun x => strV (txt1 x)) ∧ ∀ b ∈ blk a3, m.nx ≤ b) ⟨k1, Grow.nil _ _ _, fun _ h => by cases h⟩ ?_
  rintro k a3 n3 c3 m2 hk ⟨k2, hG, hb⟩ I w hI
  refine split_lt (fun hlt => ?_) (fun hge => ?_)
  · obtain ⟨x, hx⟩ := ArrP.get hP hlt
    have hgx := g3 x (List.mem_of_getElem? hx)
    refine PS.open (hP.keep hw k2) hx fun b o r1 r2 => ⟨_, r1, _, r2, ?_⟩
    rw [mBind_iff]
    have rr : Row (newO m2 (row [.int .i64 0, .int .i64 0] 39 false)) m2.nx _ 39 false := Row.newO
    have f0 : Fr m2 (newO m2 (row [.int .i64 0, .int .i64 0] 39 false)) [] := (Fr.refl m2 []).newO
    refine ⟨rr.okW (by have := k2.wf.1; simpa using this) (by simp), ?_⟩
    rw [mBind_iff]
    have rw4 : Row _ m2.nx [.int .i64 x.1, .int .i64 x.2] 39 false := rr.wr (o := 0) (vs := [.int .i64 x.1, .int .i64 x.2]) (by simp)
    have k4 : Keep m2 (AX.wr (newO m2 (row [.int .i64 0, .int .i64 0] 39 false)) m2.nx 0 [.int .i64 x.1, .int .i64 x.2]) := (Keep.refl k2.wf).newO.wr (Nat.le_refl _)
    generalize AX.wr (newO m2 (row [.int .i64 0, .int .i64 0] 39 false)) m2.nx 0 [.int .i64 x.1, .int .i64 x.2] = m4 at rw4 k4 ⊢
    have k04 := k2.trans k4
    refine ⟨x.2, rw4.rd, ?_⟩
    refine formatInt_ok' k04.wf (hp.keep hw k04) (by omega) (by omega) fun m5 k5 => ⟨_, rfl, ?_⟩
    have k05 := k04.trans k5
    have k25 := k4.trans k5
    refine joinK_of' (fun J => ∀ M, Keep m2 M → J (bs (txt1 x)) M) (fun M kM => ?_) (fun J hJ => ?_)
    · rw [mBind_iff]
      have hG' := kM.grow k2.wf hG
      have hlk : n3 ≤ 1000000 := by have := hG.1; simp at this; omega
      obtain ⟨m8, e8, w8, f8, n8, g8⟩ := push (cx := cx) (t := 37) (vs := [strV (txt1 x)]) (by kernel_rfl) kM.wf hG' rfl rfl hlk
      have k8 := Keep.of_fr (k2.trans kM) w8 f8 hb
      refine ⟨_, _, _, m8, e8, hI _ _ _ _ hlt ⟨k8, ?_, fun b' h => ?_⟩⟩
      · rw [List.take_add_one, hx]
        simpa using g8
      · have := (k2.trans kM).nx
        simp [blk] at h; omega
    · refine ⟨x.1, (k5.row k4.wf rw4).rd, split_ltI (fun hp1 => ?_) (fun hp1 => ?_)⟩
      · refine ⟨x.1, (k5.row k4.wf rw4).rd, ?_⟩
        refine itoa_ok k05.wf (hp.keep hw k05) (by omega) (by omega) fun m9 k9 => ⟨_, rfl, ?_, ?_, ?_⟩
        · have := itoa_len (x := x.1) (by omega) (by omega)
          show 1 + (Lib.itoa x.1).length ≤ _
          omega
        · have h1 := itoa_len (x := x.1) (by omega) (by omega)
          have h2 := itoa_len (x := x.2) (by omega) (by omega)
          show (Lib.itoa x.2).length + (64 :: Lib.itoa x.1).length ≤ _
          simp only [List.length_cons]; omega
        · have := hJ m9 (k25.trans k9)
          rw [txt1, if_pos hp1] at this
          exact this
      · have := hJ m5 k25
        rw [txt1, if_neg (by omega), List.append_nil] at this
        exact this
  · rw [List.take_of_length_le (by omega)] at hG
    have hj := join_len [43] (B := 43) (l := l.map txt1) (by
      intro x hx
      obtain ⟨y, hy, rfl⟩ := List.mem_map.1 hx
      exact txt1_len (g3 y hy))
    rw [List.length_map] at hj
    have hG' : Grow m2 a3 n3 c3 1 9 ((l.map txt1).map strV) := by rw [List.map_map]; exact hG
    refine CallW.ov (f := joinA) (by kernel_rfl) (joinA_at (sep := [43]) hG' (by simpa using g1) (by simp; omega) ?_) ⟨_, rfl, ?_⟩
    · have : l.length * (43 + ([43] : List UInt8).length) ≤ 8 * 44 := Nat.mul_le_mul g2 (by simp)
      omega
    · have := h m2 k2
      rwa [txt, if_pos hg] at this

end Go.Proofs.YtnhpljcjdfffkaaDoor.vc
