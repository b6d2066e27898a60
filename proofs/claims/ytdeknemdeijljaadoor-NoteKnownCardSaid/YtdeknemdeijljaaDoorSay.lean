/-
  The plain law of chapter 21: an Event's words, read again, are the Event, but for an N that its Kind has not. Then package note: Text.
-/
import Derived.Test.YtdeknemdeijljaaDoorNum
import Derived.Test.YtdeknemdeijljaaDoorEvs
import Derived.Test.YtdeknemdeijljaaDoorAxSplit
import Derived.Test.YtdeknemdeijljaaDoorAxArr
import Derived.Lib.AtoiAllCases
namespace Go.Proofs.YtdeknemdeijljaaDoor.vc
open Go Go.AX
set_option linter.unusedVariables false
set_option linter.unusedSimpArgs false

def strV (l : List UInt8) : Value := .string (bs l)

def wordsL : List (List UInt8) := [[], [114, 101, 108, 101, 97, 115, 101, 32], [100, 111, 110, 101, 32], [97, 98, 111, 114, 116, 32], [119, 97, 105, 116], [116, 117, 114, 110], [103, 114, 97, 110, 116, 32], [100, 101, 97, 100], [103, 97, 116, 101, 32], [119, 97, 107, 101], [105, 100, 108, 101]]
def suf (s : List UInt8) : Bool := s.getLast? == some 32
def trimW (s : List UInt8) : List UInt8 := if suf s = true then s.dropLast else s
def word (k : Nat) : List UInt8 := wordsL.getD k []
theorem word_at {k : Nat} (h : k < 11) : wordsL[k]? = some (word k) := by
  have : ∀ k : Fin 11, wordsL[k.val]? = some (word k.val) := by decide
  exact this ⟨k, h⟩

/-- the first word that is so told -/
def idxGo (x : List UInt8) : List (List UInt8) → Nat → Int
  | [], _ => -1
  | w :: r, k => if w ≠ [] ∧ trimW w = x then (k : Int) else idxGo x r (k + 1)
def idxW (x : List UInt8) : Int := idxGo x wordsL 0

def okE (e : E) : Bool := decide (1 ≤ e.2.1 ∧ e.2.1 < 11 ∧ 0 ≤ e.1 ∧ 0 ≤ e.2.2.1 ∧ 0 ≤ e.2.2.2)
def rangeE (e : E) : Prop := e.1 ≤ 9223372036854775807 ∧ e.2.2.1 ≤ 9223372036854775807 ∧ e.2.2.2 ≤ 9223372036854775807

def partsE (e : E) : List (List UInt8) := Lib.itoa e.1 :: trimW (word e.2.1.toNat) :: Lib.itoa e.2.2.1 :: (if suf (word e.2.1.toNat) = true then [Lib.itoa e.2.2.2] else [])
def textE (e : E) : List UInt8 := if okE e = true then Lib.join (partsE e) [32] else []

def fieldsE (f : List (List UInt8)) : E := (atoiV (f.getD 0 []), idxW (f.getD 1 []), atoiV (f.getD 2 []), if 3 < f.length then atoiV (f.getD 3 []) else 0)
def parseE (s : List UInt8) : Option E :=
  if (pieces 32 (s.count 32) s).length < 3 then none
  else if textE (fieldsE (pieces 32 (s.count 32) s)) = s then some (fieldsE (pieces 32 (s.count 32) s)) else none

def normE (e : E) : E := if suf (word e.2.1.toNat) = true then e else (e.1, e.2.1, e.2.2.1, 0)

theorem okE_iff {e : E} : okE e = true ↔ 1 ≤ e.2.1 ∧ e.2.1 < 11 ∧ 0 ≤ e.1 ∧ 0 ≤ e.2.2.1 ∧ 0 ≤ e.2.2.2 := by
  unfold okE; rw [decide_eq_true_iff]

theorem words_fact : ∀ k : Fin 11, 1 ≤ k.val → (32 : UInt8) ∉ trimW (word k.val) ∧ idxW (trimW (word k.val)) = (k.val : Int) := by decide +kernel

theorem count_join {c : UInt8} : ∀ {l : List (List UInt8)}, l ≠ [] → (∀ x ∈ l, c ∉ x) → (Lib.join l [c]).count c + 1 = l.length
  | [], h, _ => absurd rfl h
  | [x], _, h => by
    have e : Lib.join [x] [c] = x := by simp [Lib.join]
    rw [e, List.count_eq_zero.2 (h x (List.mem_cons_self ..))]; rfl
  | x :: y :: r, _, h => by
    rw [join_cons x (by simp), List.count_append, List.count_append, List.count_eq_zero.2 (h x (List.mem_cons_self ..))]
    have ih := count_join (c := c) (l := y :: r) (by simp) fun z hz => h z (List.mem_cons_of_mem _ hz)
    have e : List.count c [c] = 1 := by simp
    rw [e, List.length_cons (a := x)]
    omega

theorem atoiV_itoa {x : Int} (h0 : 0 ≤ x) (h1 : x ≤ 9223372036854775807) : atoiV (Lib.itoa x) = x := by
  unfold atoiV
  rw [atoi_itoa h0 (by omega)]

theorem atoiV_bounds (l : List UInt8) : -9223372036854775808 ≤ atoiV l ∧ atoiV l ≤ 9223372036854775807 := by
  unfold atoiV
  split
  · rename_i v hv; exact Lib.atoiAll_bounds hv
  · exact Lib.atoiSat_bounds l
  · omega

theorem normE_at (e : E) : (normE e).1 = e.1 ∧ (normE e).2.1 = e.2.1 ∧ (normE e).2.2.1 = e.2.2.1 := by
  unfold normE; split <;> exact ⟨rfl, rfl, rfl⟩

theorem text_norm {e : E} (h : okE e = true) : textE (normE e) = textE e := by
  unfold normE
  split
  · rfl
  · rename_i hs
    have h' := okE_iff.1 h
    have hk : okE (e.1, e.2.1, e.2.2.1, 0) = true := okE_iff.2 ⟨h'.1, h'.2.1, h'.2.2.1, h'.2.2.2.1, Int.le_refl _⟩
    unfold textE
    rw [if_pos h, if_pos hk]
    unfold partsE
    simp only [if_neg hs]

theorem parts_no {e : E} (h : okE e = true) : ∀ x ∈ partsE e, (32 : UInt8) ∉ x := by
  obtain ⟨h1, h2, h3, h4, h5⟩ := okE_iff.1 h
  have hw := (words_fact ⟨e.2.1.toNat, by omega⟩ (show 1 ≤ e.2.1.toNat by omega)).1
  intro x hx
  unfold partsE at hx
  rcases List.mem_cons.1 hx with rfl | hx
  · exact not_in_itoa h3 (by decide)
  rcases List.mem_cons.1 hx with rfl | hx
  · exact hw
  rcases List.mem_cons.1 hx with rfl | hx
  · exact not_in_itoa h4 (by decide)
  split at hx
  · rcases List.mem_cons.1 hx with rfl | hx
    · exact not_in_itoa h5 (by decide)
    · cases hx
  · cases hx

theorem parse_text {e : E} (h : okE e = true) (hr : rangeE e) : parseE (textE e) = some (normE e) := by
  obtain ⟨h1, h2, h3, h4, h5⟩ := okE_iff.1 h
  obtain ⟨r1, r2, r3⟩ := hr
  have hp : pieces 32 ((textE e).count 32) (textE e) = partsE e := by
    unfold textE
    rw [if_pos h]
    exact pieces_join (by unfold partsE; simp) (by
      have := count_join (c := 32) (l := partsE e) (by unfold partsE; simp) (parts_no h)
      omega) (parts_no h)
  have hi := (words_fact ⟨e.2.1.toNat, by omega⟩ (show 1 ≤ e.2.1.toNat by omega)).2
  simp only at hi
  have e2 : ((e.2.1.toNat : Nat) : Int) = e.2.1 := by omega
  rw [e2] at hi
  have key : fieldsE (partsE e) = normE e := by
    unfold fieldsE normE partsE
    by_cases hs : suf (word e.2.1.toNat) = true
    · simp only [if_pos hs]
      simp [atoiV_itoa h3 r1, atoiV_itoa h4 r2, atoiV_itoa h5 r3, hi]
    · simp only [if_neg hs]
      simp [atoiV_itoa h3 r1, atoiV_itoa h4 r2, hi]
  have hlen : ¬ (partsE e).length < 3 := by unfold partsE; simp
  unfold parseE
  rw [hp, if_neg hlen, key, if_pos (text_norm h)]

theorem text_ne {e : E} (h : okE e = true) : textE e ≠ [] := by
  obtain ⟨h1, h2, h3, h4, h5⟩ := okE_iff.1 h
  unfold textE
  rw [if_pos h]
  unfold partsE
  rw [join_cons _ (by simp)]
  intro e'
  have := (List.append_eq_nil_iff.1 (List.append_eq_nil_iff.1 e').1).2
  cases this

theorem parse_some {s : List UInt8} {e : E} (h : parseE s = some e) : textE e = s := by
  unfold parseE at h
  split at h
  · cases h
  · split at h
    · rename_i ht
      rw [← Option.some.inj h]; exact ht
    · cases h

/-! ## Text -/

set_option maxRecDepth 100000

theorem dec_len {x : Nat} (h : x < 9223372036854775808) : (Lib.decDigits x).length ≤ 20 := by
  rw [Lib.decDigits_length]; exact nDigits_le (by omega)

theorem itoa_len {x : Int} (h0 : 0 ≤ x) (h1 : x ≤ 9223372036854775807) : (Lib.itoa x).length ≤ 20 := by
  rw [itoa_dec h0]
  exact dec_len (by omega)

theorem eqS_dec' (a b : List UInt8) : eqS (bs a) (bs b) = decide (a = b) := by
  rw [Bool.eq_iff_iff, decide_eq_true_iff, eqS_bs]

theorem sub1 {n : Nat} (h : n ≤ 1000000) : subI .i64 (lenI (n + 1)) 1 = ((n : Nat) : Int) := by
  unfold lenI
  rw [subI_64 (by omega) (by omega)]; omega

theorem suf_snoc (t : List UInt8) (b : UInt8) : suf (t ++ [b]) = decide (b = 32) := by
  unfold suf
  rw [List.getLast?_append]
  simp
  rfl

theorem hasSuf_ok {s : List UInt8} {m : Mem} {Q : Value → Mem → Prop} (hs : s.length ≤ 1000000) (h : Q (.bool (suf s)) m) : CallW cx 40 [.string (bs s), .string (bs [32])] m Q := by
  apply F40_ok; unfold F40
  rcases List.eq_nil_or_concat s with rfl | ⟨t, b, rfl⟩
  · refine split_leI (fun h0 => by simp [lenI, lenS] at h0) (fun _ => h)
  · rw [List.concat_eq_append] at *
    have hl : lenS (bs (t ++ [b])) = t.length + 1 := by simp [lenS_bs]
    refine split_leI (fun _ => ?_) (fun h0 => by rw [hl] at h0; simp [lenI, lenS_bs] at h0; omega)
    rw [hl, show lenI (lenS (bs [32])) = 1 from rfl, sub1 (by simp at hs; omega)]
    refine ⟨_, sliceOp_str (i := t.length) un9 boundA_none (boundA_some (by simp)), ?_⟩
    have e : ((t ++ [b]).drop t.length).take ((t ++ [b]).length - t.length) = [b] := by simp
    rw [e, eqS_dec']
    rw [suf_snoc] at h
    simpa using h

theorem cut1 {t : List UInt8} {b : UInt8} {m : Mem} {P : ByteArray → Prop} (hs : (t ++ [b]).length ≤ 1000000) (h : P (bs t)) :
    ∃ s17 : ByteArray, sliceOp cx m 9 (.string (bs (t ++ [b]))) none (some (.int .i64 (subI .i64 (lenI (lenS (bs (t ++ [b])))) (lenI (lenS (bs [32])))))) none = some (.string s17) ∧ P s17 := by
  have hl : lenS (bs (t ++ [b])) = t.length + 1 := by simp [lenS_bs]
  rw [hl, show lenI (lenS (bs [32])) = 1 from rfl, sub1 (by simp at hs; omega)]
  refine ⟨_, sliceOp_str (j := t.length) un9 (boundA_some (by simp)) boundA_none, ?_⟩
  have e : ((t ++ [b]).drop 0).take (t.length - 0) = t := by simp
  rw [e]; exact h

theorem suf_some {s : List UInt8} (h : suf s = true) : ∃ t, s = t ++ [32] ∧ trimW s = t := by
  rcases List.eq_nil_or_concat s with rfl | ⟨t, b, rfl⟩
  · cases h
  · rw [List.concat_eq_append] at *
    have h' := h
    rw [suf_snoc, decide_eq_true_iff] at h'
    subst h'
    refine ⟨t, rfl, ?_⟩
    unfold trimW
    rw [if_pos h]
    simp

theorem cutSuf_ok {s : List UInt8} {m : Mem} {Q : Value → Mem → Prop} (hs : s.length ≤ 1000000) (h : Q (.tuple #[strV (trimW s), .bool (suf s)]) m) : CallW cx 19 [.string (bs s), .string (bs [32])] m Q := by
  apply F19_ok; unfold F19
  apply F32_ok; unfold F32
  refine hasSuf_ok hs ⟨_, rfl, split_nb (fun hn => ?_) (fun hy => ?_)⟩
  · rw [hn] at h
    unfold trimW at h
    rw [if_neg (by rw [hn]; decide)] at h
    exact ⟨_, _, rfl, h⟩
  · obtain ⟨t, rfl, ht⟩ := suf_some hy
    rw [hy, ht] at h
    exact cut1 hs ⟨_, _, rfl, h⟩

theorem trimSuf_ok {s : List UInt8} {m : Mem} {Q : Value → Mem → Prop} (hs : s.length ≤ 1000000) (h : Q (strV (trimW s)) m) : CallW cx 27 [.string (bs s), .string (bs [32])] m Q := by
  apply F27_ok; unfold F27
  apply F39_ok; unfold F39
  refine hasSuf_ok hs ⟨_, rfl, split_b (fun hy => ?_) (fun hn => ?_)⟩
  · obtain ⟨t, rfl, ht⟩ := suf_some hy
    rw [ht] at h
    exact cut1 hs ⟨_, rfl, h⟩
  · unfold trimW at h
    rw [if_neg (by rw [hn]; decide)] at h
    exact ⟨_, rfl, h⟩

theorem F18' (m : Mem) (Q : Value → Mem → Prop) : F18 m Q = (mBind (newO m (row (wordsL.map strV) 9 false)) fun m1 => Q (.slice (some ⟨m.nx, 0, none⟩) 11 11) m1) := by kernel_rfl
theorem words_ok {m : Mem} {Q : Value → Mem → Prop} (h : Q (.slice (some ⟨m.nx, 0, none⟩) 11 11) (newO m (row (wordsL.map strV) 9 false))) : CallW cx 18 [] m Q := by
  apply F18_ok
  rw [F18', mBind_iff]
  exact h

/-- what a region leaves -/
theorem Keep.region {m m' : Mem} {n : Nat} (hw : Wf m) (k : Keep (setFl (AX.bump m n) m.nx) m') : Keep m (setFl m' (AX.bump m n).fl) := by
  have h1 := k.nx
  simp at h1
  have h2 := hw.1
  refine ⟨⟨?_, fun b hb => k.wf.2 b hb⟩, ?_, rfl, fun b hb => ?_⟩
  · show m.fl ≤ m'.nx; omega
  · show m.nx ≤ m'.nx; omega
  · exact k.get b (by show b < m.nx + n; omega)
theorem Wf.region {m : Mem} (n : Nat) (hw : Wf m) : Wf (setFl (AX.bump m n) m.nx) := ⟨Nat.le_add_right _ _, fun b hb => hw.2 b (by simp at hb; omega)⟩

theorem word_len {k : Nat} (h : k < 11) : (word k).length ≤ 8 ∧ (trimW (word k)).length ≤ 8 := by
  have : ∀ k : Fin 11, (word k.val).length ≤ 8 ∧ (trimW (word k.val)).length ≤ 8 := by decide
  exact this ⟨k, h⟩

theorem text_ok {e : E} {m : Mem} {Q : Value → Mem → Prop} (hw : Wf m) (hp : PowT m) (hr : rangeE e) (h : ∀ m', Keep m m' → Q (strV (textE e)) m') :
    CallW cx 8 [.agg #[.int .i64 e.1, .int .i64 e.2.1, .int .i64 e.2.2.1, .int .i64 e.2.2.2]] m Q := by
  apply F8_ok; unfold F8
  rw [mBind_iff]
  generalize hm1 : newO m _ = m1
  have k1 : Keep m m1 := hm1 ▸ (Keep.refl hw).newO
  have r1 : Row m1 m.nx (encV e) 23 false := by rw [← hm1]; exact Row.newO
  refine words_ok ?_
  generalize hm2 : newO m1 _ = m2
  have k12 : Keep m1 m2 := hm2 ▸ (Keep.refl k1.wf).newO
  have k2 := k1.trans k12
  have r2 : Row m2 m1.nx (wordsL.map strV) 9 false := by rw [← hm2]; exact Row.newO
  have r12 := k12.row k1.wf r1
  have r0 : rd m2 m.nx 0 = some (.int .i64 e.1) := r12.rd
  have r1' : rd m2 m.nx 1 = some (.int .i64 e.2.1) := r12.rd
  have r2' : rd m2 m.nx 2 = some (.int .i64 e.2.2.1) := r12.rd
  have r3' : rd m2 m.nx 3 = some (.int .i64 e.2.2.2) := r12.rd
  refine ⟨_, _, _, rfl, joinK_of' (fun J => okE e = true → J m2) (fun hok => ?_) (fun J hJ => ?_)⟩
  · have hQ : ∀ m', Keep m m' → Q (strV (Lib.join (partsE e) [32])) m' := fun m' k => by
      have := h m' k
      rwa [textE, if_pos hok] at this
    obtain ⟨h1, h2, h3, h4, h5⟩ := okE_iff.1 hok
    obtain ⟨q1, q2, q3⟩ := hr
    have hk : e.2.1.toNat < 11 := by omega
    obtain ⟨hwl, htl⟩ := word_len hk
    refine ⟨_, r1', ⟨h1 |> fun _ => by omega, by omega⟩, ?_⟩
    rw [vPtr_some]
    refine ⟨bs (word e.2.1.toNat), ?_, ?_⟩
    · rw [r2.rd, List.getElem?_map, show 0 + e.2.1.toNat * 1 = e.2.1.toNat by omega, word_at hk]; rfl
    refine cutSuf_ok (by omega) ⟨_, _, rfl, ?_⟩
    rw [mBind_iff]
    have hp2 := hp.keep hw k2
    refine ⟨_, r0, ?_⟩
    refine formatInt_ok' (Wf.region 12 k2.wf) (fun i hi => hp2 i hi) (by omega) (by omega) fun m6 k6 => ⟨_, rfl, ?_⟩
    have k26 := Keep.region k2.wf k6
    have hp6 := hp2.keep k2.wf k26
    have i1 := itoa_len h3 q1
    have i2 := itoa_len h4 q2
    have i3 := itoa_len h5 q3
    refine ⟨?_, ?_, ?_, _, r2', ?_⟩
    · show (Lib.itoa e.1).length + 1 ≤ _; omega
    · show (Lib.itoa e.1 ++ [32]).length + (trimW (word e.2.1.toNat)).length ≤ _
      rw [List.length_append]; simp only [List.length_cons, List.length_nil]; omega
    · show ((Lib.itoa e.1 ++ [32]) ++ trimW (word e.2.1.toNat)).length + 1 ≤ _
      rw [List.length_append, List.length_append]; simp only [List.length_cons, List.length_nil]; omega
    refine itoa_ok k26.wf hp6 (by omega) (by omega) fun m7 k67 => ⟨_, rfl, ?_, ?_⟩
    · show ((Lib.itoa e.1 ++ [32]) ++ trimW (word e.2.1.toNat) ++ [32]).length + (Lib.itoa e.2.2.1).length ≤ _
      rw [List.length_append, List.length_append, List.length_append]; simp only [List.length_cons, List.length_nil]; omega
    have k27 := k26.trans k67
    have hp7 := hp2.keep k2.wf k27
    refine split_b (fun hs => ?_) (fun hs => ?_)
    · refine ⟨_, (k27.row k2.wf r12).rd, ?_⟩
      refine formatInt_ok' k27.wf hp7 (by omega) (by omega) fun m8 k78 => ⟨_, rfl, ?_, ?_, ?_⟩
      · show 1 + (Lib.itoa e.2.2.2).length ≤ _; omega
      · show ((Lib.itoa e.1 ++ [32]) ++ trimW (word e.2.1.toNat) ++ [32] ++ Lib.itoa e.2.2.1).length + ([32] ++ Lib.itoa e.2.2.2).length ≤ _
        rw [List.length_append, List.length_append, List.length_append, List.length_append, List.length_append]; simp only [List.length_cons, List.length_nil]; omega
      · have := hQ m8 ((k2.trans k27).trans k78)
        have e1 : Lib.join (partsE e) [32] = ((Lib.itoa e.1 ++ [32]) ++ trimW (word e.2.1.toNat) ++ [32] ++ Lib.itoa e.2.2.1) ++ ([32] ++ Lib.itoa e.2.2.2) := by
          unfold partsE
          rw [if_pos hs]
          simp [Lib.join]
        rw [e1] at this
        exact this
    · have := hQ m7 (k2.trans k27)
      have e1 : Lib.join (partsE e) [32] = (Lib.itoa e.1 ++ [32]) ++ trimW (word e.2.1.toNat) ++ [32] ++ Lib.itoa e.2.2.1 := by
        unfold partsE
        rw [if_neg (by rw [hs]; decide)]
        simp [Lib.join]
      rw [e1] at this
      exact this
  · have hno : okE e = false → Q (strV []) m2 := fun hn => by
      have := h m2 k2
      rwa [textE, if_neg (by rw [hn]; decide)] at this
    have no : ¬ (1 ≤ e.2.1 ∧ e.2.1 < 11 ∧ 0 ≤ e.1 ∧ 0 ≤ e.2.2.1 ∧ 0 ≤ e.2.2.2) → Q (strV []) m2 := fun hn => hno (by
      cases hb : okE e with
      | false => rfl
      | true => exact absurd (okE_iff.1 hb) hn)
    have e11 : lenI 11 = 11 := rfl
    refine ⟨_, r1', split_ltI (fun g => no (by omega)) (fun g1 => ⟨_, r1', split_leI (fun g => no (by rw [e11] at g; omega)) (fun g2 => ⟨_, r0, split_ltI (fun g => no (by omega)) (fun g3 => ⟨_, r2', split_ltI (fun g => no (by omega)) (fun g4 => ⟨_, r3', split_ltI (fun g => no (by omega)) (fun g5 => hJ (okE_iff.2 ⟨by omega, by rw [e11] at g2; omega, by omega, by omega, by omega⟩))⟩)⟩)⟩)⟩)⟩

end Go.Proofs.YtdeknemdeijljaaDoor.vc
