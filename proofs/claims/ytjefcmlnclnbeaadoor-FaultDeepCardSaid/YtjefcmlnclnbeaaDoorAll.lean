/-
  Package fault: all, Deep, Ops, Who over a number that is wrapped.
-/
import Derived.Test.YtjefcmlnclnbeaaDoorAsF
import Derived.Test.YtjefcmlnclnbeaaDoorAxArg
namespace Go.Proofs.YtjefcmlnclnbeaaDoor.vc
open Go Go.AX
set_option linter.unusedVariables false
set_option linter.unusedSimpArgs false
set_option maxRecDepth 100000

abbrev Lay := Nat × ByteArray × Int
def ptrV (x : Lay) : Value := .pointer (some ⟨x.1, 0, none⟩)

theorem Chn.at {m : Mem} {v : Value} {l : List Lay} {c : Int} (h : Chn m v l c) : ∀ {k : Nat} {x : Lay}, l[k]? = some x → ∃ v', Row m x.1 [.string x.2.1, .int .i64 x.2.2, v'] 36 false := by
  induction h with
  | num c => intro k x hx; cases hx
  | @wrap b s id v l c hr _ ih =>
    intro k x hx
    cases k with
    | zero => simp at hx; subst hx; exact ⟨v, hr⟩
    | succ k => exact ih (by simpa using hx)

theorem all_ok {m : Mem} {v : Value} {l : List Lay} {c : Int} {Q : Value → Mem → Prop} (hw : Wf m) (hE : ErrT m) (hc : Chn m v l c) (hl : l.length ≤ 1000)
    (h : ∀ a n c' m', Keep m m' → Grow m' a n c' 1 31 (l.map ptrV) → n = l.length → Q (.slice a n c') m') : CallW cx 23 [v] m Q := by
  apply F23_ok; unfold F23
  rw [mBind_iff]
  generalize hm1 : newO m _ = m1
  have k1 : Keep m m1 := hm1 ▸ (Keep.refl hw).newO
  have n1 : m1.nx = m.nx + 1 := by rw [← hm1]; rfl
  have r1 : Row m1 m.nx [.pointer none] 31 false := hm1 ▸ Row.newO
  refine ⟨fun v a n c' m2 w => ∃ done rest q, l = done ++ rest ∧ Chn m v rest c ∧ Keep m m2 ∧ Row m2 m.nx [.pointer q] 31 false ∧ Grow m2 a n c' 1 31 (done.map ptrV) ∧ (∀ b ∈ blk a, m.nx < b) ∧ w = rest.length,
    ⟨l.length, [], l, none, rfl, hc, k1, r1, Grow.nil _ _ _, (fun _ h => by cases h), rfl⟩, ?_⟩
  rintro v a n c' m2 w ⟨done, rest, q, rfl, hc2, k2, r2, hG, hb, rfl⟩
  have hfl := hw.1
  have fl2 := k2.fl
  refine asFault k2.wf (hE.keep hw k2) (hc2.keep hw k2) r2 (by omega) fun r m3 hA => ?_
  obtain ⟨w3, f3, hA⟩ := hA
  have k3 : Keep m m3 := Keep.of_fr k2 w3 f3 (by simp)
  have hG3 : Grow m3 a n c' 1 31 (done.map ptrV) := hG.fr f3 k2.wf (fun b hb' h => by have := hb b hb'; simp at h; omega)
  have hlen := hG.1
  cases hc2 with
  | num c =>
    obtain ⟨rfl, _⟩ := hA
    refine ⟨_, rfl, ?_⟩
    rw [splitB_false]
    refine h a n c' m3 k3 (by simpa using hG3) (by simp at hlen; simp [hlen])
  | @wrap b s id v' rest c hr hc2 =>
    obtain ⟨rfl, r3⟩ := hA
    refine ⟨_, rfl, ?_⟩
    rw [splitB_true]
    refine ⟨_, r3.rd, ?_⟩
    rw [mBind_iff]
    obtain ⟨m5, h5, w5, f5, n5, g5⟩ := push (cx := cx) (t := 64) (vs := [.pointer (some ⟨b, 0, none⟩)]) (by kernel_rfl) w3 hG3 rfl rfl (by simp at hlen hl; omega)
    have hw3 := w3.row r3
    have r5 : Row m5 m.nx [.pointer (some ⟨b, 0, none⟩)] 31 false := f5.row r3 hw3 (fun h => by have := hb _ h; omega)
    have k5 : Keep m m5 := Keep.of_fr k3 w5 f5 (fun b' h => by have := hb b' h; omega)
    have nx3 := f3.nx
    have nx2 := k2.nx
    refine ⟨_, _, _, m5, h5, _, r5.rd, ?_⟩
    rw [vPtr_some]
    refine ⟨v', (k5.row hw hr).rd, rest.length, Nat.lt_succ_self _, done ++ [(b, s, id)], rest, _, by simp, hc2, k5, r5, by simpa [ptrV] using g5, (fun b' h => by simp [blk] at h; omega), rfl⟩

theorem deep_ok {m : Mem} {v : Value} {l : List Lay} {c : Int} {Q : Value → Mem → Prop} (hw : Wf m) (hE : ErrT m) (hc : Chn m v l c) (hl : l.length ≤ 1000)
    (h : ∀ m', Keep m m' → Q (.int .i64 l.length) m') : CallW cx 13 [v] m Q := by
  apply F13_ok; unfold F13
  exact all_ok hw hE hc hl fun a n c' m' k g hn => ⟨a, n, c', rfl, by subst hn; exact h m' k⟩

theorem ops_ok {m : Mem} {v : Value} {l : List Lay} {c : Int} {Q : Value → Mem → Prop} (hw : Wf m) (hE : ErrT m) (hc : Chn m v l c) (hl : l.length ≤ 1000)
    (h : ∀ a n c' m', Keep m m' → Grow m' a n c' 1 9 (l.map fun x => .string x.2.1) → n = l.length → Q (.slice a n c') m') : CallW cx 14 [v] m Q := by
  apply F14_ok; unfold F14
  refine all_ok hw hE hc hl fun a n c' m1 k1 g1 hn => ⟨a, n, c', rfl, ?_⟩
  refine ⟨fun a3 n3 c3 x m2 w => ∃ k : Nat, x = (k : Int) ∧ k ≤ l.length ∧ Keep m1 m2 ∧ Grow m2 a3 n3 c3 1 9 ((l.take k).map fun x => .string x.2.1) ∧ (∀ b ∈ blk a3, m1.nx ≤ b) ∧ w = l.length - k,
    ⟨l.length, 0, rfl, by omega, Keep.refl k1.wf, by simpa using Grow.nil _ _ _, (fun _ h => by cases h), rfl⟩, ?_⟩
  rintro a3 n3 c3 x m2 w ⟨k, rfl, hk, k2, g2, hb, rfl⟩
  have hlen := g2.1
  simp at hlen
  rw [splitB_iff]
  constructor
  · intro hlt
    rw [ltI_true] at hlt
    simp only [lenI] at hlt
    have hkl : k < l.length := by omega
    refine ⟨⟨by omega, by omega⟩, ?_⟩
    obtain ⟨x, hx⟩ : ∃ x, l[k]? = some x := ⟨l[k], List.getElem?_eq_getElem hkl⟩
    obtain ⟨b, rfl, hr⟩ := (k2.grow k1.wf g1).at (j := k) (v := ptrV x) (by simp [hx])
    rw [vPtr_some]
    refine ⟨some ⟨x.1, 0, none⟩, by simpa [ptrV] using hr, ?_⟩
    rw [vPtr_some]
    obtain ⟨v', hrow⟩ := (hc.keep hw (k1.trans k2)).at hx
    have hs : rd m2 x.1 0 = some (.string x.2.1) := hrow.rd
    refine ⟨x.2.1, hs, ?_⟩
    rw [mBind_iff]
    obtain ⟨m5, h5, w5, f5, n5, g5⟩ := push (cx := cx) (t := 39) (vs := [.string x.2.1]) (by kernel_rfl) k2.wf g2 rfl rfl (by omega)
    have k5 := Keep.of_fr k2 w5 f5 hb
    refine ⟨_, _, _, m5, h5, l.length - (k + 1), by omega, k + 1, by rw [addI_64 (by omega) (by omega)]; rfl, by omega, k5, ?_, (fun b' h => by have := k2.nx; simp [blk] at h; omega), rfl⟩
    rw [List.take_add_one, hx]
    simpa using g5
  · intro hge
    rw [ltI_false] at hge
    simp only [lenI] at hge
    have hkl : k = l.length := by omega
    subst hkl
    refine h _ _ _ _ (k1.trans k2) (by simpa using g2) (by omega)

def who (s : ByteArray) : List Lay → Int × Bool
  | [] => (0, false)
  | x :: r => if eqS x.2.1 s = true then (x.2.2, true) else who s r

theorem who_ok {m : Mem} {v : Value} {l : List Lay} {c : Int} {s : ByteArray} {Q : Value → Mem → Prop} (hw : Wf m) (hE : ErrT m) (hc : Chn m v l c) (hl : l.length ≤ 1000)
    (h : ∀ m', Keep m m' → Q (.tuple #[.int .i64 (who s l).1, .bool (who s l).2]) m') : CallW cx 15 [v, .string s] m Q := by
  apply F15_ok; unfold F15
  refine all_ok hw hE hc hl fun a n c' m1 k1 g1 hn => ⟨a, n, c', rfl, ?_⟩
  refine ⟨fun x m2 w => ∃ k : Nat, x = (k : Int) ∧ k ≤ l.length ∧ m2 = m1 ∧ who s l = who s (l.drop k) ∧ w = l.length - k, ⟨l.length, 0, rfl, by omega, rfl, by simp, rfl⟩, ?_⟩
  rintro x m2 w ⟨k, rfl, hk, rfl, hwho, rfl⟩
  rw [splitB_iff]
  constructor
  · intro hlt
    rw [ltI_true] at hlt
    simp only [lenI] at hlt
    have hkl : k < l.length := by omega
    refine ⟨⟨by omega, by omega⟩, ?_⟩
    obtain ⟨x, hx⟩ : ∃ x, l[k]? = some x := ⟨l[k], List.getElem?_eq_getElem hkl⟩
    obtain ⟨b, rfl, hr⟩ := g1.at (j := k) (v := ptrV x) (by simp [hx])
    rw [vPtr_some]
    refine ⟨some ⟨x.1, 0, none⟩, by simpa [ptrV] using hr, ?_⟩
    rw [vPtr_some]
    obtain ⟨v', hrow⟩ := (hc.keep hw k1).at hx
    refine ⟨x.2.1, hrow.rd, ?_⟩
    have hd : l.drop k = x :: l.drop (k + 1) := by
      rw [List.drop_eq_getElem_cons hkl]
      congr 1
      exact Option.some.inj ((List.getElem?_eq_getElem hkl).symm.trans hx)
    rw [hd] at hwho
    rw [splitB_iff]
    constructor
    · intro he
      rw [vPtr_some]
      refine ⟨x.2.2, hrow.rd, ?_⟩
      have := h m2 k1
      rw [hwho, who, if_pos he] at this
      exact this
    · intro he
      refine ⟨l.length - (k + 1), by omega, k + 1, by rw [addI_64 (by omega) (by omega)]; rfl, by omega, rfl, ?_, rfl⟩
      rw [hwho, who, if_neg (by rw [he]; decide)]
  · intro hge
    rw [ltI_false] at hge
    simp only [lenI] at hge
    have hkl : k = l.length := by omega
    subst hkl
    have := h m2 k1
    rw [hwho] at this
    simpa [who] using this

theorem unwrap_ok {m : Mem} {v : Value} {b : Nat} {s : ByteArray} {id : Int} {Q : Value → Mem → Prop} (hr : Row m b [.string s, .int .i64 id, v] 36 false) (h : Q v m) : CallW cx 12 [.iface 31 (.pointer (some ⟨b, 0, none⟩))] m Q := by
  apply F12_ok; unfold F12
  refine ⟨_, _, asUn31 _, ?_⟩
  rw [show (!true) = false from rfl, splitB_false]
  refine ⟨31, _, rfl, 59, _, meUn31 _, ?_⟩
  apply F59_ok; unfold F59
  rw [vPtr_some]
  exact ⟨_, hr.rd, _, rfl, h⟩

theorem bytesEq_self : ∀ l : List UInt8, bytesEq l l = true
  | [] => rfl
  | a :: r => by simp [bytesEq, bytesEq_self r]
theorem eqS_self (s : ByteArray) : eqS s s = true := bytesEq_self _

end Go.Proofs.YtjefcmlnclnbeaaDoor.vc
