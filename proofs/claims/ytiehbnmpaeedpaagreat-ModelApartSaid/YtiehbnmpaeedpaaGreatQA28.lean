import Derived.Test.YtiehbnmpaeedpaaGreatQA24
import Derived.Test.YtiehbnmpaeedpaaGreatQA27
namespace Go.AX
set_option linter.unusedSimpArgs false
set_option linter.unusedVariables false
set_option linter.unusedSectionVars false
open Go
noncomputable section
theorem flat_set {α : Type} {enc : α → List Value} {s : Nat} (hs : ∀ x, (enc x).length = s) (h0 : 0 < s) {l : List α} {i k : Nat} {v v' : α} {vs : List Value} (hv : l[i]? = some v) (hk : k + vs.length ≤ s) (he : over (enc v) k vs = enc v') :
    over (l.flatMap enc) (i * s + k) vs = (l.set i v').flatMap enc := by
  have hi := (List.getElem?_eq_some_iff.1 hv).1
  have hi2 : (i + 1) * s ≤ l.length * s := Nat.mul_le_mul_right _ hi
  rw [Nat.succ_mul] at hi2
  have hfl := flat_length hs l
  apply List.ext_getElem?
  intro j
  rw [over_get (by omega)]
  by_cases hj : j < l.length * s
  · have hq : j / s < l.length := (Nat.div_lt_iff_lt_mul h0).2 hj
    have hr := Nat.mod_lt j h0
    have hjq : j / s * s + j % s = j := by rw [Nat.mul_comm]; exact Nat.div_add_mod j s
    generalize j / s = q at hq hjq
    generalize j % s = r at hr hjq
    subst hjq
    have hy : l[q]? = some (l[q]) := List.getElem?_eq_getElem hq
    by_cases e : q = i
    · subst e
      rw [hv] at hy
      have e1 : (l.set q v')[q]? = some v' := by rw [List.getElem?_set]; simp [hi]
      rw [flat_get hs e1 hr, ← he, over_get (by rw [hs]; exact hk), flat_get hs hv hr]
      by_cases hc : k ≤ r ∧ r < k + vs.length
      · rw [if_pos hc, if_pos ⟨by omega, by omega⟩]; congr 1; omega
      · rw [if_neg hc, if_neg (by omega)]
    · have e1 : (l.set i v')[q]? = some (l[q]) := by rw [List.getElem?_set, if_neg (fun h => e h.symm)]; exact hy
      rw [flat_get hs e1 hr, flat_get hs hy hr, if_neg]
      rintro ⟨c1, c2⟩
      rcases Nat.lt_or_gt_of_ne e with h | h
      · have := Nat.mul_le_mul_right s (show q + 1 ≤ i from h)
        rw [Nat.succ_mul] at this
        omega
      · have := Nat.mul_le_mul_right s (show i + 1 ≤ q from h)
        rw [Nat.succ_mul] at this
        omega
  · have hfl2 := flat_length hs (l.set i v')
    rw [List.length_set] at hfl2
    rw [if_neg (by omega), List.getElem?_eq_none (by omega), List.getElem?_eq_none (by omega)]
theorem over_at {l vs : List Value} (h : l.length = vs.length) : over l 0 vs = vs := by
  unfold over
  rw [List.take_zero, List.drop_eq_nil_of_le (by omega), List.nil_append, List.append_nil]
inductive CSl (m0 m : Mem) (e : TypeId) (w : Bool) : Option Addr → Nat → Nat → List Value → Prop
  | nil : CSl m0 m e w none 0 0 []
  | empty (b : Nat) (cc : Tr Value) (hb : m0.nx ≤ b) (hg : m.hp.get b = some (.cells cc 0 e false)) : CSl m0 m e w (some ⟨b, 0, none⟩) 0 0 []
  | row (b n : Nat) (pre l : List Value) (hw : w = true → pre = [] ∧ 0 < n) (hb : m0.nx ≤ b) (hr : Row m b (pre ++ l) e true) : CSl m0 m e w (some ⟨b, pre.length, none⟩) n n l
theorem OwnSl.csl {m0 m : Mem} {e : TypeId} {a : Option Addr} {n c : Nat} {l : List Value} (h : OwnSl m0 m e a n c l) (w : Bool) : CSl m0 m e w a n c l := by
  cases h with
  | nil => exact .nil
  | empty b cc h hg => exact .empty b cc h hg
  | row b n l h0 h hr => exact .row b n [] l (fun _ => ⟨rfl, h0⟩) h hr
theorem CSl.own {m0 m : Mem} {e : TypeId} {a : Option Addr} {n c : Nat} {l : List Value} (h : CSl m0 m e true a n c l) : OwnSl m0 m e a n c l := by
  cases h with
  | nil => exact .nil
  | empty b cc h hg => exact .empty b cc h hg
  | row b n pre l hw h hr =>
    obtain ⟨rfl, h0⟩ := hw rfl
    exact .row b n l h0 h hr
theorem CSl.cap {m0 m : Mem} {e : TypeId} {w : Bool} {a : Option Addr} {n c : Nat} {l : List Value} (h : CSl m0 m e w a n c l) : c = n := by cases h <;> rfl
theorem CSl.lt {m0 m : Mem} {e : TypeId} {w : Bool} {a : Option Addr} {n c : Nat} {l : List Value} (h : CSl m0 m e w a n c l) (hw : Wf m) : ∀ b ∈ blk a, m0.nx ≤ b ∧ b < m.nx := by
  intro b hb
  cases h with
  | nil => cases hb
  | empty b' _ h1 h => simp [blk] at hb; subst hb; exact ⟨h1, hw.lt h⟩
  | row b' _ _ _ _ h1 h => simp [blk] at hb; subst hb; exact ⟨h1, hw.row h⟩
theorem CSl.fr {m0 m m' : Mem} {S : List Nat} {e : TypeId} {w : Bool} {a : Option Addr} {n c : Nat} {l : List Value} (h : CSl m0 m e w a n c l) (hw : Wf m) (f : Fr m m' S) (hS : ∀ b ∈ blk a, b ∉ S) : CSl m0 m' e w a n c l := by
  have hlt := h.lt hw
  cases h with
  | nil => exact .nil
  | empty b cc h hg => exact .empty b cc h ((f.get b (hlt b (by simp [blk])).2 (hS b (by simp [blk]))).trans hg)
  | row b n pre l hw h hr => exact .row b n pre l hw h (hr.congr (f.get b (hlt b (by simp [blk])).2 (hS b (by simp [blk]))))
theorem CSl.arr {α : Type} {enc : α → List Value} {s : Nat} (hs : ∀ x, (enc x).length = s) {m0 m : Mem} {e : TypeId} {w : Bool} {a : Option Addr} {n c : Nat} {l : List α} (h : CSl m0 m e w a n c (l.flatMap enc)) (hl : l.length = n) : Arr enc s m a n l := by
  generalize hL : l.flatMap enc = L at h
  cases h with
  | nil => rw [List.length_eq_zero_iff.1 hl]; exact ArrP.nil
  | empty b cc h hg => rw [List.length_eq_zero_iff.1 hl]; exact ArrP.nil
  | row b n pre L hw h hr =>
    subst hL
    refine ⟨hl, fun i x hx => ⟨b, pre.length, rfl, fun j v hv => ?_⟩⟩
    have hj : j < s := by rw [← hs x]; exact (List.getElem?_eq_some_iff.1 hv).1
    rw [hr.rd, List.getElem?_append_right (by omega), show pre.length + i * s + j - pre.length = i * s + j by omega, flat_get hs hx hj, hv]
theorem CSl.tail {cx : Cx} {α : Type} {enc : α → List Value} {s t : Nat} (hs : ∀ x, (enc x).length = s) {m0 m : Mem} {e : Nat} {w : Bool} {a : Option Addr} {n c : Nat} {x : α} {l : List α} (h : CSl m0 m e w a n c ((x :: l).flatMap enc)) (hn : (x :: l).length = n) (ht : cx.un.get t = some (.slice e)) (hz : sizeT cx e = some s) :
    ∃ a', sliceOp cx m t (.slice a n c) (some (.int .i64 (1 : Int))) none none = some (.slice a' (n - 1) (c - 1)) ∧ CSl m0 m e false a' (n - 1) (c - 1) (l.flatMap enc) ∧ blk a' = blk a := by
  generalize hL : (x :: l).flatMap enc = L at h
  cases h with
  | nil => simp at hn
  | empty b cc h hg => simp at hn
  | row b n pre L hw h hr =>
    subst hL
    have hn1 : 1 ≤ n := by rw [← hn]; simp
    refine ⟨some ⟨b, pre.length + 1 * s, none⟩, sliceOp_at ht hz rfl (boundA_some (i := 1) hn1) (hr.sameSize hz) (Nat.le_refl _), ?_, rfl⟩
    have e1 : pre.length + 1 * s = (pre ++ enc x).length := by rw [List.length_append, hs, Nat.one_mul]
    rw [e1]
    refine .row b (n - 1) (pre ++ enc x) _ (fun h => by cases h) h ?_
    rw [List.append_assoc, ← List.flatMap_cons]; exact hr
theorem CSl.set {α : Type} {enc : α → List Value} {s : Nat} (hs : ∀ x, (enc x).length = s) (h0 : 0 < s) {m0 m : Mem} {e : TypeId} {w : Bool} {a : Option Addr} {n c : Nat} {l : List α} (h : CSl m0 m e w a n c (l.flatMap enc)) (hl : l.length = n) {i : Nat} {v v' : α} (hv : l[i]? = some v) {k : Nat} {vs : List Value} (hk : k + vs.length ≤ s) (he : over (enc v) k vs = enc v') (hfl : m.fl ≤ m0.nx) :
    ∃ b o, a = some ⟨b, o, none⟩ ∧ okW m b (o + Int.toNat (i : Int) * s + k) vs.length ∧ CSl m0 (wr m b (o + Int.toNat (i : Int) * s + k) vs) e w a n c ((l.set i v').flatMap enc) := by
  have hi := (List.getElem?_eq_some_iff.1 hv).1
  have hi2 : (i + 1) * s ≤ l.length * s := Nat.mul_le_mul_right _ hi
  rw [Nat.succ_mul] at hi2
  have hfll := flat_length hs l
  generalize hL : l.flatMap enc = L at h
  cases h with
  | nil => rw [hl] at hi; omega
  | empty b cc h hg => rw [hl] at hi; omega
  | row b n pre L hw h hr =>
    subst hL
    rw [Int.toNat_natCast]
    refine ⟨b, pre.length, rfl, hr.okW (by omega) (by rw [List.length_append]; omega), ?_⟩
    refine .row b n pre _ hw h ?_
    have := hr.wr (o := pre.length + i * s + k) (vs := vs) (by rw [List.length_append]; omega)
    have e1 : over (pre ++ l.flatMap enc) (pre.length + i * s + k) vs = pre ++ over (l.flatMap enc) (i * s + k) vs := by
      unfold over
      rw [List.take_append, List.drop_append, List.take_of_length_le (by omega), List.drop_eq_nil_of_le (as := pre) (by omega), List.nil_append, List.append_assoc, List.append_assoc, List.append_assoc]
      rw [show pre.length + i * s + k - pre.length = i * s + k by omega, show pre.length + i * s + k + vs.length - pre.length = i * s + k + vs.length by omega]
    rw [e1, flat_set hs h0 hv hk he] at this
    exact this
inductive Lb where
  | no
  | pr
  | sv
  | lk
  | bk
  | jb (i : Nat)
  | qu (k : Nat)
structure Tys where
  S : Nat
  L : Nat
  B : Nat
  J : Nat
  I : Nat
inductive Kd where
  | rd
  | own (w : Bool)
def Held {α : Type} (enc : α → List Value) (s : Nat) (m0 m : Mem) (lam : Nat → Lb) (e : Nat) (L : Lb) (κ : Kd) (a : Option Addr) (n c : Nat) (l : List α) : Prop := match κ with
  | .rd => Arr enc s m a n l ∧ (l ≠ [] → ∀ b ∈ blk a, lam b = .pr)
  | .own w => CSl m0 m e w a n c (l.flatMap enc) ∧ (∀ b ∈ blk a, lam b = L) ∧ l.length = n
theorem Arr.fr' {α : Type} {enc : α → List Value} {s : Nat} {m m' : Mem} {S : List Nat} {a : Option Addr} {n : Nat} {l : List α} (h : Arr enc s m a n l) (hw : Wf m) (f : Fr m m' S) (hS : l ≠ [] → ∀ b ∈ blk a, b ∉ S) : Arr enc s m' a n l := by
  cases l with
  | nil =>
    have := h.1
    simp at this
    subst this
    exact ArrP.nil
  | cons x r => exact h.fr hw f (hS (by simp))
theorem Arr.blk_lt {α : Type} {enc : α → List Value} {s : Nat} (hs : ∀ x, (enc x).length = s) (h0 : 0 < s) {m : Mem} {a : Option Addr} {n : Nat} {l : List α} (h : Arr enc s m a n l) (hw : Wf m) (hl : l ≠ []) : ∀ b ∈ blk a, b < m.nx := by
  cases l with
  | nil => exact absurd rfl hl
  | cons x r =>
    obtain ⟨b, o, rfl, hc⟩ := h.2 0 x rfl
    intro b' hb'
    simp [blk] at hb'
    subst hb'
    cases he : enc x with
    | nil => have := hs x; rw [he] at this; simp at this; omega
    | cons u us => exact hw.rd (hc 0 u (by rw [he]; rfl))
theorem Held.arr {α : Type} {enc : α → List Value} {s : Nat} (hs : ∀ x, (enc x).length = s) {m0 m : Mem} {lam : Nat → Lb} {e : Nat} {L : Lb} {κ : Kd} {a : Option Addr} {n c : Nat} {l : List α} (h : Held enc s m0 m lam e L κ a n c l) : Arr enc s m a n l := by
  cases κ with
  | rd => exact h.1
  | own w => exact h.1.arr hs h.2.2
theorem Held.fr {α : Type} {enc : α → List Value} {s : Nat} {m0 m m' : Mem} {S : List Nat} {lam : Nat → Lb} {e : Nat} {L : Lb} {κ : Kd} {a : Option Addr} {n c : Nat} {l : List α} (h : Held enc s m0 m lam e L κ a n c l) (hw : Wf m) (f : Fr m m' S) (h1 : ∀ b ∈ S, lam b ≠ .pr) (h2 : ∀ b ∈ S, lam b ≠ L) : Held enc s m0 m' lam e L κ a n c l := by
  cases κ with
  | rd => exact ⟨h.1.fr' hw f (fun hl b hb hs => h1 b hs (h.2 hl b hb)), h.2⟩
  | own w => exact ⟨h.1.fr hw f (fun b hb hs => h2 b hs (h.2.1 b hb)), h.2⟩
theorem Held.relab {α : Type} {enc : α → List Value} {s : Nat} {m0 m : Mem} {lam lam' : Nat → Lb} {e : Nat} {L : Lb} {κ : Kd} {a : Option Addr} {n c : Nat} {l : List α} (h : Held enc s m0 m lam e L κ a n c l) (h1 : ∀ b, lam b = .pr → lam' b = .pr) (h2 : ∀ b, lam b = L → lam' b = L) : Held enc s m0 m lam' e L κ a n c l := by
  cases κ with
  | rd => exact ⟨h.1, fun hl b hb => h1 b (h.2 hl b hb)⟩
  | own w => exact ⟨h.1, fun b hb => h2 b (h.2.1 b hb), h.2.2⟩
structure DpJob (m : Mem) (lam : Nat → Lb) (v : JV) (j : pm.Job) : Prop where
  num : v.num = j.num
  at_ : v.at_ = j.at_
  done : v.done = j.done
  prog : Arr encP 2 m v.pa v.pn j.prog
  lab : j.prog ≠ [] → ∀ b ∈ blk v.pa, lam b = .pr
structure DpServ (v : SV) (x : pm.Serv) : Prop where
  id : v.id = x.id
  s : v.s = x.s
  sec : v.sec = x.sec
  held : v.held = x.held
  num : v.num = x.num
  ran : v.ran = x.ran
structure DpLock (v : LV) (l : pm.Lock) : Prop where
  most : v.most = l.most
  holder : v.holder = l.holder
  dead : v.dead = l.dead
def upF {α : Type} (f : Nat → α) (i : Nat) (a : α) : Nat → α := fun k => if k = i then a else f k
@[simp] theorem upF_self {α : Type} (f : Nat → α) (i : Nat) (a : α) : upF f i a i = a := by simp [upF]
theorem upF_ne {α : Type} {f : Nat → α} {i k : Nat} {a : α} (h : k ≠ i) : upF f i a k = f k := by simp [upF, h]
structure Ow (T : Tys) (wj wq : Nat → Kd) (m0 m : Mem) (lam : Nat → Lb) (a1 : Option Addr) (n1 c1 : Nat) (a2 : Option Addr) (n2 c2 : Nat) (a3 : Option Addr) (n3 c3 : Nat) (ss : List SV) (js : Nat → List JV) (ls : List LV) (qs : Nat → List Int) (σ : pm.St) : Prop where
  keep : Keep m0 m
  fl0 : m0.fl ≤ m0.nx
  lab : ∀ b, lam b ≠ .no → b < m.nx
  new : ∀ b, lam b ≠ .pr → m0.nx ≤ b
  s1 : CSl m0 m T.S true a1 n1 c1 (ss.flatMap encS)
  s1l : ∀ b ∈ blk a1, lam b = .sv
  s1n : ss.length = n1
  s1d : σ.servs.length = n1
  s2 : CSl m0 m T.L true a2 n2 c2 (ls.flatMap encL)
  s2l : ∀ b ∈ blk a2, lam b = .lk
  s2n : ls.length = n2
  s2d : σ.sems.length = n2
  s3 : CSl m0 m T.B true a3 n3 c3 (σ.backs.flatMap encB)
  s3l : ∀ b ∈ blk a3, lam b = .bk
  s3n : σ.backs.length = n3
  jb : ∀ i v, ss[i]? = some v → Held encJ 4 m0 m lam T.J (.jb i) (wj i) v.ja v.jn v.jc (js i)
  qu : ∀ k v, ls[k]? = some v → Held encI 1 m0 m lam T.I (.qu k) (wq k) v.qa v.qn v.qc (qs k)
  ds : ∀ i v x, ss[i]? = some v → σ.servs[i]? = some x → DpServ v x ∧ All2 (DpJob m lam) (js i) x.jobs
  dl : ∀ k v l, ls[k]? = some v → σ.sems[k]? = some l → DpLock v l ∧ qs k = l.queue
section
variable {T : Tys} {wj wq : Nat → Kd} {m0 m m' : Mem} {lam : Nat → Lb} {a1 a2 a3 : Option Addr} {n1 c1 n2 c2 n3 c3 : Nat} {ss : List SV} {js : Nat → List JV} {ls : List LV} {qs : Nat → List Int} {σ : pm.St}
theorem DpJob.fr {S : List Nat} {v : JV} {j : pm.Job} (h : DpJob m lam v j) (hw : Wf m) (f : Fr m m' S) (hS : ∀ b ∈ S, lam b ≠ .pr) : DpJob m' lam v j :=
  ⟨h.num, h.at_, h.done, h.prog.fr' hw f fun hl b hb hs => hS b hs (h.lab hl b hb), h.lab⟩
theorem Ow.fr {S : List Nat} (h : Ow T wj wq m0 m lam a1 n1 c1 a2 n2 c2 a3 n3 c3 ss js ls qs σ) (hw' : Wf m') (f : Fr m m' S) (hS : ∀ b ∈ S, lam b = .no) : Ow T wj wq m0 m' lam a1 n1 c1 a2 n2 c2 a3 n3 c3 ss js ls qs σ := by
  have hw := h.keep.wf
  have ne : ∀ {b : Nat} {L : Lb}, lam b = L → L ≠ .no → b ∉ S := fun e hn hs => hn (by rw [← e, hS _ hs])
  refine { h with keep := Keep.of_fr h.keep hw' f (fun b hb => h.new b (by rw [hS b hb]; simp)), lab := fun b hb => Nat.lt_of_lt_of_le (h.lab b hb) f.nx, s1 := h.s1.fr hw f (fun b hb => ne (h.s1l b hb) (by simp)), s2 := h.s2.fr hw f (fun b hb => ne (h.s2l b hb) (by simp)), s3 := h.s3.fr hw f (fun b hb => ne (h.s3l b hb) (by simp)), jb := fun i v hv => ?_, qu := fun k v hv => ?_, ds := fun i v x hv hx => ?_ }
  · exact (h.jb i v hv).fr hw f (fun b hb => by rw [hS b hb]; simp) (fun b hb => by rw [hS b hb]; simp)
  · exact (h.qu k v hv).fr hw f (fun b hb => by rw [hS b hb]; simp) (fun b hb => by rw [hS b hb]; simp)
  · obtain ⟨p, q⟩ := h.ds i v x hv hx
    exact ⟨p, q.imp fun _ _ r => r.fr hw f (fun b hb => by rw [hS b hb]; simp)⟩
theorem Ow.then (h : Ow T wj wq m0 m lam a1 n1 c1 a2 n2 c2 a3 n3 c3 ss js ls qs σ) (k : Keep m m') : Ow T wj wq m0 m' lam a1 n1 c1 a2 n2 c2 a3 n3 c3 ss js ls qs σ :=
  h.fr k.wf (k.fr []) (fun _ h => by cases h)
theorem Ow.own (h : Ow T wj wq m0 m lam a1 n1 c1 a2 n2 c2 a3 n3 c3 ss js ls qs σ) {b0 : Nat} {L : Lb} (hb0 : lam b0 = .no) (hlt : b0 < m.nx) : Ow T wj wq m0 m (upF lam b0 L) a1 n1 c1 a2 n2 c2 a3 n3 c3 ss js ls qs σ := by
  have ne : ∀ {b : Nat} {L' : Lb}, lam b = L' → L' ≠ .no → upF lam b0 L b = L' := fun {b L'} e hn => by
    rw [upF_ne (fun h => by subst h; rw [hb0] at e; exact hn e.symm)]; exact e
  refine { h with lab := fun b hb => ?_, new := fun b hb => ?_, s1l := fun b hb => ne (h.s1l b hb) (by simp), s2l := fun b hb => ne (h.s2l b hb) (by simp), s3l := fun b hb => ne (h.s3l b hb) (by simp), jb := fun i v hv => ?_, qu := fun k v hv => ?_, ds := fun i v x hv hx => ?_ }
  · by_cases e : b = b0
    · subst e; exact hlt
    · rw [upF_ne e] at hb; exact h.lab b hb
  · by_cases e : b = b0
    · subst e; exact h.new b (by rw [hb0]; simp)
    · rw [upF_ne e] at hb; exact h.new b hb
  · exact (h.jb i v hv).relab (fun b e => ne e (by simp)) (fun b e => ne e (by simp))
  · exact (h.qu k v hv).relab (fun b e => ne e (by simp)) (fun b e => ne e (by simp))
  · obtain ⟨p, q⟩ := h.ds i v x hv hx
    exact ⟨p, q.imp fun _ _ r => ⟨r.num, r.at_, r.done, r.prog, fun hl b hb => ne (r.lab hl b hb) (by simp)⟩⟩
theorem Ow.reads {cx : Cx} {M now : Int} (h : Ow T wj wq m0 m lam a1 n1 c1 a2 n2 c2 a3 n3 c3 ss js ls qs σ) (hM : M = σ.m) (hn : now = σ.now) (hz : sizeT cx T.B = some 2) : RdSt cx m M now a1 n1 a2 n2 a3 n3 c3 σ := by
  refine ⟨hM, hn, ⟨ss, h.s1.arr encS_len h.s1n, All2.of (by rw [h.s1n, h.s1d]) fun i v x hv hx => ?_⟩, ⟨ls, h.s2.arr encL_len h.s2n, All2.of (by rw [h.s2n, h.s2d]) fun k v l hv hl => ?_⟩, h.s3.arr encB_len h.s3n, ⟨by rw [h.s3.cap]; exact Nat.le_refl _, ?_⟩⟩
  · obtain ⟨p, q⟩ := h.ds i v x hv hx
    exact ⟨p.id, p.s, p.sec, p.held, p.num, p.ran, js i, (h.jb i v hv).arr encJ_len, q.imp fun _ _ r => ⟨r.num, r.at_, r.done, r.prog⟩⟩
  · obtain ⟨p, q⟩ := h.dl k v l hv hl
    exact ⟨p.most, p.holder, p.dead, by rw [← q]; exact (h.qu k v hv).arr encI_len⟩
  · have := h.s3
    generalize σ.backs.flatMap encB = L at this
    cases this with
    | nil => exact .inl rfl
    | empty b cc h1 h2 => exact .inr ⟨b, 0, _, rfl, h2, by unfold sameSize; rw [h2]⟩
    | row b n pre l hw h1 h2 =>
      obtain ⟨c', h3, _⟩ := id h2
      exact .inr ⟨b, _, _, rfl, h3, h2.sameSize hz⟩
theorem Ow.atS (h : Ow T wj wq m0 m lam a1 n1 c1 a2 n2 c2 a3 n3 c3 ss js ls qs σ) {i : Nat} {v : SV} (hv : ss[i]? = some v) :
    ∃ b o, a1 = some ⟨b, o, none⟩ ∧ lam b = .sv ∧ ∀ k u, (encS v)[k]? = some u → rd m b (o + Int.toNat (i : Int) * 11 + k) = some u := by
  obtain ⟨b, o, e, hc⟩ := (h.s1.arr encS_len h.s1n).2 i v hv
  exact ⟨b, o, e, h.s1l b (by rw [e]; simp [blk]), fun k u hu => by rw [Int.toNat_natCast]; exact hc k u hu⟩
theorem Ow.atL (h : Ow T wj wq m0 m lam a1 n1 c1 a2 n2 c2 a3 n3 c3 ss js ls qs σ) {i : Nat} {v : LV} (hv : ls[i]? = some v) :
    ∃ b o, a2 = some ⟨b, o, none⟩ ∧ lam b = .lk ∧ ∀ k u, (encL v)[k]? = some u → rd m b (o + Int.toNat (i : Int) * 4 + k) = some u := by
  obtain ⟨b, o, e, hc⟩ := (h.s2.arr encL_len h.s2n).2 i v hv
  exact ⟨b, o, e, h.s2l b (by rw [e]; simp [blk]), fun k u hu => by rw [Int.toNat_natCast]; exact hc k u hu⟩
theorem Ow.setS (h : Ow T wj wq m0 m lam a1 n1 c1 a2 n2 c2 a3 n3 c3 ss js ls qs σ) {b o i k : Nat} {v v' : SV} {vs : List Value} {x' : pm.Serv} {js' : List JV} {κ : Kd} (hv : ss[i]? = some v) (hab : a1 = some ⟨b, o, none⟩) (hk : k + vs.length ≤ 11) (he : over (encS v) k vs = encS v')
    (hj : Held encJ 4 m0 m lam T.J (.jb i) κ v'.ja v'.jn v'.jc js') (hd : DpServ v' x' ∧ All2 (DpJob m lam) js' x'.jobs) :
    okW m b (o + Int.toNat (i : Int) * 11 + k) vs.length ∧ Ow T (upF wj i κ) wq m0 (wr m b (o + Int.toNat (i : Int) * 11 + k) vs) lam a1 n1 c1 a2 n2 c2 a3 n3 c3 (ss.set i v') (upF js i js') ls qs { σ with servs := σ.servs.set i x' } := by
  have hw := h.keep.wf
  obtain ⟨b', o', e, hok, hc⟩ := h.s1.set encS_len (by omega) h.s1n hv hk he (by have := h.keep.fl; have := h.fl0; omega)
  rw [hab] at e; cases e
  refine ⟨hok, ?_⟩
  have hlb : lam b = .sv := h.s1l b (by rw [hab]; simp [blk])
  have hnb : m0.nx ≤ b := h.new b (by rw [hlb]; simp)
  have f : Fr m (wr m b (o + Int.toNat (i : Int) * 11 + k) vs) [b] := (Fr.refl m _).wr (.inl (by simp))
  have ne : ∀ {b' : Nat} {L : Lb}, lam b' = L → L ≠ .sv → b' ∉ [b] := fun e hn hs => hn (by rw [← e, List.mem_singleton.1 hs, hlb])
  have nb : ∀ b' ∈ [b], lam b' ≠ .pr := fun b' hb' => by rw [List.mem_singleton.1 hb', hlb]; simp
  have hi := (List.getElem?_eq_some_iff.1 hv).1
  refine { h with keep := h.keep.wr hnb, lab := fun b hb => by simpa using h.lab b hb, s1 := hc, s1n := by rw [List.length_set]; exact h.s1n, s1d := by simpa using h.s1d, s2 := h.s2.fr hw f (fun b hb => ne (h.s2l b hb) (by simp)), s3 := h.s3.fr hw f (fun b hb => ne (h.s3l b hb) (by simp)), jb := fun j u hu => ?_, qu := fun k u hu => ?_, ds := fun j u x hu hx => ?_ }
  · by_cases e : j = i
    · subst e
      rw [List.getElem?_set] at hu
      simp [hi] at hu
      subst hu
      rw [upF_self, upF_self]
      exact hj.fr hw f nb (fun b' hb' => by rw [List.mem_singleton.1 hb', hlb]; simp)
    · rw [List.getElem?_set, if_neg (fun h => e h.symm)] at hu
      rw [upF_ne e, upF_ne e]
      exact (h.jb j u hu).fr hw f nb (fun b' hb' => by rw [List.mem_singleton.1 hb', hlb]; simp)
  · exact (h.qu k u hu).fr hw f nb (fun b' hb' => by rw [List.mem_singleton.1 hb', hlb]; simp)
  · by_cases e : j = i
    · subst e
      rw [List.getElem?_set] at hu
      simp [hi] at hu
      subst hu
      have hi2 : j < σ.servs.length := by rw [h.s1d, ← h.s1n]; exact hi
      simp only [List.getElem?_set, if_true, hi2] at hx
      cases hx
      rw [upF_self]
      exact ⟨hd.1, hd.2.imp fun _ _ r => r.fr hw f nb⟩
    · rw [List.getElem?_set, if_neg (fun h => e h.symm)] at hu
      simp only [List.getElem?_set, if_neg (fun h => e h.symm : ¬ i = j)] at hx
      obtain ⟨p, q⟩ := h.ds j u x hu hx
      rw [upF_ne e]
      exact ⟨p, q.imp fun _ _ r => r.fr hw f nb⟩
theorem Ow.setL (h : Ow T wj wq m0 m lam a1 n1 c1 a2 n2 c2 a3 n3 c3 ss js ls qs σ) {b o i k : Nat} {v v' : LV} {vs : List Value} {x' : pm.Lock} {qs' : List Int} {κ : Kd} (hv : ls[i]? = some v) (hab : a2 = some ⟨b, o, none⟩) (hk : k + vs.length ≤ 4) (he : over (encL v) k vs = encL v')
    (hj : Held encI 1 m0 m lam T.I (.qu i) κ v'.qa v'.qn v'.qc qs') (hd : DpLock v' x' ∧ qs' = x'.queue) :
    okW m b (o + Int.toNat (i : Int) * 4 + k) vs.length ∧ Ow T wj (upF wq i κ) m0 (wr m b (o + Int.toNat (i : Int) * 4 + k) vs) lam a1 n1 c1 a2 n2 c2 a3 n3 c3 ss js (ls.set i v') (upF qs i qs') { σ with sems := σ.sems.set i x' } := by
  have hw := h.keep.wf
  obtain ⟨b', o', e, hok, hc⟩ := h.s2.set encL_len (by omega) h.s2n hv hk he (by have := h.keep.fl; have := h.fl0; omega)
  rw [hab] at e; cases e
  refine ⟨hok, ?_⟩
  have hlb : lam b = .lk := h.s2l b (by rw [hab]; simp [blk])
  have hnb : m0.nx ≤ b := h.new b (by rw [hlb]; simp)
  have f : Fr m (wr m b (o + Int.toNat (i : Int) * 4 + k) vs) [b] := (Fr.refl m _).wr (.inl (by simp))
  have ne : ∀ {b' : Nat} {L : Lb}, lam b' = L → L ≠ .lk → b' ∉ [b] := fun e hn hs => hn (by rw [← e, List.mem_singleton.1 hs, hlb])
  have nb : ∀ b' ∈ [b], lam b' ≠ .pr := fun b' hb' => by rw [List.mem_singleton.1 hb', hlb]; simp
  have hi := (List.getElem?_eq_some_iff.1 hv).1
  refine { h with keep := h.keep.wr hnb, lab := fun b hb => by simpa using h.lab b hb, s2 := hc, s2n := by rw [List.length_set]; exact h.s2n, s2d := by simpa using h.s2d, s1 := h.s1.fr hw f (fun b hb => ne (h.s1l b hb) (by simp)), s3 := h.s3.fr hw f (fun b hb => ne (h.s3l b hb) (by simp)), qu := fun j u hu => ?_, jb := fun k u hu => ?_, dl := fun j u x hu hx => ?_, ds := fun j u x hu hx => ?_ }
  · exact (h.jb k u hu).fr hw f nb (fun b' hb' => by rw [List.mem_singleton.1 hb', hlb]; simp)
  · by_cases e : j = i
    · subst e
      rw [List.getElem?_set] at hu
      simp [hi] at hu
      subst hu
      rw [upF_self, upF_self]
      exact hj.fr hw f nb (fun b' hb' => by rw [List.mem_singleton.1 hb', hlb]; simp)
    · rw [List.getElem?_set, if_neg (fun h => e h.symm)] at hu
      rw [upF_ne e, upF_ne e]
      exact (h.qu j u hu).fr hw f nb (fun b' hb' => by rw [List.mem_singleton.1 hb', hlb]; simp)
  · obtain ⟨p, q⟩ := h.ds j u x hu hx
    exact ⟨p, q.imp fun _ _ r => r.fr hw f nb⟩
  · by_cases e : j = i
    · subst e
      rw [List.getElem?_set] at hu
      simp [hi] at hu
      subst hu
      have hi2 : j < σ.sems.length := by rw [h.s2d, ← h.s2n]; exact hi
      simp only [List.getElem?_set, if_true, hi2] at hx
      cases hx
      rw [upF_self]
      exact hd
    · rw [List.getElem?_set, if_neg (fun h => e h.symm)] at hu
      simp only [List.getElem?_set, if_neg (fun h => e h.symm : ¬ i = j)] at hx
      rw [upF_ne e]
      exact h.dl j u x hu hx
theorem Ow.setJ (h : Ow T wj wq m0 m lam a1 n1 c1 a2 n2 c2 a3 n3 c3 ss js ls qs σ) {b o i q k : Nat} {v : SV} {jv jv' : JV} {j' : pm.Job} {x : pm.Serv} {vs : List Value} {w : Bool} (hv : ss[i]? = some v) (hx : σ.servs[i]? = some x) (hjv : (js i)[q]? = some jv) (hab : v.ja = some ⟨b, o, none⟩) (hκ : wj i = .own w)
    (hk : k + vs.length ≤ 4) (he : over (encJ jv) k vs = encJ jv') (hd : DpJob m lam jv' j') :
    okW m b (o + Int.toNat (q : Int) * 4 + k) vs.length ∧ Ow T wj wq m0 (wr m b (o + Int.toNat (q : Int) * 4 + k) vs) lam a1 n1 c1 a2 n2 c2 a3 n3 c3 ss (upF js i ((js i).set q jv')) ls qs { σ with servs := σ.servs.set i { x with jobs := x.jobs.set q j' } } := by
  have hw := h.keep.wf
  have hjb := h.jb i v hv
  rw [hκ] at hjb
  obtain ⟨p1, p2, p3⟩ := hjb
  obtain ⟨b', o', e, hok, hc⟩ := p1.set encJ_len (by omega) p3 hjv hk he (by have := h.keep.fl; have := h.fl0; omega)
  rw [hab] at e; cases e
  refine ⟨hok, ?_⟩
  have hlb : lam b = .jb i := p2 b (by rw [hab]; simp [blk])
  have hnb : m0.nx ≤ b := h.new b (by rw [hlb]; simp)
  have f : Fr m (wr m b (o + Int.toNat (q : Int) * 4 + k) vs) [b] := (Fr.refl m _).wr (.inl (by simp))
  have ne : ∀ {b' : Nat} {L : Lb}, lam b' = L → L ≠ .jb i → b' ∉ [b] := fun e hn hs => hn (by rw [← e, List.mem_singleton.1 hs, hlb])
  have nb : ∀ b' ∈ [b], lam b' ≠ .pr := fun b' hb' => by rw [List.mem_singleton.1 hb', hlb]; simp
  refine { h with keep := h.keep.wr hnb, lab := fun b hb => by simpa using h.lab b hb, s1d := by simpa using h.s1d, s1 := h.s1.fr hw f (fun b hb => ne (h.s1l b hb) (by simp)), s2 := h.s2.fr hw f (fun b hb => ne (h.s2l b hb) (by simp)), s3 := h.s3.fr hw f (fun b hb => ne (h.s3l b hb) (by simp)), jb := fun j u hu => ?_, qu := fun k u hu => ?_, ds := fun j u y hu hy => ?_ }
  · by_cases e : j = i
    · subst e
      rw [hv] at hu; cases hu
      rw [upF_self, hκ]
      exact ⟨hc, p2, by rw [List.length_set]; exact p3⟩
    · rw [upF_ne e]
      exact (h.jb j u hu).fr hw f nb (fun b' hb' => by rw [List.mem_singleton.1 hb', hlb]; simp; exact fun h => e h.symm)
  · exact (h.qu k u hu).fr hw f nb (fun b' hb' => by rw [List.mem_singleton.1 hb', hlb]; simp)
  · by_cases e : j = i
    · subst e
      rw [hv] at hu; cases hu
      have hi2 := (List.getElem?_eq_some_iff.1 hx).1
      simp only [List.getElem?_set, if_true, hi2] at hy
      cases hy
      rw [upF_self]
      obtain ⟨r1, r2⟩ := h.ds j v x hv hx
      exact ⟨⟨r1.id, r1.s, r1.sec, r1.held, r1.num, r1.ran⟩, (All2.set hd r2 q).imp fun _ _ r => r.fr hw f nb⟩
    · simp only [List.getElem?_set, if_neg (fun h => e h.symm : ¬ i = j)] at hy
      obtain ⟨r1, r2⟩ := h.ds j u y hu hy
      rw [upF_ne e]
      exact ⟨r1, r2.imp fun _ _ r => r.fr hw f nb⟩
theorem Ow.kd {wj' wq' : Nat → Kd} (h : Ow T wj wq m0 m lam a1 n1 c1 a2 n2 c2 a3 n3 c3 ss js ls qs σ) (h1 : ∀ i, i < n1 → wj i = wj' i) (h2 : ∀ k, k < n2 → wq k = wq' k) : Ow T wj' wq' m0 m lam a1 n1 c1 a2 n2 c2 a3 n3 c3 ss js ls qs σ :=
  by
  refine { h with jb := fun i v hv => ?_, qu := fun k v hv => ?_ }
  · rw [← h1 i (by rw [← h.s1n]; exact (List.getElem?_eq_some_iff.1 hv).1)]; exact h.jb i v hv
  · rw [← h2 k (by rw [← h.s2n]; exact (List.getElem?_eq_some_iff.1 hv).1)]; exact h.qu k v hv
theorem set_self {α : Type} {l : List α} {i : Nat} {x : α} (h : l[i]? = some x) : l.set i x = l := by
  apply List.ext_getElem?
  intro j
  rw [List.getElem?_set]
  split
  · rename_i e
    subst e
    rw [h, if_pos (List.getElem?_eq_some_iff.1 h).1]
  · rfl
theorem Ow.ownSl (h : Ow T wj wq m0 m lam a1 n1 c1 a2 n2 c2 a3 n3 c3 ss js ls qs σ) {e : Nat} {a : Option Addr} {n c : Nat} {L : List Value} {mo m2 : Mem} (k : Keep m m2) (ho : OwnSl mo m2 e a n c L) (hn : m.nx ≤ mo.nx) (lb : Lb) :
    ∃ lam', Ow T wj wq m0 m2 lam' a1 n1 c1 a2 n2 c2 a3 n3 c3 ss js ls qs σ ∧ (∀ b ∈ blk a, lam' b = lb) ∧ (∀ b, lam b ≠ .no → lam' b = lam b) := by
  have h2 := h.then k
  have hbl : ∀ b ∈ blk a, m.nx ≤ b ∧ b < m2.nx := fun b hb => ⟨Nat.le_trans hn (ho.blk b hb), ho.lt k.wf b hb⟩
  cases a with
  | none => exact ⟨lam, h2, (fun b hb => by cases hb), fun b _ => rfl⟩
  | some ad =>
    obtain ⟨q1, q2⟩ := hbl ad.block (by simp [blk])
    have hno : lam ad.block = .no := by
      cases hl : lam ad.block with
      | no => rfl
      | _ => have := h.lab ad.block (by rw [hl]; simp); omega
    refine ⟨upF lam ad.block lb, h2.own hno q2, fun b hb => ?_, fun b hb => ?_⟩
    · simp [blk] at hb; subst hb; exact upF_self ..
    · rw [upF_ne]; intro e; subst e; exact hb hno
theorem Ow.cast {σ' : pm.St} (h : Ow T wj wq m0 m lam a1 n1 c1 a2 n2 c2 a3 n3 c3 ss js ls qs σ) (e : σ = σ') : Ow T wj wq m0 m lam a1 n1 c1 a2 n2 c2 a3 n3 c3 ss js ls qs σ' := e ▸ h
end
end
end Go.AX
namespace Go.Proofs.YtiehbnmpaeedpaaGreat.vc
open Go Go.AX
set_option linter.unusedVariables false
set_option linter.unusedSimpArgs false
set_option linter.unusedSectionVars false
abbrev TT:Tys:=⟨t_model_Serv,t_model_Lock,t_model_Back,t_job_Job,t_int⟩
section
variable {m:Mem} {Q:Value→Mem→Prop} {M now:Int} {a a1 a2 a3:Option Addr} {n c n1 c1 n2 c2 n3 c3:Nat} {σ : pm.St}
theorem cloneS_ok {l:List SV} (hw:Wf m) (hl:Arr encS 11 m a n l) (hn:n≤1000000) (h:∀ m' a' c',Keep m m'→OwnSl m m' t_model_Serv a' n c' (l.flatMap encS)→Q (.slice a' n c') m'):CallV cx n_slices_Clone_sl_model_Serv [.slice a n c] m Q:=by
 apply G_slices_Clone_sl_model_Serv_ok; unfold G_slices_Clone_sl_model_Serv
 exact clone_g (by kernel_rfl) encS_len encS_one1 hw hl hn h
theorem cloneL_ok {l:List LV} (hw:Wf m) (hl:Arr encL 4 m a n l) (hn:n≤1000000) (h:∀ m' a' c',Keep m m'→OwnSl m m' t_model_Lock a' n c' (l.flatMap encL)→Q (.slice a' n c') m'):CallV cx n_slices_Clone_sl_model_Lock [.slice a n c] m Q:=by
 apply G_slices_Clone_sl_model_Lock_ok; unfold G_slices_Clone_sl_model_Lock
 exact clone_g (by kernel_rfl) encL_len encL_one1 hw hl hn h
theorem cloneB_ok {l:List pm.Back} (hw:Wf m) (hl:Arr encB 2 m a n l) (hn:n≤1000000) (h:∀ m' a' c',Keep m m'→OwnSl m m' t_model_Back a' n c' (l.flatMap encB)→Q (.slice a' n c') m'):CallV cx n_slices_Clone_sl_model_Back [.slice a n c] m Q:=by
 apply G_slices_Clone_sl_model_Back_ok; unfold G_slices_Clone_sl_model_Back
 exact clone_g (by kernel_rfl) encB_len encB_one1 hw hl hn h
theorem cloneJ_ok {l:List JV} (hw:Wf m) (hl:Arr encJ 4 m a n l) (hn:n≤1000000) (h:∀ m' a' c',Keep m m'→OwnSl m m' t_job_Job a' n c' (l.flatMap encJ)→Q (.slice a' n c') m'):CallV cx n_slices_Clone_sl_job_Job [.slice a n c] m Q:=by
 apply G_slices_Clone_sl_job_Job_ok; unfold G_slices_Clone_sl_job_Job
 exact clone_g (by kernel_rfl) encJ_len encJ_one1 hw hl hn h
theorem cloneI_ok {l:List Int} (hw:Wf m) (hl:Arr encI 1 m a n l) (hn:n≤1000000) (h:∀ m' a' c',Keep m m'→OwnSl m m' t_int a' n c' (l.flatMap encI)→Q (.slice a' n c') m'):CallV cx n_slices_Clone_sl_int [.slice a n c] m Q:=by
 apply G_slices_Clone_sl_int_ok; unfold G_slices_Clone_sl_int
 exact clone_g (by kernel_rfl) encI_len encI_one1 hw hl hn h
theorem choose_fun {α β : Type} {r:α→β→Prop} (h:∀ x,∃ y,r x y):∃ f:α→β,∀ x,r x (f x):=Classical.axiomOfChoice h
theorem ow_start {m1 m2 m3:Mem} {b1 b2 b3:Option Addr} {d1 d2 d3:Nat} {ss:List SV} {ls:List LV} (hw:Wf m) (hs:All2 (RdServ m) ss σ.servs) (hl:All2 (RdLock m) ls σ.sems) (e1:ss.length=n1) (e2:ls.length=n2) (e3:σ.backs.length=n3)
  (k1:Keep m m1) (k2:Keep m1 m2) (k3:Keep m2 m3) (o1:OwnSl m m1 t_model_Serv b1 n1 d1 (ss.flatMap encS)) (o2:OwnSl m1 m2 t_model_Lock b2 n2 d2 (ls.flatMap encL)) (o3:OwnSl m2 m3 t_model_Back b3 n3 d3 (σ.backs.flatMap encB)) :
  ∃ lam js qs,Ow TT (fun _=>.rd) (fun _=>.rd) m m3 lam b1 n1 d1 b2 n2 d2 b3 n3 d3 ss js ls qs σ:=by
 classical
 have kk:Keep m m3:=(k1.trans k2).trans k3
 have w1:=k1.wf
 have w2:=k2.wf
 have w3:=k3.wf
 have x1:=k1.nx
 have x2:=k2.nx
 have x3:=k3.nx
 have l1:=o1.lt w1
 have l2:=o2.lt w2
 have l3:=o3.lt w3
 have p1:=o1.blk
 have p2:=o2.blk
 have p3:=o3.blk
 obtain ⟨js,hjs⟩:=choose_fun (α:=Nat) (β:=List JV) (r:=fun i l=>∀ v x,ss[i]? = some v→σ.servs[i]? = some x→Arr encJ 4 m v.ja v.jn l∧All2 (RdJob m) l x.jobs) (fun i=>by
  cases hv:ss[i]? with
  | none=>exact ⟨[],fun v x h=>by cases h⟩
  | some v=>
   obtain ⟨x,hx,hR⟩:=hs.get hv
   obtain ⟨l,q1,q2⟩:=hR.jobs
   refine ⟨l,fun v' x' h h'=>?_⟩
   cases h
   rw [hx] at h'; cases h'
   exact ⟨q1,q2⟩)
 let lam:Nat→Lb:=fun b=>if b < m.nx then .pr else if b∈blk b1 then .sv else if b∈blk b2 then .lk else if b∈blk b3 then .bk else .no
 have lpr:∀ b,b < m.nx→lam b = .pr:=fun b hb=>by show (if _ then _ else _)=_; rw [if_pos hb]
 refine ⟨lam,js,fun k=>match σ.sems[k]? with | some l=>l.queue | none=>[],?_⟩
 refine ⟨kk,hw.1,fun b hb=>?_,fun b hb=>?_,(o1.keep w1 (k2.trans k3)).csl _,fun b hb=>?_,e1,by rw [← hs.len,e1],((o2.keep w2 k3).old x1).csl _,fun b hb=>?_,e2,by rw [← hl.len,e2],(o3.old (by omega)).csl _,fun b hb=>?_,e3,fun i v hv=>?_,fun k v hv=>?_,fun i v x hv hx=>?_,fun k v l hv hx=>?_⟩
 ·have hb:(if b < m.nx then Lb.pr else if b∈blk b1 then .sv else if b∈blk b2 then .lk else if b∈blk b3 then .bk else .no)≠.no:=hb
  by_cases q1:b < m.nx
  ·omega
  ·rw [if_neg q1] at hb
   by_cases q2:b∈blk b1
   ·have:=l1 b q2; omega
   ·rw [if_neg q2] at hb
    by_cases q3:b∈blk b2
    ·have:=l2 b q3; omega
    ·rw [if_neg q3] at hb
     by_cases q4:b∈blk b3
     ·have:=l3 b q4; omega
     ·rw [if_neg q4] at hb; exact absurd rfl hb
 ·by_cases q1:b < m.nx
  ·exact absurd (lpr b q1) hb
  ·omega
 ·show (if _ then _ else _)=_
  have:=p1 b hb
  rw [if_neg (by omega),if_pos hb]
 ·show (if _ then _ else _)=_
  have:=p2 b hb
  rw [if_neg (by omega),if_neg (fun h=>by have:=l1 b h; omega),if_pos hb]
 ·show (if _ then _ else _)=_
  have:=p3 b hb
  rw [if_neg (by omega),if_neg (fun h=>by have:=l1 b h; omega),if_neg (fun h=>by have:=l2 b h; omega),if_pos hb]
 ·obtain ⟨x,hx,hR⟩:=hs.get hv
  obtain ⟨q1,q2⟩:=hjs i v x hv hx
  exact ⟨q1.keep hw kk,fun hne b hb=>lpr b (q1.blk_lt encJ_len (by omega) hw hne b hb)⟩
 ·obtain ⟨l,hl',hR⟩:=hl.get hv
  simp only [hl']
  exact ⟨hR.queue.keep hw kk,fun hne b hb=>lpr b (hR.queue.blk_lt encI_len (by omega) hw hne b hb)⟩
 ·obtain ⟨q1,q2⟩:=hjs i v x hv hx
  obtain ⟨x',hx',hR⟩:=hs.get hv
  rw [hx] at hx'; cases hx'
  exact ⟨⟨hR.id,hR.s,hR.sec,hR.held,hR.num,hR.ran⟩,q2.imp fun jv j r=>⟨r.num,r.at_,r.done,r.prog.keep hw kk,fun hne b hb=>lpr b (r.prog.blk_lt encP_len (by omega) hw hne b hb)⟩⟩
 ·obtain ⟨l',hl',hR⟩:=hl.get hv
  rw [hx] at hl'; cases hl'
  simp only [hx]
  exact ⟨⟨hR.most,hR.holder,hR.dead⟩,trivial⟩
theorem clone_ok (hw:Wf m) (hσ : RdSt cx m M now a1 n1 a2 n2 a3 n3 c3 σ) (hz:Small σ)
  (h:∀ m' lam b1 d1 b2 d2 b3 d3 ss js ls qs,Ow TT (fun _=>.own true) (fun _=>.own true) m m' lam b1 n1 d1 b2 n2 d2 b3 n3 d3 ss js ls qs σ→Q (.agg #[.int .i64 M,.int .i64 now,.slice b1 n1 d1,.slice b2 n2 d2,.slice b3 n3 d3]) m') :
  CallV cx n_model_State_Clone [.agg #[.int .i64 M,.int .i64 now,.slice a1 n1 c1,.slice a2 n2 c2,.slice a3 n3 c3]] m Q:=by
 apply G_model_State_Clone_ok; unfold G_model_State_Clone
 have hl1:=hσ.len1
 have hl2:=hσ.len2
 have hl3:=hσ.len3
 have z1:=hz.servs
 have z2:=hz.sems
 have z3:=hz.backs
 have k0:Keep m (bump m 17):=(Keep.refl hw).bump
 have nx0:(bump m 17).nx=m.nx+17:=rfl
 have hf0:(bump m 2).nx≤(bump m 17).nx:=by simp
 generalize bump m 17=m0 at k0 nx0 hf0
 generalize (bump m 2).nx=f0 at hf0
 have hw0:Wf (setFl m0 f0):=k0.wf.setFl hf0
 obtain ⟨ss,ha1,hs1⟩:=hσ.servs
 obtain ⟨ls,ha2,hs2⟩:=hσ.sems
 have ha10:Arr encS 11 (setFl m0 f0) a1 n1 ss:=(ha1.keep hw k0).hp rfl
 refine cloneS_ok hw0 ha10 (by omega) fun m1 b1 d1 k1 o1=>⟨_,_,_,rfl,?_⟩
 have k1':Keep m (setFl m1 m0.fl):=Keep.unset' k0 k1
 have o1':OwnSl m (setFl m1 m0.fl) t_model_Serv b1 n1 d1 (ss.flatMap encS):=o1.hp k0.nx rfl
 generalize setFl m1 m0.fl=m1' at k1' o1'
 have hw1:Wf (setFl m1' m1'.nx):=k1'.wf.setFl (Nat.le_refl _)
 have ha21:Arr encL 4 (setFl m1' m1'.nx) a2 n2 ls:=(ha2.keep hw k1').hp rfl
 refine cloneL_ok hw1 ha21 (by omega) fun m2 b2 d2 k2 o2=>⟨_,_,_,rfl,?_⟩
 have k2':Keep m1' (setFl m2 m1'.fl):=Keep.unset k1'.wf k2
 have o2':OwnSl m1' (setFl m2 m1'.fl) t_model_Lock b2 n2 d2 (ls.flatMap encL):=o2.hp (Nat.le_refl _) rfl
 generalize setFl m2 m1'.fl=m2' at k2' o2'
 have ha32:=hσ.backs.keep hw (k1'.trans k2')
 refine cloneB_ok k2'.wf ha32 (by omega) fun m3 b3 d3 k3 o3=>⟨_,_,_,rfl,?_⟩
 obtain ⟨lam,js,qs,hO⟩:=ow_start hw hs1 hs2 ha1.1 ha2.1 hl3 k1' k2' k3 o1' o2' o3
 refine forN (show n1≤4611686018427387904 by omega) (fun k m4=>∃ lam wj ss js,Ow TT wj (fun _=>.rd) m m4 lam b1 n1 d1 b2 n2 d2 b3 n3 d3 ss js ls qs σ∧∀ i,i < k→wj i = .own true) ⟨lam,_,ss,js,hO,fun i hi=>by omega⟩ ?_
 rintro k m4 hk ⟨lam,wj,ss,js,hO,hdone⟩ I w hI
 refine split_lt (fun hlt=>?_) (fun hge=>?_)
 ·obtain ⟨v,hv⟩:∃ v,ss[k]? = some v:=⟨_,List.getElem?_eq_getElem (by rw [hO.s1n]; exact hlt)⟩
  obtain ⟨x,hx⟩:∃ x,σ.servs[k]? = some x:=⟨_,List.getElem?_eq_getElem (by rw [hO.s1d]; exact hlt)⟩
  obtain ⟨b,o,rfl,hlb,hc⟩:=hO.atS hv
  refine ⟨⟨by omega,by omega⟩,?_⟩
  rw [vPtr_some]
  refine ⟨v.ja,v.jn,v.jc,hc 6 _ rfl,?_⟩
  have k5:Keep m4 (bump m4 13):=(Keep.refl hO.keep.wf).bump
  have hwf:Wf (setFl (bump m4 13) m4.nx):=k5.wf.setFl (by simp)
  have hjarr:=(hO.jb k v hv).arr encJ_len
  have hd:=hO.ds k v x hv hx
  have hjl:v.jn≤1000000:=by
   have:=hz.jobs x (List.mem_of_getElem? hx)
   rw [← hd.2.len,hjarr.1] at this
   omega
  refine cloneJ_ok hwf ((hjarr.keep hO.keep.wf k5).hp rfl) hjl fun m5 a' c' k6 ho=>⟨_,_,_,rfl,⟨⟨by omega,by omega⟩,?_⟩⟩
  rw [vPtr_some]
  have k6':Keep m4 (setFl m5 (bump m4 13).fl):=Keep.unset' k5 k6
  have ho':OwnSl m4 (setFl m5 (bump m4 13).fl) t_job_Job a' v.jn c' ((js k).flatMap encJ):=ho.hp k5.nx rfl
  generalize setFl m5 (bump m4 13).fl=m6 at k6' ho'
  obtain ⟨lam',hO2,hlab,hold⟩:=hO.ownSl k6' ho' (Nat.le_refl _) (.jb k)
  have hjs':(js k).length=v.jn:=hjarr.1
  obtain ⟨g1,g2⟩:=hO2.setS (κ:=.own true) (js':=js k) (x':=x) (v':={ v with ja:=a',jc:=c' }) (k:=6) (vs:=[.slice a' v.jn c']) hv rfl (by simp) rfl ⟨(ho'.old hO.keep.nx).csl _,hlab,hjs'⟩ (by
   obtain ⟨q1,q2⟩:=hO2.ds k v x hv hx
   exact ⟨⟨q1.id,q1.s,q1.sec,q1.held,q1.num,q1.ran⟩,q2⟩)
  refine ⟨g1,?_⟩
  rw [mBind_iff]
  rw [set_self hx] at g2
  refine hI _ hlt ⟨lam',_,_,_,g2,fun i hi=>?_⟩
  by_cases e:i=k
  ·subst e; exact upF_self ..
  ·rw [upF_ne e]; exact hdone i (by omega)
 ·have hO1:=hO.kd (wj':=fun _=>.own true) (wq':=fun _=>.rd) (fun i hi=>hdone i (by omega)) (fun _ _=>rfl)
  clear hI I w
  refine forN (show n2≤4611686018427387904 by omega) (fun k m4=>∃ lam wq ls qs,Ow TT (fun _=>.own true) wq m m4 lam b1 n1 d1 b2 n2 d2 b3 n3 d3 ss js ls qs σ∧∀ i,i < k→wq i = .own true) ⟨lam,_,ls,qs,hO1,fun i hi=>by omega⟩ ?_
  rintro k m4 hk ⟨lam,wq,ls,qs,hO,hdone⟩ I w hI
  refine split_lt (fun hlt=>?_) (fun hge=>?_)
  ·obtain ⟨v,hv⟩:∃ v,ls[k]? = some v:=⟨_,List.getElem?_eq_getElem (by rw [hO.s2n]; exact hlt)⟩
   obtain ⟨x,hx⟩:∃ x,σ.sems[k]? = some x:=⟨_,List.getElem?_eq_getElem (by rw [hO.s2d]; exact hlt)⟩
   obtain ⟨b,o,rfl,hlb,hc⟩:=hO.atL hv
   refine ⟨⟨by omega,by omega⟩,?_⟩
   rw [vPtr_some]
   refine ⟨v.qa,v.qn,v.qc,hc 2 _ rfl,?_⟩
   have k5:Keep m4 (bump m4 13):=(Keep.refl hO.keep.wf).bump
   have hwf:Wf (setFl (bump m4 13) m4.nx):=k5.wf.setFl (by simp)
   have hjarr:=(hO.qu k v hv).arr encI_len
   have hd:=hO.dl k v x hv hx
   have hjl:v.qn≤1000000:=by
    have:=hz.queue x (List.mem_of_getElem? hx)
    rw [← hd.2,hjarr.1] at this
    omega
   refine cloneI_ok hwf ((hjarr.keep hO.keep.wf k5).hp rfl) hjl fun m5 a' c' k6 ho=>⟨_,_,_,rfl,⟨⟨by omega,by omega⟩,?_⟩⟩
   rw [vPtr_some]
   have k6':Keep m4 (setFl m5 (bump m4 13).fl):=Keep.unset' k5 k6
   have ho':OwnSl m4 (setFl m5 (bump m4 13).fl) t_int a' v.qn c' ((qs k).flatMap encI):=ho.hp k5.nx rfl
   generalize setFl m5 (bump m4 13).fl=m6 at k6' ho'
   obtain ⟨lam',hO2,hlab,hold⟩:=hO.ownSl k6' ho' (Nat.le_refl _) (.qu k)
   obtain ⟨g1,g2⟩:=hO2.setL (κ:=.own true) (qs':=qs k) (x':=x) (v':={ v with qa:=a',qc:=c' }) (k:=2) (vs:=[.slice a' v.qn c']) hv rfl (by simp) rfl ⟨(ho'.old hO.keep.nx).csl _,hlab,hjarr.1⟩ (by
    obtain ⟨q1,q2⟩:=hO2.dl k v x hv hx
    exact ⟨⟨q1.most,q1.holder,q1.dead⟩,q2⟩)
   refine ⟨g1,?_⟩
   rw [mBind_iff]
   rw [set_self hx] at g2
   refine hI _ hlt ⟨lam',_,_,_,g2,fun i hi=>?_⟩
   by_cases e:i=k
   ·subst e; exact upF_self ..
   ·rw [upF_ne e]; exact hdone i (by omega)
  ·exact h _ _ _ _ _ _ _ _ _ _ _ _ (hO.kd (wj':=fun _=>.own true) (wq':=fun _=>.own true) (fun _ _=>rfl) (fun i hi=>hdone i (by omega)))
end
end Go.Proofs.YtiehbnmpaeedpaaGreat.vc
