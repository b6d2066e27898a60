/-
  OWN WORK. CALLS THAT WERE RUN BEFORE: a table of calls (arguments, the blocks that they look at, what comes of them) stands as a summary; the kernel runs each entry on its own.
-/
import Derived.Test.YthpnifigjfplbaaGreatAxOv
import Derived.Test.YthpnifigjfplbaaGreatAxInsOk
namespace Go.AX
set_option linter.unusedVariables false
set_option linter.unusedSectionVars false
set_option linter.unusedSimpArgs false
open Go

/-! ## are two values the same (as the kernel may run it) -/

def eqB : Bool → Bool → Bool
  | true, true => true
  | false, false => true
  | _, _ => false
def eqOA : Option Addr → Option Addr → Bool
  | none, none => true
  | some ⟨a, i, none⟩, some ⟨b, j, none⟩ => Nat.beq a b && Nat.beq i j
  | _, _ => false
def eqON : Option Nat → Option Nat → Bool
  | none, none => true
  | some a, some b => Nat.beq a b
  | _, _ => false
def kiN : IntKind → Nat
  | .i8 => 0 | .i16 => 1 | .i32 => 2 | .i64 => 3 | .u8 => 4 | .u16 => 5 | .u32 => 6 | .u64 => 7
def eqFn : Fn → Fn → Bool
  | .func a, .func b => Nat.beq a b
  | _, _ => false
def eqL (f : Value → Value → Bool) : List Value → List Value → Bool
  | [], [] => true
  | a :: l, b :: k => match f a b with
    | true => eqL f l k
    | false => false
  | _, _ => false
def eqV1 (f : Value → Value → Bool) : Value → Value → Bool
  | .bool a, .bool b => eqB a b
  | .int k a, .int j b => Nat.beq (kiN k) (kiN j) && decide (a = b)
  | .string s, .string t => bytesEq s.data.toList t.data.toList
  | .pointer a, .pointer b => eqOA a b
  | .slice a n c, .slice b m d => eqOA a b && (Nat.beq n m && Nat.beq c d)
  | .map a, .map b => eqON a b
  | .func x p c, .func y q d => eqFn x y && (eqL f p.toList q.toList && eqL f c.toList d.toList)
  | .nilFunc, .nilFunc => true
  | .iface t v, .iface u w => Nat.beq t u && f v w
  | .nilIface, .nilIface => true
  | .agg c, .agg d => eqL f c.toList d.toList
  | .tuple c, .tuple d => eqL f c.toList d.toList
  | _, _ => false
def eqVal : Nat → Value → Value → Bool
  | 0, _, _ => false
  | d + 1, x, y => eqV1 (eqVal d) x y
def eqTr (f : Value → Value → Bool) : Tr Value → Tr Value → Bool
  | .nil, .nil => true
  | .node v l r, .node w k q => (match v, w with
    | none, none => true
    | some a, some b => f a b
    | _, _ => false) && (eqTr f l k && eqTr f r q)
  | _, _ => false
def eqEs (f : Value → Value → Bool) : List MapEntry → List MapEntry → Bool
  | [], [] => true
  | ⟨k, v, b⟩ :: l, ⟨k', v', b'⟩ :: l' => f k k' && (f v v' && (Nat.beq b b' && eqEs f l l'))
  | _, _ => false
def eqObj : AObj → AObj → Bool
  | .cells c n e x, .cells c' n' e' x' => Nat.beq n n' && (Nat.beq e e' && (eqB x x' && eqTr (eqVal 8) c c'))
  | .map es k, .map es' k' => Nat.beq k k' && eqEs (eqVal 8) es es'
  | .ro c n, .ro c' n' => Nat.beq n n' && eqTr (eqVal 8) c c'
  | _, _ => false

theorem eqB_eq {a b : Bool} (h : eqB a b = true) : a = b := by cases a <;> cases b <;> simp [eqB] at h <;> rfl
theorem eqOA_eq : ∀ {a b : Option Addr}, eqOA a b = true → a = b
  | none, none, _ => rfl
  | some ⟨a, i, none⟩, some ⟨b, j, none⟩, h => by
    simp only [eqOA, Bool.and_eq_true] at h
    rw [Nat.eq_of_beq_eq_true h.1, Nat.eq_of_beq_eq_true h.2]
  | none, some _, h => by simp [eqOA] at h
  | some ⟨_, _, some _⟩, none, h => by simp [eqOA] at h
  | some ⟨_, _, none⟩, none, h => by simp [eqOA] at h
  | some ⟨_, _, some _⟩, some ⟨_, _, _⟩, h => by simp [eqOA] at h
  | some ⟨_, _, none⟩, some ⟨_, _, some _⟩, h => by simp [eqOA] at h
theorem eqON_eq : ∀ {a b : Option Nat}, eqON a b = true → a = b
  | none, none, _ => rfl
  | some a, some b, h => by rw [Nat.eq_of_beq_eq_true (show Nat.beq a b = true from h)]
  | none, some _, h => by simp [eqON] at h
  | some _, none, h => by simp [eqON] at h
theorem kiN_eq {a b : IntKind} (h : Nat.beq (kiN a) (kiN b) = true) : a = b := by
  have := Nat.eq_of_beq_eq_true h
  cases a <;> cases b <;> first | rfl | (simp [kiN] at this)
theorem eqFn_eq {a b : Fn} (h : eqFn a b = true) : a = b := by
  unfold eqFn at h
  split at h
  · rw [Nat.eq_of_beq_eq_true h]
  · cases h
theorem eqL_eq {f : Value → Value → Bool} (hf : ∀ {x y}, f x y = true → x = y) : ∀ {l k : List Value}, eqL f l k = true → l = k
  | [], [], _ => rfl
  | a :: l, b :: k, h => by
    unfold eqL at h
    split at h
    · rename_i h1; rw [hf h1, eqL_eq hf h]
    · cases h
  | [], _ :: _, h => by simp [eqL] at h
  | _ :: _, [], h => by simp [eqL] at h
theorem bytesEq_eq' : ∀ {a b : List UInt8}, bytesEq a b = true → a = b
  | [], [], _ => rfl
  | a :: x, b :: y, h => by
    unfold bytesEq at h
    split at h
    · rename_i h1; rw [of_decide_eq_true h1, bytesEq_eq' h]
    · cases h
  | [], _ :: _, h => by simp [bytesEq] at h
  | _ :: _, [], h => by simp [bytesEq] at h
theorem arr_eq {a b : Array Value} (h : a.toList = b.toList) : a = b := by cases a; cases b; simp at h; rw [h]
theorem eqV1_eq {f : Value → Value → Bool} (hf : ∀ {x y}, f x y = true → x = y) {x y : Value} (h : eqV1 f x y = true) : x = y := by
  unfold eqV1 at h
  split at h
  · rw [eqB_eq h]
  · simp only [Bool.and_eq_true, decide_eq_true_eq] at h; rw [kiN_eq h.1, h.2]
  · rename_i s t
    have h := bytesEq_eq' h
    obtain ⟨⟨a⟩⟩ := s
    obtain ⟨⟨b⟩⟩ := t
    simp at h; rw [h]
  · rw [eqOA_eq h]
  · simp only [Bool.and_eq_true] at h; rw [eqOA_eq h.1, Nat.eq_of_beq_eq_true h.2.1, Nat.eq_of_beq_eq_true h.2.2]
  · rw [eqON_eq h]
  · simp only [Bool.and_eq_true] at h; rw [eqFn_eq h.1, arr_eq (eqL_eq hf h.2.1), arr_eq (eqL_eq hf h.2.2)]
  · rfl
  · simp only [Bool.and_eq_true] at h; rw [Nat.eq_of_beq_eq_true h.1, hf h.2]
  · rfl
  · rw [arr_eq (eqL_eq hf h)]
  · rw [arr_eq (eqL_eq hf h)]
  · cases h
theorem eqVal_eq : ∀ {d : Nat} {x y : Value}, eqVal d x y = true → x = y
  | 0, x, y, h => by cases h
  | d + 1, x, y, h => eqV1_eq eqVal_eq (show eqV1 (eqVal d) x y = true from h)
theorem eqTr_eq {f : Value → Value → Bool} (hf : ∀ {x y}, f x y = true → x = y) : ∀ {t u : Tr Value}, eqTr f t u = true → t = u
  | .nil, .nil, _ => rfl
  | .node v l r, .node w k q, h => by
    simp only [eqTr, Bool.and_eq_true] at h
    obtain ⟨h1, h2, h3⟩ := h
    rw [eqTr_eq hf h2, eqTr_eq hf h3]
    congr 1
    cases v <;> cases w <;> simp at h1
    · rfl
    · rw [hf h1]
  | .nil, .node _ _ _, h => by simp [eqTr] at h
  | .node _ _ _, .nil, h => by simp [eqTr] at h
theorem eqEs_eq {f : Value → Value → Bool} (hf : ∀ {x y}, f x y = true → x = y) : ∀ {l k : List MapEntry}, eqEs f l k = true → l = k
  | [], [], _ => rfl
  | ⟨k, v, b⟩ :: l, ⟨k', v', b'⟩ :: l', h => by
    simp only [eqEs, Bool.and_eq_true] at h
    rw [hf h.1, hf h.2.1, Nat.eq_of_beq_eq_true h.2.2.1, eqEs_eq hf h.2.2.2]
  | [], _ :: _, h => by simp [eqEs] at h
  | _ :: _, [], h => by simp [eqEs] at h
theorem eqObj_eq {a b : AObj} (h : eqObj a b = true) : a = b := by
  unfold eqObj at h
  split at h
  · simp only [Bool.and_eq_true] at h; rw [Nat.eq_of_beq_eq_true h.1, Nat.eq_of_beq_eq_true h.2.1, eqB_eq h.2.2.1, eqTr_eq eqVal_eq h.2.2.2]
  · simp only [Bool.and_eq_true] at h; rw [Nat.eq_of_beq_eq_true h.1, eqEs_eq eqVal_eq h.2]
  · simp only [Bool.and_eq_true] at h; rw [Nat.eq_of_beq_eq_true h.1, eqTr_eq eqVal_eq h.2]
  · cases h

/-! ## the table -/

noncomputable section

/-- a call: its arguments, the blocks that it looks at, what it answers, which blocks it changed or made (none: given up) -/
structure Ent where
  args : List Value
  nx : Nat
  fl : Nat
  pre : List (Nat × AObj)
  r : Value
  post : List (Nat × Option AObj)
  nx' : Nat

def hpL (l : List (Nat × AObj)) : Tr AObj := l.foldr (fun x t => t.put x.1 x.2) .nil
def Ent.mem (e : Ent) : Mem := ⟨hpL e.pre, e.nx, e.fl⟩
def hpU (h : Tr AObj) (l : List (Nat × Option AObj)) : Tr AObj := l.foldr (fun x t => Tr.putAt x.2 t x.1) h
def getEq (m : Mem) (b : Nat) (o : AObj) : Bool := match m.hp.get b with
  | some o' => eqObj o' o
  | none => false
def preOk (m : Mem) : List (Nat × AObj) → Bool
  | [] => true
  | (b, o) :: r => match getEq m b o with
    | true => preOk m r
    | false => false
def hasKey (b : Nat) : List (Nat × Option AObj) → Bool
  | [] => false
  | (c, _) :: r => match Nat.beq b c with
    | true => true
    | false => hasKey b r
def preKept (m : Mem) (post : List (Nat × Option AObj)) : List (Nat × AObj) → Bool
  | [] => true
  | (b, o) :: r => match hasKey b post with
    | true => preKept m post r
    | false => match getEq m b o with
      | true => preKept m post r
      | false => false
def postOk (m : Mem) (fl : Nat) : List (Nat × Option AObj) → Bool
  | [] => true
  | (b, x) :: r => match Nat.ble fl b with
    | false => false
    | true => match x with
      | some o => match getEq m b o with
        | true => postOk m fl r
        | false => false
      | none => postOk m fl r
/-- what is changed was there, or is new -/
def postIn (m : Mem) (nx : Nat) : List (Nat × Option AObj) → Bool
  | [] => true
  | (b, _) :: r => match Nat.ble nx b with
    | true => postIn m nx r
    | false => match m.hp.get b with
      | some _ => postIn m nx r
      | none => false

def Ent.hit (e : Ent) (args : List Value) (m : Mem) : Bool := match Nat.beq m.nx e.nx with
  | false => false
  | true => match Nat.beq m.fl e.fl with
    | false => false
    | true => eqL (eqVal 8) args e.args
def Ent.fits (e : Ent) (m : Mem) : Bool := match preOk m e.pre with
  | false => false
  | true => match postIn m e.nx e.post with
    | true => Nat.ble e.nx e.nx'
    | false => false

def tabA : List Ent → List Value → Mem → Option (Value × Mem)
  | [], _, _ => none
  | e :: r, args, m => match e.hit args m with
    | true => match e.fits m with
      | true => some (e.r, ⟨hpU m.hp e.post, e.nx', m.fl⟩)
      | false => none
    | false => tabA r args m

def chkE (cx : Cx) (n : Nat) (k : FuncId) (e : Ent) : Bool := match callOf cx (exec cx n) k e.args e.mem with
  | some (r, m) => match eqVal 8 r e.r with
    | true => match Nat.beq m.nx e.nx' with
      | true => match preKept m e.post e.pre with
        | true => postOk m e.fl e.post
        | false => false
      | false => false
    | false => false
  | none => false

theorem getEq_eq {m : Mem} {b : Nat} {o : AObj} (h : getEq m b o = true) : m.hp.get b = some o := by
  unfold getEq at h
  split at h
  · rename_i o' h1; rw [h1, eqObj_eq h]
  · cases h

theorem hpL_mem : ∀ {l : List (Nat × AObj)} {b : Nat} {o : AObj}, (hpL l).get b = some o → (b, o) ∈ l
  | [], b, o, h => by rw [show hpL [] = .nil from rfl, Tr.get_nil] at h; cases h
  | (c, x) :: r, b, o, h => by
    rw [show hpL ((c, x) :: r) = (hpL r).put c x from rfl, Tr.get_put] at h
    split at h
    · rename_i e; cases h; rw [e]; exact List.mem_cons_self ..
    · exact List.mem_cons_of_mem _ (hpL_mem h)

theorem preOk_mem {m : Mem} : ∀ {l : List (Nat × AObj)}, preOk m l = true → ∀ {b : Nat} {o : AObj}, (b, o) ∈ l → m.hp.get b = some o
  | [], _, b, o, h => by cases h
  | (c, x) :: r, h, b, o, hm => by
    unfold preOk at h
    split at h
    · rename_i h1
      rcases List.mem_cons.1 hm with e | hm
      · cases e; exact getEq_eq h1
      · exact preOk_mem h hm
    · cases h

theorem preKept_mem {m : Mem} {post : List (Nat × Option AObj)} : ∀ {l : List (Nat × AObj)}, preKept m post l = true → ∀ {b : Nat} {o : AObj}, (b, o) ∈ l → hasKey b post = false → m.hp.get b = some o
  | [], _, b, o, h, _ => by cases h
  | (c, x) :: r, h, b, o, hm, hk => by
    unfold preKept at h
    rcases List.mem_cons.1 hm with e | hm
    · cases e
      rw [hk] at h
      simp only at h
      split at h
      · rename_i h1; exact getEq_eq h1
      · cases h
    · split at h
      · exact preKept_mem h hm hk
      · split at h
        · exact preKept_mem h hm hk
        · cases h

theorem postOk_mem {m : Mem} {fl : Nat} : ∀ {l : List (Nat × Option AObj)}, postOk m fl l = true → ∀ {b : Nat} {x : Option AObj}, (b, x) ∈ l → fl ≤ b ∧ ∀ o, x = some o → m.hp.get b = some o
  | [], _, b, x, h => by cases h
  | (c, y) :: r, h, b, x, hm => by
    unfold postOk at h
    split at h
    · cases h
    · rename_i hb
      have hb := Nat.le_of_ble_eq_true hb
      rcases List.mem_cons.1 hm with e | hm'
      · cases e
        refine ⟨hb, fun o ho => ?_⟩
        subst ho
        simp only at h
        split at h
        · rename_i h1; exact getEq_eq h1
        · cases h
      · cases y with
        | none => exact postOk_mem h hm'
        | some o' =>
          simp only at h
          split at h
          · exact postOk_mem h hm'
          · cases h

theorem hpU_get {h : Tr AObj} : ∀ {l : List (Nat × Option AObj)} {b : Nat}, (hasKey b l = false ∧ (hpU h l).get b = h.get b) ∨ ∃ x, (b, x) ∈ l ∧ hasKey b l = true ∧ (hpU h l).get b = x
  | [], b => .inl ⟨rfl, rfl⟩
  | (c, y) :: r, b => by
    have e : (hpU h ((c, y) :: r)).get b = if b = c then y else (hpU h r).get b := Tr.get_putAt _ _ _ _
    by_cases hc : b = c
    · subst hc
      refine .inr ⟨y, List.mem_cons_self .., ?_, by rw [e, if_pos rfl]⟩
      unfold hasKey; rw [Nat.beq_refl]
    · have hk : hasKey b ((c, y) :: r) = hasKey b r := by
        conv => lhs; unfold hasKey
        rw [Tr.beq_false.2 hc]
      rw [hk, e, if_neg hc]
      rcases hpU_get (h := h) (l := r) (b := b) with h1 | ⟨x, h1, h2⟩
      · exact .inl h1
      · exact .inr ⟨x, List.mem_cons_of_mem _ h1, h2⟩

theorem postIn_mem {m : Mem} {nx : Nat} : ∀ {l : List (Nat × Option AObj)}, postIn m nx l = true → ∀ {b : Nat} {x : Option AObj}, (b, x) ∈ l → nx ≤ b ∨ ∃ o, m.hp.get b = some o
  | [], _, b, x, h => by cases h
  | (c, y) :: r, h, b, x, hm => by
    unfold postIn at h
    rcases List.mem_cons.1 hm with e | hm
    · cases e
      split at h
      · rename_i hb; exact .inl (Nat.le_of_ble_eq_true hb)
      · split at h
        · rename_i o ho; exact .inr ⟨o, ho⟩
        · cases h
    · split at h
      · exact postIn_mem h hm
      · split at h
        · exact postIn_mem h hm
        · cases h

theorem hit_of {e : Ent} {args : List Value} {m : Mem} (h : e.hit args m = true) : m.nx = e.nx ∧ m.fl = e.fl ∧ args = e.args := by
  unfold Ent.hit at h
  split at h
  · cases h
  · rename_i h1
    split at h
    · cases h
    · rename_i h2
      exact ⟨Nat.eq_of_beq_eq_true h1, Nat.eq_of_beq_eq_true h2, eqL_eq eqVal_eq h⟩
theorem fits_of {e : Ent} {m : Mem} (h : e.fits m = true) : preOk m e.pre = true ∧ postIn m e.nx e.post = true ∧ e.nx ≤ e.nx' := by
  unfold Ent.fits at h
  split at h
  · cases h
  · rename_i h4
    split at h
    · rename_i h5
      exact ⟨h4, h5, Nat.le_of_ble_eq_true h⟩
    · cases h

theorem preOk_bes {E : Nat → Option AObj} {u m : Mem} (hb : Bes E u m) : ∀ {l : List (Nat × AObj)}, preOk u l = true → preOk m l = true
  | [], _ => rfl
  | (c, x) :: r, h => by
    unfold preOk at h ⊢
    split at h
    · rename_i h1
      have : getEq m c x = true := by
        unfold getEq at h1 ⊢
        split at h1
        · rename_i o' ho; rw [hb.got ho]; exact h1
        · cases h1
      rw [this]; exact preOk_bes hb h
    · cases h
theorem postIn_bes {E : Nat → Option AObj} {u m : Mem} (hb : Bes E u m) {nx : Nat} : ∀ {l : List (Nat × Option AObj)}, postIn u nx l = true → postIn m nx l = true
  | [], _ => rfl
  | (c, x) :: r, h => by
    unfold postIn at h ⊢
    split at h
    · exact postIn_bes hb h
    · split at h
      · rename_i o ho
        rw [hb.got ho]; exact postIn_bes hb h
      · cases h

theorem fits_bes {E : Nat → Option AObj} {u m : Mem} (hb : Bes E u m) {e : Ent} (h : e.fits u = true) : e.fits m = true := by
  obtain ⟨h4, h5, h6⟩ := fits_of h
  unfold Ent.fits
  rw [preOk_bes hb h4]; simp only; rw [postIn_bes hb h5]
  exact Nat.ble_eq_true_of_le h6

theorem hpU_same {g h : Tr AObj} {b : Nat} : ∀ (l : List (Nat × Option AObj)), hasKey b l = true → (hpU g l).get b = (hpU h l).get b
  | [], k => by cases k
  | (c, y) :: r, k => by
    rw [show (hpU g ((c, y) :: r)).get b = if b = c then y else (hpU g r).get b from Tr.get_putAt _ _ _ _, show (hpU h ((c, y) :: r)).get b = if b = c then y else (hpU h r).get b from Tr.get_putAt _ _ _ _]
    by_cases hc : b = c
    · rw [if_pos hc, if_pos hc]
    · rw [if_neg hc, if_neg hc]
      refine hpU_same r ?_
      unfold hasKey at k
      rw [Tr.beq_false.2 hc] at k
      exact k

/-- .. it leaves what is beside -/
theorem ent_bes (e : Ent) {E : Nat → Option AObj} {u m : Mem} (hb : Bes E u m) (hn : u.nx = e.nx) (hf : e.fits u = true) : Bes E ⟨hpU u.hp e.post, e.nx', u.fl⟩ ⟨hpU m.hp e.post, e.nx', m.fl⟩ := by
  obtain ⟨h4, h5, h6⟩ := fits_of hf
  have key : ∀ b o, E b = some o → hasKey b e.post = false := fun b o ho => by
    obtain ⟨g1, g2⟩ := hb.gap b o ho
    rcases hpU_get (h := u.hp) (l := e.post) (b := b) with ⟨k, _⟩ | ⟨x, k1, k2, _⟩
    · exact k
    · rcases postIn_mem h5 k1 with h | ⟨o', h⟩
      · omega
      · rw [g1] at h; cases h
  refine ⟨rfl, hb.fl, fun b => ?_, fun b o ho => ⟨?_, ?_⟩⟩
  · show (hpU m.hp e.post).get b = match E b with | some o => some o | none => (hpU u.hp e.post).get b
    rcases hpU_get (h := m.hp) (l := e.post) (b := b) with ⟨k, q⟩ | ⟨x, k1, k2, q⟩
    · rw [q]
      rcases hpU_get (h := u.hp) (l := e.post) (b := b) with ⟨_, q'⟩ | ⟨x', _, k2', _⟩
      · rw [q', hb.get]; rfl
      · rw [k] at k2'; cases k2'
    · cases hE : E b with
      | some o => rw [key b o hE] at k2; cases k2
      | none => exact hpU_same e.post k2
  · show (hpU u.hp e.post).get b = none
    have hk := key b o ho
    rcases hpU_get (h := u.hp) (l := e.post) (b := b) with ⟨_, q⟩ | ⟨x', _, k2', _⟩
    · rw [q]; exact (hb.gap b o ho).1
    · rw [hk] at k2'; cases k2'
  · show b < e.nx'
    have := (hb.gap b o ho).2
    omega

theorem tabA_fr : ∀ l : List Ent, FrF (tabA l)
  | [], a, u, r, u', e, E, m, hb => by cases e
  | x :: l, a, u, r, u', e, E, m, hb => by
    have hh : x.hit a m = x.hit a u := by unfold Ent.hit; rw [hb.nx, hb.fl]
    unfold tabA at e ⊢
    rw [hh]
    split at e
    · rename_i h1
      obtain ⟨hn, _, _⟩ := hit_of h1
      split at e
      · rename_i hf
        cases e
        rw [fits_bes hb hf]
        exact ⟨_, rfl, ent_bes x hb hn hf⟩
      · cases e
    · exact tabA_fr l a u r u' e E m hb

/-! ## what the table says the machine does -/

variable [Kap]
variable {P : Program} {cx : Cx}

/-- an entry is right -/
def EntOk (P : Program) (k : FuncId) (e : Ent) : Prop := SumOk P k (tabA [e])

theorem ent_ok (hcx : CxOk P cx) (hov : OvOk P cx) (hmix : P.follows .mixedOrders = true) (hfr : OvFr cx) {n : Nat} {k : FuncId} {e : Ent} (hc : chkE cx n k e = true) : EntOk P k e := by
  intro args m v m' ha φ w args' hl hr
  unfold tabA at ha
  split at ha
  · rename_i h1
    obtain ⟨hn, hfl, rfl⟩ := hit_of h1
    split at ha
    · rename_i hf
      obtain ⟨h4, h5, h6⟩ := fits_of hf
      cases ha
      unfold chkE at hc
      split at hc
      · rename_i r u1 hrun
        split at hc
        · rename_i g1
          split at hc
          · rename_i g2
            split at hc
            · rename_i g3
              have er := eqVal_eq g1
              subst er
              have en := Nat.eq_of_beq_eq_true g2
              have hlt : ∀ b o, m.hp.get b = some o → b < m.nx := fun b o hb => by
                obtain ⟨l, q1, _⟩ := hr.r0.obj b o hb
                rcases Nat.lt_or_ge b m.nx with h | h
                · exact h
                · rw [hr.fresh b h] at q1; cases q1
              have hb : Bes (fun b => match (hpL e.pre).get b with | some _ => none | none => m.hp.get b) e.mem m := by
                refine ⟨hn, hfl, fun b => ?_, fun b o ho => ?_⟩
                · show m.hp.get b = match (match (hpL e.pre).get b with | some _ => none | none => m.hp.get b) with | some o => some o | none => (hpL e.pre).get b
                  cases hg : (hpL e.pre).get b with
                  | some o => exact preOk_mem h4 (hpL_mem hg)
                  | none =>
                    simp only
                    cases m.hp.get b <;> rfl
                · show (hpL e.pre).get b = none ∧ b < e.nx
                  (try simp only at ho)
                  cases hg : (hpL e.pre).get b with
                  | some o' => rw [hg] at ho; cases ho
                  | none => rw [hg] at ho; exact ⟨rfl, by rw [← hn]; exact hlt b o ho⟩
              obtain ⟨m1, k1, k2⟩ := exec_call_bes hfr n k e.args e.mem _ u1 hrun _ m hb
              refine (callOf_ok hcx hov (exec_ok hcx hov hmix n) k e.args m _ m1 k1 φ w args' hl hr).mono ?_
              rintro q w' ⟨v', φ', rfl, hv, hR, hS⟩
              have enx : m1.nx = e.nx' := by rw [k2.nx, en]
              have sub : ∀ b o, (hpU m.hp e.post).get b = some o → m1.hp.get b = some o := by
                intro b o hbo
                rcases hpU_get (h := m.hp) (l := e.post) (b := b) with ⟨q1, q2⟩ | ⟨x, q1, q2, q3⟩
                · rw [q2] at hbo
                  cases hg : (hpL e.pre).get b with
                  | some o' =>
                    have hm := hpL_mem hg
                    have := preOk_mem h4 hm
                    rw [hbo] at this; cases this
                    exact k2.got (preKept_mem g3 hm q1)
                  | none =>
                    rw [k2.get]
                    simp only [hg, hbo]
                · rw [q3] at hbo
                  subst hbo
                  exact k2.got ((postOk_mem hc q1).2 o rfl)
              have flm : m1.fl = m.fl := hS.fl
              refine ⟨v', φ', rfl, hv, ⟨⟨fun b o hbo => hR.r0.obj b o (sub b o hbo), fun b1 b2 o1 o2 l1 l2 x1 x2 => hR.r0.inj b1 b2 o1 o2 l1 l2 (sub _ _ x1) (sub _ _ x2), hR.r0.glob⟩, ?_, ?_⟩, ?_⟩
              · show Fresh φ' e.nx'
                rw [← enx]; exact hR.fresh
              · show m.fl ≤ e.nx'
                rw [← enx, ← flm]; exact hR.fl
              · refine ⟨hS.ext, fun r ⟨b, o, l, x1, x2, x3, x4⟩ => hS.own r ⟨b, o, l, by rw [flm]; exact x1, sub b o x2, x3, x4⟩, hS.same, hS.size, hS.os, hS.tape, hS.output, ?_, rfl, fun b hb => ?_, fun b hb hno => ?_, hS.keep, hS.drawn⟩
                · show m.nx ≤ e.nx'
                  rw [← enx]; exact hS.nx
                · show (hpU m.hp e.post).get b = m.hp.get b
                  rcases hpU_get (h := m.hp) (l := e.post) (b := b) with ⟨q1, q2⟩ | ⟨x, q1, q2, q3⟩
                  · exact q2
                  · have := (postOk_mem hc q1).1
                    omega
                · show (hpU m.hp e.post).get b = none
                  cases hx : (hpU m.hp e.post).get b with
                  | none => rfl
                  | some o =>
                    have := sub b o hx
                    rw [hS.old b hb hno] at this; cases this
            · cases hc
          · cases hc
        · cases hc
      · cases hc
    · cases ha
  · cases ha

/-- a table of entries that are right -/
theorem tab_sum {k : FuncId} : ∀ {l : List Ent}, (∀ e ∈ l, EntOk P k e) → SumOk P k (tabA l)
  | [], _ => fun args m v m' ha => by cases ha
  | e :: l, h => fun args m v m' ha φ w args' hl hr => by
    have h1 := h e (List.mem_cons_self ..)
    unfold tabA at ha
    split at ha
    · rename_i hh
      refine h1 args m v m' ?_ φ w args' hl hr
      unfold tabA
      rw [hh]; exact ha
    · exact tab_sum (fun x hx => h x (List.mem_cons_of_mem _ hx)) args m v m' ha φ w args' hl hr

end
end Go.AX
