/-
  OWN WORK. WHAT IS TO BE SHOWN OF CODE, ITS OWN VARIABLES IN SLOTS: variables whose address goes nowhere are no blocks of the formula's memory; what stands in them is known as what stands in a slot.
-/
import Derived.Test.YthpnifigjfplbaaGreatAxVcRun
import Derived.Test.YthpnifigjfplbaaGreatAxWf
namespace Go.AX
set_option linter.unusedSimpArgs false
set_option linter.unusedVariables false
set_option linter.unusedSectionVars false
noncomputable section

/-- what is known: slots; slots that point into a variable of one's own (which, where); what these variables hold (since when); a number that is free; how many block numbers are passed over -/
structure VS where
  tm : Tr Value
  lp : Tr (Nat × Nat)
  loc : Tr (Nat × List Value)
  cnt : Nat
  pend : Nat

def fmV (s : VS) (u : Mem) : Mem := match s.pend with
  | 0 => u
  | n + 1 => bump u (n + 1)

variable (cx : Cx)

/-- what comes of a call; other blocks left aside -/
def CallV (k : FuncId) (args : List Value) (u : Mem) (Q : Value → Mem → Prop) : Prop :=
  Wf u → ∃ n r m', callOf cx (exec cx n) k args u = some (r, m') ∧ ∃ E u', Bes E u' m' ∧ Wf u' ∧ (∀ b o, E b = some o → u.nx ≤ b) ∧ Q r u'

def putV (sz : Nat) (s : VS) (dst : Option Tmp) (v : Option Value) (K : VS → Prop) : Prop := match dst with
  | none => K s
  | some d => match Nat.blt d sz with
    | true => match v with
      | some x => K { s with tm := s.tm.put d x, lp := s.lp.del d }
      | none => K { s with tm := s.tm.del d, lp := s.lp.del d }
    | false => False

def putL (sz : Nat) (s : VS) (dst : Option Tmp) (id off : Nat) (K : VS → Prop) : Prop := match dst with
  | none => K s
  | some d => match Nat.blt d sz with
    | true => K { s with tm := s.tm.del d, lp := s.lp.put d (id, off) }
    | false => False

def lpO (s : VS) : Operand → Option (Nat × Nat)
  | .tmp t => s.lp.get t
  | _ => none

def locD (LS : List Nat) : Option Tmp → Bool
  | none => false
  | some d => memN LS d

def cellsAt (s : VS) (id : Nat) : Option (List Value) := match s.loc.get id with
  | some (_, c) => some c
  | none => none

def ldL (t : TypeId) (c : List Value) (off : Nat) (K : Value → Prop) : Prop := match cx.un.get t, sizeT cx t with
  | some d, some n => match isAggD d with
    | true => match n with
      | 0 => False
      | n + 1 => match Nat.ble (off + (n + 1)) c.length with
        | true => K (.agg ((c.drop off).take (n + 1)).toArray)
        | false => False
    | false => vVal c[off]? K
  | _, _ => False

def stL (t : TypeId) (c : List Value) (off : Nat) (v : Value) (K : List Value → Prop) : Prop := match sizeT cx t with
  | some n => match isAggT cx t with
    | false => match Nat.beq n 1 && Nat.blt off c.length with
      | true => vOne v (K (splice c off [v]))
      | false => False
    | true => match v with
      | .agg cs => match Nat.ble (off + cs.toList.length) c.length with
        | true => okL cs.toList n (K (splice c off cs.toList))
        | false => False
      | _ => False
  | none => False

def vCallFV (u : Mem) (f : Value) (args : List Value) (K : Value → Mem → Prop) : Prop := match f with
  | .func (.func k) first captured => CallV cx k (first.toList ++ (args ++ captured.toList)) u K
  | _ => False

def vInvokeV (u : Mem) (x : Value) (name : String) (args : List Value) (K : Value → Mem → Prop) : Prop :=
  ∃ t v, x = .iface t v ∧ ∃ k r, methodA cx t v name = some (k, r) ∧ CallV cx k (r :: args) u K

def vCallX (tm : Tr Value) (u : Mem) (dst : Option Tmp) (ty : TypeId) (c : Call) (K : Option Value → Mem → Prop) : Prop :=
  evL cx tm c.args.toList fun args => match c.callee with
    | .builtin b => vBuiltin cx u b c.argTypes.toList args fun r u' => K (some r) u'
    | .value f => vVal (evT cx tm f) fun f => vCallFV cx u f args fun r u' => vRes cx dst ty (fun r u' => K (some r) u') r u'
    | .invoke x name => vVal (evT cx tm x) fun x => vInvokeV cx u x name args fun r u' => vRes cx dst ty (fun r u' => K (some r) u') r u'

/-- an operation that knows no variable of one's own -/
def vOpX (tm : Tr Value) (u : Mem) (dst : Option Tmp) (ty : TypeId) (op : Op) (K : Option Value → Mem → Prop) : Prop := match op with
  | .call c => vCallX cx tm u dst ty c K
  | op => vOp cx tm u dst ty op K

def vOpO (sz : Nat) (s : VS) (u : Mem) (dst : Option Tmp) (ty : TypeId) (op : Op) (K : VS → Mem → Prop) : Prop := match kindO op with
  | 2 => vOpX cx s.tm (fmV s u) dst ty op fun v u' => putV sz { s with pend := 0 } dst v fun s => K s u'
  | _ => vOpX cx s.tm (fmV s u) dst ty op fun v _ => putV sz s dst v fun s => K s u

def newL (s : VS) (l : List Value) : VS := { s with loc := s.loc.put s.cnt (s.cnt, l), cnt := s.cnt + 1, pend := s.pend + 1 }
def setL (s : VS) (id : Nat) (l : List Value) : VS := { s with loc := s.loc.put id (s.cnt, l), cnt := s.cnt + 1 }

def fieldL (t : TypeId) (f : Nat) (K : Nat → Prop) : Prop := match cx.un.get t with
  | some (.struct fs) => match fs.toList[f]? with
    | some fd => match sizeT cx fd.type with
      | some (_ + 1) => K fd.offset
      | _ => False
    | none => False
  | _ => False

/-- what an operation does to variables of one's own, if it is at one -/
inductive LKind where
  | no
  | make (z : Option Value)
  | load (t : TypeId) (id off : Nat)
  | store (t : TypeId) (id off : Nat) (x : Operand)
  | field (t : TypeId) (id off f : Nat)
  | same (id off : Nat)

def lkind (LS : List Nat) (s : VS) (dst : Option Tmp) : Op → LKind
  | .alloc e => match locD LS dst with
    | true => .make (zeroT cx e)
    | false => .no
  | .box e x => match locD LS dst with
    | true => match evT cx s.tm x with
      | some v => match isAggT cx e, v with
        | true, .agg c => .make (some (.agg c))
        | true, _ => .make none
        | false, .agg _ => .make none
        | false, .tuple _ => .make none
        | false, v => .make (some v)
      | none => .make none
    | false => .no
  | .load t a => match lpO s a with
    | some (id, off) => .load t id off
    | none => .no
  | .store t a x => match lpO s a with
    | some (id, off) => .store t id off x
    | none => .no
  | .fieldAddr t x f => match lpO s x with
    | some (id, off) => .field t id off f
    | none => .no
  | .nilCheck x | .move x | .assign x => match lpO s x with
    | some (id, off) => .same id off
    | none => .no
  | _ => .no

def vOp2 (LS : List Nat) (sz : Nat) (s : VS) (u : Mem) (dst : Option Tmp) (ty : TypeId) (op : Op) (K : VS → Mem → Prop) : Prop := match lkind cx LS s dst op with
  | .no => vOpO cx sz s u dst ty op K
  | .make z => vVal z fun z => putL sz (newL s (cellsL z)) dst s.cnt 0 fun s => K s u
  | .load t id off => vList (cellsAt s id) fun c => ldL cx t c off fun v => putV sz s dst (some v) fun s => K s u
  | .store t id off x => vVal (evT cx s.tm x) fun v => vList (cellsAt s id) fun c => stL cx t c off v fun c => putV sz (setL s id c) dst none fun s => K s u
  | .field t id off f => fieldL cx t f fun o => putL sz s dst id (off + o) fun s => K s u
  | .same id off => putL sz s dst id off fun s => K s u

def vOps2 (LS : List Nat) (sz : Nat) (ops : List Oper) : List Oper → VS → Mem → (VS → Mem → Prop) → Prop
  | [], s, u, K => K s u
  | o :: r, s, u, K => vGuard ops s.tm o fun tm go => match go with
    | true => vOp2 cx LS sz { s with tm := tm } u o.dst o.type o.op fun s u => vOps2 LS sz ops r s u K
    | false => putV sz { s with tm := tm } o.dst skipV fun s => vOps2 LS sz ops r s u K

/-! ## regions that draw their order -/

/-- the memory with what was made taken in -/
def takeV (p : Nat → Bool) (s : VS) (u : Mem) (made : List (Nat × Nat × AObj)) (K : VS → Mem → Prop) : Prop := match made with
  | [] => K s u
  | _ :: _ => K { s with pend := 0 } (addMade p made (fmV s u))

/-- a store held apart from the loads ahead of it for which it does not wait -/
def apartL (s : VS) (bw rd sm : Nat) : List Oper → Nat → Prop → Prop
  | [], _, K => K
  | x :: r, j, K => match hasBit rd j && !hasBit sm j with
    | false => apartL s bw rd sm r (j + 1) K
    | true => match loadP x.op with
      | some a => match lpO s a with
        | some (id, _) => match cellsAt s id with
          | some _ => apartL s bw rd sm r (j + 1) K
          | none => False
        | none => match evT cx s.tm a with
          | some (.pointer (some ad)) => ad.block ≠ bw ∧ apartL s bw rd sm r (j + 1) K
          | _ => False
      | none => False

def apartV (s : VS) (M : Mem) (o : Op) (ops : List Oper) (rd sm : Nat) (K : Prop) : Prop := match storeP o with
  | some x => match evT cx s.tm x with
    | some (.pointer (some ad)) => okW M ad.block 0 0 ∧ apartL cx s ad.block rd sm ops 0 K
    | _ => False
  | none => False

def vDrawOp2 (LS : List Nat) (sz : Nat) (ops : List Oper) (s : VS) (u : Mem) (o : Oper) (r : List Oper) (sm : Nat) (q : List Nat) (i base : Nat) (d : Dr) (K : VS → Mem → Dr → Prop) : Prop :=
  match kindO o.op with
  | 2 => match makesO o.op with
    | true => match locD LS o.dst with
      | true => False
      | false => vMake cx s.tm o.op (base + i) fun v ob => putV sz s o.dst (some v) fun s => K s u { d with made := (i, base + i, ob) :: d.made }
    | false => match waitsFor sm d.hist with
      | false => False
      | true => match !Nat.beq (Nat.land d.rd sm) d.rd || laterFree i q r with
        | true => match apartW ops o.op r sm q i d.rd with
          | true => match lkind cx LS s o.dst o.op with
            | .no => apartV cx s (addMade (newIn sm d.took) d.made (fmV s u)) o.op ops d.rd sm (vOpX cx s.tm (addMade (newIn sm d.took) d.made (fmV s u)) o.dst o.type o.op fun v m' => putV sz { s with pend := 0 } o.dst v fun s' => K s' m' { d with took := Nat.lor d.took sm, hist := (i, false, fmV s u, d.took) :: d.hist })
            | _ => False
          | false => match lkind cx LS s o.dst o.op with
            | .no => vOpX cx s.tm (setFl (addMade (newIn sm d.took) d.made (fmV s u)) (softFl ops base (fmV s u).nx sm i d q r)) o.dst o.type o.op fun v m' => putV sz { s with pend := 0 } o.dst v fun s' => K s' (setFl m' (fmV s u).fl) { d with took := Nat.lor d.took sm, hist := (i, true, fmV s u, d.took) :: d.hist }
            | _ => False
        | false => match lkind cx LS s o.dst o.op with
          | .no => vOpX cx s.tm (addMade (newIn sm d.took) d.made (fmV s u)) o.dst o.type o.op fun v m' => putV sz { s with pend := 0 } o.dst v fun s' => K s' m' { d with took := Nat.lor d.took sm, hist := (i, false, fmV s u, d.took) :: d.hist }
          | .store t id off x => vVal (evT cx s.tm x) fun v => vList (cellsAt s id) fun c => stL cx t c off v fun c => takeV (newIn sm d.took) s u d.made fun s' u' => putV sz (setL s' id c) o.dst none fun s' => K s' u' { d with took := Nat.lor d.took sm, hist := (i, false, fmV s u, d.took) :: d.hist }
          | _ => False
  | 1 => match memAt sm (fmV s u) d.took d.hist with
    | some (m0, tk) => match lkind cx LS s o.dst o.op with
      | .no => vOpX cx s.tm (addMade (newIn sm tk) d.made m0) o.dst o.type o.op fun v _ => putV sz s o.dst v fun s => K s u { d with rd := Nat.lor d.rd (bit i) }
      | .load t id off => vList (cellsAt s id) fun c => ldL cx t c off fun v => putV sz s o.dst (some v) fun s => K s u { d with rd := Nat.lor d.rd (bit i) }
      | _ => False
    | none => False
  | _ => match lkind cx LS s o.dst o.op with
    | .no => vOpX cx s.tm ⟨.nil, 0, 0⟩ o.dst o.type o.op fun v _ => putV sz s o.dst v fun s => K s u d
    | .field t id off f => fieldL cx t f fun o' => putL sz s o.dst id (off + o') fun s => K s u d
    | .same id off => putL sz s o.dst id off fun s => K s u d
    | _ => False

def vDraw2 (LS : List Nat) (sz : Nat) (ops : List Oper) (base : Nat) : List Oper → List Nat → Nat → Dr → VS → Mem → (VS → Mem → Prop) → Prop
  | o :: r, sm :: q, i, d, s, u, K => vGuard ops s.tm o fun tm go => match go with
    | true => vDrawOp2 cx LS sz ops { s with tm := tm } u o r sm q i base d fun s u d => vDraw2 LS sz ops base r q (i + 1) d s u K
    | false => putV sz { s with tm := tm } o.dst skipV fun s => vDraw2 LS sz ops base r q (i + 1) d s u K
  | [], _, _, d, s, u, K => match d.made with
    | [] => K s u
    | _ :: _ => mBind (addMade (fun k => !hasBit d.took k) d.made (fmV s u)) (K { s with pend := 0 })
  | _ :: _, [], _, _, _, _, _ => False

def vRegion2 (LS : List Nat) (sz : Nat) (ops : List Oper) (draw : Bool) (s : VS) (u : Mem) (K : VS → Mem → Prop) : Prop := match draw with
  | false => vOps2 cx LS sz ops ops s u K
  | true => match slotsOk ops ops (ancs ops []) 0 with
    | true => vDraw2 cx LS sz ops (fmV s u).nx ops (ancs ops []) 0 ⟨0, [], [], 0⟩ { s with pend := s.pend + ops.length } u K
    | false => False

/-! ## annotated code -/

/-- what is known behind a join: slots that stay; slots that come in; slots that point into variables; variables that stay as they were; variables whose cells come in (as slots beyond the last); the free number -/
structure JA where
  keep : List Nat
  live : Live
  lks : List (Nat × Nat × Nat)
  fix : List Nat
  cts : List (Nat × List Nat)
  cnt : Nat

inductive AD where
  | skip
  | label (l : Nat)
  | region (id : Nat) (ops : Array Oper) (draw : Bool)
  | seq (a b : AD)
  | seqJ (a : AD) (j : JA) (b : AD)
  | cond (c : Operand) (x y : AD)
  | block (id : Nat) (c : AD)
  | loop (j : JA) (c : AD)
  | exit (id : Nat)
  | ret
  | other (c : Code)

def AD.code : AD → Code
  | .skip => .skip
  | .label l => .label l
  | .region id ops draw => .region id ops draw
  | .seq a b => .seq a.code b.code
  | .seqJ a _ b => .seq a.code b.code
  | .cond c x y => .cond c x.code y.code
  | .block id c => .block id c.code
  | .loop _ c => .loop c.code
  | .exit id => .exit id
  | .ret => .ret
  | .other c => c

abbrev AnD := List (Option JA)

def anHead : AnD → Option JA × AnD
  | [] => (none, [])
  | x :: r => (x, r)

def AD.of : Code → AnD → AD × AnD
  | .skip, n => (.skip, n)
  | .label l, n => (.label l, n)
  | .region id ops draw, n => (.region id ops draw, n)
  | .seq a b, n => match anHead n with
    | (none, n) => match AD.of a n with
      | (x, n) => match AD.of b n with
        | (y, n) => (.seq x y, n)
    | (some j, n) => match AD.of a n with
      | (x, n) => match AD.of b n with
        | (y, n) => (.seqJ x j y, n)
  | .cond c a b, n => match AD.of a n with
    | (x, n) => match AD.of b n with
      | (y, n) => (.cond c x y, n)
  | .block id c, n => match AD.of c n with
    | (x, n) => (.block id x, n)
  | .loop c, n => match anHead n with
    | (none, n) => (.other (.loop c), n)
    | (some j, n) => match AD.of c n with
      | (x, n) => (.loop j x, n)
  | .exit id, n => (.exit id, n)
  | .ret, n => (.ret, n)
  | c, n => (.other c, n)

def putSl (tm : Tr Value) : List Nat → List Value → Tr Value
  | i :: r, v :: q => (putSl tm r q).put i v
  | _, _ => tm

def putCts (loc : Tr (Nat × List Value)) : List (Nat × List Nat) → Tr Value → Option (Tr Value)
  | [], tm => some tm
  | (id, sl) :: r, tm => match loc.get id with
    | some (_, c) => match Nat.beq c.length sl.length with
      | true => match putCts loc r tm with
        | some tm => some (putSl tm sl c)
        | none => none
      | false => none
    | none => none

def getSl (tm : Tr Value) : List Nat → Option (List Value)
  | [] => some []
  | i :: r => match tm.get i, getSl tm r with
    | some v, some l => some (v :: l)
    | _, _ => none

def getCts (tm : Tr Value) (v : Nat) : List (Nat × List Nat) → Tr (Nat × List Value) → Option (Tr (Nat × List Value))
  | [], loc => some loc
  | (id, sl) :: r, loc => match getSl tm sl, getCts tm v r loc with
    | some c, some loc => some (loc.put id (v, c))
    | _, _ => none

def delSl (tm : Tr Value) : List Nat → Tr Value
  | [] => tm
  | i :: r => (delSl tm r).del i

def delCts : List (Nat × List Nat) → Tr Value → Tr Value
  | [], tm => tm
  | (_, sl) :: r, tm => delSl (delCts r tm) sl

def ctsSlots : List (Nat × List Nat) → List Nat
  | [] => []
  | (_, sl) :: r => sl ++ ctsSlots r

def lksT : List (Nat × Nat × Nat) → Tr (Nat × Nat)
  | [] => .nil
  | (t, id, off) :: r => (lksT r).put t (id, off)

def fixT (loc : Tr (Nat × List Value)) : List Nat → Tr (Nat × List Value)
  | [] => .nil
  | id :: r => match loc.get id with
    | some x => (fixT loc r).put id x
    | none => fixT loc r

def nodupN : List Nat → Bool
  | [] => true
  | x :: r => match memN r x with
    | true => false
    | false => nodupN r

/-- the numbers are below the free one -/
def jaOk (j : JA) (s : VS) : Bool :=
  Nat.ble s.cnt j.cnt && (j.lks.all (fun x => Nat.ble x.2.1 j.cnt) && (j.fix.all (fun x => Nat.ble x j.cnt) && (j.cts.all (fun x => Nat.ble x.1 j.cnt) && (apartN j.keep (ctsSlots j.cts) && nodupN (ctsSlots j.cts)))))

def lksOk (s : VS) : List (Nat × Nat × Nat) → Bool
  | [] => true
  | (t, id, off) :: r => match s.lp.get t with
    | some (id', off') => match Nat.beq id' id && Nat.beq off' off with
      | true => lksOk s r
      | false => false
    | none => false

def fixOk (s0 s : VS) : List Nat → Bool
  | [] => true
  | id :: r => match s0.loc.get id, s.loc.get id with
    | some (v, _), some (v', _) => match Nat.beq v v' with
      | true => fixOk s0 s r
      | false => false
    | _, _ => false

/-- what is known behind the join -/
def headV (j : JA) (s0 : VS) (tm : Tr Value) : Option VS := match getCts tm j.cnt j.cts (fixT s0.loc j.fix) with
  | some loc => some { tm := delCts j.cts tm, lp := lksT j.lks, loc := loc, cnt := j.cnt + 1, pend := 0 }
  | none => none

/-- into the join -/
def jmp1 (j : JA) (s0 s : VS) (J : Cur j.live (Mem → Prop)) (u : Mem) : Prop := match lksOk s j.lks && fixOk s0 s j.fix with
  | true => match putCts s.loc j.cts s.tm with
    | some tm => appT j.live J tm (fun _ => False) (fmV s u)
    | none => False
  | false => False

def jmp2 (j : JA) (s0 s : VS) (J : Cur j.live (Mem → Nat → Prop)) (u : Mem) (n : Nat) : Prop := match lksOk s j.lks && fixOk s0 s j.fix with
  | true => match putCts s.loc j.cts s.tm with
    | some tm => appT j.live J tm (fun _ _ => False) (fmV s u) n
    | none => False
  | false => False

/-- what is to be shown that code comes to its end as wanted -/
def vcg2 (LS : List Nat) (sz : Nat) : AD → VS → Mem → (Ex → VS → Mem → Prop) → Prop
  | .skip, s, u, Q => Q .normal s u
  | .label _, s, u, Q => Q .normal s u
  | .region _ ops draw, s, u, Q => vRegion2 cx LS sz ops.toList draw s u fun s u => Q .normal s u
  | .seq a b, s, u, Q => vcg2 LS sz a s u fun
    | .normal, s, u => vcg2 LS sz b s u Q
    | .exit i, s, u => Q (.exit i) s u
    | .ret, s, u => Q .ret s u
  | .seqJ a j b, s, u, Q => match apartN j.keep (writesC a.code) && jaOk j s with
    | true => joinK (mkJ j.live (keepT s.tm j.keep) fun tm u => match headV j s tm with
        | some s => vcg2 LS sz b s u Q
        | none => False) fun J => vcg2 LS sz a s u fun
      | .normal, s', u => jmp1 j s s' J u
      | .exit i, s, u => Q (.exit i) s u
      | .ret, s, u => Q .ret s u
    | false => False
  | .cond c x y, s, u, Q => vCond cx s.tm c fun tm b => match b with
    | true => vcg2 LS sz x { s with tm := tm } u Q
    | false => vcg2 LS sz y { s with tm := tm } u Q
  | .block id c, s, u, Q => vcg2 LS sz c s u fun
    | .normal, s, u => Q .normal s u
    | .exit i, s, u => match Nat.beq i id with
      | true => Q .normal s u
      | false => Q (.exit i) s u
    | .ret, s, u => Q .ret s u
  | .loop j c, s, u, Q => match apartN j.keep (writesC c.code) && jaOk j s with
    | true => ∃ Inv : Cur j.live (Mem → Nat → Prop), (∃ n, jmp2 j s s Inv u n) ∧
      alL j.live Inv (keepT s.tm j.keep) fun I tm => ∀ u n, I u n → match headV j s tm with
        | some s1 => vcg2 LS sz c s1 u fun
          | .normal, s', u => ∃ n', n' < n ∧ jmp2 j s s' Inv u n'
          | .exit i, s, u => Q (.exit i) s u
          | .ret, s, u => Q .ret s u
        | none => False
    | false => False
  | .exit id, s, u, Q => Q (.exit id) s u
  | .ret, s, u, Q => Q .ret s u
  | .other _, _, _, _ => False

/-- the results -/
def vResults2 (s : VS) (u : Mem) : List ResultVar → (List Value → Prop) → Prop
  | [], K => K []
  | .tmp t :: r, K => vVal (s.tm.get t) fun v => vResults2 s u r fun vs => K (v :: vs)
  | .cell a t :: r, K => match s.lp.get a with
    | some (id, off) => vList (cellsAt s id) fun c => ldL cx t c off fun v => vResults2 s u r fun vs => K (v :: vs)
    | none => match s.tm.get a with
      | some (.pointer p) => vPtr p fun b o => vLoad cx (fmV s u) t b o fun v => vResults2 s u r fun vs => K (v :: vs)
      | _ => False

/-- what is to be shown of a call -/
def vFn2 (fn : Func) (LS : List Nat) (ann : AnD) (args : List Value) (u : Mem) (Q : Value → Mem → Prop) : Prop := match fn.body with
  | none => False
  | some c => match Nat.ble args.length fn.ntmps with
    | false => False
    | true => vcg2 cx LS fn.ntmps (AD.of c ann).1 ⟨writeL .nil args 0, .nil, .nil, 0, 0⟩ u fun
      | .normal, s, u => vResults2 cx s u fn.results.toList fun l => Q (oneOf l) (fmV s u)
      | .ret, s, u => vResults2 cx s u fn.results.toList fun l => Q (oneOf l) (fmV s u)
      | .exit _, _, _ => False

end
end Go.AX
