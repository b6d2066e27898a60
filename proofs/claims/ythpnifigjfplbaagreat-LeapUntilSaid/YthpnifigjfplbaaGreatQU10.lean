import Derived.Test.YthpnifigjfplbaaGreatQU08
import Derived.Laws.Strings
import Derived.Laws.Strings2
import Derived.Laws.StructEq
namespace Go.AX
variable {P:Program} {cx:Cx} {φ : cV} {m:Mem} {w:World}
theorem yv (k:IntKind) (r:Int) (h:zr k r=true):k.wrap r=r:=by
  have h':k.min≤r∧r≤k.max:=by simpa [zr] using h
  obtain ⟨h1,h2⟩:=h'
  cases k <;> simp [IntKind.min,IntKind.max,IntKind.bits,IntKind.signed] at h1 h2 <;>
    simp [IntKind.wrap,IntKind.bits,IntKind.signed] <;> omega
theorem wN (k:IntKind) (r:Int):lM k r=k.wrap r:=by
  unfold lM
  split
  · rename_i h; exact (yv k r h).symm
  · rfl
theorem Mh {op:BinOp} {t:TypeId} {k:IntKind} {x y:Int} {v:Value} (hs:op≠.shl) (hs':op≠.shr) (h:nM op k x y=some v) (w:World) :
    (binOp op t (.int k x) (.int k y)).run P w = .ok v w:=by
  cases op
  case quo | rem=>
    simp only [nM] at h
    split at h
    · cases h
    · rename_i hy
      have hy':¬ y=0:=by simpa using hy
      simp only [gQ7,wN] at h; subst h
      simp [binOp,Op.intDiv,hy']
  case shl=>exact absurd rfl hs
  case shr=>exact absurd rfl hs'
  all_goals
    simp only [nM,gQ7,wN] at h; subst h
    first
    | (simp [binOp,Op.intArith,Op.intBits,Op.intCmp]; done)
    | (simp only [binOp,Op.intCmp,ne_eq,not_true_eq_false,if_false,Sem.run_pure]
       by_cases e:x=y
       · subst e; simp
       · simp [e])
theorem Bs {l:Bool} {t:TypeId} {k k':IntKind} {x y:Int} {v:Value} (h:pC l k x y=some v) (w:World) :
    (binOp (if l then .shl else .shr) t (.int k x) (.int k' y)).run P w = .ok v w:=by
  simp only [pC] at h
  split at h
  · cases h
  · rename_i hy
    have hy':¬ y < 0:=by simpa using hy
    cases l <;> simp only [gQ7] at h <;> subst h <;> simp [binOp,Op.shift,hy']
theorem pZ:∀ (a b:List UInt8),mu a b=(a == b)
  | [],[]=>rfl
  | [],b :: y=>rfl
  | a :: x,[]=>rfl
  | a :: x,b :: y=>by
    simp only [mu]
    split
    · rename_i h; rw [pZ x y]; have:a=b:=by simpa using h
      subst this; simp
    · rename_i h; have:¬ a=b:=by simpa using h
      simp [this]
theorem Kb (x y:ByteArray):(⟨(x.data.toList ++ y.data.toList).toArray⟩:ByteArray)=x ++ y:=by
  apply ByteArray.ext
  simp [ByteArray.data_append]
theorem Ho {op:BinOp} {t:TypeId} {x y:ByteArray} {v:Value} (h:stringOp op x y=some v) (w:World) :
    (binOp op t (.string x) (.string y)).run P w = .ok v w:=by
  cases op
  case add=>
    simp only [stringOp] at h
    split at h
    · rename_i hle
      have hle':x.data.toList.length+y.data.toList.length≤140737488355328:=gQ6 hle
      have hs:¬ ((x.size+y.size:Nat):Int) > IntKind.i64.max:=by
        have e1:x.size=x.data.toList.length:=rfl
        have e2:y.size=y.data.toList.length:=rfl
        have e3:IntKind.i64.max=9223372036854775807:=by simp [IntKind.max,IntKind.bits,IntKind.signed]
        rw [e3]
        omega
      simp only [gQ7] at h; subst h
      simp only [binOp,Op.stringOp,hs,if_false,Sem.run_pure,Kb]
    · cases h
  case eql | neq | lss | leq | gtr | geq=>
    simp only [stringOp,pZ,gQ7] at h; subst h
    simp [binOp,Op.stringOp,ByteArray.toList_eq]
  all_goals (simp only [stringOp,reduceCtorEq] at h)
theorem wO (hcx:CxOk P cx) {t:TypeId} {cs cs':List Value} {off:Nat} {v:Value} (hl:LR φ cs cs') (h:zt cx t cs off=some v) :
    ∃ v',(part t cs'.toArray off).run P w = .ok v' w∧VR φ v v':=by
  simp only [zt] at h
  split at h
  · rename_i d n hd hn
    obtain ⟨i,hi,rfl⟩:=gv hcx hn
    have hu:=hcx.un _ _ hd
    split at h
    · rename_i hag
      simp only [gQ7] at h; subst h
      refine ⟨.agg ((cs'.drop off).take i.size).toArray,?_,?_⟩
      · simp only [part,Sem.run_bind,uH hu,hag,Result.andThen_ok,if_true,eC hi,Sem.run_pure]
        congr 2
        apply Array.ext'
        simp
      · have:=(hl.drop off).take i.size
        exact .agg _ _ (by simpa using this.1) (by simpa using this.2)
    · rename_i hag
      obtain ⟨v',h1,h2⟩:=hl.get h
      refine ⟨v',?_,h2⟩
      simp only [part,Sem.run_bind,uH hu,hag,Result.andThen_ok]
      simp [h1]
  · cases h
theorem HV (h0:R0 P φ m w) {b:Nat} {l:Loc} (hl:lG m b=true) (hb:φ b=some l):∃ c e,w.heap[l.rb]? = some (.cells c e (0,0))∧∃ o,m.hp.get b=some o:=by
  simp only [lG] at hl
  split at hl
  · rename_i c n e x hk
    obtain ⟨l0,hl0,c',hc',_⟩:=h0.obj _ _ hk
    rw [hb] at hl0; cases hl0
    exact ⟨c',e,hc',_,hk⟩
  · cases hl
theorem Hp (h0:R0 P φ m w) {a b:Option Addr} {r:Bool} {x y:Value} (h:pS m a b=some r) (hx:VR φ (.pointer a) x) (hy:VR φ (.pointer b) y) :
    ∃ a' b',x = .pointer a'∧y = .pointer b' ∧
      (match a',b' with
        | none,b=>r=b.isNone
        | some _,none=>r=false
        | some a,some b=>(sameAddr a b).run P w = .ok r w):=by
  cases hx with
  | ptr0=>
    cases hy with
    | ptr0=>simp [pS] at h; subst h; exact ⟨none,none,rfl,rfl,rfl⟩
    | ptr b off l hb=>simp [pS] at h; subst h; exact ⟨none,_,rfl,rfl,rfl⟩
  | ptr ba offa la hba=>
    cases hy with
    | ptr0=>simp [pS] at h; subst h; exact ⟨_,none,rfl,rfl,rfl⟩
    | ptr bb offb lb hbb=>
      refine ⟨_,_,rfl,rfl,?_⟩
      simp only [pS] at h
      split at h
      · rename_i la1 lb1
        simp only [gQ7] at h
        obtain ⟨ca,ea,hA,oa,hoa⟩:=HV h0 la1 hba
        obtain ⟨cb,eb,hB,ob,hob⟩:=HV h0 lb1 hbb
        by_cases hab:ba=bb
        · subst hab
          rw [hba] at hbb; cases hbb
          have e:(Nat.beq ba ba && Nat.beq offa offb)=decide (offa=offb):=by
            rw [Tr.beq_true.2 rfl]
            by_cases ho:offa=offb
            · subst ho; rw [Tr.beq_true.2 rfl]; simp
            · rw [Tr.beq_false.2 ho]; simp [ho]
          rw [e] at h; subst h
          simp only [sameAddr,beq_self_eq_true,if_true,Sem.run_pure]
          congr 1
          by_cases ho:offa=offb
          · subst ho; simp
          · simp [ho]
        · have hne:la.rb≠lb.rb:=fun e=>hab (h0.inj _ _ _ _ _ _ hoa hob hba hbb e)
          have e:(Nat.beq ba bb && Nat.beq offa offb)=false:=by
            rw [Tr.beq_false.2 hab]; rfl
          rw [e] at h; subst h
          have hne':(la.rb == lb.rb)=false:=by simpa using hne
          simp [sameAddr,hne',frozen,Sem.run,World.frozen?,hA,hB,noView,viewAt,shape,World.shape?,mayBeOne,stringish]
      · cases h
end Go.AX
namespace Go.AX
variable {P:Program} {cx:Cx} {φ : cV} {m:Mem} {w:World}
theorem vp(hcx:CxOk P cx){eq:TypeId->Value->Value->Option Bool}{d:Nat}
  (ih:∀(t:TypeId) (x y x' y':Value) (b:Bool),eq t x y=some b->VR φ x x'->VR φ y y'->(Op.equalIn d t x' y').run P w = .ok b w)
  {xs ys xs' ys':List Value} (hx:LR φ xs xs') (hy:LR φ ys ys'):∀(fs:List Field) (b:Bool),eqFields cx eq xs ys fs=some b->(Op.eqFields d xs'.toArray ys'.toArray fs).run P w = .ok b w
 | [],b,h=>by simp only[eqFields,gQ7]at h;subst h;rfl
 | f::r,b,h=>by
  simp only[eqFields]at h;split at h
  .rename_i hn;have hn':f.name = "_":=by simpa using hn
   simp only[Op.eqFields,hn',ne_eq,not_true_eq_false,if_false];exact vp hcx ih hx hy r b h
  .rename_i hn;have hn':¬f.name = "_":=by simpa using hn
   split at h
   .rename_i x y px py;obtain⟨x',rx,vx⟩:=wO (w:=w) hcx hx px;obtain⟨y',ry,vy⟩:=wO (w:=w) hcx hy py;simp only[Op.eqFields,ne_eq,hn',not_false_eq_true,if_true,Sem.run_bind,rx,ry,Result.andThen_ok];split at h
    .rename_i e;rw[ih _ _ _ _ _ _ e vx vy];simp only[Result.andThen_ok,Bool.not_true,Bool.false_eq_true,if_false];exact vp hcx ih hx hy r b h
    .rename_i e;cases h;rw[ih _ _ _ _ _ _ e vx vy];simp
    .cases h
   .cases h
set_option maxHeartbeats 1000000 in
theorem Kc(hcx:CxOk P cx)(h0:R0 P φ m w):∀(d d':Nat),d<=d'->∀(t:TypeId) (x y x' y':Value) (b:Bool),gj cx m d t x y=some b->VR φ x x'->VR φ y y'->(Op.equalIn d' t x' y').run P w = .ok b w:=by
 intro d
 induction d with
 | zero=>intro d' _ t x y x' y' b h;simp[gj]at h
 | succ d ih=>
  intro d' hd t x y x' y' b h hx hy;obtain⟨e',rfl⟩:∃e',d'=e'+1:=⟨d'-1,by omega⟩;have hd':d<=e':=by omega
  simp only[gj]at h;split at h
  .cases h
  .rename_i u hu0;have hu:=hcx.un _ _ hu0;split at h
   .cases hx;cases hy;simp only[gQ7]at h;subst h;simp[Op.equalIn,run_underlying hu]
   .cases hx;cases hy;split at h
    .rename_i hk;have hk':_=_:=of_decide_eq_true hk;subst hk';simp only[gQ7]at h;subst h;simp only[Op.equalIn,Sem.run_bind,run_underlying hu,Result.andThen_ok,if_true,Sem.run_pure];congr 1
    .cases h
   .cases hx;cases hy;simp only[gQ7,pZ]at h;subst h;rename_i a c;have:(a == c)=(a.data.toList == c.data.toList):=by rw[beq_toListBytes,ByteArray.toList_eq,ByteArray.toList_eq]
    simp[Op.equalIn,run_underlying hu,this]
   ·
    rename_i e a c;split at h
    .rename_i n hn;obtain⟨i,hi,hin⟩:=gv hcx hn;obtain⟨a',c',rfl,rfl,hr⟩:=Hp h0 h hx hy;cases a' with
     | none=>
      simp only at hr;subst hr;simp[Op.equalIn,run_underlying hu]
     | some a'=>
      cases c' with
      | none=>simp only at hr;subst hr;simp[Op.equalIn,run_underlying hu]
      | some c'=>
       simp only at hr;have:¬i.size=0:=by omega
       simp[Op.equalIn,run_underlying hu,eC hi,this,hr]
    .cases h
   .cases hx;cases hy;simp only[gQ7]at h;subst h;simp[Op.equalIn,run_underlying hu]
   .cases hx;cases hy;simp only[gQ7]at h;subst h;simp[Op.equalIn,run_underlying hu]
   .cases hx;cases hy;simp only[gQ7]at h;subst h;simp[Op.equalIn,run_underlying hu]
   ·
    cases hx with
    | iface tx vx vx' hvx=>
     cases hy with
     | iface ty vy vy' hvy=>
      split at h
      .rename_i ht;have ht':=Tr.beq_false.1 ht;simp only[gQ7]at h;subst h;simp[Op.equalIn,run_underlying hu,ht']
      .rename_i ht;have ht':=Tr.beq_true.1 ht;subst ht';split at h
       .rename_i i hi;split at h
        .rename_i hc;simp[Op.equalIn,run_underlying hu,hY (hcx.ty _ _ hi),hc,ih _ hd' _ _ _ _ _ _ h hvx hvy]
        .cases h
       .cases h
   ·
    rename_i fs xs ys;cases hx with
    | agg xs xs' hx1 hx2=>
     cases hy with
     | agg ys ys' hy1 hy2=>
      split at h
      .rename_i hnh;have hf:P.underlying t=some (.struct (P.fieldsOf t)):=by
        have:P.fieldsOf t=fs:=by simp[Program.fieldsOf,hu]
        rw[this];exact hu
       have hfs:P.fieldsOf t=fs:=by simp[Program.fieldsOf,hu]
       rw[run_equalIn_struct _ _ _ _ _ hf (hcx.nh _ hnh),hfs];exact vp (xs':=xs'.toList) (ys':=ys'.toList) hcx (fun t x y x' y' b h1 h2 h3=>ih _ hd' t x y x' y' b h1 h2 h3) ⟨hx1,hx2⟩ ⟨hy1,hy2⟩ _ _ h
      .cases h
   ·
    simp only[gQ7]at h;subst h;cases hx;cases hy<;>simp only[Op.equalIn,Sem.run_bind,run_underlying hu,Result.andThen_ok,Sem.run_pure,Option.isNone_none,Option.isNone_some]
   .rename_i hnn;simp only[gQ7]at h;subst h;cases hy;cases hx
    .exact(hnn rfl).elim
    .simp only[Op.equalIn,Sem.run_bind,run_underlying hu,Result.andThen_ok,Sem.run_pure]
    .simp only[Op.equalIn,Sem.run_bind,run_underlying hu,Result.andThen_ok,Sem.run_pure]
   ·
    simp only[gQ7]at h;subst h;cases hx;cases hy<;>simp only[Op.equalIn,Sem.run_bind,run_underlying hu,Result.andThen_ok,Sem.run_pure,Option.isNone_none,Option.isNone_some]
   .rename_i hnn;simp only[gQ7]at h;subst h;cases hy;cases hx
    .exact(hnn rfl).elim
    .simp only[Op.equalIn,Sem.run_bind,run_underlying hu,Result.andThen_ok,Sem.run_pure]
   .cases hx;cases hy;simp only[gQ7]at h;subst h;simp[Op.equalIn,run_underlying hu]
   .cases hx;cases hy;simp only[gQ7]at h;subst h;simp[Op.equalIn,run_underlying hu]
   .cases hx;cases hy;simp only[gQ7]at h;subst h;simp[Op.equalIn,run_underlying hu]
   .cases h
end Go.AX
namespace Go.AX
variable {P:Program} {cx:Cx} {φ : cV} {m:Mem} {w:World}
def FU:Value→Value→Bool
  | .int _ _,.int _ _=>true
  | .float _ _,.float _ _=>true
  | .complex _ _ _,.complex _ _ _=>true
  | .string _,.string _=>true
  | _,_=>false
theorem binOp_eql (t:TypeId) (x y:Value) (h:FU x y=false):binOp .eql t x y=(Op.equal t x y >>= fun b=>pure (.bool b)):=by
  cases x <;> cases y <;> first | rfl | (simp [FU] at h)
theorem binOp_neq (t:TypeId) (x y:Value) (h:FU x y=false):binOp .neq t x y=(Op.equal t x y >>= fun b=>pure (.bool (!b))):=by
  cases x <;> cases y <;> first | rfl | (simp [FU] at h)
theorem Of {x y x' y':Value} (hx:VR φ x x') (hy:VR φ y y') (h1:∀ k a k' b,x = .int k a→y = .int k' b→False) (h2:∀ a b,x = .string a→y = .string b→False):FU x' y'=false:=by
  cases hx <;> cases hy <;> first | rfl | exact (h1 _ _ _ _ rfl rfl).elim | exact (h2 _ _ rfl rfl).elim
theorem Mi (hcx:CxOk P cx) (h0:R0 P φ m w) {op:BinOp} {t:TypeId} {x y x' y' v:Value} (h:gP cx m op t x y=some v) (hx:VR φ x x') (hy:VR φ y y') :
    (binOp op t x' y').run P w = .ok v w∧VR φ v v:=by
  have bool_plain:∀ b,VR φ (.bool b) (.bool b):=fun b=>.bool b
  simp only [gP] at h
  split at h
  · cases hx; cases hy
    split at h
    · refine ⟨Bs (l:=true) h w,?_⟩
      simp only [pC] at h
      split at h
      · cases h
      · simp only [gQ7] at h; subst h; exact .int _ _
    · refine ⟨Bs (l:=false) h w,?_⟩
      simp only [pC] at h
      split at h
      · cases h
      · simp only [gQ7] at h; subst h; exact .int _ _
    · rename_i n1 n2
      split at h
      · rename_i hk
        have hk':_=_:=of_decide_eq_true hk
        subst hk'
        refine ⟨Mh (fun e=>n1 e) (fun e=>n2 e) h w,?_⟩
        cases op <;> simp only [nM,reduceCtorEq] at h <;>
          first
          | (simp only [gQ7] at h; subst h; first | exact .int _ _ | exact .bool _)
          | (split at h
             · cases h
             · simp only [gQ7] at h; subst h; exact .int _ _)
      · cases h
  · cases hx; cases hy
    refine ⟨Ho h w,?_⟩
    cases op <;> simp only [stringOp,reduceCtorEq] at h <;>
      first
      | (simp only [gQ7] at h; subst h; first | exact .string _ | exact .bool _)
      | (split at h
         · simp only [gQ7] at h; subst h; exact .string _
         · cases h)
  · rename_i n1 n2
    have ht:=Of hx hy (fun k a k' b e1 e2=>n1 k a k' b e1 e2) (fun a b e1 e2=>n2 a b e1 e2)
    split at h
    · split at h
      · rename_i b hb
        simp only [gQ7] at h; subst h
        refine ⟨?_,.bool _⟩
        rw [binOp_eql _ _ _ ht]
        simp [Op.equal,Kc hcx h0 40 Op.maxDepth (by simp [Op.maxDepth]) _ _ _ _ _ _ hb hx hy]
      · cases h
    · split at h
      · rename_i b hb
        simp only [gQ7] at h; subst h
        refine ⟨?_,.bool _⟩
        rw [binOp_neq _ _ _ ht]
        simp [Op.equal,Kc hcx h0 40 Op.maxDepth (by simp [Op.maxDepth]) _ _ _ _ _ _ hb hx hy]
      · cases h
    · cases h
theorem Ke {op:BinOp} {t:TypeId} {x y:Operand} (h:(oT x || oT y)=true):(eqGuard op t x y .nilIface .nilIface).run P w = .ok () w:=by
  cases op <;> cases x <;> cases y <;> first | rfl | (simp [oT] at h)
theorem IM {op:BinOp} {t:TypeId} {x y:Operand} (hu:P.underlying t=some (.interface #[])):(eqGuard op t x y .nilIface .nilIface).run P w = .ok () w:=by
  have gen:∀ d,(Op.eqGuardIn (d+1) t .nilIface .nilIface).run P w = .ok false w:=by
    intro d
    simp only [Op.eqGuardIn,Sem.run_bind,run_underlying hu,Result.andThen_ok]
    rfl
  have key:(Op.eqGuardIn Op.maxDepth t .nilIface .nilIface).run P w = .ok false w:=gen 9999
  cases op <;> first
    | rfl
    | (cases x <;> cases y <;> first | rfl | (unfold eqGuard; simp [key]))
theorem Kf {op:BinOp} {t:TypeId} {x y:Operand} {c c':Array Value} (h:P.eqGuardType P.depth t=false):(eqGuard op t x y (.agg c) (.agg c')).run P w = .ok () w:=by
  cases op <;> first
    | rfl
    | (unfold eqGuard; simp [h])
theorem Hq {op:BinOp} {t:TypeId} {x y:Operand} (h:op≠.eql) (h':op≠.neq) (a b:Value):(eqGuard op t x y a b).run P w = .ok () w:=by
  cases op <;> first | (exact absurd rfl h) | (exact absurd rfl h') | rfl
theorem IN (hcx:CxOk P cx) {t:TypeId} {fs:Array Field} (hfs:cx.un.get t=some (.struct fs)) (hall:∀ f∈fs.toList,(match cx.un.get f.type with
            | some (.interface _) | some (.struct _) | some (.array _ _) | none=>false
            | _=>true)=true):P.eqGuardType P.depth t=false:=by
  have hu:=hcx.un _ _ hfs
  obtain ⟨d,hd⟩:∃ d,P.depth=d+2:=⟨_,rfl⟩
  rw [hd]
  simp only [Program.eqGuardType,hu]
  rw [← Array.any_toList,List.any_eq_false]
  intro f hf
  have:=hall f hf
  cases hd0:cx.un.get f.type with
  | none=>simp [hd0] at this
  | some dd=>
    have hu':=hcx.un _ _ hd0
    simp only [hd0] at this
    simp only [hu']
    cases dd <;> simp at this ⊢
theorem Mj (hcx:CxOk P cx) {op:BinOp} {t:TypeId} {x y:Operand} {a b a' b':Value} (h:sR cx op t x y a b=true) (ha:VR φ a a') (hb:VR φ b b') :
    (eqGuard op t x y a' b').run P w = .ok () w:=by
  by_cases h1:op = .eql∨op = .neq
  · have h2:rs cx t x y a b=true:=by
      rcases h1 with rfl | rfl <;> exact h
    clear h
    unfold rs at h2
    split at h2
    · cases ha; cases hb
      split at h2
      · rename_i hc; exact Ke hc
      · split at h2
        · rename_i ms hms
          have he:ms = #[]:=by simpa using h2
          subst he
          exact IM (hcx.un _ _ hms)
        · cases h2
    · cases ha; cases hb
      split at h2
      · rename_i fs hfs
        exact Kf (IN hcx hfs (fun f hf=>List.all_eq_true.1 h2 f hf))
      · cases h2
    · rename_i n1 n2
      cases ha <;> cases hb <;> first
        | exact (n1 rfl rfl).elim
        | exact (n2 _ _ rfl rfl).elim
        | (rcases h1 with rfl | rfl <;> rfl)
  · exact Hq (fun e=>h1 (.inl e)) (fun e=>h1 (.inr e)) _ _
end Go.AX
