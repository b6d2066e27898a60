import Derived.Test.YthpnifigjfplbaaGreatQU15
namespace Go.AX
variable [Kap]
variable {P:Program} {cx:Cx} {φ : cV} {m:Mem} {w:World}
def BS(a:Act):ResultVar->Sem Value
 | .tmp t=>pure (a.tmps.getD t undef)
 | .cell p t=>do loadVar t (<-asAddr (a.tmps.getD p undef))
omit [Kap]in
theorem tN(hcx:CxOk P cx)(h0:R0 P φ m w){tm:Tr Value}{sz:Nat}{a:Act}(ht:TR φ { tm:=tm,sz:=sz,m:=m } a):∀(l:List ResultVar) (vs:List Value),gI cx { tm:=tm,sz:=sz,m:=m } l=some vs->
  ∃vs',(l.mapM (BS a)).run P w = .ok vs' w/\LR φ vs vs'
 | [],vs,h=>by simp only[gI,gQ7]at h;subst h;exact⟨[],by simp,LR.nil φ⟩
 | .tmp t::r,vs,h=>by
  simp only[gI]at h;split at h
  .rename_i v l hv hl;simp only[gQ7]at h;subst h;obtain⟨vs',h1,h2⟩:=tN hcx h0 ht r l hl;refine⟨a.tmps.getD t undef::vs',?_,h2.cons (ht.2.2 t v hv)⟩;simp only[List.mapM_cons,Sem.run_bind,Sem.run_pure,Result.andThen_ok,h1,BS]
  .cases h
 | .cell p t::r,vs,h=>by
  simp only[gI]at h;split at h
  .rename_i q hq;split at h
   .rename_i v l hv hl;simp only[gQ7]at h;subst h;obtain⟨vs',h1,h2⟩:=tN hcx h0 ht r l hl;have hp:=ht.2.2 p _ hq;obtain⟨q',e1⟩:∃q',a.tmps.getD p undef = .pointer (some q'):=by
     generalize a.tmps.getD p undef=y at hp;cases hp;exact⟨_,rfl⟩
    rw[e1]at hp;obtain⟨v',g1,g2⟩:=FT hcx h0 hv hp;have g1':(loadVar t q').run P w = .ok v' w:=by simpa [Instr.loadAt,Instr.sureAddr]using g1
    refine⟨v'::vs',?_,h2.cons g2⟩;simp only[List.mapM_cons,Sem.run_bind,Sem.run_pure,Result.andThen_ok,h1,e1,asAddr,g1',BS]
   .cases h
  .cases h
omit [Kap]in
theorem PG(hcx:CxOk P cx){fn:Func}{st:St}{a:Act}{v:Value}{m':Mem}(hr:R0 P φ st.m w)(ht:TR φ st a)(h:qY cx fn st=some (v,m')) :
  m'=st.m/\∃v',(results fn a.tmps).run P w = .ok v' w/\VR φ v v':=by
 unfold qY at h;split at h
 .rename_i l hl;simp only[gQ7,Prod.mk.injEq]at h;obtain⟨rfl,rfl⟩:=h;refine⟨rfl,?_⟩;obtain⟨vs',h1,h2⟩:=tN hcx hr (tm:=st.tm) (sz:=st.sz) ht _ _ hl;refine⟨if h:vs'.toArray.size=1 then vs'.toArray[0] else .tuple vs'.toArray,?_,?_⟩
  .have hres:results fn a.tmps=(do let vs <-fn.results.mapM (BS a);pure (if h:vs.size=1 then vs[0] else .tuple vs)):=by
    unfold results;congr 1
    all_goals (congr 1)
   rw[hres];simp only[Sem.run_bind,Array.mapM_eq_mapM_toList,Sem.run_map,h1];rfl
  .cases l with
   | nil=>
    have:=h2.nil_iff;subst this;exact .tuple _ _ rfl (LR.nil φ).2
   | cons x r=>
    obtain⟨x',r',rfl,hx,hr'⟩:=h2.uncons;cases r with
    | nil=>
     have:=hr'.nil_iff;subst this;exact hx
    | cons y q=>
     obtain⟨y',q',rfl,hy,hq'⟩:=hr'.uncons;have:¬(x'::y'::q').toArray.size=1:=by simp
     rw[dif_neg this];exact .tuple _ _ (by simpa using h2.1) (by simpa using h2.2)
 .cases h
def Ex.to:Ex->Exit
 | .normal=>.normal
 | .exit id=>.exit id
 | .ret=>.ret
def inLoop(P:Program)(c:Code)(Q:Exit->Act->World->Prop)(a:Act)(w:World):Prop:=
 ∀(b:Frame) (k:List Item) (cs:List Frame),∃e a' w',Q e a' w'/\Arrives P (lone (b.at a (.code c::.inLoop c::k)) cs w) b k cs e a' w'
def PH(P:Program)(c:Code)(Q:Exit->Act->World->Prop)(a:Act)(w:World):Prop:=
 match c with
 | .loop c=>inLoop P c Q a w
 | c=>c.wp P Q a w
omit [Kap]in
theorem Gx{c:Code}{Q:Exit->Act->World->Prop}{a:Act}(h:inLoop P c Q a w):(Code.loop c).wp P Q a w:=by
 intro b k cs;obtain⟨e,a',w',hq,harr⟩:=h b k cs;exact⟨e,a',w',hq,.of_steps (.one step_loop) harr⟩
omit [Kap]in
theorem jF{c:Code}{Q:Exit->Act->World->Prop}{a:Act}(h:PH P c Q a w):c.wp P Q a w:=by
 cases c<;>first|exact Gx h|exact h
omit [Kap]in
theorem HB{c:Code}{Q:Exit->Act->World->Prop}{a:Act}(h:c.wp P (Exit.then (inLoop P c Q) Q) a w):inLoop P c Q a w:=by
 intro b k cs;obtain⟨e,a₁,w₁,hq,harr⟩:=h b (.inLoop c::k) cs;cases e with
 | normal=>
  obtain⟨e₂,a₂,w₂,hq₂,harr₂⟩:=hq b k cs;exact⟨e₂,a₂,w₂,hq₂,.of_steps (Steps.trans harr (.one step_inLoop)) harr₂⟩
 | exit id=>exact⟨_,a₁,w₁,hq,.pass (x:=.inLoop c) rfl (fun _ _=>.inl (by simp)) harr⟩
 | goto l=>exact⟨_,a₁,w₁,hq,.pass (x:=.inLoop c) rfl (fun _ _=>.inl (by simp)) harr⟩
 | ret=>exact⟨_,a₁,w₁,hq,.pass (x:=.inLoop c) rfl (fun _ _=>.inl (by simp)) harr⟩
 | panic ch=>exact⟨_,a₁,w₁,hq,.pass (x:=.inLoop c) rfl (fun _ _=>.inl (by simp)) harr⟩
 | outgrown=>exact⟨_,a₁,w₁,hq,.pass (x:=.inLoop c) rfl (fun _ _=>.inl (by simp)) harr⟩
def BU(P:Program)(run:Code->St->Option (Ex×St)):Prop:=
 ∀(c:Code) (st:St) (ex:Ex) (st':St),run c st=some (ex,st')->∀(φ : cV) (a:Act) (w:World),RR P φ st.m w->TR φ st a->
  ∀Q:Exit->Act->World->Prop,(∀φ' a' w',RR P φ' st'.m w'->TR φ' st' a'->Stp φ st.m w φ' st'.m w'->st'.sz=st.sz->Q ex.to a' w')->PH P c Q a w
theorem Ag(hcx:CxOk P cx){run:Code->St->Option (Ex×St)}(hrun:BU P run)(k:FuncId)(args:List Value)(m:Mem)(v:Value)(m':Mem)(h:kL cx run k args m=some (v,m')) :
  (∃fn c,P.funcs[k]? = some fn/\fn.body=some c/\(fn.name == "runtime.NumGoroutine")=false)/\
  ∀(φ : cV) (w:World) (args':Array Value),LR φ args args'.toList->RR P φ m w->
   Calls P k args' w (fun e w'=>∃v' φ',e = .returned v'/\VR φ' v v'/\RR P φ' m' w'/\Stp φ m w φ' m' w'):=by
 unfold kL at h;split at h
 .rename_i fn hfn;obtain⟨q1,q3⟩:=hcx.fn _ _ hfn;split at h
  .rename_i c hb;refine⟨⟨fn,c,q1,hb,q3⟩,fun φ w args' hl hr=>?_⟩;split at h
   .rename_i hle;have hle':args.length<=fn.ntmps:=gQ6 hle;have hasz:args'.size=args.length:=by rw[hl.1];simp
    have ht:TR φ { tm:=ec .nil args 0,sz:=fn.ntmps,m:=m } { tmps:=args'++Array.replicate (fn.ntmps-args'.size) undef,defers:=[] }:=by
     refine⟨by simp[hasz];omega,rfl,fun t v g=>?_⟩;rw[gn]at g;split at g
     .rename_i hlt;have hlt':t<args.length:=by omega
      rw[Nat.sub_zero]at g;obtain⟨v',g1,g2⟩:=hl.get g;have:(args'++Array.replicate (fn.ntmps-args'.size) undef).getD t undef=v':=by
       rw[Array.getD_eq_getD_getElem?,Array.getElem?_append_left (by omega),<-Array.getElem?_toList,g1];rfl
      rw[this];exact g2
     .rw[Tr.get_nil]at g;cases g
    have fc:∀(ex:Ex) (st:St),(ex = .normal∨ex = .ret)->run c { tm:=ec .nil args 0,sz:=fn.ntmps,m:=m }=some (ex,st)->qY cx fn st=some (v,m')->
      Calls P k args' w (fun e w'=>∃v' φ',e = .returned v'/\VR φ' v v'/\RR P φ' m' w'/\Stp φ m w φ' m' w'):=by
     intro ex st hex he hre;refine calls_of_wp q1 hb (jF (hrun _ _ _ _ he φ _ w hr ht _ ?_));intro φ' a' w' g1 g2 g3 g4;obtain⟨rfl,v',r1,r2⟩:=PG hcx g1.r0 g2 hre;rcases hex with rfl|rfl
     .exact⟨g2.2.1,v',r1,v',φ',rfl,r2,g1,g3⟩
     .exact⟨g2.2.1,v',r1,v',φ',rfl,r2,g1,g3⟩
    split at h
    .rename_i st he;exact fc .normal st (.inl rfl) he h
    .rename_i st he;exact fc .ret st (.inr rfl) he h
    .cases h
   .cases h
  .cases h
 .cases h
theorem DL(hcx:CxOk P cx)(hov:oX P cx){run:Code->St->Option (Ex×St)}(hrun:BU P run):tj P (dU cx run):=by
 intro k args m v m' h;unfold dU at h;split at h
 .rename_i f hf;exact hov k f hf args m v m' h
 .obtain⟨⟨fn,c,q1,q2,q3⟩,hC⟩:=Ag hcx hrun k args m v m' h;intro φ w args' hl hr;exact .inl ⟨qd q1 q2 q3 _ _,hC φ w args' hl hr⟩
theorem step_ok(hcx:CxOk P cx)(hov:oX P cx)(jt:P.follows .mixedOrders=true){run:Code->St->Option (Ex×St)}(hrun:BU P run):BU P (step cx run):=by
 have hcall:=DL hcx hov hrun;intro c st ex st' h φ a w hr ht Q hq;cases c with
 | skip=>simp only[step,gQ7,Prod.mk.injEq]at h;obtain⟨rfl,rfl⟩:=h;exact wp_skip (hq φ a w hr ht (Stp.refl _ _ _) rfl)
 | label l=>simp only[step,gQ7,Prod.mk.injEq]at h;obtain⟨rfl,rfl⟩:=h;exact wp_label (hq φ a w hr ht (Stp.refl _ _ _) rfl)
 | exit id=>simp only[step,gQ7,Prod.mk.injEq]at h;obtain⟨rfl,rfl⟩:=h;exact wp_exit (hq φ a w hr ht (Stp.refl _ _ _) rfl)
 | ret=>simp only[step,gQ7,Prod.mk.injEq]at h;obtain⟨rfl,rfl⟩:=h;exact wp_ret (hq φ a w hr ht (Stp.refl _ _ _) rfl)
 | region id ops draw=>
  cases draw with
  | false=>
   simp only[step]at h;split at h
   .rename_i st1 hst;simp only[gQ7,Prod.mk.injEq]at h;obtain⟨rfl,rfl⟩:=h;refine wp_region ?_;have:=Gw (Q:=Q) hcx hcall (ops:=ops) ops.toList 0 φ w st a st1 (fun j=>by simp) (by simp) hr ht hst (fun φ' a' w' g1 g2 g3 g4=>hq φ' a' w' g1 g2 g3 g4);rw[show List.range ops.size=List.range' 0 ops.toList.length by rw[List.range_eq_range'];simp];exact this
   .cases h
  | true=>
   simp only[step]at h;split at h
   .rename_i hslots;split at h
    .rename_i st1 hst;simp only[gQ7,Prod.mk.injEq]at h;obtain⟨rfl,rfl⟩:=h;exact wp_region_any jt (N9 hcx hcall hr ht hslots hst hq)
    .cases h
   .cases h
 | seq x y=>
  simp only[step]at h;refine wp_seq ?_;split at h
  .rename_i st1 h1;refine jF (hrun _ _ _ _ h1 φ a w hr ht _ ?_);intro φ1 a1 w1 g1 g2 g3 g4;refine jF (hrun _ _ _ _ h φ1 a1 w1 g1 g2 _ ?_);intro φ2 a2 w2 k1 k2 k3 k4;exact hq φ2 a2 w2 k1 k2 (g3.trans k3) (by rw[k4,g4])
  .rename_i hne;refine jF (hrun _ _ _ _ h φ a w hr ht _ ?_);intro φ1 a1 w1 g1 g2 g3 g4;cases ex with
   | normal=>exact(hne _ h).elim
   | exit id=>exact hq φ1 a1 w1 g1 g2 g3 g4
   | ret=>exact hq φ1 a1 w1 g1 g2 g3 g4
 | cond o x y=>
  simp only[step]at h;split at h
  .rename_i ho;have h1:=dD hcx hr.r0.glob ht ho;have hb:a.eval o = .bool true:=by generalize a.eval o=q at h1;cases h1;rfl
   exact wp_cond_true hb (jF (hrun _ _ _ _ h φ a w hr ht Q hq))
  .rename_i ho;have h1:=dD hcx hr.r0.glob ht ho;have hb:a.eval o = .bool false:=by generalize a.eval o=q at h1;cases h1;rfl
   exact wp_cond_false hb (jF (hrun _ _ _ _ h φ a w hr ht Q hq))
  .cases h
 | block id x=>
  simp only[step]at h;refine wp_block ?_;split at h
  .rename_i i st1 h1;refine jF (hrun _ _ _ _ h1 φ a w hr ht _ ?_);intro φ1 a1 w1 g1 g2 g3 g4;split at h
   .rename_i he;have he':=gR3 he;simp only[gQ7,Prod.mk.injEq]at h;obtain⟨rfl,rfl⟩:=h;simp only[Ex.to,Exit.inBlock,he',if_true];exact hq φ1 a1 w1 g1 g2 g3 g4
   .rename_i he;have he':=Tr.beq_false.1 he;simp only[gQ7,Prod.mk.injEq]at h;obtain⟨rfl,rfl⟩:=h;simp only[Ex.to,Exit.inBlock,he',if_false];exact hq φ1 a1 w1 g1 g2 g3 g4
  .rename_i hne;refine jF (hrun _ _ _ _ h φ a w hr ht _ ?_);intro φ1 a1 w1 g1 g2 g3 g4;cases ex with
   | normal=>exact hq φ1 a1 w1 g1 g2 g3 g4
   | exit i=>exact(hne _ _ h).elim
   | ret=>exact hq φ1 a1 w1 g1 g2 g3 g4
 | loop x=>
  simp only[step]at h;refine HB ?_;split at h
  .rename_i st1 h1;refine jF (hrun _ _ _ _ h1 φ a w hr ht _ ?_);intro φ1 a1 w1 g1 g2 g3 g4;refine(hrun _ _ _ _ h φ1 a1 w1 g1 g2 Q ?_:PH P (.loop x) Q a1 w1);intro φ2 a2 w2 k1 k2 k3 k4;exact hq φ2 a2 w2 k1 k2 (g3.trans k3) (by rw[k4,g4])
  .rename_i hne;refine jF (hrun _ _ _ _ h φ a w hr ht _ ?_);intro φ1 a1 w1 g1 g2 g3 g4;cases ex with
   | normal=>exact(hne _ h).elim
   | exit id=>exact hq φ1 a1 w1 g1 g2 g3 g4
   | ret=>exact hq φ1 a1 w1 g1 g2 g3 g4
 | rangeFunc _ _ _ _=>simp[step]at h
 | goto _=>simp[step]at h
 | scope _=>simp[step]at h
 | refuse _=>simp[step]at h
theorem CZ(hcx:CxOk P cx)(hov:oX P cx)(jt:P.follows .mixedOrders=true):∀n,BU P (eI cx n)
 | 0=>fun c st ex st' h=>by cases h
 | n+1=>step_ok hcx hov jt (CZ hcx hov jt n)
theorem Gb(hcx:CxOk P cx)(hov:oX P cx)(jt:P.follows .mixedOrders=true){n:Nat}{k:FuncId}{args:List Value}{m:Mem}{v:Value}{m':Mem}(h:Bj cx n k args m=some (v,m'))(φ : cV)(w:World)(args':Array Value)(hl:LR φ args args'.toList)(hr:RR P φ m w) :
  Calls P k args' w (fun e w'=>∃v' φ',e = .returned v'/\VR φ' v v'/\RR P φ' m' w'/\Stp φ m w φ' m' w'):=
 (Ag hcx (CZ hcx hov jt n) k args m v m' h).2 φ w args' hl hr
theorem oX.nil(P:Program):oX P (Cx.of P):=fun k f h=>by
 rw[show (Cx.of P).ov.get k=none from by cases k<;>rfl]at h;cases h
end Go.AX
