import Derived.Test.YthpnifigjfplbaaGreatQU11
import Derived.Laws.BytesString
namespace Go.AX
variable {P:Program} {cx:Cx} {φ : cV} {m:Mem} {w:World}
theorem jO{d:TypeDesc}{k k':Value}(h:iW d k=true)(hv:VR φ k k'):k'=k:=by
 cases hv<;>first|rfl|(cases d<;>simp[iW]at h)
theorem gX{b:Bool}{kt:TypeId}{d:TypeDesc}{k:Value}(hd:P.underlying kt=some d)(hk:iW d k=true):(Instr.checkKey b 10000 kt k).run P w = .ok () w:=by
 have gen:∀n,(Instr.checkKey b (n+1) kt k).run P w = .ok () w:=by
  intro n;simp only[Instr.checkKey,Sem.run_bind,run_underlying hd,Result.andThen_ok];cases d<;>cases k<;>simp only[iW,Bool.false_eq_true]at hk<;>rfl
 exact gen 9999
theorem ER.nil(φ : cV):ER φ [] []:=⟨rfl,fun i e e' h=>by simp at h⟩
theorem ER.uncons{e:MapEntry}{es es':List MapEntry}(h:ER φ (e::es) es'):∃e' r',es'=e'::r'/\(VR φ e.key e'.key/\VR φ e.val e'.val/\e.born=e'.born)/\ER φ es r':=by
 cases es' with
 | nil=>have:=h.1;simp at this
 | cons e' r'=>
  refine⟨e',r',rfl,h.2 0 e e' rfl rfl,by simpa using h.1,fun i a a' h1 h2=>h.2 (i+1) a a' (by simpa using h1) (by simpa using h2)⟩
def FR(φ : cV):Option (Nat×Value)->Option (Nat×Value)->Prop
 | none,none=>True
 | some (i,v),some (i',v')=>i=i'/\VR φ v v'
 | _,_=>False
theorem lR{d:TypeDesc}{k:Value}:∀(es es':List MapEntry) (i:Nat) (r:Option (Nat×Value)),ER φ es es'->gx d k es i=some r->∃r',Instr.findNow d k es' i=some r'/\FR φ r r'
 | [],es',i,r,he,h=>by
  simp only[gx,gQ7]at h;subst h;have:es'=[]:=List.length_eq_zero_iff.1 he.1.symm;subst this;exact⟨none,rfl,trivial⟩
 | e::es,es',i,r,he,h=>by
  obtain⟨e',r',rfl,⟨hk,hv,hb⟩,her⟩:=he.uncons;simp only[gx]at h;split at h
  .rename_i h1 h2;simp only[gQ7]at h;subst h;simp only[Bool.and_eq_true]at h1;have e1:=jO h1.2 hk;refine⟨some (i,e'.val),?_,rfl,hv⟩;have:Instr.sameNow d k e'.key=some true:=by
    rw[e1];obtain⟨h1a,h1b⟩:=h1;generalize e.key=ek at *;cases d<;>cases k<;>simp only[iW,Bool.false_eq_true]at h1a<;>cases ek<;>simp only[iW,Bool.false_eq_true]at h1b<;>simp only[zu]at h2<;>simp only[Instr.sameNow]
    .simpa using h2
    .split at h2
     .rename_i hkk;have hkk':_=_:=of_decide_eq_true hkk;subst hkk';rw[if_pos rfl];simpa using h2
     .cases h2
    .rw[pZ]at h2;rw[beq_toListBytes,ByteArray.toList_eq,ByteArray.toList_eq];exact h2
   simp[Instr.findNow,this]
  .rename_i h1 h2;simp only[Bool.and_eq_true]at h1;have e1:=jO h1.2 hk;obtain⟨r'',g1,g2⟩:=lR es r' (i+1) r her h;refine⟨r'',?_,g2⟩;have:Instr.sameNow d k e'.key=some false:=by
    rw[e1];obtain⟨h1a,h1b⟩:=h1;generalize e.key=ek at *;cases d<;>cases k<;>simp only[iW,Bool.false_eq_true]at h1a<;>cases ek<;>simp only[iW,Bool.false_eq_true]at h1b<;>simp only[zu]at h2<;>simp only[Instr.sameNow]
    .simpa using h2
    .split at h2
     .rename_i hkk;have hkk':_=_:=of_decide_eq_true hkk;subst hkk';rw[if_pos rfl];simpa using h2
     .cases h2
    .rw[pZ]at h2;rw[beq_toListBytes,ByteArray.toList_eq,ByteArray.toList_eq];exact h2
   simp[Instr.findNow,this,g1]
  .cases h
theorem rC(hcx:CxOk P cx){t:TypeId}{k:Value}{d:TypeDesc}{et:TypeId}(h:mapKey cx t k=some (d,et)) :
  ∃kt,P.underlying t=some (.map kt et)/\P.underlying kt=some d/\iW d k=true:=by
 unfold mapKey at h;split at h
 .rename_i kt et' hd;split at h
  .rename_i d' hd';split at h
   .rename_i hk;simp only[gQ7,Prod.mk.injEq]at h;obtain⟨rfl,rfl⟩:=h;exact⟨kt,hcx.un _ _ hd,hcx.un _ _ hd',hk⟩
   .cases h
  .cases h
 .cases h
theorem vW(h0:R0 P φ m w){r:Nat}{l:Loc}{es:List MapEntry}{clock:Nat}(hk:m.hp.get r=some (.map es clock))(hr:φ r=some l) :
  ∃es':Array MapEntry,w.heap[l.rb]? = some (.map es' clock)/\ER φ es es'.toList:=by
 obtain⟨l0,hl0,h⟩:=h0.obj _ _ hk;rw[hr]at hl0;cases hl0;exact h
theorem ju{kt:TypeId}{d:TypeDesc}{k:Value}{es:List MapEntry}{r:Option (Nat×Value)}(hd:P.underlying kt=some d)(h:Instr.findNow d k es 0=some r) :
  (Instr.findKey kt k es).run P w = .ok r w:=by
 simp[Instr.findKey,run_underlying hd,h]
theorem Bt{v v':Value}(ok b:Bool)(h:VR φ v v'):VR φ (okV ok v b) (if ok then .tuple #[v',.bool b] else v'):=by
 cases ok
 .exact h
 .exact .tuple _ _ rfl ((LR.nil φ).cons (.bool b) |>.cons h).2
theorem zU(hcx:CxOk P cx){t kt et:TypeId}{d:TypeDesc}{es:List MapEntry}{es':Array MapEntry}{x' k v:Value}{ok:Bool}(h:tu cx d et es k ok=some v)(he:ER φ es es'.toList)
  (hu:P.underlying t=some (.map kt et)) (hd:P.underlying kt=some d) (hkk:iW d k=true)
  (hx:(x' = .map none/\es' = #[])∨∃r clock,x' = .map (some r)/\w.heap[r]? = some (.map es' clock)) :
  ∃v',(Instr.lookup t x' k ok).run P w = .ok v' w/\VR φ v v':=by
 unfold tu at h;split at h
 .rename_i i u hf;obtain⟨r',g1,g2⟩:=lR _ _ _ _ he hf;cases r' with
  | none=>exact g2.elim
  | some p=>
   obtain⟨i',u'⟩:=p;obtain⟨rfl,hv⟩:=g2;simp only[gQ7]at h;subst h;refine⟨_,?_,Bt ok true hv⟩;rcases hx with⟨rfl,rfl⟩|⟨r,clock,rfl,hw⟩
   .simp[Instr.findNow]at g1
   .have hg:=run_getObj_map (P:=P) (w:=w) _ _ _ hw;simp[Instr.lookup,run_underlying hu,hg,gX hd hkk,ju hd g1]
 .rename_i hf;obtain⟨r',g1,g2⟩:=lR _ _ _ _ he hf;cases r' with
  | some p=>exact g2.elim
  | none=>
   split at h
   .rename_i z hz;simp only[gQ7]at h;subst h;obtain⟨hr,hp⟩:=gK hcx hz w;refine⟨_,?_,Bt ok false (VR.plain φ hp)⟩;rcases hx with⟨rfl,rfl⟩|⟨r,clock,rfl,hw⟩
    .have g1':Instr.findNow d k [] 0=some none:=by simpa using g1
     simp[Instr.lookup,run_underlying hu,gX hd hkk,ju hd g1',hr]
    .have hg:=run_getObj_map (P:=P) (w:=w) _ _ _ hw;simp[Instr.lookup,run_underlying hu,hg,gX hd hkk,ju hd g1,hr]
   .cases h
 .cases h
theorem Kh(hcx:CxOk P cx)(h0:R0 P φ m w){t:TypeId}{x k x' k' v:Value}{ok:Bool}(h:mw cx m t x k ok=some v)(hx:VR φ x x')(hk:VR φ k k') :
  ∃v',(Instr.lookup t x' k' ok).run P w = .ok v' w/\VR φ v v':=by
 unfold mw at h;split at h
 .rename_i d et hmk;obtain⟨kt,hu,hd,hkk⟩:=rC hcx hmk;have e:=jO hkk hk;subst e;split at h
  .cases hx;exact zU hcx (es':=#[]) h (ER.nil φ) hu hd hkk (.inl ⟨rfl,rfl⟩)
  .rename_i r;cases hx with
   | map _ l hr=>
    split at h
    .rename_i es clock hm;obtain⟨es',hw,he⟩:=vW h0 hm hr;exact zU hcx h he hu hd hkk (.inr ⟨_,_,rfl,hw⟩)
    .cases h
  .cases h
 .cases h
theorem IP{a:Addr}{l:List Value}(h:fk m a 0=some l):l=[]:=by
 unfold fk at h;split at h
 .cases h
 .split at h
  .split at h
   .simp only[iG,gQ7]at h;exact h.symm
   .cases h
  .split at h
   .simp only[iG,gQ7]at h;exact h.symm
   .cases h
  .cases h
theorem yw:∀(l:List Value) (bs:List UInt8),bytesOf l=some bs->∃ns:List Int,l=ns.map (Value.int .u8)/\bs=ns.map (fun n=>UInt8.ofNat n.toNat)
 | [],bs,h=>by
  simp only[bytesOf,gQ7]at h;subst h;exact⟨[],rfl,rfl⟩
 | x::r,bs,h=>by
  unfold bytesOf at h;split at h
  .cases ‹x::r=[]›
  .rename_i n q heq;cases heq;split at h
   .rename_i l hl;simp only[gQ7]at h;subst h;obtain⟨ns,h1,h2⟩:=yw r l hl;exact⟨n::ns,by simp[h1],by simp[h2]⟩
   .cases h
  .cases h
theorem DO:∀(ns:List Int) (acc:ByteArray),ns.foldl (fun r n=>r.push (UInt8.ofNat n.toNat)) acc=⟨(acc.data.toList++ns.map (fun n=>UInt8.ofNat n.toNat)).toArray⟩
 | [],acc=>by simp
 | n::ns,acc=>by
  rw[List.foldl_cons,DO ns];simp[ByteArray.push]
theorem Ki{ns:List Int}:∀{l':List Value},LR φ (ns.map (Value.int .u8)) l'->l'=ns.map (Value.int .u8):=by
 induction ns with
 | nil=>intro l' h;exact h.nil_iff
 | cons n ns ih=>
  intro l' h;obtain⟨x',r',rfl,hx,hr⟩:=LR.uncons h;cases hx;rw[ih hr];rfl
theorem IQ(hcx:CxOk P cx)(h0:R0 P φ m w){s d:TypeId}{x x' v:Value}(h:kK cx m s d x=some v)(hx:VR φ x x') :
  ∃v',(convert s d x').run P w = .ok v' w/\VR φ v v':=by
 unfold kK at h;split at h
 .rename_i us k k0 n hs hd;cases hx;simp only[gQ7,wN]at h;subst h;refine⟨_,?_,.int _ _⟩;simp[convert,run_underlying (hcx.un _ _ hs),run_underlying (hcx.un _ _ hd),Conv.intToInt]
 .rename_i us sv hs hd;cases hx;simp only[gQ7]at h;subst h;refine⟨_,?_,.string _⟩;simp[convert,run_underlying (hcx.un _ _ hs),run_underlying (hcx.un _ _ hd)]
 .rename_i e a len cap hs hd;split at h
  .rename_i a0 he;split at h
   .rename_i l hl;split at h
    .rename_i bs hbs;simp only[gQ7]at h;subst h;obtain⟨ns,rfl,rfl⟩:=yw _ _ hbs;have hfin:∀(a':Addr) (cap':Nat),VR φ (.pointer (some a0)) (.pointer (some a'))->∃v',(convert s d (.slice (some a') len cap')).run P w = .ok v' w/\VR φ (.string ⟨(ns.map (fun n=>UInt8.ofNat n.toNat)).toArray⟩) v':=by
      intro a' cap' hp;obtain⟨hs0,l',hlr,hlen,hc⟩:=yu h0 hl hp;have e:=Ki hlr;subst e;have hrun:=run_loadCells_list (P:=P) w a' _ hc;have hlen':(ns.map (Value.int .u8)).length=len:=hlen;rw[hlen']at hrun;refine⟨_,(run_convert_bytes_string w s d e a' len cap' (hcx.un _ _ hs) (hcx.un _ _ he) (hcx.un _ _ hd)).trans (run_bytesToString w a' len cap' ns hrun),?_⟩;rw[DO];exact .string _
     cases hx with
     | sl b off _ _ cap' lc hb hc=>exact hfin _ _ (.ptr _ _ _ hb)
     | slE a a'=>
      have:ns=[]:=by
       have:=(IP hl);simpa using this
      subst this;refine⟨.string ByteArray.empty,?_,.string _⟩;have hl0:(loadCells a' 0).run P w = .ok (([]:List Int).map (Value.int .u8)).toArray w:=by simp[loadCells,loadCellsFrom]
      exact(run_convert_bytes_string w s d e (some a') 0 0 (hcx.un _ _ hs) (hcx.un _ _ he) (hcx.un _ _ hd)).trans (run_bytesToString w a' 0 0 [] hl0)
    .cases h
   .cases h
  .rename_i he;cases hx;simp only[gQ7]at h;subst h;refine⟨_,?_,.string _⟩;simp[convert,run_underlying (hcx.un _ _ hs),run_underlying (hcx.un _ _ hd),run_underlying (hcx.un _ _ he),Conv.bytesToString]
  .cases h
 .cases h
theorem Kj(hcx:CxOk P cx){x x' v:Value}{xT t:TypeId}{ok:Bool}(h:zv cx x xT t ok=some v)(hx:VR φ x x') :
  ∃v',(Instr.typeAssert x' xT t ok).run P w = .ok v' w/\VR φ v v':=by
 have miss:∀{z:Value},fB cx t=some z->VR φ (.tuple #[z,.bool false]) (.tuple #[z,.bool false]):=by
  intro z hz;exact .tuple _ _ rfl ((LR.nil φ).cons (.bool false) |>.cons (VR.plain φ (gK hcx hz w).2)).2
 unfold zv at h;split at h
 .rename_i want tt vv hd;cases hx with
  | iface _ _ v' hv=>
   split at h
   .rename_i i hi;split at h
    .rename_i hm;have hm:=missingMethod_none hm;simp only[gQ7]at h;subst h;refine⟨_,?_,Bt ok true (.iface _ _ _ hv)⟩;simp[Instr.typeAssert,run_underlying (hcx.un _ _ hd),hY (hcx.ty _ _ hi),hm]
    .rename_i hm;obtain⟨mm,hm⟩:=missingMethod_some (want:=want) (got:=i.methods) (by rw[hm];simp);split at h
     .rename_i z hz;simp only[gQ7]at h;subst h;refine⟨_,?_,miss hz⟩;simp[Instr.typeAssert,run_underlying (hcx.un _ _ hd),hY (hcx.ty _ _ hi),hm,(gK hcx hz w).1]
     .cases h
   .cases h
 .rename_i want hd;cases hx;split at h
  .rename_i z hz;simp only[gQ7]at h;subst h;refine⟨_,?_,miss hz⟩;simp[Instr.typeAssert,run_underlying (hcx.un _ _ hd),(gK hcx hz w).1]
  .cases h
 .rename_i d hn hd;cases hx;split at h
  .rename_i z hz;simp only[gQ7]at h;subst h;refine⟨_,?_,miss hz⟩;cases d<;>first
    | exact(hn _ rfl).elim
    | simp[Instr.typeAssert,run_underlying (hcx.un _ _ hd),(gK hcx hz w).1]
  .cases h
 .rename_i d tt vv hn hd;cases hx with
  | iface _ _ v' hv=>
   split at h
   .rename_i e;have e':=Tr.beq_true.1 e;subst e';simp only[gQ7]at h;subst h;refine⟨_,?_,Bt ok true hv⟩;cases d<;>first
     | exact(hn _ _ _ rfl rfl).elim
     | exact(hn _ rfl).elim
     | simp[Instr.typeAssert,run_underlying (hcx.un _ _ hd)]
   .rename_i e;have e':=Tr.beq_false.1 e;split at h
    .rename_i z hz;simp only[gQ7]at h;subst h;refine⟨_,?_,miss hz⟩;cases d<;>first
      | exact(hn _ _ _ rfl rfl).elim
      | exact(hn _ rfl).elim
      | simp[Instr.typeAssert,run_underlying (hcx.un _ _ hd),e',(gK hcx hz w).1]
    .cases h
 .cases h
theorem Pr(hcx:CxOk P cx)(h0:R0 P φ m w){ts:Array TypeId}{args:List Value}{args':Array Value}{ty:TypeId}{v:Value}(h:qF cx m ts.toList args=some v)(ha:LR φ args args'.toList) :
  ∃v',(Builtin.len_ ts ty args').run P w = .ok v' w/\VR φ v v':=by
 unfold qF at h;split at h
 .rename_i t r x hts;obtain⟨x',r',e1,hx,hr⟩:=ha.uncons;have hr':=hr.nil_iff;subst hr';have ea:args' = #[x']:=Array.ext' (by simpa using e1);subst ea;have ht:ts[0]? = some t:=by rw[<-Array.getElem?_toList,hts];rfl
  split at h
  .rename_i s hd;cases hx;simp only[gQ7]at h;subst h;refine⟨.int .i64 (s.size:Int),?_,.int _ _⟩;simp[Builtin.len_,ht,run_underlying (hcx.un _ _ hd),goInt]
  .rename_i n e hd;simp only[gQ7]at h;subst h;refine⟨_,?_,.int _ _⟩;simp[Builtin.len_,ht,run_underlying (hcx.un _ _ hd),goInt]
  .rename_i e a n c hd;simp only[gQ7]at h;subst h;cases hx<;>exact⟨_,by simp[Builtin.len_,ht,run_underlying (hcx.un _ _ hd),goInt],.int _ _⟩
  .rename_i k e hd;cases hx;simp only[gQ7]at h;subst h;exact⟨_,by simp[Builtin.len_,ht,run_underlying (hcx.un _ _ hd),goInt],.int _ _⟩
  .rename_i k e r hd;cases hx with
   | map _ l hr=>
    split at h
    .rename_i es clock hm;simp only[gQ7]at h;subst h;obtain⟨es',hw,he⟩:=vW h0 hm hr;have hg:=run_getObj_map (P:=P) (w:=w) _ _ _ hw;refine⟨_,?_,.int _ _⟩;have hsz:es'.size=es.length:=by rw[he.1];simp
     simp[Builtin.len_,ht,run_underlying (hcx.un _ _ hd),goInt,hg,hsz]
    .cases h
  .cases h
 .cases h
theorem Ps(hcx:CxOk P cx)(h0:R0 P φ m w){ts:Array TypeId}{args:List Value}{args':Array Value}{ty:TypeId}{v:Value}(h:mF cx m ts.toList args=some v)(ha:LR φ args args'.toList) :
  ∃v',(Builtin.cap_ ts ty args').run P w = .ok v' w/\VR φ v v':=by
 unfold mF at h;split at h
 .rename_i t r x hts;obtain⟨x',r',e1,hx,hr⟩:=ha.uncons;have hr':=hr.nil_iff;subst hr';have ea:args' = #[x']:=Array.ext' (by simpa using e1);subst ea;have ht:ts[0]? = some t:=by rw[<-Array.getElem?_toList,hts];rfl
  split at h
  .rename_i n e hd;simp only[gQ7]at h;subst h;refine⟨_,?_,.int _ _⟩;simp[Builtin.cap_,ht,run_underlying (hcx.un _ _ hd),goInt]
  .rename_i e n c hd;cases hx;simp only[gQ7]at h;subst h;exact⟨_,by simp[Builtin.cap_,ht,run_underlying (hcx.un _ _ hd),goInt],.int _ _⟩
  .rename_i e a n c hd;split at h
   .rename_i cc nn ee hk;simp only[gQ7]at h;subst h;cases hx with
    | slE a a'=>exact⟨_,by simp[Builtin.cap_,ht,run_underlying (hcx.un _ _ hd),goInt],.int _ _⟩
    | sl b off _ _ cap' lc hb hc=>
     obtain⟨l0,hl0,c',hc',hn,hre,hsz,hcells,hx1,hx2⟩:=h0.obj _ _ hk;rw[hb]at hl0;cases hl0;have:cap'=c:=by
      rcases hc with rfl|⟨q,_⟩
      .rfl
      .have:=(hx1 rfl).1;omega
     subst this;exact⟨_,by simp[Builtin.cap_,ht,run_underlying (hcx.un _ _ hd),goInt],.int _ _⟩
   .cases h
  .cases h
 .cases h
theorem uI(big:Bool):∀(r:List Value) (x:Value) (r':List Value) (x' v:Value),rt big x r=some v->VR φ x x'->LR φ r r'->
  ∃v',(r'.foldlM (if big then Builtin.max2 else Builtin.min2) x').run P w = .ok v' w/\VR φ v v'
 | [],x,r',x',v,h,hx,hr=>by
  unfold rt at h;simp only[gQ7]at h;subst h;rw[hr.nil_iff];exact⟨x',by simp,hx⟩
 | y::r,x,r',x',v,h,hx,hr=>by
  obtain⟨y',q',rfl,hy,hq⟩:=hr.uncons;unfold rt at h;split at h
  .cases ‹y::r=[]›
  .rename_i k a k' b q e;cases e;cases hx;cases hy;split at h
   .obtain⟨v',h1,h2⟩:=uI true r _ q' _ v h (.int _ _) hq;refine⟨v',?_,h2⟩;simp only[if_true,List.foldlM_cons,Sem.run_bind,Builtin.max2,Sem.run_pure,Result.andThen_ok]at h1 ⊢;exact h1
   .obtain⟨v',h1,h2⟩:=uI false r _ q' _ v h (.int _ _) hq;refine⟨v',?_,h2⟩;simp only[Bool.false_eq_true,if_false,List.foldlM_cons,Sem.run_bind,Builtin.min2,Sem.run_pure,Result.andThen_ok]at h1 ⊢;exact h1
  .cases h
theorem Oh{op:UnOp}{x x' v:Value}(h:Fu op x=some v)(hx:VR φ x x'):(Op.unary op x').run P w = .ok v w/\VR φ v v:=by
 unfold Fu at h;split at h
 .cases hx;simp only[nM,gQ7,wN]at h;subst h;exact⟨by simp[Op.unary,Op.intArith],.int _ _⟩
 .cases hx;simp only[nM,gQ7]at h;subst h;exact⟨by simp[Op.unary,Op.intBits],.int _ _⟩
 .cases hx;simp only[gQ7]at h;subst h;exact⟨by simp[Op.unary],.bool _⟩
 .cases h
end Go.AX
namespace Go.AX
variable [Kap]
variable {P:Program} {cx:Cx} {φ : cV} {m:Mem} {w:World}
structure RR (P:Program) (φ : cV) (m:Mem) (w:World):Prop where
 r0:R0 P φ m w
 fresh:Fresh φ m.nx
 fl:m.fl<=m.nx
omit [Kap]in
theorem OR.mono{φ':cV}{w':World}{l:Loc}{o:AObj}(he:Ext φ φ')(hw:w'.heap[l.rb]? = w.heap[l.rb]?)(h:OR P φ w l o):OR P φ' w' l o:=by
 cases o with
 | cells c n e x=>
  obtain⟨c',h1,h2,h3,h4,h5,h6,h7⟩:=h;exact⟨c',hw.trans h1,h2,h3,h4,fun i hi=>let ⟨v',b,c⟩:=h5 i hi;⟨v',b,fun v hv=>(c v hv).mono he⟩,h6,h7⟩
 | map es clock=>
  obtain⟨es',h1,h2,h3⟩:=h;exact⟨es',hw.trans h1,h2,fun i e e' a b=>let ⟨x,y,z⟩:=h3 i e e' a b;⟨x.mono he,y.mono he,z⟩⟩
 | iter s p=>exact hw.trans h
 | ro c n=>
  obtain⟨c',e,fr,h1,h2,h3,h4,h5⟩:=h;exact⟨c',e,fr,hw.trans h1,h2,h3,h4,fun i v hi hv=>let ⟨v',a,b⟩:=h5 i v hi hv;⟨v',a,b.mono he⟩⟩
omit [Kap]in
theorem OR.lt{l:Loc}{o:AObj}(h:OR P φ w l o):l.rb<w.heap.size:=by
 cases o with
 | cells c n e x=>obtain⟨c',h1,_⟩:=h;exact(Array.getElem?_eq_some_iff.1 h1).1
 | map es clock=>obtain⟨c',h1,_⟩:=h;exact(Array.getElem?_eq_some_iff.1 h1).1
 | iter s p=>exact(Array.getElem?_eq_some_iff.1 h).1
 | ro c n=>obtain⟨c',e,fr,h1,_⟩:=h;exact(Array.getElem?_eq_some_iff.1 h1).1
def cV.put(φ : cV)(id:Nat)(l:Loc):cV:=fun b=>if b=id then some l else φ b
omit [Kap]in
theorem cV.put_ext{id:Nat}{l:Loc}(h:φ id=none):Ext φ (cV.put φ id l):=by
 intro b x hb;have:b≠id:=by rintro rfl;rw[h]at hb;cases hb
 simp[cV.put,this,hb]
omit [Kap]in
theorem cV.put_self{id:Nat}{l:Loc}:cV.put φ id l id=some l:=by simp[cV.put]
omit [Kap]in
theorem Pm(h0:R0 P φ m w){id:Nat}{l:Loc}{o:AObj}{ob:Obj}{n f:Nat}(hid:φ id=none)(hl:l.rb=w.heap.size)(ho:OR P (cV.put φ id l) (w.alloc ob) l o)
 :
  R0 P (cV.put φ id l) { hp:=m.hp.put id o,nx:=n,fl:=f } (w.alloc ob):=by
 have hext:=cV.put_ext (l:=l) hid;have hold:∀r,r<w.heap.size->(w.alloc ob).heap[r]? = w.heap[r]?:=by
  intro r hr;show (w.heap.push ob)[r]? = _;rw[Array.getElem?_push,if_neg (by omega)]
 refine⟨?_,?_,?_⟩
 .intro b o' hb;rw[Tr.get_put]at hb;by_cases e:b=id
  .subst e;rw[if_pos rfl]at hb;cases hb;exact⟨l,cV.put_self,ho⟩
  .rw[if_neg e]at hb;obtain⟨l',hl',ho'⟩:=h0.obj _ _ hb;exact⟨l',hext _ _ hl',ho'.mono hext (hold _ ho'.lt)⟩
 .intro b1 b2 o1 o2 l1 l2 h1 h2 p1 p2 hr;rw[Tr.get_put]at h1 h2;have key:∀b o' l',b≠id->m.hp.get b=some o'->cV.put φ id l b=some l'->φ b=some l'/\l'.rb<w.heap.size:=by
   intro b o' l' hb hg hp;have hp':φ b=some l':=by simpa [cV.put,hb]using hp
   obtain⟨l'',hl'',ho''⟩:=h0.obj _ _ hg;rw[hp']at hl'';cases hl'';exact⟨hp',ho''.lt⟩
  by_cases e1:b1=id
  .by_cases e2:b2=id
   .rw[e1,e2]
   .rw[if_neg e2]at h2;obtain⟨_,hlt⟩:=key b2 _ _ e2 h2 p2;subst e1;rw[cV.put_self]at p1;cases p1;omega
  .rw[if_neg e1]at h1;obtain⟨q1,hlt1⟩:=key b1 _ _ e1 h1 p1;by_cases e2:b2=id
   .subst e2;rw[cV.put_self]at p2;cases p2;omega
   .rw[if_neg e2]at h2;obtain⟨q2,hlt2⟩:=key b2 _ _ e2 h2 p2;exact h0.inj _ _ _ _ _ _ h1 h2 q1 q2 hr
 .intro g hg;obtain⟨l',h1,h2⟩:=h0.glob g hg;exact⟨l',hext _ _ h1,h2⟩
theorem Bu(h0:R0 P φ m w){id:Nat}{l:Loc}{o:AObj}{ob:Obj}{n f:Nat}(hid:φ id=none)(hl:l.rb=w.heap.size)(ho:OR P (cV.put φ id l) (w.alloc ob) l o)
  (hfl:f<=id) (hf:m.fl=f) (hn:m.nx<=n) (hge:m.nx<=id) :
  R0 P (cV.put φ id l) { hp:=m.hp.put id o,nx:=n,fl:=f } (w.alloc ob)/\Stp φ m w (cV.put φ id l) { hp:=m.hp.put id o,nx:=n,fl:=f } (w.alloc ob):=by
 have hext:=cV.put_ext (l:=l) hid;have hold:∀r,r<w.heap.size->(w.alloc ob).heap[r]? = w.heap[r]?:=by
  intro r hr;show (w.heap.push ob)[r]? = _;rw[Array.getElem?_push,if_neg (by omega)]
 refine⟨⟨?_,?_,?_⟩,⟨hext,?_,?_,by show w.heap.size<=(w.heap.push ob).size;simp,rfl,rfl,rfl,hn,hf.symm,?_,?_,?_,fun _=>gQ4 _⟩⟩
 .intro b o' hb;rw[Tr.get_put]at hb;by_cases e:b=id
  .subst e;rw[if_pos rfl]at hb;cases hb;exact⟨l,cV.put_self,ho⟩
  .rw[if_neg e]at hb;obtain⟨l',hl',ho'⟩:=h0.obj _ _ hb;exact⟨l',hext _ _ hl',ho'.mono hext (hold _ ho'.lt)⟩
 .intro b1 b2 o1 o2 l1 l2 h1 h2 p1 p2 hr;rw[Tr.get_put]at h1 h2;have key:∀b o' l',b≠id->m.hp.get b=some o'->cV.put φ id l b=some l'->φ b=some l'/\l'.rb<w.heap.size:=by
   intro b o' l' hb hg hp;have hp':φ b=some l':=by simpa [cV.put,hb]using hp
   obtain⟨l'',hl'',ho''⟩:=h0.obj _ _ hg;rw[hp']at hl'';cases hl'';exact⟨hp',ho''.lt⟩
  by_cases e1:b1=id
  .by_cases e2:b2=id
   .rw[e1,e2]
   .rw[if_neg e2]at h2;obtain⟨_,hlt⟩:=key b2 _ _ e2 h2 p2;subst e1;rw[cV.put_self]at p1;cases p1;omega
  .rw[if_neg e1]at h1;obtain⟨q1,hlt1⟩:=key b1 _ _ e1 h1 p1;by_cases e2:b2=id
   .subst e2;rw[cV.put_self]at p2;cases p2;omega
   .rw[if_neg e2]at h2;obtain⟨q2,hlt2⟩:=key b2 _ _ e2 h2 p2;exact h0.inj _ _ _ _ _ _ h1 h2 q1 q2 hr
 .intro g hg;obtain⟨l',h1,h2⟩:=h0.glob g hg;exact⟨l',hext _ _ h1,h2⟩
 .rintro r ⟨b,o',l',hfb,hb,hp,hr⟩;dsimp only at hb hfb;rw[Tr.get_put]at hb;by_cases e:b=id
  .subst e;rw[cV.put_self]at hp;cases hp;left;omega
  .rw[if_neg e]at hb;have hp':φ b=some l':=by simpa [cV.put,e]using hp
   exact .inr ⟨b,o',l',by omega,hb,hp',hr⟩
 .intro r hr _;exact hold r hr
 .intro b hb;rw[Tr.get_put,if_neg (by omega)]
 .intro b hb hnn;rw[Tr.get_put,if_neg (by omega)];exact hnn
 .intro b hb;simp only[cV.put];rw[if_neg (by omega)]
theorem FX(h0:R0 P φ m w){b:Nat}{l:Loc}{o0 o:AObj}{w':World}(hb:m.hp.get b=some o0)(hl:φ b=some l)(hfl:m.fl<=b)
  (hw:∀r,r≠l.rb->w'.heap[r]? = w.heap[r]?) (hs:w'.heap.size=w.heap.size) (h1:w'.os=w.os) (h2:w'.tape=w.tape) (h3:w'.output=w.output) (h4:w.drawn<=w'.drawn) (ho:OR P φ w' l o) :
  R0 P φ { m with hp:=m.hp.put b o } w'/\Stp φ m w φ { m with hp:=m.hp.put b o } w':=by
 refine⟨⟨?_,?_,h0.glob⟩,⟨fun _ _ h=>h,?_,?_,by omega,h1,h2,h3,gQ4 _,rfl,?_,?_,fun _ _=>rfl,fun _=>h4⟩⟩
 .intro b' o' hb';rw[Tr.get_put]at hb';by_cases e:b'=b
  .subst e;rw[if_pos rfl]at hb';cases hb';exact⟨l,hl,ho⟩
  .rw[if_neg e]at hb';obtain⟨l',hl',ho'⟩:=h0.obj _ _ hb';refine⟨l',hl',ho'.mono (fun _ _ h=>h) (hw _ ?_)⟩;exact fun e'=>e (h0.inj _ _ _ _ _ _ hb' hb hl' hl e')
 .intro b1 b2 o1 o2 l1 l2 g1 g2 p1 p2 hr;rw[Tr.get_put]at g1 g2;have key:∀b' o',(if b'=b then some o else m.hp.get b')=some o'->∃o'',m.hp.get b'=some o'':=by
   intro b' o' h;by_cases e:b'=b
   .subst e;exact⟨_,hb⟩
   .rw[if_neg e]at h;exact⟨_,h⟩
  obtain⟨_,k1⟩:=key _ _ g1;obtain⟨_,k2⟩:=key _ _ g2;exact h0.inj _ _ _ _ _ _ k1 k2 p1 p2 hr
 .rintro r ⟨b',o',l',hfb,hb',hp,hr⟩;dsimp only at hb' hfb;rw[Tr.get_put]at hb';by_cases e:b'=b
  .subst e;rw[hl]at hp;cases hp;exact .inr ⟨b',_,l,hfb,hb,hl,hr⟩
  .rw[if_neg e]at hb';exact .inr ⟨b',o',l',hfb,hb',hp,hr⟩
 .intro r hr hn;exact hw r (fun e=>hn ⟨b,_,l,hfl,hb,hl,e.symm⟩)
 .intro b' hb';rw[Tr.get_put,if_neg (by omega)]
 .intro b' _ hnn;rw[Tr.get_put,if_neg (fun e=>by subst e;rw[hb]at hnn;cases hnn)];exact hnn
omit [Kap]in
theorem pz{m':Mem}(h0:R0 P φ m w)(hs:∀b o,m'.hp.get b=some o->m.hp.get b=some o):R0 P φ m' w:=
 ⟨fun b o h=>h0.obj b o (hs b o h),fun b1 b2 o1 o2 l1 l2 a b=>h0.inj b1 b2 o1 o2 l1 l2 (hs _ _ a) (hs _ _ b),h0.glob⟩
theorem FY{m':Mem}(hs:∀b o,m'.hp.get b=some o->m.hp.get b=some o)(hn:m.nx<=m'.nx)(hf:m'.fl=m.fl)(hl:∀b,b<m.fl->m'.hp.get b=m.hp.get b):Stp φ m w φ m' w:=
 ⟨fun _ _ h=>h,fun _ ⟨b,o,l,h0,h1,h2,h3⟩=>.inr ⟨b,o,l,hf▸h0,hs _ _ h1,h2,h3⟩,fun _ _ _=>rfl,gQ4 _,rfl,rfl,rfl,hn,hf,hl,fun b _ hnn=>(by
  cases hb:m'.hp.get b with
  | none=>rfl
  | some o=>rw[hs _ _ hb]at hnn;cases hnn),fun _ _=>rfl,fun _=>gQ4 _⟩
omit [Kap]in
theorem gn:∀(l:List Value) (c:Tr Value) (i j:Nat),(ec c l i).get j=if i<=j/\j<i+l.length then l[j-i]? else c.get j
 | [],c,i,j=>by
  simp only[ec,List.length_nil,Nat.add_zero];rw[if_neg (by omega)]
 | v::r,c,i,j=>by
  simp only[ec];rw[gn r _ (i+1) j,Tr.get_put];by_cases h1:j=i
  .subst h1;rw[if_neg (by omega),if_pos rfl,if_pos (by simp)];simp
  .by_cases h2:i+1<=j/\j<i+1+r.length
   .rw[if_pos h2,if_pos (by simp only[List.length_cons];omega)];rw[show j-i=(j-(i+1))+1 by omega];simp
   .rw[if_neg h2,if_neg h1,if_neg (by simp only[List.length_cons];omega)]
theorem Bv(h0:R0 P φ m w){l:List Value}{c':Array Value}{e:TypeId}{loose:Bool}{s:Nat}{id n f:Nat}(hid:φ id=none)(hf:m.fl=f)(hfl:f<=id)(hn:m.nx<=n)(hge:m.nx<=id)
  (hle:l.length<=c'.size) (hc:∀(i:Nat) (v v':Value),l[i]? = some v->c'[i]? = some v'->VR φ v v')
  (h1:loose=false->s=0/\c'.size=l.length) (h2:loose=true->0<s/\∀i,P.info? e=some i->i.size=s) :
  ∃φ',φ'=cV.put φ id ⟨w.heap.size,0,l.length,c'.size,s⟩/\
   R0 P φ' { hp:=m.hp.put id (.cells (ec .nil l 0) l.length e loose),nx:=n,fl:=f } (w.alloc (.cells c' e))/\
   Stp φ m w φ' { hp:=m.hp.put id (.cells (ec .nil l 0) l.length e loose),nx:=n,fl:=f } (w.alloc (.cells c' e)):=by
 have hext:=cV.put_ext (l:=⟨w.heap.size,0,l.length,c'.size,s⟩) hid;refine⟨_,rfl,Bu h0 hid rfl ?_ hfl hf hn hge⟩;refine⟨c',?_,rfl,hle,by simp,?_,?_,h2⟩
 .show (w.heap.push _)[w.heap.size]? = _;rw[Array.getElem?_push,if_pos rfl]
 .intro i hi;have hi':i<c'.size:=by omega
  refine lP (v:=l[i]) (v':=c'[i]) ?_ ?_ ?_
  .rw[gn,if_pos (by simpa using hi)];simp[hi]
  .simp[hi']
  .exact(hc i l[i] c'[i] (gQ2 hi) (Array.getElem?_eq_getElem hi')).mono hext
 .intro hlo;have:=h1 hlo;exact⟨this.1,this.2⟩
omit [Kap]in
theorem RR.fresh_id(h:RR P φ m w):φ m.nx=none:=h.fresh _ (gQ4 _)
omit [Kap]in
theorem nj{id:Nat}{l:Loc}(h:Fresh φ id):Fresh (cV.put φ id l) (id+1):=by
 intro b hb;simp only[cV.put];rw[if_neg (by omega)];exact h b (by omega)
omit [Kap]in
theorem mB(m:Mem)(l:List Value)(e:TypeId)(x:Bool):gd m l e x=(m.nx,{ hp:=m.hp.put m.nx (.cells (ec .nil l 0) l.length e x),nx:=m.nx+1,fl:=m.fl }):=rfl
omit [Kap]in
theorem Kk{id n re s:Nat}{r:Nat}:VR (cV.put φ id ⟨r,0,n,re,s⟩) (.pointer (some ⟨id,0,none⟩)) (.pointer (some ⟨r,0,none⟩)):=
 .ptr id 0 ⟨r,0,n,re,s⟩ cV.put_self
omit [Kap]in
theorem qb{id n re s len cap cap':Nat}{r:Nat}(h:CapR ⟨r,0,n,re,s⟩ 0 cap cap'):VR (cV.put φ id ⟨r,0,n,re,s⟩) (.slice (some ⟨id,0,none⟩) len cap) (.slice (some ⟨r,0,none⟩) len cap'):=
 .sl id 0 len cap cap' ⟨r,0,n,re,s⟩ cV.put_self h
omit [Kap]in
theorem oG(z:List Value):∀n,(ey z n).length=n*z.length
 | 0=>by simp[ey]
 | n+1=>by simp[ey,oG z n,Nat.add_mul,Nat.add_comm]
omit [Kap]in
theorem FZ(z:List Value):∀(n i:Nat),i<n*z.length->(ey z n)[i]? = z[i % z.length]?
 | 0,i,h=>by simp at h
 | n+1,i,h=>by
  simp only[ey];by_cases hi:i<z.length
  .rw[List.getElem?_append_left hi,Nat.mod_eq_of_lt hi]
  .rw[List.getElem?_append_right (by omega),FZ z n (i-z.length) (by rw[Nat.add_mul]at h;omega)];congr 1;exact(Nat.mod_eq_sub_mod (by omega)).symm
omit [Kap]in
theorem LR.rep{l l':List Value}(h:LR φ l l'):∀n,LR φ (ey l n) (ey l' n)
 | 0=>LR.nil φ
 | n+1=>h.append (LR.rep h n)
omit [Kap]in
theorem yx(z:Array Value)(n s:Nat)(hs:z.size=s)(h0:0<s):((Array.range (n*s)).map (fun j=>z[j % z.size]!)).toList=ey z.toList n:=by
 apply List.ext_getElem?;intro i;by_cases hi:i<n*s
 .rw[FZ _ _ _ (by simpa [hs]using hi)];have hm:i % s<s:=Nat.mod_lt _ h0;have hm':i % z.size<z.size:=by rw[hs];exact hm
  simp only[Array.toList_map,Array.toList_range,List.getElem?_map,List.getElem?_range hi,Option.map_some];rw[gQ2 (by simpa using hm')];simp[hm']
 .rw[List.getElem?_eq_none (by simp;omega),List.getElem?_eq_none (by rw[oG];simp[hs];omega)]
omit [Kap]in
theorem Bw(f:Nat->Value):Array.map f (Array.range 0) = #[]:=by
 apply Array.ext';simp[Array.toList_map,Array.toList_range]
def pD(z:Value)(n s:Nat):Array Value:=if n*s=0 then #[] else (Array.range (n*s)).map (z.cells[· % z.cells.size]!)
omit [Kap]in
theorem yy{z:Value}{s:Nat}(c2:(bQ z).length=s)(c3:0<s)(n:Nat):(pD z n s).toList=ey (bQ z) n:=by
 unfold pD;by_cases hn0:n=0
 .subst hn0;simp[ey]
 .have hnz:¬n*s=0:=by
   intro q;rcases Nat.mul_eq_zero.1 q with q|q<;>omega
  rw[if_neg hnz,yx z.cells n s (by rw[<-c2,<-eK];simp) c3,eK]
omit [Kap]in
theorem F7{k:IntKind}{n:Int}{v:Value}(h:VR φ (.int k n) v):v = .int k n:=by cases h;rfl
omit [Kap]in
theorem AH(hcx:CxOk P cx)(hg:∀g,g<=P.globals.size->∃l,φ g=some l/\l.rb=g/\l.ro=0){st:St}{a:Act}(ht:TR φ st a):∀{xs:List (Nat×Operand)} {l:List (Nat×Value)},gT cx st xs=some l->PR φ l (xs.map fun(i,x)=>(i,a.eval x))
 | [],l,h=>by simp only[gT,gQ7]at h;subst h;trivial
 | (i,x)::r,l,h=>by
  simp only[gT]at h;split at h
  .rename_i v hv;split at h
   .rename_i l0 hl;simp only[gQ7]at h;subst h;exact⟨rfl,dD hcx hg ht hv,AH hcx hg ht hl⟩
   .cases h
  .cases h
omit [Kap]in
theorem wrap_small(n:Int)(h0:0<=n)(h:n<=1073741824):IntKind.i64.wrap n=n:=by
 apply yv;simp[zr,IntKind.min,IntKind.max,IntKind.bits,IntKind.signed];omega
omit [Kap]in
theorem FD(hcx:CxOk P cx)(hg:∀g,g<=P.globals.size->∃l,φ g=some l/\l.rb=g/\l.ro=0){call:dB}{st:St}{a:Act}(ht:TR φ st a){o:Oper}(hm:gC o.op=true){ov:Option Value}{m':Mem}
  (h:dh cx call st o=some (ov,m')) (hid:φ st.m.nx=none) :
  ∃v v' ob' ob l,ov=some v/\m' = { hp:=st.m.hp.put st.m.nx ob',nx:=st.m.nx+1,fl:=st.m.fl }/\l.rb=w.heap.size/\
   (execOp a.eval o).run P w = .ok (.value v') (w.alloc ob)/\VR (cV.put φ st.m.nx l) v v'/\OR P (cV.put φ st.m.nx l) (w.alloc ob) l ob':=by
 have cells:∀(l:List Value) (c':Array Value) (e:TypeId),LR φ l c'.toList->
   OR P (cV.put φ st.m.nx ⟨w.heap.size,0,l.length,l.length,0⟩) (w.alloc (.cells c' e)) ⟨w.heap.size,0,l.length,l.length,0⟩ (.cells (ec .nil l 0) l.length e false):=by
  intro l c' e hl;have hext:=cV.put_ext (l:=⟨w.heap.size,0,l.length,l.length,0⟩) hid;have hsz:c'.size=l.length:=by rw[hl.1];simp
  refine⟨c',?_,rfl,gQ4 _,by simp[hsz],?_,fun _=>⟨rfl,rfl⟩,fun q=>by cases q⟩
  .show (w.heap.push _)[w.heap.size]? = _;rw[Array.getElem?_push,if_pos rfl]
  .intro i hi;have hi':i<c'.size:=by omega
   refine lP (v:=l[i]) (v':=c'[i]) ?_ ?_ ?_
   .rw[gn,if_pos (by simpa using hi)];simp[hi]
   .simp[hi']
   .exact(hl.2 i l[i] c'[i] (gQ2 hi) (by simp[hi'])).mono hext
 cases hop:o.op<;>simp only[hop,gC,Bool.false_eq_true]at hm
 case alloc e=>
  simp only[dh,hop]at h;split at h
  .rename_i z hz;simp only[mB,gQ7,Prod.mk.injEq]at h;obtain⟨rfl,rfl⟩:=h;obtain⟨hr,hp⟩:=gK hcx hz w;have hl:LR φ (bQ z) z.cells.toList:=by rw[eK];exact(VR.plain φ hp).cells
   refine⟨_,.pointer (some ⟨w.heap.size,0,none⟩),_,.cells z.cells e,⟨w.heap.size,0,(bQ z).length,(bQ z).length,0⟩,rfl,rfl,rfl,?_,Kk,cells _ _ e hl⟩;simp[execOp,hop,Instr.alloc,hr,newVar,newRow]
  .cases h
 case box e x=>
  simp only[dh,hop]at h;split at h
  .rename_i y hy;simp only[mB,gQ7,Prod.mk.injEq]at h;obtain⟨rfl,rfl⟩:=h;have hv:=dD hcx hg ht hy;have hl:LR φ (bQ y) (a.eval x).cells.toList:=by rw[eK];exact hv.cells
   refine⟨_,.pointer (some ⟨w.heap.size,0,none⟩),_,.cells (a.eval x).cells e,⟨w.heap.size,0,(bQ y).length,(bQ y).length,0⟩,rfl,rfl,rfl,?_,Kk,cells _ _ e hl⟩;simp[execOp,hop,Instr.box,newVar,newRow]
  .cases h
 case buildSlice t n ps=>
  simp only[dh,hop]at h;split at h
  .rename_i l hl;have hpr:=AH hcx hg ht hl;cases hb:iJ cx st.m t n l with
   | none=>rw[hb]at h;cases h
   | some p=>
    rw[hb]at h;obtain⟨v,m1⟩:=p;simp only[gQ7,Prod.mk.injEq]at h;obtain⟨rfl,rfl⟩:=h;unfold iJ at hb;split at hb
    .rename_i e hd;have hu:=hcx.un _ _ hd;split at hb
     .rename_i s z hs hz;obtain⟨i,hi,rfl⟩:=gv hcx hs;obtain⟨hr,hp⟩:=gK hcx hz w;split at hb
      .rename_i hc;simp only[Bool.and_eq_true]at hc;obtain⟨⟨hc1,hc2⟩,hc3⟩:=hc;have c1:n*i.size<=16777216:=gQ6 hc1;have c2:(bQ z).length=i.size:=gR3 hc2;have c3:0<i.size:=gQ6 hc3;split at hb
       .rename_i r hf;simp only[mB,gQ7,Prod.mk.injEq]at hb;obtain⟨rfl,rfl⟩:=hb;have hzl:LR φ (bQ z) (bQ z):=(VR.plain φ hp).cells;have hzc:=yy c2 c3 n;obtain⟨r',hf',hlr⟩:=zy l _ (ey (bQ z) n) r (pD z n i.size) hf (by rw[hzc];exact hzl.rep n) hpr;refine⟨_,.slice (some ⟨w.heap.size,0,none⟩) n n,_,.cells r' e,⟨w.heap.size,0,r.length,r.length,0⟩,rfl,rfl,rfl,?_,qb (.inl rfl),cells _ _ e hlr⟩;have hfill:Instr.fill (fun i_1=>some (i_1*i.size,i.size)) (pD z n i.size) (ps.map fun(i,x)=>(i,a.eval x)).toList=some r':=by
         rw[<-hf'];simp
        simp only[execOp,hop,Instr.buildSlice,Sem.run_bind,run_underlying hu,Result.andThen_ok,eC hi];rw[if_neg (by omega)];unfold pD at hfill;by_cases hnz:n*i.size=0
        .rw[if_pos hnz]at hfill;rw[Array.toList_map]at hfill;have hf2:Instr.fill (fun i_1=>some (i_1*i.size,i.size)) #[] (List.map (fun x=>(x.fst,a.eval x.snd)) ps.toList)=some r':=hfill;simp[hnz,newRow,Bw,hf2]
        .rw[if_neg hnz]at hfill;rw[Array.toList_map]at hfill;have hf2:Instr.fill (fun i_1=>some (i_1*i.size,i.size)) ((Array.range (n*i.size)).map (z.cells[· % z.cells.size]!)) (List.map (fun x=>(x.fst,a.eval x.snd)) ps.toList)=some r':=hfill;simp[hnz,hr,newRow,hf2]
       .cases hb
      .cases hb
     .cases hb
    .cases hb
  .cases h
 case makeMap t r=>
  cases r with
  | some r=>simp at hm
  | none=>
   simp only[dh,hop,gQ7,Prod.mk.injEq]at h;obtain⟨rfl,rfl⟩:=h;refine⟨_,.map (some w.heap.size),_,.map #[] 0,⟨w.heap.size,0,0,0,0⟩,rfl,rfl,rfl,?_,?_,?_⟩
   .simp[execOp,hop,Instr.makeMap]
   .exact .map _ ⟨w.heap.size,0,0,0,0⟩ cV.put_self
   .refine⟨#[],?_,ER.nil _⟩;show (w.heap.push _)[w.heap.size]? = _;rw[Array.getElem?_push,if_pos rfl]
 case makeSlice t l c=>
  simp only[dh,hop]at h;split at h
  .rename_i vl vc hvl hvc;have hl:=dD hcx hg ht hvl;have hc:=dD hcx hg ht hvc;cases hb:jp cx st.m t vl vc with
   | none=>rw[hb]at h;cases h
   | some p=>
    rw[hb]at h;obtain⟨v,m1⟩:=p;simp only[gQ7,Prod.mk.injEq]at h;obtain⟨rfl,rfl⟩:=h;unfold jp at hb;split at hb
    .rename_i e k1 nl k2 nc hd;have hu:=hcx.un _ _ hd;split at hb
     .rename_i s z i hs hz hi0;have hi:=hcx.ty _ _ hi0;obtain⟨i',hi',rfl⟩:=gv hcx hs;rw[hi]at hi';cases hi';obtain⟨hr,hp⟩:=gK hcx hz w;split at hb
      .rename_i hcnd;simp only[Bool.and_eq_true,decide_eq_true_eq]at hcnd;obtain⟨⟨⟨⟨⟨b1,b2⟩,b3⟩,b4⟩,b5⟩,b6⟩:=hcnd;have c4:i.bytes*nc.toNat<=140737488355328:=gQ6 b4;have c2:(bQ z).length=i.size:=gR3 b5;have c3:0<i.size:=gQ6 b6;simp only[mB,gQ7,Prod.mk.injEq]at hb;obtain⟨rfl,rfl⟩:=hb;have hzl:LR φ (bQ z) (bQ z):=(VR.plain φ hp).cells;have hel:a.eval l = .int k1 nl:=F7 hl;have hec:a.eval c = .int k2 nc:=F7 hc;have hzc:=yy c2 c3 nc.toNat;have hlr:LR φ (ey (bQ z) nc.toNat) (pD z nc.toNat i.size).toList:=by rw[hzc];exact hzl.rep _
       refine⟨_,.slice (some ⟨w.heap.size,0,none⟩) nl.toNat nc.toNat,_,.cells (pD z nc.toNat i.size) e,⟨w.heap.size,0,(ey (bQ z) nc.toNat).length,(ey (bQ z) nc.toNat).length,0⟩,rfl,rfl,rfl,?_,qb (.inl rfl),cells _ _ e hlr⟩;have w1:=wrap_small nl b1 (by omega);have w2:=wrap_small nc (by omega) b3;have hbig:¬((i.bytes:Int)*nc>2 ^ 48):=by
        have e1:(nc.toNat:Int)=nc:=Int.toNat_of_nonneg (by omega);have e2:((i.bytes*nc.toNat:Nat):Int)=(i.bytes:Int)*nc:=by rw[Int.natCast_mul,e1]
        omega
       simp only[execOp,hop,Instr.makeSlice,hel,hec,asInt,asIntOf,Sem.run_bind,run_underlying hu,Result.andThen_ok,Sem.run_pure,hY hi,w1,w2];rw[if_neg (by simp;omega)];unfold pD;by_cases hnz:nc.toNat*i.size=0
       .simp[eC hi,hnz,newRow,Bw]
       .simp[eC hi,hnz,newRow,hr]
      .cases hb
     .cases hb
    .cases hb
  .cases h
end Go.AX
namespace Go.AX
variable [Kap]
variable {P:Program} {cx:Cx} {φ : cV} {m:Mem} {w:World}
theorem rD(h0:R0 P φ m w){a a':Addr}{l l':List Value}{m':Mem}(h:iQ m a l=some m')(ha:VR φ (.pointer (some a)) (.pointer (some a')))(hl:LR φ l l') :
  ∃w',(storeCells a' l').run P w = .ok () w'/\R0 P φ m' w'/\Stp φ m w φ m' w'/\m'.nx=m.nx:=by
 cases ha with
 | ptr b off lc hb=>
  unfold iQ at h;split at h
  .cases ‹_›
  .split at h
   .rename_i c k e x hk;split at h
    .rename_i hc;simp only[gQ7]at h;subst h;simp only[Bool.and_eq_true]at hc;obtain⟨⟨hc1,hc2⟩,hc3⟩:=hc;have c1:off+l.length<=k:=gQ6 hc1;have c2:m.fl<=b:=gQ6 hc2;obtain⟨l0,hl0,c',hc',hn,hre,hsz,hcells,hx1,hx2⟩:=h0.obj _ _ hk;rw[hb]at hl0;cases hl0;have hrun:=run_storeCells_at P lc.rb (lc.ro+off) e l' 0 c' w hc' (by rw[<-hl.1];omega) (hl.one1 hc3);generalize hnew:(c'.toList.take (lc.ro+off+0)++l'++c'.toList.drop (lc.ro+off+0+l'.length)).toArray=cn at hrun;have hcnl:cn.toList=splice c'.toList (lc.ro+off) l':=by rw[<-hnew];simp[AX.splice]
     have hcsz:cn.size=c'.size:=by
      have:=sg (a:=c'.toList) (b:=l') (off:=lc.ro+off) (by rw[<-hl.1];simp;omega);rw[<-hcnl]at this;simpa using this
     have hup:=FX (P:=P) h0 (o:=.cells (ec c l off) k e x) (w':=w.setRow lc.rb cn) hk hb c2 (fun r hr=>setRow_other w lc.rb r cn hr) (by simp) rfl rfl rfl (gQ4 _) (by
      refine⟨cn,setRow_heap w lc.rb c' cn e (0,0) hc',hn,hre,by omega,?_,hx1,hx2⟩;intro i hi;obtain⟨v',g2,g3⟩:=hcells i hi;by_cases hin:off<=i/\i<off+l.length
      ·have h1:i-off<l.length:=by omega
       have h2:i-off<l'.length:=by rw[<-hl.1];exact h1
       refine lP (v:=l[i-off]) (v':=l'[i-off]) ?_ ?_ (hl.2 _ _ _ (gQ2 h1) (gQ2 h2))
       ·rw[gn,if_pos hin];simp[h1]
       ·rw[<-Array.getElem?_toList,hcnl];unfold AX.splice;rw[List.append_assoc,List.getElem?_append_right (by simp;omega)];have e1:(List.take (lc.ro+off) c'.toList).length=lc.ro+off:=by simp;omega
        rw[e1,List.getElem?_append_left (by omega)];rw[show lc.ro+i-(lc.ro+off)=i-off by omega];exact gQ2 h2
      ·refine⟨v',?_,fun v hv=>g3 v (by rw[gn,if_neg hin]at hv;exact hv)⟩
       ·rw[<-Array.getElem?_toList,hcnl];unfold AX.splice;rw[<-Array.getElem?_toList]at g2;have e1:(List.take (lc.ro+off) c'.toList).length=lc.ro+off:=by simp;omega
        by_cases hlt:i<off
        ·rw[List.append_assoc,List.getElem?_append_left (by omega),List.getElem?_take,if_pos (by omega)];exact g2
        ·rw[List.getElem?_append_right (by simp;rw[<-hl.1];omega),List.getElem?_drop];rw[<-g2];congr 1;simp;rw[<-hl.1];omega)
     exact⟨_,hrun,hup.1,hup.2,rfl⟩
    .cases h
   .cases h
theorem Mm(hcx:CxOk P cx)(h0:R0 P φ m w){t:TypeId}{a:Addr}{x y y':Value}{m':Mem}(h:storeT cx m t a y=some m')(ha:VR φ (.pointer (some a)) x)(hy:VR φ y y') :
  ∃w',(Instr.storeAt t x y').run P w = .ok () w'/\R0 P φ m' w'/\Stp φ m w φ m' w'/\m'.nx=m.nx:=by
 obtain⟨a',rfl⟩:∃a',x = .pointer (some a'):=by cases ha;exact⟨_,rfl⟩
 unfold storeT at h;split at h
 .rename_i n hn;obtain⟨i,hi,rfl⟩:=gv hcx hn;split at h
  .rename_i hc;have c2:(bQ y).length=i.size:=gR3 hc;obtain⟨w',h1,h2⟩:=rD h0 h ha hy.cells;refine⟨w',?_,h2⟩;have hsz:y'.cells.size=i.size:=by rw[<-c2,hy.cells.1,<-eK];simp
   simp only[Instr.storeAt,Instr.sureAddr,storeVar,Sem.run_bind,Sem.run_pure,Result.andThen_ok,eC hi];rw[if_neg (by simp[hsz])];rw[<-eK]at h1;simpa using h1
  .cases h
 .cases h
theorem sV(h0:R0 P φ m w){r:Nat}{l:Loc}{es es1:List MapEntry}{clock clock1:Nat}{es' es1':Array MapEntry}{m':Mem}(h:mY m r (.map es1 clock1)=some m')(hm:m.hp.get r=some (.map es clock))(hr:φ r=some l)
  (hw:w.heap[l.rb]? = some (.map es' clock)) (he:ER φ es1 es1'.toList) :
  ∃w',(setObj l.rb (.map es1' clock1)).run P w = .ok () w'/\R0 P φ m' w'/\Stp φ m w φ m' w'/\m'.nx=m.nx:=by
 unfold mY at h;split at h
 .rename_i hf;simp only[gQ7]at h;subst h;have hlt:l.rb<w.heap.size:=(Array.getElem?_eq_some_iff.1 hw).1;have hup:=FX (P:=P) h0 (o:=.map es1 clock1) (w':={ w with heap:=w.heap.setIfInBounds l.rb (.map es1' clock1) }) hm hr (gQ6 hf)
   (fun r hr=>by simp[Ne.symm hr]) (by simp) rfl rfl rfl (gQ4 _) ⟨es1',by simp[hlt],he⟩
  refine⟨_,?_,hup.1,hup.2,rfl⟩;simp[setObj,Sem.run,hw]
 .cases h
omit [Kap]in
theorem ER.modify{es es':List MapEntry}(h:ER φ es es')(i:Nat){f f':MapEntry->MapEntry}
  (hf:∀e e',VR φ e.key e'.key->VR φ e.val e'.val->e.born=e'.born->VR φ (f e).key (f' e').key/\VR φ (f e).val (f' e').val/\(f e).born=(f' e').born):ER φ (es.modify i f) (es'.modify i f'):=by
 refine⟨by simp[h.1],fun j e e' h1 h2=>?_⟩;rw[List.getElem?_modify]at h1 h2;cases ha:es[j]? with
 | none=>simp[ha]at h1
 | some a=>
  cases hb:es'[j]? with
  | none=>simp[hb]at h2
  | some b=>
   obtain⟨k1,k2,k3⟩:=h.2 j a b ha hb;simp only[ha,hb,Option.map_eq_map,Option.map_some,gQ7]at h1 h2;by_cases hij:i=j
   .simp only[hij,if_true]at h1 h2;subst h1;subst h2;exact hf _ _ k1 k2 k3
   .simp only[hij,if_false]at h1 h2;subst h1;subst h2;exact⟨k1,k2,k3⟩
omit [Kap]in
theorem ER.snoc{es es':List MapEntry}(h:ER φ es es'){e e':MapEntry}(he:VR φ e.key e'.key/\VR φ e.val e'.val/\e.born=e'.born):ER φ (es++[e]) (es'++[e']):=by
 refine⟨by simp[h.1],fun j a b h1 h2=>?_⟩;by_cases hj:j<es.length
 .rw[List.getElem?_append_left hj]at h1;rw[List.getElem?_append_left (by rw[<-h.1];exact hj)]at h2;exact h.2 j a b h1 h2
 .rw[List.getElem?_append_right (by omega)]at h1;rw[List.getElem?_append_right (by rw[<-h.1];omega)]at h2;rw[<-h.1]at h2;cases hd:j-es.length with
  | zero=>rw[hd]at h1 h2;simp at h1 h2;subst h1;subst h2;exact he
  | succ n=>rw[hd]at h1;simp at h1
omit [Kap]in
theorem ER.erase{es es':List MapEntry}(h:ER φ es es')(i:Nat):ER φ (es.eraseIdx i) (es'.eraseIdx i):=by
 refine⟨by simp[List.length_eraseIdx,h.1],fun j a b h1 h2=>?_⟩;rw[List.getElem?_eraseIdx]at h1 h2;split at h1
 .rw[if_pos ‹_›]at h2;exact h.2 _ a b h1 h2
 .rw[if_neg ‹_›]at h2;exact h.2 _ a b h1 h2
omit [Kap]in
theorem vq{d:TypeDesc}{k:Value}:∀(es:List MapEntry) (i j:Nat) (v:Value),Instr.findNow d k es i=some (some (j,v))->i<=j/\∃e,es[j-i]? = some e/\Instr.sameNow d k e.key=some true/\e.val=v
 | [],i,j,v,h=>by simp[Instr.findNow]at h
 | e::es,i,j,v,h=>by
  unfold Instr.findNow at h;split at h
  .rename_i hs;simp only[gQ7,Prod.mk.injEq]at h;obtain⟨rfl,rfl⟩:=h;exact⟨gQ4 _,e,by simp,hs,rfl⟩
  .obtain⟨h1,e',h2,h3⟩:=vq es (i+1) j v h;refine⟨by omega,e',?_,h3⟩;rw[show j-i=(j-(i+1))+1 by omega];simpa using h2
  .cases h
omit [Kap]in
theorem yz{d:TypeDesc}{a b:Value}(h:Instr.sameNow d a b=some true):Instr.sameBits 10000 b a=true:=by
 unfold Instr.sameNow at h;split at h
 .split at h
  .rename_i hk;subst hk;have e:=eq_of_beq (Option.some.inj h);subst e;simp[Instr.sameBits]
  .cases h
 .have e:=Option.some.inj h;rw[beq_toListBytes]at e;have e':=eq_of_beq e;unfold Instr.sameBits;rw[beq_toListBytes,e'];simp
 .have e:=eq_of_beq (Option.some.inj h);subst e;simp[Instr.sameBits]
 .cases h
omit [Kap]in
theorem zV{old new:Value}(h:Instr.sameBits 10000 old new=true):(Instr.keyThatStays old new).run P w = .ok new w:=by
 simp[Instr.keyThatStays,h]
theorem yA(hcx:CxOk P cx)(h0:R0 P φ m w){t:TypeId}{x k v x' k' v':Value}{m':Mem}(h:fN cx m t x k v=some m')(hx:VR φ x x')(hk:VR φ k k')(hv:VR φ v v') :
  ∃w',(Instr.mapUpdate t x' k' v').run P w = .ok () w'/\R0 P φ m' w'/\Stp φ m w φ m' w'/\m'.nx=m.nx:=by
 unfold fN at h;split at h
 .rename_i d et r hmk;obtain⟨kt,hu,hd,hkk⟩:=rC hcx hmk;have e:=jO hkk hk;subst e;cases hx with
  | map _ l hr=>
   split at h
   .rename_i es clock hm;obtain⟨es',hw,he⟩:=vW h0 hm hr;have hg:=run_getObj_map (P:=P) (w:=w) _ _ _ hw;split at h
    .rename_i i u hf;obtain⟨r',g1,g2⟩:=lR _ _ _ _ he hf;cases r' with
     | none=>exact g2.elim
     | some p=>
      obtain⟨i',u'⟩:=p;obtain⟨rfl,hu'⟩:=g2;obtain⟨_,e',q1,q2,q3⟩:=vq _ _ _ _ g1;rw[Nat.sub_zero]at q1;have hes:(es'[i]?).map (·.key)=some e'.key:=by rw[<-Array.getElem?_toList,q1];rfl
      obtain⟨w',s1,s2⟩:=sV h0 (es1':=es'.modify i fun e=>{ e with key:=k',val:=v' }) h hm hr hw (by
       rw[Array.toList_modify];exact he.modify i (fun a b ha hb hc=>⟨hk,hv,hc⟩))
      refine⟨w',?_,s2⟩;simp[Instr.mapUpdate,run_underlying hu,hg,gX hd hkk,ju hd g1,hes,zV (yz q2),s1]
    .rename_i hf;obtain⟨r',g1,g2⟩:=lR _ _ _ _ he hf;cases r' with
     | some p=>exact g2.elim
     | none=>
      obtain⟨w',s1,s2⟩:=sV h0 (es1':=es'.push { key:=k',val:=v',born:=clock }) h hm hr hw (by
       rw[Array.toList_push];exact he.snoc ⟨hk,hv,rfl⟩)
      refine⟨w',?_,s2⟩;simp[Instr.mapUpdate,run_underlying hu,hg,gX hd hkk,ju hd g1,s1]
    .cases h
   .cases h
 .cases h
theorem Hr(hcx:CxOk P cx)(h0:R0 P φ m w){t:TypeId}{x k x' k' v:Value}{m':Mem}(h:kl cx m t x k=some (v,m'))(hx:VR φ x x')(hk:VR φ k k') :
  ∃v' w',(Instr.mapEntry t x' k').run P w = .ok v' w'/\VR φ v v'/\R0 P φ m' w'/\Stp φ m w φ m' w'/\m'.nx=m.nx:=by
 unfold kl at h;split at h
 .rename_i d et r hmk;obtain⟨kt,hu,hd,hkk⟩:=rC hcx hmk;have e:=jO hkk hk;subst e;cases hx with
  | map _ l hr=>
   split at h
   .rename_i es clock hm;obtain⟨es',hw,he⟩:=vW h0 hm hr;have hg:=run_getObj_map (P:=P) (w:=w) _ _ _ hw;split at h
    .rename_i i u hf;obtain⟨r',g1,g2⟩:=lR _ _ _ _ he hf;cases r' with
     | none=>exact g2.elim
     | some p=>
      obtain⟨i',u'⟩:=p;obtain⟨rfl,hu'⟩:=g2;obtain⟨_,e',q1,q2,q3⟩:=vq _ _ _ _ g1;rw[Nat.sub_zero]at q1;have hbn:es'[i]? = some e':=by rw[<-Array.getElem?_toList,q1]
      have hlt:i<es.length:=by rw[he.1];exact(gQ1 q1).1
      have hbe:es[i].born=e'.born:=(he.2 i _ _ (gQ2 hlt) q1).2.2;split at h
      .rename_i m1 hs;simp only[gQ7,Prod.mk.injEq]at h;obtain⟨rfl,rfl⟩:=h;obtain⟨w',s1,s2⟩:=sV h0 (es1':=es'.modify i fun e=>{ e with key:=k' }) hs hm hr hw (by
        rw[Array.toList_modify];exact he.modify i (fun a b ha hb hc=>⟨hk,hb,hc⟩))
       refine⟨.tuple #[u',.int .i64 e'.born],w',?_,?_,s2⟩
       .simp[Instr.mapEntry,run_underlying hu,hg,gX hd hkk,ju hd g1,hbn,zV (yz q2),s1,goInt]
       .simp only[gQ2 hlt,hbe];exact .tuple _ _ rfl ((LR.nil φ).cons (.int _ _) |>.cons hu').2
      .cases h
    .rename_i hf;obtain⟨r',g1,g2⟩:=lR _ _ _ _ he hf;cases r' with
     | some p=>exact g2.elim
     | none=>
      split at h
      .rename_i z hz;obtain⟨hzr,hp⟩:=gK hcx hz w;split at h
       .rename_i m1 hs;simp only[gQ7,Prod.mk.injEq]at h;obtain⟨rfl,rfl⟩:=h;obtain⟨w',s1,s2⟩:=sV h0 (es1':=es'.push { key:=k',val:=z,born:=clock }) hs hm hr hw (by
         rw[Array.toList_push];exact he.snoc ⟨hk,VR.plain φ hp,rfl⟩)
        refine⟨.tuple #[z,.int .i64 clock],w',?_,?_,s2⟩
        .simp[Instr.mapEntry,run_underlying hu,hg,gX hd hkk,ju hd g1,hzr,s1,goInt]
        .exact .tuple _ _ rfl ((LR.nil φ).cons (.int _ _) |>.cons (VR.plain φ hp)).2
       .cases h
      .cases h
    .cases h
   .cases h
 .cases h
omit [Kap]in
theorem yB{born:Int}:∀(es es':List MapEntry),ER φ es es'->es'.findIdx? (fun e=>(e.born:Int) == born)=es.findIdx? (fun e=>decide ((e.born:Int)=born))
 | [],es',h=>by
  have:es'=[]:=List.length_eq_zero_iff.1 h.1.symm;subst this;rfl
 | e::es,es',h=>by
  obtain⟨e',r',rfl,⟨_,_,hb⟩,hr⟩:=h.uncons;simp only[List.findIdx?_cons,yB es r' hr,hb];by_cases q:(e'.born:Int)=born<;>simp[q]
theorem EV(h0:R0 P φ m w){t:TypeId}{x s v x' s' v':Value}{m':Mem}(h:iL m x s v=some m')(hx:VR φ x x')(hs:VR φ s s')(hv:VR φ v v') :
  ∃w',(Instr.entryStore t x' s' v').run P w = .ok () w'/\R0 P φ m' w'/\Stp φ m w φ m' w'/\m'.nx=m.nx:=by
 unfold iL at h;split at h
 .rename_i r k born;have:=F7 hs;subst this;cases hx with
  | map _ l hr=>
   split at h
   .rename_i es clock hm;obtain⟨es',hw,he⟩:=vW h0 hm hr;have hg:=run_getObj_map (P:=P) (w:=w) _ _ _ hw;split at h
    .rename_i i hi;obtain⟨w',s1,s2⟩:=sV h0 (es1':=es'.modify i fun e=>{ e with val:=v' }) h hm hr hw (by
      rw[Array.toList_modify];exact he.modify i (fun a b ha hb hc=>⟨ha,hv,hc⟩))
     have hi':es'.findIdx? (fun e=>(e.born:Int) == born)=some i:=by
      rw[<-hi,<-yB es es'.toList he];cases es';rw[List.findIdx?_toArray]
     refine⟨w',?_,s2⟩;simp[Instr.entryStore,hg,asInt,asIntOf,hi',s1]
    .cases h
   .cases h
 .cases h
theorem Kl(hcx:CxOk P cx)(h0:R0 P φ m w){ts:Array TypeId}{ty t:TypeId}{x k:Value}{args':Array Value}{m':Mem}(ht:ts[0]? = some t)(h:nO cx m t x k=some m')(ha:LR φ [x,k] args'.toList) :
  ∃w',(Builtin.delete_ ts ty args').run P w = .ok (.tuple #[]) w'/\R0 P φ m' w'/\Stp φ m w φ m' w'/\m'.nx=m.nx:=by
 obtain⟨x',r1,e1,hx,hr1⟩:=ha.uncons;obtain⟨k',r2,e2,hk,hr2⟩:=hr1.uncons;have:=hr2.nil_iff;subst this;subst e2;have ea:args' = #[x',k']:=Array.ext' (by simpa using e1);subst ea;unfold nO at h;split at h
 .rename_i p hmk;obtain⟨d,et⟩:=p;obtain⟨kt,hu,hd,hkk⟩:=rC hcx hmk;have e:=jO hkk hk;subst e;cases hx;simp only[gQ7]at h;subst h;refine⟨w,?_,h0,Stp.refl _ _ _,rfl⟩;simp[Builtin.delete_,ht,run_underlying hu,gX hd hkk]
 .rename_i d et r hmk;obtain⟨kt,hu,hd,hkk⟩:=rC hcx hmk;have e:=jO hkk hk;subst e;cases hx with
  | map _ l hr=>
   split at h
   .rename_i es clock hm;obtain⟨es',hw,he⟩:=vW h0 hm hr;have hg:=run_getObj_map (P:=P) (w:=w) _ _ _ hw;split at h
    .rename_i i u hf;obtain⟨r',g1,g2⟩:=lR _ _ _ _ he hf;cases r' with
     | none=>exact g2.elim
     | some p=>
      obtain⟨i',u'⟩:=p;obtain⟨rfl,hu'⟩:=g2;obtain⟨w',s1,s2⟩:=sV h0 (es1':=es'.eraseIdxIfInBounds i) h hm hr hw (by
       rw[Array.toList_eraseIdxIfInBounds];exact he.erase i)
      refine⟨w',?_,s2⟩;simp[Builtin.delete_,ht,run_underlying hu,hg,gX hd hkk,ju hd g1,s1]
    .rename_i hf;obtain⟨r',g1,g2⟩:=lR _ _ _ _ he hf;cases r' with
     | some p=>exact g2.elim
     | none=>
      simp only[gQ7]at h;subst h;refine⟨{ w with heap:=w.heap.setIfInBounds l.rb (.map es' clock) },?_,?_,?_,rfl⟩
      .simp[Builtin.delete_,ht,run_underlying hu,hg,gX hd hkk,ju hd g1,setObj,Sem.run,hw]
      .have hlt:l.rb<w.heap.size:=(Array.getElem?_eq_some_iff.1 hw).1;have hsame:w.heap.setIfInBounds l.rb (.map es' clock)=w.heap:=by
        apply Array.ext_getElem?;intro i;rw[Array.getElem?_setIfInBounds];split
        .rename_i q;subst q;first|exact hw.symm|(rw[if_pos hlt];exact hw.symm)
        .rfl
       rw[hsame];exact h0
      .have hlt:l.rb<w.heap.size:=(Array.getElem?_eq_some_iff.1 hw).1;have hsame:w.heap.setIfInBounds l.rb (.map es' clock)=w.heap:=by
        apply Array.ext_getElem?;intro i;rw[Array.getElem?_setIfInBounds];split
        .rename_i q;subst q;first|exact hw.symm|(rw[if_pos hlt];exact hw.symm)
        .rfl
       rw[hsame];exact Stp.refl _ _ _
    .cases h
   .cases h
 .cases h
end Go.AX
namespace Go.AX
variable [Kap]
variable {P:Program} {cx:Cx} {φ : cV} {m:Mem} {w:World}
omit [Kap]in
theorem HW(need:Nat):∀(k c:Nat),c<=2*need+192->Builtin.growBy need k c<=2*need+192
 | 0,c,h=>h
 | k+1,c,h=>by
  simp only[Builtin.growBy];split
  .exact h
  .exact HW need k _ (by omega)
omit [Kap]in
theorem HX{need c:Nat}(h:c<need):Builtin.nextslicecap need c<=2*need+192:=by
 unfold Builtin.nextslicecap;split
 .omega
 .split
  .omega
  .exact HW _ _ _ (by omega)
omit [Kap]in
theorem HY{x x':Value}{n:Nat}(h:mE x=some n)(hx:VR φ x x'):(Builtin.lenOf x').run P w = .ok n w:=by
 cases hx<;>simp only[mE,gQ7,reduceCtorEq]at h<;>subst h<;>simp[Builtin.lenOf]<;>rfl
omit [Kap]in
theorem rE(h0:R0 P φ m w){s n k:Nat}{x x':Value}{l:List Value}(h:dA m s n x=some l)(hx:VR φ x x')(hk:mE x=some k)(hn:n<=k) :
  ∃l',(Builtin.firstCells s n x').run P w = .ok l'.toArray w/\LR φ l l':=by
 cases hx with
 | sl b off len cap cap' lc hb hc=>
  simp only[dA]at h;split at h
  .cases h;exact⟨[],by simp[Builtin.firstCells,loadCells,loadCellsFrom],LR.nil φ⟩
  .obtain⟨_,l',hlr,hlen,hcl⟩:=yu h0 h (.ptr b off lc hb);have hrun:=run_loadCells_list (P:=P) w _ l' hcl;refine⟨l',?_,hlr⟩;simp only[Builtin.firstCells];rw[<-hlen,hlr.1];simpa using hrun
 | slE a a'=>
  simp only[mE,gQ7]at hk;obtain rfl:n=0:=by omega
  simp only[dA,gQ7]at h;subst h;exact⟨[],by simp[Builtin.firstCells,loadCells,loadCellsFrom],LR.nil φ⟩
 | sl0 len cap=>
  simp only[dA,gQ7]at h;subst h;exact⟨[],by simp[Builtin.firstCells],LR.nil φ⟩
 | string z=>
  simp only[dA,gQ7]at h;subst h;refine⟨(z.data.toList.take n).map fun b=>.int .u8 b.toNat,?_,?_⟩
  .simp only[Builtin.firstCells,Sem.run_pure];congr 1;apply Array.ext';have:z.extract 0 n=⟨((z.data.toList.drop 0).take (n-0)).toArray⟩:=by rw[<-ByteArray.extract_mk]
   rw[this];simp
  .refine⟨rfl,fun i v v' h1 h2=>?_⟩;rw[h1]at h2;cases h2;simp only[List.getElem?_map,Option.map_eq_some_iff]at h1;obtain⟨b,_,rfl⟩:=h1;exact .int _ _
 | _=>simp[dA]at h
theorem Oi(hcx:CxOk P cx)(h0:R0 P φ m w){ts:Array TypeId}{ty:TypeId}{args:List Value}{args':Array Value}{v:Value}{m':Mem}(h:iK cx m ts.toList args=some (v,m'))(ha:LR φ args args'.toList) :
  ∃v' w',(Builtin.copy_ ts ty args').run P w = .ok v' w'/\VR φ v v'/\R0 P φ m' w'/\Stp φ m w φ m' w'/\m'.nx=m.nx:=by
 unfold iK at h;split at h
 .rename_i t r base dl cap src hts;obtain⟨d',r1,e1,hd0,hr1⟩:=ha.uncons;obtain⟨s',r2,e2,hs0,hr2⟩:=hr1.uncons;have:=hr2.nil_iff;subst this;subst e2;have ea:args' = #[d',s']:=Array.ext' (by simpa using e1);subst ea;have ht:ts[0]? = some t:=by rw[<-Array.getElem?_toList,hts];rfl
  split at h
  .rename_i e hd;have hu:=hcx.un _ _ hd;split at h
   .rename_i s n hs hn;obtain⟨i,hi,rfl⟩:=gv hcx hs;have hlen:=HY (P:=P) (w:=w) hn hs0;split at h
    .rename_i l hl;obtain⟨l',hf,hlr⟩:=rE h0 hl hs0 hn (Nat.min_le_left _ _);have hmin:Nat.min n dl=min n dl:=rfl;have done:∀(b':Option Addr) (c':Nat) (w1:World),(match b' with|some a=>storeCells a l'|none=>pure ()).run P w = .ok () w1->
       (Builtin.copy_ ts ty #[.slice b' dl c',s']).run P w = .ok (.int .i64 (min n dl:Nat)) w1:=by
      intro b' c' w1 hst;cases b' with
      | none=>
       have hst':w1=w:=by simpa using hst.symm
       subst hst';simp[Builtin.copy_,ht,run_underlying hu,hlen,hmin,hf,eC hi,goInt]
      | some a=>
       have hst':(storeCells a l').run P w = .ok () w1:=hst;simp[Builtin.copy_,ht,run_underlying hu,hlen,hmin,hf,eC hi,hst',goInt]
     split at h
     .rename_i a;split at h
      ·
       simp only[gQ7,Prod.mk.injEq]at h;obtain⟨rfl,rfl⟩:=h;have:=hlr.nil_iff;subst this;cases hd0 with
       | sl b off _ _ cap' lc hb hc=>exact⟨_,w,done _ _ w (by simp[storeCells]),.int _ _,h0,Stp.refl _ _ _,rfl⟩
       | slE a a'=>exact⟨_,w,done _ _ w (by simp[storeCells]),.int _ _,h0,Stp.refl _ _ _,rfl⟩
      .rename_i hne;split at h
       .rename_i m1 hst;simp only[gQ7,Prod.mk.injEq]at h;obtain⟨rfl,rfl⟩:=h;cases hd0 with
        | sl b off _ _ cap' lc hb hc=>
         obtain⟨w1,g1,g2,g3,g4⟩:=rD h0 hst (.ptr b off lc hb) hlr;exact⟨_,w1,done _ _ w1 g1,.int _ _,g2,g3,g4⟩
        | slE a a'=>
         exfalso;rw[show min n 0=0 by omega]at hl;cases hs0 with
         | sl b off len cap cap' lc hb hc=>simp only[dA,gQ7]at hl;exact hne hl.symm
         | slE a a'=>simp only[dA,gQ7]at hl;exact hne hl.symm
         | sl0 len cap=>simp only[dA,gQ7]at hl;exact hne hl.symm
         | string z=>simp only[dA,gQ7,List.take_zero,List.map_nil]at hl;exact hne hl.symm
         | _=>simp[dA]at hl
       .cases h
     .simp only[gQ7,Prod.mk.injEq]at h;obtain⟨rfl,rfl⟩:=h;cases hd0;exact⟨_,w,done none _ w rfl,.int _ _,h0,Stp.refl _ _ _,rfl⟩
    .cases h
   .cases h
  .cases h
 .cases h
theorem Mn(hcx:CxOk P cx)(h0:R0 P φ m w){ts:Array TypeId}{ty:TypeId}{args:List Value}{args':Array Value}{v:Value}{m':Mem}(h:lm cx m ts.toList args=some (v,m'))(ha:LR φ args args'.toList) :
  ∃v' w',(Builtin.clear_ ts ty args').run P w = .ok v' w'/\VR φ v v'/\R0 P φ m' w'/\Stp φ m w φ m' w'/\m'.nx=m.nx:=by
 have tup:VR φ (.tuple #[]) (.tuple #[]):=.tuple _ _ rfl (LR.nil φ).2;unfold lm at h;split at h
 .rename_i t r a n cap hts;obtain⟨d',r1,e1,hd0,hr1⟩:=ha.uncons;have:=hr1.nil_iff;subst this;have ea:args' = #[d']:=Array.ext' (by simpa using e1);subst ea;have ht:ts[0]? = some t:=by rw[<-Array.getElem?_toList,hts];rfl
  split at h
  .rename_i e hd;have hu:=hcx.un _ _ hd;split at h
   .simp only[gQ7,Prod.mk.injEq]at h;obtain⟨rfl,rfl⟩:=h;cases hd0;exact⟨_,w,by simp[Builtin.clear_,ht,run_underlying hu],tup,h0,Stp.refl _ _ _,rfl⟩
   .simp only[gQ7,Prod.mk.injEq]at h;obtain⟨rfl,rfl⟩:=h;refine⟨.tuple #[],w,?_,tup,h0,Stp.refl _ _ _,rfl⟩;cases hd0<;>simp[Builtin.clear_,ht,run_underlying hu]
   .rename_i a n;split at h
    .rename_i z hz;obtain⟨hzr,_⟩:=gK hcx hz w;obtain⟨i,hi,hiz,hp⟩:=wR hcx hz;split at h
     .rename_i hpos;have hpos':0<(bQ z).length:=gQ6 hpos;split at h
      .rename_i m1 hst;simp only[gQ7,Prod.mk.injEq]at h;obtain⟨rfl,rfl⟩:=h;cases hd0 with
       | sl b off _ _ cap' lc hb hc=>
        have hzl:LR φ (bQ z) (bQ z):=(VR.plain φ hp).cells;obtain⟨w1,g1,g2,g3,g4⟩:=rD h0 hst (.ptr b off lc hb) (hzl.rep (n+1));refine⟨.tuple #[],w1,?_,tup,g2,g3,g4⟩;have hzs:(bQ z).length=z.cells.size:=by rw[<-eK];simp
        have hzc:(Builtin.zeroCells z.cells (n+1)).toList=ey (bQ z) (n+1):=by
         unfold Builtin.zeroCells;rw[yx z.cells (n+1) z.cells.size rfl (by omega),eK]
        simp[Builtin.clear_,ht,run_underlying hu,hzr,hzc,g1]
      .cases h
     .cases h
    .cases h
  .cases h
 .cases h
omit [Kap]in
theorem By{m m1:Mem}{base:Option Addr}{e s cap:Nat}(h:giveUp m base e s cap=some m1) :
  m1.nx=m.nx/\m1.fl=m.fl/\(∀b o,m1.hp.get b=some o->m.hp.get b=some o)/\(∀b,b<m.fl->m1.hp.get b=m.hp.get b):=by
 unfold giveUp at h;split at h
 .simp only[gQ7]at h;subst h;exact⟨rfl,rfl,fun _ _ h=>h,fun _ _=>rfl⟩
 .split at h
  .simp only[gQ7]at h;subst h;exact⟨rfl,rfl,fun _ _ h=>h,fun _ _=>rfl⟩
  split at h
  .split at h
   .simp only[gQ7]at h;subst h;exact⟨rfl,rfl,fun _ _ h=>h,fun _ _=>rfl⟩
   .split at h
    .split at h
     .split at h
      .rename_i hfl;have:=gQ6 hfl;simp only[gQ7]at h;subst h;refine⟨rfl,rfl,fun b o hb=>?_,fun b hb=>?_⟩
       .rw[Tr.get_del]at hb;split at hb
        .cases hb
        .exact hb
       .rw[Tr.get_del,if_neg (by omega)]
      .cases h
     .simp only[gQ7]at h;subst h;exact⟨rfl,rfl,fun _ _ h=>h,fun _ _=>rfl⟩
    .cases h
  .cases h
omit [Kap]in
theorem zW(h0:R0 P φ m w){m1:Mem}{b off e s cap cap':Nat}{l:Loc}{i:TypeInfo}(hi:P.info? e=some i)(his:i.size=s)(h:giveUp m (some ⟨b,off,none⟩) e s cap=some m1)(hb:φ b=some l)(hc:CapR l off cap cap') :
  cap'=cap∨(m1.hp.get b=none/\l.s=s/\0<s/\off+cap*s=l.n/\cap<=cap'/\off+cap'*s<=l.re/\m.fl<=b/\∃c':Array Value,w.heap[l.rb]? = some (.cells c' e (0,0))/\l.ro+l.re<=c'.size/\∃o,m.hp.get b=some o):=by
 rcases hc with rfl|⟨h1,h2,h3,h4⟩
 .exact .inl rfl
 .unfold giveUp at h;dsimp only at h;split at h
  .rename_i c n e' loose hk;obtain⟨l0,hl0,c',hc',hn,hre,hsz,hcells,hx1,hx2⟩:=h0.obj _ _ hk;rw[hb]at hl0;cases hl0;split at h
   .have:=(hx1 rfl).1;omega
   .split at h
    .rename_i he;have he':=gR3 he;subst he';have hls:l.s=s:=by rw[<-his];exact((hx2 rfl).2 i hi).symm
     rw[hls]at h1 h2 h4;split at h
     .split at h
      .rename_i hfl;simp only[gQ7]at h;subst h;right;refine⟨by rw[Tr.get_del,if_pos rfl],hls,h1,h2,h3,h4,gQ6 hfl,c',hc',hsz,_,hk⟩
      .cases h
     .rename_i hne;have:=Tr.beq_false.1 hne;omega
    .cases h
  .cases h
end Go.AX
