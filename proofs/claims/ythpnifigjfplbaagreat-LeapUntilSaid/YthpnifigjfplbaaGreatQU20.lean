import Derived.Test.YthpnifigjfplbaaGreatQU18
import Derived.Test.YthpnifigjfplbaaGreatQU05
import Derived.ChangeShapes
import Derived.Test.YthpnifigjfplbaaGreatQU08
set_option linter.unusedVariables false
set_option linter.unusedSectionVars false
namespace Go.AX
variable [Kap]
open Go Go.RowKit
def oM(N:Nat):Value->Bool
 | .bool _ | .int .. | .string _ | .pointer none | .slice none _ _ | .map none | .nilFunc | .nilIface=>true
 | .pointer (some a)=>a.spot.isNone&&Nat.blt a.block N
 | .slice (some _) 0 0=>true
 | .slice (some a) _ _=>a.spot.isNone&&Nat.blt a.block N
 | _=>false
def zo(N:Nat):Value->Bool
 | .iface _ (.agg c)=>c.toList.all (oM N)
 | .iface _ v=>oM N v
 | v=>oM N v
def Be(N:Nat):Value->Bool
 | .agg cs=>cs.toList.all (zo N)
 | v=>zo N v
noncomputable def pQ{α : Type}(f:Nat->Option α):Nat->Tr α
 | 0=>.nil
 | n+1=>match f n with
  | some x=>(pQ f n).put n x
  | none=>pQ f n
omit [Kap]in
theorem lK{α : Type}(f:Nat->Option α):∀n b,(pQ f n).get b=if b<n then f b else none
 | 0,b=>by rw[if_neg (Nat.not_lt_zero b)];exact nQ b
 | n+1,b=>by
  unfold pQ;split
  .rename_i x hx;rw[Tr.get_put,lK f n];by_cases h:b=n
   .subst h;rw[if_pos rfl,if_pos (Nat.lt_succ_self b),hx]
   .rw[if_neg h];by_cases h2:b<n
    .rw[if_pos h2,if_pos (by omega)]
    .rw[if_neg h2,if_neg (by omega)]
  .rename_i hx;rw[lK f n];by_cases h:b=n
   .subst h;rw[if_neg (Nat.lt_irrefl b),if_pos (Nat.lt_succ_self b),hx]
   .by_cases h2:b<n
    .rw[if_pos h2,if_pos (by omega)]
    .rw[if_neg h2,if_neg (by omega)]
def cellOf(N:Nat)(c:Array Value)(i:Nat):Option Value:=match c[i]? with
 | some v=>match zo N v with
  | true=>some v
  | false=>none
 | none=>none
noncomputable def wM(N:Nat)(w:World)(b:Nat):Option AObj:=match w.heap[b]? with
 | some (.cells c _ _)=>some (.ro (pQ (cellOf N c) c.size) c.size)
 | _=>none
def iP(P:Program)(w:World):Nat:=max w.heap.size (P.globals.size+1)
noncomputable def mW(P:Program)(w:World):Mem:=⟨pQ (wM (iP P w) w) w.heap.size,iP P w,iP P w⟩
def φW(P:Program)(w:World):cV:=fun b=>if b<iP P w then some ⟨b,0,szAt0 w b,szAt0 w b,0⟩ else none
where szAt0 (w:World) (b:Nat):Nat:=match w.heap[b]? with
 | some (.cells c _ _)=>c.size
 | _=>0
omit [Kap]in
theorem AI{P:Program}{w:World}{v:Value}(h:oM (iP P w) v=true):VR (φW P w) v v:=by
 cases v with
 | bool b=>exact .bool b
 | int k n=>exact .int k n
 | string s=>exact .string s
 | pointer a=>
  cases a with
  | none=>exact .ptr0
  | some a=>
   obtain⟨b,o,sp⟩:=a;cases sp with
   | some x=>simp[oM]at h
   | none=>
    have hb:b<iP P w:=by simpa [oM]using h
    have:=VR.ptr (φ:=φW P w) b o _ (if_pos hb);simpa using this
 | slice a n c=>
  cases a with
  | none=>exact .sl0 n c
  | some a=>
   by_cases hz:n=0/\c=0
   .obtain⟨rfl,rfl⟩:=hz;exact .slE a a
   .have h':(a.spot.isNone&&Nat.blt a.block (iP P w))=true:=by
     unfold oM at h;split at h
     all_goals first|(simp_all;done)|skip
     all_goals (rename_i e;cases e;first|exact(hz ⟨rfl,rfl⟩).elim|exact h)
    obtain⟨b,o,sp⟩:=a;cases sp with
    | some x=>simp at h'
    | none=>
     have hb:b<iP P w:=by simpa using h'
     have:=VR.sl (φ:=φW P w) b o n c c _ (if_pos hb) (.inl rfl);simpa using this
 | map r=>cases r with
  | none=>exact .map0
  | some a=>simp[oM]at h
 | nilFunc=>exact .nilFunc
 | nilIface=>exact .nilIface
 | _=>simp[oM]at h
omit [Kap]in
theorem AJ{P:Program}{w:World}{v:Value}(h:zo (iP P w) v=true):VR (φW P w) v v:=by
 cases v with
 | iface t v=>
  cases v with
  | agg cs=>
   refine .iface t _ _ (.agg cs cs rfl (fun i v v' h1 h2=>?_));rw[h1]at h2;cases h2;exact AI (List.all_eq_true.1 h v (gQ3 h1))
  | _=>exact .iface t _ _ (AI h)
 | _=>exact AI h
omit [Kap]in
theorem Mo{P:Program}{w:World}{v:Value}(h:Be (iP P w) v=true):VR (φW P w) v v:=by
 cases v with
 | agg cs=>
  refine .agg cs cs rfl (fun i v v' h1 h2=>?_);rw[h1]at h2;cases h2;exact AJ (List.all_eq_true.1 h v (gQ3 h1))
 | _=>exact AJ h
omit [Kap]in
theorem QH(P:Program)(w:World):RR P (φW P w) (mW P w) w:=by
 have hN:w.heap.size<=iP P w:=Nat.le_max_left _ _;have key:∀{b o},(mW P w).hp.get b=some o->∃c t fr,w.heap[b]? = some (.cells c t fr)/\o = .ro (pQ (cellOf (iP P w) c) c.size) c.size/\b<w.heap.size:=by
  intro b o h;have h':(pQ (wM (iP P w) w) w.heap.size).get b=some o:=h;rw[lK]at h';split at h'
  .rename_i hb;unfold wM at h';split at h'
   .rename_i c t fr hc;cases h';exact⟨c,t,fr,hc,rfl,hb⟩
   .cases h'
  .cases h'
 refine⟨⟨?_,?_,?_⟩,?_,gQ4 _⟩
 .intro b o h;obtain⟨c,t,fr,hc,rfl,hb⟩:=key h;refine⟨_,if_pos (by omega),c,t,fr,hc,by simp[φW.szAt0,hc],rfl,by simp,fun i v hi hv=>?_⟩;rw[lK,if_pos hi]at hv;unfold cellOf at hv;split at hv
  .rename_i x hx;split at hv
   .rename_i hg;cases hv;exact⟨v,by simpa using hx,AJ hg⟩
   .cases hv
  .cases hv
 .intro b1 b2 o1 o2 l1 l2 h1 h2 p1 p2 hr;unfold φW at p1 p2;split at p1
  .split at p2
   .cases p1;cases p2;exact hr
   .cases p2
  .cases p1
 .intro g hg;exact⟨_,if_pos (Nat.lt_of_lt_of_le (Nat.lt_succ_of_le hg) (Nat.le_max_right _ _)),rfl,rfl⟩
 .intro b hb;exact if_neg (by have:iP P w<=b:=hb;omega)
theorem Stp.belowW{P:Program}{φ':cV}{m':Mem}{w w':World}(h:Stp (φW P w) (mW P w) w φ' m' w'):Below w.heap.size w w':=
 ⟨h.os,h.tape,h.output,h.size,fun k hk=>h.same k hk (by
  rintro⟨b,o,l,h0,h1,_⟩;have h1':(pQ (wM (iP P w) w) w.heap.size).get b=some o:=h1;rw[lK]at h1';split at h1'
  ·rename_i hb;have:iP P w<=b:=h0;have:w.heap.size<=iP P w:=Nat.le_max_left _ _;omega
  ·cases h1')⟩
omit [Kap]in
theorem NL{P:Program}{w:World}{b o:Nat}{v:Value}(h:w.cell? ⟨b,o,none⟩=some v)(hg:zo (iP P w) v=true):rd (mW P w) b o=some v:=by
 unfold World.cell? at h;split at h
 .rename_i c t fr hc;have ho:c[o]? = some v:=by simpa using h
  have hb:b<w.heap.size:=(Array.getElem?_eq_some_iff.1 hc).1;have h1:(mW P w).hp.get b=some (.ro (pQ (cellOf (iP P w) c) c.size) c.size):=by
   show (pQ (wM (iP P w) w) w.heap.size).get b=_;have hc':w.heap[b]? = some (.cells c t fr):=hc;rw[lK,if_pos hb];unfold wM;rw[hc']
  have ho':o<c.size:=(Array.getElem?_eq_some_iff.1 ho).1;rw[zP (by rw[h1];rfl) ho',lK,if_pos ho'];unfold cellOf;rw[ho];simp only[hg]
 .cases h
omit [Kap]in
theorem HN{w:World}{b o:Nat}{v:Value}(h:w.cell? ⟨b,o,none⟩=some v):b<w.heap.size:=by
 unfold World.cell? at h;split at h
 .rename_i hc;exact(Array.getElem?_eq_some_iff.1 hc).1
 .cases h
def sF:List Value->Mem->Option (Value×Mem)
 | [],m=>some (.bool true,m)
 | _,_=>none
theorem Mp{P:Program}{cx:Cx}(hcx:CxOk P cx)(hov:oX P cx)(jt:P.follows .mixedOrders=true){n k:Nat}{fn:Func}(hf:P.funcs[k]? = some fn)(hb:fn.body.isSome=true)(hn:(fn.name == "runtime.NumGoroutine")=false)
  (h:isTrue (Bj cx n k [] (m0 P))=true):jZ P k sF:=by
 intro args m v m' ha φ w args' hl hr;obtain⟨bd,hb⟩:=Option.isSome_iff_exists.1 hb;unfold sF at ha;split at ha
 .cases ha;have he:args' = #[]:=by
   have:=hl.nil_iff;obtain⟨l'⟩:=args';simp only at this;rw[this]
  subst he;refine .inl ⟨qd hf hb hn _ _,?_⟩;refine(Ga hcx hov jt h w).mono ?_;rintro e w' ⟨⟨rfl,hg⟩,hd⟩;exact⟨_,φ,rfl,.bool true,
   ⟨⟨fun b o h=>by
    obtain⟨l,h1,h2⟩:=hr.r0.obj b o h;exact⟨l,h1,h2.mono (fun _ _ h=>h) (hg.block _ h2.lt)⟩,hr.r0.inj,hr.r0.glob⟩,hr.fresh,hr.fl⟩,
   ⟨fun _ _ h=>h,fun _ h=>.inr h,fun r hr _=>hg.block r hr,hg.size,hg.os,hg.tape,hg.output,gQ4 _,rfl,fun _ _=>rfl,fun _ _ h=>h,fun _ _=>rfl,hd⟩⟩
 .cases ha
theorem Pt{P:Program}{t:Tr (List Value->Mem->Option (Value×Mem))}{k:Nat}{f:List Value->Mem->Option (Value×Mem)}(h:∀j g,t.get j=some g->jZ P j g)(hk:jZ P k f):∀j g,(t.put k f).get j=some g->jZ P j g:=by
 intro j g hg;rw[Tr.get_put]at hg;split at hg
 .rename_i e;subst e;cases hg;exact hk
 .exact h j g hg
theorem Pu{P:Program}:∀j g,(Tr.nil:Tr (List Value->Mem->Option (Value×Mem))).get j=some g->jZ P j g:=by
 intro j g hg;rw[nQ]at hg;cases hg
def tz(P:Program):Nat->TypeId->Bool
 | 0,_=>false
 | d+1,t=>match P.underlying t with
  | some .bool=>true
  | some (.int _)=>true
  | some .string=>true
  | some (.slice e)=>Nat.blt 0 (P.cellsOf e)&&tz P d e
  | some (.struct fs)=>fs.toList.all fun f=>tz P d f.type
  | some (.array _ e)=>tz P d e
  | _=>false
section
variable {H:Type} {enc:TypeId×Value->H} {P:Program} {w w':World}
omit [Kap]in
theorem cell_below(hb:Below w.heap.size w w'){a:Addr}{v:Value}(h:w.cell? a=some v):w'.cell? a=some v:=by
 have hlt:a.block<w.heap.size:=by
  unfold World.cell? at h;split at h
  .rename_i hc;exact(Array.getElem?_eq_some_iff.1 hc).1
  .cases h
 unfold World.cell? at h ⊢;rw[hb.block _ hlt];exact h
omit [Kap]in
theorem wT{α β : Type}{f g:α->Option β}:∀{l:List α} {ys:List β},(∀x∈l,∀y,f x=some y->g x=some y)->l.mapM f=some ys->l.mapM g=some ys
 | [],ys,_,h=>by simpa using h
 | x::r,ys,hfg,h=>by
  rw[List.mapM_cons]at h ⊢;cases hx:f x with
  | none=>simp[hx]at h
  | some y=>
   cases hr:r.mapM f with
   | none=>simp[hx,hr]at h
   | some zs=>
    rw[hfg x (gQ9 ..) y hx,wT (fun z hz=>hfg z (gQ5 _ hz)) hr];simpa [hx,hr]using h
omit [Kap]in
theorem Hs(hb:Below w.heap.size w w'){base:Nat}{a:Addr}{n:Nat}{cs:List Value}(h:w.cells? base a n=some cs):w'.cells? base a n=some cs:=by
 unfold World.cells? at h ⊢;split at h
 .rename_i hle;rw[if_pos hle];exact wT (fun i _ y hy=>cell_below hb hy) h
 .cases h
omit [Kap]in
theorem mapM_length{α β : Type}{f:α->Option β}:∀{l:List α} {ys:List β},l.mapM f=some ys->ys.length=l.length
 | [],ys,h=>by simp at h;subst h;rfl
 | x::r,ys,h=>by
  rw[List.mapM_cons]at h;cases hx:f x with
  | none=>simp[hx]at h
  | some y=>
   cases hr:r.mapM f with
   | none=>simp[hx,hr]at h
   | some zs=>
    simp[hx,hr]at h;subst h;simp[mapM_length hr]
omit [Kap]in
theorem mapM_mem{α β : Type}{f:α->Option β}:∀{l:List α} {ys:List β},l.mapM f=some ys->∀x∈l,∃y∈ys,f x=some y
 | [],ys,_,x,hx=>by cases hx
 | z::r,ys,h,x,hx=>by
  rw[List.mapM_cons]at h;cases hz:f z with
  | none=>simp[hz]at h
  | some y=>
   cases hr:r.mapM f with
   | none=>simp[hz,hr]at h
   | some zs=>
    simp[hz,hr]at h;subst h;rcases List.mem_cons.1 hx with rfl|hx
    .exact⟨y,gQ9 ..,hz⟩
    .obtain⟨q,h1,h2⟩:=mapM_mem hr x hx;exact⟨q,gQ5 _ h1,h2⟩
omit [Kap]in
theorem uJ{α β : Type}{f g:α->Option (β×List MemPlace)}{l:List α}{ys:List (β×List MemPlace)}{sp:Nat->Bool}(h:l.mapM f=some ys)(hp:∀p∈ys.flatMap (·.2),sp p.block=true)
  (hfg:∀x∈l,∀y,f x=some y->(∀p∈y.2,sp p.block=true)->g x=some y):l.mapM g=some ys:=by
 refine wT (fun x hx y hy=>?_) h;obtain⟨q,h1,h2⟩:=mapM_mem h x hx;rw[hy]at h2;cases h2;exact hfg x hx y hy (fun p hpp=>hp p (List.mem_flatMap.2 ⟨y,h1,hpp⟩))
omit [Kap]in
theorem ChangeShapes.open_slice_raw{base:Nat}{sp:Nat->Bool}{held:Bool}{t e:TypeId}{fuel:Nat}{cs:List Value}{x:DataW H×List MemPlace}(ht:P.underlying t=some (.slice e))(h:DataW.trod enc P w base sp held (fuel+1) t cs=some x) :
  (cs=[.slice none 0 0]/\x=(.nil,[]))∨∃a len cap,cs=[.slice (some a) len cap]:=by
 unfold DataW.trod at h;rw[ht]at h;cases cs with
 | nil=>simp at h
 | cons c r=>
  cases r with
  | cons c' r=>simp at h
  | nil=>
   cases c with
   | slice a n c=>
    cases a with
    | none=>
     cases n with
     | zero=>cases c with
      | zero=>left;simp at h;exact⟨rfl,h.symm⟩
      | succ c=>simp at h
     | succ n=>simp at h
    | some a=>exact .inr ⟨a,n,c,rfl⟩
   | _=>simp at h
omit [Kap]in
theorem trod_below(hb:Below w.heap.size w w'){sp:Nat->Bool}:∀{d:Nat} {t:TypeId} {fuel:Nat} {cs:List Value} {x:DataW H×List MemPlace},tz P d t=true->
  DataW.trod enc P w 0 (fun _=>true) true fuel t cs=some x->(∀p∈x.2,sp p.block=true)->DataW.trod enc P w' 0 sp true fuel t cs=some x
 | 0,t,fuel,cs,x,hp,h,hs=>by cases hp
 | d+1,t,0,cs,x,hp,h,hs=>by cases h
 | d+1,t,fuel+1,cs,x,hp,h,hs=>by
  have ih:=fun{t:TypeId} {cs:List Value} {x:DataW H×List MemPlace}=>trod_below hb (sp:=sp) (d:=d) (t:=t) (fuel:=fuel) (cs:=cs) (x:=x)
  unfold tz at hp;split at hp
  .rename_i ht;unfold DataW.trod at h ⊢;rw[ht]at h ⊢;cases cs with
   | nil=>simp at h
   | cons c r=>
    cases r with
    | cons c' r=>simp at h
    | nil=>cases c<;>first|exact h|(simp at h;done)
  .rename_i k ht;unfold DataW.trod at h ⊢;rw[ht]at h ⊢;cases cs with
   | nil=>simp at h
   | cons c r=>
    cases r with
    | cons c' r=>simp at h
    | nil=>cases c<;>first|exact h|(simp at h;done)
  .rename_i ht;unfold DataW.trod at h ⊢;rw[ht]at h ⊢;cases cs with
   | nil=>simp at h
   | cons c r=>
    cases r with
    | cons c' r=>simp at h
    | nil=>cases c<;>first|exact h|(simp at h;done)
  .rename_i e ht;obtain⟨hc,he⟩:=Bool.and_eq_true_iff.1 hp;rcases ChangeShapes.open_slice_raw ht h with⟨rfl,rfl⟩|⟨a,len,cap,rfl⟩
   .unfold DataW.trod;simp only[ht]
   unfold DataW.trod at h ⊢;simp only[ht]at h ⊢;split at h
   .rename_i hle;rw[if_pos hle];simp only[if_true,Option.bind_eq_some_iff,Option.map_eq_some_iff]at h;obtain⟨elems,h1,rest,h2,rfl⟩:=h;have hal:∀p∈elems.flatMap (·.2),sp p.block=true:=fun p hp=>hs p (by
     refine List.mem_append_right _ ?_;rw[List.flatMap_append];exact List.mem_append_left _ hp)
    have hrl:∀p∈rest.flatMap (·.2),sp p.block=true:=fun p hp=>hs p (by
     refine List.mem_append_right _ ?_;rw[List.flatMap_append];exact List.mem_append_right _ hp)
    have step:∀(i:Nat) (y:DataW H×List MemPlace),(w.cells? 0 (a.add (i*P.cellsOf e)) (P.cellsOf e)).bind (DataW.trod enc P w 0 (fun _=>true) true fuel e)=some y->(∀p∈y.2,sp p.block=true)->
      (w'.cells? 0 (a.add (i*P.cellsOf e)) (P.cellsOf e)).bind (DataW.trod enc P w' 0 sp true fuel e)=some y:=by
     intro i y hy hpy;rw[Option.bind_eq_some_iff]at hy ⊢;obtain⟨c,hc1,hc2⟩:=hy;exact⟨c,Hs hb hc1,ih he hc2 hpy⟩
    have e1:=uJ (g:=fun i=>(w'.cells? 0 (a.add (i*P.cellsOf e)) (P.cellsOf e)).bind (DataW.trod enc P w' 0 sp true fuel e)) h1 hal (fun i _ y hy hpy=>step i y hy hpy);have e2:=uJ (g:=fun j=>(w'.cells? 0 (a.add ((len+j)*P.cellsOf e)) (P.cellsOf e)).bind (DataW.trod enc P w' 0 sp true fuel e)) h2 hrl (fun i _ y hy hpy=>step (len+i) y hy hpy);rw[e1];simp only[Option.bind_some];by_cases hz:cap-len=0
    .rw[hz]at h2;simp at h2;subst h2;simp[hz]
    .have hrlen:rest.length=cap-len:=by rw[mapM_length h2,List.length_range]
     have hsp:sp a.block=true:=hs (.cell a.block (a.off+0)) (by
      refine List.mem_append_left _ ?_;unfold MemPlace.row;refine List.mem_map.2 ⟨0,List.mem_range.2 ?_,rfl⟩;have:0<P.cellsOf e:=by simpa using hc
      exact Nat.mul_pos (by omega) this)
     rw[hsp];simp only[if_true];rw[e2];rfl
   .cases h
  .rename_i fs ht;unfold DataW.trod at h ⊢;simp only[ht]at h ⊢;split at h
   .rename_i hl;rw[if_pos hl];rw[Option.map_eq_some_iff]at h ⊢;obtain⟨ys,h1,rfl⟩:=h;refine⟨ys,?_,rfl⟩;exact uJ h1 hs (fun f hf y hy hpy=>ih (List.all_eq_true.1 hp f hf) hy hpy)
   .cases h
  .rename_i n e ht;unfold DataW.trod at h ⊢;simp only[ht]at h ⊢;split at h
   .rename_i hl;rw[if_pos hl];rw[Option.map_eq_some_iff]at h ⊢;obtain⟨ys,h1,rfl⟩:=h;refine⟨ys,?_,rfl⟩;exact uJ h1 hs (fun f hf y hy hpy=>ih hp hy hpy)
   .cases h
  .cases hp
omit [Kap]in
theorem xN(hb:Below w.heap.size w w'){sp:Nat->Bool}:∀{ts:List TypeId} {vs:List Value} {ds:List (DataW H)} {ps:List MemPlace},ts.all (tz P 8)=true->
  DataW.TrodAll enc P w 0 (fun _=>true) true ts vs ds ps->(∀p∈ps,sp p.block=true)->DataW.TrodAll enc P w' 0 sp true ts vs ds ps
 | [],[],[],ps,_,h,_=>h
 | t::ts,v::vs,d::ds,ps,hp,h,hs=>by
  obtain⟨p,q,⟨fuel,h1⟩,h2,rfl⟩:=h;simp only[List.all_cons,Bool.and_eq_true]at hp;exact⟨p,q,⟨fuel,trod_below hb hp.1 h1 (fun x hx=>hs x (List.mem_append_left _ hx))⟩,xN hb hp.2 h2 (fun x hx=>hs x (List.mem_append_right _ hx)),rfl⟩
 | [],_::_,_,_,_,h,_=>by cases h
 | [],[],_::_,_,_,h,_=>by cases h
 | _::_,[],_,_,_,h,_=>by cases h
 | _::_,_::_,[],_,_,h,_=>by cases h
end
end Go.AX
namespace Go.AX
open Go
variable {cx:Cx}
noncomputable def NN(E:Nat->Option AObj)(u:Mem):Mem:={ hp:=pQ (fun b=>match E b with|some o=>some o|none=>u.hp.get b) u.nx,nx:=u.nx,fl:=u.fl }
theorem JQ{E:Nat->Option AObj}{u:Mem}(hw:Wf u)(hE:∀b o,E b=some o->b<u.nx)(b:Nat):(NN E u).hp.get b=match E b with|some o=>some o|none=>u.hp.get b:=by
 show (pQ _ u.nx).get b=_;rw[lK];by_cases hb:b<u.nx
 .rw[if_pos hb]
 .rw[if_neg hb];cases he:E b with
  | some o=>exact absurd (hE b o he) hb
  | none=>exact(hw.2 b (by omega)).symm
theorem ah.beside(hof:oo cx){E0:Nat->Option AObj}{k:FuncId}{args:List Value}{u m:Mem}{Q:Value->Mem->Prop}(hB:Bes E0 u m)(hwu:Wf u)(h:ah cx k args u Q) :
  ah cx k args m fun r m'=>∃u',Bes E0 u' m'/\Wf u'/\Q r u':=by
 intro hw;obtain⟨n,r,m1,h1,E,u',h2,h3,h4,h5⟩:=h hwu;obtain⟨m2,g1,g2⟩:=rX hof n _ _ _ _ _ h1 _ _ hB;have hE0:∀b o,E0 b=some o->b<u'.nx:=fun b o e=>by have:=(g2.gap b o e).2;rw[h2.nx]at this;exact this
 have apart:∀b o,E b=some o->E0 b=none:=fun b o e=>by
  cases h0:E0 b with
  | none=>rfl
  | some o'=>
   have q1:=(g2.gap b o' h0).1;have q2:=h2.get b;rw[e,q1]at q2;cases q2
 have gone:∀b o,E0 b=some o->u'.hp.get b=none:=fun b o e=>by
  have q1:=(g2.gap b o e).1;have q2:=h2.get b;rw[q1]at q2;cases h0:E b with
  | none=>rw[h0]at q2;exact q2.symm
  | some o'=>rw[h0]at q2;cases q2
 have hg:=JQ (E:=E0) h3 hE0;refine⟨n,r,m2,g1,E,NN E0 u',⟨g2.nx.trans h2.nx,g2.fl.trans h2.fl,fun b=>?_,fun b o e=>?_⟩,⟨h3.1,fun b hb=>?_⟩,fun b o e=>?_,u',⟨rfl,rfl,hg,fun b o e=>⟨gone b o e,hE0 b o e⟩⟩,h3,h5⟩
 .rw[hg,g2.get b];cases he:E b with
  | some o=>rw[apart b o he];show m1.hp.get b=some o;rw[h2.get b,he]
  | none=>
   cases h0:E0 b with
   | some o=>rfl
   | none=>show m1.hp.get b=_;rw[h2.get b,he]
 .rw[hg,apart b o e];exact h2.gap b o e
 .rw[hg];cases h0:E0 b with
  | some o=>exact absurd (hE0 b o h0) (by have:u'.nx<=b:=hb;omega)
  | none=>exact h3.2 b hb
 .rw[hB.nx];exact h4 b o e
end Go.AX
