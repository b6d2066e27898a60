import Derived.Test.YthpnifigjfplbaaGreatQU22
import Derived.Test.YthpnifigjfplbaaGreatQU24
import Derived.Test.YthpnifigjfplbaaGreatQU26
import Derived.WalkKit
import Derived.ProofKit
import Derived.OpenShut
set_option linter.unusedVariables false
set_option linter.unusedSectionVars false
namespace Go.AX
open Go Go.RowKit Go.ChangeShapes Go.WideShapes Go.Deep
variable [Kap]
section
variable {H:Type} {enc:TypeId×Value->H} {P:Program} {w:World}
def FA(enc:TypeId×Value->H)(P:Program)(w:World)(fs:Array Field)(b o:Nat):Prop:=
 ∀(j:Nat) (f:Field),fs[j]? = some f->∃(x:Value) (y:DataW H×List MemPlace) (k:Nat),w.cell? ⟨b,o+j,none⟩=some x/\DataW.trod enc P w 0 (fun _=>true) true k f.type [x]=some y
theorem FB{t e:TypeId}{fs:Array Field}{k:Nat}{cs:List Value}{y:DataW H×List MemPlace}(ht:P.underlying t=some (.slice e))(he:P.underlying e=some (.struct fs))
  (hone:oneCellFields P fs=true) (hC:P.cellsOf e=fs.size) (h0:0<fs.size) (hf:DataW.trod enc P w 0 (fun _=>true) true k t cs=some y) :
  ∃a n c,cs=[.slice a n c]/\n<=maxLen/\oM (iP P w) (.slice a n c)=true/\
   ∀i,i<n->∃b o,a=some ⟨b,o,none⟩/\b<w.heap.size/\FA enc P w fs b (o+i*fs.size):=by
 rcases Hb ht he hone hC hf with h1|⟨a,n,c,m,h1,hl,hm,hmm,hi⟩
 .exact⟨none,0,0,h1,by unfold maxLen;omega,rfl,fun i hi=>by omega⟩
 .have hmc:c=m:=Eq.symm hmm;subst hmc;have first:0<c->∃b o,a=⟨b,o,none⟩/\b<w.heap.size:=by
   intro hc;obtain⟨f,hf0⟩:∃f,fs[0]? = some f:=⟨_,Array.getElem?_eq_getElem h0⟩;obtain⟨x,y,k,h2,h3⟩:=hi 0 hc 0 f hf0;have e0:a.add (0*fs.size+0)=a:=by simp[Addr.add]
   rw[e0]at h2;obtain⟨b,o,sp⟩:=a;have hsp:sp=none:=by
    cases sp with
    | none=>rfl
    | some s=>unfold World.cell? at h2;split at h2<;>simp at h2
   subst hsp;exact⟨b,o,rfl,HN h2⟩
  refine⟨some a,n,c,h1,by omega,?_,fun i hin=>?_⟩
  .by_cases hc:c=0
   .subst hc;have:n=0:=by omega
    subst this;rfl
   .obtain⟨b,o,rfl,hb⟩:=first (by omega);have hN:b<iP P w:=Nat.lt_of_lt_of_le hb (Nat.le_max_left _ _);cases n with
    | zero=>cases c with
     | zero=>rfl
     | succ c=>show (true&&Nat.blt b (iP P w))=true;simpa using hN
    | succ n=>show (true&&Nat.blt b (iP P w))=true;simpa using hN
  .obtain⟨b,o,rfl,hb⟩:=first (by omega);refine⟨b,o,rfl,hb,fun j f hj=>?_⟩;obtain⟨x,y,k,h2,h3⟩:=hi i (by omega) j f hj;refine⟨x,y,k,?_,h3⟩;rw[<-h2];congr 1;simp[Addr.add,Nat.add_assoc]
theorem FA.int{fs:Array Field}{b o j:Nat}{t:TypeId}(h:FA enc P w fs b o)(hj:(fs[j]?).map (·.type)=some t)(hu:P.underlying t=some (.int .i64)):∃n,rd (mW P w) b (o+j)=some (.int .i64 n)/\Qq n:=by
 obtain⟨f,hj2,hj3⟩:=Option.map_eq_some_iff.1 hj;subst hj3;obtain⟨x,y,k,hc,ht'⟩:=h j f hj2;exact JO hu hc ht'
theorem JP{N:Nat}{a:Option Addr}{n c:Nat}(h:oM N (.slice a n c)=true):zo N (.slice a n c)=true:=h
theorem LQ{t e t0 t1:TypeId}{fs:Array Field}{k:Nat}{cs:List Value}{y:DataW H×List MemPlace}(ht:P.underlying t=some (.slice e))(he:P.underlying e=some (.struct fs))
  (hone:oneCellFields P fs=true) (hC:P.cellsOf e=fs.size) (hs:fs.size=2) (h0:(fs[0]?).map (·.type)=some t0) (u0:P.underlying t0=some (.int .i64)) (h1:(fs[1]?).map (·.type)=some t1) (u1:P.underlying t1=some (.int .i64))
  (hf:DataW.trod enc P w 0 (fun _=>true) true k t cs=some y) :
  ∃a n c,∃l:List pm.Step,cs=[.slice a n c]/\n<=maxLen/\oM (iP P w) (.slice a n c)=true/\Arr encP 2 (mW P w) a n l:=by
 obtain⟨a,n,c,e1,hn,hg,h3⟩:=FB ht he hone hC (by omega) hf;obtain⟨es,h4,h5⟩:=CS (n:=n) (R:=fun i (e:pm.Step)=>∃b o,a=some ⟨b,o,none⟩/\uE encP (mW P w) b (o+i*2) e) (by
  intro i hi;obtain⟨b,o,ha,_,hf⟩:=h3 i hi;rw[hs]at hf;obtain⟨n0,p0,_⟩:=hf.int h0 u0;obtain⟨n1,p1,_⟩:=hf.int h1 u1;refine⟨(n0,n1),b,o,ha,fun j v hv=>?_⟩
  match j,hv with
  | 0,hv=>cases hv;exact p0
  | 1,hv=>cases hv;exact p1)
 exact⟨a,n,c,es,e1,hn,hg,h4,fun i e he=>h5 i e he⟩
omit [Kap]in
theorem LO.arr{m:Mem}{a:Option Addr}{n:Nat}{l:List Int}(h:LO m a n (l.map (.int .i64 ·))):Arr encI 1 m a n l:=
 ⟨by simpa using h.1,fun i x hx=>by
  obtain⟨b,o,e,r⟩:=h.2 i (.int .i64 x) (by rw[List.getElem?_map,hx];rfl);refine⟨b,o,e,fun j v hv=>?_⟩
  match j,hv with
  | 0,hv=>cases hv;rw[Nat.mul_one];exact r⟩
structure AV where
 op:Int
 who:Int
 q:Int
 p:Int
 n:Int
 sa:Option Addr
 sn:Nat
 sc:Nat
def Iy(v:AV):List Value:=[.int .i64 v.op,.int .i64 v.who,.int .i64 v.q,.int .i64 v.p,.int .i64 v.n,.slice v.sa v.sn v.sc]
structure RdAct (m:Mem) (v:AV) (a:pm.Act):Prop where
 op:v.op=a.op
 who:v.who=a.who
 q:v.q=a.q
 p:v.p=a.p
 n:v.n=a.n
 steps:Arr encP 2 m v.sa v.sn a.steps
omit [Kap]in
theorem RdSt.setFl{cx:Cx}{m:Mem}{M now:Int}{a1 a2 a3:Option Addr}{n1 n2 n3 c3 f:Nat}{σ : pm.St}(h:RdSt cx m M now a1 n1 a2 n2 a3 n3 c3 σ):RdSt cx (AX.setFl m f) M now a1 n1 a2 n2 a3 n3 c3 σ:=
 ⟨h.em,h.enow,let ⟨ss,a,b⟩:=h.servs;⟨ss,a.hp rfl,b.imp fun _ _ r=>⟨r.id,r.s,r.sec,r.held,r.num,r.ran,let ⟨js,a,b⟩:=r.jobs;⟨js,a.hp rfl,b.imp fun _ _ r=>⟨r.num,r.at_,r.done,r.prog.hp rfl⟩⟩⟩⟩,
  let ⟨ls,a,b⟩:=h.sems;⟨ls,a.hp rfl,b.imp fun _ _ r=>⟨r.most,r.holder,r.dead,r.queue.hp rfl⟩⟩,h.backs.hp rfl,⟨h.cut.1,h.cut.2⟩⟩
structure ActT (P:Program) (t:TypeId) (fs:Array Field):Prop where
 he:P.underlying t=some (.struct fs)
 hone:oneCellFields P fs=true
 hC:P.cellsOf t=fs.size
 hs:fs.size=6
 ints:∀j,j<5->∃t',(fs[j]?).map (·.type)=some t'/\P.underlying t'=some (.int .i64)
 steps:∃t' e t0 t1 gs,(fs[5]?).map (·.type)=some t'/\P.underlying t'=some (.slice e)/\P.underlying e=some (.struct gs)/\oneCellFields P gs=true/\P.cellsOf e=gs.size/\gs.size=2/\(gs[0]?).map (·.type)=some t0/\P.underlying t0=some (.int .i64)/\(gs[1]?).map (·.type)=some t1/\P.underlying t1=some (.int .i64)
theorem LU{t e:TypeId}{fs:Array Field}{r:Reach}{b0:Nat}{v:Value}{d:DataW H}{ps:List MemPlace}(ht:P.underlying t=some (.slice e))(hA:ActT P e fs)
  (hval:Value.okWide P w r b0 t v) (hd:DataW.Trod enc P w 0 (fun _=>true) true t v d ps) :
  ∃a n c,∃l:List AV,∃A:List pm.Act,v = .slice a n c/\n<=maxLen/\Be (iP P w) (.slice a n c)=true/\Arr Iy 6 (mW P w) a n l/\All2 (RdAct (mW P w)) l A:=by
 obtain⟨fuel,hf⟩:=hd;have hs:=hA.hs;obtain⟨a,n,c,e1,hn,hg,h3⟩:=FB ht hA.he hA.hone hA.hC (by omega) hf;have e1':=qD ht hval e1;obtain⟨es,h4,h5⟩:=CS (n:=n) (R:=fun i (e:AV×pm.Act)=>(∃b o,a=some ⟨b,o,none⟩/\uE Iy (mW P w) b (o+i*6) e.1)/\RdAct (mW P w) e.1 e.2) (by
  intro i hi;obtain⟨b,o,ha,_,hf⟩:=h3 i hi;rw[hs]at hf;have fld:∀j,j<5->∃n,rd (mW P w) b (o+i*6+j)=some (.int .i64 n):=by
   intro j hj;obtain⟨t',q1,q2⟩:=hA.ints j hj;obtain⟨n,q3,_⟩:=hf.int q1 q2;exact⟨n,q3⟩
  obtain⟨n0,p0⟩:=fld 0 (by omega);obtain⟨n1,p1⟩:=fld 1 (by omega);obtain⟨n2,p2⟩:=fld 2 (by omega);obtain⟨n3,p3⟩:=fld 3 (by omega);obtain⟨n4,p4⟩:=fld 4 (by omega);obtain⟨t',e',t0,t1,gs,g1,g2,g3,g4,g5,g6,g7,g8,g9,g10⟩:=hA.steps;obtain⟨f,hj2,hj3⟩:=Option.map_eq_some_iff.1 g1;subst hj3;obtain⟨x,y,k,hc,ht'⟩:=hf 5 f hj2;obtain⟨sa,sn,sc,l,q1,q2,q3,q4⟩:=LQ g2 g3 g4 g5 g6 g7 g8 g9 g10 ht';obtain rfl:x = .slice sa sn sc:=by simpa using q1
  refine⟨(⟨n0,n1,n2,n3,n4,sa,sn,sc⟩,⟨n0,n1,n2,n3,n4,l⟩),⟨b,o,ha,fun j v hv=>?_⟩,rfl,rfl,rfl,rfl,rfl,q4⟩
  match j,hv with
  | 0,hv=>cases hv;exact p0
  | 1,hv=>cases hv;exact p1
  | 2,hv=>cases hv;exact p2
  | 3,hv=>cases hv;exact p3
  | 4,hv=>cases hv;exact p4
  | 5,hv=>cases hv;exact NL hc (JP q3))
 refine⟨a,n,c,es.map (·.1),es.map (·.2),e1',hn,JP hg,⟨by simpa using h4,fun i e he=>?_⟩,All2.of (by simp) fun i x y hx hy=>?_⟩
 .rw[List.getElem?_map]at he;obtain⟨z,hz,rfl⟩:=Option.map_eq_some_iff.1 he;exact(h5 i z hz).1
 .rw[List.getElem?_map]at hx hy;obtain⟨z,hz,rfl⟩:=Option.map_eq_some_iff.1 hx;rw[hz]at hy;cases hy;exact(h5 i z hz).2
end
end Go.AX
