import Derived.Test.YtiehbnmpaeedpaaGreatQA33
import Derived.Test.YtiehbnmpaeedpaaGreatQA20
import Derived.Test.YtiehbnmpaeedpaaGreatQA24
import Derived.WalkKit
import Derived.ProofKit
import Derived.OpenShut
import Derived.Test.YtiehbnmpaeedpaaGreatQA39
import Derived.Shelf.Sort.Plain
import Derived.Shelf.Slices.In.SortNone
import Derived.Shelf.SlSortCmp.NoneTotal
import Derived.Test.YtiehbnmpaeedpaaGreatProg
import Derived.Test.YtiehbnmpaeedpaaGreatQA21
import Derived.KernelRfl
namespace Go.AX.pm
set_option linter.unusedSimpArgs false
set_option linter.unusedVariables false
set_option linter.unusedSectionVars false
open Go.AX
noncomputable section
structure Act where
 op:Int
 who:Int
 q:Int
 p:Int
 n:Int
 steps:List Step
def tickN:Nat→St→St
 | 0,s=>s
 | k+1,s=>(tick (tickN k s)).1
def act (s:St) (a:Act):St:=
 bif eqI a.op 0 then (add s a.who a.q a.p).1 else
 bif eqI a.op 1 then (drop s a.who).1 else
 bif eqI a.op 2 then (release s a.who a.steps).1 else
 bif eqI a.op 3 || eqI a.op 4 then (ground s a.who (eqI a.op 3)).1 else
 bif eqI a.op 5 then (settle s).1 else tickN (min a.n.toNat 60) s
def acts:St→List Act→St
 | s,[]=>s
 | s,a :: r=>acts (act s a) r
theorem acts_snoc:∀ (l:List Act) (s:St) (a:Act),acts s (l ++ [a])=act (acts s l) a
 | [],_,_=>rfl
 | _ :: r,s,a=>acts_snoc r _ a
theorem tickN_iv {B:Int} {σ : St} (h:Iv B σ):∀ k,Iv B (tickN k σ)∧(tickN k σ).m = σ.m∧(tickN k σ).sems.length = σ.sems.length∧σ.now≤(tickN k σ).now∧(tickN k σ).now≤σ.now+k
 | 0=>⟨h,rfl,rfl,Int.le_refl _,by show σ.now≤_; omega⟩
 | k+1=>by
  obtain ⟨a,b,c,d,e⟩:=tickN_iv h k
  obtain ⟨a',b',c',d',_⟩:=tick_iv a
  refine ⟨a',b'.trans b,c'.trans c,?_,?_⟩
  ·show _≤(tick (tickN k σ)).1.now
   rw [d']; split <;> omega
  ·show (tick (tickN k σ)).1.now≤_
   rw [d']; split <;> omega
theorem settle_now' {B:Int} {σ : St} (h:Iv B σ):(settle σ).1.now = σ.now:=(settle_now h).1
theorem act_iv {B:Int} {σ : St} (h:Iv B σ) (hB:0≤B) (hB2:B < 4611686018427387904) (a:Act):Iv (B+1) (act σ a)∧(act σ a).m = σ.m∧σ.now≤(act σ a).now∧(act σ a).now≤σ.now+60:=by
 unfold act
 cases eqI a.op 0 with
 | true=>
  obtain ⟨x,y,z,_⟩:=add_iv h hB a.who a.q a.p
  exact ⟨x.mono (by omega),y,by show _≤(add σ a.who a.q a.p).1.now; rw [z]; exact Int.le_refl _,by show (add σ a.who a.q a.p).1.now≤_; rw [z]; omega⟩
 | false=>
 cases eqI a.op 1 with
 | true=>
  obtain ⟨x,y,z,_⟩:=drop_iv h a.who
  exact ⟨x.mono (by omega),y,by show _≤(drop σ a.who).1.now; rw [z]; exact Int.le_refl _,by show (drop σ a.who).1.now≤_; rw [z]; omega⟩
 | false=>
 cases eqI a.op 2 with
 | true=>
  obtain ⟨x,y,z,_⟩:=release_iv h hB2 a.who a.steps
  exact ⟨x,y,by show _≤(release σ a.who a.steps).1.now; rw [z]; exact Int.le_refl _,by show (release σ a.who a.steps).1.now≤_; rw [z]; omega⟩
 | false=>
 cases (eqI a.op 3 || eqI a.op 4) with
 | true=>
  obtain ⟨x,y,z,_⟩:=ground_iv h a.who (eqI a.op 3)
  exact ⟨x.mono (by omega),y,by show _≤(ground σ a.who (eqI a.op 3)).1.now; rw [z]; exact Int.le_refl _,by show (ground σ a.who (eqI a.op 3)).1.now≤_; rw [z]; omega⟩
 | false=>
 cases eqI a.op 5 with
 | true=>
  obtain ⟨x,y,z⟩:=settle_iv h
  have w:=settle_now' h
  exact ⟨x.mono (by omega),z,by show _≤(settle σ).1.now; rw [w]; exact Int.le_refl _,by show (settle σ).1.now≤_; rw [w]; omega⟩
 | false=>
  obtain ⟨x,y,_,z,w⟩:=tickN_iv h (min a.n.toNat 60)
  exact ⟨x.mono (by omega),y,z,by
   show (tickN (min a.n.toNat 60) σ).now≤_
   have:min a.n.toNat 60≤60:=Nat.min_le_right _ _
   omega⟩
theorem acts_iv:∀ (l:List Act) {B:Int} {σ : St},Iv B σ→0≤B→B+l.length < 4611686018427387904→Iv (B+l.length) (acts σ l)∧(acts σ l).m = σ.m∧σ.now≤(acts σ l).now∧(acts σ l).now≤σ.now+60*l.length
 | [],B,σ,h,_,_=>⟨h.mono (by simp),rfl,Int.le_refl _,by show σ.now≤_; simp⟩
 | a :: r,B,σ,h,h0,hB=>by
  simp only [List.length_cons] at hB ⊢
  obtain ⟨x,y,z,w⟩:=act_iv h h0 (by omega) a
  obtain ⟨x',y',z',w'⟩:=acts_iv r x (by omega) (by omega)
  refine ⟨x'.mono (by omega),y'.trans y,?_,?_⟩
  ·show _≤(acts (act σ a) r).now; omega
  ·show (acts (act σ a) r).now≤_; omega
end
end Go.AX.pm
namespace Go.AX
set_option linter.unusedVariables false
set_option linter.unusedSectionVars false
open Go Go.RowKit Go.ChangeShapes Go.WideShapes Go.Deep
variable [Kap]
section
variable {H:Type} {enc:TypeId×Value→H} {P:Program} {w:World}
def FldsAt (enc:TypeId×Value→H) (P:Program) (w:World) (fs:Array Field) (b o:Nat):Prop:=
 ∀ (j:Nat) (f:Field),fs[j]? = some f→∃ (x:Value) (y:DataW H×List MemPlace) (k:Nat),w.cell? ⟨b,o+j,none⟩=some x∧DataW.trod enc P w 0 (fun _=>true) true k f.type [x]=some y
theorem slice_in {t e:TypeId} {fs:Array Field} {k:Nat} {cs:List Value} {y:DataW H×List MemPlace} (ht:P.underlying t=some (.slice e)) (he:P.underlying e=some (.struct fs))
  (hone:oneCellFields P fs=true) (hC:P.cellsOf e=fs.size) (h0:0 < fs.size) (hf:DataW.trod enc P w 0 (fun _=>true) true k t cs=some y) :
  ∃ a n c,cs=[.slice a n c]∧n≤maxLen∧good0 (nOf P w) (.slice a n c)=true ∧
   ∀ i,i < n→∃ b o,a=some ⟨b,o,none⟩∧b < w.heap.size∧FldsAt enc P w fs b (o+i*fs.size):=by
 rcases open_fields ht he hone hC hf with h1 | ⟨a,n,c,m,h1,hl,hm,hmm,hi⟩
 ·exact ⟨none,0,0,h1,by unfold maxLen; omega,rfl,fun i hi=>by omega⟩
 ·have hmc:c=m:=Eq.symm hmm
  subst hmc
  have first:0 < c→∃ b o,a=⟨b,o,none⟩∧b < w.heap.size:=by
   intro hc
   obtain ⟨f,hf0⟩:∃ f,fs[0]? = some f:=⟨_,Array.getElem?_eq_getElem h0⟩
   obtain ⟨x,y,k,h2,h3⟩:=hi 0 hc 0 f hf0
   have e0:a.add (0*fs.size+0)=a:=by simp [Addr.add]
   rw [e0] at h2
   obtain ⟨b,o,sp⟩:=a
   have hsp:sp=none:=by
    cases sp with
    | none=>rfl
    | some s=>unfold World.cell? at h2; split at h2 <;> simp at h2
   subst hsp
   exact ⟨b,o,rfl,cell_lt h2⟩
  refine ⟨some a,n,c,h1,by omega,?_,fun i hin=>?_⟩
  ·by_cases hc:c=0
   ·subst hc
    have:n=0:=by omega
    subst this
    rfl
   ·obtain ⟨b,o,rfl,hb⟩:=first (by omega)
    have hN:b < nOf P w:=Nat.lt_of_lt_of_le hb (Nat.le_max_left _ _)
    cases n with
    | zero=>cases c with
     | zero=>rfl
     | succ c=>show (true && Nat.blt b (nOf P w))=true; simpa using hN
    | succ n=>show (true && Nat.blt b (nOf P w))=true; simpa using hN
  ·obtain ⟨b,o,rfl,hb⟩:=first (by omega)
   refine ⟨b,o,rfl,hb,fun j f hj=>?_⟩
   obtain ⟨x,y,k,h2,h3⟩:=hi i (by omega) j f hj
   refine ⟨x,y,k,?_,h3⟩
   rw [← h2]
   congr 1
   simp [Addr.add,Nat.add_assoc]
theorem FldsAt.int {fs:Array Field} {b o j:Nat} {t:TypeId} (h:FldsAt enc P w fs b o) (hj:(fs[j]?).map (·.type)=some t) (hu:P.underlying t=some (.int .i64)):∃ n,rd (mW P w) b (o+j)=some (.int .i64 n)∧in64 n:=by
 obtain ⟨f,hj2,hj3⟩:=Option.map_eq_some_iff.1 hj
 subst hj3
 obtain ⟨x,y,k,hc,ht'⟩:=h j f hj2
 exact rd_int hu hc ht'
theorem good01 {N:Nat} {a:Option Addr} {n c:Nat} (h:good0 N (.slice a n c)=true):good1 N (.slice a n c)=true:=h
theorem steps_in {t e t0 t1:TypeId} {fs:Array Field} {k:Nat} {cs:List Value} {y:DataW H×List MemPlace} (ht:P.underlying t=some (.slice e)) (he:P.underlying e=some (.struct fs))
  (hone:oneCellFields P fs=true) (hC:P.cellsOf e=fs.size) (hs:fs.size=2) (h0:(fs[0]?).map (·.type)=some t0) (u0:P.underlying t0=some (.int .i64)) (h1:(fs[1]?).map (·.type)=some t1) (u1:P.underlying t1=some (.int .i64))
  (hf:DataW.trod enc P w 0 (fun _=>true) true k t cs=some y) :
  ∃ a n c,∃ l:List pm.Step,cs=[.slice a n c]∧n≤maxLen∧good0 (nOf P w) (.slice a n c)=true∧Arr encP 2 (mW P w) a n l:=by
 obtain ⟨a,n,c,e1,hn,hg,h3⟩:=slice_in ht he hone hC (by omega) hf
 obtain ⟨es,h4,h5⟩:=list_of (n:=n) (R:=fun i (e:pm.Step)=>∃ b o,a=some ⟨b,o,none⟩∧Cells encP (mW P w) b (o+i*2) e) (by
  intro i hi
  obtain ⟨b,o,ha,_,hf⟩:=h3 i hi
  rw [hs] at hf
  obtain ⟨n0,p0,_⟩:=hf.int h0 u0
  obtain ⟨n1,p1,_⟩:=hf.int h1 u1
  refine ⟨(n0,n1),b,o,ha,fun j v hv=>?_⟩
  match j,hv with
  | 0,hv=>cases hv; exact p0
  | 1,hv=>cases hv; exact p1)
 exact ⟨a,n,c,es,e1,hn,hg,h4,fun i e he=>h5 i e he⟩
omit [Kap] in
theorem SlIs.arr {m:Mem} {a:Option Addr} {n:Nat} {l:List Int} (h:SlIs m a n (l.map (.int .i64 ·))):Arr encI 1 m a n l:=
 ⟨by simpa using h.1,fun i x hx=>by
  obtain ⟨b,o,e,r⟩:=h.2 i (.int .i64 x) (by rw [List.getElem?_map,hx]; rfl)
  refine ⟨b,o,e,fun j v hv=>?_⟩
  match j,hv with
  | 0,hv=>cases hv; rw [Nat.mul_one]; exact r⟩
structure AV where
 op:Int
 who:Int
 q:Int
 p:Int
 n:Int
 sa:Option Addr
 sn:Nat
 sc:Nat
def encA (v:AV):List Value:=[.int .i64 v.op,.int .i64 v.who,.int .i64 v.q,.int .i64 v.p,.int .i64 v.n,.slice v.sa v.sn v.sc]
structure RdAct (m:Mem) (v:AV) (a:pm.Act):Prop where
 op:v.op=a.op
 who:v.who=a.who
 q:v.q=a.q
 p:v.p=a.p
 n:v.n=a.n
 steps:Arr encP 2 m v.sa v.sn a.steps
omit [Kap] in
theorem RdAct.keep {m m':Mem} {v:AV} {a:pm.Act} (h:RdAct m v a) (hw:Wf m) (k:Keep m m'):RdAct m' v a:=⟨h.op,h.who,h.q,h.p,h.n,h.steps.keep hw k⟩
omit [Kap] in
theorem RdSt.setFl {cx:Cx} {m:Mem} {M now:Int} {a1 a2 a3:Option Addr} {n1 n2 n3 c3 f:Nat} {σ : pm.St} (h:RdSt cx m M now a1 n1 a2 n2 a3 n3 c3 σ):RdSt cx (AX.setFl m f) M now a1 n1 a2 n2 a3 n3 c3 σ:=
 ⟨h.em,h.enow,let ⟨ss,a,b⟩:=h.servs; ⟨ss,a.hp rfl,b.imp fun _ _ r=>⟨r.id,r.s,r.sec,r.held,r.num,r.ran,let ⟨js,a,b⟩:=r.jobs; ⟨js,a.hp rfl,b.imp fun _ _ r=>⟨r.num,r.at_,r.done,r.prog.hp rfl⟩⟩⟩⟩,
  let ⟨ls,a,b⟩:=h.sems; ⟨ls,a.hp rfl,b.imp fun _ _ r=>⟨r.most,r.holder,r.dead,r.queue.hp rfl⟩⟩,h.backs.hp rfl,⟨h.cut.1,h.cut.2⟩⟩
structure ActT (P:Program) (t:TypeId) (fs:Array Field):Prop where
 he:P.underlying t=some (.struct fs)
 hone:oneCellFields P fs=true
 hC:P.cellsOf t=fs.size
 hs:fs.size=6
 ints:∀ j,j < 5→∃ t',(fs[j]?).map (·.type)=some t'∧P.underlying t'=some (.int .i64)
 steps:∃ t' e t0 t1 gs,(fs[5]?).map (·.type)=some t'∧P.underlying t'=some (.slice e)∧P.underlying e=some (.struct gs)∧oneCellFields P gs=true∧P.cellsOf e=gs.size∧gs.size=2∧(gs[0]?).map (·.type)=some t0∧P.underlying t0=some (.int .i64)∧(gs[1]?).map (·.type)=some t1∧P.underlying t1=some (.int .i64)
theorem acts_arg {t e:TypeId} {fs:Array Field} {r:Reach} {b0:Nat} {v:Value} {d:DataW H} {ps:List MemPlace} (ht:P.underlying t=some (.slice e)) (hA:ActT P e fs)
  (hval:Value.okWide P w r b0 t v) (hd:DataW.Trod enc P w 0 (fun _=>true) true t v d ps) :
  ∃ a n c,∃ l:List AV,∃ A:List pm.Act,v = .slice a n c∧n≤maxLen∧goodA (nOf P w) (.slice a n c)=true∧Arr encA 6 (mW P w) a n l∧All2 (RdAct (mW P w)) l A:=by
 obtain ⟨fuel,hf⟩:=hd
 have hs:=hA.hs
 obtain ⟨a,n,c,e1,hn,hg,h3⟩:=slice_in ht hA.he hA.hone hA.hC (by omega) hf
 have e1':=slice_of_cells ht hval e1
 obtain ⟨es,h4,h5⟩:=list_of (n:=n) (R:=fun i (e:AV×pm.Act)=>(∃ b o,a=some ⟨b,o,none⟩∧Cells encA (mW P w) b (o+i*6) e.1)∧RdAct (mW P w) e.1 e.2) (by
  intro i hi
  obtain ⟨b,o,ha,_,hf⟩:=h3 i hi
  rw [hs] at hf
  have fld:∀ j,j < 5→∃ n,rd (mW P w) b (o+i*6+j)=some (.int .i64 n):=by
   intro j hj
   obtain ⟨t',q1,q2⟩:=hA.ints j hj
   obtain ⟨n,q3,_⟩:=hf.int q1 q2
   exact ⟨n,q3⟩
  obtain ⟨n0,p0⟩:=fld 0 (by omega)
  obtain ⟨n1,p1⟩:=fld 1 (by omega)
  obtain ⟨n2,p2⟩:=fld 2 (by omega)
  obtain ⟨n3,p3⟩:=fld 3 (by omega)
  obtain ⟨n4,p4⟩:=fld 4 (by omega)
  obtain ⟨t',e',t0,t1,gs,g1,g2,g3,g4,g5,g6,g7,g8,g9,g10⟩:=hA.steps
  obtain ⟨f,hj2,hj3⟩:=Option.map_eq_some_iff.1 g1
  subst hj3
  obtain ⟨x,y,k,hc,ht'⟩:=hf 5 f hj2
  obtain ⟨sa,sn,sc,l,q1,q2,q3,q4⟩:=steps_in g2 g3 g4 g5 g6 g7 g8 g9 g10 ht'
  obtain rfl:x = .slice sa sn sc:=by simpa using q1
  refine ⟨(⟨n0,n1,n2,n3,n4,sa,sn,sc⟩,⟨n0,n1,n2,n3,n4,l⟩),⟨b,o,ha,fun j v hv=>?_⟩,rfl,rfl,rfl,rfl,rfl,q4⟩
  match j,hv with
  | 0,hv=>cases hv; exact p0
  | 1,hv=>cases hv; exact p1
  | 2,hv=>cases hv; exact p2
  | 3,hv=>cases hv; exact p3
  | 4,hv=>cases hv; exact p4
  | 5,hv=>cases hv; exact rd_mW hc (good01 q3))
 refine ⟨a,n,c,es.map (·.1),es.map (·.2),e1',hn,good01 hg,⟨by simpa using h4,fun i e he=>?_⟩,All2.of (by simp) fun i x y hx hy=>?_⟩
 ·rw [List.getElem?_map] at he
  obtain ⟨z,hz,rfl⟩:=Option.map_eq_some_iff.1 he
  exact (h5 i z hz).1
 ·rw [List.getElem?_map] at hx hy
  obtain ⟨z,hz,rfl⟩:=Option.map_eq_some_iff.1 hx
  rw [hz] at hy
  cases hy
  exact (h5 i z hz).2
theorem act_val {t:TypeId} {fs:Array Field} {r:Reach} {b0:Nat} {v:Value} {d:DataW H} {ps:List MemPlace} (hA:ActT P t fs)
  (hval:Value.okWide P w r b0 t v) (hd:DataW.Trod enc P w 0 (fun _=>true) true t v d ps) :
  ∃ x:AV,∃ A:pm.Act,v = .agg (encA x).toArray∧goodA (nOf P w) (.agg (encA x).toArray)=true∧RdAct (mW P w) x A:=by
 obtain ⟨cs,rfl,hsz⟩:=okWide_struct hA.he hval
 obtain ⟨fuel,hf⟩:=hd
 obtain ⟨ys,n',hn',hy,hlen,hyl,hf⟩:=DataW.trod_struct hA.he hf
 obtain ⟨l⟩:=cs
 have hl6:l.length=6:=by rw [hA.hC,hA.hs] at hsz; simpa using hsz
 have fld:∀ (j:Nat) (f:Field),fs[j]? = some f→∃ y,DataW.trod enc P w 0 (fun _=>true) true n' f.type ((l.drop j).take 1)=some y:=by
  intro j f hj
  obtain ⟨ho,hk⟩:=hone_of hA.hone j f hj
  have hjl:j < fs.size:=(Array.getElem?_eq_some_iff.1 hj).1
  have h1:=hf j f hj
  rw [ho,hk,List.getElem?_eq_getElem (by rw [hyl]; exact hjl)] at h1
  exact ⟨_,h1⟩
 have fldI:∀ j,j < 5→∃ n,(l.drop j).take 1=[.int .i64 n]:=by
  intro j hj
  obtain ⟨t',q1,q2⟩:=hA.ints j hj
  obtain ⟨f,hj2,hj3⟩:=Option.map_eq_some_iff.1 q1
  subst hj3
  obtain ⟨y,g⟩:=fld j f hj2
  obtain ⟨n,h,_⟩:=DataW.trod_int q2 g
  exact ⟨n,h⟩
 obtain ⟨n0,p0⟩:=fldI 0 (by omega)
 obtain ⟨n1,p1⟩:=fldI 1 (by omega)
 obtain ⟨n2,p2⟩:=fldI 2 (by omega)
 obtain ⟨n3,p3⟩:=fldI 3 (by omega)
 obtain ⟨n4,p4⟩:=fldI 4 (by omega)
 obtain ⟨t',e',t0,t1,gs,g1,g2,g3,g4,g5,g6,g7,g8,g9,g10⟩:=hA.steps
 obtain ⟨f,hj2,hj3⟩:=Option.map_eq_some_iff.1 g1
 subst hj3
 obtain ⟨y,ht'⟩:=fld 5 f hj2
 obtain ⟨sa,sn,sc,ls,q1,q2,q3,q4⟩:=steps_in g2 g3 g4 g5 g6 g7 g8 g9 g10 ht'
 refine ⟨⟨n0,n1,n2,n3,n4,sa,sn,sc⟩,⟨n0,n1,n2,n3,n4,ls⟩,?_,?_,rfl,rfl,rfl,rfl,rfl,q4⟩
 ·match l,hl6,p0,p1,p2,p3,p4,q1 with
  | [a,b,c,d,e,f],_,p0,p1,p2,p3,p4,q1=>
   simp at p0 p1 p2 p3 p4 q1
   subst p0 p1 p2 p3 p4 q1
   rfl
 ·show (List.all _ _)=true
  simp only [encA,List.all_cons,List.all_nil,Bool.and_true,Bool.and_eq_true]
  exact ⟨rfl,rfl,rfl,rfl,rfl,q3⟩
end
end Go.AX
namespace Go.Proofs.YtiehbnmpaeedpaaGreat.vc
open Go Go.AX
set_option linter.unusedVariables false
set_option linter.unusedSimpArgs false
set_option linter.unusedSectionVars false
section
variable {B:Int} {m0 m:Mem} {Q:Value→Mem→Prop} {M now:Int} {a1 a2 a3:Option Addr} {n1 c1 n2 c2 n3 c3:Nat} {σ : pm.St}
theorem awake_ok (h:Q (.bool true) m):CallV cx n_law_awake [] m Q:=CallV.ov ovNi ov_awake rfl h
theorem OwX.keep {m0 m:Mem} {ae:Option Addr} {ne ce:Nat} {E:List pm.Ev} (h:OwX m0 m a1 n1 c1 a2 n2 c2 a3 n3 c3 σ ae ne ce E):Keep m0 m:=by
 obtain ⟨_,_,_,_,_,hE⟩:=h
 exact hE.ow.keep
theorem OwX.reads {m0 m:Mem} {ae:Option Addr} {ne ce:Nat} {E:List pm.Ev} (h:OwX m0 m a1 n1 c1 a2 n2 c2 a3 n3 c3 σ ae ne ce E) (hM:M = σ.m) (hn:now = σ.now):RdSt cx m M now a1 n1 a2 n2 a3 n3 c3 σ:=by
 obtain ⟨_,_,_,_,_,hE⟩:=h
 exact hE.ow.reads hM hn sBack
theorem OwX.arr {m0 m:Mem} {ae:Option Addr} {ne ce:Nat} {E:List pm.Ev} (h:OwX m0 m a1 n1 c1 a2 n2 c2 a3 n3 c3 σ ae ne ce E):Arr encEv 4 m ae ne E:=by
 obtain ⟨_,_,_,_,_,hE⟩:=h
 exact hE.arr
theorem settle_ok' (hw:Wf m) (hσ : RdSt cx m M now a1 n1 a2 n2 a3 n3 c3 σ) (hI:pm.Iv B σ)
  (h:∀ m' b1 d1 b2 d2 b3 d3 ae ne ce,Keep m m'→RdSt cx m' M now b1 n1 b2 n2 b3 n3 d3 (pm.settle σ).1→Arr encEv 4 m' ae ne (pm.settle σ).2→ne≤1000→Q (.tuple #[.agg #[.int .i64 M,.int .i64 now,.slice b1 n1 d1,.slice b2 n2 d2,.slice b3 n3 d3],.slice ae ne ce]) m') :
  CallV cx n_model_Settle [.agg #[.int .i64 M,.int .i64 now,.slice a1 n1 c1,.slice a2 n2 c2,.slice a3 n3 c3]] m Q:=
 settle_ok hw hσ hI fun m' b1 d1 b2 d2 b3 d3 ae ne ce hX hne=>
  h m' b1 d1 b2 d2 b3 d3 ae ne ce hX.keep (hX.reads (hσ.em.trans (pm.settle_iv hI).2.2.symm) (hσ.enow.trans (pm.settle_now' hI).symm)) hX.arr hne
theorem act_ok {x1 x2 x3 x4 x5:Int} {sa:Option Addr} {sn sc:Nat} {A:pm.Act} (hw:Wf m) (hσ : RdSt cx m M now a1 n1 a2 n2 a3 n3 c3 σ) (hI:pm.Iv B σ) (hB:B < 4611686018427387904) (hA:RdAct m ⟨x1,x2,x3,x4,x5,sa,sn,sc⟩ A)
  (h:∀ m' now' b1 n1' d1 b2 n2' d2 b3 n3' d3,Keep m m'→RdSt cx m' M now' b1 n1' b2 n2' b3 n3' d3 (pm.act σ A)→Q (.agg #[.int .i64 M,.int .i64 now',.slice b1 n1' d1,.slice b2 n2' d2,.slice b3 n3' d3]) m') :
  CallV cx n_law_act [.agg #[.int .i64 M,.int .i64 now,.slice a1 n1 c1,.slice a2 n2 c2,.slice a3 n3 c3],.agg #[.int .i64 x1,.int .i64 x2,.int .i64 x3,.int .i64 x4,.int .i64 x5,.slice sa sn sc]] m Q:=by
 obtain ⟨op,who,q,p,n,steps⟩:=A
 obtain ⟨e1,e2,e3,e4,e5,hs⟩:=hA
 simp only at e1 e2 e3 e4 e5 hs
 subst e1 e2 e3 e4 e5
 apply G_law_act_ok; unfold G_law_act
 have k0:Keep m (bump m 3):=(Keep.refl hw).bump
 unfold pm.act at h
 simp only at h
 refine split_b (fun c0=>?_) (fun c0=>?_)
 ·rw [c0,cond_true] at h
  exact add_ok k0.wf (hσ.keep hw k0) hI fun m' b1 n1' d1 b2 d2 b3 d3 k hR=>⟨_,_,_,_,_,_,_,_,_,_,_,_,rfl,h _ _ _ _ _ _ _ _ _ _ _ (k0.trans k) hR⟩
 rw [c0,cond_false] at h
 refine split_b (fun c1=>?_) (fun c1=>?_)
 ·rw [c1,cond_true] at h
  exact drop_ok k0.wf (hσ.keep hw k0) hI fun m' b1 n1' d1 b2 d2 b3 d3 k hR=>⟨_,_,_,_,_,_,_,_,_,_,_,_,rfl,h _ _ _ _ _ _ _ _ _ _ _ (k0.trans k) hR⟩
 rw [c1,cond_false] at h
 refine split_b (fun c2=>?_) (fun c2=>?_)
 ·rw [c2,cond_true] at h
  exact release_ok k0.wf (hσ.keep hw k0) hI hB (hs.keep hw k0) fun m' b1 d1 b2 d2 b3 d3 ae ne ce k hR _ _=>⟨_,_,_,_,_,_,_,_,_,_,_,_,_,_,_,rfl,h _ _ _ _ _ _ _ _ _ _ _ (k0.trans k) hR⟩
 rw [c2,cond_false] at h
 refine joinK_of' (fun f:Bool→Mem→Prop=>f (eqI x1 3 || eqI x1 4) (bump m 3)) ?_ ?_
 ·refine split_b (fun c3=>?_) (fun c3=>?_)
  ·rw [c3,cond_true] at h
   exact ground_ok k0.wf (hσ.keep hw k0) hI fun m' b1 d1 b2 d2 b3 n3' d3 k hR=>⟨_,_,_,_,_,_,_,_,_,_,_,_,rfl,h _ _ _ _ _ _ _ _ _ _ _ (k0.trans k) hR⟩
  rw [c3,cond_false] at h
  refine split_b (fun c5=>?_) (fun c5=>?_)
  ·rw [c5,cond_true] at h
   exact settle_ok' k0.wf (hσ.keep hw k0) hI fun m' b1 d1 b2 d2 b3 d3 ae ne ce k hR _ _=>⟨_,_,_,_,_,_,_,_,_,_,_,_,_,_,rfl,h _ _ _ _ _ _ _ _ _ _ _ (k0.trans k) hR⟩
  rw [c5,cond_false] at h
  refine ⟨fun x5' xc xc1 ac nc cc ac2 nc2 cc2 ac3 nc3 cc3 mm w=>∃ k:Nat,x5'=(k:Int)∧k≤min x5.toNat 60∧w=60 - k∧xc=M∧Keep m mm∧RdSt cx mm M xc1 ac nc ac2 nc2 ac3 nc3 cc3 (pm.tickN k σ),⟨60,0,rfl,Nat.zero_le _,rfl,rfl,k0,hσ.keep hw k0⟩,?_⟩
  rintro x5' xc xc1 ac nc cc ac2 nc2 cc2 ac3 nc3 cc3 mm w ⟨k,rfl,hk,rfl,rfl,kk,hR⟩
  refine joinK_of' (fun f:Mem→Prop=>k < min x5.toNat 60→f mm) ?_ ?_
  ·intro hlt
   have hI':=(pm.tickN_iv hI k).1
   refine tick_ok kk.wf hR hI' fun m' now' b1 d1 b2 d2 b3 d3 ae ne ce k2 hR2 _ _=>⟨_,_,_,_,_,_,_,_,_,_,_,_,_,_,_,rfl,60 - (k+1),by omega,k+1,?_,by omega,rfl,rfl,kk.trans k2,hR2⟩
   rw [addI_64 (by omega) (by omega)]; rfl
  ·intro J hJ
   have done:min x5.toNat 60=k→Q (.agg #[.int .i64 xc,.int .i64 xc1,.slice ac nc cc,.slice ac2 nc2 cc2,.slice ac3 nc3 cc3]) mm:=by
    intro e
    rw [e] at h
    exact h _ _ _ _ _ _ _ _ _ _ _ kk hR
   refine split_ltI (fun l1=>?_) (fun l1=>done (by omega))
   exact split_ltI (fun l2=>hJ (by omega)) (fun l2=>done (by omega))
 ·intro J hJ
  refine split_b (fun c3=>?_) (fun c3=>?_)
  ·rw [c3,Bool.true_or] at hJ; exact hJ
  ·rw [c3,Bool.false_or] at hJ; exact hJ
theorem actT:ActT Tryz.prog t_law_Act (match Tryz.prog.underlying t_law_Act with | some (.struct fs)=>fs | _=>#[]) where
 he:=by kernel_rfl
 hone:=by kernel_rfl
 hC:=by kernel_rfl
 hs:=by kernel_rfl
 ints:=fun j hj=>match j,hj with
  | 0,_=>⟨t_int,by kernel_rfl,Tryz.underlying3⟩
  | 1,_=>⟨t_int,by kernel_rfl,Tryz.underlying3⟩
  | 2,_=>⟨t_int64,by kernel_rfl,Tryz.underlying2⟩
  | 3,_=>⟨t_int64,by kernel_rfl,Tryz.underlying2⟩
  | 4,_=>⟨t_int64,by kernel_rfl,Tryz.underlying2⟩
 steps:=⟨t_sl_prog_Step,t_prog_Step,t_int,t_int64,(match Tryz.prog.underlying t_prog_Step with | some (.struct fs)=>fs | _=>#[]),by kernel_rfl,by kernel_rfl,by kernel_rfl,by kernel_rfl,by kernel_rfl,by kernel_rfl,by kernel_rfl,Tryz.underlying3,by kernel_rfl,Tryz.underlying2⟩
end
end Go.Proofs.YtiehbnmpaeedpaaGreat.vc
namespace Go.Proofs.YtiehbnmpaeedpaaGreat.vc
open Go Go.AX
set_option linter.unusedVariables false
set_option linter.unusedSimpArgs false
set_option linter.unusedSectionVars false
section
variable {m:Mem} {a1 a2 a3:Option Addr} {n1 c1 n2 c2 n3 c3:Nat}
theorem apart_law {x0 x1 x2 x3 x4 x5:Int} {most:List Int} {l:List AV} {A:List pm.Act} {X:pm.Act} (hw:Wf m) (hm:Arr encI 1 m a1 n1 most) (hl:Arr encA 6 m a2 n2 l) (hA:All2 (RdAct m) l A) (hX:RdAct m ⟨x1,x2,x3,x4,x5,a3,n3,c3⟩ X) :
  CallV cx n_law_ModelApart [.int .i64 x0,.slice a1 n1 c1,.slice a2 n2 c2,.agg #[.int .i64 x1,.int .i64 x2,.int .i64 x3,.int .i64 x4,.int .i64 x5,.slice a3 n3 c3]] m fun r _=>r = .bool true:=by
 apply G_law_ModelApart_ok; unfold G_law_ModelApart
 have k0:Keep m (bump m 1):=(Keep.refl hw).bump
 have hlA:A.length=n2:=by rw [← hA.len,hl.1]
 refine awake_ok ⟨true,rfl,split_nb (fun h=>by cases h) (fun _=>?_)⟩
 refine new_ok k0.wf (hm.keep hw k0) (fun m1 k1 hne _=>⟨_,_,_,_,_,_,_,_,_,_,_,_,rfl,?_⟩) (fun m1 b2 d2 k1 he hR=>⟨_,_,_,_,_,_,_,_,_,_,_,_,rfl,?_⟩)
 ·have k01:=(k0.trans k1).bump (n:=1)
  refine new_ok k01.wf (hm.keep hw k01) (fun m2 k2 _ _=>⟨_,_,_,_,_,_,_,_,_,_,_,_,rfl,?_⟩) (fun m2 b2 d2 k2 he hR=>absurd he hne)
  exact joinK_of' (fun _=>True) trivial fun J _=>split_ne (fun _=>rfl) (fun e=>absurd e (by decide))
 ·have k01:=(k0.trans k1).bump (n:=1)
  have k11:Keep m1 (bump m1 1):=(Keep.refl k1.wf).bump
  refine new_ok k01.wf (hm.keep hw k01) (fun m2 k2 hne _=>absurd he hne) (fun m2 b4 d4 k2 _ hR'=>⟨_,_,_,_,_,_,_,_,_,_,_,_,rfl,?_⟩)
  have hR:=hR.keep k1.wf (k11.trans k2)
  have k02:=k01.trans k2
  obtain ⟨hI,_⟩:=pm.new_iv he
  generalize (pm.new x0 most).1 = σ at hI hR hR'
  refine joinK_of' (fun f:Mem→Prop=>n2≤15→f (bump m2 1)) ?_ ?_
  ·intro hn2
   have iv:=fun k=>pm.acts_iv (A.take k) hI (Int.le_refl _) (by rw [List.length_take]; omega)
   have kb:Keep m2 (bump m2 1):=(Keep.refl k2.wf).bump
   refine ⟨fun x13 xc xc1 ac nc cc ac2 nc2 cc2 ac3 nc3 cc3 xd xd1 ad nd cd ad2 nd2 cd2 ad3 nd3 cd3 mm w=>∃ k:Nat,x13=(k:Int)∧k≤n2∧w=n2 - k∧xc=x0∧xd=x0∧Keep m mm∧RdSt cx mm x0 xc1 ac nc ac2 nc2 ac3 nc3 cc3 (pm.acts σ (A.take k))∧RdSt cx mm x0 xd1 ad nd ad2 nd2 ad3 nd3 cd3 (pm.acts σ (A.take k)),
    ⟨n2,0,rfl,Nat.zero_le _,rfl,rfl,rfl,k02.trans kb,hR.keep k2.wf kb,hR'.keep k2.wf kb⟩,?_⟩
   rintro x13 xc xc1 ac nc cc ac2 nc2 cc2 ac3 nc3 cc3 xd xd1 ad nd cd ad2 nd2 cd2 ad3 nd3 cd3 mm w ⟨k,rfl,hk,rfl,rfl,rfl,kk,hS,hT⟩
   refine split_lt (fun hlt=>?_) (fun hge=>?_)
   ·obtain ⟨v,hv⟩:∃ v,l[k]? = some v:=⟨_,List.getElem?_eq_getElem (by have:=hl.1; omega)⟩
    obtain ⟨X',hX',hr⟩:=hA.get hv
    obtain ⟨o1,o2,o3,o4,o5,oa,on,oc⟩:=v
    have eS:pm.acts σ (A.take (k+1))=pm.act (pm.acts σ (A.take k)) X':=by
     rw [List.take_add_one,hX']; exact pm.acts_snoc _ _ _
    have hIk:=(iv k).1
    have hBk:(0:Int)+((A.take k).length:Int) < 4611686018427387904:=by rw [List.length_take]; omega
    refine joinK_of' (fun f:Mem→Prop=>f mm) ?_ ?_
    ·have k4:Keep mm (bump mm 14):=(Keep.refl kk.wf).bump
     have hwf:Wf (setFl (bump mm 14) mm.nx):=k4.wf.setFl (by simp)
     refine (hl.keep hw (kk.trans k4)).open (k:=k) hv fun b o hc=>⟨_,hc 0 _ rfl,_,hc 1 _ rfl,_,hc 2 _ rfl,_,hc 3 _ rfl,_,hc 4 _ rfl,_,_,_,hc 5 _ rfl,?_⟩
     have hr4:=hr.keep hw (kk.trans k4)
     refine act_ok (B:=0+((A.take k).length:Int)) hwf (hS.keep kk.wf k4).setFl hIk hBk ⟨hr4.op,hr4.who,hr4.q,hr4.p,hr4.n,hr4.steps.hp rfl⟩ fun m5 now5 e1 f1 g1 e2 f2 g2 e3 f3 g3 k5 hS5=>⟨_,_,_,_,_,_,_,_,_,_,_,rfl,?_⟩
     refine (hl.keep hw (kk.trans k4)).open (k:=k) hv fun b o hc=>⟨_,hc 0 _ rfl,_,hc 1 _ rfl,_,hc 2 _ rfl,_,hc 3 _ rfl,_,hc 4 _ rfl,_,_,_,hc 5 _ rfl,?_⟩
     have k5':Keep (bump mm 14) (setFl m5 (bump mm 14).fl):=Keep.unset k4.wf k5
     have hS6:RdSt cx (setFl m5 (bump mm 14).fl) _ now5 e1 f1 e2 f2 e3 f3 g3 _:=hS5.setFl
     generalize setFl m5 (bump mm 14).fl=m6 at k5' hS6
     have k6:=k4.trans k5'
     refine act_ok (B:=0+((A.take k).length:Int)) k6.wf (hT.keep kk.wf k6) hIk hBk (hr.keep hw (kk.trans k6)) fun m7 now7 e4 f4 g4 e5 f5 g5 e6 f6 g6 k7 hT7=>⟨_,_,_,_,_,_,_,_,_,_,_,rfl,n2 - (k+1),by omega,k+1,?_,by omega,rfl,rfl,rfl,kk.trans (k6.trans k7),?_,?_⟩
     ·rw [addI_64 (by omega) (by omega)]; rfl
     ·rw [eS]; exact hS6.keep k6.wf k7
     ·rw [eS]; exact hT7
    ·intro J hJ
     refine (hl.keep hw kk).open (k:=k) hv fun b o hc=>⟨_,_,_,hc 5 _ rfl,split_ltI (fun _=>rfl) (fun _=>?_)⟩
     exact (hl.keep hw kk).open (k:=k) hv fun b o hc=>⟨_,hc 4 _ rfl,split_ltI (fun _=>rfl) (fun _=>hJ)⟩
   ·have hIk:=(iv k).1
    have hBk:(0:Int)+((A.take k).length:Int) < 4611686018427387904:=by rw [List.length_take]; omega
    refine act_ok kk.wf hS hIk hBk (hX.keep hw kk) fun m7 now7 e4 f4 g4 e5 f5 g5 e6 f6 g6 k7 _=>⟨_,_,_,_,_,_,_,_,_,_,_,rfl,?_⟩
    refine settle_ok' k7.wf (hS.keep kk.wf k7) hIk fun m8 _ _ _ _ _ _ _ _ _ k8 _ _ _=>⟨_,_,_,_,_,_,_,_,_,_,_,_,_,_,rfl,?_⟩
    have k78:=k7.trans k8
    refine tick_ok k78.wf (hS.keep kk.wf k78) hIk fun m9 _ _ _ _ _ _ _ _ _ _ k9 _ _ _=>⟨_,_,_,_,_,_,_,_,_,_,_,_,_,_,_,rfl,?_⟩
    have k79:=k78.trans k9
    refine release_ok k79.wf (hS.keep kk.wf k79) hIk hBk (hX.keep hw (kk.trans k79)).steps fun m10 _ _ _ _ _ _ _ _ _ k10 _ _ _=>⟨_,_,_,_,_,_,_,_,_,_,_,_,_,_,_,rfl,?_⟩
    have k710:=k79.trans k10
    exact same_ok k710.wf (hS.keep kk.wf k710) (hT.keep kk.wf k710) hIk fun m11 _=>⟨true,rfl,rfl⟩
  ·intro J hJ
   refine split_ne (fun _=>rfl) (fun _=>split_ltI (fun _=>rfl) (fun h15=>split_ltI (fun _=>rfl) (fun _=>hJ ?_)))
   simp only [lenI] at h15
   omega
end
end Go.Proofs.YtiehbnmpaeedpaaGreat.vc
namespace Go.Proofs
open Go.Shelf
def Tryz.lays189_ren:Go.Shelf.Ren:=⟨fun | 189=>97 | 125=>127 | 257=>126 | 128=>159 | 129=>160 | 294=>150 | 295=>151 | 296=>152 | 297=>153 | 298=>154 | 299=>155 | 216=>156 | 300=>157 | 301=>158 | 328=>169 | 329=>170 | 330=>171 | 331=>172 | 332=>173 | 215=>116 | 343=>183 | n=>n,fun | 28=>50 | 3=>3 | 46=>201 | 0=>0 | 51=>240 | 53=>242 | 4=>4 | 183=>233 | 182=>232 | 131=>88 | 5=>5 | 9=>9 | 218=>251 | 222=>255 | 228=>262 | 229=>263 | n=>n,fun | n=>n⟩
theorem Tryz.lays189:Go.Proofs.Lays.n189 Tryz.prog Tryz.lays189_ren:={
 mixed:=by kernel_rfl
 f125:=Tryz.func127.trans (congrArg some (by kernel_rfl))
 f128:=Tryz.func159.trans (congrArg some (by kernel_rfl))
 f129:=Tryz.func160.trans (congrArg some (by kernel_rfl))
 f189:=Tryz.func97.trans (congrArg some (by kernel_rfl))
 f215:=Tryz.func116.trans (congrArg some (by kernel_rfl))
 f216:=Tryz.func156.trans (congrArg some (by kernel_rfl))
 f257:=Tryz.func126.trans (congrArg some (by kernel_rfl))
 f294:=Tryz.func150.trans (congrArg some (by kernel_rfl))
 f295:=Tryz.func151.trans (congrArg some (by kernel_rfl))
 f296:=Tryz.func152.trans (congrArg some (by kernel_rfl))
 f297:=Tryz.func153.trans (congrArg some (by kernel_rfl))
 f298:=Tryz.func154.trans (congrArg some (by kernel_rfl))
 f299:=Tryz.func155.trans (congrArg some (by kernel_rfl))
 f300:=Tryz.func157.trans (congrArg some (by kernel_rfl))
 f301:=Tryz.func158.trans (congrArg some (by kernel_rfl))
 f328:=Tryz.func169.trans (congrArg some (by kernel_rfl))
 f329:=Tryz.func170.trans (congrArg some (by kernel_rfl))
 f330:=Tryz.func171.trans (congrArg some (by kernel_rfl))
 f331:=Tryz.func172.trans (congrArg some (by kernel_rfl))
 f332:=Tryz.func173.trans (congrArg some (by kernel_rfl))
 f343:=Tryz.func183.trans (congrArg some (by kernel_rfl))
 t0:=Tryz.underlying0
 a0:=Tryz.isAgg0
 z0:=Tryz.sizeOf0
 v0:=Tryz.zeroValue0
 t3:=Tryz.underlying3
 a3:=Tryz.isAgg3
 z3:=Tryz.sizeOf3
 v3:=Tryz.zeroValue3
 t4:=Tryz.underlying4
 a4:=Tryz.isAgg4
 z4:=Tryz.sizeOf4
 v4:=Tryz.zeroValue4
 t5:=Tryz.underlying5
 a5:=Tryz.isAgg5
 z5:=Tryz.sizeOf5
 v5:=Tryz.zeroValue5
 t9:=Tryz.underlying9
 a9:=Tryz.isAgg9
 z9:=Tryz.sizeOf9
 v9:=Tryz.zeroValue9
 t28:=Tryz.underlying50
 a28:=Tryz.isAgg50
 z28:=Tryz.sizeOf50
 v28:=Tryz.zeroValue50
 t46:=Tryz.underlying201
 a46:=Tryz.isAgg201
 z46:=Tryz.sizeOf201
 v46:=Tryz.zeroValue201
 t51:=Tryz.underlying240
 a51:=Tryz.isAgg240
 z51:=Tryz.sizeOf240
 v51:=Tryz.zeroValue240
 t53:=Tryz.underlying242
 a53:=Tryz.isAgg242
 z53:=Tryz.sizeOf242
 v53:=Tryz.zeroValue242
 t131:=Tryz.underlying88
 a131:=Tryz.isAgg88
 z131:=Tryz.sizeOf88
 v131:=Tryz.zeroValue88
 t182:=Tryz.underlying232
 a182:=Tryz.isAgg232
 z182:=Tryz.sizeOf232
 v182:=Tryz.zeroValue232
 t183:=Tryz.underlying233
 a183:=Tryz.isAgg233
 z183:=Tryz.sizeOf233
 v183:=Tryz.zeroValue233
 t218:=Tryz.underlying251
 a218:=Tryz.isAgg251
 z218:=Tryz.sizeOf251
 v218:=Tryz.zeroValue251
 t222:=Tryz.underlying255
 a222:=Tryz.isAgg255
 z222:=Tryz.sizeOf255
 v222:=Tryz.zeroValue255
 t228:=Tryz.underlying262
 a228:=Tryz.isAgg262
 z228:=Tryz.sizeOf262
 v228:=Tryz.zeroValue262
 t229:=Tryz.underlying263
 a229:=Tryz.isAgg263
 z229:=Tryz.sizeOf263
 v229:=Tryz.zeroValue263 }
open Go.Sort Go.RowKit in
theorem Tryz.slices_Sort_int (blk off cap:Nat) (zs:List Int) (w:World) (hH:Holds (Value.int .i64) w blk off zs.toArray) (hblk:blk < w.heap.size) (hsz:zs.length < 4611686018427387904) :
  Calls Tryz.prog 97 #[.slice (some ⟨blk,off,none⟩) zs.length cap] w fun e w'=>
   e = .returned (.tuple #[])∧∃ n os,w'=grow (putRow (Value.int .i64) (Sort.ahead w n) blk off (zs.mergeSort fun x y=>decide (x≤y)).toArray) os:=Any.slices_Sort_int Tryz.lays189 blk off cap zs w hH hblk hsz
open Go.RowKit Go.Sort in
theorem Tryz.slices_Sort_int_none (p:Option Addr) (cap:Nat) (w:World) :
  Calls Tryz.prog 97 #[.slice p 0 cap] w fun e w'=>e = .returned (.tuple #[])∧w'=w:=Any.slices_Sort_int_none Tryz.lays189 p cap w
def Tryz.sortE_ren:Go.Shelf.Ren:=⟨fun | 6=>147 | 15=>127 | 14=>166 | 28=>159 | 29=>160 | 20=>174 | 21=>175 | 22=>176 | 23=>177 | 24=>178 | 25=>179 | 26=>180 | 27=>181 | 46=>184 | 47=>170 | 48=>171 | 49=>185 | 50=>186 | 57=>187 | n=>n,fun | 22=>111 | 24=>113 | 25=>230 | 3=>3 | 39=>201 | 0=>0 | 53=>240 | 55=>242 | 4=>4 | 46=>233 | 45=>232 | 50=>88 | 5=>5 | 9=>9 | 66=>251 | 70=>255 | 76=>262 | 77=>263 | n=>n,fun | n=>n⟩
theorem Tryz.sortE:Go.Proofs.SlLaysF0.n6 Tryz.prog Tryz.sortE_ren:={
 mixed:=by kernel_rfl
 f6:=⟨Tryz.f147.name,by decide,Tryz.func147.trans (congrArg some (by kernel_rfl))⟩
 f14:=⟨Tryz.f166.name,by decide,Tryz.func166.trans (congrArg some (by kernel_rfl))⟩
 f15:=Tryz.func127.trans (congrArg some (by kernel_rfl))
 f20:=⟨Tryz.f174.name,by decide,Tryz.func174.trans (congrArg some (by kernel_rfl))⟩
 f21:=⟨Tryz.f175.name,by decide,Tryz.func175.trans (congrArg some (by kernel_rfl))⟩
 f22:=⟨Tryz.f176.name,by decide,Tryz.func176.trans (congrArg some (by kernel_rfl))⟩
 f23:=⟨Tryz.f177.name,by decide,Tryz.func177.trans (congrArg some (by kernel_rfl))⟩
 f24:=⟨Tryz.f178.name,by decide,Tryz.func178.trans (congrArg some (by kernel_rfl))⟩
 f25:=⟨Tryz.f179.name,by decide,Tryz.func179.trans (congrArg some (by kernel_rfl))⟩
 f26:=⟨Tryz.f180.name,by decide,Tryz.func180.trans (congrArg some (by kernel_rfl))⟩
 f27:=⟨Tryz.f181.name,by decide,Tryz.func181.trans (congrArg some (by kernel_rfl))⟩
 f28:=Tryz.func159.trans (congrArg some (by kernel_rfl))
 f29:=Tryz.func160.trans (congrArg some (by kernel_rfl))
 f46:=⟨Tryz.f184.name,by decide,Tryz.func184.trans (congrArg some (by kernel_rfl))⟩
 f47:=Tryz.func170.trans (congrArg some (by kernel_rfl))
 f48:=Tryz.func171.trans (congrArg some (by kernel_rfl))
 f49:=⟨Tryz.f185.name,by decide,Tryz.func185.trans (congrArg some (by kernel_rfl))⟩
 f50:=⟨Tryz.f186.name,by decide,Tryz.func186.trans (congrArg some (by kernel_rfl))⟩
 f57:=⟨Tryz.f187.name,by decide,Tryz.func187.trans (congrArg some (by kernel_rfl))⟩
 t0:=Tryz.underlying0
 a0:=Tryz.isAgg0
 z0:=Tryz.sizeOf0
 v0:=Tryz.zeroValue0
 t3:=Tryz.underlying3
 a3:=Tryz.isAgg3
 z3:=Tryz.sizeOf3
 v3:=Tryz.zeroValue3
 t4:=Tryz.underlying4
 a4:=Tryz.isAgg4
 z4:=Tryz.sizeOf4
 v4:=Tryz.zeroValue4
 t5:=Tryz.underlying5
 a5:=Tryz.isAgg5
 z5:=Tryz.sizeOf5
 v5:=Tryz.zeroValue5
 t9:=Tryz.underlying9
 a9:=Tryz.isAgg9
 z9:=Tryz.sizeOf9
 v9:=Tryz.zeroValue9
 t22:=Tryz.underlying111
 a22:=Tryz.isAgg111
 z22:=Tryz.sizeOf111
 v22:=Tryz.zeroValue111
 t25:=Tryz.underlying230
 a25:=Tryz.isAgg230
 z25:=Tryz.sizeOf230
 v25:=Tryz.zeroValue230
 t39:=Tryz.underlying201
 a39:=Tryz.isAgg201
 z39:=Tryz.sizeOf201
 v39:=Tryz.zeroValue201
 t45:=Tryz.underlying232
 a45:=Tryz.isAgg232
 z45:=Tryz.sizeOf232
 v45:=Tryz.zeroValue232
 t46:=Tryz.underlying233
 a46:=Tryz.isAgg233
 z46:=Tryz.sizeOf233
 v46:=Tryz.zeroValue233
 t50:=Tryz.underlying88
 a50:=Tryz.isAgg88
 z50:=Tryz.sizeOf88
 v50:=Tryz.zeroValue88
 t53:=Tryz.underlying240
 a53:=Tryz.isAgg240
 z53:=Tryz.sizeOf240
 v53:=Tryz.zeroValue240
 t55:=Tryz.underlying242
 a55:=Tryz.isAgg242
 z55:=Tryz.sizeOf242
 v55:=Tryz.zeroValue242
 t66:=Tryz.underlying251
 a66:=Tryz.isAgg251
 z66:=Tryz.sizeOf251
 v66:=Tryz.zeroValue251
 t70:=Tryz.underlying255
 a70:=Tryz.isAgg255
 z70:=Tryz.sizeOf255
 v70:=Tryz.zeroValue255
 t76:=Tryz.underlying262
 a76:=Tryz.isAgg262
 z76:=Tryz.sizeOf262
 v76:=Tryz.zeroValue262
 t77:=Tryz.underlying263
 a77:=Tryz.isAgg263
 z77:=Tryz.sizeOf263
 v77:=Tryz.zeroValue263 }
end Go.Proofs
namespace Go.Proofs.YtiehbnmpaeedpaaGreat.vc0
open Go Go.AX Go.Proofs.YtiehbnmpaeedpaaGreat.vc
set_option linter.unusedVariables false
set_option maxRecDepth 100000
noncomputable section
def G_cmp_isNaN_int (a:Int) (m:Mem) (Q:Value→Mem→Prop):Prop:=
 Q (.bool (neI a a)) m
theorem G_cmp_isNaN_int_ok {a:Int} {m:Mem} {Q:Value→Mem→Prop} (h:G_cmp_isNaN_int a m Q):CallV cx n_cmp_isNaN_int [.int .i64 a] m Q:=
 CallV.of (fn:=Tryz.f116) (LS:=[]) (ann:=[]) ovFr ovNi (by kernel_rfl) (by kernel_rfl) (Eq.mp (by kernel_rfl) h)
def G_cmp_isNaN_int64 (a:Int) (m:Mem) (Q:Value→Mem→Prop):Prop:=
 Q (.bool (neI a a)) m
theorem G_cmp_isNaN_int64_ok {a:Int} {m:Mem} {Q:Value→Mem→Prop} (h:G_cmp_isNaN_int64 a m Q):CallV cx n_cmp_isNaN_int64 [.int .i64 a] m Q:=
 CallV.of (fn:=Tryz.f182) (LS:=[]) (ann:=[]) ovFr ovNi (by kernel_rfl) (by kernel_rfl) (Eq.mp (by kernel_rfl) h)
def G_cmp_Compare_int (e c:Int) (m:Mem) (Q:Value→Mem→Prop):Prop:=
 CallV cx n_cmp_isNaN_int [.int .i64 e] m fun i g=>∃ d,i=(.bool d)∧(CallV cx n_cmp_isNaN_int [.int .i64 c] g fun f a=>∃ b,f=(.bool b)∧splitB d (splitB b (Q (.int .i64 0) a) (Q (.int .i64 (-1:Int)) a)) (splitB b (Q (.int .i64 1) a) (splitB (ltI e c) (Q (.int .i64 (-1:Int)) a) (splitB (ltI c e) (Q (.int .i64 1) a) (Q (.int .i64 0) a)))))
theorem G_cmp_Compare_int_ok {e c:Int} {m:Mem} {Q:Value→Mem→Prop} (h:G_cmp_Compare_int e c m Q):CallV cx n_cmp_Compare_int [.int .i64 e,.int .i64 c] m Q:=
 CallV.of (fn:=Tryz.f69) (LS:=[]) (ann:=[]) ovFr ovNi (by kernel_rfl) (by kernel_rfl) (Eq.mp (by kernel_rfl) h)
def G_cmp_Compare_int64 (e c:Int) (m:Mem) (Q:Value→Mem→Prop):Prop:=
 CallV cx n_cmp_isNaN_int64 [.int .i64 e] m fun i g=>∃ d,i=(.bool d)∧(CallV cx n_cmp_isNaN_int64 [.int .i64 c] g fun f a=>∃ b,f=(.bool b)∧splitB d (splitB b (Q (.int .i64 0) a) (Q (.int .i64 (-1:Int)) a)) (splitB b (Q (.int .i64 1) a) (splitB (ltI e c) (Q (.int .i64 (-1:Int)) a) (splitB (ltI c e) (Q (.int .i64 1) a) (Q (.int .i64 0) a)))))
theorem G_cmp_Compare_int64_ok {e c:Int} {m:Mem} {Q:Value→Mem→Prop} (h:G_cmp_Compare_int64 e c m Q):CallV cx n_cmp_Compare_int64 [.int .i64 e,.int .i64 c] m Q:=
 CallV.of (fn:=Tryz.f168) (LS:=[]) (ann:=[]) ovFr ovNi (by kernel_rfl) (by kernel_rfl) (Eq.mp (by kernel_rfl) h)
def G_cmp_Or_int (l:Option Addr) (k n:Nat) (m:Mem) (Q:Value→Mem→Prop):Prop:=
 ∃ d:Int→Mem→Nat→Prop,(∃ g:Nat,d 0 m g)∧∀ a b f,d a b f→splitB (ltI a (lenI k)) ((0≤a∧a < ((k:Nat):Int))∧(vPtr l fun i j=>∃ c,rd b i (j+Int.toNat a*1)=some (.int .i64 c)∧splitB (neI c 0) (Q (.int .i64 c) b) (∃ e:Nat,e < f∧d (addI .i64 a 1) b e))) (Q (.int .i64 0) b)
theorem G_cmp_Or_int_ok {l:Option Addr} {k n:Nat} {m:Mem} {Q:Value→Mem→Prop} (h:G_cmp_Or_int l k n m Q):CallV cx n_cmp_Or_int [.slice l k n] m Q:=
 CallV.of (fn:=Tryz.f167) (LS:=[]) (ann:=[none,none,none,none,some ⟨[3,6,7],[(8,.int .i64)],[],[],[],0⟩]) ovFr ovNi (by kernel_rfl) (by kernel_rfl) (Eq.mp (by kernel_rfl) h)
def G_edf_compare (o p l n:Int) (q r:Bool) (m:Mem) (Q:Value→Mem→Prop):Prop:=
 CallV cx n_cmp_Compare_int64 [.int .i64 p,.int .i64 n] (setFl (bump m 15) (bump m 2).nx) fun k e=>∃ a,k=(.int .i64 a)∧(CallV cx n_cmp_Compare_int [.int .i64 o,.int .i64 l] (setFl e (bump m 15).fl) fun i d=>∃ b,i=(.int .i64 b)∧(CallV cx n_cmp_Or_int [.slice (some ⟨((bump m 2).nx+10),0,none⟩) 2 2] (addO d ((bump m 2).nx+10) (row [.int .i64 a,.int .i64 b] t_int false)) fun j f=>∃ c,j=(.int .i64 c)∧(mBind f fun g=>Q (.int .i64 c) g)))
theorem G_edf_compare_ok {o p l n:Int} {q r:Bool} {m:Mem} {Q:Value→Mem→Prop} (h:G_edf_compare o p l n q r m Q):CallV cx n_edf_compare [.agg #[.int .i64 o,.int .i64 p,.bool q],.agg #[.int .i64 l,.int .i64 n,.bool r]] m Q:=
 CallV.of (fn:=Tryz.f149) (LS:=[2,3]) (ann:=[]) ovFr ovNi (by kernel_rfl) (by kernel_rfl) (Eq.mp (by kernel_rfl) h)
def G_edf_order_1 (o p l n:Int) (b d:Bool) (m:Mem) (Q:Value→Mem→Prop):Prop:=
 joinK (fun (j:Mem)=>CallV cx n_edf_compare [.agg #[.int .i64 o,.int .i64 p,.bool b],.agg #[.int .i64 l,.int .i64 n,.bool d]] j fun i g=>∃ f,i=(.int .i64 f)∧Q (.int .i64 f) g) fun e=>joinK (fun (k:Bool) (a:Mem)=>splitB k (Q (.int .i64 (-1:Int)) a) (splitB d (splitB (!b) (Q (.int .i64 1) a) (e a)) (e a))) fun c=>splitB b (c (!d) (bump m 2)) (c false (bump m 2))
theorem G_edf_order_1_ok {o p l n:Int} {b d:Bool} {m:Mem} {Q:Value→Mem→Prop} (h:G_edf_order_1 o p l n b d m Q):CallV cx n_edf_order_1 [.agg #[.int .i64 o,.int .i64 p,.bool b],.agg #[.int .i64 l,.int .i64 n,.bool d]] m Q:=
 CallV.of (fn:=Tryz.f148) (LS:=[2,3]) (ann:=[none,some ⟨[],[],[(2,0,0),(3,1,0)],[0,1],[],3⟩,some ⟨[],[(5,.bool)],[(2,0,0),(3,1,0)],[0,1],[],2⟩]) ovFr ovNi (by kernel_rfl) (by kernel_rfl) (Eq.mp (by kernel_rfl) h)
def G_slices_Insert_sl_model_Serv (g n:Option Addr) (b i a p:Nat) (c:Int) (m:Mem) (Q:Value→Mem→Prop):Prop:=
 ∃ ao au aw,sliceOp cx m t_sl_model_Serv (.slice g b i) (some (.int .i64 c)) none none=some (.slice ao au aw)∧splitB (eqI (lenI a) 0) (Q (.slice g b i) m) (splitB (eqI c (lenI b)) (∃ A z x y,appendA cx m [t_sl_model_Serv,t_sl_model_Serv] [.slice g b i,.slice n a p]=some (.slice A z x,y)∧Q (.slice A z x) y) (∃ K,capA cx m [t_sl_model_Serv] [.slice g b i]=some (.int .i64 K)∧splitB (ltI K (addI .i64 (lenI b) (lenI a))) (∃ F O Z,sliceOp cx m t_sl_model_Serv (.slice g b i) none (some (.int .i64 c)) none=some (.slice F O Z)∧∃ q l k r,appendA cx m [t_sl_model_Serv,t_int] [.slice F O Z,.int .i64 (subI .i64 (addI .i64 (lenI b) (lenI a)) c)]=some (.slice q l k,r)∧∃ T ai H,sliceOp cx r t_sl_model_Serv (.slice q l k) (some (.int .i64 c)) none none=some (.slice T ai H)∧∃ an o,copyA cx r [t_sl_model_Serv,t_sl_model_Serv] [.slice T ai H,.slice n a p]=some (.int .i64 an,o)∧∃ ag L aa,sliceOp cx (bump o 9) t_sl_model_Serv (.slice q l k) (some (.int .i64 (addI .i64 c (lenI a)))) none none=some (.slice ag L aa)∧∃ ad G N,sliceOp cx (bump o 9) t_sl_model_Serv (.slice g b i) (some (.int .i64 c)) none none=some (.slice ad G N)∧∃ av I,copyA cx (bump o 9) [t_sl_model_Serv,t_sl_model_Serv] [.slice ag L aa,.slice ad G N]=some (.int .i64 av,I)∧Q (.slice q l k) I) (∃ f e d,sliceOp cx m t_sl_model_Serv (.slice g b i) none (some (.int .i64 (addI .i64 (lenI b) (lenI a)))) none=some (.slice f e d)∧∃ af S u,sliceOp cx m t_sl_model_Serv (.slice f e d) (some (.int .i64 (addI .i64 c (lenI a)))) none none=some (.slice af S u)∧(CallV cx n_slices_overlaps_model_Serv [.slice n a p,.slice af S u] m fun ap j=>∃ V,ap=(.bool V)∧splitB (!V) (∃ P X U,sliceOp cx (bump j 9) t_sl_model_Serv (.slice f e d) (some (.int .i64 (addI .i64 c (lenI a)))) none none=some (.slice P X U)∧∃ B v W,sliceOp cx (bump j 9) t_sl_model_Serv (.slice f e d) (some (.int .i64 c)) none none=some (.slice B v W)∧∃ ak t,copyA cx (bump j 9) [t_sl_model_Serv,t_sl_model_Serv] [.slice P X U,.slice B v W]=some (.int .i64 ak,t)∧∃ E D ae,sliceOp cx t t_sl_model_Serv (.slice f e d) (some (.int .i64 c)) none none=some (.slice E D ae)∧∃ aj R,copyA cx t [t_sl_model_Serv,t_sl_model_Serv] [.slice E D ae,.slice n a p]=some (.int .i64 aj,R)∧Q (.slice f e d) R) (∃ w ab Y,sliceOp cx j t_sl_model_Serv (.slice f e d) (some (.int .i64 (lenI b))) none none=some (.slice w ab Y)∧∃ ar s,copyA cx j [t_sl_model_Serv,t_sl_model_Serv] [.slice w ab Y,.slice n a p]=some (.int .i64 ar,s)∧∃ M C ac,sliceOp cx s t_sl_model_Serv (.slice f e d) (some (.int .i64 c)) none none=some (.slice M C ac)∧(CallV cx n_slices_rotateRight_model_Serv [.slice M C ac,.int .i64 (lenI a)] s fun aq al=>aq=(.tuple #[])∧Q (.slice f e d) al))))))
theorem G_slices_Insert_sl_model_Serv_ok {g n:Option Addr} {b i a p:Nat} {c:Int} {m:Mem} {Q:Value→Mem→Prop} (h:G_slices_Insert_sl_model_Serv g n b i a p c m Q):CallV cx n_slices_Insert_sl_model_Serv [.slice g b i,.int .i64 c,.slice n a p] m Q:=
 CallV.of (fn:=Tryz.f35) (LS:=[]) (ann:=[]) ovFr ovNi (by kernel_rfl) (by kernel_rfl) (Eq.mp (by kernel_rfl) h)
end
end Go.Proofs.YtiehbnmpaeedpaaGreat.vc0
