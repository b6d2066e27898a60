import Derived.Test.YthpnifigjfplbaaGreatQU17
import Derived.Sort.Grow
namespace Go.AX
variable [Kap]
open Go Go.Sort Go.RowKit
section
variable {P:Program} {φ : cV} {m:Mem} {w:World}
omit [Kap]in
theorem xf{c:Tr Value}:∀{n o:Nat} {l:List Value},iG c n o=some l->l.length=n/\∀i,i<n->c.get (o+i)=l[i]?
 | 0,o,l,h=>by cases h;exact⟨rfl,fun i hi=>by omega⟩
 | n+1,o,l,h=>by
  unfold iG at h;cases hc:c.get o with
  | none=>rw[hc]at h;cases h
  | some v=>
   rw[hc]at h;cases hr:iG c n (o+1)with
   | none=>rw[hr]at h;cases h
   | some r=>
    rw[hr]at h;cases h;obtain⟨h1,h2⟩:=xf hr;refine⟨by simp[h1],fun i hi=>?_⟩;cases i with
    | zero=>exact hc
    | succ i=>rw[show o+(i+1)=o+1+i by omega,h2 i (by omega)];rfl
omit [Kap]in
theorem ML{v v':Value}(h:VR φ v v')(hp:plain1 v=true):v'=v:=by
 cases h<;>simp_all[plain1]
theorem MM(hr:RR P φ m w){b off n k:Nat}{c:Tr Value}{e:TypeId}{x:Bool}{l ls:List Value}{lc:Loc}(hk:m.hp.get b=some (.cells c k e x))(hb:φ b=some lc)(hn:off+n<=k)(hl:iG c n off=some l)
  (hp:l.all plain1=true) (hps:ls.all plain1=true) (hls:ls.length=n) (hf:m.fl<=b) :
  lc.rb<w.heap.size/\(∀j,j<l.length->w.cell? ⟨lc.rb,lc.ro+off+j,none⟩=l[j]?/\w.frozen? ⟨lc.rb,lc.ro+off+j,none⟩=false)/\
   ∀q os,RR P φ { m with hp:=m.hp.put b (.cells (ec c ls off) k e x) } (grow (putRow (id:Value->Value) (Sort.ahead w q) lc.rb (lc.ro+off) ls.toArray) os)/\
    Stp φ m w φ { m with hp:=m.hp.put b (.cells (ec c ls off) k e x) } (grow (putRow (id:Value->Value) (Sort.ahead w q) lc.rb (lc.ro+off) ls.toArray) os):=by
 obtain⟨l0,hl0,h5⟩:=hr.r0.obj _ _ hk;rw[hb]at hl0;cases hl0;have hlt:=h5.lt;obtain⟨c',hc',hnn,hre,hsz,hcells,hx1,hx2⟩:=h5;obtain⟨hll,hlg⟩:=xf hl;refine⟨hlt,fun j hj=>?_,fun q os=>?_⟩
 .obtain⟨v',g2,g3⟩:=hcells (off+j) (by omega);have h1:=hlg j (by omega);have hjl:l[j]? = some l[j]:=gQ2 (by omega);have g3:=g3 _ (h1.trans hjl);have h2:plain1 l[j]=true:=List.all_eq_true.1 hp _ (List.getElem_mem _);rw[ML g3 h2]at g2;rw[hjl];refine⟨?_,?_⟩
  .simp only[World.cell?,hc'];rw[<-g2,Nat.add_assoc];simp
  .simp only[World.frozen?,hc'];simp
 .have hheap:∀r,(putRow (id:Value->Value) (Sort.ahead w q) lc.rb (lc.ro+off) ls.toArray).heap[r]? = if r=lc.rb then some (.cells (putCells (id:Value->Value) (lc.ro+off) ls.toArray c') e (0,0)) else w.heap[r]?:=by
   intro r;unfold putRow mapBlock;show (w.heap.modify lc.rb _)[r]? = _;rw[Array.getElem?_modify];by_cases h:lc.rb=r
   .subst h;rw[if_pos rfl,if_pos rfl,hc'];rfl
   .rw[if_neg h,if_neg (fun e=>h e.symm)]
  have hup:=FX (P:=P) hr.r0 (o:=.cells (ec c ls off) k e x) (w':=putRow (id:Value->Value) (Sort.ahead w q) lc.rb (lc.ro+off) ls.toArray) hk hb hf (fun r h=>by rw[hheap,if_neg h]) (by unfold putRow mapBlock;show (w.heap.modify _ _).size=_;simp) rfl rfl rfl (Nat.le_add_right _ _) (by
   refine⟨putCells (id:Value->Value) (lc.ro+off) ls.toArray c',by rw[hheap,if_pos rfl],hnn,hre,by unfold putCells;simpa using hsz,?_,hx1,hx2⟩;intro i hi;obtain⟨v',g2,g3⟩:=hcells i hi;have hget:(putCells (id:Value->Value) (lc.ro+off) ls.toArray c')[lc.ro+i]? = some (if lc.ro+off<=lc.ro+i/\lc.ro+i<lc.ro+off+ls.length then ls.toArray[lc.ro+i-(lc.ro+off)]! else v'):=by
    unfold putCells;rw[Array.getElem?_mapIdx,g2];rfl
   by_cases hin:off<=i/\i<off+ls.length
   ·have h1:i-off<ls.length:=by omega
    refine lP (v:=ls[i-off]) (v':=ls[i-off]) ?_ ?_ ?_
    ·rw[gn,if_pos hin];simp[h1]
    ·rw[hget,if_pos (by omega),show lc.ro+i-(lc.ro+off)=i-off by omega];simp[h1]
    ·have:=List.all_eq_true.1 hps ls[i-off] (List.getElem_mem h1);revert this;generalize ls[i-off]=u;intro this;cases u with
     | pointer a=>cases a<;>simp[plain1]at this;exact .ptr0
     | slice a n c=>cases a<;>simp[plain1]at this;exact .sl0 _ _
     | map r=>cases r<;>simp[plain1]at this;exact .map0
     | _=>first|(simp[plain1]at this;done)|constructor
   ·refine⟨v',?_,fun v hv=>g3 v (by rw[gn,if_neg hin]at hv;exact hv)⟩
    ·rw[hget,if_neg (by omega)])
  have hbel:Go.RowKit.Below (putRow (id:Value->Value) (Sort.ahead w q) lc.rb (lc.ro+off) ls.toArray).heap.size (putRow (id:Value->Value) (Sort.ahead w q) lc.rb (lc.ro+off) ls.toArray) (grow (putRow (id:Value->Value) (Sort.ahead w q) lc.rb (lc.ro+off) ls.toArray) os):=
   ⟨rfl,rfl,rfl,by simp[grow],fun k hk=>heap_grow_old _ _ hk⟩
  have hr1:RR P φ { m with hp:=m.hp.put b (.cells (ec c ls off) k e x) } (putRow (id:Value->Value) (Sort.ahead w q) lc.rb (lc.ro+off) ls.toArray):=⟨hup.1,hr.fresh,hr.fl⟩;exact⟨hr1.below hbel,hup.2.trans (Stp.ofBelow' (fun _=>gQ4 _) hbel)⟩
open Classical in
noncomputable def qe(sz:Nat)(anew:Nat->List Value->Option (List Value))(ex:List Value):List Value->Mem->Option (Value×Mem)
 | .slice a n _::r,m=>if r=ex then match n,a with
   | 0,_=>some (.tuple #[],m)
   | n+1,some a=>match a.spot,m.hp.get a.block with
    | none,some (.cells c k e x)=>match iG c ((n+1)*sz) a.off with
     | some l=>match anew (n+1) l with
      | some ls=>if a.off+(n+1)*sz<=k/\m.fl<=a.block/\n+1<=1000000000 then some (.tuple #[],{ m with hp:=m.hp.put a.block (.cells (ec c ls a.off) k e x) }) else none
      | none=>none
     | none=>none
    | _,_=>none
   | _,_=>none
  else none
 | _,_=>none
theorem H7{k:FuncId}{fn:Func}(hf:P.funcs[k]? = some fn)(hb:fn.body.isSome=true)(hn:(fn.name == "runtime.NumGoroutine")=false){sz:Nat}{anew:Nat->List Value->Option (List Value)}{ex:List Value}
  (hex:∀φ ex',LR φ ex ex'->ex'=ex)
  (h0:∀p cap w,Calls P k (.slice p 0 cap::ex).toArray w fun e w'=>e = .returned (.tuple #[])/\w'=w)
  (h1:∀(l ls:List Value) (n blk off cap:Nat) (w:World),anew n l=some ls->l.length=n*sz->0<n->n<=1000000000->(∀j,j<l.length->w.cell? ⟨blk,off+j,none⟩=l[j]?/\w.frozen? ⟨blk,off+j,none⟩=false)->blk<w.heap.size->
   Calls P k (.slice (some ⟨blk,off,none⟩) n cap::ex).toArray w fun e w'=>e = .returned (.tuple #[])/\∃q os,w'=grow (putRow (id:Value->Value) (Sort.ahead w q) blk off ls.toArray) os)
  (h2:∀n l ls,anew n l=some ls->l.all plain1=true/\ls.all plain1=true/\ls.length=l.length):jZ P k (qe sz anew ex):=by
 intro args m v m' h φ w args' hl hr;obtain⟨bd,hb⟩:=Option.isSome_iff_exists.1 hb;refine .inl ⟨qd hf hb hn _ _,?_⟩;unfold qe at h;split at h
 .rename_i a n c r;split at h
  .rename_i hr';subst hr';obtain⟨x1,r1,e1,g1,hl⟩:=hl.one;have e2:=hex _ _ hl;subst e2;obtain⟨l'⟩:=args';simp only at e1;subst e1;split at h
   .cases h;have hx:∃p cap',x1 = .slice p 0 cap':=by cases g1<;>exact⟨_,_,rfl⟩
    obtain⟨p,cap',rfl⟩:=hx;refine(h0 p cap' w).mono ?_;rintro e w' ⟨rfl,rfl⟩;exact⟨_,φ,rfl,.tuple _ _ rfl (fun i v v' h=>by simp at h),hr,Stp.refl _ _ _⟩
   .rename_i n a;split at h
    .rename_i cc k' e x hs hk;split at h
     .rename_i l hrl;split at h
      .rename_i ls hls;split at h
       .rename_i hc;cases h;obtain⟨p1,p2,p3⟩:=h2 _ _ _ hls;have hll:=(xf hrl).1;cases g1 with
        | sl b off _ _ cap' lc hlc hcr=>
         obtain⟨q1,q2,q3⟩:=MM hr hk hlc hc.1 hrl p1 p2 (by omega) hc.2.1;refine(h1 l ls (n+1) lc.rb (lc.ro+off) cap' w hls hll (by omega) hc.2.2 q2 q1).mono ?_;rintro e w' ⟨rfl,q,os,rfl⟩;exact⟨_,φ,rfl,.tuple _ _ rfl (fun i v v' h=>by simp at h),(q3 q os).1,(q3 q os).2⟩
       .cases h
      .cases h
     .cases h
    .cases h
   .cases h
  .cases h
 .cases h
def vZ:List Value->Option (List Int)
 | []=>some []
 | .int .i64 n::r=>match vZ r with
  | some l=>some (n::l)
  | none=>none
 | _=>none
omit [Kap]in
theorem BV:∀zs:List Int,vZ (zs.map (.int .i64 ·))=some zs
 | []=>rfl
 | z::r=>by
  show (match vZ (r.map (.int .i64 ·))with|some l=>some (z::l)|none=>none)=_;rw[BV r]
omit [Kap]in
theorem yP:∀{l:List Value} {zs:List Int},vZ l=some zs->l=zs.map (.int .i64 ·)
 | [],zs,h=>by cases h;rfl
 | v::r,zs,h=>by
  unfold vZ at h;split at h
  .rename_i heq;cases heq
  .rename_i n r' heq;cases heq;split at h
   .rename_i l hl;cases h;rw[yP hl];rfl
   .cases h
  .cases h
def Jb(zs:List Int):List Int:=zs.mergeSort fun x y=>decide (x<=y)
def BW(_:Nat)(l:List Value):Option (List Value):=match vZ l with
 | some zs=>some ((Jb zs).map (.int .i64 ·))
 | none=>none
omit [Kap]in
theorem Jc{α : Type}[Inhabited α](enc:α->Value)(w:World)(blk off:Nat)(d:Array α):putRow enc w blk off d=putRow (id:Value->Value) w blk off (d.map enc):=by
 unfold putRow;refine mapBlock_congr w blk _ _ fun c e fr _=>?_
 unfold putCells;apply Array.ext_getElem?;intro k;rw[Array.getElem?_mapIdx,Array.getElem?_mapIdx,Array.size_map];cases c[k]? with
 | none=>rfl
 | some x=>
  simp only[Option.map_some];by_cases h:off<=k/\k<off+d.size
  .rw[if_pos h,if_pos h];have hk:k-off<d.size:=by omega
   rw[getElem!_pos d (k-off) hk,getElem!_pos (d.map enc) (k-off) (by simpa using hk)];simp
  .rw[if_neg h,if_neg h]
theorem Gy{k:FuncId}{fn:Func}(hf:P.funcs[k]? = some fn)(hb:fn.body.isSome=true)(hn:(fn.name == "runtime.NumGoroutine")=false)
  (h0:∀p cap w,Calls P k #[.slice p 0 cap] w fun e w'=>e = .returned (.tuple #[])/\w'=w)
  (hc:∀(blk off cap:Nat) (zs:List Int) (w:World),Holds (Value.int .i64) w blk off zs.toArray->blk<w.heap.size->zs.length<4611686018427387904->
   Calls P k #[.slice (some ⟨blk,off,none⟩) zs.length cap] w fun e w'=>e = .returned (.tuple #[])/\∃n os,w'=grow (putRow (Value.int .i64) (Sort.ahead w n) blk off (zs.mergeSort fun x y=>decide (x<=y)).toArray) os):jZ P k (qe 1 BW []):=by
 refine H7 hf hb hn (fun φ ex' h=>h.nil_iff) h0 (fun l ls n blk off cap w ha hl hn1 hn2 hcell hblk=>?_) (fun n l ls ha=>?_)
 .unfold BW at ha;split at ha
  .rename_i zs hz;cases ha;have el:=yP hz;subst el;rw[List.length_map,Nat.mul_one]at hl;subst hl;refine(hc blk off cap zs w (fun j hj=>?_) hblk (by omega)).mono ?_
   .have hj':j<zs.length:=by simpa using hj
    obtain⟨c1,c2⟩:=hcell j (by simpa using hj');refine⟨?_,c2⟩;rw[c1,List.getElem?_map,gQ2 hj',getElem!_pos zs.toArray j hj];simp
   .rintro e w' ⟨rfl,q,os,rfl⟩;refine⟨rfl,q,os,?_⟩;rw[Jc];congr 2;simp[Jb]
  .cases ha
 .unfold BW at ha;split at ha
  .rename_i zs hz;cases ha;have el:=yP hz;subst el;refine⟨by simp[plain1],by simp[plain1],by simp[Jb]⟩
  .cases ha
section
variable {α : Type}
def BX(enc:α->List Value)(dec:List Value->Option (List α))(srt:List α->List α)(n:Nat)(l:List Value):Option (List Value):=match dec l with
 | some xs=>if xs.length=n then some ((srt xs).flatMap enc) else none
 | none=>none
end
end
end Go.AX
