import Derived.Test.YtiehbnmpaeedpaaGreatQA20
import Derived.Sort.Grow
import Derived.Shelf.GgSortFunc.InsertionK
import Derived.Test.YtiehbnmpaeedpaaGreatQA21
namespace Go.AX
variable [Kap]
open Go Go.Sort Go.RowKit
section
variable {P:Program} {φ : Phi} {m:Mem} {w:World}
omit [Kap] in
theorem readL_get' {c:Tr Value}:∀ {n o:Nat} {l:List Value},readL c n o=some l→l.length=n∧∀ i,i < n→c.get (o+i)=l[i]?
 | 0,o,l,h=>by cases h; exact ⟨rfl,fun i hi=>by omega⟩
 | n+1,o,l,h=>by
  unfold readL at h
  cases hc:c.get o with
  | none=>rw [hc] at h; cases h
  | some v=>
   rw [hc] at h
   cases hr:readL c n (o+1) with
   | none=>rw [hr] at h; cases h
   | some r=>
    rw [hr] at h
    cases h
    obtain ⟨h1,h2⟩:=readL_get' hr
    refine ⟨by simp [h1],fun i hi=>?_⟩
    cases i with
    | zero=>exact hc
    | succ i=>rw [show o+(i+1)=o+1+i by omega,h2 i (by omega)]; rfl
omit [Kap] in
theorem plain_eq {v v':Value} (h:VR φ v v') (hp:plain1 v=true):v'=v:=by
 cases h <;> simp_all [plain1]
theorem row_anew (hr:RR P φ m w) {b off n k:Nat} {c:Tr Value} {e:TypeId} {x:Bool} {l ls:List Value} {lc:Loc} (hk:m.hp.get b=some (.cells c k e x)) (hb:φ b=some lc) (hn:off+n≤k) (hl:readL c n off=some l)
  (hp:l.all plain1=true) (hps:ls.all plain1=true) (hls:ls.length=n) (hf:m.fl≤b) :
  lc.rb < w.heap.size∧(∀ j,j < l.length→w.cell? ⟨lc.rb,lc.ro+off+j,none⟩=l[j]?∧w.frozen? ⟨lc.rb,lc.ro+off+j,none⟩=false) ∧
   ∀ q os,RR P φ { m with hp:=m.hp.put b (.cells (writeL c ls off) k e x) } (grow (putRow (id:Value→Value) (Sort.ahead w q) lc.rb (lc.ro+off) ls.toArray) os) ∧
    Stp φ m w φ { m with hp:=m.hp.put b (.cells (writeL c ls off) k e x) } (grow (putRow (id:Value→Value) (Sort.ahead w q) lc.rb (lc.ro+off) ls.toArray) os):=by
 obtain ⟨l0,hl0,h5⟩:=hr.r0.obj _ _ hk
 rw [hb] at hl0; cases hl0
 have hlt:=h5.lt
 obtain ⟨c',hc',hnn,hre,hsz,hcells,hx1,hx2⟩:=h5
 obtain ⟨hll,hlg⟩:=readL_get' hl
 refine ⟨hlt,fun j hj=>?_,fun q os=>?_⟩
 ·obtain ⟨v',g2,g3⟩:=hcells (off+j) (by omega)
  have h1:=hlg j (by omega)
  have hjl:l[j]? = some l[j]:=List.getElem?_eq_getElem (by omega)
  have g3:=g3 _ (h1.trans hjl)
  have h2:plain1 l[j]=true:=List.all_eq_true.1 hp _ (List.getElem_mem _)
  rw [plain_eq g3 h2] at g2
  rw [hjl]
  refine ⟨?_,?_⟩
  ·simp only [World.cell?,hc']
   rw [← g2,Nat.add_assoc]; simp
  ·simp only [World.frozen?,hc']
   simp
 ·have hheap:∀ r,(putRow (id:Value→Value) (Sort.ahead w q) lc.rb (lc.ro+off) ls.toArray).heap[r]? = if r=lc.rb then some (.cells (putCells (id:Value→Value) (lc.ro+off) ls.toArray c') e (0,0)) else w.heap[r]?:=by
   intro r
   unfold putRow mapBlock
   show (w.heap.modify lc.rb _)[r]? = _
   rw [Array.getElem?_modify]
   by_cases h:lc.rb=r
   ·subst h
    rw [if_pos rfl,if_pos rfl,hc']; rfl
   ·rw [if_neg h,if_neg (fun e=>h e.symm)]
  have hup:=upd_ok (P:=P) hr.r0 (o:=.cells (writeL c ls off) k e x) (w':=putRow (id:Value→Value) (Sort.ahead w q) lc.rb (lc.ro+off) ls.toArray) hk hb hf (fun r h=>by rw [hheap,if_neg h]) (by unfold putRow mapBlock; show (w.heap.modify _ _).size=_; simp) rfl rfl rfl (Nat.le_add_right _ _) (by
   refine ⟨putCells (id:Value→Value) (lc.ro+off) ls.toArray c',by rw [hheap,if_pos rfl],hnn,hre,by unfold putCells; simpa using hsz,?_,hx1,hx2⟩
   intro i hi
   obtain ⟨v',g2,g3⟩:=hcells i hi
   have hget:(putCells (id:Value→Value) (lc.ro+off) ls.toArray c')[lc.ro+i]? = some (if lc.ro+off≤lc.ro+i∧lc.ro+i < lc.ro+off+ls.length then ls.toArray[lc.ro+i - (lc.ro+off)]! else v'):=by
    unfold putCells
    rw [Array.getElem?_mapIdx,g2]; rfl
   by_cases hin:off≤i∧i < off+ls.length
   ·have h1:i - off < ls.length:=by omega
    refine cellR_of (v:=ls[i - off]) (v':=ls[i - off]) ?_ ?_ ?_
    ·rw [writeL_get,if_pos hin]; simp [h1]
    ·rw [hget,if_pos (by omega),show lc.ro+i - (lc.ro+off)=i - off by omega]
     simp [h1]
    ·have:=List.all_eq_true.1 hps ls[i - off] (List.getElem_mem h1)
     revert this
     generalize ls[i - off]=u
     intro this
     cases u with
     | pointer a=>cases a <;> simp [plain1] at this; exact .ptr0
     | slice a n c=>cases a <;> simp [plain1] at this; exact .sl0 _ _
     | map r=>cases r <;> simp [plain1] at this; exact .map0
     | _=>first | (simp [plain1] at this; done) | constructor
   ·refine ⟨v',?_,fun v hv=>g3 v (by rw [writeL_get,if_neg hin] at hv; exact hv)⟩
    ·rw [hget,if_neg (by omega)])
  have hbel:Go.RowKit.Below (putRow (id:Value→Value) (Sort.ahead w q) lc.rb (lc.ro+off) ls.toArray).heap.size (putRow (id:Value→Value) (Sort.ahead w q) lc.rb (lc.ro+off) ls.toArray) (grow (putRow (id:Value→Value) (Sort.ahead w q) lc.rb (lc.ro+off) ls.toArray) os):=
   ⟨rfl,rfl,rfl,by simp [grow],fun k hk=>heap_grow_old _ _ hk⟩
  have hr1:RR P φ { m with hp:=m.hp.put b (.cells (writeL c ls off) k e x) } (putRow (id:Value→Value) (Sort.ahead w q) lc.rb (lc.ro+off) ls.toArray):=⟨hup.1,hr.fresh,hr.fl⟩
  exact ⟨hr1.below hbel,hup.2.trans (Stp.ofBelow' (fun _=>Nat.le_refl _) hbel)⟩
open Classical in
noncomputable def rowA (sz:Nat) (anew:Nat→List Value→Option (List Value)) (ex:List Value):List Value→Mem→Option (Value×Mem)
 | .slice a n _ :: r,m=>if r=ex then match n,a with
   | 0,_=>some (.tuple #[],m)
   | n+1,some a=>match a.spot,m.hp.get a.block with
    | none,some (.cells c k e x)=>match readL c ((n+1)*sz) a.off with
     | some l=>match anew (n+1) l with
      | some ls=>if a.off+(n+1)*sz≤k∧m.fl≤a.block∧n+1≤1000000000 then some (.tuple #[],{ m with hp:=m.hp.put a.block (.cells (writeL c ls a.off) k e x) }) else none
      | none=>none
     | none=>none
    | _,_=>none
   | _,_=>none
  else none
 | _,_=>none
theorem row_sum {k:FuncId} {fn:Func} (hf:P.funcs[k]? = some fn) (hb:fn.body.isSome=true) (hn:(fn.name == "runtime.NumGoroutine")=false) {sz:Nat} {anew:Nat→List Value→Option (List Value)} {ex:List Value}
  (hex:∀ φ ex',LR φ ex ex'→ex'=ex)
  (h0:∀ p cap w,Calls P k (.slice p 0 cap :: ex).toArray w fun e w'=>e = .returned (.tuple #[])∧w'=w)
  (h1:∀ (l ls:List Value) (n blk off cap:Nat) (w:World),anew n l=some ls→l.length=n*sz→0 < n→n≤1000000000→(∀ j,j < l.length→w.cell? ⟨blk,off+j,none⟩=l[j]?∧w.frozen? ⟨blk,off+j,none⟩=false)→blk < w.heap.size →
   Calls P k (.slice (some ⟨blk,off,none⟩) n cap :: ex).toArray w fun e w'=>e = .returned (.tuple #[])∧∃ q os,w'=grow (putRow (id:Value→Value) (Sort.ahead w q) blk off ls.toArray) os)
  (h2:∀ n l ls,anew n l=some ls→l.all plain1=true∧ls.all plain1=true∧ls.length=l.length):SumOk P k (rowA sz anew ex):=by
 intro args m v m' h φ w args' hl hr
 obtain ⟨bd,hb⟩:=Option.isSome_iff_exists.1 hb
 refine .inl ⟨run_callFunc hf hb hn _ _,?_⟩
 unfold rowA at h
 split at h
 ·rename_i a n c r
  split at h
  ·rename_i hr'
   subst hr'
   obtain ⟨x1,r1,e1,g1,hl⟩:=hl.one
   have e2:=hex _ _ hl
   subst e2
   obtain ⟨l'⟩:=args'
   simp only at e1; subst e1
   split at h
   ·cases h
    have hx:∃ p cap',x1 = .slice p 0 cap':=by cases g1 <;> exact ⟨_,_,rfl⟩
    obtain ⟨p,cap',rfl⟩:=hx
    refine (h0 p cap' w).mono ?_
    rintro e w' ⟨rfl,rfl⟩
    exact ⟨_,φ,rfl,.tuple _ _ rfl (fun i v v' h=>by simp at h),hr,Stp.refl _ _ _⟩
   ·rename_i n a
    split at h
    ·rename_i cc k' e x hs hk
     split at h
     ·rename_i l hrl
      split at h
      ·rename_i ls hls
       split at h
       ·rename_i hc
        cases h
        obtain ⟨p1,p2,p3⟩:=h2 _ _ _ hls
        have hll:=(readL_get' hrl).1
        cases g1 with
        | sl b off _ _ cap' lc hlc hcr=>
         obtain ⟨q1,q2,q3⟩:=row_anew hr hk hlc hc.1 hrl p1 p2 (by omega) hc.2.1
         refine (h1 l ls (n+1) lc.rb (lc.ro+off) cap' w hls hll (by omega) hc.2.2 q2 q1).mono ?_
         rintro e w' ⟨rfl,q,os,rfl⟩
         exact ⟨_,φ,rfl,.tuple _ _ rfl (fun i v v' h=>by simp at h),(q3 q os).1,(q3 q os).2⟩
       ·cases h
      ·cases h
     ·cases h
    ·cases h
   ·cases h
  ·cases h
 ·cases h
def intsOf:List Value→Option (List Int)
 | []=>some []
 | .int .i64 n :: r=>match intsOf r with
  | some l=>some (n :: l)
  | none=>none
 | _=>none
omit [Kap] in
theorem intsOf_map:∀ zs:List Int,intsOf (zs.map (.int .i64 ·))=some zs
 | []=>rfl
 | z :: r=>by
  show (match intsOf (r.map (.int .i64 ·)) with | some l=>some (z :: l) | none=>none)=_
  rw [intsOf_map r]
omit [Kap] in
theorem intsOf_eq:∀ {l:List Value} {zs:List Int},intsOf l=some zs→l=zs.map (.int .i64 ·)
 | [],zs,h=>by cases h; rfl
 | v :: r,zs,h=>by
  unfold intsOf at h
  split at h
  ·rename_i heq; cases heq
  ·rename_i n r' heq
   cases heq
   split at h
   ·rename_i l hl
    cases h
    rw [intsOf_eq hl]; rfl
   ·cases h
  ·cases h
def sortI (zs:List Int):List Int:=zs.mergeSort fun x y=>decide (x≤y)
def anewI (_:Nat) (l:List Value):Option (List Value):=match intsOf l with
 | some zs=>some ((sortI zs).map (.int .i64 ·))
 | none=>none
omit [Kap] in
theorem putRow_map {α : Type} [Inhabited α] (enc:α→Value) (w:World) (blk off:Nat) (d:Array α):putRow enc w blk off d=putRow (id:Value→Value) w blk off (d.map enc):=by
 unfold putRow
 refine mapBlock_congr w blk _ _ fun c e fr _=>?_
 unfold putCells
 apply Array.ext_getElem?
 intro k
 rw [Array.getElem?_mapIdx,Array.getElem?_mapIdx,Array.size_map]
 cases c[k]? with
 | none=>rfl
 | some x=>
  simp only [Option.map_some]
  by_cases h:off≤k∧k < off+d.size
  ·rw [if_pos h,if_pos h]
   have hk:k - off < d.size:=by omega
   rw [getElem!_pos d (k - off) hk,getElem!_pos (d.map enc) (k - off) (by simpa using hk)]
   simp
  ·rw [if_neg h,if_neg h]
theorem sortInts_sum {k:FuncId} {fn:Func} (hf:P.funcs[k]? = some fn) (hb:fn.body.isSome=true) (hn:(fn.name == "runtime.NumGoroutine")=false)
  (h0:∀ p cap w,Calls P k #[.slice p 0 cap] w fun e w'=>e = .returned (.tuple #[])∧w'=w)
  (hc:∀ (blk off cap:Nat) (zs:List Int) (w:World),Holds (Value.int .i64) w blk off zs.toArray→blk < w.heap.size→zs.length < 4611686018427387904 →
   Calls P k #[.slice (some ⟨blk,off,none⟩) zs.length cap] w fun e w'=>e = .returned (.tuple #[])∧∃ n os,w'=grow (putRow (Value.int .i64) (Sort.ahead w n) blk off (zs.mergeSort fun x y=>decide (x≤y)).toArray) os):SumOk P k (rowA 1 anewI []):=by
 refine row_sum hf hb hn (fun φ ex' h=>h.nil_iff) h0 (fun l ls n blk off cap w ha hl hn1 hn2 hcell hblk=>?_) (fun n l ls ha=>?_)
 ·unfold anewI at ha
  split at ha
  ·rename_i zs hz
   cases ha
   have el:=intsOf_eq hz
   subst el
   rw [List.length_map,Nat.mul_one] at hl
   subst hl
   refine (hc blk off cap zs w (fun j hj=>?_) hblk (by omega)).mono ?_
   ·have hj':j < zs.length:=by simpa using hj
    obtain ⟨c1,c2⟩:=hcell j (by simpa using hj')
    refine ⟨?_,c2⟩
    rw [c1,List.getElem?_map,List.getElem?_eq_getElem hj',getElem!_pos zs.toArray j hj]
    simp
   ·rintro e w' ⟨rfl,q,os,rfl⟩
    refine ⟨rfl,q,os,?_⟩
    rw [putRow_map]
    congr 2
    simp [sortI]
  ·cases ha
 ·unfold anewI at ha
  split at ha
  ·rename_i zs hz
   cases ha
   have el:=intsOf_eq hz
   subst el
   refine ⟨by simp [plain1],by simp [plain1],by simp [sortI]⟩
  ·cases ha
section
variable {α : Type}
def anewK (enc:α→List Value) (dec:List Value→Option (List α)) (srt:List α→List α) (n:Nat) (l:List Value):Option (List Value):=match dec l with
 | some xs=>if xs.length=n then some ((srt xs).flatMap enc) else none
 | none=>none
end
end
end Go.AX
namespace Go.AX
variable [Kap]
open Go Go.Sort Go.Proofs
section
variable {P:Program} {α : Type} {enc:α→List Value} {k:Nat}
omit [Kap] in
theorem flat_getK (hk:∀ x,(enc x).length=k) (h0:0 < k):∀ (l:List α) (t:Nat),(l.flatMap enc)[t]? = (l[t / k]?).bind fun x=>(enc x)[t % k]?
 | [],t=>by simp
 | x :: r,t=>by
  rw [List.flatMap_cons,List.getElem?_append,hk x]
  by_cases h:t < k
  ·rw [if_pos h,Nat.div_eq_of_lt h,Nat.mod_eq_of_lt h]; rfl
  ·rw [if_neg h,flat_getK hk h0 r]
   have e1:t / k=(t - k) / k+1:=by
    rw [← Nat.add_div_right _ h0,Nat.sub_add_cancel (by omega)]
   have e2:t % k=(t - k) % k:=by
    rw [← Nat.mod_eq_sub_mod (by omega)]
   rw [e1,e2]; rfl
omit [Kap] in
theorem flat_lengthK (hk:∀ x,(enc x).length=k) (l:List α):(l.flatMap enc).length=l.length*k:=by
 induction l with
 | nil=>simp
 | cons x r ih=>rw [List.flatMap_cons,List.length_append,ih,hk x,List.length_cons,Nat.succ_mul,Nat.add_comm]
omit [Kap] in
theorem flatK_eq [Inhabited α] (hk:∀ x,(enc x).length=k) (h0:0 < k) (d:Array α):flatK enc k d=(d.toList.flatMap enc).toArray:=by
 apply Array.ext_getElem?
 intro t
 have e0:(d.toList.flatMap enc).toArray[t]? = (d.toList.flatMap enc)[t]?:=by simp
 rw [e0,flat_getK hk h0]
 by_cases h:t < d.size*k
 ·have hd:t / k < d.size:=(Nat.div_lt_iff_lt_mul h0).2 h
  have hm:t % k < k:=Nat.mod_lt _ h0
  rw [Array.getElem?_eq_getElem (by rw [size_flatK]; exact h)]
  have h2:=get_flatK enc k d t h
  rw [getElem!_pos (flatK enc k d) t (by rw [size_flatK]; exact h)] at h2
  rw [h2,getElem!_pos d (t / k) hd,getElem!_pos _ (t % k) (by rw [hk]; exact hm)]
  have e1:d.toList[t / k]? = some d[t / k]:=by simp [hd]
  rw [e1]
  simp only [Option.bind_some]
  rw [List.getElem?_eq_getElem (by rw [hk]; exact hm)]
 ·rw [Array.getElem?_eq_none (by rw [size_flatK]; omega)]
  have hd:¬ t / k < d.size:=fun h2=>h ((Nat.div_lt_iff_lt_mul h0).1 h2)
  have e1:d.toList[t / k]? = none:=by simp; omega
  rw [e1]; rfl
theorem sortK_sum [Inhabited α] {f:FuncId} {fn:Func} (hf:P.funcs[f]? = some fn) (hb:fn.body.isSome=true) (hn:(fn.name == "runtime.NumGoroutine")=false) (hk:∀ x,(enc x).length=k) (hk0:0 < k) (hp:∀ x,(enc x).all plain1=true)
  {dec:List Value→Option (List α)} {srt:List α→List α} (hdec:∀ l xs,dec l=some xs→l=xs.flatMap enc) (hs:∀ xs,(srt xs).length=xs.length) {fv:Value} (hfv:∀ φ v,VR φ fv v→v=fv)
  (h0:∀ p cap w,Calls P f #[.slice p 0 cap,fv] w fun e w'=>e = .returned (.tuple #[])∧w'=w)
  (hc:∀ (blk off cap:Nat) (d:Array α) (w:World),HoldsK enc k w blk off d→blk < w.heap.size→d.size < 4611686018427387904 →
   Calls P f #[.slice (some ⟨blk,off,none⟩) d.size cap,fv] w fun e w'=>e = .returned (.tuple #[])∧∃ n os,w'=sortWorldK enc k w blk off n (srt d.toList).toArray os):SumOk P f (rowA k (anewK enc dec srt) [fv]):=by
 have hall:∀ xs:List α,(xs.flatMap enc).all plain1=true:=fun xs=>by
  rw [List.all_eq_true]
  intro v hv
  obtain ⟨x,_,hx⟩:=List.mem_flatMap.1 hv
  exact List.all_eq_true.1 (hp x) v hx
 refine row_sum hf hb hn (fun φ ex' h=>?_) h0 (fun l ls n blk off cap w ha hl hn1 hn2 hcell hblk=>?_) (fun n l ls ha=>?_)
 ·obtain ⟨x',r,rfl,hx,hr⟩:=h.one
  rw [hr.none,hfv _ _ hx]
 ·unfold anewK at ha
  split at ha
  ·rename_i xs hz
   split at ha
   ·rename_i hlen
    cases ha
    have el:=hdec _ _ hz
    subst el
    subst hlen
    have hc1:=hc blk off cap xs.toArray w (fun j hj=>by
     have hfk:=flatK_eq hk hk0 xs.toArray
     rw [size_flatK] at hj
     simp only [List.size_toArray] at hj
     have hj':j < (xs.flatMap enc).length:=by rw [flat_lengthK hk]; exact hj
     obtain ⟨c1,c2⟩:=hcell j hj'
     refine ⟨?_,c2⟩
     rw [c1,hfk]
     simp only [id]
     rw [getElem!_pos _ j (by simpa using hj')]
     simp only [List.getElem_toArray]
     rw [List.getElem?_eq_getElem hj']) hblk (by simp; omega)
    simp only [List.size_toArray] at hc1
    refine hc1.mono ?_
    rintro e w' ⟨rfl,q,os,rfl⟩
    refine ⟨rfl,q,os,?_⟩
    unfold sortWorldK putRowK
    rw [flatK_eq hk hk0]
   ·cases ha
  ·cases ha
 ·unfold anewK at ha
  split at ha
  ·rename_i xs hz
   split at ha
   ·cases ha
    have el:=hdec _ _ hz
    subst el
    exact ⟨hall _,hall _,by rw [flat_lengthK hk,flat_lengthK hk,hs]⟩
   ·cases ha
  ·cases ha
end
end Go.AX
namespace Go.AX
set_option linter.unusedVariables false
set_option linter.unusedSectionVars false
open Go
set_option linter.unusedSimpArgs false
abbrev Sum:=List Value→Mem→Option (Value×Mem)
def FrF (f:Sum):Prop:=∀ a u r u',f a u=some (r,u')→∀ E m,Bes E u m→∃ m',f a m=some (r,m')∧Bes E u' m'
def NiF (f:Sum):Prop:=∀ a u r u',f a u=some (r,u')→Wf u→Nice u u'
theorem ov_mem:∀ {l:List (Nat×Sum)} {k:Nat} {f:Sum},(l.foldr (fun x t=>Tr.put t x.1 x.2) .nil).get k=some f→∃ x∈l,x.1=k∧x.2=f
 | [],k,f,h=>by rw [List.foldr_nil,Tr.get_nil] at h; cases h
 | x :: r,k,f,h=>by
  rw [List.foldr_cons,Tr.get_put] at h
  by_cases e:k=x.1
  ·rw [if_pos e] at h; cases h
   exact ⟨x,List.mem_cons_self ..,e.symm,rfl⟩
  ·rw [if_neg e] at h
   obtain ⟨y,h1,h2⟩:=ov_mem h
   exact ⟨y,List.mem_cons_of_mem _ h1,h2⟩
theorem ovFr_list {cx:Cx} {l:List (Nat×Sum)} (h:cx.ov=l.foldr (fun x t=>Tr.put t x.1 x.2) .nil) (hl:∀ x∈l,FrF x.2):OvFr cx:=fun k f hf=>by
 rw [h] at hf
 obtain ⟨x,h1,_,rfl⟩:=ov_mem hf
 exact hl x h1
theorem ovNi_list {cx:Cx} {l:List (Nat×Sum)} (h:cx.ov=l.foldr (fun x t=>Tr.put t x.1 x.2) .nil) (hl:∀ x∈l,NiF x.2):OvNi cx:=fun k f hf=>by
 rw [h] at hf
 obtain ⟨x,h1,_,rfl⟩:=ov_mem hf
 exact hl x h1
theorem ovOk_list [Kap] {P:Program} {cx:Cx} {l:List (Nat×Sum)} (h:cx.ov=l.foldr (fun x t=>Tr.put t x.1 x.2) .nil) (hl:∀ x∈l,SumOk P x.1 x.2):OvOk P cx:=fun k f hf=>by
 rw [h] at hf
 obtain ⟨x,h1,rfl,rfl⟩:=ov_mem hf
 exact hl x h1
theorem trueA_fr:FrF trueA:=fun a u r u' e E m hb=>by
 unfold trueA at e ⊢
 split at e
 ·cases e; exact ⟨m,rfl,hb⟩
 ·cases e
theorem trueA_ni:NiF trueA:=fun a u r u' e hw=>by
 unfold trueA at e
 split at e
 ·cases e; exact Nice.refl hw
 ·cases e
theorem rowA_fr {sz:Nat} {anew:Nat→List Value→Option (List Value)} {ex:List Value}:FrF (rowA sz anew ex):=fun a u r u' e E m hb=>by
 unfold rowA at e ⊢
 split at e
 ·rename_i ad n c rr
  split at e
  ·rename_i hr
   rw [if_pos hr]
   split at e
   ·cases e; exact ⟨m,rfl,hb⟩
   ·rename_i n ad
    split at e
    ·rename_i c k et x hs hg
     split at e
     ·rename_i l hl
      split at e
      ·rename_i ls hls
       split at e
       ·rename_i hc
        cases e
        refine ⟨_,?_,hb.put (hb.noE hg) _⟩
        simp only [hs,hb.got hg,hl,hls]
        rw [if_pos (by rw [hb.fl]; exact hc)]
       ·cases e
      ·cases e
     ·cases e
    ·cases e
   ·cases e
  ·cases e
 ·cases e
theorem rowA_ni {sz:Nat} {anew:Nat→List Value→Option (List Value)} {ex:List Value}:NiF (rowA sz anew ex):=fun a u r u' e hw=>by
 unfold rowA at e
 split at e
 ·split at e
  ·split at e
   ·cases e; exact Nice.refl hw
   ·split at e
    ·rename_i hg
     split at e
     ·split at e
      ·split at e
       ·cases e
        refine ⟨⟨hw.1,fun b hb=>?_⟩,rfl,Nat.le_refl _⟩
        show (u.hp.put _ _).get b=none
        have:=hw.lt hg
        rw [Tr.get_put,if_neg (by intro h; subst h; exact absurd hb (by simpa using this))]
        exact hw.2 b hb
       ·cases e
      ·cases e
     ·cases e
    ·cases e
   ·cases e
  ·cases e
 ·cases e
theorem insA_fr {cxb:Cx} {t e sz by_:Nat}:FrF (insA cxb t e sz by_):=fun _ _ _ _ e E m hb=>insA_bes e E m hb
theorem insA_ni {cxb:Cx} {t e sz by_:Nat}:NiF (insA cxb t e sz by_):=fun _ _ _ _ e hw=>insA_nice e hw
end Go.AX
namespace Go.Proofs.YtiehbnmpaeedpaaGreat.vc
open Go Go.AX
noncomputable section
def encE (x:pl.E):List Value:=[.int .i64 x.1,.int .i64 x.2.1,.bool x.2.2]
def decE:List Value→Option (List pl.E)
 | []=>some []
 | .int .i64 a :: .int .i64 b :: .bool c :: r=>match decE r with
  | some l=>some ((a,b,c) :: l)
  | none=>none
 | _=>none
theorem decE_flat:∀ l:List pl.E,decE (l.flatMap encE)=some l
 | []=>rfl
 | (a,b,c) :: l=>by
  show (match decE (l.flatMap encE) with | some l=>some ((a,b,c) :: l) | none=>none)=_
  rw [decE_flat l]
theorem decE_eq {l:List Value} {xs:List pl.E} (h:decE l=some xs):l=xs.flatMap encE:=by
 fun_induction decE l generalizing xs with
 | case1=>cases h; rfl
 | case2 a b c r l hl ih=>
  cases h
  rw [ih hl]; rfl
 | case3=>cases h
 | case4=>cases h
def srtA:List Value→Mem→Option (Value×Mem):=rowA 3 (anewK encE decE pl.srt) [.func (.func n_edf_order_1) #[] #[]]
def intsA:List Value→Mem→Option (Value×Mem):=rowA 1 anewI []
def servA:List Value→Mem→Option (Value×Mem):=insA vc0.cx t_sl_model_Serv t_model_Serv 11 104
def ovl:List (Nat×(List Value→Mem→Option (Value×Mem))):=[(n_law_awake,trueA),(n_slices_Sort_sl_int,intsA),(n_slices_SortFunc_sl_edf_Ent,srtA),(n_slices_Insert_sl_model_Serv,servA)]
def ov:Tr (List Value→Mem→Option (Value×Mem)):=ovl.foldr (fun x t=>t.put x.1 x.2) .nil
def cx:Cx:=Cx.of Tryz.prog ov
theorem cxOk:CxOk Tryz.prog cx:=CxOk.of _ _
theorem ov_awake:cx.ov.get n_law_awake=some trueA:=by
 show (ovl.foldr (fun x t=>Tr.put t x.1 x.2) .nil).get _=_
 simp only [ovl,List.foldr_cons,List.foldr_nil,Tr.get_put]; rfl
theorem ov_ints:cx.ov.get n_slices_Sort_sl_int=some intsA:=by
 show (ovl.foldr (fun x t=>Tr.put t x.1 x.2) .nil).get _=_
 simp only [ovl,List.foldr_cons,List.foldr_nil,Tr.get_put]; rfl
theorem ov_srt:cx.ov.get n_slices_SortFunc_sl_edf_Ent=some srtA:=by
 show (ovl.foldr (fun x t=>Tr.put t x.1 x.2) .nil).get _=_
 simp only [ovl,List.foldr_cons,List.foldr_nil,Tr.get_put]; rfl
theorem ov_serv:cx.ov.get n_slices_Insert_sl_model_Serv=some servA:=by
 show (ovl.foldr (fun x t=>Tr.put t x.1 x.2) .nil).get _=_
 simp only [ovl,List.foldr_cons,List.foldr_nil,Tr.get_put]; rfl
theorem ovE:cx.ov=ovl.foldr (fun x t=>Tr.put t x.1 x.2) .nil:=rfl
theorem srtA_fr:FrF srtA:=rowA_fr
theorem srtA_ni:NiF srtA:=rowA_ni
theorem intsA_fr:FrF intsA:=rowA_fr
theorem intsA_ni:NiF intsA:=rowA_ni
theorem servA_fr:FrF servA:=insA_fr
theorem servA_ni:NiF servA:=insA_ni
theorem ovFr:OvFr cx:=ovFr_list ovE fun x hx=>by
 simp only [ovl,List.mem_cons,List.not_mem_nil,or_false] at hx
 rcases hx with h | h | h | h <;> rw [h]
 ·exact trueA_fr
 ·exact intsA_fr
 ·exact srtA_fr
 ·exact servA_fr
theorem ovNi:OvNi cx:=ovNi_list ovE fun x hx=>by
 simp only [ovl,List.mem_cons,List.not_mem_nil,or_false] at hx
 rcases hx with h | h | h | h <;> rw [h]
 ·exact trueA_ni
 ·exact intsA_ni
 ·exact srtA_ni
 ·exact servA_ni
end
end Go.Proofs.YtiehbnmpaeedpaaGreat.vc
