import Derived.Test.YthpnifigjfplbaaGreatQU19
import Derived.Shelf.GgSortFunc.InsertionK
namespace Go.AX
variable [Kap]
open Go Go.Sort Go.Proofs
section
variable {P:Program} {α : Type} {enc:α->List Value} {k:Nat}
omit [Kap]in
theorem D9(hk:∀x,(enc x).length=k)(h0:0<k):∀(l:List α) (t:Nat),(l.flatMap enc)[t]? = (l[t / k]?).bind fun x=>(enc x)[t % k]?
 | [],t=>by simp
 | x::r,t=>by
  rw[List.flatMap_cons,List.getElem?_append,hk x];by_cases h:t<k
  .rw[if_pos h,Nat.div_eq_of_lt h,Nat.mod_eq_of_lt h];rfl
  .rw[if_neg h,D9 hk h0 r];have e1:t / k=(t-k) / k+1:=by
    rw[<-Nat.add_div_right _ h0,Nat.sub_add_cancel (by omega)]
   have e2:t % k=(t-k) % k:=by
    rw[<-Nat.mod_eq_sub_mod (by omega)]
   rw[e1,e2];rfl
omit [Kap]in
theorem tO(hk:∀x,(enc x).length=k)(l:List α):(l.flatMap enc).length=l.length*k:=by
 induction l with
 | nil=>simp
 | cons x r ih=>rw[List.flatMap_cons,gR2,ih,hk x,List.length_cons,Nat.succ_mul,Nat.add_comm]
omit [Kap]in
theorem Gz[Inhabited α](hk:∀x,(enc x).length=k)(h0:0<k)(d:Array α):flatK enc k d=(d.toList.flatMap enc).toArray:=by
 apply Array.ext_getElem?;intro t;have e0:(d.toList.flatMap enc).toArray[t]? = (d.toList.flatMap enc)[t]?:=by simp
 rw[e0,D9 hk h0];by_cases h:t<d.size*k
 .have hd:t / k<d.size:=(Nat.div_lt_iff_lt_mul h0).2 h;have hm:t % k<k:=Nat.mod_lt _ h0;rw[Array.getElem?_eq_getElem (by rw[size_flatK];exact h)];have h2:=get_flatK enc k d t h;rw[getElem!_pos (flatK enc k d) t (by rw[size_flatK];exact h)]at h2;rw[h2,getElem!_pos d (t / k) hd,getElem!_pos _ (t % k) (by rw[hk];exact hm)];have e1:d.toList[t / k]? = some d[t / k]:=by simp[hd]
  rw[e1];simp only[Option.bind_some];rw[gQ2 (by rw[hk];exact hm)]
 .rw[Array.getElem?_eq_none (by rw[size_flatK];omega)];have hd:¬t / k<d.size:=fun h2=>h ((Nat.div_lt_iff_lt_mul h0).1 h2)
  have e1:d.toList[t / k]? = none:=by simp;omega
  rw[e1];rfl
theorem KX[Inhabited α]{f:FuncId}{fn:Func}(hf:P.funcs[f]? = some fn)(hb:fn.body.isSome=true)(hn:(fn.name == "runtime.NumGoroutine")=false)(hk:∀x,(enc x).length=k)(hk0:0<k)(hp:∀x,(enc x).all plain1=true)
  {dec:List Value->Option (List α)} {srt:List α->List α} (hdec:∀l xs,dec l=some xs->l=xs.flatMap enc) (hs:∀xs,(srt xs).length=xs.length) {fv:Value} (hfv:∀φ v,VR φ fv v->v=fv)
  (h0:∀p cap w,Calls P f #[.slice p 0 cap,fv] w fun e w'=>e = .returned (.tuple #[])/\w'=w)
  (hc:∀(blk off cap:Nat) (d:Array α) (w:World),HoldsK enc k w blk off d->blk<w.heap.size->d.size<4611686018427387904->
   Calls P f #[.slice (some ⟨blk,off,none⟩) d.size cap,fv] w fun e w'=>e = .returned (.tuple #[])/\∃n os,w'=sortWorldK enc k w blk off n (srt d.toList).toArray os):jZ P f (qe k (BX enc dec srt) [fv]):=by
 have hall:∀xs:List α,(xs.flatMap enc).all plain1=true:=fun xs=>by
  rw[List.all_eq_true];intro v hv;obtain⟨x,_,hx⟩:=List.mem_flatMap.1 hv;exact List.all_eq_true.1 (hp x) v hx
 refine H7 hf hb hn (fun φ ex' h=>?_) h0 (fun l ls n blk off cap w ha hl hn1 hn2 hcell hblk=>?_) (fun n l ls ha=>?_)
 .obtain⟨x',r,rfl,hx,hr⟩:=h.one;rw[hr.none,hfv _ _ hx]
 .unfold BX at ha;split at ha
  .rename_i xs hz;split at ha
   .rename_i hlen;cases ha;have el:=hdec _ _ hz;subst el;subst hlen;have hc1:=hc blk off cap xs.toArray w (fun j hj=>by
     have hfk:=Gz hk hk0 xs.toArray;rw[size_flatK]at hj;simp only[List.size_toArray]at hj;have hj':j<(xs.flatMap enc).length:=by rw[tO hk];exact hj
     obtain⟨c1,c2⟩:=hcell j hj';refine⟨?_,c2⟩;rw[c1,hfk];simp only[id];rw[getElem!_pos _ j (by simpa using hj')];simp only[List.getElem_toArray];rw[gQ2 hj']) hblk (by simp;omega)
    simp only[List.size_toArray]at hc1;refine hc1.mono ?_;rintro e w' ⟨rfl,q,os,rfl⟩;refine⟨rfl,q,os,?_⟩;unfold sortWorldK putRowK;rw[Gz hk hk0]
   .cases ha
  .cases ha
 .unfold BX at ha;split at ha
  .rename_i xs hz;split at ha
   .cases ha;have el:=hdec _ _ hz;subst el;exact⟨hall _,hall _,by rw[tO hk,tO hk,hs]⟩
   .cases ha
  .cases ha
end
end Go.AX
