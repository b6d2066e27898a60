import Derived.Test.YthpnifigjfplbaaGreatQU10
import Derived.Laws.Tables
namespace Go.AX
variable {P:Program} {cx:Cx} {φ : cV} {m:Mem} {w:World}
def zS(φ : cV):Option Value->Option Value->Prop
 | none,none=>True
 | some v,some v'=>VR φ v v'
 | _,_=>False
theorem tB{dflt y y' k:Nat}{o o':Option Value}(h:fi dflt o y=some k)(ho:zS φ o o')(hy:y<=y')(code:BoundsCode) :
  (o=none/\o'=none/\k=dflt)∨(∃v v',o=some v/\o'=some v'/\k<=y/\(Instr.sliceBound v' y' code).run P w = .ok k w):=by
 cases o with
 | none=>
  cases o' with
  | none=>left;simp[fi]at h;exact⟨rfl,rfl,h.symm⟩
  | some v'=>exact ho.elim
 | some v=>
  cases o' with
  | none=>exact ho.elim
  | some v'=>
   right;refine⟨v,v',rfl,rfl,?_⟩;cases ho<;>simp only[fi,reduceCtorEq]at h;rename_i kk i;split at h
   .rename_i hd;have hd':0<=i/\i<=(y:Int):=by simpa using hd
    simp only[gQ7]at h;subst h;refine⟨by omega,?_⟩;have:0<=i/\i<=(y':Int):=⟨hd'.1,by omega⟩;simp[Instr.sliceBound,asIntOf,this]
   .cases h
theorem rB{b:Bool}{len cap cap' h l:Nat}{lo hi lo' hi':Option Value}(h1:fi len hi cap=some h)(h2:fi 0 lo h=some l)(ol:zS φ lo lo')(oh:zS φ hi hi')(hc:cap<=cap') :
  (Instr.sliceBounds b len cap' lo' hi' none).run P w = .ok (l,h,cap') w/\(hi=none->h=len)/\(hi≠none->h<=cap)/\(lo=none->l=0)/\(lo≠none->l<=h):=by
 rcases tB (P:=P) (w:=w) h1 oh hc (if b then .sliceAcap else .sliceAlen)with⟨rfl,rfl,rfl⟩|⟨v,v',rfl,rfl,hk,hr⟩<;>
 rcases tB (P:=P) (w:=w) h2 ol (gQ4 h) .sliceB with⟨rfl,rfl,rfl⟩|⟨u,u',rfl,rfl,hk2,hr2⟩<;>
 simp[Instr.sliceBounds, *]
theorem wP{len cap cap' mm h l:Nat}{lo hi mx lo' hi' mx':Option Value}(h0:fi cap mx cap=some mm)(h1:fi len hi mm=some h)(h2:fi 0 lo h=some l)(ol:zS φ lo lo')(oh:zS φ hi hi')(om:zS φ mx mx')
  (hm:mx≠none) (hh:hi≠none) (hc:cap<=cap') :
  (Instr.sliceBounds true len cap' lo' hi' mx').run P w = .ok (l,h,mm) w/\mm<=cap/\h<=mm/\l<=h:=by
 rcases tB (P:=P) (w:=w) h0 om hc .slice3Acap with⟨rfl,_⟩|⟨v0,v0',rfl,rfl,hk0,hr0⟩
 .exact absurd rfl hm
 rcases tB (P:=P) (w:=w) h1 oh (gQ4 mm) .slice3B with⟨rfl,_⟩|⟨v,v',rfl,rfl,hk,hr⟩
 .exact absurd rfl hh
 rcases tB (P:=P) (w:=w) h2 ol (gQ4 h) .slice3C with⟨rfl,rfl,rfl⟩|⟨u,u',rfl,rfl,hk2,hr2⟩
 .refine⟨?_,hk0,hk,by omega⟩;simp[Instr.sliceBounds,hr0,hr]
 .refine⟨?_,hk0,hk,hk2⟩;simp[Instr.sliceBounds,hr0,hr,hr2]
theorem Kg{b off n len cap':Nat}{l:Loc}(hb:φ b=some l)(k:Nat)(hk:k<=cap')(hl:len<=cap'-k) :
  VR φ (.slice (some ⟨b,off+n,none⟩) len (cap'-k)) (.slice (some (if cap'=k then ⟨l.rb,l.ro+off,none⟩ else (⟨l.rb,l.ro+off,none⟩:Addr).add n)) len (cap'-k)):=by
 by_cases e:cap'=k
 .subst e;rw[if_pos rfl];have:len=0:=by omega
  subst this;rw[Nat.sub_self];exact .slE _ _
 .rw[if_neg e,lQ,show l.ro+off+n=l.ro+(off+n) by omega];exact .sl _ _ _ _ _ _ hb (.inl rfl)
theorem Og(hcx:CxOk P cx)(h0:R0 P φ m w){b s off cap cap':Nat}{l:Loc}(hb:φ b=some l)(hc:CapR l off cap cap')(hs:sameSize cx m b s=true) :
  cap'=cap∨(0<s/\l.s=s/\off+cap*s=l.n/\cap<=cap'/\off+cap'*s<=l.re):=by
 rcases hc with rfl|⟨h1,h2,h3,h4⟩
 .exact .inl rfl
 .unfold sameSize at hs;split at hs
  .rename_i c n e loose hk;obtain⟨l0,hl0,c',hc',hn,hre,hsz,hcells,hx1,hx2⟩:=h0.obj _ _ hk;rw[hb]at hl0;cases hl0;cases loose with
   | false=>have:=(hx1 rfl).1;omega
   | true=>
    dsimp only at hs;split at hs
    .rename_i s' hs';obtain⟨i,hi,rfl⟩:=gv hcx hs';have e1:=gR3 hs;have e2:=(hx2 rfl).2 i hi;have:l.s=s:=by omega
     subst this;exact .inr ⟨h1,rfl,h2,h3,h4⟩
    .cases hs
  .rename_i c k hk;obtain⟨l0,hl0,c',e,fr,hc',hn,hs0,hsz,hcells⟩:=h0.obj _ _ hk;rw[hb]at hl0;cases hl0;omega
  .cases hs
theorem IO(hcx:CxOk P cx)(h0:R0 P φ m w){t:TypeId}{x x' v:Value}{lo hi mx lo' hi' mx':Option Value}(h:cX cx m t x lo hi mx=some v)
  (hx:VR φ x x') (ol:zS φ lo lo') (oh:zS φ hi hi') (om:zS φ mx mx'):∃v',(Instr.sliceAt t x' lo' hi' mx').run P w = .ok v' w/\VR φ v v':=by
 unfold cX at h;split at h
 ·
  rename_i s hd;have hu:=hcx.un _ _ hd;cases hx;cases mx with
  | some _=>cases h
  | none=>
   cases mx' with
   | some _=>exact om.elim
   | none=>
    simp only at h;split at h
    .rename_i hh e1;split at h
     .rename_i l e2;simp only[gQ7]at h;subst h;obtain⟨hr,_⟩:=rB (P:=P) (w:=w) (b:=false) e1 e2 ol oh (gQ4 _);have hsz:s.size=s.data.toList.length:=rfl;refine⟨.string (s.extract l hh),?_,?_⟩
      .rw[<-hsz]at hr;simp[Instr.sliceAt,Instr.slice,run_underlying hu,hr]
      .have:s.extract l hh=⟨((s.data.toList.drop l).take (hh-l)).toArray⟩:=by
        rw[<-ByteArray.extract_mk]
       rw[this];exact .string _
     .cases h
    .cases h
 ·
  rename_i e a len cap hd;have hu:=hcx.un _ _ hd;split at h
  .rename_i s hs;obtain⟨i,hi0,rfl⟩:=gv hcx hs;cases mx with
   | none=>
    cases mx' with
    | some _=>exact om.elim
    | none=>
     simp only at h;split at h
     .rename_i hh e1;split at h
      .rename_i l e2;cases hx with
       | sl0=>
        dsimp only at h;simp only[gQ7]at h;subst h;obtain⟨hr,_⟩:=rB (P:=P) (w:=w) (b:=true) e1 e2 ol oh (gQ4 cap);refine⟨.slice none (hh-l) (cap-l),?_,.sl0 _ _⟩;simp[Instr.sliceAt,Instr.slice,run_underlying hu,hr,eC hi0]
       | slE a0 a'=>
        dsimp only at h;obtain⟨hr,c1,c2,c3,c4⟩:=rB (P:=P) (w:=w) (b:=true) e1 e2 ol oh (gQ4 0);have hhz:hh=0:=by
         by_cases q:hi=none
         .exact c1 q
         .have:=c2 q;omega
        have hlz:l=0:=by
         by_cases q:lo=none
         .exact c3 q
         .have:=c4 q;omega
        subst hhz;subst hlz;split at h
        .simp only[gQ7]at h;subst h;refine⟨.slice (some a') 0 0,?_,?_⟩
         .simp[Instr.sliceAt,Instr.slice,run_underlying hu,hr,eC hi0]
         .simp only[Nat.zero_mul,Nat.sub_self];exact .slE _ _
        .split at h
         .simp only[gQ7]at h;subst h;refine⟨.slice (some a') 0 0,?_,.slE _ _⟩;simp[Instr.sliceAt,Instr.slice,run_underlying hu,hr,eC hi0]
         .cases h
       | sl b off len cap cap' lc hb hc=>
        dsimp only at h;have hcc:cap<=cap':=by
         rcases hc with rfl|⟨_,_,h3,_⟩
         .exact gQ4 _
         .exact h3
        obtain⟨hr,c1,c2,c3,c4⟩:=rB (P:=P) (w:=w) (b:=true) e1 e2 ol oh hcc;split at h
        .rename_i hsp hss;simp only[gQ7]at h;subst h;have hll:l<=hh:=by
          by_cases q:lo=none
          .have:=c3 q;omega
          .exact c4 q
         refine⟨.slice (some (if cap'=l then ⟨lc.rb,lc.ro+off,none⟩ else (⟨lc.rb,lc.ro+off,none⟩:Addr).add (l*i.size))) (hh-l) (cap'-l),?_,?_⟩
         .simp[Instr.sliceAt,Instr.slice,run_underlying hu,hr,eC hi0];by_cases q:cap'=l<;>simp[q]
         ·
          have hss1:sameSize cx m b i.size=true/\hh<=cap:=by
           have:=hss;simp only[Bool.and_eq_true]at this;exact⟨this.1,gQ6 this.2⟩
          have hcr:=Og hcx h0 hb hc hss1.1;by_cases q:cap'=l
          .subst q;have e1:hh-cap'=0:=by omega
           have e2:cap-cap'=0:=by omega
           rw[if_pos rfl,e1,e2,Nat.sub_self];exact .slE _ _
          .rw[if_neg q,lQ,show lc.ro+off+l*i.size=lc.ro+(off+l*i.size) by omega];refine .sl _ _ _ _ _ _ hb ?_;rcases hcr with rfl|⟨g1,g2,g3,g4,g5⟩
           .exact .inl rfl
           .right;have hm1:off+l*i.size+(cap-l)*i.size=off+cap*i.size:=by
             rw[Nat.add_assoc,<-Nat.add_mul];congr 2;omega
            have hm2:off+l*i.size+(cap'-l)*i.size=off+cap'*i.size:=by
             rw[Nat.add_assoc,<-Nat.add_mul];congr 2;omega
            refine⟨by omega,?_,by omega,?_⟩
            .rw[g2,hm1];exact g3
            .rw[g2,hm2];exact g5
        .split at h
         .rename_i hz;simp only[Bool.and_eq_true]at hz;obtain⟨⟨z1,z2⟩,z3⟩:=hz;have z1:=gR3 z1;have z2:=gR3 z2;have z3:=gR3 z3;subst z1;subst z2;subst z3;simp only[gQ7]at h;subst h;refine⟨.slice (some ⟨lc.rb,lc.ro+off,none⟩) 0 cap',?_,.sl _ _ _ _ _ _ hb hc⟩;simp[Instr.sliceAt,Instr.slice,run_underlying hu,hr,eC hi0,Addr.add]
         .cases h
      .cases h
     .cases h
   | some mv=>
    simp only at h;split at h
    .rename_i mm e0;split at h
     .cases h
     .rename_i hv;split at h
      .rename_i hh e1;split at h
       .rename_i l e2;cases hx with
        | sl0=>
         dsimp only at h;simp only[gQ7]at h;subst h;obtain⟨hr,_⟩:=wP (P:=P) (w:=w) e0 e1 e2 ol oh om (by simp) (by simp) (gQ4 cap);refine⟨.slice none (hh-l) (mm-l),?_,.sl0 _ _⟩;simp[Instr.sliceAt,Instr.slice,run_underlying hu,hr,eC hi0]
        | slE a0 a'=>
         dsimp only at h;obtain⟨hr,c1,c2,c3⟩:=wP (P:=P) (w:=w) e0 e1 e2 ol oh om (by simp) (by simp) (gQ4 0);obtain rfl:mm=0:=by omega
         obtain rfl:hh=0:=by omega
         obtain rfl:l=0:=by omega
         have h:some (Value.slice (some HQ) 0 0)=some v:=h;simp only[gQ7]at h;subst h;refine⟨.slice (some a') 0 0,?_,.slE _ _⟩;simp[Instr.sliceAt,Instr.slice,run_underlying hu,hr,eC hi0]
        | sl b off len cap cap' lc hb hc=>
         dsimp only at h;have hcc:cap<=cap':=by
          rcases hc with rfl|⟨_,_,h3,_⟩
          .exact gQ4 _
          .exact h3
         obtain⟨hr,c1,c2,c3⟩:=wP (P:=P) (w:=w) e0 e1 e2 ol oh om (by simp) (by simp) hcc;have hrun:(Instr.sliceAt t (.slice (some ⟨lc.rb,lc.ro+off,none⟩) len cap') lo' hi' mx').run P w = .ok (.slice (some (if mm=l then ⟨lc.rb,lc.ro+off,none⟩ else (⟨lc.rb,lc.ro+off,none⟩:Addr).add (l*i.size))) (hh-l) (mm-l)) w:=by
          simp[Instr.sliceAt,Instr.slice,run_underlying hu,hr,eC hi0];by_cases q:mm=l<;>simp[q]
         split at h
         .rename_i hz;have hz:=gR3 hz;simp only[gQ7]at h;subst h;refine⟨_,hrun,?_⟩;rw[show hh-l=0 by omega,hz];exact .slE _ _
         .simp only[gQ7]at h;subst h;exact⟨_,hrun,Kg hb l (by omega) (by omega)⟩
       .cases h
      .cases h
    .cases h
  .cases h
 ·
  rename_i n e a hd;have hu:=hcx.un _ _ hd;split at h
  .obtain⟨i,hi0,rfl⟩:=gv hcx (by assumption);cases mx' with
   | some _=>exact om.elim
   | none=>
    split at h
    .rename_i hh e1;split at h
     .rename_i l e2;simp only[gQ7]at h;subst h;cases hx with
      | ptr b off lc hb=>
       obtain⟨hr,c1,c2,c3,c4⟩:=rB (P:=P) (w:=w) (b:=false) e1 e2 ol oh (gQ4 n);refine⟨.slice (some (if n=l then ⟨lc.rb,lc.ro+off,none⟩ else (⟨lc.rb,lc.ro+off,none⟩:Addr).add (l*i.size))) (hh-l) (n-l),?_,?_⟩
       .simp[Instr.sliceAt,run_underlying hu,Instr.sureAddr,hr,eC hi0]
       .have hhn:hh<=n:=by
         by_cases q:hi=none
         .have:=c1 q;omega
         .exact c2 q
        have hll:l<=hh:=by
         by_cases q:lo=none
         .have:=c3 q;omega
         .exact c4 q
        by_cases q:n=l
        .subst q;have:hh-n=0:=by omega
         rw[this,Nat.sub_self];exact .slE _ _
        .simp only[if_neg q,ng];have:=Kg (n:=l*i.size) (len:=hh-l) (cap':=n) (off:=off) hb l (by omega) (by omega);rw[if_neg q]at this;exact this
     .cases h
    .cases h
  .cases h
 .cases h
theorem tC{b off n:Nat}{l:Loc}(hb:φ b=some l):VR φ (.pointer (some (ng ⟨b,off,none⟩ n))) (.pointer (some ((⟨l.rb,l.ro+off,none⟩:Addr).add n))):=by
 rw[lQ,show l.ro+off+n=l.ro+(off+n) by omega];exact .ptr _ _ _ hb
theorem FV(hcx:CxOk P cx){t:TypeId}{x ix x' ix' v:Value}(h:nN cx t x ix=some v)(hx:VR φ x x')(hi:VR φ ix ix') :
  ∃v',(Instr.indexAt t x' ix').run P w = .ok v' w/\VR φ v v':=by
 unfold nN at h;split at h
 .rename_i k i;cases hi;split at h
  .rename_i len e a hd;have hu:=hcx.un _ _ hd;cases hx with
   | ptr b off lc hb=>
    split at h
    .rename_i s hs hsp hbd;obtain⟨inf,hi0,rfl⟩:=gv hcx hs;have hb':0<=i/\i<(len:Int):=by simpa using hbd
     simp only[gQ7]at h;subst h;refine⟨_,?_,tC hb⟩;simp[Instr.indexAt,asIntOf,run_underlying hu,Instr.sureAddr,hb',eC hi0]
    .cases h
  .rename_i e a len cap hd;have hu:=hcx.un _ _ hd;split at h
   .rename_i s hs hsp hbd;obtain⟨inf,hi0,rfl⟩:=gv hcx hs;have hb':0<=i/\i<(len:Int):=by simpa using hbd
    simp only[gQ7]at h;subst h;cases hx with
    | sl b off _ _ cap' lc hb hc=>
     refine⟨_,?_,tC hb⟩;simp[Instr.indexAt,asIntOf,run_underlying hu,hb',eC hi0]
    | slE a a'=>omega
   .cases h
  .cases h
 .cases h
theorem wQ(hcx:CxOk P cx){t:TypeId}{x ix x' ix' v:Value}(h:vS cx t x ix=some v)(hx:VR φ x x')(hi:VR φ ix ix') :
  ∃v',(Instr.index t x' ix').run P w = .ok v' w/\VR φ v v':=by
 unfold vS at h;split at h
 .rename_i k i;cases hi;split at h
  .rename_i len e cs hd;have hu:=hcx.un _ _ hd;cases hx with
   | agg c c' h1 h2=>
    split at h
    .rename_i s hs hbd;obtain⟨inf,hi0,rfl⟩:=gv hcx hs;have hb':0<=i/\i<(len:Int):=by simpa using hbd
     obtain⟨v',hr,hv⟩:=wO (P:=P) (w:=w) hcx ⟨h1,h2⟩ h;have hr':(part e c' (i.toNat*inf.size)).run P w = .ok v' w:=by simpa using hr
     refine⟨v',?_,hv⟩;simp[Instr.index,asIntOf,run_underlying hu,hb',eC hi0,hr']
    .cases h
  .rename_i s hd;have hu:=hcx.un _ _ hd;cases hx;split at h
   .rename_i hp;have hp':0<=i:=by simpa using hp
    split at h
    .rename_i b hb;simp only[gQ7]at h;subst h;refine⟨_,?_,.int _ _⟩;have hb2:s[i.toNat]? = some b:=by
      rw[<-hb];have hlt:i.toNat<s.data.toList.length:=(gQ1 hb).1;have hlt':i.toNat<s.size:=hlt;rw[getElem?_pos s i.toNat hlt',gQ2 hlt];rfl
     simp[Instr.index,asIntOf,run_underlying hu,hp',hb2]
    .cases h
   .cases h
  .cases h
 .cases h
theorem FW(hcx:CxOk P cx){t:TypeId}{x x' v:Value}{f:Nat}(h:lN cx t x f=some v)(hx:VR φ x x') :
  ∃v',(Instr.fieldAt t x' f).run P w = .ok v' w/\VR φ v v':=by
 unfold lN at h;split at h
 .rename_i fs a hd;have hu:=hcx.un _ _ hd;cases hx with
  | ptr b off lc hb=>
   split at h
   .rename_i fd hf hsp;split at h
    .rename_i n hs;obtain⟨inf,hi0,hn⟩:=gv hcx hs;simp only[gQ7]at h;subst h;have hf':fs[f]? = some fd:=by simpa using hf
     have hnz:¬inf.size=0:=by omega
     refine⟨_,?_,tC hb⟩;simp[Instr.fieldAt,run_underlying hu,hf',Instr.sureAddr,fieldPlace,eC hi0,hnz]
    .cases h
   .cases h
 .cases h
theorem Mk(hcx:CxOk P cx){t:TypeId}{x x' v:Value}{f:Nat}(h:Bh cx t x f=some v)(hx:VR φ x x') :
  ∃v',(Instr.field t x' f).run P w = .ok v' w/\VR φ v v':=by
 unfold Bh at h;split at h
 .rename_i fs cs hd;have hu:=hcx.un _ _ hd;cases hx with
  | agg c c' h1 h2=>
   split at h
   .rename_i fd hf;obtain⟨v',hr,hv⟩:=wO (P:=P) (w:=w) hcx ⟨h1,h2⟩ h;have hf':fs[f]? = some fd:=by simpa using hf
    have hr':(part fd.type c' fd.offset).run P w = .ok v' w:=by simpa using hr
    refine⟨v',?_,hv⟩;simp[Instr.field,run_underlying hu,hf',asAgg,hr']
   .cases h
 .cases h
theorem zT:∀(vs:List Value) (k off:Nat) (cells:Array Value),off+k+vs.length<=cells.size->
  ((vs.zipIdx k).foldl (fun(cs:Array Value) (p:Value×Nat)=>cs.setIfInBounds (off+p.2) p.1) cells).toList=cells.toList.take (off+k)++vs++cells.toList.drop (off+k+vs.length)
 | [],k,off,cells,_=>by simp
 | v::r,k,off,cells,h=>by
  simp only[List.zipIdx_cons,List.foldl_cons];rw[zT r (k+1) off _ (by simp at h ⊢;omega)];have:=list_seg_step cells.toList (off+k) v r (by simp at h ⊢;omega);simpa [Array.toList_setIfInBounds,Nat.add_assoc]using this
theorem LR.splice{a a' b b':List Value}{off:Nat}(h:LR φ a a')(k:LR φ b b'):LR φ (splice a off b) (splice a' off b'):=by
 unfold AX.splice;rw[k.1];exact((h.take off).append k).append (h.drop _)
theorem sg{a b:List Value}{off:Nat}(h:off+b.length<=a.length):(splice a off b).length=a.length:=by
 unfold AX.splice;simp;omega
def PR(φ : cV):List (Nat×Value)->List (Nat×Value)->Prop
 | [],[]=>True
 | (i,v)::r,(i',v')::r'=>i=i'/\VR φ v v'/\PR φ r r'
 | _,_=>False
theorem zy{place:Nat->Option (Nat×Nat)}:∀(parts parts':List (Nat×Value)) (cells r:List Value) (cells':Array Value),sD place cells parts=some r->LR φ cells cells'.toList->PR φ parts parts'->
  ∃r',Instr.fill place cells' parts'=some r'/\LR φ r r'.toList
 | [],[],cells,r,cells',h,hl,_=>by
  simp only[sD,gQ7]at h;subst h;exact⟨cells',rfl,hl⟩
 | (i,v)::ps,(i',v')::ps',cells,r,cells',h,hl,hp=>by
  obtain⟨rfl,hv,hps⟩:=hp;simp only[sD]at h;split at h
  .cases h
  .rename_i off size hpl;split at h
   .rename_i hc;have hc':(bQ v).length=size/\off+(bQ v).length<=cells.length:=by
     simp only[Bool.and_eq_true]at hc;exact⟨gR3 hc.1,gQ6 hc.2⟩
    have hvc:=hv.cells;have hsz:v'.cells.size=(bQ v).length:=by rw[hvc.1,<-eK];simp
    have hfs:(v'.cells.zipIdx.foldl (fun(cs:Array Value) (c,j)=>cs.setIfInBounds (off+j) c) cells').toList=splice cells'.toList off (bQ v'):=by
     have:=zT v'.cells.toList 0 off cells' (by simp[hsz];rw[show cells'.size=cells.length by rw[hl.1];simp];omega);rw[<-Array.foldl_toList];simp only[Array.toList_zipIdx,Nat.add_zero]at this ⊢;rw[this,eK];rfl
    obtain⟨r',h1,h2⟩:=zy ps ps' _ r (v'.cells.zipIdx.foldl (fun(cs:Array Value) (c,j)=>cs.setIfInBounds (off+j) c) cells') h (by rw[hfs];exact hl.splice hvc) hps;refine⟨r',?_,h2⟩;simp only[Instr.fill,hpl];have hcs:cells'.size=cells.length:=by rw[hl.1];simp
    rw[if_neg (by simp;omega),h1]
   .cases h
 | [],_::_,_,_,_,_,_,hp=>hp.elim
 | _::_,[],_,_,_,_,_,hp=>hp.elim
theorem nt(hcx:CxOk P cx):∀(fs:List Field) (ps:List (Nat×Nat)),sS cx fs=some ps->fs.mapM (fun f=>(P.info? f.type).map fun i=>(f.offset,i.size))=some ps
 | [],ps,h=>by simp only[sS,gQ7]at h;subst h;rfl
 | f::r,ps,h=>by
  simp only[sS]at h;split at h
  .rename_i s l hs hl;simp only[gQ7]at h;subst h;obtain⟨i,hi,rfl⟩:=gv hcx hs;simp[List.mapM_cons,hi,nt hcx r l hl]
  .cases h
theorem wR(hcx:CxOk P cx){t:TypeId}{z:Value}(h:fB cx t=some z):∃i,P.info? t=some i/\i.zero=some z/\nf z=true:=by
 simp only[fB]at h;split at h
 .rename_i i hi;split at h
  .rename_i y hy;split at h
   .rename_i hp;cases h;exact⟨i,hcx.ty _ _ hi,hy,hp⟩
   .cases h
  .cases h
 .cases h
theorem Ml(hcx:CxOk P cx){t:TypeId}{ps:List (Nat×Value)}{ps':Array (Nat×Value)}{v:Value}(h:vT cx t ps=some v)(hp:PR φ ps ps'.toList) :
  ∃v',(Instr.build t ps').run P w = .ok v' w/\VR φ v v':=by
 unfold vT at h;split at h
 .rename_i z fs hz hd;have hu:=hcx.un _ _ hd;obtain⟨i,hi,hiz,hpl⟩:=wR hcx hz;have hzl:LR φ (bQ z) z.cells.toList:=by rw[eK];exact(VR.plain φ hpl).cells
  split at h
  .rename_i pl hpls;split at h
   .rename_i l hl;simp only[gQ7]at h;subst h;obtain⟨r',h1,h2⟩:=zy _ _ _ _ _ hl hzl hp;refine⟨.agg r',run_build w t ps' r' ?_,.agg _ _ (by simpa using h2.1) (by simpa using h2.2)⟩;have h1':Instr.fill (pl.toArray[·]?) z.cells ps'.toList=some r':=by simpa using h1
    simp only[Program.built,hi,hu,hiz,nt hcx _ _ hpls,h1']
   .cases h
  .cases h
 .rename_i z n e hz hd;have hu:=hcx.un _ _ hd;obtain⟨i,hi,hiz,hpl⟩:=wR hcx hz;have hzl:LR φ (bQ z) z.cells.toList:=by rw[eK];exact(VR.plain φ hpl).cells
  split at h
  .rename_i s hs;obtain⟨ie,hie,rfl⟩:=gv hcx hs;split at h
   .rename_i l hl;simp only[gQ7]at h;subst h;obtain⟨r',h1,h2⟩:=zy _ _ _ _ _ hl hzl hp;refine⟨.agg r',run_build w t ps' r' ?_,.agg _ _ (by simpa using h2.1) (by simpa using h2.2)⟩;simp only[Program.built,hi,hu,hiz,hie,h1]
   .cases h
  .cases h
 .cases h
end Go.AX
