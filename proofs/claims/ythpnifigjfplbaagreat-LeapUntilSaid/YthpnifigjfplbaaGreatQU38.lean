import Derived.Test.YthpnifigjfplbaaGreatQU37
import Derived.Test.YthpnifigjfplbaaGreatQU27
import Derived.Test.YthpnifigjfplbaaGreatQU20
import Derived.Test.YthpnifigjfplbaaGreatQU36
import Derived.Test.YthpnifigjfplbaaGreatQU26
set_option linter.unusedVariables false
set_option linter.unusedSimpArgs false
set_option linter.unusedSectionVars false
namespace Go.Proofs.YthpnifigjfplbaaGreat.vc
open Go Go.AX
section
variable {m m0:Mem} {Q:Value->Mem->Prop} {a:Option Addr} {n c:Nat}
theorem Nu{e:TypeId}{s:Nat}{l:List Value}(h:OwnSl m0 m e a n c l)(hz:dO cx e=some s):Cut cx m a n c s:=by
 refine⟨by rw[h.cap];exact gQ4 _,?_⟩;cases h with
 | nil=>exact .inl rfl
 | empty b cc h1 h2=>exact .inr ⟨b,0,_,rfl,h2,by unfold sameSize;rw[h2]⟩
 | row b n l hn h1 h2=>
  obtain⟨c',h3,_⟩:=id h2;exact .inr ⟨b,_,_,rfl,h3,h2.sameSize hz⟩
theorem Ns{e:TypeId}{s:Nat}{l:List Value}(h:Acc m0 m a n c s e l)(hz:dO cx e=some s):Cut cx m a n c s:=by
 rcases h.grow.2 with⟨rfl,rfl,rfl⟩|⟨b,rfl,rfl,_,h2⟩
 .exact⟨gQ4 _,.inl rfl⟩
 .obtain⟨c',h3,_⟩:=id h2;exact⟨gQ4 _,.inr ⟨b,_,_,rfl,h3,h2.sameSize hz⟩⟩
theorem CB{x:Int}(hw:Wf m)(k0:Keep m0 m)(hf:m0.fl<=m0.nx)(h1:1<=x)(h2:x<=256)
  (hQ:∀m',Keep m m'->FF m0 m' m.nx x none 0 []->Q (.pointer (some ⟨m.nx,0,none⟩)) m'):ah cx sP [.int .i64 x] m Q:=by
 apply Ft;unfold xJ;rw[cO];have e:fG (ke x 1) 256=x:=by
  unfold fG ke
  repeat' split
  all_goals omega
 rw[e];have k1:Keep m (newO m (row [.int .i64 x,.slice none 0 0] t_fifo_Fifo false)):=(Keep.refl hw).newO;exact hQ _ k1 ⟨Row.newO,Acc.nil (k0.trans k1) _ _,k0.nx,(by simp[blk]),hf⟩
structure RB (m0 m:Mem) (pr pf:Nat) (room:Int) (a:Option Addr) (c:Nat) (l:List Int):Prop where
 row:Row m pr [.int .i64 room,.pointer (some ⟨pf,0,none⟩)] t_robin_Robin false
 ff:FF m0 m pf room a c l
 new:m0.nx<=pr
 ne:pr≠pf
 na:pr∉blk a
theorem RB.wf{pr pf:Nat}{room:Int}{l:List Int}(h:RB m0 m pr pf room a c l):Wf m:=h.ff.acc.keep.wf
theorem RB.keep{m':Mem}{pr pf:Nat}{room:Int}{l:List Int}(h:RB m0 m pr pf room a c l)(k:Keep m m'):RB m0 m' pr pf room a c l:=
 ⟨k.row h.wf h.row,h.ff.keep k,h.new,h.ne,h.na⟩
theorem HJ{x:Int}(hw:Wf m)(h1:1<=x)(h2:x<=256)
  (hQ:∀m' pr pf,RB m m' pr pf x none 0 []->Q (.pointer (some ⟨pr,0,none⟩)) m'):ah cx vK [.int .i64 x] m Q:=by
 apply DC;unfold vP;have e:fG (ke x 1) 256=x:=by
  unfold fG ke
  repeat' split
  all_goals omega
 rw[e];refine CB hw (Keep.refl hw) hw.1 h1 h2 fun m1 k1 hF=>⟨_,rfl,?_⟩
 rw[cO];have k2:Keep m1 (newO m1 (row [.int .i64 x,.pointer (some ⟨m.nx,0,none⟩)] t_robin_Robin false)):=(Keep.refl k1.wf).newO;refine hQ _ m1.nx m.nx ⟨Row.newO,hF.keep k2,k1.nx,?_,(by simp[blk])⟩;have:=hF.lt;omega
theorem HK{pr pf:Nat}{room:Int}{l:List Int}{x:Int}(h:RB m0 m pr pf room a c l)(hn:l.length<=1000)(hr:(l.length:Int)≠room)(hx:0<=x)(hno:x∉l)
  (hQ:∀m' a' c',RB m0 m' pr pf room a' c' (l++[x])->Q (.int .i64 0) m'):ah cx mK [.pointer (some ⟨pr,0,none⟩),.int .i64 x] m Q:=by
 apply vQ;unfold mP;refine dP (fun e=>absurd hx (by omega)) (fun _=>?_);rw[cW];refine⟨some ⟨pf,0,none⟩,by rw[h.row.rd];rfl,?_⟩;refine NC h.ff hn fun m1 k1=>⟨_,rfl,?_⟩
 have e:l.findIdx? (fun y=>cT x y)=none:=by
  rw[List.findIdx?_eq_none_iff];intro y hy;exact dY.2 fun e=>hno (e▸hy)
 rw[e];refine xZ (fun e=>absurd e (by decide)) (fun _=>?_);have h1:=h.keep k1;rw[cW];refine⟨some ⟨pf,0,none⟩,by rw[h1.row.rd];rfl,?_⟩;refine yO h1.ff hn hr fun m2 a' c' hF hf hnew=>⟨_,rfl,dR (fun e=>by cases e) (fun _=>?_)⟩
 have hpl:=k1.wf.row h1.row;refine hQ m2 a' c' ⟨hf.row h1.row hpl ?_,hF,h.new,h.ne,fun hb=>?_⟩
 .intro hb;rcases List.mem_cons.1 hb with hb|hb
  .exact h.ne hb
  .exact h.na hb
 .have:=hnew _ hb;omega
theorem O5{pr pf:Nat}{room:Int}{l:List Int}{x:Int}(h:RB m0 m pr pf room a c l)
  (hQ:Q (.int .i64 (fG (ke x 0) (l.length:Int))) m):ah cx mg [.pointer (some ⟨pr,0,none⟩),.int .i64 x] m Q:=by
 apply uD;unfold mj;rw[cW];refine⟨some ⟨pf,0,none⟩,by rw[h.row.rd];rfl,?_⟩;apply xK;unfold oC;rw[cW];exact⟨a,l.length,c,by rw[h.ff.row.rd];rfl,_,rfl,hQ⟩
theorem Qa{pf:Nat}{room:Int}{l:List Int}(h:FF m0 m pf room a c l)(hn:l.length<=1000)
  (hQ:∀m' a' c',Keep m m'->OwnSl m m' t_int a' l.length c' (l.flatMap encI)->Q (.slice a' l.length c') m'):ah cx oz [.pointer (some ⟨pf,0,none⟩)] m Q:=by
 apply xL;unfold oD;rw[cW];refine⟨a,l.length,c,by rw[h.row.rd];rfl,?_⟩;exact Ew h.acc.keep.wf (h.acc.arr dV (by omega)) (by omega) fun m' a' c' k ho=>⟨_,_,_,rfl,hQ m' a' c' k ho⟩
def filled(f:Nat->Int)(n k:Nat):List Value:=(List.range n).map fun i=>.int .i64 (if i<k then f i else 0)
theorem kD(f:Nat->Int)(n k:Nat):(filled f n k).length=n:=by unfold filled;simp
theorem xM{f:Nat->Int}{n k i:Nat}(h:i<n):(filled f n k)[i]? = some (.int .i64 (if i<k then f i else 0)):=by
 unfold filled;rw[List.getElem?_map,List.getElem?_range h];rfl
theorem Cz{f:Nat->Int}{n k:Nat}(h:k<n):(filled f n k).set k (.int .i64 (f k))=filled f n (k+1):=by
 refine List.ext_getElem? fun i=>?_
 rw[List.getElem?_set,kD];by_cases hik:k=i
 .subst hik;rw[if_pos rfl,if_pos h,xM h,if_pos (by omega)]
 .rw[if_neg hik];by_cases hi:i<n
  .rw[xM hi,xM hi];congr 2;by_cases hl:i<k
   .rw[if_pos hl,if_pos (by omega)]
   .rw[if_neg hl,if_neg (by omega)]
  .rw[List.getElem?_eq_none (by rw[kD];omega),List.getElem?_eq_none (by rw[kD];omega)]
theorem Ax(f:Nat->Int):∀n,filled f n 0=ey [.int .i64 0] n
 | 0=>rfl
 | n+1=>by
  have ih:=Ax f n;unfold filled at ih ⊢;rw[List.range_succ_eq_map,List.map_cons,List.map_map];show _=[Value.int .i64 0]++ey [.int .i64 0] n;rw[<-ih];rfl
theorem JB{f:Nat->Int}{n:Nat}:filled f n n=((List.range n).map f).flatMap encI:=by
 unfold filled;rw[List.flatMap_map];have:∀l:List Nat,(∀i∈l,i<n)->l.map (fun i=>Value.int .i64 (if i<n then f i else 0))=l.flatMap fun i=>encI (f i):=by
  intro l
  induction l with
  | nil=>intro _;rfl
  | cons x r ih=>
   intro h;rw[List.map_cons,List.flatMap_cons,ih fun i hi=>h i (gQ5 _ hi),if_pos (h x (gQ9 ..))];rfl
 exact this _ fun i hi=>List.mem_range.1 hi
end
end Go.Proofs.YthpnifigjfplbaaGreat.vc
namespace Go.Proofs.YthpnifigjfplbaaGreat.vc
open Go Go.AX
section
variable {m m0:Mem} {Q:Value->Mem->Prop} {a:Option Addr} {n c:Nat}
theorem wk{k:Nat}(h:k<=1000000):bh .i64 (k:Int) 1=((k+1:Nat):Int):=by
 rw[dN (by omega) (by omega)];rfl
theorem tc{a b:Nat}(h:b<a):a-(b+1)<a-b:=by omega
def took(T n:Nat)(i:Nat):Int:=((T / n:Nat):Int)+if i<T % n then 1 else 0
theorem O0{pr pf many rest:Nat}{l:List Int}(h:RB m0 m pr pf (l.length:Int) a c l)(h1:1<=l.length)(h2:l.length<=256)(hm:many<=l.length)(hr:rest<=256)
  (hQ:∀m' ob a' c',Keep m0 m'->Arr encI 1 m' (some ⟨ob,0,none⟩) l.length ((List.range l.length).map (took (many*rest) l.length))->Arr encI 1 m' a' l.length (l.drop (many*rest % l.length)++l.take (many*rest % l.length))->
   Q (.tuple #[.slice (some ⟨ob,0,none⟩) l.length l.length,.slice a' l.length c']) m') :
  ah cx lZ [.pointer (some ⟨pr,0,none⟩),.int .i64 (many:Int),.int .i64 (rest:Int)] m Q:=by
 apply uz;unfold ma;have hw:=h.wf;have hmr:many*rest<=256*256:=Nat.mul_le_mul (by omega) hr;have hT:=Nat.div_le_self (many*rest) l.length;have hMod:=Nat.mod_lt (many*rest) (show 0<l.length by omega);generalize hr0:many*rest % l.length=r at hMod hQ;generalize hq0:many*rest / l.length=q at hT;rw[cW];refine⟨some ⟨pf,0,none⟩,by rw[h.row.rd];rfl,?_⟩;refine Qa h.ff (by omega) fun m1 a1 c1 k1 ho=>⟨_,_,_,rfl,?_⟩
 refine fC (fun e=>absurd e (by simp only[aQ];omega)) (fun _=>?_);have hB1:=h.keep k1;refine O5 hB1 ⟨_,rfl,by simp only[aQ];omega,by simp only[aQ];omega,⟨by simp only[aQ];omega,Int.le_refl _,by simp only[aQ];omega,by simp only[aQ];omega⟩,?_⟩;have e1:fG (ke (many:Int) 0) (l.length:Int)=(many:Int):=by
  unfold fG ke
  repeat' split
  all_goals omega
 have e2:fG (ke (rest:Int) 0) 1099511627776=(rest:Int):=by
  unfold fG ke
  repeat' split
  all_goals omega
 have e3:io .i64 (many:Int) (rest:Int)=((many*rest:Nat):Int):=by
  have:(many:Int)*(rest:Int)=((many*rest:Nat):Int):=by simp
  unfold io;rw[this];exact jN (by omega) (by omega)
 have e4:ot .i64 ((many*rest:Nat):Int) (aQ l.length)=(q:Int):=by
  unfold ot aQ;rw[Int.tdiv_eq_ediv_of_nonneg (by omega),<-Int.natCast_ediv,hq0];exact jN (by omega) (by omega)
 have e5:Int.tmod ((many*rest:Nat):Int) (aQ l.length)=(r:Int):=by
  unfold aQ;rw[Int.tmod_eq_emod_of_nonneg (by omega),<-Int.natCast_emod,hr0]
 rw[e1,e2,e3,e4,e5,cO];have kB:Keep m1 (bump m1 10):=(Keep.refl k1.wf).bump;have hob:m1.nx<=(bump m1 10).nx:=kB.nx;have k3:Keep m1 (newO (bump m1 10) (row (ey [.int .i64 (0:Int)] (Int.toNat (aQ l.length))) jK false)):=kB.newO;have hR3:Row (newO (bump m1 10) (row (ey [.int .i64 (0:Int)] (Int.toNat (aQ l.length))) jK false)) (bump m1 10).nx (filled (took (many*rest) l.length) l.length 0) jK false:=by
  rw[Ax];exact Row.newO
 have hkw:Wf (bump m1 10):=kB.wf;generalize (bump m1 10).nx=ob at hob hR3 ⊢;generalize newO (bump m1 10) (row (ey [.int .i64 (0:Int)] (Int.toNat (aQ l.length))) jK false)=m3 at k3 hR3 ⊢;have hob3:ob<m3.nx:=k3.wf.row hR3;have hlow:m0.fl<=m0.nx:=h.ff.low;refine⟨fun x45 m4 w=>∃k:Nat,x45=(k:Int)/\k<=l.length/\w=l.length-k/\Fr m3 m4 [ob]/\Wf m4/\Row m4 ob (filled (took (many*rest) l.length) l.length k) jK false,⟨_,0,rfl,Nat.zero_le _,rfl,Fr.refl _ _,k3.wf,hR3⟩,?_⟩;rintro x45 m4 w ⟨k,rfl,hk,rfl,f4,w4,R4⟩;have kk:Keep m1 m4:=Keep.of_fr k3 w4 f4 fun b hb=>by rw[List.mem_singleton]at hb;omega
 have hfl4:m4.fl<=ob:=by have:=kk.fl;have:=k1.wf.1;omega
 refine dG (fun hlt=>?_) (fun hge=>?_)
 .have ek:0+Int.toNat (k:Int)*1=k:=by simp
  rw[ek];have hin:0<=(k:Int)/\(k:Int)<((Int.toNat (aQ l.length):Nat):Int):=⟨by omega,by show (k:Int)<(l.length:Int);omega⟩;refine⟨hin,R4.okW hfl4 (by rw[kD];omega),?_⟩;rw[cO];have R5:=R4.wr1 (v:=.int .i64 (q:Int)) (o:=k) (by rw[kD];exact hlt);have f5:Fr m3 (wr m4 ob k [.int .i64 (q:Int)]) [ob]:=f4.wr (.inl (gQ9 ..));have w5:Wf (wr m4 ob k [.int .i64 (q:Int)]):=(Keep.wr (o:=k) (l:=[.int .i64 (q:Int)]) kk hob).wf;have hfl5:(wr m4 ob k [.int .i64 (q:Int)]).fl<=ob:=by simp;exact hfl4
  generalize wr m4 ob k [.int .i64 (q:Int)]=m5 at R5 f5 w5 hfl5 ⊢;refine dP (fun hkr=>?_) (fun hkr=>?_)
  .refine⟨hin,(q:Int),by rw[R5.rd,List.getElem?_set_self (by rw[kD];exact hlt)],hin,R5.okW hfl5 (by rw[List.length_set,kD];omega),?_⟩;rw[cO];have kk5:Keep m1 m5:=Keep.of_fr k3 w5 f5 fun b hb=>by rw[List.mem_singleton]at hb;omega
   have R6:=R5.wr1 (v:=.int .i64 (bh .i64 (q:Int) 1)) (o:=k) (by rw[List.length_set,kD];exact hlt);have f6:Fr m3 (wr m5 ob k [.int .i64 (bh .i64 (q:Int) 1)]) [ob]:=f5.wr (.inl (gQ9 ..));have w6:Wf (wr m5 ob k [.int .i64 (bh .i64 (q:Int) 1)]):=(Keep.wr (o:=k) (l:=[.int .i64 (bh .i64 (q:Int) 1)]) kk5 hob).wf;have ev:bh .i64 (q:Int) 1=took (many*rest) l.length k:=by
    unfold took;rw[hq0,hr0,if_pos (by omega),dN (by omega) (by omega)]
   refine⟨_,tc hlt,k+1,wk (by omega),hlt,rfl,f6,w6,?_⟩;rw[List.set_set,ev,Cz hlt]at R6;rw[ev];exact R6
  .have ev:(q:Int)=took (many*rest) l.length k:=by
    unfold took;rw[hq0,hr0,if_neg (by omega)];omega
   refine⟨_,tc hlt,k+1,wk (by omega),hlt,rfl,f5,w5,?_⟩;rw[ev,Cz hlt]at R5;exact R5
 .have ekl:k=l.length:=by omega
  subst ekl;have k9:Keep m1 (bump m4 9):=kk.bump;have ho9:=ho.keep k1.wf k9;have hcut:=Nu ho9 A8;have hcap:=ho9.cap;have hA1:Arr encI 1 m1 a1 l.length l:=ho.arr dV (by omega) rfl;have hA4:=hA1.keep k1.wf kk;obtain⟨a64,s64,d64⟩:=hcut.cut (t:=dt) (hi:=none) (lo:=some (.int .i64 (r:Int))) (i:=r) (j:=l.length) Dp A8 rfl (dC (by omega)) (by omega);obtain⟨a67,s67,d67⟩:=hcut.cut (t:=dt) (hi:=some (.int .i64 (r:Int))) (lo:=none) (i:=0) (j:=r) Dp A8 (dC (by omega)) rfl (by omega);refine⟨_,_,_,s64,_,_,_,s67,?_⟩;have A64:=hA4.cut (i:=r) (j:=l.length) (gQ4 _) d64;have A67:=hA4.cut (i:=0) (j:=r) (by omega) d67;have kC4:Keep m4 (addO (bump m4 9) (m4.nx+6) (row [.slice a64 (l.length-r) (c1-r),.slice a67 (r-0) (c1-0)] dt false)):=((Keep.refl w4).bump (n:=9)).addO (by omega) (by show m4.nx+6<m4.nx+9;omega);have hRC:Row (addO (bump m4 9) (m4.nx+6) (row [.slice a64 (l.length-r) (c1-r),.slice a67 (r-0) (c1-0)] dt false)) (m4.nx+6) [.slice a64 (l.length-r) (c1-r),.slice a67 (r-0) (c1-0)] dt false:=Row.of_row (by rw[gJ,if_pos rfl]);generalize addO (bump m4 9) (m4.nx+6) (row [.slice a64 (l.length-r) (c1-r),.slice a67 (r-0) (c1-0)] dt false)=mC at kC4 hRC ⊢;have el:l.length-r+(r-0)=l.length:=by omega
  refine Jz kC4.wf hRC (A64.keep w4 kC4) (A67.keep w4 kC4) (by omega) fun m7 a69 c69 k7 ho7=>⟨_,_,_,rfl,?_⟩
  rw[el]at ho7 ⊢;rw[List.take_length,List.drop_zero]at ho7;rw[cO];have k17:Keep m1 m7:=(kk.trans kC4).trans k7;have hB7:=hB1.keep k17;have k07:Keep m0 m7:=hB7.ff.acc.keep;rw[cW];refine⟨(l.length:Int),by rw[hB7.row.rd];rfl,?_⟩;refine CB k7.wf k07 hlow (by omega) (by omega) fun m9 k9' hF9=>⟨_,rfl,?_⟩
  rw[cW];have hB9:=hB7.keep k9';have hpr1:pr<m1.nx:=k1.wf.row hB1.row;have k09:Keep m0 m9:=hB9.ff.acc.keep;have hnew:=h.new;refine⟨hB9.row.okW (by have:=k09.fl;omega) (by simp),?_⟩;rw[cO];have RS:=hB9.row.wr (o:=0+1) (vs:=[.pointer (some ⟨m7.nx,0,none⟩)]) (by simp);change Row _ _ [.int .i64 (l.length:Int),.pointer (some ⟨m7.nx,0,none⟩)] _ _ at RS;have fS:Fr m9 (wr m9 pr (0+1) [.pointer (some ⟨m7.nx,0,none⟩)]) [pr]:=(Fr.refl _ _).wr (.inl (gQ9 ..));have wS:Wf (wr m9 pr (0+1) [.pointer (some ⟨m7.nx,0,none⟩)]):=(Keep.wr (o:=0+1) (l:=[.pointer (some ⟨m7.nx,0,none⟩)]) k09 hnew).wf;have x1C:=(kk.trans kC4).nx;have x17:=k17.nx;have hFS:=hF9.fr wS fS fun b hb=>by
   rw[List.mem_singleton]at hb;subst hb;exact⟨hnew,by omega,by simp[blk]⟩
  have ho9':=ho7.keep k7.wf k9';have hoS:=ho9'.fr k9'.wf fS fun b hb hs=>by
   rw[List.mem_singleton]at hs;subst hs;have:=ho7.blk _ hb;omega
  have R7:Row m9 ob (filled (took (many*rest) l.length) l.length l.length) jK false:=k9'.row k7.wf ((kC4.trans k7).row w4 R4);have hob9:ob<m9.nx:=k9'.wf.row R7;have ROS:=fS.row R7 hob9 (by rw[List.mem_singleton];omega);have hprS:=wS.row RS;have hobS:=wS.row ROS;have hlt69:∀b∈blk a69,b<m7.nx:=ho7.lt k7.wf;generalize wr m9 pr (0+1) [.pointer (some ⟨m7.nx,0,none⟩)]=mS at RS fS wS hFS hoS ROS hprS hobS ⊢;have hob7:ob<m7.nx:=k7.wf.row ((kC4.trans k7).row w4 R4);have hnowl:(l.drop r++l.take r).length=l.length:=by rw[gR2,List.length_drop,List.length_take];omega
  have nS:=hFS.lt;refine⟨fun x80 mm w=>∃(k:Nat) (a2:Option Addr) (c2:Nat),x80=(k:Int)/\k<=l.length/\w=l.length-k/\FF m0 mm m7.nx (l.length:Int) a2 c2 ((l.drop r++l.take r).take k)/\Fr mS mm [m7.nx]/\(∀b∈blk a2,mS.nx<=b),⟨_,0,none,0,rfl,Nat.zero_le _,rfl,hFS,Fr.refl _ _,fun b hb=>by cases hb⟩,?_⟩;rintro x80 mm w ⟨k,a2,c2,rfl,hk2,rfl,hF,hfr,hbl⟩;have wmm:Wf mm:=hF.acc.keep.wf;have hom:=hoS.fr wS hfr fun b hb hs=>by
   rw[List.mem_singleton]at hs;subst hs;exact absurd (hlt69 _ hb) (by omega)
  have A69:Arr encI 1 mm a69 l.length (l.drop r++l.take r):=hom.arr dV (by omega) hnowl;refine dG (fun hlt=>?_) (fun hge=>?_)
  .obtain⟨x,hx⟩:∃x,(l.drop r++l.take r)[k]? = some x:=⟨_,gQ2 (by rw[hnowl];exact hlt)⟩;refine A69.open (k:=k) hx fun b o hc=>⟨_,hc 0 _ rfl,?_⟩
   rw[cW];have hpm:=hfr.row RS hprS (by rw[List.mem_singleton];omega);refine⟨some ⟨m7.nx,0,none⟩,by rw[hpm.rd];rfl,?_⟩;refine yO hF (by rw[List.length_take];omega) (by rw[List.length_take,hnowl];omega) fun m12 a' c' hF' hf' hn'=>⟨_,rfl,_,tc hlt,k+1,a',c',wk (by omega),hlt,rfl,?_,?_,fun b hb=>?_⟩
   .rw[List.take_add_one,hx];exact hF'
   .refine hfr.trans hf' fun b hb=>?_
    rcases List.mem_cons.1 hb with hb|hb
    .exact .inl (by rw[hb];exact gQ9 ..)
    .exact .inr (hbl b hb)
   .have:=hn' b hb;have:=hfr.nx;omega
  .refine hQ mm ob a69 c69 hF.acc.keep ?_ A69;have hom2:=hfr.row ROS hobS (by rw[List.mem_singleton];omega);rw[JB]at hom2;have:=Arr.of_row dV hom2;rw[List.length_map,List.length_range]at this;exact this
end
end Go.Proofs.YthpnifigjfplbaaGreat.vc
namespace Go.Proofs.YthpnifigjfplbaaGreat.vc
open Go Go.AX
section
variable {m m0:Mem} {Q:Value->Mem->Prop} {a:Option Addr} {n c:Nat}
def nums(n:Nat):List Int:=(List.range n).map fun(i:Nat)=>(i:Int)
theorem po(n:Nat):(nums n).length=n:=by unfold nums;simp
theorem Lt(n:Nat):nums (n+1)=nums n++[(n:Int)]:=by unfold nums;rw[List.range_succ];simp
theorem OZ(n:Nat):(n:Int)∉nums n:=by
 unfold nums;intro h;obtain⟨i,hi,e⟩:=List.mem_map.1 h;have:=List.mem_range.1 hi;omega
theorem Nr{l:List pm.Back}{many k:Nat}(hw:Wf m)(hl:Arr encB 2 m a n l)(hcut:Cut cx m a n c 2)(hn:n<=16)(hm:many<=n)(hb:∀b∈l,0<=b.ran/\b.ran+k<=4611686018427387904)(hk:(k:Int)<=4611686018427387904)
  (hQ:∀m' a' c',Keep m m'->Arr encB 2 m' a' n (pm.nW k l many)->Cut cx m' a' n c' 2->Q (.slice a' n c') m') :
  ah cx ue [.slice a n c,.int .i64 (many:Int),.int .i64 (k:Int)] m Q:=by
 apply Cw;unfold uf;have hln:l.length=n:=hl.1;refine fC (fun e=>?_) (fun hne=>?_)
 .have e0:many=0:=by omega
  subst e0;exact hQ m a c (Keep.refl hw) (by rw[pm.yM];exact hl) hcut
 .have hn1:1<=n:=by omega
  have ht:pm.nW k l many=pm.gU (k*many) l:=pm.BQ k (by omega) hb;rw[ht]at hQ;refine HJ hw (by simp only[aQ];omega) (by simp only[aQ];omega) fun m1 pr pf hB=>⟨_,rfl,?_⟩
  refine⟨fun x26 mm w=>∃(i:Nat) (a2:Option Addr) (c2:Nat),x26=(i:Int)/\i<=n/\w=n-i/\RB m mm pr pf (aQ n) a2 c2 (nums i),⟨_,0,none,0,rfl,Nat.zero_le _,rfl,(show RB m m1 pr pf (aQ n) none 0 []from hB)⟩,?_⟩;rintro x26 m2 w ⟨i,a2,c2,rfl,hi,rfl,hB2⟩;refine dG (fun hlt=>?_) (fun hge=>?_)
  .refine HK hB2 (by rw[po];omega) (by rw[po];simp only[aQ];omega) (by omega) (OZ i) fun m3 a3 c3 hB3=>⟨_,rfl,_,tc hlt,i+1,a3,c3,wk (by omega),hlt,rfl,?_⟩
   rw[Lt];exact hB3
  .have ei:i=n:=by omega
   subst ei;refine⟨by simp only[aQ];omega,by simp only[aQ];omega,?_⟩;have hmod:Int.tmod (k:Int) (aQ i)=((k % i:Nat):Int):=by
    unfold aQ;rw[Int.tmod_eq_emod_of_nonneg (by omega)];simp
   have hml:=Nat.mod_lt k (show 0<i by omega);rw[hmod];have hB2':RB m m2 pr pf ((nums i).length:Int) a2 c2 (nums i):=by rw[po];exact hB2
   refine O0 hB2' (by rw[po];omega) (by rw[po];omega) (by rw[po];omega) (by omega) fun m4 ob a4 c4 k4 hOut hNow=>⟨_,_,_,_,_,_,rfl,?_⟩
   rw[po]at hOut hNow ⊢;have hr:=Nat.mod_lt (many*(k % i)) (show 0<i by omega);have hnl:(pm.gU (k*many) l).length=i:=by rw[pm.D7];exact hln
   have hq1:k / i*many<=k:=Nat.le_trans (Nat.mul_le_mul_left _ hm) (Nat.div_mul_le_self k i);obtain⟨Q1,hQ1⟩:∃Q1,Q1=k / i*many:=⟨_,rfl⟩;rw[<-hQ1]at hq1;have eq1:ot .i64 (k:Int) (aQ i)=((k / i:Nat):Int):=by
    have h0:=Nat.div_le_self k i;unfold ot aQ;rw[Int.tdiv_eq_ediv_of_nonneg (by omega),<-Int.natCast_ediv];generalize k / i=d at h0;exact jN (by omega) (by omega)
   have eq2:io .i64 ((k / i:Nat):Int) (many:Int)=(Q1:Int):=by
    have:((k / i:Nat):Int)*(many:Int)=(Q1:Int):=by rw[hQ1];simp
    unfold io;rw[this];exact jN (by omega) (by omega)
   rw[eq1,eq2];refine⟨fun a13 n13 c13 x49 mm w=>∃j:Nat,x49=(j:Int)/\j<=i/\w=i-j/\n13=j/\Acc m4 mm a13 n13 c13 2 dk (((pm.gU (k*many) l).take j).flatMap encB),⟨_,0,rfl,Nat.zero_le _,rfl,rfl,by simpa using Acc.nil (Keep.refl k4.wf) 2 dk⟩,?_⟩;rintro a13 n13 c13 x49 m5 w ⟨j,rfl,hj,rfl,rfl,hA⟩;have k5:=hA.keep;refine dG (fun hlt=>?_) (fun hge=>?_)
   .have hjl:n13<l.length:=by omega
    have hwl:=pm.MF hr hlt;have hnow:((nums i).drop (many*(k % i) % i)++(nums i).take (many*(k % i) % i))[n13]? = some ((pm.sH i (many*(k % i) % i) n13:Nat):Int):=pm.KT (f:=fun(i:Nat)=>(i:Int)) hr hlt;have hnx:=pm.MG (k:=k) (many:=many) hjl;rw[hln,<-hQ1]at hnx;generalize hp:pm.sH i (many*(k % i) % i) n13=p at hwl hnow hnx;obtain⟨b,hbp⟩:∃b,l[p]? = some b:=⟨_,gQ2 (by omega)⟩;rw[hbp,Option.map_some]at hnx;have hbb:=hb b (gQ3 hbp);have k6:Keep m5 (bump m5 22):=(Keep.refl k5.wf).bump;have k46:=k5.trans k6;have hout:((List.range i).map (took (many*(k % i)) i))[p]? = some (took (many*(k % i)) i p):=by
     rw[List.getElem?_map,List.getElem?_range hwl];rfl
    refine(hNow.keep k4.wf k5).open (k:=n13) hnow fun bb o hc=>⟨_,hc 0 _ rfl,?_⟩
    refine(hl.keep hw (k4.trans k46)).open (k:=p) hbp fun bb o hc=>⟨_,hc 0 _ rfl,?_⟩
    refine(hl.keep hw (k4.trans k46)).open (k:=p) hbp fun bb o hc=>⟨_,hc 1 _ rfl,?_⟩
    refine(hOut.keep k4.wf k46).open (k:=p) hout fun bb o hc=>⟨_,hc 0 _ rfl,?_⟩
    have htk:many*(k % i) / i<=16:=by
     have h1:many*(k % i)<=i*16:=Nat.mul_le_mul hm (by omega);exact Nat.div_le_of_le_mul h1
    have hsum:bh .i64 (bh .i64 b.ran (Q1:Int)) (took (many*(k % i)) i p)=(pm.jE (((Q1+many*(k % i) / i:Nat):Int)+if p<many*(k % i) % i then 1 else 0) b).ran:=by
     unfold took pm.jE;simp only;generalize many*(k % i) / i=D1 at htk;generalize many*(k % i) % i=R1;rw[dN (x:=b.ran) (by omega) (by omega)];by_cases hc:p<R1
     .rw[if_pos hc,dN (by omega) (by omega)];omega
     .rw[if_neg hc,dN (by omega) (by omega)];omega
    rw[hsum];have k7:Keep m5 (addO (bump m5 22) (m5.nx+19) (row (encB (pm.jE (((Q1+many*(k % i) / i:Nat):Int)+if p<many*(k % i) % i then 1 else 0) b)) dk false)):=k6.addO (by omega) (by show m5.nx+19<m5.nx+22;omega);have hR:Row (addO (bump m5 22) (m5.nx+19) (row (encB (pm.jE (((Q1+many*(k % i) / i:Nat):Int)+if p<many*(k % i) % i then 1 else 0) b)) dk false)) (m5.nx+19) (([pm.jE (((Q1+many*(k % i) / i:Nat):Int)+if p<many*(k % i) % i then 1 else 0) b]).flatMap encB) dk false:=Row.of_row (by rw[gJ,if_pos rfl];rfl);change ∃a73 n73 c73 m6,cQ cx (addO (bump m5 22) (m5.nx+19) (row (encB (pm.jE (((Q1+many*(k % i) / i:Nat):Int)+if p<many*(k % i) % i then 1 else 0) b)) dk false)) _ _=_/\_;generalize addO (bump m5 22) (m5.nx+19) (row (encB (pm.jE (((Q1+many*(k % i) / i:Nat):Int)+if p<many*(k % i) % i then 1 else 0) b)) dk false)=m7 at k7 hR ⊢;have hfirst:=(Arr.of_row fI hR).first (c:=1) fI (by omega);obtain⟨m8,q1,q2,q3,q4,q5⟩:=(hA.then k7).push' (cx:=cx) (t:=cS) (by kernel_rfl) hfirst rfl rfl (by omega);refine⟨_,_,_,m8,q1,?_⟩;rw[cO];refine⟨_,tc hlt,n13+1,wk (by omega),hlt,rfl,rfl,?_⟩
    .rw[List.take_add_one,hnx,List.flatMap_append];exact q2
   .have ej:n13=i:=by omega
    subst ej;rw[List.take_of_length_le (by omega)]at hA;exact hQ m5 a13 c13 (k4.trans hA.keep) (hA.arr fI (by omega)) (Ns hA iN)
end
end Go.Proofs.YthpnifigjfplbaaGreat.vc
namespace Go.Proofs.YthpnifigjfplbaaGreat.vc
open Go Go.AX
section
variable {B:Int} {m:Mem} {Q:Value->Mem->Prop} {M now:Int} {a1 a2 a3:Option Addr} {n1 c1 n2 c2 n3 c3:Nat} {σ : pm.St}
theorem td(x y:Int):fG x y=min x y:=by unfold fG;split<;>omega
theorem O1(x y:Int):ke x y=max x y:=by unfold ke;split<;>omega
theorem Jx{α β : Type}(f:β->α->β)(l:List α)(x:α)(z:β):(l++[x]).foldl f z=f (l.foldl f z) x:=by simp
theorem G5{most:Int}(hw:Wf m)(hσ : RdSt cx m M now a1 n1 a2 n2 a3 n3 c3 σ)(hI:pm.Iv B σ)(hd:pm.Hd σ)
  (h:∀m',Keep m m'->Q (.int .i64 (pm.still σ most)) m') :
  ah cx ql [.agg #[.int .i64 M,.int .i64 now,.slice a1 n1 c1,.slice a2 n2 c2,.slice a3 n3 c3],.int .i64 most] m Q:=by
 apply Cy;unfold ug;have k0:Keep m (bump m 1):=(Keep.refl hw).bump;have hz1:=hI.len1;have hz2:=hI.len2;have hz3:=hI.len3;have hz4:=hI.m1;have hz5:=hI.m2;have l1:=hσ.len1;have l2:=hσ.len2;have l3:=hσ.len3;have eM:=hσ.em;have en:=hσ.enow;refine te k0.wf (hσ.keep hw k0) (by omega) (by omega) (by omega) (by omega) fun m1 ra rc ba bc k1 hAr _ _ _=>⟨_,_,_,_,_,_,rfl,?_⟩
 have k01:=k0.trans k1;obtain⟨ss,aS,rS⟩:=hσ.servs;obtain⟨ls,aL,rL⟩:=hσ.sems;have hrl:(pm.bm σ).length<=64:=by have:=jG σ hz4;omega
 refine⟨fun x1 x19 mm w=>∃i:Nat,x19=(i:Int)/\i<=n1/\w=n1-i/\x1=(σ.servs.take i).foldl (pm.mn σ (pm.bm σ)) most/\Keep m1 mm,⟨n1,0,rfl,Nat.zero_le _,rfl,rfl,Keep.refl k1.wf⟩,?_⟩;rintro x1 x19 m2 w ⟨i,rfl,hi,rfl,rfl,k2⟩;refine dG (fun hlt=>?_) (fun hge=>?_)
 .obtain⟨x,hx⟩:∃x,σ.servs[i]? = some x:=⟨_,gQ2 (by omega)⟩;have hxm:=gQ3 hx;obtain⟨v,hv,rv⟩:=rS.get' hx;have hg:=hI.serv x hxm;have hran:=hI.ran x hxm;have hho:=hd x hxm;unfold pm.HO at hho;have hn1:=hI.now1;have hn2:=hI.now2;have hs:=hg.s;have p1:=hs.p2;have p2:=hs.q2;have p3:=hs.b1;have p4:=hs.b2;have p5:=hs.d1;have p6:=hs.d2;have hfold:(σ.servs.take (i+1)).foldl (pm.mn σ (pm.bm σ)) most=pm.mn σ (pm.bm σ) ((σ.servs.take i).foldl (pm.mn σ (pm.bm σ)) most) x:=by
   rw[List.take_add_one,hx];exact Jx _ _ _ _
  generalize (σ.servs.take i).foldl (pm.mn σ (pm.bm σ)) most=T at hfold;have k02:=k01.trans k2;have e1:v.id=x.id:=rv.id;have e2:v.s=x.s:=rv.s;have e3:v.sec=x.sec:=rv.sec;have e4:v.held=x.held:=rv.held;refine(aS.keep hw k02).open (k:=i) hv fun b o hc=>⟨_,hc 0 _ rfl,_,hc 1 _ rfl,_,hc 2 _ rfl,_,hc 3 _ rfl,_,hc 4 _ rfl,_,hc 5 _ rfl,_,_,_,hc 6 _ rfl,_,hc 7 _ rfl,_,hc 8 _ rfl,_,hc 9 _ rfl,_,hc 10 _ rfl,?_⟩
  rw[e1,e2,e3,e4];have k2b:Keep m2 (bump m2 1):=(Keep.refl k2.wf).bump;have hnext:∀(X:Int) (m':Mem),X=pm.mn σ (pm.bm σ) T x->Keep m1 m'->∃n':Nat,n'<n1-i/\∃i':Nat,bh .i64 (i:Int) 1=(i':Int)/\i'<=n1/\n'=n1-i'/\X=(σ.servs.take i').foldl (pm.mn σ (pm.bm σ)) most/\Keep m1 m':=by
   intro X m' hX hk;refine⟨n1-(i+1),by omega,i+1,?_,hlt,rfl,by rw[hX,hfold],hk⟩;rw[dN (by omega) (by omega)];rfl
  clear hfold;refine dL (fun f:Int->Mem->Prop=>∀mm,Keep m2 mm->f (if x.s.mode≠0/\σ.now<x.s.due then min T (x.s.due - σ.now) else T) mm) ?_ ?_
  .intro m3 k3;have hst:pm.mn σ (pm.bm σ) T x=(let a:=if x.s.mode≠0/\σ.now<x.s.due then min T (x.s.due - σ.now) else T
    if x.id∈pm.bm σ then (let b:=min a (x.s.bud-1);let c:=if x.sec≠1 then min b (pm.headN x-pm.headDone x-1) else b;if x.sec=2 then min c (pm.mostAt σ (pm.headSem x)-x.held-1) else c) else a):=rfl
   rw[hst]at hnext;clear hst;generalize (if x.s.mode≠0/\σ.now<x.s.due then min T (x.s.due - σ.now) else T)=A at hnext ⊢;simp only at hnext;have k23:=k2.trans k3;refine Aw k3.wf (hAr.keep k1.wf k23) (by omega) fun m4 k4=>⟨_,rfl,dR (fun hb=>?_) (fun hb=>?_)⟩
   .rw[decide_eq_false_iff_not]at hb;rw[if_neg hb]at hnext;exact hnext A m4 rfl (k23.trans k4)
   .rw[decide_eq_true_iff]at hb;rw[if_pos hb]at hnext;obtain⟨hmo,hj⟩:=pm.rH hI hxm hb;cases hjs:x.jobs with
    | nil=>exact absurd hjs hj
    | cons j r=>
     have hgj:=hg.jobs j (by rw[hjs];exact gQ9 ..);obtain⟨js,aJ,rJ⟩:=rv.jobs;obtain⟨jv,hjv,hJ⟩:=rJ.get' (i:=0) (b:=j) (by rw[hjs];rfl);have d1:pm.headN x=j.cur.2:=by unfold pm.headN;rw[hjs]
     have d2:pm.headDone x=j.done:=by unfold pm.headDone;rw[hjs]
     have d3:pm.headSem x=j.cur.1:=by unfold pm.headSem;rw[hjs]
     rw[d1,d2,d3]at hnext;have k04:=k02.trans (k3.trans k4);have hcur:=hgj.cur;have hdone:=hgj.done;have ejv:(⟨jv.num,j.prog,jv.at_,jv.done⟩:pm.Job)=j:=by rw[hJ.num,hJ.at_,hJ.done]
     refine(aJ.keep hw k04).open (k:=0) hjv fun bj oj hcj=>⟨_,hcj 0 _ rfl,_,_,_,hcj 1 _ rfl,_,hcj 2 _ rfl,_,hcj 3 _ rfl,?_⟩
     refine ud k4.wf (hJ.prog.keep hw k04) fun m5 k5=>⟨_,_,_,rfl,?_⟩
     rw[ejv,hgj.step];simp only;have k05:=k04.trans k5;have k15:=(k23.trans k4).trans k5;have s1:de .i64 x.s.bud 1=x.s.bud-1:=eO (by omega) (by omega);rw[s1,td];refine dL (fun f:Int->Mem->Prop=>∀mm,Keep m5 mm->f (if x.sec≠1 then min (min A (x.s.bud-1)) (j.cur.2-j.done-1) else min A (x.s.bud-1)) mm) ?_ ?_
     .intro m6 k6;generalize (if x.sec≠1 then min (min A (x.s.bud-1)) (j.cur.2-j.done-1) else min A (x.s.bud-1))=C at hnext ⊢;refine fC (fun h2=>?_) (fun h2=>?_)
      .rw[if_pos h2]at hnext;have h1s:1<=j.cur.1:=by
        rcases hg.sec with e|⟨_,e⟩
        .omega
        .rw[d3]at e;exact e
       have k6b:Keep m6 (bump m6 15):=(Keep.refl k6.wf).bump;obtain⟨q,hq⟩:∃q:Nat,(q:Int)=j.cur.1-1:=⟨(j.cur.1-1).toNat,by omega⟩;have esub:de .i64 j.cur.1 1=(q:Int):=by rw[eO (by omega) (by omega)];omega
       rw[esub];obtain⟨lk,hlk⟩:∃lk,σ.sems[q]? = some lk:=⟨_,gQ2 (by omega)⟩;obtain⟨lv,hlv,rl⟩:=rL.get' hlk;have hmost:=hI.most lk (gQ3 hlk);have em:pm.mostAt σ j.cur.1=lk.most:=by
        unfold pm.mostAt;rw[show (j.cur.1-1).toNat=q by omega,hlk]
       refine(aL.keep hw (k05.trans (k6.trans k6b))).open (k:=q) hlv fun bl ol hcl=>⟨_,hcl 0 _ rfl,?_⟩
       refine hnext _ _ ?_ (k15.trans (k6.trans k6b));have s2:de .i64 lk.most x.held=lk.most-x.held:=eO (by omega) (by omega);have s3:de .i64 (lk.most-x.held) 1=lk.most-x.held-1:=eO (by omega) (by omega);rw[rl.most,em,td,s2,s3]
      .rw[if_neg h2]at hnext;exact hnext C m6 rfl (k15.trans k6)
     .intro J hJ';refine fu (fun h1=>?_) (fun h1=>?_)
      .rw[if_pos h1]at hJ';have k5b:Keep m5 (bump m5 13):=(Keep.refl k5.wf).bump;refine(aJ.keep hw (k05.trans k5b)).open (k:=0) hjv fun bj oj hcj=>⟨_,hcj 3 _ rfl,?_⟩
       have hd2:jv.done=j.done:=hJ.done;rw[hd2,td,eO (x:=j.cur.2) (by omega) (by omega),eO (by omega) (by omega)];exact hJ' _ k5b
      .rw[if_neg (by omega)]at hJ';exact hJ' _ (Keep.refl k5.wf).bump
  .intro J hJ;refine dL (fun f:Bool->Mem->Prop=>∀mm,Keep m2 mm->f (decide (x.s.mode≠0/\σ.now<x.s.due)) mm) ?_ ?_
   .intro m7 k7;have:=hJ m7 k7;refine cJ (fun hb=>?_) (fun hb=>?_)
    .rw[decide_eq_true_iff]at hb;rw[if_pos hb]at this;rw[en,td,eO (by omega) (by omega)];exact this
    .rw[decide_eq_false_iff_not]at hb;rw[if_neg hb]at this;exact this
   .intro J' hJ';have:=hJ' (bump m2 1) k2b;refine fu (fun hb=>?_) (fun hb=>?_)
    .have e:decide (x.s.mode≠0/\σ.now<x.s.due)=cR now x.s.due:=by
      rw[Bool.eq_iff_iff,decide_eq_true_iff,gH,en];exact⟨fun h=>h.2,fun h=>⟨hb,h⟩⟩
     rw[e]at this;exact this
    .have e:decide (x.s.mode≠0/\σ.now<x.s.due)=false:=decide_eq_false fun h=>h.1 hb
     rw[e]at this;exact this
 .rw[List.take_of_length_le (by omega),O1];exact h m2 (k01.trans k2)
end
end Go.Proofs.YthpnifigjfplbaaGreat.vc
namespace Go.Proofs.YthpnifigjfplbaaGreat.vc
open Go Go.AX
section
variable {B:Int} {m mm mm':Mem} {Q:Value->Mem->Prop} {M now:Int} {a1 a2 a3:Option Addr} {n1 c1 n2 c2 n3 c3:Nat} {σ : pm.St}
def JobsOk(m mm:Mem)(b:Nat)(v:SV)(l:List pm.Job):Prop:=
 (∃js,Arr encJ 4 m v.ja v.jn js/\All2 (RdJob m) js l)∨(∃bj js,v.ja=some ⟨bj,0,none⟩/\m.nx<=bj/\bj<mm.nx/\bj≠b/\Row mm bj (js.flatMap encJ) fH true/\js.length=v.jn/\All2 (RdJob m) js l)
theorem JobsOk.fr{b:Nat}{v:SV}{l:List pm.Job}(h:JobsOk m mm b v l)(f:Fr mm mm' [b]):JobsOk m mm' b v l:=by
 rcases h with h|⟨bj,js,h1,h2,h3,h4,h5,h6,h7⟩
 .exact .inl h
 .exact .inr ⟨bj,js,h1,h2,Nat.lt_of_lt_of_le h3 f.nx,h4,f.row h5 h3 (by rw[List.mem_singleton];exact h4),h6,h7⟩
theorem JobsOk.rd{b:Nat}{v:SV}{l:List pm.Job}(h:JobsOk m mm b v l)(hw:Wf m)(k:Keep m mm):∃js,Arr encJ 4 mm v.ja v.jn js/\All2 (RdJob mm) js l:=by
 rcases h with⟨js,h1,h2⟩|⟨bj,js,h1,h2,h3,h4,h5,h6,h7⟩
 .exact⟨js,h1.keep hw k,h2.imp fun _ _ r=>r.keep hw k⟩
 .refine⟨js,?_,h7.imp fun _ _ r=>r.keep hw k⟩;rw[h1,<-h6];exact Arr.of_row fh h5
structure SrvOk (m mm:Mem) (b:Nat) (v:SV) (x:pm.Serv):Prop where
 id:v.id=x.id
 s:v.s=x.s
 sec:v.sec=x.sec
 held:v.held=x.held
 num:v.num=x.num
 ran:v.ran=x.ran
 jobs:JobsOk m mm b v x.jobs
theorem SrvOk.fr{b:Nat}{v:SV}{x:pm.Serv}(h:SrvOk m mm b v x)(f:Fr mm mm' [b]):SrvOk m mm' b v x:=⟨h.id,h.s,h.sec,h.held,h.num,h.ran,h.jobs.fr f⟩
theorem SrvOk.rd{b:Nat}{v:SV}{x:pm.Serv}(h:SrvOk m mm b v x)(hw:Wf m)(k:Keep m mm):RdServ mm v x:=⟨h.id,h.s,h.sec,h.held,h.num,h.ran,h.jobs.rd hw k⟩
theorem xI{b i k:Nat}{ss:List SV}{v v':SV}{vs:List Value}(h:Row m b (ss.flatMap encS) dr true)(hv:ss[i]? = some v)(hk:k+vs.length<=11)(he:over (encS v) k vs=encS v')(hf:m.fl<=b) :
  okW m b (0+Int.toNat (i:Int)*11+k) vs.length/\Row (wr m b (0+Int.toNat (i:Int)*11+k) vs) b ((ss.set i v').flatMap encS) dr true:=by
 have ei:0+Int.toNat (i:Int)*11+k=i*11+k:=by simp
 have hil:=(gQ1 hv).1;have hlen:i*11+k+vs.length<=(ss.flatMap encS).length:=by rw[dm fJ];omega
 rw[ei];refine⟨h.okW hf hlen,?_⟩;have:=h.wr (o:=i*11+k) (vs:=vs) hlen
 rwa [AM fJ (by omega) hv hk he]at this
theorem jL{b i j:Nat}{ss:List SV}{v:SV}{u:Value}(h:Row m b (ss.flatMap encS) dr true)(hv:ss[i]? = some v)(hu:(encS v)[j]? = some u):rd m b (0+Int.toNat (i:Int)*11+j)=some u:=by
 have ei:0+Int.toNat (i:Int)*11+j=i*11+j:=by simp
 have hj:j<11:=by have:=(gQ1 hu).1;rwa [fJ]at this
 rw[ei,h.rd,flat_get fJ hv hj,hu]
def done{α : Type}(f:α->α)(l:List α)(i:Nat):List α:=(l.take i).map f++l.drop i
theorem LG{α : Type}(f:α->α)(l:List α):done f l 0=l:=by unfold done;simp
theorem ND{α : Type}(f:α->α)(l:List α){i:Nat}(h:l.length<=i):done f l i=l.map f:=by
 unfold done;rw[List.take_of_length_le h,List.drop_eq_nil_of_le h,List.append_nil]
theorem NE{α : Type}(f:α->α){l:List α}{i:Nat}{x:α}(h:l[i]? = some x):(done f l i)[i]? = some x:=by
 have hi:=(gQ1 h).1;unfold done;rw[List.getElem?_append_right (by rw[List.length_map,List.length_take];omega),List.length_map,List.length_take,List.getElem?_drop];rw[show i+(i-min i l.length)=i by omega];exact h
theorem LH{α : Type}(f:α->α){l:List α}{i:Nat}{x:α}(h:l[i]? = some x):(done f l i).set i (f x)=done f l (i+1):=by
 have hi:=(gQ1 h).1;unfold done;rw[List.set_append_right _ _ (by rw[List.length_map,List.length_take];omega),List.length_map,List.length_take,show i-min i l.length=0 by omega];rw[List.take_add_one,h,List.map_append];have:l.drop i=x::l.drop (i+1):=by
  rw[List.drop_eq_getElem_cons hi,(gQ1 h).2]
 rw[this];simp
theorem Pi{b:Nat}{ss:List SV}{xs:List pm.Serv}(h:All2 (SrvOk m mm b) ss xs)(f:Fr mm mm' [b]):All2 (SrvOk m mm' b) ss xs:=h.imp fun _ _ r=>r.fr f
end
end Go.Proofs.YthpnifigjfplbaaGreat.vc
namespace Go.Proofs.YthpnifigjfplbaaGreat.vc
open Go Go.AX
section
variable {B:Int} {m mm mm':Mem} {Q:Value->Mem->Prop} {M now:Int} {a1 a2 a3:Option Addr} {n1 c1 n2 c2 n3 c3:Nat} {σ : pm.St}
theorem Dy{m0:Mem}{e:TypeId}{a:Option Addr}{n c:Nat}{l:List Value}(h:OwnSl m0 m e a n c l)(hn:0<n):∃b,a=some ⟨b,0,none⟩/\m0.nx<=b/\Row m b l e true:=by
 cases h with
 | nil=>omega
 | empty b cc h1 h2=>omega
 | row b n l h0 h1 h2=>exact⟨b,rfl,h1,h2⟩
theorem LI(j:pm.Job)(n:Int):(pm.eY j n).1.prog=j.prog:=by unfold pm.eY;cases (pm.dI j).2<;>rfl
theorem Ip{k:Nat}(hw:Wf m)(hσ : RdSt cx m M now a1 n1 a2 n2 a3 n3 c3 σ)(hI:pm.Iv B σ)(hd:pm.Hd σ)(hn:σ.now+k<=4611686018427387904)
  (hQ:∀m' now' b1 d1 b3 d3,Keep m m'->RdSt cx m' M now' b1 n1 a2 n2 b3 n3 d3 (pm.skip σ k)->Q (.agg #[.int .i64 M,.int .i64 now',.slice b1 n1 d1,.slice a2 n2 c2,.slice b3 n3 d3]) m') :
  ah cx rp [.agg #[.int .i64 M,.int .i64 now,.slice a1 n1 c1,.slice a2 n2 c2,.slice a3 n3 c3],.int .i64 (k:Int)] m Q:=by
 apply Dz;unfold vO;have k0:Keep m (bump m 2):=(Keep.refl hw).bump;refine fC (fun hk=>?_) (fun hk=>?_)
 .have e:pm.skip σ k = σ:=by unfold pm.skip;rw[if_pos hk]
  rw[e]at hQ;exact hQ _ now a1 c1 a3 c3 k0 (hσ.keep hw k0)
 have hz1:=hI.len1;have hz2:=hI.len2;have hz3:=hI.len3;have hz4:=hI.m1;have hz5:=hI.m2;have l1:=hσ.len1;have l2:=hσ.len2;have l3:=hσ.len3;have eM:=hσ.em;have en:=hσ.enow;have hn1:=hI.now1;refine te k0.wf (hσ.keep hw k0) (by omega) (by omega) (by omega) (by omega) fun m1 ra rc ba bc k1 hAr hAb _ _=>⟨_,_,_,_,_,_,rfl,?_⟩
 have k01:=k0.trans k1;obtain⟨ss,aS,rS⟩:=hσ.servs;have hrl:(pm.bm σ).length<=64:=by have:=jG σ hz4;omega
 have hbl:=pm.Hy (σ:=σ) (jG σ hz4) hz5 (by omega);refine Et k1.wf (aS.keep hw k01) (by omega) fun m2 b1 d1 k2 ho=>⟨_,_,_,rfl,?_⟩
 obtain⟨f,hf⟩:∃f,f=pm.eD (pm.bm σ) k:=⟨_,rfl⟩;have k02:=k01.trans k2;have x01:=k01.nx;have ssl:ss.length=n1:=aS.1;refine⟨fun x24 mm w=>∃(i:Nat) (ss':List SV),x24=(i:Int)/\i<=n1/\w=n1-i/\Keep m1 mm/\OwnSl m1 mm dr b1 n1 d1 (ss'.flatMap encS)/\ss'.length=n1/\∀b,b1=some ⟨b,0,none⟩->All2 (SrvOk m mm b) ss' (done f σ.servs i),
  ⟨n1,0,ss,rfl,Nat.zero_le _,rfl,k2,ho,ssl,fun b _=>by
   rw[LG];exact rS.imp fun v x r=>⟨r.id,r.s,r.sec,r.held,r.num,r.ran,.inl r.jobs⟩⟩,?_⟩
 rintro x24 m3 w ⟨i,ss',rfl,hi,rfl,k3,ho3,sl3,hA3⟩;have k03:=k01.trans k3;refine dG (fun hlt=>?_) (fun hge=>?_)
 .obtain⟨x,hx⟩:∃x,σ.servs[i]? = some x:=⟨_,gQ2 (by omega)⟩;have hxm:=gQ3 hx;obtain⟨b,hb1,hbn,R3⟩:∃b,b1=some ⟨b,0,none⟩/\m1.nx<=b/\Row m3 b (ss'.flatMap encS) dr true:=by
   exact Dy ho3 (by omega)
  have hA:=hA3 b hb1;subst hb1;clear ho3 hA3;obtain⟨v,hv,hS⟩:=hA.get' (NE f hx);have hran:=hI.ran x hxm;have hho:=hd x hxm;unfold pm.HO at hho;have hlow:m1.fl<=m1.nx:=k1.wf.1;have flb:∀{mx:Mem},Keep m1 mx->mx.fl<=b:=fun kx=>by have:=kx.fl;omega
  refine⟨⟨by omega,by omega⟩,?_⟩;rw[cW];refine⟨x.id,by rw[<-hS.id];exact jL (j:=0) R3 hv rfl,?_⟩;refine Aw k3.wf (hAr.keep k1.wf k3) (by omega) fun m4 k4=>⟨_,rfl,?_⟩
  have k34:=k3.trans k4;have hb3:=k3.wf.row R3;have R4:=k4.row k3.wf R3;have f34:Fr m3 m4 [b]:=k4.fr _;have eadd:bh .i64 (i:Int) 1=((i+1:Nat):Int):=by rw[dN (by omega) (by omega)];rfl
  have next:∀(mz:Mem) (v':SV),Keep m1 mz->Fr m3 mz [b]->Row mz b ((ss'.set i v').flatMap encS) dr true->SrvOk m mz b v' (f x)->
    ∃n_22:Nat,n_22<n1-i/\∃(i':Nat) (ss'':List SV),bh .i64 (i:Int) 1=(i':Int)/\i'<=n1/\n_22=n1-i'/\Keep m1 mz/\OwnSl m1 mz dr (some ⟨b,0,none⟩) n1 d1 (ss''.flatMap encS)/\ss''.length=n1/\∀b',(some ⟨b,0,none⟩:Option Addr)=some ⟨b',0,none⟩->All2 (SrvOk m mz b') ss'' (done f σ.servs i'):=by
   intro mz v' kz fz Rz hz;refine⟨n1-(i+1),tc hlt,i+1,ss'.set i v',eadd,hlt,rfl,kz,?_,by rw[List.length_set];exact sl3,fun b' e=>?_⟩
   .have hd1:d1=n1:=ho.cap;rw[hd1];exact .row b n1 _ (Nat.lt_of_le_of_lt (Nat.zero_le _) hlt) hbn Rz
   .cases e;rw[<-LH f hx];exact(Pi hA fz).set hz i
  refine dR (fun hmem=>?_) (fun hmem=>?_)
  .rw[decide_eq_false_iff_not]at hmem;have efx:f x=x:=by rw[hf];unfold pm.eD;rw[if_neg hmem]
   refine next m4 v k34 f34 ?_ (by rw[efx];exact hS.fr f34);rw[set_self hv];exact R4
  .rw[decide_eq_true_iff]at hmem;obtain⟨hmo,hj⟩:=pm.rH hI hxm hmem;have evs:v.s=x.s:=hS.s;refine⟨_,jL (j:=1) R4 hv rfl,_,jL (j:=2) R4 hv rfl,_,jL (j:=3) R4 hv rfl,_,jL (j:=4) R4 hv rfl,_,jL (j:=5) R4 hv rfl,?_⟩;refine Ij k4.wf fun m5 k5=>⟨_,_,_,_,_,_,rfl,?_⟩
   have ev:(⟨v.s.q,v.s.p,v.s.bud,v.s.due,v.s.mode⟩:pm.Srv)=x.s:=hS.s;rw[ev];have k35:=k34.trans k5;have R5:=k5.row k4.wf R4;obtain⟨g6,R6⟩:=xI (k:=1) (v':={ v with s:=(pm.dM x.s k).1 }) (vs:=[.int .i64 (pm.dM x.s k).1.q,.int .i64 (pm.dM x.s k).1.p,.int .i64 (pm.dM x.s k).1.bud,.int .i64 (pm.dM x.s k).1.due,.int .i64 (pm.dM x.s k).1.mode]) R5 hv (by simp) rfl (flb k35);refine⟨g6,?_⟩;rw[cO];have f6:Fr m3 (wr m5 b (0+Int.toNat (i:Int)*11+1) [.int .i64 (pm.dM x.s k).1.q,.int .i64 (pm.dM x.s k).1.p,.int .i64 (pm.dM x.s k).1.bud,.int .i64 (pm.dM x.s k).1.due,.int .i64 (pm.dM x.s k).1.mode]) [b]:=(Fr.trans f34 (k5.fr []) (fun _ h=>by cases h)).wr (.inl (gQ9 ..));have k6:=k35.wr (b:=b) (o:=0+Int.toNat (i:Int)*11+1) (l:=[.int .i64 (pm.dM x.s k).1.q,.int .i64 (pm.dM x.s k).1.p,.int .i64 (pm.dM x.s k).1.bud,.int .i64 (pm.dM x.s k).1.due,.int .i64 (pm.dM x.s k).1.mode]) hbn;generalize wr m5 b (0+Int.toNat (i:Int)*11+1) [.int .i64 (pm.dM x.s k).1.q,.int .i64 (pm.dM x.s k).1.p,.int .i64 (pm.dM x.s k).1.bud,.int .i64 (pm.dM x.s k).1.due,.int .i64 (pm.dM x.s k).1.mode]=m6 at R6 f6 k6 ⊢;have hv6:=dZ (y:={ v with s:=(pm.dM x.s k).1 }) hv;refine⟨_,jL (j:=10) R6 hv6 rfl,?_⟩;have er:bh .i64 v.ran (k:Int)=x.ran+k:=by rw[hS.ran,dN (by omega) (by omega)]
   obtain⟨g7,R7⟩:=xI (k:=10) (v':={ v with s:=(pm.dM x.s k).1,ran:=x.ran+k }) (vs:=[.int .i64 (x.ran+k)]) R6 hv6 (by simp) rfl (flb k6);show okW m6 b (0+Int.toNat (i:Int)*11+10) 1/\cY (wr m6 b (0+Int.toNat (i:Int)*11+10) [.int .i64 (bh .i64 v.ran (k:Int))]) _;rw[er];refine⟨g7,?_⟩;rw[cO];have f7:Fr m3 (wr m6 b (0+Int.toNat (i:Int)*11+10) [.int .i64 (x.ran+k)]) [b]:=f6.wr (.inl (gQ9 ..));have k7:=k6.wr (b:=b) (o:=0+Int.toNat (i:Int)*11+10) (l:=[.int .i64 (x.ran+k)]) hbn;generalize wr m6 b (0+Int.toNat (i:Int)*11+10) [.int .i64 (x.ran+k)]=m7 at R7 f7 k7 ⊢;rw[List.set_set]at R7;have hv7:=dZ (y:={ v with s:=(pm.dM x.s k).1,ran:=x.ran+k }) hv;refine dL (fun g:Mem->Prop=>∀(mz:Mem) (v':SV),Keep m1 mz->Fr m3 mz [b]->Row mz b ((ss'.set i v').flatMap encS) dr true->v'.id=x.id->v'.s=(pm.dM x.s k).1->v'.sec=x.sec->v'.held=x.held->v'.num=x.num->v'.ran=x.ran+k->JobsOk m mz b v' (f x).jobs->g mz) ?_ ?_
   .intro m8 v' k8 f8 R8 q1 q2 q3 q4 q5 q6 q7;have hv8:=dZ (y:=v') hv;refine⟨x.sec,by rw[<-q3];exact jL (j:=7) R8 hv8 rfl,?_⟩;have efx:f x = { x with s:=(pm.dM x.s k).1,ran:=x.ran+k,jobs:=(f x).jobs,held:=if x.sec=2 then x.held+k else x.held }:=by
     rw[hf];unfold pm.eD;rw[if_pos hmem]
    refine fC (fun h2=>?_) (fun h2=>?_)
    .refine⟨x.held,by rw[<-q4];exact jL (j:=8) R8 hv8 rfl,?_⟩;have eh:bh .i64 x.held (k:Int)=x.held+k:=dN (by omega) (by omega);rw[eh];obtain⟨g9,R9⟩:=xI (k:=8) (v':={ v' with held:=x.held+k }) (vs:=[.int .i64 (x.held+k)]) R8 hv8 (by simp) rfl (flb k8);refine⟨g9,?_⟩;rw[cO];have f9:Fr m8 (wr m8 b (0+Int.toNat (i:Int)*11+8) [.int .i64 (x.held+k)]) [b]:=(Fr.refl _ _).wr (.inl (gQ9 ..));have k9:=k8.wr (b:=b) (o:=0+Int.toNat (i:Int)*11+8) (l:=[.int .i64 (x.held+k)]) hbn;rw[List.set_set]at R9;refine next _ _ k9 (f8.wr (.inl (gQ9 ..))) R9 ?_;rw[efx,if_pos h2];exact⟨q1,q2,q3,rfl,q5,q6,JobsOk.fr (v:={ v' with held:=x.held+k }) q7 f9⟩
    .refine next _ _ k8 f8 R8 ?_;rw[efx,if_neg h2];exact⟨q1,q2,q3,q4,q5,q6,q7⟩
   .intro J hJ;refine⟨x.sec,by rw[<-hS.sec];exact jL (j:=7) R7 hv7 rfl,?_⟩;refine fu (fun hs=>?_) (fun hs=>?_)
    ·
     have efj:(f x).jobs=match x.jobs with|[]=>[]|j::r=>(pm.eY j k).1::r:=by
      rw[hf];unfold pm.eD;rw[if_pos hmem];show (if x.sec=1 then _ else _)=_;rw[if_neg hs];cases x.jobs<;>rfl
     obtain⟨jsm,hjm⟩:∃js,js=x.jobs:=⟨_,rfl⟩;refine⟨v.ja,v.jn,v.jc,jL (j:=6) R7 hv7 rfl,?_⟩;have k07:=k01.trans k7;have hJ7:∃js,Arr encJ 4 m7 v.ja v.jn js/\All2 (RdJob m) js x.jobs:=by
      rcases hS.jobs.fr f7 with⟨js,h1,h2⟩|⟨bj,js,h1,h2,h3,h4,h5,h6,h7⟩
      .exact⟨js,h1.keep hw k07,h2⟩
      .refine⟨js,?_,h7⟩;rw[h1,<-h6];exact Arr.of_row fh h5
     obtain⟨js,aJ,rJ⟩:=hJ7;have hgl:=(hI.serv x hxm).len;have jsl:js.length=v.jn:=aJ.1;have jsx:js.length=x.jobs.length:=rJ.len;refine Eu k7.wf aJ (by omega) fun m10 ja' jc' k10 hoJ=>⟨_,_,_,rfl,?_⟩
     cases hjs:x.jobs with
     | nil=>exact absurd hjs hj
     | cons j r=>
      rw[hjs]at rJ efj jsx;simp only at efj;cases rJ with
      | cons hJ0 hJr=>
       rename_i jv jr;obtain⟨bj,hbj,hbjn,RJ⟩:∃bj,ja'=some ⟨bj,0,none⟩/\m7.nx<=bj/\Row m10 bj ((jv::jr).flatMap encJ) fH true:=by
        exact Dy hoJ (by rw[<-jsl];simp)
       subst hbj;have k110:=k7.trans k10;have R10:=k10.row k7.wf R7;have hb7:=k7.wf.row R7;have hbjb:bj≠b:=by omega
       obtain⟨g11,R11⟩:=xI (k:=6) (v':={ v with s:=(pm.dM x.s k).1,ran:=x.ran+k,ja:=some ⟨bj,0,none⟩,jn:=v.jn,jc:=jc' }) (vs:=[.slice (some ⟨bj,0,none⟩) v.jn jc']) R10 hv7 (by simp) rfl (flb k110);refine⟨g11,?_⟩;rw[cO];rw[List.set_set]at R11;have f11:Fr m3 (wr m10 b (0+Int.toNat (i:Int)*11+6) [.slice (some ⟨bj,0,none⟩) v.jn jc']) [b]:=(Fr.trans f7 (k10.fr []) (fun _ h=>by cases h)).wr (.inl (gQ9 ..));have k11:=k110.wr (b:=b) (o:=0+Int.toNat (i:Int)*11+6) (l:=[.slice (some ⟨bj,0,none⟩) v.jn jc']) hbn;have RJ11:Row (wr m10 b (0+Int.toNat (i:Int)*11+6) [.slice (some ⟨bj,0,none⟩) v.jn jc']) bj ((jv::jr).flatMap encJ) fH true:=RJ.apart hbjb;generalize wr m10 b (0+Int.toNat (i:Int)*11+6) [.slice (some ⟨bj,0,none⟩) v.jn jc']=m11 at R11 f11 k11 RJ11 ⊢;have hv11:=dZ (y:={ v with s:=(pm.dM x.s k).1,ran:=x.ran+k,ja:=some ⟨bj,0,none⟩,jn:=v.jn,jc:=jc' }) hv;have kb:Keep m11 (bump m11 17):=(Keep.refl k11.wf).bump;have Rb:Row (bump m11 17) b _ dr true:=kb.row k11.wf R11;have RJb:Row (bump m11 17) bj _ fH true:=kb.row k11.wf RJ11;refine⟨_,_,_,jL (j:=6) Rb hv11 rfl,_,_,_,jL (j:=6) Rb hv11 rfl,?_⟩;have hin:0<=(0:Int)/\(0:Int)<((v.jn:Nat):Int):=⟨Int.le_refl _,by rw[<-jsl];simp⟩;refine⟨hin,?_⟩;rw[cW];have rj:∀t u,(encJ jv)[t]? = some u->rd (bump m11 17) bj (0+Int.toNat (0:Int)*4+t)=some u:=by
        intro t u hu;have ht:t<4:=by have:=(gQ1 hu).1;rwa [fh]at this
        have e0:0+Int.toNat (0:Int)*4+t=0*4+t:=by simp
        rw[e0,RJb.rd,flat_get fh (l:=jv::jr) (i:=0) (x:=jv) rfl ht,hu]
       refine⟨_,rj 0 _ rfl,_,_,_,rj 1 _ rfl,_,rj 2 _ rfl,_,rj 3 _ rfl,?_⟩;have hwf:Wf (setFl (bump m11 17) m11.nx):=kb.wf.setFl (by simp);have ej:(⟨jv.num,j.prog,jv.at_,jv.done⟩:pm.Job)=j:=by rw[hJ0.num,hJ0.at_,hJ0.done]
       have k011:=k01.trans (k11.trans kb);refine It hwf ((hJ0.prog.keep hw k011).hp rfl) fun m12 k12=>?_
       rw[ej];refine⟨_,_,_,_,_,_,_,rfl,hin,?_⟩;rw[cW];have k12':Keep (bump m11 17) (setFl m12 (bump m11 17).fl):=Keep.unset kb.wf k12;generalize setFl m12 (bump m11 17).fl=m13 at k12' ⊢;have k1113:=kb.trans k12';have k113:=k11.trans k1113;have RJ13:=k1113.row k11.wf RJ11;have R13:=k1113.row k11.wf R11;have fl13:m13.fl<=bj:=by have:=k113.fl;have:=k7.nx;omega
       have e0:0+Int.toNat (0:Int)*4=0:=by simp
       rw[e0];refine⟨RJ13.okW fl13 (by rw[dm fh,List.length_cons];omega),?_⟩;rw[cO];obtain⟨jv',hjv'⟩:∃jv':JV,jv'=⟨(pm.eY j k).1.num,jv.pa,jv.pn,jv.pc,(pm.eY j k).1.at_,(pm.eY j k).1.done⟩:=⟨_,rfl⟩;have evs:([.int .i64 (pm.eY j k).1.num,.slice jv.pa jv.pn jv.pc,.int .i64 (pm.eY j k).1.at_,.int .i64 (pm.eY j k).1.done]:List Value)=encJ jv':=by rw[hjv'];rfl
       have RJ14:=RJ13.wr (o:=0) (vs:=encJ jv') (by rw[dm fh,fh,List.length_cons];omega);have eo:=AM fh (by omega) (l:=jv::jr) (i:=0) (k:=0) (v:=jv) (v':=jv') (vs:=encJ jv') rfl (by rw[fh];omega) (Da rfl);rw[Nat.zero_mul,Nat.zero_add]at eo;rw[eo]at RJ14;rw[evs];have hb13:bj<m13.nx:=k113.wf.row RJ13;have f14:Fr m3 (wr m13 bj 0 (encJ jv')) [b]:=(Fr.trans f11 (k1113.fr []) (fun _ h=>by cases h)).wr (.inr (by have:=f7.nx;omega));have k14:=k113.wr (b:=bj) (o:=0) (l:=encJ jv') (by have:=k7.nx;omega);have R14:Row (wr m13 bj 0 (encJ jv')) b _ dr true:=R13.apart (Ne.symm hbjb);have x7:=k7.nx;refine hJ _ { v with s:=(pm.dM x.s k).1,ran:=x.ran+k,ja:=some ⟨bj,0,none⟩,jn:=v.jn,jc:=jc' } k14 f14 R14 hS.id rfl hS.sec hS.held hS.num rfl (.inr ⟨bj,jv'::jr,rfl,by omega,by simp;exact hb13,hbjb,RJ14,jsl,?_⟩);rw[efj];refine .cons ?_ hJr;rw[hjv'];exact⟨rfl,rfl,rfl,by rw[LI];exact hJ0.prog⟩
    .have efj:(f x).jobs=x.jobs:=by
      rw[hf];unfold pm.eD;rw[if_pos hmem,if_pos hs]
     exact hJ m7 _ k7 f7 R7 hS.id rfl hS.sec hS.held hS.num rfl (by rw[efj];exact JobsOk.fr (v:={ v with s:=(pm.dM x.s k).1,ran:=x.ran+k }) hS.jobs f7)
 .have ei:i=n1:=by omega
  subst ei;have hback:=hI.back;have hbk2:(pm.fX σ).length<=n3:=by omega
  refine Nr k3.wf (hσ.backs.keep hw k03) (hσ.cut.keep hw k03) (by omega) hbk2 (fun b hb=>by have:=hback b hb;omega) (by omega) fun m14 b3 d3 k14 hB hC=>⟨_,_,_,rfl,?_⟩
  have k114:=k3.trans k14;have k014:=k01.trans k114;obtain⟨s1,s2,s3,s4,s5⟩:=pm.iM σ (k:=(k:Int)) (by omega);have enow:bh .i64 now (k:Int)=now+k:=dN (by omega) (by omega);rw[enow];refine hQ m14 (now+k) b1 d1 b3 d3 k014 ⟨by rw[s4];exact eM,by rw[s2,en],?_,?_,?_,hC⟩
  .refine⟨ss',(ho3.arr fJ (by omega) sl3).keep k3.wf k14,?_⟩;rw[s1,<-hf];by_cases hz:i=0
   .have e1:ss'=[]:=List.eq_nil_of_length_eq_zero (by omega);have e2:σ.servs=[]:=List.eq_nil_of_length_eq_zero (by omega);rw[e1,e2];exact .nil
   .obtain⟨b,hb1⟩:∃b,b1=some ⟨b,0,none⟩:=by
     obtain⟨b,hb,_⟩:=Dy ho3 (by omega);exact⟨b,hb⟩
    have:=hA3 b hb1;rw[ND f σ.servs (by omega)]at this;exact this.imp fun v x r=>(r.rd hw k03).keep k3.wf k14
  .obtain⟨ls,aL,rL⟩:=hσ.sems;rw[s3];exact⟨ls,aL.keep hw k014,rL.imp fun _ _ r=>r.keep hw k014⟩
  .rw[s5,Int.toNat_natCast];exact hB
end
end Go.Proofs.YthpnifigjfplbaaGreat.vc
namespace Go.Proofs.YthpnifigjfplbaaGreat.vc
open Go Go.AX
section
variable {B:Int} {m m0 mm mm' u:Mem} {Q:Value->Mem->Prop} {ae:Option Addr} {ne ce:Nat} {L:List pm.Ev} {E:Nat->Option AObj}
theorem Ls{b o:Nat}{v:Value}(h:Bes E u mm)(e:rd u b o=some v):rd mm b o=some v:=by
 cases hg:u.hp.get b with
 | none=>
  unfold rd at e;rw[hg]at e;cases e
 | some ob=>rw[tf ((h.got hg).trans hg.symm)];exact e
theorem O2{i:TypeInfo}(h:cx.ty.get t_model_Event=some i):i.bytes<=64:=by
 have:(match cx.ty.get t_model_Event with|some i=>Nat.ble i.bytes 64|none=>false)=true:=by kernel_rfl
 rw[h]at this;exact gQ6 this
theorem O3{a':Option Addr}{k ck:Nat}{F:List pm.Ev}(hG:Grow m ae ne ce 4 t_model_Event (L.flatMap encEv))(hw:Wf m)(hF:Arr encEv 4 m a' k F)(hn:ne+k<=100000000) :
  ∃a9 c9 m9,cQ cx m [bJ,bJ] [.slice ae ne ce,.slice a' k ck]=some (.slice a9 (ne+k) c9,m9)/\Grow m9 a9 (ne+k) c9 4 t_model_Event ((L++F).flatMap encEv)/\Fr m m9 (blk ae)/\Wf m9/\∀b∈blk a9,b∈blk ae∨m.nx<=b:=by
 obtain⟨i,z,h1,h2,h3,h4,h5,h6,h7⟩:=jg (cx:=cx) (t:=bJ) (e:=t_model_Event) (s:=4) (by kernel_rfl);by_cases hk:k=0
 .subst hk;have hF0:F=[]:=List.length_eq_zero_iff.1 hF.1;subst hF0;have hc:ce=ne:=by
   rcases hG.2 with⟨_,q1,q2⟩|⟨_,_,q2,_⟩<;>omega
  subst hc;refine⟨ae,ce,m,?_,by simpa using hG,Fr.refl _ _,hw,fun b hb=>.inl hb⟩;unfold cQ;have hf:dA m i.size 0 (.slice a' 0 ck)=some []:=by cases a'<;>rfl
  have b1:(Nat.beq ([]:List Value).length (0*i.size)&&Nat.blt 0 i.size&&([]:List Value).all one1)=true:=by
   rw[h3,Nat.zero_mul,show Nat.blt 0 4=true from rfl];rfl
  simp only[h1,h2,mE,iR,hf,b1,gQ8 (show ce+0<=ce by omega)];cases ae<;>rfl
 .have h8:=O2 h2;have hbb:(2*(ne+k)+192)*i.bytes<=140737488355328:=by
   have h1:(2*(ne+k)+192)<=200000192:=by omega
   have h2:=Nat.mul_le_mul h1 h8;omega
  have hbl:∀b∈blk ae,b<m.nx:=hG.blk_lt hw;obtain⟨m',q1,q2,q3,q4,q5⟩:=oF hG h1 h1 rfl h2 h3 h4 h5 h6 (x:=.slice a' k ck) (k:=k) rfl (hF.first fo h6) (by rw[dm fo,hF.1]) (by
   rw[List.all_eq_true];intro v hv;obtain⟨x,_,hx⟩:=List.mem_flatMap.1 hv;exact List.all_eq_true.1 (xd x) v hx) (by omega) hbb (by omega)
  have q5':∀b',b'≠m.nx->b'∉blk ae->m'.hp.get b'=m.hp.get b':=fun b' h1 h2=>q5 b' h1 (fun b e e'=>h2 (by rw[e,e'];simp[blk]))
  have hgl:=hG.1;have hw':Wf m':=⟨by have:=hw.1;omega,fun b hb=>by
   rw[q5' b (by omega) (fun h=>by have:=hbl b h;omega)];exact hw.2 b (by omega)⟩
  have f:Fr m m' (blk ae):=⟨by omega,q3,fun b hb hn'=>q5' b (by omega) hn'⟩;refine⟨_,_,m',q1,⟨?_,.inr ⟨_,rfl,rfl,?_,?_⟩⟩,f,hw',fun b hb=>?_⟩
  .rw[List.flatMap_append,gR2,hgl,dm fo,hF.1,Nat.add_mul]
  .rw[q3];exact hw.1
  .rw[List.flatMap_append];exact q4
  .simp[blk]at hb;exact .inr (by omega)
structure OutS (m0 u mm:Mem) (E:Nat->Option AObj) (ae:Option Addr) (ne ce:Nat) (L:List pm.Ev):Prop where
 bes:Bes E u mm
 wu:Wf u
 wm:Wf mm
 k:Keep m0 u
 out:Grow mm ae ne ce 4 t_model_Event (L.flatMap encEv)
 ob:∀b∈blk ae,∃o,E b=some o
 new:∀b o,E b=some o->m0.nx<=b
theorem OutS.begin(hw:Wf m):OutS m m m (fun _=>none) none 0 0 []:=
 ⟨Bes.refl m,hw,hw,Keep.refl hw,Grow.nil _ _ _,(fun b h=>by cases h),(fun b o h=>by cases h)⟩
theorem OutS.keep(h:OutS m0 u mm E ae ne ce L):Keep m0 mm:=by
 refine⟨h.wm,by have:=h.k.nx;rw[h.bes.nx];exact this,h.bes.fl.trans h.k.fl,fun b hb=>?_⟩;rw[h.bes.get b];cases he:E b with
 | some o=>have:=h.new b o he;omega
 | none=>exact h.k.get b hb
theorem OutS.call{u':Mem}(h:OutS m0 u mm E ae ne ce L)(hB:Bes E u' mm')(hw:Wf u')(k:Keep u u')(hwm:Wf mm'):OutS m0 u' mm' E ae ne ce L:=by
 refine⟨hB,hw,hwm,h.k.trans k,?_,h.ob,h.new⟩;refine⟨h.out.1,?_⟩;rcases h.out.2 with e|⟨b,e1,e2,e3,e4⟩
 .exact .inl e
 .obtain⟨o,ho⟩:=h.ob b (by rw[e1];simp[blk]);refine .inr ⟨b,e1,e2,?_,e4.congr ?_⟩
  .rw[hB.fl,k.fl,<-h.bes.fl];exact e3
  .rw[hB.get b,h.bes.get b,ho]
theorem OutS.app{a':Option Addr}{k ck:Nat}{F:List pm.Ev}(h:OutS m0 u mm E ae ne ce L)(hF:Arr encEv 4 u a' k F)(hn:ne+k<=100000000) :
  ∃a9 c9 m9 u9 E9,cQ cx mm [bJ,bJ] [.slice ae ne ce,.slice a' k ck]=some (.slice a9 (ne+k) c9,m9)/\OutS m0 u9 m9 E9 a9 (ne+k) c9 (L++F)/\Keep u u9:=by
 have hF':Arr encEv 4 mm a' k F:=⟨hF.1,fun i x hx=>by
  obtain⟨b,o,e,hc⟩:=hF.2 i x hx;exact⟨b,o,e,fun j v hv=>(by
   have hr:=hc j v hv;exact Ls h.bes hr)⟩⟩
 obtain⟨a9,c9,m9,q1,q2,q3,q4,q5⟩:=O3 (ck:=ck) h.out h.wm hF' hn;have hnx:=q3.nx;have hun:=h.bes.nx;have dead:∀b,(b∈blk ae∨mm.nx<=b∨(E b).isSome=true)->u.hp.get b=none:=fun b hb=>by
  rcases hb with hb|hb|hb
  .obtain⟨o,ho⟩:=h.ob b hb;exact(h.bes.gap b o ho).1
  .exact h.wu.2 b (by omega)
  .obtain⟨o,ho⟩:=Option.isSome_iff_exists.1 hb;exact(h.bes.gap b o ho).1
 refine⟨a9,c9,m9,{ u with nx:=m9.nx },fun b=>if b∈blk ae∨mm.nx<=b∨(E b).isSome=true then m9.hp.get b else none,q1,⟨⟨rfl,?_,fun b=>?_,fun b o e=>?_⟩,?_,q4,?_,q2,fun b hb=>?_,fun b o e=>?_⟩,?_⟩
 .exact q3.fl.trans h.bes.fl
 .show m9.hp.get b=match (if b∈blk ae∨mm.nx<=b∨(E b).isSome=true then m9.hp.get b else none)with|some o=>some o|none=>u.hp.get b
  by_cases hc:b∈blk ae∨mm.nx<=b∨(E b).isSome=true
  .rw[if_pos hc,dead b hc];cases m9.hp.get b<;>rfl
  .rw[if_neg hc];have h1:b∉blk ae:=fun e=>hc (.inl e)
   have h2:b<mm.nx:=Nat.lt_of_not_le fun e=>hc (.inr (.inl e))
   have h3:E b=none:=by
    cases he:E b with
    | none=>rfl
    | some o=>exact absurd (.inr (.inr (by rw[he];rfl))) hc
   show m9.hp.get b=u.hp.get b;rw[q3.get b h2 h1,h.bes.get b,h3]
 .have e':(if b∈blk ae∨mm.nx<=b∨(E b).isSome=true then m9.hp.get b else none)=some o:=e;by_cases hc:b∈blk ae∨mm.nx<=b∨(E b).isSome=true
  .rw[if_pos hc]at e';exact⟨dead b hc,q4.lt e'⟩
  .rw[if_neg hc]at e';cases e'
 .have h1:=h.wu.1;exact⟨by show u.fl<=m9.nx;omega,fun b hb=>h.wu.2 b (by have hb':m9.nx<=b:=hb;omega)⟩
 .have k:=h.k;exact⟨⟨by have h1:=h.wu.1;show u.fl<=m9.nx;omega,fun b hb=>h.wu.2 b (by have hb':m9.nx<=b:=hb;omega)⟩,by have:=k.nx;show m0.nx<=m9.nx;omega,k.fl,k.get⟩
 .show ∃o,(if b∈blk ae∨mm.nx<=b∨(E b).isSome=true then m9.hp.get b else none)=some o;have hc:b∈blk ae∨mm.nx<=b∨(E b).isSome=true:=by
   rcases q5 b hb with h1|h1
   .exact .inl h1
   .exact .inr (.inl h1)
  rw[if_pos hc];rcases q2.2 with⟨e1,_⟩|⟨b',e1,_,_,e4⟩
  .rw[e1]at hb;simp[blk]at hb
  .have eb:b=b':=by rw[e1]at hb;simpa [blk]using hb
   subst eb;obtain⟨c',h3,_⟩:=id e4;exact⟨_,h3⟩
 .have e':(if b∈blk ae∨mm.nx<=b∨(E b).isSome=true then m9.hp.get b else none)=some o:=e;have hk:=h.k.nx;by_cases hc:b∈blk ae∨mm.nx<=b∨(E b).isSome=true
  .rcases hc with hb|hb|hb
   .obtain⟨o',ho⟩:=h.ob b hb;exact h.new b o' ho
   .omega
   .obtain⟨o',ho⟩:=Option.isSome_iff_exists.1 hb;exact h.new b o' ho
  .rw[if_neg hc]at e';cases e'
 .exact⟨⟨by have h1:=h.wu.1;show u.fl<=m9.nx;omega,fun b hb=>h.wu.2 b (by have hb':m9.nx<=b:=hb;omega)⟩,by show u.nx<=m9.nx;omega,rfl,fun _ _=>rfl⟩
end
end Go.Proofs.YthpnifigjfplbaaGreat.vc
namespace Go.Proofs.YthpnifigjfplbaaGreat.vc
open Go Go.AX
section
variable {B:Int} {m0 m:Mem} {Q:Value->Mem->Prop} {M now:Int} {a1 a2 a3:Option Addr} {n1 c1 n2 c2 n3 c3:Nat} {σ : pm.St}
theorem zl.keep{m0 m:Mem}{ae:Option Addr}{ne ce:Nat}{E:List pm.Ev}(h:zl m0 m a1 n1 c1 a2 n2 c2 a3 n3 c3 σ ae ne ce E):Keep m0 m:=by
 obtain⟨_,_,_,_,_,hE⟩:=h;exact hE.ow.keep
theorem zl.reads{m0 m:Mem}{ae:Option Addr}{ne ce:Nat}{E:List pm.Ev}(h:zl m0 m a1 n1 c1 a2 n2 c2 a3 n3 c3 σ ae ne ce E)(hM:M = σ.m)(hn:now = σ.now):RdSt cx m M now a1 n1 a2 n2 a3 n3 c3 σ:=by
 obtain⟨_,_,_,_,_,hE⟩:=h;exact hE.ow.reads hM hn iN
theorem zl.arr{m0 m:Mem}{ae:Option Addr}{ne ce:Nat}{E:List pm.Ev}(h:zl m0 m a1 n1 c1 a2 n2 c2 a3 n3 c3 σ ae ne ce E):Arr encEv 4 m ae ne E:=by
 obtain⟨_,_,_,_,_,hE⟩:=h;exact hE.arr
theorem xz(hw:Wf m)(hσ : RdSt cx m M now a1 n1 a2 n2 a3 n3 c3 σ)(hI:pm.Iv B σ)
  (h:∀m' b1 d1 b2 d2 b3 d3 ae ne ce,Keep m m'->RdSt cx m' M now b1 n1 b2 n2 b3 n3 d3 (pm.settle σ).1->Arr encEv 4 m' ae ne (pm.settle σ).2->ne<=1000->Q (.tuple #[.agg #[.int .i64 M,.int .i64 now,.slice b1 n1 d1,.slice b2 n2 d2,.slice b3 n3 d3],.slice ae ne ce]) m') :
  ah cx iC [.agg #[.int .i64 M,.int .i64 now,.slice a1 n1 c1,.slice a2 n2 c2,.slice a3 n3 c3]] m Q:=
 EF hw hσ hI fun m' b1 d1 b2 d2 b3 d3 ae ne ce hX hne=>
  h m' b1 d1 b2 d2 b3 d3 ae ne ce hX.keep (hX.reads (hσ.em.trans (pm.jD hI).2.2.symm) (hσ.enow.trans (pm.ri hI).symm)) hX.arr hne
end
end Go.Proofs.YthpnifigjfplbaaGreat.vc
