import Derived.Test.YthpnifigjfplbaaGreatQU35
import Derived.Test.YthpnifigjfplbaaGreatQU22
import Derived.Test.YthpnifigjfplbaaGreatQU26
set_option linter.unusedVariables false
set_option linter.unusedSimpArgs false
set_option linter.unusedSectionVars false
namespace Go.Proofs.YthpnifigjfplbaaGreat.vc
open Go Go.AX
noncomputable def mV(σ : pm.St)(k:Nat):pm.St:={ σ with servs:=(σ.servs.take k).map (fun v=>(pm.ft σ.now v).1)++σ.servs.drop k }
noncomputable def qt(σ : pm.St)(k:Nat):List pm.Ev:=(σ.servs.take k).filterMap fun v=>bif (pm.ft σ.now v).2 then some (pm.dS σ 5 v.id 0) else none
theorem JK(σ : pm.St):mV σ 0 = σ:=by unfold mV;simp
theorem LB(σ : pm.St){k:Nat}(h:σ.servs.length<=k):mV σ k=pm.fm σ/\qt σ k=pm.lT σ:=by
 unfold mV qt pm.fm pm.lT;rw[List.take_of_length_le h,List.drop_eq_nil_of_le h,List.append_nil];exact⟨rfl,rfl⟩
theorem LC{σ : pm.St}{k:Nat}{x:pm.Serv}(h:σ.servs[k]? = some x):(mV σ k).servs[k]? = some x:=by
 have hk:=(gQ1 h).1;show ((σ.servs.take k).map _++σ.servs.drop k)[k]? = _;have hl:((σ.servs.take k).map (fun v=>(pm.ft σ.now v).1)).length=k:=by rw[List.length_map,List.length_take];omega
 rw[List.getElem?_append_right (by omega),hl,Nat.sub_self,List.getElem?_drop];exact h
theorem CN{σ : pm.St}{k:Nat}{x:pm.Serv}(h:σ.servs[k]? = some x):({ mV σ k with servs:=(mV σ k).servs.set k (pm.ft σ.now x).1 }:pm.St)=mV σ (k+1):=by
 have hk:=(gQ1 h).1;unfold mV;congr 1;have hl:((σ.servs.take k).map (fun v=>(pm.ft σ.now v).1)).length=k:=by rw[List.length_map,List.length_take];omega
 simp only;rw[List.set_append_right _ _ (by omega),hl,Nat.sub_self,List.drop_eq_getElem_cons hk,List.set_cons_zero,List.take_add_one,h];simp
theorem AB{σ : pm.St}{k:Nat}{x:pm.Serv}(h:σ.servs[k]? = some x):qt σ (k+1)=qt σ k++(bif (pm.ft σ.now x).2 then [pm.dS σ 5 x.id 0] else []):=by
 unfold qt;rw[List.take_add_one,h];show ((σ.servs.take k)++[x]).filterMap _=_;rw[lD];congr 1;cases (pm.ft σ.now x).2<;>rfl
theorem CO{now:Int}{x:pm.Serv}(h:cT x.s.mode 0=true∨dT x.sec 0=true):pm.ft now x=(x,false):=by
 unfold pm.ft pm.Serv.idle;rcases h with h|h<;>rw[h]<;>simp
theorem G8{now:Int}{x:pm.Serv}(h1:cT x.s.mode 0=false)(h2:dT x.sec 0=false):pm.ft now x=({ x with s:=(pm.dE x.s now).1 },(pm.dE x.s now).2):=by
 unfold pm.ft pm.Serv.idle;rw[h1,h2];rfl
section
variable {B:Int} {wj wq:Nat->Kd} {m0 m:Mem} {lam:Nat->Lb} {Q:Value->Mem->Prop} {M now:Int} {a1 a2 a3:Option Addr} {n1 c1 n2 c2 n3 c3:Nat} {ss:List SV} {js:Nat->List JV} {ls:List LV} {qs:Nat->List Int} {σ : pm.St}
def zl(m0 m:Mem)(a1:Option Addr)(n1 c1:Nat)(a2:Option Addr)(n2 c2:Nat)(a3:Option Addr)(n3 c3:Nat)(σ : pm.St)(ae:Option Addr)(ne ce:Nat)(E:List pm.Ev):Prop:=
 ∃lam ss js ls qs,OwE (fun _=>.own true) (fun _=>.own true) m0 m lam a1 n1 c1 a2 n2 c2 a3 n3 c3 ss js ls qs σ ae ne ce E
theorem LD{k ne ce:Nat}{ae:Option Addr}{x:pm.Serv}{v:SV}{E:List pm.Ev}{b o:Nat}{τ : pm.St}{K:Option Addr->Nat->Nat->Mem->Prop}(hE:OwE wj wq m0 m lam (some ⟨b,o,none⟩) n1 c1 a2 n2 c2 a3 n3 c3 ss js ls qs τ ae ne ce E)(hv:ss[k]? = some v)(hx:τ.servs[k]? = some x)(hk:k<=1000)(hne:ne<=100000)
  (h:∀ss' a9 n9 c9 m9,OwE wj wq m0 m9 lam (some ⟨b,o,none⟩) n1 c1 a2 n2 c2 a3 n3 c3 ss' js ls qs { τ with servs:=τ.servs.set k { x with s:=(pm.dE x.s now).1 } } a9 n9 c9 (E++(bif (pm.dE x.s now).2 then [⟨now,5,x.id,0⟩] else []))->K a9 n9 c9 m9) :
  ∃(x44:Int),rd ((bump m 13)) b (o+Int.toNat (k:Int)*11+1)=some (.int .i64 (x44))/\(∃(x44_16:Int),rd ((bump m 13)) b (o+Int.toNat (k:Int)*11+2)=some (.int .i64 (x44_16))/\(∃(x44_17:Int),rd ((bump m 13)) b (o+Int.toNat (k:Int)*11+3)=some (.int .i64 (x44_17))/\(∃(x44_18:Int),rd ((bump m 13)) b (o+Int.toNat (k:Int)*11+4)=some (.int .i64 (x44_18))/\(∃(x44_19:Int),rd ((bump m 13)) b (o+Int.toNat (k:Int)*11+5)=some (.int .i64 (x44_19))/\(ah cx sN [.agg #[.int .i64 (x44),.int .i64 (x44_16),.int .i64 (x44_17),.int .i64 (x44_18),.int .i64 (x44_19)],.int .i64 now] (((bump m 13))) fun r47 m4=>(∃(x47:Int),(∃(x47_20:Int),(∃(x47_21:Int),(∃(x47_22:Int),(∃(x47_23:Int),(∃(b47:Bool),r47=(.tuple #[.agg #[.int .i64 (x47),.int .i64 (x47_20),.int .i64 (x47_21),.int .i64 (x47_22),.int .i64 (x47_23)],.bool (b47)])/\(okW (addO (m4) (m.nx+10) (row [.int .i64 (0:Int),.int .i64 (0:Int),.int .i64 (0:Int),.int .i64 (0:Int),.int .i64 (0:Int)] eZ false)) (m.nx+10) (0) 5/\(cY (wr (addO (m4) (m.nx+10) (row [.int .i64 (0:Int),.int .i64 (0:Int),.int .i64 (0:Int),.int .i64 (0:Int),.int .i64 (0:Int)] eZ false)) (m.nx+10) (0) [.int .i64 (x47),.int .i64 (x47_20),.int .i64 (x47_21),.int .i64 (x47_22),.int .i64 (x47_23)]) fun m5=>(cY (m5) fun m6=>(splitB (b47)
 (∃(x52:Int),rd m6 (m.nx+10) (0)=some (.int .i64 (x52))/\(∃(x52_24:Int),rd m6 (m.nx+10) (1)=some (.int .i64 (x52_24))/\(∃(x52_25:Int),rd m6 (m.nx+10) (2)=some (.int .i64 (x52_25))/\(∃(x52_26:Int),rd m6 (m.nx+10) (3)=some (.int .i64 (x52_26))/\(∃(x52_27:Int),rd m6 (m.nx+10) (4)=some (.int .i64 (x52_27))/\(okW m6 b (o+Int.toNat (k:Int)*11+1) 5/\(cY (wr m6 b (o+Int.toNat (k:Int)*11+1) [.int .i64 (x52),.int .i64 (x52_24),.int .i64 (x52_25),.int .i64 (x52_26),.int .i64 (x52_27)]) fun m7=>(∃(x60:Int),rd ((bump m7 10)) b (o+Int.toNat (k:Int)*11)=some (.int .i64 (x60))/\(ah cx dF [.agg #[.int .i64 M,.int .i64 now,.slice (some ⟨b,o,none⟩) n1 c1,.slice a2 n2 c2,.slice a3 n3 c3],.int .i64 (5:Int),.int .i64 (x60),.int .i64 (0:Int)] (((bump m7 10))) fun r61 m8=>(∃(x61:Int),(∃(x61_28:Int),(∃(x61_29:Int),(∃(x61_30:Int),r61=(.agg #[.int .i64 (x61),.int .i64 (x61_28),.int .i64 (x61_29),.int .i64 (x61_30)])/\(∃(a63:Option Addr) (n63 c63:Nat) (m9:Mem),cQ cx (addO (m8) (m7.nx+7) (row [.int .i64 (x61),.int .i64 (x61_28),.int .i64 (x61_29),.int .i64 (x61_30)] t_model_Event false)) [bJ,bJ] [.slice ae ne ce,.slice (some ⟨(m7.nx+7),0,none⟩) (1) (1)]=some (.slice a63 (n63) (c63),m9)/\(cY (m9) fun m10=>K a63 n63 c63 m10)))))))))))))))
 (K ae ne ce m6)))))))))))))))):=by
 have hw:=hE.wf;have k3:Keep m (bump m 13):=(Keep.refl hw).bump;have x3:(bump m 13).nx=m.nx+13:=rfl;obtain⟨b',o',e,hlb,hc⟩:=(hE.ow.then k3).atS hv;cases e;obtain⟨d0,dj⟩:=hE.ow.ds k v x hv hx;refine⟨_,hc 1 _ rfl,_,hc 2 _ rfl,_,hc 3 _ rfl,_,hc 4 _ rfl,_,hc 5 _ rfl,?_⟩;refine Nb k3.wf fun m4 k4=>⟨_,_,_,_,_,_,rfl,?_⟩
 have ev:(⟨v.s.q,v.s.p,v.s.bud,v.s.due,v.s.mode⟩:pm.Srv)=x.s:=d0.s;rw[ev];have x4:=k4.nx;have kA:Keep m (addO m4 (m.nx+10) (row [.int .i64 (0:Int),.int .i64 (0:Int),.int .i64 (0:Int),.int .i64 (0:Int),.int .i64 (0:Int)] eZ false)):=(k3.trans k4).addO (by omega) (by omega);have hR:Row (addO m4 (m.nx+10) (row [.int .i64 (0:Int),.int .i64 (0:Int),.int .i64 (0:Int),.int .i64 (0:Int),.int .i64 (0:Int)] eZ false)) (m.nx+10) [.int .i64 (0:Int),.int .i64 (0:Int),.int .i64 (0:Int),.int .i64 (0:Int),.int .i64 (0:Int)] eZ false:=Row.of_row (by rw[gJ,if_pos rfl]);generalize addO m4 (m.nx+10) (row [.int .i64 (0:Int),.int .i64 (0:Int),.int .i64 (0:Int),.int .i64 (0:Int),.int .i64 (0:Int)] eZ false)=m5 at kA hR;refine⟨hR.okW (by have:=kA.fl;have:=hw.1;omega) (by simp),?_⟩;rw[cO,cO];have hR2:=hR.wr (o:=0) (vs:=[.int .i64 (pm.dE x.s now).1.q,.int .i64 (pm.dE x.s now).1.p,.int .i64 (pm.dE x.s now).1.bud,.int .i64 (pm.dE x.s now).1.due,.int .i64 (pm.dE x.s now).1.mode]) (by simp);change Row _ _ [.int .i64 (pm.dE x.s now).1.q,.int .i64 (pm.dE x.s now).1.p,.int .i64 (pm.dE x.s now).1.bud,.int .i64 (pm.dE x.s now).1.due,.int .i64 (pm.dE x.s now).1.mode] _ _ at hR2;have kB:Keep m (wr m5 (m.nx+10) 0 [.int .i64 (pm.dE x.s now).1.q,.int .i64 (pm.dE x.s now).1.p,.int .i64 (pm.dE x.s now).1.bud,.int .i64 (pm.dE x.s now).1.due,.int .i64 (pm.dE x.s now).1.mode]):=kA.wr (by omega);generalize wr m5 (m.nx+10) 0 [.int .i64 (pm.dE x.s now).1.q,.int .i64 (pm.dE x.s now).1.p,.int .i64 (pm.dE x.s now).1.bud,.int .i64 (pm.dE x.s now).1.due,.int .i64 (pm.dE x.s now).1.mode]=m6 at kB hR2;have hE6:=hE.then kB;refine cJ (fun hok=>?_) (fun hok=>?_)
 .rw[hok,cond_true]at h;refine⟨_,by rw[hR2.rd];rfl,_,by rw[hR2.rd];rfl,_,by rw[hR2.rd];rfl,_,by rw[hR2.rd];rfl,_,by rw[hR2.rd];rfl,?_⟩;obtain⟨g1,hE7⟩:=hE6.setS (x':={ x with s:=(pm.dE x.s now).1 }) (v':={ v with s:=(pm.dE x.s now).1 }) (k:=1) (vs:=[.int .i64 (pm.dE x.s now).1.q,.int .i64 (pm.dE x.s now).1.p,.int .i64 (pm.dE x.s now).1.bud,.int .i64 (pm.dE x.s now).1.due,.int .i64 (pm.dE x.s now).1.mode]) hv hx rfl (by simp) rfl ⟨rfl,rfl,rfl⟩ rfl ⟨d0.id,rfl,d0.sec,d0.held,d0.num,d0.ran⟩;refine⟨g1,?_⟩;rw[cO];generalize wr m6 b (o+Int.toNat (k:Int)*11+1) [.int .i64 (pm.dE x.s now).1.q,.int .i64 (pm.dE x.s now).1.p,.int .i64 (pm.dE x.s now).1.bud,.int .i64 (pm.dE x.s now).1.due,.int .i64 (pm.dE x.s now).1.mode]=m7 at hE7;have hv7:=dZ (y:={ v with s:=(pm.dE x.s now).1 }) hv;obtain⟨b',o',e,_,hc7⟩:=(hE7.ow.then ((Keep.refl hE7.wf).bump (n:=10))).atS hv7;cases e;refine⟨_,hc7 0 _ rfl,?_⟩;refine hE7.tell (by omega) (by omega) fun a9 c9 m9 hE9 _=>?_
  rw[show v.id=x.id from d0.id]at hE9;exact h _ a9 _ c9 m9 hE9
 .rw[hok,cond_false,List.append_nil]at h;have e1:τ.servs.set k { x with s:=(pm.dE x.s now).1 } = τ.servs:=by
   rw[pm.tG hok];exact set_self hx
  rw[e1]at h;exact h ss ae ne ce m6 hE6
def LE(m0:Mem)(a1:Option Addr)(n1 c1:Nat)(a2:Option Addr)(n2 c2:Nat)(a3:Option Addr)(n3 c3:Nat)(B:Int)(T:pm.St)(E0 E:List pm.Ev)(a:Option Addr)(n c:Nat)(a':Option Addr)(n' c':Nat)(more:Bool)(mm:Mem)(w:Nat):Prop:=match more with
 | false=>zl m0 mm a1 n1 c1 a2 n2 c2 a3 n3 c3 T a n c (E0++E)/\w=0
 | true=>∃τ E1 f e b v,zl m0 mm a1 n1 c1 a2 n2 c2 a3 n3 c3 τ a n c (E0++E1)/\pm.Iv B τ/\a'=some ⟨b,0,none⟩/\n'=1/\c'=1/\Row mm b (encEv e) v false/\pm.readies τ<=f/\(pm.du f τ).1=T/\E=E1++e::(pm.du f τ).2/\w=f+1/\f<=100/\E1.length+f+1<=100/\τ.m=T.m/\τ.now=T.now
theorem xH:∀(n:Nat) (τ : pm.St),(pm.du n τ).1.m = τ.m/\(pm.du n τ).1.now = τ.now
 | 0,τ=>⟨rfl,rfl⟩
 | n+1,τ=>by
  unfold pm.du;split
  .exact⟨rfl,rfl⟩
  .rename_i σ' e hr;obtain⟨_,_,_,_,_,_,_,e,_⟩:=pm.jh hr;subst e;exact xH n _
theorem G9{a:Option Addr}{n c:Nat}{τ : pm.St}{E0 E1:List pm.Ev}{f:Nat}{mm:Mem}{K:Value->Mem->Prop}(hE:zl m0 mm a1 n1 c1 a2 n2 c2 a3 n3 c3 τ a n c (E0++E1))(eM:M = τ.m)(en:now = τ.now)(hI:pm.Iv B τ)(hf:pm.readies τ<=f)(hf2:f<=100)(hf3:E1.length+f<=100)
  (h:∀a' n' c' more m' w,LE m0 a1 n1 c1 a2 n2 c2 a3 n3 c3 B (pm.du f τ).1 E0 (E1++(pm.du f τ).2) a n c a' n' c' more m' w->w<=f->K (.tuple #[.slice a' n' c',.bool more]) m') :
  ah cx ic [.agg #[.int .i64 M,.int .i64 now,.slice a1 n1 c1,.slice a2 n2 c2,.slice a3 n3 c3]] mm K:=by
 obtain⟨lam,ss,js,ls,qs,hO⟩:=hE;refine Lw hO.ow eM en (qR hI.toIw) (by rw[eM];exact hI.m1) (by rw[eM];exact hI.m2) hI.rise (Iq hI) (Qb hI) (fun m' hr k=>?_) (fun m' b v e ss' js' σ' hr hO' hfr hb1 hb2 hR=>?_)
 .have er:pm.du f τ = (τ,[]):=by
   cases f with
   | zero=>rfl
   | succ f=>unfold pm.du;rw[hr]
  rw[er]at h;refine h none 0 0 false m' 0 ⟨?_,rfl⟩ (Nat.zero_le _);rw[List.append_nil];exact⟨lam,ss,js,ls,qs,hO.then k⟩
 .obtain⟨h1,h2⟩:=pm.uM hI hr;obtain⟨g,rfl⟩:∃g,f=g+1:=⟨f-1,by omega⟩;have er:pm.du (g+1) τ = ((pm.du g σ').1,e::(pm.du g σ').2):=by
   show (match pm.refuse τ with|none=>(τ,[])|some (s',e)=>((pm.du g s').1,e::(pm.du g s').2))=_;rw[hr]
  rw[er]at h;obtain⟨S,f1,hS⟩:=hfr;have hmn:=xH g σ';refine h _ 1 1 true m' (g+1) ⟨σ',E1,g,e,b,v,⟨lam,ss',js',ls,qs,hO.go hO' ⟨S,f1,fun b hb=>by rw[hS b hb];simp⟩⟩,h1,rfl,rfl,rfl,hR,by omega,rfl,rfl,rfl,by omega,by omega,hmn.1.symm,hmn.2.symm⟩ (gQ4 _)
theorem LF(σ : pm.St)(k:Nat):(qt σ k).length<=k:=by
 unfold qt;refine Nat.le_trans (List.length_filterMap_le _ _) ?_;rw[List.length_take];omega
theorem Qe{B R:Int}{σ : pm.St}(h:pm.Iw B R σ){l:pm.Lock}{q:Nat}(hl:σ.sems[q]? = some l):l.queue.length<=32:=A9 h (gQ3 hl)
theorem AC:∀(l:List (Nat×Int)) (s:pm.St) (p:Nat×Int),pm.eF s (l++[p])=((pm.eU (pm.eF s l).1 p.1 p.2).1,(pm.eF s l).2++(pm.eU (pm.eF s l).1 p.1 p.2).2)
 | [],s,(i,q)=>by
  show ((pm.eU s i q).1,(pm.eU s i q).2++[])=((pm.eU s i q).1,[]++(pm.eU s i q).2);simp
 | (i,q)::r,s,p=>by
  show ((pm.eF (pm.eU s i q).1 (r++[p])).1,(pm.eU s i q).2++(pm.eF (pm.eU s i q).1 (r++[p])).2)=_;rw[AC r];show (_,_++(_++_))=(_,(_++_)++_);rw[List.append_assoc];rfl
theorem JL(s:pm.St)(i:Nat)(q:Int):(pm.eU s i q).2.length<=2:=by
 unfold pm.eU;split
 .rename_i v l _ _;cases dT l.holder 0 with
  | true=>simp
  | false=>cases l.dead<;>simp
 .simp
theorem CP:∀(l:List (Nat×Int)) (s:pm.St),(pm.eF s l).2.length<=2*l.length
 | [],s=>gQ4 _
 | (i,q)::r,s=>by
  show ((pm.eU s i q).2++(pm.eF (pm.eU s i q).1 r).2).length<=_;rw[gR2,List.length_cons];have:=JL s i q;have:=CP r (pm.eU s i q).1;omega
theorem EF(hw:Wf m)(hσ : RdSt cx m M now a1 n1 a2 n2 a3 n3 c3 σ)(hI:pm.Iv B σ)
  (h:∀m' b1 d1 b2 d2 b3 d3 ae ne ce,zl m m' b1 n1 d1 b2 n2 d2 b3 n3 d3 (pm.settle σ).1 ae ne ce (pm.settle σ).2->ne<=1000->Q (.tuple #[.agg #[.int .i64 M,.int .i64 now,.slice b1 n1 d1,.slice b2 n2 d2,.slice b3 n3 d3],.slice ae ne ce]) m') :
  ah cx iC [.agg #[.int .i64 M,.int .i64 now,.slice a1 n1 c1,.slice a2 n2 c2,.slice a3 n3 c3]] m Q:=by
 apply zK;unfold wv;have hl1:=hσ.len1;have hl2:=hσ.len2;have z1:=hI.len1;have k0:Keep m (bump m 2):=(Keep.refl hw).bump;refine tW k0.wf (hσ.keep hw k0) (qR hI.toIw) fun m1 lam b1 d1 b2 d2 b3 d3 ss js ls qs hO=>⟨_,_,_,_,_,_,_,_,_,_,_,rfl,?_⟩
 have hO:=hO.old0 hw k0;have em:=hσ.em;have en:=hσ.enow;refine oN (show n1<=4611686018427387904 by omega) (fun k a n c mm=>zl m mm b1 n1 d1 b2 n2 d2 b3 n3 d3 (mV σ k) a n c (qt σ k)) ⟨lam,ss,js,ls,qs,by rw[JK];exact OwE.start hO⟩ ?_;rintro k a n c m2 hk ⟨lam,ss,js,ls,qs,hE⟩ I w hInv;have hnlen:=hE.len;have hnk:=LF σ k;refine dG (fun hlt=>?_) (fun hge=>?_)
 .obtain⟨x,hx⟩:∃x,σ.servs[k]? = some x:=⟨_,gQ2 (by omega)⟩;have hx':=LC hx;obtain⟨v,hv⟩:∃v,ss[k]? = some v:=⟨_,gQ2 (by rw[hE.ow.s1n];exact hlt)⟩;obtain⟨b,o,rfl,hlb,hc⟩:=hE.ow.atS hv;obtain⟨d0,dj⟩:=hE.ow.ds k v x hv hx';refine⟨⟨by omega,by omega⟩,?_⟩;rw[cW];have stay:∀mm,Keep m2 mm->pm.ft σ.now x=(x,false)->∃n',n'<w/\I a n c (bh .i64 (k:Int) 1) mm n':=fun mm km e=>by
   refine hInv a n c mm hlt ⟨lam,ss,js,ls,qs,(hE.then km).cast ?_ ?_⟩
   .rw[<-CN hx,e];show mV σ k = { mV σ k with servs:=(mV σ k).servs.set k x };rw[set_self hx']
   .rw[AB hx,e];simp
  refine dL (fun f:Mem->Prop=>∀mm,Keep m2 mm->cT x.s.mode 0=false->dT x.sec 0=false->f mm) ?_ ?_
  .intro mm km e1 e2;refine LD (E:=qt σ k) (τ:=mV σ k) (K:=fun a n c m=>∃n',n'<w/\I a n c (bh .i64 (k:Int) 1) m n') (hE.then km) hv hx' (by omega) (by omega) fun ss' a9 n9 c9 m9 hE9=>?_
   refine hInv a9 n9 c9 m9 hlt ⟨lam,ss',js,ls,qs,hE9.cast ?_ ?_⟩
   .rw[<-CN hx,G8 e1 e2,<-en]
   .rw[AB hx,G8 e1 e2,<-en];congr 1;unfold pm.dS;rw[<-en]
  .intro J hJ;refine⟨_,hc 0 _ rfl,_,hc 1 _ rfl,_,hc 2 _ rfl,_,hc 3 _ rfl,_,hc 4 _ rfl,_,hc 5 _ rfl,_,_,_,hc 6 _ rfl,_,hc 7 _ rfl,_,hc 8 _ rfl,_,hc 9 _ rfl,_,hc 10 _ rfl,?_⟩;refine Di hE.wf fun m3 k3=>⟨_,rfl,?_⟩
   have em0:v.s.mode=x.s.mode:=by rw[show v.s=x.s from d0.s]
   rw[em0];refine cJ (fun h1=>stay m3 k3 (CO (.inl h1))) (fun h1=>?_);obtain⟨b',o',e,_,hc3⟩:=(hE.then k3).ow.atS hv;cases e;refine⟨_,hc3 7 _ rfl,?_⟩;rw[show v.sec=x.sec from d0.sec];exact cJ (fun h2=>stay m3 k3 (CO (.inr h2))) (fun h2=>hJ m3 k3 h1 h2)
 .obtain⟨t1,t2⟩:=LB σ (k:=k) (by omega);rw[t1,t2]at hE;rw[t2]at hnk;have hI1:=pm.qN hI;have hrd:pm.readies (pm.fm σ)<=σ.servs.length+1:=by
   have:=pm.I4 (pm.fm σ);have e:(pm.fm σ).servs.length = σ.servs.length:=by show (σ.servs.map _).length=_;rw[List.length_map]
   omega
  have hT:=xH (σ.servs.length+1) (pm.fm σ);refine G9 (E0:=pm.lT σ) (E1:=[]) (τ:=pm.fm σ) (f:=σ.servs.length+1) (B:=B) ⟨lam,ss,js,ls,qs,by rw[List.append_nil];exact hE⟩ em en hI1 hrd (by omega) (by simp;omega) fun a' n' c' more m3 w3 hR hw3=>⟨_,_,_,_,rfl,?_⟩
  rw[List.nil_append]at hR;have hI2:=pm.nV (σ.servs.length+1) hI1;have hEl:(pm.du (σ.servs.length+1) (pm.fm σ)).2.length<=100:=by
   have gen:∀(n:Nat) (τ : pm.St),(pm.du n τ).2.length<=n:=by
    intro n
    induction n with
    | zero=>intro τ;exact gQ4 _
    | succ n ih=>
     intro τ;unfold pm.du;split
     .exact Nat.zero_le _
     .rename_i σ' e hr;show ((pm.du n σ').2.length+1)<=_;have:=ih σ';omega
   have:=gen (σ.servs.length+1) (pm.fm σ);omega
  have hset:pm.settle σ = ((pm.eF (pm.du (σ.servs.length+1) (pm.fm σ)).1 (pm.asks (pm.du (σ.servs.length+1) (pm.fm σ)).1)).1,pm.lT σ++(pm.du (σ.servs.length+1) (pm.fm σ)).2++(pm.eF (pm.du (σ.servs.length+1) (pm.fm σ)).1 (pm.asks (pm.du (σ.servs.length+1) (pm.fm σ)).1)).2):=rfl;rw[hset]at h;generalize hTE:pm.du (σ.servs.length+1) (pm.fm σ)=TE at *;obtain⟨T,ER⟩:=TE;simp only at *;refine⟨LE m b1 n1 d1 b2 n2 d2 b3 n3 d3 B T (pm.lT σ) ER,⟨w3,hR⟩,?_⟩;rintro a4 n4 c4 a9 n9 c9 more4 m4 w4 hR4;cases more4 with
  | true=>
   obtain⟨τ,E1,f,e,bb,vv,hX,hIτ,rfl,rfl,rfl,hRow,hrd4,eT,eE,ew,hf4,hf5,emτ,enτ⟩:=hR4;rw[eG];obtain⟨lam4,ss4,js4,ls4,qs4,hE4⟩:=hX;have hn4:=hE4.len;rw[gR2]at hn4;obtain⟨a5,c5,m5,r1,r2,_⟩:=hE4.app (a':=some ⟨bb,0,none⟩) (k:=1) (ck:=1) (F:=[e]) (Arr.of_row fo (l:=[e]) (by simpa using hRow)) (by omega);refine⟨a5,_,c5,m5,r1,?_⟩;have e1:M = τ.m:=by rw[emτ,hT.1];exact em
   have e2:now = τ.now:=by rw[enτ,hT.2];exact en
   refine G9 (E0:=pm.lT σ) (E1:=E1++[e]) (τ:=τ) (f:=f) (B:=B) ⟨lam4,ss4,js4,ls4,qs4,by rw[<-List.append_assoc];exact r2⟩ e1 e2 hIτ hrd4 hf4 (by rw[gR2];simp;omega) fun a' n' c' more m6 w6 hR6 hw6=>⟨_,_,_,_,rfl,w6,by omega,?_⟩
   rw[eT]at hR6;rw[eE];have:E1++[e]++(pm.du f τ).2=E1++e::(pm.du f τ).2:=by simp
   rw[this]at hR6;exact hR6
  | false=>
   obtain⟨hX,rfl⟩:=hR4;rw[gk];obtain⟨lam4,ss4,js4,ls4,qs4,hE4⟩:=hX;have e1:M=T.m:=by rw[hT.1];exact em
   have e2:now=T.now:=by rw[hT.2];exact en
   have hn4:=hE4.len;rw[gR2]at hn4;have hk4:(pm.lT σ).length<=32:=by omega
   have hM1:=hI2.m1;have hM2:=hI2.m2;have hz3:=hI2.len3;have hz1:=hI2.len1;have l3:=hE4.ow.s3n;have l1:=hE4.ow.s1d;have l2:=hE4.ow.s2d;refine Iu hE4.wf (hE4.ow.reads (cx:=cx) e1 e2 iN) (by omega) (by omega) (by omega) (by omega) hI2.rise (Iq hI2) fun m5 ap cp aq cq k5 hP hQ np nq=>⟨_,_,_,_,_,_,rfl,?_⟩
   have hask:=pm.BH hI2;have hand:=pm.H1 hI2;have hlenL:(pm.asks T).length<=64:=by
    rw[zI];refine Nat.le_trans (List.length_filterMap_le _ _) ?_;have:=jG T hM1;omega
   generalize pm.asks T=L at *;have hE5:=hE4.then k5;obtain⟨lam5,hE5,hlp,hch⟩:=hE5.hold dV (by omega) hP (fun b hb=>.inl (hE4.ow.noNew (np b hb))) (fun b hb hs=>by have:=hE4.evlt b hs;have:=np b hb;omega);obtain⟨lam6,hE6,hlq,hch2⟩:=hE5.hold dV (by omega) hQ (fun b hb=>by
    rcases(hch b).1 with e|e
    ·rw[e];exact .inl (hE4.ow.noNew (nq b hb))
    ·exact .inr e) (fun b hb hs=>by have:=hE4.evlt b hs;have:=nq b hb;omega)
   have hlp':L.map (fun x=>(x.1:Int))≠[]->∀b∈blk ap,lam6 b = .pr:=fun hne b hb=>by
    have:=hlp hne b hb;rw[(hch2 b).2 (by rw[this];simp)];exact this
   refine oN (show L.length<=4611686018427387904 by omega) (fun k a n c mm=>∃lam ss js ls qs,OwE (fun _=>.own true) (fun _=>.own true) m mm lam b1 n1 d1 b2 n2 d2 b3 n3 d3 ss js ls qs (pm.eF T (L.take k)).1 a n c (pm.lT σ++ER++(pm.eF T (L.take k)).2)/\
    Arr encI 1 mm ap L.length (L.map fun x=>(x.1:Int))/\Arr encI 1 mm aq L.length (L.map (·.2))/\(L.map (fun x=>(x.1:Int))≠[]->∀b∈blk ap,lam b = .pr)/\(L.map (·.2)≠[]->∀b∈blk aq,lam b = .pr))
    ⟨lam6,ss4,js4,ls4,qs4,by rw[List.take_zero];show OwE _ _ _ _ _ _ _ _ _ _ _ _ _ _ _ _ _ _ T _ _ _ (_++[]);rw[List.append_nil];exact hE6,hP,hQ,hlp',hlq⟩ ?_
   rintro k a n c m7 hk ⟨lam,ss,js,ls,qs,hE,hP,hQ,hlp,hlq⟩ I3 w3' hInv3;have hgl:=CP (L.take k) T;rw[List.length_take]at hgl;have hn7:=hE.len;rw[gR2,gR2]at hn7;refine dG (fun hlt=>?_) (fun hge=>?_)
   .obtain⟨p,hp⟩:∃p,L[k]? = some p:=⟨_,gQ2 hlt⟩;have hpm:=gQ3 hp;obtain⟨x,hx0,hsec,hhs,q1,q2,hmode⟩:=hask p hpm;have htk:∀r∈L.take k,r.1≠p.1:=fun r hr e=>by
     obtain⟨i,hi⟩:=List.getElem?_of_mem hr;rw[List.getElem?_take]at hi;split at hi
     .rename_i hik;have:=pm.oZ hand (i:=i) (j:=k) (x:=p.1) (by rw[List.getElem?_map,hi];simp[e]) (by rw[List.getElem?_map,hp];rfl);omega
     .cases hi
    obtain⟨hIk,hGk⟩:=pm.yG (L:=L.take k) hI2.toIw (fun r hr=>hask r (List.mem_of_mem_take hr)) (by rw[List.map_take];exact hand.sublist (List.take_sublist _ _));have hsnoc:pm.eF T (L.take (k+1))=((pm.eU (pm.eF T (L.take k)).1 p.1 p.2).1,(pm.eF T (L.take k)).2++(pm.eU (pm.eF T (L.take k)).1 p.1 p.2).2):=by
     rw[List.take_add_one,hp];exact AC _ _ _
    rw[hsnoc]at hInv3;obtain⟨i,q⟩:=p;simp only at hx0 hhs q1 q2 hInv3 htk;obtain⟨qn,rfl⟩:∃qn:Nat,q=(qn:Int)+1:=⟨(q-1).toNat,by omega⟩;have enk:now=(pm.eF T (L.take k)).1.now:=by rw[hGk.now];exact e2
    have hx:=(hGk.other i htk).trans hx0;have hsl:=hGk.sems;have hz2:=hIk.len2;generalize (pm.eF T (L.take k)).1 = τ at *;generalize (pm.eF T (L.take k)).2=Eg at *;obtain⟨l,hl⟩:∃l,τ.sems[qn]? = some l:=⟨_,gQ2 (by omega)⟩;rw[pm.yF hx hl]at hInv3;have hil:=(gQ1 hx).1;have l1':=hE.ow.s1d;have l2':=hE.ow.s2d;have hql:=Qe hIk hl;obtain⟨v,hv⟩:∃v,ss[i]? = some v:=⟨_,gQ2 (by rw[hE.ow.s1n];omega)⟩;obtain⟨u,hu⟩:∃u,ls[qn]? = some u:=⟨_,gQ2 (by rw[hE.ow.s2n];omega)⟩;obtain⟨d0,dj⟩:=hE.ow.ds i v x hv hx;obtain⟨dl0,dq0⟩:=hE.ow.dl qn u l hu hl;have F0:PrF lam m7 m7:=PrF.refl _ _;refine hP.open (k:=k) (x:=(i:Int)) (by rw[List.getElem?_map,hp];rfl) fun bp op hcp=>⟨_,hcp 0 _ rfl,?_⟩
    obtain⟨b,o,rfl,hlb,_⟩:=hE.ow.atS hv;refine⟨⟨by omega,by omega⟩,?_⟩;rw[cW];have kb:Keep m7 (bump m7 14):=(Keep.refl hE.wf).bump;have hEb:=hE.then kb;refine(hQ.keep hE.wf kb).open (k:=k) (x:=(qn:Int)+1) (by rw[List.getElem?_map,hp];rfl) fun bq oq hcq=>⟨_,hcq 0 _ rfl,?_⟩
    have ej:de .i64 ((qn:Int)+1) 1=(qn:Int):=by rw[eO (by omega) (by omega)];omega
    rw[ej];obtain⟨bl,ol,rfl,hlbl,hcl⟩:=hEb.ow.atL hu;refine⟨⟨by omega,by omega⟩,?_⟩;rw[cW];refine⟨_,hcl 1 _ rfl,?_⟩;rw[show u.holder=l.holder from dl0.holder];refine cJ (fun hh=>?_) (fun hh=>?_)
    ·
     rw[hh,cond_true]at hInv3;obtain⟨g1,hE1⟩:=hEb.setS (x':={ x with sec:=1 }) (v':={ v with sec:=1 }) (k:=7) (vs:=[.int .i64 1]) hv hx rfl (by simp) rfl ⟨rfl,rfl,rfl⟩ rfl ⟨d0.id,d0.s,rfl,d0.held,d0.num,d0.ran⟩;refine⟨g1,?_⟩;rw[cO];have F1:=(F0.keep kb).wr (b:=b) (o:=o+Int.toNat (i:Int)*11+7) (l:=[.int .i64 1]) (by rw[hlb];simp);generalize wr (bump m7 14) b (o+Int.toNat (i:Int)*11+7) [.int .i64 1]=m8 at hE1 F1;have hv1:=dZ (y:={ v with sec:=1 }) hv;have k8:Keep m8 (bump m8 14):=(Keep.refl hE1.wf).bump;obtain⟨bl',ol',e,_,hcl2⟩:=(hE1.then k8).ow.atL hu;cases e;obtain⟨b',o',e,_,hcs2⟩:=(hE1.then k8).ow.atS hv1;cases e;refine⟨_,_,_,hcl2 2 _ rfl,_,hcs2 0 _ rfl,?_⟩;have kP:Keep m8 (addO (bump m8 14) (m8.nx+9) (row [.int .i64 v.id] t_int false)):=k8.addO (by omega) (by simp);have hR:Row (addO (bump m8 14) (m8.nx+9) (row [.int .i64 v.id] t_int false)) (m8.nx+9) [.int .i64 v.id] t_int false:=Row.of_row (by rw[gJ,if_pos rfl]);generalize addO (bump m8 14) (m8.nx+9) (row [.int .i64 v.id] t_int false)=m9 at kP hR;have hun:u.qn<=32:=by
      have:=(hE.ow.qu qn u hu).arr dV;rw[<-this.1,dq0];exact hql
     obtain⟨m10,r1,r2,r3,S,r4,r5⟩:=(hE1.then kP).pushQ (x:=v.id) (xa:=some ⟨m8.nx+9,0,none⟩) hu hl rfl rfl (hR.first1 rfl) (by omega);refine⟨_,_,_,m10,r1,r2,?_⟩;rw[cO,cO];have F2:=(F1.keep kP).fr r4 (fun b hb=>by rcases r5 b hb with h|⟨k,h⟩<;>rw[h]<;>simp);have hpr:∀b,lam b = .pr->il lam m9.nx (.qu qn) b = .pr:=fun b hb=>by
      rw[eV (fun e=>by have:=(hE1.then kP).ow.noNew (b:=b) (by omega);rw[hb]at this;cases this)];exact hb
     refine hInv3 a n c _ hlt ⟨_,_,_,_,_,r3.cast ?_ ?_,F2.arr hE.wf hP hlp,F2.arr hE.wf hQ hlq,fun hne b hb=>hpr b (hlp hne b hb),fun hne b hb=>hpr b (hlq hne b hb)⟩
     .rw[show v.id=x.id from d0.id]
     .rw[List.append_nil]
    ·
     rw[hh,cond_false]at hInv3;refine dL (fun f:Option Addr->Nat->Nat->Mem->Prop=>∀a9 n9 c9 mm,OwE (fun _=>.own true) (fun _=>.own true) m mm lam (some ⟨b,o,none⟩) n1 d1 (some ⟨bl,ol,none⟩) n2 d2 b3 n3 d3 ss js ls qs τ a9 n9 c9 (pm.lT σ++ER++Eg++(bif l.dead then [pm.dS τ 7 x.id 0] else []))->PrF lam m7 mm->f a9 n9 c9 mm) ?_ ?_
     .intro a9 n9 c9 mm hEm Fm;have hn9:=hEm.len;rw[gR2,gR2,gR2]at hn9;have hdl:(bif l.dead then [pm.dS τ 7 x.id 0] else []).length<=1:=by cases l.dead<;>simp
      obtain⟨b',o',e,_,hcs⟩:=hEm.ow.atS hv;cases e;refine⟨_,hcs 0 _ rfl,?_⟩;obtain⟨g1,hE1⟩:=hEm.setL (x':={ l with holder:=x.id }) (v':={ u with holder:=v.id }) (k:=1) (vs:=[.int .i64 v.id]) hu hl rfl (by simp) rfl ⟨rfl,rfl,rfl⟩ rfl ⟨dl0.most,d0.id,dl0.dead⟩;refine⟨g1,?_⟩;rw[cO];have F1:=Fm.wr (b:=bl) (o:=ol+Int.toNat (qn:Int)*4+1) (l:=[.int .i64 v.id]) (by rw[hlbl];simp);generalize wr mm bl (ol+Int.toNat (qn:Int)*4+1) [.int .i64 v.id]=m8 at hE1 F1;have hu1:=dZ (y:={ u with holder:=v.id }) hu;have hl1':=dZ (y:={ l with holder:=x.id }) hl;obtain⟨g2,hE2⟩:=hE1.setL (x':={ l with holder:=x.id,dead:=false }) (v':={ u with holder:=v.id,dead:=false }) (k:=3) (vs:=[.bool false]) hu1 hl1' rfl (by simp) rfl ⟨rfl,rfl,rfl⟩ rfl ⟨dl0.most,d0.id,rfl⟩;refine⟨g2,?_⟩;rw[cO];have F2:=F1.wr (b:=bl) (o:=ol+Int.toNat (qn:Int)*4+3) (l:=[.bool false]) (by rw[hlbl];simp);generalize wr m8 bl (ol+Int.toNat (qn:Int)*4+3) [.bool false]=m9 at hE2 F2;obtain⟨g3,hE3⟩:=hE2.setS (x':={ x with sec:=2 }) (v':={ v with sec:=2 }) (k:=7) (vs:=[.int .i64 2]) hv hx rfl (by simp) rfl ⟨rfl,rfl,rfl⟩ rfl ⟨d0.id,d0.s,rfl,d0.held,d0.num,d0.ran⟩;refine⟨g3,?_⟩;rw[cO];have F3:=F2.wr (b:=b) (o:=o+Int.toNat (i:Int)*11+7) (l:=[.int .i64 2]) (by rw[hlb];simp);generalize wr m9 b (o+Int.toNat (i:Int)*11+7) [.int .i64 2]=m10 at hE3 F3;have hv3:=dZ (y:={ v with sec:=2 }) hv;have hx3:=dZ (y:={ x with sec:=2 }) hx;obtain⟨g4,hE4⟩:=hE3.setS (x':={ x with sec:=2,held:=0 }) (v':={ v with sec:=2,held:=0 }) (k:=8) (vs:=[.int .i64 0]) hv3 hx3 rfl (by simp) rfl ⟨rfl,rfl,rfl⟩ rfl ⟨d0.id,d0.s,rfl,rfl,d0.num,d0.ran⟩;refine⟨g4,?_⟩;rw[cO];have F4:=F3.wr (b:=b) (o:=o+Int.toNat (i:Int)*11+8) (l:=[.int .i64 0]) (by rw[hlb];simp);generalize wr m10 b (o+Int.toNat (i:Int)*11+8) [.int .i64 0]=m11 at hE4 F4;have hv4:=dZ (y:={ v with sec:=2,held:=0 }) hv3;have kc:Keep m11 (bump m11 14):=(Keep.refl hE4.wf).bump;obtain⟨b',o',e,_,hcs4⟩:=(hE4.then kc).ow.atS hv4;cases e;refine⟨_,hcs4 0 _ rfl,?_⟩;refine((F4.keep kc).arr hE.wf hQ hlq).open (k:=k) (x:=(qn:Int)+1) (by rw[List.getElem?_map,hp];rfl) fun bq2 oq2 hcq2=>⟨_,hcq2 0 _ rfl,?_⟩
      refine hE4.tell (by omega) (by omega) fun a12 c12 m12 hE12 f12=>?_
      have F5:=F4.fr f12 (fun b hb=>by rw[(hE4.evn b hb).2];simp);refine hInv3 a12 _ c12 m12 hlt ⟨lam,_,_,_,_,hE12.cast ?_ ?_,F5.arr hE.wf hP hlp,F5.arr hE.wf hQ hlq,hlp,hlq⟩
      .simp[List.set_set]
      .show _=pm.lT σ++ER++(Eg++((bif l.dead then [pm.dS τ 7 x.id 0] else [])++[pm.dS τ 6 x.id ((qn:Int)+1)]));simp only[List.append_assoc];unfold pm.dS;rw[enk,show v.id=x.id from d0.id]
     .intro J hJ;refine⟨_,hcl 3 _ rfl,?_⟩;rw[show u.dead=l.dead from dl0.dead];refine cJ (fun hd=>?_) (fun hd=>?_)
      .rw[hd,cond_true]at hJ;have kc:Keep m7 (bump m7 24):=(Keep.refl hE.wf).bump;obtain⟨b',o',e,_,hcs4⟩:=(hE.then kc).ow.atS hv;cases e;refine⟨_,hcs4 0 _ rfl,?_⟩;have e20:(bump m7 14).nx+7=m7.nx+21:=by show m7.nx+14+7=m7.nx+21;omega
       rw[e20];refine hE.tell (d:=21) (by omega) (by omega) fun a12 c12 m12 hE12 f12=>?_
       have F5:=F0.fr f12 (fun b hb=>by rw[(hE.evn b hb).2];simp);refine hJ a12 _ c12 m12 (hE12.cast rfl ?_) F5;unfold pm.dS;rw[enk,show v.id=x.id from d0.id]
      .rw[hd,cond_false,List.append_nil]at hJ;exact hJ a n c _ hEb (F0.keep kb)
   .have:L.take k=L:=List.take_of_length_le (by omega);rw[this]at hE hgl hn7;refine h m7 _ _ _ _ _ _ _ _ _ ⟨lam,ss,js,ls,qs,hE⟩ ?_;omega
end
end Go.Proofs.YthpnifigjfplbaaGreat.vc
namespace Go.Proofs.YthpnifigjfplbaaGreat.vc
open Go Go.AX
section
variable {m:Mem} {Q:Value->Mem->Prop}
theorem NH{n:Nat}(hw:Wf m)(hn:n<=1000000)(h0:n=0->Q (.slice none 0 0) m)(h1:0<n->∀Z m',Z.length=n*2->m'=newO m (row Z dk true)->Q (.slice (some ⟨m.nx,0,none⟩) 0 n) m') :
  ah cx iV [.slice none 0 0,.int .i64 (n:Int)] m Q:=by
 apply qv;unfold lJ;have hc:mF cx m [cS] [.slice none 0 0]=some (.int .i64 0):=by
  unfold mF;simp only[Dw];rfl
 refine dL (fun f:Mem->Prop=>f m) ?_ ?_
 .refine⟨0,hc,?_⟩;have e:de .i64 (n:Int) (de .i64 0 (aQ 0))=(n:Int):=by
   rw[show de .i64 0 (aQ 0)=0 from eO (by simp[aQ]) (by simp[aQ]),eO (by omega) (by omega)];omega
  rw[e];refine dP (fun hp=>?_) (fun hp=>?_)
  .refine⟨0,hc,none,0,0,?_,?_⟩
   .unfold cX;have b1:fi 0 (some (.int .i64 0)) 0=some 0:=dC (i:=0) (gQ4 _);simp only[Dw,iN,b1];rfl
   .obtain⟨Z,hZ,hap⟩:=H6 (cx:=cx) (m:=m) (t:=cS) (e:=dk) (tx:=t_int) (s:=2) (n:=n) (by kernel_rfl) (by kernel_rfl) (by kernel_rfl) (by omega) hn;refine⟨_,_,_,_,hap,_,_,_,eR Dw iN (dC (i:=0) (Nat.zero_le _)) rfl ((Row.newO (m:=m) (l:=Z) (e:=dk) (x:=true)).sameSize iN) (Nat.zero_le _),?_⟩;exact h1 (by omega) Z _ hZ rfl
  .exact h0 (by omega)
 .intro J hJ;refine dP (fun hp=>by omega) (fun hp=>hJ)
theorem JN{b0:Nat}{t0:TypeId}{a a':Option Addr}{n c n' c':Nat}{l l':List pm.Back}(hw:Wf m)(hR:Row m b0 [.slice a n c,.slice a' n' c'] t0 false)(hA:Arr encB 2 m a n l)(hA':Arr encB 2 m a' n' l')(hn:n+n'<=100000)
  (h:∀m2 a2 c2,Keep m m2->OwnSl m m2 dk a2 (n+n') c2 ((l++l').flatMap encB)->Q (.slice a2 (n+n') c2) m2) :
  ah cx ir [.slice (some ⟨b0,0,none⟩) 2 2] m Q:=by
 apply pu;unfold kX;have rd0:∀m1,m1.hp.get b0=m.hp.get b0->∀k:Nat,k<2->∃(a1:Option Addr) (n1 c1:Nat),rd m1 b0 (0+Int.toNat (k:Int)*1)=some (.slice a1 n1 c1)/\((k=0/\a1=a/\n1=n/\c1=c)∨(k=1/\a1=a'/\n1=n'/\c1=c')):=by
  intro m1 hg k hk;have hR1:=hR.congr hg;rcases Nat.lt_or_ge k 1 with h|h
  .obtain rfl:k=0:=by omega
   exact⟨a,n,c,by rw[hR1.rd];rfl,.inl ⟨rfl,rfl,rfl,rfl⟩⟩
  .obtain rfl:k=1:=by omega
   exact⟨a',n',c',by rw[hR1.rd];rfl,.inr ⟨rfl,rfl,rfl,rfl⟩⟩
 have hln:l.length=n:=hA.1;have hln':l'.length=n':=hA'.1;refine NM (show 2<=4611686018427387904 by omega) (fun k (x:Int) mm=>mm=m/\x=((if k=0 then 0 else if k=1 then n else n+n':Nat):Int)) ⟨rfl,rfl⟩ ?_;rintro k x m1 hk ⟨rfl,hx⟩ I w hI;refine dG (fun hlt=>?_) (fun hge=>?_)
 .refine⟨⟨by omega,by omega⟩,?_⟩;rw[cW];obtain⟨a1,n1,c1,r1,r2⟩:=rd0 m1 rfl k hlt;refine⟨a1,n1,c1,r1,?_⟩;have hx2:bh .i64 x (aQ n1)=((if k+1=0 then 0 else if k+1=1 then n else n+n':Nat):Int):=by
   rcases r2 with⟨rfl,_,rfl,_⟩|⟨rfl,_,rfl,_⟩
   .rw[hx];simp only[if_true,Nat.zero_add,if_neg (show ¬(1:Nat)=0 by omega)];rw[dN (by simp only[pm.fP];omega) (by simp only[pm.fP];omega)];simp only[pm.fP];omega
   .rw[hx];simp only[if_neg (show ¬(1:Nat)=0 by omega),if_true,if_neg (show ¬(1+1:Nat)=0 by omega),if_neg (show ¬(1+1:Nat)=1 by omega)];rw[dN (by simp only[pm.fP];omega) (by simp only[pm.fP];omega)];simp only[pm.fP];omega
  rw[hx2];refine dP (fun hp=>by omega) (fun hp=>hI _ _ hlt ⟨rfl,rfl⟩)
 .obtain rfl:k=2:=by omega
  rw[if_neg (by omega),if_neg (by omega)]at hx;subst hx;clear hI I w;have fill:∀(aG:Option Addr) (m2:Mem),((n+n'=0/\aG=none/\m2=m1)∨(0<n+n'/\aG=some ⟨m1.nx,0,none⟩/\∃Z,Z.length=(n+n')*2/\m2=newO m1 (row Z dk true)))->
    ∃Inv_3:Option Addr->Nat->Nat->Int->Mem->Nat->Prop,(∃n_4:Nat,Inv_3 aG 0 (n+n') (0:Int) m2 n_4)/\
     ∀(a6:Option Addr) (n6 c6:Nat) (x27:Int),∀(m3:Mem) (n_5:Nat),Inv_3 a6 n6 c6 x27 m3 n_5->
     (splitB (cR (x27) (aQ (2)))
     ((0<=(x27)/\(x27)<((2:Nat):Int))/\(cZ (some ⟨b0,0,none⟩) fun ba0_6 oa0_7=>(∃(a30:Option Addr) (n30 c30:Nat),rd m3 ba0_6 (oa0_7+Int.toNat (x27)*1)=some (.slice a30 (n30) (c30))/\(∃(a33:Option Addr) (n33 c33:Nat) (m4:Mem),cQ cx m3 [cS,cS] [.slice a6 (n6) (c6),.slice a30 (n30) (c30)]=some (.slice a33 (n33) (c33),m4)/\(∃n_8:Nat,n_8<n_5/\Inv_3 a33 (n33) (c33) (bh .i64 (x27) (1:Int)) m4 n_8)))))
     (Q (.slice a6 (n6) (c6)) m3)):=by
   intro aG m2 hG;have one:∀(L:List pm.Back),(L.flatMap encB).all one1=true:=fun L=>rI yK L
   rcases hG with⟨hz,rfl,em⟩|⟨hz,rfl,Z,hZ,rfl⟩
   ·
    rw[em];obtain rfl:n=0:=by omega
    obtain rfl:n'=0:=by omega
    have hl0:l=[]:=List.length_eq_zero_iff.1 hln;have hl0':l'=[]:=List.length_eq_zero_iff.1 hln';subst hl0;subst hl0';refine oN (show 2<=4611686018427387904 by omega) (fun k a6 n6 c6 mm=>mm=m1/\a6=none/\n6=0/\c6=0) ⟨rfl,rfl,rfl,rfl⟩ ?_;rintro k a6 n6 c6 m3 hk ⟨rfl,rfl,rfl,rfl⟩ I w hI;refine dG (fun hlt=>?_) (fun hge=>?_)
    .refine⟨⟨by omega,by omega⟩,?_⟩;rw[cW];obtain⟨a1,n1,c1,r1,r2⟩:=rd0 m3 rfl k hlt;refine⟨a1,n1,c1,r1,none,0,0,m3,?_,hI _ _ _ _ hlt ⟨rfl,rfl,rfl,rfl⟩⟩;obtain rfl:n1=0:=by rcases r2 with⟨_,_,h,_⟩|⟨_,_,h,_⟩<;>exact h
     obtain⟨i,z,h1,h2,h3,h4,h5,h6,h7⟩:=jg (cx:=cx) (t:=cS) (e:=dk) (s:=2) (by kernel_rfl);unfold cQ;have hf:dA m3 i.size 0 (.slice a1 0 c1)=some []:=by cases a1<;>rfl
     have b1:(Nat.beq ([]:List Value).length (0*i.size)&&Nat.blt 0 i.size&&([]:List Value).all one1)=true:=by
      rw[h3,Nat.zero_mul,show Nat.blt 0 2=true from rfl];rfl
     simp only[h1,h2,mE,iR,hf,b1]
    .exact h m3 none 0 (Keep.refl hw) (by simpa using OwnSl.nil)
   .have kz:Keep m1 (newO m1 (row Z dk true)):=(Keep.refl hw).newO;have hRz:Row (newO m1 (row Z dk true)) m1.nx Z dk true:=Row.newO;have hlf:(l.flatMap encB).length=n*2:=by rw[dm fI,hln]
    have hlf':(l'.flatMap encB).length=n'*2:=by rw[dm fI,hln']
    refine oN (show 2<=4611686018427387904 by omega) (fun k a6 n6 c6 mm=>Keep m1 mm/\a6=some ⟨m1.nx,0,none⟩/\c6=n+n'/\m1.nx<mm.nx/\
     ((k=0/\n6=0/\∃Z,Z.length=(n+n')*2/\Row mm m1.nx Z dk true)∨(k=1/\n6=n/\∃Z,Z.length=n'*2/\Row mm m1.nx (l.flatMap encB++Z) dk true)∨(k=2/\n6=n+n'/\Row mm m1.nx (l.flatMap encB++l'.flatMap encB) dk true)))
     ⟨kz,rfl,rfl,by simp,.inl ⟨rfl,rfl,Z,hZ,hRz⟩⟩ ?_
    rintro k a6 n6 c6 m3 hk ⟨k3,rfl,rfl,hnx,hst⟩ I w hI;have hb0:b0<m1.nx:=hw.row hR;refine dG (fun hlt=>?_) (fun hge=>?_)
    .refine⟨⟨by omega,by omega⟩,?_⟩;rw[cW];obtain⟨a1,n1,c1,r1,r2⟩:=rd0 m3 (k3.get b0 hb0) k hlt;refine⟨a1,n1,c1,r1,?_⟩;have hfl:m3.fl<=m1.nx:=by have:=k3.fl;have:=hw.1;omega
     have fc:∀m4:Mem,(∀b',b'≠m1.nx->m4.hp.get b'=m3.hp.get b')->m4.nx=m3.nx->m4.fl=m3.fl->Keep m1 m4:=fun m4 g1 g2 g3=>
      ⟨k3.wf.at (r:=m1.nx) hnx g2 g3 g1,by have:=k3.nx;omega,g3.trans k3.fl,fun b hb=>(g1 b (by omega)).trans (k3.get b hb)⟩
     rcases hst with⟨rfl,rfl,Z1,hZ1,hR1⟩|⟨rfl,rfl,Z1,hZ1,hR1⟩|⟨rfl,_⟩
     .rcases r2 with⟨_,rfl,rfl,rfl⟩|⟨h,_⟩
      .obtain⟨m4,q1,q2,q3,q4,q5⟩:=yN (cx:=cx) (t:=cS) (e:=dk) (s:=2) (n:=n1+n') (k:=0) (d:=n1) (ck:=c1) (by kernel_rfl) hR1 hZ1 hfl ((hA.keep hw k3).first fI (by omega)) hlf (one l) (by omega);refine⟨_,_,_,m4,q1,hI _ _ _ m4 hlt ⟨fc m4 q3 q4 q5,rfl,rfl,by omega,.inr (.inl ⟨rfl,by omega,Z1.drop ((0+n1)*2),?_,?_⟩)⟩⟩
       .rw[List.length_drop,hZ1];omega
       .simpa using q2
      .omega
     .rcases r2 with⟨h,_⟩|⟨_,rfl,rfl,rfl⟩
      .omega
      .obtain⟨m4,q1,q2,q3,q4,q5⟩:=yN (cx:=cx) (t:=cS) (e:=dk) (s:=2) (n:=n6+n1) (k:=n6) (d:=n1) (ck:=c1) (by kernel_rfl) hR1 (by rw[gR2,hlf,hZ1];omega) hfl ((hA'.keep hw k3).first fI (by omega)) hlf' (one l') (by omega);refine⟨_,_,_,m4,q1,hI _ _ _ m4 hlt ⟨fc m4 q3 q4 q5,rfl,rfl,by omega,.inr (.inr ⟨rfl,rfl,?_⟩)⟩⟩;have e1:(l.flatMap encB++Z1).take (n6*2)=l.flatMap encB:=by rw[<-hlf,List.take_left]
       have e2:(l.flatMap encB++Z1).drop ((n6+n1)*2)=[]:=List.drop_eq_nil_of_le (by rw[gR2,hlf,hZ1];omega);rw[e1,e2,List.append_nil]at q2;exact q2
     .omega
    .rcases hst with⟨rfl,_⟩|⟨rfl,_⟩|⟨_,rfl,hR1⟩
     .omega
     .omega
     .refine h m3 _ _ k3 (.row m1.nx _ _ hz (gQ4 _) ?_);rw[List.flatMap_append];exact hR1
  refine NH hw (by omega) (fun hz=>⟨_,_,_,rfl,?_⟩) (fun hz Z m2 hZ hm2=>⟨_,_,_,rfl,?_⟩)
  .have:=fill none m1 (.inl ⟨hz,rfl,rfl⟩);rw[hz]at this;exact this
  .exact fill _ m2 (.inr ⟨hz,rfl,Z,hZ,hm2⟩)
end
section
variable {wj wq wj' wq':Nat->Kd} {m0 m m':Mem} {lam:Nat->Lb} {a1 a2 a3 ae:Option Addr} {n1 c1 n2 c2 n3 c3 ne ce:Nat} {ss ss':List SV} {js js':Nat->List JV} {ls ls':List LV} {qs qs':Nat->List Int} {σ σ':pm.St} {E:List pm.Ev}
theorem OwE.old0{m00:Mem}(h:OwE wj wq m0 m lam a1 n1 c1 a2 n2 c2 a3 n3 c3 ss js ls qs σ ae ne ce E)(hw:Wf m00)(k:Keep m00 m0):OwE wj wq m00 m lam a1 n1 c1 a2 n2 c2 a3 n3 c3 ss js ls qs σ ae ne ce E:=
 ⟨h.ow.old0 hw k,h.ev,fun b hb=>⟨Nat.le_trans k.nx (h.evn b hb).1,(h.evn b hb).2⟩⟩
theorem OwE.beside{S:List Nat}(h:OwE wj wq m0 m lam a1 n1 c1 a2 n2 c2 a3 n3 c3 ss js ls qs σ ae ne ce E)(hw':Wf m')(f:Fr m m' S)(hS:∀b∈S,lam b = .no/\b∉blk ae):OwE wj wq m0 m' lam a1 n1 c1 a2 n2 c2 a3 n3 c3 ss js ls qs σ ae ne ce E:=
 ⟨h.ow.fr hw' f (fun b hb=>(hS b hb).1),h.ev.fr f h.wf (fun b hb hs=>(hS b hs).2 hb),h.evn⟩
theorem OwE.setB(h:OwE wj wq m0 m lam a1 n1 c1 a2 n2 c2 a3 n3 c3 ss js ls qs σ ae ne ce E){b o i k:Nat}{x x':pm.Back}{vs:List Value}(hx:σ.backs[i]? = some x)(hab:a3=some ⟨b,o,none⟩)(hk:k+vs.length<=2)(he:over (encB x) k vs=encB x') :
  okW m b (o+Int.toNat (i:Int)*2+k) vs.length/\OwE wj wq m0 (wr m b (o+Int.toNat (i:Int)*2+k) vs) lam a1 n1 c1 a2 n2 c2 a3 n3 c3 ss js ls qs { σ with backs:=σ.backs.set i x' } ae ne ce E:=by
 obtain⟨g1,g2⟩:=h.ow.setB hx hab hk he;refine⟨g1,h.go g2 ⟨[b],(Fr.refl m [b]).wr (.inl (by simp)),fun b' hb'=>?_⟩⟩;rw[List.mem_singleton.1 hb',h.ow.s3l b (by rw[hab];simp[blk])];simp
theorem OwE.newB(h:OwE wj wq m0 m lam a1 n1 c1 a2 n2 c2 a3 n3 c3 ss js ls qs σ ae ne ce E){mo m2:Mem}{a':Option Addr}{n' c':Nat}{l':List pm.Back}(k:Keep m m2)(ho:OwnSl mo m2 dk a' n' c' (l'.flatMap encB))(hn:m.nx<=mo.nx)(hl:l'.length=n') :
  ∃lam',OwE wj wq m0 m2 lam' a1 n1 c1 a2 n2 c2 a' n' c' ss js ls qs { σ with backs:=l' } ae ne ce E/\(∀b,lam b≠.no->lam' b=lam b):=by
 obtain⟨lam',g1,g2,g3⟩:=h.ow.newB k ho hn hl;refine⟨lam',⟨g1,(h.then k).ev,fun b hb=>⟨(h.evn b hb).1,?_⟩⟩,g2⟩;rw[g3 b (h.evlt b hb)];exact(h.evn b hb).2
theorem EG:∀(l:List Nat) (s:pm.St) (i:Nat),pm.runs s (l++[i])=(match (pm.runs s l).servs[i]? with|some v=>{ pm.runs s l with servs:=(pm.runs s l).servs.set i (pm.gW v) }|none=>pm.runs s l)
 | [],s,i=>rfl
 | j::r,s,i=>EG r _ i
theorem EH:∀(l:List Nat) (s:pm.St) (i:Nat),pm.ends s (l++[i])=((pm.gw (pm.ends s l).1 i).1,(pm.ends s l).2++(pm.gw (pm.ends s l).1 i).2)
 | [],s,i=>by
  show ((pm.gw s i).1,(pm.gw s i).2++[])=((pm.gw s i).1,[]++(pm.gw s i).2);simp
 | j::r,s,i=>by
  show ((pm.ends (pm.gw s j).1 (r++[i])).1,(pm.gw s j).2++(pm.ends (pm.gw s j).1 (r++[i])).2)=_;rw[EH r];show (_,_++(_++_))=(_,(_++_)++_);rw[List.append_assoc];rfl
theorem EI{B:Int}:∀{L:List Nat} {σ : pm.St},pm.Iv B σ->L.Nodup->(∀p∈L,∃x,σ.servs[p]? = some x/\x.jobs≠[])->∀{q:Nat} {y:pm.Serv},q∉L->σ.servs[q]? = some y->∃y',(pm.ends σ L).1.servs[q]? = some y'/\y'.jobs=y.jobs
 | [],σ,h,_,_,q,y,_,hy=>⟨y,hy,rfl⟩
 | i::r,σ,h,hn,hp,q,y,hq,hy=>by
  rw[List.nodup_cons]at hn;obtain⟨x,hx,hj⟩:=hp i (gQ9 ..);cases hjs:x.jobs with
  | nil=>exact absurd hjs hj
  | cons j js=>
   obtain⟨a1,_,_,_,_,_,a7⟩:=pm.Kt h hx hjs;have nx:∀{p:Nat} {y:pm.Serv},p≠i->σ.servs[p]? = some y->∃y',(pm.gw σ i).1.servs[p]? = some y'/\y'.jobs=y.jobs:=fun{p y} hpi hy=>by
    obtain⟨y',hy',hN⟩:=a7 p y hpi hy;refine⟨y',hy',?_⟩;rcases hN with e|⟨_,e⟩<;>rw[e]
   obtain⟨y1,h1,e1⟩:=nx (fun e=>hq (by rw[e];exact gQ9 ..)) hy;obtain⟨y2,h2,e2⟩:=EI (L:=r) a1 hn.2 (fun p hpr=>by
    obtain⟨z,hz,hzj⟩:=hp p (gQ5 _ hpr);obtain⟨z',hz',e⟩:=nx (fun e=>hn.1 (e▸hpr)) hz;exact⟨z',hz',by rw[e];exact hzj⟩) (fun e=>hq (gQ5 _ e)) h1
   exact⟨y2,h2,e2.trans e1⟩
noncomputable def mO(l:List pm.Back)(k:Nat):List pm.Back:=(l.take k).map (fun b=>{ b with ran:=bh .i64 b.ran 1 })++l.drop k
theorem LL(l:List pm.Back):mO l 0=l:=by unfold mO;simp
theorem NI{l:List pm.Back}{k:Nat}{x:pm.Back}(h:l[k]? = some x):(mO l k)[k]? = some x:=by
 have hk:=(gQ1 h).1;unfold mO;have hl:((l.take k).map (fun b:pm.Back=>{ b with ran:=bh .i64 b.ran 1 })).length=k:=by rw[List.length_map,List.length_take];omega
 rw[List.getElem?_append_right (by omega),hl,Nat.sub_self,List.getElem?_drop];exact h
theorem LM{l:List pm.Back}{k:Nat}{x:pm.Back}(h:l[k]? = some x):(mO l k).set k { x with ran:=bh .i64 x.ran 1 }=mO l (k+1):=by
 have hk:=(gQ1 h).1;unfold mO;have hl:((l.take k).map (fun b:pm.Back=>{ b with ran:=bh .i64 b.ran 1 })).length=k:=by rw[List.length_map,List.length_take];omega
 rw[List.set_append_right _ _ (by omega),hl,Nat.sub_self,List.drop_eq_getElem_cons hk,List.set_cons_zero,List.take_add_one,h];simp
theorem NJ(l:List pm.Back)(k:Nat)(hk:k<=l.length):(mO l k).drop k++(mO l k).take k=pm.fq l k:=by
 unfold mO pm.fq;have hl:((l.take k).map (fun b:pm.Back=>{ b with ran:=bh .i64 b.ran 1 })).length=k:=by rw[List.length_map,List.length_take];omega
 rw[List.drop_append,List.take_append,hl,Nat.sub_self,List.drop_eq_nil_of_le (by omega),List.drop_zero,List.nil_append,List.take_zero,List.append_nil,List.take_of_length_le (by omega)]
end
section
variable {B:Int} {m:Mem} {Q:Value->Mem->Prop} {M now:Int} {a1 a2 a3:Option Addr} {n1 c1 n2 c2 n3 c3:Nat} {σ : pm.St}
theorem Dq(hw:Wf m)(hσ : RdSt cx m M now a1 n1 a2 n2 a3 n3 c3 σ)(hI:pm.Iv B σ)
  (h:∀m' now' b1 d1 b2 d2 b3 d3 ae ne ce,Keep m m'->RdSt cx m' M now' b1 n1 b2 n2 b3 n3 d3 (pm.tick σ).1->Arr encEv 4 m' ae ne (pm.tick σ).2.1->ne<=2000->Q (.tuple #[.agg #[.int .i64 M,.int .i64 now',.slice b1 n1 d1,.slice b2 n2 d2,.slice b3 n3 d3],.slice ae ne ce,.int .i64 (pm.tick σ).2.2]) m') :
  ah cx nG [.agg #[.int .i64 M,.int .i64 now,.slice a1 n1 c1,.slice a2 n2 c2,.slice a3 n3 c3]] m Q:=by
 apply CQ;unfold zm;have k0:Keep m (bump m 2):=(Keep.refl hw).bump;have em:=hσ.em;have en:=hσ.enow;refine xZ (fun hnow=>?_) (fun hnow=>?_)
 .have e:pm.tick σ = (σ,[],6):=by
   unfold pm.tick;rw[show leI pm.qI σ.now=true from fZ.2 (by rw[<-en];exact hnow)];rfl
  rw[e]at h;exact h _ now a1 c1 a2 c2 a3 c3 none 0 0 k0 (hσ.keep hw k0) jm.nil (by omega)
 .have hnow':σ.now<4611686018427387904:=by rw[<-en];exact hnow
  have ht:=pm.qM hnow';simp only at ht;rw[ht]at h;clear ht;obtain⟨s1,s2,s3⟩:=pm.jD hI;obtain⟨s4,s5,s6,s7⟩:=pm.nR hI;refine EF k0.wf (hσ.keep hw k0) hI fun m1 b1 d1 b2 d2 b3 d3 ae ne ce hX hne=>⟨_,_,_,_,_,_,_,_,_,_,_,_,_,_,rfl,?_⟩
  generalize (pm.settle σ).1 = τ at *;generalize (pm.settle σ).2=ES at *;obtain⟨lam,ss,js,ls,qs,hE⟩:=hX;have hE:=hE.old0 hw k0;have e1:M = τ.m:=by rw[s3];exact em
  have e2:now = τ.now:=by rw[s4];exact en
  have hz1:=s1.len1;have hz2:=s1.len2;have hz3:=s1.len3;have hM1:=s1.m1;have hM2:=s1.m2;have l1:=hE.ow.s1d;have l2:=hE.ow.s2d;have l3:=hE.ow.s3n;have hpl:=pm.nt s1 s2;refine te hE.wf (hE.ow.reads (cx:=cx) e1 e2 iN) (by omega) (by omega) (by omega) (by omega) fun m2 ai ci ab cb k2 hAi hAb hni hnb=>⟨_,_,_,_,_,_,rfl,?_⟩
  have hnbk:(pm.fX τ).length<=τ.backs.length:=by
   unfold pm.fX;rw[List.length_map,List.length_take];omega
  have hrl:=jG τ hM1;generalize hPL:(pm.bm τ).map (pm.at_ τ.servs)=PL at *;generalize hNB:(pm.fX τ).length=NB at *;have hE2:=hE.then k2;obtain⟨lam2,hE2,hli,hch⟩:=hE2.hold dV (by omega) hAi (fun b hb=>.inl (hE.ow.noNew (hni b hb))) (fun b hb hs=>by have:=hE.evlt b hs;have:=hni b hb;omega);have hevlt:∀b∈blk ae,b<m2.nx:=hE2.evlt;have hPLlen:PL.length=(pm.bm τ).length:=by rw[<-hPL,List.length_map]
  refine oN (show (pm.bm τ).length<=4611686018427387904 by omega) (fun k a8 n8 c8 mm=>∃ss js,OwE (fun _=>.own true) (fun _=>.own true) m mm lam2 b1 n1 d1 b2 n2 d2 b3 n3 d3 ss js ls qs (pm.runs τ (PL.take k)) ae ne ce ES/\
   Grow mm a8 n8 c8 1 t_int (((PL.take k).map fun p:Nat=>(p:Int)).flatMap encI)/\(∀b∈blk a8,m2.nx<=b/\lam2 b = .no)/\Arr encI 1 mm ai (pm.bm τ).length (pm.bm τ)/\m2.nx<=mm.nx)
   ⟨ss,js,by rw[List.take_zero];exact hE2,by simpa using Grow.nil _ _ _,(fun b hb=>by cases hb),hAi,gQ4 _⟩ ?_
  rintro k a8 n8 c8 m3 hk ⟨ss3,js3,hE3,hG3,hnew3,hA3,hnx3⟩ I w hInv;have hn8:n8=k:=by
   have:=hG3.1;rw[dm dV,List.length_map,List.length_take]at this;omega
  refine dG (fun hlt=>?_) (fun hge=>?_)
  .obtain⟨id,hid⟩:∃id,(pm.bm τ)[k]? = some id:=⟨_,gQ2 hlt⟩;have hidm:=gQ3 hid;have hPk:PL[k]? = some (pm.at_ τ.servs id):=by rw[<-hPL,List.getElem?_map,hid];rfl
   have hPm:=gQ3 hPk;obtain⟨x,hx,hxm,hxj,hxs⟩:=hpl.2 _ hPm;have hnt:pm.at_ τ.servs id∉PL.take k:=fun hm=>by
    obtain⟨i,hi⟩:=List.getElem?_of_mem hm;rw[List.getElem?_take]at hi;split at hi
    .have:=pm.oZ hpl.1 hi hPk;omega
    .cases hi
   have hndt:(PL.take k).Nodup:=hpl.1.sublist (List.take_sublist _ _);obtain⟨r1,r2,r3,r4,r5,r6⟩:=pm.nU (PL.take k) τ hndt;have hx3:(pm.runs τ (PL.take k)).servs[pm.at_ τ.servs id]? = some x:=by rw[r6,if_neg hnt];exact hx
   have hids3:(pm.runs τ (PL.take k)).servs.map (·.id) = τ.servs.map (·.id):=by
    apply List.ext_getElem?;intro j;rw[List.getElem?_map,List.getElem?_map,r6];split
    .cases τ.servs[j]? with
     | none=>rfl
     | some y=>show some (pm.gW y).id=some y.id;rw[pm.nT]
    .rfl
   have hat:=nA hids3 id;have hrs:pm.runs τ (PL.take (k+1)) = { pm.runs τ (PL.take k)with servs:=(pm.runs τ (PL.take k)).servs.set (pm.at_ τ.servs id) (pm.gW x) }:=by
    rw[List.take_add_one,hPk];show pm.runs τ (PL.take k++[pm.at_ τ.servs id])=_;rw[EG,hx3]
   have hil:=(gQ1 hx).1;refine hA3.open (k:=k) (x:=id) hid fun bi oi hci=>⟨_,hci 0 _ rfl,?_⟩
   refine zH hE3.wf (hE3.ow.reads (cx:=cx) (by rw[r1];exact e1) (by rw[r2];exact e2) iN) (kq hids3.symm s1.rise) (by omega) fun m4 k4=>⟨_,_,rfl,?_⟩
   rw[hat];generalize pm.has _ _=unused;rw[cO];generalize hp:pm.at_ τ.servs id=p at *
   have k5:Keep m3 (newO m4 (row [.int .i64 (p:Int)] t_int false)):=k4.newO;have hR5:Row (newO m4 (row [.int .i64 (p:Int)] t_int false)) m4.nx [.int .i64 (p:Int)] t_int false:=Row.newO;have x4:=k4.nx;generalize hm5:newO m4 (row [.int .i64 (p:Int)] t_int false)=m5 at k5 hR5;have x5:m5.nx=m4.nx+1:=by rw[<-hm5];rfl
   obtain⟨m6,q1,q2,q3,q4,q5⟩:=rz (cx:=cx) (t:=dt) (e:=t_int) (s:=1) (xa:=some ⟨m4.nx,0,none⟩) (by kernel_rfl) k5.wf (k5.grow hE3.wf hG3) (hR5.first1 rfl) rfl rfl (by omega);refine⟨_,_,_,m6,q1,?_⟩;have hE6:=(hE3.then k5).beside q2 q3 (fun b hb=>⟨(hnew3 b hb).2,fun hs=>by have:=hevlt b hs;have:=(hnew3 b hb).1;omega⟩);have hG6:Grow m6 (some ⟨m5.nx,0,none⟩) (n8+1) (n8+1) 1 t_int (((PL.take (k+1)).map fun p:Nat=>(p:Int)).flatMap encI):=by
    have e:((PL.take (k+1)).map fun p:Nat=>(p:Int)).flatMap encI=((PL.take k).map fun p:Nat=>(p:Int)).flatMap encI++[.int .i64 (p:Int)]:=by
     rw[List.take_add_one,hPk];simp[encI]
    rw[e];refine⟨?_,.inr ⟨_,rfl,rfl,?_,q5⟩⟩
    .rw[gR2,dm dV,List.length_map,List.length_take];simp;omega
    .have:=q3.fl;have:=k5.fl;have:=hE3.wf.1;omega
   have hA6:Arr encI 1 m6 ai (pm.bm τ).length (pm.bm τ):=by
    refine(hA3.keep hE3.wf k5).fr' k5.wf q3 (fun hne b hb hs=>?_);have h1:=hli hne b hb;rw[(hnew3 b hs).2]at h1;cases h1
   obtain⟨v,hv⟩:∃v,ss3[p]? = some v:=⟨_,gQ2 (by rw[hE3.ow.s1n];omega)⟩;obtain⟨b,o,rfl,hlb,_⟩:=hE6.ow.atS hv;refine⟨⟨by omega,by omega⟩,?_⟩;rw[cW];refine Qd hE6.ow hx3 rfl (rfl:(fun _=>Kd.own true) p = .own true) (fun _=>hxj) fun m7 ss' js' hO7 hfr7=>⟨rfl,?_⟩
   obtain⟨S,f7,hS7⟩:=hfr7;have hS7':∀b∈S,lam2 b≠.no/\lam2 b≠.pr:=fun b hb=>by
    rcases hS7 b hb with e|⟨_,e⟩<;>rw[e]<;>simp
   have hE7:=hE6.go hO7 ⟨S,f7,fun b hb=>(hS7' b hb).1⟩;have hno5:lam2 m5.nx = .no:=(hE3.then k5).ow.noNew (gQ4 _);refine hInv _ _ _ m7 hlt ⟨ss',js',by rw[hrs];exact hE7,hG6.fr f7 q2 (fun b hb hs=>?_),fun b hb=>?_,hA6.fr' q2 f7 (fun hne b hb hs=>(hS7' b hs).2 (hli hne b hb)),by have:=f7.nx;omega⟩
   .simp[blk]at hb;subst hb;exact(hS7' _ hs).1 hno5
   .simp[blk]at hb;subst hb;exact⟨by omega,hno5⟩
  ·
   have htk:PL.take k=PL:=List.take_of_length_le (by omega);rw[htk]at hE3 hG3;clear hInv I w;obtain⟨r1,r2,r3,r4,r5,r6⟩:=pm.nU PL τ hpl.1;have hAp:Arr encI 1 m3 a8 n8 (PL.map fun p:Nat=>(p:Int)):=Arr.of_grow dV (by omega) hG3;obtain⟨lam3,hE3,hlp,hch3⟩:=hE3.hold dV (by omega) hAp (fun b hb=>.inl (hnew3 b hb).2) (fun b hb hs=>by have:=hevlt b hs;have:=(hnew3 b hb).1;omega);have hbk:=hE3.ow.s3n;have hbk2:(pm.runs τ PL).backs.length=n3:=hbk;have hjobs:=pm.DY hpl;obtain⟨u1,u2⟩:=pm.Gk s1 (by rw[s4];exact hnow') hpl NB;generalize pm.runs τ PL = τ1 at *;refine og (show NB<=4611686018427387904 by omega) (fun k mm=>OwE (fun _=>.own true) (fun _=>.own true) m mm lam3 b1 n1 d1 b2 n2 d2 b3 n3 d3 ss3 js3 ls qs { τ1 with backs:=mO τ1.backs k } ae ne ce ES/\PrF lam3 m3 mm) ⟨by rw[LL];exact hE3,PrF.refl _ _⟩ ?_;rintro k2' m4 hk4 ⟨hE4,F4⟩ I w hInv;refine dG (fun hlt4=>?_) (fun hge4=>?_)
   .obtain⟨x,hx⟩:∃x,τ1.backs[k2']? = some x:=⟨_,gQ2 (by omega)⟩;have hx':({ τ1 with backs:=mO τ1.backs k2' }:pm.St).backs[k2']? = some x:=NI hx;obtain⟨b,o,rfl,hlb,hc⟩:=hE4.ow.atB hx';refine⟨⟨by omega,by omega⟩,?_⟩;rw[cW];refine⟨_,hc 1 _ rfl,⟨by omega,by omega⟩,?_⟩;rw[cW];obtain⟨g1,g2⟩:=hE4.setB (x':={ x with ran:=bh .i64 x.ran 1 }) (k:=1) (vs:=[.int .i64 (bh .i64 x.ran 1)]) hx' rfl (by simp) rfl;refine⟨g1,?_⟩;rw[cO];refine hInv _ hlt4 ⟨g2.cast ?_ rfl,F4.wr (by rw[hlb];simp)⟩;rw[show ({ τ1 with backs:=mO τ1.backs k2' }:pm.St).backs.set k2' _=mO τ1.backs (k2'+1)from LM hx]
   .obtain rfl:k2'=NB:=by omega
    clear hInv I w;have k8:Keep m4 (bump m4 12):=(Keep.refl hE4.wf).bump;have hcut:=(hE4.then k8).ow.reads (cx:=cx) (M:=M) (now:=now) (by show M = τ1.m;rw[r1];exact e1) (by show now = τ1.now;rw[r2];exact e2) iN;have hd3:d3=n3:=hE4.ow.s3.cap;have hincl:(mO τ1.backs k2').length=n3:=hE4.ow.s3n;obtain⟨aA,cut1,cutA⟩:=hcut.cut.cut (i:=k2') (j:=n3) (lo:=some (.int .i64 (aQ k2'))) (hi:=none) Dw iN rfl (dC (i:=k2') (by omega)) (by omega);obtain⟨aB,cut2,cutB⟩:=hcut.cut.cut (i:=0) (j:=k2') (lo:=none) (hi:=some (.int .i64 (aQ k2'))) Dw iN (dC (i:=k2') (by omega)) rfl (by omega);refine⟨_,_,_,cut1,_,_,_,cut2,?_⟩;have hA0:=(hE4.ow.reads (cx:=cx) (M:=M) (now:=now) (by show M = τ1.m;rw[r1];exact e1) (by show now = τ1.now;rw[r2];exact e2) iN).backs;have kz:Keep m4 (addO (bump m4 12) (m4.nx+8) (row [.slice aA (n3-k2') (d3-k2'),.slice aB (k2'-0) (d3-0)] cS false)):=k8.addO (by omega) (by simp);have hRz:Row (addO (bump m4 12) (m4.nx+8) (row [.slice aA (n3-k2') (d3-k2'),.slice aB (k2'-0) (d3-0)] cS false)) (m4.nx+8) [.slice aA (n3-k2') (d3-k2'),.slice aB (k2'-0) (d3-0)] cS false:=Row.of_row (by rw[gJ,if_pos rfl]);generalize addO (bump m4 12) (m4.nx+8) (row [.slice aA (n3-k2') (d3-k2'),.slice aB (k2'-0) (d3-0)] cS false)=m5 at kz hRz;have hA1:=(hA0.keep hE4.wf kz).cut (i:=k2') (j:=n3) (gQ4 _) cutA;have hA2:=(hA0.keep hE4.wf kz).cut (i:=0) (j:=k2') (by omega) cutB;have hE5:=hE4.then kz;have hsum:n3-k2'+(k2'-0)=n3:=by omega
    refine JN kz.wf hRz hA1 hA2 (by omega) fun m6 aN cN k6 hO6=>⟨_,_,_,rfl,?_⟩
    rw[hsum]at hO6 ⊢;rw[cO];have hrot:((({ τ1 with backs:=mO τ1.backs k2' }:pm.St).backs.take n3).drop k2'++(({ τ1 with backs:=mO τ1.backs k2' }:pm.St).backs.take k2').drop 0)=pm.fq τ1.backs k2':=by
     rw[List.drop_zero,List.take_of_length_le (by show (mO τ1.backs k2').length<=n3;omega)];exact NJ τ1.backs k2' (by omega)
    rw[hrot]at hO6;have htl:(pm.fq τ1.backs k2').length=n3:=by
     unfold pm.fq;rw[gR2,List.length_map,List.length_drop,List.length_take];omega
    obtain⟨lam4,hE6,hch4⟩:=hE5.newB k6 hO6 (gQ4 _) htl;have F6:PrF lam3 m3 m6:=(F4.keep kz).keep k6;have hAp6:Arr encI 1 m6 a8 n8 (PL.map fun p:Nat=>(p:Int)):=F6.arr hE3.wf hAp hlp;have hlp4:(PL.map fun p:Nat=>(p:Int))≠[]->∀b∈blk a8,lam4 b = .pr:=fun hne b hb=>by
     have:=hlp hne b hb;rw[hch4 b (by rw[this];simp)];exact this
    have enow1:bh .i64 now 1=bh .i64 τ1.now 1:=by rw[e2,r2]
    have hE7:OwE (fun _=>.own true) (fun _=>.own true) m m6 lam4 b1 n1 d1 b2 n2 d2 aN n3 cN ss3 js3 ls qs { τ1 with backs:=pm.fq τ1.backs k2',now:=bh .i64 τ1.now 1 } ae ne ce ES:=⟨{ hE6.ow with },hE6.ev,hE6.evn⟩;generalize hU:({ τ1 with backs:=pm.fq τ1.backs k2',now:=bh .i64 τ1.now 1 }:pm.St)=u at *;have hum:u.m = τ1.m:=by rw[<-hU]
    have hun:u.now=bh .i64 τ1.now 1:=by rw[<-hU]
    have hus:u.servs = τ1.servs:=by rw[<-hU]
    have hun8:n8=PL.length:=by omega
    rw[<-hus]at hjobs;refine oN (show n8<=4611686018427387904 by omega) (fun k a n c mm=>∃wj wq ss js ls qs,pk wj/\pk wq/\OwE wj wq m mm lam4 b1 n1 d1 b2 n2 d2 aN n3 cN ss js ls qs (pm.ends u (PL.take k)).1 a n c (ES++(pm.ends u (PL.take k)).2)/\Arr encI 1 mm a8 n8 (PL.map fun p:Nat=>(p:Int))/\n<=1000+10*k)
     ⟨_,_,ss3,js3,ls,qs,fun _=>⟨true,rfl⟩,fun _=>⟨true,rfl⟩,by rw[List.take_zero];exact hE7.cast rfl (by show ES=ES++[];rw[List.append_nil]),hAp6,by omega⟩ ?_
    rintro k a n c m7 hk7 ⟨wj,wq,ss7,js7,ls7,qs7,hwj,hwq,hE7',hA7,hn7⟩ I w hInv;have hndt:(PL.take k).Nodup:=hpl.1.sublist (List.take_sublist _ _);obtain⟨v1,v2,v3,v4,v5,v6⟩:=pm.C4 (L:=PL.take k) u1 hndt (fun p hp=>hjobs p (List.mem_of_mem_take hp));refine dG (fun hlt=>?_) (fun hge=>?_)
    .obtain⟨p,hp⟩:∃p,PL[k]? = some p:=⟨_,gQ2 (by omega)⟩;have hPm:=gQ3 hp;obtain⟨x0,hx0,hxj0⟩:=hjobs p hPm;have hnt:p∉PL.take k:=fun hm=>by
      obtain⟨i,hi⟩:=List.getElem?_of_mem hm;rw[List.getElem?_take]at hi;split at hi
      .have:=pm.oZ hpl.1 hi hp;omega
      .cases hi
     obtain⟨x,hx,hxje⟩:=EI u1 hndt (fun p hp=>hjobs p (List.mem_of_mem_take hp)) hnt hx0;have hsn:pm.ends u (PL.take (k+1))=((pm.gw (pm.ends u (PL.take k)).1 p).1,(pm.ends u (PL.take k)).2++(pm.gw (pm.ends u (PL.take k)).1 p).2):=by
      rw[List.take_add_one,hp];exact EH _ _ _
     rw[hsn]at hInv;generalize (pm.ends u (PL.take k)).1 = υ at *;generalize (pm.ends u (PL.take k)).2=Ek at *;cases hjs:x.jobs with
     | nil=>rw[hxje]at hjs;exact absurd hjs hxj0
     | cons j r=>
      refine hA7.open (k:=k) (x:=(p:Int)) (by rw[List.getElem?_map,hp];rfl) fun bp op hcp=>⟨_,hcp 0 _ rfl,?_⟩
      refine P9 hE7'.ow (by rw[v2,hum,r1];exact e1) (by rw[v3,hun,enow1]) (by have:=v1.len1;have:=hE7'.ow.s1d;omega) (by have:=v1.len2;have:=hE7'.ow.s2d;omega) v1.rise hx hjs hwj hwq (fun hs=>?_) fun m8 aE nE cE ss8 js8 ls8 qs8 wj8 wq8 hO8 hwj8 hwq8 hfr8 hEv8 hnE=>⟨_,_,_,rfl,?_⟩
      .obtain⟨q,l,h1,h2,_⟩:=pm.yD v1.toIw hx (eH.1 hs);have hgj:=(v1.serv x (gQ3 hx)).jobs j (by rw[hjs];exact gQ9 ..);have h3:j.cur.1=(q:Int)+1:=by rw[<-h1];unfold pm.headSem;rw[hjs]
       have hql:=(gQ1 h2).1;rw[hgj.step,h3];refine⟨by omega,by omega,fun l' hl' y r' hy=>?_⟩;rw[show ((q:Int)+1-1).toNat=q by omega,h2]at hl';cases hl';obtain⟨v,hv,_⟩:=pm.uK v1.toIw h2 (y:=y) (by rw[hy];exact gQ9 ..);exact⟨v,hv⟩
      .obtain⟨S,f8,hS8⟩:=hfr8;have hS8':∀b∈S,lam4 b≠.no/\lam4 b≠.pr:=fun b hb=>by
        rcases hS8 b hb with e|e|⟨_,e⟩<;>rw[e]<;>simp
       have hE8:=hE7'.go hO8 ⟨S,f8,fun b hb=>(hS8' b hb).1⟩;obtain⟨a9,c9,m9,q1,q2,q3⟩:=hE8.app hEv8.arr (by omega);refine⟨a9,_,c9,m9,q1,?_⟩;refine hInv a9 _ c9 m9 hlt ⟨wj8,wq8,ss8,js8,ls8,qs8,hwj8,hwq8,q2.cast rfl (by rw[List.append_assoc]),?_,by omega⟩;have F9:PrF lam4 m7 m9:=((PrF.refl _ _).fr f8 (fun b hb=>(hS8' b hb).2)).fr q3 (fun b hb=>by rw[(hE8.evn b hb).2];simp);exact F9.arr hE7'.wf hA7 hlp4
    .have htk2:PL.take k=PL:=List.take_of_length_le (by omega);rw[htk2]at hE7' v2 v3;refine h m7 _ _ _ _ _ _ _ a n c hE7'.ow.keep (hE7'.ow.reads (by show M=_;rw[v2,hum,r1];exact e1) (by show bh .i64 now 1=_;rw[v3,hun,enow1]) iN) hE7'.arr ?_;have:=hrl;omega
end
end Go.Proofs.YthpnifigjfplbaaGreat.vc
