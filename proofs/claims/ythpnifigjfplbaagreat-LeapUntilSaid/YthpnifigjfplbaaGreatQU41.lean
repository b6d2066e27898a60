import Derived.Test.YthpnifigjfplbaaGreatQU31
import Derived.Test.YthpnifigjfplbaaGreatQU01
import Derived.Test.YthpnifigjfplbaaGreatQU22
import Derived.Sort.Grow
import Derived.Deep.Draws
set_option linter.unusedVariables false
set_option linter.unusedSimpArgs false
namespace Go.Proofs.YthpnifigjfplbaaGreat.vc0
open Go Go.AX Go.Sort Go.Proofs.YthpnifigjfplbaaGreat.vc
theorem rO{x:Int}{m:Mem}{Q:Value->Mem->Prop}(h:Q (.bool false) m):ah cx gB [.int .i64 x] m Q:=by
 apply nF;unfold ky;rw[AG];exact h
theorem As{x:Int}{m:Mem}{Q:Value->Mem->Prop}(h:Q (.bool false) m):ah cx lg [.int .i64 x] m Q:=by
 apply xp;unfold sy;rw[AG];exact h
theorem vD{x y:Int}{m:Mem}{Q:Value->Mem->Prop}(h:Q (.int .i64 (pl.c2 x y)) m):ah cx ij [.int .i64 x,.int .i64 y] m Q:=by
 apply lY;unfold jj;refine rO ⟨_,rfl,rO ⟨_,rfl,?_⟩⟩;unfold pl.c2 at h;rw[gk,gk];simp only[fe,gH,dW];exact⟨fun e=>by rw[if_pos e]at h;exact h,fun e=>⟨fun e2=>by rw[if_neg (by omega),if_pos e2]at h;exact h,fun e2=>by rw[if_neg (by omega),if_neg (by omega)]at h;exact h⟩⟩
theorem Fg{x y:Int}{m:Mem}{Q:Value->Mem->Prop}(h:Q (.int .i64 (pl.c2 x y)) m):ah cx mJ [.int .i64 x,.int .i64 y] m Q:=by
 apply vF;unfold qB;refine As ⟨_,rfl,As ⟨_,rfl,?_⟩⟩;unfold pl.c2 at h;rw[gk,gk];simp only[fe,gH,dW];exact⟨fun e=>by rw[if_pos e]at h;exact h,fun e=>⟨fun e2=>by rw[if_neg (by omega),if_pos e2]at h;exact h,fun e2=>by rw[if_neg (by omega),if_neg (by omega)]at h;exact h⟩⟩
theorem P4{b:Nat}{x y:Int}{m:Mem}{Q:Value->Mem->Prop}(h0:rd m b 0=some (.int .i64 x))(h1:rd m b 1=some (.int .i64 y))(h:Q (.int .i64 (pl.or2 x y)) m):ah cx uc [.slice (some ⟨b,0,none⟩) 2 2] m Q:=by
 apply Cr;unfold zd;refine⟨fun i m1 w=>m1=m/\((i=0/\w=2)∨(i=1/\x=0/\w=1)∨(i=2/\x=0/\y=0/\w=0)),⟨2,rfl,.inl ⟨rfl,rfl⟩⟩,?_⟩;rintro i m1 w ⟨rfl,⟨rfl,rfl⟩|⟨rfl,hx,rfl⟩|⟨rfl,hx,hy,rfl⟩⟩
 .rw[fe];refine⟨fun _=>⟨by omega,?_⟩,fun e=>by simp[cR,aQ]at e⟩;rw[cW];refine⟨x,h0,?_⟩;rw[fe];refine⟨fun e=>?_,fun e=>⟨1,by omega,rfl,.inr (.inl ⟨rfl,by rw[fF]at e;exact e,rfl⟩)⟩⟩;rw[iw]at e;unfold pl.or2 at h;rw[if_neg e]at h;exact h
 .rw[fe];refine⟨fun _=>⟨by omega,?_⟩,fun e=>by simp[cR,aQ]at e⟩;rw[cW];refine⟨y,h1,?_⟩;rw[fe];refine⟨fun e=>?_,fun e=>⟨0,by omega,rfl,.inr (.inr ⟨rfl,hx,by rw[fF]at e;exact e,rfl⟩)⟩⟩;unfold pl.or2 at h;rw[if_pos hx]at h;exact h
 .rw[fe];refine⟨fun e=>by simp[cR,aQ]at e,fun _=>?_⟩;unfold pl.or2 at h;rw[if_pos hx,hy]at h;exact h
theorem Ju{x y:pl.E}{m:Mem}{Q:Value->Mem->Prop}(hw:Wf m)(h:∀m',Keep m m'->Q (.int .i64 (pl.cmp0 x y)) m'):ah cx oR [.agg #[.int .i64 x.1,.int .i64 x.2.1,.bool x.2.2],.agg #[.int .i64 y.1,.int .i64 y.2.1,.bool y.2.2]] m Q:=by
 apply A2;unfold xQ;refine Fg ⟨_,rfl,vD ⟨_,rfl,?_⟩⟩;have r3:∀M:Mem,Row (addO M ((bump m 2).nx+10) (row [.int .i64 (pl.c2 x.2.1 y.2.1),.int .i64 (pl.c2 x.1 y.1)] t_int false)) ((bump m 2).nx+10) [.int .i64 (pl.c2 x.2.1 y.2.1),.int .i64 (pl.c2 x.1 y.1)] t_int false:=fun M=>Row.of_row (by rw[gJ,if_pos rfl])
 refine P4 (by rw[(r3 _).rd];rfl) (by rw[(r3 _).rd];rfl) ⟨_,rfl,?_⟩;rw[cO];exact h _ ((Keep.refl hw).bump (n:=15) |>.addO (by simp;omega) (by simp))
theorem Ng{x y:pl.E}{m:Mem}{Q:Value->Mem->Prop}(hw:Wf m)(h:∀m',Keep m m'->Q (.int .i64 (pl.cmpE x y)) m'):ah cx fA [.agg #[.int .i64 x.1,.int .i64 x.2.1,.bool x.2.2],.agg #[.int .i64 y.1,.int .i64 y.2.1,.bool y.2.2]] m Q:=by
 obtain⟨x0,x1,xb⟩:=x;obtain⟨y0,y1,yb⟩:=y;apply A3;unfold xR dJ;have last:∀(hc:pl.cmpE (x0,x1,xb) (y0,y1,yb)=pl.cmp0 (x0,x1,xb) (y0,y1,yb)) (m1:Mem),Keep m m1->ah cx oR [.agg #[.int .i64 x0,.int .i64 x1,.bool xb],.agg #[.int .i64 y0,.int .i64 y1,.bool yb]] m1 fun r23 m2=>(∃(x23:Int),r23=(.int .i64 (x23))/\(Q (.int .i64 (x23)) m2)):=by
  intro hc m1 k1;exact Ju (x:=(x0,x1,xb)) (y:=(y0,y1,yb)) k1.wf fun m4 k4=>⟨_,rfl,by rw[<-hc];exact h _ (k1.trans k4)⟩
 have k2:Keep m (bump m 2):=(Keep.refl hw).bump;dsimp only;cases xb with
 | true=>
  rw[eG];cases yb with
  | true=>exact last rfl _ k2
  | false=>exact h _ k2
 | false=>
  rw[gk];cases yb with
  | true=>exact h _ k2
  | false=>exact last rfl _ k2
theorem HH{W w':World}(h1:w'.os=W.os)(h2:w'.tape=W.tape)(h3:w'.output=W.output)(h4:W.heap.size<=w'.heap.size)(h5:∀r,r<W.heap.size->w'.heap[r]? = W.heap[r]?)(h6:W.drawn<=w'.drawn) :
  ∃q os',w'=grow (W.drewN q) os':=by
 refine⟨w'.drawn-W.drawn,w'.heap.extract W.heap.size w'.heap.size,?_⟩;obtain⟨hp,tp,dn,os,ou⟩:=w';obtain⟨hp',tp',dn',os',ou'⟩:=W;simp only at h1 h2 h3 h4 h5 h6;subst h1 h2 h3;have e1:dn=dn'+(dn-dn'):=by omega
 have e2:hp=hp'++hp.extract hp'.size hp.size:=by
  apply Array.ext_getElem?;intro i;rw[Array.getElem?_append];split
  .rename_i hi;exact h5 i hi
  .rename_i hi;rw[Array.getElem?_extract];by_cases h:i<hp.size
   .rw[if_pos (by omega)];congr 1;omega
   .rw[if_neg (by omega)];exact Array.getElem?_eq_none (by omega)
 unfold grow World.drewN;simp only;rw[<-e1,<-e2]
theorem Qj:Wf (m0 Tryz.prog):=⟨Nat.zero_le _,fun b _=>nQ b⟩
def fp(x:pl.E):List Value:=[.int .i64 x.1,.int .i64 x.2.1,.bool x.2.2]
theorem Fh(x y:pl.E)(W:World):Calls Tryz.prog fA #[.agg (fp x).toArray,.agg (fp y).toArray] W fun e w'=>e = .returned (.int .i64 (pl.cmpE x y))/\∃q os',w'=grow (W.drewN q) os':=by
 have hC:=Ng (x:=x) (y:=y) (m:=m0 Tryz.prog) (Q:=fun r _=>r = .int .i64 (pl.cmpE x y)) Qj fun _ _=>rfl
 letI:Kap:=⟨True⟩
 have hv:∀z:pl.E,VR (φ0 Tryz.prog) (.agg (fp z).toArray) (.agg (fp z).toArray):=fun z=>VR.plain _ rfl
 have hl:LR (φ0 Tryz.prog) [.agg (fp x).toArray,.agg (fp y).toArray] (#[.agg (fp x).toArray,.agg (fp y).toArray]:Array Value).toList:=(LR.nil _).cons (hv y) |>.cons (hv x)
 rcases hC.called (P:=Tryz.prog) (w:=W) Jr Js jt (Qo _ W) hl with⟨_,h⟩|⟨v',w',h,_⟩
 .refine h.mono ?_;rintro e w' ⟨v,u,v',φ',rfl,hv',_,hs,rfl⟩;have hb:=hs.below;refine⟨by cases hv';rfl,HH hb.os hb.tape hb.output hb.size (fun r hr=>hb.block r hr) (hs.drawn trivial)⟩
 .rw[qd (fn:=Tryz.f165) Tryz.func165 rfl (by kernel_rfl)]at h;cases h
end Go.Proofs.YthpnifigjfplbaaGreat.vc0
