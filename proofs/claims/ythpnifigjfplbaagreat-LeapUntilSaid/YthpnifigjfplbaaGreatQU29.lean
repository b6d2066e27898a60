import Derived.Test.YthpnifigjfplbaaGreatQU23
import Derived.Test.YthpnifigjfplbaaGreatQU19
set_option linter.unusedVariables false
set_option linter.unusedSectionVars false
set_option linter.unusedSimpArgs false
namespace Go.AX
open Go
abbrev Gc:=List Value->Mem->Option (Value×Mem)
def Gd(f:Gc):Prop:=∀a u r u',f a u=some (r,u')->∀E m,Bes E u m->∃m',f a m=some (r,m')/\Bes E u' m'
def Ge(f:Gc):Prop:=∀a u r u',f a u=some (r,u')->Wf u->Nice u u'
theorem Bz:∀{l:List (Nat×Gc)} {k:Nat} {f:Gc},(l.foldr (fun x t=>Tr.put t x.1 x.2) .nil).get k=some f->∃x∈l,x.1=k/\x.2=f
 | [],k,f,h=>by rw[List.foldr_nil,Tr.get_nil]at h;cases h
 | x::r,k,f,h=>by
  rw[List.foldr_cons,Tr.get_put]at h;by_cases e:k=x.1
  .rw[if_pos e]at h;cases h;exact⟨x,gQ9 ..,e.symm,rfl⟩
  .rw[if_neg e]at h;obtain⟨y,h1,h2⟩:=Bz h;exact⟨y,gQ5 _ h1,h2⟩
theorem Ko{cx:Cx}{l:List (Nat×Gc)}(h:cx.ov=l.foldr (fun x t=>Tr.put t x.1 x.2) .nil)(hl:∀x∈l,Gd x.2):oo cx:=fun k f hf=>by
 rw[h]at hf;obtain⟨x,h1,_,rfl⟩:=Bz hf;exact hl x h1
theorem Kp{cx:Cx}{l:List (Nat×Gc)}(h:cx.ov=l.foldr (fun x t=>Tr.put t x.1 x.2) .nil)(hl:∀x∈l,Ge x.2):mG cx:=fun k f hf=>by
 rw[h]at hf;obtain⟨x,h1,_,rfl⟩:=Bz hf;exact hl x h1
theorem Kq[Kap]{P:Program}{cx:Cx}{l:List (Nat×Gc)}(h:cx.ov=l.foldr (fun x t=>Tr.put t x.1 x.2) .nil)(hl:∀x∈l,jZ P x.1 x.2):oX P cx:=fun k f hf=>by
 rw[h]at hf;obtain⟨x,h1,rfl,rfl⟩:=Bz hf;exact hl x h1
theorem Mq:Gd sF:=fun a u r u' e E m hb=>by
 unfold sF at e ⊢;split at e
 .cases e;exact⟨m,rfl,hb⟩
 .cases e
theorem Mr:Ge sF:=fun a u r u' e hw=>by
 unfold sF at e;split at e
 .cases e;exact Nice.refl hw
 .cases e
theorem HZ{sz:Nat}{anew:Nat->List Value->Option (List Value)}{ex:List Value}:Gd (qe sz anew ex):=fun a u r u' e E m hb=>by
 unfold qe at e ⊢;split at e
 .rename_i ad n c rr;split at e
  .rename_i hr;rw[if_pos hr];split at e
   .cases e;exact⟨m,rfl,hb⟩
   .rename_i n ad;split at e
    .rename_i c k et x hs hg;split at e
     .rename_i l hl;split at e
      .rename_i ls hls;split at e
       .rename_i hc;cases e;refine⟨_,?_,hb.put (hb.noE hg) _⟩;simp only[hs,hb.got hg,hl,hls];rw[if_pos (by rw[hb.fl];exact hc)]
       .cases e
      .cases e
     .cases e
    .cases e
   .cases e
  .cases e
 .cases e
theorem H0{sz:Nat}{anew:Nat->List Value->Option (List Value)}{ex:List Value}:Ge (qe sz anew ex):=fun a u r u' e hw=>by
 unfold qe at e;split at e
 .split at e
  .split at e
   .cases e;exact Nice.refl hw
   .split at e
    .rename_i hg;split at e
     .split at e
      .split at e
       .cases e;refine⟨⟨hw.1,fun b hb=>?_⟩,rfl,gQ4 _⟩;show (u.hp.put _ _).get b=none;have:=hw.lt hg;rw[Tr.get_put,if_neg (by intro h;subst h;exact absurd hb (by simpa using this))];exact hw.2 b hb
       .cases e
      .cases e
     .cases e
    .cases e
   .cases e
  .cases e
 .cases e
theorem Oj{cxb:Cx}{t e sz by_:Nat}:Gd (pX cxb t e sz by_):=fun _ _ _ _ e E m hb=>Mc e E m hb
theorem Ol{cxb:Cx}{t e sz by_:Nat}:Ge (pX cxb t e sz by_):=fun _ _ _ _ e hw=>J7 e hw
end Go.AX
