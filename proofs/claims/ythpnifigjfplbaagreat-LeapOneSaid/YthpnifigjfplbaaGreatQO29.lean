import Derived.Test.YthpnifigjfplbaaGreatQO23
import Derived.Test.YthpnifigjfplbaaGreatQO19
set_option linter.unusedVariables false
set_option linter.unusedSectionVars false
set_option linter.unusedSimpArgs false
namespace Go.AX
open Go
abbrev FC:=List Value->Mem->Option (Value×Mem)
def FD(f:FC):Prop:=∀a u r u',f a u=some (r,u')->∀E m,Bes E u m->∃m',f a m=some (r,m')/\Bes E u' m'
def FE(f:FC):Prop:=∀a u r u',f a u=some (r,u')->Wf u->Nice u u'
theorem Ba:∀{l:List (Nat×FC)}{k:Nat}{f:FC},(l.foldr (fun x t=>Tr.put t x.1 x.2) .nil).get k=some f->∃x∈l,x.1=k/\x.2=f
 | [],k,f,h=>by rw[List.foldr_nil,Tr.get_nil]at h;cases h
 | x::r,k,f,h=>by
  rw[List.foldr_cons,Tr.get_put]at h;by_cases e:k=x.1
  .rw[if_pos e]at h;cases h;exact⟨x,List.mem_cons_self ..,e.symm,rfl⟩
  .rw[if_neg e]at h;obtain⟨y,h1,h2⟩:=Ba h;exact⟨y,List.mem_cons_of_mem _ h1,h2⟩
theorem JW{cx:Cx}{l:List (Nat×FC)}(h:cx.ov=l.foldr (fun x t=>Tr.put t x.1 x.2) .nil)(hl:∀x∈l,FD x.2):nP cx:=fun k f hf=>by
 rw[h]at hf;obtain⟨x,h1,_,rfl⟩:=Ba hf;exact hl x h1
theorem JX{cx:Cx}{l:List (Nat×FC)}(h:cx.ov=l.foldr (fun x t=>Tr.put t x.1 x.2) .nil)(hl:∀x∈l,FE x.2):mr cx:=fun k f hf=>by
 rw[h]at hf;obtain⟨x,h1,_,rfl⟩:=Ba hf;exact hl x h1
theorem JY[Kap]{P:Program}{cx:Cx}{l:List (Nat×FC)}(h:cx.ov=l.foldr (fun x t=>Tr.put t x.1 x.2) .nil)(hl:∀x∈l,jN P x.1 x.2):oJ P cx:=fun k f hf=>by
 rw[h]at hf;obtain⟨x,h1,rfl,rfl⟩:=Ba hf;exact hl x h1
theorem LW:FD sd:=fun a u r u' e E m hb=>by
 unfold sd at e ⊢;split at e
 .cases e;exact⟨m,rfl,hb⟩
 .cases e
theorem LX:FE sd:=fun a u r u' e hw=>by
 unfold sd at e;split at e
 .cases e;exact Nice.refl hw
 .cases e
theorem Hv{sz:Nat}{anew:Nat->List Value->Option (List Value)}{ex:List Value}:FD (pQ sz anew ex):=fun a u r u' e E m hb=>by
 unfold pQ at e ⊢;split at e
 .rename_i ad n c rr;split at e
  .rename_i hr;rw[if_pos hr];split at e
   .cases e;exact⟨m,rfl,hb⟩
   .rename_i n ad;split at e
    .rename_i c k et x hs hg;split at e
     .rename_i l hl;split at e
      .rename_i ls hls;split at e
       .rename_i hc;cases e;refine⟨_,?_,hb.put (hb.noE hg) _⟩;simp only[hs,hb.got hg,hl,hls];rw[if_pos (by rw[hb.fl];exact hc)]
       .cases e
      .cases e
     .cases e
    .cases e
   .cases e
  .cases e
 .cases e
theorem Hw{sz:Nat}{anew:Nat->List Value->Option (List Value)}{ex:List Value}:FE (pQ sz anew ex):=fun a u r u' e hw=>by
 unfold pQ at e;split at e
 .split at e
  .split at e
   .cases e;exact Nice.refl hw
   .split at e
    .rename_i hg;split at e
     .split at e
      .split at e
       .cases e;refine⟨⟨hw.1,fun b hb=>?_⟩,rfl,Nat.le_refl _⟩;show (u.hp.put _ _).get b=none;have:=hw.lt hg;rw[Tr.get_put,if_neg (by intro h;subst h;exact absurd hb (by simpa using this))];exact hw.2 b hb
       .cases e
      .cases e
     .cases e
    .cases e
   .cases e
  .cases e
 .cases e
theorem NN{cxb:Cx}{t e sz by_:Nat}:FD (pL cxb t e sz by_):=fun _ _ _ _ e E m hb=>LE e E m hb
theorem NO{cxb:Cx}{t e sz by_:Nat}:FE (pL cxb t e sz by_):=fun _ _ _ _ e hw=>JD e hw
end Go.AX
