import Derived.Test.YthpnifigjfplbaaGreatQP23
import Derived.Test.YthpnifigjfplbaaGreatQP19
set_option linter.unusedVariables false
set_option linter.unusedSectionVars false
set_option linter.unusedSimpArgs false
namespace Go.AX
open Go
abbrev FE:=List Value->Mem->Option (Value×Mem)
def FG(f:FE):Prop:=∀a u r u',f a u=some (r,u')->∀E m,Bes E u m->∃m',f a m=some (r,m')/\Bes E u' m'
def FH(f:FE):Prop:=∀a u r u',f a u=some (r,u')->Wf u->Nice u u'
theorem Bd:∀{l:List (Nat×FE)} {k:Nat} {f:FE},(l.foldr (fun x t=>Tr.put t x.1 x.2) .nil).get k=some f->∃x∈l,x.1=k/\x.2=f
 | [],k,f,h=>by rw[List.foldr_nil,Tr.get_nil]at h;cases h
 | x::r,k,f,h=>by
  rw[List.foldr_cons,Tr.get_put]at h;by_cases e:k=x.1
  .rw[if_pos e]at h;cases h;exact⟨x,List.mem_cons_self ..,e.symm,rfl⟩
  .rw[if_neg e]at h;obtain⟨y,h1,h2⟩:=Bd h;exact⟨y,List.mem_cons_of_mem _ h1,h2⟩
theorem JY{cx:Cx}{l:List (Nat×FE)}(h:cx.ov=l.foldr (fun x t=>Tr.put t x.1 x.2) .nil)(hl:∀x∈l,FG x.2):nO cx:=fun k f hf=>by
 rw[h]at hf;obtain⟨x,h1,_,rfl⟩:=Bd hf;exact hl x h1
theorem JZ{cx:Cx}{l:List (Nat×FE)}(h:cx.ov=l.foldr (fun x t=>Tr.put t x.1 x.2) .nil)(hl:∀x∈l,FH x.2):mr cx:=fun k f hf=>by
 rw[h]at hf;obtain⟨x,h1,_,rfl⟩:=Bd hf;exact hl x h1
theorem J0[Kap]{P:Program}{cx:Cx}{l:List (Nat×FE)}(h:cx.ov=l.foldr (fun x t=>Tr.put t x.1 x.2) .nil)(hl:∀x∈l,jN P x.1 x.2):oI P cx:=fun k f hf=>by
 rw[h]at hf;obtain⟨x,h1,rfl,rfl⟩:=Bd hf;exact hl x h1
theorem LZ:FG se:=fun a u r u' e E m hb=>by
 unfold se at e ⊢;split at e
 .cases e;exact⟨m,rfl,hb⟩
 .cases e
theorem L0:FH se:=fun a u r u' e hw=>by
 unfold se at e;split at e
 .cases e;exact Nice.refl hw
 .cases e
theorem Hy{sz:Nat}{anew:Nat->List Value->Option (List Value)}{ex:List Value}:FG (pQ sz anew ex):=fun a u r u' e E m hb=>by
 unfold pQ at e ⊢;split at e
 .rename_i ad n c rr;split at e
  .rename_i hr;rw[if_pos hr];split at e
   .cases e;exact⟨m,rfl,hb⟩
   .rename_i n ad;split at e
    .rename_i c k et x hs hg;split at e
     .rename_i l hl;split at e
      .rename_i ls hls;split at e
       .rename_i hc;cases e;refine⟨_,?_,hb.put (hb.noE hg) _⟩;simp only[hs,hb.got hg,hl,hls];rw[if_pos (by rw[hb.fl];exact hc)]
       .cases e
      .cases e
     .cases e
    .cases e
   .cases e
  .cases e
 .cases e
theorem Hz{sz:Nat}{anew:Nat->List Value->Option (List Value)}{ex:List Value}:FH (pQ sz anew ex):=fun a u r u' e hw=>by
 unfold pQ at e;split at e
 .split at e
  .split at e
   .cases e;exact Nice.refl hw
   .split at e
    .rename_i hg;split at e
     .split at e
      .split at e
       .cases e;refine⟨⟨hw.1,fun b hb=>?_⟩,rfl,Nat.le_refl _⟩;show (u.hp.put _ _).get b=none;have:=hw.lt hg;rw[Tr.get_put,if_neg (by intro h;subst h;exact absurd hb (by simpa using this))];exact hw.2 b hb
       .cases e
      .cases e
     .cases e
    .cases e
   .cases e
  .cases e
 .cases e
theorem NT{cxb:Cx}{t e sz by_:Nat}:FG (pL cxb t e sz by_):=fun _ _ _ _ e E m hb=>LH e E m hb
theorem NU{cxb:Cx}{t e sz by_:Nat}:FH (pL cxb t e sz by_):=fun _ _ _ _ e hw=>JG e hw
end Go.AX
