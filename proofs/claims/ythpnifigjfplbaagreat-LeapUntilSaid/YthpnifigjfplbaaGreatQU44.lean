import Derived.Test.YthpnifigjfplbaaGreatQU42
import Derived.Test.YthpnifigjfplbaaGreatQU43
import Derived.Test.YthpnifigjfplbaaGreatRows
import Derived.Test.YthpnifigjfplbaaGreatQU28
import Derived.Test.YthpnifigjfplbaaGreatQU30
set_option linter.unusedVariables false
namespace Go.Proofs.YthpnifigjfplbaaGreat.leapUntil
open Go Go.ChangeShapes Go.WideShapes Go.ChangeAt Go.RowKit Go.AX
set_option maxRecDepth 100000
theorem own:ownKnob Tryz.prog.godebug=none:=by kernel_rfl
theorem walk{H:Type}{enc:TypeId×Value->H}(W:World)(args:Array Value)(ds:List (DataW H))(p:List MemPlace)(hA:DataW.TrodAll enc Tryz.prog W 0 (fun _=>true) true [3,48,49,2] args.toList ds p)
  (hval:∀(j:Nat) t v,([3,48,49,2]:List TypeId)[j]? = some t->args.toList[j]? = some v->Value.okWide Tryz.prog W .any 0 t v) :
  Calls Tryz.prog 9 args W (fun e w'=>e = .returned (.bool true)/\Below W.heap.size W w')/\∃d1 d2 d3 d4,ds=[d1,d2,d3,d4]:=by
 obtain⟨l⟩:=args;simp only at hA hval;obtain⟨v1,vs1,d1,ds1,p1,q1,rfl,rfl,rfl,h1,hA⟩:=trodAll_cons hA;obtain⟨v2,vs2,d2,ds2,p2,q2,rfl,rfl,rfl,h2,hA⟩:=trodAll_cons hA;obtain⟨v3,vs3,d3,ds3,p3,q3,rfl,rfl,rfl,h3,hA⟩:=trodAll_cons hA;obtain⟨v4,vs4,d4,ds4,p4,q4,rfl,rfl,rfl,h4,hA⟩:=trodAll_cons hA;obtain⟨rfl,rfl,rfl⟩:=trodAll_nil hA;refine⟨?_,d1,d2,d3,d4,rfl⟩;obtain⟨x0,rfl,_⟩:=open_int Tryz.underlying3 (hval 0 _ _ rfl rfl) h1;obtain⟨a1,n1,c1,most,rfl,hn1,hg1,hm,_⟩:=LP Tryz.underlying48 Tryz.underlying2 (by kernel_rfl) (hval 1 _ _ rfl rfl) h2;obtain⟨a2,n2,c2,l,L,rfl,hn2,hg2,hl,hL⟩:=LU Tryz.underlying49 vc.Qz (hval 2 _ _ rfl rfl) h3;obtain⟨xa,rfl,_⟩:=open_int Tryz.underlying2 (hval 3 _ _ rfl rfl) h4;refine IT vc.Jr vc.Js vc.jt W _ (by kernel_rfl:vc.cx.ov.get 9=none) ?_ ?_
 .simp only[List.all_cons,List.all_nil,hg1,hg2];rfl
 .exact vc.LN (NQ _ _) hm.arr hl hL
set_option maxRecDepth 100000 in
theorem lifted(os:Os)(started:os.Started)(H:Type)(enc:TypeId×Value->H) :
  ReturnsInHanded {} Tryz.checked os 9 .any (Rows.leapUntilSpec.pre6 enc Tryz.prog Tryz.f9 Rows.leapUntilRow.domain false) (Rows.leapUntilSpec.post enc Tryz.prog Tryz.f9 false true false false):=by
 refine returnsInHanded_of_change (C:=Tryz.checked) own started (by kernel_rfl) Tryz.func9
  (ChangeSpec.witness6 (enc:=enc) (C:=Tryz.checked) false ⟨#[],#[.int .i64 0,.slice none 0 0,.slice none 0 0,.int .i64 0],[]⟩ 8 (by kernel_rfl) (by kernel_rfl) (by kernel_rfl) (by kernel_rfl)) ?_
 intro W base args ds gs before hval0 hW hcnd _;have hval:∀(j:Nat) t v,Tryz.f9.params[j]? = some t->args[j]? = some v->Value.okWide Tryz.prog W .any base t v:=hval0;have hW':=hW;obtain⟨p,q,hA0,hV,rfl,hfz,hnd⟩:=hW;have hA:DataW.TrodAll enc Tryz.prog W 0 (fun _=>true) true Tryz.f9.params.toList args.toList ds p:=hA0;rw[Tryz.params9]at hA hval;obtain⟨rfl,rfl⟩:=trodVars_none hV;clear hA0 hval0;simp only[List.append_nil]at hW';have hval':∀(j:Nat) t v,([3,48,49,2]:List TypeId)[j]? = some t->args.toList[j]? = some v->Value.okWide Tryz.prog W .any base t v:=fun j t v h1 h2=>hval j t v (by simpa using h1) (by simpa using h2)
 obtain⟨hc,d1,d2,d3,d4,rfl⟩:=walk (enc:=enc) W args ds p hA hval';refine hc.mono fun e W' ⟨he,hg⟩=>?_
 subst he;exact⟨_,rfl,Mg Tryz.underlying4 (by kernel_rfl) rfl rfl (by kernel_rfl) (by rw[Tryz.params9];exact hW') (by rw[Tryz.params9];exact hA) hg⟩
theorem over:Rows.leapUntilRow.holds Tryz.pinned (OpenSpec.ofChange Rows.leapUntilSpec):=
 OpenClaim.holds_of_wide 9 Tryz.f9 rfl rfl rfl rfl rfl rfl rfl ⟨rfl,rfl,rfl,rfl,rfl⟩ rfl rfl rfl rfl rfl (by kernel_rfl) Tryz.func9 (by kernel_rfl)
  (of_decide_eq_true (by kernel_rfl)) (by unfold Func.isWrapper;first|(rw[if_pos (by decide +kernel)];kernel_rfl)|(rw[if_neg (by decide +kernel)];exact⟨rfl,rfl⟩))
  (fun os started H enc _=>lifted os started H enc)
theorem proved:Rows.LeapUntilSaid:=
 over
#print axioms proved
end Go.Proofs.YthpnifigjfplbaaGreat.leapUntil
