import Derived.Test.YthpnifigjfplbaaGreatQP42
import Derived.Test.YthpnifigjfplbaaGreatQP43
import Derived.Test.YthpnifigjfplbaaGreatRows
import Derived.Test.YthpnifigjfplbaaGreatQP28
import Derived.Test.YthpnifigjfplbaaGreatQP30
set_option linter.unusedVariables false
namespace Go.Proofs.YthpnifigjfplbaaGreat.leapParts
open Go Go.ChangeShapes Go.WideShapes Go.ChangeAt Go.RowKit Go.AX
set_option maxRecDepth 100000
theorem own:ownKnob Tryz.prog.godebug=none:=by kernel_rfl
theorem walk{H:Type}{enc:TypeId×Value->H}(W:World)(args:Array Value)(ds:List (DataW H))(p:List MemPlace)(hA:DataW.TrodAll enc Tryz.prog W 0 (fun _=>true) true [3,48,49,2,2] args.toList ds p)
  (hval:∀(j:Nat) t v,([3,48,49,2,2]:List TypeId)[j]? = some t->args.toList[j]? = some v->Value.okWide Tryz.prog W .any 0 t v) :
  Calls Tryz.prog 7 args W (fun e w'=>e = .returned (.bool true)/\Below W.heap.size W w')/\∃d1 d2 d3 d4 d5,ds=[d1,d2,d3,d4,d5]:=by
 obtain⟨l⟩:=args;simp only at hA hval;obtain⟨v1,vs1,d1,ds1,p1,q1,rfl,rfl,rfl,h1,hA⟩:=trodAll_cons hA;obtain⟨v2,vs2,d2,ds2,p2,q2,rfl,rfl,rfl,h2,hA⟩:=trodAll_cons hA;obtain⟨v3,vs3,d3,ds3,p3,q3,rfl,rfl,rfl,h3,hA⟩:=trodAll_cons hA;obtain⟨v4,vs4,d4,ds4,p4,q4,rfl,rfl,rfl,h4,hA⟩:=trodAll_cons hA;obtain⟨v5,vs5,d5,ds5,p5,q5,rfl,rfl,rfl,h5,hA⟩:=trodAll_cons hA;obtain⟨rfl,rfl,rfl⟩:=trodAll_nil hA;refine⟨?_,d1,d2,d3,d4,d5,rfl⟩;obtain⟨x0,rfl,_⟩:=open_int Tryz.underlying3 (hval 0 _ _ rfl rfl) h1;obtain⟨a1,n1,c1,most,rfl,hn1,hg1,hm,_⟩:=Lp Tryz.underlying48 Tryz.underlying2 (by kernel_rfl) (hval 1 _ _ rfl rfl) h2;obtain⟨a2,n2,c2,l,L,rfl,hn2,hg2,hl,hL⟩:=Lr Tryz.underlying49 vc.Qc (hval 2 _ _ rfl rfl) h3;obtain⟨xa,rfl,_⟩:=open_int Tryz.underlying2 (hval 3 _ _ rfl rfl) h4;obtain⟨xb,rfl,_⟩:=open_int Tryz.underlying2 (hval 4 _ _ rfl rfl) h5;refine Is vc.I1 vc.I2 vc.iZ W _ (by kernel_rfl:vc.cx.ov.get 7=none) ?_ ?_
 .simp only[List.all_cons,List.all_nil,hg1,hg2];rfl
 .exact vc.K3 (Nr _ _) hm.arr hl hL
set_option maxRecDepth 100000 in
theorem lifted(os:Os)(started:os.Started)(H:Type)(enc:TypeId×Value->H) :
  ReturnsInHanded {} Tryz.checked os 7 .any (Rows.leapPartsSpec.pre6 enc Tryz.prog Tryz.f7 Rows.leapPartsRow.domain false) (Rows.leapPartsSpec.post enc Tryz.prog Tryz.f7 false true false false):=by
 refine returnsInHanded_of_change (C:=Tryz.checked) own started (by kernel_rfl) Tryz.func7
  (ChangeSpec.witness6 (enc:=enc) (C:=Tryz.checked) false ⟨#[],#[.int .i64 0,.slice none 0 0,.slice none 0 0,.int .i64 0,.int .i64 0],[]⟩ 8 (by kernel_rfl) (by kernel_rfl) (by kernel_rfl) (by kernel_rfl)) ?_
 intro W base args ds gs before hval0 hW hcnd _;have hval:∀(j:Nat) t v,Tryz.f7.params[j]? = some t->args[j]? = some v->Value.okWide Tryz.prog W .any base t v:=hval0;have hW':=hW;obtain⟨p,q,hA0,hV,rfl,hfz,hnd⟩:=hW;have hA:DataW.TrodAll enc Tryz.prog W 0 (fun _=>true) true Tryz.f7.params.toList args.toList ds p:=hA0;rw[Tryz.params7]at hA hval;obtain⟨rfl,rfl⟩:=trodVars_none hV;clear hA0 hval0;simp only[List.append_nil]at hW';have hval':∀(j:Nat) t v,([3,48,49,2,2]:List TypeId)[j]? = some t->args.toList[j]? = some v->Value.okWide Tryz.prog W .any base t v:=fun j t v h1 h2=>hval j t v (by simpa using h1) (by simpa using h2)
 obtain⟨hc,d1,d2,d3,d4,d5,rfl⟩:=walk (enc:=enc) W args ds p hA hval';refine hc.mono fun e W' ⟨he,hg⟩=>?_
 subst he;exact⟨_,rfl,LL Tryz.underlying4 (by kernel_rfl) rfl rfl (by kernel_rfl) (by rw[Tryz.params7];exact hW') (by rw[Tryz.params7];exact hA) hg⟩
theorem over:Rows.leapPartsRow.holds Tryz.pinned (OpenSpec.ofChange Rows.leapPartsSpec):=
 OpenClaim.holds_of_wide 7 Tryz.f7 rfl rfl rfl rfl rfl rfl rfl ⟨rfl,rfl,rfl,rfl,rfl⟩ rfl rfl rfl rfl rfl (by kernel_rfl) Tryz.func7 (by kernel_rfl)
  (of_decide_eq_true (by kernel_rfl)) (by unfold Func.isWrapper;first|(rw[if_pos (by decide +kernel)];kernel_rfl)|(rw[if_neg (by decide +kernel)];exact⟨rfl,rfl⟩))
  (fun os started H enc _=>lifted os started H enc)
theorem proved:Rows.LeapPartsSaid:=
 over
#print axioms proved
end Go.Proofs.YthpnifigjfplbaaGreat.leapParts
