import Derived.Test.YtiehbnmpaeedpaaGreatQA40
import Derived.Test.YtiehbnmpaeedpaaGreatQA21
import Derived.Test.YtiehbnmpaeedpaaGreatQA24
import Derived.Sort.Grow
import Derived.Deep.Draws
import Derived.Test.YtiehbnmpaeedpaaGreatQA22
import Derived.Test.YtiehbnmpaeedpaaGreatRows
namespace Go.Proofs.YtiehbnmpaeedpaaGreat.vc0
open Go Go.AX Go.Sort Go.Proofs.YtiehbnmpaeedpaaGreat.vc
set_option linter.unusedVariables false
set_option linter.unusedSimpArgs false
theorem isNaN_int {x:Int} {m:Mem} {Q:Value→Mem→Prop} (h:Q (.bool false) m):CallV cx n_cmp_isNaN_int [.int .i64 x] m Q:=by
 apply G_cmp_isNaN_int_ok; unfold G_cmp_isNaN_int; rw [neI_self]; exact h
theorem isNaN_int64 {x:Int} {m:Mem} {Q:Value→Mem→Prop} (h:Q (.bool false) m):CallV cx n_cmp_isNaN_int64 [.int .i64 x] m Q:=by
 apply G_cmp_isNaN_int64_ok; unfold G_cmp_isNaN_int64; rw [neI_self]; exact h
theorem compare_int {x y:Int} {m:Mem} {Q:Value→Mem→Prop} (h:Q (.int .i64 (pl.c2 x y)) m):CallV cx n_cmp_Compare_int [.int .i64 x,.int .i64 y] m Q:=by
 apply G_cmp_Compare_int_ok; unfold G_cmp_Compare_int
 refine isNaN_int ⟨_,rfl,isNaN_int ⟨_,rfl,?_⟩⟩
 unfold pl.c2 at h
 rw [splitB_false,splitB_false]
 simp only [splitB_iff,ltI_true,ltI_false]
 exact ⟨fun e=>by rw [if_pos e] at h; exact h,fun e=>⟨fun e2=>by rw [if_neg (by omega),if_pos e2] at h; exact h,fun e2=>by rw [if_neg (by omega),if_neg (by omega)] at h; exact h⟩⟩
theorem compare_int64 {x y:Int} {m:Mem} {Q:Value→Mem→Prop} (h:Q (.int .i64 (pl.c2 x y)) m):CallV cx n_cmp_Compare_int64 [.int .i64 x,.int .i64 y] m Q:=by
 apply G_cmp_Compare_int64_ok; unfold G_cmp_Compare_int64
 refine isNaN_int64 ⟨_,rfl,isNaN_int64 ⟨_,rfl,?_⟩⟩
 unfold pl.c2 at h
 rw [splitB_false,splitB_false]
 simp only [splitB_iff,ltI_true,ltI_false]
 exact ⟨fun e=>by rw [if_pos e] at h; exact h,fun e=>⟨fun e2=>by rw [if_neg (by omega),if_pos e2] at h; exact h,fun e2=>by rw [if_neg (by omega),if_neg (by omega)] at h; exact h⟩⟩
theorem or_int {b:Nat} {x y:Int} {m:Mem} {Q:Value→Mem→Prop} (h0:rd m b 0=some (.int .i64 x)) (h1:rd m b 1=some (.int .i64 y)) (h:Q (.int .i64 (pl.or2 x y)) m):CallV cx n_cmp_Or_int [.slice (some ⟨b,0,none⟩) 2 2] m Q:=by
 apply G_cmp_Or_int_ok; unfold G_cmp_Or_int
 refine ⟨fun i m1 w=>m1=m∧((i=0∧w=2)∨(i=1∧x=0∧w=1)∨(i=2∧x=0∧y=0∧w=0)),⟨2,rfl,.inl ⟨rfl,rfl⟩⟩,?_⟩
 rintro i m1 w ⟨rfl,⟨rfl,rfl⟩ | ⟨rfl,hx,rfl⟩ | ⟨rfl,hx,hy,rfl⟩⟩
 ·rw [splitB_iff]
  refine ⟨fun _=>⟨by omega,?_⟩,fun e=>by simp [ltI,lenI] at e⟩
  rw [vPtr_some]
  refine ⟨x,h0,?_⟩
  rw [splitB_iff]
  refine ⟨fun e=>?_,fun e=>⟨1,by omega,rfl,.inr (.inl ⟨rfl,by rw [neI_false] at e; exact e,rfl⟩)⟩⟩
  rw [neI_true] at e
  unfold pl.or2 at h; rw [if_neg e] at h; exact h
 ·rw [splitB_iff]
  refine ⟨fun _=>⟨by omega,?_⟩,fun e=>by simp [ltI,lenI] at e⟩
  rw [vPtr_some]
  refine ⟨y,h1,?_⟩
  rw [splitB_iff]
  refine ⟨fun e=>?_,fun e=>⟨0,by omega,rfl,.inr (.inr ⟨rfl,hx,by rw [neI_false] at e; exact e,rfl⟩)⟩⟩
  unfold pl.or2 at h; rw [if_pos hx] at h; exact h
 ·rw [splitB_iff]
  refine ⟨fun e=>by simp [ltI,lenI] at e,fun _=>?_⟩
  unfold pl.or2 at h; rw [if_pos hx,hy] at h; exact h
theorem compare_ok {x y:pl.E} {m:Mem} {Q:Value→Mem→Prop} (hw:Wf m) (h:∀ m',Keep m m'→Q (.int .i64 (pl.cmp0 x y)) m'):CallV cx n_edf_compare [.agg #[.int .i64 x.1,.int .i64 x.2.1,.bool x.2.2],.agg #[.int .i64 y.1,.int .i64 y.2.1,.bool y.2.2]] m Q:=by
 apply G_edf_compare_ok; unfold G_edf_compare
 refine compare_int64 ⟨_,rfl,compare_int ⟨_,rfl,?_⟩⟩
 have r3:∀ M:Mem,Row (addO M ((bump m 2).nx+10) (row [.int .i64 (pl.c2 x.2.1 y.2.1),.int .i64 (pl.c2 x.1 y.1)] t_int false)) ((bump m 2).nx+10) [.int .i64 (pl.c2 x.2.1 y.2.1),.int .i64 (pl.c2 x.1 y.1)] t_int false:=fun M=>Row.of_row (by rw [addO_get,if_pos rfl])
 refine or_int (by rw [(r3 _).rd]; rfl) (by rw [(r3 _).rd]; rfl) ⟨_,rfl,?_⟩
 rw [mBind_iff]
 exact h _ ((Keep.refl hw).bump (n:=15) |>.addO (by simp; omega) (by simp))
theorem order_ok {x y:pl.E} {m:Mem} {Q:Value→Mem→Prop} (hw:Wf m) (h:∀ m',Keep m m'→Q (.int .i64 (pl.cmpE x y)) m'):CallV cx n_edf_order_1 [.agg #[.int .i64 x.1,.int .i64 x.2.1,.bool x.2.2],.agg #[.int .i64 y.1,.int .i64 y.2.1,.bool y.2.2]] m Q:=by
 obtain ⟨x0,x1,xb⟩:=x
 obtain ⟨y0,y1,yb⟩:=y
 apply G_edf_order_1_ok; unfold G_edf_order_1 joinK
 have last:∀ (hc:pl.cmpE (x0,x1,xb) (y0,y1,yb)=pl.cmp0 (x0,x1,xb) (y0,y1,yb)) (m1:Mem),Keep m m1→CallV cx n_edf_compare [.agg #[.int .i64 x0,.int .i64 x1,.bool xb],.agg #[.int .i64 y0,.int .i64 y1,.bool yb]] m1 fun r23 m2=>(∃ (x23:Int),r23=(.int .i64 (x23))∧(Q (.int .i64 (x23)) m2)):=by
  intro hc m1 k1
  exact compare_ok (x:=(x0,x1,xb)) (y:=(y0,y1,yb)) k1.wf fun m4 k4=>⟨_,rfl,by rw [← hc]; exact h _ (k1.trans k4)⟩
 have k2:Keep m (bump m 2):=(Keep.refl hw).bump
 dsimp only
 cases xb with
 | true=>
  rw [splitB_true]
  cases yb with
  | true=>exact last rfl _ k2
  | false=>exact h _ k2
 | false=>
  rw [splitB_false]
  cases yb with
  | true=>exact h _ k2
  | false=>exact last rfl _ k2
theorem world_grown {W w':World} (h1:w'.os=W.os) (h2:w'.tape=W.tape) (h3:w'.output=W.output) (h4:W.heap.size≤w'.heap.size) (h5:∀ r,r < W.heap.size→w'.heap[r]? = W.heap[r]?) (h6:W.drawn≤w'.drawn) :
  ∃ q os',w'=grow (W.drewN q) os':=by
 refine ⟨w'.drawn - W.drawn,w'.heap.extract W.heap.size w'.heap.size,?_⟩
 obtain ⟨hp,tp,dn,os,ou⟩:=w'
 obtain ⟨hp',tp',dn',os',ou'⟩:=W
 simp only at h1 h2 h3 h4 h5 h6
 subst h1 h2 h3
 have e1:dn=dn'+(dn - dn'):=by omega
 have e2:hp=hp' ++ hp.extract hp'.size hp.size:=by
  apply Array.ext_getElem?
  intro i
  rw [Array.getElem?_append]
  split
  ·rename_i hi; exact h5 i hi
  ·rename_i hi
   rw [Array.getElem?_extract]
   by_cases h:i < hp.size
   ·rw [if_pos (by omega)]; congr 1; omega
   ·rw [if_neg (by omega)]; exact Array.getElem?_eq_none (by omega)
 unfold grow World.drewN
 simp only
 rw [← e1,← e2]
theorem m0_wf:Wf (m0 Tryz.prog):=⟨Nat.zero_le _,fun b _=>Tr_nil_get b⟩
def encE (x:pl.E):List Value:=[.int .i64 x.1,.int .i64 x.2.1,.bool x.2.2]
theorem closure_order (x y:pl.E) (W:World):Calls Tryz.prog n_edf_order_1 #[.agg (encE x).toArray,.agg (encE y).toArray] W fun e w'=>e = .returned (.int .i64 (pl.cmpE x y))∧∃ q os',w'=grow (W.drewN q) os':=by
 have hC:=order_ok (x:=x) (y:=y) (m:=m0 Tryz.prog) (Q:=fun r _=>r = .int .i64 (pl.cmpE x y)) m0_wf fun _ _=>rfl
 letI:Kap:=⟨True⟩
 have hv:∀ z:pl.E,VR (φ0 Tryz.prog) (.agg (encE z).toArray) (.agg (encE z).toArray):=fun z=>VR.plain _ rfl
 have hl:LR (φ0 Tryz.prog) [.agg (encE x).toArray,.agg (encE y).toArray] (#[.agg (encE x).toArray,.agg (encE y).toArray]:Array Value).toList:=(LR.nil _).cons (hv y) |>.cons (hv x)
 rcases hC.called (P:=Tryz.prog) (w:=W) cxOk ovOk hmix (rr0 _ W) hl with ⟨_,h⟩ | ⟨v',w',h,_⟩
 ·refine h.mono ?_
  rintro e w' ⟨v,u,v',φ',rfl,hv',_,hs,rfl⟩
  have hb:=hs.below
  refine ⟨by cases hv'; rfl,world_grown hb.os hb.tape hb.output hb.size (fun r hr=>hb.block r hr) (hs.drawn trivial)⟩
 ·rw [run_callFunc (fn:=Tryz.f148) Tryz.func148 rfl (by kernel_rfl)] at h
  cases h
end Go.Proofs.YtiehbnmpaeedpaaGreat.vc0
namespace Go.Proofs.YtiehbnmpaeedpaaGreat.vc
open Go Go.AX Go.Sort Go.RowKit
set_option linter.unusedVariables false
set_option maxRecDepth 100000
instance:Kap:=⟨False⟩
theorem cmpLays (blk off size:Nat) (w:World):CmpLays Tryz.prog n_edf_order_1 #[] encE 3 pl.cmpE blk off size w:=
 fun _ _ _ _ x y=>vc0.closure_order x y _
theorem lt_of:ltOf pl.cmpE=pl.lt:=rfl
theorem srt_sum:SumOk Tryz.prog n_slices_SortFunc_sl_edf_Ent srtA:=by
 refine sortK_sum (P:=Tryz.prog) (f:=n_slices_SortFunc_sl_edf_Ent) (fn:=Tryz.f147) Tryz.func147 (by kernel_rfl) (by kernel_rfl) (enc:=encE) (k:=3) (fun _=>rfl) (by omega) (fun _=>rfl) (fun l xs h=>decE_eq h) pl.srt_length (fv:=.func (.func n_edf_order_1) #[] #[]) ?_ ?_ ?_
 ·intro φ v h
  cases h with
  | func fn f f' c c' hf _ hc _=>
   obtain ⟨l⟩:=f'
   obtain ⟨l2⟩:=c'
   have e1:l=[]:=List.eq_nil_of_length_eq_zero (by simpa using hf.symm)
   have e2:l2=[]:=List.eq_nil_of_length_eq_zero (by simpa using hc.symm)
   subst e1; subst e2; rfl
 ·intro p cap w
  exact AnyF.slices_SortFunc_none Tryz.sortE p cap (.func (.func n_edf_order_1) #[] #[]) w
 ·intro blk off cap d w hH hb hs
  have eg:∀ args w,(callFunc n_edf_order_1 args).run Tryz.prog w = .ok (.enter n_edf_order_1 args) w:=enters_of Tryz.func148 (by kernel_rfl) rfl
  exact AnyQ.slices_SortFunc_total Tryz.sortE 3 Tryz.isAgg113 Tryz.sizeOf113 encE (fun _=>rfl) (fun x v hv=>by simp [encE] at hv; rcases hv with rfl | rfl | rfl <;> rfl) pl.cmpE (lt_of ▸ pl.swo) n_edf_order_1 #[] blk off cap d w eg (cmpLays blk off d.size w) hH hb hs (fun x y h1 h2=>pl.lt_total (lt_of ▸ h1) (lt_of ▸ h2))
theorem ints_sum:SumOk Tryz.prog n_slices_Sort_sl_int intsA:=
 sortInts_sum (P:=Tryz.prog) (k:=n_slices_Sort_sl_int) (fn:=Tryz.f97) Tryz.func97 (by kernel_rfl) (by kernel_rfl) Tryz.slices_Sort_int_none Tryz.slices_Sort_int
theorem hmix:Tryz.prog.follows .mixedOrders=true:=vc0.hmix
theorem serv_sum:SumOk Tryz.prog n_slices_Insert_sl_model_Serv servA:=
 insA_sum (P:=Tryz.prog) (cx:=vc0.cx) (kov:=n_slices_overlaps_model_Serv) (krot:=n_slices_rotateRight_model_Serv) (tint:=t_int) vc0.cxOk vc0.ovOk vc0.hmix vc0.ovNi vc0.ovK (by kernel_rfl)
  (fun a0 n0 c0 x1 a2 n2 c2 m Q h=>vc0.G_slices_Insert_sl_model_Serv_ok h)
theorem awake_ran:isTrue (callN (Cx.of Tryz.prog) 100000 n_law_awake [] (m0 Tryz.prog))=true:=by
 kernel_rfl
theorem awake_sum:SumOk Tryz.prog n_law_awake trueA:=
 true_sum (P:=Tryz.prog) (cx:=Cx.of Tryz.prog) (n:=100000) (k:=n_law_awake) (fn:=Tryz.f11) (CxOk.of _ _) (OvOk.nil _) hmix Tryz.func11 (by kernel_rfl) (by kernel_rfl) awake_ran
theorem ovOk:OvOk Tryz.prog cx:=ovOk_list ovE fun x hx=>by
 simp only [ovl,List.mem_cons,List.not_mem_nil,or_false] at hx
 rcases hx with h | h | h | h <;> rw [h]
 ·exact awake_sum
 ·exact ints_sum
 ·exact srt_sum
 ·exact serv_sum
end Go.Proofs.YtiehbnmpaeedpaaGreat.vc
namespace Go.AX
set_option linter.unusedVariables false
set_option linter.unusedSectionVars false
open Go Go.RowKit
variable [Kap]
theorem openV_true {P:Program} {cx:Cx} (hcx:CxOk P cx) (hov:OvOk P cx) (hmix:P.follows .mixedOrders=true) {k:Nat} (w:World) (args:Array Value)
  (hno:cx.ov.get k=none) (hg:args.toList.all (goodA (nOf P w))=true) (h:CallV cx k args.toList (mW P w) fun r _=>r = .bool true) :
  Calls P k args w fun e w'=>e = .returned (.bool true)∧Below w.heap.size w w':=by
 obtain ⟨n,r,m',h1,E,u',h2,h3,h4,h5⟩:=h (mW_wf P w)
 subst h5
 have hl:LR (φW P w) args.toList args.toList:=⟨rfl,fun i v v' a b=>by
  rw [a] at b; cases b
  exact vr_goodA (List.all_eq_true.1 hg v (List.mem_of_getElem? a))⟩
 unfold callOf at h1
 rw [hno] at h1
 refine (callN_ok hcx hov hmix (n:=n) h1 (φW P w) w args hl (rrW P w)).mono ?_
 rintro e w' ⟨v',φ',rfl,hv,_,hs⟩
 refine ⟨?_,hs.belowW⟩
 cases hv
 rfl
end Go.AX
namespace Go.Proofs.YtiehbnmpaeedpaaGreat.modelApart
open Go Go.ChangeShapes Go.WideShapes Go.ChangeAt Go.RowKit Go.AX
set_option linter.unusedVariables false
set_option maxRecDepth 100000
theorem own:ownKnob Tryz.prog.godebug=none:=by kernel_rfl
theorem walk {H:Type} {enc:TypeId×Value→H} (W:World) (args:Array Value) (ds:List (DataW H)) (p:List MemPlace) (hA:DataW.TrodAll enc Tryz.prog W 0 (fun _=>true) true [3,22,23,36] args.toList ds p)
  (hval:∀ (j:Nat) t v,([3,22,23,36]:List TypeId)[j]? = some t→args.toList[j]? = some v→Value.okWide Tryz.prog W .any 0 t v) :
  Calls Tryz.prog 9 args W (fun e w'=>e = .returned (.bool true)∧Below W.heap.size W w')∧∃ d1 d2 d3 d4,ds=[d1,d2,d3,d4]:=by
 obtain ⟨l⟩:=args
 simp only at hA hval
 obtain ⟨v1,vs1,d1,ds1,p1,q1,rfl,rfl,rfl,h1,hA⟩:=trodAll_cons hA
 obtain ⟨v2,vs2,d2,ds2,p2,q2,rfl,rfl,rfl,h2,hA⟩:=trodAll_cons hA
 obtain ⟨v3,vs3,d3,ds3,p3,q3,rfl,rfl,rfl,h3,hA⟩:=trodAll_cons hA
 obtain ⟨v4,vs4,d4,ds4,p4,q4,rfl,rfl,rfl,h4,hA⟩:=trodAll_cons hA
 obtain ⟨rfl,rfl,rfl⟩:=trodAll_nil hA
 refine ⟨?_,d1,d2,d3,d4,rfl⟩
 obtain ⟨x0,rfl,_⟩:=open_int Tryz.underlying3 (hval 0 _ _ rfl rfl) h1
 obtain ⟨a1,n1,c1,most,rfl,hn1,hg1,hm,_⟩:=ints_arg Tryz.underlying22 Tryz.underlying2 (by kernel_rfl) (hval 1 _ _ rfl rfl) h2
 obtain ⟨a2,n2,c2,l,L,rfl,hn2,hg2,hl,hL⟩:=acts_arg Tryz.underlying23 vc.actT (hval 2 _ _ rfl rfl) h3
 obtain ⟨⟨y0,y1,y2,y3,y4,a3,n3,c3⟩,X,rfl,hg3,hX⟩:=act_val vc.actT (hval 3 _ _ rfl rfl) h4
 refine openV_true vc.cxOk vc.ovOk vc.hmix W _ (by kernel_rfl:vc.cx.ov.get 9=none) ?_ ?_
 ·simp only [List.all_cons,List.all_nil,hg1,hg2,hg3]; rfl
 ·exact vc.apart_law (mW_wf _ _) hm.arr hl hL hX
set_option maxRecDepth 100000 in
theorem lifted (os:Os) (started:os.Started) (H:Type) (enc:TypeId×Value→H) :
  ReturnsInHanded {} Tryz.checked os 9 .any (Rows.modelApartSpec.pre6 enc Tryz.prog Tryz.f9 Rows.modelApartRow.domain false) (Rows.modelApartSpec.post enc Tryz.prog Tryz.f9 false true false false):=by
 refine returnsInHanded_of_change (C:=Tryz.checked) own started (by kernel_rfl) Tryz.func9
  (ChangeSpec.witness6 (enc:=enc) (C:=Tryz.checked) false ⟨#[],#[.int .i64 0,.slice none 0 0,.slice none 0 0,.agg #[.int .i64 0,.int .i64 0,.int .i64 0,.int .i64 0,.int .i64 0,.slice none 0 0]],[]⟩ 8 (by kernel_rfl) (by kernel_rfl) (by kernel_rfl) (by kernel_rfl)) ?_
 intro W base args ds gs before hval0 hW hcnd _
 have hval:∀ (j:Nat) t v,Tryz.f9.params[j]? = some t→args[j]? = some v→Value.okWide Tryz.prog W .any base t v:=hval0
 have hW':=hW
 obtain ⟨p,q,hA0,hV,rfl,hfz,hnd⟩:=hW
 have hA:DataW.TrodAll enc Tryz.prog W 0 (fun _=>true) true Tryz.f9.params.toList args.toList ds p:=hA0
 rw [Tryz.params9] at hA hval
 obtain ⟨rfl,rfl⟩:=trodVars_none hV
 clear hA0 hval0
 simp only [List.append_nil] at hW'
 have hval':∀ (j:Nat) t v,([3,22,23,36]:List TypeId)[j]? = some t→args.toList[j]? = some v→Value.okWide Tryz.prog W .any base t v:=fun j t v h1 h2=>hval j t v (by simpa using h1) (by simpa using h2)
 obtain ⟨hc,d1,d2,d3,d4,rfl⟩:=walk (enc:=enc) W args ds p hA hval'
 refine hc.mono fun e W' ⟨he,hg⟩=>?_
 subst he
 exact ⟨_,rfl,post_law Tryz.underlying4 (by kernel_rfl) rfl rfl (by kernel_rfl) (by rw [Tryz.params9]; exact hW') (by rw [Tryz.params9]; exact hA) hg⟩
theorem over:Rows.modelApartRow.holds Tryz.pinned (OpenSpec.ofChange Rows.modelApartSpec):=
 OpenClaim.holds_of_wide 9 Tryz.f9 rfl rfl rfl rfl rfl rfl rfl ⟨rfl,rfl,rfl,rfl,rfl⟩ rfl rfl rfl rfl rfl (by kernel_rfl) Tryz.func9 (by kernel_rfl)
  (of_decide_eq_true (by kernel_rfl)) (by unfold Func.isWrapper; first | (rw [if_pos (by decide +kernel)]; kernel_rfl) | (rw [if_neg (by decide +kernel)]; exact ⟨rfl,rfl⟩))
  (fun os started H enc _=>lifted os started H enc)
theorem proved:Rows.ModelApartSaid:=
 over
#print axioms proved
end Go.Proofs.YtiehbnmpaeedpaaGreat.modelApart
