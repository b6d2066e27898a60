import Derived.Test.YtiehbnmpaeedpaaGreatQJ39
import Derived.Test.YtiehbnmpaeedpaaGreatQJ25
import Derived.Test.YtiehbnmpaeedpaaGreatQJ29
import Derived.Test.YtiehbnmpaeedpaaGreatQJ35
import Derived.KernelRfl
set_option linter.unusedVariables false
set_option linter.unusedSimpArgs false
set_option linter.unusedSectionVars false
namespace Go.Proofs.YtiehbnmpaeedpaaGreat.vc
open Go Go.AX
section
variable {m:Mem} {Q:Value→Mem→Prop}
theorem growB_ok {n:Nat} (hw:Wf m) (hn:n≤1000000) (h0:n=0→Q (.slice none 0 0) m) (h1:0 < n→∀ Z m',Z.length=n*2→m'=newO m (row Z t_model_Back true)→Q (.slice (some ⟨m.nx,0,none⟩) 0 n) m') :
  CallV cx n_slices_Grow_sl_model_Back [.slice none 0 0,.int .i64 (n:Int)] m Q:=by
 apply G_slices_Grow_sl_model_Back_ok; unfold G_slices_Grow_sl_model_Back
 have hc:capA cx m [t_sl_model_Back] [.slice none 0 0]=some (.int .i64 0):=by
  unfold capA; simp only [tSlB]; rfl
 refine joinK_of' (fun f:Mem→Prop=>f m) ?_ ?_
 ·refine ⟨0,hc,?_⟩
  have e:subI .i64 (n:Int) (subI .i64 0 (lenI 0))=(n:Int):=by
   rw [show subI .i64 0 (lenI 0)=0 from subI_64 (by simp [lenI]) (by simp [lenI]),subI_64 (by omega) (by omega)]; omega
  rw [e]
  refine split_ltI (fun hp=>?_) (fun hp=>?_)
  ·refine ⟨0,hc,none,0,0,?_,?_⟩
   ·unfold sliceOp
    have b1:boundA 0 (some (.int .i64 0)) 0=some 0:=boundA_some (i:=0) (Nat.le_refl _)
    simp only [tSlB,sBack,b1]; rfl
   ·obtain ⟨Z,hZ,hap⟩:=zero_ap (cx:=cx) (m:=m) (t:=t_sl_model_Back) (e:=t_model_Back) (tx:=t_int) (s:=2) (n:=n) (by kernel_rfl) (by kernel_rfl) (by kernel_rfl) (by omega) hn
    refine ⟨_,_,_,_,hap,_,_,_,sliceOp_at tSlB sBack (boundA_some (i:=0) (Nat.zero_le _)) rfl ((Row.newO (m:=m) (l:=Z) (e:=t_model_Back) (x:=true)).sameSize sBack) (Nat.zero_le _),?_⟩
    exact h1 (by omega) Z _ hZ rfl
  ·exact h0 (by omega)
 ·intro J hJ
  refine split_ltI (fun hp=>by omega) (fun hp=>hJ)
theorem concatB_ok {b0:Nat} {t0:TypeId} {a a':Option Addr} {n c n' c':Nat} {l l':List pm.Back} (hw:Wf m) (hR:Row m b0 [.slice a n c,.slice a' n' c'] t0 false) (hA:Arr encB 2 m a n l) (hA':Arr encB 2 m a' n' l') (hn:n+n'≤100000)
  (h:∀ m2 a2 c2,Keep m m2→OwnSl m m2 t_model_Back a2 (n+n') c2 ((l ++ l').flatMap encB)→Q (.slice a2 (n+n') c2) m2) :
  CallV cx n_slices_Concat_sl_model_Back [.slice (some ⟨b0,0,none⟩) 2 2] m Q:=by
 apply G_slices_Concat_sl_model_Back_ok; unfold G_slices_Concat_sl_model_Back
 have rd0:∀ m1,m1.hp.get b0=m.hp.get b0→∀ k:Nat,k < 2→∃ (a1:Option Addr) (n1 c1:Nat),rd m1 b0 (0+Int.toNat (k:Int)*1)=some (.slice a1 n1 c1)∧((k=0∧a1=a∧n1=n∧c1=c)∨(k=1∧a1=a'∧n1=n'∧c1=c')):=by
  intro m1 hg k hk
  have hR1:=hR.congr hg
  rcases Nat.lt_or_ge k 1 with h | h
  ·obtain rfl:k=0:=by omega
   exact ⟨a,n,c,by rw [hR1.rd]; rfl,.inl ⟨rfl,rfl,rfl,rfl⟩⟩
  ·obtain rfl:k=1:=by omega
   exact ⟨a',n',c',by rw [hR1.rd]; rfl,.inr ⟨rfl,rfl,rfl,rfl⟩⟩
 have hln:l.length=n:=hA.1
 have hln':l'.length=n':=hA'.1
 refine forN1 (show 2≤4611686018427387904 by omega) (fun k (x:Int) mm=>mm=m∧x=((if k=0 then 0 else if k=1 then n else n+n':Nat):Int)) ⟨rfl,rfl⟩ ?_
 rintro k x m1 hk ⟨rfl,hx⟩ I w hI
 refine split_lt (fun hlt=>?_) (fun hge=>?_)
 ·refine ⟨⟨by omega,by omega⟩,?_⟩
  rw [vPtr_some]
  obtain ⟨a1,n1,c1,r1,r2⟩:=rd0 m1 rfl k hlt
  refine ⟨a1,n1,c1,r1,?_⟩
  have hx2:addI .i64 x (lenI n1)=((if k+1=0 then 0 else if k+1=1 then n else n+n':Nat):Int):=by
   rcases r2 with ⟨rfl,_,rfl,_⟩ | ⟨rfl,_,rfl,_⟩
   ·rw [hx]; simp only [if_true,Nat.zero_add,if_neg (show ¬ (1:Nat)=0 by omega)]
    rw [addI_64 (by simp only [pm.len_eq]; omega) (by simp only [pm.len_eq]; omega)]; simp only [pm.len_eq]; omega
   ·rw [hx]; simp only [if_neg (show ¬ (1:Nat)=0 by omega),if_true,if_neg (show ¬ (1+1:Nat)=0 by omega),if_neg (show ¬ (1+1:Nat)=1 by omega)]
    rw [addI_64 (by simp only [pm.len_eq]; omega) (by simp only [pm.len_eq]; omega)]; simp only [pm.len_eq]; omega
  rw [hx2]
  refine split_ltI (fun hp=>by omega) (fun hp=>hI _ _ hlt ⟨rfl,rfl⟩)
 ·obtain rfl:k=2:=by omega
  rw [if_neg (by omega),if_neg (by omega)] at hx
  subst hx
  clear hI I w
  have fill:∀ (aG:Option Addr) (m2:Mem),((n+n'=0∧aG=none∧m2=m1)∨(0 < n+n'∧aG=some ⟨m1.nx,0,none⟩∧∃ Z,Z.length=(n+n')*2∧m2=newO m1 (row Z t_model_Back true))) →
    ∃ Inv_3:Option Addr→Nat→Nat→Int→Mem→Nat→Prop,(∃ n_4:Nat,Inv_3 aG 0 (n+n') (0:Int) m2 n_4) ∧
     ∀ (a6:Option Addr) (n6 c6:Nat) (x27:Int),∀ (m3:Mem) (n_5:Nat),Inv_3 a6 n6 c6 x27 m3 n_5 →
     (splitB (ltI (x27) (lenI (2)))
     ((0≤(x27)∧(x27) < ((2:Nat):Int))∧(vPtr (some ⟨b0,0,none⟩) fun ba0_6 oa0_7=>(∃ (a30:Option Addr) (n30 c30:Nat),rd m3 ba0_6 (oa0_7+Int.toNat (x27)*1)=some (.slice a30 (n30) (c30))∧(∃ (a33:Option Addr) (n33 c33:Nat) (m4:Mem),appendA cx m3 [t_sl_model_Back,t_sl_model_Back] [.slice a6 (n6) (c6),.slice a30 (n30) (c30)]=some (.slice a33 (n33) (c33),m4)∧(∃ n_8:Nat,n_8 < n_5∧Inv_3 a33 (n33) (c33) (addI .i64 (x27) (1:Int)) m4 n_8)))))
     (Q (.slice a6 (n6) (c6)) m3)):=by
   intro aG m2 hG
   have one:∀ (L:List pm.Back),(L.flatMap encB).all one1=true:=fun L=>flat_one1 encB_one1 L
   rcases hG with ⟨hz,rfl,em⟩ | ⟨hz,rfl,Z,hZ,rfl⟩
   ·
    rw [em]
    obtain rfl:n=0:=by omega
    obtain rfl:n'=0:=by omega
    have hl0:l=[]:=List.length_eq_zero_iff.1 hln
    have hl0':l'=[]:=List.length_eq_zero_iff.1 hln'
    subst hl0; subst hl0'
    refine forN3 (show 2≤4611686018427387904 by omega) (fun k a6 n6 c6 mm=>mm=m1∧a6=none∧n6=0∧c6=0) ⟨rfl,rfl,rfl,rfl⟩ ?_
    rintro k a6 n6 c6 m3 hk ⟨rfl,rfl,rfl,rfl⟩ I w hI
    refine split_lt (fun hlt=>?_) (fun hge=>?_)
    ·refine ⟨⟨by omega,by omega⟩,?_⟩
     rw [vPtr_some]
     obtain ⟨a1,n1,c1,r1,r2⟩:=rd0 m3 rfl k hlt
     refine ⟨a1,n1,c1,r1,none,0,0,m3,?_,hI _ _ _ _ hlt ⟨rfl,rfl,rfl,rfl⟩⟩
     obtain rfl:n1=0:=by rcases r2 with ⟨_,_,h,_⟩ | ⟨_,_,h,_⟩ <;> exact h
     obtain ⟨i,z,h1,h2,h3,h4,h5,h6,h7⟩:=pushT_of (cx:=cx) (t:=t_sl_model_Back) (e:=t_model_Back) (s:=2) (by kernel_rfl)
     unfold appendA
     have hf:firstL m3 i.size 0 (.slice a1 0 c1)=some []:=by cases a1 <;> rfl
     have b1:(Nat.beq ([]:List Value).length (0*i.size) && Nat.blt 0 i.size && ([]:List Value).all one1)=true:=by
      rw [h3,Nat.zero_mul,show Nat.blt 0 2=true from rfl]; rfl
     simp only [h1,h2,lenV,isRowD,hf,b1]
    ·exact h m3 none 0 (Keep.refl hw) (by simpa using OwnSl.nil)
   ·have kz:Keep m1 (newO m1 (row Z t_model_Back true)):=(Keep.refl hw).newO
    have hRz:Row (newO m1 (row Z t_model_Back true)) m1.nx Z t_model_Back true:=Row.newO
    have hlf:(l.flatMap encB).length=n*2:=by rw [flat_length encB_len,hln]
    have hlf':(l'.flatMap encB).length=n'*2:=by rw [flat_length encB_len,hln']
    refine forN3 (show 2≤4611686018427387904 by omega) (fun k a6 n6 c6 mm=>Keep m1 mm∧a6=some ⟨m1.nx,0,none⟩∧c6=n+n'∧m1.nx < mm.nx ∧
     ((k=0∧n6=0∧∃ Z,Z.length=(n+n')*2∧Row mm m1.nx Z t_model_Back true)∨(k=1∧n6=n∧∃ Z,Z.length=n'*2∧Row mm m1.nx (l.flatMap encB ++ Z) t_model_Back true)∨(k=2∧n6=n+n'∧Row mm m1.nx (l.flatMap encB ++ l'.flatMap encB) t_model_Back true)))
     ⟨kz,rfl,rfl,by simp,.inl ⟨rfl,rfl,Z,hZ,hRz⟩⟩ ?_
    rintro k a6 n6 c6 m3 hk ⟨k3,rfl,rfl,hnx,hst⟩ I w hI
    have hb0:b0 < m1.nx:=hw.row hR
    refine split_lt (fun hlt=>?_) (fun hge=>?_)
    ·refine ⟨⟨by omega,by omega⟩,?_⟩
     rw [vPtr_some]
     obtain ⟨a1,n1,c1,r1,r2⟩:=rd0 m3 (k3.get b0 hb0) k hlt
     refine ⟨a1,n1,c1,r1,?_⟩
     have hfl:m3.fl≤m1.nx:=by have:=k3.fl; have:=hw.1; omega
     have fin:∀ m4:Mem,(∀ b',b'≠m1.nx→m4.hp.get b'=m3.hp.get b')→m4.nx=m3.nx→m4.fl=m3.fl→Keep m1 m4:=fun m4 g1 g2 g3=>
      ⟨k3.wf.at (r:=m1.nx) hnx g2 g3 g1,by have:=k3.nx; omega,g3.trans k3.fl,fun b hb=>(g1 b (by omega)).trans (k3.get b hb)⟩
     rcases hst with ⟨rfl,rfl,Z1,hZ1,hR1⟩ | ⟨rfl,rfl,Z1,hZ1,hR1⟩ | ⟨rfl,_⟩
     ·rcases r2 with ⟨_,rfl,rfl,rfl⟩ | ⟨h,_⟩
      ·obtain ⟨m4,q1,q2,q3,q4,q5⟩:=app_in (cx:=cx) (t:=t_sl_model_Back) (e:=t_model_Back) (s:=2) (n:=n1+n') (k:=0) (d:=n1) (ck:=c1) (by kernel_rfl) hR1 hZ1 hfl ((hA.keep hw k3).first encB_len (by omega)) hlf (one l) (by omega)
       refine ⟨_,_,_,m4,q1,hI _ _ _ m4 hlt ⟨fin m4 q3 q4 q5,rfl,rfl,by omega,.inr (.inl ⟨rfl,by omega,Z1.drop ((0+n1)*2),?_,?_⟩)⟩⟩
       ·rw [List.length_drop,hZ1]; omega
       ·simpa using q2
      ·omega
     ·rcases r2 with ⟨h,_⟩ | ⟨_,rfl,rfl,rfl⟩
      ·omega
      ·obtain ⟨m4,q1,q2,q3,q4,q5⟩:=app_in (cx:=cx) (t:=t_sl_model_Back) (e:=t_model_Back) (s:=2) (n:=n6+n1) (k:=n6) (d:=n1) (ck:=c1) (by kernel_rfl) hR1 (by rw [List.length_append,hlf,hZ1]; omega) hfl ((hA'.keep hw k3).first encB_len (by omega)) hlf' (one l') (by omega)
       refine ⟨_,_,_,m4,q1,hI _ _ _ m4 hlt ⟨fin m4 q3 q4 q5,rfl,rfl,by omega,.inr (.inr ⟨rfl,rfl,?_⟩)⟩⟩
       have e1:(l.flatMap encB ++ Z1).take (n6*2)=l.flatMap encB:=by rw [← hlf,List.take_left]
       have e2:(l.flatMap encB ++ Z1).drop ((n6+n1)*2)=[]:=List.drop_eq_nil_of_le (by rw [List.length_append,hlf,hZ1]; omega)
       rw [e1,e2,List.append_nil] at q2
       exact q2
     ·omega
    ·rcases hst with ⟨rfl,_⟩ | ⟨rfl,_⟩ | ⟨_,rfl,hR1⟩
     ·omega
     ·omega
     ·refine h m3 _ _ k3 (.row m1.nx _ _ hz (Nat.le_refl _) ?_)
      rw [List.flatMap_append]; exact hR1
  refine growB_ok hw (by omega) (fun hz=>⟨_,_,_,rfl,?_⟩) (fun hz Z m2 hZ hm2=>⟨_,_,_,rfl,?_⟩)
  ·have:=fill none m1 (.inl ⟨hz,rfl,rfl⟩)
   rw [hz] at this
   exact this
  ·exact fill _ m2 (.inr ⟨hz,rfl,Z,hZ,hm2⟩)
end
section
variable {wj wq wj' wq':Nat→Kd} {m0 m m':Mem} {lam:Nat→Lb} {a1 a2 a3 ae:Option Addr} {n1 c1 n2 c2 n3 c3 ne ce:Nat} {ss ss':List SV} {js js':Nat→List JV} {ls ls':List LV} {qs qs':Nat→List Int} {σ σ':pm.St} {E:List pm.Ev}
theorem OwE.old0 {m00:Mem} (h:OwE wj wq m0 m lam a1 n1 c1 a2 n2 c2 a3 n3 c3 ss js ls qs σ ae ne ce E) (hw:Wf m00) (k:Keep m00 m0):OwE wj wq m00 m lam a1 n1 c1 a2 n2 c2 a3 n3 c3 ss js ls qs σ ae ne ce E:=
 ⟨h.ow.old0 hw k,h.ev,fun b hb=>⟨Nat.le_trans k.nx (h.evn b hb).1,(h.evn b hb).2⟩⟩
theorem OwE.beside {S:List Nat} (h:OwE wj wq m0 m lam a1 n1 c1 a2 n2 c2 a3 n3 c3 ss js ls qs σ ae ne ce E) (hw':Wf m') (f:Fr m m' S) (hS:∀ b∈S,lam b = .no∧b∉blk ae):OwE wj wq m0 m' lam a1 n1 c1 a2 n2 c2 a3 n3 c3 ss js ls qs σ ae ne ce E:=
 ⟨h.ow.fr hw' f (fun b hb=>(hS b hb).1),h.ev.fr f h.wf (fun b hb hs=>(hS b hs).2 hb),h.evn⟩
theorem OwE.setB (h:OwE wj wq m0 m lam a1 n1 c1 a2 n2 c2 a3 n3 c3 ss js ls qs σ ae ne ce E) {b o i k:Nat} {x x':pm.Back} {vs:List Value} (hx:σ.backs[i]? = some x) (hab:a3=some ⟨b,o,none⟩) (hk:k+vs.length≤2) (he:over (encB x) k vs=encB x') :
  okW m b (o+Int.toNat (i:Int)*2+k) vs.length∧OwE wj wq m0 (wr m b (o+Int.toNat (i:Int)*2+k) vs) lam a1 n1 c1 a2 n2 c2 a3 n3 c3 ss js ls qs { σ with backs:=σ.backs.set i x' } ae ne ce E:=by
 obtain ⟨g1,g2⟩:=h.ow.setB hx hab hk he
 refine ⟨g1,h.go g2 ⟨[b],(Fr.refl m [b]).wr (.inl (by simp)),fun b' hb'=>?_⟩⟩
 rw [List.mem_singleton.1 hb',h.ow.s3l b (by rw [hab]; simp [blk])]; simp
theorem OwE.newB (h:OwE wj wq m0 m lam a1 n1 c1 a2 n2 c2 a3 n3 c3 ss js ls qs σ ae ne ce E) {mo m2:Mem} {a':Option Addr} {n' c':Nat} {l':List pm.Back} (k:Keep m m2) (ho:OwnSl mo m2 t_model_Back a' n' c' (l'.flatMap encB)) (hn:m.nx≤mo.nx) (hl:l'.length=n') :
  ∃ lam',OwE wj wq m0 m2 lam' a1 n1 c1 a2 n2 c2 a' n' c' ss js ls qs { σ with backs:=l' } ae ne ce E∧(∀ b,lam b≠.no→lam' b=lam b):=by
 obtain ⟨lam',g1,g2,g3⟩:=h.ow.newB k ho hn hl
 refine ⟨lam',⟨g1,(h.then k).ev,fun b hb=>⟨(h.evn b hb).1,?_⟩⟩,g2⟩
 rw [g3 b (h.evlt b hb)]; exact (h.evn b hb).2
theorem runs_snoc:∀ (l:List Nat) (s:pm.St) (i:Nat),pm.runs s (l ++ [i])=(match (pm.runs s l).servs[i]? with | some v=>{ pm.runs s l with servs:=(pm.runs s l).servs.set i (pm.run1 v) } | none=>pm.runs s l)
 | [],s,i=>rfl
 | j :: r,s,i=>runs_snoc r _ i
theorem ends_snoc:∀ (l:List Nat) (s:pm.St) (i:Nat),pm.ends s (l ++ [i])=((pm.end_ (pm.ends s l).1 i).1,(pm.ends s l).2 ++ (pm.end_ (pm.ends s l).1 i).2)
 | [],s,i=>by
  show ((pm.end_ s i).1,(pm.end_ s i).2 ++ [])=((pm.end_ s i).1,[] ++ (pm.end_ s i).2)
  simp
 | j :: r,s,i=>by
  show ((pm.ends (pm.end_ s j).1 (r ++ [i])).1,(pm.end_ s j).2 ++ (pm.ends (pm.end_ s j).1 (r ++ [i])).2)=_
  rw [ends_snoc r]
  show (_,_ ++ (_ ++ _))=(_,(_ ++ _) ++ _)
  rw [List.append_assoc]
  rfl
theorem ends_keep {B:Int}:∀ {L:List Nat} {σ : pm.St},pm.Iv B σ→L.Nodup→(∀ p∈L,∃ x,σ.servs[p]? = some x∧x.jobs≠[])→∀ {q:Nat} {y:pm.Serv},q∉L→σ.servs[q]? = some y→∃ y',(pm.ends σ L).1.servs[q]? = some y'∧y'.jobs=y.jobs
 | [],σ,h,_,_,q,y,_,hy=>⟨y,hy,rfl⟩
 | i :: r,σ,h,hn,hp,q,y,hq,hy=>by
  rw [List.nodup_cons] at hn
  obtain ⟨x,hx,hj⟩:=hp i (List.mem_cons_self ..)
  cases hjs:x.jobs with
  | nil=>exact absurd hjs hj
  | cons j js=>
   obtain ⟨a1,_,_,_,_,_,a7⟩:=pm.end_iv h hx hjs
   have nx:∀ {p:Nat} {y:pm.Serv},p≠i→σ.servs[p]? = some y→∃ y',(pm.end_ σ i).1.servs[p]? = some y'∧y'.jobs=y.jobs:=fun {p y} hpi hy=>by
    obtain ⟨y',hy',hN⟩:=a7 p y hpi hy
    refine ⟨y',hy',?_⟩
    rcases hN with e | ⟨_,e⟩ <;> rw [e]
   obtain ⟨y1,h1,e1⟩:=nx (fun e=>hq (by rw [e]; exact List.mem_cons_self ..)) hy
   obtain ⟨y2,h2,e2⟩:=ends_keep (L:=r) a1 hn.2 (fun p hpr=>by
    obtain ⟨z,hz,hzj⟩:=hp p (List.mem_cons_of_mem _ hpr)
    obtain ⟨z',hz',e⟩:=nx (fun e=>hn.1 (e ▸ hpr)) hz
    exact ⟨z',hz',by rw [e]; exact hzj⟩) (fun e=>hq (List.mem_cons_of_mem _ e)) h1
   exact ⟨y2,h2,e2.trans e1⟩
noncomputable def incK (l:List pm.Back) (k:Nat):List pm.Back:=(l.take k).map (fun b=>{ b with ran:=addI .i64 b.ran 1 }) ++ l.drop k
theorem incK_zero (l:List pm.Back):incK l 0=l:=by unfold incK; simp
theorem incK_get {l:List pm.Back} {k:Nat} {x:pm.Back} (h:l[k]? = some x):(incK l k)[k]? = some x:=by
 have hk:=(List.getElem?_eq_some_iff.1 h).1
 unfold incK
 have hl:((l.take k).map (fun b:pm.Back=>{ b with ran:=addI .i64 b.ran 1 })).length=k:=by rw [List.length_map,List.length_take]; omega
 rw [List.getElem?_append_right (by omega),hl,Nat.sub_self,List.getElem?_drop]; exact h
theorem incK_succ {l:List pm.Back} {k:Nat} {x:pm.Back} (h:l[k]? = some x):(incK l k).set k { x with ran:=addI .i64 x.ran 1 }=incK l (k+1):=by
 have hk:=(List.getElem?_eq_some_iff.1 h).1
 unfold incK
 have hl:((l.take k).map (fun b:pm.Back=>{ b with ran:=addI .i64 b.ran 1 })).length=k:=by rw [List.length_map,List.length_take]; omega
 rw [List.set_append_right _ _ (by omega),hl,Nat.sub_self,List.drop_eq_getElem_cons hk,List.set_cons_zero,List.take_add_one,h]
 simp
theorem incK_rot (l:List pm.Back) (k:Nat) (hk:k≤l.length):(incK l k).drop k ++ (incK l k).take k=pm.turned l k:=by
 unfold incK pm.turned
 have hl:((l.take k).map (fun b:pm.Back=>{ b with ran:=addI .i64 b.ran 1 })).length=k:=by rw [List.length_map,List.length_take]; omega
 rw [List.drop_append,List.take_append,hl,Nat.sub_self,List.drop_eq_nil_of_le (by omega),List.drop_zero,List.nil_append,List.take_zero,List.append_nil,List.take_of_length_le (by omega)]
end
section
variable {B:Int} {m:Mem} {Q:Value→Mem→Prop} {M now:Int} {a1 a2 a3:Option Addr} {n1 c1 n2 c2 n3 c3:Nat} {σ : pm.St}
theorem tick_ok (hw:Wf m) (hσ : RdSt cx m M now a1 n1 a2 n2 a3 n3 c3 σ) (hI:pm.Iv B σ)
  (h:∀ m' now' b1 d1 b2 d2 b3 d3 ae ne ce,Keep m m'→RdSt cx m' M now' b1 n1 b2 n2 b3 n3 d3 (pm.tick σ).1→Arr encEv 4 m' ae ne (pm.tick σ).2.1→ne≤2000→Q (.tuple #[.agg #[.int .i64 M,.int .i64 now',.slice b1 n1 d1,.slice b2 n2 d2,.slice b3 n3 d3],.slice ae ne ce,.int .i64 (pm.tick σ).2.2]) m') :
  CallV cx n_model_Tick [.agg #[.int .i64 M,.int .i64 now,.slice a1 n1 c1,.slice a2 n2 c2,.slice a3 n3 c3]] m Q:=by
 apply G_model_Tick_ok; unfold G_model_Tick
 have k0:Keep m (bump m 2):=(Keep.refl hw).bump
 have em:=hσ.em
 have en:=hσ.enow
 refine split_leI (fun hnow=>?_) (fun hnow=>?_)
 ·have e:pm.tick σ = (σ,[],6):=by
   unfold pm.tick
   rw [show leI pm.horizon σ.now=true from leI_true.2 (by rw [← en]; exact hnow)]; rfl
  rw [e] at h
  exact h _ now a1 c1 a2 c2 a3 c3 none 0 0 k0 (hσ.keep hw k0) ArrP.nil (by omega)
 ·have hnow':σ.now < 4611686018427387904:=by rw [← en]; exact hnow
  have ht:=pm.tick_eq hnow'
  simp only at ht
  rw [ht] at h
  clear ht
  obtain ⟨s1,s2,s3⟩:=pm.settle_iv hI
  obtain ⟨s4,s5,s6,s7⟩:=pm.settle_now hI
  refine settle_ok k0.wf (hσ.keep hw k0) hI fun m1 b1 d1 b2 d2 b3 d3 ae ne ce hX hne=>⟨_,_,_,_,_,_,_,_,_,_,_,_,_,_,rfl,?_⟩
  generalize (pm.settle σ).1 = τ at *
  generalize (pm.settle σ).2=ES at *
  obtain ⟨lam,ss,js,ls,qs,hE⟩:=hX
  have hE:=hE.old0 hw k0
  have e1:M = τ.m:=by rw [s3]; exact em
  have e2:now = τ.now:=by rw [s4]; exact en
  have hz1:=s1.len1
  have hz2:=s1.len2
  have hz3:=s1.len3
  have hM1:=s1.m1
  have hM2:=s1.m2
  have l1:=hE.ow.s1d
  have l2:=hE.ow.s2d
  have l3:=hE.ow.s3n
  have hpl:=pm.places_ok s1 s2
  refine runs_ok hE.wf (hE.ow.reads (cx:=cx) e1 e2 sBack) (by omega) (by omega) (by omega) (by omega) fun m2 ai ci ab cb k2 hAi hAb hni hnb=>⟨_,_,_,_,_,_,rfl,?_⟩
  have hnbk:(pm.backers τ).length≤τ.backs.length:=by
   unfold pm.backers
   rw [List.length_map,List.length_take]; omega
  have hrl:=runners_len τ hM1
  generalize hPL:(pm.runners τ).map (pm.at_ τ.servs)=PL at *
  generalize hNB:(pm.backers τ).length=NB at *
  have hE2:=hE.then k2
  obtain ⟨lam2,hE2,hli,hch⟩:=hE2.hold encI_len (by omega) hAi (fun b hb=>.inl (hE.ow.noNew (hni b hb))) (fun b hb hs=>by have:=hE.evlt b hs; have:=hni b hb; omega)
  have hevlt:∀ b∈blk ae,b < m2.nx:=hE2.evlt
  have hPLlen:PL.length=(pm.runners τ).length:=by rw [← hPL,List.length_map]
  refine forN3 (show (pm.runners τ).length≤4611686018427387904 by omega) (fun k a8 n8 c8 mm=>∃ ss js,OwE (fun _=>.own true) (fun _=>.own true) m mm lam2 b1 n1 d1 b2 n2 d2 b3 n3 d3 ss js ls qs (pm.runs τ (PL.take k)) ae ne ce ES ∧
   Grow mm a8 n8 c8 1 t_int (((PL.take k).map fun p:Nat=>(p:Int)).flatMap encI)∧(∀ b∈blk a8,m2.nx≤b∧lam2 b = .no)∧Arr encI 1 mm ai (pm.runners τ).length (pm.runners τ)∧m2.nx≤mm.nx)
   ⟨ss,js,by rw [List.take_zero]; exact hE2,by simpa using Grow.nil _ _ _,(fun b hb=>by cases hb),hAi,Nat.le_refl _⟩ ?_
  rintro k a8 n8 c8 m3 hk ⟨ss3,js3,hE3,hG3,hnew3,hA3,hnx3⟩ I w hInv
  have hn8:n8=k:=by
   have:=hG3.1
   rw [flat_length encI_len,List.length_map,List.length_take] at this
   omega
  refine split_lt (fun hlt=>?_) (fun hge=>?_)
  ·obtain ⟨id,hid⟩:∃ id,(pm.runners τ)[k]? = some id:=⟨_,List.getElem?_eq_getElem hlt⟩
   have hidm:=List.mem_of_getElem? hid
   have hPk:PL[k]? = some (pm.at_ τ.servs id):=by rw [← hPL,List.getElem?_map,hid]; rfl
   have hPm:=List.mem_of_getElem? hPk
   obtain ⟨x,hx,hxm,hxj,hxs⟩:=hpl.2 _ hPm
   have hnt:pm.at_ τ.servs id∉PL.take k:=fun hm=>by
    obtain ⟨i,hi⟩:=List.getElem?_of_mem hm
    rw [List.getElem?_take] at hi
    split at hi
    ·have:=pm.nodup_at hpl.1 hi hPk; omega
    ·cases hi
   have hndt:(PL.take k).Nodup:=hpl.1.sublist (List.take_sublist _ _)
   obtain ⟨r1,r2,r3,r4,r5,r6⟩:=pm.runs_eq (PL.take k) τ hndt
   have hx3:(pm.runs τ (PL.take k)).servs[pm.at_ τ.servs id]? = some x:=by rw [r6,if_neg hnt]; exact hx
   have hids3:(pm.runs τ (PL.take k)).servs.map (·.id) = τ.servs.map (·.id):=by
    apply List.ext_getElem?
    intro j
    rw [List.getElem?_map,List.getElem?_map,r6]
    split
    ·cases τ.servs[j]? with
     | none=>rfl
     | some y=>show some (pm.run1 y).id=some y.id; rw [pm.run1_eq]
    ·rfl
   have hat:=at_congr hids3 id
   have hrs:pm.runs τ (PL.take (k+1)) = { pm.runs τ (PL.take k) with servs:=(pm.runs τ (PL.take k)).servs.set (pm.at_ τ.servs id) (pm.run1 x) }:=by
    rw [List.take_add_one,hPk]
    show pm.runs τ (PL.take k ++ [pm.at_ τ.servs id])=_
    rw [runs_snoc,hx3]
   have hil:=(List.getElem?_eq_some_iff.1 hx).1
   refine hA3.open (k:=k) (x:=id) hid fun bi oi hci=>⟨_,hci 0 _ rfl,?_⟩
   refine at_ok hE3.wf (hE3.ow.reads (cx:=cx) (by rw [r1]; exact e1) (by rw [r2]; exact e2) sBack) (rise_congr hids3.symm s1.rise) (by omega) fun m4 k4=>⟨_,_,rfl,?_⟩
   rw [hat]
   generalize pm.has _ _=unused
   rw [mBind_iff]
   generalize hp:pm.at_ τ.servs id=p at *
   have k5:Keep m3 (newO m4 (row [.int .i64 (p:Int)] t_int false)):=k4.newO
   have hR5:Row (newO m4 (row [.int .i64 (p:Int)] t_int false)) m4.nx [.int .i64 (p:Int)] t_int false:=Row.newO
   have x4:=k4.nx
   generalize hm5:newO m4 (row [.int .i64 (p:Int)] t_int false)=m5 at k5 hR5
   have x5:m5.nx=m4.nx+1:=by rw [← hm5]; rfl
   obtain ⟨m6,q1,q2,q3,q4,q5⟩:=grow_push (cx:=cx) (t:=t_sl_int) (e:=t_int) (s:=1) (xa:=some ⟨m4.nx,0,none⟩) (by kernel_rfl) k5.wf (k5.grow hE3.wf hG3) (hR5.first1 rfl) rfl rfl (by omega)
   refine ⟨_,_,_,m6,q1,?_⟩
   have hE6:=(hE3.then k5).beside q2 q3 (fun b hb=>⟨(hnew3 b hb).2,fun hs=>by have:=hevlt b hs; have:=(hnew3 b hb).1; omega⟩)
   have hG6:Grow m6 (some ⟨m5.nx,0,none⟩) (n8+1) (n8+1) 1 t_int (((PL.take (k+1)).map fun p:Nat=>(p:Int)).flatMap encI):=by
    have e:((PL.take (k+1)).map fun p:Nat=>(p:Int)).flatMap encI=((PL.take k).map fun p:Nat=>(p:Int)).flatMap encI ++ [.int .i64 (p:Int)]:=by
     rw [List.take_add_one,hPk]
     simp [encI]
    rw [e]
    refine ⟨?_,.inr ⟨_,rfl,rfl,?_,q5⟩⟩
    ·rw [List.length_append,flat_length encI_len,List.length_map,List.length_take]; simp; omega
    ·have:=q3.fl; have:=k5.fl; have:=hE3.wf.1; omega
   have hA6:Arr encI 1 m6 ai (pm.runners τ).length (pm.runners τ):=by
    refine (hA3.keep hE3.wf k5).fr' k5.wf q3 (fun hne b hb hs=>?_)
    have h1:=hli hne b hb
    rw [(hnew3 b hs).2] at h1; cases h1
   obtain ⟨v,hv⟩:∃ v,ss3[p]? = some v:=⟨_,List.getElem?_eq_getElem (by rw [hE3.ow.s1n]; omega)⟩
   obtain ⟨b,o,rfl,hlb,_⟩:=hE6.ow.atS hv
   refine ⟨⟨by omega,by omega⟩,?_⟩
   rw [vPtr_some]
   refine run_ok hE6.ow hx3 rfl (rfl:(fun _=>Kd.own true) p = .own true) (fun _=>hxj) fun m7 ss' js' hO7 hfr7=>⟨rfl,?_⟩
   obtain ⟨S,f7,hS7⟩:=hfr7
   have hS7':∀ b∈S,lam2 b≠.no∧lam2 b≠.pr:=fun b hb=>by
    rcases hS7 b hb with e | ⟨_,e⟩ <;> rw [e] <;> simp
   have hE7:=hE6.go hO7 ⟨S,f7,fun b hb=>(hS7' b hb).1⟩
   have hno5:lam2 m5.nx = .no:=(hE3.then k5).ow.noNew (Nat.le_refl _)
   refine hInv _ _ _ m7 hlt ⟨ss',js',by rw [hrs]; exact hE7,hG6.fr f7 q2 (fun b hb hs=>?_),fun b hb=>?_,hA6.fr' q2 f7 (fun hne b hb hs=>(hS7' b hs).2 (hli hne b hb)),by have:=f7.nx; omega⟩
   ·simp [blk] at hb; subst hb; exact (hS7' _ hs).1 hno5
   ·simp [blk] at hb; subst hb; exact ⟨by omega,hno5⟩
  ·
   have htk:PL.take k=PL:=List.take_of_length_le (by omega)
   rw [htk] at hE3 hG3
   clear hInv I w
   obtain ⟨r1,r2,r3,r4,r5,r6⟩:=pm.runs_eq PL τ hpl.1
   have hAp:Arr encI 1 m3 a8 n8 (PL.map fun p:Nat=>(p:Int)):=Arr.of_grow encI_len (by omega) hG3
   obtain ⟨lam3,hE3,hlp,hch3⟩:=hE3.hold encI_len (by omega) hAp (fun b hb=>.inl (hnew3 b hb).2) (fun b hb hs=>by have:=hevlt b hs; have:=(hnew3 b hb).1; omega)
   have hbk:=hE3.ow.s3n
   have hbk2:(pm.runs τ PL).backs.length=n3:=hbk
   have hjobs:=pm.runs_jobs hpl
   obtain ⟨u1,u2⟩:=pm.ran_iv s1 (by rw [s4]; exact hnow') hpl NB
   generalize pm.runs τ PL = τ1 at *
   refine forN (show NB≤4611686018427387904 by omega) (fun k mm=>OwE (fun _=>.own true) (fun _=>.own true) m mm lam3 b1 n1 d1 b2 n2 d2 b3 n3 d3 ss3 js3 ls qs { τ1 with backs:=incK τ1.backs k } ae ne ce ES∧PrF lam3 m3 mm) ⟨by rw [incK_zero]; exact hE3,PrF.refl _ _⟩ ?_
   rintro k2' m4 hk4 ⟨hE4,F4⟩ I w hInv
   refine split_lt (fun hlt4=>?_) (fun hge4=>?_)
   ·obtain ⟨x,hx⟩:∃ x,τ1.backs[k2']? = some x:=⟨_,List.getElem?_eq_getElem (by omega)⟩
    have hx':({ τ1 with backs:=incK τ1.backs k2' }:pm.St).backs[k2']? = some x:=incK_get hx
    obtain ⟨b,o,rfl,hlb,hc⟩:=hE4.ow.atB hx'
    refine ⟨⟨by omega,by omega⟩,?_⟩
    rw [vPtr_some]
    refine ⟨_,hc 1 _ rfl,⟨by omega,by omega⟩,?_⟩
    rw [vPtr_some]
    obtain ⟨g1,g2⟩:=hE4.setB (x':={ x with ran:=addI .i64 x.ran 1 }) (k:=1) (vs:=[.int .i64 (addI .i64 x.ran 1)]) hx' rfl (by simp) rfl
    refine ⟨g1,?_⟩
    rw [mBind_iff]
    refine hInv _ hlt4 ⟨g2.cast ?_ rfl,F4.wr (by rw [hlb]; simp)⟩
    rw [show ({ τ1 with backs:=incK τ1.backs k2' }:pm.St).backs.set k2' _=incK τ1.backs (k2'+1) from incK_succ hx]
   ·obtain rfl:k2'=NB:=by omega
    clear hInv I w
    have k8:Keep m4 (bump m4 12):=(Keep.refl hE4.wf).bump
    have hcut:=(hE4.then k8).ow.reads (cx:=cx) (M:=M) (now:=now) (by show M = τ1.m; rw [r1]; exact e1) (by show now = τ1.now; rw [r2]; exact e2) sBack
    have hd3:d3=n3:=hE4.ow.s3.cap
    have hincl:(incK τ1.backs k2').length=n3:=hE4.ow.s3n
    obtain ⟨aA,cut1,cutA⟩:=hcut.cut.cut (i:=k2') (j:=n3) (lo:=some (.int .i64 (lenI k2'))) (hi:=none) tSlB sBack rfl (boundA_some (i:=k2') (by omega)) (by omega)
    obtain ⟨aB,cut2,cutB⟩:=hcut.cut.cut (i:=0) (j:=k2') (lo:=none) (hi:=some (.int .i64 (lenI k2'))) tSlB sBack (boundA_some (i:=k2') (by omega)) rfl (by omega)
    refine ⟨_,_,_,cut1,_,_,_,cut2,?_⟩
    have hA0:=(hE4.ow.reads (cx:=cx) (M:=M) (now:=now) (by show M = τ1.m; rw [r1]; exact e1) (by show now = τ1.now; rw [r2]; exact e2) sBack).backs
    have kz:Keep m4 (addO (bump m4 12) (m4.nx+8) (row [.slice aA (n3 - k2') (d3 - k2'),.slice aB (k2' - 0) (d3 - 0)] t_sl_model_Back false)):=k8.addO (by omega) (by simp)
    have hRz:Row (addO (bump m4 12) (m4.nx+8) (row [.slice aA (n3 - k2') (d3 - k2'),.slice aB (k2' - 0) (d3 - 0)] t_sl_model_Back false)) (m4.nx+8) [.slice aA (n3 - k2') (d3 - k2'),.slice aB (k2' - 0) (d3 - 0)] t_sl_model_Back false:=Row.of_row (by rw [addO_get,if_pos rfl])
    generalize addO (bump m4 12) (m4.nx+8) (row [.slice aA (n3 - k2') (d3 - k2'),.slice aB (k2' - 0) (d3 - 0)] t_sl_model_Back false)=m5 at kz hRz
    have hA1:=(hA0.keep hE4.wf kz).cut (i:=k2') (j:=n3) (Nat.le_refl _) cutA
    have hA2:=(hA0.keep hE4.wf kz).cut (i:=0) (j:=k2') (by omega) cutB
    have hE5:=hE4.then kz
    have hsum:n3 - k2'+(k2' - 0)=n3:=by omega
    refine concatB_ok kz.wf hRz hA1 hA2 (by omega) fun m6 aN cN k6 hO6=>⟨_,_,_,rfl,?_⟩
    rw [hsum] at hO6 ⊢
    rw [mBind_iff]
    have hrot:((({ τ1 with backs:=incK τ1.backs k2' }:pm.St).backs.take n3).drop k2' ++ (({ τ1 with backs:=incK τ1.backs k2' }:pm.St).backs.take k2').drop 0)=pm.turned τ1.backs k2':=by
     rw [List.drop_zero,List.take_of_length_le (by show (incK τ1.backs k2').length≤n3; omega)]
     exact incK_rot τ1.backs k2' (by omega)
    rw [hrot] at hO6
    have htl:(pm.turned τ1.backs k2').length=n3:=by
     unfold pm.turned
     rw [List.length_append,List.length_map,List.length_drop,List.length_take]; omega
    obtain ⟨lam4,hE6,hch4⟩:=hE5.newB k6 hO6 (Nat.le_refl _) htl
    have F6:PrF lam3 m3 m6:=(F4.keep kz).keep k6
    have hAp6:Arr encI 1 m6 a8 n8 (PL.map fun p:Nat=>(p:Int)):=F6.arr hE3.wf hAp hlp
    have hlp4:(PL.map fun p:Nat=>(p:Int))≠[]→∀ b∈blk a8,lam4 b = .pr:=fun hne b hb=>by
     have:=hlp hne b hb
     rw [hch4 b (by rw [this]; simp)]; exact this
    have enow1:addI .i64 now 1=addI .i64 τ1.now 1:=by rw [e2,r2]
    have hE7:OwE (fun _=>.own true) (fun _=>.own true) m m6 lam4 b1 n1 d1 b2 n2 d2 aN n3 cN ss3 js3 ls qs { τ1 with backs:=pm.turned τ1.backs k2',now:=addI .i64 τ1.now 1 } ae ne ce ES:=⟨{ hE6.ow with },hE6.ev,hE6.evn⟩
    generalize hU:({ τ1 with backs:=pm.turned τ1.backs k2',now:=addI .i64 τ1.now 1 }:pm.St)=u at *
    have hum:u.m = τ1.m:=by rw [← hU]
    have hun:u.now=addI .i64 τ1.now 1:=by rw [← hU]
    have hus:u.servs = τ1.servs:=by rw [← hU]
    have hun8:n8=PL.length:=by omega
    rw [← hus] at hjobs
    refine forN3 (show n8≤4611686018427387904 by omega) (fun k a n c mm=>∃ wj wq ss js ls qs,OwnA wj∧OwnA wq∧OwE wj wq m mm lam4 b1 n1 d1 b2 n2 d2 aN n3 cN ss js ls qs (pm.ends u (PL.take k)).1 a n c (ES ++ (pm.ends u (PL.take k)).2)∧Arr encI 1 mm a8 n8 (PL.map fun p:Nat=>(p:Int))∧n≤1000+10*k)
     ⟨_,_,ss3,js3,ls,qs,fun _=>⟨true,rfl⟩,fun _=>⟨true,rfl⟩,by rw [List.take_zero]; exact hE7.cast rfl (by show ES=ES ++ []; rw [List.append_nil]),hAp6,by omega⟩ ?_
    rintro k a n c m7 hk7 ⟨wj,wq,ss7,js7,ls7,qs7,hwj,hwq,hE7',hA7,hn7⟩ I w hInv
    have hndt:(PL.take k).Nodup:=hpl.1.sublist (List.take_sublist _ _)
    obtain ⟨v1,v2,v3,v4,v5,v6⟩:=pm.ends_iv (L:=PL.take k) u1 hndt (fun p hp=>hjobs p (List.mem_of_mem_take hp))
    refine split_lt (fun hlt=>?_) (fun hge=>?_)
    ·obtain ⟨p,hp⟩:∃ p,PL[k]? = some p:=⟨_,List.getElem?_eq_getElem (by omega)⟩
     have hPm:=List.mem_of_getElem? hp
     obtain ⟨x0,hx0,hxj0⟩:=hjobs p hPm
     have hnt:p∉PL.take k:=fun hm=>by
      obtain ⟨i,hi⟩:=List.getElem?_of_mem hm
      rw [List.getElem?_take] at hi
      split at hi
      ·have:=pm.nodup_at hpl.1 hi hp; omega
      ·cases hi
     obtain ⟨x,hx,hxje⟩:=ends_keep u1 hndt (fun p hp=>hjobs p (List.mem_of_mem_take hp)) hnt hx0
     have hsn:pm.ends u (PL.take (k+1))=((pm.end_ (pm.ends u (PL.take k)).1 p).1,(pm.ends u (PL.take k)).2 ++ (pm.end_ (pm.ends u (PL.take k)).1 p).2):=by
      rw [List.take_add_one,hp]; exact ends_snoc _ _ _
     rw [hsn] at hInv
     generalize (pm.ends u (PL.take k)).1 = υ at *
     generalize (pm.ends u (PL.take k)).2=Ek at *
     cases hjs:x.jobs with
     | nil=>rw [hxje] at hjs; exact absurd hjs hxj0
     | cons j r=>
      refine hA7.open (k:=k) (x:=(p:Int)) (by rw [List.getElem?_map,hp]; rfl) fun bp op hcp=>⟨_,hcp 0 _ rfl,?_⟩
      refine end_ok hE7'.ow (by rw [v2,hum,r1]; exact e1) (by rw [v3,hun,enow1]) (by have:=v1.len1; have:=hE7'.ow.s1d; omega) (by have:=v1.len2; have:=hE7'.ow.s2d; omega) v1.rise hx hjs hwj hwq (fun hs=>?_) fun m8 aE nE cE ss8 js8 ls8 qs8 wj8 wq8 hO8 hwj8 hwq8 hfr8 hEv8 hnE=>⟨_,_,_,rfl,?_⟩
      ·obtain ⟨q,l,h1,h2,_⟩:=pm.holder_of v1.toIw hx (eqI_true.1 hs)
       have hgj:=(v1.serv x (List.mem_of_getElem? hx)).jobs j (by rw [hjs]; exact List.mem_cons_self ..)
       have h3:j.cur.1=(q:Int)+1:=by rw [← h1]; unfold pm.headSem; rw [hjs]
       have hql:=(List.getElem?_eq_some_iff.1 h2).1
       rw [hgj.step,h3]
       refine ⟨by omega,by omega,fun l' hl' y r' hy=>?_⟩
       rw [show ((q:Int)+1 - 1).toNat=q by omega,h2] at hl'
       cases hl'
       obtain ⟨v,hv,_⟩:=pm.waiter_at v1.toIw h2 (y:=y) (by rw [hy]; exact List.mem_cons_self ..)
       exact ⟨v,hv⟩
      ·obtain ⟨S,f8,hS8⟩:=hfr8
       have hS8':∀ b∈S,lam4 b≠.no∧lam4 b≠.pr:=fun b hb=>by
        rcases hS8 b hb with e | e | ⟨_,e⟩ <;> rw [e] <;> simp
       have hE8:=hE7'.go hO8 ⟨S,f8,fun b hb=>(hS8' b hb).1⟩
       obtain ⟨a9,c9,m9,q1,q2,q3⟩:=hE8.app hEv8.arr (by omega)
       refine ⟨a9,_,c9,m9,q1,?_⟩
       refine hInv a9 _ c9 m9 hlt ⟨wj8,wq8,ss8,js8,ls8,qs8,hwj8,hwq8,q2.cast rfl (by rw [List.append_assoc]),?_,by omega⟩
       have F9:PrF lam4 m7 m9:=((PrF.refl _ _).fr f8 (fun b hb=>(hS8' b hb).2)).fr q3 (fun b hb=>by rw [(hE8.evn b hb).2]; simp)
       exact F9.arr hE7'.wf hA7 hlp4
    ·have htk2:PL.take k=PL:=List.take_of_length_le (by omega)
     rw [htk2] at hE7' v2 v3
     refine h m7 _ _ _ _ _ _ _ a n c hE7'.ow.keep (hE7'.ow.reads (by show M=_; rw [v2,hum,r1]; exact e1) (by show addI .i64 now 1=_; rw [v3,hun,enow1]) sBack) hE7'.arr ?_
     have:=hrl
     omega
end
end Go.Proofs.YtiehbnmpaeedpaaGreat.vc
namespace Go.Proofs.YtiehbnmpaeedpaaGreat.vc
open Go Go.AX
section
variable {B:Int} {m0 m:Mem} {lam:Nat→Lb} {Q:Value→Mem→Prop} {M now:Int} {a1 a2 a3:Option Addr} {n1 c1 n2 c2 n3 c3:Nat} {ss:List SV} {js:Nat→List JV} {ls:List LV} {qs:Nat→List Int} {σ : pm.St}
theorem low_S (hO:Ow TT (fun _=>.own true) (fun _=>.own true) m0 m lam a1 n1 c1 a2 n2 c2 a3 n3 c3 ss js ls qs σ):(ss.flatMap encS).all (lowV m.nx)=true:=by
 rw [List.all_eq_true]
 intro u hu
 obtain ⟨v,hv,hu⟩:=List.mem_flatMap.1 hu
 obtain ⟨i,hi⟩:=List.getElem?_of_mem hv
 have hJ:CSl m0 m t_job_Job true v.ja v.jn v.jc ((js i).flatMap encJ):=(hO.jb i v hi).1
 have hlow:lowV m.nx (.slice v.ja v.jn v.jc)=true:=by
  have hlt:=hJ.lt hO.keep.wf
  generalize (js i).flatMap encJ=L at hJ
  generalize v.ja=a at *
  generalize v.jn=n at *
  generalize v.jc=c at *
  cases hJ with
  | nil=>rfl
  | empty b cc h1 h2=>exact Nat.ble_eq_true_of_le (hlt b (by simp [blk])).2
  | row b n pre l hw h1 h2=>exact Nat.ble_eq_true_of_le (hlt b (by simp [blk])).2
 unfold encS at hu
 simp only [List.mem_cons,List.not_mem_nil,or_false] at hu
 rcases hu with rfl | rfl | rfl | rfl | rfl | rfl | rfl | rfl | rfl | rfl | rfl
 all_goals first | exact hlow | rfl
theorem insS_ok {i bv:Nat} {v:SV} (hO:Ow TT (fun _=>.own true) (fun _=>.own true) m0 m lam a1 n1 c1 a2 n2 c2 a3 n3 c3 ss js ls qs σ) (hi:i≤n1) (hR:Row m bv (encS v) t_model_Serv false) (hbv:∀ b∈blk a1,bv≠b) (hv0:v.ja=none∧v.jn=0∧v.jc=0) (hn:n1≤1000)
  (h:∀ m',Wf m'→Fr m m' (blk a1)→m'.nx=m.nx+1→Row m' m.nx ((ss.take i ++ v :: ss.drop i).flatMap encS) t_model_Serv true→Q (.slice (some ⟨m.nx,0,none⟩) (n1+1) (n1+1)) m') :
  CallV cx n_slices_Insert_sl_model_Serv [.slice a1 n1 c1,.int .i64 (i:Int),.slice (some ⟨bv,0,none⟩) 1 1] m Q:=by
 have hw:=hO.keep.wf
 have hfl0:m.fl≤m0.nx:=by have:=hO.keep.fl; have:=hO.fl0; omega
 have hLlen:(ss.flatMap encS).length=n1*11:=by rw [flat_length encS_len,hO.s1n]
 have hx:firstL m 11 1 (.slice (some ⟨bv,0,none⟩) 1 1)=some (encS v):=hR.first1 rfl
 by_cases hin:i=n1
 ·obtain ⟨m',q1,q2,q3,q4,q5⟩:=own_push (cx:=vc0.cx) (t:=t_sl_model_Serv) (e:=t_model_Serv) (s:=11) (vs:=encS v) (by kernel_rfl) hw hfl0 hO.s1.own hLlen hx rfl rfl (by omega)
  have hsl:isSlV (sliceOp vc0.cx m t_sl_model_Serv (.slice a1 n1 c1) (some (.int .i64 (i:Int))) none none)=true:=by
   have ht:vc0.cx.un.get t_sl_model_Serv=some (.slice t_model_Serv):=by kernel_rfl
   have hs:sizeT vc0.cx t_model_Serv=some 11:=by kernel_rfl
   have h1:=hO.s1.own
   subst hin
   generalize ss.flatMap encS=L at h1
   cases h1 with
   | nil=>
    unfold sliceOp
    have b1:boundA 0 (some (.int .i64 ((0:Nat):Int))) 0=some 0:=boundA_some (Nat.le_refl _)
    simp only [ht,hs,boundA_none,b1]; rfl
   | empty b cc h2 h3=>
    rw [sliceOp_at (lo:=some (.int .i64 ((0:Nat):Int))) (hi:=none) ht hs rfl (boundA_some (Nat.le_refl _)) (by unfold sameSize; rw [h3]) (Nat.le_refl _)]; rfl
   | row b n l h0 h2 h3=>
    rw [sliceOp_at (hi:=none) ht hs rfl (boundA_some (Nat.le_refl _)) (h3.sameSize hs) (Nat.le_refl _)]; rfl
  refine CallV.ov ovNi ov_serv (r:=.slice (some ⟨m.nx,0,none⟩) (n1+1) (n1+1)) (u':=m') ?_ (h m' q2 q3 q4 ?_)
  ·show insA vc0.cx t_sl_model_Serv t_model_Serv 11 104 _ _=_
   unfold insA
   have e1:decide ((i:Int)=(n1:Int))=true:=decide_eq_true (by omega)
   simp only [e1,hsl,show Nat.blt 0 1=true from rfl]
   exact q1
  ·rw [List.take_of_length_le (by rw [hO.s1n]; omega),List.drop_eq_nil_of_le (by rw [hO.s1n]; omega),List.flatMap_append]
   simpa using q5
 ·have h1:=hO.s1.own
  have hlow:=low_S hO
  have hone:(ss.flatMap encS).all one1=true:=flat_one1 encS_one1 ss
  have hfm:(ss.take i ++ v :: ss.drop i).flatMap encS=(ss.flatMap encS).take (i*11) ++ encS v ++ (ss.flatMap encS).drop (i*11):=by
   have e:ss.flatMap encS=(ss.take i).flatMap encS ++ (ss.drop i).flatMap encS:=by rw [← List.flatMap_append,List.take_append_drop]
   have hl:((ss.take i).flatMap encS).length=i*11:=by rw [flat_length encS_len,List.length_take,hO.s1n]; congr 1; omega
   rw [e,List.flatMap_append,List.flatMap_cons,← hl,List.take_left,List.drop_left,List.append_assoc]
  rw [hfm] at h
  have hlowv:(encS v).all (lowV m.nx)=true:=by
   obtain ⟨e1,e2,e3⟩:=hv0
   unfold encS
   rw [e1,e2,e3]; rfl
  generalize ss.flatMap encS=L at *
  cases h1 with
  | nil=>omega
  | empty b cc h2 h3=>omega
  | row b n l h0 h2 h3=>
   have hbne:Nat.beq bv b=false:=Tr.beq_false.2 (hbv b (by simp [blk]))
   obtain ⟨tr,hg,hc⟩:=id h3
   have hrow:rowAtL m ⟨b,0,none⟩ (n1*11)=some L:=by
    have:=h3.rowAll
    rw [hLlen] at this; exact this
   obtain ⟨tv,hgv,_⟩:=id hR
   have hcell:cellsB m bv=true:=by unfold cellsB; rw [hgv]
   have hok:insOk m t_model_Serv t_model_Serv 11 b 0 n1 n1 i 1 bv L.length 104 L (encS v)=true:=by
    unfold insOk
    rw [hcell,hlow,hlowv,hone,encS_one1 v,hbne,Nat.ble_eq_true_of_le (show m.fl≤b by omega)]
    have b1:Nat.beq (0+n1*11) L.length=true:=by rw [hLlen,Nat.zero_add]; exact Nat.beq_refl _
    have b2:Nat.blt i n1=true:=Nat.ble_eq_true_of_le (by omega)
    have b3:Nat.ble n1 n1=true:=Nat.ble_eq_true_of_le (Nat.le_refl _)
    have b4:Nat.beq (encS v).length (1*11)=true:=rfl
    have b5:Nat.beq L.length (n1*11)=true:=by rw [hLlen]; exact Nat.beq_refl _
    have b6:Nat.ble (n1+1) 1000000=true:=Nat.ble_eq_true_of_le (by omega)
    rw [b1,b2,b3,b4,b5,b6,show Nat.beq t_model_Serv t_model_Serv=true from Nat.beq_refl _]
    rfl
   refine CallV.ov ovNi ov_serv (r:=.slice (some ⟨m.nx,0,none⟩) (n1+1) (n1+1)) (u':=(newCells { m with hp:=m.hp.del b } (L.take (i*11) ++ encS v ++ L.drop (i*11)) t_model_Serv true).2) ?_ (h _ ?_ ?_ rfl ?_)
   ·show insA vc0.cx t_sl_model_Serv t_model_Serv 11 104 _ _=_
    unfold insA
    have e1:decide ((i:Int)=(n1:Int))=false:=decide_eq_false (by omega)
    have e2:decide (0≤(i:Int))=true:=decide_eq_true (by omega)
    simp only [e1,e2]
    unfold insB
    rw [Int.toNat_natCast]
    simp only [hg,hrow,hx,hok]
   ·have hd:=del_nice hw b
    exact (newCells_nice hd.wf _ _ _).wf
   ·refine ⟨Nat.le_succ _,rfl,fun b' hb' hn'=>?_⟩
    show ((m.hp.del b).put m.nx _).get b'=_
    rw [Tr.get_put,if_neg (by omega),Tr.get_del,if_neg (by simpa [blk] using hn')]
   ·exact Row.of_row (by
     show ((m.hp.del b).put m.nx _).get m.nx=_
     rw [Tr.get_put,if_pos rfl]; rfl)
theorem all2_ins {α β : Type} {R:α→β→Prop} {l:List α} {k:List β} {a:α} {b:β} (h:All2 R l k) (i:Nat) (hab:R a b):All2 R (l.take i ++ a :: l.drop i) (k.take i ++ b :: k.drop i):=
 (h.take i).append (.cons hab (h.drop i))
theorem add_ok {id q p:Int} (hw:Wf m) (hσ : RdSt cx m M now a1 n1 a2 n2 a3 n3 c3 σ) (hI:pm.Iv B σ)
  (h:∀ m' b1 n1' d1 b2 d2 b3 d3,Keep m m'→RdSt cx m' M now b1 n1' b2 n2 b3 n3 d3 (pm.add σ id q p).1→Q (.tuple #[.agg #[.int .i64 M,.int .i64 now,.slice b1 n1' d1,.slice b2 n2 d2,.slice b3 n3 d3],.int .i64 (pm.add σ id q p).2]) m') :
  CallV cx n_model_Add [.agg #[.int .i64 M,.int .i64 now,.slice a1 n1 c1,.slice a2 n2 c2,.slice a3 n3 c3],.int .i64 id,.int .i64 q,.int .i64 p] m Q:=by
 apply G_model_Add_ok; unfold G_model_Add
 have k0:Keep m (bump m 2):=(Keep.refl hw).bump
 have hz:=hI.len1
 have hl1:=hσ.len1
 refine at_ok k0.wf (hσ.keep hw k0) hI.rise (by omega) fun m1 k1=>⟨_,_,rfl,?_⟩
 have k01:=k0.trans k1
 have same:∀ m' e,Keep m m'→pm.add σ id q p=(σ,e)→Q (.tuple #[.agg #[.int .i64 M,.int .i64 now,.slice a1 n1 c1,.slice a2 n2 c2,.slice a3 n3 c3],.int .i64 e]) m':=fun m' e k he=>by
  rw [he] at h
  exact h m' a1 n1 c1 a2 c2 a3 c3 k (hσ.keep hw k)
 refine joinK_of' (fun f:Bool→Mem→Prop=>∀ b,b=(ltI id 1 || ltI 255 id)→f b m1) ?_ ?_
 ·rintro b rfl
  refine split_b (fun h1=>same _ _ k01 (by unfold pm.add; rw [h1]; rfl)) (fun h1=>?_)
  refine split_b (fun h2=>same _ _ k01 (by unfold pm.add; rw [h1,h2]; rfl)) (fun h2=>?_)
  have e3:leI 32 (lenI n1)=leI 32 (lenI σ.servs.length):=by rw [hl1]
  rw [e3]
  refine split_b (fun h3=>same _ _ k01 (by unfold pm.add; rw [h1,h2,h3]; rfl)) (fun h3=>?_)
  refine cNew_ok k01.wf fun m2 k2=>⟨_,_,_,_,_,_,rfl,?_⟩
  have k02:=k01.trans k2
  refine split_b (fun h4=>same _ _ k02.bump (by unfold pm.add; rw [h1,h2,h3,h4]; rfl)) (fun h4=>?_)
  obtain ⟨_,_,ecn⟩:=pm.cNew_good (neI_false.1 h4)
  have eadd:pm.add σ id q p=({ σ with servs:=σ.servs.take (pm.at_ σ.servs id) ++ ⟨id,(pm.cNew q p).1,[],0,0,0,0⟩ :: σ.servs.drop (pm.at_ σ.servs id) },0):=by
   unfold pm.add
   rw [h1,h2,h3,h4]; rfl
  rw [eadd] at h
  have k03:Keep m (bump m2 1):=k02.bump
  refine clone_ok k03.wf (hσ.keep hw k03) (iv_small hI.toIw) fun m4 lam b1 d1 b2 d2 b3 d3 ss js ls qs hO=>⟨_,_,_,_,_,_,_,_,_,_,_,rfl,?_⟩
  have hO:=hO.old0 hw k03
  rw [mBind_iff]
  have k5:Keep m4 (newO m4 (row [.int .i64 id,.int .i64 (pm.cNew q p).1.q,.int .i64 (pm.cNew q p).1.p,.int .i64 (pm.cNew q p).1.bud,.int .i64 (pm.cNew q p).1.due,.int .i64 (pm.cNew q p).1.mode,.slice none 0 0,.int .i64 0,.int .i64 0,.int .i64 0,.int .i64 0] t_model_Serv false)):=(Keep.refl hO.keep.wf).newO
  have hR:Row (newO m4 (row [.int .i64 id,.int .i64 (pm.cNew q p).1.q,.int .i64 (pm.cNew q p).1.p,.int .i64 (pm.cNew q p).1.bud,.int .i64 (pm.cNew q p).1.due,.int .i64 (pm.cNew q p).1.mode,.slice none 0 0,.int .i64 0,.int .i64 0,.int .i64 0,.int .i64 0] t_model_Serv false)) m4.nx (encS ⟨id,(pm.cNew q p).1,none,0,0,0,0,0,0⟩) t_model_Serv false:=Row.newO
  generalize newO m4 (row [.int .i64 id,.int .i64 (pm.cNew q p).1.q,.int .i64 (pm.cNew q p).1.p,.int .i64 (pm.cNew q p).1.bud,.int .i64 (pm.cNew q p).1.due,.int .i64 (pm.cNew q p).1.mode,.slice none 0 0,.int .i64 0,.int .i64 0,.int .i64 0,.int .i64 0] t_model_Serv false)=m5 at k5 hR
  have hO5:=hO.then k5
  have hblt:=hO.s1.lt hO.keep.wf
  have hale:=at_le σ.servs id
  refine insS_ok hO5 (i:=pm.at_ σ.servs id) (by omega) hR (fun b hb e=>by have:=(hblt b hb).2; omega) ⟨rfl,rfl,rfl⟩ (by omega) fun m6 hw6 f6 hx6 hR6=>⟨_,_,_,rfl,?_⟩
  obtain ⟨r1,r2,r3,r4⟩:=hO5.apartS (cx:=cx) f6 (fun b hb=>hO.s1l b hb) sBack
  have kk:Keep m m6:=Keep.of_fr hO5.keep hw6 f6 (fun b hb=>(hblt b hb).1)
  have hnew:RdServ m6 (⟨id,(pm.cNew q p).1,none,0,0,0,0,0,0⟩:SV) (⟨id,(pm.cNew q p).1,[],0,0,0,0⟩:pm.Serv):=⟨rfl,rfl,rfl,rfl,rfl,rfl,[],ArrP.nil,.nil⟩
  refine h m6 _ _ _ _ _ _ _ kk ⟨hσ.em,hσ.enow,⟨_,?_,all2_ins r1 _ hnew⟩,r2,r3,r4⟩
  have:=Arr.of_row encS_len hR6
  have e:(ss.take (pm.at_ σ.servs id) ++ (⟨id,(pm.cNew q p).1,none,0,0,0,0,0,0⟩:SV) :: ss.drop (pm.at_ σ.servs id)).length=n1+1:=by
   rw [List.length_append,List.length_cons,List.length_take,List.length_drop,hO.s1n]; omega
  rw [e] at this
  exact this
 ·intro J hJ
  refine split_b (fun h1=>hJ _ (by rw [h1]; rfl)) (fun h1=>hJ _ (by rw [h1]; rfl))
end
end Go.Proofs.YtiehbnmpaeedpaaGreat.vc
namespace Go.Proofs.YtiehbnmpaeedpaaGreat.vc
open Go Go.AX
section
variable {B:Int} {m0 m:Mem} {lam:Nat→Lb} {wj wq:Nat→Kd} {Q:Value→Mem→Prop} {M now:Int} {a1 a2 a3 ae:Option Addr} {n1 c1 n2 c2 n3 c3 ne ce:Nat} {ss:List SV} {js:Nat→List JV} {ls:List LV} {qs:Nat→List Int} {σ : pm.St} {E:List pm.Ev}
theorem mosts_ok (hw:Wf m) (hσ : RdSt cx m M now a1 n1 a2 n2 a3 n3 c3 σ) (hn2:n2≤1000)
  (h:∀ m' a c,Keep m m'→Q (.slice a n2 c) m') :
  CallV cx n_model_State_mosts [.agg #[.int .i64 M,.int .i64 now,.slice a1 n1 c1,.slice a2 n2 c2,.slice a3 n3 c3]] m Q:=by
 apply G_model_State_mosts_ok; unfold G_model_State_mosts
 have k0:Keep m (bump m 1):=(Keep.refl hw).bump
 obtain ⟨ls,hA,_⟩:=hσ.sems
 refine forN3 (show n2≤4611686018427387904 by omega) (fun k a n c mm=>∃ l,Acc m mm a n c 1 t_int64 l∧n=k) ⟨[],Acc.nil k0 _ _,rfl⟩ ?_
 rintro k a n c m1 hk ⟨l,hacc,rfl⟩ I w hI
 refine split_lt (fun hlt=>?_) (fun hge=>?_)
 ·obtain ⟨v,hv⟩:∃ v,ls[n]? = some v:=⟨_,List.getElem?_eq_getElem (by rw [hA.1]; exact hlt)⟩
  refine (hA.keep hw hacc.keep).open (k:=n) hv fun b o hc=>?_
  refine ⟨_,hc 0 _ rfl,_,hc 1 _ rfl,_,_,_,hc 2 _ rfl,_,hc 3 _ rfl,?_⟩
  rw [mBind_iff]
  obtain ⟨m4,q1,q2,q3,q4,q5⟩:=(hacc.then ((Keep.refl hacc.keep.wf).bump (n:=1))).push (cx:=cx) (t:=t_sl_int64) (vs:=[.int .i64 v.most]) (by kernel_rfl) rfl rfl (by omega)
  exact ⟨_,_,_,m4,q1,hI _ _ _ m4 hlt ⟨_,q2,rfl⟩⟩
 ·obtain rfl:n=n2:=by omega
  exact h m1 a c hacc.keep
theorem OwE.pushJ (h:OwE wj wq m0 m lam a1 n1 c1 a2 n2 c2 a3 n3 c3 ss js ls qs σ ae ne ce E) {i b o:Nat} {u:SV} {y:pm.Serv} {jv:JV} {jx:pm.Job} {xa:Option Addr} (hu:ss[i]? = some u) (hy:σ.servs[i]? = some y) (hab:a1=some ⟨b,o,none⟩) (hκ : wj i = .own true) (hx:firstL m 4 1 (.slice xa 1 1)=some (encJ jv)) (hd:DpJob m lam jv jx) (hn:u.jn≤900000) :
  ∃ m',appendA cx m [t_sl_job_Job,t_sl_job_Job] [.slice u.ja u.jn u.jc,.slice xa 1 1]=some (.slice (some ⟨m.nx,0,none⟩) (u.jn+1) (u.jn+1),m')∧okW m' b (o+Int.toNat (i:Int)*11+6) 1 ∧
   OwE wj wq m0 (wr m' b (o+Int.toNat (i:Int)*11+6) [.slice (some ⟨m.nx,0,none⟩) (u.jn+1) (u.jn+1)]) (upF lam m.nx (.jb i)) a1 n1 c1 a2 n2 c2 a3 n3 c3 (ss.set i { u with ja:=some ⟨m.nx,0,none⟩,jn:=u.jn+1,jc:=u.jn+1 }) (upF js i (js i ++ [jv])) ls qs { σ with servs:=σ.servs.set i { y with jobs:=y.jobs ++ [jx] } } ae ne ce E:=by
 have hw:=h.wf
 have hH:=h.ow.jb i u hu
 rw [hκ] at hH
 obtain ⟨p1,p2,p3⟩:=hH
 obtain ⟨m',q1,q2,q3,q4,q5⟩:=own_push (cx:=cx) (t:=t_sl_job_Job) (e:=t_job_Job) (s:=4) (vs:=encJ jv) (by kernel_rfl) hw (by have:=h.ow.keep.fl; have:=h.ow.fl0; omega) p1.own (by rw [flat_length encJ_len,p3]) hx rfl rfl hn
 have hR:Row m' m.nx ((js i ++ [jv]).flatMap encJ) t_job_Job true:=by rw [List.flatMap_append]; simpa using q5
 obtain ⟨g1,g2⟩:=h.ow.pushJ hu hy hab q2 q3 hκ (Nat.le_refl _) (by omega) hR hd
 have hlb:lam b = .sv:=h.ow.s1l b (by rw [hab]; simp [blk])
 have f2:Fr m (wr m' b (o+Int.toNat (i:Int)*11+6) [.slice (some ⟨m.nx,0,none⟩) (u.jn+1) (u.jn+1)]) (b :: blk u.ja):=(q3.mono (S':=b :: blk u.ja) (fun b' hb'=>.inl (List.mem_cons_of_mem _ hb'))).wr (.inl (List.mem_cons_self ..))
 have hS:∀ b'∈b :: blk u.ja,lam b' = .sv∨lam b' = .jb i:=fun b' hb'=>by
  rcases List.mem_cons.1 hb' with e | hb'
  ·subst e; exact .inl hlb
  ·exact .inr (p2 b' hb')
 refine ⟨m',q1,g1,⟨g2,h.ev.fr f2 hw (fun b' hb' hs=>?_),fun b' hb'=>⟨(h.evn b' hb').1,?_⟩⟩⟩
 ·have:=(h.evn b' hb').2
  rcases hS b' hs with e | e <;> rw [e] at this <;> cases this
 ·rw [upF_ne (fun e=>by have:=h.evlt b' hb'; omega)]; exact (h.evn b' hb').2
end
end Go.Proofs.YtiehbnmpaeedpaaGreat.vc
namespace Go.Proofs.YtiehbnmpaeedpaaGreat.vc
open Go Go.AX
section
variable {B:Int} {m0 m:Mem} {lam:Nat→Lb} {wj wq:Nat→Kd} {Q:Value→Mem→Prop} {M now:Int} {a1 a2 a3 ae:Option Addr} {n1 c1 n2 c2 n3 c3 ne ce:Nat} {ss:List SV} {js:Nat→List JV} {ls:List LV} {qs:Nat→List Int} {σ : pm.St} {E:List pm.Ev}
theorem release_ok {id:Int} {ap:Option Addr} {np cp:Nat} {p:List pm.Step} (hw:Wf m) (hσ : RdSt cx m M now a1 n1 a2 n2 a3 n3 c3 σ) (hI:pm.Iv B σ) (hB:B < 4611686018427387904) (hp:Arr encP 2 m ap np p)
  (h:∀ m' b1 d1 b2 d2 b3 d3 ae ne ce,Keep m m'→RdSt cx m' M now b1 n1 b2 n2 b3 n3 d3 (pm.release σ id p).1→Arr encEv 4 m' ae ne (pm.release σ id p).2.1→ne≤2→Q (.tuple #[.agg #[.int .i64 M,.int .i64 now,.slice b1 n1 d1,.slice b2 n2 d2,.slice b3 n3 d3],.slice ae ne ce,.int .i64 (pm.release σ id p).2.2]) m') :
  CallV cx n_model_Release [.agg #[.int .i64 M,.int .i64 now,.slice a1 n1 c1,.slice a2 n2 c2,.slice a3 n3 c3],.int .i64 id,.slice ap np cp] m Q:=by
 apply G_model_Release_ok; unfold G_model_Release
 have k0:Keep m (bump m 2):=(Keep.refl hw).bump
 have hz:=hI.len1
 have hz2:=hI.len2
 have hl1:=hσ.len1
 have hl2:=hσ.len2
 have en:=hσ.enow
 refine at_ok k0.wf (hσ.keep hw k0) hI.rise (by omega) fun m1 k1=>⟨_,_,rfl,?_⟩
 have k01:=k0.trans k1
 have same:∀ m' e,Keep m m'→pm.release σ id p=(σ,[],e)→Q (.tuple #[.agg #[.int .i64 M,.int .i64 now,.slice a1 n1 c1,.slice a2 n2 c2,.slice a3 n3 c3],.slice none 0 0,.int .i64 e]) m':=fun m' e k he=>by
  rw [he] at h
  exact h m' a1 c1 a2 c2 a3 c3 none 0 0 k (hσ.keep hw k) ArrP.nil (by omega)
 refine split_nb (fun h1=>same _ _ k01 (by unfold pm.release; rw [h1]; rfl)) (fun h1=>?_)
 obtain ⟨x,hx,hxid⟩:=pm.has_at hI.rise h1
 have hil:=(List.getElem?_eq_some_iff.1 hx).1
 have hxm:=List.mem_of_getElem? hx
 refine mosts_ok k01.wf (hσ.keep hw k01) (by omega) fun m2 am cm k2=>⟨_,_,_,rfl,?_⟩
 have k02:=k01.trans k2
 refine pFits_ok k02.wf (hp.keep hw k02) fun m3 k3=>⟨_,rfl,?_⟩
 have k03:=k02.trans k3
 have e2:pm.pFits p n2=pm.pFits p σ.sems.length:=by rw [hl2]
 rw [e2]
 refine split_nb (fun h2=>same _ _ k03 (by unfold pm.release; rw [h1,h2]; rfl)) (fun h2=>?_)
 obtain ⟨ss0,hA0,hS0⟩:=(hσ.keep hw k03).servs
 obtain ⟨v0,hv0,hR0⟩:=hS0.get' hx
 obtain ⟨jl0,hj0,hj0'⟩:=hR0.jobs
 have hjl:v0.jn=x.jobs.length:=by rw [← hj0'.len,hj0.1]
 refine hA0.open (k:=pm.at_ σ.servs id) hv0 fun b0 o0 hc0=>⟨_,_,_,hc0 6 _ rfl,?_⟩
 have e3:leI 8 (lenI v0.jn)=leI 8 (lenI x.jobs.length):=by rw [hjl]
 rw [e3]
 refine split_b (fun h3=>same _ _ k03 (by unfold pm.release; rw [h1,h2,hx]; simp only [h3]; rfl)) (fun h3=>?_)
 have h3':=leI_false.1 h3
 simp only [pm.len_eq] at h3'
 obtain ⟨hn1,hn2⟩:=hI.num x hxm
 obtain ⟨hpg,_⟩:=pm.pFits_iff.1 h2
 have enum:addI .i64 x.num 1=x.num+1:=addI_64 (by omega) (by omega)
 obtain ⟨j1,j2⟩:=pm.jNew_good (n:=x.num+1) h2 (by omega)
 refine clone_ok k03.wf (hσ.keep hw k03) (iv_small hI.toIw) fun m4 lam b1 d1 b2 d2 b3 d3 ss js ls qs hO=>⟨_,_,_,_,_,_,_,_,_,_,_,rfl,?_⟩
 have hE:=OwE.start (hO.old0 hw k03)
 obtain ⟨v,hv⟩:∃ v,ss[pm.at_ σ.servs id]? = some v:=⟨_,List.getElem?_eq_getElem (by rw [hE.ow.s1n]; omega)⟩
 generalize hi:pm.at_ σ.servs id=i at *
 have kb:Keep m4 (bump m4 1):=(Keep.refl hE.wf).bump
 have hE0:=hE.then kb
 obtain ⟨b,o,rfl,hlb,hc⟩:=hE0.ow.atS hv
 obtain ⟨d0,dj⟩:=hE0.ow.ds i v x hv hx
 refine ⟨⟨by omega,by omega⟩,?_⟩
 rw [vPtr_some]
 refine ⟨_,hc 9 _ rfl,?_⟩
 obtain ⟨g1,hE1⟩:=hE0.setS (x':={ x with num:=x.num+1 }) (v':={ v with num:=x.num+1 }) (k:=9) (vs:=[.int .i64 (x.num+1)]) hv hx rfl (by simp) rfl ⟨rfl,rfl,rfl⟩ rfl ⟨d0.id,d0.s,d0.sec,d0.held,rfl,d0.ran⟩
 have evn:addI .i64 v.num 1=x.num+1:=by rw [d0.num,enum]
 rw [evn]
 refine ⟨g1,?_⟩
 rw [mBind_iff]
 generalize wr (bump m4 1) b (o+Int.toNat (i:Int)*11+9) [.int .i64 (x.num+1)]=m5 at hE1
 have hv1:=set_get (y:={ v with num:=x.num+1 }) hv
 have hx1:=set_get (y:={ x with num:=x.num+1 }) hx
 obtain ⟨b',o',e,_,hc1⟩:=hE1.ow.atS hv1
 cases e
 refine ⟨_,hc1 9 _ rfl,?_⟩
 refine jNew_ok hE1.wf (hp.keep hw hE1.ow.keep) hpg fun m6 aj cj k6 hAj hnj=>?_
 rw [j1] at hAj ⊢
 simp only [cond_true]
 have hAj:Arr encP 2 m6 aj np p:=by
  rcases hAj with h | h
  ·exact h
  ·cases h
 refine ⟨_,_,_,_,_,_,_,rfl,?_⟩
 have hE2:=hE1.then k6
 obtain ⟨lam3,hE3,hlp,hch⟩:=hE2.hold encP_len (by omega) hAj (fun b hb=>.inl (hE1.ow.noNew (hnj b hb))) (fun b hb hs=>by cases hs)
 have hlb3:lam3 b = .sv:=by rw [(hch b).2 (by rw [hlb]; simp)]; exact hlb
 obtain ⟨b',o',e,_,hc3⟩:=(hE3.then ((Keep.refl hE3.wf).bump (n:=12))).ow.atS hv1
 cases e
 refine ⟨_,_,_,hc3 6 _ rfl,?_⟩
 have x61:(bump m6 1).nx=m6.nx+1:=rfl
 have kP:Keep m6 (addO (bump m6 12) ((bump m6 1).nx+6) (row [.int .i64 (x.num+1),.slice aj np cj,.int .i64 0,.int .i64 0] t_job_Job false)):=((Keep.refl hE3.wf).bump (n:=12)).addO (by omega) (by show (bump m6 1).nx+6 < m6.nx+12; omega)
 have hRj:Row (addO (bump m6 12) ((bump m6 1).nx+6) (row [.int .i64 (x.num+1),.slice aj np cj,.int .i64 0,.int .i64 0] t_job_Job false)) ((bump m6 1).nx+6) (encJ ⟨x.num+1,aj,np,cj,0,0⟩) t_job_Job false:=Row.of_row (by rw [addO_get,if_pos rfl]; rfl)
 generalize addO (bump m6 12) ((bump m6 1).nx+6) (row [.int .i64 (x.num+1),.slice aj np cj,.int .i64 0,.int .i64 0] t_job_Job false)=m7 at kP hRj
 have hE4:=hE3.then kP
 have hd:DpJob m7 lam3 ⟨x.num+1,aj,np,cj,0,0⟩ ⟨x.num+1,p,0,0⟩:=⟨rfl,rfl,rfl,hAj.keep hE3.wf kP,hlp⟩
 have hjv:v.jn≤900000:=by
  have h1:=(hE0.ow.jb i v hv).arr encJ_len
  have h2:=dj.len
  have h3:v.jn=x.jobs.length:=by rw [← h2,h1.1]
  omega
 obtain ⟨m8,r1,r2,hE5⟩:=hE4.pushJ (jx:=⟨x.num+1,p,0,0⟩) (xa:=some ⟨(bump m6 1).nx+6,0,none⟩) hv1 hx1 rfl rfl (hRj.first1 rfl) hd hjv
 refine ⟨_,_,_,m8,r1,r2,?_⟩
 rw [mBind_iff,mBind_iff]
 have hno7:lam3 m7.nx = .no:=hE4.ow.noNew (Nat.le_refl _)
 have hlb5:upF lam3 m7.nx (.jb i) b = .sv:=by rw [upF_ne (fun e=>by rw [e,hno7] at hlb3; cases hlb3)]; exact hlb3
 have hst:({ ({ σ with servs:=σ.servs.set i { x with num:=x.num+1 } }:pm.St) with servs:=(({ σ with servs:=σ.servs.set i { x with num:=x.num+1 } }:pm.St).servs).set i { ({ x with num:=x.num+1 }:pm.Serv) with jobs:=({ x with num:=x.num+1 }:pm.Serv).jobs ++ [⟨x.num+1,p,0,0⟩] } }:pm.St) = { σ with servs:=σ.servs.set i { x with num:=x.num+1,jobs:=x.jobs ++ [⟨x.num+1,p,0,0⟩] } }:=by
  simp [List.set_set]
 have hE5:=hE5.cast hst rfl
 generalize wr m8 b (o+Int.toNat (i:Int)*11+6) [.slice (some ⟨m7.nx,0,none⟩) (v.jn+1) (v.jn+1)]=m9 at hE5
 generalize upF lam3 m7.nx (.jb i)=lam5 at *
 have hv5:=set_get (y:={ v with num:=x.num+1,ja:=some ⟨m7.nx,0,none⟩,jn:=v.jn+1,jc:=v.jn+1 }) hv1
 have hx5:=set_get (y:={ x with num:=x.num+1,jobs:=x.jobs ++ [⟨x.num+1,p,0,0⟩] }) hx
 have k9:Keep m9 (bump m9 9):=(Keep.refl hE5.wf).bump
 obtain ⟨b',o',e,_,hc5⟩:=(hE5.then k9).ow.atS hv5
 cases e
 refine ⟨_,hc5 9 _ rfl,?_⟩
 refine event_ok k9.wf fun m10 k10=>⟨_,_,_,_,rfl,?_⟩
 rw [mBind_iff]
 have x9:(bump m9 9).nx=m9.nx+9:=rfl
 have x10:=k10.nx
 have k11:Keep m9 (addO m10 (m9.nx+7) (row [.int .i64 now,.int .i64 1,.int .i64 id,.int .i64 (x.num+1)] t_model_Event false)):=(k9.trans k10).addO (by omega) (by omega)
 have hRe:Row (addO m10 (m9.nx+7) (row [.int .i64 now,.int .i64 1,.int .i64 id,.int .i64 (x.num+1)] t_model_Event false)) (m9.nx+7) (encEv ⟨now,1,id,x.num+1⟩) t_model_Event false:=Row.of_row (by rw [addO_get,if_pos rfl]; rfl)
 generalize addO m10 (m9.nx+7) (row [.int .i64 now,.int .i64 1,.int .i64 id,.int .i64 (x.num+1)] t_model_Event false)=m11 at k11 hRe
 have hE6:=hE5.then k11
 have x11:=k11.nx
 have hbl:b < m9.nx:=hE5.ow.lab b (by rw [hlb5]; simp)
 have erel:pm.release σ id p=(bif !x.idle then ({ σ with servs:=σ.servs.set i { x with num:=x.num+1,jobs:=x.jobs ++ [⟨x.num+1,p,0,0⟩] } },[pm.event σ 1 id (x.num+1)],0) else
   bif neI (pm.cWake x.s σ.now).2 0 then (σ,[],(pm.cWake x.s σ.now).2) else
   ({ σ with servs:=σ.servs.set i { x with num:=x.num+1,jobs:=x.jobs ++ [⟨x.num+1,p,0,0⟩],s:=(pm.cWake x.s σ.now).1 } },[pm.event σ 1 id (x.num+1),pm.event σ 9 id 0],0)):=by
  unfold pm.release
  rw [h1,h2,hi,hx]
  simp only [h3,enum,j1]
  rfl
 refine joinK_of' (fun f:Option Addr→Nat→Nat→Mem→Prop=>∀ a n c mm τ evs lam ss js ls qs,OwE (fun _=>.own true) (fun _=>.own true) m mm lam (some ⟨b,o,none⟩) n1 d1 b2 n2 d2 b3 n3 d3 ss js ls qs τ none 0 0 []→Arr encEv 4 mm a n evs→n≤2→pm.release σ id p=(τ,evs,0)→τ.m = σ.m→τ.now = σ.now→f a n c mm) ?_ ?_
 ·intro a n c mm τ evs lam' ss' js' ls' qs' hE' hA' hn' he em' en'
  rw [he] at h
  exact h mm _ _ _ _ _ _ a n c hE'.ow.keep (hE'.ow.reads (by rw [em']; exact hσ.em) (by rw [en']; exact en) sBack) hA' hn'
 ·intro J hJ
  obtain ⟨b',o',e,_,hc6⟩:=hE6.ow.atS hv5
  cases e
  refine ⟨_,hc6 0 _ rfl,_,hc6 1 _ rfl,_,hc6 2 _ rfl,_,hc6 3 _ rfl,_,hc6 4 _ rfl,_,hc6 5 _ rfl,_,_,_,hc6 6 _ rfl,_,hc6 7 _ rfl,_,hc6 8 _ rfl,_,hc6 9 _ rfl,_,hc6 10 _ rfl,?_⟩
  refine idle_ok hE6.wf fun m13 k13=>⟨_,rfl,?_⟩
  have evs:v.s=x.s:=d0.s
  have eid:eqI v.s.mode 0=x.idle:=by unfold pm.Serv.idle; rw [evs]
  rw [eid]
  have hE7:=hE6.then k13
  have hRe7:=k13.row hE6.wf hRe
  have hAe:∀ mm,Row mm (m9.nx+7) (encEv ⟨now,1,id,x.num+1⟩) t_model_Event false→Arr encEv 4 mm (some ⟨m9.nx+7,0,none⟩) 1 [pm.event σ 1 id (x.num+1)]:=fun mm hR=>by
   have:=Arr.of_row encEv_len (l:=[(⟨now,1,id,x.num+1⟩:pm.Ev)]) (m:=mm) (b:=m9.nx+7) (by simpa using hR)
   unfold pm.event
   rw [← en]
   exact this
  refine split_b (fun h4=>?_) (fun h4=>?_)
  ·rw [h4] at erel
   simp only [Bool.not_true,cond_false] at erel
   have k3':Keep m13 (bump m13 13):=(Keep.refl hE7.wf).bump
   obtain ⟨b',o',e,_,hc7⟩:=(hE7.then k3').ow.atS hv5
   cases e
   refine ⟨_,hc7 1 _ rfl,_,hc7 2 _ rfl,_,hc7 3 _ rfl,_,hc7 4 _ rfl,_,hc7 5 _ rfl,?_⟩
   refine cWake_ok k3'.wf fun m14 k14=>⟨_,_,_,_,_,_,rfl,?_⟩
   have ev:(⟨v.s.q,v.s.p,v.s.bud,v.s.due,v.s.mode⟩:pm.Srv)=x.s:=d0.s
   rw [ev]
   rw [show pm.cWake x.s σ.now=pm.cWake x.s now by rw [en]] at erel
   generalize hW:pm.cWake x.s now=W at *
   have x14:=k14.nx
   have x13:(bump m13 13).nx=m13.nx+13:=rfl
   have kA:Keep m13 (addO m14 (m13.nx+10) (row [.int .i64 (0:Int),.int .i64 (0:Int),.int .i64 (0:Int),.int .i64 (0:Int),.int .i64 (0:Int)] t_cbs_Server false)):=(k3'.trans k14).addO (by omega) (by omega)
   have hR:Row (addO m14 (m13.nx+10) (row [.int .i64 (0:Int),.int .i64 (0:Int),.int .i64 (0:Int),.int .i64 (0:Int),.int .i64 (0:Int)] t_cbs_Server false)) (m13.nx+10) [.int .i64 (0:Int),.int .i64 (0:Int),.int .i64 (0:Int),.int .i64 (0:Int),.int .i64 (0:Int)] t_cbs_Server false:=Row.of_row (by rw [addO_get,if_pos rfl])
   generalize addO m14 (m13.nx+10) (row [.int .i64 (0:Int),.int .i64 (0:Int),.int .i64 (0:Int),.int .i64 (0:Int),.int .i64 (0:Int)] t_cbs_Server false)=m15 at kA hR
   refine ⟨hR.okW (by have:=kA.fl; have:=hE7.wf.1; omega) (by simp),?_⟩
   rw [mBind_iff,mBind_iff]
   have hR2:=hR.wr (o:=0) (vs:=[.int .i64 W.1.q,.int .i64 W.1.p,.int .i64 W.1.bud,.int .i64 W.1.due,.int .i64 W.1.mode]) (by simp)
   change Row _ _ [.int .i64 W.1.q,.int .i64 W.1.p,.int .i64 W.1.bud,.int .i64 W.1.due,.int .i64 W.1.mode] _ _ at hR2
   have kB:Keep m13 (wr m15 (m13.nx+10) 0 [.int .i64 W.1.q,.int .i64 W.1.p,.int .i64 W.1.bud,.int .i64 W.1.due,.int .i64 W.1.mode]):=kA.wr (by omega)
   generalize wr m15 (m13.nx+10) 0 [.int .i64 W.1.q,.int .i64 W.1.p,.int .i64 W.1.bud,.int .i64 W.1.due,.int .i64 W.1.mode]=m16 at kB hR2
   have hE8:=hE7.then kB
   refine split_b (fun h5=>?_) (fun h5=>?_)
   ·rw [h5,cond_true] at erel
    exact same m16 _ hE8.ow.keep erel
   ·rw [h5,cond_false] at erel
    refine ⟨_,by rw [hR2.rd]; rfl,_,by rw [hR2.rd]; rfl,_,by rw [hR2.rd]; rfl,_,by rw [hR2.rd]; rfl,_,by rw [hR2.rd]; rfl,?_⟩
    obtain ⟨d5,dj5⟩:=hE8.ow.ds i _ _ hv5 hx5
    obtain ⟨g9,hE9⟩:=hE8.setS (x':={ x with num:=x.num+1,jobs:=x.jobs ++ [⟨x.num+1,p,0,0⟩],s:=W.1 }) (v':={ v with num:=x.num+1,ja:=some ⟨m7.nx,0,none⟩,jn:=v.jn+1,jc:=v.jn+1,s:=W.1 }) (k:=1) (vs:=[.int .i64 W.1.q,.int .i64 W.1.p,.int .i64 W.1.bud,.int .i64 W.1.due,.int .i64 W.1.mode]) hv5 hx5 rfl (by simp) rfl ⟨rfl,rfl,rfl⟩ rfl ⟨d0.id,rfl,d0.sec,d0.held,rfl,d0.ran⟩
    refine ⟨g9,?_⟩
    rw [mBind_iff]
    have hne:m9.nx+7≠b:=by omega
    have hRe9:Row (wr m16 b (o+Int.toNat (i:Int)*11+1) [.int .i64 W.1.q,.int .i64 W.1.p,.int .i64 W.1.bud,.int .i64 W.1.due,.int .i64 W.1.mode]) (m9.nx+7) (encEv ⟨now,1,id,x.num+1⟩) t_model_Event false:=(kB.row hE7.wf hRe7).congr (wr_get hne)
    generalize wr m16 b (o+Int.toNat (i:Int)*11+1) [.int .i64 W.1.q,.int .i64 W.1.p,.int .i64 W.1.bud,.int .i64 W.1.due,.int .i64 W.1.mode]=m17 at hE9 hRe9
    refine event_ok hE9.wf fun m18 k18=>⟨_,_,_,_,rfl,?_⟩
    rw [mBind_iff]
    have k19:Keep m17 (newO m18 (row [.int .i64 now,.int .i64 9,.int .i64 id,.int .i64 0] t_model_Event false)):=k18.newO
    have hRf:Row (newO m18 (row [.int .i64 now,.int .i64 9,.int .i64 id,.int .i64 0] t_model_Event false)) m18.nx [.int .i64 now,.int .i64 9,.int .i64 id,.int .i64 0] t_model_Event false:=Row.newO
    generalize newO m18 (row [.int .i64 now,.int .i64 9,.int .i64 id,.int .i64 0] t_model_Event false)=m19 at k19 hRf
    have hRe19:=k19.row hE9.wf hRe9
    have hRe19':=hRe19
    obtain ⟨tr,hg,_⟩:=hRe19'
    have hap:=append_new (cx:=cx) (t:=t_sl_model_Event) (e:=t_model_Event) (s:=4) (m:=m19) (n:=1) (k:=1) (c:=1) (ck:=1) (a:=some ⟨m9.nx+7,0,none⟩) (v:=some ⟨m18.nx,0,none⟩) (old:=encEv ⟨now,1,id,x.num+1⟩) (new:=[.int .i64 now,.int .i64 9,.int .i64 id,.int .i64 0]) (by kernel_rfl)
     (by unfold giveUp; simp only [hg]) (hRe19.first1 rfl) rfl (hRf.first1 rfl) rfl rfl (by omega) (by omega)
    refine ⟨_,_,_,_,hap,?_⟩
    have k20:Keep m19 (newO m19 (row (encEv ⟨now,1,id,x.num+1⟩ ++ [.int .i64 now,.int .i64 9,.int .i64 id,.int .i64 0]) t_model_Event true)):=(Keep.refl k19.wf).newO
    have hR20:Row (newO m19 (row (encEv ⟨now,1,id,x.num+1⟩ ++ [.int .i64 now,.int .i64 9,.int .i64 id,.int .i64 0]) t_model_Event true)) m19.nx (([⟨now,1,id,x.num+1⟩,⟨now,9,id,0⟩]:List pm.Ev).flatMap encEv) t_model_Event true:=Row.newO
    refine hJ _ 2 2 _ _ [pm.event σ 1 id (x.num+1),pm.event σ 9 id 0] _ _ _ _ _ ((hE9.then k19).then k20) ?_ (by omega) (erel.trans ?_) rfl rfl
    ·unfold pm.event
     rw [← en]
     exact Arr.of_row encEv_len hR20
    ·simp [List.set_set]
  ·rw [h4] at erel
   simp only [Bool.not_false,cond_true] at erel
   exact hJ _ 1 1 m13 _ _ _ _ _ _ _ hE7 (hAe m13 hRe7) (by omega) erel rfl rfl
end
end Go.Proofs.YtiehbnmpaeedpaaGreat.vc
namespace Go.Proofs.YtiehbnmpaeedpaaGreat.vc
open Go Go.AX
set_option maxRecDepth 100000
noncomputable section
end
end Go.Proofs.YtiehbnmpaeedpaaGreat.vc
