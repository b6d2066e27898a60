import Derived.Test.YtiehbnmpaeedpaaGreatQJ41
import Derived.Test.YtiehbnmpaeedpaaGreatQJ29
import Derived.Test.YtiehbnmpaeedpaaGreatQJ33
import Derived.Test.YtiehbnmpaeedpaaGreatQJ30
set_option linter.unusedVariables false
set_option linter.unusedSimpArgs false
set_option linter.unusedSectionVars false
namespace Go.Proofs.YtiehbnmpaeedpaaGreat.vc
open Go Go.AX
section
variable {B:Int} {m0 m:Mem} {Q:Value→Mem→Prop} {M now:Int} {a1 a2 a3:Option Addr} {n1 c1 n2 c2 n3 c3:Nat} {σ : pm.St}
theorem awake_ok (h:Q (.bool true) m):CallV cx n_law_awake [] m Q:=CallV.ov ovNi ov_awake rfl h
end
end Go.Proofs.YtiehbnmpaeedpaaGreat.vc
namespace Go.Proofs.YtiehbnmpaeedpaaGreat.vc
open Go Go.AX
section
variable {m:Mem}
theorem dec_at' {a b:Nat} (h:b < a):a - (b+1) < a - b:=by omega
theorem inc_at' {k:Nat} (h:k≤1000000):addI .i64 (k:Int) 1=((k+1:Nat):Int):=by
 rw [addI_64 (by omega) (by omega)]; rfl
theorem kind_succ {E:List pm.Ev} {k:Nat} {e:pm.Ev} (h:E[k]? = some e):((E.take (k+1)).any fun e=>eqI e.kind 2)=(((E.take k).any fun e=>eqI e.kind 2) || eqI e.kind 2):=by
 rw [List.take_add_one,h,List.any_append]
 simp
theorem want_eq {q p n:Int} (hq:1≤q) (hqp:q≤p) (hp:p≤50) (hn:1≤n) (hn2:n≤60):subI .i64 (addI .i64 (mulI .i64 (quoI .i64 (subI .i64 n 1) q) p) n) (mulI .i64 (quoI .i64 (subI .i64 n 1) q) q)=pm.wants q p n:=by
 obtain ⟨b1,b2,b3,b4,b5,b6,b7⟩:=pm.wants_bnd hq hqp hp hn hn2
 have e1:subI .i64 n 1=n - 1:=subI_64 (by omega) (by omega)
 have e2:quoI .i64 (n - 1) q=(n - 1) / q:=by
  unfold quoI
  rw [Int.tdiv_eq_ediv_of_nonneg (by omega)]
  exact wrapI_64 (by omega) (by omega)
 have e3:mulI .i64 ((n - 1) / q) p=(n - 1) / q*p:=mulI_64 (by omega) (by omega)
 have e4:mulI .i64 ((n - 1) / q) q=(n - 1) / q*q:=mulI_64 (by omega) (by omega)
 have e5:addI .i64 ((n - 1) / q*p) n=(n - 1) / q*p+n:=addI_64 (by omega) (by omega)
 rw [e1,e2,e3,e4,e5]
 unfold pm.wants
 exact subI_64 (by omega) (by omega)
theorem wants_le {q p n:Int} (hq:1≤q) (hqp:q≤p) (hp:p≤50) (hn:1≤n) (hn2:n≤60):1≤pm.wants q p n∧pm.wants q p n≤4000:=by
 obtain ⟨b1,b2,b3,b4,b5,b6,b7⟩:=pm.wants_bnd hq hqp hp hn hn2
 unfold pm.wants
 omega
theorem jobs_law {q p n:Int} (hw:Wf m) :
  CallV cx n_law_ModelJobs [.int .i64 q,.int .i64 p,.int .i64 n] m fun r _=>r = .bool true:=by
 apply G_law_ModelJobs_ok; unfold G_law_ModelJobs
 refine awake_ok ⟨true,rfl,split_nb (fun h=>by cases h) (fun _=>?_)⟩
 refine joinK_of' (fun f:Mem→Prop=>1≤q→q≤p→p≤50→1≤n→n≤60→f m) ?_ ?_
 ·intro hq hqp hp hn hn2
  obtain ⟨g1,g2,gl,g3⟩:=pm.lone_begin hq hqp hp hn hn2
  refine new_ok hw (ArrP.nil (P:=Cells encI) (s:=1)) (fun m1 k1 hne _=>absurd (show (pm.new 1 []).2=0 by rw [g1]) hne) (fun m1 b2 d2 k1 he hR=>⟨_,_,_,_,_,_,_,_,_,_,_,_,rfl,?_⟩)
  have hI0:=(pm.new_iv he).1
  rw [g1] at hR hI0
  have kb:Keep m1 (bump m1 1):=(Keep.refl k1.wf).bump
  refine add_ok kb.wf (hR.keep k1.wf kb) hI0 fun m2 b1 n1' d1 b2' d2' b3 d3 k2 hR2=>⟨_,_,_,_,_,_,_,_,_,_,_,_,rfl,?_⟩
  have hI1:=(pm.add_iv hI0 (Int.le_refl _) 1 q p).1
  rw [g2] at hR2 hI1 ⊢
  rw [mBind_iff]
  have k3:Keep m2 (newO m2 (row [.int .i64 (0:Int),.int .i64 n] t_prog_Step false)):=(Keep.refl k2.wf).newO
  have hP:Arr encP 2 (newO m2 (row [.int .i64 (0:Int),.int .i64 n] t_prog_Step false)) (some ⟨m2.nx,0,none⟩) 1 [((0,n):pm.Step)]:=Arr.of_row encP_len (Row.newO (l:=([((0,n):pm.Step)]).flatMap encP))
  refine release_ok k3.wf (hR2.keep k2.wf k3) hI1 (by omega) hP fun m6 c1 e1 c2 e2 c3 e3 ae ne ce k6 hR6 _ _=>⟨_,_,_,_,_,_,_,_,_,_,_,_,_,_,_,rfl,?_⟩
  have hI2:=(pm.release_iv hI1 (by omega) 1 [(0,n)]).1
  rw [g3] at hR6 hI2 ⊢
  refine joinK_of' (fun f:Mem→Prop=>f m6) ?_ ?_
  ·refine ⟨by omega,?_⟩
   rw [want_eq hq hqp hp hn hn2]
   obtain ⟨hW1,hW2⟩:=wants_le hq hqp hp hn hn2
   refine ⟨fun x14 xc xc1 ac nc cc ac2 nc2 cc2 ac3 nc3 cc3 mm w=>xc=1∧1≤x14∧x14≤pm.wants q p n+1∧w=(pm.wants q p n+1 - x14).toNat∧∃ τ,RdSt cx mm 1 xc1 ac nc ac2 nc2 ac3 nc3 cc3 τ∧pm.Iv 1 τ∧Keep m6 mm ∧
    ((x14≤pm.wants q p n∧∃ w r,τ = pm.lone q p n w r∧0≤w∧0≤r∧r≤p∧w*p+r+1=x14∧w*q+min r q < n)∨(x14=pm.wants q p n+1∧∃ x,τ.servs=[x]∧x.id=1∧x.ran=n∧x.s.mode=0)),
    ⟨_,rfl,Int.le_refl _,by omega,rfl,_,hR6,hI2,Keep.refl k6.wf,.inl ⟨hW1,0,0,rfl,by omega,by omega,by omega,by omega,by omega⟩⟩,?_⟩
   rintro t xc xc1 ac nc cc ac2 nc2 cc2 ac3 nc3 cc3 mm w ⟨rfl,ht1,ht2,rfl,τ,hS,hI,kk,hor⟩
   refine split_leI (fun hle=>?_) (fun hgt=>?_)
   ·obtain ⟨_,w,r,rfl,hw0,hr0,hrp,hwt,hd⟩:_∧_:=by
     rcases hor with h | ⟨h,_⟩
     ·exact h
     ·exact absurd h (by omega)
    obtain ⟨τ',E,et,hcase⟩:=pm.lone_next hI hq hqp hp hr0 hrp hw0 hn hn2 hd
    refine tick_ok kk.wf hS hI fun m9 now9 u1 u2 u3 u4 u5 u6 ua un uc k9 hX hXE hun=>⟨_,_,_,_,_,_,_,_,_,_,_,_,_,_,_,rfl,?_⟩
    have hIX:=(pm.tick_iv hI).1
    rw [et] at hX hXE hIX ⊢
    refine split_ne (fun e=>absurd rfl e) (fun _=>?_)
    have k9b:Keep m9 (bump m9 1):=(Keep.refl k9.wf).bump
    refine ⟨fun b18 x19 mi w=>∃ k:Nat,x19=(k:Int)∧k≤un∧w=un - k∧b18=((E.take k).any fun e=>eqI e.kind 2)∧Keep m9 mi,⟨_,0,rfl,Nat.zero_le _,rfl,rfl,k9b⟩,?_⟩
    rintro b18 x19 mi w' ⟨k,rfl,hk,rfl,rfl,ki⟩
    refine split_lt (fun hlt=>?_) (fun hge=>?_)
    ·obtain ⟨e,he⟩:∃ e,E[k]? = some e:=⟨_,List.getElem?_eq_getElem (by rw [hXE.1]; exact hlt)⟩
     have ea:=inc_at' (k:=k) (by clear hcase hor; omega)
     refine split_b (fun hb=>⟨un - (k+1),dec_at' hlt,k+1,ea,hlt,rfl,by rw [kind_succ he,hb]; rfl,ki⟩) (fun hb=>?_)
     refine (hXE.keep k9.wf ki).open (k:=k) he fun b o hc=>⟨_,hc 1 _ rfl,un - (k+1),dec_at' hlt,k+1,ea,hlt,rfl,by rw [kind_succ he,hb]; rfl,ki⟩
    ·rw [List.take_of_length_le (by rw [hXE.1]; exact hge)]
     have ea:addI .i64 t 1=t+1:=addI_64 (by clear hcase hor; omega) (by clear hcase hor; omega)
     rw [ea]
     rcases hcase with ⟨f1,f2,w',r',rfl,f4,f5,f6,f7,f8⟩ | ⟨f1,⟨e',f2,f3⟩,x,f4,f5,f6,f7⟩
     ·have e1:(E.any fun e=>eqI e.kind 2)=false:=by
       rw [List.any_eq_false]
       intro e he
       rw [eqI_false.2 (f2 e he)]; decide
      have e2:eqI t (pm.wants q p n)=false:=eqI_false.2 (by omega)
      rw [e1,e2]
      refine split_nb (fun h=>by cases h) (fun _=>⟨_,?_,rfl,by omega,by omega,rfl,_,hX.keep k9.wf ki,hIX,kk.trans (k9.trans ki),.inl ⟨by omega,w',r',rfl,f4,f5,f6,by omega,f8⟩⟩)
      omega
     ·have e1:(E.any fun e=>eqI e.kind 2)=true:=List.any_eq_true.2 ⟨e',f2,eqI_true.2 f3⟩
      have e2:eqI t (pm.wants q p n)=true:=eqI_true.2 (by omega)
      rw [e1,e2]
      refine split_nb (fun h=>by cases h) (fun _=>⟨_,?_,rfl,by omega,by omega,rfl,_,hX.keep k9.wf ki,hIX,kk.trans (k9.trans ki),.inr ⟨by omega,x,f4,f5,f6,f7⟩⟩)
      omega
   ·obtain ⟨_,x,f4,f5,f6,f7⟩:_∧_:=by
     rcases hor with ⟨h,_⟩ | h
     ·exact absurd h (by omega)
     ·exact h
    have hat:pm.at_ τ.servs 1=0:=by rw [f4]; exact pm.at_one x f5
    refine find_ok kk.wf hS hI (fun m' k' hno=>?_) (fun m' v x' k' _ hx' _ hv=>⟨_,_,_,_,_,_,_,_,_,_,_,_,_,_,rfl,?_⟩)
    ·exfalso
     unfold pm.has at hno
     rw [hat,f4] at hno
     have h5:eqI x.id 1=false:=hno
     rw [eqI_true.2 f5] at h5; cases h5
    ·rw [hat,f4] at hx'
     cases hx'
     have e1:v.ran=n:=hv.ran.trans f6
     have e2:v.s.mode=0:=by rw [hv.s]; exact f7
     rw [e1,e2]
     refine split_b (fun _=>split_eq (fun _=>?_) (fun e=>absurd rfl e)) (fun h=>by cases h)
     rw [eqI_true.2 rfl]
  ·intro J hJ
   exact split_ne (fun e=>absurd rfl e) (fun _=>split_ne (fun e=>absurd rfl e) (fun _=>hJ))
 ·intro J hJ
  exact split_ltI (fun _=>rfl) (fun h1=>split_ltI (fun _=>rfl) (fun h2=>split_ltI (fun _=>rfl) (fun h3=>split_ltI (fun _=>rfl) (fun h4=>split_ltI (fun _=>rfl) (fun h5=>hJ h1 h2 h3 h4 h5)))))
end
end Go.Proofs.YtiehbnmpaeedpaaGreat.vc
