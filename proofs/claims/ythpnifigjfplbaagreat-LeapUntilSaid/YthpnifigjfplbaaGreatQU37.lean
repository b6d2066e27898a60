import Derived.Test.YthpnifigjfplbaaGreatQU32
import Derived.KernelRfl
import Derived.Test.YthpnifigjfplbaaGreatQU36
import Derived.Test.YthpnifigjfplbaaGreatQU27
set_option linter.unusedVariables false
set_option linter.unusedSimpArgs false
set_option linter.unusedSectionVars false
namespace Go.Proofs.YthpnifigjfplbaaGreat.vc
open Go Go.AX
set_option maxRecDepth 100000
noncomputable section
def lC(a0:Option Addr)(n0 c0:Nat)(x1:Int)(m:Mem)(Q:Value->Mem->Prop):Prop:=
 (∃Inv:Int->Mem->Nat->Prop,(∃n:Nat,Inv (0:Int) m n)/\
 (∀(x8:Int),∀(m1:Mem) (n_1:Nat),Inv (x8) m1 n_1->
 (splitB (cR (x8) (aQ (n0)))
 ((0<=(x8)/\(x8)<((n0:Nat):Int))/\(cZ a0 fun ba0 oa0=>(∃(x15:Int),rd m1 ba0 (oa0+Int.toNat (x8)*1)=some (.int .i64 (x15))/\(splitB (cT (x1) (x15))
 (Q (.int .i64 (x8)) m1)
 (∃n_2:Nat,n_2<n_1/\Inv (bh .i64 (x8) (1:Int)) m1 n_2)))))
 (Q (.int .i64 (-1:Int)) m1))))
theorem uu{a0:Option Addr}{n0 c0:Nat}{x1:Int}{m:Mem}{Q:Value->Mem->Prop}(h:lC a0 n0 c0 x1 m Q):ah cx jd [.slice a0 (n0) (c0),.int .i64 (x1)] m Q:=
 have e:lC a0 n0 c0 x1 m Q=iz cx Tryz.f116 [] [none,none,none,some ⟨[0,1,7],[(8,.int .i64)],[],[],[],0⟩] [.slice a0 (n0) (c0),.int .i64 (x1)] m Q:=by kernel_rfl
 ah.of di db (by kernel_rfl) (by kernel_rfl) (Eq.mp e h)
def jW(a0:Option Addr)(n0 c0:Nat)(x1:Int)(m:Mem)(Q:Value->Mem->Prop):Prop:=
 (ah cx jd [.slice a0 (n0) (c0),.int .i64 (x1)] m fun r7 m1=>(∃(x7:Int),r7=(.int .i64 (x7))/\(Q (.bool (leI (0:Int) (x7))) m1)))
theorem rT{a0:Option Addr}{n0 c0:Nat}{x1:Int}{m:Mem}{Q:Value->Mem->Prop}(h:jW a0 n0 c0 x1 m Q):ah cx ig [.slice a0 (n0) (c0),.int .i64 (x1)] m Q:=
 have e:jW a0 n0 c0 x1 m Q=iz cx Tryz.f77 [] [] [.slice a0 (n0) (c0),.int .i64 (x1)] m Q:=by kernel_rfl
 ah.of di db (by kernel_rfl) (by kernel_rfl) (Eq.mp e h)
def gN(a0:Option Addr)(n0 c0:Nat)(v1:Value)(m:Mem)(Q:Value->Mem->Prop):Prop:=
 (∃Inv:Int->Mem->Nat->Prop,(∃n:Nat,Inv (0:Int) m n)/\
 (∀(x8:Int),∀(m1:Mem) (n_1:Nat),Inv (x8) m1 n_1->
 (splitB (cR (x8) (aQ (n0)))
 ((0<=(x8)/\(x8)<((n0:Nat):Int))/\(cZ a0 fun ba0 oa0=>(∃(x15:Int),rd m1 ba0 (oa0+Int.toNat (x8)*11)=some (.int .i64 (x15))/\(∃(x15_2:Int),rd m1 ba0 (oa0+Int.toNat (x8)*11+1)=some (.int .i64 (x15_2))/\(∃(x15_3:Int),rd m1 ba0 (oa0+Int.toNat (x8)*11+2)=some (.int .i64 (x15_3))/\(∃(x15_4:Int),rd m1 ba0 (oa0+Int.toNat (x8)*11+3)=some (.int .i64 (x15_4))/\(∃(x15_5:Int),rd m1 ba0 (oa0+Int.toNat (x8)*11+4)=some (.int .i64 (x15_5))/\(∃(x15_6:Int),rd m1 ba0 (oa0+Int.toNat (x8)*11+5)=some (.int .i64 (x15_6))/\(∃(a15:Option Addr) (n15 c15:Nat),rd m1 ba0 (oa0+Int.toNat (x8)*11+6)=some (.slice a15 (n15) (c15))/\(∃(x15_7:Int),rd m1 ba0 (oa0+Int.toNat (x8)*11+7)=some (.int .i64 (x15_7))/\(∃(x15_8:Int),rd m1 ba0 (oa0+Int.toNat (x8)*11+8)=some (.int .i64 (x15_8))/\(∃(x15_9:Int),rd m1 ba0 (oa0+Int.toNat (x8)*11+9)=some (.int .i64 (x15_9))/\(∃(x15_10:Int),rd m1 ba0 (oa0+Int.toNat (x8)*11+10)=some (.int .i64 (x15_10))/\(jJ cx m1 (v1) [.agg #[.int .i64 (x15),.int .i64 (x15_2),.int .i64 (x15_3),.int .i64 (x15_4),.int .i64 (x15_5),.int .i64 (x15_6),.slice a15 (n15) (c15),.int .i64 (x15_7),.int .i64 (x15_8),.int .i64 (x15_9),.int .i64 (x15_10)]] fun r16 m2=>(∃(b16:Bool),r16=(.bool (b16))/\(splitB (b16)
 (Q (.int .i64 (x8)) m2)
 (∃n_11:Nat,n_11<n_1/\Inv (bh .i64 (x8) (1:Int)) m2 n_11)))))))))))))))))
 (Q (.int .i64 (-1:Int)) m1))))
theorem nY{a0:Option Addr}{n0 c0:Nat}{v1:Value}{m:Mem}{Q:Value->Mem->Prop}(h:gN a0 n0 c0 v1 m Q):ah cx jT [.slice a0 (n0) (c0),v1] m Q:=
 have e:gN a0 n0 c0 v1 m Q=iz cx Tryz.f123 [] [none,none,none,some ⟨[0,1,7],[(8,.int .i64)],[],[],[],0⟩] [.slice a0 (n0) (c0),v1] m Q:=by kernel_rfl
 ah.of di db (by kernel_rfl) (by kernel_rfl) (Eq.mp e h)
def gt(a0:Option Addr)(n0 c0:Nat)(v1:Value)(m:Mem)(Q:Value->Mem->Prop):Prop:=
 (ah cx jT [.slice a0 (n0) (c0),v1] m fun r7 m1=>(∃(x7:Int),r7=(.int .i64 (x7))/\(Q (.bool (leI (0:Int) (x7))) m1)))
theorem mM{a0:Option Addr}{n0 c0:Nat}{v1:Value}{m:Mem}{Q:Value->Mem->Prop}(h:gt a0 n0 c0 v1 m Q):ah cx iZ [.slice a0 (n0) (c0),v1] m Q:=
 have e:gt a0 n0 c0 v1 m Q=iz cx Tryz.f83 [] [] [.slice a0 (n0) (c0),v1] m Q:=by kernel_rfl
 ah.of di db (by kernel_rfl) (by kernel_rfl) (Eq.mp e h)
def mi(a0:Option Addr)(n0 c0:Nat)(x1:Int)(m:Mem)(Q:Value->Mem->Prop):Prop:=
 (dJ (fun(m1:Mem)=>(∃x10:Int,mF cx m1 [dt] [.slice a0 (n0) (c0)]=some (.int .i64 x10)/\(splitB (cR (0:Int) (de .i64 (x1) (de .i64 (x10) (aQ (n0)))))
 (∃x19:Int,mF cx m1 [dt] [.slice a0 (n0) (c0)]=some (.int .i64 x19)/\(∃(a20:Option Addr) (n20 c20:Nat),cX cx m1 dt (.slice a0 (n0) (c0)) none (some (.int .i64 (x19))) none=some (.slice a20 (n20) (c20))/\(∃(a22:Option Addr) (n22 c22:Nat) (m2:Mem),cQ cx m1 [dt,t_int] [.slice a20 (n20) (c20),.int .i64 (de .i64 (x1) (de .i64 (x10) (aQ (n0))))]=some (.slice a22 (n22) (c22),m2)/\(∃(a25:Option Addr) (n25 c25:Nat),cX cx m2 dt (.slice a22 (n22) (c22)) none (some (.int .i64 (aQ (n0)))) none=some (.slice a25 (n25) (c25))/\(Q (.slice a25 (n25) (c25)) m2)))))
 (Q (.slice a0 (n0) (c0)) m1)))) fun J=>
 (splitB (cR (x1) (0:Int))
 False
 (J m)))
theorem uC{a0:Option Addr}{n0 c0:Nat}{x1:Int}{m:Mem}{Q:Value->Mem->Prop}(h:mi a0 n0 c0 x1 m Q):ah cx mh [.slice a0 (n0) (c0),.int .i64 (x1)] m Q:=
 have e:mi a0 n0 c0 x1 m Q=iz cx Tryz.f162 [] [none,some ⟨[0,1],[],[],[],[],0⟩] [.slice a0 (n0) (c0),.int .i64 (x1)] m Q:=by kernel_rfl
 ah.of di db (by kernel_rfl) (by kernel_rfl) (Eq.mp e h)
def kT(a0:Option Addr)(n0 c0:Nat)(m:Mem)(Q:Value->Mem->Prop):Prop:=
 (∃Inv:Int->Int->Mem->Nat->Prop,(∃n:Nat,Inv (0:Int) (0:Int) m n)/\
 (∀(x3:Int) (x11:Int),∀(m1:Mem) (n_1:Nat),Inv (x3) (x11) m1 n_1->
 (splitB (cR (x11) (aQ (n0)))
 ((0<=(x11)/\(x11)<((n0:Nat):Int))/\(cZ a0 fun ba0 oa0=>(∃(a14:Option Addr) (n14 c14:Nat),rd m1 ba0 (oa0+Int.toNat (x11)*1)=some (.slice a14 (n14) (c14))/\(splitB (cR (bh .i64 (x3) (aQ (n14))) (0:Int))
 False
 (∃n_2:Nat,n_2<n_1/\Inv (bh .i64 (x3) (aQ (n14))) (bh .i64 (x11) (1:Int)) m1 n_2)))))
 (ah cx mh [.slice none (0) (0),.int .i64 (x3)] m1 fun r24 m2=>(∃(a24:Option Addr) (n24 c24:Nat),r24=(.slice a24 (n24) (c24))/\(∃Inv_3:Option Addr->Nat->Nat->Int->Mem->Nat->Prop,(∃n_4:Nat,Inv_3 a24 (n24) (c24) (0:Int) m2 n_4)/\
 (∀(a6:Option Addr) (n6 c6:Nat) (x27:Int),∀(m3:Mem) (n_5:Nat),Inv_3 a6 (n6) (c6) (x27) m3 n_5->
 (splitB (cR (x27) (aQ (n0)))
 ((0<=(x27)/\(x27)<((n0:Nat):Int))/\(cZ a0 fun ba0_6 oa0_7=>(∃(a30:Option Addr) (n30 c30:Nat),rd m3 ba0_6 (oa0_7+Int.toNat (x27)*1)=some (.slice a30 (n30) (c30))/\(∃(a33:Option Addr) (n33 c33:Nat) (m4:Mem),cQ cx m3 [dt,dt] [.slice a6 (n6) (c6),.slice a30 (n30) (c30)]=some (.slice a33 (n33) (c33),m4)/\(∃n_8:Nat,n_8<n_5/\Inv_3 a33 (n33) (c33) (bh .i64 (x27) (1:Int)) m4 n_8)))))
 (Q (.slice a6 (n6) (c6)) m3)))))))))
theorem sQ{a0:Option Addr}{n0 c0:Nat}{m:Mem}{Q:Value->Mem->Prop}(h:kT a0 n0 c0 m Q):ah cx kS [.slice a0 (n0) (c0)] m Q:=
 have e:kT a0 n0 c0 m Q=iz cx Tryz.f152 [] [none,none,none,none,some ⟨[0,9,10],[(3,.int .i64),(11,.int .i64)],[],[],[],0⟩,none,none,none,none,none,none,none,none,none,some ⟨[25,26],[(6,.sl),(27,.int .i64)],[],[],[],1⟩] [.slice a0 (n0) (c0)] m Q:=by kernel_rfl
 ah.of di db (by kernel_rfl) (by kernel_rfl) (Eq.mp e h)
def xJ(x0:Int)(m:Mem)(Q:Value->Mem->Prop):Prop:=
 (cY (newO m (row [.int .i64 (fG (ke (x0) (1:Int)) (256:Int)),.slice none (0) (0)] t_fifo_Fifo false)) fun m1=>(Q (.pointer (some ⟨m.nx,0,none⟩)) m1))
theorem Ft{x0:Int}{m:Mem}{Q:Value->Mem->Prop}(h:xJ x0 m Q):ah cx sP [.int .i64 (x0)] m Q:=
 have e:xJ x0 m Q=iz cx Tryz.f147 [] [] [.int .i64 (x0)] m Q:=by kernel_rfl
 ah.of di db (by kernel_rfl) (by kernel_rfl) (Eq.mp e h)
def mN(p0:Option Addr)(x1:Int)(m:Mem)(Q:Value->Mem->Prop):Prop:=
 (cZ p0 fun bp0 op0=>(∃(a8:Option Addr) (n8 c8:Nat),rd m bp0 (op0+1)=some (.slice a8 (n8) (c8))/\(ah cx jd [.slice a8 (n8) (c8),.int .i64 (x1)] m fun r10 m1=>(∃(x10:Int),r10=(.int .i64 (x10))/\(Q (.int .i64 (x10)) m1)))))
theorem vN{p0:Option Addr}{x1:Int}{m:Mem}{Q:Value->Mem->Prop}(h:mN p0 x1 m Q):ah cx mL [.pointer p0,.int .i64 (x1)] m Q:=
 have e:mN p0 x1 m Q=iz cx Tryz.f148 [] [] [.pointer p0,.int .i64 (x1)] m Q:=by kernel_rfl
 ah.of di db (by kernel_rfl) (by kernel_rfl) (Eq.mp e h)
def oB(p0:Option Addr)(x1:Int)(m:Mem)(Q:Value->Mem->Prop):Prop:=
 (cZ p0 fun bp0 op0=>(∃(a8:Option Addr) (n8 c8:Nat),rd ((bump m 10)) bp0 (op0+1)=some (.slice a8 (n8) (c8))/\(cZ p0 fun bp0_1 op0_2=>(∃(x13:Int),rd ((bump m 10)) bp0_1 (op0_2)=some (.int .i64 (x13))/\(splitB (cT (aQ (n8)) (x13))
 (Q (.bool (false)) (bump m 10))
 (cZ p0 fun bp0_3 op0_4=>(∃(a19:Option Addr) (n19 c19:Nat),rd (bump m 10) bp0_3 (op0_4+1)=some (.slice a19 (n19) (c19))/\(cY (newO (bump m 10) (row [.int .i64 (x1)] t_int false)) fun m1=>(∃(a22:Option Addr) (n22 c22:Nat) (m2:Mem),cQ cx m1 [dt,dt] [.slice a19 (n19) (c19),.slice (some ⟨((bump m 10)).nx,0,none⟩) (1) (1)]=some (.slice a22 (n22) (c22),m2)/\(cZ p0 fun bp0_5 op0_6=>(okW m2 bp0_5 (op0_6+1) 1/\(cY (wr m2 bp0_5 (op0_6+1) [.slice a22 (n22) (c22)]) fun m3=>(Q (.bool (true)) m3)))))))))))))
theorem xG{p0:Option Addr}{x1:Int}{m:Mem}{Q:Value->Mem->Prop}(h:oB p0 x1 m Q):ah cx lh [.pointer p0,.int .i64 (x1)] m Q:=
 have e:oB p0 x1 m Q=iz cx Tryz.f149 [] [] [.pointer p0,.int .i64 (x1)] m Q:=by kernel_rfl
 ah.of di db (by kernel_rfl) (by kernel_rfl) (Eq.mp e h)
def oD(p0:Option Addr)(m:Mem)(Q:Value->Mem->Prop):Prop:=
 (cZ p0 fun bp0 op0=>(∃(a6:Option Addr) (n6 c6:Nat),rd m bp0 (op0+1)=some (.slice a6 (n6) (c6))/\(ah cx iY [.slice a6 (n6) (c6)] m fun r7 m1=>(∃(a7:Option Addr) (n7 c7:Nat),r7=(.slice a7 (n7) (c7))/\(Q (.slice a7 (n7) (c7)) m1)))))
theorem xL{p0:Option Addr}{m:Mem}{Q:Value->Mem->Prop}(h:oD p0 m Q):ah cx oz [.pointer p0] m Q:=
 have e:oD p0 m Q=iz cx Tryz.f150 [] [] [.pointer p0] m Q:=by kernel_rfl
 ah.of di db (by kernel_rfl) (by kernel_rfl) (Eq.mp e h)
def oC(p0:Option Addr)(m:Mem)(Q:Value->Mem->Prop):Prop:=
 (cZ p0 fun bp0 op0=>(∃(a6:Option Addr) (n6 c6:Nat),rd m bp0 (op0+1)=some (.slice a6 (n6) (c6))/\(Q (.int .i64 (aQ (n6))) m)))
theorem xK{p0:Option Addr}{m:Mem}{Q:Value->Mem->Prop}(h:oC p0 m Q):ah cx sB [.pointer p0] m Q:=
 have e:oC p0 m Q=iz cx Tryz.f161 [] [] [.pointer p0] m Q:=by kernel_rfl
 ah.of di db (by kernel_rfl) (by kernel_rfl) (Eq.mp e h)
def vP(x0:Int)(m:Mem)(Q:Value->Mem->Prop):Prop:=
 (ah cx sP [.int .i64 (fG (ke (x0) (1:Int)) (256:Int))] m fun r8 m1=>(∃(p8:Option Addr),r8=(.pointer p8)/\(cY (newO m1 (row [.int .i64 (fG (ke (x0) (1:Int)) (256:Int)),.pointer p8] t_robin_Robin false)) fun m2=>(Q (.pointer (some ⟨m1.nx,0,none⟩)) m2))))
theorem DC{x0:Int}{m:Mem}{Q:Value->Mem->Prop}(h:vP x0 m Q):ah cx vK [.int .i64 (x0)] m Q:=
 have e:vP x0 m Q=iz cx Tryz.f118 [] [] [.int .i64 (x0)] m Q:=by kernel_rfl
 ah.of di db (by kernel_rfl) (by kernel_rfl) (Eq.mp e h)
def mP(p0:Option Addr)(x1:Int)(m:Mem)(Q:Value->Mem->Prop):Prop:=
 (splitB (cR (x1) (0:Int))
 (Q (.int .i64 (1:Int)) m)
 (cZ p0 fun bp0 op0=>(∃(p12:Option Addr),rd m bp0 (op0+1)=some (.pointer p12)/\(ah cx mL [.pointer p12,.int .i64 (x1)] m fun r14 m1=>(∃(x14:Int),r14=(.int .i64 (x14))/\(splitB (leI (0:Int) (x14))
 (Q (.int .i64 (5:Int)) m1)
 (cZ p0 fun bp0_1 op0_2=>(∃(p20:Option Addr),rd m1 bp0_1 (op0_2+1)=some (.pointer p20)/\(ah cx lh [.pointer p20,.int .i64 (x1)] m1 fun r22 m2=>(∃(b22:Bool),r22=(.bool (b22))/\(splitB (!(b22))
 (Q (.int .i64 (3:Int)) m2)
 (Q (.int .i64 (0:Int)) m2))))))))))))
theorem vQ{p0:Option Addr}{x1:Int}{m:Mem}{Q:Value->Mem->Prop}(h:mP p0 x1 m Q):ah cx mK [.pointer p0,.int .i64 (x1)] m Q:=
 have e:mP p0 x1 m Q=iz cx Tryz.f119 [] [] [.pointer p0,.int .i64 (x1)] m Q:=by kernel_rfl
 ah.of di db (by kernel_rfl) (by kernel_rfl) (Eq.mp e h)
def mj(p0:Option Addr)(x1:Int)(m:Mem)(Q:Value->Mem->Prop):Prop:=
 (cZ p0 fun bp0 op0=>(∃(p10:Option Addr),rd m bp0 (op0+1)=some (.pointer p10)/\(ah cx sB [.pointer p10] m fun r11 m1=>(∃(x11:Int),r11=(.int .i64 (x11))/\(Q (.int .i64 (fG (ke (x1) (0:Int)) (x11))) m1)))))
theorem uD{p0:Option Addr}{x1:Int}{m:Mem}{Q:Value->Mem->Prop}(h:mj p0 x1 m Q):ah cx mg [.pointer p0,.int .i64 (x1)] m Q:=
 have e:mj p0 x1 m Q=iz cx Tryz.f151 [] [] [.pointer p0,.int .i64 (x1)] m Q:=by kernel_rfl
 ah.of di db (by kernel_rfl) (by kernel_rfl) (Eq.mp e h)
def ma(p0:Option Addr)(x1:Int)(x2:Int)(m:Mem)(Q:Value->Mem->Prop):Prop:=
 (cZ p0 fun bp0 op0=>(∃(p20:Option Addr),rd m bp0 (op0+1)=some (.pointer p20)/\(ah cx oz [.pointer p20] m fun r21 m1=>(∃(a21:Option Addr) (n21 c21:Nat),r21=(.slice a21 (n21) (c21))/\(splitB (cT (aQ (n21)) (0:Int))
 (Q (.tuple #[.slice none (0) (0),.slice none (0) (0)]) m1)
 (ah cx mg [.pointer p0,.int .i64 (x1)] m1 fun r27 m2=>(∃(x27:Int),r27=(.int .i64 (x27))/\((aQ (n21))≠0/\((aQ (n21))≠0/\((0<=aQ (n21)/\aQ (n21)<=aQ (n21)/\aQ (n21)<=1073741824/\8*Int.toNat (aQ (n21))<=140737488355328)/\(cY (newO (bump m2 10) (row (ey [.int .i64 (0:Int)] (Int.toNat (aQ (n21)))) jK false)) fun m3=>(∃Inv:Int->Mem->Nat->Prop,(∃n:Nat,Inv (0:Int) m3 n)/\
 (∀(x45:Int),∀(m4:Mem) (n_1:Nat),Inv (x45) m4 n_1->
 (splitB (cR (x45) (aQ (n21)))
 ((0<=(x45)/\(x45)<((Int.toNat (aQ (n21)):Nat):Int))/\(okW m4 ((bump m2 10)).nx (0+Int.toNat (x45)*1) 1/\(cY (wr m4 ((bump m2 10)).nx (0+Int.toNat (x45)*1) [.int .i64 (ot .i64 (io .i64 (x27) (fG (ke (x2) (0:Int)) (1099511627776:Int))) (aQ (n21)))]) fun m5=>(splitB (cR (x45) (Int.tmod (io .i64 (x27) (fG (ke (x2) (0:Int)) (1099511627776:Int))) (aQ (n21))))
 ((0<=(x45)/\(x45)<((Int.toNat (aQ (n21)):Nat):Int))/\(∃(x58:Int),rd m5 ((bump m2 10)).nx (0+Int.toNat (x45)*1)=some (.int .i64 (x58))/\((0<=(x45)/\(x45)<((Int.toNat (aQ (n21)):Nat):Int))/\(okW m5 ((bump m2 10)).nx (0+Int.toNat (x45)*1) 1/\(cY (wr m5 ((bump m2 10)).nx (0+Int.toNat (x45)*1) [.int .i64 (bh .i64 (x58) (1:Int))]) fun m6=>(∃n_2:Nat,n_2<n_1/\Inv (bh .i64 (x45) (1:Int)) m6 n_2))))))
 (∃n_3:Nat,n_3<n_1/\Inv (bh .i64 (x45) (1:Int)) m5 n_3)))))
 (∃(a64:Option Addr) (n64 c64:Nat),cX cx ((bump m4 9)) dt (.slice a21 (n21) (c21)) (some (.int .i64 (Int.tmod (io .i64 (x27) (fG (ke (x2) (0:Int)) (1099511627776:Int))) (aQ (n21))))) none none=some (.slice a64 (n64) (c64))/\(∃(a67:Option Addr) (n67 c67:Nat),cX cx ((bump m4 9)) dt (.slice a21 (n21) (c21)) none (some (.int .i64 (Int.tmod (io .i64 (x27) (fG (ke (x2) (0:Int)) (1099511627776:Int))) (aQ (n21))))) none=some (.slice a67 (n67) (c67))/\(ah cx kS [.slice (some ⟨(m4.nx+6),0,none⟩) (2) (2)] ((addO ((bump m4 9)) (m4.nx+6) (row [.slice a64 (n64) (c64),.slice a67 (n67) (c67)] dt false))) fun r69 m7=>(∃(a69:Option Addr) (n69 c69:Nat),r69=(.slice a69 (n69) (c69))/\(cY (m7) fun m8=>(cZ p0 fun bp0_4 op0_5=>(∃(x74:Int),rd m8 bp0_4 (op0_5)=some (.int .i64 (x74))/\(ah cx sP [.int .i64 (x74)] m8 fun r75 m9=>(∃(p75:Option Addr),r75=(.pointer p75)/\(cZ p0 fun bp0_6 op0_7=>(okW m9 bp0_6 (op0_7+1) 1/\(cY (wr m9 bp0_6 (op0_7+1) [.pointer p75]) fun m10=>(∃Inv_8:Int->Mem->Nat->Prop,(∃n_9:Nat,Inv_8 (0:Int) m10 n_9)/\
 (∀(x80:Int),∀(m11:Mem) (n_10:Nat),Inv_8 (x80) m11 n_10->
 (splitB (cR (x80) (aQ (n69)))
 ((0<=(x80)/\(x80)<((n69:Nat):Int))/\(cZ a69 fun ba69 oa69=>(∃(x83:Int),rd m11 ba69 (oa69+Int.toNat (x80)*1)=some (.int .i64 (x83))/\(cZ p0 fun bp0_11 op0_12=>(∃(p87:Option Addr),rd m11 bp0_11 (op0_12+1)=some (.pointer p87)/\(ah cx lh [.pointer p87,.int .i64 (x83)] m11 fun r89 m12=>(∃(b89:Bool),r89=(.bool (b89))/\(∃n_13:Nat,n_13<n_10/\Inv_8 (bh .i64 (x80) (1:Int)) m12 n_13))))))))
 (Q (.tuple #[.slice (some ⟨((bump m2 10)).nx,0,none⟩) (Int.toNat (aQ (n21))) (Int.toNat (aQ (n21))),.slice a69 (n69) (c69)]) m11))))))))))))))))))))))))))))))
theorem uz{p0:Option Addr}{x1:Int}{x2:Int}{m:Mem}{Q:Value->Mem->Prop}(h:ma p0 x1 x2 m Q):ah cx lZ [.pointer p0,.int .i64 (x1),.int .i64 (x2)] m Q:=
 have e:ma p0 x1 x2 m Q=iz cx Tryz.f120 [] [none,none,none,none,none,none,none,none,none,none,some ⟨[0,8,10,11,12,44],[(45,.int .i64)],[],[],[],0⟩,none,none,none,none,none,none,none,none,none,none,some ⟨[0,12,14,78,79],[(80,.int .i64)],[],[],[],1⟩] [.pointer p0,.int .i64 (x1),.int .i64 (x2)] m Q:=by kernel_rfl
 ah.of di db (by kernel_rfl) (by kernel_rfl) (Eq.mp e h)
def ug(x0:Int)(x0_1:Int)(a0:Option Addr)(n0 c0:Nat)(a0_2:Option Addr)(n0_3 c0_4:Nat)(a0_5:Option Addr)(n0_6 c0_7:Nat)(x1:Int)(m:Mem)(Q:Value->Mem->Prop):Prop:=
 (ah cx iT [.agg #[.int .i64 (x0),.int .i64 (x0_1),.slice a0 (n0) (c0),.slice a0_2 (n0_3) (c0_4),.slice a0_5 (n0_6) (c0_7)]] ((bump m 1)) fun r13 m1=>(∃(a13:Option Addr) (n13 c13:Nat),(∃(a13_8:Option Addr) (n13_9 c13_10:Nat),r13=(.tuple #[.slice a13 (n13) (c13),.slice a13_8 (n13_9) (c13_10)])/\(∃Inv:Int->Int->Mem->Nat->Prop,(∃n:Nat,Inv (x1) (0:Int) m1 n)/\
 (∀(x1_11:Int) (x19:Int),∀(m2:Mem) (n_12:Nat),Inv (x1_11) (x19) m2 n_12->
 (splitB (cR (x19) (aQ (n0)))
 ((0<=(x19)/\(x19)<((n0:Nat):Int))/\(cZ a0 fun ba0 oa0=>(∃(x22:Int),rd m2 ba0 (oa0+Int.toNat (x19)*11)=some (.int .i64 (x22))/\(∃(x22_13:Int),rd m2 ba0 (oa0+Int.toNat (x19)*11+1)=some (.int .i64 (x22_13))/\(∃(x22_14:Int),rd m2 ba0 (oa0+Int.toNat (x19)*11+2)=some (.int .i64 (x22_14))/\(∃(x22_15:Int),rd m2 ba0 (oa0+Int.toNat (x19)*11+3)=some (.int .i64 (x22_15))/\(∃(x22_16:Int),rd m2 ba0 (oa0+Int.toNat (x19)*11+4)=some (.int .i64 (x22_16))/\(∃(x22_17:Int),rd m2 ba0 (oa0+Int.toNat (x19)*11+5)=some (.int .i64 (x22_17))/\(∃(a22:Option Addr) (n22 c22:Nat),rd m2 ba0 (oa0+Int.toNat (x19)*11+6)=some (.slice a22 (n22) (c22))/\(∃(x22_18:Int),rd m2 ba0 (oa0+Int.toNat (x19)*11+7)=some (.int .i64 (x22_18))/\(∃(x22_19:Int),rd m2 ba0 (oa0+Int.toNat (x19)*11+8)=some (.int .i64 (x22_19))/\(∃(x22_20:Int),rd m2 ba0 (oa0+Int.toNat (x19)*11+9)=some (.int .i64 (x22_20))/\(∃(x22_21:Int),rd m2 ba0 (oa0+Int.toNat (x19)*11+10)=some (.int .i64 (x22_21))/\(dJ (fun(x1_22:Int) (m3:Mem)=>(ah cx ig [.slice a13 (n13) (c13),.int .i64 (x22)] m3 fun r46 m4=>(∃(b46:Bool),r46=(.bool (b46))/\(splitB (!(b46))
 (∃n_23:Nat,n_23<n_12/\Inv (x1_22) (bh .i64 (x19) (1:Int)) m4 n_23)
 ((0<=(0:Int)/\(0:Int)<((n22:Nat):Int))/\(cZ a22 fun ba22 oa22=>(∃(x58:Int),rd m4 ba22 (oa22+Int.toNat (0:Int)*4)=some (.int .i64 (x58))/\(∃(a58:Option Addr) (n58 c58:Nat),rd m4 ba22 (oa22+Int.toNat (0:Int)*4+1)=some (.slice a58 (n58) (c58))/\(∃(x58_24:Int),rd m4 ba22 (oa22+Int.toNat (0:Int)*4+2)=some (.int .i64 (x58_24))/\(∃(x58_25:Int),rd m4 ba22 (oa22+Int.toNat (0:Int)*4+3)=some (.int .i64 (x58_25))/\(ah cx mf [.agg #[.int .i64 (x58),.slice a58 (n58) (c58),.int .i64 (x58_24),.int .i64 (x58_25)]] m4 fun r59 m5=>(∃(x59:Int),(∃(x59_26:Int),(∃(b59:Bool),r59=(.tuple #[.agg #[.int .i64 (x59),.int .i64 (x59_26)],.bool (b59)])/\(dJ (fun(x1_28:Int) (m6:Mem)=>(splitB (cT (x22_18) (2:Int))
 ((0<=(de .i64 (x59) (1:Int))/\(de .i64 (x59) (1:Int))<((n0_3:Nat):Int))/\(cZ a0_2 fun ba0_2 oa0_2=>(∃(x87:Int),rd ((bump m6 15)) ba0_2 (oa0_2+Int.toNat (de .i64 (x59) (1:Int))*4)=some (.int .i64 (x87))/\(∃n_29:Nat,n_29<n_12/\Inv (fG (x1_28) (de .i64 (de .i64 (x87) (x22_19)) (1:Int))) (bh .i64 (x19) (1:Int)) (bump m6 15) n_29))))
 (∃n_30:Nat,n_30<n_12/\Inv (x1_28) (bh .i64 (x19) (1:Int)) m6 n_30))) fun J_27=>
 (splitB (dT (x22_18) (1:Int))
 ((0<=(0:Int)/\(0:Int)<((n22:Nat):Int))/\(cZ a22 fun ba22_31 oa22_32=>(∃(x72:Int),rd ((bump m5 13)) ba22_31 (oa22_32+Int.toNat (0:Int)*4+3)=some (.int .i64 (x72))/\(J_27 (fG (fG (x1_22) (de .i64 (x22_15) (1:Int))) (de .i64 (de .i64 (x59_26) (x72)) (1:Int))) (bump m5 13)))))
 (J_27 (fG (x1_22) (de .i64 (x22_15) (1:Int))) (bump m5 1)))))))))))))))))) fun J=>
 (dJ (fun(b34:Bool) (m7:Mem)=>(splitB (b34)
 (J (fG (x1_11) (de .i64 (x22_16) (x0_1))) m7)
 (J (x1_11) m7))) fun J_33=>
 (splitB (dT (x22_17) (0:Int)) (J_33 (cR (x0_1) (x22_16)) (bump m2 1)) (J_33 (false) (bump m2 1))))))))))))))))))
 (Q (.int .i64 (ke (x1_11) (0:Int))) m2)))))))
theorem Cy{x0:Int}{x0_1:Int}{a0:Option Addr}{n0 c0:Nat}{a0_2:Option Addr}{n0_3 c0_4:Nat}{a0_5:Option Addr}{n0_6 c0_7:Nat}{x1:Int}{m:Mem}{Q:Value->Mem->Prop}(h:ug x0 x0_1 a0 n0 c0 a0_2 n0_3 c0_4 a0_5 n0_6 c0_7 x1 m Q):ah cx ql [.agg #[.int .i64 (x0),.int .i64 (x0_1),.slice a0 (n0) (c0),.slice a0_2 (n0_3) (c0_4),.slice a0_5 (n0_6) (c0_7)],.int .i64 (x1)] m Q:=
 have e:ug x0 x0_1 a0 n0 c0 a0_2 n0_3 c0_4 a0_5 n0_6 c0_7 x1 m Q=iz cx Tryz.f34 [2,8,9] [none,none,none,none,some ⟨[5,17,18],[(1,.int .i64),(19,.int .i64)],[(2,0,0)],[0],[],1⟩,none,none,none,none,some ⟨[5,17,18,19],[(1,.int .i64)],[(2,0,0),(8,2,0)],[0,2],[],5⟩,some ⟨[1,5,17,18,19],[(34,.bool)],[(2,0,0),(8,2,0)],[0,2],[],4⟩,none,none,none,none,some ⟨[5,17,18,19],[(1,.int .i64)],[(2,0,0),(8,2,0),(9,6,0)],[0,2,6],[],8⟩] [.agg #[.int .i64 (x0),.int .i64 (x0_1),.slice a0 (n0) (c0),.slice a0_2 (n0_3) (c0_4),.slice a0_5 (n0_6) (c0_7)],.int .i64 (x1)] m Q:=by kernel_rfl
 ah.of di db (by kernel_rfl) (by kernel_rfl) (Eq.mp e h)
def vO(x0:Int)(x0_1:Int)(a0:Option Addr)(n0 c0:Nat)(a0_2:Option Addr)(n0_3 c0_4:Nat)(a0_5:Option Addr)(n0_6 c0_7:Nat)(x1:Int)(m:Mem)(Q:Value->Mem->Prop):Prop:=
 (splitB (cT (x1) (0:Int))
 (Q (.agg #[.int .i64 (x0),.int .i64 (x0_1),.slice a0 (n0) (c0),.slice a0_2 (n0_3) (c0_4),.slice a0_5 (n0_6) (c0_7)]) (bump m 2))
 (ah cx iT [.agg #[.int .i64 (x0),.int .i64 (x0_1),.slice a0 (n0) (c0),.slice a0_2 (n0_3) (c0_4),.slice a0_5 (n0_6) (c0_7)]] ((bump m 2)) fun r14 m1=>(∃(a14:Option Addr) (n14 c14:Nat),(∃(a14_8:Option Addr) (n14_9 c14_10:Nat),r14=(.tuple #[.slice a14 (n14) (c14),.slice a14_8 (n14_9) (c14_10)])/\(ah cx gr [.slice a0 (n0) (c0)] m1 fun r19 m2=>(∃(a19:Option Addr) (n19 c19:Nat),r19=(.slice a19 (n19) (c19))/\(∃Inv:Int->Mem->Nat->Prop,(∃n:Nat,Inv (0:Int) m2 n)/\
 (∀(x24:Int),∀(m3:Mem) (n_11:Nat),Inv (x24) m3 n_11->
 (splitB (cR (x24) (aQ (n19)))
 ((0<=(x24)/\(x24)<((n19:Nat):Int))/\(cZ a19 fun ba19 oa19=>(∃(x35:Int),rd m3 ba19 (oa19+Int.toNat (x24)*11)=some (.int .i64 (x35))/\(ah cx ig [.slice a14 (n14) (c14),.int .i64 (x35)] m3 fun r36 m4=>(∃(b36:Bool),r36=(.bool (b36))/\(splitB (!(b36))
 (∃n_12:Nat,n_12<n_11/\Inv (bh .i64 (x24) (1:Int)) m4 n_12)
 (∃(x43:Int),rd m4 ba19 (oa19+Int.toNat (x24)*11+1)=some (.int .i64 (x43))/\(∃(x43_13:Int),rd m4 ba19 (oa19+Int.toNat (x24)*11+2)=some (.int .i64 (x43_13))/\(∃(x43_14:Int),rd m4 ba19 (oa19+Int.toNat (x24)*11+3)=some (.int .i64 (x43_14))/\(∃(x43_15:Int),rd m4 ba19 (oa19+Int.toNat (x24)*11+4)=some (.int .i64 (x43_15))/\(∃(x43_16:Int),rd m4 ba19 (oa19+Int.toNat (x24)*11+5)=some (.int .i64 (x43_16))/\(ah cx uW [.agg #[.int .i64 (x43),.int .i64 (x43_13),.int .i64 (x43_14),.int .i64 (x43_15),.int .i64 (x43_16)],.int .i64 (x1)] m4 fun r45 m5=>(∃(x45:Int),(∃(x45_17:Int),(∃(x45_18:Int),(∃(x45_19:Int),(∃(x45_20:Int),(∃(x45_21:Int),r45=(.tuple #[.agg #[.int .i64 (x45),.int .i64 (x45_17),.int .i64 (x45_18),.int .i64 (x45_19),.int .i64 (x45_20)],.int .i64 (x45_21)])/\(okW m5 ba19 (oa19+Int.toNat (x24)*11+1) 5/\(cY (wr m5 ba19 (oa19+Int.toNat (x24)*11+1) [.int .i64 (x45),.int .i64 (x45_17),.int .i64 (x45_18),.int .i64 (x45_19),.int .i64 (x45_20)]) fun m6=>(∃(x53:Int),rd m6 ba19 (oa19+Int.toNat (x24)*11+10)=some (.int .i64 (x53))/\(okW m6 ba19 (oa19+Int.toNat (x24)*11+10) 1/\(cY (wr m6 ba19 (oa19+Int.toNat (x24)*11+10) [.int .i64 (bh .i64 (x53) (x1))]) fun m7=>(dJ (fun(m8:Mem)=>(∃(x90:Int),rd m8 ba19 (oa19+Int.toNat (x24)*11+7)=some (.int .i64 (x90))/\(splitB (cT (x90) (2:Int))
 (∃(x95:Int),rd m8 ba19 (oa19+Int.toNat (x24)*11+8)=some (.int .i64 (x95))/\(okW m8 ba19 (oa19+Int.toNat (x24)*11+8) 1/\(cY (wr m8 ba19 (oa19+Int.toNat (x24)*11+8) [.int .i64 (bh .i64 (x95) (x1))]) fun m9=>(∃n_22:Nat,n_22<n_11/\Inv (bh .i64 (x24) (1:Int)) m9 n_22))))
 (∃n_23:Nat,n_23<n_11/\Inv (bh .i64 (x24) (1:Int)) m8 n_23)))) fun J=>
 (∃(x61:Int),rd m7 ba19 (oa19+Int.toNat (x24)*11+7)=some (.int .i64 (x61))/\(splitB (dT (x61) (1:Int))
 (∃(a67:Option Addr) (n67 c67:Nat),rd m7 ba19 (oa19+Int.toNat (x24)*11+6)=some (.slice a67 (n67) (c67))/\(ah cx gV [.slice a67 (n67) (c67)] m7 fun r68 m10=>(∃(a68:Option Addr) (n68 c68:Nat),r68=(.slice a68 (n68) (c68))/\(okW m10 ba19 (oa19+Int.toNat (x24)*11+6) 1/\(cY (wr m10 ba19 (oa19+Int.toNat (x24)*11+6) [.slice a68 (n68) (c68)]) fun m11=>(∃(a75:Option Addr) (n75 c75:Nat),rd ((bump m11 17)) ba19 (oa19+Int.toNat (x24)*11+6)=some (.slice a75 (n75) (c75))/\(∃(a79:Option Addr) (n79 c79:Nat),rd ((bump m11 17)) ba19 (oa19+Int.toNat (x24)*11+6)=some (.slice a79 (n79) (c79))/\((0<=(0:Int)/\(0:Int)<((n79:Nat):Int))/\(cZ a79 fun ba79 oa79=>(∃(x81:Int),rd ((bump m11 17)) ba79 (oa79+Int.toNat (0:Int)*4)=some (.int .i64 (x81))/\(∃(a81:Option Addr) (n81 c81:Nat),rd ((bump m11 17)) ba79 (oa79+Int.toNat (0:Int)*4+1)=some (.slice a81 (n81) (c81))/\(∃(x81_24:Int),rd ((bump m11 17)) ba79 (oa79+Int.toNat (0:Int)*4+2)=some (.int .i64 (x81_24))/\(∃(x81_25:Int),rd ((bump m11 17)) ba79 (oa79+Int.toNat (0:Int)*4+3)=some (.int .i64 (x81_25))/\(ah cx vd [.agg #[.int .i64 (x81),.slice a81 (n81) (c81),.int .i64 (x81_24),.int .i64 (x81_25)],.int .i64 (x1)] ((setFl ((bump m11 17)) m11.nx)) fun r83 m12=>(∃(x83:Int),(∃(a83:Option Addr) (n83 c83:Nat),(∃(x83_26:Int),(∃(x83_27:Int),(∃(x83_28:Int),r83=(.tuple #[.agg #[.int .i64 (x83),.slice a83 (n83) (c83),.int .i64 (x83_26),.int .i64 (x83_27)],.int .i64 (x83_28)])/\((0<=(0:Int)/\(0:Int)<((n75:Nat):Int))/\(cZ a75 fun ba75 oa75=>(okW ((setFl m12 ((bump m11 17)).fl)) ba75 (oa75+Int.toNat (0:Int)*4) 4/\(cY (wr ((setFl m12 ((bump m11 17)).fl)) ba75 (oa75+Int.toNat (0:Int)*4) [.int .i64 (x83),.slice a83 (n83) (c83),.int .i64 (x83_26),.int .i64 (x83_27)]) fun m13=>(J m13))))))))))))))))))))))))
 (J m7)))))))))))))))))))))))))))
 (ah cx ue [.slice a0_5 (n0_6) (c0_7),.int .i64 (aQ (n14_9)),.int .i64 (x1)] m3 fun r106 m14=>(∃(a106:Option Addr) (n106 c106:Nat),r106=(.slice a106 (n106) (c106))/\(Q (.agg #[.int .i64 (x0),.int .i64 (bh .i64 (x0_1) (x1)),.slice a19 (n19) (c19),.slice a0_2 (n0_3) (c0_4),.slice a106 (n106) (c106)]) m14))))))))))))
theorem Dz{x0:Int}{x0_1:Int}{a0:Option Addr}{n0 c0:Nat}{a0_2:Option Addr}{n0_3 c0_4:Nat}{a0_5:Option Addr}{n0_6 c0_7:Nat}{x1:Int}{m:Mem}{Q:Value->Mem->Prop}(h:vO x0 x0_1 a0 n0 c0 a0_2 n0_3 c0_4 a0_5 n0_6 c0_7 x1 m Q):ah cx rp [.agg #[.int .i64 (x0),.int .i64 (x0_1),.slice a0 (n0) (c0),.slice a0_2 (n0_3) (c0_4),.slice a0_5 (n0_6) (c0_7)],.int .i64 (x1)] m Q:=
 have e:vO x0 x0_1 a0 n0 c0 a0_2 n0_3 c0_4 a0_5 n0_6 c0_7 x1 m Q=iz cx Tryz.f35 [2,4] [none,none,none,none,none,none,none,none,some ⟨[1,5,6,23],[(24,.int .i64)],[(2,0,0),(4,1,0)],[0,1],[],3⟩,none,none,none,none,none,none,none,none,none,some ⟨[1,5,6,8,23,24],[],[(2,0,0),(4,1,0)],[0,1],[],4⟩] [.agg #[.int .i64 (x0),.int .i64 (x0_1),.slice a0 (n0) (c0),.slice a0_2 (n0_3) (c0_4),.slice a0_5 (n0_6) (c0_7)],.int .i64 (x1)] m Q:=by kernel_rfl
 ah.of di db (by kernel_rfl) (by kernel_rfl) (Eq.mp e h)
def uf(a0:Option Addr)(n0 c0:Nat)(x1:Int)(x2:Int)(m:Mem)(Q:Value->Mem->Prop):Prop:=
 (splitB (cT (x1) (0:Int))
 (Q (.slice a0 (n0) (c0)) m)
 (ah cx vK [.int .i64 (aQ (n0))] m fun r23 m1=>(∃(p23:Option Addr),r23=(.pointer p23)/\(∃Inv:Int->Mem->Nat->Prop,(∃n:Nat,Inv (0:Int) m1 n)/\
 (∀(x26:Int),∀(m2:Mem) (n_1:Nat),Inv (x26) m2 n_1->
 (splitB (cR (x26) (aQ (n0)))
 (ah cx mK [.pointer p23,.int .i64 (x26)] m2 fun r31 m3=>(∃(x31:Int),r31=(.int .i64 (x31))/\(∃n_2:Nat,n_2<n_1/\Inv (bh .i64 (x26) (1:Int)) m3 n_2)))
 ((aQ (n0))≠0/\((aQ (n0))≠0/\(ah cx lZ [.pointer p23,.int .i64 (x1),.int .i64 (Int.tmod (x2) (aQ (n0)))] m2 fun r44 m4=>(∃(a44:Option Addr) (n44 c44:Nat),(∃(a44_3:Option Addr) (n44_4 c44_5:Nat),r44=(.tuple #[.slice a44 (n44) (c44),.slice a44_3 (n44_4) (c44_5)])/\(∃Inv_6:Option Addr->Nat->Nat->Int->Mem->Nat->Prop,(∃n_7:Nat,Inv_6 none (0) (0) (0:Int) m4 n_7)/\
 (∀(a13:Option Addr) (n13 c13:Nat) (x49:Int),∀(m5:Mem) (n_8:Nat),Inv_6 a13 (n13) (c13) (x49) m5 n_8->
 (splitB (cR (x49) (aQ (n44_4)))
 ((0<=(x49)/\(x49)<((n44_4:Nat):Int))/\(cZ a44_3 fun ba44_3 oa44_3=>(∃(x52:Int),rd m5 ba44_3 (oa44_3+Int.toNat (x49)*1)=some (.int .i64 (x52))/\((0<=(x52)/\(x52)<((n0:Nat):Int))/\(cZ a0 fun ba0 oa0=>(∃(x58:Int),rd ((bump m5 22)) ba0 (oa0+Int.toNat (x52)*2)=some (.int .i64 (x58))/\((0<=(x52)/\(x52)<((n0:Nat):Int))/\(cZ a0 fun ba0_9 oa0_10=>(∃(x63:Int),rd ((bump m5 22)) ba0_9 (oa0_10+Int.toNat (x52)*2+1)=some (.int .i64 (x63))/\((0<=(x52)/\(x52)<((n44:Nat):Int))/\(cZ a44 fun ba44 oa44=>(∃(x69:Int),rd ((bump m5 22)) ba44 (oa44+Int.toNat (x52)*1)=some (.int .i64 (x69))/\(∃(a73:Option Addr) (n73 c73:Nat) (m6:Mem),cQ cx (addO ((bump m5 22)) (m5.nx+19) (row [.int .i64 (x58),.int .i64 (bh .i64 (bh .i64 (x63) (io .i64 (ot .i64 (x2) (aQ (n0))) (x1))) (x69))] dk false)) [cS,cS] [.slice a13 (n13) (c13),.slice (some ⟨(m5.nx+19),0,none⟩) (1) (1)]=some (.slice a73 (n73) (c73),m6)/\(cY (m6) fun m7=>(∃n_11:Nat,n_11<n_8/\Inv_6 a73 (n73) (c73) (bh .i64 (x49) (1:Int)) m7 n_11)))))))))))))))
 (Q (.slice a13 (n13) (c13)) m5)))))))))))))))
theorem Cw{a0:Option Addr}{n0 c0:Nat}{x1:Int}{x2:Int}{m:Mem}{Q:Value->Mem->Prop}(h:uf a0 n0 c0 x1 x2 m Q):ah cx ue [.slice a0 (n0) (c0),.int .i64 (x1),.int .i64 (x2)] m Q:=
 have e:uf a0 n0 c0 x1 x2 m Q=iz cx Tryz.f81 [] [none,none,none,none,none,none,none,none,some ⟨[0,1,2,7,8,25],[(26,.int .i64)],[],[],[],0⟩,none,none,none,none,none,none,none,none,none,some ⟨[0,10,11,47,48],[(13,.sl),(49,.int .i64)],[],[],[],1⟩] [.slice a0 (n0) (c0),.int .i64 (x1),.int .i64 (x2)] m Q:=by kernel_rfl
 ah.of di db (by kernel_rfl) (by kernel_rfl) (Eq.mp e h)
def um(x0:Int)(x0_1:Int)(x0_2:Int)(x0_3:Int)(x0_4:Int)(x0_5:Int)(a0:Option Addr)(n0 c0:Nat)(x0_6:Int)(x0_7:Int)(x0_8:Int)(x0_9:Int)(p1:Option Addr)(m:Mem)(Q:Value->Mem->Prop):Prop:=
 (splitB (dT (x0_5) (0:Int)) (cZ p1 fun bp1 op1=>(∃(x13:Int),rd (bump m 1) bp1 (op1+1)=some (.int .i64 (x13))/\(Q (.bool (cT (x0_4) (x13))) (bump m 1)))) (Q (.bool (false)) (bump m 1)))
theorem CH{x0:Int}{x0_1:Int}{x0_2:Int}{x0_3:Int}{x0_4:Int}{x0_5:Int}{a0:Option Addr}{n0 c0:Nat}{x0_6:Int}{x0_7:Int}{x0_8:Int}{x0_9:Int}{p1:Option Addr}{m:Mem}{Q:Value->Mem->Prop}(h:um x0 x0_1 x0_2 x0_3 x0_4 x0_5 a0 n0 c0 x0_6 x0_7 x0_8 x0_9 p1 m Q):ah cx uk [.agg #[.int .i64 (x0),.int .i64 (x0_1),.int .i64 (x0_2),.int .i64 (x0_3),.int .i64 (x0_4),.int .i64 (x0_5),.slice a0 (n0) (c0),.int .i64 (x0_6),.int .i64 (x0_7),.int .i64 (x0_8),.int .i64 (x0_9)],.pointer p1] m Q:=
 have e:um x0 x0_1 x0_2 x0_3 x0_4 x0_5 a0 n0 c0 x0_6 x0_7 x0_8 x0_9 p1 m Q=iz cx Tryz.f84 [2] [] [.agg #[.int .i64 (x0),.int .i64 (x0_1),.int .i64 (x0_2),.int .i64 (x0_3),.int .i64 (x0_4),.int .i64 (x0_5),.slice a0 (n0) (c0),.int .i64 (x0_6),.int .i64 (x0_7),.int .i64 (x0_8),.int .i64 (x0_9)],.pointer p1] m Q:=by kernel_rfl
 ah.of di db (by kernel_rfl) (by kernel_rfl) (Eq.mp e h)
def xE(x0:Int)(x0_1:Int)(a0:Option Addr)(n0 c0:Nat)(a0_2:Option Addr)(n0_3 c0_4:Nat)(a0_5:Option Addr)(n0_6 c0_7:Nat)(m:Mem)(Q:Value->Mem->Prop):Prop:=
 (cY (newO m (row [.int .i64 (x0),.int .i64 (x0_1),.slice a0 (n0) (c0),.slice a0_2 (n0_3) (c0_4),.slice a0_5 (n0_6) (c0_7)] mq false)) fun m1=>(∃(a4:Option Addr) (n4 c4:Nat),rd m1 m.nx (2)=some (.slice a4 (n4) (c4))/\(ah cx iZ [.slice a4 (n4) (c4),.func (.func uk) #[] #[.pointer (some ⟨m.nx,0,none⟩)]] m1 fun r6 m2=>(∃(b6:Bool),r6=(.bool (b6))/\(Q (.bool (b6)) m2)))))
theorem Fs{x0:Int}{x0_1:Int}{a0:Option Addr}{n0 c0:Nat}{a0_2:Option Addr}{n0_3 c0_4:Nat}{a0_5:Option Addr}{n0_6 c0_7:Nat}{m:Mem}{Q:Value->Mem->Prop}(h:xE x0 x0_1 a0 n0 c0 a0_2 n0_3 c0_4 a0_5 n0_6 c0_7 m Q):ah cx sO [.agg #[.int .i64 (x0),.int .i64 (x0_1),.slice a0 (n0) (c0),.slice a0_2 (n0_3) (c0_4),.slice a0_5 (n0_6) (c0_7)]] m Q:=
 have e:xE x0 x0_1 a0 n0 c0 a0_2 n0_3 c0_4 a0_5 n0_6 c0_7 m Q=iz cx Tryz.f37 [] [] [.agg #[.int .i64 (x0),.int .i64 (x0_1),.slice a0 (n0) (c0),.slice a0_2 (n0_3) (c0_4),.slice a0_5 (n0_6) (c0_7)]] m Q:=by kernel_rfl
 ah.of di db (by kernel_rfl) (by kernel_rfl) (Eq.mp e h)
def uo(x0:Int)(x0_1:Int)(a0:Option Addr)(n0 c0:Nat)(a0_2:Option Addr)(n0_3 c0_4:Nat)(a0_5:Option Addr)(n0_6 c0_7:Nat)(m:Mem)(Q:Value->Mem->Prop):Prop:=
 (ah cx iC [.agg #[.int .i64 (x0),.int .i64 (x0_1),.slice a0 (n0) (c0),.slice a0_2 (n0_3) (c0_4),.slice a0_5 (n0_6) (c0_7)]] ((bump m 1)) fun r16 m1=>(∃(x16:Int),(∃(x16_8:Int),(∃(a16:Option Addr) (n16 c16:Nat),(∃(a16_9:Option Addr) (n16_10 c16_11:Nat),(∃(a16_12:Option Addr) (n16_13 c16_14:Nat),(∃(a16_15:Option Addr) (n16_16 c16_17:Nat),r16=(.tuple #[.agg #[.int .i64 (x16),.int .i64 (x16_8),.slice a16 (n16) (c16),.slice a16_9 (n16_10) (c16_11),.slice a16_12 (n16_13) (c16_14)],.slice a16_15 (n16_16) (c16_17)])/\(ah cx iT [.agg #[.int .i64 (x16),.int .i64 (x16_8),.slice a16 (n16) (c16),.slice a16_9 (n16_10) (c16_11),.slice none (0) (0)]] m1 fun r24 m2=>(∃(a24:Option Addr) (n24 c24:Nat),(∃(a24_18:Option Addr) (n24_19 c24_20:Nat),r24=(.tuple #[.slice a24 (n24) (c24),.slice a24_18 (n24_19) (c24_20)])/\(∃Inv:Int->Int->Option Addr->Nat->Nat->Option Addr->Nat->Nat->Option Addr->Nat->Nat->Mem->Nat->Prop,(∃n:Nat,Inv (x16) (x16_8) a16 (n16) (c16) a16_9 (n16_10) (c16_11) none (0) (0) m2 n)/\
 (∀(xc:Int) (xc_21:Int) (ac:Option Addr) (nc cc:Nat) (ac_22:Option Addr) (nc_23 cc_24:Nat) (ac_25:Option Addr) (nc_26 cc_27:Nat),∀(m3:Mem) (n_28:Nat),Inv (xc) (xc_21) ac (nc) (cc) ac_22 (nc_23) (cc_24) ac_25 (nc_26) (cc_27) m3 n_28->
 (ah cx ql [.agg #[.int .i64 (xc),.int .i64 (xc_21),.slice ac (nc) (cc),.slice ac_22 (nc_23) (cc_24),.slice ac_25 (nc_26) (cc_27)],.int .i64 (de .i64 (4611686018427387904:Int) (xc_21))] ((setFl ((bump m3 8)) m3.nx)) fun r32 m4=>(∃(x32:Int),r32=(.int .i64 (x32))/\(ah cx rp [.agg #[.int .i64 (xc),.int .i64 (xc_21),.slice ac (nc) (cc),.slice ac_22 (nc_23) (cc_24),.slice ac_25 (nc_26) (cc_27)],.int .i64 (x32)] (((setFl m4 ((bump m3 8)).fl))) fun r33 m5=>(∃(x33:Int),(∃(x33_29:Int),(∃(a33:Option Addr) (n33 c33:Nat),(∃(a33_30:Option Addr) (n33_31 c33_32:Nat),(∃(a33_33:Option Addr) (n33_34 c33_35:Nat),r33=(.agg #[.int .i64 (x33),.int .i64 (x33_29),.slice a33 (n33) (c33),.slice a33_30 (n33_31) (c33_32),.slice a33_33 (n33_34) (c33_35)])/\(dJ (fun(b41:Bool) (m6:Mem)=>(splitB (b41)
 (Q (.tuple #[.int .i64 (de .i64 (x33_29) (x16_8)),.bool (true)]) m6)
 (ah cx nG [.agg #[.int .i64 (x33),.int .i64 (x33_29),.slice a33 (n33) (c33),.slice a33_30 (n33_31) (c33_32),.slice a33_33 (n33_34) (c33_35)]] m6 fun r48 m7=>(∃(x48:Int),(∃(x48_36:Int),(∃(a48:Option Addr) (n48 c48:Nat),(∃(a48_37:Option Addr) (n48_38 c48_39:Nat),(∃(a48_40:Option Addr) (n48_41 c48_42:Nat),(∃(a48_43:Option Addr) (n48_44 c48_45:Nat),(∃(x48_46:Int),r48=(.tuple #[.agg #[.int .i64 (x48),.int .i64 (x48_36),.slice a48 (n48) (c48),.slice a48_37 (n48_38) (c48_39),.slice a48_40 (n48_41) (c48_42)],.slice a48_43 (n48_44) (c48_45),.int .i64 (x48_46)])/\(splitB (dT (x48_46) (0:Int))
 (Q (.tuple #[.int .i64 (0:Int),.bool (false)]) (bump m7 1))
 (ah cx iC [.agg #[.int .i64 (x48),.int .i64 (x48_36),.slice a48 (n48) (c48),.slice a48_37 (n48_38) (c48_39),.slice a48_40 (n48_41) (c48_42)]] ((bump m7 1)) fun r56 m8=>(∃(x56:Int),(∃(x56_47:Int),(∃(a56:Option Addr) (n56 c56:Nat),(∃(a56_48:Option Addr) (n56_49 c56_50:Nat),(∃(a56_51:Option Addr) (n56_52 c56_53:Nat),(∃(a56_54:Option Addr) (n56_55 c56_56:Nat),r56=(.tuple #[.agg #[.int .i64 (x56),.int .i64 (x56_47),.slice a56 (n56) (c56),.slice a56_48 (n56_49) (c56_50),.slice a56_51 (n56_52) (c56_53)],.slice a56_54 (n56_55) (c56_56)])/\(ah cx iT [.agg #[.int .i64 (x56),.int .i64 (x56_47),.slice a56 (n56) (c56),.slice a56_48 (n56_49) (c56_50),.slice a56_51 (n56_52) (c56_53)]] ((bump m8 1)) fun r61 m9=>(∃(a61:Option Addr) (n61 c61:Nat),(∃(a61_57:Option Addr) (n61_58 c61_59:Nat),r61=(.tuple #[.slice a61 (n61) (c61),.slice a61_57 (n61_58) (c61_59)])/\(dJ (fun(b81:Bool) (m10:Mem)=>(splitB (b81)
 (Q (.tuple #[.int .i64 (de .i64 (x48_36) (x16_8)),.bool (true)]) m10)
 (∃n_61:Nat,n_61<n_28/\Inv (x56) (x56_47) a56 (n56) (c56) a56_48 (n56_49) (c56_50) a56_51 (n56_52) (c56_53) m10 n_61))) fun J_60=>
 (splitB (cR (0:Int) (aQ (n48_44))) (J_60 (true) m9) (splitB (cR (0:Int) (aQ (n56_55))) (J_60 (true) m9) (ah cx sO [.agg #[.int .i64 (x48),.int .i64 (x48_36),.slice a48 (n48) (c48),.slice a48_37 (n48_38) (c48_39),.slice a48_40 (n48_41) (c48_42)]] m9 fun r74 m11=>(∃(b74:Bool),r74=(.bool (b74))/\(splitB (b74) (J_60 (true) m11) (ah cx gS [.slice a24 (n24) (c24),.slice a61 (n61) (c61)] m11 fun r79 m12=>(∃(b79:Bool),r79=(.bool (b79))/\(J_60 (!(b79)) m12)))))))))))))))))))))))))))))) fun J=>
 (splitB (cR (x16_8) (x33_29)) (ah cx sO [.agg #[.int .i64 (x33),.int .i64 (x33_29),.slice a33 (n33) (c33),.slice a33_30 (n33_31) (c33_32),.slice a33_33 (n33_34) (c33_35)]] m5 fun r40 m13=>(∃(b40:Bool),r40=(.bool (b40))/\(J (b40) m13))) (J (false) m5)))))))))))))))))))))))
theorem CJ{x0:Int}{x0_1:Int}{a0:Option Addr}{n0 c0:Nat}{a0_2:Option Addr}{n0_3 c0_4:Nat}{a0_5:Option Addr}{n0_6 c0_7:Nat}{m:Mem}{Q:Value->Mem->Prop}(h:uo x0 x0_1 a0 n0 c0 a0_2 n0_3 c0_4 a0_5 n0_6 c0_7 m Q):ah cx uh [.agg #[.int .i64 (x0),.int .i64 (x0_1),.slice a0 (n0) (c0),.slice a0_2 (n0_3) (c0_4),.slice a0_5 (n0_6) (c0_7)]] m Q:=
 have e:uo x0 x0_1 a0 n0 c0 a0_2 n0_3 c0_4 a0_5 n0_6 c0_7 m Q=iz cx Tryz.f14 [1,7,10] [none,none,none,none,none,some ⟨[4,5],[(88,.int .i64),(89,.int .i64),(90,.sl),(91,.sl),(92,.sl)],[(1,0,0)],[],[(0,[88,89,90,91,92])],3⟩,none,none,some ⟨[4,5],[(41,.bool)],[(1,0,0)],[0],[],5⟩,none,none,none,none,none,none,none,none,some ⟨[4,5],[(81,.bool)],[(1,0,0),(7,6,0),(10,8,0)],[0,6,8],[],10⟩] [.agg #[.int .i64 (x0),.int .i64 (x0_1),.slice a0 (n0) (c0),.slice a0_2 (n0_3) (c0_4),.slice a0_5 (n0_6) (c0_7)]] m Q:=by kernel_rfl
 ah.of di db (by kernel_rfl) (by kernel_rfl) (Eq.mp e h)
def zf(x0:Int)(x0_1:Int)(a0:Option Addr)(n0 c0:Nat)(a0_2:Option Addr)(n0_3 c0_4:Nat)(a0_5:Option Addr)(n0_6 c0_7:Nat)(x1:Int)(m:Mem)(Q:Value->Mem->Prop):Prop:=
 (splitB (cR (x1) (0:Int))
 (Q (.tuple #[.agg #[.int .i64 (x0),.int .i64 (x0_1),.slice a0 (n0) (c0),.slice a0_2 (n0_3) (c0_4),.slice a0_5 (n0_6) (c0_7)],.slice none (0) (0),.int .i64 (1:Int)]) (bump m 2))
 (splitB (cR (de .i64 (4611686018427387904:Int) (x0_1)) (x1))
 (Q (.tuple #[.agg #[.int .i64 (x0),.int .i64 (x0_1),.slice a0 (n0) (c0),.slice a0_2 (n0_3) (c0_4),.slice a0_5 (n0_6) (c0_7)],.slice none (0) (0),.int .i64 (6:Int)]) (bump m 2))
 (∃Inv:Option Addr->Nat->Nat->Int->Int->Option Addr->Nat->Nat->Option Addr->Nat->Nat->Option Addr->Nat->Nat->Mem->Nat->Prop,(∃n:Nat,Inv none (0) (0) (x0) (x0_1) a0 (n0) (c0) a0_2 (n0_3) (c0_4) a0_5 (n0_6) (c0_7) (bump m 2) n)/\
 (∀(a7:Option Addr) (n7 c7:Nat) (xc:Int) (xc_8:Int) (ac:Option Addr) (nc cc:Nat) (ac_9:Option Addr) (nc_10 cc_11:Nat) (ac_12:Option Addr) (nc_13 cc_14:Nat),∀(m1:Mem) (n_15:Nat),Inv a7 (n7) (c7) (xc) (xc_8) ac (nc) (cc) ac_9 (nc_10) (cc_11) ac_12 (nc_13) (cc_14) m1 n_15->
 (splitB (cR (xc_8) (bh .i64 (x0_1) (x1)))
 (ah cx iC [.agg #[.int .i64 (xc),.int .i64 (xc_8),.slice ac (nc) (cc),.slice ac_9 (nc_10) (cc_11),.slice ac_12 (nc_13) (cc_14)]] m1 fun r33 m2=>(∃(x33:Int),(∃(x33_16:Int),(∃(a33:Option Addr) (n33 c33:Nat),(∃(a33_17:Option Addr) (n33_18 c33_19:Nat),(∃(a33_20:Option Addr) (n33_21 c33_22:Nat),(∃(a33_23:Option Addr) (n33_24 c33_25:Nat),r33=(.tuple #[.agg #[.int .i64 (x33),.int .i64 (x33_16),.slice a33 (n33) (c33),.slice a33_17 (n33_18) (c33_19),.slice a33_20 (n33_21) (c33_22)],.slice a33_23 (n33_24) (c33_25)])/\(∃(a38:Option Addr) (n38 c38:Nat) (m3:Mem),cQ cx (bump m2 1) [bJ,bJ] [.slice a7 (n7) (c7),.slice a33_23 (n33_24) (c33_25)]=some (.slice a38 (n38) (c38),m3)/\(ah cx ql [.agg #[.int .i64 (x33),.int .i64 (x33_16),.slice a33 (n33) (c33),.slice a33_17 (n33_18) (c33_19),.slice a33_20 (n33_21) (c33_22)],.int .i64 (de .i64 (bh .i64 (x0_1) (x1)) (x33_16))] m3 fun r44 m4=>(∃(x44:Int),r44=(.int .i64 (x44))/\(splitB (cR (0:Int) (x44))
 (ah cx rp [.agg #[.int .i64 (x33),.int .i64 (x33_16),.slice a33 (n33) (c33),.slice a33_17 (n33_18) (c33_19),.slice a33_20 (n33_21) (c33_22)],.int .i64 (x44)] m4 fun r49 m5=>(∃(x49:Int),(∃(x49_26:Int),(∃(a49:Option Addr) (n49 c49:Nat),(∃(a49_27:Option Addr) (n49_28 c49_29:Nat),(∃(a49_30:Option Addr) (n49_31 c49_32:Nat),r49=(.agg #[.int .i64 (x49),.int .i64 (x49_26),.slice a49 (n49) (c49),.slice a49_27 (n49_28) (c49_29),.slice a49_30 (n49_31) (c49_32)])/\(∃n_33:Nat,n_33<n_15/\Inv a38 (n38) (c38) (x49) (x49_26) a49 (n49) (c49) a49_27 (n49_28) (c49_29) a49_30 (n49_31) (c49_32) m5 n_33)))))))
 (ah cx nG [.agg #[.int .i64 (x33),.int .i64 (x33_16),.slice a33 (n33) (c33),.slice a33_17 (n33_18) (c33_19),.slice a33_20 (n33_21) (c33_22)]] m4 fun r52 m6=>(∃(x52:Int),(∃(x52_34:Int),(∃(a52:Option Addr) (n52 c52:Nat),(∃(a52_35:Option Addr) (n52_36 c52_37:Nat),(∃(a52_38:Option Addr) (n52_39 c52_40:Nat),(∃(a52_41:Option Addr) (n52_42 c52_43:Nat),(∃(x52_44:Int),r52=(.tuple #[.agg #[.int .i64 (x52),.int .i64 (x52_34),.slice a52 (n52) (c52),.slice a52_35 (n52_36) (c52_37),.slice a52_38 (n52_39) (c52_40)],.slice a52_41 (n52_42) (c52_43),.int .i64 (x52_44)])/\(∃(a58:Option Addr) (n58 c58:Nat) (m7:Mem),cQ cx m6 [bJ,bJ] [.slice a38 (n38) (c38),.slice a52_41 (n52_42) (c52_43)]=some (.slice a58 (n58) (c58),m7)/\(∃n_45:Nat,n_45<n_15/\Inv a58 (n58) (c58) (x52) (x52_34) a52 (n52) (c52) a52_35 (n52_36) (c52_37) a52_38 (n52_39) (c52_40) m7 n_45)))))))))))))))))))))
 (Q (.tuple #[.agg #[.int .i64 (xc),.int .i64 (xc_8),.slice ac (nc) (cc),.slice ac_9 (nc_10) (cc_11),.slice ac_12 (nc_13) (cc_14)],.slice a7 (n7) (c7),.int .i64 (0:Int)]) m1))))))
theorem G4{x0:Int}{x0_1:Int}{a0:Option Addr}{n0 c0:Nat}{a0_2:Option Addr}{n0_3 c0_4:Nat}{a0_5:Option Addr}{n0_6 c0_7:Nat}{x1:Int}{m:Mem}{Q:Value->Mem->Prop}(h:zf x0 x0_1 a0 n0 c0 a0_2 n0_3 c0_4 a0_5 n0_6 c0_7 x1 m Q):ah cx uY [.agg #[.int .i64 (x0),.int .i64 (x0_1),.slice a0 (n0) (c0),.slice a0_2 (n0_3) (c0_4),.slice a0_5 (n0_6) (c0_7)],.int .i64 (x1)] m Q:=
 have e:zf x0 x0_1 a0 n0 c0 a0_2 n0_3 c0_4 a0_5 n0_6 c0_7 x1 m Q=iz cx Tryz.f13 [2,4,9] [none,none,none,none,none,none,none,none,none,some ⟨[8],[(7,.sl),(64,.int .i64),(65,.int .i64),(66,.sl),(67,.sl),(68,.sl)],[(2,0,0),(4,1,0)],[1],[(0,[64,65,66,67,68])],2⟩] [.agg #[.int .i64 (x0),.int .i64 (x0_1),.slice a0 (n0) (c0),.slice a0_2 (n0_3) (c0_4),.slice a0_5 (n0_6) (c0_7)],.int .i64 (x1)] m Q:=by kernel_rfl
 ah.of di db (by kernel_rfl) (by kernel_rfl) (Eq.mp e h)
def uy(x0:Int)(x0_1:Int)(a0:Option Addr)(n0 c0:Nat)(a0_2:Option Addr)(n0_3 c0_4:Nat)(a0_5:Option Addr)(n0_6 c0_7:Nat)(x1:Int)(m:Mem)(Q:Value->Mem->Prop):Prop:=
 (splitB (cR (x1) (0:Int))
 (Q (.tuple #[.agg #[.int .i64 (x0),.int .i64 (x0_1),.slice a0 (n0) (c0),.slice a0_2 (n0_3) (c0_4),.slice a0_5 (n0_6) (c0_7)],.slice none (0) (0),.int .i64 (0:Int),.int .i64 (1:Int)]) (bump m 2))
 (dJ (fun(x8:Int) (m1:Mem)=>(ah cx uY [.agg #[.int .i64 (x0),.int .i64 (x0_1),.slice a0 (n0) (c0),.slice a0_2 (n0_3) (c0_4),.slice a0_5 (n0_6) (c0_7)],.int .i64 (x8)] m1 fun r29 m2=>(∃(x29:Int),(∃(x29_8:Int),(∃(a29:Option Addr) (n29 c29:Nat),(∃(a29_9:Option Addr) (n29_10 c29_11:Nat),(∃(a29_12:Option Addr) (n29_13 c29_14:Nat),(∃(a29_15:Option Addr) (n29_16 c29_17:Nat),(∃(x29_18:Int),r29=(.tuple #[.agg #[.int .i64 (x29),.int .i64 (x29_8),.slice a29 (n29) (c29),.slice a29_9 (n29_10) (c29_11),.slice a29_12 (n29_13) (c29_14)],.slice a29_15 (n29_16) (c29_17),.int .i64 (x29_18)])/\(splitB (dT (x29_18) (0:Int))
 (Q (.tuple #[.agg #[.int .i64 (x29),.int .i64 (x29_8),.slice a29 (n29) (c29),.slice a29_9 (n29_10) (c29_11),.slice a29_12 (n29_13) (c29_14)],.slice none (0) (0),.int .i64 (0:Int),.int .i64 (x29_18)]) m2)
 (Q (.tuple #[.agg #[.int .i64 (x29),.int .i64 (x29_8),.slice a29 (n29) (c29),.slice a29_9 (n29_10) (c29_11),.slice a29_12 (n29_13) (c29_14)],.slice a29_15 (n29_16) (c29_17),.int .i64 (x8),.int .i64 (0:Int)]) m2))))))))))) fun J=>
 (ah cx uh [.agg #[.int .i64 (x0),.int .i64 (x0_1),.slice a0 (n0) (c0),.slice a0_2 (n0_3) (c0_4),.slice a0_5 (n0_6) (c0_7)]] ((bump m 2)) fun r19 m3=>(∃(x19:Int),(∃(b19:Bool),r19=(.tuple #[.int .i64 (x19),.bool (b19)])/\(splitB (b19)
 (J (fG (x1) (x19)) m3)
 (J (x1) m3)))))))
theorem CR{x0:Int}{x0_1:Int}{a0:Option Addr}{n0 c0:Nat}{a0_2:Option Addr}{n0_3 c0_4:Nat}{a0_5:Option Addr}{n0_6 c0_7:Nat}{x1:Int}{m:Mem}{Q:Value->Mem->Prop}(h:uy x0 x0_1 a0 n0 c0 a0_2 n0_3 c0_4 a0_5 n0_6 c0_7 x1 m Q):ah cx ui [.agg #[.int .i64 (x0),.int .i64 (x0_1),.slice a0 (n0) (c0),.slice a0_2 (n0_3) (c0_4),.slice a0_5 (n0_6) (c0_7)],.int .i64 (x1)] m Q:=
 have e:uy x0 x0_1 a0 n0 c0 a0_2 n0_3 c0_4 a0_5 n0_6 c0_7 x1 m Q=iz cx Tryz.f15 [2,4] [none,none,none,none,none,some ⟨[],[(8,.int .i64)],[(2,0,0),(4,1,0)],[0,1],[],2⟩] [.agg #[.int .i64 (x0),.int .i64 (x0_1),.slice a0 (n0) (c0),.slice a0_2 (n0_3) (c0_4),.slice a0_5 (n0_6) (c0_7)],.int .i64 (x1)] m Q:=by kernel_rfl
 ah.of di db (by kernel_rfl) (by kernel_rfl) (Eq.mp e h)
end
end Go.Proofs.YthpnifigjfplbaaGreat.vc
namespace Go.Proofs.YthpnifigjfplbaaGreat.vc
open Go Go.AX
section
variable {m m0:Mem} {Q:Value->Mem->Prop} {a:Option Addr} {n c:Nat}
theorem NA{n:Nat}(hw:Wf m)(hn:n<=1000000)(h0:n=0->Q (.slice none 0 0) m)(h1:0<n->∀Z m',Z.length=n*1->m'=newO m (row Z t_int true)->Q (.slice (some ⟨m.nx,0,none⟩) 0 n) m') :
  ah cx mh [.slice none 0 0,.int .i64 (n:Int)] m Q:=by
 apply uC;unfold mi;have hc:mF cx m [dt] [.slice none 0 0]=some (.int .i64 0):=by
  unfold mF;simp only[Dp];rfl
 refine dL (fun f:Mem->Prop=>f m) ?_ ?_
 .refine⟨0,hc,?_⟩;have e:de .i64 (n:Int) (de .i64 0 (aQ 0))=(n:Int):=by
   rw[show de .i64 0 (aQ 0)=0 from eO (by simp[aQ]) (by simp[aQ]),eO (by omega) (by omega)];omega
  rw[e];refine dP (fun hp=>?_) (fun hp=>?_)
  .refine⟨0,hc,none,0,0,?_,?_⟩
   .unfold cX;have b1:fi 0 (some (.int .i64 0)) 0=some 0:=dC (i:=0) (gQ4 _);simp only[Dp,A8,b1];rfl
   .obtain⟨Z,hZ,hap⟩:=H6 (cx:=cx) (m:=m) (t:=dt) (e:=t_int) (tx:=t_int) (s:=1) (n:=n) (by kernel_rfl) (by kernel_rfl) (by kernel_rfl) (by omega) hn;refine⟨_,_,_,_,hap,_,_,_,eR Dp A8 (dC (i:=0) (Nat.zero_le _)) rfl ((Row.newO (m:=m) (l:=Z) (e:=t_int) (x:=true)).sameSize A8) (Nat.zero_le _),?_⟩;exact h1 (by omega) Z _ hZ rfl
  .exact h0 (by omega)
 .intro J hJ;refine dP (fun hp=>by omega) (fun hp=>hJ)
theorem Jz{b0:Nat}{t0:TypeId}{a a':Option Addr}{n c n' c':Nat}{l l':List Int}(hw:Wf m)(hR:Row m b0 [.slice a n c,.slice a' n' c'] t0 false)(hA:Arr encI 1 m a n l)(hA':Arr encI 1 m a' n' l')(hn:n+n'<=100000)
  (h:∀m2 a2 c2,Keep m m2->OwnSl m m2 t_int a2 (n+n') c2 ((l++l').flatMap encI)->Q (.slice a2 (n+n') c2) m2) :
  ah cx kS [.slice (some ⟨b0,0,none⟩) 2 2] m Q:=by
 apply sQ;unfold kT;have rd0:∀m1,m1.hp.get b0=m.hp.get b0->∀k:Nat,k<2->∃(a1:Option Addr) (n1 c1:Nat),rd m1 b0 (0+Int.toNat (k:Int)*1)=some (.slice a1 n1 c1)/\((k=0/\a1=a/\n1=n/\c1=c)∨(k=1/\a1=a'/\n1=n'/\c1=c')):=by
  intro m1 hg k hk;have hR1:=hR.congr hg;rcases Nat.lt_or_ge k 1 with h|h
  .obtain rfl:k=0:=by omega
   exact⟨a,n,c,by rw[hR1.rd];rfl,.inl ⟨rfl,rfl,rfl,rfl⟩⟩
  .obtain rfl:k=1:=by omega
   exact⟨a',n',c',by rw[hR1.rd];rfl,.inr ⟨rfl,rfl,rfl,rfl⟩⟩
 have hln:l.length=n:=hA.1;have hln':l'.length=n':=hA'.1;refine NM (show 2<=4611686018427387904 by omega) (fun k (x:Int) mm=>mm=m/\x=((if k=0 then 0 else if k=1 then n else n+n':Nat):Int)) ⟨rfl,rfl⟩ ?_;rintro k x m1 hk ⟨rfl,hx⟩ I w hI;refine dG (fun hlt=>?_) (fun hge=>?_)
 .refine⟨⟨by omega,by omega⟩,?_⟩;rw[cW];obtain⟨a1,n1,c1,r1,r2⟩:=rd0 m1 rfl k hlt;refine⟨a1,n1,c1,r1,?_⟩;have hx2:bh .i64 x (aQ n1)=((if k+1=0 then 0 else if k+1=1 then n else n+n':Nat):Int):=by
   rcases r2 with⟨rfl,_,rfl,_⟩|⟨rfl,_,rfl,_⟩
   .rw[hx];simp only[if_true,Nat.zero_add,if_neg (show ¬(1:Nat)=0 by omega)];rw[dN (by simp only[pm.fP];omega) (by simp only[pm.fP];omega)];simp only[pm.fP];omega
   .rw[hx];simp only[if_neg (show ¬(1:Nat)=0 by omega),if_true,if_neg (show ¬(1+1:Nat)=0 by omega),if_neg (show ¬(1+1:Nat)=1 by omega)];rw[dN (by simp only[pm.fP];omega) (by simp only[pm.fP];omega)];simp only[pm.fP];omega
  rw[hx2];refine dP (fun hp=>by omega) (fun hp=>hI _ _ hlt ⟨rfl,rfl⟩)
 .obtain rfl:k=2:=by omega
  rw[if_neg (by omega),if_neg (by omega)]at hx;subst hx;clear hI I w;have fill:∀(aG:Option Addr) (m2:Mem),((n+n'=0/\aG=none/\m2=m1)∨(0<n+n'/\aG=some ⟨m1.nx,0,none⟩/\∃Z,Z.length=(n+n')*1/\m2=newO m1 (row Z t_int true)))->
    ∃Inv_3:Option Addr->Nat->Nat->Int->Mem->Nat->Prop,(∃n_4:Nat,Inv_3 aG 0 (n+n') (0:Int) m2 n_4)/\
     ∀(a6:Option Addr) (n6 c6:Nat) (x27:Int),∀(m3:Mem) (n_5:Nat),Inv_3 a6 n6 c6 x27 m3 n_5->
     (splitB (cR (x27) (aQ (2)))
     ((0<=(x27)/\(x27)<((2:Nat):Int))/\(cZ (some ⟨b0,0,none⟩) fun ba0_6 oa0_7=>(∃(a30:Option Addr) (n30 c30:Nat),rd m3 ba0_6 (oa0_7+Int.toNat (x27)*1)=some (.slice a30 (n30) (c30))/\(∃(a33:Option Addr) (n33 c33:Nat) (m4:Mem),cQ cx m3 [dt,dt] [.slice a6 (n6) (c6),.slice a30 (n30) (c30)]=some (.slice a33 (n33) (c33),m4)/\(∃n_8:Nat,n_8<n_5/\Inv_3 a33 (n33) (c33) (bh .i64 (x27) (1:Int)) m4 n_8)))))
     (Q (.slice a6 (n6) (c6)) m3)):=by
   intro aG m2 hG;have one:∀(L:List Int),(L.flatMap encI).all one1=true:=fun L=>rI D5 L
   rcases hG with⟨hz,rfl,em⟩|⟨hz,rfl,Z,hZ,rfl⟩
   ·
    rw[em];obtain rfl:n=0:=by omega
    obtain rfl:n'=0:=by omega
    have hl0:l=[]:=List.length_eq_zero_iff.1 hln;have hl0':l'=[]:=List.length_eq_zero_iff.1 hln';subst hl0;subst hl0';refine oN (show 2<=4611686018427387904 by omega) (fun k a6 n6 c6 mm=>mm=m1/\a6=none/\n6=0/\c6=0) ⟨rfl,rfl,rfl,rfl⟩ ?_;rintro k a6 n6 c6 m3 hk ⟨rfl,rfl,rfl,rfl⟩ I w hI;refine dG (fun hlt=>?_) (fun hge=>?_)
    .refine⟨⟨by omega,by omega⟩,?_⟩;rw[cW];obtain⟨a1,n1,c1,r1,r2⟩:=rd0 m3 rfl k hlt;refine⟨a1,n1,c1,r1,none,0,0,m3,?_,hI _ _ _ _ hlt ⟨rfl,rfl,rfl,rfl⟩⟩;obtain rfl:n1=0:=by rcases r2 with⟨_,_,h,_⟩|⟨_,_,h,_⟩<;>exact h
     obtain⟨i,z,h1,h2,h3,h4,h5,h6,h7⟩:=jg (cx:=cx) (t:=dt) (e:=t_int) (s:=1) (by kernel_rfl);unfold cQ;have hf:dA m3 i.size 0 (.slice a1 0 c1)=some []:=by cases a1<;>rfl
     have b1:(Nat.beq ([]:List Value).length (0*i.size)&&Nat.blt 0 i.size&&([]:List Value).all one1)=true:=by
      rw[h3,Nat.zero_mul,show Nat.blt 0 1=true from rfl];rfl
     simp only[h1,h2,mE,iR,hf,b1]
    .exact h m3 none 0 (Keep.refl hw) (by simpa using OwnSl.nil)
   .have kz:Keep m1 (newO m1 (row Z t_int true)):=(Keep.refl hw).newO;have hRz:Row (newO m1 (row Z t_int true)) m1.nx Z t_int true:=Row.newO;have hlf:(l.flatMap encI).length=n*1:=by rw[dm dV,hln]
    have hlf':(l'.flatMap encI).length=n'*1:=by rw[dm dV,hln']
    refine oN (show 2<=4611686018427387904 by omega) (fun k a6 n6 c6 mm=>Keep m1 mm/\a6=some ⟨m1.nx,0,none⟩/\c6=n+n'/\m1.nx<mm.nx/\
     ((k=0/\n6=0/\∃Z,Z.length=(n+n')*1/\Row mm m1.nx Z t_int true)∨(k=1/\n6=n/\∃Z,Z.length=n'*1/\Row mm m1.nx (l.flatMap encI++Z) t_int true)∨(k=2/\n6=n+n'/\Row mm m1.nx (l.flatMap encI++l'.flatMap encI) t_int true)))
     ⟨kz,rfl,rfl,by simp,.inl ⟨rfl,rfl,Z,hZ,hRz⟩⟩ ?_
    rintro k a6 n6 c6 m3 hk ⟨k3,rfl,rfl,hnx,hst⟩ I w hI;have hb0:b0<m1.nx:=hw.row hR;refine dG (fun hlt=>?_) (fun hge=>?_)
    .refine⟨⟨by omega,by omega⟩,?_⟩;rw[cW];obtain⟨a1,n1,c1,r1,r2⟩:=rd0 m3 (k3.get b0 hb0) k hlt;refine⟨a1,n1,c1,r1,?_⟩;have hfl:m3.fl<=m1.nx:=by have:=k3.fl;have:=hw.1;omega
     have fc:∀m4:Mem,(∀b',b'≠m1.nx->m4.hp.get b'=m3.hp.get b')->m4.nx=m3.nx->m4.fl=m3.fl->Keep m1 m4:=fun m4 g1 g2 g3=>
      ⟨k3.wf.at (r:=m1.nx) hnx g2 g3 g1,by have:=k3.nx;omega,g3.trans k3.fl,fun b hb=>(g1 b (by omega)).trans (k3.get b hb)⟩
     rcases hst with⟨rfl,rfl,Z1,hZ1,hR1⟩|⟨rfl,rfl,Z1,hZ1,hR1⟩|⟨rfl,_⟩
     .rcases r2 with⟨_,rfl,rfl,rfl⟩|⟨h,_⟩
      .obtain⟨m4,q1,q2,q3,q4,q5⟩:=yN (cx:=cx) (t:=dt) (e:=t_int) (s:=1) (n:=n1+n') (k:=0) (d:=n1) (ck:=c1) (by kernel_rfl) hR1 hZ1 hfl ((hA.keep hw k3).first dV (by omega)) hlf (one l) (by omega);refine⟨_,_,_,m4,q1,hI _ _ _ m4 hlt ⟨fc m4 q3 q4 q5,rfl,rfl,by omega,.inr (.inl ⟨rfl,by omega,Z1.drop ((0+n1)*1),?_,?_⟩)⟩⟩
       .rw[List.length_drop,hZ1];omega
       .simpa using q2
      .omega
     .rcases r2 with⟨h,_⟩|⟨_,rfl,rfl,rfl⟩
      .omega
      .obtain⟨m4,q1,q2,q3,q4,q5⟩:=yN (cx:=cx) (t:=dt) (e:=t_int) (s:=1) (n:=n6+n1) (k:=n6) (d:=n1) (ck:=c1) (by kernel_rfl) hR1 (by rw[gR2,hlf,hZ1];omega) hfl ((hA'.keep hw k3).first dV (by omega)) hlf' (one l') (by omega);refine⟨_,_,_,m4,q1,hI _ _ _ m4 hlt ⟨fc m4 q3 q4 q5,rfl,rfl,by omega,.inr (.inr ⟨rfl,rfl,?_⟩)⟩⟩;have e1:(l.flatMap encI++Z1).take (n6*1)=l.flatMap encI:=by rw[<-hlf,List.take_left]
       have e2:(l.flatMap encI++Z1).drop ((n6+n1)*1)=[]:=List.drop_eq_nil_of_le (by rw[gR2,hlf,hZ1];omega);rw[e1,e2,List.append_nil]at q2;exact q2
     .omega
    .rcases hst with⟨rfl,_⟩|⟨rfl,_⟩|⟨_,rfl,hR1⟩
     .omega
     .omega
     .refine h m3 _ _ k3 (.row m1.nx _ _ hz (gQ4 _) ?_);rw[List.flatMap_append];exact hR1
  refine NA hw (by omega) (fun hz=>⟨_,_,_,rfl,?_⟩) (fun hz Z m2 hZ hm2=>⟨_,_,_,rfl,?_⟩)
  .have:=fill none m1 (.inl ⟨hz,rfl,rfl⟩);rw[hz]at this;exact this
  .exact fill _ m2 (.inr ⟨hz,rfl,Z,hZ,hm2⟩)
theorem wQ{l:List Int}{x:Int}(hw:Wf m)(ha:Arr encI 1 m a n l)(hn:n<=4611686018427387904)
  (h:∀m',Keep m m'->Q (.int .i64 (match l.findIdx? (fun y=>cT x y)with|some i=>(i:Int)|none=>-1)) m'):ah cx jd [.slice a n c,.int .i64 x] m Q:=by
 apply uu;unfold lC;refine og hn (fun k mm=>Keep m mm/\∀y∈l.take k,cT x y=false) ⟨Keep.refl hw,by simp⟩ ?_;rintro k m1 hk ⟨k1,hno⟩ I w hI;refine dG (fun hlt=>?_) (fun hge=>?_)
 .obtain⟨y,hx⟩:∃y,l[k]? = some y:=⟨_,gQ2 (by rw[ha.1];exact hlt)⟩;have hkl:=(gQ1 hx).1;refine(ha.keep hw k1).open (k:=k) hx fun b o hc=>⟨_,hc 0 _ rfl,?_⟩
  refine cJ (fun ht=>?_) (fun ht=>?_)
  .have e:l.findIdx? (fun y=>cT x y)=some k:=by
    rw[List.findIdx?_eq_some_iff_getElem];refine⟨hkl,by rw[(gQ1 hx).2];exact ht,fun j hj=>?_⟩;have:=hno l[j] (gQ3 (i:=j) (by rw[List.getElem?_take,if_pos hj,gQ2 (by omega)]));rw[this];simp
   have:=h m1 k1;rw[e]at this;exact this
  .refine hI m1 hlt ⟨k1,fun z hz=>?_⟩;rw[List.take_add_one,hx]at hz;rcases List.mem_append.1 hz with hz|hz
   .exact hno z hz
   .simp at hz;subst hz;exact ht
 .have e:l.findIdx? (fun y=>cT x y)=none:=by
   rw[List.findIdx?_eq_none_iff];intro y hy;rw[<-List.take_of_length_le (l:=l) (i:=k) (by rw[ha.1];exact hge)]at hy;exact hno y hy
  have:=h m1 k1;rw[e]at this;exact this
theorem Aw{l:List Int}{x:Int}(hw:Wf m)(ha:Arr encI 1 m a n l)(hn:n<=4611686018427387904)
  (h:∀m',Keep m m'->Q (.bool (decide (x∈l))) m'):ah cx ig [.slice a n c,.int .i64 x] m Q:=by
 apply rT;unfold jW;refine wQ hw ha hn fun m' k=>⟨_,rfl,?_⟩
 have e:leI 0 (match l.findIdx? (fun y=>cT x y)with|some i=>(i:Int)|none=>-1)=decide (x∈l):=by
  refine Dt.trans ?_;rw[Bool.eq_iff_iff,List.any_eq_true,decide_eq_true_iff];constructor
  .rintro⟨y,hy,he⟩;rw[eH.1 he];exact hy
  .intro hx;exact⟨x,hx,eH.2 rfl⟩
 have:=h m' k;rw[<-e]at this;exact this
structure FF (m0 m:Mem) (pf:Nat) (room:Int) (a:Option Addr) (c:Nat) (l:List Int):Prop where
 row:Row m pf [.int .i64 room,.slice a l.length c] t_fifo_Fifo false
 acc:Acc m0 m a l.length c 1 t_int (l.flatMap encI)
 new:m0.nx<=pf
 ne:pf∉blk a
 low:m0.fl<=m0.nx
theorem FF.lt{pf:Nat}{room:Int}{l:List Int}(h:FF m0 m pf room a c l):pf<m.nx:=h.acc.keep.wf.row h.row
theorem FF.keep{m':Mem}{pf:Nat}{room:Int}{l:List Int}(h:FF m0 m pf room a c l)(k:Keep m m'):FF m0 m' pf room a c l:=
 ⟨k.row h.acc.keep.wf h.row,h.acc.then k,h.new,h.ne,h.low⟩
theorem FF.fr{m':Mem}{pf:Nat}{room:Int}{l:List Int}{S:List Nat}(h:FF m0 m pf room a c l)(hw:Wf m')(f:Fr m m' S)(hS:∀b∈S,m0.nx<=b/\b≠pf/\b∉blk a):FF m0 m' pf room a c l:=
 ⟨f.row h.row h.lt (fun hb=>(hS _ hb).2.1 rfl),h.acc.fr hw f fun b hb=>⟨(hS b hb).1,(hS b hb).2.2⟩,h.new,h.ne,h.low⟩
theorem NC{pf:Nat}{room:Int}{l:List Int}{x:Int}(h:FF m0 m pf room a c l)(hn:l.length<=1000)
  (hQ:∀m',Keep m m'->Q (.int .i64 (match l.findIdx? (fun y=>cT x y)with|some i=>(i:Int)|none=>-1)) m'):ah cx mL [.pointer (some ⟨pf,0,none⟩),.int .i64 x] m Q:=by
 apply vN;unfold mN;rw[cW];refine⟨a,l.length,c,by rw[h.row.rd];rfl,?_⟩;exact wQ h.acc.keep.wf (h.acc.arr dV (by omega)) (by omega) fun m' k=>⟨_,rfl,hQ m' k⟩
theorem yO{pf:Nat}{room:Int}{l:List Int}{x:Int}(h:FF m0 m pf room a c l)(hn:l.length<=1000)(hr:(l.length:Int)≠room)
  (hQ:∀m' a' c',FF m0 m' pf room a' c' (l++[x])->Fr m m' (pf::blk a)->(∀b∈blk a',m.nx<=b)->Q (.bool true) m'):ah cx lh [.pointer (some ⟨pf,0,none⟩),.int .i64 x] m Q:=by
 apply xG;unfold oB;have hw:=h.acc.keep.wf;have k1:Keep m (bump m 10):=(Keep.refl hw).bump;have h1:=h.keep k1;rw[cW];refine⟨a,l.length,c,by rw[h1.row.rd];rfl,?_⟩;rw[cW];refine⟨room,by rw[h1.row.rd];rfl,fC (fun e=>absurd e hr) (fun _=>?_)⟩;rw[cW];refine⟨a,l.length,c,by rw[h1.row.rd];rfl,?_⟩;rw[cO];obtain⟨m4,q1,q2,q3,q4,q5⟩:=h1.acc.push (cx:=cx) (t:=dt) (vs:=encI x) (by kernel_rfl) rfl rfl (by omega);refine⟨_,_,_,m4,q1,?_⟩;rw[cW];have hlt:=h1.lt;have hxn:(bump m 10).nx=m.nx+10:=rfl;have hlt0:=h.lt;have r4:Row m4 pf [.int .i64 room,.slice a l.length c] t_fifo_Fifo false:=q4.row h1.row hlt h1.ne;have hfl:m4.fl<=pf:=by have:=q2.keep.fl;have:=h.new;have:=h.low;omega
 refine⟨r4.okW hfl (by simp),?_⟩;rw[cO];have r5:=r4.wr (o:=1) (vs:=[.slice (some ⟨(bump m 10).nx+1,0,none⟩) (l.length+1) (l.length+1)]) (by simp);have f5:Fr m4 (wr m4 pf (0+1) [.slice (some ⟨(bump m 10).nx+1,0,none⟩) (l.length+1) (l.length+1)]) [pf]:=(Fr.refl _ _).wr (.inl (gQ9 ..));have w5:Wf (wr m4 pf (0+1) [.slice (some ⟨(bump m 10).nx+1,0,none⟩) (l.length+1) (l.length+1)]):=(Keep.wr (b:=pf) (o:=0+1) (l:=[.slice (some ⟨(bump m 10).nx+1,0,none⟩) (l.length+1) (l.length+1)]) q2.keep h.new).wf;refine hQ _ (some ⟨(bump m 10).nx+1,0,none⟩) (l.length+1) ⟨?_,?_,h.new,?_,h.low⟩ ?_ ?_
 .rw[gR2];exact r5
 .rw[gR2,List.flatMap_append];have:=q2.fr (S:=[pf]) w5 f5 fun b hb=>by
   rw[List.mem_singleton]at hb;subst hb;refine⟨h.new,?_⟩;simp[blk];omega
  simpa using this
 .simp[blk];omega
 .refine((k1.fr (pf::blk a)).trans (q4.mono fun b hb=>.inl (gQ5 _ hb)) fun b hb=>.inl hb).trans f5 fun b hb=>?_
  rw[List.mem_singleton]at hb;subst hb;exact .inl (gQ9 ..)
 .intro b hb;simp[blk]at hb;omega
end
end Go.Proofs.YthpnifigjfplbaaGreat.vc
