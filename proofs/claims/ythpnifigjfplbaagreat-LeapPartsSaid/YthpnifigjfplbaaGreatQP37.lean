import Derived.Test.YthpnifigjfplbaaGreatQP32
import Derived.KernelRfl
import Derived.Test.YthpnifigjfplbaaGreatQP36
import Derived.Test.YthpnifigjfplbaaGreatQP27
set_option linter.unusedVariables false
set_option linter.unusedSimpArgs false
set_option linter.unusedSectionVars false
namespace Go.Proofs.YthpnifigjfplbaaGreat.vc
open Go Go.AX
set_option maxRecDepth 100000
noncomputable section
def lq(a0:Option Addr)(n0 c0:Nat)(x1:Int)(m:Mem)(Q:Value->Mem->Prop):Prop:=
 (∃Inv:Int->Mem->Nat->Prop,(∃n:Nat,Inv (0:Int) m n)/\
 (∀(x8:Int),∀(m1:Mem) (n_1:Nat),Inv (x8) m1 n_1->
 (splitB (cR (x8) (aQ (n0)))
 ((0<=(x8)/\(x8)<((n0:Nat):Int))/\(da a0 fun ba0 oa0=>(∃(x15:Int),rd m1 ba0 (oa0+Int.toNat (x8)*1)=some (.int .i64 (x15))/\(splitB (cU (x1) (x15))
 (Q (.int .i64 (x8)) m1)
 (∃n_2:Nat,n_2<n_1/\Inv (bh .i64 (x8) (1:Int)) m1 n_2)))))
 (Q (.int .i64 (-1:Int)) m1))))
theorem tU{a0:Option Addr}{n0 c0:Nat}{x1:Int}{m:Mem}{Q:Value->Mem->Prop}(h:lq a0 n0 c0 x1 m Q):ah cx iP [.slice a0 (n0) (c0),.int .i64 (x1)] m Q:=
 have e:lq a0 n0 c0 x1 m Q=kE cx Tryz.f116 [] [none,none,none,some ⟨[0,1,7],[(8,.int .i64)],[],[],[],0⟩] [.slice a0 (n0) (c0),.int .i64 (x1)] m Q:=by kernel_rfl
 ah.of dm dh (by kernel_rfl) (by kernel_rfl) (Eq.mp e h)
def jK(a0:Option Addr)(n0 c0:Nat)(x1:Int)(m:Mem)(Q:Value->Mem->Prop):Prop:=
 (ah cx iP [.slice a0 (n0) (c0),.int .i64 (x1)] m fun r7 m1=>(∃(x7:Int),r7=(.int .i64 (x7))/\(Q (.bool (leI (0:Int) (x7))) m1)))
theorem rC{a0:Option Addr}{n0 c0:Nat}{x1:Int}{m:Mem}{Q:Value->Mem->Prop}(h:jK a0 n0 c0 x1 m Q):ah cx gZ [.slice a0 (n0) (c0),.int .i64 (x1)] m Q:=
 have e:jK a0 n0 c0 x1 m Q=kE cx Tryz.f77 [] [] [.slice a0 (n0) (c0),.int .i64 (x1)] m Q:=by kernel_rfl
 ah.of dm dh (by kernel_rfl) (by kernel_rfl) (Eq.mp e h)
def lZ(a0:Option Addr)(n0 c0:Nat)(x1:Int)(m:Mem)(Q:Value->Mem->Prop):Prop:=
 (dN (fun(m1:Mem)=>(∃x10:Int,mq cx m1 [dt] [.slice a0 (n0) (c0)]=some (.int .i64 x10)/\(splitB (cR (0:Int) (cY .i64 (x1) (cY .i64 (x10) (aQ (n0)))))
 (∃x19:Int,mq cx m1 [dt] [.slice a0 (n0) (c0)]=some (.int .i64 x19)/\(∃(a20:Option Addr) (n20 c20:Nat),cW cx m1 dt (.slice a0 (n0) (c0)) none (some (.int .i64 (x19))) none=some (.slice a20 (n20) (c20))/\(∃(a22:Option Addr) (n22 c22:Nat) (m2:Mem),cQ cx m1 [dt,t_int] [.slice a20 (n20) (c20),.int .i64 (cY .i64 (x1) (cY .i64 (x10) (aQ (n0))))]=some (.slice a22 (n22) (c22),m2)/\(∃(a25:Option Addr) (n25 c25:Nat),cW cx m2 dt (.slice a22 (n22) (c22)) none (some (.int .i64 (aQ (n0)))) none=some (.slice a25 (n25) (c25))/\(Q (.slice a25 (n25) (c25)) m2)))))
 (Q (.slice a0 (n0) (c0)) m1)))) fun J=>
 (splitB (cR (x1) (0:Int))
 False
 (J m)))
theorem ub{a0:Option Addr}{n0 c0:Nat}{x1:Int}{m:Mem}{Q:Value->Mem->Prop}(h:lZ a0 n0 c0 x1 m Q):ah cx lY [.slice a0 (n0) (c0),.int .i64 (x1)] m Q:=
 have e:lZ a0 n0 c0 x1 m Q=kE cx Tryz.f162 [] [none,some ⟨[0,1],[],[],[],[],0⟩] [.slice a0 (n0) (c0),.int .i64 (x1)] m Q:=by kernel_rfl
 ah.of dm dh (by kernel_rfl) (by kernel_rfl) (Eq.mp e h)
def kH(a0:Option Addr)(n0 c0:Nat)(m:Mem)(Q:Value->Mem->Prop):Prop:=
 (∃Inv:Int->Int->Mem->Nat->Prop,(∃n:Nat,Inv (0:Int) (0:Int) m n)/\
 (∀(x3:Int) (x11:Int),∀(m1:Mem) (n_1:Nat),Inv (x3) (x11) m1 n_1->
 (splitB (cR (x11) (aQ (n0)))
 ((0<=(x11)/\(x11)<((n0:Nat):Int))/\(da a0 fun ba0 oa0=>(∃(a14:Option Addr) (n14 c14:Nat),rd m1 ba0 (oa0+Int.toNat (x11)*1)=some (.slice a14 (n14) (c14))/\(splitB (cR (bh .i64 (x3) (aQ (n14))) (0:Int))
 False
 (∃n_2:Nat,n_2<n_1/\Inv (bh .i64 (x3) (aQ (n14))) (bh .i64 (x11) (1:Int)) m1 n_2)))))
 (ah cx lY [.slice none (0) (0),.int .i64 (x3)] m1 fun r24 m2=>(∃(a24:Option Addr) (n24 c24:Nat),r24=(.slice a24 (n24) (c24))/\(∃Inv_3:Option Addr->Nat->Nat->Int->Mem->Nat->Prop,(∃n_4:Nat,Inv_3 a24 (n24) (c24) (0:Int) m2 n_4)/\
 (∀(a6:Option Addr) (n6 c6:Nat) (x27:Int),∀(m3:Mem) (n_5:Nat),Inv_3 a6 (n6) (c6) (x27) m3 n_5->
 (splitB (cR (x27) (aQ (n0)))
 ((0<=(x27)/\(x27)<((n0:Nat):Int))/\(da a0 fun ba0_6 oa0_7=>(∃(a30:Option Addr) (n30 c30:Nat),rd m3 ba0_6 (oa0_7+Int.toNat (x27)*1)=some (.slice a30 (n30) (c30))/\(∃(a33:Option Addr) (n33 c33:Nat) (m4:Mem),cQ cx m3 [dt,dt] [.slice a6 (n6) (c6),.slice a30 (n30) (c30)]=some (.slice a33 (n33) (c33),m4)/\(∃n_8:Nat,n_8<n_5/\Inv_3 a33 (n33) (c33) (bh .i64 (x27) (1:Int)) m4 n_8)))))
 (Q (.slice a6 (n6) (c6)) m3)))))))))
theorem sD{a0:Option Addr}{n0 c0:Nat}{m:Mem}{Q:Value->Mem->Prop}(h:kH a0 n0 c0 m Q):ah cx kG [.slice a0 (n0) (c0)] m Q:=
 have e:kH a0 n0 c0 m Q=kE cx Tryz.f152 [] [none,none,none,none,some ⟨[0,9,10],[(3,.int .i64),(11,.int .i64)],[],[],[],0⟩,none,none,none,none,none,none,none,none,none,some ⟨[25,26],[(6,.sl),(27,.int .i64)],[],[],[],1⟩] [.slice a0 (n0) (c0)] m Q:=by kernel_rfl
 ah.of dm dh (by kernel_rfl) (by kernel_rfl) (Eq.mp e h)
def xh(x0:Int)(m:Mem)(Q:Value->Mem->Prop):Prop:=
 (cZ (newO m (row [.int .i64 (fI (jP (x0) (1:Int)) (256:Int)),.slice none (0) (0)] t_fifo_Fifo false)) fun m1=>(Q (.pointer (some ⟨m.nx,0,none⟩)) m1))
theorem ET{x0:Int}{m:Mem}{Q:Value->Mem->Prop}(h:xh x0 m Q):ah cx sC [.int .i64 (x0)] m Q:=
 have e:xh x0 m Q=kE cx Tryz.f147 [] [] [.int .i64 (x0)] m Q:=by kernel_rfl
 ah.of dm dh (by kernel_rfl) (by kernel_rfl) (Eq.mp e h)
def mD(p0:Option Addr)(x1:Int)(m:Mem)(Q:Value->Mem->Prop):Prop:=
 (da p0 fun bp0 op0=>(∃(a8:Option Addr) (n8 c8:Nat),rd m bp0 (op0+1)=some (.slice a8 (n8) (c8))/\(ah cx iP [.slice a8 (n8) (c8),.int .i64 (x1)] m fun r10 m1=>(∃(x10:Int),r10=(.int .i64 (x10))/\(Q (.int .i64 (x10)) m1)))))
theorem vm{p0:Option Addr}{x1:Int}{m:Mem}{Q:Value->Mem->Prop}(h:mD p0 x1 m Q):ah cx mB [.pointer p0,.int .i64 (x1)] m Q:=
 have e:mD p0 x1 m Q=kE cx Tryz.f148 [] [] [.pointer p0,.int .i64 (x1)] m Q:=by kernel_rfl
 ah.of dm dh (by kernel_rfl) (by kernel_rfl) (Eq.mp e h)
def nV(p0:Option Addr)(x1:Int)(m:Mem)(Q:Value->Mem->Prop):Prop:=
 (da p0 fun bp0 op0=>(∃(a8:Option Addr) (n8 c8:Nat),rd ((bump m 10)) bp0 (op0+1)=some (.slice a8 (n8) (c8))/\(da p0 fun bp0_1 op0_2=>(∃(x13:Int),rd ((bump m 10)) bp0_1 (op0_2)=some (.int .i64 (x13))/\(splitB (cU (aQ (n8)) (x13))
 (Q (.bool (false)) (bump m 10))
 (da p0 fun bp0_3 op0_4=>(∃(a19:Option Addr) (n19 c19:Nat),rd (bump m 10) bp0_3 (op0_4+1)=some (.slice a19 (n19) (c19))/\(cZ (newO (bump m 10) (row [.int .i64 (x1)] t_int false)) fun m1=>(∃(a22:Option Addr) (n22 c22:Nat) (m2:Mem),cQ cx m1 [dt,dt] [.slice a19 (n19) (c19),.slice (some ⟨((bump m 10)).nx,0,none⟩) (1) (1)]=some (.slice a22 (n22) (c22),m2)/\(da p0 fun bp0_5 op0_6=>(okW m2 bp0_5 (op0_6+1) 1/\(cZ (wr m2 bp0_5 (op0_6+1) [.slice a22 (n22) (c22)]) fun m3=>(Q (.bool (true)) m3)))))))))))))
theorem xe{p0:Option Addr}{x1:Int}{m:Mem}{Q:Value->Mem->Prop}(h:nV p0 x1 m Q):ah cx kQ [.pointer p0,.int .i64 (x1)] m Q:=
 have e:nV p0 x1 m Q=kE cx Tryz.f149 [] [] [.pointer p0,.int .i64 (x1)] m Q:=by kernel_rfl
 ah.of dm dh (by kernel_rfl) (by kernel_rfl) (Eq.mp e h)
def nX(p0:Option Addr)(m:Mem)(Q:Value->Mem->Prop):Prop:=
 (da p0 fun bp0 op0=>(∃(a6:Option Addr) (n6 c6:Nat),rd m bp0 (op0+1)=some (.slice a6 (n6) (c6))/\(ah cx iO [.slice a6 (n6) (c6)] m fun r7 m1=>(∃(a7:Option Addr) (n7 c7:Nat),r7=(.slice a7 (n7) (c7))/\(Q (.slice a7 (n7) (c7)) m1)))))
theorem xj{p0:Option Addr}{m:Mem}{Q:Value->Mem->Prop}(h:nX p0 m Q):ah cx nT [.pointer p0] m Q:=
 have e:nX p0 m Q=kE cx Tryz.f150 [] [] [.pointer p0] m Q:=by kernel_rfl
 ah.of dm dh (by kernel_rfl) (by kernel_rfl) (Eq.mp e h)
def nW(p0:Option Addr)(m:Mem)(Q:Value->Mem->Prop):Prop:=
 (da p0 fun bp0 op0=>(∃(a6:Option Addr) (n6 c6:Nat),rd m bp0 (op0+1)=some (.slice a6 (n6) (c6))/\(Q (.int .i64 (aQ (n6))) m)))
theorem xi{p0:Option Addr}{m:Mem}{Q:Value->Mem->Prop}(h:nW p0 m Q):ah cx rX [.pointer p0] m Q:=
 have e:nW p0 m Q=kE cx Tryz.f161 [] [] [.pointer p0] m Q:=by kernel_rfl
 ah.of dm dh (by kernel_rfl) (by kernel_rfl) (Eq.mp e h)
def vo(x0:Int)(m:Mem)(Q:Value->Mem->Prop):Prop:=
 (ah cx sC [.int .i64 (fI (jP (x0) (1:Int)) (256:Int))] m fun r8 m1=>(∃(p8:Option Addr),r8=(.pointer p8)/\(cZ (newO m1 (row [.int .i64 (fI (jP (x0) (1:Int)) (256:Int)),.pointer p8] t_robin_Robin false)) fun m2=>(Q (.pointer (some ⟨m1.nx,0,none⟩)) m2))))
theorem Da{x0:Int}{m:Mem}{Q:Value->Mem->Prop}(h:vo x0 m Q):ah cx vg [.int .i64 (x0)] m Q:=
 have e:vo x0 m Q=kE cx Tryz.f118 [] [] [.int .i64 (x0)] m Q:=by kernel_rfl
 ah.of dm dh (by kernel_rfl) (by kernel_rfl) (Eq.mp e h)
def mF(p0:Option Addr)(x1:Int)(m:Mem)(Q:Value->Mem->Prop):Prop:=
 (splitB (cR (x1) (0:Int))
 (Q (.int .i64 (1:Int)) m)
 (da p0 fun bp0 op0=>(∃(p12:Option Addr),rd m bp0 (op0+1)=some (.pointer p12)/\(ah cx mB [.pointer p12,.int .i64 (x1)] m fun r14 m1=>(∃(x14:Int),r14=(.int .i64 (x14))/\(splitB (leI (0:Int) (x14))
 (Q (.int .i64 (5:Int)) m1)
 (da p0 fun bp0_1 op0_2=>(∃(p20:Option Addr),rd m1 bp0_1 (op0_2+1)=some (.pointer p20)/\(ah cx kQ [.pointer p20,.int .i64 (x1)] m1 fun r22 m2=>(∃(b22:Bool),r22=(.bool (b22))/\(splitB (!(b22))
 (Q (.int .i64 (3:Int)) m2)
 (Q (.int .i64 (0:Int)) m2))))))))))))
theorem vp{p0:Option Addr}{x1:Int}{m:Mem}{Q:Value->Mem->Prop}(h:mF p0 x1 m Q):ah cx mA [.pointer p0,.int .i64 (x1)] m Q:=
 have e:mF p0 x1 m Q=kE cx Tryz.f119 [] [] [.pointer p0,.int .i64 (x1)] m Q:=by kernel_rfl
 ah.of dm dh (by kernel_rfl) (by kernel_rfl) (Eq.mp e h)
def ma(p0:Option Addr)(x1:Int)(m:Mem)(Q:Value->Mem->Prop):Prop:=
 (da p0 fun bp0 op0=>(∃(p10:Option Addr),rd m bp0 (op0+1)=some (.pointer p10)/\(ah cx rX [.pointer p10] m fun r11 m1=>(∃(x11:Int),r11=(.int .i64 (x11))/\(Q (.int .i64 (fI (jP (x1) (0:Int)) (x11))) m1)))))
theorem uc{p0:Option Addr}{x1:Int}{m:Mem}{Q:Value->Mem->Prop}(h:ma p0 x1 m Q):ah cx lX [.pointer p0,.int .i64 (x1)] m Q:=
 have e:ma p0 x1 m Q=kE cx Tryz.f151 [] [] [.pointer p0,.int .i64 (x1)] m Q:=by kernel_rfl
 ah.of dm dh (by kernel_rfl) (by kernel_rfl) (Eq.mp e h)
def lS(p0:Option Addr)(x1:Int)(x2:Int)(m:Mem)(Q:Value->Mem->Prop):Prop:=
 (da p0 fun bp0 op0=>(∃(p20:Option Addr),rd m bp0 (op0+1)=some (.pointer p20)/\(ah cx nT [.pointer p20] m fun r21 m1=>(∃(a21:Option Addr) (n21 c21:Nat),r21=(.slice a21 (n21) (c21))/\(splitB (cU (aQ (n21)) (0:Int))
 (Q (.tuple #[.slice none (0) (0),.slice none (0) (0)]) m1)
 (ah cx lX [.pointer p0,.int .i64 (x1)] m1 fun r27 m2=>(∃(x27:Int),r27=(.int .i64 (x27))/\((aQ (n21))≠0/\((aQ (n21))≠0/\((0<=aQ (n21)/\aQ (n21)<=aQ (n21)/\aQ (n21)<=1073741824/\8*Int.toNat (aQ (n21))<=140737488355328)/\(cZ (newO (bump m2 10) (row (ed [.int .i64 (0:Int)] (Int.toNat (aQ (n21)))) jt false)) fun m3=>(∃Inv:Int->Mem->Nat->Prop,(∃n:Nat,Inv (0:Int) m3 n)/\
 (∀(x45:Int),∀(m4:Mem) (n_1:Nat),Inv (x45) m4 n_1->
 (splitB (cR (x45) (aQ (n21)))
 ((0<=(x45)/\(x45)<((Int.toNat (aQ (n21)):Nat):Int))/\(okW m4 ((bump m2 10)).nx (0+Int.toNat (x45)*1) 1/\(cZ (wr m4 ((bump m2 10)).nx (0+Int.toNat (x45)*1) [.int .i64 (nP .i64 (ig .i64 (x27) (fI (jP (x2) (0:Int)) (1099511627776:Int))) (aQ (n21)))]) fun m5=>(splitB (cR (x45) (Int.tmod (ig .i64 (x27) (fI (jP (x2) (0:Int)) (1099511627776:Int))) (aQ (n21))))
 ((0<=(x45)/\(x45)<((Int.toNat (aQ (n21)):Nat):Int))/\(∃(x58:Int),rd m5 ((bump m2 10)).nx (0+Int.toNat (x45)*1)=some (.int .i64 (x58))/\((0<=(x45)/\(x45)<((Int.toNat (aQ (n21)):Nat):Int))/\(okW m5 ((bump m2 10)).nx (0+Int.toNat (x45)*1) 1/\(cZ (wr m5 ((bump m2 10)).nx (0+Int.toNat (x45)*1) [.int .i64 (bh .i64 (x58) (1:Int))]) fun m6=>(∃n_2:Nat,n_2<n_1/\Inv (bh .i64 (x45) (1:Int)) m6 n_2))))))
 (∃n_3:Nat,n_3<n_1/\Inv (bh .i64 (x45) (1:Int)) m5 n_3)))))
 (∃(a64:Option Addr) (n64 c64:Nat),cW cx ((bump m4 9)) dt (.slice a21 (n21) (c21)) (some (.int .i64 (Int.tmod (ig .i64 (x27) (fI (jP (x2) (0:Int)) (1099511627776:Int))) (aQ (n21))))) none none=some (.slice a64 (n64) (c64))/\(∃(a67:Option Addr) (n67 c67:Nat),cW cx ((bump m4 9)) dt (.slice a21 (n21) (c21)) none (some (.int .i64 (Int.tmod (ig .i64 (x27) (fI (jP (x2) (0:Int)) (1099511627776:Int))) (aQ (n21))))) none=some (.slice a67 (n67) (c67))/\(ah cx kG [.slice (some ⟨(m4.nx+6),0,none⟩) (2) (2)] ((addO ((bump m4 9)) (m4.nx+6) (row [.slice a64 (n64) (c64),.slice a67 (n67) (c67)] dt false))) fun r69 m7=>(∃(a69:Option Addr) (n69 c69:Nat),r69=(.slice a69 (n69) (c69))/\(cZ (m7) fun m8=>(da p0 fun bp0_4 op0_5=>(∃(x74:Int),rd m8 bp0_4 (op0_5)=some (.int .i64 (x74))/\(ah cx sC [.int .i64 (x74)] m8 fun r75 m9=>(∃(p75:Option Addr),r75=(.pointer p75)/\(da p0 fun bp0_6 op0_7=>(okW m9 bp0_6 (op0_7+1) 1/\(cZ (wr m9 bp0_6 (op0_7+1) [.pointer p75]) fun m10=>(∃Inv_8:Int->Mem->Nat->Prop,(∃n_9:Nat,Inv_8 (0:Int) m10 n_9)/\
 (∀(x80:Int),∀(m11:Mem) (n_10:Nat),Inv_8 (x80) m11 n_10->
 (splitB (cR (x80) (aQ (n69)))
 ((0<=(x80)/\(x80)<((n69:Nat):Int))/\(da a69 fun ba69 oa69=>(∃(x83:Int),rd m11 ba69 (oa69+Int.toNat (x80)*1)=some (.int .i64 (x83))/\(da p0 fun bp0_11 op0_12=>(∃(p87:Option Addr),rd m11 bp0_11 (op0_12+1)=some (.pointer p87)/\(ah cx kQ [.pointer p87,.int .i64 (x83)] m11 fun r89 m12=>(∃(b89:Bool),r89=(.bool (b89))/\(∃n_13:Nat,n_13<n_10/\Inv_8 (bh .i64 (x80) (1:Int)) m12 n_13))))))))
 (Q (.tuple #[.slice (some ⟨((bump m2 10)).nx,0,none⟩) (Int.toNat (aQ (n21))) (Int.toNat (aQ (n21))),.slice a69 (n69) (c69)]) m11))))))))))))))))))))))))))))))
theorem tY{p0:Option Addr}{x1:Int}{x2:Int}{m:Mem}{Q:Value->Mem->Prop}(h:lS p0 x1 x2 m Q):ah cx lR [.pointer p0,.int .i64 (x1),.int .i64 (x2)] m Q:=
 have e:lS p0 x1 x2 m Q=kE cx Tryz.f120 [] [none,none,none,none,none,none,none,none,none,none,some ⟨[0,8,10,11,12,44],[(45,.int .i64)],[],[],[],0⟩,none,none,none,none,none,none,none,none,none,none,some ⟨[0,12,14,78,79],[(80,.int .i64)],[],[],[],1⟩] [.pointer p0,.int .i64 (x1),.int .i64 (x2)] m Q:=by kernel_rfl
 ah.of dm dh (by kernel_rfl) (by kernel_rfl) (Eq.mp e h)
def tQ(x0:Int)(x0_1:Int)(a0:Option Addr)(n0 c0:Nat)(a0_2:Option Addr)(n0_3 c0_4:Nat)(a0_5:Option Addr)(n0_6 c0_7:Nat)(x1:Int)(m:Mem)(Q:Value->Mem->Prop):Prop:=
 (ah cx li [.agg #[.int .i64 (x0),.int .i64 (x0_1),.slice a0 (n0) (c0),.slice a0_2 (n0_3) (c0_4),.slice a0_5 (n0_6) (c0_7)]] ((bump m 1)) fun r13 m1=>(∃(a13:Option Addr) (n13 c13:Nat),(∃(a13_8:Option Addr) (n13_9 c13_10:Nat),r13=(.tuple #[.slice a13 (n13) (c13),.slice a13_8 (n13_9) (c13_10)])/\(∃Inv:Int->Int->Mem->Nat->Prop,(∃n:Nat,Inv (x1) (0:Int) m1 n)/\
 (∀(x1_11:Int) (x19:Int),∀(m2:Mem) (n_12:Nat),Inv (x1_11) (x19) m2 n_12->
 (splitB (cR (x19) (aQ (n0)))
 ((0<=(x19)/\(x19)<((n0:Nat):Int))/\(da a0 fun ba0 oa0=>(∃(x22:Int),rd m2 ba0 (oa0+Int.toNat (x19)*11)=some (.int .i64 (x22))/\(∃(x22_13:Int),rd m2 ba0 (oa0+Int.toNat (x19)*11+1)=some (.int .i64 (x22_13))/\(∃(x22_14:Int),rd m2 ba0 (oa0+Int.toNat (x19)*11+2)=some (.int .i64 (x22_14))/\(∃(x22_15:Int),rd m2 ba0 (oa0+Int.toNat (x19)*11+3)=some (.int .i64 (x22_15))/\(∃(x22_16:Int),rd m2 ba0 (oa0+Int.toNat (x19)*11+4)=some (.int .i64 (x22_16))/\(∃(x22_17:Int),rd m2 ba0 (oa0+Int.toNat (x19)*11+5)=some (.int .i64 (x22_17))/\(∃(a22:Option Addr) (n22 c22:Nat),rd m2 ba0 (oa0+Int.toNat (x19)*11+6)=some (.slice a22 (n22) (c22))/\(∃(x22_18:Int),rd m2 ba0 (oa0+Int.toNat (x19)*11+7)=some (.int .i64 (x22_18))/\(∃(x22_19:Int),rd m2 ba0 (oa0+Int.toNat (x19)*11+8)=some (.int .i64 (x22_19))/\(∃(x22_20:Int),rd m2 ba0 (oa0+Int.toNat (x19)*11+9)=some (.int .i64 (x22_20))/\(∃(x22_21:Int),rd m2 ba0 (oa0+Int.toNat (x19)*11+10)=some (.int .i64 (x22_21))/\(dN (fun(x1_22:Int) (m3:Mem)=>(ah cx gZ [.slice a13 (n13) (c13),.int .i64 (x22)] m3 fun r46 m4=>(∃(b46:Bool),r46=(.bool (b46))/\(splitB (!(b46))
 (∃n_23:Nat,n_23<n_12/\Inv (x1_22) (bh .i64 (x19) (1:Int)) m4 n_23)
 ((0<=(0:Int)/\(0:Int)<((n22:Nat):Int))/\(da a22 fun ba22 oa22=>(∃(x58:Int),rd m4 ba22 (oa22+Int.toNat (0:Int)*4)=some (.int .i64 (x58))/\(∃(a58:Option Addr) (n58 c58:Nat),rd m4 ba22 (oa22+Int.toNat (0:Int)*4+1)=some (.slice a58 (n58) (c58))/\(∃(x58_24:Int),rd m4 ba22 (oa22+Int.toNat (0:Int)*4+2)=some (.int .i64 (x58_24))/\(∃(x58_25:Int),rd m4 ba22 (oa22+Int.toNat (0:Int)*4+3)=some (.int .i64 (x58_25))/\(ah cx lW [.agg #[.int .i64 (x58),.slice a58 (n58) (c58),.int .i64 (x58_24),.int .i64 (x58_25)]] m4 fun r59 m5=>(∃(x59:Int),(∃(x59_26:Int),(∃(b59:Bool),r59=(.tuple #[.agg #[.int .i64 (x59),.int .i64 (x59_26)],.bool (b59)])/\(dN (fun(x1_28:Int) (m6:Mem)=>(splitB (cU (x22_18) (2:Int))
 ((0<=(cY .i64 (x59) (1:Int))/\(cY .i64 (x59) (1:Int))<((n0_3:Nat):Int))/\(da a0_2 fun ba0_2 oa0_2=>(∃(x87:Int),rd ((bump m6 15)) ba0_2 (oa0_2+Int.toNat (cY .i64 (x59) (1:Int))*4)=some (.int .i64 (x87))/\(∃n_29:Nat,n_29<n_12/\Inv (fI (x1_28) (cY .i64 (cY .i64 (x87) (x22_19)) (1:Int))) (bh .i64 (x19) (1:Int)) (bump m6 15) n_29))))
 (∃n_30:Nat,n_30<n_12/\Inv (x1_28) (bh .i64 (x19) (1:Int)) m6 n_30))) fun J_27=>
 (splitB (dV (x22_18) (1:Int))
 ((0<=(0:Int)/\(0:Int)<((n22:Nat):Int))/\(da a22 fun ba22_31 oa22_32=>(∃(x72:Int),rd ((bump m5 13)) ba22_31 (oa22_32+Int.toNat (0:Int)*4+3)=some (.int .i64 (x72))/\(J_27 (fI (fI (x1_22) (cY .i64 (x22_15) (1:Int))) (cY .i64 (cY .i64 (x59_26) (x72)) (1:Int))) (bump m5 13)))))
 (J_27 (fI (x1_22) (cY .i64 (x22_15) (1:Int))) (bump m5 1)))))))))))))))))) fun J=>
 (dN (fun(b34:Bool) (m7:Mem)=>(splitB (b34)
 (J (fI (x1_11) (cY .i64 (x22_16) (x0_1))) m7)
 (J (x1_11) m7))) fun J_33=>
 (splitB (dV (x22_17) (0:Int)) (J_33 (cR (x0_1) (x22_16)) (bump m2 1)) (J_33 (false) (bump m2 1))))))))))))))))))
 (Q (.int .i64 (jP (x1_11) (0:Int))) m2)))))))
theorem Ce{x0:Int}{x0_1:Int}{a0:Option Addr}{n0 c0:Nat}{a0_2:Option Addr}{n0_3 c0_4:Nat}{a0_5:Option Addr}{n0_6 c0_7:Nat}{x1:Int}{m:Mem}{Q:Value->Mem->Prop}(h:tQ x0 x0_1 a0 n0 c0 a0_2 n0_3 c0_4 a0_5 n0_6 c0_7 x1 m Q):ah cx tP [.agg #[.int .i64 (x0),.int .i64 (x0_1),.slice a0 (n0) (c0),.slice a0_2 (n0_3) (c0_4),.slice a0_5 (n0_6) (c0_7)],.int .i64 (x1)] m Q:=
 have e:tQ x0 x0_1 a0 n0 c0 a0_2 n0_3 c0_4 a0_5 n0_6 c0_7 x1 m Q=kE cx Tryz.f34 [2,8,9] [none,none,none,none,some ⟨[5,17,18],[(1,.int .i64),(19,.int .i64)],[(2,0,0)],[0],[],1⟩,none,none,none,none,some ⟨[5,17,18,19],[(1,.int .i64)],[(2,0,0),(8,2,0)],[0,2],[],5⟩,some ⟨[1,5,17,18,19],[(34,.bool)],[(2,0,0),(8,2,0)],[0,2],[],4⟩,none,none,none,none,some ⟨[5,17,18,19],[(1,.int .i64)],[(2,0,0),(8,2,0),(9,6,0)],[0,2,6],[],8⟩] [.agg #[.int .i64 (x0),.int .i64 (x0_1),.slice a0 (n0) (c0),.slice a0_2 (n0_3) (c0_4),.slice a0_5 (n0_6) (c0_7)],.int .i64 (x1)] m Q:=by kernel_rfl
 ah.of dm dh (by kernel_rfl) (by kernel_rfl) (Eq.mp e h)
def vn(x0:Int)(x0_1:Int)(a0:Option Addr)(n0 c0:Nat)(a0_2:Option Addr)(n0_3 c0_4:Nat)(a0_5:Option Addr)(n0_6 c0_7:Nat)(x1:Int)(m:Mem)(Q:Value->Mem->Prop):Prop:=
 (splitB (cU (x1) (0:Int))
 (Q (.agg #[.int .i64 (x0),.int .i64 (x0_1),.slice a0 (n0) (c0),.slice a0_2 (n0_3) (c0_4),.slice a0_5 (n0_6) (c0_7)]) (bump m 2))
 (ah cx li [.agg #[.int .i64 (x0),.int .i64 (x0_1),.slice a0 (n0) (c0),.slice a0_2 (n0_3) (c0_4),.slice a0_5 (n0_6) (c0_7)]] ((bump m 2)) fun r14 m1=>(∃(a14:Option Addr) (n14 c14:Nat),(∃(a14_8:Option Addr) (n14_9 c14_10:Nat),r14=(.tuple #[.slice a14 (n14) (c14),.slice a14_8 (n14_9) (c14_10)])/\(ah cx gp [.slice a0 (n0) (c0)] m1 fun r19 m2=>(∃(a19:Option Addr) (n19 c19:Nat),r19=(.slice a19 (n19) (c19))/\(∃Inv:Int->Mem->Nat->Prop,(∃n:Nat,Inv (0:Int) m2 n)/\
 (∀(x24:Int),∀(m3:Mem) (n_11:Nat),Inv (x24) m3 n_11->
 (splitB (cR (x24) (aQ (n19)))
 ((0<=(x24)/\(x24)<((n19:Nat):Int))/\(da a19 fun ba19 oa19=>(∃(x35:Int),rd m3 ba19 (oa19+Int.toNat (x24)*11)=some (.int .i64 (x35))/\(ah cx gZ [.slice a14 (n14) (c14),.int .i64 (x35)] m3 fun r36 m4=>(∃(b36:Bool),r36=(.bool (b36))/\(splitB (!(b36))
 (∃n_12:Nat,n_12<n_11/\Inv (bh .i64 (x24) (1:Int)) m4 n_12)
 (∃(x43:Int),rd m4 ba19 (oa19+Int.toNat (x24)*11+1)=some (.int .i64 (x43))/\(∃(x43_13:Int),rd m4 ba19 (oa19+Int.toNat (x24)*11+2)=some (.int .i64 (x43_13))/\(∃(x43_14:Int),rd m4 ba19 (oa19+Int.toNat (x24)*11+3)=some (.int .i64 (x43_14))/\(∃(x43_15:Int),rd m4 ba19 (oa19+Int.toNat (x24)*11+4)=some (.int .i64 (x43_15))/\(∃(x43_16:Int),rd m4 ba19 (oa19+Int.toNat (x24)*11+5)=some (.int .i64 (x43_16))/\(ah cx uA [.agg #[.int .i64 (x43),.int .i64 (x43_13),.int .i64 (x43_14),.int .i64 (x43_15),.int .i64 (x43_16)],.int .i64 (x1)] m4 fun r45 m5=>(∃(x45:Int),(∃(x45_17:Int),(∃(x45_18:Int),(∃(x45_19:Int),(∃(x45_20:Int),(∃(x45_21:Int),r45=(.tuple #[.agg #[.int .i64 (x45),.int .i64 (x45_17),.int .i64 (x45_18),.int .i64 (x45_19),.int .i64 (x45_20)],.int .i64 (x45_21)])/\(okW m5 ba19 (oa19+Int.toNat (x24)*11+1) 5/\(cZ (wr m5 ba19 (oa19+Int.toNat (x24)*11+1) [.int .i64 (x45),.int .i64 (x45_17),.int .i64 (x45_18),.int .i64 (x45_19),.int .i64 (x45_20)]) fun m6=>(∃(x53:Int),rd m6 ba19 (oa19+Int.toNat (x24)*11+10)=some (.int .i64 (x53))/\(okW m6 ba19 (oa19+Int.toNat (x24)*11+10) 1/\(cZ (wr m6 ba19 (oa19+Int.toNat (x24)*11+10) [.int .i64 (bh .i64 (x53) (x1))]) fun m7=>(dN (fun(m8:Mem)=>(∃(x90:Int),rd m8 ba19 (oa19+Int.toNat (x24)*11+7)=some (.int .i64 (x90))/\(splitB (cU (x90) (2:Int))
 (∃(x95:Int),rd m8 ba19 (oa19+Int.toNat (x24)*11+8)=some (.int .i64 (x95))/\(okW m8 ba19 (oa19+Int.toNat (x24)*11+8) 1/\(cZ (wr m8 ba19 (oa19+Int.toNat (x24)*11+8) [.int .i64 (bh .i64 (x95) (x1))]) fun m9=>(∃n_22:Nat,n_22<n_11/\Inv (bh .i64 (x24) (1:Int)) m9 n_22))))
 (∃n_23:Nat,n_23<n_11/\Inv (bh .i64 (x24) (1:Int)) m8 n_23)))) fun J=>
 (∃(x61:Int),rd m7 ba19 (oa19+Int.toNat (x24)*11+7)=some (.int .i64 (x61))/\(splitB (dV (x61) (1:Int))
 (∃(a67:Option Addr) (n67 c67:Nat),rd m7 ba19 (oa19+Int.toNat (x24)*11+6)=some (.slice a67 (n67) (c67))/\(ah cx gQ [.slice a67 (n67) (c67)] m7 fun r68 m10=>(∃(a68:Option Addr) (n68 c68:Nat),r68=(.slice a68 (n68) (c68))/\(okW m10 ba19 (oa19+Int.toNat (x24)*11+6) 1/\(cZ (wr m10 ba19 (oa19+Int.toNat (x24)*11+6) [.slice a68 (n68) (c68)]) fun m11=>(∃(a75:Option Addr) (n75 c75:Nat),rd ((bump m11 17)) ba19 (oa19+Int.toNat (x24)*11+6)=some (.slice a75 (n75) (c75))/\(∃(a79:Option Addr) (n79 c79:Nat),rd ((bump m11 17)) ba19 (oa19+Int.toNat (x24)*11+6)=some (.slice a79 (n79) (c79))/\((0<=(0:Int)/\(0:Int)<((n79:Nat):Int))/\(da a79 fun ba79 oa79=>(∃(x81:Int),rd ((bump m11 17)) ba79 (oa79+Int.toNat (0:Int)*4)=some (.int .i64 (x81))/\(∃(a81:Option Addr) (n81 c81:Nat),rd ((bump m11 17)) ba79 (oa79+Int.toNat (0:Int)*4+1)=some (.slice a81 (n81) (c81))/\(∃(x81_24:Int),rd ((bump m11 17)) ba79 (oa79+Int.toNat (0:Int)*4+2)=some (.int .i64 (x81_24))/\(∃(x81_25:Int),rd ((bump m11 17)) ba79 (oa79+Int.toNat (0:Int)*4+3)=some (.int .i64 (x81_25))/\(ah cx uD [.agg #[.int .i64 (x81),.slice a81 (n81) (c81),.int .i64 (x81_24),.int .i64 (x81_25)],.int .i64 (x1)] ((setFl ((bump m11 17)) m11.nx)) fun r83 m12=>(∃(x83:Int),(∃(a83:Option Addr) (n83 c83:Nat),(∃(x83_26:Int),(∃(x83_27:Int),(∃(x83_28:Int),r83=(.tuple #[.agg #[.int .i64 (x83),.slice a83 (n83) (c83),.int .i64 (x83_26),.int .i64 (x83_27)],.int .i64 (x83_28)])/\((0<=(0:Int)/\(0:Int)<((n75:Nat):Int))/\(da a75 fun ba75 oa75=>(okW ((setFl m12 ((bump m11 17)).fl)) ba75 (oa75+Int.toNat (0:Int)*4) 4/\(cZ (wr ((setFl m12 ((bump m11 17)).fl)) ba75 (oa75+Int.toNat (0:Int)*4) [.int .i64 (x83),.slice a83 (n83) (c83),.int .i64 (x83_26),.int .i64 (x83_27)]) fun m13=>(J m13))))))))))))))))))))))))
 (J m7)))))))))))))))))))))))))))
 (ah cx tN [.slice a0_5 (n0_6) (c0_7),.int .i64 (aQ (n14_9)),.int .i64 (x1)] m3 fun r106 m14=>(∃(a106:Option Addr) (n106 c106:Nat),r106=(.slice a106 (n106) (c106))/\(Q (.agg #[.int .i64 (x0),.int .i64 (bh .i64 (x0_1) (x1)),.slice a19 (n19) (c19),.slice a0_2 (n0_3) (c0_4),.slice a106 (n106) (c106)]) m14))))))))))))
theorem C9{x0:Int}{x0_1:Int}{a0:Option Addr}{n0 c0:Nat}{a0_2:Option Addr}{n0_3 c0_4:Nat}{a0_5:Option Addr}{n0_6 c0_7:Nat}{x1:Int}{m:Mem}{Q:Value->Mem->Prop}(h:vn x0 x0_1 a0 n0 c0 a0_2 n0_3 c0_4 a0_5 n0_6 c0_7 x1 m Q):ah cx ve [.agg #[.int .i64 (x0),.int .i64 (x0_1),.slice a0 (n0) (c0),.slice a0_2 (n0_3) (c0_4),.slice a0_5 (n0_6) (c0_7)],.int .i64 (x1)] m Q:=
 have e:vn x0 x0_1 a0 n0 c0 a0_2 n0_3 c0_4 a0_5 n0_6 c0_7 x1 m Q=kE cx Tryz.f35 [2,4] [none,none,none,none,none,none,none,none,some ⟨[1,5,6,23],[(24,.int .i64)],[(2,0,0),(4,1,0)],[0,1],[],3⟩,none,none,none,none,none,none,none,none,none,some ⟨[1,5,6,8,23,24],[],[(2,0,0),(4,1,0)],[0,1],[],4⟩] [.agg #[.int .i64 (x0),.int .i64 (x0_1),.slice a0 (n0) (c0),.slice a0_2 (n0_3) (c0_4),.slice a0_5 (n0_6) (c0_7)],.int .i64 (x1)] m Q:=by kernel_rfl
 ah.of dm dh (by kernel_rfl) (by kernel_rfl) (Eq.mp e h)
def tO(a0:Option Addr)(n0 c0:Nat)(x1:Int)(x2:Int)(m:Mem)(Q:Value->Mem->Prop):Prop:=
 (splitB (cU (x1) (0:Int))
 (Q (.slice a0 (n0) (c0)) m)
 (ah cx vg [.int .i64 (aQ (n0))] m fun r23 m1=>(∃(p23:Option Addr),r23=(.pointer p23)/\(∃Inv:Int->Mem->Nat->Prop,(∃n:Nat,Inv (0:Int) m1 n)/\
 (∀(x26:Int),∀(m2:Mem) (n_1:Nat),Inv (x26) m2 n_1->
 (splitB (cR (x26) (aQ (n0)))
 (ah cx mA [.pointer p23,.int .i64 (x26)] m2 fun r31 m3=>(∃(x31:Int),r31=(.int .i64 (x31))/\(∃n_2:Nat,n_2<n_1/\Inv (bh .i64 (x26) (1:Int)) m3 n_2)))
 ((aQ (n0))≠0/\((aQ (n0))≠0/\(ah cx lR [.pointer p23,.int .i64 (x1),.int .i64 (Int.tmod (x2) (aQ (n0)))] m2 fun r44 m4=>(∃(a44:Option Addr) (n44 c44:Nat),(∃(a44_3:Option Addr) (n44_4 c44_5:Nat),r44=(.tuple #[.slice a44 (n44) (c44),.slice a44_3 (n44_4) (c44_5)])/\(∃Inv_6:Option Addr->Nat->Nat->Int->Mem->Nat->Prop,(∃n_7:Nat,Inv_6 none (0) (0) (0:Int) m4 n_7)/\
 (∀(a13:Option Addr) (n13 c13:Nat) (x49:Int),∀(m5:Mem) (n_8:Nat),Inv_6 a13 (n13) (c13) (x49) m5 n_8->
 (splitB (cR (x49) (aQ (n44_4)))
 ((0<=(x49)/\(x49)<((n44_4:Nat):Int))/\(da a44_3 fun ba44_3 oa44_3=>(∃(x52:Int),rd m5 ba44_3 (oa44_3+Int.toNat (x49)*1)=some (.int .i64 (x52))/\((0<=(x52)/\(x52)<((n0:Nat):Int))/\(da a0 fun ba0 oa0=>(∃(x58:Int),rd ((bump m5 22)) ba0 (oa0+Int.toNat (x52)*2)=some (.int .i64 (x58))/\((0<=(x52)/\(x52)<((n0:Nat):Int))/\(da a0 fun ba0_9 oa0_10=>(∃(x63:Int),rd ((bump m5 22)) ba0_9 (oa0_10+Int.toNat (x52)*2+1)=some (.int .i64 (x63))/\((0<=(x52)/\(x52)<((n44:Nat):Int))/\(da a44 fun ba44 oa44=>(∃(x69:Int),rd ((bump m5 22)) ba44 (oa44+Int.toNat (x52)*1)=some (.int .i64 (x69))/\(∃(a73:Option Addr) (n73 c73:Nat) (m6:Mem),cQ cx (addO ((bump m5 22)) (m5.nx+19) (row [.int .i64 (x58),.int .i64 (bh .i64 (bh .i64 (x63) (ig .i64 (nP .i64 (x2) (aQ (n0))) (x1))) (x69))] di false)) [cS,cS] [.slice a13 (n13) (c13),.slice (some ⟨(m5.nx+19),0,none⟩) (1) (1)]=some (.slice a73 (n73) (c73),m6)/\(cZ (m6) fun m7=>(∃n_11:Nat,n_11<n_8/\Inv_6 a73 (n73) (c73) (bh .i64 (x49) (1:Int)) m7 n_11)))))))))))))))
 (Q (.slice a13 (n13) (c13)) m5)))))))))))))))
theorem Cd{a0:Option Addr}{n0 c0:Nat}{x1:Int}{x2:Int}{m:Mem}{Q:Value->Mem->Prop}(h:tO a0 n0 c0 x1 x2 m Q):ah cx tN [.slice a0 (n0) (c0),.int .i64 (x1),.int .i64 (x2)] m Q:=
 have e:tO a0 n0 c0 x1 x2 m Q=kE cx Tryz.f81 [] [none,none,none,none,none,none,none,none,some ⟨[0,1,2,7,8,25],[(26,.int .i64)],[],[],[],0⟩,none,none,none,none,none,none,none,none,none,some ⟨[0,10,11,47,48],[(13,.sl),(49,.int .i64)],[],[],[],1⟩] [.slice a0 (n0) (c0),.int .i64 (x1),.int .i64 (x2)] m Q:=by kernel_rfl
 ah.of dm dh (by kernel_rfl) (by kernel_rfl) (Eq.mp e h)
def yF(x0:Int)(x0_1:Int)(a0:Option Addr)(n0 c0:Nat)(a0_2:Option Addr)(n0_3 c0_4:Nat)(a0_5:Option Addr)(n0_6 c0_7:Nat)(x1:Int)(m:Mem)(Q:Value->Mem->Prop):Prop:=
 (splitB (cR (x1) (0:Int))
 (Q (.tuple #[.agg #[.int .i64 (x0),.int .i64 (x0_1),.slice a0 (n0) (c0),.slice a0_2 (n0_3) (c0_4),.slice a0_5 (n0_6) (c0_7)],.slice none (0) (0),.int .i64 (1:Int)]) (bump m 2))
 (splitB (cR (cY .i64 (4611686018427387904:Int) (x0_1)) (x1))
 (Q (.tuple #[.agg #[.int .i64 (x0),.int .i64 (x0_1),.slice a0 (n0) (c0),.slice a0_2 (n0_3) (c0_4),.slice a0_5 (n0_6) (c0_7)],.slice none (0) (0),.int .i64 (6:Int)]) (bump m 2))
 (∃Inv:Option Addr->Nat->Nat->Int->Int->Option Addr->Nat->Nat->Option Addr->Nat->Nat->Option Addr->Nat->Nat->Mem->Nat->Prop,(∃n:Nat,Inv none (0) (0) (x0) (x0_1) a0 (n0) (c0) a0_2 (n0_3) (c0_4) a0_5 (n0_6) (c0_7) (bump m 2) n)/\
 (∀(a7:Option Addr) (n7 c7:Nat) (xc:Int) (xc_8:Int) (ac:Option Addr) (nc cc:Nat) (ac_9:Option Addr) (nc_10 cc_11:Nat) (ac_12:Option Addr) (nc_13 cc_14:Nat),∀(m1:Mem) (n_15:Nat),Inv a7 (n7) (c7) (xc) (xc_8) ac (nc) (cc) ac_9 (nc_10) (cc_11) ac_12 (nc_13) (cc_14) m1 n_15->
 (splitB (cR (xc_8) (bh .i64 (x0_1) (x1)))
 (ah cx lh [.agg #[.int .i64 (xc),.int .i64 (xc_8),.slice ac (nc) (cc),.slice ac_9 (nc_10) (cc_11),.slice ac_12 (nc_13) (cc_14)]] m1 fun r33 m2=>(∃(x33:Int),(∃(x33_16:Int),(∃(a33:Option Addr) (n33 c33:Nat),(∃(a33_17:Option Addr) (n33_18 c33_19:Nat),(∃(a33_20:Option Addr) (n33_21 c33_22:Nat),(∃(a33_23:Option Addr) (n33_24 c33_25:Nat),r33=(.tuple #[.agg #[.int .i64 (x33),.int .i64 (x33_16),.slice a33 (n33) (c33),.slice a33_17 (n33_18) (c33_19),.slice a33_20 (n33_21) (c33_22)],.slice a33_23 (n33_24) (c33_25)])/\(∃(a38:Option Addr) (n38 c38:Nat) (m3:Mem),cQ cx (bump m2 1) [bJ,bJ] [.slice a7 (n7) (c7),.slice a33_23 (n33_24) (c33_25)]=some (.slice a38 (n38) (c38),m3)/\(ah cx tP [.agg #[.int .i64 (x33),.int .i64 (x33_16),.slice a33 (n33) (c33),.slice a33_17 (n33_18) (c33_19),.slice a33_20 (n33_21) (c33_22)],.int .i64 (cY .i64 (bh .i64 (x0_1) (x1)) (x33_16))] m3 fun r44 m4=>(∃(x44:Int),r44=(.int .i64 (x44))/\(splitB (cR (0:Int) (x44))
 (ah cx ve [.agg #[.int .i64 (x33),.int .i64 (x33_16),.slice a33 (n33) (c33),.slice a33_17 (n33_18) (c33_19),.slice a33_20 (n33_21) (c33_22)],.int .i64 (x44)] m4 fun r49 m5=>(∃(x49:Int),(∃(x49_26:Int),(∃(a49:Option Addr) (n49 c49:Nat),(∃(a49_27:Option Addr) (n49_28 c49_29:Nat),(∃(a49_30:Option Addr) (n49_31 c49_32:Nat),r49=(.agg #[.int .i64 (x49),.int .i64 (x49_26),.slice a49 (n49) (c49),.slice a49_27 (n49_28) (c49_29),.slice a49_30 (n49_31) (c49_32)])/\(∃n_33:Nat,n_33<n_15/\Inv a38 (n38) (c38) (x49) (x49_26) a49 (n49) (c49) a49_27 (n49_28) (c49_29) a49_30 (n49_31) (c49_32) m5 n_33)))))))
 (ah cx pX [.agg #[.int .i64 (x33),.int .i64 (x33_16),.slice a33 (n33) (c33),.slice a33_17 (n33_18) (c33_19),.slice a33_20 (n33_21) (c33_22)]] m4 fun r52 m6=>(∃(x52:Int),(∃(x52_34:Int),(∃(a52:Option Addr) (n52 c52:Nat),(∃(a52_35:Option Addr) (n52_36 c52_37:Nat),(∃(a52_38:Option Addr) (n52_39 c52_40:Nat),(∃(a52_41:Option Addr) (n52_42 c52_43:Nat),(∃(x52_44:Int),r52=(.tuple #[.agg #[.int .i64 (x52),.int .i64 (x52_34),.slice a52 (n52) (c52),.slice a52_35 (n52_36) (c52_37),.slice a52_38 (n52_39) (c52_40)],.slice a52_41 (n52_42) (c52_43),.int .i64 (x52_44)])/\(∃(a58:Option Addr) (n58 c58:Nat) (m7:Mem),cQ cx m6 [bJ,bJ] [.slice a38 (n38) (c38),.slice a52_41 (n52_42) (c52_43)]=some (.slice a58 (n58) (c58),m7)/\(∃n_45:Nat,n_45<n_15/\Inv a58 (n58) (c58) (x52) (x52_34) a52 (n52) (c52) a52_35 (n52_36) (c52_37) a52_38 (n52_39) (c52_40) m7 n_45)))))))))))))))))))))
 (Q (.tuple #[.agg #[.int .i64 (xc),.int .i64 (xc_8),.slice ac (nc) (cc),.slice ac_9 (nc_10) (cc_11),.slice ac_12 (nc_13) (cc_14)],.slice a7 (n7) (c7),.int .i64 (0:Int)]) m1))))))
theorem GC{x0:Int}{x0_1:Int}{a0:Option Addr}{n0 c0:Nat}{a0_2:Option Addr}{n0_3 c0_4:Nat}{a0_5:Option Addr}{n0_6 c0_7:Nat}{x1:Int}{m:Mem}{Q:Value->Mem->Prop}(h:yF x0 x0_1 a0 n0 c0 a0_2 n0_3 c0_4 a0_5 n0_6 c0_7 x1 m Q):ah cx rz [.agg #[.int .i64 (x0),.int .i64 (x0_1),.slice a0 (n0) (c0),.slice a0_2 (n0_3) (c0_4),.slice a0_5 (n0_6) (c0_7)],.int .i64 (x1)] m Q:=
 have e:yF x0 x0_1 a0 n0 c0 a0_2 n0_3 c0_4 a0_5 n0_6 c0_7 x1 m Q=kE cx Tryz.f13 [2,4,9] [none,none,none,none,none,none,none,none,none,some ⟨[8],[(7,.sl),(64,.int .i64),(65,.int .i64),(66,.sl),(67,.sl),(68,.sl)],[(2,0,0),(4,1,0)],[1],[(0,[64,65,66,67,68])],2⟩] [.agg #[.int .i64 (x0),.int .i64 (x0_1),.slice a0 (n0) (c0),.slice a0_2 (n0_3) (c0_4),.slice a0_5 (n0_6) (c0_7)],.int .i64 (x1)] m Q:=by kernel_rfl
 ah.of dm dh (by kernel_rfl) (by kernel_rfl) (Eq.mp e h)
end
end Go.Proofs.YthpnifigjfplbaaGreat.vc
namespace Go.Proofs.YthpnifigjfplbaaGreat.vc
open Go Go.AX
section
variable {m m0:Mem} {Q:Value->Mem->Prop} {a:Option Addr} {n c:Nat}
theorem Nb{n:Nat}(hw:Wf m)(hn:n<=1000000)(h0:n=0->Q (.slice none 0 0) m)(h1:0<n->∀Z m',Z.length=n*1->m'=newO m (row Z t_int true)->Q (.slice (some ⟨m.nx,0,none⟩) 0 n) m') :
  ah cx lY [.slice none 0 0,.int .i64 (n:Int)] m Q:=by
 apply ub;unfold lZ;have hc:mq cx m [dt] [.slice none 0 0]=some (.int .i64 0):=by
  unfold mq;simp only[C1];rfl
 refine dR (fun f:Mem->Prop=>f m) ?_ ?_
 .refine⟨0,hc,?_⟩;have e:cY .i64 (n:Int) (cY .i64 0 (aQ 0))=(n:Int):=by
   rw[show cY .i64 0 (aQ 0)=0 from eY (by simp[aQ]) (by simp[aQ]),eY (by omega) (by omega)];omega
  rw[e];refine dY (fun hp=>?_) (fun hp=>?_)
  .refine⟨0,hc,none,0,0,?_,?_⟩
   .unfold cW;have b1:fg 0 (some (.int .i64 0)) 0=some 0:=dC (i:=0) (Nat.le_refl _);simp only[C1,AJ,b1];rfl
   .obtain⟨Z,hZ,hap⟩:=HG (cx:=cx) (m:=m) (t:=dt) (e:=t_int) (tx:=t_int) (s:=1) (n:=n) (by kernel_rfl) (by kernel_rfl) (by kernel_rfl) (by omega) hn;refine⟨_,_,_,_,hap,_,_,_,eO C1 AJ (dC (i:=0) (Nat.zero_le _)) rfl ((Row.newO (m:=m) (l:=Z) (e:=t_int) (x:=true)).sameSize AJ) (Nat.zero_le _),?_⟩;exact h1 (by omega) Z _ hZ rfl
  .exact h0 (by omega)
 .intro J hJ;refine dY (fun hp=>by omega) (fun hp=>hJ)
theorem Jc{b0:Nat}{t0:TypeId}{a a':Option Addr}{n c n' c':Nat}{l l':List Int}(hw:Wf m)(hR:Row m b0 [.slice a n c,.slice a' n' c'] t0 false)(hA:Arr encI 1 m a n l)(hA':Arr encI 1 m a' n' l')(hn:n+n'<=100000)
  (h:∀m2 a2 c2,Keep m m2->OwnSl m m2 t_int a2 (n+n') c2 ((l++l').flatMap encI)->Q (.slice a2 (n+n') c2) m2) :
  ah cx kG [.slice (some ⟨b0,0,none⟩) 2 2] m Q:=by
 apply sD;unfold kH;have rd0:∀m1,m1.hp.get b0=m.hp.get b0->∀k:Nat,k<2->∃(a1:Option Addr) (n1 c1:Nat),rd m1 b0 (0+Int.toNat (k:Int)*1)=some (.slice a1 n1 c1)/\((k=0/\a1=a/\n1=n/\c1=c)∨(k=1/\a1=a'/\n1=n'/\c1=c')):=by
  intro m1 hg k hk;have hR1:=hR.congr hg;rcases Nat.lt_or_ge k 1 with h|h
  .obtain rfl:k=0:=by omega
   exact⟨a,n,c,by rw[hR1.rd];rfl,.inl ⟨rfl,rfl,rfl,rfl⟩⟩
  .obtain rfl:k=1:=by omega
   exact⟨a',n',c',by rw[hR1.rd];rfl,.inr ⟨rfl,rfl,rfl,rfl⟩⟩
 have hln:l.length=n:=hA.1;have hln':l'.length=n':=hA'.1;refine Nn (show 2<=4611686018427387904 by omega) (fun k (x:Int) mm=>mm=m/\x=((if k=0 then 0 else if k=1 then n else n+n':Nat):Int)) ⟨rfl,rfl⟩ ?_;rintro k x m1 hk ⟨rfl,hx⟩ I w hI;refine dH (fun hlt=>?_) (fun hge=>?_)
 .refine⟨⟨by omega,by omega⟩,?_⟩;rw[cX];obtain⟨a1,n1,c1,r1,r2⟩:=rd0 m1 rfl k hlt;refine⟨a1,n1,c1,r1,?_⟩;have hx2:bh .i64 x (aQ n1)=((if k+1=0 then 0 else if k+1=1 then n else n+n':Nat):Int):=by
   rcases r2 with⟨rfl,_,rfl,_⟩|⟨rfl,_,rfl,_⟩
   .rw[hx];simp only[if_true,Nat.zero_add,if_neg (show ¬(1:Nat)=0 by omega)];rw[dG (by simp only[pm.fN];omega) (by simp only[pm.fN];omega)];simp only[pm.fN];omega
   .rw[hx];simp only[if_neg (show ¬(1:Nat)=0 by omega),if_true,if_neg (show ¬(1+1:Nat)=0 by omega),if_neg (show ¬(1+1:Nat)=1 by omega)];rw[dG (by simp only[pm.fN];omega) (by simp only[pm.fN];omega)];simp only[pm.fN];omega
  rw[hx2];refine dY (fun hp=>by omega) (fun hp=>hI _ _ hlt ⟨rfl,rfl⟩)
 .obtain rfl:k=2:=by omega
  rw[if_neg (by omega),if_neg (by omega)]at hx;subst hx;clear hI I w;have fill:∀(aG:Option Addr) (m2:Mem),((n+n'=0/\aG=none/\m2=m1)∨(0<n+n'/\aG=some ⟨m1.nx,0,none⟩/\∃Z,Z.length=(n+n')*1/\m2=newO m1 (row Z t_int true)))->
    ∃Inv_3:Option Addr->Nat->Nat->Int->Mem->Nat->Prop,(∃n_4:Nat,Inv_3 aG 0 (n+n') (0:Int) m2 n_4)/\
     ∀(a6:Option Addr) (n6 c6:Nat) (x27:Int),∀(m3:Mem) (n_5:Nat),Inv_3 a6 n6 c6 x27 m3 n_5->
     (splitB (cR (x27) (aQ (2)))
     ((0<=(x27)/\(x27)<((2:Nat):Int))/\(da (some ⟨b0,0,none⟩) fun ba0_6 oa0_7=>(∃(a30:Option Addr) (n30 c30:Nat),rd m3 ba0_6 (oa0_7+Int.toNat (x27)*1)=some (.slice a30 (n30) (c30))/\(∃(a33:Option Addr) (n33 c33:Nat) (m4:Mem),cQ cx m3 [dt,dt] [.slice a6 (n6) (c6),.slice a30 (n30) (c30)]=some (.slice a33 (n33) (c33),m4)/\(∃n_8:Nat,n_8<n_5/\Inv_3 a33 (n33) (c33) (bh .i64 (x27) (1:Int)) m4 n_8)))))
     (Q (.slice a6 (n6) (c6)) m3)):=by
   intro aG m2 hG;have one:∀(L:List Int),(L.flatMap encI).all one1=true:=fun L=>rn Dx L
   rcases hG with⟨hz,rfl,em⟩|⟨hz,rfl,Z,hZ,rfl⟩
   ·
    rw[em];obtain rfl:n=0:=by omega
    obtain rfl:n'=0:=by omega
    have hl0:l=[]:=List.length_eq_zero_iff.1 hln;have hl0':l'=[]:=List.length_eq_zero_iff.1 hln';subst hl0;subst hl0';refine oz (show 2<=4611686018427387904 by omega) (fun k a6 n6 c6 mm=>mm=m1/\a6=none/\n6=0/\c6=0) ⟨rfl,rfl,rfl,rfl⟩ ?_;rintro k a6 n6 c6 m3 hk ⟨rfl,rfl,rfl,rfl⟩ I w hI;refine dH (fun hlt=>?_) (fun hge=>?_)
    .refine⟨⟨by omega,by omega⟩,?_⟩;rw[cX];obtain⟨a1,n1,c1,r1,r2⟩:=rd0 m3 rfl k hlt;refine⟨a1,n1,c1,r1,none,0,0,m3,?_,hI _ _ _ _ hlt ⟨rfl,rfl,rfl,rfl⟩⟩;obtain rfl:n1=0:=by rcases r2 with⟨_,_,h,_⟩|⟨_,_,h,_⟩<;>exact h
     obtain⟨i,z,h1,h2,h3,h4,h5,h6,h7⟩:=iS (cx:=cx) (t:=dt) (e:=t_int) (s:=1) (by kernel_rfl);unfold cQ;have hf:dA m3 i.size 0 (.slice a1 0 c1)=some []:=by cases a1<;>rfl
     have b1:(Nat.beq ([]:List Value).length (0*i.size)&&Nat.blt 0 i.size&&([]:List Value).all one1)=true:=by
      rw[h3,Nat.zero_mul,show Nat.blt 0 1=true from rfl];rfl
     simp only[h1,h2,mn,iI,hf,b1]
    .exact h m3 none 0 (Keep.refl hw) (by simpa using OwnSl.nil)
   .have kz:Keep m1 (newO m1 (row Z t_int true)):=(Keep.refl hw).newO;have hRz:Row (newO m1 (row Z t_int true)) m1.nx Z t_int true:=Row.newO;have hlf:(l.flatMap encI).length=n*1:=by rw[dk dU,hln]
    have hlf':(l'.flatMap encI).length=n'*1:=by rw[dk dU,hln']
    refine oz (show 2<=4611686018427387904 by omega) (fun k a6 n6 c6 mm=>Keep m1 mm/\a6=some ⟨m1.nx,0,none⟩/\c6=n+n'/\m1.nx<mm.nx/\
     ((k=0/\n6=0/\∃Z,Z.length=(n+n')*1/\Row mm m1.nx Z t_int true)∨(k=1/\n6=n/\∃Z,Z.length=n'*1/\Row mm m1.nx (l.flatMap encI++Z) t_int true)∨(k=2/\n6=n+n'/\Row mm m1.nx (l.flatMap encI++l'.flatMap encI) t_int true)))
     ⟨kz,rfl,rfl,by simp,.inl ⟨rfl,rfl,Z,hZ,hRz⟩⟩ ?_
    rintro k a6 n6 c6 m3 hk ⟨k3,rfl,rfl,hnx,hst⟩ I w hI;have hb0:b0<m1.nx:=hw.row hR;refine dH (fun hlt=>?_) (fun hge=>?_)
    .refine⟨⟨by omega,by omega⟩,?_⟩;rw[cX];obtain⟨a1,n1,c1,r1,r2⟩:=rd0 m3 (k3.get b0 hb0) k hlt;refine⟨a1,n1,c1,r1,?_⟩;have hfl:m3.fl<=m1.nx:=by have:=k3.fl;have:=hw.1;omega
     have fa:∀m4:Mem,(∀b',b'≠m1.nx->m4.hp.get b'=m3.hp.get b')->m4.nx=m3.nx->m4.fl=m3.fl->Keep m1 m4:=fun m4 g1 g2 g3=>
      ⟨k3.wf.at (r:=m1.nx) hnx g2 g3 g1,by have:=k3.nx;omega,g3.trans k3.fl,fun b hb=>(g1 b (by omega)).trans (k3.get b hb)⟩
     rcases hst with⟨rfl,rfl,Z1,hZ1,hR1⟩|⟨rfl,rfl,Z1,hZ1,hR1⟩|⟨rfl,_⟩
     .rcases r2 with⟨_,rfl,rfl,rfl⟩|⟨h,_⟩
      .obtain⟨m4,q1,q2,q3,q4,q5⟩:=yl (cx:=cx) (t:=dt) (e:=t_int) (s:=1) (n:=n1+n') (k:=0) (d:=n1) (ck:=c1) (by kernel_rfl) hR1 hZ1 hfl ((hA.keep hw k3).first dU (by omega)) hlf (one l) (by omega);refine⟨_,_,_,m4,q1,hI _ _ _ m4 hlt ⟨fa m4 q3 q4 q5,rfl,rfl,by omega,.inr (.inl ⟨rfl,by omega,Z1.drop ((0+n1)*1),?_,?_⟩)⟩⟩
       .rw[List.length_drop,hZ1];omega
       .simpa using q2
      .omega
     .rcases r2 with⟨h,_⟩|⟨_,rfl,rfl,rfl⟩
      .omega
      .obtain⟨m4,q1,q2,q3,q4,q5⟩:=yl (cx:=cx) (t:=dt) (e:=t_int) (s:=1) (n:=n6+n1) (k:=n6) (d:=n1) (ck:=c1) (by kernel_rfl) hR1 (by rw[List.length_append,hlf,hZ1];omega) hfl ((hA'.keep hw k3).first dU (by omega)) hlf' (one l') (by omega);refine⟨_,_,_,m4,q1,hI _ _ _ m4 hlt ⟨fa m4 q3 q4 q5,rfl,rfl,by omega,.inr (.inr ⟨rfl,rfl,?_⟩)⟩⟩;have e1:(l.flatMap encI++Z1).take (n6*1)=l.flatMap encI:=by rw[<-hlf,List.take_left]
       have e2:(l.flatMap encI++Z1).drop ((n6+n1)*1)=[]:=List.drop_eq_nil_of_le (by rw[List.length_append,hlf,hZ1];omega);rw[e1,e2,List.append_nil]at q2;exact q2
     .omega
    .rcases hst with⟨rfl,_⟩|⟨rfl,_⟩|⟨_,rfl,hR1⟩
     .omega
     .omega
     .refine h m3 _ _ k3 (.row m1.nx _ _ hz (Nat.le_refl _) ?_);rw[List.flatMap_append];exact hR1
  refine Nb hw (by omega) (fun hz=>⟨_,_,_,rfl,?_⟩) (fun hz Z m2 hZ hm2=>⟨_,_,_,rfl,?_⟩)
  .have:=fill none m1 (.inl ⟨hz,rfl,rfl⟩);rw[hz]at this;exact this
  .exact fill _ m2 (.inr ⟨hz,rfl,Z,hZ,hm2⟩)
theorem wo{l:List Int}{x:Int}(hw:Wf m)(ha:Arr encI 1 m a n l)(hn:n<=4611686018427387904)
  (h:∀m',Keep m m'->Q (.int .i64 (match l.findIdx? (fun y=>cU x y)with|some i=>(i:Int)|none=>-1)) m'):ah cx iP [.slice a n c,.int .i64 x] m Q:=by
 apply tU;unfold lq;refine pD hn (fun k mm=>Keep m mm/\∀y∈l.take k,cU x y=false) ⟨Keep.refl hw,by simp⟩ ?_;rintro k m1 hk ⟨k1,hno⟩ I w hI;refine dH (fun hlt=>?_) (fun hge=>?_)
 .obtain⟨y,hx⟩:∃y,l[k]? = some y:=⟨_,List.getElem?_eq_getElem (by rw[ha.1];exact hlt)⟩;have hkl:=(List.getElem?_eq_some_iff.1 hx).1;refine(ha.keep hw k1).open (k:=k) hx fun b o hc=>⟨_,hc 0 _ rfl,?_⟩
  refine cJ (fun ht=>?_) (fun ht=>?_)
  .have e:l.findIdx? (fun y=>cU x y)=some k:=by
    rw[List.findIdx?_eq_some_iff_getElem];refine⟨hkl,by rw[(List.getElem?_eq_some_iff.1 hx).2];exact ht,fun j hj=>?_⟩;have:=hno l[j] (List.mem_of_getElem? (i:=j) (by rw[List.getElem?_take,if_pos hj,List.getElem?_eq_getElem (by omega)]));rw[this];simp
   have:=h m1 k1;rw[e]at this;exact this
  .refine hI m1 hlt ⟨k1,fun z hz=>?_⟩;rw[List.take_add_one,hx]at hz;rcases List.mem_append.1 hz with hz|hz
   .exact hno z hz
   .simp at hz;subst hz;exact ht
 .have e:l.findIdx? (fun y=>cU x y)=none:=by
   rw[List.findIdx?_eq_none_iff];intro y hy;rw[<-List.take_of_length_le (l:=l) (i:=k) (by rw[ha.1];exact hge)]at hy;exact hno y hy
  have:=h m1 k1;rw[e]at this;exact this
theorem zY{l:List Int}{x:Int}(hw:Wf m)(ha:Arr encI 1 m a n l)(hn:n<=4611686018427387904)
  (h:∀m',Keep m m'->Q (.bool (decide (x∈l))) m'):ah cx gZ [.slice a n c,.int .i64 x] m Q:=by
 apply rC;unfold jK;refine wo hw ha hn fun m' k=>⟨_,rfl,?_⟩
 have e:leI 0 (match l.findIdx? (fun y=>cU x y)with|some i=>(i:Int)|none=>-1)=decide (x∈l):=by
  refine C3.trans ?_;rw[Bool.eq_iff_iff,List.any_eq_true,decide_eq_true_iff];constructor
  .rintro⟨y,hy,he⟩;rw[eC.1 he];exact hy
  .intro hx;exact⟨x,hx,eC.2 rfl⟩
 have:=h m' k;rw[<-e]at this;exact this
structure FF (m0 m:Mem) (pf:Nat) (room:Int) (a:Option Addr) (c:Nat) (l:List Int):Prop where
 row:Row m pf [.int .i64 room,.slice a l.length c] t_fifo_Fifo false
 acc:Acc m0 m a l.length c 1 t_int (l.flatMap encI)
 new:m0.nx<=pf
 ne:pf∉blk a
 low:m0.fl<=m0.nx
theorem FF.lt{pf:Nat}{room:Int}{l:List Int}(h:FF m0 m pf room a c l):pf<m.nx:=h.acc.keep.wf.row h.row
theorem FF.keep{m':Mem}{pf:Nat}{room:Int}{l:List Int}(h:FF m0 m pf room a c l)(k:Keep m m'):FF m0 m' pf room a c l:=
 ⟨k.row h.acc.keep.wf h.row,h.acc.then k,h.new,h.ne,h.low⟩
theorem FF.fr{m':Mem}{pf:Nat}{room:Int}{l:List Int}{S:List Nat}(h:FF m0 m pf room a c l)(hw:Wf m')(f:Fr m m' S)(hS:∀b∈S,m0.nx<=b/\b≠pf/\b∉blk a):FF m0 m' pf room a c l:=
 ⟨f.row h.row h.lt (fun hb=>(hS _ hb).2.1 rfl),h.acc.fr hw f fun b hb=>⟨(hS b hb).1,(hS b hb).2.2⟩,h.new,h.ne,h.low⟩
theorem Nc{pf:Nat}{room:Int}{l:List Int}{x:Int}(h:FF m0 m pf room a c l)(hn:l.length<=1000)
  (hQ:∀m',Keep m m'->Q (.int .i64 (match l.findIdx? (fun y=>cU x y)with|some i=>(i:Int)|none=>-1)) m'):ah cx mB [.pointer (some ⟨pf,0,none⟩),.int .i64 x] m Q:=by
 apply vm;unfold mD;rw[cX];refine⟨a,l.length,c,by rw[h.row.rd];rfl,?_⟩;exact wo h.acc.keep.wf (h.acc.arr dU (by omega)) (by omega) fun m' k=>⟨_,rfl,hQ m' k⟩
theorem ym{pf:Nat}{room:Int}{l:List Int}{x:Int}(h:FF m0 m pf room a c l)(hn:l.length<=1000)(hr:(l.length:Int)≠room)
  (hQ:∀m' a' c',FF m0 m' pf room a' c' (l++[x])->Fr m m' (pf::blk a)->(∀b∈blk a',m.nx<=b)->Q (.bool true) m'):ah cx kQ [.pointer (some ⟨pf,0,none⟩),.int .i64 x] m Q:=by
 apply xe;unfold nV;have hw:=h.acc.keep.wf;have k1:Keep m (bump m 10):=(Keep.refl hw).bump;have h1:=h.keep k1;rw[cX];refine⟨a,l.length,c,by rw[h1.row.rd];rfl,?_⟩;rw[cX];refine⟨room,by rw[h1.row.rd];rfl,fy (fun e=>absurd e hr) (fun _=>?_)⟩;rw[cX];refine⟨a,l.length,c,by rw[h1.row.rd];rfl,?_⟩;rw[cP];obtain⟨m4,q1,q2,q3,q4,q5⟩:=h1.acc.push (cx:=cx) (t:=dt) (vs:=encI x) (by kernel_rfl) rfl rfl (by omega);refine⟨_,_,_,m4,q1,?_⟩;rw[cX];have hlt:=h1.lt;have hxn:(bump m 10).nx=m.nx+10:=rfl;have hlt0:=h.lt;have r4:Row m4 pf [.int .i64 room,.slice a l.length c] t_fifo_Fifo false:=q4.row h1.row hlt h1.ne;have hfl:m4.fl<=pf:=by have:=q2.keep.fl;have:=h.new;have:=h.low;omega
 refine⟨r4.okW hfl (by simp),?_⟩;rw[cP];have r5:=r4.wr (o:=1) (vs:=[.slice (some ⟨(bump m 10).nx+1,0,none⟩) (l.length+1) (l.length+1)]) (by simp);have f5:Fr m4 (wr m4 pf (0+1) [.slice (some ⟨(bump m 10).nx+1,0,none⟩) (l.length+1) (l.length+1)]) [pf]:=(Fr.refl _ _).wr (.inl (List.mem_cons_self ..));have w5:Wf (wr m4 pf (0+1) [.slice (some ⟨(bump m 10).nx+1,0,none⟩) (l.length+1) (l.length+1)]):=(Keep.wr (b:=pf) (o:=0+1) (l:=[.slice (some ⟨(bump m 10).nx+1,0,none⟩) (l.length+1) (l.length+1)]) q2.keep h.new).wf;refine hQ _ (some ⟨(bump m 10).nx+1,0,none⟩) (l.length+1) ⟨?_,?_,h.new,?_,h.low⟩ ?_ ?_
 .rw[List.length_append];exact r5
 .rw[List.length_append,List.flatMap_append];have:=q2.fr (S:=[pf]) w5 f5 fun b hb=>by
   rw[List.mem_singleton]at hb;subst hb;refine⟨h.new,?_⟩;simp[blk];omega
  simpa using this
 .simp[blk];omega
 .refine((k1.fr (pf::blk a)).trans (q4.mono fun b hb=>.inl (List.mem_cons_of_mem _ hb)) fun b hb=>.inl hb).trans f5 fun b hb=>?_
  rw[List.mem_singleton]at hb;subst hb;exact .inl (List.mem_cons_self ..)
 .intro b hb;simp[blk]at hb;omega
end
end Go.Proofs.YthpnifigjfplbaaGreat.vc
namespace Go.Proofs.YthpnifigjfplbaaGreat.vc
open Go Go.AX
section
variable {m m0:Mem} {Q:Value->Mem->Prop} {a:Option Addr} {n c:Nat}
theorem M6{e:TypeId}{s:Nat}{l:List Value}(h:OwnSl m0 m e a n c l)(hz:dL cx e=some s):Cut cx m a n c s:=by
 refine⟨by rw[h.cap];exact Nat.le_refl _,?_⟩;cases h with
 | nil=>exact .inl rfl
 | empty b cc h1 h2=>exact .inr ⟨b,0,_,rfl,h2,by unfold sameSize;rw[h2]⟩
 | row b n l hn h1 h2=>
  obtain⟨c',h3,_⟩:=id h2;exact .inr ⟨b,_,_,rfl,h3,h2.sameSize hz⟩
theorem M4{e:TypeId}{s:Nat}{l:List Value}(h:Acc m0 m a n c s e l)(hz:dL cx e=some s):Cut cx m a n c s:=by
 rcases h.grow.2 with⟨rfl,rfl,rfl⟩|⟨b,rfl,rfl,_,h2⟩
 .exact⟨Nat.le_refl _,.inl rfl⟩
 .obtain⟨c',h3,_⟩:=id h2;exact⟨Nat.le_refl _,.inr ⟨b,_,_,rfl,h3,h2.sameSize hz⟩⟩
theorem Cg{x:Int}(hw:Wf m)(k0:Keep m0 m)(hf:m0.fl<=m0.nx)(h1:1<=x)(h2:x<=256)
  (hQ:∀m',Keep m m'->FF m0 m' m.nx x none 0 []->Q (.pointer (some ⟨m.nx,0,none⟩)) m'):ah cx sC [.int .i64 x] m Q:=by
 apply ET;unfold xh;rw[cP];have e:fI (jP x 1) 256=x:=by
  unfold fI jP
  repeat' split
  all_goals omega
 rw[e];have k1:Keep m (newO m (row [.int .i64 x,.slice none 0 0] t_fifo_Fifo false)):=(Keep.refl hw).newO;exact hQ _ k1 ⟨Row.newO,Acc.nil (k0.trans k1) _ _,k0.nx,(by simp[blk]),hf⟩
structure RB (m0 m:Mem) (pr pf:Nat) (room:Int) (a:Option Addr) (c:Nat) (l:List Int):Prop where
 row:Row m pr [.int .i64 room,.pointer (some ⟨pf,0,none⟩)] t_robin_Robin false
 ff:FF m0 m pf room a c l
 new:m0.nx<=pr
 ne:pr≠pf
 na:pr∉blk a
theorem RB.wf{pr pf:Nat}{room:Int}{l:List Int}(h:RB m0 m pr pf room a c l):Wf m:=h.ff.acc.keep.wf
theorem RB.keep{m':Mem}{pr pf:Nat}{room:Int}{l:List Int}(h:RB m0 m pr pf room a c l)(k:Keep m m'):RB m0 m' pr pf room a c l:=
 ⟨k.row h.wf h.row,h.ff.keep k,h.new,h.ne,h.na⟩
theorem Hh{x:Int}(hw:Wf m)(h1:1<=x)(h2:x<=256)
  (hQ:∀m' pr pf,RB m m' pr pf x none 0 []->Q (.pointer (some ⟨pr,0,none⟩)) m'):ah cx vg [.int .i64 x] m Q:=by
 apply Da;unfold vo;have e:fI (jP x 1) 256=x:=by
  unfold fI jP
  repeat' split
  all_goals omega
 rw[e];refine Cg hw (Keep.refl hw) hw.1 h1 h2 fun m1 k1 hF=>⟨_,rfl,?_⟩
 rw[cP];have k2:Keep m1 (newO m1 (row [.int .i64 x,.pointer (some ⟨m.nx,0,none⟩)] t_robin_Robin false)):=(Keep.refl k1.wf).newO;refine hQ _ m1.nx m.nx ⟨Row.newO,hF.keep k2,k1.nx,?_,(by simp[blk])⟩;have:=hF.lt;omega
theorem Hi{pr pf:Nat}{room:Int}{l:List Int}{x:Int}(h:RB m0 m pr pf room a c l)(hn:l.length<=1000)(hr:(l.length:Int)≠room)(hx:0<=x)(hno:x∉l)
  (hQ:∀m' a' c',RB m0 m' pr pf room a' c' (l++[x])->Q (.int .i64 0) m'):ah cx mA [.pointer (some ⟨pr,0,none⟩),.int .i64 x] m Q:=by
 apply vp;unfold mF;refine dY (fun e=>absurd hx (by omega)) (fun _=>?_);rw[cX];refine⟨some ⟨pf,0,none⟩,by rw[h.row.rd];rfl,?_⟩;refine Nc h.ff hn fun m1 k1=>⟨_,rfl,?_⟩
 have e:l.findIdx? (fun y=>cU x y)=none:=by
  rw[List.findIdx?_eq_none_iff];intro y hy;exact dX.2 fun e=>hno (e▸hy)
 rw[e];refine qT (fun e=>absurd e (by decide)) (fun _=>?_);have h1:=h.keep k1;rw[cX];refine⟨some ⟨pf,0,none⟩,by rw[h1.row.rd];rfl,?_⟩;refine ym h1.ff hn hr fun m2 a' c' hF hf hnew=>⟨_,rfl,dM (fun e=>by cases e) (fun _=>?_)⟩
 have hpl:=k1.wf.row h1.row;refine hQ m2 a' c' ⟨hf.row h1.row hpl ?_,hF,h.new,h.ne,fun hb=>?_⟩
 .intro hb;rcases List.mem_cons.1 hb with hb|hb
  .exact h.ne hb
  .exact h.na hb
 .have:=hnew _ hb;omega
theorem OH{pr pf:Nat}{room:Int}{l:List Int}{x:Int}(h:RB m0 m pr pf room a c l)
  (hQ:Q (.int .i64 (fI (jP x 0) (l.length:Int))) m):ah cx lX [.pointer (some ⟨pr,0,none⟩),.int .i64 x] m Q:=by
 apply uc;unfold ma;rw[cX];refine⟨some ⟨pf,0,none⟩,by rw[h.row.rd];rfl,?_⟩;apply xi;unfold nW;rw[cX];exact⟨a,l.length,c,by rw[h.ff.row.rd];rfl,_,rfl,hQ⟩
theorem PN{pf:Nat}{room:Int}{l:List Int}(h:FF m0 m pf room a c l)(hn:l.length<=1000)
  (hQ:∀m' a' c',Keep m m'->OwnSl m m' t_int a' l.length c' (l.flatMap encI)->Q (.slice a' l.length c') m'):ah cx nT [.pointer (some ⟨pf,0,none⟩)] m Q:=by
 apply xj;unfold nX;rw[cX];refine⟨a,l.length,c,by rw[h.row.rd];rfl,?_⟩;exact D4 h.acc.keep.wf (h.acc.arr dU (by omega)) (by omega) fun m' a' c' k ho=>⟨_,_,_,rfl,hQ m' a' c' k ho⟩
def filled(f:Nat->Int)(n k:Nat):List Value:=(List.range n).map fun i=>.int .i64 (if i<k then f i else 0)
theorem kg(f:Nat->Int)(n k:Nat):(filled f n k).length=n:=by unfold filled;simp
theorem xk{f:Nat->Int}{n k i:Nat}(h:i<n):(filled f n k)[i]? = some (.int .i64 (if i<k then f i else 0)):=by
 unfold filled;rw[List.getElem?_map,List.getElem?_range h];rfl
theorem Cf{f:Nat->Int}{n k:Nat}(h:k<n):(filled f n k).set k (.int .i64 (f k))=filled f n (k+1):=by
 refine List.ext_getElem? fun i=>?_
 rw[List.getElem?_set,kg];by_cases hik:k=i
 .subst hik;rw[if_pos rfl,if_pos h,xk h,if_pos (by omega)]
 .rw[if_neg hik];by_cases hi:i<n
  .rw[xk hi,xk hi];congr 2;by_cases hl:i<k
   .rw[if_pos hl,if_pos (by omega)]
   .rw[if_neg hl,if_neg (by omega)]
  .rw[List.getElem?_eq_none (by rw[kg];omega),List.getElem?_eq_none (by rw[kg];omega)]
theorem zZ(f:Nat->Int):∀n,filled f n 0=ed [.int .i64 0] n
 | 0=>rfl
 | n+1=>by
  have ih:=zZ f n;unfold filled at ih ⊢;rw[List.range_succ_eq_map,List.map_cons,List.map_map];show _=[Value.int .i64 0]++ed [.int .i64 0] n;rw[<-ih];rfl
theorem Jd{f:Nat->Int}{n:Nat}:filled f n n=((List.range n).map f).flatMap encI:=by
 unfold filled;rw[List.flatMap_map];have:∀l:List Nat,(∀i∈l,i<n)->l.map (fun i=>Value.int .i64 (if i<n then f i else 0))=l.flatMap fun i=>encI (f i):=by
  intro l
  induction l with
  | nil=>intro _;rfl
  | cons x r ih=>
   intro h;rw[List.map_cons,List.flatMap_cons,ih fun i hi=>h i (List.mem_cons_of_mem _ hi),if_pos (h x (List.mem_cons_self ..))];rfl
 exact this _ fun i hi=>List.mem_range.1 hi
end
end Go.Proofs.YthpnifigjfplbaaGreat.vc
namespace Go.Proofs.YthpnifigjfplbaaGreat.vc
open Go Go.AX
section
variable {m m0:Mem} {Q:Value->Mem->Prop} {a:Option Addr} {n c:Nat}
theorem vK{k:Nat}(h:k<=1000000):bh .i64 (k:Int) 1=((k+1:Nat):Int):=by
 rw[dG (by omega) (by omega)];rfl
theorem sM{a b:Nat}(h:b<a):a-(b+1)<a-b:=by omega
def took(T n:Nat)(i:Nat):Int:=((T / n:Nat):Int)+if i<T % n then 1 else 0
theorem OC{pr pf many rest:Nat}{l:List Int}(h:RB m0 m pr pf (l.length:Int) a c l)(h1:1<=l.length)(h2:l.length<=256)(hm:many<=l.length)(hr:rest<=256)
  (hQ:∀m' ob a' c',Keep m0 m'->Arr encI 1 m' (some ⟨ob,0,none⟩) l.length ((List.range l.length).map (took (many*rest) l.length))->Arr encI 1 m' a' l.length (l.drop (many*rest % l.length)++l.take (many*rest % l.length))->
   Q (.tuple #[.slice (some ⟨ob,0,none⟩) l.length l.length,.slice a' l.length c']) m') :
  ah cx lR [.pointer (some ⟨pr,0,none⟩),.int .i64 (many:Int),.int .i64 (rest:Int)] m Q:=by
 apply tY;unfold lS;have hw:=h.wf;have hmr:many*rest<=256*256:=Nat.mul_le_mul (by omega) hr;have hT:=Nat.div_le_self (many*rest) l.length;have hMod:=Nat.mod_lt (many*rest) (show 0<l.length by omega);generalize hr0:many*rest % l.length=r at hMod hQ;generalize hq0:many*rest / l.length=q at hT;rw[cX];refine⟨some ⟨pf,0,none⟩,by rw[h.row.rd];rfl,?_⟩;refine PN h.ff (by omega) fun m1 a1 c1 k1 ho=>⟨_,_,_,rfl,?_⟩
 refine fy (fun e=>absurd e (by simp only[aQ];omega)) (fun _=>?_);have hB1:=h.keep k1;refine OH hB1 ⟨_,rfl,by simp only[aQ];omega,by simp only[aQ];omega,⟨by simp only[aQ];omega,Int.le_refl _,by simp only[aQ];omega,by simp only[aQ];omega⟩,?_⟩;have e1:fI (jP (many:Int) 0) (l.length:Int)=(many:Int):=by
  unfold fI jP
  repeat' split
  all_goals omega
 have e2:fI (jP (rest:Int) 0) 1099511627776=(rest:Int):=by
  unfold fI jP
  repeat' split
  all_goals omega
 have e3:ig .i64 (many:Int) (rest:Int)=((many*rest:Nat):Int):=by
  have:(many:Int)*(rest:Int)=((many*rest:Nat):Int):=by simp
  unfold ig;rw[this];exact jC (by omega) (by omega)
 have e4:nP .i64 ((many*rest:Nat):Int) (aQ l.length)=(q:Int):=by
  unfold nP aQ;rw[Int.tdiv_eq_ediv_of_nonneg (by omega),<-Int.natCast_ediv,hq0];exact jC (by omega) (by omega)
 have e5:Int.tmod ((many*rest:Nat):Int) (aQ l.length)=(r:Int):=by
  unfold aQ;rw[Int.tmod_eq_emod_of_nonneg (by omega),<-Int.natCast_emod,hr0]
 rw[e1,e2,e3,e4,e5,cP];have kB:Keep m1 (bump m1 10):=(Keep.refl k1.wf).bump;have hob:m1.nx<=(bump m1 10).nx:=kB.nx;have k3:Keep m1 (newO (bump m1 10) (row (ed [.int .i64 (0:Int)] (Int.toNat (aQ l.length))) jt false)):=kB.newO;have hR3:Row (newO (bump m1 10) (row (ed [.int .i64 (0:Int)] (Int.toNat (aQ l.length))) jt false)) (bump m1 10).nx (filled (took (many*rest) l.length) l.length 0) jt false:=by
  rw[zZ];exact Row.newO
 have hkw:Wf (bump m1 10):=kB.wf;generalize (bump m1 10).nx=ob at hob hR3 ⊢;generalize newO (bump m1 10) (row (ed [.int .i64 (0:Int)] (Int.toNat (aQ l.length))) jt false)=m3 at k3 hR3 ⊢;have hob3:ob<m3.nx:=k3.wf.row hR3;have hlow:m0.fl<=m0.nx:=h.ff.low;refine⟨fun x45 m4 w=>∃k:Nat,x45=(k:Int)/\k<=l.length/\w=l.length-k/\Fr m3 m4 [ob]/\Wf m4/\Row m4 ob (filled (took (many*rest) l.length) l.length k) jt false,⟨_,0,rfl,Nat.zero_le _,rfl,Fr.refl _ _,k3.wf,hR3⟩,?_⟩;rintro x45 m4 w ⟨k,rfl,hk,rfl,f4,w4,R4⟩;have kk:Keep m1 m4:=Keep.of_fr k3 w4 f4 fun b hb=>by rw[List.mem_singleton]at hb;omega
 have hfl4:m4.fl<=ob:=by have:=kk.fl;have:=k1.wf.1;omega
 refine dH (fun hlt=>?_) (fun hge=>?_)
 .have ek:0+Int.toNat (k:Int)*1=k:=by simp
  rw[ek];have hin:0<=(k:Int)/\(k:Int)<((Int.toNat (aQ l.length):Nat):Int):=⟨by omega,by show (k:Int)<(l.length:Int);omega⟩;refine⟨hin,R4.okW hfl4 (by rw[kg];omega),?_⟩;rw[cP];have R5:=R4.wr1 (v:=.int .i64 (q:Int)) (o:=k) (by rw[kg];exact hlt);have f5:Fr m3 (wr m4 ob k [.int .i64 (q:Int)]) [ob]:=f4.wr (.inl (List.mem_cons_self ..));have w5:Wf (wr m4 ob k [.int .i64 (q:Int)]):=(Keep.wr (o:=k) (l:=[.int .i64 (q:Int)]) kk hob).wf;have hfl5:(wr m4 ob k [.int .i64 (q:Int)]).fl<=ob:=by simp;exact hfl4
  generalize wr m4 ob k [.int .i64 (q:Int)]=m5 at R5 f5 w5 hfl5 ⊢;refine dY (fun hkr=>?_) (fun hkr=>?_)
  .refine⟨hin,(q:Int),by rw[R5.rd,List.getElem?_set_self (by rw[kg];exact hlt)],hin,R5.okW hfl5 (by rw[List.length_set,kg];omega),?_⟩;rw[cP];have kk5:Keep m1 m5:=Keep.of_fr k3 w5 f5 fun b hb=>by rw[List.mem_singleton]at hb;omega
   have R6:=R5.wr1 (v:=.int .i64 (bh .i64 (q:Int) 1)) (o:=k) (by rw[List.length_set,kg];exact hlt);have f6:Fr m3 (wr m5 ob k [.int .i64 (bh .i64 (q:Int) 1)]) [ob]:=f5.wr (.inl (List.mem_cons_self ..));have w6:Wf (wr m5 ob k [.int .i64 (bh .i64 (q:Int) 1)]):=(Keep.wr (o:=k) (l:=[.int .i64 (bh .i64 (q:Int) 1)]) kk5 hob).wf;have ev:bh .i64 (q:Int) 1=took (many*rest) l.length k:=by
    unfold took;rw[hq0,hr0,if_pos (by omega),dG (by omega) (by omega)]
   refine⟨_,sM hlt,k+1,vK (by omega),hlt,rfl,f6,w6,?_⟩;rw[List.set_set,ev,Cf hlt]at R6;rw[ev];exact R6
  .have ev:(q:Int)=took (many*rest) l.length k:=by
    unfold took;rw[hq0,hr0,if_neg (by omega)];omega
   refine⟨_,sM hlt,k+1,vK (by omega),hlt,rfl,f5,w5,?_⟩;rw[ev,Cf hlt]at R5;exact R5
 .have ekl:k=l.length:=by omega
  subst ekl;have k9:Keep m1 (bump m4 9):=kk.bump;have ho9:=ho.keep k1.wf k9;have hcut:=M6 ho9 AJ;have hcap:=ho9.cap;have hA1:Arr encI 1 m1 a1 l.length l:=ho.arr dU (by omega) rfl;have hA4:=hA1.keep k1.wf kk;obtain⟨a64,s64,d64⟩:=hcut.cut (t:=dt) (hi:=none) (lo:=some (.int .i64 (r:Int))) (i:=r) (j:=l.length) C1 AJ rfl (dC (by omega)) (by omega);obtain⟨a67,s67,d67⟩:=hcut.cut (t:=dt) (hi:=some (.int .i64 (r:Int))) (lo:=none) (i:=0) (j:=r) C1 AJ (dC (by omega)) rfl (by omega);refine⟨_,_,_,s64,_,_,_,s67,?_⟩;have A64:=hA4.cut (i:=r) (j:=l.length) (Nat.le_refl _) d64;have A67:=hA4.cut (i:=0) (j:=r) (by omega) d67;have kC4:Keep m4 (addO (bump m4 9) (m4.nx+6) (row [.slice a64 (l.length-r) (c1-r),.slice a67 (r-0) (c1-0)] dt false)):=((Keep.refl w4).bump (n:=9)).addO (by omega) (by show m4.nx+6<m4.nx+9;omega);have hRC:Row (addO (bump m4 9) (m4.nx+6) (row [.slice a64 (l.length-r) (c1-r),.slice a67 (r-0) (c1-0)] dt false)) (m4.nx+6) [.slice a64 (l.length-r) (c1-r),.slice a67 (r-0) (c1-0)] dt false:=Row.of_row (by rw[gG,if_pos rfl]);generalize addO (bump m4 9) (m4.nx+6) (row [.slice a64 (l.length-r) (c1-r),.slice a67 (r-0) (c1-0)] dt false)=mC at kC4 hRC ⊢;have el:l.length-r+(r-0)=l.length:=by omega
  refine Jc kC4.wf hRC (A64.keep w4 kC4) (A67.keep w4 kC4) (by omega) fun m7 a69 c69 k7 ho7=>⟨_,_,_,rfl,?_⟩
  rw[el]at ho7 ⊢;rw[List.take_length,List.drop_zero]at ho7;rw[cP];have k17:Keep m1 m7:=(kk.trans kC4).trans k7;have hB7:=hB1.keep k17;have k07:Keep m0 m7:=hB7.ff.acc.keep;rw[cX];refine⟨(l.length:Int),by rw[hB7.row.rd];rfl,?_⟩;refine Cg k7.wf k07 hlow (by omega) (by omega) fun m9 k9' hF9=>⟨_,rfl,?_⟩
  rw[cX];have hB9:=hB7.keep k9';have hpr1:pr<m1.nx:=k1.wf.row hB1.row;have k09:Keep m0 m9:=hB9.ff.acc.keep;have hnew:=h.new;refine⟨hB9.row.okW (by have:=k09.fl;omega) (by simp),?_⟩;rw[cP];have RS:=hB9.row.wr (o:=0+1) (vs:=[.pointer (some ⟨m7.nx,0,none⟩)]) (by simp);change Row _ _ [.int .i64 (l.length:Int),.pointer (some ⟨m7.nx,0,none⟩)] _ _ at RS;have fS:Fr m9 (wr m9 pr (0+1) [.pointer (some ⟨m7.nx,0,none⟩)]) [pr]:=(Fr.refl _ _).wr (.inl (List.mem_cons_self ..));have wS:Wf (wr m9 pr (0+1) [.pointer (some ⟨m7.nx,0,none⟩)]):=(Keep.wr (o:=0+1) (l:=[.pointer (some ⟨m7.nx,0,none⟩)]) k09 hnew).wf;have x1C:=(kk.trans kC4).nx;have x17:=k17.nx;have hFS:=hF9.fr wS fS fun b hb=>by
   rw[List.mem_singleton]at hb;subst hb;exact⟨hnew,by omega,by simp[blk]⟩
  have ho9':=ho7.keep k7.wf k9';have hoS:=ho9'.fr k9'.wf fS fun b hb hs=>by
   rw[List.mem_singleton]at hs;subst hs;have:=ho7.blk _ hb;omega
  have R7:Row m9 ob (filled (took (many*rest) l.length) l.length l.length) jt false:=k9'.row k7.wf ((kC4.trans k7).row w4 R4);have hob9:ob<m9.nx:=k9'.wf.row R7;have ROS:=fS.row R7 hob9 (by rw[List.mem_singleton];omega);have hprS:=wS.row RS;have hobS:=wS.row ROS;have hlt69:∀b∈blk a69,b<m7.nx:=ho7.lt k7.wf;generalize wr m9 pr (0+1) [.pointer (some ⟨m7.nx,0,none⟩)]=mS at RS fS wS hFS hoS ROS hprS hobS ⊢;have hob7:ob<m7.nx:=k7.wf.row ((kC4.trans k7).row w4 R4);have hnowl:(l.drop r++l.take r).length=l.length:=by rw[List.length_append,List.length_drop,List.length_take];omega
  have nS:=hFS.lt;refine⟨fun x80 mm w=>∃(k:Nat) (a2:Option Addr) (c2:Nat),x80=(k:Int)/\k<=l.length/\w=l.length-k/\FF m0 mm m7.nx (l.length:Int) a2 c2 ((l.drop r++l.take r).take k)/\Fr mS mm [m7.nx]/\(∀b∈blk a2,mS.nx<=b),⟨_,0,none,0,rfl,Nat.zero_le _,rfl,hFS,Fr.refl _ _,fun b hb=>by cases hb⟩,?_⟩;rintro x80 mm w ⟨k,a2,c2,rfl,hk2,rfl,hF,hfr,hbl⟩;have wmm:Wf mm:=hF.acc.keep.wf;have hom:=hoS.fr wS hfr fun b hb hs=>by
   rw[List.mem_singleton]at hs;subst hs;exact absurd (hlt69 _ hb) (by omega)
  have A69:Arr encI 1 mm a69 l.length (l.drop r++l.take r):=hom.arr dU (by omega) hnowl;refine dH (fun hlt=>?_) (fun hge=>?_)
  .obtain⟨x,hx⟩:∃x,(l.drop r++l.take r)[k]? = some x:=⟨_,List.getElem?_eq_getElem (by rw[hnowl];exact hlt)⟩;refine A69.open (k:=k) hx fun b o hc=>⟨_,hc 0 _ rfl,?_⟩
   rw[cX];have hpm:=hfr.row RS hprS (by rw[List.mem_singleton];omega);refine⟨some ⟨m7.nx,0,none⟩,by rw[hpm.rd];rfl,?_⟩;refine ym hF (by rw[List.length_take];omega) (by rw[List.length_take,hnowl];omega) fun m12 a' c' hF' hf' hn'=>⟨_,rfl,_,sM hlt,k+1,a',c',vK (by omega),hlt,rfl,?_,?_,fun b hb=>?_⟩
   .rw[List.take_add_one,hx];exact hF'
   .refine hfr.trans hf' fun b hb=>?_
    rcases List.mem_cons.1 hb with hb|hb
    .exact .inl (by rw[hb];exact List.mem_cons_self ..)
    .exact .inr (hbl b hb)
   .have:=hn' b hb;have:=hfr.nx;omega
  .refine hQ mm ob a69 c69 hF.acc.keep ?_ A69;have hom2:=hfr.row ROS hobS (by rw[List.mem_singleton];omega);rw[Jd]at hom2;have:=Arr.of_row dU hom2;rw[List.length_map,List.length_range]at this;exact this
end
end Go.Proofs.YthpnifigjfplbaaGreat.vc
