/- Part 4 of the proof. What is proved: symbolic execution of the functions, proved sound; what each function of the program computes, and that every run ends with it; what these functions compute, in plain numbers. Conditions: each theorem bears its own. -/
import Derived.Test.YthajbkcpnbiobaaGreatDoorVxG3
import Derived.Test.YthajbkcpnbiobaaGreatDoorProg
set_option linter.all false
set_option exponentiation.threshold 1000000
noncomputable section
open Go.IntKind renaming wrap->aa
open Int renaming tmod->gm,toNat->ag
open List renaming replicate->aq
namespace Vx
open Go Go.Proofs
abbrev Za:Shape:=.int .i64
abbrev Zb:Shape:=.int .u64
abbrev Zc:Shape:=.box .pfn
abbrev Zd:Shape:=.pair .bool .unit
abbrev Ze:Shape:=.slice Zb
abbrev Zf:Shape:=.pair Za .unit
abbrev Zg:Shape:=.pair Zb .unit
abbrev Zh:Shape:=.pair Za Zd
abbrev Zi:Shape:=.pair Za Zf
abbrev Zj:Shape:=.pair Zb Zg
abbrev Zk:Shape:=.pair Zb Zf
abbrev Zl:Shape:=.pair Ze Zf
abbrev Zm:Shape:=.slice Zj
abbrev Zn:Shape:=.pair .bool Zk
abbrev Zo:Shape:=.pair Zj .unit
abbrev Zp:Shape:=.pair Za Zi
abbrev Zq:Shape:=.pair Zb Zj
abbrev Zr:Shape:=.pair Ze Zh
abbrev Zs:Shape:=.pair .bool Zl
abbrev Zt:Shape:=.pair Za Zn
abbrev Zu:Shape:=.pair .bool Zr
abbrev Zv:Shape:=.pair Zs .unit
abbrev Zw:Shape:=.pair Za Zp
abbrev Zx:Shape:=.pair Za Zq
abbrev Zy:Shape:=.pair .bool Zv
abbrev Zz:Shape:=.pair Za Zx
abbrev ZA:Shape:=.pair .bool Zy
abbrev ZB:Shape:=.pair Zj Zo
abbrev ZC:Shape:=.pair .bool ZA
abbrev ZD:Shape:=.pair Za ZB
abbrev ZE:Shape:=.pair .bool ZC
abbrev ZF:Shape:=.pair .bool ZE
abbrev ZG:Shape:=.pair Za ZD
abbrev rowsSh:Shape:=Zw
abbrev kindsSh:Shape:=Zj
def k_rows:List (Ab rowsSh):=[(16,11,-14,15,()),(16,8,-126,127,()),(32,24,-126,127,()),(64,53,-1022,1023,())]
def Jn:List UInt8:=[0,1,2,2,3,3,3,3,4,4,4,4,4,4,4,4,5,5,5,5,5,5,5,5,5,5,5,5,5,5,5,5,6,6,6,6,6,6,6,6,6,6,6,6,6,6,6,6,6,6,6,6,6,6,6,6,6,6,6,6,6,6,6,6,7,7,7,7,7,7,7,7,7,7,7,7,7,7,7,7,7,7,7,7,7,7,7,7,7,7,7,7,7,7,7,7,7,7,7,7,7,7,7,7,7,7,7,7,7,7,7,7,7,7,7,7,7,7,7,7,7,7,7,7,7,7,7,7,8,8,8,8,8,8,8,8,8,8,8,8,8,8,8,8,8,8,8,8,8,8,8,8,8,8,8,8,8,8,8,8,8,8,8,8,8,8,8,8,8,8,8,8,8,8,8,8,8,8,8,8,8,8,8,8,8,8,8,8,8,8,8,8,8,8,8,8,8,8,8,8,8,8,8,8,8,8,8,8,8,8,8,8,8,8,8,8,8,8,8,8,8,8,8,8,8,8,8,8,8,8,8,8,8,8,8,8,8,8,8,8,8,8,8,8,8,8,8,8,8,8,8,8,8,8,8,8]
def k_deb:List (Ab (.int .u8)):=[0,1,56,2,57,49,28,3,61,58,42,50,38,29,17,4,62,47,59,36,45,43,51,22,53,39,33,30,24,18,12,5,63,55,48,27,60,41,37,16,46,35,44,21,52,32,23,11,54,26,40,15,34,20,31,10,25,14,19,9,13,8,7,6]
def k_kinds:List (Ab kindsSh):=[(2147483648,2147483647,()),(9223372036854775808,9223372036854775807,()),(0,4294967295,()),(0,18446744073709551615,())]
def G1:List (Nat×Sigma fun τ=>List (Ab τ)):=[(1,⟨rowsSh,k_rows⟩),(4,⟨kindsSh,k_kinds⟩),(5,⟨.int .u8,k_deb⟩)]
abbrev Ag(I:Aa):=DenS I->Bool
abbrev Af(I O:Aa):=DenS I->DenS O
@[reducible] def cf(s:List (FuncId×Sum))(l:List (FuncId×Nat×LoopSpec)):Cfg:={P:=Tryz.prog,sums:=s,loops:=l,globs:=G1}
theorem sd(C:Cfg)(n:FuncId)(fn:Func)(hs:W9 C.P C.globs C.sums)(hl:Vm C n fn C.loops)(I O:Aa)(t:DenS I->Option (DenS O))(d:DenS O)(h:∀x,run C 9 n fn I O x=t x)(hls:Xa C.P C.globs C.lsums:=by exact trivial)(hfs:W7 C.P C.globs C.fns:=by exact trivial)(hms:W8 C.P C.globs C.meths:=by exact trivial)
  (hm : C.P.follows .mixedOrders = true := by kernel_rfl) (hf : C.P.funcs[n]? = some fn := by kernel_rfl) (hb : (match fn.body with | some c => Js ((CJ c).map Do) | none => false) = true := by kernel_rfl) (hn : (fn.name == "runtime.NumGoroutine") = false := by kernel_rfl) : Sound C.P C.globs n (Aj I O t d) :=
 aZU C 9 n fn hm hf hb hn hs hl I O t d h hls hfs hms
theorem Ej(C:Cfg)(n:FuncId)(fn:Func)(hs:W9 C.P C.globs C.sums)(hl:Vm C n fn C.loops)(k:LK)(I O:Aa)(t:k.D×DenS I->Option (k.B×DenS O))(d:k.B×DenS O)(h:∀x,Dd C 9 n fn k I O x=t x)(hls:Xa C.P C.globs C.lsums:=by exact trivial)(hfs:W7 C.P C.globs C.fns:=by exact trivial)(hms:W8 C.P C.globs C.meths:=by exact trivial)
  (hm : C.P.follows .mixedOrders = true := by kernel_rfl) (hf : C.P.funcs[n]? = some fn := by kernel_rfl) (hb : (match fn.body with | some c => Js ((CJ c).map Do) | none => false) = true := by kernel_rfl) (hn : (fn.name == "runtime.NumGoroutine") = false := by kernel_rfl) : SoundL C.P C.globs n (De k I O t d) :=
 aZV C 9 n fn hm hf hb hn hs hl k I O t d h hls hfs hms
abbrev Cb:Aa:=[(false,Za)]
abbrev Cc:Aa:=[(true,Zw),(false,Za)]
def zY(a0:Ab Za):Option (DenS Cc):=let e1_:=((0:Int),(0:Int),(0:Int),(0:Int),());bif((decide (a0<(0:Int)))||(decide (a0>=(4:Int))))then(some (e1_,(2:Int),()))else bif((decide ((0:Int)<=a0))&&(decide (a0<((4:Nat):Int))))then(some ((Vx.k_rows.getD (ag a0) e1_),(0:Int),()))else none
theorem r69(x:DenS Cb):run (cf [] []) 9 71 Tryz.f71 Cb Cc x=zY x.1:=by kernel_rfl
def XR(x:DenS Cb):Option (DenS Cc):=zY x.1
def As:Sum:=Aj Cb Cc XR (DenS.dflt Cc)
theorem DQ:Sound Tryz.prog G1 71 As:=sd (cf [] []) 71 Tryz.f71 trivial trivial Cb Cc XR _ (fun _=>r69 ..)
abbrev BY:=Ag Cb
abbrev BZ:=Af Cb Cc
variable (p69:BY)(f69:BZ)
abbrev Cx:Aa:=[(false,Za),(false,Zb)]
abbrev Cy:Aa:=[(false,Za)]
def zV(p69:BY)(f69:BZ)(a0:Ab Za)(a1:Ab Zb):Option (DenS Cy):=bif(p69 (a0,()))then(bif((f69 (a0,())).2.1 !=(0:Int))then(some (f69 (a0,())).2)else bif((decide ((0:Int)<=(f69 (a0,())).1.1))||(!(decide ((f69 (a0,())).1.1<(64:Int)))))then(bif((decide ((f69 (a0,())).1.1<(64:Int)))&&((AQ .u64 a1 (f69 (a0,())).1.1)!=(0:Int)))then(some ((4:Int),()))else some ((0:Int),()))else none)else none
theorem r66(x:DenS Cx):run (cf [(71,⟨Cb,Cc,p69,f69⟩)] []) 9 85 Tryz.f85 Cx Cy x=zV p69 f69 x.1 x.2.1:=by kernel_rfl
def fR(x:DenS Cx):Option (DenS Cy):=zV As.pre As.F x.1 x.2.1
def Aw:Sum:=Aj Cx Cy fR (DenS.dflt Cy)
theorem FT:Sound Tryz.prog G1 85 Aw:=sd (cf [(71,As)] []) 85 Tryz.f85 ⟨DQ,trivial⟩ trivial Cx Cy fR _ (fun _=>r66 ..)
abbrev Cd:=Ag Cx
abbrev Ce:=Af Cx Cy
variable (p66:Cd)(f66:Ce)
abbrev ES:Aa:=[(false,Za)]
abbrev EW:Aa:=[(false,Zb)]
def t91(a0:Ab Za):Option (DenS EW):=bif(decide ((0:Int)<=a0))then(some ((aa .u64 ((Bj .u64 (1:Int) a0)-(1:Int))),()))else none
theorem r91(x:DenS ES):run (cf [] []) 9 72 Tryz.f72 ES EW x=t91 x.1:=by kernel_rfl
def gC(x:DenS ES):Option (DenS EW):=t91 x.1
def B2:Sum:=Aj ES EW gC (DenS.dflt EW)
theorem NP:Sound Tryz.prog G1 72 B2:=sd (cf [] []) 72 Tryz.f72 trivial trivial ES EW gC _ (fun _=>r91 ..)
abbrev Hv:=Ag ES
abbrev Hz:=Af ES EW
variable (p91:Hv)(f91:Hz)
abbrev Kd:Aa:=[(true,Zw),(false,Zb)]
abbrev KN:Aa:=[(false,.bool),(false,Zb),(false,Zb)]
def t90(p91:Hv)(f91:Hz)(a0:Ab Zw)(a1:Ab Zb):Option (DenS KN):=let e5_:=(aa .i64 (a0.2.1-(1:Int)));let e1_:=(e5_,());let e2_:=((aa .i64 (a0.1-a0.2.1)),());let e3_:=e5_;let e4_:=(aa .i64 (a0.1-(1:Int)));bif(decide ((0:Int)<=e4_))then(bif(decide ((0:Int)<=e3_))then(bif(p91 e2_)then(bif(p91 e1_)then(some (((AQ .u64 a1 e4_)!=(0:Int)),(BS .u64 (AQ .u64 a1 e3_) (f91 e2_).1),(BS .u64 a1 (f91 e1_).1),()))else none)else none)else none)else none
theorem r90(x:DenS Kd):run (cf [(72,⟨ES,EW,p91,f91⟩)] []) 9 87 Tryz.f87 Kd KN x=t90 p91 f91 x.1 x.2.1:=by kernel_rfl
def gB(x:DenS Kd):Option (DenS KN):=t90 B2.pre B2.F x.1 x.2.1
def DR:Sum:=Aj Kd KN gB (DenS.dflt KN)
theorem aBf:Sound Tryz.prog G1 87 DR:=sd (cf [(72,B2)] []) 87 Tryz.f87 ⟨NP,trivial⟩ trivial Kd KN gB _ (fun _=>r90 ..)
abbrev iA:=Ag Kd
abbrev iP:=Af Kd KN
variable (p90:iA)(f90:iP)
abbrev D2:Aa:=[(false,Za),(false,Zb)]
abbrev D3:Aa:=[(false,Za),(false,Za)]
def aJ(p66:Cd)(f66:Ce)(p90:iA)(f90:iP)(p91:Hv)(f91:Hz)(a0:Ab Za)(a1:Ab Zb):Option (DenS D3):=let e10_:=(Vx.k_rows.getD (ag a0) ((0:Int),(0:Int),(0:Int),(0:Int),()));let e9_:=(f90 (e10_,a1,()));let e8_:=((aa .i64 (e10_.1-e10_.2.1)),());let e1_:=(e9_.2.1==(f91 e8_).1);let e2_:=(p91 e8_);let e3_:=(aa .i64 (e10_.2.1-(2:Int)));let e4_:=(e9_.2.2.1==(0:Int));let e5_:=(e9_.2.1==(0:Int));let e6_:=e9_;let e7_:=e10_;bif(p66 (a0,a1,()))then(bif((f66 (a0,a1,())).1 !=(0:Int))then(some ((0:Int),(f66 (a0,a1,()))))else bif((decide ((0:Int)<=a0))&&(decide (a0<((4:Nat):Int))))then(bif(p90 (e7_,a1,()))then(bif e2_ then(bif(e1_&&e4_)then(bif e6_.1 then(some ((aa .i64 ((11:Int)-(9:Int))),(0:Int),()))else some ((9:Int),(0:Int),()))else bif e2_ then(bif((decide ((0:Int)<=e3_))||(!(decide (e6_.2.1=(f91 ((aa .i64 (e7_.1-e7_.2.1)),())).1))))then(bif(e1_&&((AQ .u64 e6_.2.2.1 e3_)!=(0:Int)))then(some ((1:Int),(0:Int),()))else bif e2_ then(bif e1_ then(some ((0:Int),(0:Int),()))else bif(e5_&&e4_)then(bif e6_.1 then(some ((aa .i64 ((11:Int)-(6:Int))),(0:Int),()))else some ((6:Int),(0:Int),()))else bif e5_ then(bif e6_.1 then(some ((aa .i64 ((11:Int)-(7:Int))),(0:Int),()))else some ((7:Int),(0:Int),()))else bif e6_.1 then(some ((aa .i64 ((11:Int)-(8:Int))),(0:Int),()))else some ((8:Int),(0:Int),()))else none)else none)else none)else none)else none)else none)else none
theorem r65(x:DenS D2):run (cf [(85,⟨Cx,Cy,p66,f66⟩),(87,⟨Kd,KN,p90,f90⟩),(72,⟨ES,EW,p91,f91⟩)] []) 9 59 Tryz.f59 D2 D3 x=aJ p66 f66 p90 f90 p91 f91 x.1 x.2.1:=by kernel_rfl
def XP(x:DenS D2):Option (DenS D3):=aJ Aw.pre Aw.F DR.pre DR.F B2.pre B2.F x.1 x.2.1
def By:Sum:=Aj D2 D3 XP (DenS.dflt D3)
theorem IX:Sound Tryz.prog G1 59 By:=sd (cf [(85,Aw),(87,DR),(72,B2)] []) 59 Tryz.f59 ⟨FT,aBf,NP,trivial⟩ trivial D2 D3 XP _ (fun _=>r65 ..)
abbrev D8:=Ag D2
abbrev D9:=Af D2 D3
variable (p65:D8)(f65:D9)
abbrev JL:Aa:=[(true,Zw)]
abbrev Kj:Aa:=[(false,Zb)]
def aRJ(a0:Ab Zw):Option (DenS Kj):=some ((0:Int),())
theorem bEe(x:DenS JL):run (cf [] []) 9 89 Tryz.f89 JL Kj x=aRJ x.1:=by kernel_rfl
def aHu(x:DenS JL):Option (DenS Kj):=aRJ x.1
def K0:Sum:=Aj JL Kj aHu (DenS.dflt Kj)
theorem aAN:Sound Tryz.prog G1 89 K0:=sd (cf [] []) 89 Tryz.f89 trivial trivial JL Kj aHu _ (fun _=>bEe ..)
abbrev rH:=Ag JL
abbrev r6:=Af JL Kj
variable (p116:rH)(f116:r6)
abbrev Pt:Aa:=[(true,Zw)]
abbrev Rx:Aa:=[(false,Zb)]
def aRK(a0:Ab Zw):Option (DenS Rx):=let e1_:=(aa .i64 (a0.2.1-(2:Int)));bif(decide ((0:Int)<=e1_))then(some ((Bj .u64 (1:Int) e1_),()))else none
theorem bEf(x:DenS Pt):run (cf [] []) 9 90 Tryz.f90 Pt Rx x=aRK x.1:=by kernel_rfl
def aHv(x:DenS Pt):Option (DenS Rx):=aRK x.1
def n5:Sum:=Aj Pt Rx aHv (DenS.dflt Rx)
theorem aUo:Sound Tryz.prog G1 90 n5:=sd (cf [] []) 90 Tryz.f90 trivial trivial Pt Rx aHv _ (fun _=>bEf ..)
abbrev aJD:=Ag Pt
abbrev aLc:=Af Pt Rx
variable (p117:aJD)(f117:aLc)
abbrev HZ:Aa:=[(true,Zw),(false,.bool),(false,Zb),(false,Zb)]
abbrev Ie:Aa:=[(false,Zb)]
def aRN(a0:Ab Zw)(a1:Ab (.bool))(a2 a3:Ab Zb):Option (DenS Ie):=let e3_:=(aa .i64 (a0.2.1-(1:Int)));let e1_:=(Ak .u64 (Bj .u64 a2 e3_) a3);let e2_:=(aa .i64 (a0.1-(1:Int)));bif(decide ((0:Int)<=e3_))then(bif a1 then(bif(decide ((0:Int)<=e2_))then(some ((Ak .u64 e1_ (Bj .u64 (1:Int) e2_)),()))else none)else some (e1_,()))else none
theorem bEy(x:DenS HZ):run (cf [] []) 9 73 Tryz.f73 HZ Ie x=aRN x.1 x.2.1 x.2.2.1 x.2.2.2.1:=by kernel_rfl
def aHB(x:DenS HZ):Option (DenS Ie):=aRN x.1 x.2.1 x.2.2.1 x.2.2.2.1
def Gx:Sum:=Aj HZ Ie aHB (DenS.dflt Ie)
theorem n7:Sound Tryz.prog G1 73 Gx:=sd (cf [] []) 73 Tryz.f73 trivial trivial HZ Ie aHB _ (fun _=>bEy ..)
abbrev XY:=Ag HZ
abbrev Ya:=Af HZ Ie
variable (p140:XY)(f140:Ya)
abbrev DA:Aa:=[(false,Za)]
abbrev DB:Aa:=[(false,Zb),(false,Za)]
def t70(p116:rH)(f116:r6)(p117:aJD)(f117:aLc)(p69:BY)(f69:BZ)(p91:Hv)(f91:Hz)(p140:XY)(f140:Ya)(a0:Ab Za):Option (DenS DB):=let e2_:=((aa .i64 ((f69 (a0,())).1.1-(f69 (a0,())).1.2.1)),());let e1_:=((f69 (a0,())).1,false,(aa .u64 ((f91 e2_).1-(f116 ((f69 (a0,())).1,())).1)),(f117 ((f69 (a0,())).1,())));bif(p69 (a0,()))then(bif((f69 (a0,())).2.1 !=(0:Int))then(some ((0:Int),(f69 (a0,())).2))else bif(p91 e2_)then(bif(p116 ((f69 (a0,())).1,()))then(bif(p117 ((f69 (a0,())).1,()))then(bif(p140 e1_)then(some ((f140 e1_).1,(0:Int),()))else none)else none)else none)else none)else none
theorem r70(x:DenS DA):run (cf [(89,⟨JL,Kj,p116,f116⟩),(90,⟨Pt,Rx,p117,f117⟩),(71,⟨Cb,Cc,p69,f69⟩),(72,⟨ES,EW,p91,f91⟩),(73,⟨HZ,Ie,p140,f140⟩)] []) 9 61 Tryz.f61 DA DB x=t70 p116 f116 p117 f117 p69 f69 p91 f91 p140 f140 x.1:=by kernel_rfl
def XS(x:DenS DA):Option (DenS DB):=t70 K0.pre K0.F n5.pre n5.F As.pre As.F B2.pre B2.F Gx.pre Gx.F x.1
def Bp:Sum:=Aj DA DB XS (DenS.dflt DB)
theorem GJ:Sound Tryz.prog G1 61 Bp:=sd (cf [(89,K0),(90,n5),(71,As),(72,B2),(73,Gx)] []) 61 Tryz.f61 ⟨aAN,aUo,DQ,NP,n7,trivial⟩ trivial DA DB XS _ (fun _=>r70 ..)
abbrev DG:=Ag DA
abbrev DH:=Af DA DB
variable (p70:DG)(f70:DH)
abbrev Fx:Aa:=[(false,Za),(false,Zb)]
abbrev FK:Aa:=[(false,.bool),(false,Zb),(false,Zb),(false,Za)]
def t98(p66:Cd)(f66:Ce)(p90:iA)(f90:iP)(a0:Ab Za)(a1:Ab Zb):Option (DenS FK):=let e2_:=((Vx.k_rows.getD (ag a0) ((0:Int),(0:Int),(0:Int),(0:Int),())),a1,());let e1_:=(f90 e2_);bif(p66 (a0,a1,()))then(bif((f66 (a0,a1,())).1 !=(0:Int))then(some (false,(0:Int),(0:Int),(f66 (a0,a1,()))))else bif(bif(decide ((0:Int)<=a0))then(decide (a0<((4:Nat):Int)))else false)then(bif(p90 e2_)then(some (e1_.1,e1_.2.1,e1_.2.2.1,(0:Int),()))else none)else none)else none
theorem r98(x:DenS Fx):run (cf [(85,⟨Cx,Cy,p66,f66⟩),(87,⟨Kd,KN,p90,f90⟩)] []) 9 91 Tryz.f91 Fx FK x=t98 p66 f66 p90 f90 x.1 x.2.1:=by kernel_rfl
def gF(x:DenS Fx):Option (DenS FK):=t98 Aw.pre Aw.F DR.pre DR.F x.1 x.2.1
def Ck:Sum:=Aj Fx FK gF (DenS.dflt FK)
theorem Vy:Sound Tryz.prog G1 91 Ck:=sd (cf [(85,Aw),(87,DR)] []) 91 Tryz.f91 ⟨FT,aBf,trivial⟩ trivial Fx FK gF _ (fun _=>r98 ..)
abbrev Lk:=Ag Fx
abbrev Ln:=Af Fx FK
variable (p98:Lk)(f98:Ln)
abbrev Rq:Aa:=[(false,Za),(true,Zw),(false,Zb)]
abbrev Tt:Aa:=[(true,Zn)]
def zZ(p98:Lk)(f98:Ln)(a0:Ab Za)(a1:Ab Zw)(a2:Ab Zb):Option (DenS Tt):=let e1_:=(aa .i64 ((aa .i64 (a1.2.2.1-a1.2.1))+(1:Int)));let e2_:=(aa .i64 (a1.2.1-(1:Int)));bif(p98 (a0,a2,()))then(bif(decide ((f98 (a0,a2,())).2.1>(0:Int)))then(bif(decide ((0:Int)<=e2_))then(some (((f98 (a0,a2,())).1,(Ak .u64 (f98 (a0,a2,())).2.2.1 (Bj .u64 (1:Int) e2_)),(aa .i64 (e1_+(aa .i64 ((aa .i64 (f98 (a0,a2,())).2.1)-(1:Int))))),()),()))else none)else some (((f98 (a0,a2,())).1,(f98 (a0,a2,())).2.2.1,e1_,()),()))else none
theorem r72(x:DenS Rq):run (cf [(91,⟨Fx,FK,p98,f98⟩)] []) 9 194 Tryz.f194 Rq Tt x=zZ p98 f98 x.1 x.2.1 x.2.2.1:=by kernel_rfl
def fV(x:DenS Rq):Option (DenS Tt):=zZ Ck.pre Ck.F x.1 x.2.1 x.2.2.1
def Uv:Sum:=Aj Rq Tt fV (DenS.dflt Tt)
theorem aV5:Sound Tryz.prog G1 194 Uv:=sd (cf [(91,Ck)] []) 194 Tryz.f194 ⟨Vy,trivial⟩ trivial Rq Tt fV _ (fun _=>r72 ..)
abbrev Y72:=Ag Rq
abbrev Z72:=Af Rq Tt
variable (p72:Y72)(f72:Z72)
abbrev HU:Aa:=[(true,Zj),(false,Za)]
abbrev Kk:Aa:=[(true,Zj)]
def wI(a0:Ab Zj)(a1:Ab Za):Option (DenS Kk):=let e1_:=(aa .i64 (a1-(64:Int)));let e2_:=(aa .i64 ((64:Int)-a1));bif(decide (a1<=(0:Int)))then(some ((a0.1,a0.2),()))else bif(decide (a1>=(128:Int)))then(some (((0:Int),(0:Int),()),()))else bif(decide (a1>=(64:Int)))then(bif(decide ((0:Int)<=e1_))then(some (((Bj .u64 a0.2.1 e1_),(0:Int),()),()))else none)else bif(decide ((0:Int)<=a1))then(bif(decide ((0:Int)<=e2_))then(bif(decide ((0:Int)<=a1))then(some (((Ak .u64 (Bj .u64 a0.1 a1) (AQ .u64 a0.2.1 e2_)),(Bj .u64 a0.2.1 a1),()),()))else none)else none)else none
theorem bEk(x:DenS HU):run (cf [] []) 9 208 Tryz.f208 HU Kk x=wI x.1 x.2.1:=by kernel_rfl
def VB(x:DenS HU):Option (DenS Kk):=wI x.1 x.2.1
def AS:Sum:=Aj HU Kk VB (DenS.dflt Kk)
theorem aGx:Sound Tryz.prog G1 208 AS:=sd (cf [] []) 208 Tryz.f208 trivial trivial HU Kk VB _ (fun _=>bEk ..)
abbrev gR:=Ag HU
abbrev iE:=Af HU Kk
variable (p119:gR)(f119:iE)
abbrev JM:Aa:=[(true,Zj),(false,Za)]
abbrev Mz:Aa:=[(true,Zj)]
def wJ(a0:Ab Zj)(a1:Ab Za):Option (DenS Mz):=let e1_:=(aa .i64 (a1-(64:Int)));let e2_:=(aa .i64 ((64:Int)-a1));bif(decide (a1<=(0:Int)))then(some ((a0.1,a0.2),()))else bif(decide (a1>=(128:Int)))then(some (((0:Int),(0:Int),()),()))else bif(decide (a1>=(64:Int)))then(bif(decide ((0:Int)<=e1_))then(some (((0:Int),(AQ .u64 a0.1 e1_),()),()))else none)else bif(decide ((0:Int)<=a1))then(bif(decide ((0:Int)<=a1))then(bif(decide ((0:Int)<=e2_))then(some (((AQ .u64 a0.1 a1),(Ak .u64 (AQ .u64 a0.2.1 a1) (Bj .u64 a0.1 e2_)),()),()))else none)else none)else none
theorem bEl(x:DenS JM):run (cf [] []) 9 234 Tryz.f234 JM Mz x=wJ x.1 x.2.1:=by kernel_rfl
def Xt(x:DenS JM):Option (DenS Mz):=wJ x.1 x.2.1
def AZ:Sum:=Aj JM Mz Xt (DenS.dflt Mz)
theorem aUp:Sound Tryz.prog G1 234 AZ:=sd (cf [] []) 234 Tryz.f234 trivial trivial JM Mz Xt _ (fun _=>bEl ..)
abbrev aBC:=Ag JM
abbrev aCs:=Af JM Mz
variable (p120:aBC)(f120:aCs)
abbrev Fi:Aa:=WY
abbrev FH:Aa:=aF
def AC:Sum:=aMG
theorem Xo:Sound Tryz.prog G1 94 AC:=aYG Tryz.func94 (by kernel_rfl) (by kernel_rfl) (by kernel_rfl) (by kernel_rfl)
abbrev Dg:=Ag Fi
abbrev Di:=Af Fi FH
variable (p155:Dg)(f155:Di)
abbrev JN:Aa:=[(true,Zj),(true,Zj)]
abbrev MA:Aa:=[(true,Zj),(false,Zb)]
def wK(p155:Dg)(f155:Di)(a0 a1:Ab Zj):Option (DenS MA):=let e2_:=(a0.1,a1.1,(f155 (a0.2.1,a1.2.1,(0:Int),())).2);let e1_:=(f155 e2_);bif(p155 (a0.2.1,a1.2.1,(0:Int),()))then(bif(p155 e2_)then(some ((e1_.1,(f155 (a0.2.1,a1.2.1,(0:Int),())).1,()),e1_.2))else none)else none
theorem bEm(x:DenS JN):run (cf [(94,⟨Fi,FH,p155,f155⟩)] []) 9 235 Tryz.f235 JN MA x=wK p155 f155 x.1 x.2.1:=by kernel_rfl
def cJ(x:DenS JN):Option (DenS MA):=wK AC.pre AC.F x.1 x.2.1
def NK:Sum:=Aj JN MA cJ (DenS.dflt MA)
theorem aUq:Sound Tryz.prog G1 235 NK:=sd (cf [(94,AC)] []) 235 Tryz.f235 ⟨Xo,trivial⟩ trivial JN MA cJ _ (fun _=>bEm ..)
abbrev aBD:=Ag JN
abbrev aCt:=Af JN MA
variable (p121:aBD)(f121:aCt)
abbrev GU:Aa:=[(true,Zj),(true,Zj)]
abbrev H8:Aa:=[(false,Za)]
def wM(a0 a1:Ab Zj):Option (DenS H8):=bif((a0.1==a1.1)&&(a0.2.1==a1.2.1))then(some ((0:Int),()))else bif((decide (a0.1<a1.1))||((a0.1==a1.1)&&(decide (a0.2.1<a1.2.1))))then(some ((-(1:Int)),()))else some ((1:Int),())
theorem bEo(x:DenS GU):run (cf [] []) 9 236 Tryz.f236 GU H8 x=wM x.1 x.2.1:=by kernel_rfl
def cM(x:DenS GU):Option (DenS H8):=wM x.1 x.2.1
def EF:Sum:=Aj GU H8 cM (DenS.dflt H8)
theorem aGy:Sound Tryz.prog G1 236 EF:=sd (cf [] []) 236 Tryz.f236 trivial trivial GU H8 cM _ (fun _=>bEo ..)
abbrev VN:=Ag GU
abbrev V0:=Af GU H8
variable (p123:VN)(f123:V0)
abbrev Ma:Aa:=WY
abbrev RJ:Aa:=aF
def BE:Sum:=aRy
theorem oB:Sound Tryz.prog G1 148 BE:=bJk Tryz.func148 (by kernel_rfl) (by kernel_rfl) (by kernel_rfl) (by kernel_rfl)
abbrev Hu:=Ag Ma
abbrev Hy:=Af Ma RJ
variable (p157:Hu)(f157:Hy)
abbrev JO:Aa:=[(true,Zj),(true,Zj)]
abbrev MB:Aa:=[(true,Zj),(false,Zb)]
def wN(p157:Hu)(f157:Hy)(a0 a1:Ab Zj):Option (DenS MB):=let e2_:=(a0.1,a1.1,(f157 (a0.2.1,a1.2.1,(0:Int),())).2);let e1_:=(f157 e2_);bif(p157 (a0.2.1,a1.2.1,(0:Int),()))then(bif(p157 e2_)then(some ((e1_.1,(f157 (a0.2.1,a1.2.1,(0:Int),())).1,()),e1_.2))else none)else none
theorem bEp(x:DenS JO):run (cf [(148,⟨Ma,RJ,p157,f157⟩)] []) 9 237 Tryz.f237 JO MB x=wN p157 f157 x.1 x.2.1:=by kernel_rfl
def cN(x:DenS JO):Option (DenS MB):=wN BE.pre BE.F x.1 x.2.1
def B8:Sum:=Aj JO MB cN (DenS.dflt MB)
theorem aUr:Sound Tryz.prog G1 237 B8:=sd (cf [(148,BE)] []) 237 Tryz.f237 ⟨oB,trivial⟩ trivial JO MB cN _ (fun _=>bEp ..)
abbrev aBE:=Ag JO
abbrev aCu:=Af JO MB
variable (p124:aBE)(f124:aCu)
abbrev PF:Aa:=[(true,Zw)]
abbrev RI:Aa:=[(false,Zb)]
def aRP(p91:Hv)(f91:Hz)(a0:Ab Zw):Option (DenS RI):=let e1_:=((aa .i64 (a0.1-a0.2.1)),());bif(p91 e1_)then(some (f91 e1_))else none
theorem bEL(x:DenS PF):run (cf [(72,⟨ES,EW,p91,f91⟩)] []) 9 92 Tryz.f92 PF RI x=aRP p91 f91 x.1:=by kernel_rfl
def aHF(x:DenS PF):Option (DenS RI):=aRP B2.pre B2.F x.1
def oA:Sum:=Aj PF RI aHF (DenS.dflt RI)
theorem aUA:Sound Tryz.prog G1 92 oA:=sd (cf [(72,B2)] []) 92 Tryz.f92 ⟨NP,trivial⟩ trivial PF RI aHF _ (fun _=>bEL ..)
abbrev aJN:=Ag PF
abbrev aLm:=Af PF RI
variable (p154:aJN)(f154:aLm)
abbrev Fg:Aa:=[(false,Za),(false,.bool)]
abbrev FF:Aa:=[(false,Zb),(false,Za)]
def aRL(p154:aJN)(f154:aLm)(p116:rH)(f116:r6)(p69:BY)(f69:BZ)(p91:Hv)(f91:Hz)(p140:XY)(f140:Ya)(a0:Ab Za)(a1:Ab (.bool)):Option (DenS FF):=let e2_:=((aa .i64 ((f69 (a0,())).1.1-(f69 (a0,())).1.2.1)),());let e1_:=((f69 (a0,())).1,a1,(aa .u64 ((f91 e2_).1-(f154 ((f69 (a0,())).1,())).1)),(f116 ((f69 (a0,())).1,())));bif(p69 (a0,()))then(bif((f69 (a0,())).2.1 !=(0:Int))then(some ((0:Int),(f69 (a0,())).2))else bif(p91 e2_)then(bif(p154 ((f69 (a0,())).1,()))then(bif(p116 ((f69 (a0,())).1,()))then(bif(p140 e1_)then(some ((f140 e1_).1,(0:Int),()))else none)else none)else none)else none)else none
theorem bEj(x:DenS Fg):run (cf [(92,⟨PF,RI,p154,f154⟩),(89,⟨JL,Kj,p116,f116⟩),(71,⟨Cb,Cc,p69,f69⟩),(72,⟨ES,EW,p91,f91⟩),(73,⟨HZ,Ie,p140,f140⟩)] []) 9 64 Tryz.f64 Fg FF x=aRL p154 f154 p116 f116 p69 f69 p91 f91 p140 f140 x.1 x.2.1:=by kernel_rfl
def cG(x:DenS Fg):Option (DenS FF):=aRL oA.pre oA.F K0.pre K0.F As.pre As.F B2.pre B2.F Gx.pre Gx.F x.1 x.2.1
def B4:Sum:=Aj Fg FF cG (DenS.dflt FF)
theorem Xj:Sound Tryz.prog G1 64 B4:=sd (cf [(92,oA),(89,K0),(71,As),(72,B2),(73,Gx)] []) 64 Tryz.f64 ⟨aUA,aAN,DQ,NP,n7,trivial⟩ trivial Fg FF cG _ (fun _=>bEj ..)
abbrev I0:=Ag Fg
abbrev I4:=Af Fg FF
variable (p118:I0)(f118:I4)
abbrev Pz:Aa:=[(false,Za)]
abbrev RD:Aa:=[(false,Za)]
def w0(a0:Ab Za):Option (DenS RD):=bif((decide (a0<(0:Int)))||(decide (a0>(5:Int))))then(some ((3:Int),()))else some ((0:Int),())
theorem bEF(x:DenS Pz):run (cf [] []) 9 139 Tryz.f139 Pz RD x=w0 x.1:=by kernel_rfl
def cU(x:DenS Pz):Option (DenS RD):=w0 x.1
def TC:Sum:=Aj Pz RD cU (DenS.dflt RD)
theorem aUv:Sound Tryz.prog G1 139 TC:=sd (cf [] []) 139 Tryz.f139 trivial trivial Pz RD cU _ (fun _=>bEF ..)
abbrev aJJ:=Ag Pz
abbrev aLi:=Af Pz RD
variable (p147:aJJ)(f147:aLi)
abbrev JH:Aa:=[(false,Za),(false,Za)]
abbrev Kf:Aa:=[(true,Zw),(false,Za)]
def wC(p69:BY)(f69:BZ)(p147:aJJ)(f147:aLi)(a0 a1:Ab Za):Option (DenS Kf):=bif(p69 (a0,()))then(bif((f69 (a0,())).2.1 !=(0:Int))then(some (f69 (a0,())))else bif(p147 (a1,()))then(some ((f69 (a0,())).1,(f147 (a1,()))))else none)else none
theorem bD8(x:DenS JH):run (cf [(71,⟨Cb,Cc,p69,f69⟩),(139,⟨Pz,RD,p147,f147⟩)] []) 9 121 Tryz.f121 JH Kf x=wC p69 f69 p147 f147 x.1 x.2.1:=by kernel_rfl
def cA(x:DenS JH):Option (DenS Kf):=wC As.pre As.F TC.pre TC.F x.1 x.2.1
def FN:Sum:=Aj JH Kf cA (DenS.dflt Kf)
theorem aAJ:Sound Tryz.prog G1 121 FN:=sd (cf [(71,As),(139,TC)] []) 121 Tryz.f121 ⟨DQ,aUv,trivial⟩ trivial JH Kf cA _ (fun _=>bD8 ..)
abbrev XV:=Ag JH
abbrev X7:=Af JH Kf
variable (p105:XV)(f105:X7)
abbrev BW:Aa:=[(false,Ze)]
abbrev BX:Aa:=[(false,Ze)]
abbrev IA:Pat:=⟨21,[(0,.one (.sl Zb)),(3,.one (.v .i64))],[]⟩
abbrev mT:List (Nat×Shape):=[]
abbrev Oc:List (Nat×Pat):=[(0,⟨21,[(0,.one (.sl Zb)),(3,.one (.v .i64))],[]⟩)]
abbrev Np:Option Pat:=none
variable (w173_2:Pat.D IA->Option (Ad Oc Np))
def YW{R:Type}(L:Pat.D IA->Option R)(e:Ad Oc Np->Option R)(x:Pat.D IA):Option R:=let e1_:=(aa .i64 (x.1.2.1-(1:Int)));bif(((decide ((0:Int)<=e1_))&&(decide (e1_<(x.1.1.length:Int))))||(!(decide (x.1.2.1>(0:Int)))))then(bif((decide (x.1.2.1>(0:Int)))&&((x.1.1.getD (ag e1_) (0:Int))==(0:Int)))then(((L ((x.1.1,e1_,()),()))))else(e (.inl (x.1,()))))else none
theorem bIo(d:Nat)(R:Type)(L:Pat.D IA->Option R)(e:Ad Oc Np->Option R)(x:Pat.D IA):
  Bv (cf [] [(93,2,LoopSpec.of IA mT Oc Np w173_2)]) (d+2) 93 (Bu Tryz.f93 2) IA mT Oc Np (R:=R) L e x=YW L e x:=by kernel_rfl
theorem aPv:Bt fun L e x=>YW L e x:=by intro _ _ _ _ _ _ _ h0 hL he _;unfold YW;repeat' (first|exact h0|exact hL _|exact he _|apply BJ|(apply BK h0;intro _)|(apply BL<;>intro _))
def xI(w173_2:Pat.D IA->Option (Ad Oc Np))(a0:Ab Ze):Option (DenS BX):=
 Vx.Bi (w173_2 ((a0,(a0.length:Int),()),())) fun y0=>
 Vx.Bg y0 (fun y1=>
 bif((decide ((0:Int)<=y1.1.2.1))&&(decide (y1.1.2.1<=(y1.1.1.length:Int))))then(some (((y1.1.1.take (ag y1.1.2.1)).drop (ag (0:Int))),()))
 else none) (fun z1=>
 none)
theorem bEU(x:DenS BW):run (cf [] [(93,2,LoopSpec.of IA mT Oc Np w173_2)]) 9 93 Tryz.f93 BW BX x=xI w173_2 x.1:=by kernel_rfl
def qP:IA.D->Option (Ad Oc Np):=Bn fun L=>YW L some
def VF(x:DenS BW):Option (DenS BX):=xI qP x.1
def Am:Sum:=Aj BW BX VF (DenS.dflt BX)
theorem Ep:Sound Tryz.prog G1 93 Am:=sd (cf [] [(93,2,LoopSpec.of IA mT Oc Np qP)]) 93 Tryz.f93 trivial ⟨rfl,fun d=>BI (fun L e x=>YW L e x) (aPv) (fun _ _ _ _=>bIo ..),trivial⟩ BW BX VF _ (fun _=>bEU ..)
abbrev Bz:=Ag BW
abbrev BA:=Af BW BX
variable (p173:Bz)(f173:BA)
abbrev H1:Aa:=[(false,Ze)]
abbrev If:Aa:=[(false,Ze)]
def wZ(p173:Bz)(f173:BA)(a0:Ab Ze):Option (DenS If):=let e1_:=(aq (ag ((f173 (a0,())).1.length:Int)) (0:Int));bif(p173 (a0,()))then(bif((decide ((0:Int)<=((f173 (a0,())).1.length:Int)))&&(decide ((((f173 (a0,())).1.length:Int)*(8:Int))<=(140737488355328:Int))))then(some ((((f173 (a0,())).1.take e1_.length)++(e1_.drop (f173 (a0,())).1.length)),()))else none)else none
theorem bEE(x:DenS H1):run (cf [(93,⟨BW,BX,p173,f173⟩)] []) 9 116 Tryz.f116 H1 If x=wZ p173 f173 x.1:=by kernel_rfl
def cT(x:DenS H1):Option (DenS If):=wZ Am.pre Am.F x.1
def CO:Sum:=Aj H1 If cT (DenS.dflt If)
theorem aAT:Sound Tryz.prog G1 116 CO:=sd (cf [(93,Am)] []) 116 Tryz.f116 ⟨Ep,trivial⟩ trivial H1 If cT _ (fun _=>bEE ..)
abbrev VS:=Ag H1
abbrev V5:=Af H1 If
variable (p146:VS)(f146:V5)
abbrev Fw:Aa:=[(false,Ze)]
abbrev FE:Aa:=[(false,Ze)]
def v9(p146:VS)(f146:V5)(a0:Ab Ze):Option (DenS FE):=bif(p146 (a0,()))then(some (f146 (a0,())))else none
theorem bD5(x:DenS Fw):run (cf [(116,⟨H1,If,p146,f146⟩)] []) 9 122 Tryz.f122 Fw FE x=v9 p146 f146 x.1:=by kernel_rfl
def Xs(x:DenS Fw):Option (DenS FE):=v9 CO.pre CO.F x.1
def Ci:Sum:=Aj Fw FE Xs (DenS.dflt FE)
theorem bD:Sound Tryz.prog G1 122 Ci:=sd (cf [(116,CO)] []) 122 Tryz.f122 ⟨aAT,trivial⟩ trivial Fw FE Xs _ (fun _=>bD5 ..)
abbrev Hr:=Ag Fw
abbrev Hw:=Af Fw FE
variable (p102:Hr)(f102:Hw)
abbrev Gg:Aa:=[(false,Zb)]
abbrev FI:Aa:=[(false,Za)]
def xM(a0:Ab Zb):Option (DenS FI):=let e10_:=(AQ .u64 (AQ .u64 a0 (32:Int)) (16:Int));let e1_:=(aa .u8 (AQ .u64 e10_ (8:Int)));let e2_:=(aa .u8 e10_);let e3_:=(aa .u8 (AQ .u64 (AQ .u64 a0 (32:Int)) (8:Int)));let e4_:=(aa .u8 (AQ .u64 (AQ .u64 a0 (16:Int)) (8:Int)));let e5_:=(aa .u8 (AQ .u64 a0 (32:Int)));let e6_:=(aa .u8 (AQ .u64 a0 (16:Int)));let e7_:=(aa .u8 (AQ .u64 a0 (8:Int)));let e8_:=(aa .i64 ((32:Int)+(16:Int)));let e9_:=(aa .i64 ((0:Int)+(16:Int)));bif(decide (a0>=(4294967296:Int)))then(bif(decide ((AQ .u64 a0 (32:Int))>=(65536:Int)))then(bif(decide (e10_>=(256:Int)))then(bif((decide ((0:Int)<=e1_))&&(decide (e1_<(256:Int))))then(some ((aa .i64 ((aa .i64 (e8_+(8:Int)))+(aa .i64 ((UInt8.toNat (Vx.Jn.getD (ag e1_) (0:UInt8))):Int)))),()))else none)else bif((decide ((0:Int)<=e2_))&&(decide (e2_<(256:Int))))then(some ((aa .i64 (e8_+(aa .i64 ((UInt8.toNat (Vx.Jn.getD (ag e2_) (0:UInt8))):Int)))),()))else none)else bif(decide ((AQ .u64 a0 (32:Int))>=(256:Int)))then(bif((decide ((0:Int)<=e3_))&&(decide (e3_<(256:Int))))then(some ((aa .i64 ((aa .i64 ((32:Int)+(8:Int)))+(aa .i64 ((UInt8.toNat (Vx.Jn.getD (ag e3_) (0:UInt8))):Int)))),()))else none)else bif((decide ((0:Int)<=e5_))&&(decide (e5_<(256:Int))))then(some ((aa .i64 ((32:Int)+(aa .i64 ((UInt8.toNat (Vx.Jn.getD (ag e5_) (0:UInt8))):Int)))),()))else none)else bif(decide (a0>=(65536:Int)))then(bif(decide ((AQ .u64 a0 (16:Int))>=(256:Int)))then(bif((decide ((0:Int)<=e4_))&&(decide (e4_<(256:Int))))then(some ((aa .i64 ((aa .i64 (e9_+(8:Int)))+(aa .i64 ((UInt8.toNat (Vx.Jn.getD (ag e4_) (0:UInt8))):Int)))),()))else none)else bif((decide ((0:Int)<=e6_))&&(decide (e6_<(256:Int))))then(some ((aa .i64 (e9_+(aa .i64 ((UInt8.toNat (Vx.Jn.getD (ag e6_) (0:UInt8))):Int)))),()))else none)else bif(decide (a0>=(256:Int)))then(bif((decide ((0:Int)<=e7_))&&(decide (e7_<(256:Int))))then(some ((aa .i64 ((aa .i64 ((0:Int)+(8:Int)))+(aa .i64 ((UInt8.toNat (Vx.Jn.getD (ag e7_) (0:UInt8))):Int)))),()))else none)else bif((decide ((0:Int)<=(aa .u8 a0)))&&(decide ((aa .u8 a0)<(256:Int))))then(some ((aa .i64 ((0:Int)+(aa .i64 ((UInt8.toNat (Vx.Jn.getD (ag (aa .u8 a0)) (0:UInt8))):Int)))),()))else none
theorem bEZ(x:DenS Gg):run (cf [] []) 9 115 Tryz.f115 Gg FI x=xM x.1:=by kernel_rfl
def dD(x:DenS Gg):Option (DenS FI):=xM x.1
def CB:Sum:=Aj Gg FI dD (DenS.dflt FI)
theorem bF:Sound Tryz.prog G1 115 CB:=sd (cf [] []) 115 Tryz.f115 trivial trivial Gg FI dD _ (fun _=>bEZ ..)
abbrev I2:=Ag Gg
abbrev I6:=Af Gg FI
variable (p178:I2)(f178:I6)
abbrev Gf:Aa:=[(false,Ze)]
abbrev Gm:Aa:=[(false,Za)]
def w9(p173:Bz)(f173:BA)(p178:I2)(f178:I6)(a0:Ab Ze):Option (DenS Gm):=let e3_:=(aa .i64 (((f173 (a0,())).1.length:Int)-(1:Int)));let e1_:=(((f173 (a0,())).1.getD (ag e3_) (0:Int)),());let e2_:=e3_;bif(p173 (a0,()))then(bif(((f173 (a0,())).1.length:Int)==(0:Int))then(some ((0:Int),()))else bif((decide ((0:Int)<=e2_))&&(decide (e2_<((f173 (a0,())).1.length:Int))))then(bif(p178 e1_)then(some ((aa .i64 ((aa .i64 ((64:Int)*e2_))+(f178 e1_).1)),()))else none)else none)else none
theorem bEJ(x:DenS Gf):run (cf [(93,⟨BW,BX,p173,f173⟩),(115,⟨Gg,FI,p178,f178⟩)] []) 9 98 Tryz.f98 Gf Gm x=w9 p173 f173 p178 f178 x.1:=by kernel_rfl
def Xx(x:DenS Gf):Option (DenS Gm):=w9 Am.pre Am.F CB.pre CB.F x.1
def Cj:Sum:=Aj Gf Gm Xx (DenS.dflt Gm)
theorem bE:Sound Tryz.prog G1 98 Cj:=sd (cf [(93,Am),(115,CB)] []) 98 Tryz.f98 ⟨Ep,bF,trivial⟩ trivial Gf Gm Xx _ (fun _=>bEJ ..)
abbrev Li:=Ag Gf
abbrev Ll:=Af Gf Gm
variable (p151:Li)(f151:Ll)
abbrev L9:Aa:=[(false,Za),(false,.bool)]
abbrev MF:Aa:=[(false,Zb),(false,Za),(false,Za)]
def xB(p118:I0)(f118:I4)(a0:Ab Za)(a1:Ab (.bool)):Option (DenS MF):=bif(p118 (a0,a1,()))then(some ((f118 (a0,a1,())).1,(0:Int),(f118 (a0,a1,())).2))else none
theorem bEM(x:DenS L9):run (cf [(64,⟨Fg,FF,p118,f118⟩)] []) 9 123 Tryz.f123 L9 MF x=xB p118 f118 x.1 x.2.1:=by kernel_rfl
def cY(x:DenS L9):Option (DenS MF):=xB B4.pre B4.F x.1 x.2.1
def IW:Sum:=Aj L9 MF cY (DenS.dflt MF)
theorem aGD:Sound Tryz.prog G1 123 IW:=sd (cf [(64,B4)] []) 123 Tryz.f123 ⟨Xj,trivial⟩ trivial L9 MF cY _ (fun _=>bEM ..)
abbrev rJ:=Ag L9
abbrev r8:=Af L9 MF
variable (p156:rJ)(f156:r8)
abbrev PA:Aa:=[(true,Zu)]
abbrev RE:Aa:=[(false,Za)]
def w6(p151:Li)(f151:Ll)(a0:Ab Zu):Option (DenS RE):=bif(p151 (a0.2.1,()))then(some ((aa .i64 ((aa .i64 (a0.2.2.1+(f151 (a0.2.1,())).1))-(1:Int))),()))else none
theorem bEG(x:DenS PA):run (cf [(98,⟨Gf,Gm,p151,f151⟩)] []) 9 140 Tryz.f140 PA RE x=w6 p151 f151 x.1:=by kernel_rfl
def cV(x:DenS PA):Option (DenS RE):=w6 Cj.pre Cj.F x.1
def Xl:Sum:=Aj PA RE cV (DenS.dflt RE)
theorem aUw:Sound Tryz.prog G1 140 Xl:=sd (cf [(98,Cj)] []) 140 Tryz.f140 ⟨bE,trivial⟩ trivial PA RE cV _ (fun _=>bEG ..)
abbrev aJK:=Ag PA
abbrev aLj:=Af PA RE
variable (p148:aJK)(f148:aLj)
abbrev HT:Aa:=[(true,Ze)]
abbrev H7:Aa:=[(true,Ze)]
abbrev Im:Pat:=⟨21,[(0,.one (.own 0)),(3,.one (.v .i64))],[.arr Zb]⟩
abbrev mD:List (Nat×Shape):=[]
abbrev NW:List (Nat×Pat):=[(0,⟨21,[(0,.one (.own 0)),(3,.one (.v .i64))],[.arr Zb]⟩)]
abbrev M9:Option Pat:=none
variable (w1173_2:Pat.D Im->Option (Ad NW M9))
def YI{R:Type}(L:Pat.D Im->Option R)(e:Ad NW M9->Option R)(x:Pat.D Im):Option R:=let e1_:=(aa .i64 (x.1.2.1-(1:Int)));bif(((decide ((0:Int)<=e1_))&&(decide (e1_<(x.2.1.length:Int))))||(!(decide (x.1.2.1>(0:Int)))))then(bif((decide (x.1.2.1>(0:Int)))&&((x.2.1.getD (ag e1_) (0:Int))==(0:Int)))then(((L (((),e1_,()),x.2))))else(e (.inl (((),x.1.2),x.2))))else none
theorem bH9(d:Nat)(R:Type)(L:Pat.D Im->Option R)(e:Ad NW M9->Option R)(x:Pat.D Im):
  Bv ({cf [] [(93,2,LoopSpec.of Im mD NW M9 w1173_2)]with keep:=true}) (d+2) 93 (Bu Tryz.f93 2) Im mD NW M9 (R:=R) L e x=YI L e x:=by kernel_rfl
theorem aPh:Bt fun L e x=>YI L e x:=by intro _ _ _ _ _ _ _ h0 hL he _;unfold YI;repeat' (first|exact h0|exact hL _|exact he _|apply BJ|(apply BK h0;intro _)|(apply BL<;>intro _))
def wG(w1173_2:Pat.D Im->Option (Ad NW M9))(a0:Ab Ze):Option (DenS H7):=
 Vx.Bi (w1173_2 (((),(a0.length:Int),()),a0,())) fun y0=>
 Vx.Bg y0 (fun y1=>
 bif((decide ((0:Int)<=y1.1.2.1))&&(decide (y1.1.2.1<=(y1.2.1.length:Int))))then(some ((y1.2.1.take (ag y1.1.2.1)),()))
 else none) (fun z1=>
 none)
theorem bEh(x:DenS HT):run ({cf [] [(93,2,LoopSpec.of Im mD NW M9 w1173_2)]with keep:=true}) 9 93 Tryz.f93 HT H7 x=wG w1173_2 x.1:=by kernel_rfl
def qE:Im.D->Option (Ad NW M9):=Bn fun L=>YI L some
def cE(x:DenS HT):Option (DenS H7):=wG qE x.1
def Cg:Sum:=Aj HT H7 cE (DenS.dflt H7)
theorem aGw:Sound Tryz.prog G1 93 Cg:=sd ({cf [] [(93,2,LoopSpec.of Im mD NW M9 qE)]with keep:=true}) 93 Tryz.f93 trivial ⟨rfl,fun d=>BI (fun L e x=>YI L e x) (aPh) (fun _ _ _ _=>bH9 ..),trivial⟩ HT H7 cE _ (fun _=>bEh ..)
abbrev UE:=Ag HT
abbrev UH:=Af HT H7
variable (p1173:UE)(f1173:UH)
abbrev Pu:Aa:=[(false,Ze),(false,Za)]
abbrev Ry:Aa:=[(true,Ze)]
abbrev Il:Pat:=⟨66,[(25,.one (.v .i64)),(0,.one (.sl Zb)),(5,.one (.v .i64)),(6,.one (.v .i64)),(26,.one (.v .i64)),(7,.one (.own 0))],[.arr Zb]⟩
abbrev mC:List (Nat×Shape):=[]
abbrev NV:List (Nat×Pat):=[(0,⟨66,[(7,.one (.own 0))],[.arr Zb]⟩)]
abbrev M8:Option Pat:=none
variable (w1171_7:Pat.D Il->Option (Ad NV M8))
def YH(p1173:UE)(f1173:UH)(p173:Bz)(f173:BA){R:Type}(L:Pat.D Il->Option R)(e:Ad NV M8->Option R)(x:Pat.D Il):Option R:=let e10_:=(aa .i64 (x.1.2.2.1+x.1.2.2.2.2.1));let e8_:=(x.2.1.set (ag x.1.2.2.2.2.1) (AQ .u64 (x.1.2.1.getD (ag e10_) (0:Int)) x.1.2.2.2.1));let e1_:=((decide ((0:Int)<=x.1.2.2.2.2.1))&&(decide (x.1.2.2.2.2.1<(e8_.length:Int))));let e2_:=e8_;let e9_:=(aa .i64 (e10_+(1:Int)));let e3_:=(decide (e9_<(x.1.2.1.length:Int)));let e4_:=(x.1.1,x.1.2.1,x.1.2.2.1,x.1.2.2.2.1,(aa .i64 (x.1.2.2.2.2.1+(1:Int))),(),());let e5_:=e9_;let e6_:=e10_;let e7_:=(aa .i64 ((64:Int)-x.1.2.2.2.1));bif(decide (x.1.2.2.2.2.1<x.1.1))then(bif((decide ((0:Int)<=e6_))&&(decide (e6_<(x.1.2.1.length:Int))))then(bif(decide ((0:Int)<=x.1.2.2.2.1))then(bif((decide ((0:Int)<=x.1.2.2.2.2.1))&&(decide (x.1.2.2.2.2.1<(x.2.1.length:Int))))then(bif e3_ then(bif e1_ then(bif((decide ((0:Int)<=e5_))&&e3_)then(bif(decide ((0:Int)<=e7_))then(bif e1_ then(((L (e4_,(e2_.set (ag x.1.2.2.2.2.1) (Ak .u64 (e2_.getD (ag x.1.2.2.2.2.1) (0:Int)) (Bj .u64 (x.1.2.1.getD (ag e5_) (0:Int)) e7_))),()))))else none)else none)else none)else none)else(L (e4_,e2_,())))else none)else none)else none)else(e (.inl (((),()),x.2)))
theorem bH8(d:Nat)(R:Type)(L:Pat.D Il->Option R)(e:Ad NV M8->Option R)(x:Pat.D Il):
  Bv ({cf [(93,⟨HT,H7,p1173,f1173⟩),(93,⟨BW,BX,p173,f173⟩)] [(100,7,LoopSpec.of Il mC NV M8 w1171_7)]with keep:=true}) (d+2) 100 (Bu Tryz.f100 7) Il mC NV M8 (R:=R) L e x=YH p1173 f1173 p173 f173 L e x:=by kernel_rfl
theorem aPg(p1173:UE)(f1173:UH)(p173:Bz)(f173:BA):Bt fun L e x=>YH p1173 f1173 p173 f173 L e x:=by intro _ _ _ _ _ _ _ h0 hL he _;unfold YH;repeat' (first|exact h0|exact hL _|exact he _|apply BJ|(apply BK h0;intro _)|(apply BL<;>intro _))
def wF(p1173:UE)(f1173:UH)(p173:Bz)(f173:BA)(w1171_7:Pat.D Il->Option (Ad NV M8))(a0:Ab Ze)(a1:Ab Za):Option (DenS Ry):=
 let e3_:=(aa .i64 (((f173 (a0,())).1.length:Int)-(Bl .i64 a1 (64:Int))))
 let e1_:=(aq (ag e3_) (0:Int))
 let e2_:=e3_
 bif(p173 (a0,()))then(bif(decide ((Bl .i64 a1 (64:Int))>=((f173 (a0,())).1.length:Int)))then(some ([],()))
 else bif((decide ((0:Int)<=e2_))&&(decide ((e2_*(8:Int))<=(140737488355328:Int))))then(Vx.Bi (w1171_7 (((e1_.length:Int),(f173 (a0,())).1,(Bl .i64 a1 (64:Int)),(gm a1 (64:Int)),(0:Int),(),()),e1_,())) fun y3=>
 Vx.Bg y3 (fun y4=>
 bif(p1173 y4.2)then(some (f1173 y4.2))
 else none) (fun z4=>
 none))
 else none)
 else none
theorem bEg(x:DenS Pu):run ({cf [(93,⟨HT,H7,p1173,f1173⟩),(93,⟨BW,BX,p173,f173⟩)] [(100,7,LoopSpec.of Il mC NV M8 w1171_7)]with keep:=true}) 9 100 Tryz.f100 Pu Ry x=wF p1173 f1173 p173 f173 w1171_7 x.1 x.2.1:=by kernel_rfl
def qD:Il.D->Option (Ad NV M8):=Bn fun L=>YH Cg.pre Cg.F Am.pre Am.F L some
def cD(x:DenS Pu):Option (DenS Ry):=wF Cg.pre Cg.F Am.pre Am.F qD x.1 x.2.1
def Tz:Sum:=Aj Pu Ry cD (DenS.dflt Ry)
theorem aUm:Sound Tryz.prog G1 100 Tz:=sd ({cf [(93,Cg),(93,Am)] [(100,7,LoopSpec.of Il mC NV M8 qD)]with keep:=true}) 100 Tryz.f100 ⟨aGw,Ep,trivial⟩ ⟨rfl,fun d=>BI (fun L e x=>YH Cg.pre Cg.F Am.pre Am.F L e x) (aPg Cg.pre Cg.F Am.pre Am.F) (fun _ _ _ _=>bH8 ..),trivial⟩ Pu Ry cD _ (fun _=>bEg ..)
abbrev aJE:=Ag Pu
abbrev aLd:=Af Pu Ry
variable (p1171:aJE)(f1171:aLd)
abbrev H2:Aa:=[(false,Ze),(false,Za)]
abbrev Ig:Aa:=[(false,Ze)]
abbrev Iy:Pat:=⟨66,[(25,.one (.v .i64)),(0,.one (.sl Zb)),(5,.one (.v .i64)),(6,.one (.v .i64)),(26,.one (.v .i64)),(7,.one (.own 0))],[.arr Zb]⟩
abbrev mR:List (Nat×Shape):=[]
abbrev Oa:List (Nat×Pat):=[(0,⟨66,[(7,.one (.own 0))],[.arr Zb]⟩)]
abbrev Nn:Option Pat:=none
variable (w171_7:Pat.D Iy->Option (Ad Oa Nn))
def YV(p173:Bz)(f173:BA){R:Type}(L:Pat.D Iy->Option R)(e:Ad Oa Nn->Option R)(x:Pat.D Iy):Option R:=let e10_:=(aa .i64 (x.1.2.2.1+x.1.2.2.2.2.1));let e8_:=(x.2.1.set (ag x.1.2.2.2.2.1) (AQ .u64 (x.1.2.1.getD (ag e10_) (0:Int)) x.1.2.2.2.1));let e1_:=((decide ((0:Int)<=x.1.2.2.2.2.1))&&(decide (x.1.2.2.2.2.1<(e8_.length:Int))));let e2_:=e8_;let e9_:=(aa .i64 (e10_+(1:Int)));let e3_:=(decide (e9_<(x.1.2.1.length:Int)));let e4_:=(x.1.1,x.1.2.1,x.1.2.2.1,x.1.2.2.2.1,(aa .i64 (x.1.2.2.2.2.1+(1:Int))),(),());let e5_:=e9_;let e6_:=e10_;let e7_:=(aa .i64 ((64:Int)-x.1.2.2.2.1));bif(decide (x.1.2.2.2.2.1<x.1.1))then(bif((decide ((0:Int)<=e6_))&&(decide (e6_<(x.1.2.1.length:Int))))then(bif(decide ((0:Int)<=x.1.2.2.2.1))then(bif((decide ((0:Int)<=x.1.2.2.2.2.1))&&(decide (x.1.2.2.2.2.1<(x.2.1.length:Int))))then(bif e3_ then(bif e1_ then(bif((decide ((0:Int)<=e5_))&&e3_)then(bif(decide ((0:Int)<=e7_))then(bif e1_ then(((L (e4_,(e2_.set (ag x.1.2.2.2.2.1) (Ak .u64 (e2_.getD (ag x.1.2.2.2.2.1) (0:Int)) (Bj .u64 (x.1.2.1.getD (ag e5_) (0:Int)) e7_))),()))))else none)else none)else none)else none)else(L (e4_,e2_,())))else none)else none)else none)else(e (.inl (((),()),x.2)))
theorem bIm(d:Nat)(R:Type)(L:Pat.D Iy->Option R)(e:Ad Oa Nn->Option R)(x:Pat.D Iy):
  Bv (cf [(93,⟨BW,BX,p173,f173⟩)] [(100,7,LoopSpec.of Iy mR Oa Nn w171_7)]) (d+2) 100 (Bu Tryz.f100 7) Iy mR Oa Nn (R:=R) L e x=YV p173 f173 L e x:=by kernel_rfl
theorem aPu(p173:Bz)(f173:BA):Bt fun L e x=>YV p173 f173 L e x:=by intro _ _ _ _ _ _ _ h0 hL he _;unfold YV;repeat' (first|exact h0|exact hL _|exact he _|apply BJ|(apply BK h0;intro _)|(apply BL<;>intro _))
def xH(p173:Bz)(f173:BA)(w171_7:Pat.D Iy->Option (Ad Oa Nn))(a0:Ab Ze)(a1:Ab Za):Option (DenS Ig):=
 let e3_:=(aa .i64 (((f173 (a0,())).1.length:Int)-(Bl .i64 a1 (64:Int))))
 let e1_:=(aq (ag e3_) (0:Int))
 let e2_:=e3_
 bif(p173 (a0,()))then(bif(decide ((Bl .i64 a1 (64:Int))>=((f173 (a0,())).1.length:Int)))then(some ([],()))
 else bif((decide ((0:Int)<=e2_))&&(decide ((e2_*(8:Int))<=(140737488355328:Int))))then(Vx.Bi (w171_7 (((e1_.length:Int),(f173 (a0,())).1,(Bl .i64 a1 (64:Int)),(gm a1 (64:Int)),(0:Int),(),()),e1_,())) fun y3=>
 Vx.Bg y3 (fun y4=>
 bif(p173 y4.2)then(some (f173 y4.2))
 else none) (fun z4=>
 none))
 else none)
 else none
theorem bES(x:DenS H2):run (cf [(93,⟨BW,BX,p173,f173⟩)] [(100,7,LoopSpec.of Iy mR Oa Nn w171_7)]) 9 100 Tryz.f100 H2 Ig x=xH p173 f173 w171_7 x.1 x.2.1:=by kernel_rfl
def qO:Iy.D->Option (Ad Oa Nn):=Bn fun L=>YV Am.pre Am.F L some
def XA(x:DenS H2):Option (DenS Ig):=xH Am.pre Am.F qO x.1 x.2.1
def CP:Sum:=Aj H2 Ig XA (DenS.dflt Ig)
theorem aAU:Sound Tryz.prog G1 100 CP:=sd (cf [(93,Am)] [(100,7,LoopSpec.of Iy mR Oa Nn qO)]) 100 Tryz.f100 ⟨Ep,trivial⟩ ⟨rfl,fun d=>BI (fun L e x=>YV Am.pre Am.F L e x) (aPu Am.pre Am.F) (fun _ _ _ _=>bIm ..),trivial⟩ H2 Ig XA _ (fun _=>bES ..)
abbrev UF:=Ag H2
abbrev UI:=Af H2 Ig
variable (p171:UF)(f171:UI)
abbrev GZ:Aa:=[(false,Zb)]
abbrev Hf:Aa:=[(false,Za)]
def t92(a0:Ab Zb):Option (DenS Hf):=let e1_:=(AQ .u64 (aa .u64 ((BS .u64 a0 (aa .u64 ((0:Int)-a0)))*(285870213051353865:Int))) (58:Int));bif(a0==(0:Int))then(some ((64:Int),()))else bif(Vx.aFD ((decide ((0:Int)<=e1_))&&(decide (e1_<((64:Nat):Int)))))then(some ((aa .i64 (Vx.k_deb.getD (ag e1_) (0:Int))),()))else none
theorem r92(x:DenS GZ):run (cf [] []) 9 191 Tryz.f191 GZ Hf x=t92 x.1:=by kernel_rfl
def gD(x:DenS GZ):Option (DenS Hf):=t92 x.1
def Cu:Sum:=Aj GZ Hf gD (DenS.dflt Hf)
theorem aBg:Sound Tryz.prog G1 191 Cu:=sd (cf [] []) 191 Tryz.f191 trivial trivial GZ Hf gD _ (fun _=>r92 ..)
abbrev Lj:=Ag GZ
abbrev Lm:=Af GZ Hf
variable (p92:Lj)(f92:Lm)
abbrev PO:Aa:=[(false,Ze),(false,Za)]
abbrev RS:Aa:=[(false,.bool)]
abbrev ID:Pat:=⟨25,[(9,.one (.v .i64)),(8,.one (.sl Zb)),(1,.one (.v .i64)),(10,.one (.v .i64))],[]⟩
abbrev mW:List (Nat×Shape):=[]
abbrev Of:List (Nat×Pat):=[(0,⟨25,[],[]⟩)]
abbrev Ns:Option Pat:=(some ⟨25,[(4,.one (.bool))],[]⟩)
variable (w184_2:Pat.D ID->Option (Ad Of Ns))
def YY(p173:Bz)(f173:BA)(p92:Lj)(f92:Lm){R:Type}(L:Pat.D ID->Option R)(e:Ad Of Ns->Option R)(x:Pat.D ID):Option R:=let e2_:=(x.1.2.1.getD (ag x.1.2.2.2.1) (0:Int));let e1_:=(e2_,());bif(decide (x.1.2.2.2.1<x.1.1))then(bif((decide ((0:Int)<=x.1.2.2.2.1))&&(decide (x.1.2.2.2.1<(x.1.2.1.length:Int))))then(bif(e2_ !=(0:Int))then(bif(p92 e1_)then(((e (.inr (((decide ((aa .i64 ((aa .i64 ((64:Int)*x.1.2.2.2.1))+(f92 e1_).1))>=x.1.2.2.1)),()),())))))else none)else(L ((x.1.1,x.1.2.1,x.1.2.2.1,(aa .i64 (x.1.2.2.2.1+(1:Int))),()),())))else none)else(e (.inl ((),())))
theorem bIr(d:Nat)(R:Type)(L:Pat.D ID->Option R)(e:Ad Of Ns->Option R)(x:Pat.D ID):
  Bv (cf [(93,⟨BW,BX,p173,f173⟩),(191,⟨GZ,Hf,p92,f92⟩)] [(156,2,LoopSpec.of ID mW Of Ns w184_2)]) (d+2) 156 (Bu Tryz.f156 2) ID mW Of Ns (R:=R) L e x=YY p173 f173 p92 f92 L e x:=by kernel_rfl
theorem aPx(p173:Bz)(f173:BA)(p92:Lj)(f92:Lm):Bt fun L e x=>YY p173 f173 p92 f92 L e x:=by intro _ _ _ _ _ _ _ h0 hL he _;unfold YY;repeat' (first|exact h0|exact hL _|exact he _|apply BJ|(apply BK h0;intro _)|(apply BL<;>intro _))
def xO(p173:Bz)(f173:BA)(p92:Lj)(f92:Lm)(w184_2:Pat.D ID->Option (Ad Of Ns))(a0:Ab Ze)(a1:Ab Za):Option (DenS RS):=
 bif(p173 (a0,()))then(Vx.Bi (w184_2 ((((f173 (a0,())).1.length:Int),(f173 (a0,())).1,a1,(0:Int),()),())) fun y1=>
 Vx.Bg y1 (fun y2=>
 some (true,())) (fun z2=>
 some z2.1))
 else none
theorem bE2(x:DenS PO):run (cf [(93,⟨BW,BX,p173,f173⟩),(191,⟨GZ,Hf,p92,f92⟩)] [(156,2,LoopSpec.of ID mW Of Ns w184_2)]) 9 156 Tryz.f156 PO RS x=xO p173 f173 p92 f92 w184_2 x.1 x.2.1:=by kernel_rfl
def qR:ID.D->Option (Ad Of Ns):=Bn fun L=>YY Am.pre Am.F Cu.pre Cu.F L some
def dF(x:DenS PO):Option (DenS RS):=xO Am.pre Am.F Cu.pre Cu.F qR x.1 x.2.1
def TI:Sum:=Aj PO RS dF (DenS.dflt RS)
theorem aUJ:Sound Tryz.prog G1 156 TI:=sd (cf [(93,Am),(191,Cu)] [(156,2,LoopSpec.of ID mW Of Ns qR)]) 156 Tryz.f156 ⟨Ep,aBg,trivial⟩ ⟨rfl,fun d=>BI (fun L e x=>YY Am.pre Am.F Cu.pre Cu.F L e x) (aPx Am.pre Am.F Cu.pre Cu.F) (fun _ _ _ _=>bIr ..),trivial⟩ PO RS dF _ (fun _=>bE2 ..)
abbrev aJW:=Ag PO
abbrev aLv:=Af PO RS
variable (p184:aJW)(f184:aLv)
abbrev PL:Aa:=[(false,Ze),(false,Za)]
abbrev RP:Aa:=[(false,Ze),(false,Za)]
def xJ(p1171:aJE)(f1171:aLd)(p171:UF)(f171:UI)(p184:aJW)(f184:aLv)(a0:Ab Ze)(a1:Ab Za):Option (DenS RP):=let e1_:=(decide ((0:Int)<((f1171 (a0,a1,())).1.length:Int)));bif(decide (a1<(0:Int)))then(some ([],(7:Int),()))else bif(p1171 (a0,a1,()))then(bif(p184 (a0,a1,()))then(bif(!(f184 (a0,a1,())).1)then(bif(((f1171 (a0,a1,())).1.length:Int)==(0:Int))then(some (((1:Int)::[]),(0:Int),()))else bif e1_ then(bif e1_ then(some (((f1171 (a0,a1,())).1.set (ag (0:Int)) (Ak .u64 ((f1171 (a0,a1,())).1.getD (ag (0:Int)) (0:Int)) (1:Int))),(0:Int),()))else none)else none)else some ((f1171 (a0,a1,())).1,(0:Int),()))else none)else none
theorem bEW(x:DenS PL):run (cf [(100,⟨Pu,Ry,p1171,f1171⟩),(100,⟨H2,Ig,p171,f171⟩),(156,⟨PO,RS,p184,f184⟩)] []) 9 150 Tryz.f150 PL RP x=xJ p1171 f1171 p171 f171 p184 f184 x.1 x.2.1:=by kernel_rfl
def XC(x:DenS PL):Option (DenS RP):=xJ Tz.pre Tz.F CP.pre CP.F TI.pre TI.F x.1 x.2.1
def Xq:Sum:=Aj PL RP XC (DenS.dflt RP)
theorem aUG:Sound Tryz.prog G1 150 Xq:=sd (cf [(100,Tz),(100,CP),(156,TI)] []) 150 Tryz.f150 ⟨aUm,aAU,aUJ,trivial⟩ trivial PL RP XC _ (fun _=>bEW ..)
abbrev aJT:=Ag PL
abbrev aLs:=Af PL RP
variable (p175:aJT)(f175:aLs)
abbrev JV:Aa:=[(false,Ze),(false,Za)]
abbrev Kr:Aa:=[(false,Ze)]
abbrev IF:Pat:=⟨56,[(26,.one (.v .i64)),(25,.one (.sl Zb)),(5,.one (.v .i64)),(6,.one (.v .i64)),(27,.one (.v .i64)),(7,.one (.own 0))],[.arr Zb]⟩
abbrev mY:List (Nat×Shape):=[]
abbrev Oh:List (Nat×Pat):=[(0,⟨56,[(7,.one (.own 0))],[.arr Zb]⟩)]
abbrev Nu:Option Pat:=none
variable (w186_7:Pat.D IF->Option (Ad Oh Nu))
def Y0(p173:Bz)(f173:BA){R:Type}(L:Pat.D IF->Option R)(e:Ad Oh Nu->Option R)(x:Pat.D IF):Option R:=let e6_:=(aa .i64 (x.1.2.2.1+x.1.2.2.2.2.1));let e5_:=(ag e6_);let e7_:=(x.1.2.1.getD (ag x.1.2.2.2.2.1) (0:Int));let e1_:=(x.2.1.set e5_ (Ak .u64 (x.2.1.getD e5_ (0:Int)) (Bj .u64 e7_ x.1.2.2.2.1)));let e2_:=((decide ((0:Int)<=e6_))&&(decide (e6_<(x.2.1.length:Int))));let e3_:=(aa .i64 (e6_+(1:Int)));let e4_:=(aa .i64 ((64:Int)-x.1.2.2.2.1));bif(decide (x.1.2.2.2.2.1<x.1.1))then(bif((decide ((0:Int)<=x.1.2.2.2.2.1))&&(decide (x.1.2.2.2.2.1<(x.1.2.1.length:Int))))then(bif e2_ then(bif(decide ((0:Int)<=x.1.2.2.2.1))then(bif e2_ then(bif(decide ((0:Int)<=e4_))then(bif((decide ((0:Int)<=e3_))&&(decide (e3_<(e1_.length:Int))))then(((L ((x.1.1,x.1.2.1,x.1.2.2.1,x.1.2.2.2.1,(aa .i64 (x.1.2.2.2.2.1+(1:Int))),(),()),(e1_.set (ag e3_) (AQ .u64 e7_ e4_)),()))))else none)else none)else none)else none)else none)else none)else(e (.inl (((),()),x.2)))
theorem bIt(d:Nat)(R:Type)(L:Pat.D IF->Option R)(e:Ad Oh Nu->Option R)(x:Pat.D IF):
  Bv (cf [(93,⟨BW,BX,p173,f173⟩)] [(97,7,LoopSpec.of IF mY Oh Nu w186_7)]) (d+2) 97 (Bu Tryz.f97 7) IF mY Oh Nu (R:=R) L e x=Y0 p173 f173 L e x:=by kernel_rfl
theorem aPz(p173:Bz)(f173:BA):Bt fun L e x=>Y0 p173 f173 L e x:=by intro _ _ _ _ _ _ _ h0 hL he _;unfold Y0;repeat' (first|exact h0|exact hL _|exact he _|apply BJ|(apply BK h0;intro _)|(apply BL<;>intro _))
def xQ(p173:Bz)(f173:BA)(w186_7:Pat.D IF->Option (Ad Oh Nu))(a0:Ab Ze)(a1:Ab Za):Option (DenS Kr):=
 let e1_:=(aa .i64 ((aa .i64 ((Bl .i64 a1 (64:Int))+((f173 (a0,())).1.length:Int)))+(1:Int)))
 bif(p173 (a0,()))then(bif(((f173 (a0,())).1.length:Int)==(0:Int))then(some ([],()))
 else bif((decide ((0:Int)<=e1_))&&(decide ((e1_*(8:Int))<=(140737488355328:Int))))then(Vx.Bi (w186_7 ((((f173 (a0,())).1.length:Int),(f173 (a0,())).1,(Bl .i64 a1 (64:Int)),(gm a1 (64:Int)),(0:Int),(),()),(aq (ag e1_) (0:Int)),())) fun y3=>
 Vx.Bg y3 (fun y4=>
 bif(p173 y4.2)then(some (f173 y4.2))
 else none) (fun z4=>
 none))
 else none)
 else none
theorem bE4(x:DenS JV):run (cf [(93,⟨BW,BX,p173,f173⟩)] [(97,7,LoopSpec.of IF mY Oh Nu w186_7)]) 9 97 Tryz.f97 JV Kr x=xQ p173 f173 w186_7 x.1 x.2.1:=by kernel_rfl
def qT:IF.D->Option (Ad Oh Nu):=Bn fun L=>Y0 Am.pre Am.F L some
def VI(x:DenS JV):Option (DenS Kr):=xQ Am.pre Am.F qT x.1 x.2.1
def DE:Sum:=Aj JV Kr VI (DenS.dflt Kr)
theorem aGG:Sound Tryz.prog G1 97 DE:=sd (cf [(93,Am)] [(97,7,LoopSpec.of IF mY Oh Nu qT)]) 97 Tryz.f97 ⟨Ep,trivial⟩ ⟨rfl,fun d=>BI (fun L e x=>Y0 Am.pre Am.F L e x) (aPz Am.pre Am.F) (fun _ _ _ _=>bIt ..),trivial⟩ JV Kr VI _ (fun _=>bE4 ..)
abbrev VW:=Ag JV
abbrev V8:=Af JV Kr
variable (p186:VW)(f186:V8)
abbrev JU:Aa:=[(false,.slice Ze)]
abbrev Kq:Aa:=[(false,.bool)]
abbrev IE:Pat:=⟨16,[(6,.one (.v .i64)),(5,.one (.sl Ze)),(7,.one (.v .i64))],[]⟩
abbrev mX:List (Nat×Shape):=[]
abbrev Og:List (Nat×Pat):=[(0,⟨16,[],[]⟩)]
abbrev Nt:Option Pat:=(some ⟨16,[(2,.one (.bool))],[]⟩)
variable (w185_2:Pat.D IE->Option (Ad Og Nt))
def YZ(p173:Bz)(f173:BA){R:Type}(L:Pat.D IE->Option R)(e:Ad Og Nt->Option R)(x:Pat.D IE):Option R:=bif(decide (x.1.2.2.1<x.1.1))then(bif((decide ((0:Int)<=x.1.2.2.1))&&(decide (x.1.2.2.1<(x.1.2.1.length:Int))))then(bif(p173 ((x.1.2.1.getD (ag x.1.2.2.1) []),()))then(bif(decide (((f173 ((x.1.2.1.getD (ag x.1.2.2.1) []),())).1.length:Int)>(1024:Int)))then(((e (.inr ((true,()),())))))else(L ((x.1.1,x.1.2.1,(aa .i64 (x.1.2.2.1+(1:Int))),()),())))else none)else none)else(e (.inl ((),())))
theorem bIs(d:Nat)(R:Type)(L:Pat.D IE->Option R)(e:Ad Og Nt->Option R)(x:Pat.D IE):
  Bv (cf [(93,⟨BW,BX,p173,f173⟩)] [(96,2,LoopSpec.of IE mX Og Nt w185_2)]) (d+2) 96 (Bu Tryz.f96 2) IE mX Og Nt (R:=R) L e x=YZ p173 f173 L e x:=by kernel_rfl
theorem aPy(p173:Bz)(f173:BA):Bt fun L e x=>YZ p173 f173 L e x:=by intro _ _ _ _ _ _ _ h0 hL he _;unfold YZ;repeat' (first|exact h0|exact hL _|exact he _|apply BJ|(apply BK h0;intro _)|(apply BL<;>intro _))
def xP(p173:Bz)(f173:BA)(w185_2:Pat.D IE->Option (Ad Og Nt))(a0:Ab (.slice Ze)):Option (DenS Kq):=
 Vx.Bi (w185_2 (((a0.length:Int),a0,(0:Int),()),())) fun y0=>
 Vx.Bg y0 (fun y1=>
 some (false,())) (fun z1=>
 some z1.1)
theorem bE3(x:DenS JU):run (cf [(93,⟨BW,BX,p173,f173⟩)] [(96,2,LoopSpec.of IE mX Og Nt w185_2)]) 9 96 Tryz.f96 JU Kq x=xP p173 f173 w185_2 x.1:=by kernel_rfl
def qS:IE.D->Option (Ad Og Nt):=Bn fun L=>YZ Am.pre Am.F L some
def Uz(x:DenS JU):Option (DenS Kq):=xP Am.pre Am.F qS x.1
def EY:Sum:=Aj JU Kq Uz (DenS.dflt Kq)
theorem aAW:Sound Tryz.prog G1 96 EY:=sd (cf [(93,Am)] [(96,2,LoopSpec.of IE mX Og Nt qS)]) 96 Tryz.f96 ⟨Ep,trivial⟩ ⟨rfl,fun d=>BI (fun L e x=>YZ Am.pre Am.F L e x) (aPy Am.pre Am.F) (fun _ _ _ _=>bIs ..),trivial⟩ JU Kq Uz _ (fun _=>bE3 ..)
abbrev VU:=Ag JU
abbrev V7:=Af JU Kq
variable (p185:VU)(f185:V7)
abbrev JS:Aa:=[(false,Ze),(false,Za)]
abbrev Ko:Aa:=[(false,Ze),(false,Za)]
def xK(p186:VW)(f186:V8)(p185:VU)(f185:V7)(a0:Ab Ze)(a1:Ab Za):Option (DenS Ko):=bif((decide (a1<(0:Int)))||(decide (a1>(65536:Int))))then(some ([],(7:Int),()))else bif(p185 ((a0::[]),()))then(bif(f185 ((a0::[]),())).1 then(some ([],(5:Int),()))else bif(p186 (a0,a1,()))then(bif(p185 (((f186 (a0,a1,())).1::[]),()))then(bif(f185 (((f186 (a0,a1,())).1::[]),())).1 then(some ([],(5:Int),()))else some ((f186 (a0,a1,())).1,(0:Int),()))else none)else none)else none
theorem bEX(x:DenS JS):run (cf [(97,⟨JV,Kr,p186,f186⟩),(96,⟨JU,Kq,p185,f185⟩)] []) 9 67 Tryz.f67 JS Ko x=xK p186 f186 p185 f185 x.1 x.2.1:=by kernel_rfl
def VG(x:DenS JS):Option (DenS Ko):=xK DE.pre DE.F EY.pre EY.F x.1 x.2.1
def D6:Sum:=Aj JS Ko VG (DenS.dflt Ko)
theorem aGF:Sound Tryz.prog G1 67 D6:=sd (cf [(97,DE),(96,EY)] []) 67 Tryz.f67 ⟨aGG,aAW,trivial⟩ trivial JS Ko VG _ (fun _=>bEX ..)
abbrev VT:=Ag JS
abbrev V6:=Af JS Ko
variable (p176:VT)(f176:V6)
abbrev JP:Aa:=[(false,Ze),(false,Za)]
abbrev Kl:Aa:=[(false,Ze),(false,Za)]
def wV(p171:UF)(f171:UI)(a0:Ab Ze)(a1:Ab Za):Option (DenS Kl):=bif(decide (a1<(0:Int)))then(some ([],(7:Int),()))else bif(p171 (a0,a1,()))then(some ((f171 (a0,a1,())).1,(0:Int),()))else none
theorem bEz(x:DenS JP):run (cf [(100,⟨H2,Ig,p171,f171⟩)] []) 9 103 Tryz.f103 JP Kl x=wV p171 f171 x.1 x.2.1:=by kernel_rfl
def Uy(x:DenS JP):Option (DenS Kl):=wV CP.pre CP.F x.1 x.2.1
def Fo:Sum:=Aj JP Kl Uy (DenS.dflt Kl)
theorem aGA:Sound Tryz.prog G1 103 Fo:=sd (cf [(100,CP)] []) 103 Tryz.f103 ⟨aAU,trivial⟩ trivial JP Kl Uy _ (fun _=>bEz ..)
abbrev VR:=Ag JP
abbrev V4:=Af JP Kl
variable (p141:VR)(f141:V4)
abbrev PM:Aa:=[(false,Za),(false,.bool),(false,.bool),(false,Zb)]
abbrev RQ:Aa:=[(false,.bool)]
def xL(a0:Ab Za)(a1 a2:Ab (.bool))(a3:Ab Zb):Option (DenS RQ):=bif(a0==(4:Int))then(some ((!(!a1)),()))else bif(a0==(3:Int))then(some ((!a1),()))else bif(a0==(0:Int))then(bif(a3==(2:Int))then(some (a2,()))else some ((decide (a3>=(2:Int))),()))else bif(a0==(1:Int))then(some ((decide (a3>=(2:Int))),()))else bif(a0==(5:Int))then(some ((!a2),()))else some (false,())
theorem bEY(x:DenS PM):run (cf [] []) 9 151 Tryz.f151 PM RQ x=xL x.1 x.2.1 x.2.2.1 x.2.2.2.1:=by kernel_rfl
def VH(x:DenS PM):Option (DenS RQ):=xL x.1 x.2.1 x.2.2.1 x.2.2.2.1
def Xr:Sum:=Aj PM RQ VH (DenS.dflt RQ)
theorem aUH:Sound Tryz.prog G1 151 Xr:=sd (cf [] []) 151 Tryz.f151 trivial trivial PM RQ VH _ (fun _=>bEY ..)
abbrev aJU:=Ag PM
abbrev aLt:=Af PM RQ
variable (p177:aJU)(f177:aLt)
abbrev H0:Aa:=[(false,Ze),(false,Ze)]
abbrev Ha:Aa:=[(false,Ze)]
abbrev It:Pat:=⟨61,[(28,.one (.v .i64)),(1,.one (.sl Zb)),(29,.one (.v .i64)),(0,.one (.sl Zb)),(6,.one (.v .u64)),(5,.one (.own 0))],[.arr Zb]⟩
abbrev mM:List (Nat×Shape):=[]
abbrev N5:List (Nat×Pat):=[(0,⟨61,[(0,.one (.sl Zb)),(6,.one (.v .u64)),(5,.one (.own 0))],[.arr Zb]⟩)]
abbrev Ni:Option Pat:=none
variable (w143_8:Pat.D It->Option (Ad N5 Ni))
def YQ(p155:Dg)(f155:Di)(p173:Bz)(f173:BA){R:Type}(L:Pat.D It->Option R)(e:Ad N5 Ni->Option R)(x:Pat.D It):Option R:=let e8_:=(x.1.2.2.2.1.getD (ag x.1.2.2.1) (0:Int));let e7_:=((x.1.2.1.getD (ag x.1.2.2.1) (0:Int)),x.1.2.2.2.2.1,());let e1_:=(f155 (e8_,e7_));let e2_:=(f155 (e8_,(0:Int),x.1.2.2.2.2.1,()));let e3_:=((decide ((0:Int)<=x.1.2.2.1))&&(decide (x.1.2.2.1<(x.1.2.2.2.1.length:Int))));let e4_:=((decide ((0:Int)<=x.1.2.2.1))&&(decide (x.1.2.2.1<(x.2.1.length:Int))));let e5_:=(aa .i64 (x.1.2.2.1+(1:Int)));let e6_:=e8_;bif(decide (x.1.2.2.1<x.1.1))then(bif(decide (x.1.2.2.1<(x.1.2.1.length:Int)))then(bif((decide ((0:Int)<=x.1.2.2.1))&&(decide (x.1.2.2.1<(x.1.2.1.length:Int))))then(bif e3_ then(bif(p155 (e6_,e7_))then(bif e4_ then(((L ((x.1.1,x.1.2.1,e5_,x.1.2.2.2.1,e1_.2.1,(),()),(x.2.1.set (ag x.1.2.2.1) e1_.1),()))))else none)else none)else none)else none)else bif e3_ then(bif(p155 (e6_,(0:Int),x.1.2.2.2.2.1,()))then(bif e4_ then(((L ((x.1.1,x.1.2.1,e5_,x.1.2.2.2.1,e2_.2.1,(),()),(x.2.1.set (ag x.1.2.2.1) e2_.1),()))))else none)else none)else none)else(e (.inl ((x.1.2.2.2.1,x.1.2.2.2.2.1,(),()),x.2)))
theorem bIh(d:Nat)(R:Type)(L:Pat.D It->Option R)(e:Ad N5 Ni->Option R)(x:Pat.D It):
  Bv (cf [(94,⟨Fi,FH,p155,f155⟩),(93,⟨BW,BX,p173,f173⟩)] [(65,8,LoopSpec.of It mM N5 Ni w143_8)]) (d+2) 65 (Bu Tryz.f65 8) It mM N5 Ni (R:=R) L e x=YQ p155 f155 p173 f173 L e x:=by kernel_rfl
theorem aPp(p155:Dg)(f155:Di)(p173:Bz)(f173:BA):Bt fun L e x=>YQ p155 f155 p173 f173 L e x:=by intro _ _ _ _ _ _ _ h0 hL he _;unfold YQ;repeat' (first|exact h0|exact hL _|exact he _|apply BJ|(apply BK h0;intro _)|(apply BL<;>intro _))
def wW(p155:Dg)(f155:Di)(p173:Bz)(f173:BA)(w143_8:Pat.D It->Option (Ad N5 Ni))(a0 a1:Ab Ze):Option (DenS Ha):=
 let e5_:=(aa .i64 (((f173 (a1,())).1.length:Int)+(1:Int)))
 let e1_:=(aq (ag e5_) (0:Int))
 let e6_:=(aa .i64 (((f173 (a0,())).1.length:Int)+(1:Int)))
 let e2_:=(aq (ag e6_) (0:Int))
 let e3_:=e5_
 let e4_:=e6_
 bif(p173 (a0,()))then(bif(p173 (a1,()))then(bif(decide (((f173 (a0,())).1.length:Int)<((f173 (a1,())).1.length:Int)))then(bif((decide ((0:Int)<=e3_))&&(decide ((e3_*(8:Int))<=(140737488355328:Int))))then(Vx.Bi (w143_8 ((((f173 (a1,())).1.length:Int),(f173 (a0,())).1,(0:Int),(f173 (a1,())).1,(0:Int),(),()),(((f173 (a1,())).1.take e1_.length)++(e1_.drop (f173 (a1,())).1.length)),())) fun y4=>
 Vx.Bg y4 (fun y5=>
 bif((decide ((0:Int)<=(y5.1.1.length:Int)))&&(decide ((y5.1.1.length:Int)<(y5.2.1.length:Int))))then(bif(p173 ((y5.2.1.set (ag (y5.1.1.length:Int)) y5.1.2.1),()))then(some (f173 ((y5.2.1.set (ag (y5.1.1.length:Int)) y5.1.2.1),())))
 else none)
 else none) (fun z5=>
 none))
 else none)
 else bif((decide ((0:Int)<=e4_))&&(decide ((e4_*(8:Int))<=(140737488355328:Int))))then(Vx.Bi (w143_8 ((((f173 (a0,())).1.length:Int),(f173 (a1,())).1,(0:Int),(f173 (a0,())).1,(0:Int),(),()),(((f173 (a0,())).1.take e2_.length)++(e2_.drop (f173 (a0,())).1.length)),())) fun y4=>
 Vx.Bg y4 (fun y5=>
 bif((decide ((0:Int)<=(y5.1.1.length:Int)))&&(decide ((y5.1.1.length:Int)<(y5.2.1.length:Int))))then(bif(p173 ((y5.2.1.set (ag (y5.1.1.length:Int)) y5.1.2.1),()))then(some (f173 ((y5.2.1.set (ag (y5.1.1.length:Int)) y5.1.2.1),())))
 else none)
 else none) (fun z5=>
 none))
 else none)
 else none)
 else none
theorem bEB(x:DenS H0):run (cf [(94,⟨Fi,FH,p155,f155⟩),(93,⟨BW,BX,p173,f173⟩)] [(65,8,LoopSpec.of It mM N5 Ni w143_8)]) 9 65 Tryz.f65 H0 Ha x=wW p155 f155 p173 f173 w143_8 x.1 x.2.1:=by kernel_rfl
def gI:It.D->Option (Ad N5 Ni):=Bn fun L=>YQ AC.pre AC.F Am.pre Am.F L some
def VC(x:DenS H0):Option (DenS Ha):=wW AC.pre AC.F Am.pre Am.F gI x.1 x.2.1
def Dr:Sum:=Aj H0 Ha VC (DenS.dflt Ha)
theorem aAS:Sound Tryz.prog G1 65 Dr:=sd (cf [(94,AC),(93,Am)] [(65,8,LoopSpec.of It mM N5 Ni gI)]) 65 Tryz.f65 ⟨Xo,Ep,trivial⟩ ⟨rfl,fun d=>BI (fun L e x=>YQ AC.pre AC.F Am.pre Am.F L e x) (aPp AC.pre AC.F Am.pre Am.F) (fun _ _ _ _=>bIh ..),trivial⟩ H0 Ha VC _ (fun _=>bEB ..)
abbrev OB:=Ag H0
abbrev OE:=Af H0 Ha
variable (p143:OB)(f143:OE)
abbrev L8:Aa:=[(true,Zu),(false,Za),(false,Za)]
abbrev ME:Aa:=[(false,Ze),(false,.bool)]
def w8(p175:aJT)(f175:aLs)(p176:VT)(f176:V6)(p141:VR)(f141:V4)(p177:aJU)(f177:aLt)(p143:OB)(f143:OE)(a0:Ab Zu)(a1 a2:Ab Za):Option (DenS ME):=let e47_:=(aa .i64 (a2-a0.2.2.1));let e44_:=(f175 (a0.2.1,(aa .i64 (e47_-(2:Int))),()));let e42_:=(e44_.1,(2:Int),());let e40_:=(f141 e42_);let e38_:=(e40_.1.length:Int);let e34_:=(decide (e38_>(0:Int)));let e28_:=(e34_&&((BS .u64 (e40_.1.getD (ag (0:Int)) (0:Int)) (1:Int))==(1:Int)));let e32_:=(BS .u64 (e44_.1.getD (ag (0:Int)) (0:Int)) (3:Int));let e30_:=(Ak .u64 e32_ (1:Int));let e1_:=(a1,a0.1,e28_,e30_,());let e45_:=(f176 (a0.2.1,(aa .i64 ((2:Int)-e47_)),()));let e43_:=(e45_.1,(2:Int),());let e41_:=(f141 e43_);let e39_:=(e41_.1.length:Int);let e35_:=(decide (e39_>(0:Int)));let e29_:=(e35_&&((BS .u64 (e41_.1.getD (ag (0:Int)) (0:Int)) (1:Int))==(1:Int)));let e33_:=(BS .u64 (e45_.1.getD (ag (0:Int)) (0:Int)) (3:Int));let e31_:=(Ak .u64 e33_ (1:Int));let e2_:=(a1,a0.1,e29_,e31_,());let e3_:=(a1,a0.1,e28_,e32_,());let e4_:=(a1,a0.1,e29_,e33_,());let e46_:=((Ak .u64 (0:Int) (1:Int)),());let e5_:=(a1,a0.1,e28_,e46_);let e6_:=(a1,a0.1,e29_,e46_);let e7_:=((decide ((0:Int)<e38_))||(!e34_));let e8_:=((decide ((0:Int)<e39_))||(!e35_));let e9_:=((e30_ !=(0:Int)),());let e10_:=((e31_ !=(0:Int)),());let e11_:=e30_;let e12_:=e31_;let e13_:=((e32_ !=(0:Int)),());let e14_:=((e33_ !=(0:Int)),());let e15_:=e32_;let e16_:=e33_;let e36_:=(e40_.1,((1:Int)::[]),());let e17_:=(p143 e36_);let e18_:=(f143 e36_);let e37_:=(e41_.1,((1:Int)::[]),());let e19_:=(p143 e37_);let e20_:=(f143 e37_);let e21_:=e40_;let e22_:=e41_;let e23_:=(p141 e42_);let e24_:=(p141 e43_);let e25_:=(e44_.1.length:Int);let e26_:=(e45_.1.length:Int);let e27_:=e47_;bif(decide (e27_>=(2:Int)))then(bif(p175 (a0.2.1,(aa .i64 (e27_-(2:Int))),()))then(bif(decide (e25_>(0:Int)))then(bif(decide ((0:Int)<e25_))then(bif a0.2.2.2.1 then(bif e23_ then(bif e7_ then(bif((p177 e1_)||(!(bif(e11_==(0:Int))then false else true)))then(bif((e11_ !=(0:Int))&&(f177 e1_).1)then(bif e17_ then(some (e18_.1,e9_))else none)else some (e21_.1,e9_))else none)else none)else none)else bif e23_ then(bif e7_ then(bif((p177 e3_)||(!(bif(e15_==(0:Int))then false else true)))then(bif((e15_ !=(0:Int))&&(f177 e3_).1)then(bif e17_ then(some (e18_.1,e13_))else none)else some (e21_.1,e13_))else none)else none)else none)else none)else bif a0.2.2.2.1 then(bif e23_ then(bif e7_ then(bif((p177 e5_)||false)then(bif(f177 e5_).1 then(bif e17_ then(some (e18_.1,true,()))else none)else some (e21_.1,true,()))else none)else none)else none)else bif e23_ then(bif e7_ then(bif((p177 (a1,a0.1,((decide ((e21_.1.length:Int)>(0:Int)))&&((BS .u64 (e21_.1.getD (ag (0:Int)) (0:Int)) (1:Int))==(1:Int))),(0:Int),()))||true)then(some (e21_.1,false,()))else none)else none)else none)else none)else bif(p176 (a0.2.1,(aa .i64 ((2:Int)-e27_)),()))then(bif(decide (e26_>(0:Int)))then(bif(decide ((0:Int)<e26_))then(bif a0.2.2.2.1 then(bif e24_ then(bif e8_ then(bif((p177 e2_)||(!(bif(e12_==(0:Int))then false else true)))then(bif((e12_ !=(0:Int))&&(f177 e2_).1)then(bif e19_ then(some (e20_.1,e10_))else none)else some (e22_.1,e10_))else none)else none)else none)else bif e24_ then(bif e8_ then(bif((p177 e4_)||(!(bif(e16_==(0:Int))then false else true)))then(bif((e16_ !=(0:Int))&&(f177 e4_).1)then(bif e19_ then(some (e20_.1,e14_))else none)else some (e22_.1,e14_))else none)else none)else none)else none)else bif a0.2.2.2.1 then(bif e24_ then(bif e8_ then(bif((p177 e6_)||false)then(bif(f177 e6_).1 then(bif e19_ then(some (e20_.1,true,()))else none)else some (e22_.1,true,()))else none)else none)else none)else bif e24_ then(bif e8_ then(bif((p177 (a1,a0.1,((decide ((e22_.1.length:Int)>(0:Int)))&&((BS .u64 (e22_.1.getD (ag (0:Int)) (0:Int)) (1:Int))==(1:Int))),(0:Int),()))||true)then(some (e22_.1,false,()))else none)else none)else none)else none
theorem bEI(x:DenS L8):run (cf [(150,⟨PL,RP,p175,f175⟩),(67,⟨JS,Ko,p176,f176⟩),(103,⟨JP,Kl,p141,f141⟩),(151,⟨PM,RQ,p177,f177⟩),(65,⟨H0,Ha,p143,f143⟩)] []) 9 142 Tryz.f142 L8 ME x=w8 p175 f175 p176 f176 p141 f141 p177 f177 p143 f143 x.1 x.2.1 x.2.2.1:=by kernel_rfl
def Xw(x:DenS L8):Option (DenS ME):=w8 Xq.pre Xq.F D6.pre D6.F Fo.pre Fo.F Xr.pre Xr.F Dr.pre Dr.F x.1 x.2.1 x.2.2.1
def IV:Sum:=Aj L8 ME Xw (DenS.dflt ME)
theorem aGC:Sound Tryz.prog G1 142 IV:=sd (cf [(150,Xq),(67,D6),(103,Fo),(151,Xr),(65,Dr)] []) 142 Tryz.f142 ⟨aUG,aGF,aGA,aUH,aAS,trivial⟩ trivial L8 ME Xw _ (fun _=>bEI ..)
abbrev aBG:=Ag L8
abbrev aCw:=Af L8 ME
variable (p150:aBG)(f150:aCw)
abbrev G0:Aa:=[(false,Za),(false,.bool)]
abbrev Hg:Aa:=[(false,Zb),(false,Za)]
def t97(p116:rH)(f116:r6)(p69:BY)(f69:BZ)(p91:Hv)(f91:Hz)(p140:XY)(f140:Ya)(a0:Ab Za)(a1:Ab (.bool)):Option (DenS Hg):=let e2_:=((aa .i64 ((f69 (a0,())).1.1-(f69 (a0,())).1.2.1)),());let e1_:=((f69 (a0,())).1,a1,(aa .u64 ((f91 e2_).1-(f116 ((f69 (a0,())).1,())).1)),(f116 ((f69 (a0,())).1,())));bif(p69 (a0,()))then(bif((f69 (a0,())).2.1 !=(0:Int))then(some ((0:Int),(f69 (a0,())).2))else bif(p91 e2_)then(bif(p116 ((f69 (a0,())).1,()))then(bif(p116 ((f69 (a0,())).1,()))then(bif(p140 e1_)then(some ((f140 e1_).1,(0:Int),()))else none)else none)else none)else none)else none
theorem r97(x:DenS G0):run (cf [(89,⟨JL,Kj,p116,f116⟩),(71,⟨Cb,Cc,p69,f69⟩),(72,⟨ES,EW,p91,f91⟩),(73,⟨HZ,Ie,p140,f140⟩)] []) 9 62 Tryz.f62 G0 Hg x=t97 p116 f116 p69 f69 p91 f91 p140 f140 x.1 x.2.1:=by kernel_rfl
def gE(x:DenS G0):Option (DenS Hg):=t97 K0.pre K0.F As.pre As.F B2.pre B2.F Gx.pre Gx.F x.1 x.2.1
def CR:Sum:=Aj G0 Hg gE (DenS.dflt Hg)
theorem bZ:Sound Tryz.prog G1 62 CR:=sd (cf [(89,K0),(71,As),(72,B2),(73,Gx)] []) 62 Tryz.f62 ⟨aAN,DQ,NP,n7,trivial⟩ trivial G0 Hg gE _ (fun _=>r97 ..)
abbrev OD:=Ag G0
abbrev OG:=Af G0 Hg
variable (p97:OD)(f97:OG)
abbrev Rt:Aa:=[(true,Zw)]
abbrev Tw:Aa:=[(false,Zb)]
def t95(a0:Ab Zw):Option (DenS Tw):=some ((1:Int),())
theorem r95(x:DenS Rt):run (cf [] []) 9 154 Tryz.f154 Rt Tw x=t95 x.1:=by kernel_rfl
def T95(x:DenS Rt):Option (DenS Tw):=t95 x.1
def pQ:Sum:=Aj Rt Tw T95 (DenS.dflt Tw)
theorem aV8:Sound Tryz.prog G1 154 pQ:=sd (cf [] []) 154 Tryz.f154 trivial trivial Rt Tw T95 _ (fun _=>r95 ..)
abbrev Y95:=Ag Rt
abbrev Z95:=Af Rt Tw
variable (p95:Y95)(f95:Z95)
abbrev Ru:Aa:=[(true,Zw)]
abbrev Tx:Aa:=[(false,Zb)]
def t96(p91:Hv)(f91:Hz)(a0:Ab Zw):Option (DenS Tx):=let e1_:=((aa .i64 (a0.2.1-(1:Int))),());bif(p91 e1_)then(some (f91 e1_))else none
theorem r96(x:DenS Ru):run (cf [(72,⟨ES,EW,p91,f91⟩)] []) 9 155 Tryz.f155 Ru Tx x=t96 p91 f91 x.1:=by kernel_rfl
def T96(x:DenS Ru):Option (DenS Tx):=t96 B2.pre B2.F x.1
def pR:Sum:=Aj Ru Tx T96 (DenS.dflt Tx)
theorem aV9:Sound Tryz.prog G1 155 pR:=sd (cf [(72,B2)] []) 155 Tryz.f155 ⟨NP,trivial⟩ trivial Ru Tx T96 _ (fun _=>r96 ..)
abbrev Y96:=Ag Ru
abbrev Z96:=Af Ru Tx
variable (p96:Y96)(f96:Z96)
abbrev QQ:Aa:=[(false,Za),(false,.bool)]
abbrev SQ:Aa:=[(false,Zb),(false,Za)]
def t43(p95:Y95)(f95:Z95)(p96:Y96)(f96:Z96)(p69:BY)(f69:BZ)(p91:Hv)(f91:Hz)(p140:XY)(f140:Ya)(a0:Ab Za)(a1:Ab (.bool)):Option (DenS SQ):=let e2_:=((aa .i64 ((f69 (a0,())).1.1-(f69 (a0,())).1.2.1)),());let e1_:=((f69 (a0,())).1,a1,(aa .u64 ((f91 e2_).1-(f95 ((f69 (a0,())).1,())).1)),(f96 ((f69 (a0,())).1,())));bif(p69 (a0,()))then(bif((f69 (a0,())).2.1 !=(0:Int))then(some ((0:Int),(f69 (a0,())).2))else bif(p91 e2_)then(bif(p95 ((f69 (a0,())).1,()))then(bif(p96 ((f69 (a0,())).1,()))then(bif(p140 e1_)then(some ((f140 e1_).1,(0:Int),()))else none)else none)else none)else none)else none
theorem r43(x:DenS QQ):run (cf [(154,⟨Rt,Tw,p95,f95⟩),(155,⟨Ru,Tx,p96,f96⟩),(71,⟨Cb,Cc,p69,f69⟩),(72,⟨ES,EW,p91,f91⟩),(73,⟨HZ,Ie,p140,f140⟩)] []) 9 149 Tryz.f149 QQ SQ x=t43 p95 f95 p96 f96 p69 f69 p91 f91 p140 f140 x.1 x.2.1:=by kernel_rfl
def eE(x:DenS QQ):Option (DenS SQ):=t43 pQ.pre pQ.F pR.pre pR.F As.pre As.F B2.pre B2.F Gx.pre Gx.F x.1 x.2.1
def K2:Sum:=Aj QQ SQ eE (DenS.dflt SQ)
theorem aVD:Sound Tryz.prog G1 149 K2:=sd (cf [(154,pQ),(155,pR),(71,As),(72,B2),(73,Gx)] []) 149 Tryz.f149 ⟨aV8,aV9,DQ,NP,n7,trivial⟩ trivial QQ SQ eE _ (fun _=>r43 ..)
abbrev Y43:=Ag QQ
abbrev Z43:=Af QQ SQ
variable (p43:Y43)(f43:Z43)
abbrev PD:Aa:=[(false,Za),(false,Za),(false,.bool)]
abbrev RF:Aa:=[(false,Zb)]
def w7(p97:OD)(f97:OG)(p43:Y43)(f43:Z43)(a0 a1:Ab Za)(a2:Ab (.bool)):Option (DenS RF):=bif((((a1==(0:Int))||(a1==(1:Int)))||((a1==(3:Int))&&(!a2)))||((a1==(4:Int))&&a2))then(bif(p97 (a0,a2,()))then(some ((f97 (a0,a2,())).1,()))else none)else bif(p43 (a0,a2,()))then(some ((f43 (a0,a2,())).1,()))else none
theorem bEH(x:DenS PD):run (cf [(62,⟨G0,Hg,p97,f97⟩),(149,⟨QQ,SQ,p43,f43⟩)] []) 9 141 Tryz.f141 PD RF x=w7 p97 f97 p43 f43 x.1 x.2.1 x.2.2.1:=by kernel_rfl
def cW(x:DenS PD):Option (DenS RF):=w7 CR.pre CR.F K2.pre K2.F x.1 x.2.1 x.2.2.1
def Xm:Sum:=Aj PD RF cW (DenS.dflt RF)
theorem aUx:Sound Tryz.prog G1 141 Xm:=sd (cf [(62,CR),(149,K2)] []) 141 Tryz.f141 ⟨bZ,aVD,trivial⟩ trivial PD RF cW _ (fun _=>bEH ..)
abbrev aJL:=Ag PD
abbrev aLk:=Af PD RF
variable (p149:aJL)(f149:aLk)
abbrev PE:Aa:=[(true,Zu),(true,Zw),(false,Za),(false,Za)]
abbrev RH:Aa:=[(false,.bool)]
def xA(p150:aBG)(f150:aCw)(p151:Li)(f151:Ll)(a0:Ab Zu)(a1:Ab Zw)(a2 a3:Ab Za):Option (DenS RH):=let e3_:=(aa .i64 (a3-a1.2.1));let e1_:=((f150 ((a0.1,a0.2),a2,(aa .i64 (e3_+(1:Int))),())).1,());let e2_:=e3_;bif(decide (a3>=a1.2.2.1))then(some (false,()))else bif(p150 ((a0.1,a0.2),a2,(aa .i64 (e2_+(1:Int))),()))then(bif(p151 e1_)then(some ((decide ((aa .i64 (e2_+(f151 e1_).1))<a1.2.2.1)),()))else none)else none
theorem bEK(x:DenS PE):run (cf [(142,⟨L8,ME,p150,f150⟩),(98,⟨Gf,Gm,p151,f151⟩)] []) 9 143 Tryz.f143 PE RH x=xA p150 f150 p151 f151 x.1 x.2.1 x.2.2.1 x.2.2.2.1:=by kernel_rfl
def cX(x:DenS PE):Option (DenS RH):=xA IV.pre IV.F Cj.pre Cj.F x.1 x.2.1 x.2.2.1 x.2.2.2.1
def Xn:Sum:=Aj PE RH cX (DenS.dflt RH)
theorem aUz:Sound Tryz.prog G1 143 Xn:=sd (cf [(142,IV),(98,Cj)] []) 143 Tryz.f143 ⟨aGC,bE,trivial⟩ trivial PE RH cX _ (fun _=>bEK ..)
abbrev aJM:=Ag PE
abbrev aLl:=Af PE RH
variable (p152:aJM)(f152:aLl)
abbrev JI:Aa:=[(true,Zu),(false,Za),(true,Zw),(false,Za)]
abbrev Kg:Aa:=[(false,Zb),(false,Za)]
def wD(p148:aJK)(f148:aLj)(p150:aBG)(f150:aCw)(p151:Li)(f151:Ll)(p149:aJL)(f149:aLk)(p152:aJM)(f152:aLl)(a0:Ab Zu)(a1:Ab Za)(a2:Ab Zw)(a3:Ab Za):Option (DenS Kg):=let e18_:=(aa .i64 ((aa .i64 ((if(a2.2.2.1>(f148 ((a0.1,a0.2),())).1)then a2.2.2.1 else(f148 ((a0.1,a0.2),())).1)-a2.2.1))+(1:Int)));let e21_:=(aa .i64 (a2.2.1-(1:Int)));let e14_:=(Bj .u64 (aa .u64 (aa .i64 (e18_-(aa .i64 ((aa .i64 (a2.2.2.1-a2.2.1))+(1:Int)))))) e21_);let e17_:=((a0.1,a0.2),a3,e18_,());let e16_:=(f150 e17_);let e13_:=(aa .u64 (e14_+(e16_.1.getD (ag (0:Int)) (0:Int))));let e22_:=(aa .i64 (a2.1-(1:Int)));let e19_:=(Bj .u64 (1:Int) e22_);let e1_:=(Ak .u64 e13_ e19_);let e2_:=e13_;let e3_:=(Ak .u64 e14_ e19_);let e15_:=(e16_.1,());let e4_:=(decide ((aa .i64 ((aa .i64 (e18_+(f151 e15_).1))-(1:Int)))>a2.2.2.2.1));let e5_:=e14_;let e6_:=(e16_.1.length:Int);let e7_:=(p151 e15_);let e8_:=(!e16_.2.1);let e9_:=(decide ((0:Int)<=e22_));let e20_:=((a0.1,a0.2),(a2.1,a2.2),a3,(f148 ((a0.1,a0.2),())));let e10_:=(p152 e20_);let e11_:=(f152 e20_);let e12_:=((f149 (a1,a3,a0.1,())).1,(20:Int),());bif(p148 ((a0.1,a0.2),()))then(bif(decide ((f148 ((a0.1,a0.2),())).1>a2.2.2.2.1))then(bif(p149 (a1,a3,a0.1,()))then(some e12_)else none)else bif(p150 e17_)then(bif(decide ((0:Int)<=e21_))then(bif(decide (e6_>(0:Int)))then(bif(decide ((0:Int)<e6_))then(bif e7_ then(bif e4_ then(bif(p149 (a1,a3,a0.1,()))then(some e12_)else none)else bif a0.1 then(bif e9_ then(bif e8_ then(some (e1_,(0:Int),()))else bif e10_ then(bif e11_.1 then(some (e1_,(24:Int),()))else some (e1_,(16:Int),()))else none)else none)else bif e8_ then(some (e2_,(0:Int),()))else bif e10_ then(bif e11_.1 then(some (e2_,(24:Int),()))else some (e2_,(16:Int),()))else none)else none)else none)else bif e7_ then(bif e4_ then(bif(p149 (a1,a3,a0.1,()))then(some e12_)else none)else bif a0.1 then(bif e9_ then(bif e8_ then(some (e3_,(0:Int),()))else bif e10_ then(bif e11_.1 then(some (e3_,(24:Int),()))else some (e3_,(16:Int),()))else none)else none)else bif e8_ then(some (e5_,(0:Int),()))else bif e10_ then(bif e11_.1 then(some (e5_,(24:Int),()))else some (e5_,(16:Int),()))else none)else none)else none)else none)else none
theorem bEa(x:DenS JI):run (cf [(140,⟨PA,RE,p148,f148⟩),(142,⟨L8,ME,p150,f150⟩),(98,⟨Gf,Gm,p151,f151⟩),(141,⟨PD,RF,p149,f149⟩),(143,⟨PE,RH,p152,f152⟩)] []) 9 124 Tryz.f124 JI Kg x=wD p148 f148 p150 f150 p151 f151 p149 f149 p152 f152 x.1 x.2.1 x.2.2.1 x.2.2.2.1:=by kernel_rfl
def cB(x:DenS JI):Option (DenS Kg):=wD Xl.pre Xl.F IV.pre IV.F Cj.pre Cj.F Xm.pre Xm.F Xn.pre Xn.F x.1 x.2.1 x.2.2.1 x.2.2.2.1
def FO:Sum:=Aj JI Kg cB (DenS.dflt Kg)
theorem aAK:Sound Tryz.prog G1 124 FO:=sd (cf [(140,Xl),(142,IV),(98,Cj),(141,Xm),(143,Xn)] []) 124 Tryz.f124 ⟨aUw,aGC,bE,aUx,aUz,trivial⟩ trivial JI Kg cB _ (fun _=>bEa ..)
abbrev XW:=Ag JI
abbrev X8:=Af JI Kg
variable (p107:XW)(f107:X8)
abbrev Fh:Aa:=[(false,Za),(false,Za),(false,.bool),(true,Zj),(false,Za),(false,.bool)]
abbrev FG:Aa:=[(false,Zb),(false,Za),(false,Za)]
def wL(p105:XV)(f105:X7)(p102:Hr)(f102:Hw)(p151:Li)(f151:Ll)(p156:rJ)(f156:r8)(p107:XW)(f107:X8)(a0 a1:Ab Za)(a2:Ab (.bool))(a3:Ab Zj)(a4:Ab Za)(a5:Ab (.bool)):Option (DenS FG):=let e2_:=((a2,(f102 ((a3.2.1::(a3.1::[])),())).1,a4,a5,()),a0,(f105 (a0,a1,())).1,a1,());let e1_:=(f107 e2_);bif(p105 (a0,a1,()))then(bif((f105 (a0,a1,())).2.1 !=(0:Int))then(some ((0:Int),(0:Int),(f105 (a0,a1,())).2))else bif(p102 ((a3.2.1::(a3.1::[])),()))then(bif((decide (a4<(-(40000:Int))))||(decide (a4>(40000:Int))))then(some ((0:Int),(0:Int),(30:Int),()))else bif((p151 (f102 ((a3.2.1::(a3.1::[])),())))||(!a5))then(bif(a5&&(decide ((f151 (f102 ((a3.2.1::(a3.1::[])),()))).1<(aa .i64 ((f105 (a0,a1,())).1.2.1+(2:Int))))))then(some ((0:Int),(0:Int),(7:Int),()))else bif(((f102 ((a3.2.1::(a3.1::[])),())).1.length:Int)==(0:Int))then(bif(p156 (a0,a2,()))then(some (f156 (a0,a2,())))else none)else bif(p107 e2_)then(some (e1_.1,e1_.2.1,(0:Int),()))else none)else none)else none)else none
theorem bEn(x:DenS Fh):run (cf [(121,⟨JH,Kf,p105,f105⟩),(122,⟨Fw,FE,p102,f102⟩),(98,⟨Gf,Gm,p151,f151⟩),(123,⟨L9,MF,p156,f156⟩),(124,⟨JI,Kg,p107,f107⟩)] []) 9 104 Tryz.f104 Fh FG x=wL p105 f105 p102 f102 p151 f151 p156 f156 p107 f107 x.1 x.2.1 x.2.2.1 x.2.2.2.1 x.2.2.2.2.1 x.2.2.2.2.2.1:=by kernel_rfl
def cK(x:DenS Fh):Option (DenS FG):=wL FN.pre FN.F Ci.pre Ci.F Cj.pre Cj.F IW.pre IW.F FO.pre FO.F x.1 x.2.1 x.2.2.1 x.2.2.2.1 x.2.2.2.2.1 x.2.2.2.2.2.1
def Ch:Sum:=Aj Fh FG cK (DenS.dflt FG)
theorem Xk:Sound Tryz.prog G1 104 Ch:=sd (cf [(121,FN),(122,Ci),(98,Cj),(123,IW),(124,FO)] []) 104 Tryz.f104 ⟨aAJ,bD,bE,aGD,aAK,trivial⟩ trivial Fh FG cK _ (fun _=>bEn ..)
abbrev Ht:=Ag Fh
abbrev Hx:=Af Fh FG
variable (p122:Ht)(f122:Hx)
end Vx
namespace Vx
open Go Go.Proofs
variable (p119:gR)(f119:iE)(p120:aBC)(f120:aCs)(p121:aBD)(f121:aCt)(p123:VN)(f123:V0)(p124:aBE)(f124:aCu)(p118:I0)(f118:I4)(p122:Ht)(f122:Hx)
abbrev Rp:Aa:=[(false,Za),(false,Za),(true,Zn),(true,Zn)]
abbrev KH:Aa:=[(false,Zb),(false,Za),(false,Za)]
def aAk(p119:DenS HU->Bool)(f119:DenS HU->DenS Kk)(p120:DenS JM->Bool)(f120:DenS JM->DenS Mz)(p121:DenS JN->Bool)(f121:DenS JN->DenS MA)(p123:DenS GU->Bool)(f123:DenS GU->DenS H8)(p124:DenS JO->Bool)(f124:DenS JO->DenS MB)(p118:DenS Fg->Bool)(f118:DenS Fg->DenS FF)(p122:DenS Fh->Bool)(f122:DenS Fh->DenS FG)(f m:Int)(nx:Bool)(X ex:Int)(ny:Bool)(Y ey:Int):Option (DenS KH):=bif(p119 (((0:Int),(X,())),((if((70:Int)<(aa .i64 (ex-ey)))then(70:Int)else(aa .i64 (ex-ey))),())))then(bif(p120 (((0:Int),(Y,())),((aa .i64 ((aa .i64 (ex-(if((70:Int)<(aa .i64 (ex-ey)))then(70:Int)else(aa .i64 (ex-ey)))))-ey)),())))then(bif(p119 ((f120 (((0:Int),(Y,())),((aa .i64 ((aa .i64 (ex-(if((70:Int)<(aa .i64 (ex-ey)))then(70:Int)else(aa .i64 (ex-ey)))))-ey)),()))).1,((aa .i64 ((aa .i64 (ex-(if((70:Int)<(aa .i64 (ex-ey)))then(70:Int)else(aa .i64 (ex-ey)))))-ey)),())))then(bif(p120 (((0:Int),(Y,())),((aa .i64 ((aa .i64 (ex-(if((70:Int)<(aa .i64 (ex-ey)))then(70:Int)else(aa .i64 (ex-ey)))))-ey)),())))then(bif(nx==ny)then(bif(p121 ((f119 (((0:Int),(X,())),((if((70:Int)<(aa .i64 (ex-ey)))then(70:Int)else(aa .i64 (ex-ey))),()))).1,(f120 (((0:Int),(Y,())),((aa .i64 ((aa .i64 (ex-(if((70:Int)<(aa .i64 (ex-ey)))then(70:Int)else(aa .i64 (ex-ey)))))-ey)),())))))then(bif(p122 (f,(m,(nx,((f121 ((f119 (((0:Int),(X,())),((if((70:Int)<(aa .i64 (ex-ey)))then(70:Int)else(aa .i64 (ex-ey))),()))).1,(f120 (((0:Int),(Y,())),((aa .i64 ((aa .i64 (ex-(if((70:Int)<(aa .i64 (ex-ey)))then(70:Int)else(aa .i64 (ex-ey)))))-ey)),()))))).1,((aa .i64 (ex-(if((70:Int)<(aa .i64 (ex-ey)))then(70:Int)else(aa .i64 (ex-ey))))),(((!(((f119 ((f120 (((0:Int),(Y,())),((aa .i64 ((aa .i64 (ex-(if((70:Int)<(aa .i64 (ex-ey)))then(70:Int)else(aa .i64 (ex-ey)))))-ey)),()))).1,((aa .i64 ((aa .i64 (ex-(if((70:Int)<(aa .i64 (ex-ey)))then(70:Int)else(aa .i64 (ex-ey)))))-ey)),()))).1.1==(0:Int))&&((f119 ((f120 (((0:Int),(Y,())),((aa .i64 ((aa .i64 (ex-(if((70:Int)<(aa .i64 (ex-ey)))then(70:Int)else(aa .i64 (ex-ey)))))-ey)),()))).1,((aa .i64 ((aa .i64 (ex-(if((70:Int)<(aa .i64 (ex-ey)))then(70:Int)else(aa .i64 (ex-ey)))))-ey)),()))).1.2.1==Y)))||((decide ((aa .i64 ((aa .i64 (ex-(if((70:Int)<(aa .i64 (ex-ey)))then(70:Int)else(aa .i64 (ex-ey)))))-ey))>(63:Int)))&&(Y !=(0:Int)))),())))))))then(some (f122 (f,(m,(nx,((f121 ((f119 (((0:Int),(X,())),((if((70:Int)<(aa .i64 (ex-ey)))then(70:Int)else(aa .i64 (ex-ey))),()))).1,(f120 (((0:Int),(Y,())),((aa .i64 ((aa .i64 (ex-(if((70:Int)<(aa .i64 (ex-ey)))then(70:Int)else(aa .i64 (ex-ey)))))-ey)),()))))).1,((aa .i64 (ex-(if((70:Int)<(aa .i64 (ex-ey)))then(70:Int)else(aa .i64 (ex-ey))))),(((!(((f119 ((f120 (((0:Int),(Y,())),((aa .i64 ((aa .i64 (ex-(if((70:Int)<(aa .i64 (ex-ey)))then(70:Int)else(aa .i64 (ex-ey)))))-ey)),()))).1,((aa .i64 ((aa .i64 (ex-(if((70:Int)<(aa .i64 (ex-ey)))then(70:Int)else(aa .i64 (ex-ey)))))-ey)),()))).1.1==(0:Int))&&((f119 ((f120 (((0:Int),(Y,())),((aa .i64 ((aa .i64 (ex-(if((70:Int)<(aa .i64 (ex-ey)))then(70:Int)else(aa .i64 (ex-ey)))))-ey)),()))).1,((aa .i64 ((aa .i64 (ex-(if((70:Int)<(aa .i64 (ex-ey)))then(70:Int)else(aa .i64 (ex-ey)))))-ey)),()))).1.2.1==Y)))||((decide ((aa .i64 ((aa .i64 (ex-(if((70:Int)<(aa .i64 (ex-ey)))then(70:Int)else(aa .i64 (ex-ey)))))-ey))>(63:Int)))&&(Y !=(0:Int)))),()))))))))else none)else none)else bif(p123 ((f119 (((0:Int),(X,())),((if((70:Int)<(aa .i64 (ex-ey)))then(70:Int)else(aa .i64 (ex-ey))),()))).1,(f120 (((0:Int),(Y,())),((aa .i64 ((aa .i64 (ex-(if((70:Int)<(aa .i64 (ex-ey)))then(70:Int)else(aa .i64 (ex-ey)))))-ey)),())))))then(bif(decide ((f123 ((f119 (((0:Int),(X,())),((if((70:Int)<(aa .i64 (ex-ey)))then(70:Int)else(aa .i64 (ex-ey))),()))).1,(f120 (((0:Int),(Y,())),((aa .i64 ((aa .i64 (ex-(if((70:Int)<(aa .i64 (ex-ey)))then(70:Int)else(aa .i64 (ex-ey)))))-ey)),()))))).1<(0:Int)))then(bif(p124 ((f120 (((0:Int),(Y,())),((aa .i64 ((aa .i64 (ex-(if((70:Int)<(aa .i64 (ex-ey)))then(70:Int)else(aa .i64 (ex-ey)))))-ey)),()))).1,(f119 (((0:Int),(X,())),((if((70:Int)<(aa .i64 (ex-ey)))then(70:Int)else(aa .i64 (ex-ey))),())))))then(bif((!(((f119 ((f120 (((0:Int),(Y,())),((aa .i64 ((aa .i64 (ex-(if((70:Int)<(aa .i64 (ex-ey)))then(70:Int)else(aa .i64 (ex-ey)))))-ey)),()))).1,((aa .i64 ((aa .i64 (ex-(if((70:Int)<(aa .i64 (ex-ey)))then(70:Int)else(aa .i64 (ex-ey)))))-ey)),()))).1.1==(0:Int))&&((f119 ((f120 (((0:Int),(Y,())),((aa .i64 ((aa .i64 (ex-(if((70:Int)<(aa .i64 (ex-ey)))then(70:Int)else(aa .i64 (ex-ey)))))-ey)),()))).1,((aa .i64 ((aa .i64 (ex-(if((70:Int)<(aa .i64 (ex-ey)))then(70:Int)else(aa .i64 (ex-ey)))))-ey)),()))).1.2.1==Y)))||((decide ((aa .i64 ((aa .i64 (ex-(if((70:Int)<(aa .i64 (ex-ey)))then(70:Int)else(aa .i64 (ex-ey)))))-ey))>(63:Int)))&&(Y !=(0:Int))))then(bif(p124 ((f124 ((f120 (((0:Int),(Y,())),((aa .i64 ((aa .i64 (ex-(if((70:Int)<(aa .i64 (ex-ey)))then(70:Int)else(aa .i64 (ex-ey)))))-ey)),()))).1,(f119 (((0:Int),(X,())),((if((70:Int)<(aa .i64 (ex-ey)))then(70:Int)else(aa .i64 (ex-ey))),()))))).1,(((0:Int),((1:Int),())),())))then(bif((((f124 ((f124 ((f120 (((0:Int),(Y,())),((aa .i64 ((aa .i64 (ex-(if((70:Int)<(aa .i64 (ex-ey)))then(70:Int)else(aa .i64 (ex-ey)))))-ey)),()))).1,(f119 (((0:Int),(X,())),((if((70:Int)<(aa .i64 (ex-ey)))then(70:Int)else(aa .i64 (ex-ey))),()))))).1,(((0:Int),((1:Int),())),()))).1.1==(0:Int))&&((f124 ((f124 ((f120 (((0:Int),(Y,())),((aa .i64 ((aa .i64 (ex-(if((70:Int)<(aa .i64 (ex-ey)))then(70:Int)else(aa .i64 (ex-ey)))))-ey)),()))).1,(f119 (((0:Int),(X,())),((if((70:Int)<(aa .i64 (ex-ey)))then(70:Int)else(aa .i64 (ex-ey))),()))))).1,(((0:Int),((1:Int),())),()))).1.2.1==(0:Int)))&&(!((!(((f119 ((f120 (((0:Int),(Y,())),((aa .i64 ((aa .i64 (ex-(if((70:Int)<(aa .i64 (ex-ey)))then(70:Int)else(aa .i64 (ex-ey)))))-ey)),()))).1,((aa .i64 ((aa .i64 (ex-(if((70:Int)<(aa .i64 (ex-ey)))then(70:Int)else(aa .i64 (ex-ey)))))-ey)),()))).1.1==(0:Int))&&((f119 ((f120 (((0:Int),(Y,())),((aa .i64 ((aa .i64 (ex-(if((70:Int)<(aa .i64 (ex-ey)))then(70:Int)else(aa .i64 (ex-ey)))))-ey)),()))).1,((aa .i64 ((aa .i64 (ex-(if((70:Int)<(aa .i64 (ex-ey)))then(70:Int)else(aa .i64 (ex-ey)))))-ey)),()))).1.2.1==Y)))||((decide ((aa .i64 ((aa .i64 (ex-(if((70:Int)<(aa .i64 (ex-ey)))then(70:Int)else(aa .i64 (ex-ey)))))-ey))>(63:Int)))&&(Y !=(0:Int))))))then(bif(p118 (f,((m==(4:Int)),())))then(some ((f118 (f,((m==(4:Int)),()))).1,((0:Int),((0:Int),()))))else none)else bif(p122 (f,(m,(ny,((f124 ((f124 ((f120 (((0:Int),(Y,())),((aa .i64 ((aa .i64 (ex-(if((70:Int)<(aa .i64 (ex-ey)))then(70:Int)else(aa .i64 (ex-ey)))))-ey)),()))).1,(f119 (((0:Int),(X,())),((if((70:Int)<(aa .i64 (ex-ey)))then(70:Int)else(aa .i64 (ex-ey))),()))))).1,(((0:Int),((1:Int),())),()))).1,((aa .i64 (ex-(if((70:Int)<(aa .i64 (ex-ey)))then(70:Int)else(aa .i64 (ex-ey))))),(((!(((f119 ((f120 (((0:Int),(Y,())),((aa .i64 ((aa .i64 (ex-(if((70:Int)<(aa .i64 (ex-ey)))then(70:Int)else(aa .i64 (ex-ey)))))-ey)),()))).1,((aa .i64 ((aa .i64 (ex-(if((70:Int)<(aa .i64 (ex-ey)))then(70:Int)else(aa .i64 (ex-ey)))))-ey)),()))).1.1==(0:Int))&&((f119 ((f120 (((0:Int),(Y,())),((aa .i64 ((aa .i64 (ex-(if((70:Int)<(aa .i64 (ex-ey)))then(70:Int)else(aa .i64 (ex-ey)))))-ey)),()))).1,((aa .i64 ((aa .i64 (ex-(if((70:Int)<(aa .i64 (ex-ey)))then(70:Int)else(aa .i64 (ex-ey)))))-ey)),()))).1.2.1==Y)))||((decide ((aa .i64 ((aa .i64 (ex-(if((70:Int)<(aa .i64 (ex-ey)))then(70:Int)else(aa .i64 (ex-ey)))))-ey))>(63:Int)))&&(Y !=(0:Int)))),())))))))then(some (f122 (f,(m,(ny,((f124 ((f124 ((f120 (((0:Int),(Y,())),((aa .i64 ((aa .i64 (ex-(if((70:Int)<(aa .i64 (ex-ey)))then(70:Int)else(aa .i64 (ex-ey)))))-ey)),()))).1,(f119 (((0:Int),(X,())),((if((70:Int)<(aa .i64 (ex-ey)))then(70:Int)else(aa .i64 (ex-ey))),()))))).1,(((0:Int),((1:Int),())),()))).1,((aa .i64 (ex-(if((70:Int)<(aa .i64 (ex-ey)))then(70:Int)else(aa .i64 (ex-ey))))),(((!(((f119 ((f120 (((0:Int),(Y,())),((aa .i64 ((aa .i64 (ex-(if((70:Int)<(aa .i64 (ex-ey)))then(70:Int)else(aa .i64 (ex-ey)))))-ey)),()))).1,((aa .i64 ((aa .i64 (ex-(if((70:Int)<(aa .i64 (ex-ey)))then(70:Int)else(aa .i64 (ex-ey)))))-ey)),()))).1.1==(0:Int))&&((f119 ((f120 (((0:Int),(Y,())),((aa .i64 ((aa .i64 (ex-(if((70:Int)<(aa .i64 (ex-ey)))then(70:Int)else(aa .i64 (ex-ey)))))-ey)),()))).1,((aa .i64 ((aa .i64 (ex-(if((70:Int)<(aa .i64 (ex-ey)))then(70:Int)else(aa .i64 (ex-ey)))))-ey)),()))).1.2.1==Y)))||((decide ((aa .i64 ((aa .i64 (ex-(if((70:Int)<(aa .i64 (ex-ey)))then(70:Int)else(aa .i64 (ex-ey)))))-ey))>(63:Int)))&&(Y !=(0:Int)))),()))))))))else none)else none)else bif((((f124 ((f120 (((0:Int),(Y,())),((aa .i64 ((aa .i64 (ex-(if((70:Int)<(aa .i64 (ex-ey)))then(70:Int)else(aa .i64 (ex-ey)))))-ey)),()))).1,(f119 (((0:Int),(X,())),((if((70:Int)<(aa .i64 (ex-ey)))then(70:Int)else(aa .i64 (ex-ey))),()))))).1.1==(0:Int))&&((f124 ((f120 (((0:Int),(Y,())),((aa .i64 ((aa .i64 (ex-(if((70:Int)<(aa .i64 (ex-ey)))then(70:Int)else(aa .i64 (ex-ey)))))-ey)),()))).1,(f119 (((0:Int),(X,())),((if((70:Int)<(aa .i64 (ex-ey)))then(70:Int)else(aa .i64 (ex-ey))),()))))).1.2.1==(0:Int)))&&(!((!(((f119 ((f120 (((0:Int),(Y,())),((aa .i64 ((aa .i64 (ex-(if((70:Int)<(aa .i64 (ex-ey)))then(70:Int)else(aa .i64 (ex-ey)))))-ey)),()))).1,((aa .i64 ((aa .i64 (ex-(if((70:Int)<(aa .i64 (ex-ey)))then(70:Int)else(aa .i64 (ex-ey)))))-ey)),()))).1.1==(0:Int))&&((f119 ((f120 (((0:Int),(Y,())),((aa .i64 ((aa .i64 (ex-(if((70:Int)<(aa .i64 (ex-ey)))then(70:Int)else(aa .i64 (ex-ey)))))-ey)),()))).1,((aa .i64 ((aa .i64 (ex-(if((70:Int)<(aa .i64 (ex-ey)))then(70:Int)else(aa .i64 (ex-ey)))))-ey)),()))).1.2.1==Y)))||((decide ((aa .i64 ((aa .i64 (ex-(if((70:Int)<(aa .i64 (ex-ey)))then(70:Int)else(aa .i64 (ex-ey)))))-ey))>(63:Int)))&&(Y !=(0:Int))))))then(bif(p118 (f,((m==(4:Int)),())))then(some ((f118 (f,((m==(4:Int)),()))).1,((0:Int),((0:Int),()))))else none)else bif(p122 (f,(m,(ny,((f124 ((f120 (((0:Int),(Y,())),((aa .i64 ((aa .i64 (ex-(if((70:Int)<(aa .i64 (ex-ey)))then(70:Int)else(aa .i64 (ex-ey)))))-ey)),()))).1,(f119 (((0:Int),(X,())),((if((70:Int)<(aa .i64 (ex-ey)))then(70:Int)else(aa .i64 (ex-ey))),()))))).1,((aa .i64 (ex-(if((70:Int)<(aa .i64 (ex-ey)))then(70:Int)else(aa .i64 (ex-ey))))),(((!(((f119 ((f120 (((0:Int),(Y,())),((aa .i64 ((aa .i64 (ex-(if((70:Int)<(aa .i64 (ex-ey)))then(70:Int)else(aa .i64 (ex-ey)))))-ey)),()))).1,((aa .i64 ((aa .i64 (ex-(if((70:Int)<(aa .i64 (ex-ey)))then(70:Int)else(aa .i64 (ex-ey)))))-ey)),()))).1.1==(0:Int))&&((f119 ((f120 (((0:Int),(Y,())),((aa .i64 ((aa .i64 (ex-(if((70:Int)<(aa .i64 (ex-ey)))then(70:Int)else(aa .i64 (ex-ey)))))-ey)),()))).1,((aa .i64 ((aa .i64 (ex-(if((70:Int)<(aa .i64 (ex-ey)))then(70:Int)else(aa .i64 (ex-ey)))))-ey)),()))).1.2.1==Y)))||((decide ((aa .i64 ((aa .i64 (ex-(if((70:Int)<(aa .i64 (ex-ey)))then(70:Int)else(aa .i64 (ex-ey)))))-ey))>(63:Int)))&&(Y !=(0:Int)))),())))))))then(some (f122 (f,(m,(ny,((f124 ((f120 (((0:Int),(Y,())),((aa .i64 ((aa .i64 (ex-(if((70:Int)<(aa .i64 (ex-ey)))then(70:Int)else(aa .i64 (ex-ey)))))-ey)),()))).1,(f119 (((0:Int),(X,())),((if((70:Int)<(aa .i64 (ex-ey)))then(70:Int)else(aa .i64 (ex-ey))),()))))).1,((aa .i64 (ex-(if((70:Int)<(aa .i64 (ex-ey)))then(70:Int)else(aa .i64 (ex-ey))))),(((!(((f119 ((f120 (((0:Int),(Y,())),((aa .i64 ((aa .i64 (ex-(if((70:Int)<(aa .i64 (ex-ey)))then(70:Int)else(aa .i64 (ex-ey)))))-ey)),()))).1,((aa .i64 ((aa .i64 (ex-(if((70:Int)<(aa .i64 (ex-ey)))then(70:Int)else(aa .i64 (ex-ey)))))-ey)),()))).1.1==(0:Int))&&((f119 ((f120 (((0:Int),(Y,())),((aa .i64 ((aa .i64 (ex-(if((70:Int)<(aa .i64 (ex-ey)))then(70:Int)else(aa .i64 (ex-ey)))))-ey)),()))).1,((aa .i64 ((aa .i64 (ex-(if((70:Int)<(aa .i64 (ex-ey)))then(70:Int)else(aa .i64 (ex-ey)))))-ey)),()))).1.2.1==Y)))||((decide ((aa .i64 ((aa .i64 (ex-(if((70:Int)<(aa .i64 (ex-ey)))then(70:Int)else(aa .i64 (ex-ey)))))-ey))>(63:Int)))&&(Y !=(0:Int)))),()))))))))else none)else none)else bif(p124 ((f119 (((0:Int),(X,())),((if((70:Int)<(aa .i64 (ex-ey)))then(70:Int)else(aa .i64 (ex-ey))),()))).1,(f120 (((0:Int),(Y,())),((aa .i64 ((aa .i64 (ex-(if((70:Int)<(aa .i64 (ex-ey)))then(70:Int)else(aa .i64 (ex-ey)))))-ey)),())))))then(bif((!(((f119 ((f120 (((0:Int),(Y,())),((aa .i64 ((aa .i64 (ex-(if((70:Int)<(aa .i64 (ex-ey)))then(70:Int)else(aa .i64 (ex-ey)))))-ey)),()))).1,((aa .i64 ((aa .i64 (ex-(if((70:Int)<(aa .i64 (ex-ey)))then(70:Int)else(aa .i64 (ex-ey)))))-ey)),()))).1.1==(0:Int))&&((f119 ((f120 (((0:Int),(Y,())),((aa .i64 ((aa .i64 (ex-(if((70:Int)<(aa .i64 (ex-ey)))then(70:Int)else(aa .i64 (ex-ey)))))-ey)),()))).1,((aa .i64 ((aa .i64 (ex-(if((70:Int)<(aa .i64 (ex-ey)))then(70:Int)else(aa .i64 (ex-ey)))))-ey)),()))).1.2.1==Y)))||((decide ((aa .i64 ((aa .i64 (ex-(if((70:Int)<(aa .i64 (ex-ey)))then(70:Int)else(aa .i64 (ex-ey)))))-ey))>(63:Int)))&&(Y !=(0:Int))))then(bif(p124 ((f124 ((f119 (((0:Int),(X,())),((if((70:Int)<(aa .i64 (ex-ey)))then(70:Int)else(aa .i64 (ex-ey))),()))).1,(f120 (((0:Int),(Y,())),((aa .i64 ((aa .i64 (ex-(if((70:Int)<(aa .i64 (ex-ey)))then(70:Int)else(aa .i64 (ex-ey)))))-ey)),()))))).1,(((0:Int),((1:Int),())),())))then(bif((((f124 ((f124 ((f119 (((0:Int),(X,())),((if((70:Int)<(aa .i64 (ex-ey)))then(70:Int)else(aa .i64 (ex-ey))),()))).1,(f120 (((0:Int),(Y,())),((aa .i64 ((aa .i64 (ex-(if((70:Int)<(aa .i64 (ex-ey)))then(70:Int)else(aa .i64 (ex-ey)))))-ey)),()))))).1,(((0:Int),((1:Int),())),()))).1.1==(0:Int))&&((f124 ((f124 ((f119 (((0:Int),(X,())),((if((70:Int)<(aa .i64 (ex-ey)))then(70:Int)else(aa .i64 (ex-ey))),()))).1,(f120 (((0:Int),(Y,())),((aa .i64 ((aa .i64 (ex-(if((70:Int)<(aa .i64 (ex-ey)))then(70:Int)else(aa .i64 (ex-ey)))))-ey)),()))))).1,(((0:Int),((1:Int),())),()))).1.2.1==(0:Int)))&&(!((!(((f119 ((f120 (((0:Int),(Y,())),((aa .i64 ((aa .i64 (ex-(if((70:Int)<(aa .i64 (ex-ey)))then(70:Int)else(aa .i64 (ex-ey)))))-ey)),()))).1,((aa .i64 ((aa .i64 (ex-(if((70:Int)<(aa .i64 (ex-ey)))then(70:Int)else(aa .i64 (ex-ey)))))-ey)),()))).1.1==(0:Int))&&((f119 ((f120 (((0:Int),(Y,())),((aa .i64 ((aa .i64 (ex-(if((70:Int)<(aa .i64 (ex-ey)))then(70:Int)else(aa .i64 (ex-ey)))))-ey)),()))).1,((aa .i64 ((aa .i64 (ex-(if((70:Int)<(aa .i64 (ex-ey)))then(70:Int)else(aa .i64 (ex-ey)))))-ey)),()))).1.2.1==Y)))||((decide ((aa .i64 ((aa .i64 (ex-(if((70:Int)<(aa .i64 (ex-ey)))then(70:Int)else(aa .i64 (ex-ey)))))-ey))>(63:Int)))&&(Y !=(0:Int))))))then(bif(p118 (f,((m==(4:Int)),())))then(some ((f118 (f,((m==(4:Int)),()))).1,((0:Int),((0:Int),()))))else none)else bif(p122 (f,(m,(nx,((f124 ((f124 ((f119 (((0:Int),(X,())),((if((70:Int)<(aa .i64 (ex-ey)))then(70:Int)else(aa .i64 (ex-ey))),()))).1,(f120 (((0:Int),(Y,())),((aa .i64 ((aa .i64 (ex-(if((70:Int)<(aa .i64 (ex-ey)))then(70:Int)else(aa .i64 (ex-ey)))))-ey)),()))))).1,(((0:Int),((1:Int),())),()))).1,((aa .i64 (ex-(if((70:Int)<(aa .i64 (ex-ey)))then(70:Int)else(aa .i64 (ex-ey))))),(((!(((f119 ((f120 (((0:Int),(Y,())),((aa .i64 ((aa .i64 (ex-(if((70:Int)<(aa .i64 (ex-ey)))then(70:Int)else(aa .i64 (ex-ey)))))-ey)),()))).1,((aa .i64 ((aa .i64 (ex-(if((70:Int)<(aa .i64 (ex-ey)))then(70:Int)else(aa .i64 (ex-ey)))))-ey)),()))).1.1==(0:Int))&&((f119 ((f120 (((0:Int),(Y,())),((aa .i64 ((aa .i64 (ex-(if((70:Int)<(aa .i64 (ex-ey)))then(70:Int)else(aa .i64 (ex-ey)))))-ey)),()))).1,((aa .i64 ((aa .i64 (ex-(if((70:Int)<(aa .i64 (ex-ey)))then(70:Int)else(aa .i64 (ex-ey)))))-ey)),()))).1.2.1==Y)))||((decide ((aa .i64 ((aa .i64 (ex-(if((70:Int)<(aa .i64 (ex-ey)))then(70:Int)else(aa .i64 (ex-ey)))))-ey))>(63:Int)))&&(Y !=(0:Int)))),())))))))then(some (f122 (f,(m,(nx,((f124 ((f124 ((f119 (((0:Int),(X,())),((if((70:Int)<(aa .i64 (ex-ey)))then(70:Int)else(aa .i64 (ex-ey))),()))).1,(f120 (((0:Int),(Y,())),((aa .i64 ((aa .i64 (ex-(if((70:Int)<(aa .i64 (ex-ey)))then(70:Int)else(aa .i64 (ex-ey)))))-ey)),()))))).1,(((0:Int),((1:Int),())),()))).1,((aa .i64 (ex-(if((70:Int)<(aa .i64 (ex-ey)))then(70:Int)else(aa .i64 (ex-ey))))),(((!(((f119 ((f120 (((0:Int),(Y,())),((aa .i64 ((aa .i64 (ex-(if((70:Int)<(aa .i64 (ex-ey)))then(70:Int)else(aa .i64 (ex-ey)))))-ey)),()))).1,((aa .i64 ((aa .i64 (ex-(if((70:Int)<(aa .i64 (ex-ey)))then(70:Int)else(aa .i64 (ex-ey)))))-ey)),()))).1.1==(0:Int))&&((f119 ((f120 (((0:Int),(Y,())),((aa .i64 ((aa .i64 (ex-(if((70:Int)<(aa .i64 (ex-ey)))then(70:Int)else(aa .i64 (ex-ey)))))-ey)),()))).1,((aa .i64 ((aa .i64 (ex-(if((70:Int)<(aa .i64 (ex-ey)))then(70:Int)else(aa .i64 (ex-ey)))))-ey)),()))).1.2.1==Y)))||((decide ((aa .i64 ((aa .i64 (ex-(if((70:Int)<(aa .i64 (ex-ey)))then(70:Int)else(aa .i64 (ex-ey)))))-ey))>(63:Int)))&&(Y !=(0:Int)))),()))))))))else none)else none)else bif((((f124 ((f119 (((0:Int),(X,())),((if((70:Int)<(aa .i64 (ex-ey)))then(70:Int)else(aa .i64 (ex-ey))),()))).1,(f120 (((0:Int),(Y,())),((aa .i64 ((aa .i64 (ex-(if((70:Int)<(aa .i64 (ex-ey)))then(70:Int)else(aa .i64 (ex-ey)))))-ey)),()))))).1.1==(0:Int))&&((f124 ((f119 (((0:Int),(X,())),((if((70:Int)<(aa .i64 (ex-ey)))then(70:Int)else(aa .i64 (ex-ey))),()))).1,(f120 (((0:Int),(Y,())),((aa .i64 ((aa .i64 (ex-(if((70:Int)<(aa .i64 (ex-ey)))then(70:Int)else(aa .i64 (ex-ey)))))-ey)),()))))).1.2.1==(0:Int)))&&(!((!(((f119 ((f120 (((0:Int),(Y,())),((aa .i64 ((aa .i64 (ex-(if((70:Int)<(aa .i64 (ex-ey)))then(70:Int)else(aa .i64 (ex-ey)))))-ey)),()))).1,((aa .i64 ((aa .i64 (ex-(if((70:Int)<(aa .i64 (ex-ey)))then(70:Int)else(aa .i64 (ex-ey)))))-ey)),()))).1.1==(0:Int))&&((f119 ((f120 (((0:Int),(Y,())),((aa .i64 ((aa .i64 (ex-(if((70:Int)<(aa .i64 (ex-ey)))then(70:Int)else(aa .i64 (ex-ey)))))-ey)),()))).1,((aa .i64 ((aa .i64 (ex-(if((70:Int)<(aa .i64 (ex-ey)))then(70:Int)else(aa .i64 (ex-ey)))))-ey)),()))).1.2.1==Y)))||((decide ((aa .i64 ((aa .i64 (ex-(if((70:Int)<(aa .i64 (ex-ey)))then(70:Int)else(aa .i64 (ex-ey)))))-ey))>(63:Int)))&&(Y !=(0:Int))))))then(bif(p118 (f,((m==(4:Int)),())))then(some ((f118 (f,((m==(4:Int)),()))).1,((0:Int),((0:Int),()))))else none)else bif(p122 (f,(m,(nx,((f124 ((f119 (((0:Int),(X,())),((if((70:Int)<(aa .i64 (ex-ey)))then(70:Int)else(aa .i64 (ex-ey))),()))).1,(f120 (((0:Int),(Y,())),((aa .i64 ((aa .i64 (ex-(if((70:Int)<(aa .i64 (ex-ey)))then(70:Int)else(aa .i64 (ex-ey)))))-ey)),()))))).1,((aa .i64 (ex-(if((70:Int)<(aa .i64 (ex-ey)))then(70:Int)else(aa .i64 (ex-ey))))),(((!(((f119 ((f120 (((0:Int),(Y,())),((aa .i64 ((aa .i64 (ex-(if((70:Int)<(aa .i64 (ex-ey)))then(70:Int)else(aa .i64 (ex-ey)))))-ey)),()))).1,((aa .i64 ((aa .i64 (ex-(if((70:Int)<(aa .i64 (ex-ey)))then(70:Int)else(aa .i64 (ex-ey)))))-ey)),()))).1.1==(0:Int))&&((f119 ((f120 (((0:Int),(Y,())),((aa .i64 ((aa .i64 (ex-(if((70:Int)<(aa .i64 (ex-ey)))then(70:Int)else(aa .i64 (ex-ey)))))-ey)),()))).1,((aa .i64 ((aa .i64 (ex-(if((70:Int)<(aa .i64 (ex-ey)))then(70:Int)else(aa .i64 (ex-ey)))))-ey)),()))).1.2.1==Y)))||((decide ((aa .i64 ((aa .i64 (ex-(if((70:Int)<(aa .i64 (ex-ey)))then(70:Int)else(aa .i64 (ex-ey)))))-ey))>(63:Int)))&&(Y !=(0:Int)))),())))))))then(some (f122 (f,(m,(nx,((f124 ((f119 (((0:Int),(X,())),((if((70:Int)<(aa .i64 (ex-ey)))then(70:Int)else(aa .i64 (ex-ey))),()))).1,(f120 (((0:Int),(Y,())),((aa .i64 ((aa .i64 (ex-(if((70:Int)<(aa .i64 (ex-ey)))then(70:Int)else(aa .i64 (ex-ey)))))-ey)),()))))).1,((aa .i64 (ex-(if((70:Int)<(aa .i64 (ex-ey)))then(70:Int)else(aa .i64 (ex-ey))))),(((!(((f119 ((f120 (((0:Int),(Y,())),((aa .i64 ((aa .i64 (ex-(if((70:Int)<(aa .i64 (ex-ey)))then(70:Int)else(aa .i64 (ex-ey)))))-ey)),()))).1,((aa .i64 ((aa .i64 (ex-(if((70:Int)<(aa .i64 (ex-ey)))then(70:Int)else(aa .i64 (ex-ey)))))-ey)),()))).1.1==(0:Int))&&((f119 ((f120 (((0:Int),(Y,())),((aa .i64 ((aa .i64 (ex-(if((70:Int)<(aa .i64 (ex-ey)))then(70:Int)else(aa .i64 (ex-ey)))))-ey)),()))).1,((aa .i64 ((aa .i64 (ex-(if((70:Int)<(aa .i64 (ex-ey)))then(70:Int)else(aa .i64 (ex-ey)))))-ey)),()))).1.2.1==Y)))||((decide ((aa .i64 ((aa .i64 (ex-(if((70:Int)<(aa .i64 (ex-ey)))then(70:Int)else(aa .i64 (ex-ey)))))-ey))>(63:Int)))&&(Y !=(0:Int)))),()))))))))else none)else none)else none)else none)else none)else none)else none
def t71(p119:gR)(f119:iE)(p120:aBC)(f120:aCs)(p121:aBD)(f121:aCt)(p123:VN)(f123:V0)(p124:aBE)(f124:aCu)(p118:I0)(f118:I4)(p122:Ht)(f122:Hx)(a0 a1:Ab Za)(a2 a3:Ab Zn):Option (DenS KH):=bif(((a2.2.1==(0:Int))&&(a3.2.1==(0:Int)))&&(a2.1==a3.1))then(bif(p118 (a0,a2.1,()))then(some ((f118 (a0,a2.1,())).1,(0:Int),(0:Int),()))else none)else bif((a2.2.1==(0:Int))||((a3.2.1 !=(0:Int))&&(decide (a2.2.2.1<a3.2.2.1))))then(bif(a2.2.1==(0:Int))then(aAk p119 f119 p120 f120 p121 f121 p123 f123 p124 f124 p118 f118 p122 f122 a0 a1 a3.1 a3.2.1 a3.2.2.1 a2.1 a2.2.1 a3.2.2.1)else(aAk p119 f119 p120 f120 p121 f121 p123 f123 p124 f124 p118 f118 p122 f122 a0 a1 a3.1 a3.2.1 a3.2.2.1 a2.1 a2.2.1 a2.2.2.1))else bif(a3.2.1==(0:Int))then(aAk p119 f119 p120 f120 p121 f121 p123 f123 p124 f124 p118 f118 p122 f122 a0 a1 a2.1 a2.2.1 a2.2.2.1 a3.1 a3.2.1 a2.2.2.1)else(aAk p119 f119 p120 f120 p121 f121 p123 f123 p124 f124 p118 f118 p122 f122 a0 a1 a2.1 a2.2.1 a2.2.2.1 a3.1 a3.2.1 a3.2.2.1)
theorem r71(x:DenS Rp):run (cf [(208,⟨HU,Kk,p119,f119⟩),(234,⟨JM,Mz,p120,f120⟩),(235,⟨JN,MA,p121,f121⟩),(236,⟨GU,H8,p123,f123⟩),(237,⟨JO,MB,p124,f124⟩),(64,⟨Fg,FF,p118,f118⟩),(104,⟨Fh,FG,p122,f122⟩)] []) 9 193 Tryz.f193 Rp KH x=t71 p119 f119 p120 f120 p121 f121 p123 f123 p124 f124 p118 f118 p122 f122 x.1 x.2.1 x.2.2.1 x.2.2.2.1:=by kernel_rfl
def XT(x:DenS Rp):Option (DenS KH):=t71 AS.pre AS.F AZ.pre AZ.F NK.pre NK.F EF.pre EF.F B8.pre B8.F B4.pre B4.F Ch.pre Ch.F x.1 x.2.1 x.2.2.1 x.2.2.2.1
def Uu:Sum:=Aj Rp KH XT (DenS.dflt KH)
theorem aV4:Sound Tryz.prog G1 193 Uu:=sd (cf [(208,AS),(234,AZ),(235,NK),(236,EF),(237,B8),(64,B4),(104,Ch)] []) 193 Tryz.f193 ⟨aGx,aUp,aUq,aGy,aUr,Xj,Xk,trivial⟩ trivial Rp KH XT _ (fun _=>r71 ..)
abbrev Y71:=Ag Rp
abbrev Z71:=Af Rp KH
variable (p71:Y71)(f71:Z71)
end Vx
namespace Vx
open Go Go.Proofs
variable (p69:BY)(f69:BZ)(p66:Cd)(f66:Ce)(p91:Hv)(f91:Hz)(p90:iA)(f90:iP)(p65:D8)(f65:D9)(p70:DG)(f70:DH)(p98:Lk)(f98:Ln)(p72:Y72)(f72:Z72)(p155:Dg)(f155:Di)(p157:Hu)(f157:Hy)(p118:I0)(f118:I4)(p105:XV)(f105:X7)(p173:Bz)(f173:BA)(p146:VS)(f146:V5)(p102:Hr)(f102:Hw)(p178:I2)(f178:I6)(p151:Li)(f151:Ll)(p156:rJ)(f156:r8)(p1173:UE)(f1173:UH)(p171:UF)(f171:UI)(p92:Lj)(f92:Lm)(p186:VW)(f186:V8)(p185:VU)(f185:V7)(p176:VT)(f176:V6)(p143:OB)(f143:OE)(p97:OD)(f97:OG)(p107:XW)(f107:X8)(p122:Ht)(f122:Hx)(p71:Y71)(f71:Z71)
abbrev Mb:Aa:=[(false,Za),(false,Za),(false,Zb),(false,Zb)]
abbrev MG:Aa:=[(false,Zb),(false,Za),(false,Za)]
def xT(p69:BY)(f69:BZ)(p65:D8)(f65:D9)(p70:DG)(f70:DH)(p72:Y72)(f72:Z72)(p71:Y71)(f71:Z71)(a0 a1:Ab Za)(a2 a3:Ab Zb):Option (DenS MG):=let e1_:=(a0,a1,(f72 (a0,(f69 (a0,())).1,a2,())).1,(f72 (a0,(f69 (a0,())).1,a3,())));let e2_:=(((f65 (a0,a2,())).1==(2:Int))||((f65 (a0,a2,())).1==(9:Int)));let e3_:=(((f65 (a0,a3,())).1==(2:Int))||((f65 (a0,a3,())).1==(9:Int)));let e4_:=((f70 (a0,())).1,(1:Int),(0:Int),());bif(p69 (a0,()))then(bif((f69 (a0,())).2.1 !=(0:Int))then(some ((0:Int),(0:Int),(f69 (a0,())).2))else bif((decide (a1<(0:Int)))||(decide (a1>(5:Int))))then(some ((0:Int),(0:Int),(3:Int),()))else bif(p65 (a0,a2,()))then(bif((f65 (a0,a2,())).2.1 !=(0:Int))then(some ((0:Int),(0:Int),(f65 (a0,a2,())).2))else bif(p65 (a0,a3,()))then(bif((f65 (a0,a3,())).2.1 !=(0:Int))then(some ((0:Int),(0:Int),(f65 (a0,a3,())).2))else bif(p70 (a0,()))then(bif(((f65 (a0,a2,())).1==(0:Int))||((f65 (a0,a3,())).1==(0:Int)))then(some e4_)else bif(((f65 (a0,a2,())).1==(1:Int))||((f65 (a0,a3,())).1==(1:Int)))then(some ((f70 (a0,())).1,(0:Int),(0:Int),()))else bif((e2_&&e3_)&&((f65 (a0,a2,())).1 !=(f65 (a0,a3,())).1))then(some e4_)else bif e2_ then(some (a2,(0:Int),(0:Int),()))else bif e3_ then(some (a3,(0:Int),(0:Int),()))else bif(p72 (a0,(f69 (a0,())).1,a2,()))then(bif(p72 (a0,(f69 (a0,())).1,a3,()))then(bif(p71 e1_)then(some (f71 e1_))else none)else none)else none)else none)else none)else none)else none
theorem r27(x:DenS Mb):run (cf [(71,⟨Cb,Cc,p69,f69⟩),(59,⟨D2,D3,p65,f65⟩),(61,⟨DA,DB,p70,f70⟩),(194,⟨Rq,Tt,p72,f72⟩),(193,⟨Rp,KH,p71,f71⟩)] []) 9 158 Tryz.f158 Mb MG x=xT p69 f69 p65 f65 p70 f70 p72 f72 p71 f71 x.1 x.2.1 x.2.2.1 x.2.2.2.1:=by kernel_rfl
def dH(x:DenS Mb):Option (DenS MG):=xT As.pre As.F By.pre By.F Bp.pre Bp.F Uv.pre Uv.F Uu.pre Uu.F x.1 x.2.1 x.2.2.1 x.2.2.2.1
def FR:Sum:=Aj Mb MG dH (DenS.dflt MG)
theorem aAX:Sound Tryz.prog G1 158 FR:=sd (cf [(71,As),(59,By),(61,Bp),(194,Uv),(193,Uu)] []) 158 Tryz.f158 ⟨DQ,IX,GJ,aV5,aV4,trivial⟩ trivial Mb MG dH _ (fun _=>r27 ..)
abbrev rL:=Ag Mb
abbrev sA:=Af Mb MG
variable (p27:rL)(f27:sA)
abbrev JK:Aa:=[(false,Za)]
abbrev Ki:Aa:=[(false,Zb)]
def aRI(a0:Ab Za):Option (DenS Ki):=let e1_:=(aa .i64 ((Vx.k_rows.getD (ag a0) ((0:Int),(0:Int),(0:Int),(0:Int),())).1-(1:Int)));bif((decide ((0:Int)<=a0))&&(decide (a0<((4:Nat):Int))))then(bif(decide ((0:Int)<=e1_))then(some ((Bj .u64 (1:Int) e1_),()))else none)else none
theorem bEd(x:DenS JK):run (cf [] []) 9 233 Tryz.f233 JK Ki x=aRI x.1:=by kernel_rfl
def cC(x:DenS JK):Option (DenS Ki):=aRI x.1
def FQ:Sum:=Aj JK Ki cC (DenS.dflt Ki)
theorem aAM:Sound Tryz.prog G1 233 FQ:=sd (cf [] []) 233 Tryz.f233 trivial trivial JK Ki cC _ (fun _=>bEd ..)
abbrev gQ:=Ag JK
abbrev iD:=Af JK Ki
variable (p115:gQ)(f115:iD)
abbrev J7:Aa:=[(false,Za),(false,Zb)]
abbrev KG:Aa:=[(false,Zb),(false,Za)]
def zU(p66:Cd)(f66:Ce)(p115:gQ)(f115:iD)(a0:Ab Za)(a1:Ab Zb):Option (DenS KG):=bif(p66 (a0,a1,()))then(bif((f66 (a0,a1,())).1 !=(0:Int))then(some ((0:Int),(f66 (a0,a1,()))))else bif(p115 (a0,()))then(some ((lX .u64 a1 (f115 (a0,())).1),(0:Int),()))else none)else none
theorem r64(x:DenS J7):run (cf [(85,⟨Cx,Cy,p66,f66⟩),(233,⟨JK,Ki,p115,f115⟩)] []) 9 187 Tryz.f187 J7 KG x=zU p66 f66 p115 f115 x.1 x.2.1:=by kernel_rfl
def fQ(x:DenS J7):Option (DenS KG):=zU Aw.pre Aw.F FQ.pre FQ.F x.1 x.2.1
def Fp:Sum:=Aj J7 KG fQ (DenS.dflt KG)
theorem pM:Sound Tryz.prog G1 187 Fp:=sd (cf [(85,Aw),(233,FQ)] []) 187 Tryz.f187 ⟨FT,aAM,trivial⟩ trivial J7 KG fQ _ (fun _=>r64 ..)
abbrev X3:=Ag J7
abbrev Yf:=Af J7 KG
variable (p64:X3)(f64:Yf)
abbrev PR:Aa:=[(false,Za),(false,Za),(false,Zb),(false,Zb)]
abbrev RV:Aa:=[(false,Zb),(false,Za),(false,Za)]
def xR(p66:Cd)(f66:Ce)(p64:X3)(f64:Yf)(p27:rL)(f27:sA)(a0 a1:Ab Za)(a2 a3:Ab Zb):Option (DenS RV):=let e1_:=(a0,a1,a2,(f64 (a0,a3,())).1,());bif(p66 (a0,a3,()))then(bif((f66 (a0,a3,())).1==(0:Int))then(bif(p64 (a0,a3,()))then(bif(p27 e1_)then(some (f27 e1_))else none)else none)else bif(p27 (a0,a1,a2,a3,()))then(some (f27 (a0,a1,a2,a3,())))else none)else none
theorem r25(x:DenS PR):run (cf [(85,⟨Cx,Cy,p66,f66⟩),(187,⟨J7,KG,p64,f64⟩),(158,⟨Mb,MG,p27,f27⟩)] []) 9 159 Tryz.f159 PR RV x=xR p66 f66 p64 f64 p27 f27 x.1 x.2.1 x.2.2.1 x.2.2.2.1:=by kernel_rfl
def dG(x:DenS PR):Option (DenS RV):=xR Aw.pre Aw.F Fp.pre Fp.F FR.pre FR.F x.1 x.2.1 x.2.2.1 x.2.2.2.1
def NL:Sum:=Aj PR RV dG (DenS.dflt RV)
theorem aGJ:Sound Tryz.prog G1 159 NL:=sd (cf [(85,Aw),(187,Fp),(158,FR)] []) 159 Tryz.f159 ⟨FT,pM,aAX,trivial⟩ trivial PR RV dG _ (fun _=>r25 ..)
abbrev Y25:=Ag PR
abbrev Z25:=Af PR RV
variable (p25:Y25)(f25:Z25)
abbrev P5:Aa:=[(false,Za),(true,Zw),(false,Zb)]
abbrev R8:Aa:=[(true,Zt),(false,Za)]
def aH(p65:D8)(f65:D9)(p98:Lk)(f98:Ln)(a0:Ab Za)(a1:Ab Zw)(a2:Ab Zb):Option (DenS R8):=let e1_:=(aa .i64 (a1.2.1-(1:Int)));bif(p65 (a0,a2,()))then(bif((f65 (a0,a2,())).2.1 !=(0:Int))then(some (((0:Int),false,(0:Int),(0:Int),()),(f65 (a0,a2,())).2))else bif(p98 (a0,a2,()))then(bif((f98 (a0,a2,())).2.1==(0:Int))then(some (((f65 (a0,a2,())).1,(f98 (a0,a2,())).1,(f98 (a0,a2,())).2.2.1,(aa .i64 ((aa .i64 ((aa .i64 ((aa .i64 ((aa .i64 (1:Int))-(1:Int)))+a1.2.2.1))-a1.2.1))+(1:Int))),()),(0:Int),()))else bif(decide ((0:Int)<=e1_))then(some (((f65 (a0,a2,())).1,(f98 (a0,a2,())).1,(Ak .u64 (f98 (a0,a2,())).2.2.1 (Bj .u64 (1:Int) e1_)),(aa .i64 ((aa .i64 ((aa .i64 ((aa .i64 ((aa .i64 (f98 (a0,a2,())).2.1)-(1:Int)))+a1.2.2.1))-a1.2.1))+(1:Int))),()),(0:Int),()))else none)else none)else none
theorem bFu(x:DenS P5):run (cf [(59,⟨D2,D3,p65,f65⟩),(91,⟨Fx,FK,p98,f98⟩)] []) 9 195 Tryz.f195 P5 R8 x=aH p65 f65 p98 f98 x.1 x.2.1 x.2.2.1:=by kernel_rfl
def XH(x:DenS P5):Option (DenS R8):=aH By.pre By.F Ck.pre Ck.F x.1 x.2.1 x.2.2.1
def TM:Sum:=Aj P5 R8 XH (DenS.dflt R8)
theorem aU2:Sound Tryz.prog G1 195 TM:=sd (cf [(59,By),(91,Ck)] []) 195 Tryz.f195 ⟨IX,Vy,trivial⟩ trivial P5 R8 XH _ (fun _=>bFu ..)
abbrev aJ2:=Ag P5
abbrev aLB:=Af P5 R8
variable (p350:aJ2)(f350:aLB)
abbrev P6:Aa:=[(true,Zt)]
abbrev R9:Aa:=[(false,.bool)]
def aR4(a0:Ab Zt):Option (DenS R9):=some (((a0.1==(1:Int))||(a0.1==(0:Int))),())
theorem bFv(x:DenS P6):run (cf [] []) 9 196 Tryz.f196 P6 R9 x=aR4 x.1:=by kernel_rfl
def dS(x:DenS P6):Option (DenS R9):=aR4 x.1
def TN:Sum:=Aj P6 R9 dS (DenS.dflt R9)
theorem aU3:Sound Tryz.prog G1 196 TN:=sd (cf [] []) 196 Tryz.f196 trivial trivial P6 R9 dS _ (fun _=>bFv ..)
abbrev aJ3:=Ag P6
abbrev aLC:=Af P6 R9
variable (p351:aJ3)(f351:aLC)
abbrev P7:Aa:=[(true,Zt)]
abbrev Sa:Aa:=[(false,.bool)]
def aR5(a0:Ab Zt):Option (DenS Sa):=some (((a0.1==(2:Int))||(a0.1==(9:Int))),())
theorem bFw(x:DenS P7):run (cf [] []) 9 197 Tryz.f197 P7 Sa x=aR5 x.1:=by kernel_rfl
def dT(x:DenS P7):Option (DenS Sa):=aR5 x.1
def TO:Sum:=Aj P7 Sa dT (DenS.dflt Sa)
theorem aU4:Sound Tryz.prog G1 197 TO:=sd (cf [] []) 197 Tryz.f197 trivial trivial P7 Sa dT _ (fun _=>bFw ..)
abbrev aJ4:=Ag P7
abbrev aLD:=Af P7 Sa
variable (p352:aJ4)(f352:aLD)
abbrev P8:Aa:=[(true,Zt)]
abbrev Sb:Aa:=[(false,.bool)]
def aR6(a0:Ab Zt):Option (DenS Sb):=some (((a0.1==(5:Int))||(a0.1==(6:Int))),())
theorem bFx(x:DenS P8):run (cf [] []) 9 198 Tryz.f198 P8 Sb x=aR6 x.1:=by kernel_rfl
def dU(x:DenS P8):Option (DenS Sb):=aR6 x.1
def TP:Sum:=Aj P8 Sb dU (DenS.dflt Sb)
theorem aU5:Sound Tryz.prog G1 198 TP:=sd (cf [] []) 198 Tryz.f198 trivial trivial P8 Sb dU _ (fun _=>bFx ..)
abbrev aJ5:=Ag P8
abbrev aLE:=Af P8 Sb
variable (p353:aJ5)(f353:aLE)
abbrev EQ:Aa:=[(false,Zb),(false,Zb)]
abbrev EU:Aa:=[(false,Zb),(false,Zb)]
def xV(a0 a1:Ab Zb):Option (DenS EU):=let e2_:=(BS .u64 a1 (4294967295:Int));let e3_:=(BS .u64 a0 (4294967295:Int));let e1_:=(aa .u64 ((aa .u64 ((AQ .u64 a0 (32:Int))*e2_))+(AQ .u64 (aa .u64 (e3_*e2_)) (32:Int))));some ((aa .u64 ((aa .u64 ((aa .u64 ((AQ .u64 a0 (32:Int))*(AQ .u64 a1 (32:Int))))+(AQ .u64 e1_ (32:Int))))+(AQ .u64 (aa .u64 ((BS .u64 e1_ (4294967295:Int))+(aa .u64 (e3_*(AQ .u64 a1 (32:Int)))))) (32:Int)))),(aa .u64 (a0*a1)),())
theorem bFf(x:DenS EQ):run (cf [] []) 9 120 Tryz.f120 EQ EU x=xV x.1 x.2.1:=by kernel_rfl
def dI(x:DenS EQ):Option (DenS EU):=xV x.1 x.2.1
def Bo:Sum:=Aj EQ EU dI (DenS.dflt EU)
theorem oI:Sound Tryz.prog G1 120 Bo:=sd (cf [] []) 120 Tryz.f120 trivial trivial EQ EU dI _ (fun _=>bFf ..)
abbrev E3:=Ag EQ
abbrev E5:=Af EQ EU
variable (p315:E3)(f315:E5)
abbrev JW:Aa:=[(false,Zb),(false,Zb)]
abbrev Ks:Aa:=[(true,Zj)]
def xW(p315:E3)(f315:E5)(a0 a1:Ab Zb):Option (DenS Ks):=bif(p315 (a0,a1,()))then(some ((f315 (a0,a1,())),()))else none
theorem bFg(x:DenS JW):run (cf [(120,⟨EQ,EU,p315,f315⟩)] []) 9 199 Tryz.f199 JW Ks x=xW p315 f315 x.1 x.2.1:=by kernel_rfl
def dJ(x:DenS JW):Option (DenS Ks):=xW Bo.pre Bo.F x.1 x.2.1
def EG:Sum:=Aj JW Ks dJ (DenS.dflt Ks)
theorem aGL:Sound Tryz.prog G1 199 EG:=sd (cf [(120,Bo)] []) 199 Tryz.f199 ⟨oI,trivial⟩ trivial JW Ks dJ _ (fun _=>bFg ..)
abbrev X0:=Ag JW
abbrev Yc:=Af JW Ks
variable (p316:X0)(f316:Yc)
abbrev P9:Aa:=[(false,Za),(false,Za),(false,Zb),(false,Zb)]
abbrev Sc:Aa:=[(false,Zb),(false,Za),(false,Za)]
def yA(p69:BY)(f69:BZ)(p350:aJ2)(f350:aLB)(p351:aJ3)(f351:aLC)(p70:DG)(f70:DH)(p352:aJ4)(f352:aLD)(p97:OD)(f97:OG)(p353:aJ5)(f353:aLE)(p118:I0)(f118:I4)(p316:X0)(f316:Yc)(p122:Ht)(f122:Hx)(a0 a1:Ab Za)(a2 a3:Ab Zb):Option (DenS Sc):=let e18_:=(!((f350 (a0,(f69 (a0,())).1,a2,())).1.2.1==(f350 (a0,(f69 (a0,())).1,a3,())).1.2.1));let e17_:=((f350 (a0,(f69 (a0,())).1,a2,())).1.2.2.1,(f350 (a0,(f69 (a0,())).1,a3,())).1.2.2.1,());let e1_:=(a0,a1,e18_,(f316 e17_).1,(aa .i64 ((f350 (a0,(f69 (a0,())).1,a2,())).1.2.2.2.1+(f350 (a0,(f69 (a0,())).1,a3,())).1.2.2.2.1)),false,());let e20_:=((f350 (a0,(f69 (a0,())).1,a2,())).1,());let e19_:=(f352 e20_);let e21_:=((f350 (a0,(f69 (a0,())).1,a3,())).1,());let e2_:=(e19_.1&&(f353 e21_).1);let e16_:=(a0,e18_,());let e3_:=(f118 e16_);let e4_:=(f97 e16_);let e5_:=e16_;let e6_:=(f353 e20_);let e7_:=e19_;let e8_:=(f351 e20_);let e9_:=(p352 e20_);let e10_:=(p353 e21_);let e11_:=(p353 e20_);let e12_:=(p352 e21_);let e13_:=(f352 e21_);let e14_:=e21_;let e15_:=((f70 (a0,())).1,(1:Int),(f70 (a0,())).2);bif(p69 (a0,()))then(bif((f69 (a0,())).2.1 !=(0:Int))then(some ((0:Int),(0:Int),(f69 (a0,())).2))else bif((decide (a1<(0:Int)))||(decide (a1>(5:Int))))then(some ((0:Int),(0:Int),(3:Int),()))else bif(p350 (a0,(f69 (a0,())).1,a2,()))then(bif((f350 (a0,(f69 (a0,())).1,a2,())).2.1 !=(0:Int))then(some ((0:Int),(0:Int),(f350 (a0,(f69 (a0,())).1,a2,())).2))else bif(p350 (a0,(f69 (a0,())).1,a3,()))then(bif((f350 (a0,(f69 (a0,())).1,a3,())).2.1 !=(0:Int))then(some ((0:Int),(0:Int),(f350 (a0,(f69 (a0,())).1,a3,())).2))else bif(p351 e20_)then(bif((p351 e14_)||(!(bif e8_.1 then false else true)))then(bif(e8_.1||(f351 e14_).1)then(bif(((f350 (a0,(f69 (a0,())).1,a2,())).1.1==(0:Int))||((f350 (a0,(f69 (a0,())).1,a3,())).1.1==(0:Int)))then(bif(p70 (a0,()))then(some e15_)else none)else bif(p70 (a0,()))then(some ((f70 (a0,())).1,(0:Int),(f70 (a0,())).2))else none)else bif e9_ then(bif(e10_||(!e7_.1))then(bif(e11_||(!(bif e2_ then false else true)))then(bif(e12_||(!((bif e2_ then false else true)&&e6_.1)))then(bif(e2_||(e6_.1&&e13_.1))then(bif(p70 (a0,()))then(some e15_)else none)else bif e9_ then(bif(e12_||(!(bif e7_.1 then false else true)))then(bif(e7_.1||e13_.1)then(bif(p97 e5_)then(some (e4_.1,(0:Int),e4_.2))else none)else bif e11_ then(bif(e10_||(!(bif e6_.1 then false else true)))then(bif(e6_.1||(f353 e14_).1)then(bif(p118 e5_)then(some (e3_.1,(0:Int),e3_.2))else none)else bif(p316 e17_)then(bif(p122 e1_)then(some (f122 e1_))else none)else none)else none)else none)else none)else none)else none)else none)else none)else none)else none)else none)else none)else none)else none
theorem bFy(x:DenS P9):run (cf [(71,⟨Cb,Cc,p69,f69⟩),(195,⟨P5,R8,p350,f350⟩),(196,⟨P6,R9,p351,f351⟩),(61,⟨DA,DB,p70,f70⟩),(197,⟨P7,Sa,p352,f352⟩),(62,⟨G0,Hg,p97,f97⟩),(198,⟨P8,Sb,p353,f353⟩),(64,⟨Fg,FF,p118,f118⟩),(199,⟨JW,Ks,p316,f316⟩),(104,⟨Fh,FG,p122,f122⟩)] []) 9 160 Tryz.f160 P9 Sc x=yA p69 f69 p350 f350 p351 f351 p70 f70 p352 f352 p97 f97 p353 f353 p118 f118 p316 f316 p122 f122 x.1 x.2.1 x.2.2.1 x.2.2.2.1:=by kernel_rfl
def dV(x:DenS P9):Option (DenS Sc):=yA As.pre As.F TM.pre TM.F TN.pre TN.F Bp.pre Bp.F TO.pre TO.F CR.pre CR.F TP.pre TP.F B4.pre B4.F EG.pre EG.F Ch.pre Ch.F x.1 x.2.1 x.2.2.1 x.2.2.2.1
def NM:Sum:=Aj P9 Sc dV (DenS.dflt Sc)
theorem aGN:Sound Tryz.prog G1 160 NM:=sd (cf [(71,As),(195,TM),(196,TN),(61,Bp),(197,TO),(62,CR),(198,TP),(64,B4),(199,EG),(104,Ch)] []) 160 Tryz.f160 ⟨DQ,aU2,aU3,GJ,aU4,bZ,aU5,Xj,aGL,Xk,trivial⟩ trivial P9 Sc dV _ (fun _=>bFy ..)
abbrev aBR:=Ag P9
abbrev aCH:=Af P9 Sc
variable (p354:aBR)(f354:aCH)
abbrev Qb:Aa:=[(false,Za),(false,Za),(false,Ze)]
abbrev Se:Aa:=[(false,Za)]
abbrev IL:Pat:=⟨39,[(27,.one (.v .i64)),(26,.one (.sl Zb)),(0,.one (.v .i64)),(28,.one (.v .i64))],[]⟩
abbrev nD:List (Nat×Shape):=[]
abbrev Oq:List (Nat×Pat):=[(0,⟨39,[],[]⟩)]
abbrev NB:Option Pat:=(some ⟨39,[(6,.one (.v .i64))],[]⟩)
variable (w376_7:Pat.D IL->Option (Ad Oq NB))
def Y8(p69:BY)(f69:BZ)(p66:Cd)(f66:Ce){R:Type}(L:Pat.D IL->Option R)(e:Ad Oq NB->Option R)(x:Pat.D IL):Option R:=let e2_:=(x.1.2.2.1,(x.1.2.1.getD (ag x.1.2.2.2.1) (0:Int)),());let e1_:=(f66 e2_);bif(decide (x.1.2.2.2.1<x.1.1))then(bif((decide ((0:Int)<=x.1.2.2.2.1))&&(decide (x.1.2.2.2.1<(x.1.2.1.length:Int))))then(bif(p66 e2_)then(bif(e1_.1 !=(0:Int))then(((e (.inr (e1_,())))))else(L ((x.1.1,x.1.2.1,x.1.2.2.1,(aa .i64 (x.1.2.2.2.1+(1:Int))),()),())))else none)else none)else(e (.inl ((),())))
theorem bIG(d:Nat)(R:Type)(L:Pat.D IL->Option R)(e:Ad Oq NB->Option R)(x:Pat.D IL):
  Bv (cf [(71,⟨Cb,Cc,p69,f69⟩),(85,⟨Cx,Cy,p66,f66⟩)] [(200,7,LoopSpec.of IL nD Oq NB w376_7)]) (d+2) 200 (Bu Tryz.f200 7) IL nD Oq NB (R:=R) L e x=Y8 p69 f69 p66 f66 L e x:=by kernel_rfl
theorem aPH(p69:BY)(f69:BZ)(p66:Cd)(f66:Ce):Bt fun L e x=>Y8 p69 f69 p66 f66 L e x:=by intro _ _ _ _ _ _ _ h0 hL he _;unfold Y8;repeat' (first|exact h0|exact hL _|exact he _|apply BJ|(apply BK h0;intro _)|(apply BL<;>intro _))
def yB(p69:BY)(f69:BZ)(p66:Cd)(f66:Ce)(w376_7:Pat.D IL->Option (Ad Oq NB))(a0 a1:Ab Za)(a2:Ab Ze):Option (DenS Se):=
 bif(p69 (a0,()))then(bif((f69 (a0,())).2.1 !=(0:Int))then(some (f69 (a0,())).2)
 else bif((decide (a1<(0:Int)))||(decide (a1>(5:Int))))then(some ((3:Int),()))
 else Vx.Bi (w376_7 (((a2.length:Int),a2,a0,(0:Int),()),())) fun y3=>
 Vx.Bg y3 (fun y4=>
 some ((0:Int),())) (fun z4=>
 some z4.1))
 else none
theorem bFB(x:DenS Qb):run (cf [(71,⟨Cb,Cc,p69,f69⟩),(85,⟨Cx,Cy,p66,f66⟩)] [(200,7,LoopSpec.of IL nD Oq NB w376_7)]) 9 200 Tryz.f200 Qb Se x=yB p69 f69 p66 f66 w376_7 x.1 x.2.1 x.2.2.1:=by kernel_rfl
def qZ:IL.D->Option (Ad Oq NB):=Bn fun L=>Y8 As.pre As.F Aw.pre Aw.F L some
def XJ(x:DenS Qb):Option (DenS Se):=yB As.pre As.F Aw.pre Aw.F qZ x.1 x.2.1 x.2.2.1
def TQ:Sum:=Aj Qb Se XJ (DenS.dflt Se)
theorem aU7:Sound Tryz.prog G1 200 TQ:=sd (cf [(71,As),(85,Aw)] [(200,7,LoopSpec.of IL nD Oq NB qZ)]) 200 Tryz.f200 ⟨DQ,FT,trivial⟩ ⟨rfl,fun d=>BI (fun L e x=>Y8 As.pre As.F Aw.pre Aw.F L e x) (aPH As.pre As.F Aw.pre Aw.F) (fun _ _ _ _=>bIG ..),trivial⟩ Qb Se XJ _ (fun _=>bFB ..)
abbrev aJ7:=Ag Qb
abbrev aLG:=Af Qb Se
variable (p376:aJ7)(f376:aLG)
abbrev Qc:Aa:=[(false,Za),(false,Zb)]
abbrev Sf:Aa:=[(true,.pair .bool (.pair .bool (.pair .bool (.pair .bool Zd))))]
def yC(p65:D8)(f65:D9)(p98:Lk)(f98:Ln)(a0:Ab Za)(a1:Ab Zb):Option (DenS Sf):=bif(p65 (a0,a1,()))then(bif(p98 (a0,a1,()))then(some (((((f65 (a0,a1,())).1==(1:Int))||((f65 (a0,a1,())).1==(0:Int))),((f65 (a0,a1,())).1==(0:Int)),(((f65 (a0,a1,())).1==(9:Int))||((f65 (a0,a1,())).1==(2:Int))),(((f65 (a0,a1,())).1==(6:Int))||((f65 (a0,a1,())).1==(5:Int))),(f98 (a0,a1,())).1,()),()))else none)else none
theorem bFC(x:DenS Qc):run (cf [(59,⟨D2,D3,p65,f65⟩),(91,⟨Fx,FK,p98,f98⟩)] []) 9 201 Tryz.f201 Qc Sf x=yC p65 f65 p98 f98 x.1 x.2.1:=by kernel_rfl
def dX(x:DenS Qc):Option (DenS Sf):=yC By.pre By.F Ck.pre Ck.F x.1 x.2.1
def TR:Sum:=Aj Qc Sf dX (DenS.dflt Sf)
theorem aU8:Sound Tryz.prog G1 201 TR:=sd (cf [(59,By),(91,Ck)] []) 201 Tryz.f201 ⟨IX,Vy,trivial⟩ trivial Qc Sf dX _ (fun _=>bFC ..)
abbrev aJ8:=Ag Qc
abbrev aLH:=Af Qc Sf
variable (p377:aJ8)(f377:aLH)
abbrev Qd:Aa:=[(false,Za),(false,Za)]
abbrev Sg:Aa:=[(false,Zb),(false,Za),(false,Za)]
def yD(p70:DG)(f70:DH)(a0 a1:Ab Za):Option (DenS Sg):=bif(p70 (a0,()))then(some ((f70 (a0,())).1,a1,(f70 (a0,())).2))else none
theorem bFD(x:DenS Qd):run (cf [(61,⟨DA,DB,p70,f70⟩)] []) 9 202 Tryz.f202 Qd Sg x=yD p70 f70 x.1 x.2.1:=by kernel_rfl
def dY(x:DenS Qd):Option (DenS Sg):=yD Bp.pre Bp.F x.1 x.2.1
def TS:Sum:=Aj Qd Sg dY (DenS.dflt Sg)
theorem aU9:Sound Tryz.prog G1 202 TS:=sd (cf [(61,Bp)] []) 202 Tryz.f202 ⟨GJ,trivial⟩ trivial Qd Sg dY _ (fun _=>bFD ..)
abbrev aJ9:=Ag Qd
abbrev aLI:=Af Qd Sg
variable (p378:aJ9)(f378:aLI)
abbrev GW:Aa:=[(false,Za),(false,Zb)]
abbrev Hc:Aa:=[(true,Zs),(false,Za)]
def yI(p66:Cd)(f66:Ce)(p90:iA)(f90:iP)(p91:Hv)(f91:Hz)(p92:Lj)(f92:Lm)(a0:Ab Za)(a1:Ab Zb):Option (DenS Hc):=let e10_:=(Vx.k_rows.getD (ag a0) ((0:Int),(0:Int),(0:Int),(0:Int),()));let e9_:=(f90 (e10_,a1,()));let e8_:=(Ak .u64 e9_.2.2.1 (Bj .u64 (1:Int) (aa .i64 (e10_.2.1-(1:Int)))));let e1_:=(f92 (e8_,()));let e2_:=e8_;let e3_:=((aa .i64 (e10_.1-e10_.2.1)),());let e4_:=(f92 e9_.2.2);let e5_:=e9_;let e6_:=e10_;let e7_:=((false,[],(0:Int),()),(0:Int),());bif(p66 (a0,a1,()))then(bif((f66 (a0,a1,())).1 !=(0:Int))then(some ((false,[],(0:Int),()),(f66 (a0,a1,()))))else bif(bif(decide ((0:Int)<=a0))then(decide (a0<((4:Nat):Int)))else false)then(bif(p90 (e6_,a1,()))then(bif(p91 e3_)then(bif(e5_.2.1==(f91 e3_).1)then(some ((false,[],(0:Int),()),(40:Int),()))else bif(e5_.2.1==(0:Int))then(bif(e5_.2.2.1==(0:Int))then(some e7_)else bif(p92 e5_.2.2)then(bif(decide ((0:Int)<=e4_.1))then(some ((e5_.1,((AQ .u64 e5_.2.2.1 e4_.1)::[]),(aa .i64 ((aa .i64 ((aa .i64 ((aa .i64 ((aa .i64 ((aa .i64 (1:Int))-(1:Int)))+e6_.2.2.1))-e6_.2.1))+(1:Int)))+e4_.1)),()),(0:Int),()))else none)else none)else bif(decide ((0:Int)<=(aa .i64 (e6_.2.1-(1:Int)))))then(bif(e2_==(0:Int))then(some e7_)else bif(p92 (e2_,()))then(bif(decide ((0:Int)<=e1_.1))then(some ((e5_.1,((AQ .u64 e2_ e1_.1)::[]),(aa .i64 ((aa .i64 ((aa .i64 ((aa .i64 ((aa .i64 ((aa .i64 e5_.2.1)-(1:Int)))+e6_.2.2.1))-e6_.2.1))+(1:Int)))+e1_.1)),()),(0:Int),()))else none)else none)else none)else none)else none)else none)else none
theorem r40(x:DenS GW):run (cf [(85,⟨Cx,Cy,p66,f66⟩),(87,⟨Kd,KN,p90,f90⟩),(72,⟨ES,EW,p91,f91⟩),(191,⟨GZ,Hf,p92,f92⟩)] []) 9 203 Tryz.f203 GW Hc x=yI p66 f66 p90 f90 p91 f91 p92 f92 x.1 x.2.1:=by kernel_rfl
def eD(x:DenS GW):Option (DenS Hc):=yI Aw.pre Aw.F DR.pre DR.F B2.pre B2.F Cu.pre Cu.F x.1 x.2.1
def DP:Sum:=Aj GW Hc eD (DenS.dflt Hc)
theorem bN:Sound Tryz.prog G1 203 DP:=sd (cf [(85,Aw),(87,DR),(72,B2),(191,Cu)] []) 203 Tryz.f203 ⟨FT,aBf,NP,aBg,trivial⟩ trivial GW Hc eD _ (fun _=>r40 ..)
abbrev UG:=Ag GW
abbrev UJ:=Af GW Hc
variable (p40:UG)(f40:UJ)
abbrev JJ:Aa:=[(false,Ze)]
abbrev Kh:Aa:=[(true,Ze)]
def wE(p173:Bz)(f173:BA)(a0:Ab Ze):Option (DenS Kh):=let e1_:=(aq (ag ((f173 (a0,())).1.length:Int)) (0:Int));bif(p173 (a0,()))then(bif((decide ((0:Int)<=((f173 (a0,())).1.length:Int)))&&(decide ((((f173 (a0,())).1.length:Int)*(8:Int))<=(140737488355328:Int))))then(some ((((f173 (a0,())).1.take e1_.length)++(e1_.drop (f173 (a0,())).1.length)),()))else none)else none
theorem bEc(x:DenS JJ):run ({cf [(93,⟨BW,BX,p173,f173⟩)] []with keep:=true}) 9 116 Tryz.f116 JJ Kh x=wE p173 f173 x.1:=by kernel_rfl
def VA(x:DenS JJ):Option (DenS Kh):=wE Am.pre Am.F x.1
def DC:Sum:=Aj JJ Kh VA (DenS.dflt Kh)
theorem aGv:Sound Tryz.prog G1 116 DC:=sd ({cf [(93,Am)] []with keep:=true}) 116 Tryz.f116 ⟨Ep,trivial⟩ trivial JJ Kh VA _ (fun _=>bEc ..)
abbrev gP:=Ag JJ
abbrev iC:=Af JJ Kh
variable (p1146:gP)(f1146:iC)
abbrev GV:Aa:=[(false,Zb)]
abbrev Hb:Aa:=[(false,Za)]
def xY(p178:I2)(f178:I6)(a0:Ab Zb):Option (DenS Hb):=bif(p178 (a0,()))then(some ((aa .i64 ((64:Int)-(f178 (a0,())).1)),()))else none
theorem bFm(x:DenS GV):run (cf [(115,⟨Gg,FI,p178,f178⟩)] []) 9 118 Tryz.f118 GV Hb x=xY p178 f178 x.1:=by kernel_rfl
def dL(x:DenS GV):Option (DenS Hb):=xY CB.pre CB.F x.1
def B6:Sum:=Aj GV Hb dL (DenS.dflt Hb)
theorem aGM:Sound Tryz.prog G1 118 B6:=sd (cf [(115,CB)] []) 118 Tryz.f118 ⟨bF,trivial⟩ trivial GV Hb dL _ (fun _=>bFm ..)
abbrev OC:=Ag GV
abbrev OF:=Af GV Hb
variable (p327:OC)(f327:OF)
abbrev ER:Aa:=[(false,Zb),(false,Zb),(false,Zb)]
abbrev EV:Aa:=[(false,Zb),(false,Zb)]
abbrev Hj:Pat:=⟨135,[(16,.one (.v .u64)),(11,.one (.v .u64)),(13,.one (.v .u64)),(10,.one (.v .u64)),(9,.one (.v .u64)),(15,.one (.v .u64)),(14,.one (.v .u64)),(2,.one (.v .u64)),(8,.one (.v .u64))],[]⟩
abbrev aS:List (Nat×Shape):=[]
abbrev Lb:List (Nat×Pat):=[(0,⟨135,[(11,.one (.v .u64)),(13,.one (.v .u64)),(10,.one (.v .u64)),(9,.one (.v .u64)),(15,.one (.v .u64)),(14,.one (.v .u64)),(2,.one (.v .u64)),(8,.one (.v .u64))],[]⟩)]
abbrev KP:Option Pat:=none
abbrev Hk:Pat:=⟨135,[(10,.one (.v .u64)),(16,.one (.v .u64)),(9,.one (.v .u64)),(15,.one (.v .u64)),(17,.one (.v .u64)),(14,.one (.v .u64)),(18,.one (.v .u64)),(2,.one (.v .u64)),(8,.one (.v .u64))],[]⟩
abbrev aT:List (Nat×Shape):=[]
abbrev Lc:List (Nat×Pat):=[(2,⟨135,[(15,.one (.v .u64)),(17,.one (.v .u64)),(14,.one (.v .u64)),(18,.one (.v .u64)),(2,.one (.v .u64)),(8,.one (.v .u64))],[]⟩)]
abbrev KQ:Option Pat:=none
variable (w328_17:Pat.D Hj->Option (Ad Lb KP))(w328_24:Pat.D Hk->Option (Ad Lc KQ))
def Y2(p327:OC)(f327:OF){R:Type}(L:Pat.D Hk->Option R)(e:Ad Lc KQ->Option R)(x:Pat.D Hk):Option R:=let e1_:=(x.1.2.2.2.1,x.1.2.2.2.2.1,x.1.2.2.2.2.2.1,(aa .u64 (x.1.2.2.2.2.2.2.1-(1:Int))),x.1.2.2.2.2.2.2.2);let e2_:=(aa .u64 (x.1.2.1+x.1.2.2.1));bif((decide (x.1.2.2.2.2.2.2.1>=(4294967296:Int)))||(decide ((aa .u64 (x.1.2.2.2.2.2.2.1*x.1.1))>(aa .u64 ((aa .u64 ((4294967296:Int)*x.1.2.1))+x.1.2.2.2.2.2.1)))))then(bif(decide (e2_>=(4294967296:Int)))then(((e (.inl (e1_,())))))else(L ((x.1.1,e2_,x.1.2.2.1,e1_),())))else(e (.inl (x.1.2.2.2,())))
theorem bIz(d:Nat)(R:Type)(L:Pat.D Hk->Option R)(e:Ad Lc KQ->Option R)(x:Pat.D Hk):
  Bv (cf [(118,⟨GV,Hb,p327,f327⟩)] [(136,17,LoopSpec.of Hj aS Lb KP w328_17),(136,24,LoopSpec.of Hk aT Lc KQ w328_24)]) (d+2) 136 (Bu Tryz.f136 24) Hk aT Lc KQ (R:=R) L e x=Y2 p327 f327 L e x:=by kernel_rfl
theorem aPB(p327:OC)(f327:OF):Bt fun L e x=>Y2 p327 f327 L e x:=by intro _ _ _ _ _ _ _ h0 hL he _;unfold Y2;repeat' (first|exact h0|exact hL _|exact he _|apply BJ|(apply BK h0;intro _)|(apply BL<;>intro _))
def Y1(p327:OC)(f327:OF){R:Type}(L:Pat.D Hj->Option R)(e:Ad Lb KP->Option R)(x:Pat.D Hj):Option R:=let e1_:=(x.1.2.1,x.1.2.2.1,x.1.2.2.2.1,x.1.2.2.2.2.1,(aa .u64 (x.1.2.2.2.2.2.1-(1:Int))),x.1.2.2.2.2.2.2);let e2_:=(aa .u64 (x.1.1+x.1.2.2.2.2.1));bif((decide (x.1.2.2.2.2.2.1>=(4294967296:Int)))||(decide ((aa .u64 (x.1.2.2.2.2.2.1*x.1.2.2.2.1))>(aa .u64 ((aa .u64 ((4294967296:Int)*x.1.1))+x.1.2.2.1)))))then(bif(decide (e2_>=(4294967296:Int)))then(((e (.inl (e1_,())))))else(L ((e2_,e1_),())))else(e (.inl (x.1.2,())))
theorem bIy(d:Nat)(R:Type)(L:Pat.D Hj->Option R)(e:Ad Lb KP->Option R)(x:Pat.D Hj):
  Bv (cf [(118,⟨GV,Hb,p327,f327⟩)] [(136,17,LoopSpec.of Hj aS Lb KP w328_17),(136,24,LoopSpec.of Hk aT Lc KQ w328_24)]) (d+2) 136 (Bu Tryz.f136 17) Hj aS Lb KP (R:=R) L e x=Y1 p327 f327 L e x:=by kernel_rfl
theorem aPA(p327:OC)(f327:OF):Bt fun L e x=>Y1 p327 f327 L e x:=by intro _ _ _ _ _ _ _ h0 hL he _;unfold Y1;repeat' (first|exact h0|exact hL _|exact he _|apply BJ|(apply BK h0;intro _)|(apply BL<;>intro _))
def xZ(p327:OC)(f327:OF)(w328_17:Pat.D Hj->Option (Ad Lb KP))(w328_24:Pat.D Hk->Option (Ad Lc KQ))(a0 a1 a2:Ab Zb):Option (DenS EV):=
 let e9_:=(aa .u64 (f327 (a2,())).1)
 let e6_:=(Ak .u64 (Bj .u64 a0 e9_) (AQ .u64 a1 (aa .u64 ((64:Int)-e9_))))
 let e8_:=(Bj .u64 a2 e9_)
 let e7_:=(AQ .u64 e8_ (32:Int))
 let e1_:=(Bl .u64 e6_ e7_)
 let e2_:=e6_
 let e3_:=e7_
 let e4_:=(Bj .u64 a1 e9_)
 let e5_:=e8_
 bif(a2==(0:Int))then((none))
 else bif(decide (a2<=a0))then((none))
 else bif(a0==(0:Int))then(bif(a2 !=(0:Int))then(bif(a2 !=(0:Int))then(some ((Bl .u64 a1 a2),(gm a1 a2),()))
 else none)
 else none)
 else bif(p327 (a2,()))then(bif(e3_ !=(0:Int))then(Vx.Bi (w328_17 (((aa .u64 (e2_-(aa .u64 (e1_*e3_)))),e2_,(AQ .u64 e4_ (32:Int)),(BS .u64 e5_ (4294967295:Int)),e3_,e1_,(BS .u64 e4_ (4294967295:Int)),e5_,e9_,()),())) fun y5=>
 Vx.Bg y5 (fun y6=>
 bif(y6.1.2.2.2.1 !=(0:Int))then(Vx.Bi (w328_24 ((y6.1.2.2.1,(aa .u64 ((aa .u64 ((aa .u64 ((aa .u64 (y6.1.1*(4294967296:Int)))+y6.1.2.1))-(aa .u64 (y6.1.2.2.2.2.1*y6.1.2.2.2.2.2.2.1))))-(aa .u64 ((Bl .u64 (aa .u64 ((aa .u64 ((aa .u64 (y6.1.1*(4294967296:Int)))+y6.1.2.1))-(aa .u64 (y6.1.2.2.2.2.1*y6.1.2.2.2.2.2.2.1)))) y6.1.2.2.2.1)*y6.1.2.2.2.1)))),y6.1.2.2.2.1,y6.1.2.2.2.2.1,(aa .u64 ((aa .u64 ((aa .u64 (y6.1.1*(4294967296:Int)))+y6.1.2.1))-(aa .u64 (y6.1.2.2.2.2.1*y6.1.2.2.2.2.2.2.1)))),y6.1.2.2.2.2.2.1,(Bl .u64 (aa .u64 ((aa .u64 ((aa .u64 (y6.1.1*(4294967296:Int)))+y6.1.2.1))-(aa .u64 (y6.1.2.2.2.2.1*y6.1.2.2.2.2.2.2.1)))) y6.1.2.2.2.1),y6.1.2.2.2.2.2.2),())) fun y8=>
 Vx.Bg y8 (fun y9=>
 some ((aa .u64 ((aa .u64 (y9.1.1*(4294967296:Int)))+y9.1.2.2.2.1)),(AQ .u64 (aa .u64 ((aa .u64 ((aa .u64 (y9.1.2.1*(4294967296:Int)))+y9.1.2.2.1))-(aa .u64 (y9.1.2.2.2.1*y9.1.2.2.2.2.1)))) y9.1.2.2.2.2.2.1),())) (fun z9=>
 none))
 else none) (fun z6=>
 none))
 else none)
 else none
theorem bFn(x:DenS ER):run (cf [(118,⟨GV,Hb,p327,f327⟩)] [(136,17,LoopSpec.of Hj aS Lb KP w328_17),(136,24,LoopSpec.of Hk aT Lc KQ w328_24)]) 9 136 Tryz.f136 ER EV x=xZ p327 f327 w328_17 w328_24 x.1 x.2.1 x.2.2.1:=by kernel_rfl
def qV:Hk.D->Option (Ad Lc KQ):=Bn fun L=>Y2 B6.pre B6.F L some
def qU:Hj.D->Option (Ad Lb KP):=Bn fun L=>Y1 B6.pre B6.F L some
def dM(x:DenS ER):Option (DenS EV):=xZ B6.pre B6.F qU qV x.1 x.2.1 x.2.2.1
def Bq:Sum:=Aj ER EV dM (DenS.dflt EV)
theorem oN:Sound Tryz.prog G1 136 Bq:=sd (cf [(118,B6)] [(136,17,LoopSpec.of Hj aS Lb KP qU),(136,24,LoopSpec.of Hk aT Lc KQ qV)]) 136 Tryz.f136 ⟨aGM,trivial⟩ ⟨rfl,fun d=>BI (fun L e x=>Y1 B6.pre B6.F L e x) (aPA B6.pre B6.F) (fun _ _ _ _=>bIy ..),⟨rfl,fun d=>BI (fun L e x=>Y2 B6.pre B6.F L e x) (aPB B6.pre B6.F) (fun _ _ _ _=>bIz ..),trivial⟩⟩ ER EV dM _ (fun _=>bFn ..)
abbrev E4:=Ag ER
abbrev E6:=Af ER EV
variable (p328:E4)(f328:E6)
abbrev L7:Aa:=[(true,Ze),(false,Zb)]
abbrev MD:Aa:=[(false,Ze),(false,Zb)]
abbrev Gp:Pat:=⟨31,[(1,.one (.v .u64)),(7,.one (.v .i64)),(0,.one (.own 0)),(6,.one (.v .u64))],[.arr Zb]⟩
abbrev mL:List (Nat×Shape):=[]
abbrev N4:List (Nat×Pat):=[(0,⟨31,[(0,.one (.own 0)),(6,.one (.v .u64))],[.arr Zb]⟩)]
abbrev Nh:Option Pat:=none
variable (w1329_3:Pat.D Gp->Option (Ad N4 Nh))
def YP(p328:E4)(f328:E6)(p173:Bz)(f173:BA){R:Type}(L:Pat.D Gp->Option R)(e:Ad N4 Nh->Option R)(x:Pat.D Gp):Option R:=let e3_:=(x.1.2.2.2.1,(x.2.1.getD (ag x.1.2.1) (0:Int)),x.1.1,());let e1_:=(f328 e3_);let e2_:=((decide ((0:Int)<=x.1.2.1))&&(decide (x.1.2.1<(x.2.1.length:Int))));bif(decide (x.1.2.1>=(0:Int)))then(bif e2_ then(bif(p328 e3_)then(bif e2_ then(((L ((x.1.1,(aa .i64 (x.1.2.1-(1:Int))),(),e1_.2),(x.2.1.set (ag x.1.2.1) e1_.1),()))))else none)else none)else none)else(e (.inl (((),x.1.2.2.2),x.2)))
theorem bIg(d:Nat)(R:Type)(L:Pat.D Gp->Option R)(e:Ad N4 Nh->Option R)(x:Pat.D Gp):
  Bv ({cf [(136,⟨ER,EV,p328,f328⟩),(93,⟨BW,BX,p173,f173⟩)] [(117,3,LoopSpec.of Gp mL N4 Nh w1329_3)]with keep:=true}) (d+2) 117 (Bu Tryz.f117 3) Gp mL N4 Nh (R:=R) L e x=YP p328 f328 p173 f173 L e x:=by kernel_rfl
theorem aPo(p328:E4)(f328:E6)(p173:Bz)(f173:BA):Bt fun L e x=>YP p328 f328 p173 f173 L e x:=by intro _ _ _ _ _ _ _ h0 hL he _;unfold YP;repeat' (first|exact h0|exact hL _|exact he _|apply BJ|(apply BK h0;intro _)|(apply BL<;>intro _))
def wU(p328:E4)(f328:E6)(p173:Bz)(f173:BA)(w1329_3:Pat.D Gp->Option (Ad N4 Nh))(a0:Ab Ze)(a1:Ab Zb):Option (DenS MD):=
 Vx.Bi (w1329_3 ((a1,(aa .i64 ((a0.length:Int)-(1:Int))),(),(0:Int),()),a0,())) fun y0=>
 Vx.Bg y0 (fun y1=>
 bif(p173 y1.2)then(some ((f173 y1.2).1,y1.1.2))
 else none) (fun z1=>
 none)
theorem bEw(x:DenS L7):run ({cf [(136,⟨ER,EV,p328,f328⟩),(93,⟨BW,BX,p173,f173⟩)] [(117,3,LoopSpec.of Gp mL N4 Nh w1329_3)]with keep:=true}) 9 117 Tryz.f117 L7 MD x=wU p328 f328 p173 f173 w1329_3 x.1 x.2.1:=by kernel_rfl
def gH:Gp.D->Option (Ad N4 Nh):=Bn fun L=>YP Bq.pre Bq.F Am.pre Am.F L some
def cQ(x:DenS L7):Option (DenS MD):=wU Bq.pre Bq.F Am.pre Am.F gH x.1 x.2.1
def EX:Sum:=Aj L7 MD cQ (DenS.dflt MD)
theorem aUt:Sound Tryz.prog G1 117 EX:=sd ({cf [(136,Bq),(93,Am)] [(117,3,LoopSpec.of Gp mL N4 Nh gH)]with keep:=true}) 117 Tryz.f117 ⟨oN,Ep,trivial⟩ ⟨rfl,fun d=>BI (fun L e x=>YP Bq.pre Bq.F Am.pre Am.F L e x) (aPo Bq.pre Bq.F Am.pre Am.F) (fun _ _ _ _=>bIg ..),trivial⟩ L7 MD cQ _ (fun _=>bEw ..)
abbrev rI:=Ag L7
abbrev r7:=Af L7 MD
variable (p1329:rI)(f1329:r7)
abbrev Ge:Aa:=[(false,Ze),(false,Ze)]
abbrev Gl:Aa:=[(false,Za)]
abbrev Iu:Pat:=⟨49,[(0,.one (.sl Zb)),(1,.one (.sl Zb)),(5,.one (.v .i64))],[]⟩
abbrev mN:List (Nat×Shape):=[]
abbrev N6:List (Nat×Pat):=[(1,⟨49,[],[]⟩)]
abbrev Nj:Option Pat:=(some ⟨49,[(4,.one (.v .i64))],[]⟩)
variable (w144_7:Pat.D Iu->Option (Ad N6 Nj))
def YR(p173:Bz)(f173:BA){R:Type}(L:Pat.D Iu->Option R)(e:Ad N6 Nj->Option R)(x:Pat.D Iu):Option R:=let e1_:=((decide ((0:Int)<=x.1.2.2.1))&&(decide (x.1.2.2.1<(x.1.2.1.length:Int))));let e2_:=((decide ((0:Int)<=x.1.2.2.1))&&(decide (x.1.2.2.1<(x.1.1.length:Int))));let e3_:=(x.1.2.1.getD (ag x.1.2.2.1) (0:Int));bif(decide (x.1.2.2.1>=(0:Int)))then(bif e2_ then(bif e1_ then(bif(decide ((x.1.1.getD (ag x.1.2.2.1) (0:Int))<e3_))then(((e (.inr (((-(1:Int)),()),())))))else bif e2_ then(bif e1_ then(bif(decide ((x.1.1.getD (ag x.1.2.2.1) (0:Int))>e3_))then(((e (.inr (((1:Int),()),())))))else(L ((x.1.1,x.1.2.1,(aa .i64 (x.1.2.2.1-(1:Int))),()),())))else none)else none)else none)else none)else(e (.inl ((),())))
theorem bIi(d:Nat)(R:Type)(L:Pat.D Iu->Option R)(e:Ad N6 Nj->Option R)(x:Pat.D Iu):
  Bv (cf [(93,⟨BW,BX,p173,f173⟩)] [(101,7,LoopSpec.of Iu mN N6 Nj w144_7)]) (d+2) 101 (Bu Tryz.f101 7) Iu mN N6 Nj (R:=R) L e x=YR p173 f173 L e x:=by kernel_rfl
theorem aPq(p173:Bz)(f173:BA):Bt fun L e x=>YR p173 f173 L e x:=by intro _ _ _ _ _ _ _ h0 hL he _;unfold YR;repeat' (first|exact h0|exact hL _|exact he _|apply BJ|(apply BK h0;intro _)|(apply BL<;>intro _))
def wX(p173:Bz)(f173:BA)(w144_7:Pat.D Iu->Option (Ad N6 Nj))(a0 a1:Ab Ze):Option (DenS Gl):=
 bif(p173 (a0,()))then(bif(p173 (a1,()))then(bif(decide (((f173 (a0,())).1.length:Int)<((f173 (a1,())).1.length:Int)))then(some ((-(1:Int)),()))
 else bif(decide (((f173 (a0,())).1.length:Int)>((f173 (a1,())).1.length:Int)))then(some ((1:Int),()))
 else Vx.Bi (w144_7 (((f173 (a0,())).1,(f173 (a1,())).1,(aa .i64 (((f173 (a0,())).1.length:Int)-(1:Int))),()),())) fun y4=>
 Vx.Bg y4 (fun y5=>
 some ((0:Int),())) (fun z5=>
 some z5.1))
 else none)
 else none
theorem bEC(x:DenS Ge):run (cf [(93,⟨BW,BX,p173,f173⟩)] [(101,7,LoopSpec.of Iu mN N6 Nj w144_7)]) 9 101 Tryz.f101 Ge Gl x=wX p173 f173 w144_7 x.1 x.2.1:=by kernel_rfl
def qK:Iu.D->Option (Ad N6 Nj):=Bn fun L=>YR Am.pre Am.F L some
def cR(x:DenS Ge):Option (DenS Gl):=wX Am.pre Am.F qK x.1 x.2.1
def B5:Sum:=Aj Ge Gl cR (DenS.dflt Gl)
theorem n9:Sound Tryz.prog G1 101 B5:=sd (cf [(93,Am)] [(101,7,LoopSpec.of Iu mN N6 Nj qK)]) 101 Tryz.f101 ⟨Ep,trivial⟩ ⟨rfl,fun d=>BI (fun L e x=>YR Am.pre Am.F L e x) (aPq Am.pre Am.F) (fun _ _ _ _=>bIi ..),trivial⟩ Ge Gl cR _ (fun _=>bEC ..)
abbrev I1:=Ag Ge
abbrev I5:=Af Ge Gl
variable (p144:I1)(f144:I5)
abbrev Md:Aa:=[(false,Ze),(false,Zb)]
abbrev MI:Aa:=[(false,Ze),(false,Zb)]
abbrev II:Pat:=⟨31,[(1,.one (.v .u64)),(7,.one (.v .i64)),(0,.one (.sl Zb)),(6,.one (.v .u64))],[]⟩
abbrev m9:List (Nat×Shape):=[]
abbrev Ol:List (Nat×Pat):=[(0,⟨31,[(0,.one (.sl Zb)),(6,.one (.v .u64))],[]⟩)]
abbrev Nx:Option Pat:=none
variable (w329_3:Pat.D II->Option (Ad Ol Nx))
def kA(p328:E4)(f328:E6)(p173:Bz)(f173:BA){R:Type}(L:Pat.D II->Option R)(e:Ad Ol Nx->Option R)(x:Pat.D II):Option R:=let e1_:=((decide ((0:Int)<=x.1.2.1))&&(decide (x.1.2.1<(x.1.2.2.1.length:Int))));bif(decide (x.1.2.1>=(0:Int)))then(bif e1_ then(bif(p328 (x.1.2.2.2.1,(x.1.2.2.1.getD (ag x.1.2.1) (0:Int)),x.1.1,()))then(bif e1_ then((none))else none)else none)else none)else(e (.inl (x.1.2.2,())))
theorem bIA(d:Nat)(R:Type)(L:Pat.D II->Option R)(e:Ad Ol Nx->Option R)(x:Pat.D II):
  Bv (cf [(136,⟨ER,EV,p328,f328⟩),(93,⟨BW,BX,p173,f173⟩)] [(117,3,LoopSpec.of II m9 Ol Nx w329_3)]) (d+2) 117 (Bu Tryz.f117 3) II m9 Ol Nx (R:=R) L e x=kA p328 f328 p173 f173 L e x:=by kernel_rfl
theorem bBy(p328:E4)(f328:E6)(p173:Bz)(f173:BA):Bt fun L e x=>kA p328 f328 p173 f173 L e x:=by intro _ _ _ _ _ _ _ h0 hL he _;unfold kA;repeat' (first|exact h0|exact hL _|exact he _|apply BJ|(apply BK h0;intro _)|(apply BL<;>intro _))
def aR3(p328:E4)(f328:E6)(p173:Bz)(f173:BA)(w329_3:Pat.D II->Option (Ad Ol Nx))(a0:Ab Ze)(a1:Ab Zb):Option (DenS MI):=
 Vx.Bi (w329_3 ((a1,(aa .i64 ((a0.length:Int)-(1:Int))),a0,(0:Int),()),())) fun y0=>
 Vx.Bg y0 (fun y1=>
 bif(p173 (y1.1.1,()))then(some ((f173 (y1.1.1,())).1,y1.1.2))
 else none) (fun z1=>
 none)
theorem bFo(x:DenS Md):run (cf [(136,⟨ER,EV,p328,f328⟩),(93,⟨BW,BX,p173,f173⟩)] [(117,3,LoopSpec.of II m9 Ol Nx w329_3)]) 9 117 Tryz.f117 Md MI x=aR3 p328 f328 p173 f173 w329_3 x.1 x.2.1:=by kernel_rfl
def aJm:II.D->Option (Ad Ol Nx):=Bn fun L=>kA Bq.pre Bq.F Am.pre Am.F L some
def aH1(x:DenS Md):Option (DenS MI):=aR3 Bq.pre Bq.F Am.pre Am.F aJm x.1 x.2.1
def FS:Sum:=Aj Md MI aH1 (DenS.dflt MI)
theorem aUV:Sound Tryz.prog G1 117 FS:=sd (cf [(136,Bq),(93,Am)] [(117,3,LoopSpec.of II m9 Ol Nx aJm)]) 117 Tryz.f117 ⟨oN,Ep,trivial⟩ ⟨rfl,fun d=>BI (fun L e x=>kA Bq.pre Bq.F Am.pre Am.F L e x) (bBy Bq.pre Bq.F Am.pre Am.F) (fun _ _ _ _=>bIA ..),trivial⟩ Md MI aH1 _ (fun _=>bFo ..)
abbrev rO:=Ag Md
abbrev sD:=Af Md MI
variable (p329:rO)(f329:sD)
abbrev JX:Aa:=[(false,Ze),(false,Zb)]
abbrev Kt:Aa:=[(false,.bool)]
abbrev Fy:LK:=.win Zb
abbrev IJ:Pat:=⟨68,[(16,.one (.v .i64)),(15,.one (.sl Zb)),(2,.one (.v .u64)),(17,.one (.v .i64)),(1,.one (.sl Zb)),(0,.one (.sub 0)),(7,.one (.v .u64)),(8,.one (.v .u64))],[.arr Zb]⟩
abbrev nA:List (Nat×Shape):=[]
abbrev Om:List (Nat×Pat):=[(0,⟨68,[(1,.one (.sl Zb)),(0,.one (.sub 0)),(7,.one (.v .u64)),(8,.one (.v .u64))],[.arr Zb]⟩)]
abbrev Ny:Option Pat:=none
variable (w330_3:Pat.D IJ->Option (Ad Om Ny))
def Y3(p315:E3)(f315:E5)(p155:Dg)(f155:Di)(p157:Hu)(f157:Hy){R:Type}(L:Pat.D IJ->Option R)(e:Ad Om Ny->Option R)(x:Pat.D IJ):Option R:=let e7_:=(x.2.1.getD (x.1.2.2.2.2.2.1.1+(ag x.1.2.2.2.1)) (0:Int));let e8_:=(x.1.2.2.1,(x.1.2.1.getD (ag x.1.2.2.2.1) (0:Int)),());let e6_:=(f315 e8_);let e5_:=(f155 (e6_.2.1,x.1.2.2.2.2.2.2.1,(0:Int),()));let e1_:=(f157 (e7_,e5_.1,x.1.2.2.2.2.2.2.2));let e2_:=e5_;let e3_:=((decide ((0:Int)<=x.1.2.2.2.1))&&(decide (x.1.2.2.2.1<(x.1.2.2.2.2.2.1.2:Int))));let e4_:=e6_;bif(decide (x.1.2.2.2.1<x.1.1))then(bif((decide ((0:Int)<=x.1.2.2.2.1))&&(decide (x.1.2.2.2.1<(x.1.2.1.length:Int))))then(bif(p315 e8_)then(bif(p155 (e4_.2.1,x.1.2.2.2.2.2.2.1,(0:Int),()))then(bif e3_ then(bif(p157 (e7_,e2_.1,x.1.2.2.2.2.2.2.2))then(bif e3_ then(((L ((x.1.1,x.1.2.1,x.1.2.2.1,(aa .i64 (x.1.2.2.2.1+(1:Int))),x.1.2.2.2.2.1,x.1.2.2.2.2.2.1,(aa .u64 (e4_.1+e2_.2.1)),e1_.2),(x.2.1.set (x.1.2.2.2.2.2.1.1+(ag x.1.2.2.2.1)) e1_.1),()))))else none)else none)else none)else none)else none)else none)else(e (.inl (x.1.2.2.2.2,x.2)))
theorem bIB(d:Nat)(R:Type)(L:Pat.D IJ->Option R)(e:Ad Om Ny->Option R)(x:Pat.D IJ):
  Bv (cf [(120,⟨EQ,EU,p315,f315⟩),(94,⟨Fi,FH,p155,f155⟩),(148,⟨Ma,RJ,p157,f157⟩)] [(137,3,LoopSpec.of IJ nA Om Ny w330_3 1)]) (d+2) 137 (Bu Tryz.f137 3) IJ nA Om Ny (R:=R) L e x 1=Y3 p315 f315 p155 f155 p157 f157 L e x:=by kernel_rfl
theorem aPC(p315:E3)(f315:E5)(p155:Dg)(f155:Di)(p157:Hu)(f157:Hy):Bt fun L e x=>Y3 p315 f315 p155 f155 p157 f157 L e x:=by intro _ _ _ _ _ _ _ h0 hL he _;unfold Y3;repeat' (first|exact h0|exact hL _|exact he _|apply BJ|(apply BK h0;intro _)|(apply BL<;>intro _))
def x5(p315:E3)(f315:E5)(p155:Dg)(f155:Di)(p157:Hu)(f157:Hy)(w330_3:Pat.D IJ->Option (Ad Om Ny))(l0:LK.D (.win Zb))(a0:Ab Ze)(a1:Ab Zb):Option (LK.B Fy×DenS Kt):=
 Vx.Bi (w330_3 (((a0.length:Int),a0,a1,(0:Int),a0,l0.2,(0:Int),(0:Int),()),l0.1,())) fun y0=>
 Vx.Bg y0 (fun y1=>
 bif((decide ((0:Int)<=(y1.1.1.length:Int)))&&(decide ((y1.1.1.length:Int)<(y1.1.2.1.2:Int))))then(bif(p157 ((y1.2.1.getD (y1.1.2.1.1+(ag (y1.1.1.length:Int))) (0:Int)),y1.1.2.2))then(bif((decide ((0:Int)<=(y1.1.1.length:Int)))&&(decide ((y1.1.1.length:Int)<(y1.1.2.1.2:Int))))then(some ((y1.2.1.set (y1.1.2.1.1+(ag (y1.1.1.length:Int))) (f157 ((y1.2.1.getD (y1.1.2.1.1+(ag (y1.1.1.length:Int))) (0:Int)),y1.1.2.2)).1),((f157 ((y1.2.1.getD (y1.1.2.1.1+(ag (y1.1.1.length:Int))) (0:Int)),y1.1.2.2)).2.1 !=(0:Int)),()))
 else none)
 else none)
 else none) (fun z1=>
 none)
theorem bFp(x:LK.D Fy×DenS JX):Dd (cf [(120,⟨EQ,EU,p315,f315⟩),(94,⟨Fi,FH,p155,f155⟩),(148,⟨Ma,RJ,p157,f157⟩)] [(137,3,LoopSpec.of IJ nA Om Ny w330_3 1)]) 9 137 Tryz.f137 Fy JX Kt x=x5 p315 f315 p155 f155 p157 f157 w330_3 x.1 x.2.1 x.2.2.1:=by kernel_rfl
def qW:IJ.D->Option (Ad Om Ny):=Bn fun L=>Y3 Bo.pre Bo.F AC.pre AC.F BE.pre BE.F L some
def dN(x:LK.D Fy×DenS JX):Option (LK.B Fy×DenS Kt):=x5 Bo.pre Bo.F AC.pre AC.F BE.pre BE.F qW x.1 x.2.1 x.2.2.1
def Ct:SumL:=De Fy JX Kt dN (LK.dflt Fy,DenS.dflt Kt)
theorem aUX:SoundL Tryz.prog G1 137 Ct:=Ej (cf [(120,Bo),(94,AC),(148,BE)] [(137,3,LoopSpec.of IJ nA Om Ny qW 1)]) 137 Tryz.f137 ⟨oI,Xo,oB,trivial⟩ ⟨rfl,fun d=>BI (fun L e x=>Y3 Bo.pre Bo.F AC.pre AC.F BE.pre BE.F L e x) (aPC Bo.pre Bo.F AC.pre AC.F BE.pre BE.F) (fun _ _ _ _=>bIB ..),trivial⟩ Fy JX Kt dN _ (fun _=>bFp ..)
abbrev X1:=LK.D Fy×DenS JX->Bool
abbrev Yd:=LK.D Fy×DenS JX->LK.B Fy×DenS Kt
variable (p330:X1)(f330:Yd)
abbrev JY:Aa:=[(false,Ze)]
abbrev Ku:Aa:=[(false,.bool)]
abbrev Fz:LK:=.win Zb
abbrev IK:Pat:=⟨46,[(10,.one (.v .i64)),(9,.one (.sl Zb)),(11,.one (.v .i64)),(1,.one (.sl Zb)),(0,.one (.sub 0)),(5,.one (.v .u64))],[.arr Zb]⟩
abbrev nB:List (Nat×Shape):=[]
abbrev On:List (Nat×Pat):=[(0,⟨46,[(1,.one (.sl Zb)),(0,.one (.sub 0)),(5,.one (.v .u64))],[.arr Zb]⟩)]
abbrev Nz:Option Pat:=none
variable (w331_3:Pat.D IK->Option (Ad On Nz))
def Y4(p155:Dg)(f155:Di){R:Type}(L:Pat.D IK->Option R)(e:Ad On Nz->Option R)(x:Pat.D IK):Option R:=let e3_:=((x.2.1.getD (x.1.2.2.2.2.1.1+(ag x.1.2.2.1)) (0:Int)),(x.1.2.1.getD (ag x.1.2.2.1) (0:Int)),x.1.2.2.2.2.2);let e1_:=(f155 e3_);let e2_:=((decide ((0:Int)<=x.1.2.2.1))&&(decide (x.1.2.2.1<(x.1.2.2.2.2.1.2:Int))));bif(decide (x.1.2.2.1<x.1.1))then(bif((decide ((0:Int)<=x.1.2.2.1))&&(decide (x.1.2.2.1<(x.1.2.1.length:Int))))then(bif e2_ then(bif(p155 e3_)then(bif e2_ then(((L ((x.1.1,x.1.2.1,(aa .i64 (x.1.2.2.1+(1:Int))),x.1.2.2.2.1,x.1.2.2.2.2.1,e1_.2),(x.2.1.set (x.1.2.2.2.2.1.1+(ag x.1.2.2.1)) e1_.1),()))))else none)else none)else none)else none)else(e (.inl (x.1.2.2.2,x.2)))
theorem bIC(d:Nat)(R:Type)(L:Pat.D IK->Option R)(e:Ad On Nz->Option R)(x:Pat.D IK):
  Bv (cf [(94,⟨Fi,FH,p155,f155⟩)] [(138,3,LoopSpec.of IK nB On Nz w331_3 1)]) (d+2) 138 (Bu Tryz.f138 3) IK nB On Nz (R:=R) L e x 1=Y4 p155 f155 L e x:=by kernel_rfl
theorem aPD(p155:Dg)(f155:Di):Bt fun L e x=>Y4 p155 f155 L e x:=by intro _ _ _ _ _ _ _ h0 hL he _;unfold Y4;repeat' (first|exact h0|exact hL _|exact he _|apply BJ|(apply BK h0;intro _)|(apply BL<;>intro _))
def x6(p155:Dg)(f155:Di)(w331_3:Pat.D IK->Option (Ad On Nz))(l0:LK.D (.win Zb))(a0:Ab Ze):Option (LK.B Fz×DenS Ku):=
 Vx.Bi (w331_3 (((a0.length:Int),a0,(0:Int),a0,l0.2,(0:Int),()),l0.1,())) fun y0=>
 Vx.Bg y0 (fun y1=>
 bif((decide ((0:Int)<=(y1.1.1.length:Int)))&&(decide ((y1.1.1.length:Int)<(y1.1.2.1.2:Int))))then(bif(p155 ((y1.2.1.getD (y1.1.2.1.1+(ag (y1.1.1.length:Int))) (0:Int)),(0:Int),y1.1.2.2))then(bif((decide ((0:Int)<=(y1.1.1.length:Int)))&&(decide ((y1.1.1.length:Int)<(y1.1.2.1.2:Int))))then(some ((y1.2.1.set (y1.1.2.1.1+(ag (y1.1.1.length:Int))) (f155 ((y1.2.1.getD (y1.1.2.1.1+(ag (y1.1.1.length:Int))) (0:Int)),(0:Int),y1.1.2.2)).1),((f155 ((y1.2.1.getD (y1.1.2.1.1+(ag (y1.1.1.length:Int))) (0:Int)),(0:Int),y1.1.2.2)).2.1 !=(0:Int)),()))
 else none)
 else none)
 else none) (fun z1=>
 none)
theorem bFq(x:LK.D Fz×DenS JY):Dd (cf [(94,⟨Fi,FH,p155,f155⟩)] [(138,3,LoopSpec.of IK nB On Nz w331_3 1)]) 9 138 Tryz.f138 Fz JY Ku x=x6 p155 f155 w331_3 x.1 x.2.1:=by kernel_rfl
def qX:IK.D->Option (Ad On Nz):=Bn fun L=>Y4 AC.pre AC.F L some
def dO(x:LK.D Fz×DenS JY):Option (LK.B Fz×DenS Ku):=x6 AC.pre AC.F qX x.1 x.2.1
def C6:SumL:=De Fz JY Ku dO (LK.dflt Fz,DenS.dflt Ku)
theorem aUY:SoundL Tryz.prog G1 138 C6:=Ej (cf [(94,AC)] [(138,3,LoopSpec.of IK nB On Nz qX 1)]) 138 Tryz.f138 ⟨Xo,trivial⟩ ⟨rfl,fun d=>BI (fun L e x=>Y4 AC.pre AC.F L e x) (aPD AC.pre AC.F) (fun _ _ _ _=>bIC ..),trivial⟩ Fz JY Ku dO _ (fun _=>bFq ..)
abbrev X2:=LK.D Fz×DenS JY->Bool
abbrev Ye:=LK.D Fz×DenS JY->LK.B Fz×DenS Ku
variable (p331:X2)(f331:Ye)
abbrev Me:Aa:=[(false,Ze)]
abbrev Kv:Aa:=[(false,Zb)]
abbrev FA:LK:=.win Zb
abbrev Gr:Pat:=⟨92,[(6,.one (.v .u64)),(7,.one (.v .u64)),(5,.one (.v .i64)),(0,.one (.sub 0)),(1,.one (.sl Zb))],[.arr Zb]⟩
abbrev aV:List (Nat×Shape):=[]
abbrev Le:List (Nat×Pat):=[(0,⟨92,[(0,.one (.sub 0)),(1,.one (.sl Zb)),(6,.one (.v .u64))],[.arr Zb]⟩)]
abbrev KS:Option Pat:=none
abbrev Gq:Pat:=⟨92,[(6,.one (.v .u64)),(0,.one (.sub 0)),(1,.one (.sl Zb))],[.arr Zb]⟩
abbrev aU:List (Nat×Shape):=[]
abbrev Ld:List (Nat×Pat):=[(2,⟨92,[(6,.one (.v .u64))],[.arr Zb]⟩)]
abbrev KR:Option Pat:=none
variable (w332_6:Pat.D Gr->Option (Ad Le KS))(w332_13:Pat.D Gq->Option (Ad Ld KR))
def Y5(p328:E4)(f328:E6)(p315:E3)(f315:E5)(p155:Dg)(f155:Di)(p330:X1)(f330:Yd)(p331:X2)(f331:Ye){R:Type}(L:Pat.D Gq->Option R)(e:Ad Ld KR->Option R)(x:Pat.D Gq):Option R:=let e1_:=(aa .u64 (x.1.1-(1:Int)));bif(p331 ((x.2.1,x.1.2.1),x.1.2.2))then(bif(f331 ((x.2.1,x.1.2.1),x.1.2.2)).2.1 then(((e (.inl ((e1_,()),(f331 ((x.2.1,x.1.2.1),x.1.2.2)).1,())))))else(L ((e1_,x.1.2),(f331 ((x.2.1,x.1.2.1),x.1.2.2)).1,())))else none
theorem bID(d:Nat)(R:Type)(L:Pat.D Gq->Option R)(e:Ad Ld KR->Option R)(x:Pat.D Gq):
  Bv ({cf [(136,⟨ER,EV,p328,f328⟩),(120,⟨EQ,EU,p315,f315⟩),(94,⟨Fi,FH,p155,f155⟩)] [(119,6,LoopSpec.of Gr aV Le KS w332_6 1),(119,13,LoopSpec.of Gq aU Ld KR w332_13 1)]with lsums:=[(137,⟨Fy,JX,Kt,p330,f330⟩),(138,⟨Fz,JY,Ku,p331,f331⟩)] }) (d+2) 119 (Bu Tryz.f119 13) Gq aU Ld KR (R:=R) L e x 1=Y5 p328 f328 p315 f315 p155 f155 p330 f330 p331 f331 L e x:=by kernel_rfl
theorem aPE(p328:E4)(f328:E6)(p315:E3)(f315:E5)(p155:Dg)(f155:Di)(p330:X1)(f330:Yd)(p331:X2)(f331:Ye):Bt fun L e x=>Y5 p328 f328 p315 f315 p155 f155 p330 f330 p331 f331 L e x:=by intro _ _ _ _ _ _ _ h0 hL he _;unfold Y5;repeat' (first|exact h0|exact hL _|exact he _|apply BJ|(apply BK h0;intro _)|(apply BL<;>intro _))
def Y6(p328:E4)(f328:E6)(p315:E3)(f315:E5)(p155:Dg)(f155:Di)(p330:X1)(f330:Yd)(p331:X2)(f331:Ye){R:Type}(L:Pat.D Gr->Option R)(e:Ad Le KS->Option R)(x:Pat.D Gr):Option R:=let e11_:=(aa .i64 (x.1.2.2.1-(2:Int)));let e10_:=(ag e11_);let e9_:=(f315 (x.1.1,(x.1.2.2.2.2.1.getD e10_ (0:Int)),()));let e1_:=(decide (e9_.1<x.1.2.1));let e12_:=(aa .i64 (x.1.2.2.1-(1:Int)));let e2_:=(f155 (x.1.2.1,(x.1.2.2.2.2.1.getD (ag e12_) (0:Int)),(0:Int),()));let e3_:=e9_;let e4_:=(decide ((0:Int)<=e11_));let e5_:=e10_;let e6_:=e12_;let e7_:=e11_;let e8_:=(aa .u64 (x.1.1-(1:Int)));bif(e4_&&(decide (e7_<(x.1.2.2.2.2.1.length:Int))))then(bif(p315 (x.1.1,(x.1.2.2.2.2.1.getD e5_ (0:Int)),()))then(bif((e4_&&(decide (e7_<(x.1.2.2.2.1.2:Int))))||(!((bif e1_ then false else true)&&(decide (e3_.1=x.1.2.1)))))then(bif(e1_||((e3_.1==x.1.2.1)&&(decide (e3_.2.1<=(x.2.1.getD (x.1.2.2.2.1.1+e5_) (0:Int))))))then(((e (.inl ((x.1.2.2.2.1,x.1.2.2.2.2.1,x.1.1,()),x.2)))))else bif((decide ((0:Int)<=e6_))&&(decide (e6_<(x.1.2.2.2.2.1.length:Int))))then(bif(p155 (x.1.2.1,(x.1.2.2.2.2.1.getD (ag e6_) (0:Int)),(0:Int),()))then(bif(e2_.2.1 !=(0:Int))then(((e (.inl ((x.1.2.2.2.1,x.1.2.2.2.2.1,e8_,()),x.2)))))else(L ((e8_,e2_.1,x.1.2.2),x.2)))else none)else none)else none)else none)else none
theorem bIE(d:Nat)(R:Type)(L:Pat.D Gr->Option R)(e:Ad Le KS->Option R)(x:Pat.D Gr):
  Bv ({cf [(136,⟨ER,EV,p328,f328⟩),(120,⟨EQ,EU,p315,f315⟩),(94,⟨Fi,FH,p155,f155⟩)] [(119,6,LoopSpec.of Gr aV Le KS w332_6 1),(119,13,LoopSpec.of Gq aU Ld KR w332_13 1)]with lsums:=[(137,⟨Fy,JX,Kt,p330,f330⟩),(138,⟨Fz,JY,Ku,p331,f331⟩)] }) (d+2) 119 (Bu Tryz.f119 6) Gr aV Le KS (R:=R) L e x 1=Y6 p328 f328 p315 f315 p155 f155 p330 f330 p331 f331 L e x:=by kernel_rfl
theorem aPF(p328:E4)(f328:E6)(p315:E3)(f315:E5)(p155:Dg)(f155:Di)(p330:X1)(f330:Yd)(p331:X2)(f331:Ye):Bt fun L e x=>Y6 p328 f328 p315 f315 p155 f155 p330 f330 p331 f331 L e x:=by intro _ _ _ _ _ _ _ h0 hL he _;unfold Y6;repeat' (first|exact h0|exact hL _|exact he _|apply BJ|(apply BK h0;intro _)|(apply BL<;>intro _))
def x7(p328:E4)(f328:E6)(p315:E3)(f315:E5)(p155:Dg)(f155:Di)(p330:X1)(f330:Yd)(p331:X2)(f331:Ye)(w332_6:Pat.D Gr->Option (Ad Le KS))(w332_13:Pat.D Gq->Option (Ad Ld KR))(l0:LK.D (.win Zb))(a0:Ab Ze):Option (LK.B FA×DenS Kv):=
 let e11_:=(l0.1.getD (l0.2.1+(ag (a0.length:Int))) (0:Int))
 let e10_:=(aa .i64 ((a0.length:Int)-(1:Int)))
 let e9_:=(ag e10_)
 let e8_:=(a0.getD e9_ (0:Int))
 let e1_:=(f328 (e11_,(l0.1.getD (l0.2.1+e9_) (0:Int)),e8_,()))
 let e2_:=((decide ((0:Int)<=e10_))&&(decide (e10_<(a0.length:Int))))
 let e3_:=e8_
 let e4_:=((decide ((0:Int)<=(a0.length:Int)))&&(decide ((a0.length:Int)<(l0.2.2:Int))))
 let e5_:=e10_
 let e12_:=((l0.1,l0.2),a0,(18446744073709551615:Int),())
 let e6_:=(f330 e12_)
 let e7_:=e11_
 bif e4_ then(bif e2_ then(bif(decide (e7_<e3_))then(bif e4_ then(bif((decide ((0:Int)<=e5_))&&(decide (e5_<(l0.2.2:Int))))then(bif e2_ then(bif(p328 (e7_,(l0.1.getD (l0.2.1+(ag e5_)) (0:Int)),e3_,()))then(Vx.Bi (w332_6 ((e1_.1,e1_.2.1,(a0.length:Int),l0.2,a0,()),l0.1,())) fun y7=>
 Vx.Bg y7 (fun y8=>
 bif(p330 ((y8.2.1,y8.1.1),y8.1.2))then(bif(f330 ((y8.2.1,y8.1.1),y8.1.2)).2.1 then(Vx.Bi (w332_13 ((y8.1.2.2.1,y8.1.1,y8.1.2.1,()),(f330 ((y8.2.1,y8.1.1),y8.1.2)).1,())) fun y11=>
 Vx.Bg y11 (fun y12=>
 some (y12.2.1,y12.1)) (fun z12=>
 none))
 else some ((f330 ((y8.2.1,y8.1.1),y8.1.2)).1,y8.1.2.2))
 else none) (fun z8=>
 none))
 else none)
 else none)
 else none)
 else none)
 else bif(p330 e12_)then(bif e6_.2.1 then(Vx.Bi (w332_13 (((18446744073709551615:Int),l0.2,a0,()),e6_.1,())) fun y5=>
 Vx.Bg y5 (fun y6=>
 some (y6.2.1,y6.1)) (fun z6=>
 none))
 else some (e6_.1,(18446744073709551615:Int),()))
 else none)
 else none)
 else none
theorem bFr(x:LK.D FA×DenS Me):Dd ({cf [(136,⟨ER,EV,p328,f328⟩),(120,⟨EQ,EU,p315,f315⟩),(94,⟨Fi,FH,p155,f155⟩)] [(119,6,LoopSpec.of Gr aV Le KS w332_6 1),(119,13,LoopSpec.of Gq aU Ld KR w332_13 1)]with lsums:=[(137,⟨Fy,JX,Kt,p330,f330⟩),(138,⟨Fz,JY,Ku,p331,f331⟩)] }) 9 119 Tryz.f119 FA Me Kv x=x7 p328 f328 p315 f315 p155 f155 p330 f330 p331 f331 w332_6 w332_13 x.1 x.2.1:=by kernel_rfl
def gK:Gq.D->Option (Ad Ld KR):=Bn fun L=>Y5 Bq.pre Bq.F Bo.pre Bo.F AC.pre AC.F Ct.pre Ct.F C6.pre C6.F L some
def qY:Gr.D->Option (Ad Le KS):=Bn fun L=>Y6 Bq.pre Bq.F Bo.pre Bo.F AC.pre AC.F Ct.pre Ct.F C6.pre C6.F L some
def dP(x:LK.D FA×DenS Me):Option (LK.B FA×DenS Kv):=x7 Bq.pre Bq.F Bo.pre Bo.F AC.pre AC.F Ct.pre Ct.F C6.pre C6.F qY gK x.1 x.2.1
def EZ:SumL:=De FA Me Kv dP (LK.dflt FA,DenS.dflt Kv)
theorem aUZ:SoundL Tryz.prog G1 119 EZ:=Ej ({cf [(136,Bq),(120,Bo),(94,AC)] [(119,6,LoopSpec.of Gr aV Le KS qY 1),(119,13,LoopSpec.of Gq aU Ld KR gK 1)]with lsums:=[(137,Ct),(138,C6)] }) 119 Tryz.f119 ⟨oN,oI,Xo,trivial⟩ ⟨rfl,fun d=>BI (fun L e x=>Y6 Bq.pre Bq.F Bo.pre Bo.F AC.pre AC.F Ct.pre Ct.F C6.pre C6.F L e x) (aPF Bq.pre Bq.F Bo.pre Bo.F AC.pre AC.F Ct.pre Ct.F C6.pre C6.F) (fun _ _ _ _=>bIE ..),⟨rfl,fun d=>BI (fun L e x=>Y5 Bq.pre Bq.F Bo.pre Bo.F AC.pre AC.F Ct.pre Ct.F C6.pre C6.F L e x) (aPE Bq.pre Bq.F Bo.pre Bo.F AC.pre AC.F Ct.pre Ct.F C6.pre C6.F) (fun _ _ _ _=>bID ..),trivial⟩⟩ FA Me Kv dP _ (fun _=>bFr ..) (hls:=⟨aUX,aUY,trivial⟩)
abbrev rP:=LK.D FA×DenS Me->Bool
abbrev sE:=LK.D FA×DenS Me->LK.B FA×DenS Kv
variable (p332:rP)(f332:sE)
abbrev P4:Aa:=[(false,Ze),(false,Ze)]
abbrev R7:Aa:=[(false,Ze),(false,Ze)]
abbrev Gs:Pat:=⟨91,[(9,.one (.sl Zb)),(12,.one (.v .i64)),(4,.one (.own 1)),(10,.one (.own 0)),(11,.one (.v .i64)),(8,.one (.v .i64))],[.arr Zb,.arr Zb]⟩
abbrev nC:List (Nat×Shape):=[]
abbrev Oo:List (Nat×Pat):=[(0,⟨91,[(4,.one (.own 1)),(10,.one (.own 0)),(11,.one (.v .i64)),(8,.one (.v .i64))],[.arr Zb,.arr Zb]⟩)]
abbrev NA:Option Pat:=none
variable (w333_14:Pat.D Gs->Option (Ad Oo NA))
def Y7(p1146:gP)(f1146:iC)(p1329:rI)(f1329:r7)(p144:I1)(f144:I5)(p146:VS)(f146:V5)(p329:rO)(f329:sD)(p327:OC)(f327:OF)(p186:VW)(f186:V8)(p332:rP)(f332:sE)(p173:Bz)(f173:BA)(p171:UF)(f171:UI){R:Type}(L:Pat.D Gs->Option R)(e:Ad Oo NA->Option R)(x:Pat.D Gs):Option R:=let e3_:=(aa .i64 ((aa .i64 (x.1.2.1+x.1.2.2.2.2.1))+(1:Int)));let e1_:=(f332 ((x.2.1,(ag x.1.2.1),((ag e3_)-(ag x.1.2.1))),x.1.1,()));let e2_:=e3_;bif(decide (x.1.2.1>=(0:Int)))then(bif(((decide ((0:Int)<=x.1.2.1))&&(decide (x.1.2.1<=e2_)))&&(decide (e2_<=(x.2.1.length:Int))))then(bif(p332 ((x.2.1,(ag x.1.2.1),((ag e2_)-(ag x.1.2.1))),x.1.1,()))then(bif((decide ((0:Int)<=x.1.2.1))&&(decide (x.1.2.1<(x.2.2.1.length:Int))))then(((L ((x.1.1,(aa .i64 (x.1.2.1-(1:Int))),(),(),x.1.2.2.2.2),e1_.1,(x.2.2.1.set (ag x.1.2.1) e1_.2.1),()))))else none)else none)else none)else(e (.inl (((),(),x.1.2.2.2.2),x.2)))
theorem bIF(d:Nat)(R:Type)(L:Pat.D Gs->Option R)(e:Ad Oo NA->Option R)(x:Pat.D Gs):
  Bv ({cf [(116,⟨JJ,Kh,p1146,f1146⟩),(117,⟨L7,MD,p1329,f1329⟩),(101,⟨Ge,Gl,p144,f144⟩),(116,⟨H1,If,p146,f146⟩),(117,⟨Md,MI,p329,f329⟩),(118,⟨GV,Hb,p327,f327⟩),(97,⟨JV,Kr,p186,f186⟩),(93,⟨BW,BX,p173,f173⟩),(100,⟨H2,Ig,p171,f171⟩)] [(99,14,LoopSpec.of Gs nC Oo NA w333_14)]with cut:=true,lsums:=[(119,⟨FA,Me,Kv,p332,f332⟩)] }) (d+2) 99 (Bu Tryz.f99 14) Gs nC Oo NA (R:=R) L e x=Y7 p1146 f1146 p1329 f1329 p144 f144 p146 f146 p329 f329 p327 f327 p186 f186 p332 f332 p173 f173 p171 f171 L e x:=by kernel_rfl
theorem aPG(p1146:gP)(f1146:iC)(p1329:rI)(f1329:r7)(p144:I1)(f144:I5)(p146:VS)(f146:V5)(p329:rO)(f329:sD)(p327:OC)(f327:OF)(p186:VW)(f186:V8)(p332:rP)(f332:sE)(p173:Bz)(f173:BA)(p171:UF)(f171:UI):Bt fun L e x=>Y7 p1146 f1146 p1329 f1329 p144 f144 p146 f146 p329 f329 p327 f327 p186 f186 p332 f332 p173 f173 p171 f171 L e x:=by intro _ _ _ _ _ _ _ h0 hL he _;unfold Y7;repeat' (first|exact h0|exact hL _|exact he _|apply BJ|(apply BK h0;intro _)|(apply BL<;>intro _))
def x8(p1146:gP)(f1146:iC)(p1329:rI)(f1329:r7)(p144:I1)(f144:I5)(p146:VS)(f146:V5)(p329:rO)(f329:sD)(p327:OC)(f327:OF)(p186:VW)(f186:V8)(p332:rP)(f332:sE)(p173:Bz)(f173:BA)(p171:UF)(f171:UI)(w333_14:Pat.D Gs->Option (Ad Oo NA))(a0 a1:Ab Ze):Option (DenS R7):=
 let e17_:=(aa .i64 (((f173 (a1,())).1.length:Int)-(1:Int)))
 let e14_:=(f327 (((f173 (a1,())).1.getD (ag e17_) (0:Int)),()))
 let e12_:=(f186 ((f173 (a0,())).1,e14_))
 let e18_:=(aa .i64 (((f173 (a0,())).1.length:Int)+(1:Int)))
 let e15_:=(aq (ag e18_) (0:Int))
 let e13_:=(f186 ((f173 (a1,())).1,e14_))
 let e11_:=(aa .i64 ((((e12_.1.take e15_.length)++(e15_.drop e12_.1.length)).length:Int)-(e13_.1.length:Int)))
 let e1_:=(aq (ag e11_) (0:Int))
 let e2_:=e11_
 let e3_:=e13_
 let e4_:=e12_
 let e5_:=e14_
 let e6_:=e15_
 let e16_:=((f1146 (f173 (a0,()))).1,((f173 (a1,())).1.getD (ag (0:Int)) (0:Int)),())
 let e7_:=(((f1329 e16_).2.1::[]),())
 let e8_:=e16_
 let e9_:=e17_
 let e10_:=e18_
 bif(p173 (a0,()))then(bif(p173 (a1,()))then(bif(p144 ((f173 (a0,())).1,(f173 (a1,()))))then(bif(decide ((f144 ((f173 (a0,())).1,(f173 (a1,())))).1<(0:Int)))then(bif(p1146 (f173 (a0,())))then(some ([],(f1146 (f173 (a0,())))))
 else none)
 else bif(((f173 (a1,())).1.length:Int)==(1:Int))then(bif(p1146 (f173 (a0,())))then(bif(decide ((0:Int)<((f173 (a1,())).1.length:Int)))then(bif(p1329 e8_)then(bif(p173 e7_)then(some ((f1329 e8_).1,(f173 e7_)))
 else none)
 else none)
 else none)
 else none)
 else bif((decide ((0:Int)<=e9_))&&(decide (e9_<((f173 (a1,())).1.length:Int))))then(bif(p327 (((f173 (a1,())).1.getD (ag e9_) (0:Int)),()))then(bif(p186 ((f173 (a1,())).1,e5_))then(bif((decide ((0:Int)<=e10_))&&(decide ((e10_*(8:Int))<=(140737488355328:Int))))then(bif(p186 ((f173 (a0,())).1,e5_))then(bif((decide ((0:Int)<=e2_))&&(decide ((e2_*(8:Int))<=(140737488355328:Int))))then(Vx.Bi (w333_14 ((e3_.1,(aa .i64 ((e1_.length:Int)-(1:Int))),(),(),(e3_.1.length:Int),e5_),((e4_.1.take e6_.length)++(e6_.drop e4_.1.length)),e1_,())) fun y11=>
 Vx.Bg y11 (fun y12=>
 bif(p173 y12.2.2)then(bif((decide ((0:Int)<=y12.1.2.2.1))&&(decide (y12.1.2.2.1<=(y12.2.1.length:Int))))then(bif(p171 (((y12.2.1.take (ag y12.1.2.2.1)).drop (ag (0:Int))),y12.1.2.2.2))then(some ((f173 y12.2.2).1,(f171 (((y12.2.1.take (ag y12.1.2.2.1)).drop (ag (0:Int))),y12.1.2.2.2))))
 else none)
 else none)
 else none) (fun z12=>
 none))
 else none)
 else none)
 else none)
 else none)
 else none)
 else none)
 else none)
 else none)
 else none
theorem bFs(x:DenS P4):run ({cf [(116,⟨JJ,Kh,p1146,f1146⟩),(117,⟨L7,MD,p1329,f1329⟩),(101,⟨Ge,Gl,p144,f144⟩),(116,⟨H1,If,p146,f146⟩),(117,⟨Md,MI,p329,f329⟩),(118,⟨GV,Hb,p327,f327⟩),(97,⟨JV,Kr,p186,f186⟩),(93,⟨BW,BX,p173,f173⟩),(100,⟨H2,Ig,p171,f171⟩)] [(99,14,LoopSpec.of Gs nC Oo NA w333_14)]with cut:=true,lsums:=[(119,⟨FA,Me,Kv,p332,f332⟩)] }) 9 99 Tryz.f99 P4 R7 x=x8 p1146 f1146 p1329 f1329 p144 f144 p146 f146 p329 f329 p327 f327 p186 f186 p332 f332 p173 f173 p171 f171 w333_14 x.1 x.2.1:=by kernel_rfl
def gL:Gs.D->Option (Ad Oo NA):=Bn fun L=>Y7 DC.pre DC.F EX.pre EX.F B5.pre B5.F CO.pre CO.F FS.pre FS.F B6.pre B6.F DE.pre DE.F EZ.pre EZ.F Am.pre Am.F CP.pre CP.F L some
def dQ(x:DenS P4):Option (DenS R7):=x8 DC.pre DC.F EX.pre EX.F B5.pre B5.F CO.pre CO.F FS.pre FS.F B6.pre B6.F DE.pre DE.F EZ.pre EZ.F Am.pre Am.F CP.pre CP.F gL x.1 x.2.1
def TL:Sum:=Aj P4 R7 dQ (DenS.dflt R7)
theorem aU0:Sound Tryz.prog G1 99 TL:=sd ({cf [(116,DC),(117,EX),(101,B5),(116,CO),(117,FS),(118,B6),(97,DE),(93,Am),(100,CP)] [(99,14,LoopSpec.of Gs nC Oo NA gL)]with cut:=true,lsums:=[(119,EZ)] }) 99 Tryz.f99 ⟨aGv,aUt,n9,aAT,aUV,aGM,aGG,Ep,aAU,trivial⟩ ⟨rfl,fun d=>BI (fun L e x=>Y7 DC.pre DC.F EX.pre EX.F B5.pre B5.F CO.pre CO.F FS.pre FS.F B6.pre B6.F DE.pre DE.F EZ.pre EZ.F Am.pre Am.F CP.pre CP.F L e x) (aPG DC.pre DC.F EX.pre EX.F B5.pre B5.F CO.pre CO.F FS.pre FS.F B6.pre B6.F DE.pre DE.F EZ.pre EZ.F Am.pre Am.F CP.pre CP.F) (fun _ _ _ _=>bIF ..),trivial⟩ P4 R7 dQ _ (fun _=>bFs ..) (hls:=⟨aUZ,trivial⟩)
abbrev aBQ:=Ag P4
abbrev aCG:=Af P4 R7
variable (p333:aBQ)(f333:aCG)
abbrev Mf:Aa:=[(false,Ze),(false,Ze)]
abbrev MJ:Aa:=[(false,Ze),(false,Ze),(false,Za)]
def x9(p185:VU)(f185:V7)(p173:Bz)(f173:BA)(p333:aBQ)(f333:aCG)(a0 a1:Ab Ze):Option (DenS MJ):=bif(p185 ((a0::(a1::[])),()))then(bif(f185 ((a0::(a1::[])),())).1 then(some ([],[],(5:Int),()))else bif(p173 (a1,()))then(bif(((f173 (a1,())).1.length:Int)==(0:Int))then(some ([],[],(10:Int),()))else bif(p333 (a0,a1,()))then(some ((f333 (a0,a1,())).1,(f333 (a0,a1,())).2.1,(0:Int),()))else none)else none)else none
theorem bFt(x:DenS Mf):run (cf [(96,⟨JU,Kq,p185,f185⟩),(93,⟨BW,BX,p173,f173⟩),(99,⟨P4,R7,p333,f333⟩)] []) 9 247 Tryz.f247 Mf MJ x=x9 p185 f185 p173 f173 p333 f333 x.1 x.2.1:=by kernel_rfl
def dR(x:DenS Mf):Option (DenS MJ):=x9 EY.pre EY.F Am.pre Am.F TL.pre TL.F x.1 x.2.1
def E0:Sum:=Aj Mf MJ dR (DenS.dflt MJ)
theorem aU1:Sound Tryz.prog G1 247 E0:=sd (cf [(96,EY),(93,Am),(99,TL)] []) 247 Tryz.f247 ⟨aAW,Ep,aU0,trivial⟩ trivial Mf MJ dR _ (fun _=>bFt ..)
abbrev rQ:=Ag Mf
abbrev sG:=Af Mf MJ
variable (p345:rQ)(f345:sG)
abbrev Pv:Aa:=[(true,Ze),(false,Ze)]
abbrev Rz:Aa:=[(true,Ze)]
abbrev In:Pat:=⟨37,[(9,.one (.v .i64)),(1,.one (.sl Zb)),(5,.one (.v .u64)),(10,.one (.v .i64)),(0,.one (.own 0))],[.arr Zb]⟩
abbrev mE:List (Nat×Shape):=[]
abbrev NX:List (Nat×Pat):=[(0,⟨37,[(0,.one (.own 0))],[.arr Zb]⟩)]
abbrev Na:Option Pat:=none
variable (w1174_3:Pat.D In->Option (Ad NX Na))
def YJ(p1173:UE)(f1173:UH)(p157:Hu)(f157:Hy)(p173:Bz)(f173:BA){R:Type}(L:Pat.D In->Option R)(e:Ad NX Na->Option R)(x:Pat.D In):Option R:=let e8_:=(x.2.1.getD (ag x.1.2.2.2.1) (0:Int));let e7_:=((x.1.2.1.getD (ag x.1.2.2.2.1) (0:Int)),x.1.2.2.1,());let e1_:=(f157 (e8_,e7_));let e2_:=((decide ((0:Int)<=x.1.2.2.2.1))&&(decide (x.1.2.2.2.1<(x.2.1.length:Int))));let e3_:=(f157 (e8_,(0:Int),x.1.2.2.1,()));let e4_:=((aa .i64 (x.1.2.2.2.1+(1:Int))),(),());let e5_:=(decide (x.1.2.2.2.1<(x.1.2.1.length:Int)));let e6_:=e8_;bif(decide (x.1.2.2.2.1<x.1.1))then(bif e5_ then(bif((decide ((0:Int)<=x.1.2.2.2.1))&&e5_)then(bif e2_ then(bif(p157 (e6_,e7_))then(bif e2_ then(((L ((x.1.1,x.1.2.1,e1_.2.1,e4_),(x.2.1.set (ag x.1.2.2.2.1) e1_.1),()))))else none)else none)else none)else none)else bif e2_ then(bif(p157 (e6_,(0:Int),x.1.2.2.1,()))then(bif e2_ then(((L ((x.1.1,x.1.2.1,e3_.2.1,e4_),(x.2.1.set (ag x.1.2.2.2.1) e3_.1),()))))else none)else none)else none)else(e (.inl (((),()),x.2)))
theorem bIa(d:Nat)(R:Type)(L:Pat.D In->Option R)(e:Ad NX Na->Option R)(x:Pat.D In):
  Bv ({cf [(93,⟨HT,H7,p1173,f1173⟩),(148,⟨Ma,RJ,p157,f157⟩),(93,⟨BW,BX,p173,f173⟩)] [(254,3,LoopSpec.of In mE NX Na w1174_3)]with keep:=true}) (d+2) 254 (Bu Tryz.f254 3) In mE NX Na (R:=R) L e x=YJ p1173 f1173 p157 f157 p173 f173 L e x:=by kernel_rfl
theorem aPi(p1173:UE)(f1173:UH)(p157:Hu)(f157:Hy)(p173:Bz)(f173:BA):Bt fun L e x=>YJ p1173 f1173 p157 f157 p173 f173 L e x:=by intro _ _ _ _ _ _ _ h0 hL he _;unfold YJ;repeat' (first|exact h0|exact hL _|exact he _|apply BJ|(apply BK h0;intro _)|(apply BL<;>intro _))
def wH(p1173:UE)(f1173:UH)(p157:Hu)(f157:Hy)(p173:Bz)(f173:BA)(w1174_3:Pat.D In->Option (Ad NX Na))(a0 a1:Ab Ze):Option (DenS Rz):=
 Vx.Bi (w1174_3 (((a0.length:Int),a1,(0:Int),(0:Int),(),()),a0,())) fun y0=>
 Vx.Bg y0 (fun y1=>
 bif(p1173 y1.2)then(some (f1173 y1.2))
 else none) (fun z1=>
 none)
theorem bEi(x:DenS Pv):run ({cf [(93,⟨HT,H7,p1173,f1173⟩),(148,⟨Ma,RJ,p157,f157⟩),(93,⟨BW,BX,p173,f173⟩)] [(254,3,LoopSpec.of In mE NX Na w1174_3)]with keep:=true}) 9 254 Tryz.f254 Pv Rz x=wH p1173 f1173 p157 f157 p173 f173 w1174_3 x.1 x.2.1:=by kernel_rfl
def gG:In.D->Option (Ad NX Na):=Bn fun L=>YJ Cg.pre Cg.F BE.pre BE.F Am.pre Am.F L some
def cF(x:DenS Pv):Option (DenS Rz):=wH Cg.pre Cg.F BE.pre BE.F Am.pre Am.F gG x.1 x.2.1
def TA:Sum:=Aj Pv Rz cF (DenS.dflt Rz)
theorem aUn:Sound Tryz.prog G1 254 TA:=sd ({cf [(93,Cg),(148,BE),(93,Am)] [(254,3,LoopSpec.of In mE NX Na gG)]with keep:=true}) 254 Tryz.f254 ⟨aGw,oB,Ep,trivial⟩ ⟨rfl,fun d=>BI (fun L e x=>YJ Cg.pre Cg.F BE.pre BE.F Am.pre Am.F L e x) (aPi Cg.pre Cg.F BE.pre BE.F Am.pre Am.F) (fun _ _ _ _=>bIa ..),trivial⟩ Pv Rz cF _ (fun _=>bEi ..)
abbrev aJF:=Ag Pv
abbrev aLe:=Af Pv Rz
variable (p1174:aJF)(f1174:aLe)
abbrev PK:Aa:=[(false,Ze),(false,Ze)]
abbrev RO:Aa:=[(false,Ze)]
abbrev IB:Pat:=⟨37,[(9,.one (.v .i64)),(1,.one (.sl Zb)),(5,.one (.v .u64)),(10,.one (.v .i64)),(0,.one (.sl Zb))],[]⟩
abbrev mU:List (Nat×Shape):=[]
abbrev Od:List (Nat×Pat):=[(0,⟨37,[(0,.one (.sl Zb))],[]⟩)]
abbrev Nq:Option Pat:=none
variable (w174_3:Pat.D IB->Option (Ad Od Nq))
def j5(p157:Hu)(f157:Hy)(p173:Bz)(f173:BA){R:Type}(L:Pat.D IB->Option R)(e:Ad Od Nq->Option R)(x:Pat.D IB):Option R:=let e1_:=((decide ((0:Int)<=x.1.2.2.2.1))&&(decide (x.1.2.2.2.1<(x.1.2.2.2.2.1.length:Int))));let e2_:=(x.1.2.2.2.2.1.getD (ag x.1.2.2.2.1) (0:Int));let e3_:=(decide (x.1.2.2.2.1<(x.1.2.1.length:Int)));bif(decide (x.1.2.2.2.1<x.1.1))then(bif e3_ then(bif((decide ((0:Int)<=x.1.2.2.2.1))&&e3_)then(bif e1_ then(bif(p157 (e2_,(x.1.2.1.getD (ag x.1.2.2.2.1) (0:Int)),x.1.2.2.1,()))then(bif e1_ then((none))else none)else none)else none)else none)else bif e1_ then(bif(p157 (e2_,(0:Int),x.1.2.2.1,()))then(bif e1_ then((none))else none)else none)else none)else(e (.inl (x.1.2.2.2.2,())))
theorem bIp(d:Nat)(R:Type)(L:Pat.D IB->Option R)(e:Ad Od Nq->Option R)(x:Pat.D IB):
  Bv (cf [(148,⟨Ma,RJ,p157,f157⟩),(93,⟨BW,BX,p173,f173⟩)] [(254,3,LoopSpec.of IB mU Od Nq w174_3)]) (d+2) 254 (Bu Tryz.f254 3) IB mU Od Nq (R:=R) L e x=j5 p157 f157 p173 f173 L e x:=by kernel_rfl
theorem bBt(p157:Hu)(f157:Hy)(p173:Bz)(f173:BA):Bt fun L e x=>j5 p157 f157 p173 f173 L e x:=by intro _ _ _ _ _ _ _ h0 hL he _;unfold j5;repeat' (first|exact h0|exact hL _|exact he _|apply BJ|(apply BK h0;intro _)|(apply BL<;>intro _))
def aRR(p157:Hu)(f157:Hy)(p173:Bz)(f173:BA)(w174_3:Pat.D IB->Option (Ad Od Nq))(a0 a1:Ab Ze):Option (DenS RO):=
 Vx.Bi (w174_3 (((a0.length:Int),a1,(0:Int),(0:Int),a0,()),())) fun y0=>
 Vx.Bg y0 (fun y1=>
 bif(p173 y1.1)then(some (f173 y1.1))
 else none) (fun z1=>
 none)
theorem bEV(x:DenS PK):run (cf [(148,⟨Ma,RJ,p157,f157⟩),(93,⟨BW,BX,p173,f173⟩)] [(254,3,LoopSpec.of IB mU Od Nq w174_3)]) 9 254 Tryz.f254 PK RO x=aRR p157 f157 p173 f173 w174_3 x.1 x.2.1:=by kernel_rfl
def aJi:IB.D->Option (Ad Od Nq):=Bn fun L=>j5 BE.pre BE.F Am.pre Am.F L some
def aHK(x:DenS PK):Option (DenS RO):=aRR BE.pre BE.F Am.pre Am.F aJi x.1 x.2.1
def Xp:Sum:=Aj PK RO aHK (DenS.dflt RO)
theorem aUF:Sound Tryz.prog G1 254 Xp:=sd (cf [(148,BE),(93,Am)] [(254,3,LoopSpec.of IB mU Od Nq aJi)]) 254 Tryz.f254 ⟨oB,Ep,trivial⟩ ⟨rfl,fun d=>BI (fun L e x=>j5 BE.pre BE.F Am.pre Am.F L e x) (bBt BE.pre BE.F Am.pre Am.F) (fun _ _ _ _=>bIp ..),trivial⟩ PK RO aHK _ (fun _=>bEV ..)
abbrev aJS:=Ag PK
abbrev aLr:=Af PK RO
variable (p174:aJS)(f174:aLr)
abbrev JQ:Aa:=[(false,Ze),(false,Ze)]
abbrev Km:Aa:=[(false,Ze),(false,Za)]
def wY(p1174:aJF)(f1174:aLe)(p1146:gP)(f1146:iC)(p144:I1)(f144:I5)(p146:VS)(f146:V5)(p173:Bz)(f173:BA)(p174:aJS)(f174:aLr)(a0 a1:Ab Ze):Option (DenS Km):=bif(p144 (a0,a1,()))then(bif(decide ((f144 (a0,a1,())).1<(0:Int)))then(some ([],(20:Int),()))else bif(p1146 (a0,()))then(bif(p173 (a1,()))then(bif(p1174 ((f1146 (a0,())).1,(f173 (a1,()))))then(some ((f1174 ((f1146 (a0,())).1,(f173 (a1,())))).1,(0:Int),()))else none)else none)else none)else none
theorem bED(x:DenS JQ):run (cf [(254,⟨Pv,Rz,p1174,f1174⟩),(116,⟨JJ,Kh,p1146,f1146⟩),(101,⟨Ge,Gl,p144,f144⟩),(116,⟨H1,If,p146,f146⟩),(93,⟨BW,BX,p173,f173⟩),(254,⟨PK,RO,p174,f174⟩)] []) 9 248 Tryz.f248 JQ Km x=wY p1174 f1174 p1146 f1146 p144 f144 p146 f146 p173 f173 p174 f174 x.1 x.2.1:=by kernel_rfl
def cS(x:DenS JQ):Option (DenS Km):=wY TA.pre TA.F DC.pre DC.F B5.pre B5.F CO.pre CO.F Am.pre Am.F Xp.pre Xp.F x.1 x.2.1
def D5:Sum:=Aj JQ Km cS (DenS.dflt Km)
theorem aGB:Sound Tryz.prog G1 248 D5:=sd (cf [(254,TA),(116,DC),(101,B5),(116,CO),(93,Am),(254,Xp)] []) 248 Tryz.f248 ⟨aUn,aGv,n9,aAT,Ep,aUF,trivial⟩ trivial JQ Km cS _ (fun _=>bED ..)
abbrev XZ:=Ag JQ
abbrev Yb:=Af JQ Km
variable (p145:XZ)(f145:Yb)
abbrev Qe:Aa:=[(false,Ze),(false,Ze),(false,Za)]
abbrev Sh:Aa:=[(true,Zu)]
abbrev IM:Pat:=⟨81,[(2,.one (.v .i64)),(1,.one (.sl Zb)),(11,.one (.sl Zb)),(13,.one (.ptr 1 0)),(6,.one (.ptr 0 0))],[.raw [.bool,.sl Zb,.v .i64,.bool],.raw [.bool,.sl Zb,.v .i64,.bool]]⟩
abbrev nE:List (Nat×Shape):=[]
abbrev Ot:List (Nat×Pat):=[(0,⟨81,[(11,.one (.sl Zb)),(13,.one (.ptr 1 0)),(6,.one (.ptr 0 0))],[.raw [.bool,.sl Zb,.v .i64,.bool],.raw [.bool,.sl Zb,.v .i64,.bool]]⟩)]
abbrev NC:Option Pat:=none
variable (w379_5:Pat.D IM->Option (Ad Ot NC))
def Y9(p176:VT)(f176:V6)(p345:rQ)(f345:sG)(p151:Li)(f151:Ll)(p144:I1)(f144:I5)(p145:XZ)(f145:Yb)(p143:OB)(f143:OE){R:Type}(L:Pat.D IM->Option R)(e:Ad Ot NC->Option R)(x:Pat.D IM):Option R:=let e1_:=((aa .i64 (x.2.2.1.2.2.1-(1:Int))),x.2.2.1.2.2.2);let e2_:=((f143 (x.2.2.1.2.1,x.2.2.1.2.1,())).1,((1:Int)::[]),());let e3_:=((f143 (x.1.2.2.1,x.1.2.2.1,())).1,x.1.2.1,());bif(p151 (x.2.2.1.2.1,()))then(bif((decide ((f151 (x.2.2.1.2.1,())).1<x.1.1))&&(decide ((x.1.2.2.1.length:Int)>(0:Int))))then(bif(p143 (x.2.2.1.2.1,x.2.2.1.2.1,()))then(bif(p143 (x.1.2.2.1,x.1.2.2.1,()))then(bif(p144 e3_)then(bif(decide ((f144 e3_).1>=(0:Int)))then(bif(p145 e3_)then(bif(p143 e2_)then(((L ((x.1.1,x.1.2.1,(f145 e3_).1,(),(),()),x.2.1,(x.2.2.1.1,(f143 e2_).1,e1_),()))))else none)else none)else(L ((x.1.1,x.1.2.1,(f143 (x.1.2.2.1,x.1.2.2.1,())).1,(),(),()),x.2.1,(x.2.2.1.1,(f143 (x.2.2.1.2.1,x.2.2.1.2.1,())).1,e1_),())))else none)else none)else none)else(e (.inl ((x.1.2.2.1,(),(),()),x.2))))else none
theorem bIH(d:Nat)(R:Type)(L:Pat.D IM->Option R)(e:Ad Ot NC->Option R)(x:Pat.D IM):
  Bv (cf [(67,⟨JS,Ko,p176,f176⟩),(247,⟨Mf,MJ,p345,f345⟩),(98,⟨Gf,Gm,p151,f151⟩),(101,⟨Ge,Gl,p144,f144⟩),(248,⟨JQ,Km,p145,f145⟩),(65,⟨H0,Ha,p143,f143⟩)] [(238,5,LoopSpec.of IM nE Ot NC w379_5)]) (d+2) 238 (Bu Tryz.f238 5) IM nE Ot NC (R:=R) L e x=Y9 p176 f176 p345 f345 p151 f151 p144 f144 p145 f145 p143 f143 L e x:=by kernel_rfl
theorem aPI(p176:VT)(f176:V6)(p345:rQ)(f345:sG)(p151:Li)(f151:Ll)(p144:I1)(f144:I5)(p145:XZ)(f145:Yb)(p143:OB)(f143:OE):Bt fun L e x=>Y9 p176 f176 p345 f345 p151 f151 p144 f144 p145 f145 p143 f143 L e x:=by intro _ _ _ _ _ _ _ h0 hL he _;unfold Y9;repeat' (first|exact h0|exact hL _|exact he _|apply BJ|(apply BK h0;intro _)|(apply BL<;>intro _))
def yE(p176:VT)(f176:V6)(p345:rQ)(f345:sG)(p151:Li)(f151:Ll)(p144:I1)(f144:I5)(p145:XZ)(f145:Yb)(p143:OB)(f143:OE)(w379_5:Pat.D IM->Option (Ad Ot NC))(a0 a1:Ab Ze)(a2:Ab Za):Option (DenS Sh):=
 let e5_:=(aa .i64 ((aa .i64 ((f151 (a1,())).1-(f151 (a0,())).1))-(1:Int)))
 let e4_:=(a0,(if(e5_>(0:Int))then e5_ else(0:Int)),())
 let e1_:=(f345 ((f176 e4_).1,a1,()))
 let e2_:=e4_
 let e3_:=e5_
 bif(p151 (a1,()))then(bif(p151 (a0,()))then(bif(p176 e2_)then(bif(p345 ((f176 e2_).1,a1,()))then(Vx.Bi (w379_5 ((a2,a1,e1_.2.1,(),(),()),(false,[],(0:Int),false,()),(false,e1_.1,(aa .i64 ((0:Int)-(if(e3_>(0:Int))then e3_ else(0:Int)))),false,()),())) fun y4=>
 Vx.Bg y4 (fun y5=>
 some ((y5.2.2.1.1,y5.2.2.1.2.1,y5.2.2.1.2.2.1,(decide ((y5.1.1.length:Int)>(0:Int))),()),())) (fun z5=>
 none))
 else none)
 else none)
 else none)
 else none
theorem bFE(x:DenS Qe):run (cf [(67,⟨JS,Ko,p176,f176⟩),(247,⟨Mf,MJ,p345,f345⟩),(98,⟨Gf,Gm,p151,f151⟩),(101,⟨Ge,Gl,p144,f144⟩),(248,⟨JQ,Km,p145,f145⟩),(65,⟨H0,Ha,p143,f143⟩)] [(238,5,LoopSpec.of IM nE Ot NC w379_5)]) 9 238 Tryz.f238 Qe Sh x=yE p176 f176 p345 f345 p151 f151 p144 f144 p145 f145 p143 f143 w379_5 x.1 x.2.1 x.2.2.1:=by kernel_rfl
def rA:IM.D->Option (Ad Ot NC):=Bn fun L=>Y9 D6.pre D6.F E0.pre E0.F Cj.pre Cj.F B5.pre B5.F D5.pre D5.F Dr.pre Dr.F L some
def dZ(x:DenS Qe):Option (DenS Sh):=yE D6.pre D6.F E0.pre E0.F Cj.pre Cj.F B5.pre B5.F D5.pre D5.F Dr.pre Dr.F rA x.1 x.2.1 x.2.2.1
def TT:Sum:=Aj Qe Sh dZ (DenS.dflt Sh)
theorem aVa:Sound Tryz.prog G1 238 TT:=sd (cf [(67,D6),(247,E0),(98,Cj),(101,B5),(248,D5),(65,Dr)] [(238,5,LoopSpec.of IM nE Ot NC rA)]) 238 Tryz.f238 ⟨aGF,aU1,bE,n9,aGB,aAS,trivial⟩ ⟨rfl,fun d=>BI (fun L e x=>Y9 D6.pre D6.F E0.pre E0.F Cj.pre Cj.F B5.pre B5.F D5.pre D5.F Dr.pre Dr.F L e x) (aPI D6.pre D6.F E0.pre E0.F Cj.pre Cj.F B5.pre B5.F D5.pre D5.F Dr.pre Dr.F) (fun _ _ _ _=>bIH ..),trivial⟩ Qe Sh dZ _ (fun _=>bFE ..)
abbrev aKa:=Ag Qe
abbrev aLJ:=Af Qe Sh
variable (p379:aKa)(f379:aLJ)
abbrev Qg:Aa:=[(false,Za),(false,Za),(false,.bool),(false,Ze),(false,Ze),(false,Za)]
abbrev Si:Aa:=[(false,Zb),(false,Za),(false,Za)]
def yF(p105:XV)(f105:X7)(p102:Hr)(f102:Hw)(p156:rJ)(f156:r8)(p379:aKa)(f379:aLJ)(p107:XW)(f107:X8)(a0 a1:Ab Za)(a2:Ab (.bool))(a3 a4:Ab Ze)(a5:Ab Za):Option (DenS Si):=let e4_:=((f102 (a3,())).1,(f102 (a4,())).1,(aa .i64 ((f105 (a0,a1,())).1.2.1+(3:Int))),());let e3_:=(f379 e4_);let e1_:=(f107 ((a2,e3_.1.2.1,(aa .i64 (e3_.1.2.2.1+a5)),e3_.1.2.2.2),a0,(f105 (a0,a1,())).1,a1,()));let e2_:=e3_;bif(p105 (a0,a1,()))then(bif((f105 (a0,a1,())).2.1 !=(0:Int))then(some ((0:Int),(0:Int),(f105 (a0,a1,())).2))else bif(p102 (a3,()))then(bif(p102 (a4,()))then(bif(decide ((aa .i64 (((f102 (a3,())).1.length:Int)+((f102 (a4,())).1.length:Int)))>(1024:Int)))then(some ((0:Int),(0:Int),(5:Int),()))else bif((decide (a5<(-(40000:Int))))||(decide (a5>(40000:Int))))then(some ((0:Int),(0:Int),(30:Int),()))else bif(((f102 (a4,())).1.length:Int)==(0:Int))then(some ((0:Int),(0:Int),(10:Int),()))else bif(((f102 (a3,())).1.length:Int)==(0:Int))then(bif(p156 (a0,a2,()))then(some (f156 (a0,a2,())))else none)else bif(p379 e4_)then(bif(p107 ((a2,e2_.1.2.1,(aa .i64 (e2_.1.2.2.1+a5)),e2_.1.2.2.2),a0,(f105 (a0,a1,())).1,a1,()))then(some (e1_.1,e1_.2.1,(0:Int),()))else none)else none)else none)else none)else none
theorem bFG(x:DenS Qg):run (cf [(121,⟨JH,Kf,p105,f105⟩),(122,⟨Fw,FE,p102,f102⟩),(123,⟨L9,MF,p156,f156⟩),(238,⟨Qe,Sh,p379,f379⟩),(124,⟨JI,Kg,p107,f107⟩)] []) 9 204 Tryz.f204 Qg Si x=yF p105 f105 p102 f102 p156 f156 p379 f379 p107 f107 x.1 x.2.1 x.2.2.1 x.2.2.2.1 x.2.2.2.2.1 x.2.2.2.2.2.1:=by kernel_rfl
def d0(x:DenS Qg):Option (DenS Si):=yF FN.pre FN.F Ci.pre Ci.F IW.pre IW.F TT.pre TT.F FO.pre FO.F x.1 x.2.1 x.2.2.1 x.2.2.2.1 x.2.2.2.2.1 x.2.2.2.2.2.1
def TU:Sum:=Aj Qg Si d0 (DenS.dflt Si)
theorem aVb:Sound Tryz.prog G1 204 TU:=sd (cf [(121,FN),(122,Ci),(123,IW),(238,TT),(124,FO)] []) 204 Tryz.f204 ⟨aAJ,bD,aGD,aVa,aAK,trivial⟩ trivial Qg Si d0 _ (fun _=>bFG ..)
abbrev aKc:=Ag Qg
abbrev aLL:=Af Qg Si
variable (p380:aKc)(f380:aLL)
abbrev Qh:Aa:=[(false,Za),(false,Za),(false,Zb),(false,Zb)]
abbrev MM:Aa:=[(false,Zb),(false,Za),(false,Za)]
def yG(p376:aJ7)(f376:aLG)(p377:aJ8)(f377:aLH)(p378:aJ9)(f378:aLI)(p97:OD)(f97:OG)(p118:I0)(f118:I4)(p40:UG)(f40:UJ)(p380:aKc)(f380:aLL)(a0 a1:Ab Za)(a2 a3:Ab Zb):Option (DenS MM):=let e6_:=(!((f377 (a0,a2,())).1.2.2.2.2.1==(f377 (a0,a3,())).1.2.2.2.2.1));let e1_:=(a0,a1,e6_,(f40 (a0,a2,())).1.2.1,(f40 (a0,a3,())).1.2.1,(aa .i64 ((f40 (a0,a2,())).1.2.2.1-(f40 (a0,a3,())).1.2.2.1)),());let e5_:=(a0,e6_,());let e2_:=(f118 e5_);let e3_:=(f97 e5_);let e4_:=(p97 e5_);let g1_:Option (DenS MM):=bif(p378 (a0,(1:Int),()))then(some (f378 (a0,(1:Int),())))else none;bif(p376 (a0,a1,(a2::(a3::[])),()))then(bif((f376 (a0,a1,(a2::(a3::[])),())).1 !=(0:Int))then(some ((0:Int),(0:Int),(f376 (a0,a1,(a2::(a3::[])),()))))else bif(p377 (a0,a2,()))then(bif(p377 (a0,a3,()))then(bif((f377 (a0,a2,())).1.2.1||(f377 (a0,a3,())).1.2.1)then(g1_)else bif((f377 (a0,a2,())).1.1||(f377 (a0,a3,())).1.1)then(bif(p378 (a0,(0:Int),()))then(some (f378 (a0,(0:Int),())))else none)else bif(((f377 (a0,a2,())).1.2.2.1&&(f377 (a0,a3,())).1.2.2.1)||((f377 (a0,a2,())).1.2.2.2.1&&(f377 (a0,a3,())).1.2.2.2.1))then(g1_)else bif(f377 (a0,a2,())).1.2.2.1 then(bif e4_ then(some (e3_.1,(0:Int),e3_.2))else none)else bif(f377 (a0,a3,())).1.2.2.2.1 then(bif e4_ then(some (e3_.1,(2:Int),e3_.2))else none)else bif((f377 (a0,a3,())).1.2.2.1||(f377 (a0,a2,())).1.2.2.2.1)then(bif(p118 e5_)then(some (e2_.1,(0:Int),e2_.2))else none)else bif(p40 (a0,a2,()))then(bif(p40 (a0,a3,()))then(bif(p380 e1_)then(some (f380 e1_))else none)else none)else none)else none)else none)else none
theorem bFH(x:DenS Qh):run (cf [(200,⟨Qb,Se,p376,f376⟩),(201,⟨Qc,Sf,p377,f377⟩),(202,⟨Qd,Sg,p378,f378⟩),(62,⟨G0,Hg,p97,f97⟩),(64,⟨Fg,FF,p118,f118⟩),(203,⟨GW,Hc,p40,f40⟩),(204,⟨Qg,Si,p380,f380⟩)] []) 9 161 Tryz.f161 Qh MM x=yG p376 f376 p377 f377 p378 f378 p97 f97 p118 f118 p40 f40 p380 f380 x.1 x.2.1 x.2.2.1 x.2.2.2.1:=by kernel_rfl
def eB(x:DenS Qh):Option (DenS MM):=yG TQ.pre TQ.F TR.pre TR.F TS.pre TS.F CR.pre CR.F B4.pre B4.F DP.pre DP.F TU.pre TU.F x.1 x.2.1 x.2.2.1 x.2.2.2.1
def NN:Sum:=Aj Qh MM eB (DenS.dflt MM)
theorem aGP:Sound Tryz.prog G1 161 NN:=sd (cf [(200,TQ),(201,TR),(202,TS),(62,CR),(64,B4),(203,DP),(204,TU)] []) 161 Tryz.f161 ⟨aU7,aU8,aU9,bZ,Xj,bN,aVb,trivial⟩ trivial Qh MM eB _ (fun _=>bFH ..)
abbrev aBT:=Ag Qh
abbrev aCJ:=Af Qh MM
variable (p381:aBT)(f381:aCJ)
abbrev nQ:Aa:=[(false,Za),(false,Za),(false,Zb),(false,Zb)]
abbrev aAD:Aa:=[(false,Zb),(false,Za),(false,Za)]
def Ty:SumF:=Lu nQ aAD [(158,[],FR),(159,[],NL),(160,[],NM),(161,[],NN)]
theorem aUg:L3 Tryz.prog G1 Ty:=Ys ⟨DU aAX,⟨DU aGJ,⟨DU aGN,⟨DU aGP,trivial⟩⟩⟩⟩
abbrev aJx:=Option (Nat×List Nat)->Ag nQ
abbrev aK6:=Option (Nat×List Nat)->Af nQ aAD
variable (p100002:aJx)(f100002:aK6)
abbrev Ql:Aa:=[(true,Zz),(false,Zc)]
abbrev MN:Aa:=[(false,Zb),(false,Za),(false,Za)]
def yH(p100002:aJx)(f100002:aK6)(a0:Ab Zz)(a1:Ab Zc):Option (DenS MN):=let e1_:=(a0.2.1,a0.1,a0.2.2.1,a0.2.2.2.1,());bif(p100002 (some (a1,[])) e1_)then(some (f100002 (some (a1,[])) e1_))else none
theorem bFL(x:DenS Ql):run ({cf [] []with fns:=[(57,⟨nQ,aAD,p100002,f100002⟩)] }) 9 192 Tryz.f192 Ql MN x=yH p100002 f100002 x.1 x.2.1:=by kernel_rfl
def eC(x:DenS Ql):Option (DenS MN):=yH Ty.pre Ty.F x.1 x.2.1
def Ds:Sum:=Aj Ql MN eC (DenS.dflt MN)
theorem bI:Sound Tryz.prog G1 192 Ds:=sd ({cf [] []with fns:=[(57,Ty)] }) 192 Tryz.f192 trivial trivial Ql MN eC _ (fun _=>bFL ..) (hfs:=⟨aUg,trivial⟩)
abbrev aBU:=Ag Ql
abbrev aCK:=Af Ql MN
variable (p395:aBU)(f395:aCK)
abbrev PT:Aa:=[(false,Za),(false,Za),(false,Ze)]
abbrev RX:Aa:=[(true,Zw),(false,Za)]
abbrev IG:Pat:=⟨44,[(30,.one (.v .i64)),(29,.one (.sl Zb)),(0,.one (.v .i64)),(31,.one (.v .i64)),(8,.one (.ptr 1 0)),(6,.one (.ptr 0 0))],[.raw [.v .i64,.v .i64,.v .i64,.v .i64],.raw [.v .i64,.v .i64,.v .i64,.v .i64]]⟩
abbrev mZ:List (Nat×Shape):=[]
abbrev Oi:List (Nat×Pat):=[(0,⟨44,[(8,.one (.ptr 1 0)),(6,.one (.ptr 0 0))],[.raw [.v .i64,.v .i64,.v .i64,.v .i64],.raw [.v .i64,.v .i64,.v .i64,.v .i64]]⟩)]
abbrev Nv:Option Pat:=(some ⟨44,[(6,.one (.ptr 0 0)),(7,.one (.v .i64))],[.raw [.v .i64,.v .i64,.v .i64,.v .i64]]⟩)
variable (w311_7:Pat.D IG->Option (Ad Oi Nv))
def j6(p69:BY)(f69:BZ)(p66:Cd)(f66:Ce){R:Type}(L:Pat.D IG->Option R)(e:Ad Oi Nv->Option R)(x:Pat.D IG):Option R:=let e2_:=(x.1.2.2.1,(x.1.2.1.getD (ag x.1.2.2.2.1) (0:Int)),());let e1_:=(f66 e2_);bif(decide (x.1.2.2.2.1<x.1.1))then(bif((decide ((0:Int)<=x.1.2.2.2.1))&&(decide (x.1.2.2.2.1<(x.1.2.1.length:Int))))then(bif(p66 e2_)then(bif(e1_.1 !=(0:Int))then(((e (.inr (((),e1_),x.2.2)))))else(L ((x.1.1,x.1.2.1,x.1.2.2.1,(aa .i64 (x.1.2.2.2.1+(1:Int))),(),(),()),x.2)))else none)else none)else(e (.inl (((),(),()),x.2)))
theorem bIu(d:Nat)(R:Type)(L:Pat.D IG->Option R)(e:Ad Oi Nv->Option R)(x:Pat.D IG):
  Bv (cf [(71,⟨Cb,Cc,p69,f69⟩),(85,⟨Cx,Cy,p66,f66⟩)] [(58,7,LoopSpec.of IG mZ Oi Nv w311_7)]) (d+2) 58 (Bu Tryz.f58 7) IG mZ Oi Nv (R:=R) L e x=j6 p69 f69 p66 f66 L e x:=by kernel_rfl
theorem bBu(p69:BY)(f69:BZ)(p66:Cd)(f66:Ce):Bt fun L e x=>j6 p69 f69 p66 f66 L e x:=by intro _ _ _ _ _ _ _ h0 hL he _;unfold j6;repeat' (first|exact h0|exact hL _|exact he _|apply BJ|(apply BK h0;intro _)|(apply BL<;>intro _))
def aRV(p69:BY)(f69:BZ)(p66:Cd)(f66:Ce)(w311_7:Pat.D IG->Option (Ad Oi Nv))(a0 a1:Ab Za)(a2:Ab Ze):Option (DenS RX):=
 bif(p69 (a0,()))then(bif((f69 (a0,())).2.1 !=(0:Int))then(some (f69 (a0,())))
 else bif((decide (a1<(0:Int)))||(decide (a1>(5:Int))))then(some ((f69 (a0,())).1,(3:Int),()))
 else Vx.Bi (w311_7 (((a2.length:Int),a2,a0,(0:Int),(),(),()),((0:Int),(0:Int),(0:Int),(0:Int),()),(f69 (a0,())).1,())) fun y3=>
 Vx.Bg y3 (fun y4=>
 some (y4.2.2.1,(0:Int),())) (fun z4=>
 some (z4.2.1,z4.1.2)))
 else none
theorem bFb(x:DenS PT):run (cf [(71,⟨Cb,Cc,p69,f69⟩),(85,⟨Cx,Cy,p66,f66⟩)] [(58,7,LoopSpec.of IG mZ Oi Nv w311_7)]) 9 58 Tryz.f58 PT RX x=aRV p69 f69 p66 f66 w311_7 x.1 x.2.1 x.2.2.1:=by kernel_rfl
def aJj:IG.D->Option (Ad Oi Nv):=Bn fun L=>j6 As.pre As.F Aw.pre Aw.F L some
def aHR(x:DenS PT):Option (DenS RX):=aRV As.pre As.F Aw.pre Aw.F aJj x.1 x.2.1 x.2.2.1
def oE:Sum:=Aj PT RX aHR (DenS.dflt RX)
theorem aUN:Sound Tryz.prog G1 58 oE:=sd (cf [(71,As),(85,Aw)] [(58,7,LoopSpec.of IG mZ Oi Nv aJj)]) 58 Tryz.f58 ⟨DQ,FT,trivial⟩ ⟨rfl,fun d=>BI (fun L e x=>j6 As.pre As.F Aw.pre Aw.F L e x) (bBu As.pre As.F Aw.pre Aw.F) (fun _ _ _ _=>bIu ..),trivial⟩ PT RX aHR _ (fun _=>bFb ..)
abbrev rM:=Ag PT
abbrev sB:=Af PT RX
variable (p311:rM)(f311:sB)
abbrev PU:Aa:=[(false,Za),(false,Za)]
abbrev RY:Aa:=[(false,Zb),(false,Za),(false,.bool)]
def aRW(p70:DG)(f70:DH)(a0 a1:Ab Za):Option (DenS RY):=bif(p70 (a0,()))then(bif(a1==(1:Int))then(some ((f70 (a0,())).1,(0:Int),true,()))else bif(a1==(0:Int))then(bif(a1==(0:Int))then(some ((f70 (a0,())).1,(1:Int),true,()))else some ((0:Int),(0:Int),false,()))else bif(a1==(2:Int))then(bif(a1==(2:Int))then(some ((f70 (a0,())).1,(1:Int),true,()))else some ((0:Int),(0:Int),false,()))else bif(a1==(3:Int))then(bif(a1==(3:Int))then(some ((f70 (a0,())).1,(1:Int),true,()))else some ((0:Int),(0:Int),false,()))else bif(a1==(4:Int))then(some ((f70 (a0,())).1,(1:Int),true,()))else some ((0:Int),(0:Int),false,()))else none
theorem bFc(x:DenS PU):run (cf [(61,⟨DA,DB,p70,f70⟩)] []) 9 205 Tryz.f205 PU RY x=aRW p70 f70 x.1 x.2.1:=by kernel_rfl
def aHS(x:DenS PU):Option (DenS RY):=aRW Bp.pre Bp.F x.1 x.2.1
def oF:Sum:=Aj PU RY aHS (DenS.dflt RY)
theorem aUO:Sound Tryz.prog G1 205 oF:=sd (cf [(61,Bp)] []) 205 Tryz.f205 ⟨GJ,trivial⟩ trivial PU RY aHS _ (fun _=>bFc ..)
abbrev aBL:=Ag PU
abbrev aCB:=Af PU RY
variable (p312:aBL)(f312:aCB)
abbrev PW:Aa:=[(false,Za),(true,Zw),(false,Zb)]
abbrev RZ:Aa:=[(false,Zb),(false,Za)]
def aRX(p98:Lk)(f98:Ln)(a0:Ab Za)(a1:Ab Zw)(a2:Ab Zb):Option (DenS RZ):=let e1_:=(aa .i64 (a1.2.1-(1:Int)));bif(p98 (a0,a2,()))then(bif((f98 (a0,a2,())).2.1==(0:Int))then(some ((f98 (a0,a2,())).2.2.1,(aa .i64 ((aa .i64 ((aa .i64 ((aa .i64 ((aa .i64 (1:Int))-(1:Int)))+a1.2.2.1))-a1.2.1))+(1:Int))),()))else bif(decide ((0:Int)<=e1_))then(some ((Ak .u64 (f98 (a0,a2,())).2.2.1 (Bj .u64 (1:Int) e1_)),(aa .i64 ((aa .i64 ((aa .i64 ((aa .i64 ((aa .i64 (f98 (a0,a2,())).2.1)-(1:Int)))+a1.2.2.1))-a1.2.1))+(1:Int))),()))else none)else none
theorem bFd(x:DenS PW):run (cf [(91,⟨Fx,FK,p98,f98⟩)] []) 9 63 Tryz.f63 PW RZ x=aRX p98 f98 x.1 x.2.1 x.2.2.1:=by kernel_rfl
def aHT(x:DenS PW):Option (DenS RZ):=aRX Ck.pre Ck.F x.1 x.2.1 x.2.2.1
def oG:Sum:=Aj PW RZ aHT (DenS.dflt RZ)
theorem aUP:Sound Tryz.prog G1 63 oG:=sd (cf [(91,Ck)] []) 63 Tryz.f63 ⟨Vy,trivial⟩ trivial PW RZ aHT _ (fun _=>bFd ..)
abbrev rN:=Ag PW
abbrev sC:=Af PW RZ
variable (p313:rN)(f313:sC)
abbrev PX:Aa:=[(true,Zj)]
abbrev R0:Aa:=[(false,Za)]
def aRY(p178:I2)(f178:I6)(a0:Ab Zj):Option (DenS R0):=bif(a0.1 !=(0:Int))then(bif(p178 (a0.1,()))then(some ((aa .i64 ((64:Int)+(f178 (a0.1,())).1)),()))else none)else bif(p178 a0.2)then(some (f178 a0.2))else none
theorem bFe(x:DenS PX):run (cf [(115,⟨Gg,FI,p178,f178⟩)] []) 9 206 Tryz.f206 PX R0 x=aRY p178 f178 x.1:=by kernel_rfl
def aHU(x:DenS PX):Option (DenS R0):=aRY CB.pre CB.F x.1
def oH:Sum:=Aj PX R0 aHU (DenS.dflt R0)
theorem aUQ:Sound Tryz.prog G1 206 oH:=sd (cf [(115,CB)] []) 206 Tryz.f206 ⟨bF,trivial⟩ trivial PX R0 aHU _ (fun _=>bFe ..)
abbrev aBM:=Ag PX
abbrev aCC:=Af PX R0
variable (p314:aBM)(f314:aCC)
end Vx
end
