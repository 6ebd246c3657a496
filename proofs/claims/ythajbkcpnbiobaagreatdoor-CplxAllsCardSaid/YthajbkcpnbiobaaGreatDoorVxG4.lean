/- Part 4 of the proof. What is proved: symbolic execution of the functions, proved sound; what each function of the program computes, and that every run ends with it; what these functions compute, in plain numbers. Conditions: each theorem bears its own. -/
import Derived.Test.YthajbkcpnbiobaaGreatDoorVxG3
import Derived.Test.YthajbkcpnbiobaaGreatDoorProg
set_option linter.all false
set_option exponentiation.threshold 1000000
noncomputable section
open Go.IntKind renaming wrap->aa
open Int renaming tmod->gj,toNat->af
open List renaming replicate->aq
namespace Vx
open Go Go.Proofs
abbrev Za:Shape:=.int .i64
abbrev Zb:Shape:=.int .u64
abbrev Zc:Shape:=.box .pfn
abbrev Zd:Shape:=.pair .bool .unit
abbrev Ze:Shape:=.slice Zb
abbrev Zf:Shape:=.pair Za .unit
abbrev Zg:Shape:=.pair Zb .unit
abbrev Zh:Shape:=.pair Za Zd
abbrev Zi:Shape:=.pair Za Zf
abbrev Zj:Shape:=.pair Zb Zg
abbrev Zk:Shape:=.pair Zb Zf
abbrev Zl:Shape:=.pair Ze Zf
abbrev Zm:Shape:=.slice Zj
abbrev Zn:Shape:=.pair .bool Zk
abbrev Zo:Shape:=.pair Zj .unit
abbrev Zp:Shape:=.pair Za Zi
abbrev Zq:Shape:=.pair Zb Zj
abbrev Zr:Shape:=.pair Ze Zh
abbrev Zs:Shape:=.pair .bool Zl
abbrev Zt:Shape:=.pair Za Zn
abbrev Zu:Shape:=.pair .bool Zr
abbrev Zv:Shape:=.pair Zs .unit
abbrev Zw:Shape:=.pair Za Zp
abbrev Zx:Shape:=.pair Za Zq
abbrev Zy:Shape:=.pair .bool Zv
abbrev Zz:Shape:=.pair Za Zx
abbrev ZA:Shape:=.pair .bool Zy
abbrev ZB:Shape:=.pair Zj Zo
abbrev ZC:Shape:=.pair .bool ZA
abbrev ZD:Shape:=.pair Za ZB
abbrev ZE:Shape:=.pair .bool ZC
abbrev ZF:Shape:=.pair .bool ZE
abbrev ZG:Shape:=.pair Za ZD
abbrev ZH:Shape:=.pair Za ZG
abbrev rowsSh:Shape:=Zw
abbrev kindsSh:Shape:=Zj
def k_rows:List (Ab rowsSh):=[(16,11,-14,15,()),(16,8,-126,127,()),(32,24,-126,127,()),(64,53,-1022,1023,())]
def I4:List UInt8:=[0,1,2,2,3,3,3,3,4,4,4,4,4,4,4,4,5,5,5,5,5,5,5,5,5,5,5,5,5,5,5,5,6,6,6,6,6,6,6,6,6,6,6,6,6,6,6,6,6,6,6,6,6,6,6,6,6,6,6,6,6,6,6,6,7,7,7,7,7,7,7,7,7,7,7,7,7,7,7,7,7,7,7,7,7,7,7,7,7,7,7,7,7,7,7,7,7,7,7,7,7,7,7,7,7,7,7,7,7,7,7,7,7,7,7,7,7,7,7,7,7,7,7,7,7,7,7,7,8,8,8,8,8,8,8,8,8,8,8,8,8,8,8,8,8,8,8,8,8,8,8,8,8,8,8,8,8,8,8,8,8,8,8,8,8,8,8,8,8,8,8,8,8,8,8,8,8,8,8,8,8,8,8,8,8,8,8,8,8,8,8,8,8,8,8,8,8,8,8,8,8,8,8,8,8,8,8,8,8,8,8,8,8,8,8,8,8,8,8,8,8,8,8,8,8,8,8,8,8,8,8,8,8,8,8,8,8,8,8,8,8,8,8,8,8,8,8,8,8,8,8,8,8,8,8,8]
def k_deb:List (Ab (.int .u8)):=[0,1,56,2,57,49,28,3,61,58,42,50,38,29,17,4,62,47,59,36,45,43,51,22,53,39,33,30,24,18,12,5,63,55,48,27,60,41,37,16,46,35,44,21,52,32,23,11,54,26,40,15,34,20,31,10,25,14,19,9,13,8,7,6]
def k_kinds:List (Ab kindsSh):=[(2147483648,2147483647,()),(9223372036854775808,9223372036854775807,()),(0,4294967295,()),(0,18446744073709551615,())]
def G1:List (Nat×Sigma fun τ=>List (Ab τ)):=[(1,⟨rowsSh,k_rows⟩),(4,⟨kindsSh,k_kinds⟩),(5,⟨.int .u8,k_deb⟩)]
abbrev Af(I:Aa):=DenS I->Bool
abbrev Ae(I O:Aa):=DenS I->DenS O
@[reducible] def cf(s:List (FuncId×Sum))(l:List (FuncId×Nat×LoopSpec)):Cfg:={P:=Tryz.prog,sums:=s,loops:=l,globs:=G1}
theorem sd(C:Cfg)(n:FuncId)(fn:Func)(hs:Wg C.P C.globs C.sums)(hl:UC C n fn C.loops)(I O:Aa)(t:DenS I->Option (DenS O))(d:DenS O)(h:∀x,run C 9 n fn I O x=t x)(hls:Wh C.P C.globs C.lsums:=by exact trivial)(hfs:We C.P C.globs C.fns:=by exact trivial)(hms:Wf C.P C.globs C.meths:=by exact trivial)
  (hm : C.P.follows .mixedOrders = true := by kernel_rfl) (hf : C.P.funcs[n]? = some fn := by kernel_rfl) (hb : (match fn.body with | some c => I8 ((CE c).map C9) | none => false) = true := by kernel_rfl) (hn : (fn.name == "runtime.NumGoroutine") = false := by kernel_rfl) : Sound C.P C.globs n (Ah I O t d) :=
 aX8 C 9 n fn hm hf hb hn hs hl I O t d h hls hfs hms
theorem Ea(C:Cfg)(n:FuncId)(fn:Func)(hs:Wg C.P C.globs C.sums)(hl:UC C n fn C.loops)(k:LK)(I O:Aa)(t:k.D×DenS I->Option (k.B×DenS O))(d:k.B×DenS O)(h:∀x,C2 C 9 n fn k I O x=t x)(hls:Wh C.P C.globs C.lsums:=by exact trivial)(hfs:We C.P C.globs C.fns:=by exact trivial)(hms:Wf C.P C.globs C.meths:=by exact trivial)
  (hm : C.P.follows .mixedOrders = true := by kernel_rfl) (hf : C.P.funcs[n]? = some fn := by kernel_rfl) (hb : (match fn.body with | some c => I8 ((CE c).map C9) | none => false) = true := by kernel_rfl) (hn : (fn.name == "runtime.NumGoroutine") = false := by kernel_rfl) : SoundL C.P C.globs n (C3 k I O t d) :=
 aX9 C 9 n fn hm hf hb hn hs hl k I O t d h hls hfs hms
abbrev B7:Aa:=[(false,Za)]
abbrev B8:Aa:=[(true,Zw),(false,Za)]
def xJ(a0:Ab Za):Option (DenS B8):=let e1_:=((0:Int),(0:Int),(0:Int),(0:Int),());bif((decide (a0<(0:Int)))||(decide (a0>=(4:Int))))then(some (e1_,(2:Int),()))else bif((decide ((0:Int)<=a0))&&(decide (a0<((4:Nat):Int))))then(some ((Vx.k_rows.getD (af a0) e1_),(0:Int),()))else none
theorem r69(x:DenS B7):run (cf [] []) 9 71 Tryz.f71 B7 B8 x=xJ x.1:=by kernel_rfl
def WZ(x:DenS B7):Option (DenS B8):=xJ x.1
def Aq:Sum:=Ah B7 B8 WZ (DenS.dflt B8)
theorem DC:Sound Tryz.prog G1 71 Aq:=sd (cf [] []) 71 Tryz.f71 trivial trivial B7 B8 WZ _ (fun _=>r69 ..)
abbrev BV:=Af B7
abbrev BW:=Ae B7 B8
variable (p69:BV)(f69:BW)
abbrev Cq:Aa:=[(false,Za),(false,Zb)]
abbrev Cr:Aa:=[(false,Za)]
def xG(p69:BV)(f69:BW)(a0:Ab Za)(a1:Ab Zb):Option (DenS Cr):=bif(p69 (a0,()))then(bif((f69 (a0,())).2.1 !=(0:Int))then(some (f69 (a0,())).2)else bif((decide ((0:Int)<=(f69 (a0,())).1.1))||(!(decide ((f69 (a0,())).1.1<(64:Int)))))then(bif((decide ((f69 (a0,())).1.1<(64:Int)))&&((AL .u64 a1 (f69 (a0,())).1.1)!=(0:Int)))then(some ((4:Int),()))else some ((0:Int),()))else none)else none
theorem r66(x:DenS Cq):run (cf [(71,⟨B7,B8,p69,f69⟩)] []) 9 85 Tryz.f85 Cq Cr x=xG p69 f69 x.1 x.2.1:=by kernel_rfl
def dK(x:DenS Cq):Option (DenS Cr):=xG Aq.pre Aq.F x.1 x.2.1
def Au:Sum:=Ah Cq Cr dK (DenS.dflt Cr)
theorem FM:Sound Tryz.prog G1 85 Au:=sd (cf [(71,Aq)] []) 85 Tryz.f85 ⟨DC,trivial⟩ trivial Cq Cr dK _ (fun _=>r66 ..)
abbrev B9:=Af Cq
abbrev Ca:=Ae Cq Cr
variable (p66:B9)(f66:Ca)
abbrev EI:Aa:=[(false,Za)]
abbrev EM:Aa:=[(false,Zb)]
def xQ(a0:Ab Za):Option (DenS EM):=bif(decide ((0:Int)<=a0))then(some ((aa .u64 ((Be .u64 (1:Int) a0)-(1:Int))),()))else none
theorem r91(x:DenS EI):run (cf [] []) 9 72 Tryz.f72 EI EM x=xQ x.1:=by kernel_rfl
def dV(x:DenS EI):Option (DenS EM):=xQ x.1
def BY:Sum:=Ah EI EM dV (DenS.dflt EM)
theorem NB:Sound Tryz.prog G1 72 BY:=sd (cf [] []) 72 Tryz.f72 trivial trivial EI EM dV _ (fun _=>r91 ..)
abbrev Hc:=Af EI
abbrev Hg:=Ae EI EM
variable (p91:Hc)(f91:Hg)
abbrev JR:Aa:=[(true,Zw),(false,Zb)]
abbrev Ks:Aa:=[(false,.bool),(false,Zb),(false,Zb)]
def xP(p91:Hc)(f91:Hg)(a0:Ab Zw)(a1:Ab Zb):Option (DenS Ks):=let e5_:=(aa .i64 (a0.2.1-(1:Int)));let e1_:=(e5_,());let e2_:=((aa .i64 (a0.1-a0.2.1)),());let e3_:=e5_;let e4_:=(aa .i64 (a0.1-(1:Int)));bif(decide ((0:Int)<=e4_))then(bif(decide ((0:Int)<=e3_))then(bif(p91 e2_)then(bif(p91 e1_)then(some (((AL .u64 a1 e4_)!=(0:Int)),(BN .u64 (AL .u64 a1 e3_) (f91 e2_).1),(BN .u64 a1 (f91 e1_).1),()))else none)else none)else none)else none
theorem r90(x:DenS JR):run (cf [(72,⟨EI,EM,p91,f91⟩)] []) 9 87 Tryz.f87 JR Ks x=xP p91 f91 x.1 x.2.1:=by kernel_rfl
def dU(x:DenS JR):Option (DenS Ks):=xP BY.pre BY.F x.1 x.2.1
def DD:Sum:=Ah JR Ks dU (DenS.dflt Ks)
theorem zR:Sound Tryz.prog G1 87 DD:=sd (cf [(72,BY)] []) 87 Tryz.f87 ⟨NB,trivial⟩ trivial JR Ks dU _ (fun _=>r90 ..)
abbrev eX:=Af JR
abbrev fL:=Ae JR Ks
variable (p90:eX)(f90:fL)
abbrev DQ:Aa:=[(false,Za),(false,Zb)]
abbrev DR:Aa:=[(false,Za),(false,Za)]
def Y0(p66:B9)(f66:Ca)(p90:eX)(f90:fL)(p91:Hc)(f91:Hg)(a0:Ab Za)(a1:Ab Zb):Option (DenS DR):=let e10_:=(Vx.k_rows.getD (af a0) ((0:Int),(0:Int),(0:Int),(0:Int),()));let e9_:=(f90 (e10_,a1,()));let e8_:=((aa .i64 (e10_.1-e10_.2.1)),());let e1_:=(e9_.2.1==(f91 e8_).1);let e2_:=(p91 e8_);let e3_:=(aa .i64 (e10_.2.1-(2:Int)));let e4_:=(e9_.2.2.1==(0:Int));let e5_:=(e9_.2.1==(0:Int));let e6_:=e9_;let e7_:=e10_;bif(p66 (a0,a1,()))then(bif((f66 (a0,a1,())).1 !=(0:Int))then(some ((0:Int),(f66 (a0,a1,()))))else bif((decide ((0:Int)<=a0))&&(decide (a0<((4:Nat):Int))))then(bif(p90 (e7_,a1,()))then(bif e2_ then(bif(e1_&&e4_)then(bif e6_.1 then(some ((aa .i64 ((11:Int)-(9:Int))),(0:Int),()))else some ((9:Int),(0:Int),()))else bif e2_ then(bif((decide ((0:Int)<=e3_))||(!(decide (e6_.2.1=(f91 ((aa .i64 (e7_.1-e7_.2.1)),())).1))))then(bif(e1_&&((AL .u64 e6_.2.2.1 e3_)!=(0:Int)))then(some ((1:Int),(0:Int),()))else bif e2_ then(bif e1_ then(some ((0:Int),(0:Int),()))else bif(e5_&&e4_)then(bif e6_.1 then(some ((aa .i64 ((11:Int)-(6:Int))),(0:Int),()))else some ((6:Int),(0:Int),()))else bif e5_ then(bif e6_.1 then(some ((aa .i64 ((11:Int)-(7:Int))),(0:Int),()))else some ((7:Int),(0:Int),()))else bif e6_.1 then(some ((aa .i64 ((11:Int)-(8:Int))),(0:Int),()))else some ((8:Int),(0:Int),()))else none)else none)else none)else none)else none)else none)else none
theorem r65(x:DenS DQ):run (cf [(85,⟨Cq,Cr,p66,f66⟩),(87,⟨JR,Ks,p90,f90⟩),(72,⟨EI,EM,p91,f91⟩)] []) 9 59 Tryz.f59 DQ DR x=Y0 p66 f66 p90 f90 p91 f91 x.1 x.2.1:=by kernel_rfl
def WX(x:DenS DQ):Option (DenS DR):=Y0 Au.pre Au.F DD.pre DD.F BY.pre BY.F x.1 x.2.1
def Bv:Sum:=Ah DQ DR WX (DenS.dflt DR)
theorem IE:Sound Tryz.prog G1 59 Bv:=sd (cf [(85,Au),(87,DD),(72,BY)] []) 59 Tryz.f59 ⟨FM,zR,NB,trivial⟩ trivial DQ DR WX _ (fun _=>r65 ..)
abbrev DW:=Af DQ
abbrev DX:=Ae DQ DR
variable (p65:DW)(f65:DX)
abbrev Jo:Aa:=[(true,Zw)]
abbrev JX:Aa:=[(false,Zb)]
def aPX(a0:Ab Zw):Option (DenS JX):=some ((0:Int),())
theorem bB2(x:DenS Jo):run (cf [] []) 9 89 Tryz.f89 Jo JX x=aPX x.1:=by kernel_rfl
def aFR(x:DenS Jo):Option (DenS JX):=aPX x.1
def KF:Sum:=Ah Jo JX aFR (DenS.dflt JX)
theorem yQ:Sound Tryz.prog G1 89 KF:=sd (cf [] []) 89 Tryz.f89 trivial trivial Jo JX aFR _ (fun _=>bB2 ..)
abbrev o0:=Af Jo
abbrev pU:=Ae Jo JX
variable (p116:o0)(f116:pU)
abbrev Pg:Aa:=[(true,Zw)]
abbrev Q9:Aa:=[(false,Zb)]
def aPY(a0:Ab Zw):Option (DenS Q9):=let e1_:=(aa .i64 (a0.2.1-(2:Int)));bif(decide ((0:Int)<=e1_))then(some ((Be .u64 (1:Int) e1_),()))else none
theorem bB3(x:DenS Pg):run (cf [] []) 9 90 Tryz.f90 Pg Q9 x=aPY x.1:=by kernel_rfl
def aFS(x:DenS Pg):Option (DenS Q9):=aPY x.1
def lY:Sum:=Ah Pg Q9 aFS (DenS.dflt Q9)
theorem aSJ:Sound Tryz.prog G1 90 lY:=sd (cf [] []) 90 Tryz.f90 trivial trivial Pg Q9 aFS _ (fun _=>bB3 ..)
abbrev aHZ:=Af Pg
abbrev aJD:=Ae Pg Q9
variable (p117:aHZ)(f117:aJD)
abbrev HG:Aa:=[(true,Zw),(false,.bool),(false,Zb),(false,Zb)]
abbrev HU:Aa:=[(false,Zb)]
def aP1(a0:Ab Zw)(a1:Ab (.bool))(a2 a3:Ab Zb):Option (DenS HU):=let e3_:=(aa .i64 (a0.2.1-(1:Int)));let e1_:=(Ai .u64 (Be .u64 a2 e3_) a3);let e2_:=(aa .i64 (a0.1-(1:Int)));bif(decide ((0:Int)<=e3_))then(bif a1 then(bif(decide ((0:Int)<=e2_))then(some ((Ai .u64 e1_ (Be .u64 (1:Int) e2_)),()))else none)else some (e1_,()))else none
theorem bCm(x:DenS HG):run (cf [] []) 9 73 Tryz.f73 HG HU x=aP1 x.1 x.2.1 x.2.2.1 x.2.2.2.1:=by kernel_rfl
def aFY(x:DenS HG):Option (DenS HU):=aP1 x.1 x.2.1 x.2.2.1 x.2.2.2.1
def Gj:Sum:=Ah HG HU aFY (DenS.dflt HU)
theorem mA:Sound Tryz.prog G1 73 Gj:=sd (cf [] []) 73 Tryz.f73 trivial trivial HG HU aFY _ (fun _=>bCm ..)
abbrev W5:=Af HG
abbrev Xj:=Ae HG HU
variable (p140:W5)(f140:Xj)
abbrev Dz:Aa:=[(false,Za)]
abbrev DA:Aa:=[(false,Zb),(false,Za)]
def t70(p116:o0)(f116:pU)(p117:aHZ)(f117:aJD)(p69:BV)(f69:BW)(p91:Hc)(f91:Hg)(p140:W5)(f140:Xj)(a0:Ab Za):Option (DenS DA):=let e2_:=((aa .i64 ((f69 (a0,())).1.1-(f69 (a0,())).1.2.1)),());let e1_:=((f69 (a0,())).1,false,(aa .u64 ((f91 e2_).1-(f116 ((f69 (a0,())).1,())).1)),(f117 ((f69 (a0,())).1,())));bif(p69 (a0,()))then(bif((f69 (a0,())).2.1 !=(0:Int))then(some ((0:Int),(f69 (a0,())).2))else bif(p91 e2_)then(bif(p116 ((f69 (a0,())).1,()))then(bif(p117 ((f69 (a0,())).1,()))then(bif(p140 e1_)then(some ((f140 e1_).1,(0:Int),()))else none)else none)else none)else none)else none
theorem r70(x:DenS Dz):run (cf [(89,⟨Jo,JX,p116,f116⟩),(90,⟨Pg,Q9,p117,f117⟩),(71,⟨B7,B8,p69,f69⟩),(72,⟨EI,EM,p91,f91⟩),(73,⟨HG,HU,p140,f140⟩)] []) 9 61 Tryz.f61 Dz DA x=t70 p116 f116 p117 f117 p69 f69 p91 f91 p140 f140 x.1:=by kernel_rfl
def dN(x:DenS Dz):Option (DenS DA):=t70 KF.pre KF.F lY.pre lY.F Aq.pre Aq.F BY.pre BY.F Gj.pre Gj.F x.1
def Bs:Sum:=Ah Dz DA dN (DenS.dflt DA)
theorem G6:Sound Tryz.prog G1 61 Bs:=sd (cf [(89,KF),(90,lY),(71,Aq),(72,BY),(73,Gj)] []) 61 Tryz.f61 ⟨yQ,aSJ,DC,NB,mA,trivial⟩ trivial Dz DA dN _ (fun _=>r70 ..)
abbrev DE:=Af Dz
abbrev DF:=Ae Dz DA
variable (p70:DE)(f70:DF)
abbrev Fr:Aa:=[(false,Za),(false,Zb)]
abbrev FE:Aa:=[(false,.bool),(false,Zb),(false,Zb),(false,Za)]
def xS(p66:B9)(f66:Ca)(p90:eX)(f90:fL)(a0:Ab Za)(a1:Ab Zb):Option (DenS FE):=let e2_:=((Vx.k_rows.getD (af a0) ((0:Int),(0:Int),(0:Int),(0:Int),())),a1,());let e1_:=(f90 e2_);bif(p66 (a0,a1,()))then(bif((f66 (a0,a1,())).1 !=(0:Int))then(some (false,(0:Int),(0:Int),(f66 (a0,a1,()))))else bif(bif(decide ((0:Int)<=a0))then(decide (a0<((4:Nat):Int)))else false)then(bif(p90 e2_)then(some (e1_.1,e1_.2.1,e1_.2.2.1,(0:Int),()))else none)else none)else none
theorem r98(x:DenS Fr):run (cf [(85,⟨Cq,Cr,p66,f66⟩),(87,⟨JR,Ks,p90,f90⟩)] []) 9 91 Tryz.f91 Fr FE x=xS p66 f66 p90 f90 x.1 x.2.1:=by kernel_rfl
def dY(x:DenS Fr):Option (DenS FE):=xS Au.pre Au.F DD.pre DD.F x.1 x.2.1
def Cg:Sum:=Ah Fr FE dY (DenS.dflt FE)
theorem UN:Sound Tryz.prog G1 91 Cg:=sd (cf [(85,Au),(87,DD)] []) 91 Tryz.f91 ⟨FM,zR,trivial⟩ trivial Fr FE dY _ (fun _=>r98 ..)
abbrev KZ:=Af Fr
abbrev K2:=Ae Fr FE
variable (p98:KZ)(f98:K2)
abbrev Q2:Aa:=[(false,Za),(true,Zw),(false,Zb)]
abbrev SP:Aa:=[(true,Zn)]
def xK(p98:KZ)(f98:K2)(a0:Ab Za)(a1:Ab Zw)(a2:Ab Zb):Option (DenS SP):=let e1_:=(aa .i64 ((aa .i64 (a1.2.2.1-a1.2.1))+(1:Int)));let e2_:=(aa .i64 (a1.2.1-(1:Int)));bif(p98 (a0,a2,()))then(bif(decide ((f98 (a0,a2,())).2.1>(0:Int)))then(bif(decide ((0:Int)<=e2_))then(some (((f98 (a0,a2,())).1,(Ai .u64 (f98 (a0,a2,())).2.2.1 (Be .u64 (1:Int) e2_)),(aa .i64 (e1_+(aa .i64 ((aa .i64 (f98 (a0,a2,())).2.1)-(1:Int))))),()),()))else none)else some (((f98 (a0,a2,())).1,(f98 (a0,a2,())).2.2.1,e1_,()),()))else none
theorem r72(x:DenS Q2):run (cf [(91,⟨Fr,FE,p98,f98⟩)] []) 9 194 Tryz.f194 Q2 SP x=xK p98 f98 x.1 x.2.1 x.2.2.1:=by kernel_rfl
def dO(x:DenS Q2):Option (DenS SP):=xK Cg.pre Cg.F x.1 x.2.1 x.2.2.1
def TH:Sum:=Ah Q2 SP dO (DenS.dflt SP)
theorem aUk:Sound Tryz.prog G1 194 TH:=sd (cf [(91,Cg)] []) 194 Tryz.f194 ⟨UN,trivial⟩ trivial Q2 SP dO _ (fun _=>r72 ..)
abbrev Y72:=Af Q2
abbrev Z72:=Ae Q2 SP
variable (p72:Y72)(f72:Z72)
abbrev HB:Aa:=[(true,Zj),(false,Za)]
abbrev JY:Aa:=[(true,Zj)]
def uA(a0:Ab Zj)(a1:Ab Za):Option (DenS JY):=let e1_:=(aa .i64 (a1-(64:Int)));let e2_:=(aa .i64 ((64:Int)-a1));bif(decide (a1<=(0:Int)))then(some ((a0.1,a0.2),()))else bif(decide (a1>=(128:Int)))then(some (((0:Int),(0:Int),()),()))else bif(decide (a1>=(64:Int)))then(bif(decide ((0:Int)<=e1_))then(some (((Be .u64 a0.2.1 e1_),(0:Int),()),()))else none)else bif(decide ((0:Int)<=a1))then(bif(decide ((0:Int)<=e2_))then(bif(decide ((0:Int)<=a1))then(some (((Ai .u64 (Be .u64 a0.1 a1) (AL .u64 a0.2.1 e2_)),(Be .u64 a0.2.1 a1),()),()))else none)else none)else none
theorem bB8(x:DenS HB):run (cf [] []) 9 208 Tryz.f208 HB JY x=uA x.1 x.2.1:=by kernel_rfl
def UQ(x:DenS HB):Option (DenS JY):=uA x.1 x.2.1
def AN:Sum:=Ah HB JY UQ (DenS.dflt JY)
theorem aEW:Sound Tryz.prog G1 208 AN:=sd (cf [] []) 208 Tryz.f208 trivial trivial HB JY UQ _ (fun _=>bB8 ..)
abbrev eK:=Af HB
abbrev fB:=Ae HB JY
variable (p119:eK)(f119:fB)
abbrev Jp:Aa:=[(true,Zj),(false,Za)]
abbrev Mh:Aa:=[(true,Zj)]
def uB(a0:Ab Zj)(a1:Ab Za):Option (DenS Mh):=let e1_:=(aa .i64 (a1-(64:Int)));let e2_:=(aa .i64 ((64:Int)-a1));bif(decide (a1<=(0:Int)))then(some ((a0.1,a0.2),()))else bif(decide (a1>=(128:Int)))then(some (((0:Int),(0:Int),()),()))else bif(decide (a1>=(64:Int)))then(bif(decide ((0:Int)<=e1_))then(some (((0:Int),(AL .u64 a0.1 e1_),()),()))else none)else bif(decide ((0:Int)<=a1))then(bif(decide ((0:Int)<=a1))then(bif(decide ((0:Int)<=e2_))then(some (((AL .u64 a0.1 a1),(Ai .u64 (AL .u64 a0.2.1 a1) (Be .u64 a0.1 e2_)),()),()))else none)else none)else none
theorem bB9(x:DenS Jp):run (cf [] []) 9 234 Tryz.f234 Jp Mh x=uB x.1 x.2.1:=by kernel_rfl
def WD(x:DenS Jp):Option (DenS Mh):=uB x.1 x.2.1
def AU:Sum:=Ah Jp Mh WD (DenS.dflt Mh)
theorem aSK:Sound Tryz.prog G1 234 AU:=sd (cf [] []) 234 Tryz.f234 trivial trivial Jp Mh WD _ (fun _=>bB9 ..)
abbrev aAo:=Af Jp
abbrev aA5:=Ae Jp Mh
variable (p120:aAo)(f120:aA5)
abbrev Fc:Aa:=V6
abbrev FB:Aa:=YV
def AC:Sum:=aLb
theorem Wy:Sound Tryz.prog G1 94 AC:=aWU Tryz.func94 (by kernel_rfl) (by kernel_rfl) (by kernel_rfl) (by kernel_rfl)
abbrev C5:=Af Fc
abbrev C6:=Ae Fc FB
variable (p155:C5)(f155:C6)
abbrev Jq:Aa:=[(true,Zj),(true,Zj)]
abbrev Mi:Aa:=[(true,Zj),(false,Zb)]
def uC(p155:C5)(f155:C6)(a0 a1:Ab Zj):Option (DenS Mi):=let e2_:=(a0.1,a1.1,(f155 (a0.2.1,a1.2.1,(0:Int),())).2);let e1_:=(f155 e2_);bif(p155 (a0.2.1,a1.2.1,(0:Int),()))then(bif(p155 e2_)then(some ((e1_.1,(f155 (a0.2.1,a1.2.1,(0:Int),())).1,()),e1_.2))else none)else none
theorem bCa(x:DenS Jq):run (cf [(94,⟨Fc,FB,p155,f155⟩)] []) 9 235 Tryz.f235 Jq Mi x=uC p155 f155 x.1 x.2.1:=by kernel_rfl
def aL(x:DenS Jq):Option (DenS Mi):=uC AC.pre AC.F x.1 x.2.1
def Nw:Sum:=Ah Jq Mi aL (DenS.dflt Mi)
theorem aSL:Sound Tryz.prog G1 235 Nw:=sd (cf [(94,AC)] []) 235 Tryz.f235 ⟨Wy,trivial⟩ trivial Jq Mi aL _ (fun _=>bCa ..)
abbrev aAp:=Af Jq
abbrev aA6:=Ae Jq Mi
variable (p121:aAp)(f121:aA6)
abbrev GB:Aa:=[(true,Zj),(true,Zj)]
abbrev HP:Aa:=[(false,Za)]
def uE(a0 a1:Ab Zj):Option (DenS HP):=bif((a0.1==a1.1)&&(a0.2.1==a1.2.1))then(some ((0:Int),()))else bif((decide (a0.1<a1.1))||((a0.1==a1.1)&&(decide (a0.2.1<a1.2.1))))then(some ((-(1:Int)),()))else some ((1:Int),())
theorem bCc(x:DenS GB):run (cf [] []) 9 236 Tryz.f236 GB HP x=uE x.1 x.2.1:=by kernel_rfl
def aO(x:DenS GB):Option (DenS HP):=uE x.1 x.2.1
def Eu:Sum:=Ah GB HP aO (DenS.dflt HP)
theorem aEX:Sound Tryz.prog G1 236 Eu:=sd (cf [] []) 236 Tryz.f236 trivial trivial GB HP aO _ (fun _=>bCc ..)
abbrev U1:=Af GB
abbrev Vg:=Ae GB HP
variable (p123:U1)(f123:Vg)
abbrev LL:Aa:=V6
abbrev Rk:Aa:=YV
def By:Sum:=aPN
theorem mE:Sound Tryz.prog G1 148 By:=bGX Tryz.func148 (by kernel_rfl) (by kernel_rfl) (by kernel_rfl) (by kernel_rfl)
abbrev Hb:=Af LL
abbrev Hf:=Ae LL Rk
variable (p157:Hb)(f157:Hf)
abbrev Jr:Aa:=[(true,Zj),(true,Zj)]
abbrev Mj:Aa:=[(true,Zj),(false,Zb)]
def uF(p157:Hb)(f157:Hf)(a0 a1:Ab Zj):Option (DenS Mj):=let e2_:=(a0.1,a1.1,(f157 (a0.2.1,a1.2.1,(0:Int),())).2);let e1_:=(f157 e2_);bif(p157 (a0.2.1,a1.2.1,(0:Int),()))then(bif(p157 e2_)then(some ((e1_.1,(f157 (a0.2.1,a1.2.1,(0:Int),())).1,()),e1_.2))else none)else none
theorem bCd(x:DenS Jr):run (cf [(148,⟨LL,Rk,p157,f157⟩)] []) 9 237 Tryz.f237 Jr Mj x=uF p157 f157 x.1 x.2.1:=by kernel_rfl
def aP(x:DenS Jr):Option (DenS Mj):=uF By.pre By.F x.1 x.2.1
def B4:Sum:=Ah Jr Mj aP (DenS.dflt Mj)
theorem aSM:Sound Tryz.prog G1 237 B4:=sd (cf [(148,By)] []) 237 Tryz.f237 ⟨mE,trivial⟩ trivial Jr Mj aP _ (fun _=>bCd ..)
abbrev aAq:=Af Jr
abbrev aA7:=Ae Jr Mj
variable (p124:aAq)(f124:aA7)
abbrev Pq:Aa:=[(true,Zw)]
abbrev Rj:Aa:=[(false,Zb)]
def aP3(p91:Hc)(f91:Hg)(a0:Ab Zw):Option (DenS Rj):=let e1_:=((aa .i64 (a0.1-a0.2.1)),());bif(p91 e1_)then(some (f91 e1_))else none
theorem bCz(x:DenS Pq):run (cf [(72,⟨EI,EM,p91,f91⟩)] []) 9 92 Tryz.f92 Pq Rj x=aP3 p91 f91 x.1:=by kernel_rfl
def aF2(x:DenS Pq):Option (DenS Rj):=aP3 BY.pre BY.F x.1
def mD:Sum:=Ah Pq Rj aF2 (DenS.dflt Rj)
theorem aSV:Sound Tryz.prog G1 92 mD:=sd (cf [(72,BY)] []) 92 Tryz.f92 ⟨NB,trivial⟩ trivial Pq Rj aF2 _ (fun _=>bCz ..)
abbrev aH9:=Af Pq
abbrev aJN:=Ae Pq Rj
variable (p154:aH9)(f154:aJN)
abbrev Fa:Aa:=[(false,Za),(false,.bool)]
abbrev Fz:Aa:=[(false,Zb),(false,Za)]
def aPZ(p154:aH9)(f154:aJN)(p116:o0)(f116:pU)(p69:BV)(f69:BW)(p91:Hc)(f91:Hg)(p140:W5)(f140:Xj)(a0:Ab Za)(a1:Ab (.bool)):Option (DenS Fz):=let e2_:=((aa .i64 ((f69 (a0,())).1.1-(f69 (a0,())).1.2.1)),());let e1_:=((f69 (a0,())).1,a1,(aa .u64 ((f91 e2_).1-(f154 ((f69 (a0,())).1,())).1)),(f116 ((f69 (a0,())).1,())));bif(p69 (a0,()))then(bif((f69 (a0,())).2.1 !=(0:Int))then(some ((0:Int),(f69 (a0,())).2))else bif(p91 e2_)then(bif(p154 ((f69 (a0,())).1,()))then(bif(p116 ((f69 (a0,())).1,()))then(bif(p140 e1_)then(some ((f140 e1_).1,(0:Int),()))else none)else none)else none)else none)else none
theorem bB7(x:DenS Fa):run (cf [(92,⟨Pq,Rj,p154,f154⟩),(89,⟨Jo,JX,p116,f116⟩),(71,⟨B7,B8,p69,f69⟩),(72,⟨EI,EM,p91,f91⟩),(73,⟨HG,HU,p140,f140⟩)] []) 9 64 Tryz.f64 Fa Fz x=aPZ p154 f154 p116 f116 p69 f69 p91 f91 p140 f140 x.1 x.2.1:=by kernel_rfl
def aJ(x:DenS Fa):Option (DenS Fz):=aPZ mD.pre mD.F KF.pre KF.F Aq.pre Aq.F BY.pre BY.F Gj.pre Gj.F x.1 x.2.1
def B0:Sum:=Ah Fa Fz aJ (DenS.dflt Fz)
theorem Wt:Sound Tryz.prog G1 64 B0:=sd (cf [(92,mD),(89,KF),(71,Aq),(72,BY),(73,Gj)] []) 64 Tryz.f64 ⟨aSV,yQ,DC,NB,mA,trivial⟩ trivial Fa Fz aJ _ (fun _=>bB7 ..)
abbrev IG:=Af Fa
abbrev IK:=Ae Fa Fz
variable (p118:IG)(f118:IK)
abbrev Pm:Aa:=[(false,Za)]
abbrev Rf:Aa:=[(false,Za)]
def uS(a0:Ab Za):Option (DenS Rf):=bif((decide (a0<(0:Int)))||(decide (a0>(5:Int))))then(some ((3:Int),()))else some ((0:Int),())
theorem bCt(x:DenS Pm):run (cf [] []) 9 139 Tryz.f139 Pm Rf x=uS x.1:=by kernel_rfl
def aW(x:DenS Pm):Option (DenS Rf):=uS x.1
def S2:Sum:=Ah Pm Rf aW (DenS.dflt Rf)
theorem aSQ:Sound Tryz.prog G1 139 S2:=sd (cf [] []) 139 Tryz.f139 trivial trivial Pm Rf aW _ (fun _=>bCt ..)
abbrev aH5:=Af Pm
abbrev aJJ:=Ae Pm Rf
variable (p147:aH5)(f147:aJJ)
abbrev Jk:Aa:=[(false,Za),(false,Za)]
abbrev JT:Aa:=[(true,Zw),(false,Za)]
def t0(p69:BV)(f69:BW)(p147:aH5)(f147:aJJ)(a0 a1:Ab Za):Option (DenS JT):=bif(p69 (a0,()))then(bif((f69 (a0,())).2.1 !=(0:Int))then(some (f69 (a0,())))else bif(p147 (a1,()))then(some ((f69 (a0,())).1,(f147 (a1,()))))else none)else none
theorem bBW(x:DenS Jk):run (cf [(71,⟨B7,B8,p69,f69⟩),(139,⟨Pm,Rf,p147,f147⟩)] []) 9 121 Tryz.f121 Jk JT x=t0 p69 f69 p147 f147 x.1 x.2.1:=by kernel_rfl
def aD(x:DenS Jk):Option (DenS JT):=t0 Aq.pre Aq.F S2.pre S2.F x.1 x.2.1
def FH:Sum:=Ah Jk JT aD (DenS.dflt JT)
theorem yM:Sound Tryz.prog G1 121 FH:=sd (cf [(71,Aq),(139,S2)] []) 121 Tryz.f121 ⟨DC,aSQ,trivial⟩ trivial Jk JT aD _ (fun _=>bBW ..)
abbrev W2:=Af Jk
abbrev Xg:=Ae Jk JT
variable (p105:W2)(f105:Xg)
abbrev BT:Aa:=[(false,Ze)]
abbrev BU:Aa:=[(false,Ze)]
abbrev Ih:Pat:=⟨21,[(0,.one (.sl Zb)),(3,.one (.v .i64))],[]⟩
abbrev kP:List (Nat×Shape):=[]
abbrev NX:List (Nat×Pat):=[(0,⟨21,[(0,.one (.sl Zb)),(3,.one (.v .i64))],[]⟩)]
abbrev M9:Option Pat:=none
variable (w173_2:Pat.D Ih->Option (Ad NX M9))
def X7{R:Type}(L:Pat.D Ih->Option R)(e:Ad NX M9->Option R)(x:Pat.D Ih):Option R:=let e1_:=(aa .i64 (x.1.2.1-(1:Int)));bif(((decide ((0:Int)<=e1_))&&(decide (e1_<(x.1.1.length:Int))))||(!(decide (x.1.2.1>(0:Int)))))then(bif((decide (x.1.2.1>(0:Int)))&&((x.1.1.getD (af e1_) (0:Int))==(0:Int)))then(((L ((x.1.1,e1_,()),()))))else(e (.inl (x.1,()))))else none
theorem bF5(d:Nat)(R:Type)(L:Pat.D Ih->Option R)(e:Ad NX M9->Option R)(x:Pat.D Ih):
  Br (cf [] [(93,2,LoopSpec.of Ih kP NX M9 w173_2)]) (d+2) 93 (Bq Tryz.f93 2) Ih kP NX M9 (R:=R) L e x=X7 L e x:=by kernel_rfl
theorem aNR:Bo fun L e x=>X7 L e x:=by intro _ _ _ _ _ _ _ h0 hL he _;unfold X7;repeat' (first|exact h0|exact hL _|exact he _|apply BB|(apply BC h0;intro _)|(apply BD<;>intro _))
def vC(w173_2:Pat.D Ih->Option (Ad NX M9))(a0:Ab Ze):Option (DenS BU):=
 Vx.Ba (w173_2 ((a0,(a0.length:Int),()),())) fun y0=>
 Vx.A9 y0 (fun y1=>
 bif((decide ((0:Int)<=y1.1.2.1))&&(decide (y1.1.2.1<=(y1.1.1.length:Int))))then(some (((y1.1.1.take (af y1.1.2.1)).drop (af (0:Int))),()))
 else none) (fun z1=>
 none)
theorem bCI(x:DenS BT):run (cf [] [(93,2,LoopSpec.of Ih kP NX M9 w173_2)]) 9 93 Tryz.f93 BT BU x=vC w173_2 x.1:=by kernel_rfl
def oH:Ih.D->Option (Ad NX M9):=Bf fun L=>X7 L some
def UU(x:DenS BT):Option (DenS BU):=vC oH x.1
def Aj:Sum:=Ah BT BU UU (DenS.dflt BU)
theorem Eg:Sound Tryz.prog G1 93 Aj:=sd (cf [] [(93,2,LoopSpec.of Ih kP NX M9 oH)]) 93 Tryz.f93 trivial ⟨rfl,fun d=>BA (fun L e x=>X7 L e x) (aNR) (fun _ _ _ _=>bF5 ..),trivial⟩ BT BU UU _ (fun _=>bCI ..)
abbrev Bw:=Af BT
abbrev Bx:=Ae BT BU
variable (p173:Bw)(f173:Bx)
abbrev HI:Aa:=[(false,Ze)]
abbrev HV:Aa:=[(false,Ze)]
def uR(p173:Bw)(f173:Bx)(a0:Ab Ze):Option (DenS HV):=let e1_:=(aq (af ((f173 (a0,())).1.length:Int)) (0:Int));bif(p173 (a0,()))then(bif((decide ((0:Int)<=((f173 (a0,())).1.length:Int)))&&(decide ((((f173 (a0,())).1.length:Int)*(8:Int))<=(140737488355328:Int))))then(some ((((f173 (a0,())).1.take e1_.length)++(e1_.drop (f173 (a0,())).1.length)),()))else none)else none
theorem bCs(x:DenS HI):run (cf [(93,⟨BT,BU,p173,f173⟩)] []) 9 116 Tryz.f116 HI HV x=uR p173 f173 x.1:=by kernel_rfl
def aV(x:DenS HI):Option (DenS HV):=uR Aj.pre Aj.F x.1
def CJ:Sum:=Ah HI HV aV (DenS.dflt HV)
theorem yW:Sound Tryz.prog G1 116 CJ:=sd (cf [(93,Aj)] []) 116 Tryz.f116 ⟨Eg,trivial⟩ trivial HI HV aV _ (fun _=>bCs ..)
abbrev U7:=Af HI
abbrev Vl:=Ae HI HV
variable (p146:U7)(f146:Vl)
abbrev Fq:Aa:=[(false,Ze)]
abbrev Fy:Aa:=[(false,Ze)]
def tZ(p146:U7)(f146:Vl)(a0:Ab Ze):Option (DenS Fy):=bif(p146 (a0,()))then(some (f146 (a0,())))else none
theorem bBT(x:DenS Fq):run (cf [(116,⟨HI,HV,p146,f146⟩)] []) 9 122 Tryz.f122 Fq Fy x=tZ p146 f146 x.1:=by kernel_rfl
def WC(x:DenS Fq):Option (DenS Fy):=tZ CJ.pre CJ.F x.1
def Ce:Sum:=Ah Fq Fy WC (DenS.dflt Fy)
theorem ZR:Sound Tryz.prog G1 122 Ce:=sd (cf [(116,CJ)] []) 122 Tryz.f122 ⟨yW,trivial⟩ trivial Fq Fy WC _ (fun _=>bBT ..)
abbrev G9:=Af Fq
abbrev Hd:=Ae Fq Fy
variable (p102:G9)(f102:Hd)
abbrev F3:Aa:=[(false,Zb)]
abbrev FC:Aa:=[(false,Za)]
def vG(a0:Ab Zb):Option (DenS FC):=let e10_:=(AL .u64 (AL .u64 a0 (32:Int)) (16:Int));let e1_:=(aa .u8 (AL .u64 e10_ (8:Int)));let e2_:=(aa .u8 e10_);let e3_:=(aa .u8 (AL .u64 (AL .u64 a0 (32:Int)) (8:Int)));let e4_:=(aa .u8 (AL .u64 (AL .u64 a0 (16:Int)) (8:Int)));let e5_:=(aa .u8 (AL .u64 a0 (32:Int)));let e6_:=(aa .u8 (AL .u64 a0 (16:Int)));let e7_:=(aa .u8 (AL .u64 a0 (8:Int)));let e8_:=(aa .i64 ((32:Int)+(16:Int)));let e9_:=(aa .i64 ((0:Int)+(16:Int)));bif(decide (a0>=(4294967296:Int)))then(bif(decide ((AL .u64 a0 (32:Int))>=(65536:Int)))then(bif(decide (e10_>=(256:Int)))then(bif((decide ((0:Int)<=e1_))&&(decide (e1_<(256:Int))))then(some ((aa .i64 ((aa .i64 (e8_+(8:Int)))+(aa .i64 ((UInt8.toNat (Vx.I4.getD (af e1_) (0:UInt8))):Int)))),()))else none)else bif((decide ((0:Int)<=e2_))&&(decide (e2_<(256:Int))))then(some ((aa .i64 (e8_+(aa .i64 ((UInt8.toNat (Vx.I4.getD (af e2_) (0:UInt8))):Int)))),()))else none)else bif(decide ((AL .u64 a0 (32:Int))>=(256:Int)))then(bif((decide ((0:Int)<=e3_))&&(decide (e3_<(256:Int))))then(some ((aa .i64 ((aa .i64 ((32:Int)+(8:Int)))+(aa .i64 ((UInt8.toNat (Vx.I4.getD (af e3_) (0:UInt8))):Int)))),()))else none)else bif((decide ((0:Int)<=e5_))&&(decide (e5_<(256:Int))))then(some ((aa .i64 ((32:Int)+(aa .i64 ((UInt8.toNat (Vx.I4.getD (af e5_) (0:UInt8))):Int)))),()))else none)else bif(decide (a0>=(65536:Int)))then(bif(decide ((AL .u64 a0 (16:Int))>=(256:Int)))then(bif((decide ((0:Int)<=e4_))&&(decide (e4_<(256:Int))))then(some ((aa .i64 ((aa .i64 (e9_+(8:Int)))+(aa .i64 ((UInt8.toNat (Vx.I4.getD (af e4_) (0:UInt8))):Int)))),()))else none)else bif((decide ((0:Int)<=e6_))&&(decide (e6_<(256:Int))))then(some ((aa .i64 (e9_+(aa .i64 ((UInt8.toNat (Vx.I4.getD (af e6_) (0:UInt8))):Int)))),()))else none)else bif(decide (a0>=(256:Int)))then(bif((decide ((0:Int)<=e7_))&&(decide (e7_<(256:Int))))then(some ((aa .i64 ((aa .i64 ((0:Int)+(8:Int)))+(aa .i64 ((UInt8.toNat (Vx.I4.getD (af e7_) (0:UInt8))):Int)))),()))else none)else bif((decide ((0:Int)<=(aa .u8 a0)))&&(decide ((aa .u8 a0)<(256:Int))))then(some ((aa .i64 ((0:Int)+(aa .i64 ((UInt8.toNat (Vx.I4.getD (af (aa .u8 a0)) (0:UInt8))):Int)))),()))else none
theorem bCN(x:DenS F3):run (cf [] []) 9 115 Tryz.f115 F3 FC x=vG x.1:=by kernel_rfl
def bF(x:DenS F3):Option (DenS FC):=vG x.1
def Cu:Sum:=Ah F3 FC bF (DenS.dflt FC)
theorem ZT:Sound Tryz.prog G1 115 Cu:=sd (cf [] []) 115 Tryz.f115 trivial trivial F3 FC bF _ (fun _=>bCN ..)
abbrev II:=Af F3
abbrev IM:=Ae F3 FC
variable (p178:II)(f178:IM)
abbrev F2:Aa:=[(false,Ze)]
abbrev F9:Aa:=[(false,Za)]
def uW(p173:Bw)(f173:Bx)(p178:II)(f178:IM)(a0:Ab Ze):Option (DenS F9):=let e3_:=(aa .i64 (((f173 (a0,())).1.length:Int)-(1:Int)));let e1_:=(((f173 (a0,())).1.getD (af e3_) (0:Int)),());let e2_:=e3_;bif(p173 (a0,()))then(bif(((f173 (a0,())).1.length:Int)==(0:Int))then(some ((0:Int),()))else bif((decide ((0:Int)<=e2_))&&(decide (e2_<((f173 (a0,())).1.length:Int))))then(bif(p178 e1_)then(some ((aa .i64 ((aa .i64 ((64:Int)*e2_))+(f178 e1_).1)),()))else none)else none)else none
theorem bCx(x:DenS F2):run (cf [(93,⟨BT,BU,p173,f173⟩),(115,⟨F3,FC,p178,f178⟩)] []) 9 98 Tryz.f98 F2 F9 x=uW p173 f173 p178 f178 x.1:=by kernel_rfl
def WH(x:DenS F2):Option (DenS F9):=uW Aj.pre Aj.F Cu.pre Cu.F x.1
def Cf:Sum:=Ah F2 F9 WH (DenS.dflt F9)
theorem ZS:Sound Tryz.prog G1 98 Cf:=sd (cf [(93,Aj),(115,Cu)] []) 98 Tryz.f98 ⟨Eg,ZT,trivial⟩ trivial F2 F9 WH _ (fun _=>bCx ..)
abbrev KX:=Af F2
abbrev K0:=Ae F2 F9
variable (p151:KX)(f151:K0)
abbrev LJ:Aa:=[(false,Za),(false,.bool)]
abbrev Mn:Aa:=[(false,Zb),(false,Za),(false,Za)]
def uY(p118:IG)(f118:IK)(a0:Ab Za)(a1:Ab (.bool)):Option (DenS Mn):=bif(p118 (a0,a1,()))then(some ((f118 (a0,a1,())).1,(0:Int),(f118 (a0,a1,())).2))else none
theorem bCA(x:DenS LJ):run (cf [(64,⟨Fa,Fz,p118,f118⟩)] []) 9 123 Tryz.f123 LJ Mn x=uY p118 f118 x.1 x.2.1:=by kernel_rfl
def bA(x:DenS LJ):Option (DenS Mn):=uY B0.pre B0.F x.1 x.2.1
def ID:Sum:=Ah LJ Mn bA (DenS.dflt Mn)
theorem aE2:Sound Tryz.prog G1 123 ID:=sd (cf [(64,B0)] []) 123 Tryz.f123 ⟨Wt,trivial⟩ trivial LJ Mn bA _ (fun _=>bCA ..)
abbrev o8:=Af LJ
abbrev pW:=Ae LJ Mn
variable (p156:o8)(f156:pW)
abbrev Pn:Aa:=[(true,Zu)]
abbrev Rg:Aa:=[(false,Za)]
def uT(p151:KX)(f151:K0)(a0:Ab Zu):Option (DenS Rg):=bif(p151 (a0.2.1,()))then(some ((aa .i64 ((aa .i64 (a0.2.2.1+(f151 (a0.2.1,())).1))-(1:Int))),()))else none
theorem bCu(x:DenS Pn):run (cf [(98,⟨F2,F9,p151,f151⟩)] []) 9 140 Tryz.f140 Pn Rg x=uT p151 f151 x.1:=by kernel_rfl
def aX(x:DenS Pn):Option (DenS Rg):=uT Cf.pre Cf.F x.1
def Wv:Sum:=Ah Pn Rg aX (DenS.dflt Rg)
theorem aSR:Sound Tryz.prog G1 140 Wv:=sd (cf [(98,Cf)] []) 140 Tryz.f140 ⟨ZS,trivial⟩ trivial Pn Rg aX _ (fun _=>bCu ..)
abbrev aH6:=Af Pn
abbrev aJK:=Ae Pn Rg
variable (p148:aH6)(f148:aJK)
abbrev HA:Aa:=[(true,Ze)]
abbrev HO:Aa:=[(true,Ze)]
abbrev H2:Pat:=⟨21,[(0,.one (.own 0)),(3,.one (.v .i64))],[.arr Zb]⟩
abbrev kA:List (Nat×Shape):=[]
abbrev NI:List (Nat×Pat):=[(0,⟨21,[(0,.one (.own 0)),(3,.one (.v .i64))],[.arr Zb]⟩)]
abbrev MU:Option Pat:=none
variable (w1173_2:Pat.D H2->Option (Ad NI MU))
def XT{R:Type}(L:Pat.D H2->Option R)(e:Ad NI MU->Option R)(x:Pat.D H2):Option R:=let e1_:=(aa .i64 (x.1.2.1-(1:Int)));bif(((decide ((0:Int)<=e1_))&&(decide (e1_<(x.2.1.length:Int))))||(!(decide (x.1.2.1>(0:Int)))))then(bif((decide (x.1.2.1>(0:Int)))&&((x.2.1.getD (af e1_) (0:Int))==(0:Int)))then(((L (((),e1_,()),x.2))))else(e (.inl (((),x.1.2),x.2))))else none
theorem bFQ(d:Nat)(R:Type)(L:Pat.D H2->Option R)(e:Ad NI MU->Option R)(x:Pat.D H2):
  Br ({cf [] [(93,2,LoopSpec.of H2 kA NI MU w1173_2)]with keep:=true}) (d+2) 93 (Bq Tryz.f93 2) H2 kA NI MU (R:=R) L e x=XT L e x:=by kernel_rfl
theorem aND:Bo fun L e x=>XT L e x:=by intro _ _ _ _ _ _ _ h0 hL he _;unfold XT;repeat' (first|exact h0|exact hL _|exact he _|apply BB|(apply BC h0;intro _)|(apply BD<;>intro _))
def t8(w1173_2:Pat.D H2->Option (Ad NI MU))(a0:Ab Ze):Option (DenS HO):=
 Vx.Ba (w1173_2 (((),(a0.length:Int),()),a0,())) fun y0=>
 Vx.A9 y0 (fun y1=>
 bif((decide ((0:Int)<=y1.1.2.1))&&(decide (y1.1.2.1<=(y1.2.1.length:Int))))then(some ((y1.2.1.take (af y1.1.2.1)),()))
 else none) (fun z1=>
 none)
theorem bB5(x:DenS HA):run ({cf [] [(93,2,LoopSpec.of H2 kA NI MU w1173_2)]with keep:=true}) 9 93 Tryz.f93 HA HO x=t8 w1173_2 x.1:=by kernel_rfl
def n6:H2.D->Option (Ad NI MU):=Bf fun L=>XT L some
def aH(x:DenS HA):Option (DenS HO):=t8 n6 x.1
def Cc:Sum:=Ah HA HO aH (DenS.dflt HO)
theorem aEV:Sound Tryz.prog G1 93 Cc:=sd ({cf [] [(93,2,LoopSpec.of H2 kA NI MU n6)]with keep:=true}) 93 Tryz.f93 trivial ⟨rfl,fun d=>BA (fun L e x=>XT L e x) (aND) (fun _ _ _ _=>bFQ ..),trivial⟩ HA HO aH _ (fun _=>bB5 ..)
abbrev TQ:=Af HA
abbrev TT:=Ae HA HO
variable (p1173:TQ)(f1173:TT)
abbrev Ph:Aa:=[(false,Ze),(false,Za)]
abbrev Ra:Aa:=[(true,Ze)]
abbrev H1:Pat:=⟨66,[(25,.one (.v .i64)),(0,.one (.sl Zb)),(5,.one (.v .i64)),(6,.one (.v .i64)),(26,.one (.v .i64)),(7,.one (.own 0))],[.arr Zb]⟩
abbrev j9:List (Nat×Shape):=[]
abbrev NH:List (Nat×Pat):=[(0,⟨66,[(7,.one (.own 0))],[.arr Zb]⟩)]
abbrev MT:Option Pat:=none
variable (w1171_7:Pat.D H1->Option (Ad NH MT))
def XS(p1173:TQ)(f1173:TT)(p173:Bw)(f173:Bx){R:Type}(L:Pat.D H1->Option R)(e:Ad NH MT->Option R)(x:Pat.D H1):Option R:=let e10_:=(aa .i64 (x.1.2.2.1+x.1.2.2.2.2.1));let e8_:=(x.2.1.set (af x.1.2.2.2.2.1) (AL .u64 (x.1.2.1.getD (af e10_) (0:Int)) x.1.2.2.2.1));let e1_:=((decide ((0:Int)<=x.1.2.2.2.2.1))&&(decide (x.1.2.2.2.2.1<(e8_.length:Int))));let e2_:=e8_;let e9_:=(aa .i64 (e10_+(1:Int)));let e3_:=(decide (e9_<(x.1.2.1.length:Int)));let e4_:=(x.1.1,x.1.2.1,x.1.2.2.1,x.1.2.2.2.1,(aa .i64 (x.1.2.2.2.2.1+(1:Int))),(),());let e5_:=e9_;let e6_:=e10_;let e7_:=(aa .i64 ((64:Int)-x.1.2.2.2.1));bif(decide (x.1.2.2.2.2.1<x.1.1))then(bif((decide ((0:Int)<=e6_))&&(decide (e6_<(x.1.2.1.length:Int))))then(bif(decide ((0:Int)<=x.1.2.2.2.1))then(bif((decide ((0:Int)<=x.1.2.2.2.2.1))&&(decide (x.1.2.2.2.2.1<(x.2.1.length:Int))))then(bif e3_ then(bif e1_ then(bif((decide ((0:Int)<=e5_))&&e3_)then(bif(decide ((0:Int)<=e7_))then(bif e1_ then(((L (e4_,(e2_.set (af x.1.2.2.2.2.1) (Ai .u64 (e2_.getD (af x.1.2.2.2.2.1) (0:Int)) (Be .u64 (x.1.2.1.getD (af e5_) (0:Int)) e7_))),()))))else none)else none)else none)else none)else(L (e4_,e2_,())))else none)else none)else none)else(e (.inl (((),()),x.2)))
theorem bFP(d:Nat)(R:Type)(L:Pat.D H1->Option R)(e:Ad NH MT->Option R)(x:Pat.D H1):
  Br ({cf [(93,⟨HA,HO,p1173,f1173⟩),(93,⟨BT,BU,p173,f173⟩)] [(100,7,LoopSpec.of H1 j9 NH MT w1171_7)]with keep:=true}) (d+2) 100 (Bq Tryz.f100 7) H1 j9 NH MT (R:=R) L e x=XS p1173 f1173 p173 f173 L e x:=by kernel_rfl
theorem aNC(p1173:TQ)(f1173:TT)(p173:Bw)(f173:Bx):Bo fun L e x=>XS p1173 f1173 p173 f173 L e x:=by intro _ _ _ _ _ _ _ h0 hL he _;unfold XS;repeat' (first|exact h0|exact hL _|exact he _|apply BB|(apply BC h0;intro _)|(apply BD<;>intro _))
def t7(p1173:TQ)(f1173:TT)(p173:Bw)(f173:Bx)(w1171_7:Pat.D H1->Option (Ad NH MT))(a0:Ab Ze)(a1:Ab Za):Option (DenS Ra):=
 let e3_:=(aa .i64 (((f173 (a0,())).1.length:Int)-(Bg .i64 a1 (64:Int))))
 let e1_:=(aq (af e3_) (0:Int))
 let e2_:=e3_
 bif(p173 (a0,()))then(bif(decide ((Bg .i64 a1 (64:Int))>=((f173 (a0,())).1.length:Int)))then(some ([],()))
 else bif((decide ((0:Int)<=e2_))&&(decide ((e2_*(8:Int))<=(140737488355328:Int))))then(Vx.Ba (w1171_7 (((e1_.length:Int),(f173 (a0,())).1,(Bg .i64 a1 (64:Int)),(gj a1 (64:Int)),(0:Int),(),()),e1_,())) fun y3=>
 Vx.A9 y3 (fun y4=>
 bif(p1173 y4.2)then(some (f1173 y4.2))
 else none) (fun z4=>
 none))
 else none)
 else none
theorem bB4(x:DenS Ph):run ({cf [(93,⟨HA,HO,p1173,f1173⟩),(93,⟨BT,BU,p173,f173⟩)] [(100,7,LoopSpec.of H1 j9 NH MT w1171_7)]with keep:=true}) 9 100 Tryz.f100 Ph Ra x=t7 p1173 f1173 p173 f173 w1171_7 x.1 x.2.1:=by kernel_rfl
def n5:H1.D->Option (Ad NH MT):=Bf fun L=>XS Cc.pre Cc.F Aj.pre Aj.F L some
def aG(x:DenS Ph):Option (DenS Ra):=t7 Cc.pre Cc.F Aj.pre Aj.F n5 x.1 x.2.1
def SX:Sum:=Ah Ph Ra aG (DenS.dflt Ra)
theorem aSH:Sound Tryz.prog G1 100 SX:=sd ({cf [(93,Cc),(93,Aj)] [(100,7,LoopSpec.of H1 j9 NH MT n5)]with keep:=true}) 100 Tryz.f100 ⟨aEV,Eg,trivial⟩ ⟨rfl,fun d=>BA (fun L e x=>XS Cc.pre Cc.F Aj.pre Aj.F L e x) (aNC Cc.pre Cc.F Aj.pre Aj.F) (fun _ _ _ _=>bFP ..),trivial⟩ Ph Ra aG _ (fun _=>bB4 ..)
abbrev aH0:=Af Ph
abbrev aJE:=Ae Ph Ra
variable (p1171:aH0)(f1171:aJE)
abbrev HJ:Aa:=[(false,Ze),(false,Za)]
abbrev HW:Aa:=[(false,Ze)]
abbrev If:Pat:=⟨66,[(25,.one (.v .i64)),(0,.one (.sl Zb)),(5,.one (.v .i64)),(6,.one (.v .i64)),(26,.one (.v .i64)),(7,.one (.own 0))],[.arr Zb]⟩
abbrev kN:List (Nat×Shape):=[]
abbrev NV:List (Nat×Pat):=[(0,⟨66,[(7,.one (.own 0))],[.arr Zb]⟩)]
abbrev M7:Option Pat:=none
variable (w171_7:Pat.D If->Option (Ad NV M7))
def X6(p173:Bw)(f173:Bx){R:Type}(L:Pat.D If->Option R)(e:Ad NV M7->Option R)(x:Pat.D If):Option R:=let e10_:=(aa .i64 (x.1.2.2.1+x.1.2.2.2.2.1));let e8_:=(x.2.1.set (af x.1.2.2.2.2.1) (AL .u64 (x.1.2.1.getD (af e10_) (0:Int)) x.1.2.2.2.1));let e1_:=((decide ((0:Int)<=x.1.2.2.2.2.1))&&(decide (x.1.2.2.2.2.1<(e8_.length:Int))));let e2_:=e8_;let e9_:=(aa .i64 (e10_+(1:Int)));let e3_:=(decide (e9_<(x.1.2.1.length:Int)));let e4_:=(x.1.1,x.1.2.1,x.1.2.2.1,x.1.2.2.2.1,(aa .i64 (x.1.2.2.2.2.1+(1:Int))),(),());let e5_:=e9_;let e6_:=e10_;let e7_:=(aa .i64 ((64:Int)-x.1.2.2.2.1));bif(decide (x.1.2.2.2.2.1<x.1.1))then(bif((decide ((0:Int)<=e6_))&&(decide (e6_<(x.1.2.1.length:Int))))then(bif(decide ((0:Int)<=x.1.2.2.2.1))then(bif((decide ((0:Int)<=x.1.2.2.2.2.1))&&(decide (x.1.2.2.2.2.1<(x.2.1.length:Int))))then(bif e3_ then(bif e1_ then(bif((decide ((0:Int)<=e5_))&&e3_)then(bif(decide ((0:Int)<=e7_))then(bif e1_ then(((L (e4_,(e2_.set (af x.1.2.2.2.2.1) (Ai .u64 (e2_.getD (af x.1.2.2.2.2.1) (0:Int)) (Be .u64 (x.1.2.1.getD (af e5_) (0:Int)) e7_))),()))))else none)else none)else none)else none)else(L (e4_,e2_,())))else none)else none)else none)else(e (.inl (((),()),x.2)))
theorem bF3(d:Nat)(R:Type)(L:Pat.D If->Option R)(e:Ad NV M7->Option R)(x:Pat.D If):
  Br (cf [(93,⟨BT,BU,p173,f173⟩)] [(100,7,LoopSpec.of If kN NV M7 w171_7)]) (d+2) 100 (Bq Tryz.f100 7) If kN NV M7 (R:=R) L e x=X6 p173 f173 L e x:=by kernel_rfl
theorem aNQ(p173:Bw)(f173:Bx):Bo fun L e x=>X6 p173 f173 L e x:=by intro _ _ _ _ _ _ _ h0 hL he _;unfold X6;repeat' (first|exact h0|exact hL _|exact he _|apply BB|(apply BC h0;intro _)|(apply BD<;>intro _))
def vB(p173:Bw)(f173:Bx)(w171_7:Pat.D If->Option (Ad NV M7))(a0:Ab Ze)(a1:Ab Za):Option (DenS HW):=
 let e3_:=(aa .i64 (((f173 (a0,())).1.length:Int)-(Bg .i64 a1 (64:Int))))
 let e1_:=(aq (af e3_) (0:Int))
 let e2_:=e3_
 bif(p173 (a0,()))then(bif(decide ((Bg .i64 a1 (64:Int))>=((f173 (a0,())).1.length:Int)))then(some ([],()))
 else bif((decide ((0:Int)<=e2_))&&(decide ((e2_*(8:Int))<=(140737488355328:Int))))then(Vx.Ba (w171_7 (((e1_.length:Int),(f173 (a0,())).1,(Bg .i64 a1 (64:Int)),(gj a1 (64:Int)),(0:Int),(),()),e1_,())) fun y3=>
 Vx.A9 y3 (fun y4=>
 bif(p173 y4.2)then(some (f173 y4.2))
 else none) (fun z4=>
 none))
 else none)
 else none
theorem bCG(x:DenS HJ):run (cf [(93,⟨BT,BU,p173,f173⟩)] [(100,7,LoopSpec.of If kN NV M7 w171_7)]) 9 100 Tryz.f100 HJ HW x=vB p173 f173 w171_7 x.1 x.2.1:=by kernel_rfl
def oG:If.D->Option (Ad NV M7):=Bf fun L=>X6 Aj.pre Aj.F L some
def WK(x:DenS HJ):Option (DenS HW):=vB Aj.pre Aj.F oG x.1 x.2.1
def CK:Sum:=Ah HJ HW WK (DenS.dflt HW)
theorem yX:Sound Tryz.prog G1 100 CK:=sd (cf [(93,Aj)] [(100,7,LoopSpec.of If kN NV M7 oG)]) 100 Tryz.f100 ⟨Eg,trivial⟩ ⟨rfl,fun d=>BA (fun L e x=>X6 Aj.pre Aj.F L e x) (aNQ Aj.pre Aj.F) (fun _ _ _ _=>bF3 ..),trivial⟩ HJ HW WK _ (fun _=>bCG ..)
abbrev TR:=Af HJ
abbrev TU:=Ae HJ HW
variable (p171:TR)(f171:TU)
abbrev GG:Aa:=[(false,Zb)]
abbrev GV:Aa:=[(false,Za)]
def xR(a0:Ab Zb):Option (DenS GV):=let e1_:=(AL .u64 (aa .u64 ((BN .u64 a0 (aa .u64 ((0:Int)-a0)))*(285870213051353865:Int))) (58:Int));bif(a0==(0:Int))then(some ((64:Int),()))else bif(Vx.aDS ((decide ((0:Int)<=e1_))&&(decide (e1_<((64:Nat):Int)))))then(some ((aa .i64 (Vx.k_deb.getD (af e1_) (0:Int))),()))else none
theorem r92(x:DenS GG):run (cf [] []) 9 191 Tryz.f191 GG GV x=xR x.1:=by kernel_rfl
def dW(x:DenS GG):Option (DenS GV):=xR x.1
def Co:Sum:=Ah GG GV dW (DenS.dflt GV)
theorem zS:Sound Tryz.prog G1 191 Co:=sd (cf [] []) 191 Tryz.f191 trivial trivial GG GV dW _ (fun _=>r92 ..)
abbrev KY:=Af GG
abbrev K1:=Ae GG GV
variable (p92:KY)(f92:K1)
abbrev Pz:Aa:=[(false,Ze),(false,Za)]
abbrev Rt:Aa:=[(false,.bool)]
abbrev Ik:Pat:=⟨25,[(9,.one (.v .i64)),(8,.one (.sl Zb)),(1,.one (.v .i64)),(10,.one (.v .i64))],[]⟩
abbrev kS:List (Nat×Shape):=[]
abbrev N1:List (Nat×Pat):=[(0,⟨25,[],[]⟩)]
abbrev Nc:Option Pat:=(some ⟨25,[(4,.one (.bool))],[]⟩)
variable (w184_2:Pat.D Ik->Option (Ad N1 Nc))
def X9(p173:Bw)(f173:Bx)(p92:KY)(f92:K1){R:Type}(L:Pat.D Ik->Option R)(e:Ad N1 Nc->Option R)(x:Pat.D Ik):Option R:=let e2_:=(x.1.2.1.getD (af x.1.2.2.2.1) (0:Int));let e1_:=(e2_,());bif(decide (x.1.2.2.2.1<x.1.1))then(bif((decide ((0:Int)<=x.1.2.2.2.1))&&(decide (x.1.2.2.2.1<(x.1.2.1.length:Int))))then(bif(e2_ !=(0:Int))then(bif(p92 e1_)then(((e (.inr (((decide ((aa .i64 ((aa .i64 ((64:Int)*x.1.2.2.2.1))+(f92 e1_).1))>=x.1.2.2.1)),()),())))))else none)else(L ((x.1.1,x.1.2.1,x.1.2.2.1,(aa .i64 (x.1.2.2.2.1+(1:Int))),()),())))else none)else(e (.inl ((),())))
theorem bF8(d:Nat)(R:Type)(L:Pat.D Ik->Option R)(e:Ad N1 Nc->Option R)(x:Pat.D Ik):
  Br (cf [(93,⟨BT,BU,p173,f173⟩),(191,⟨GG,GV,p92,f92⟩)] [(156,2,LoopSpec.of Ik kS N1 Nc w184_2)]) (d+2) 156 (Bq Tryz.f156 2) Ik kS N1 Nc (R:=R) L e x=X9 p173 f173 p92 f92 L e x:=by kernel_rfl
theorem aNT(p173:Bw)(f173:Bx)(p92:KY)(f92:K1):Bo fun L e x=>X9 p173 f173 p92 f92 L e x:=by intro _ _ _ _ _ _ _ h0 hL he _;unfold X9;repeat' (first|exact h0|exact hL _|exact he _|apply BB|(apply BC h0;intro _)|(apply BD<;>intro _))
def vJ(p173:Bw)(f173:Bx)(p92:KY)(f92:K1)(w184_2:Pat.D Ik->Option (Ad N1 Nc))(a0:Ab Ze)(a1:Ab Za):Option (DenS Rt):=
 bif(p173 (a0,()))then(Vx.Ba (w184_2 ((((f173 (a0,())).1.length:Int),(f173 (a0,())).1,a1,(0:Int),()),())) fun y1=>
 Vx.A9 y1 (fun y2=>
 some (true,())) (fun z2=>
 some z2.1))
 else none
theorem bCQ(x:DenS Pz):run (cf [(93,⟨BT,BU,p173,f173⟩),(191,⟨GG,GV,p92,f92⟩)] [(156,2,LoopSpec.of Ik kS N1 Nc w184_2)]) 9 156 Tryz.f156 Pz Rt x=vJ p173 f173 p92 f92 w184_2 x.1 x.2.1:=by kernel_rfl
def oJ:Ik.D->Option (Ad N1 Nc):=Bf fun L=>X9 Aj.pre Aj.F Co.pre Co.F L some
def bH(x:DenS Pz):Option (DenS Rt):=vJ Aj.pre Aj.F Co.pre Co.F oJ x.1 x.2.1
def S8:Sum:=Ah Pz Rt bH (DenS.dflt Rt)
theorem aS4:Sound Tryz.prog G1 156 S8:=sd (cf [(93,Aj),(191,Co)] [(156,2,LoopSpec.of Ik kS N1 Nc oJ)]) 156 Tryz.f156 ⟨Eg,zS,trivial⟩ ⟨rfl,fun d=>BA (fun L e x=>X9 Aj.pre Aj.F Co.pre Co.F L e x) (aNT Aj.pre Aj.F Co.pre Co.F) (fun _ _ _ _=>bF8 ..),trivial⟩ Pz Rt bH _ (fun _=>bCQ ..)
abbrev aIi:=Af Pz
abbrev aJW:=Ae Pz Rt
variable (p184:aIi)(f184:aJW)
abbrev Pw:Aa:=[(false,Ze),(false,Za)]
abbrev Rq:Aa:=[(false,Ze),(false,Za)]
def vD(p1171:aH0)(f1171:aJE)(p171:TR)(f171:TU)(p184:aIi)(f184:aJW)(a0:Ab Ze)(a1:Ab Za):Option (DenS Rq):=let e1_:=(decide ((0:Int)<((f1171 (a0,a1,())).1.length:Int)));bif(decide (a1<(0:Int)))then(some ([],(7:Int),()))else bif(p1171 (a0,a1,()))then(bif(p184 (a0,a1,()))then(bif(!(f184 (a0,a1,())).1)then(bif(((f1171 (a0,a1,())).1.length:Int)==(0:Int))then(some (((1:Int)::[]),(0:Int),()))else bif e1_ then(bif e1_ then(some (((f1171 (a0,a1,())).1.set (af (0:Int)) (Ai .u64 ((f1171 (a0,a1,())).1.getD (af (0:Int)) (0:Int)) (1:Int))),(0:Int),()))else none)else none)else some ((f1171 (a0,a1,())).1,(0:Int),()))else none)else none
theorem bCK(x:DenS Pw):run (cf [(100,⟨Ph,Ra,p1171,f1171⟩),(100,⟨HJ,HW,p171,f171⟩),(156,⟨Pz,Rt,p184,f184⟩)] []) 9 150 Tryz.f150 Pw Rq x=vD p1171 f1171 p171 f171 p184 f184 x.1 x.2.1:=by kernel_rfl
def WM(x:DenS Pw):Option (DenS Rq):=vD SX.pre SX.F CK.pre CK.F S8.pre S8.F x.1 x.2.1
def WA:Sum:=Ah Pw Rq WM (DenS.dflt Rq)
theorem aS1:Sound Tryz.prog G1 150 WA:=sd (cf [(100,SX),(100,CK),(156,S8)] []) 150 Tryz.f150 ⟨aSH,yX,aS4,trivial⟩ trivial Pw Rq WM _ (fun _=>bCK ..)
abbrev aIf:=Af Pw
abbrev aJT:=Ae Pw Rq
variable (p175:aIf)(f175:aJT)
abbrev Jy:Aa:=[(false,Ze),(false,Za)]
abbrev J5:Aa:=[(false,Ze)]
abbrev Im:Pat:=⟨56,[(26,.one (.v .i64)),(25,.one (.sl Zb)),(5,.one (.v .i64)),(6,.one (.v .i64)),(27,.one (.v .i64)),(7,.one (.own 0))],[.arr Zb]⟩
abbrev kU:List (Nat×Shape):=[]
abbrev N3:List (Nat×Pat):=[(0,⟨56,[(7,.one (.own 0))],[.arr Zb]⟩)]
abbrev Nf:Option Pat:=none
variable (w186_7:Pat.D Im->Option (Ad N3 Nf))
def Yb(p173:Bw)(f173:Bx){R:Type}(L:Pat.D Im->Option R)(e:Ad N3 Nf->Option R)(x:Pat.D Im):Option R:=let e6_:=(aa .i64 (x.1.2.2.1+x.1.2.2.2.2.1));let e5_:=(af e6_);let e7_:=(x.1.2.1.getD (af x.1.2.2.2.2.1) (0:Int));let e1_:=(x.2.1.set e5_ (Ai .u64 (x.2.1.getD e5_ (0:Int)) (Be .u64 e7_ x.1.2.2.2.1)));let e2_:=((decide ((0:Int)<=e6_))&&(decide (e6_<(x.2.1.length:Int))));let e3_:=(aa .i64 (e6_+(1:Int)));let e4_:=(aa .i64 ((64:Int)-x.1.2.2.2.1));bif(decide (x.1.2.2.2.2.1<x.1.1))then(bif((decide ((0:Int)<=x.1.2.2.2.2.1))&&(decide (x.1.2.2.2.2.1<(x.1.2.1.length:Int))))then(bif e2_ then(bif(decide ((0:Int)<=x.1.2.2.2.1))then(bif e2_ then(bif(decide ((0:Int)<=e4_))then(bif((decide ((0:Int)<=e3_))&&(decide (e3_<(e1_.length:Int))))then(((L ((x.1.1,x.1.2.1,x.1.2.2.1,x.1.2.2.2.1,(aa .i64 (x.1.2.2.2.2.1+(1:Int))),(),()),(e1_.set (af e3_) (AL .u64 e7_ e4_)),()))))else none)else none)else none)else none)else none)else none)else(e (.inl (((),()),x.2)))
theorem bGa(d:Nat)(R:Type)(L:Pat.D Im->Option R)(e:Ad N3 Nf->Option R)(x:Pat.D Im):
  Br (cf [(93,⟨BT,BU,p173,f173⟩)] [(97,7,LoopSpec.of Im kU N3 Nf w186_7)]) (d+2) 97 (Bq Tryz.f97 7) Im kU N3 Nf (R:=R) L e x=Yb p173 f173 L e x:=by kernel_rfl
theorem aNV(p173:Bw)(f173:Bx):Bo fun L e x=>Yb p173 f173 L e x:=by intro _ _ _ _ _ _ _ h0 hL he _;unfold Yb;repeat' (first|exact h0|exact hL _|exact he _|apply BB|(apply BC h0;intro _)|(apply BD<;>intro _))
def vL(p173:Bw)(f173:Bx)(w186_7:Pat.D Im->Option (Ad N3 Nf))(a0:Ab Ze)(a1:Ab Za):Option (DenS J5):=
 let e1_:=(aa .i64 ((aa .i64 ((Bg .i64 a1 (64:Int))+((f173 (a0,())).1.length:Int)))+(1:Int)))
 bif(p173 (a0,()))then(bif(((f173 (a0,())).1.length:Int)==(0:Int))then(some ([],()))
 else bif((decide ((0:Int)<=e1_))&&(decide ((e1_*(8:Int))<=(140737488355328:Int))))then(Vx.Ba (w186_7 ((((f173 (a0,())).1.length:Int),(f173 (a0,())).1,(Bg .i64 a1 (64:Int)),(gj a1 (64:Int)),(0:Int),(),()),(aq (af e1_) (0:Int)),())) fun y3=>
 Vx.A9 y3 (fun y4=>
 bif(p173 y4.2)then(some (f173 y4.2))
 else none) (fun z4=>
 none))
 else none)
 else none
theorem bCS(x:DenS Jy):run (cf [(93,⟨BT,BU,p173,f173⟩)] [(97,7,LoopSpec.of Im kU N3 Nf w186_7)]) 9 97 Tryz.f97 Jy J5 x=vL p173 f173 w186_7 x.1 x.2.1:=by kernel_rfl
def oL:Im.D->Option (Ad N3 Nf):=Bf fun L=>Yb Aj.pre Aj.F L some
def UX(x:DenS Jy):Option (DenS J5):=vL Aj.pre Aj.F oL x.1 x.2.1
def Dn:Sum:=Ah Jy J5 UX (DenS.dflt J5)
theorem aE5:Sound Tryz.prog G1 97 Dn:=sd (cf [(93,Aj)] [(97,7,LoopSpec.of Im kU N3 Nf oL)]) 97 Tryz.f97 ⟨Eg,trivial⟩ ⟨rfl,fun d=>BA (fun L e x=>Yb Aj.pre Aj.F L e x) (aNV Aj.pre Aj.F) (fun _ _ _ _=>bGa ..),trivial⟩ Jy J5 UX _ (fun _=>bCS ..)
abbrev Va:=Af Jy
abbrev Vo:=Ae Jy J5
variable (p186:Va)(f186:Vo)
abbrev Jx:Aa:=[(false,.slice Ze)]
abbrev J4:Aa:=[(false,.bool)]
abbrev Il:Pat:=⟨16,[(6,.one (.v .i64)),(5,.one (.sl Ze)),(7,.one (.v .i64))],[]⟩
abbrev kT:List (Nat×Shape):=[]
abbrev N2:List (Nat×Pat):=[(0,⟨16,[],[]⟩)]
abbrev Nd:Option Pat:=(some ⟨16,[(2,.one (.bool))],[]⟩)
variable (w185_2:Pat.D Il->Option (Ad N2 Nd))
def Ya(p173:Bw)(f173:Bx){R:Type}(L:Pat.D Il->Option R)(e:Ad N2 Nd->Option R)(x:Pat.D Il):Option R:=bif(decide (x.1.2.2.1<x.1.1))then(bif((decide ((0:Int)<=x.1.2.2.1))&&(decide (x.1.2.2.1<(x.1.2.1.length:Int))))then(bif(p173 ((x.1.2.1.getD (af x.1.2.2.1) []),()))then(bif(decide (((f173 ((x.1.2.1.getD (af x.1.2.2.1) []),())).1.length:Int)>(1024:Int)))then(((e (.inr ((true,()),())))))else(L ((x.1.1,x.1.2.1,(aa .i64 (x.1.2.2.1+(1:Int))),()),())))else none)else none)else(e (.inl ((),())))
theorem bF9(d:Nat)(R:Type)(L:Pat.D Il->Option R)(e:Ad N2 Nd->Option R)(x:Pat.D Il):
  Br (cf [(93,⟨BT,BU,p173,f173⟩)] [(96,2,LoopSpec.of Il kT N2 Nd w185_2)]) (d+2) 96 (Bq Tryz.f96 2) Il kT N2 Nd (R:=R) L e x=Ya p173 f173 L e x:=by kernel_rfl
theorem aNU(p173:Bw)(f173:Bx):Bo fun L e x=>Ya p173 f173 L e x:=by intro _ _ _ _ _ _ _ h0 hL he _;unfold Ya;repeat' (first|exact h0|exact hL _|exact he _|apply BB|(apply BC h0;intro _)|(apply BD<;>intro _))
def vK(p173:Bw)(f173:Bx)(w185_2:Pat.D Il->Option (Ad N2 Nd))(a0:Ab (.slice Ze)):Option (DenS J4):=
 Vx.Ba (w185_2 (((a0.length:Int),a0,(0:Int),()),())) fun y0=>
 Vx.A9 y0 (fun y1=>
 some (false,())) (fun z1=>
 some z1.1)
theorem bCR(x:DenS Jx):run (cf [(93,⟨BT,BU,p173,f173⟩)] [(96,2,LoopSpec.of Il kT N2 Nd w185_2)]) 9 96 Tryz.f96 Jx J4 x=vK p173 f173 w185_2 x.1:=by kernel_rfl
def oK:Il.D->Option (Ad N2 Nd):=Bf fun L=>Ya Aj.pre Aj.F L some
def TL(x:DenS Jx):Option (DenS J4):=vK Aj.pre Aj.F oK x.1
def EO:Sum:=Ah Jx J4 TL (DenS.dflt J4)
theorem yZ:Sound Tryz.prog G1 96 EO:=sd (cf [(93,Aj)] [(96,2,LoopSpec.of Il kT N2 Nd oK)]) 96 Tryz.f96 ⟨Eg,trivial⟩ ⟨rfl,fun d=>BA (fun L e x=>Ya Aj.pre Aj.F L e x) (aNU Aj.pre Aj.F) (fun _ _ _ _=>bF9 ..),trivial⟩ Jx J4 TL _ (fun _=>bCR ..)
abbrev U9:=Af Jx
abbrev Vn:=Ae Jx J4
variable (p185:U9)(f185:Vn)
abbrev Jv:Aa:=[(false,Ze),(false,Za)]
abbrev J2:Aa:=[(false,Ze),(false,Za)]
def vE(p186:Va)(f186:Vo)(p185:U9)(f185:Vn)(a0:Ab Ze)(a1:Ab Za):Option (DenS J2):=bif((decide (a1<(0:Int)))||(decide (a1>(65536:Int))))then(some ([],(7:Int),()))else bif(p185 ((a0::[]),()))then(bif(f185 ((a0::[]),())).1 then(some ([],(5:Int),()))else bif(p186 (a0,a1,()))then(bif(p185 (((f186 (a0,a1,())).1::[]),()))then(bif(f185 (((f186 (a0,a1,())).1::[]),())).1 then(some ([],(5:Int),()))else some ((f186 (a0,a1,())).1,(0:Int),()))else none)else none)else none
theorem bCL(x:DenS Jv):run (cf [(97,⟨Jy,J5,p186,f186⟩),(96,⟨Jx,J4,p185,f185⟩)] []) 9 67 Tryz.f67 Jv J2 x=vE p186 f186 p185 f185 x.1 x.2.1:=by kernel_rfl
def UV(x:DenS Jv):Option (DenS J2):=vE Dn.pre Dn.F EO.pre EO.F x.1 x.2.1
def DU:Sum:=Ah Jv J2 UV (DenS.dflt J2)
theorem aE4:Sound Tryz.prog G1 67 DU:=sd (cf [(97,Dn),(96,EO)] []) 67 Tryz.f67 ⟨aE5,yZ,trivial⟩ trivial Jv J2 UV _ (fun _=>bCL ..)
abbrev U8:=Af Jv
abbrev Vm:=Ae Jv J2
variable (p176:U8)(f176:Vm)
abbrev Js:Aa:=[(false,Ze),(false,Za)]
abbrev JZ:Aa:=[(false,Ze),(false,Za)]
def uN(p171:TR)(f171:TU)(a0:Ab Ze)(a1:Ab Za):Option (DenS JZ):=bif(decide (a1<(0:Int)))then(some ([],(7:Int),()))else bif(p171 (a0,a1,()))then(some ((f171 (a0,a1,())).1,(0:Int),()))else none
theorem bCn(x:DenS Js):run (cf [(100,⟨HJ,HW,p171,f171⟩)] []) 9 103 Tryz.f103 Js JZ x=uN p171 f171 x.1 x.2.1:=by kernel_rfl
def TK(x:DenS Js):Option (DenS JZ):=uN CK.pre CK.F x.1 x.2.1
def Fh:Sum:=Ah Js JZ TK (DenS.dflt JZ)
theorem aEZ:Sound Tryz.prog G1 103 Fh:=sd (cf [(100,CK)] []) 103 Tryz.f103 ⟨yX,trivial⟩ trivial Js JZ TK _ (fun _=>bCn ..)
abbrev U6:=Af Js
abbrev Vk:=Ae Js JZ
variable (p141:U6)(f141:Vk)
abbrev Px:Aa:=[(false,Za),(false,.bool),(false,.bool),(false,Zb)]
abbrev Rr:Aa:=[(false,.bool)]
def vF(a0:Ab Za)(a1 a2:Ab (.bool))(a3:Ab Zb):Option (DenS Rr):=bif(a0==(4:Int))then(some ((!(!a1)),()))else bif(a0==(3:Int))then(some ((!a1),()))else bif(a0==(0:Int))then(bif(a3==(2:Int))then(some (a2,()))else some ((decide (a3>=(2:Int))),()))else bif(a0==(1:Int))then(some ((decide (a3>=(2:Int))),()))else bif(a0==(5:Int))then(some ((!a2),()))else some (false,())
theorem bCM(x:DenS Px):run (cf [] []) 9 151 Tryz.f151 Px Rr x=vF x.1 x.2.1 x.2.2.1 x.2.2.2.1:=by kernel_rfl
def UW(x:DenS Px):Option (DenS Rr):=vF x.1 x.2.1 x.2.2.1 x.2.2.2.1
def WB:Sum:=Ah Px Rr UW (DenS.dflt Rr)
theorem aS2:Sound Tryz.prog G1 151 WB:=sd (cf [] []) 151 Tryz.f151 trivial trivial Px Rr UW _ (fun _=>bCM ..)
abbrev aIg:=Af Px
abbrev aJU:=Ae Px Rr
variable (p177:aIg)(f177:aJU)
abbrev HH:Aa:=[(false,Ze),(false,Ze)]
abbrev GQ:Aa:=[(false,Ze)]
abbrev H9:Pat:=⟨61,[(28,.one (.v .i64)),(1,.one (.sl Zb)),(29,.one (.v .i64)),(0,.one (.sl Zb)),(6,.one (.v .u64)),(5,.one (.own 0))],[.arr Zb]⟩
abbrev kI:List (Nat×Shape):=[]
abbrev NQ:List (Nat×Pat):=[(0,⟨61,[(0,.one (.sl Zb)),(6,.one (.v .u64)),(5,.one (.own 0))],[.arr Zb]⟩)]
abbrev M2:Option Pat:=none
variable (w143_8:Pat.D H9->Option (Ad NQ M2))
def X1(p155:C5)(f155:C6)(p173:Bw)(f173:Bx){R:Type}(L:Pat.D H9->Option R)(e:Ad NQ M2->Option R)(x:Pat.D H9):Option R:=let e8_:=(x.1.2.2.2.1.getD (af x.1.2.2.1) (0:Int));let e7_:=((x.1.2.1.getD (af x.1.2.2.1) (0:Int)),x.1.2.2.2.2.1,());let e1_:=(f155 (e8_,e7_));let e2_:=(f155 (e8_,(0:Int),x.1.2.2.2.2.1,()));let e3_:=((decide ((0:Int)<=x.1.2.2.1))&&(decide (x.1.2.2.1<(x.1.2.2.2.1.length:Int))));let e4_:=((decide ((0:Int)<=x.1.2.2.1))&&(decide (x.1.2.2.1<(x.2.1.length:Int))));let e5_:=(aa .i64 (x.1.2.2.1+(1:Int)));let e6_:=e8_;bif(decide (x.1.2.2.1<x.1.1))then(bif(decide (x.1.2.2.1<(x.1.2.1.length:Int)))then(bif((decide ((0:Int)<=x.1.2.2.1))&&(decide (x.1.2.2.1<(x.1.2.1.length:Int))))then(bif e3_ then(bif(p155 (e6_,e7_))then(bif e4_ then(((L ((x.1.1,x.1.2.1,e5_,x.1.2.2.2.1,e1_.2.1,(),()),(x.2.1.set (af x.1.2.2.1) e1_.1),()))))else none)else none)else none)else none)else bif e3_ then(bif(p155 (e6_,(0:Int),x.1.2.2.2.2.1,()))then(bif e4_ then(((L ((x.1.1,x.1.2.1,e5_,x.1.2.2.2.1,e2_.2.1,(),()),(x.2.1.set (af x.1.2.2.1) e2_.1),()))))else none)else none)else none)else(e (.inl ((x.1.2.2.2.1,x.1.2.2.2.2.1,(),()),x.2)))
theorem bFY(d:Nat)(R:Type)(L:Pat.D H9->Option R)(e:Ad NQ M2->Option R)(x:Pat.D H9):
  Br (cf [(94,⟨Fc,FB,p155,f155⟩),(93,⟨BT,BU,p173,f173⟩)] [(65,8,LoopSpec.of H9 kI NQ M2 w143_8)]) (d+2) 65 (Bq Tryz.f65 8) H9 kI NQ M2 (R:=R) L e x=X1 p155 f155 p173 f173 L e x:=by kernel_rfl
theorem aNL(p155:C5)(f155:C6)(p173:Bw)(f173:Bx):Bo fun L e x=>X1 p155 f155 p173 f173 L e x:=by intro _ _ _ _ _ _ _ h0 hL he _;unfold X1;repeat' (first|exact h0|exact hL _|exact he _|apply BB|(apply BC h0;intro _)|(apply BD<;>intro _))
def uO(p155:C5)(f155:C6)(p173:Bw)(f173:Bx)(w143_8:Pat.D H9->Option (Ad NQ M2))(a0 a1:Ab Ze):Option (DenS GQ):=
 let e5_:=(aa .i64 (((f173 (a1,())).1.length:Int)+(1:Int)))
 let e1_:=(aq (af e5_) (0:Int))
 let e6_:=(aa .i64 (((f173 (a0,())).1.length:Int)+(1:Int)))
 let e2_:=(aq (af e6_) (0:Int))
 let e3_:=e5_
 let e4_:=e6_
 bif(p173 (a0,()))then(bif(p173 (a1,()))then(bif(decide (((f173 (a0,())).1.length:Int)<((f173 (a1,())).1.length:Int)))then(bif((decide ((0:Int)<=e3_))&&(decide ((e3_*(8:Int))<=(140737488355328:Int))))then(Vx.Ba (w143_8 ((((f173 (a1,())).1.length:Int),(f173 (a0,())).1,(0:Int),(f173 (a1,())).1,(0:Int),(),()),(((f173 (a1,())).1.take e1_.length)++(e1_.drop (f173 (a1,())).1.length)),())) fun y4=>
 Vx.A9 y4 (fun y5=>
 bif((decide ((0:Int)<=(y5.1.1.length:Int)))&&(decide ((y5.1.1.length:Int)<(y5.2.1.length:Int))))then(bif(p173 ((y5.2.1.set (af (y5.1.1.length:Int)) y5.1.2.1),()))then(some (f173 ((y5.2.1.set (af (y5.1.1.length:Int)) y5.1.2.1),())))
 else none)
 else none) (fun z5=>
 none))
 else none)
 else bif((decide ((0:Int)<=e4_))&&(decide ((e4_*(8:Int))<=(140737488355328:Int))))then(Vx.Ba (w143_8 ((((f173 (a0,())).1.length:Int),(f173 (a1,())).1,(0:Int),(f173 (a0,())).1,(0:Int),(),()),(((f173 (a0,())).1.take e2_.length)++(e2_.drop (f173 (a0,())).1.length)),())) fun y4=>
 Vx.A9 y4 (fun y5=>
 bif((decide ((0:Int)<=(y5.1.1.length:Int)))&&(decide ((y5.1.1.length:Int)<(y5.2.1.length:Int))))then(bif(p173 ((y5.2.1.set (af (y5.1.1.length:Int)) y5.1.2.1),()))then(some (f173 ((y5.2.1.set (af (y5.1.1.length:Int)) y5.1.2.1),())))
 else none)
 else none) (fun z5=>
 none))
 else none)
 else none)
 else none
theorem bCp(x:DenS HH):run (cf [(94,⟨Fc,FB,p155,f155⟩),(93,⟨BT,BU,p173,f173⟩)] [(65,8,LoopSpec.of H9 kI NQ M2 w143_8)]) 9 65 Tryz.f65 HH GQ x=uO p155 f155 p173 f173 w143_8 x.1 x.2.1:=by kernel_rfl
def eA:H9.D->Option (Ad NQ M2):=Bf fun L=>X1 AC.pre AC.F Aj.pre Aj.F L some
def UR(x:DenS HH):Option (DenS GQ):=uO AC.pre AC.F Aj.pre Aj.F eA x.1 x.2.1
def Db:Sum:=Ah HH GQ UR (DenS.dflt GQ)
theorem yV:Sound Tryz.prog G1 65 Db:=sd (cf [(94,AC),(93,Aj)] [(65,8,LoopSpec.of H9 kI NQ M2 eA)]) 65 Tryz.f65 ⟨Wy,Eg,trivial⟩ ⟨rfl,fun d=>BA (fun L e x=>X1 AC.pre AC.F Aj.pre Aj.F L e x) (aNL AC.pre AC.F Aj.pre Aj.F) (fun _ _ _ _=>bFY ..),trivial⟩ HH GQ UR _ (fun _=>bCp ..)
abbrev Ol:=Af HH
abbrev Oo:=Ae HH GQ
variable (p143:Ol)(f143:Oo)
abbrev LI:Aa:=[(true,Zu),(false,Za),(false,Za)]
abbrev Mm:Aa:=[(false,Ze),(false,.bool)]
def uV(p175:aIf)(f175:aJT)(p176:U8)(f176:Vm)(p141:U6)(f141:Vk)(p177:aIg)(f177:aJU)(p143:Ol)(f143:Oo)(a0:Ab Zu)(a1 a2:Ab Za):Option (DenS Mm):=let e47_:=(aa .i64 (a2-a0.2.2.1));let e44_:=(f175 (a0.2.1,(aa .i64 (e47_-(2:Int))),()));let e42_:=(e44_.1,(2:Int),());let e40_:=(f141 e42_);let e38_:=(e40_.1.length:Int);let e34_:=(decide (e38_>(0:Int)));let e28_:=(e34_&&((BN .u64 (e40_.1.getD (af (0:Int)) (0:Int)) (1:Int))==(1:Int)));let e32_:=(BN .u64 (e44_.1.getD (af (0:Int)) (0:Int)) (3:Int));let e30_:=(Ai .u64 e32_ (1:Int));let e1_:=(a1,a0.1,e28_,e30_,());let e45_:=(f176 (a0.2.1,(aa .i64 ((2:Int)-e47_)),()));let e43_:=(e45_.1,(2:Int),());let e41_:=(f141 e43_);let e39_:=(e41_.1.length:Int);let e35_:=(decide (e39_>(0:Int)));let e29_:=(e35_&&((BN .u64 (e41_.1.getD (af (0:Int)) (0:Int)) (1:Int))==(1:Int)));let e33_:=(BN .u64 (e45_.1.getD (af (0:Int)) (0:Int)) (3:Int));let e31_:=(Ai .u64 e33_ (1:Int));let e2_:=(a1,a0.1,e29_,e31_,());let e3_:=(a1,a0.1,e28_,e32_,());let e4_:=(a1,a0.1,e29_,e33_,());let e46_:=((Ai .u64 (0:Int) (1:Int)),());let e5_:=(a1,a0.1,e28_,e46_);let e6_:=(a1,a0.1,e29_,e46_);let e7_:=((decide ((0:Int)<e38_))||(!e34_));let e8_:=((decide ((0:Int)<e39_))||(!e35_));let e9_:=((e30_ !=(0:Int)),());let e10_:=((e31_ !=(0:Int)),());let e11_:=e30_;let e12_:=e31_;let e13_:=((e32_ !=(0:Int)),());let e14_:=((e33_ !=(0:Int)),());let e15_:=e32_;let e16_:=e33_;let e36_:=(e40_.1,((1:Int)::[]),());let e17_:=(p143 e36_);let e18_:=(f143 e36_);let e37_:=(e41_.1,((1:Int)::[]),());let e19_:=(p143 e37_);let e20_:=(f143 e37_);let e21_:=e40_;let e22_:=e41_;let e23_:=(p141 e42_);let e24_:=(p141 e43_);let e25_:=(e44_.1.length:Int);let e26_:=(e45_.1.length:Int);let e27_:=e47_;bif(decide (e27_>=(2:Int)))then(bif(p175 (a0.2.1,(aa .i64 (e27_-(2:Int))),()))then(bif(decide (e25_>(0:Int)))then(bif(decide ((0:Int)<e25_))then(bif a0.2.2.2.1 then(bif e23_ then(bif e7_ then(bif((p177 e1_)||(!(bif(e11_==(0:Int))then false else true)))then(bif((e11_ !=(0:Int))&&(f177 e1_).1)then(bif e17_ then(some (e18_.1,e9_))else none)else some (e21_.1,e9_))else none)else none)else none)else bif e23_ then(bif e7_ then(bif((p177 e3_)||(!(bif(e15_==(0:Int))then false else true)))then(bif((e15_ !=(0:Int))&&(f177 e3_).1)then(bif e17_ then(some (e18_.1,e13_))else none)else some (e21_.1,e13_))else none)else none)else none)else none)else bif a0.2.2.2.1 then(bif e23_ then(bif e7_ then(bif((p177 e5_)||false)then(bif(f177 e5_).1 then(bif e17_ then(some (e18_.1,true,()))else none)else some (e21_.1,true,()))else none)else none)else none)else bif e23_ then(bif e7_ then(bif((p177 (a1,a0.1,((decide ((e21_.1.length:Int)>(0:Int)))&&((BN .u64 (e21_.1.getD (af (0:Int)) (0:Int)) (1:Int))==(1:Int))),(0:Int),()))||true)then(some (e21_.1,false,()))else none)else none)else none)else none)else bif(p176 (a0.2.1,(aa .i64 ((2:Int)-e27_)),()))then(bif(decide (e26_>(0:Int)))then(bif(decide ((0:Int)<e26_))then(bif a0.2.2.2.1 then(bif e24_ then(bif e8_ then(bif((p177 e2_)||(!(bif(e12_==(0:Int))then false else true)))then(bif((e12_ !=(0:Int))&&(f177 e2_).1)then(bif e19_ then(some (e20_.1,e10_))else none)else some (e22_.1,e10_))else none)else none)else none)else bif e24_ then(bif e8_ then(bif((p177 e4_)||(!(bif(e16_==(0:Int))then false else true)))then(bif((e16_ !=(0:Int))&&(f177 e4_).1)then(bif e19_ then(some (e20_.1,e14_))else none)else some (e22_.1,e14_))else none)else none)else none)else none)else bif a0.2.2.2.1 then(bif e24_ then(bif e8_ then(bif((p177 e6_)||false)then(bif(f177 e6_).1 then(bif e19_ then(some (e20_.1,true,()))else none)else some (e22_.1,true,()))else none)else none)else none)else bif e24_ then(bif e8_ then(bif((p177 (a1,a0.1,((decide ((e22_.1.length:Int)>(0:Int)))&&((BN .u64 (e22_.1.getD (af (0:Int)) (0:Int)) (1:Int))==(1:Int))),(0:Int),()))||true)then(some (e22_.1,false,()))else none)else none)else none)else none
theorem bCw(x:DenS LI):run (cf [(150,⟨Pw,Rq,p175,f175⟩),(67,⟨Jv,J2,p176,f176⟩),(103,⟨Js,JZ,p141,f141⟩),(151,⟨Px,Rr,p177,f177⟩),(65,⟨HH,GQ,p143,f143⟩)] []) 9 142 Tryz.f142 LI Mm x=uV p175 f175 p176 f176 p141 f141 p177 f177 p143 f143 x.1 x.2.1 x.2.2.1:=by kernel_rfl
def WG(x:DenS LI):Option (DenS Mm):=uV WA.pre WA.F DU.pre DU.F Fh.pre Fh.F WB.pre WB.F Db.pre Db.F x.1 x.2.1 x.2.2.1
def IC:Sum:=Ah LI Mm WG (DenS.dflt Mm)
theorem aE1:Sound Tryz.prog G1 142 IC:=sd (cf [(150,WA),(67,DU),(103,Fh),(151,WB),(65,Db)] []) 142 Tryz.f142 ⟨aS1,aE4,aEZ,aS2,yV,trivial⟩ trivial LI Mm WG _ (fun _=>bCw ..)
abbrev aAs:=Af LI
abbrev aA9:=Ae LI Mm
variable (p150:aAs)(f150:aA9)
abbrev GH:Aa:=[(false,Za),(false,.bool)]
abbrev GW:Aa:=[(false,Zb),(false,Za)]
def t97(p116:o0)(f116:pU)(p69:BV)(f69:BW)(p91:Hc)(f91:Hg)(p140:W5)(f140:Xj)(a0:Ab Za)(a1:Ab (.bool)):Option (DenS GW):=let e2_:=((aa .i64 ((f69 (a0,())).1.1-(f69 (a0,())).1.2.1)),());let e1_:=((f69 (a0,())).1,a1,(aa .u64 ((f91 e2_).1-(f116 ((f69 (a0,())).1,())).1)),(f116 ((f69 (a0,())).1,())));bif(p69 (a0,()))then(bif((f69 (a0,())).2.1 !=(0:Int))then(some ((0:Int),(f69 (a0,())).2))else bif(p91 e2_)then(bif(p116 ((f69 (a0,())).1,()))then(bif(p116 ((f69 (a0,())).1,()))then(bif(p140 e1_)then(some ((f140 e1_).1,(0:Int),()))else none)else none)else none)else none)else none
theorem r97(x:DenS GH):run (cf [(89,⟨Jo,JX,p116,f116⟩),(71,⟨B7,B8,p69,f69⟩),(72,⟨EI,EM,p91,f91⟩),(73,⟨HG,HU,p140,f140⟩)] []) 9 62 Tryz.f62 GH GW x=t97 p116 f116 p69 f69 p91 f91 p140 f140 x.1 x.2.1:=by kernel_rfl
def dX(x:DenS GH):Option (DenS GW):=t97 KF.pre KF.F Aq.pre Aq.F BY.pre BY.F Gj.pre Gj.F x.1 x.2.1
def CM:Sum:=Ah GH GW dX (DenS.dflt GW)
theorem aC:Sound Tryz.prog G1 62 CM:=sd (cf [(89,KF),(71,Aq),(72,BY),(73,Gj)] []) 62 Tryz.f62 ⟨yQ,DC,NB,mA,trivial⟩ trivial GH GW dX _ (fun _=>r97 ..)
abbrev On:=Af GH
abbrev Ot:=Ae GH GW
variable (p97:On)(f97:Ot)
abbrev Q5:Aa:=[(true,Zw)]
abbrev SS:Aa:=[(false,Zb)]
def t95(a0:Ab Zw):Option (DenS SS):=some ((1:Int),())
theorem r95(x:DenS Q5):run (cf [] []) 9 154 Tryz.f154 Q5 SS x=t95 x.1:=by kernel_rfl
def T95(x:DenS Q5):Option (DenS SS):=t95 x.1
def nS:Sum:=Ah Q5 SS T95 (DenS.dflt SS)
theorem aUn:Sound Tryz.prog G1 154 nS:=sd (cf [] []) 154 Tryz.f154 trivial trivial Q5 SS T95 _ (fun _=>r95 ..)
abbrev Y95:=Af Q5
abbrev Z95:=Ae Q5 SS
variable (p95:Y95)(f95:Z95)
abbrev Q6:Aa:=[(true,Zw)]
abbrev SU:Aa:=[(false,Zb)]
def t96(p91:Hc)(f91:Hg)(a0:Ab Zw):Option (DenS SU):=let e1_:=((aa .i64 (a0.2.1-(1:Int))),());bif(p91 e1_)then(some (f91 e1_))else none
theorem r96(x:DenS Q6):run (cf [(72,⟨EI,EM,p91,f91⟩)] []) 9 155 Tryz.f155 Q6 SU x=t96 p91 f91 x.1:=by kernel_rfl
def T96(x:DenS Q6):Option (DenS SU):=t96 BY.pre BY.F x.1
def nT:Sum:=Ah Q6 SU T96 (DenS.dflt SU)
theorem aUo:Sound Tryz.prog G1 155 nT:=sd (cf [(72,BY)] []) 155 Tryz.f155 ⟨NB,trivial⟩ trivial Q6 SU T96 _ (fun _=>r96 ..)
abbrev Y96:=Af Q6
abbrev Z96:=Ae Q6 SU
variable (p96:Y96)(f96:Z96)
abbrev QD:Aa:=[(false,Za),(false,.bool)]
abbrev Sp:Aa:=[(false,Zb),(false,Za)]
def t43(p95:Y95)(f95:Z95)(p96:Y96)(f96:Z96)(p69:BV)(f69:BW)(p91:Hc)(f91:Hg)(p140:W5)(f140:Xj)(a0:Ab Za)(a1:Ab (.bool)):Option (DenS Sp):=let e2_:=((aa .i64 ((f69 (a0,())).1.1-(f69 (a0,())).1.2.1)),());let e1_:=((f69 (a0,())).1,a1,(aa .u64 ((f91 e2_).1-(f95 ((f69 (a0,())).1,())).1)),(f96 ((f69 (a0,())).1,())));bif(p69 (a0,()))then(bif((f69 (a0,())).2.1 !=(0:Int))then(some ((0:Int),(f69 (a0,())).2))else bif(p91 e2_)then(bif(p95 ((f69 (a0,())).1,()))then(bif(p96 ((f69 (a0,())).1,()))then(bif(p140 e1_)then(some ((f140 e1_).1,(0:Int),()))else none)else none)else none)else none)else none
theorem r43(x:DenS QD):run (cf [(154,⟨Q5,SS,p95,f95⟩),(155,⟨Q6,SU,p96,f96⟩),(71,⟨B7,B8,p69,f69⟩),(72,⟨EI,EM,p91,f91⟩),(73,⟨HG,HU,p140,f140⟩)] []) 9 149 Tryz.f149 QD Sp x=t43 p95 f95 p96 f96 p69 f69 p91 f91 p140 f140 x.1 x.2.1:=by kernel_rfl
def cH(x:DenS QD):Option (DenS Sp):=t43 nS.pre nS.F nT.pre nT.F Aq.pre Aq.F BY.pre BY.F Gj.pre Gj.F x.1 x.2.1
def KH:Sum:=Ah QD Sp cH (DenS.dflt Sp)
theorem aTW:Sound Tryz.prog G1 149 KH:=sd (cf [(154,nS),(155,nT),(71,Aq),(72,BY),(73,Gj)] []) 149 Tryz.f149 ⟨aUn,aUo,DC,NB,mA,trivial⟩ trivial QD Sp cH _ (fun _=>r43 ..)
abbrev Y43:=Af QD
abbrev Z43:=Ae QD Sp
variable (p43:Y43)(f43:Z43)
abbrev Po:Aa:=[(false,Za),(false,Za),(false,.bool)]
abbrev Rh:Aa:=[(false,Zb)]
def uU(p97:On)(f97:Ot)(p43:Y43)(f43:Z43)(a0 a1:Ab Za)(a2:Ab (.bool)):Option (DenS Rh):=bif((((a1==(0:Int))||(a1==(1:Int)))||((a1==(3:Int))&&(!a2)))||((a1==(4:Int))&&a2))then(bif(p97 (a0,a2,()))then(some ((f97 (a0,a2,())).1,()))else none)else bif(p43 (a0,a2,()))then(some ((f43 (a0,a2,())).1,()))else none
theorem bCv(x:DenS Po):run (cf [(62,⟨GH,GW,p97,f97⟩),(149,⟨QD,Sp,p43,f43⟩)] []) 9 141 Tryz.f141 Po Rh x=uU p97 f97 p43 f43 x.1 x.2.1 x.2.2.1:=by kernel_rfl
def aY(x:DenS Po):Option (DenS Rh):=uU CM.pre CM.F KH.pre KH.F x.1 x.2.1 x.2.2.1
def Ww:Sum:=Ah Po Rh aY (DenS.dflt Rh)
theorem aSS:Sound Tryz.prog G1 141 Ww:=sd (cf [(62,CM),(149,KH)] []) 141 Tryz.f141 ⟨aC,aTW,trivial⟩ trivial Po Rh aY _ (fun _=>bCv ..)
abbrev aH7:=Af Po
abbrev aJL:=Ae Po Rh
variable (p149:aH7)(f149:aJL)
abbrev Pp:Aa:=[(true,Zu),(true,Zw),(false,Za),(false,Za)]
abbrev Ri:Aa:=[(false,.bool)]
def uX(p150:aAs)(f150:aA9)(p151:KX)(f151:K0)(a0:Ab Zu)(a1:Ab Zw)(a2 a3:Ab Za):Option (DenS Ri):=let e3_:=(aa .i64 (a3-a1.2.1));let e1_:=((f150 ((a0.1,a0.2),a2,(aa .i64 (e3_+(1:Int))),())).1,());let e2_:=e3_;bif(decide (a3>=a1.2.2.1))then(some (false,()))else bif(p150 ((a0.1,a0.2),a2,(aa .i64 (e2_+(1:Int))),()))then(bif(p151 e1_)then(some ((decide ((aa .i64 (e2_+(f151 e1_).1))<a1.2.2.1)),()))else none)else none
theorem bCy(x:DenS Pp):run (cf [(142,⟨LI,Mm,p150,f150⟩),(98,⟨F2,F9,p151,f151⟩)] []) 9 143 Tryz.f143 Pp Ri x=uX p150 f150 p151 f151 x.1 x.2.1 x.2.2.1 x.2.2.2.1:=by kernel_rfl
def aZ(x:DenS Pp):Option (DenS Ri):=uX IC.pre IC.F Cf.pre Cf.F x.1 x.2.1 x.2.2.1 x.2.2.2.1
def Wx:Sum:=Ah Pp Ri aZ (DenS.dflt Ri)
theorem aSU:Sound Tryz.prog G1 143 Wx:=sd (cf [(142,IC),(98,Cf)] []) 143 Tryz.f143 ⟨aE1,ZS,trivial⟩ trivial Pp Ri aZ _ (fun _=>bCy ..)
abbrev aH8:=Af Pp
abbrev aJM:=Ae Pp Ri
variable (p152:aH8)(f152:aJM)
abbrev Jl:Aa:=[(true,Zu),(false,Za),(true,Zw),(false,Za)]
abbrev JU:Aa:=[(false,Zb),(false,Za)]
def t5(p148:aH6)(f148:aJK)(p150:aAs)(f150:aA9)(p151:KX)(f151:K0)(p149:aH7)(f149:aJL)(p152:aH8)(f152:aJM)(a0:Ab Zu)(a1:Ab Za)(a2:Ab Zw)(a3:Ab Za):Option (DenS JU):=let e18_:=(aa .i64 ((aa .i64 ((if(a2.2.2.1>(f148 ((a0.1,a0.2),())).1)then a2.2.2.1 else(f148 ((a0.1,a0.2),())).1)-a2.2.1))+(1:Int)));let e21_:=(aa .i64 (a2.2.1-(1:Int)));let e14_:=(Be .u64 (aa .u64 (aa .i64 (e18_-(aa .i64 ((aa .i64 (a2.2.2.1-a2.2.1))+(1:Int)))))) e21_);let e17_:=((a0.1,a0.2),a3,e18_,());let e16_:=(f150 e17_);let e13_:=(aa .u64 (e14_+(e16_.1.getD (af (0:Int)) (0:Int))));let e22_:=(aa .i64 (a2.1-(1:Int)));let e19_:=(Be .u64 (1:Int) e22_);let e1_:=(Ai .u64 e13_ e19_);let e2_:=e13_;let e3_:=(Ai .u64 e14_ e19_);let e15_:=(e16_.1,());let e4_:=(decide ((aa .i64 ((aa .i64 (e18_+(f151 e15_).1))-(1:Int)))>a2.2.2.2.1));let e5_:=e14_;let e6_:=(e16_.1.length:Int);let e7_:=(p151 e15_);let e8_:=(!e16_.2.1);let e9_:=(decide ((0:Int)<=e22_));let e20_:=((a0.1,a0.2),(a2.1,a2.2),a3,(f148 ((a0.1,a0.2),())));let e10_:=(p152 e20_);let e11_:=(f152 e20_);let e12_:=((f149 (a1,a3,a0.1,())).1,(20:Int),());bif(p148 ((a0.1,a0.2),()))then(bif(decide ((f148 ((a0.1,a0.2),())).1>a2.2.2.2.1))then(bif(p149 (a1,a3,a0.1,()))then(some e12_)else none)else bif(p150 e17_)then(bif(decide ((0:Int)<=e21_))then(bif(decide (e6_>(0:Int)))then(bif(decide ((0:Int)<e6_))then(bif e7_ then(bif e4_ then(bif(p149 (a1,a3,a0.1,()))then(some e12_)else none)else bif a0.1 then(bif e9_ then(bif e8_ then(some (e1_,(0:Int),()))else bif e10_ then(bif e11_.1 then(some (e1_,(24:Int),()))else some (e1_,(16:Int),()))else none)else none)else bif e8_ then(some (e2_,(0:Int),()))else bif e10_ then(bif e11_.1 then(some (e2_,(24:Int),()))else some (e2_,(16:Int),()))else none)else none)else none)else bif e7_ then(bif e4_ then(bif(p149 (a1,a3,a0.1,()))then(some e12_)else none)else bif a0.1 then(bif e9_ then(bif e8_ then(some (e3_,(0:Int),()))else bif e10_ then(bif e11_.1 then(some (e3_,(24:Int),()))else some (e3_,(16:Int),()))else none)else none)else bif e8_ then(some (e5_,(0:Int),()))else bif e10_ then(bif e11_.1 then(some (e5_,(24:Int),()))else some (e5_,(16:Int),()))else none)else none)else none)else none)else none
theorem bBY(x:DenS Jl):run (cf [(140,⟨Pn,Rg,p148,f148⟩),(142,⟨LI,Mm,p150,f150⟩),(98,⟨F2,F9,p151,f151⟩),(141,⟨Po,Rh,p149,f149⟩),(143,⟨Pp,Ri,p152,f152⟩)] []) 9 124 Tryz.f124 Jl JU x=t5 p148 f148 p150 f150 p151 f151 p149 f149 p152 f152 x.1 x.2.1 x.2.2.1 x.2.2.2.1:=by kernel_rfl
def aE(x:DenS Jl):Option (DenS JU):=t5 Wv.pre Wv.F IC.pre IC.F Cf.pre Cf.F Ww.pre Ww.F Wx.pre Wx.F x.1 x.2.1 x.2.2.1 x.2.2.2.1
def FI:Sum:=Ah Jl JU aE (DenS.dflt JU)
theorem yN:Sound Tryz.prog G1 124 FI:=sd (cf [(140,Wv),(142,IC),(98,Cf),(141,Ww),(143,Wx)] []) 124 Tryz.f124 ⟨aSR,aE1,ZS,aSS,aSU,trivial⟩ trivial Jl JU aE _ (fun _=>bBY ..)
abbrev W3:=Af Jl
abbrev Xh:=Ae Jl JU
variable (p107:W3)(f107:Xh)
abbrev Fb:Aa:=[(false,Za),(false,Za),(false,.bool),(true,Zj),(false,Za),(false,.bool)]
abbrev FA:Aa:=[(false,Zb),(false,Za),(false,Za)]
def uD(p105:W2)(f105:Xg)(p102:G9)(f102:Hd)(p151:KX)(f151:K0)(p156:o8)(f156:pW)(p107:W3)(f107:Xh)(a0 a1:Ab Za)(a2:Ab (.bool))(a3:Ab Zj)(a4:Ab Za)(a5:Ab (.bool)):Option (DenS FA):=let e2_:=((a2,(f102 ((a3.2.1::(a3.1::[])),())).1,a4,a5,()),a0,(f105 (a0,a1,())).1,a1,());let e1_:=(f107 e2_);bif(p105 (a0,a1,()))then(bif((f105 (a0,a1,())).2.1 !=(0:Int))then(some ((0:Int),(0:Int),(f105 (a0,a1,())).2))else bif(p102 ((a3.2.1::(a3.1::[])),()))then(bif((decide (a4<(-(40000:Int))))||(decide (a4>(40000:Int))))then(some ((0:Int),(0:Int),(30:Int),()))else bif((p151 (f102 ((a3.2.1::(a3.1::[])),())))||(!a5))then(bif(a5&&(decide ((f151 (f102 ((a3.2.1::(a3.1::[])),()))).1<(aa .i64 ((f105 (a0,a1,())).1.2.1+(2:Int))))))then(some ((0:Int),(0:Int),(7:Int),()))else bif(((f102 ((a3.2.1::(a3.1::[])),())).1.length:Int)==(0:Int))then(bif(p156 (a0,a2,()))then(some (f156 (a0,a2,())))else none)else bif(p107 e2_)then(some (e1_.1,e1_.2.1,(0:Int),()))else none)else none)else none)else none
theorem bCb(x:DenS Fb):run (cf [(121,⟨Jk,JT,p105,f105⟩),(122,⟨Fq,Fy,p102,f102⟩),(98,⟨F2,F9,p151,f151⟩),(123,⟨LJ,Mn,p156,f156⟩),(124,⟨Jl,JU,p107,f107⟩)] []) 9 104 Tryz.f104 Fb FA x=uD p105 f105 p102 f102 p151 f151 p156 f156 p107 f107 x.1 x.2.1 x.2.2.1 x.2.2.2.1 x.2.2.2.2.1 x.2.2.2.2.2.1:=by kernel_rfl
def aM(x:DenS Fb):Option (DenS FA):=uD FH.pre FH.F Ce.pre Ce.F Cf.pre Cf.F ID.pre ID.F FI.pre FI.F x.1 x.2.1 x.2.2.1 x.2.2.2.1 x.2.2.2.2.1 x.2.2.2.2.2.1
def Cd:Sum:=Ah Fb FA aM (DenS.dflt FA)
theorem Wu:Sound Tryz.prog G1 104 Cd:=sd (cf [(121,FH),(122,Ce),(98,Cf),(123,ID),(124,FI)] []) 104 Tryz.f104 ⟨yM,ZR,ZS,aE2,yN,trivial⟩ trivial Fb FA aM _ (fun _=>bCb ..)
abbrev Ha:=Af Fb
abbrev He:=Ae Fb FA
variable (p122:Ha)(f122:He)
end Vx
namespace Vx
open Go Go.Proofs
variable (p119:eK)(f119:fB)(p120:aAo)(f120:aA5)(p121:aAp)(f121:aA6)(p123:U1)(f123:Vg)(p124:aAq)(f124:aA7)(p118:IG)(f118:IK)(p122:Ha)(f122:He)
abbrev Q1:Aa:=[(false,Za),(false,Za),(true,Zn),(true,Zn)]
abbrev Km:Aa:=[(false,Zb),(false,Za),(false,Za)]
def xV(p119:DenS HB->Bool)(f119:DenS HB->DenS JY)(p120:DenS Jp->Bool)(f120:DenS Jp->DenS Mh)(p121:DenS Jq->Bool)(f121:DenS Jq->DenS Mi)(p123:DenS GB->Bool)(f123:DenS GB->DenS HP)(p124:DenS Jr->Bool)(f124:DenS Jr->DenS Mj)(p118:DenS Fa->Bool)(f118:DenS Fa->DenS Fz)(p122:DenS Fb->Bool)(f122:DenS Fb->DenS FA)(f m:Int)(nx:Bool)(X ex:Int)(ny:Bool)(Y ey:Int):Option (DenS Km):=bif(p119 (((0:Int),(X,())),((if((70:Int)<(aa .i64 (ex-ey)))then(70:Int)else(aa .i64 (ex-ey))),())))then(bif(p120 (((0:Int),(Y,())),((aa .i64 ((aa .i64 (ex-(if((70:Int)<(aa .i64 (ex-ey)))then(70:Int)else(aa .i64 (ex-ey)))))-ey)),())))then(bif(p119 ((f120 (((0:Int),(Y,())),((aa .i64 ((aa .i64 (ex-(if((70:Int)<(aa .i64 (ex-ey)))then(70:Int)else(aa .i64 (ex-ey)))))-ey)),()))).1,((aa .i64 ((aa .i64 (ex-(if((70:Int)<(aa .i64 (ex-ey)))then(70:Int)else(aa .i64 (ex-ey)))))-ey)),())))then(bif(p120 (((0:Int),(Y,())),((aa .i64 ((aa .i64 (ex-(if((70:Int)<(aa .i64 (ex-ey)))then(70:Int)else(aa .i64 (ex-ey)))))-ey)),())))then(bif(nx==ny)then(bif(p121 ((f119 (((0:Int),(X,())),((if((70:Int)<(aa .i64 (ex-ey)))then(70:Int)else(aa .i64 (ex-ey))),()))).1,(f120 (((0:Int),(Y,())),((aa .i64 ((aa .i64 (ex-(if((70:Int)<(aa .i64 (ex-ey)))then(70:Int)else(aa .i64 (ex-ey)))))-ey)),())))))then(bif(p122 (f,(m,(nx,((f121 ((f119 (((0:Int),(X,())),((if((70:Int)<(aa .i64 (ex-ey)))then(70:Int)else(aa .i64 (ex-ey))),()))).1,(f120 (((0:Int),(Y,())),((aa .i64 ((aa .i64 (ex-(if((70:Int)<(aa .i64 (ex-ey)))then(70:Int)else(aa .i64 (ex-ey)))))-ey)),()))))).1,((aa .i64 (ex-(if((70:Int)<(aa .i64 (ex-ey)))then(70:Int)else(aa .i64 (ex-ey))))),(((!(((f119 ((f120 (((0:Int),(Y,())),((aa .i64 ((aa .i64 (ex-(if((70:Int)<(aa .i64 (ex-ey)))then(70:Int)else(aa .i64 (ex-ey)))))-ey)),()))).1,((aa .i64 ((aa .i64 (ex-(if((70:Int)<(aa .i64 (ex-ey)))then(70:Int)else(aa .i64 (ex-ey)))))-ey)),()))).1.1==(0:Int))&&((f119 ((f120 (((0:Int),(Y,())),((aa .i64 ((aa .i64 (ex-(if((70:Int)<(aa .i64 (ex-ey)))then(70:Int)else(aa .i64 (ex-ey)))))-ey)),()))).1,((aa .i64 ((aa .i64 (ex-(if((70:Int)<(aa .i64 (ex-ey)))then(70:Int)else(aa .i64 (ex-ey)))))-ey)),()))).1.2.1==Y)))||((decide ((aa .i64 ((aa .i64 (ex-(if((70:Int)<(aa .i64 (ex-ey)))then(70:Int)else(aa .i64 (ex-ey)))))-ey))>(63:Int)))&&(Y !=(0:Int)))),())))))))then(some (f122 (f,(m,(nx,((f121 ((f119 (((0:Int),(X,())),((if((70:Int)<(aa .i64 (ex-ey)))then(70:Int)else(aa .i64 (ex-ey))),()))).1,(f120 (((0:Int),(Y,())),((aa .i64 ((aa .i64 (ex-(if((70:Int)<(aa .i64 (ex-ey)))then(70:Int)else(aa .i64 (ex-ey)))))-ey)),()))))).1,((aa .i64 (ex-(if((70:Int)<(aa .i64 (ex-ey)))then(70:Int)else(aa .i64 (ex-ey))))),(((!(((f119 ((f120 (((0:Int),(Y,())),((aa .i64 ((aa .i64 (ex-(if((70:Int)<(aa .i64 (ex-ey)))then(70:Int)else(aa .i64 (ex-ey)))))-ey)),()))).1,((aa .i64 ((aa .i64 (ex-(if((70:Int)<(aa .i64 (ex-ey)))then(70:Int)else(aa .i64 (ex-ey)))))-ey)),()))).1.1==(0:Int))&&((f119 ((f120 (((0:Int),(Y,())),((aa .i64 ((aa .i64 (ex-(if((70:Int)<(aa .i64 (ex-ey)))then(70:Int)else(aa .i64 (ex-ey)))))-ey)),()))).1,((aa .i64 ((aa .i64 (ex-(if((70:Int)<(aa .i64 (ex-ey)))then(70:Int)else(aa .i64 (ex-ey)))))-ey)),()))).1.2.1==Y)))||((decide ((aa .i64 ((aa .i64 (ex-(if((70:Int)<(aa .i64 (ex-ey)))then(70:Int)else(aa .i64 (ex-ey)))))-ey))>(63:Int)))&&(Y !=(0:Int)))),()))))))))else none)else none)else bif(p123 ((f119 (((0:Int),(X,())),((if((70:Int)<(aa .i64 (ex-ey)))then(70:Int)else(aa .i64 (ex-ey))),()))).1,(f120 (((0:Int),(Y,())),((aa .i64 ((aa .i64 (ex-(if((70:Int)<(aa .i64 (ex-ey)))then(70:Int)else(aa .i64 (ex-ey)))))-ey)),())))))then(bif(decide ((f123 ((f119 (((0:Int),(X,())),((if((70:Int)<(aa .i64 (ex-ey)))then(70:Int)else(aa .i64 (ex-ey))),()))).1,(f120 (((0:Int),(Y,())),((aa .i64 ((aa .i64 (ex-(if((70:Int)<(aa .i64 (ex-ey)))then(70:Int)else(aa .i64 (ex-ey)))))-ey)),()))))).1<(0:Int)))then(bif(p124 ((f120 (((0:Int),(Y,())),((aa .i64 ((aa .i64 (ex-(if((70:Int)<(aa .i64 (ex-ey)))then(70:Int)else(aa .i64 (ex-ey)))))-ey)),()))).1,(f119 (((0:Int),(X,())),((if((70:Int)<(aa .i64 (ex-ey)))then(70:Int)else(aa .i64 (ex-ey))),())))))then(bif((!(((f119 ((f120 (((0:Int),(Y,())),((aa .i64 ((aa .i64 (ex-(if((70:Int)<(aa .i64 (ex-ey)))then(70:Int)else(aa .i64 (ex-ey)))))-ey)),()))).1,((aa .i64 ((aa .i64 (ex-(if((70:Int)<(aa .i64 (ex-ey)))then(70:Int)else(aa .i64 (ex-ey)))))-ey)),()))).1.1==(0:Int))&&((f119 ((f120 (((0:Int),(Y,())),((aa .i64 ((aa .i64 (ex-(if((70:Int)<(aa .i64 (ex-ey)))then(70:Int)else(aa .i64 (ex-ey)))))-ey)),()))).1,((aa .i64 ((aa .i64 (ex-(if((70:Int)<(aa .i64 (ex-ey)))then(70:Int)else(aa .i64 (ex-ey)))))-ey)),()))).1.2.1==Y)))||((decide ((aa .i64 ((aa .i64 (ex-(if((70:Int)<(aa .i64 (ex-ey)))then(70:Int)else(aa .i64 (ex-ey)))))-ey))>(63:Int)))&&(Y !=(0:Int))))then(bif(p124 ((f124 ((f120 (((0:Int),(Y,())),((aa .i64 ((aa .i64 (ex-(if((70:Int)<(aa .i64 (ex-ey)))then(70:Int)else(aa .i64 (ex-ey)))))-ey)),()))).1,(f119 (((0:Int),(X,())),((if((70:Int)<(aa .i64 (ex-ey)))then(70:Int)else(aa .i64 (ex-ey))),()))))).1,(((0:Int),((1:Int),())),())))then(bif((((f124 ((f124 ((f120 (((0:Int),(Y,())),((aa .i64 ((aa .i64 (ex-(if((70:Int)<(aa .i64 (ex-ey)))then(70:Int)else(aa .i64 (ex-ey)))))-ey)),()))).1,(f119 (((0:Int),(X,())),((if((70:Int)<(aa .i64 (ex-ey)))then(70:Int)else(aa .i64 (ex-ey))),()))))).1,(((0:Int),((1:Int),())),()))).1.1==(0:Int))&&((f124 ((f124 ((f120 (((0:Int),(Y,())),((aa .i64 ((aa .i64 (ex-(if((70:Int)<(aa .i64 (ex-ey)))then(70:Int)else(aa .i64 (ex-ey)))))-ey)),()))).1,(f119 (((0:Int),(X,())),((if((70:Int)<(aa .i64 (ex-ey)))then(70:Int)else(aa .i64 (ex-ey))),()))))).1,(((0:Int),((1:Int),())),()))).1.2.1==(0:Int)))&&(!((!(((f119 ((f120 (((0:Int),(Y,())),((aa .i64 ((aa .i64 (ex-(if((70:Int)<(aa .i64 (ex-ey)))then(70:Int)else(aa .i64 (ex-ey)))))-ey)),()))).1,((aa .i64 ((aa .i64 (ex-(if((70:Int)<(aa .i64 (ex-ey)))then(70:Int)else(aa .i64 (ex-ey)))))-ey)),()))).1.1==(0:Int))&&((f119 ((f120 (((0:Int),(Y,())),((aa .i64 ((aa .i64 (ex-(if((70:Int)<(aa .i64 (ex-ey)))then(70:Int)else(aa .i64 (ex-ey)))))-ey)),()))).1,((aa .i64 ((aa .i64 (ex-(if((70:Int)<(aa .i64 (ex-ey)))then(70:Int)else(aa .i64 (ex-ey)))))-ey)),()))).1.2.1==Y)))||((decide ((aa .i64 ((aa .i64 (ex-(if((70:Int)<(aa .i64 (ex-ey)))then(70:Int)else(aa .i64 (ex-ey)))))-ey))>(63:Int)))&&(Y !=(0:Int))))))then(bif(p118 (f,((m==(4:Int)),())))then(some ((f118 (f,((m==(4:Int)),()))).1,((0:Int),((0:Int),()))))else none)else bif(p122 (f,(m,(ny,((f124 ((f124 ((f120 (((0:Int),(Y,())),((aa .i64 ((aa .i64 (ex-(if((70:Int)<(aa .i64 (ex-ey)))then(70:Int)else(aa .i64 (ex-ey)))))-ey)),()))).1,(f119 (((0:Int),(X,())),((if((70:Int)<(aa .i64 (ex-ey)))then(70:Int)else(aa .i64 (ex-ey))),()))))).1,(((0:Int),((1:Int),())),()))).1,((aa .i64 (ex-(if((70:Int)<(aa .i64 (ex-ey)))then(70:Int)else(aa .i64 (ex-ey))))),(((!(((f119 ((f120 (((0:Int),(Y,())),((aa .i64 ((aa .i64 (ex-(if((70:Int)<(aa .i64 (ex-ey)))then(70:Int)else(aa .i64 (ex-ey)))))-ey)),()))).1,((aa .i64 ((aa .i64 (ex-(if((70:Int)<(aa .i64 (ex-ey)))then(70:Int)else(aa .i64 (ex-ey)))))-ey)),()))).1.1==(0:Int))&&((f119 ((f120 (((0:Int),(Y,())),((aa .i64 ((aa .i64 (ex-(if((70:Int)<(aa .i64 (ex-ey)))then(70:Int)else(aa .i64 (ex-ey)))))-ey)),()))).1,((aa .i64 ((aa .i64 (ex-(if((70:Int)<(aa .i64 (ex-ey)))then(70:Int)else(aa .i64 (ex-ey)))))-ey)),()))).1.2.1==Y)))||((decide ((aa .i64 ((aa .i64 (ex-(if((70:Int)<(aa .i64 (ex-ey)))then(70:Int)else(aa .i64 (ex-ey)))))-ey))>(63:Int)))&&(Y !=(0:Int)))),())))))))then(some (f122 (f,(m,(ny,((f124 ((f124 ((f120 (((0:Int),(Y,())),((aa .i64 ((aa .i64 (ex-(if((70:Int)<(aa .i64 (ex-ey)))then(70:Int)else(aa .i64 (ex-ey)))))-ey)),()))).1,(f119 (((0:Int),(X,())),((if((70:Int)<(aa .i64 (ex-ey)))then(70:Int)else(aa .i64 (ex-ey))),()))))).1,(((0:Int),((1:Int),())),()))).1,((aa .i64 (ex-(if((70:Int)<(aa .i64 (ex-ey)))then(70:Int)else(aa .i64 (ex-ey))))),(((!(((f119 ((f120 (((0:Int),(Y,())),((aa .i64 ((aa .i64 (ex-(if((70:Int)<(aa .i64 (ex-ey)))then(70:Int)else(aa .i64 (ex-ey)))))-ey)),()))).1,((aa .i64 ((aa .i64 (ex-(if((70:Int)<(aa .i64 (ex-ey)))then(70:Int)else(aa .i64 (ex-ey)))))-ey)),()))).1.1==(0:Int))&&((f119 ((f120 (((0:Int),(Y,())),((aa .i64 ((aa .i64 (ex-(if((70:Int)<(aa .i64 (ex-ey)))then(70:Int)else(aa .i64 (ex-ey)))))-ey)),()))).1,((aa .i64 ((aa .i64 (ex-(if((70:Int)<(aa .i64 (ex-ey)))then(70:Int)else(aa .i64 (ex-ey)))))-ey)),()))).1.2.1==Y)))||((decide ((aa .i64 ((aa .i64 (ex-(if((70:Int)<(aa .i64 (ex-ey)))then(70:Int)else(aa .i64 (ex-ey)))))-ey))>(63:Int)))&&(Y !=(0:Int)))),()))))))))else none)else none)else bif((((f124 ((f120 (((0:Int),(Y,())),((aa .i64 ((aa .i64 (ex-(if((70:Int)<(aa .i64 (ex-ey)))then(70:Int)else(aa .i64 (ex-ey)))))-ey)),()))).1,(f119 (((0:Int),(X,())),((if((70:Int)<(aa .i64 (ex-ey)))then(70:Int)else(aa .i64 (ex-ey))),()))))).1.1==(0:Int))&&((f124 ((f120 (((0:Int),(Y,())),((aa .i64 ((aa .i64 (ex-(if((70:Int)<(aa .i64 (ex-ey)))then(70:Int)else(aa .i64 (ex-ey)))))-ey)),()))).1,(f119 (((0:Int),(X,())),((if((70:Int)<(aa .i64 (ex-ey)))then(70:Int)else(aa .i64 (ex-ey))),()))))).1.2.1==(0:Int)))&&(!((!(((f119 ((f120 (((0:Int),(Y,())),((aa .i64 ((aa .i64 (ex-(if((70:Int)<(aa .i64 (ex-ey)))then(70:Int)else(aa .i64 (ex-ey)))))-ey)),()))).1,((aa .i64 ((aa .i64 (ex-(if((70:Int)<(aa .i64 (ex-ey)))then(70:Int)else(aa .i64 (ex-ey)))))-ey)),()))).1.1==(0:Int))&&((f119 ((f120 (((0:Int),(Y,())),((aa .i64 ((aa .i64 (ex-(if((70:Int)<(aa .i64 (ex-ey)))then(70:Int)else(aa .i64 (ex-ey)))))-ey)),()))).1,((aa .i64 ((aa .i64 (ex-(if((70:Int)<(aa .i64 (ex-ey)))then(70:Int)else(aa .i64 (ex-ey)))))-ey)),()))).1.2.1==Y)))||((decide ((aa .i64 ((aa .i64 (ex-(if((70:Int)<(aa .i64 (ex-ey)))then(70:Int)else(aa .i64 (ex-ey)))))-ey))>(63:Int)))&&(Y !=(0:Int))))))then(bif(p118 (f,((m==(4:Int)),())))then(some ((f118 (f,((m==(4:Int)),()))).1,((0:Int),((0:Int),()))))else none)else bif(p122 (f,(m,(ny,((f124 ((f120 (((0:Int),(Y,())),((aa .i64 ((aa .i64 (ex-(if((70:Int)<(aa .i64 (ex-ey)))then(70:Int)else(aa .i64 (ex-ey)))))-ey)),()))).1,(f119 (((0:Int),(X,())),((if((70:Int)<(aa .i64 (ex-ey)))then(70:Int)else(aa .i64 (ex-ey))),()))))).1,((aa .i64 (ex-(if((70:Int)<(aa .i64 (ex-ey)))then(70:Int)else(aa .i64 (ex-ey))))),(((!(((f119 ((f120 (((0:Int),(Y,())),((aa .i64 ((aa .i64 (ex-(if((70:Int)<(aa .i64 (ex-ey)))then(70:Int)else(aa .i64 (ex-ey)))))-ey)),()))).1,((aa .i64 ((aa .i64 (ex-(if((70:Int)<(aa .i64 (ex-ey)))then(70:Int)else(aa .i64 (ex-ey)))))-ey)),()))).1.1==(0:Int))&&((f119 ((f120 (((0:Int),(Y,())),((aa .i64 ((aa .i64 (ex-(if((70:Int)<(aa .i64 (ex-ey)))then(70:Int)else(aa .i64 (ex-ey)))))-ey)),()))).1,((aa .i64 ((aa .i64 (ex-(if((70:Int)<(aa .i64 (ex-ey)))then(70:Int)else(aa .i64 (ex-ey)))))-ey)),()))).1.2.1==Y)))||((decide ((aa .i64 ((aa .i64 (ex-(if((70:Int)<(aa .i64 (ex-ey)))then(70:Int)else(aa .i64 (ex-ey)))))-ey))>(63:Int)))&&(Y !=(0:Int)))),())))))))then(some (f122 (f,(m,(ny,((f124 ((f120 (((0:Int),(Y,())),((aa .i64 ((aa .i64 (ex-(if((70:Int)<(aa .i64 (ex-ey)))then(70:Int)else(aa .i64 (ex-ey)))))-ey)),()))).1,(f119 (((0:Int),(X,())),((if((70:Int)<(aa .i64 (ex-ey)))then(70:Int)else(aa .i64 (ex-ey))),()))))).1,((aa .i64 (ex-(if((70:Int)<(aa .i64 (ex-ey)))then(70:Int)else(aa .i64 (ex-ey))))),(((!(((f119 ((f120 (((0:Int),(Y,())),((aa .i64 ((aa .i64 (ex-(if((70:Int)<(aa .i64 (ex-ey)))then(70:Int)else(aa .i64 (ex-ey)))))-ey)),()))).1,((aa .i64 ((aa .i64 (ex-(if((70:Int)<(aa .i64 (ex-ey)))then(70:Int)else(aa .i64 (ex-ey)))))-ey)),()))).1.1==(0:Int))&&((f119 ((f120 (((0:Int),(Y,())),((aa .i64 ((aa .i64 (ex-(if((70:Int)<(aa .i64 (ex-ey)))then(70:Int)else(aa .i64 (ex-ey)))))-ey)),()))).1,((aa .i64 ((aa .i64 (ex-(if((70:Int)<(aa .i64 (ex-ey)))then(70:Int)else(aa .i64 (ex-ey)))))-ey)),()))).1.2.1==Y)))||((decide ((aa .i64 ((aa .i64 (ex-(if((70:Int)<(aa .i64 (ex-ey)))then(70:Int)else(aa .i64 (ex-ey)))))-ey))>(63:Int)))&&(Y !=(0:Int)))),()))))))))else none)else none)else bif(p124 ((f119 (((0:Int),(X,())),((if((70:Int)<(aa .i64 (ex-ey)))then(70:Int)else(aa .i64 (ex-ey))),()))).1,(f120 (((0:Int),(Y,())),((aa .i64 ((aa .i64 (ex-(if((70:Int)<(aa .i64 (ex-ey)))then(70:Int)else(aa .i64 (ex-ey)))))-ey)),())))))then(bif((!(((f119 ((f120 (((0:Int),(Y,())),((aa .i64 ((aa .i64 (ex-(if((70:Int)<(aa .i64 (ex-ey)))then(70:Int)else(aa .i64 (ex-ey)))))-ey)),()))).1,((aa .i64 ((aa .i64 (ex-(if((70:Int)<(aa .i64 (ex-ey)))then(70:Int)else(aa .i64 (ex-ey)))))-ey)),()))).1.1==(0:Int))&&((f119 ((f120 (((0:Int),(Y,())),((aa .i64 ((aa .i64 (ex-(if((70:Int)<(aa .i64 (ex-ey)))then(70:Int)else(aa .i64 (ex-ey)))))-ey)),()))).1,((aa .i64 ((aa .i64 (ex-(if((70:Int)<(aa .i64 (ex-ey)))then(70:Int)else(aa .i64 (ex-ey)))))-ey)),()))).1.2.1==Y)))||((decide ((aa .i64 ((aa .i64 (ex-(if((70:Int)<(aa .i64 (ex-ey)))then(70:Int)else(aa .i64 (ex-ey)))))-ey))>(63:Int)))&&(Y !=(0:Int))))then(bif(p124 ((f124 ((f119 (((0:Int),(X,())),((if((70:Int)<(aa .i64 (ex-ey)))then(70:Int)else(aa .i64 (ex-ey))),()))).1,(f120 (((0:Int),(Y,())),((aa .i64 ((aa .i64 (ex-(if((70:Int)<(aa .i64 (ex-ey)))then(70:Int)else(aa .i64 (ex-ey)))))-ey)),()))))).1,(((0:Int),((1:Int),())),())))then(bif((((f124 ((f124 ((f119 (((0:Int),(X,())),((if((70:Int)<(aa .i64 (ex-ey)))then(70:Int)else(aa .i64 (ex-ey))),()))).1,(f120 (((0:Int),(Y,())),((aa .i64 ((aa .i64 (ex-(if((70:Int)<(aa .i64 (ex-ey)))then(70:Int)else(aa .i64 (ex-ey)))))-ey)),()))))).1,(((0:Int),((1:Int),())),()))).1.1==(0:Int))&&((f124 ((f124 ((f119 (((0:Int),(X,())),((if((70:Int)<(aa .i64 (ex-ey)))then(70:Int)else(aa .i64 (ex-ey))),()))).1,(f120 (((0:Int),(Y,())),((aa .i64 ((aa .i64 (ex-(if((70:Int)<(aa .i64 (ex-ey)))then(70:Int)else(aa .i64 (ex-ey)))))-ey)),()))))).1,(((0:Int),((1:Int),())),()))).1.2.1==(0:Int)))&&(!((!(((f119 ((f120 (((0:Int),(Y,())),((aa .i64 ((aa .i64 (ex-(if((70:Int)<(aa .i64 (ex-ey)))then(70:Int)else(aa .i64 (ex-ey)))))-ey)),()))).1,((aa .i64 ((aa .i64 (ex-(if((70:Int)<(aa .i64 (ex-ey)))then(70:Int)else(aa .i64 (ex-ey)))))-ey)),()))).1.1==(0:Int))&&((f119 ((f120 (((0:Int),(Y,())),((aa .i64 ((aa .i64 (ex-(if((70:Int)<(aa .i64 (ex-ey)))then(70:Int)else(aa .i64 (ex-ey)))))-ey)),()))).1,((aa .i64 ((aa .i64 (ex-(if((70:Int)<(aa .i64 (ex-ey)))then(70:Int)else(aa .i64 (ex-ey)))))-ey)),()))).1.2.1==Y)))||((decide ((aa .i64 ((aa .i64 (ex-(if((70:Int)<(aa .i64 (ex-ey)))then(70:Int)else(aa .i64 (ex-ey)))))-ey))>(63:Int)))&&(Y !=(0:Int))))))then(bif(p118 (f,((m==(4:Int)),())))then(some ((f118 (f,((m==(4:Int)),()))).1,((0:Int),((0:Int),()))))else none)else bif(p122 (f,(m,(nx,((f124 ((f124 ((f119 (((0:Int),(X,())),((if((70:Int)<(aa .i64 (ex-ey)))then(70:Int)else(aa .i64 (ex-ey))),()))).1,(f120 (((0:Int),(Y,())),((aa .i64 ((aa .i64 (ex-(if((70:Int)<(aa .i64 (ex-ey)))then(70:Int)else(aa .i64 (ex-ey)))))-ey)),()))))).1,(((0:Int),((1:Int),())),()))).1,((aa .i64 (ex-(if((70:Int)<(aa .i64 (ex-ey)))then(70:Int)else(aa .i64 (ex-ey))))),(((!(((f119 ((f120 (((0:Int),(Y,())),((aa .i64 ((aa .i64 (ex-(if((70:Int)<(aa .i64 (ex-ey)))then(70:Int)else(aa .i64 (ex-ey)))))-ey)),()))).1,((aa .i64 ((aa .i64 (ex-(if((70:Int)<(aa .i64 (ex-ey)))then(70:Int)else(aa .i64 (ex-ey)))))-ey)),()))).1.1==(0:Int))&&((f119 ((f120 (((0:Int),(Y,())),((aa .i64 ((aa .i64 (ex-(if((70:Int)<(aa .i64 (ex-ey)))then(70:Int)else(aa .i64 (ex-ey)))))-ey)),()))).1,((aa .i64 ((aa .i64 (ex-(if((70:Int)<(aa .i64 (ex-ey)))then(70:Int)else(aa .i64 (ex-ey)))))-ey)),()))).1.2.1==Y)))||((decide ((aa .i64 ((aa .i64 (ex-(if((70:Int)<(aa .i64 (ex-ey)))then(70:Int)else(aa .i64 (ex-ey)))))-ey))>(63:Int)))&&(Y !=(0:Int)))),())))))))then(some (f122 (f,(m,(nx,((f124 ((f124 ((f119 (((0:Int),(X,())),((if((70:Int)<(aa .i64 (ex-ey)))then(70:Int)else(aa .i64 (ex-ey))),()))).1,(f120 (((0:Int),(Y,())),((aa .i64 ((aa .i64 (ex-(if((70:Int)<(aa .i64 (ex-ey)))then(70:Int)else(aa .i64 (ex-ey)))))-ey)),()))))).1,(((0:Int),((1:Int),())),()))).1,((aa .i64 (ex-(if((70:Int)<(aa .i64 (ex-ey)))then(70:Int)else(aa .i64 (ex-ey))))),(((!(((f119 ((f120 (((0:Int),(Y,())),((aa .i64 ((aa .i64 (ex-(if((70:Int)<(aa .i64 (ex-ey)))then(70:Int)else(aa .i64 (ex-ey)))))-ey)),()))).1,((aa .i64 ((aa .i64 (ex-(if((70:Int)<(aa .i64 (ex-ey)))then(70:Int)else(aa .i64 (ex-ey)))))-ey)),()))).1.1==(0:Int))&&((f119 ((f120 (((0:Int),(Y,())),((aa .i64 ((aa .i64 (ex-(if((70:Int)<(aa .i64 (ex-ey)))then(70:Int)else(aa .i64 (ex-ey)))))-ey)),()))).1,((aa .i64 ((aa .i64 (ex-(if((70:Int)<(aa .i64 (ex-ey)))then(70:Int)else(aa .i64 (ex-ey)))))-ey)),()))).1.2.1==Y)))||((decide ((aa .i64 ((aa .i64 (ex-(if((70:Int)<(aa .i64 (ex-ey)))then(70:Int)else(aa .i64 (ex-ey)))))-ey))>(63:Int)))&&(Y !=(0:Int)))),()))))))))else none)else none)else bif((((f124 ((f119 (((0:Int),(X,())),((if((70:Int)<(aa .i64 (ex-ey)))then(70:Int)else(aa .i64 (ex-ey))),()))).1,(f120 (((0:Int),(Y,())),((aa .i64 ((aa .i64 (ex-(if((70:Int)<(aa .i64 (ex-ey)))then(70:Int)else(aa .i64 (ex-ey)))))-ey)),()))))).1.1==(0:Int))&&((f124 ((f119 (((0:Int),(X,())),((if((70:Int)<(aa .i64 (ex-ey)))then(70:Int)else(aa .i64 (ex-ey))),()))).1,(f120 (((0:Int),(Y,())),((aa .i64 ((aa .i64 (ex-(if((70:Int)<(aa .i64 (ex-ey)))then(70:Int)else(aa .i64 (ex-ey)))))-ey)),()))))).1.2.1==(0:Int)))&&(!((!(((f119 ((f120 (((0:Int),(Y,())),((aa .i64 ((aa .i64 (ex-(if((70:Int)<(aa .i64 (ex-ey)))then(70:Int)else(aa .i64 (ex-ey)))))-ey)),()))).1,((aa .i64 ((aa .i64 (ex-(if((70:Int)<(aa .i64 (ex-ey)))then(70:Int)else(aa .i64 (ex-ey)))))-ey)),()))).1.1==(0:Int))&&((f119 ((f120 (((0:Int),(Y,())),((aa .i64 ((aa .i64 (ex-(if((70:Int)<(aa .i64 (ex-ey)))then(70:Int)else(aa .i64 (ex-ey)))))-ey)),()))).1,((aa .i64 ((aa .i64 (ex-(if((70:Int)<(aa .i64 (ex-ey)))then(70:Int)else(aa .i64 (ex-ey)))))-ey)),()))).1.2.1==Y)))||((decide ((aa .i64 ((aa .i64 (ex-(if((70:Int)<(aa .i64 (ex-ey)))then(70:Int)else(aa .i64 (ex-ey)))))-ey))>(63:Int)))&&(Y !=(0:Int))))))then(bif(p118 (f,((m==(4:Int)),())))then(some ((f118 (f,((m==(4:Int)),()))).1,((0:Int),((0:Int),()))))else none)else bif(p122 (f,(m,(nx,((f124 ((f119 (((0:Int),(X,())),((if((70:Int)<(aa .i64 (ex-ey)))then(70:Int)else(aa .i64 (ex-ey))),()))).1,(f120 (((0:Int),(Y,())),((aa .i64 ((aa .i64 (ex-(if((70:Int)<(aa .i64 (ex-ey)))then(70:Int)else(aa .i64 (ex-ey)))))-ey)),()))))).1,((aa .i64 (ex-(if((70:Int)<(aa .i64 (ex-ey)))then(70:Int)else(aa .i64 (ex-ey))))),(((!(((f119 ((f120 (((0:Int),(Y,())),((aa .i64 ((aa .i64 (ex-(if((70:Int)<(aa .i64 (ex-ey)))then(70:Int)else(aa .i64 (ex-ey)))))-ey)),()))).1,((aa .i64 ((aa .i64 (ex-(if((70:Int)<(aa .i64 (ex-ey)))then(70:Int)else(aa .i64 (ex-ey)))))-ey)),()))).1.1==(0:Int))&&((f119 ((f120 (((0:Int),(Y,())),((aa .i64 ((aa .i64 (ex-(if((70:Int)<(aa .i64 (ex-ey)))then(70:Int)else(aa .i64 (ex-ey)))))-ey)),()))).1,((aa .i64 ((aa .i64 (ex-(if((70:Int)<(aa .i64 (ex-ey)))then(70:Int)else(aa .i64 (ex-ey)))))-ey)),()))).1.2.1==Y)))||((decide ((aa .i64 ((aa .i64 (ex-(if((70:Int)<(aa .i64 (ex-ey)))then(70:Int)else(aa .i64 (ex-ey)))))-ey))>(63:Int)))&&(Y !=(0:Int)))),())))))))then(some (f122 (f,(m,(nx,((f124 ((f119 (((0:Int),(X,())),((if((70:Int)<(aa .i64 (ex-ey)))then(70:Int)else(aa .i64 (ex-ey))),()))).1,(f120 (((0:Int),(Y,())),((aa .i64 ((aa .i64 (ex-(if((70:Int)<(aa .i64 (ex-ey)))then(70:Int)else(aa .i64 (ex-ey)))))-ey)),()))))).1,((aa .i64 (ex-(if((70:Int)<(aa .i64 (ex-ey)))then(70:Int)else(aa .i64 (ex-ey))))),(((!(((f119 ((f120 (((0:Int),(Y,())),((aa .i64 ((aa .i64 (ex-(if((70:Int)<(aa .i64 (ex-ey)))then(70:Int)else(aa .i64 (ex-ey)))))-ey)),()))).1,((aa .i64 ((aa .i64 (ex-(if((70:Int)<(aa .i64 (ex-ey)))then(70:Int)else(aa .i64 (ex-ey)))))-ey)),()))).1.1==(0:Int))&&((f119 ((f120 (((0:Int),(Y,())),((aa .i64 ((aa .i64 (ex-(if((70:Int)<(aa .i64 (ex-ey)))then(70:Int)else(aa .i64 (ex-ey)))))-ey)),()))).1,((aa .i64 ((aa .i64 (ex-(if((70:Int)<(aa .i64 (ex-ey)))then(70:Int)else(aa .i64 (ex-ey)))))-ey)),()))).1.2.1==Y)))||((decide ((aa .i64 ((aa .i64 (ex-(if((70:Int)<(aa .i64 (ex-ey)))then(70:Int)else(aa .i64 (ex-ey)))))-ey))>(63:Int)))&&(Y !=(0:Int)))),()))))))))else none)else none)else none)else none)else none)else none)else none
def t71(p119:eK)(f119:fB)(p120:aAo)(f120:aA5)(p121:aAp)(f121:aA6)(p123:U1)(f123:Vg)(p124:aAq)(f124:aA7)(p118:IG)(f118:IK)(p122:Ha)(f122:He)(a0 a1:Ab Za)(a2 a3:Ab Zn):Option (DenS Km):=bif(((a2.2.1==(0:Int))&&(a3.2.1==(0:Int)))&&(a2.1==a3.1))then(bif(p118 (a0,a2.1,()))then(some ((f118 (a0,a2.1,())).1,(0:Int),(0:Int),()))else none)else bif((a2.2.1==(0:Int))||((a3.2.1 !=(0:Int))&&(decide (a2.2.2.1<a3.2.2.1))))then(bif(a2.2.1==(0:Int))then(xV p119 f119 p120 f120 p121 f121 p123 f123 p124 f124 p118 f118 p122 f122 a0 a1 a3.1 a3.2.1 a3.2.2.1 a2.1 a2.2.1 a3.2.2.1)else(xV p119 f119 p120 f120 p121 f121 p123 f123 p124 f124 p118 f118 p122 f122 a0 a1 a3.1 a3.2.1 a3.2.2.1 a2.1 a2.2.1 a2.2.2.1))else bif(a3.2.1==(0:Int))then(xV p119 f119 p120 f120 p121 f121 p123 f123 p124 f124 p118 f118 p122 f122 a0 a1 a2.1 a2.2.1 a2.2.2.1 a3.1 a3.2.1 a2.2.2.1)else(xV p119 f119 p120 f120 p121 f121 p123 f123 p124 f124 p118 f118 p122 f122 a0 a1 a2.1 a2.2.1 a2.2.2.1 a3.1 a3.2.1 a3.2.2.1)
theorem r71(x:DenS Q1):run (cf [(208,⟨HB,JY,p119,f119⟩),(234,⟨Jp,Mh,p120,f120⟩),(235,⟨Jq,Mi,p121,f121⟩),(236,⟨GB,HP,p123,f123⟩),(237,⟨Jr,Mj,p124,f124⟩),(64,⟨Fa,Fz,p118,f118⟩),(104,⟨Fb,FA,p122,f122⟩)] []) 9 193 Tryz.f193 Q1 Km x=t71 p119 f119 p120 f120 p121 f121 p123 f123 p124 f124 p118 f118 p122 f122 x.1 x.2.1 x.2.2.1 x.2.2.2.1:=by kernel_rfl
def W0(x:DenS Q1):Option (DenS Km):=t71 AN.pre AN.F AU.pre AU.F Nw.pre Nw.F Eu.pre Eu.F B4.pre B4.F B0.pre B0.F Cd.pre Cd.F x.1 x.2.1 x.2.2.1 x.2.2.2.1
def TG:Sum:=Ah Q1 Km W0 (DenS.dflt Km)
theorem aUj:Sound Tryz.prog G1 193 TG:=sd (cf [(208,AN),(234,AU),(235,Nw),(236,Eu),(237,B4),(64,B0),(104,Cd)] []) 193 Tryz.f193 ⟨aEW,aSK,aSL,aEX,aSM,Wt,Wu,trivial⟩ trivial Q1 Km W0 _ (fun _=>r71 ..)
abbrev Y71:=Af Q1
abbrev Z71:=Ae Q1 Km
variable (p71:Y71)(f71:Z71)
end Vx
namespace Vx
open Go Go.Proofs
variable (p69:BV)(f69:BW)(p66:B9)(f66:Ca)(p91:Hc)(f91:Hg)(p90:eX)(f90:fL)(p65:DW)(f65:DX)(p70:DE)(f70:DF)(p98:KZ)(f98:K2)(p72:Y72)(f72:Z72)(p155:C5)(f155:C6)(p157:Hb)(f157:Hf)(p118:IG)(f118:IK)(p105:W2)(f105:Xg)(p173:Bw)(f173:Bx)(p146:U7)(f146:Vl)(p102:G9)(f102:Hd)(p178:II)(f178:IM)(p151:KX)(f151:K0)(p156:o8)(f156:pW)(p1173:TQ)(f1173:TT)(p171:TR)(f171:TU)(p92:KY)(f92:K1)(p186:Va)(f186:Vo)(p185:U9)(f185:Vn)(p176:U8)(f176:Vm)(p143:Ol)(f143:Oo)(p97:On)(f97:Ot)(p107:W3)(f107:Xh)(p122:Ha)(f122:He)(p71:Y71)(f71:Z71)
abbrev LM:Aa:=[(false,Za),(false,Za),(false,Zb),(false,Zb)]
abbrev Mo:Aa:=[(false,Zb),(false,Za),(false,Za)]
def vO(p69:BV)(f69:BW)(p65:DW)(f65:DX)(p70:DE)(f70:DF)(p72:Y72)(f72:Z72)(p71:Y71)(f71:Z71)(a0 a1:Ab Za)(a2 a3:Ab Zb):Option (DenS Mo):=let e1_:=(a0,a1,(f72 (a0,(f69 (a0,())).1,a2,())).1,(f72 (a0,(f69 (a0,())).1,a3,())));let e2_:=(((f65 (a0,a2,())).1==(2:Int))||((f65 (a0,a2,())).1==(9:Int)));let e3_:=(((f65 (a0,a3,())).1==(2:Int))||((f65 (a0,a3,())).1==(9:Int)));let e4_:=((f70 (a0,())).1,(1:Int),(0:Int),());bif(p69 (a0,()))then(bif((f69 (a0,())).2.1 !=(0:Int))then(some ((0:Int),(0:Int),(f69 (a0,())).2))else bif((decide (a1<(0:Int)))||(decide (a1>(5:Int))))then(some ((0:Int),(0:Int),(3:Int),()))else bif(p65 (a0,a2,()))then(bif((f65 (a0,a2,())).2.1 !=(0:Int))then(some ((0:Int),(0:Int),(f65 (a0,a2,())).2))else bif(p65 (a0,a3,()))then(bif((f65 (a0,a3,())).2.1 !=(0:Int))then(some ((0:Int),(0:Int),(f65 (a0,a3,())).2))else bif(p70 (a0,()))then(bif(((f65 (a0,a2,())).1==(0:Int))||((f65 (a0,a3,())).1==(0:Int)))then(some e4_)else bif(((f65 (a0,a2,())).1==(1:Int))||((f65 (a0,a3,())).1==(1:Int)))then(some ((f70 (a0,())).1,(0:Int),(0:Int),()))else bif((e2_&&e3_)&&((f65 (a0,a2,())).1 !=(f65 (a0,a3,())).1))then(some e4_)else bif e2_ then(some (a2,(0:Int),(0:Int),()))else bif e3_ then(some (a3,(0:Int),(0:Int),()))else bif(p72 (a0,(f69 (a0,())).1,a2,()))then(bif(p72 (a0,(f69 (a0,())).1,a3,()))then(bif(p71 e1_)then(some (f71 e1_))else none)else none)else none)else none)else none)else none)else none
theorem r27(x:DenS LM):run (cf [(71,⟨B7,B8,p69,f69⟩),(59,⟨DQ,DR,p65,f65⟩),(61,⟨Dz,DA,p70,f70⟩),(194,⟨Q2,SP,p72,f72⟩),(193,⟨Q1,Km,p71,f71⟩)] []) 9 158 Tryz.f158 LM Mo x=vO p69 f69 p65 f65 p70 f70 p72 f72 p71 f71 x.1 x.2.1 x.2.2.1 x.2.2.2.1:=by kernel_rfl
def bJ(x:DenS LM):Option (DenS Mo):=vO Aq.pre Aq.F Bv.pre Bv.F Bs.pre Bs.F TH.pre TH.F TG.pre TG.F x.1 x.2.1 x.2.2.1 x.2.2.2.1
def FK:Sum:=Ah LM Mo bJ (DenS.dflt Mo)
theorem zA:Sound Tryz.prog G1 158 FK:=sd (cf [(71,Aq),(59,Bv),(61,Bs),(194,TH),(193,TG)] []) 158 Tryz.f158 ⟨DC,IE,G6,aUk,aUj,trivial⟩ trivial LM Mo bJ _ (fun _=>r27 ..)
abbrev pC:=Af LM
abbrev pZ:=Ae LM Mo
variable (p27:pC)(f27:pZ)
abbrev Jn:Aa:=[(false,Za)]
abbrev JW:Aa:=[(false,Zb)]
def aPW(a0:Ab Za):Option (DenS JW):=let e1_:=(aa .i64 ((Vx.k_rows.getD (af a0) ((0:Int),(0:Int),(0:Int),(0:Int),())).1-(1:Int)));bif((decide ((0:Int)<=a0))&&(decide (a0<((4:Nat):Int))))then(bif(decide ((0:Int)<=e1_))then(some ((Be .u64 (1:Int) e1_),()))else none)else none
theorem bB1(x:DenS Jn):run (cf [] []) 9 233 Tryz.f233 Jn JW x=aPW x.1:=by kernel_rfl
def aF(x:DenS Jn):Option (DenS JW):=aPW x.1
def FJ:Sum:=Ah Jn JW aF (DenS.dflt JW)
theorem yP:Sound Tryz.prog G1 233 FJ:=sd (cf [] []) 233 Tryz.f233 trivial trivial Jn JW aF _ (fun _=>bB1 ..)
abbrev eJ:=Af Jn
abbrev fA:=Ae Jn JW
variable (p115:eJ)(f115:fA)
abbrev JL:Aa:=[(false,Za),(false,Zb)]
abbrev Kl:Aa:=[(false,Zb),(false,Za)]
def xF(p66:B9)(f66:Ca)(p115:eJ)(f115:fA)(a0:Ab Za)(a1:Ab Zb):Option (DenS Kl):=bif(p66 (a0,a1,()))then(bif((f66 (a0,a1,())).1 !=(0:Int))then(some ((0:Int),(f66 (a0,a1,()))))else bif(p115 (a0,()))then(some ((j5 .u64 a1 (f115 (a0,())).1),(0:Int),()))else none)else none
theorem r64(x:DenS JL):run (cf [(85,⟨Cq,Cr,p66,f66⟩),(233,⟨Jn,JW,p115,f115⟩)] []) 9 187 Tryz.f187 JL Kl x=xF p66 f66 p115 f115 x.1 x.2.1:=by kernel_rfl
def dJ(x:DenS JL):Option (DenS Kl):=xF Au.pre Au.F FJ.pre FJ.F x.1 x.2.1
def Fi:Sum:=Ah JL Kl dJ (DenS.dflt Kl)
theorem nP:Sound Tryz.prog G1 187 Fi:=sd (cf [(85,Au),(233,FJ)] []) 187 Tryz.f187 ⟨FM,yP,trivial⟩ trivial JL Kl dJ _ (fun _=>r64 ..)
abbrev Xc:=Af JL
abbrev Xq:=Ae JL Kl
variable (p64:Xc)(f64:Xq)
abbrev PE:Aa:=[(false,Za),(false,Za),(false,Zb),(false,Zb)]
abbrev Rw:Aa:=[(false,Zb),(false,Za),(false,Za)]
def vM(p66:B9)(f66:Ca)(p64:Xc)(f64:Xq)(p27:pC)(f27:pZ)(a0 a1:Ab Za)(a2 a3:Ab Zb):Option (DenS Rw):=let e1_:=(a0,a1,a2,(f64 (a0,a3,())).1,());bif(p66 (a0,a3,()))then(bif((f66 (a0,a3,())).1==(0:Int))then(bif(p64 (a0,a3,()))then(bif(p27 e1_)then(some (f27 e1_))else none)else none)else bif(p27 (a0,a1,a2,a3,()))then(some (f27 (a0,a1,a2,a3,())))else none)else none
theorem r25(x:DenS PE):run (cf [(85,⟨Cq,Cr,p66,f66⟩),(187,⟨JL,Kl,p64,f64⟩),(158,⟨LM,Mo,p27,f27⟩)] []) 9 159 Tryz.f159 PE Rw x=vM p66 f66 p64 f64 p27 f27 x.1 x.2.1 x.2.2.1 x.2.2.2.1:=by kernel_rfl
def bI(x:DenS PE):Option (DenS Rw):=vM Au.pre Au.F Fi.pre Fi.F FK.pre FK.F x.1 x.2.1 x.2.2.1 x.2.2.2.1
def Nx:Sum:=Ah PE Rw bI (DenS.dflt Rw)
theorem aE8:Sound Tryz.prog G1 159 Nx:=sd (cf [(85,Au),(187,Fi),(158,FK)] []) 159 Tryz.f159 ⟨FM,nP,zA,trivial⟩ trivial PE Rw bI _ (fun _=>r25 ..)
abbrev Y25:=Af PE
abbrev Z25:=Ae PE Rw
variable (p25:Y25)(f25:Z25)
abbrev PQ:Aa:=[(false,Za),(true,Zw),(false,Zb)]
abbrev RJ:Aa:=[(true,Zt),(false,Za)]
def YY(p65:DW)(f65:DX)(p98:KZ)(f98:K2)(a0:Ab Za)(a1:Ab Zw)(a2:Ab Zb):Option (DenS RJ):=let e1_:=(aa .i64 (a1.2.1-(1:Int)));bif(p65 (a0,a2,()))then(bif((f65 (a0,a2,())).2.1 !=(0:Int))then(some (((0:Int),false,(0:Int),(0:Int),()),(f65 (a0,a2,())).2))else bif(p98 (a0,a2,()))then(bif((f98 (a0,a2,())).2.1==(0:Int))then(some (((f65 (a0,a2,())).1,(f98 (a0,a2,())).1,(f98 (a0,a2,())).2.2.1,(aa .i64 ((aa .i64 ((aa .i64 ((aa .i64 ((aa .i64 (1:Int))-(1:Int)))+a1.2.2.1))-a1.2.1))+(1:Int))),()),(0:Int),()))else bif(decide ((0:Int)<=e1_))then(some (((f65 (a0,a2,())).1,(f98 (a0,a2,())).1,(Ai .u64 (f98 (a0,a2,())).2.2.1 (Be .u64 (1:Int) e1_)),(aa .i64 ((aa .i64 ((aa .i64 ((aa .i64 ((aa .i64 (f98 (a0,a2,())).2.1)-(1:Int)))+a1.2.2.1))-a1.2.1))+(1:Int))),()),(0:Int),()))else none)else none)else none
theorem bDi(x:DenS PQ):run (cf [(59,⟨DQ,DR,p65,f65⟩),(91,⟨Fr,FE,p98,f98⟩)] []) 9 195 Tryz.f195 PQ RJ x=YY p65 f65 p98 f98 x.1 x.2.1 x.2.2.1:=by kernel_rfl
def WR(x:DenS PQ):Option (DenS RJ):=YY Bv.pre Bv.F Cg.pre Cg.F x.1 x.2.1 x.2.2.1
def Tc:Sum:=Ah PQ RJ WR (DenS.dflt RJ)
theorem aTl:Sound Tryz.prog G1 195 Tc:=sd (cf [(59,Bv),(91,Cg)] []) 195 Tryz.f195 ⟨IE,UN,trivial⟩ trivial PQ RJ WR _ (fun _=>bDi ..)
abbrev aIq:=Af PQ
abbrev aJ4:=Ae PQ RJ
variable (p350:aIq)(f350:aJ4)
abbrev PR:Aa:=[(true,Zt)]
abbrev RK:Aa:=[(false,.bool)]
def aQi(a0:Ab Zt):Option (DenS RK):=some (((a0.1==(1:Int))||(a0.1==(0:Int))),())
theorem bDj(x:DenS PR):run (cf [] []) 9 196 Tryz.f196 PR RK x=aQi x.1:=by kernel_rfl
def bU(x:DenS PR):Option (DenS RK):=aQi x.1
def Td:Sum:=Ah PR RK bU (DenS.dflt RK)
theorem aTm:Sound Tryz.prog G1 196 Td:=sd (cf [] []) 196 Tryz.f196 trivial trivial PR RK bU _ (fun _=>bDj ..)
abbrev aIr:=Af PR
abbrev aJ5:=Ae PR RK
variable (p351:aIr)(f351:aJ5)
abbrev PS:Aa:=[(true,Zt)]
abbrev RL:Aa:=[(false,.bool)]
def aQj(a0:Ab Zt):Option (DenS RL):=some (((a0.1==(2:Int))||(a0.1==(9:Int))),())
theorem bDk(x:DenS PS):run (cf [] []) 9 197 Tryz.f197 PS RL x=aQj x.1:=by kernel_rfl
def bV(x:DenS PS):Option (DenS RL):=aQj x.1
def Te:Sum:=Ah PS RL bV (DenS.dflt RL)
theorem aTn:Sound Tryz.prog G1 197 Te:=sd (cf [] []) 197 Tryz.f197 trivial trivial PS RL bV _ (fun _=>bDk ..)
abbrev aIs:=Af PS
abbrev aJ6:=Ae PS RL
variable (p352:aIs)(f352:aJ6)
abbrev PT:Aa:=[(true,Zt)]
abbrev RM:Aa:=[(false,.bool)]
def aQk(a0:Ab Zt):Option (DenS RM):=some (((a0.1==(5:Int))||(a0.1==(6:Int))),())
theorem bDl(x:DenS PT):run (cf [] []) 9 198 Tryz.f198 PT RM x=aQk x.1:=by kernel_rfl
def bW(x:DenS PT):Option (DenS RM):=aQk x.1
def Tf:Sum:=Ah PT RM bW (DenS.dflt RM)
theorem aTo:Sound Tryz.prog G1 198 Tf:=sd (cf [] []) 198 Tryz.f198 trivial trivial PT RM bW _ (fun _=>bDl ..)
abbrev aIt:=Af PT
abbrev aJ7:=Ae PT RM
variable (p353:aIt)(f353:aJ7)
abbrev EG:Aa:=[(false,Zb),(false,Zb)]
abbrev EK:Aa:=[(false,Zb),(false,Zb)]
def vQ(a0 a1:Ab Zb):Option (DenS EK):=let e2_:=(BN .u64 a1 (4294967295:Int));let e3_:=(BN .u64 a0 (4294967295:Int));let e1_:=(aa .u64 ((aa .u64 ((AL .u64 a0 (32:Int))*e2_))+(AL .u64 (aa .u64 (e3_*e2_)) (32:Int))));some ((aa .u64 ((aa .u64 ((aa .u64 ((AL .u64 a0 (32:Int))*(AL .u64 a1 (32:Int))))+(AL .u64 e1_ (32:Int))))+(AL .u64 (aa .u64 ((BN .u64 e1_ (4294967295:Int))+(aa .u64 (e3_*(AL .u64 a1 (32:Int)))))) (32:Int)))),(aa .u64 (a0*a1)),())
theorem bC3(x:DenS EG):run (cf [] []) 9 120 Tryz.f120 EG EK x=vQ x.1 x.2.1:=by kernel_rfl
def bK(x:DenS EG):Option (DenS EK):=vQ x.1 x.2.1
def Bi:Sum:=Ah EG EK bK (DenS.dflt EK)
theorem mL:Sound Tryz.prog G1 120 Bi:=sd (cf [] []) 120 Tryz.f120 trivial trivial EG EK bK _ (fun _=>bC3 ..)
abbrev E0:=Af EG
abbrev E2:=Ae EG EK
variable (p315:E0)(f315:E2)
abbrev Jz:Aa:=[(false,Zb),(false,Zb)]
abbrev J6:Aa:=[(true,Zj)]
def vR(p315:E0)(f315:E2)(a0 a1:Ab Zb):Option (DenS J6):=bif(p315 (a0,a1,()))then(some ((f315 (a0,a1,())),()))else none
theorem bC4(x:DenS Jz):run (cf [(120,⟨EG,EK,p315,f315⟩)] []) 9 199 Tryz.f199 Jz J6 x=vR p315 f315 x.1 x.2.1:=by kernel_rfl
def bL(x:DenS Jz):Option (DenS J6):=vR Bi.pre Bi.F x.1 x.2.1
def Ew:Sum:=Ah Jz J6 bL (DenS.dflt J6)
theorem aFa:Sound Tryz.prog G1 199 Ew:=sd (cf [(120,Bi)] []) 199 Tryz.f199 ⟨mL,trivial⟩ trivial Jz J6 bL _ (fun _=>bC4 ..)
abbrev W7:=Af Jz
abbrev Xl:=Ae Jz J6
variable (p316:W7)(f316:Xl)
abbrev PU:Aa:=[(false,Za),(false,Za),(false,Zb),(false,Zb)]
abbrev RN:Aa:=[(false,Zb),(false,Za),(false,Za)]
def v0(p69:BV)(f69:BW)(p350:aIq)(f350:aJ4)(p351:aIr)(f351:aJ5)(p70:DE)(f70:DF)(p352:aIs)(f352:aJ6)(p97:On)(f97:Ot)(p353:aIt)(f353:aJ7)(p118:IG)(f118:IK)(p316:W7)(f316:Xl)(p122:Ha)(f122:He)(a0 a1:Ab Za)(a2 a3:Ab Zb):Option (DenS RN):=let e18_:=(!((f350 (a0,(f69 (a0,())).1,a2,())).1.2.1==(f350 (a0,(f69 (a0,())).1,a3,())).1.2.1));let e17_:=((f350 (a0,(f69 (a0,())).1,a2,())).1.2.2.1,(f350 (a0,(f69 (a0,())).1,a3,())).1.2.2.1,());let e1_:=(a0,a1,e18_,(f316 e17_).1,(aa .i64 ((f350 (a0,(f69 (a0,())).1,a2,())).1.2.2.2.1+(f350 (a0,(f69 (a0,())).1,a3,())).1.2.2.2.1)),false,());let e20_:=((f350 (a0,(f69 (a0,())).1,a2,())).1,());let e19_:=(f352 e20_);let e21_:=((f350 (a0,(f69 (a0,())).1,a3,())).1,());let e2_:=(e19_.1&&(f353 e21_).1);let e16_:=(a0,e18_,());let e3_:=(f118 e16_);let e4_:=(f97 e16_);let e5_:=e16_;let e6_:=(f353 e20_);let e7_:=e19_;let e8_:=(f351 e20_);let e9_:=(p352 e20_);let e10_:=(p353 e21_);let e11_:=(p353 e20_);let e12_:=(p352 e21_);let e13_:=(f352 e21_);let e14_:=e21_;let e15_:=((f70 (a0,())).1,(1:Int),(f70 (a0,())).2);bif(p69 (a0,()))then(bif((f69 (a0,())).2.1 !=(0:Int))then(some ((0:Int),(0:Int),(f69 (a0,())).2))else bif((decide (a1<(0:Int)))||(decide (a1>(5:Int))))then(some ((0:Int),(0:Int),(3:Int),()))else bif(p350 (a0,(f69 (a0,())).1,a2,()))then(bif((f350 (a0,(f69 (a0,())).1,a2,())).2.1 !=(0:Int))then(some ((0:Int),(0:Int),(f350 (a0,(f69 (a0,())).1,a2,())).2))else bif(p350 (a0,(f69 (a0,())).1,a3,()))then(bif((f350 (a0,(f69 (a0,())).1,a3,())).2.1 !=(0:Int))then(some ((0:Int),(0:Int),(f350 (a0,(f69 (a0,())).1,a3,())).2))else bif(p351 e20_)then(bif((p351 e14_)||(!(bif e8_.1 then false else true)))then(bif(e8_.1||(f351 e14_).1)then(bif(((f350 (a0,(f69 (a0,())).1,a2,())).1.1==(0:Int))||((f350 (a0,(f69 (a0,())).1,a3,())).1.1==(0:Int)))then(bif(p70 (a0,()))then(some e15_)else none)else bif(p70 (a0,()))then(some ((f70 (a0,())).1,(0:Int),(f70 (a0,())).2))else none)else bif e9_ then(bif(e10_||(!e7_.1))then(bif(e11_||(!(bif e2_ then false else true)))then(bif(e12_||(!((bif e2_ then false else true)&&e6_.1)))then(bif(e2_||(e6_.1&&e13_.1))then(bif(p70 (a0,()))then(some e15_)else none)else bif e9_ then(bif(e12_||(!(bif e7_.1 then false else true)))then(bif(e7_.1||e13_.1)then(bif(p97 e5_)then(some (e4_.1,(0:Int),e4_.2))else none)else bif e11_ then(bif(e10_||(!(bif e6_.1 then false else true)))then(bif(e6_.1||(f353 e14_).1)then(bif(p118 e5_)then(some (e3_.1,(0:Int),e3_.2))else none)else bif(p316 e17_)then(bif(p122 e1_)then(some (f122 e1_))else none)else none)else none)else none)else none)else none)else none)else none)else none)else none)else none)else none)else none)else none)else none
theorem bDm(x:DenS PU):run (cf [(71,⟨B7,B8,p69,f69⟩),(195,⟨PQ,RJ,p350,f350⟩),(196,⟨PR,RK,p351,f351⟩),(61,⟨Dz,DA,p70,f70⟩),(197,⟨PS,RL,p352,f352⟩),(62,⟨GH,GW,p97,f97⟩),(198,⟨PT,RM,p353,f353⟩),(64,⟨Fa,Fz,p118,f118⟩),(199,⟨Jz,J6,p316,f316⟩),(104,⟨Fb,FA,p122,f122⟩)] []) 9 160 Tryz.f160 PU RN x=v0 p69 f69 p350 f350 p351 f351 p70 f70 p352 f352 p97 f97 p353 f353 p118 f118 p316 f316 p122 f122 x.1 x.2.1 x.2.2.1 x.2.2.2.1:=by kernel_rfl
def bY(x:DenS PU):Option (DenS RN):=v0 Aq.pre Aq.F Tc.pre Tc.F Td.pre Td.F Bs.pre Bs.F Te.pre Te.F CM.pre CM.F Tf.pre Tf.F B0.pre B0.F Ew.pre Ew.F Cd.pre Cd.F x.1 x.2.1 x.2.2.1 x.2.2.2.1
def Ny:Sum:=Ah PU RN bY (DenS.dflt RN)
theorem aFc:Sound Tryz.prog G1 160 Ny:=sd (cf [(71,Aq),(195,Tc),(196,Td),(61,Bs),(197,Te),(62,CM),(198,Tf),(64,B0),(199,Ew),(104,Cd)] []) 160 Tryz.f160 ⟨DC,aTl,aTm,G6,aTn,aC,aTo,Wt,aFa,Wu,trivial⟩ trivial PU RN bY _ (fun _=>bDm ..)
abbrev aAB:=Af PU
abbrev aBi:=Ae PU RN
variable (p354:aAB)(f354:aBi)
abbrev PX:Aa:=[(false,Za),(false,Za),(false,Ze)]
abbrev RP:Aa:=[(false,Za)]
abbrev Is:Pat:=⟨39,[(27,.one (.v .i64)),(26,.one (.sl Zb)),(0,.one (.v .i64)),(28,.one (.v .i64))],[]⟩
abbrev k9:List (Nat×Shape):=[]
abbrev Oa:List (Nat×Pat):=[(0,⟨39,[],[]⟩)]
abbrev Nm:Option Pat:=(some ⟨39,[(6,.one (.v .i64))],[]⟩)
variable (w376_7:Pat.D Is->Option (Ad Oa Nm))
def Yj(p69:BV)(f69:BW)(p66:B9)(f66:Ca){R:Type}(L:Pat.D Is->Option R)(e:Ad Oa Nm->Option R)(x:Pat.D Is):Option R:=let e2_:=(x.1.2.2.1,(x.1.2.1.getD (af x.1.2.2.2.1) (0:Int)),());let e1_:=(f66 e2_);bif(decide (x.1.2.2.2.1<x.1.1))then(bif((decide ((0:Int)<=x.1.2.2.2.1))&&(decide (x.1.2.2.2.1<(x.1.2.1.length:Int))))then(bif(p66 e2_)then(bif(e1_.1 !=(0:Int))then(((e (.inr (e1_,())))))else(L ((x.1.1,x.1.2.1,x.1.2.2.1,(aa .i64 (x.1.2.2.2.1+(1:Int))),()),())))else none)else none)else(e (.inl ((),())))
theorem bGn(d:Nat)(R:Type)(L:Pat.D Is->Option R)(e:Ad Oa Nm->Option R)(x:Pat.D Is):
  Br (cf [(71,⟨B7,B8,p69,f69⟩),(85,⟨Cq,Cr,p66,f66⟩)] [(200,7,LoopSpec.of Is k9 Oa Nm w376_7)]) (d+2) 200 (Bq Tryz.f200 7) Is k9 Oa Nm (R:=R) L e x=Yj p69 f69 p66 f66 L e x:=by kernel_rfl
theorem aN3(p69:BV)(f69:BW)(p66:B9)(f66:Ca):Bo fun L e x=>Yj p69 f69 p66 f66 L e x:=by intro _ _ _ _ _ _ _ h0 hL he _;unfold Yj;repeat' (first|exact h0|exact hL _|exact he _|apply BB|(apply BC h0;intro _)|(apply BD<;>intro _))
def v4(p69:BV)(f69:BW)(p66:B9)(f66:Ca)(w376_7:Pat.D Is->Option (Ad Oa Nm))(a0 a1:Ab Za)(a2:Ab Ze):Option (DenS RP):=
 bif(p69 (a0,()))then(bif((f69 (a0,())).2.1 !=(0:Int))then(some (f69 (a0,())).2)
 else bif((decide (a1<(0:Int)))||(decide (a1>(5:Int))))then(some ((3:Int),()))
 else Vx.Ba (w376_7 (((a2.length:Int),a2,a0,(0:Int),()),())) fun y3=>
 Vx.A9 y3 (fun y4=>
 some ((0:Int),())) (fun z4=>
 some z4.1))
 else none
theorem bDp(x:DenS PX):run (cf [(71,⟨B7,B8,p69,f69⟩),(85,⟨Cq,Cr,p66,f66⟩)] [(200,7,LoopSpec.of Is k9 Oa Nm w376_7)]) 9 200 Tryz.f200 PX RP x=v4 p69 f69 p66 f66 w376_7 x.1 x.2.1 x.2.2.1:=by kernel_rfl
def oR:Is.D->Option (Ad Oa Nm):=Bf fun L=>Yj Aq.pre Aq.F Au.pre Au.F L some
def WS(x:DenS PX):Option (DenS RP):=v4 Aq.pre Aq.F Au.pre Au.F oR x.1 x.2.1 x.2.2.1
def Tg:Sum:=Ah PX RP WS (DenS.dflt RP)
theorem aTq:Sound Tryz.prog G1 200 Tg:=sd (cf [(71,Aq),(85,Au)] [(200,7,LoopSpec.of Is k9 Oa Nm oR)]) 200 Tryz.f200 ⟨DC,FM,trivial⟩ ⟨rfl,fun d=>BA (fun L e x=>Yj Aq.pre Aq.F Au.pre Au.F L e x) (aN3 Aq.pre Aq.F Au.pre Au.F) (fun _ _ _ _=>bGn ..),trivial⟩ PX RP WS _ (fun _=>bDp ..)
abbrev aIv:=Af PX
abbrev aJ9:=Ae PX RP
variable (p376:aIv)(f376:aJ9)
abbrev PY:Aa:=[(false,Za),(false,Zb)]
abbrev RQ:Aa:=[(true,.pair .bool (.pair .bool (.pair .bool (.pair .bool Zd))))]
def v5(p65:DW)(f65:DX)(p98:KZ)(f98:K2)(a0:Ab Za)(a1:Ab Zb):Option (DenS RQ):=bif(p65 (a0,a1,()))then(bif(p98 (a0,a1,()))then(some (((((f65 (a0,a1,())).1==(1:Int))||((f65 (a0,a1,())).1==(0:Int))),((f65 (a0,a1,())).1==(0:Int)),(((f65 (a0,a1,())).1==(9:Int))||((f65 (a0,a1,())).1==(2:Int))),(((f65 (a0,a1,())).1==(6:Int))||((f65 (a0,a1,())).1==(5:Int))),(f98 (a0,a1,())).1,()),()))else none)else none
theorem bDq(x:DenS PY):run (cf [(59,⟨DQ,DR,p65,f65⟩),(91,⟨Fr,FE,p98,f98⟩)] []) 9 201 Tryz.f201 PY RQ x=v5 p65 f65 p98 f98 x.1 x.2.1:=by kernel_rfl
def cA(x:DenS PY):Option (DenS RQ):=v5 Bv.pre Bv.F Cg.pre Cg.F x.1 x.2.1
def Th:Sum:=Ah PY RQ cA (DenS.dflt RQ)
theorem aTr:Sound Tryz.prog G1 201 Th:=sd (cf [(59,Bv),(91,Cg)] []) 201 Tryz.f201 ⟨IE,UN,trivial⟩ trivial PY RQ cA _ (fun _=>bDq ..)
abbrev aIw:=Af PY
abbrev aKa:=Ae PY RQ
variable (p377:aIw)(f377:aKa)
abbrev PZ:Aa:=[(false,Za),(false,Za)]
abbrev RR:Aa:=[(false,Zb),(false,Za),(false,Za)]
def v6(p70:DE)(f70:DF)(a0 a1:Ab Za):Option (DenS RR):=bif(p70 (a0,()))then(some ((f70 (a0,())).1,a1,(f70 (a0,())).2))else none
theorem bDr(x:DenS PZ):run (cf [(61,⟨Dz,DA,p70,f70⟩)] []) 9 202 Tryz.f202 PZ RR x=v6 p70 f70 x.1 x.2.1:=by kernel_rfl
def cB(x:DenS PZ):Option (DenS RR):=v6 Bs.pre Bs.F x.1 x.2.1
def Ti:Sum:=Ah PZ RR cB (DenS.dflt RR)
theorem aTs:Sound Tryz.prog G1 202 Ti:=sd (cf [(61,Bs)] []) 202 Tryz.f202 ⟨G6,trivial⟩ trivial PZ RR cB _ (fun _=>bDr ..)
abbrev aIx:=Af PZ
abbrev aKb:=Ae PZ RR
variable (p378:aIx)(f378:aKb)
abbrev GD:Aa:=[(false,Za),(false,Zb)]
abbrev GS:Aa:=[(true,Zs),(false,Za)]
def wD(p66:B9)(f66:Ca)(p90:eX)(f90:fL)(p91:Hc)(f91:Hg)(p92:KY)(f92:K1)(a0:Ab Za)(a1:Ab Zb):Option (DenS GS):=let e10_:=(Vx.k_rows.getD (af a0) ((0:Int),(0:Int),(0:Int),(0:Int),()));let e9_:=(f90 (e10_,a1,()));let e8_:=(Ai .u64 e9_.2.2.1 (Be .u64 (1:Int) (aa .i64 (e10_.2.1-(1:Int)))));let e1_:=(f92 (e8_,()));let e2_:=e8_;let e3_:=((aa .i64 (e10_.1-e10_.2.1)),());let e4_:=(f92 e9_.2.2);let e5_:=e9_;let e6_:=e10_;let e7_:=((false,[],(0:Int),()),(0:Int),());bif(p66 (a0,a1,()))then(bif((f66 (a0,a1,())).1 !=(0:Int))then(some ((false,[],(0:Int),()),(f66 (a0,a1,()))))else bif(bif(decide ((0:Int)<=a0))then(decide (a0<((4:Nat):Int)))else false)then(bif(p90 (e6_,a1,()))then(bif(p91 e3_)then(bif(e5_.2.1==(f91 e3_).1)then(some ((false,[],(0:Int),()),(40:Int),()))else bif(e5_.2.1==(0:Int))then(bif(e5_.2.2.1==(0:Int))then(some e7_)else bif(p92 e5_.2.2)then(bif(decide ((0:Int)<=e4_.1))then(some ((e5_.1,((AL .u64 e5_.2.2.1 e4_.1)::[]),(aa .i64 ((aa .i64 ((aa .i64 ((aa .i64 ((aa .i64 ((aa .i64 (1:Int))-(1:Int)))+e6_.2.2.1))-e6_.2.1))+(1:Int)))+e4_.1)),()),(0:Int),()))else none)else none)else bif(decide ((0:Int)<=(aa .i64 (e6_.2.1-(1:Int)))))then(bif(e2_==(0:Int))then(some e7_)else bif(p92 (e2_,()))then(bif(decide ((0:Int)<=e1_.1))then(some ((e5_.1,((AL .u64 e2_ e1_.1)::[]),(aa .i64 ((aa .i64 ((aa .i64 ((aa .i64 ((aa .i64 ((aa .i64 e5_.2.1)-(1:Int)))+e6_.2.2.1))-e6_.2.1))+(1:Int)))+e1_.1)),()),(0:Int),()))else none)else none)else none)else none)else none)else none)else none
theorem r40(x:DenS GD):run (cf [(85,⟨Cq,Cr,p66,f66⟩),(87,⟨JR,Ks,p90,f90⟩),(72,⟨EI,EM,p91,f91⟩),(191,⟨GG,GV,p92,f92⟩)] []) 9 203 Tryz.f203 GD GS x=wD p66 f66 p90 f90 p91 f91 p92 f92 x.1 x.2.1:=by kernel_rfl
def cG(x:DenS GD):Option (DenS GS):=wD Au.pre Au.F DD.pre DD.F BY.pre BY.F Co.pre Co.F x.1 x.2.1
def DB:Sum:=Ah GD GS cG (DenS.dflt GS)
theorem Z1:Sound Tryz.prog G1 203 DB:=sd (cf [(85,Au),(87,DD),(72,BY),(191,Co)] []) 203 Tryz.f203 ⟨FM,zR,NB,zS,trivial⟩ trivial GD GS cG _ (fun _=>r40 ..)
abbrev TS:=Af GD
abbrev TW:=Ae GD GS
variable (p40:TS)(f40:TW)
abbrev Jm:Aa:=[(false,Ze)]
abbrev JV:Aa:=[(true,Ze)]
def t6(p173:Bw)(f173:Bx)(a0:Ab Ze):Option (DenS JV):=let e1_:=(aq (af ((f173 (a0,())).1.length:Int)) (0:Int));bif(p173 (a0,()))then(bif((decide ((0:Int)<=((f173 (a0,())).1.length:Int)))&&(decide ((((f173 (a0,())).1.length:Int)*(8:Int))<=(140737488355328:Int))))then(some ((((f173 (a0,())).1.take e1_.length)++(e1_.drop (f173 (a0,())).1.length)),()))else none)else none
theorem bB0(x:DenS Jm):run ({cf [(93,⟨BT,BU,p173,f173⟩)] []with keep:=true}) 9 116 Tryz.f116 Jm JV x=t6 p173 f173 x.1:=by kernel_rfl
def UP(x:DenS Jm):Option (DenS JV):=t6 Aj.pre Aj.F x.1
def Dl:Sum:=Ah Jm JV UP (DenS.dflt JV)
theorem aEU:Sound Tryz.prog G1 116 Dl:=sd ({cf [(93,Aj)] []with keep:=true}) 116 Tryz.f116 ⟨Eg,trivial⟩ trivial Jm JV UP _ (fun _=>bB0 ..)
abbrev eI:=Af Jm
abbrev eZ:=Ae Jm JV
variable (p1146:eI)(f1146:eZ)
abbrev GC:Aa:=[(false,Zb)]
abbrev GR:Aa:=[(false,Za)]
def vT(p178:II)(f178:IM)(a0:Ab Zb):Option (DenS GR):=bif(p178 (a0,()))then(some ((aa .i64 ((64:Int)-(f178 (a0,())).1)),()))else none
theorem bDa(x:DenS GC):run (cf [(115,⟨F3,FC,p178,f178⟩)] []) 9 118 Tryz.f118 GC GR x=vT p178 f178 x.1:=by kernel_rfl
def bN(x:DenS GC):Option (DenS GR):=vT Cu.pre Cu.F x.1
def B2:Sum:=Ah GC GR bN (DenS.dflt GR)
theorem aFb:Sound Tryz.prog G1 118 B2:=sd (cf [(115,Cu)] []) 118 Tryz.f118 ⟨ZT,trivial⟩ trivial GC GR bN _ (fun _=>bDa ..)
abbrev Om:=Af GC
abbrev Oq:=Ae GC GR
variable (p327:Om)(f327:Oq)
abbrev EH:Aa:=[(false,Zb),(false,Zb),(false,Zb)]
abbrev EL:Aa:=[(false,Zb),(false,Zb)]
abbrev GZ:Pat:=⟨135,[(16,.one (.v .u64)),(11,.one (.v .u64)),(13,.one (.v .u64)),(10,.one (.v .u64)),(9,.one (.v .u64)),(15,.one (.v .u64)),(14,.one (.v .u64)),(2,.one (.v .u64)),(8,.one (.v .u64))],[]⟩
abbrev Y8:List (Nat×Shape):=[]
abbrev KQ:List (Nat×Pat):=[(0,⟨135,[(11,.one (.v .u64)),(13,.one (.v .u64)),(10,.one (.v .u64)),(9,.one (.v .u64)),(15,.one (.v .u64)),(14,.one (.v .u64)),(2,.one (.v .u64)),(8,.one (.v .u64))],[]⟩)]
abbrev Ku:Option Pat:=none
abbrev G0:Pat:=⟨135,[(10,.one (.v .u64)),(16,.one (.v .u64)),(9,.one (.v .u64)),(15,.one (.v .u64)),(17,.one (.v .u64)),(14,.one (.v .u64)),(18,.one (.v .u64)),(2,.one (.v .u64)),(8,.one (.v .u64))],[]⟩
abbrev Y9:List (Nat×Shape):=[]
abbrev KR:List (Nat×Pat):=[(2,⟨135,[(15,.one (.v .u64)),(17,.one (.v .u64)),(14,.one (.v .u64)),(18,.one (.v .u64)),(2,.one (.v .u64)),(8,.one (.v .u64))],[]⟩)]
abbrev Kv:Option Pat:=none
variable (w328_17:Pat.D GZ->Option (Ad KQ Ku))(w328_24:Pat.D G0->Option (Ad KR Kv))
def Yd(p327:Om)(f327:Oq){R:Type}(L:Pat.D G0->Option R)(e:Ad KR Kv->Option R)(x:Pat.D G0):Option R:=let e1_:=(x.1.2.2.2.1,x.1.2.2.2.2.1,x.1.2.2.2.2.2.1,(aa .u64 (x.1.2.2.2.2.2.2.1-(1:Int))),x.1.2.2.2.2.2.2.2);let e2_:=(aa .u64 (x.1.2.1+x.1.2.2.1));bif((decide (x.1.2.2.2.2.2.2.1>=(4294967296:Int)))||(decide ((aa .u64 (x.1.2.2.2.2.2.2.1*x.1.1))>(aa .u64 ((aa .u64 ((4294967296:Int)*x.1.2.1))+x.1.2.2.2.2.2.1)))))then(bif(decide (e2_>=(4294967296:Int)))then(((e (.inl (e1_,())))))else(L ((x.1.1,e2_,x.1.2.2.1,e1_),())))else(e (.inl (x.1.2.2.2,())))
theorem bGg(d:Nat)(R:Type)(L:Pat.D G0->Option R)(e:Ad KR Kv->Option R)(x:Pat.D G0):
  Br (cf [(118,⟨GC,GR,p327,f327⟩)] [(136,17,LoopSpec.of GZ Y8 KQ Ku w328_17),(136,24,LoopSpec.of G0 Y9 KR Kv w328_24)]) (d+2) 136 (Bq Tryz.f136 24) G0 Y9 KR Kv (R:=R) L e x=Yd p327 f327 L e x:=by kernel_rfl
theorem aNX(p327:Om)(f327:Oq):Bo fun L e x=>Yd p327 f327 L e x:=by intro _ _ _ _ _ _ _ h0 hL he _;unfold Yd;repeat' (first|exact h0|exact hL _|exact he _|apply BB|(apply BC h0;intro _)|(apply BD<;>intro _))
def Yc(p327:Om)(f327:Oq){R:Type}(L:Pat.D GZ->Option R)(e:Ad KQ Ku->Option R)(x:Pat.D GZ):Option R:=let e1_:=(x.1.2.1,x.1.2.2.1,x.1.2.2.2.1,x.1.2.2.2.2.1,(aa .u64 (x.1.2.2.2.2.2.1-(1:Int))),x.1.2.2.2.2.2.2);let e2_:=(aa .u64 (x.1.1+x.1.2.2.2.2.1));bif((decide (x.1.2.2.2.2.2.1>=(4294967296:Int)))||(decide ((aa .u64 (x.1.2.2.2.2.2.1*x.1.2.2.2.1))>(aa .u64 ((aa .u64 ((4294967296:Int)*x.1.1))+x.1.2.2.1)))))then(bif(decide (e2_>=(4294967296:Int)))then(((e (.inl (e1_,())))))else(L ((e2_,e1_),())))else(e (.inl (x.1.2,())))
theorem bGf(d:Nat)(R:Type)(L:Pat.D GZ->Option R)(e:Ad KQ Ku->Option R)(x:Pat.D GZ):
  Br (cf [(118,⟨GC,GR,p327,f327⟩)] [(136,17,LoopSpec.of GZ Y8 KQ Ku w328_17),(136,24,LoopSpec.of G0 Y9 KR Kv w328_24)]) (d+2) 136 (Bq Tryz.f136 17) GZ Y8 KQ Ku (R:=R) L e x=Yc p327 f327 L e x:=by kernel_rfl
theorem aNW(p327:Om)(f327:Oq):Bo fun L e x=>Yc p327 f327 L e x:=by intro _ _ _ _ _ _ _ h0 hL he _;unfold Yc;repeat' (first|exact h0|exact hL _|exact he _|apply BB|(apply BC h0;intro _)|(apply BD<;>intro _))
def vU(p327:Om)(f327:Oq)(w328_17:Pat.D GZ->Option (Ad KQ Ku))(w328_24:Pat.D G0->Option (Ad KR Kv))(a0 a1 a2:Ab Zb):Option (DenS EL):=
 let e9_:=(aa .u64 (f327 (a2,())).1)
 let e6_:=(Ai .u64 (Be .u64 a0 e9_) (AL .u64 a1 (aa .u64 ((64:Int)-e9_))))
 let e8_:=(Be .u64 a2 e9_)
 let e7_:=(AL .u64 e8_ (32:Int))
 let e1_:=(Bg .u64 e6_ e7_)
 let e2_:=e6_
 let e3_:=e7_
 let e4_:=(Be .u64 a1 e9_)
 let e5_:=e8_
 bif(a2==(0:Int))then((none))
 else bif(decide (a2<=a0))then((none))
 else bif(a0==(0:Int))then(bif(a2 !=(0:Int))then(bif(a2 !=(0:Int))then(some ((Bg .u64 a1 a2),(gj a1 a2),()))
 else none)
 else none)
 else bif(p327 (a2,()))then(bif(e3_ !=(0:Int))then(Vx.Ba (w328_17 (((aa .u64 (e2_-(aa .u64 (e1_*e3_)))),e2_,(AL .u64 e4_ (32:Int)),(BN .u64 e5_ (4294967295:Int)),e3_,e1_,(BN .u64 e4_ (4294967295:Int)),e5_,e9_,()),())) fun y5=>
 Vx.A9 y5 (fun y6=>
 bif(y6.1.2.2.2.1 !=(0:Int))then(Vx.Ba (w328_24 ((y6.1.2.2.1,(aa .u64 ((aa .u64 ((aa .u64 ((aa .u64 (y6.1.1*(4294967296:Int)))+y6.1.2.1))-(aa .u64 (y6.1.2.2.2.2.1*y6.1.2.2.2.2.2.2.1))))-(aa .u64 ((Bg .u64 (aa .u64 ((aa .u64 ((aa .u64 (y6.1.1*(4294967296:Int)))+y6.1.2.1))-(aa .u64 (y6.1.2.2.2.2.1*y6.1.2.2.2.2.2.2.1)))) y6.1.2.2.2.1)*y6.1.2.2.2.1)))),y6.1.2.2.2.1,y6.1.2.2.2.2.1,(aa .u64 ((aa .u64 ((aa .u64 (y6.1.1*(4294967296:Int)))+y6.1.2.1))-(aa .u64 (y6.1.2.2.2.2.1*y6.1.2.2.2.2.2.2.1)))),y6.1.2.2.2.2.2.1,(Bg .u64 (aa .u64 ((aa .u64 ((aa .u64 (y6.1.1*(4294967296:Int)))+y6.1.2.1))-(aa .u64 (y6.1.2.2.2.2.1*y6.1.2.2.2.2.2.2.1)))) y6.1.2.2.2.1),y6.1.2.2.2.2.2.2),())) fun y8=>
 Vx.A9 y8 (fun y9=>
 some ((aa .u64 ((aa .u64 (y9.1.1*(4294967296:Int)))+y9.1.2.2.2.1)),(AL .u64 (aa .u64 ((aa .u64 ((aa .u64 (y9.1.2.1*(4294967296:Int)))+y9.1.2.2.1))-(aa .u64 (y9.1.2.2.2.1*y9.1.2.2.2.2.1)))) y9.1.2.2.2.2.2.1),())) (fun z9=>
 none))
 else none) (fun z6=>
 none))
 else none)
 else none
theorem bDb(x:DenS EH):run (cf [(118,⟨GC,GR,p327,f327⟩)] [(136,17,LoopSpec.of GZ Y8 KQ Ku w328_17),(136,24,LoopSpec.of G0 Y9 KR Kv w328_24)]) 9 136 Tryz.f136 EH EL x=vU p327 f327 w328_17 w328_24 x.1 x.2.1 x.2.2.1:=by kernel_rfl
def oN:G0.D->Option (Ad KR Kv):=Bf fun L=>Yd B2.pre B2.F L some
def oM:GZ.D->Option (Ad KQ Ku):=Bf fun L=>Yc B2.pre B2.F L some
def bO(x:DenS EH):Option (DenS EL):=vU B2.pre B2.F oM oN x.1 x.2.1 x.2.2.1
def Bl:Sum:=Ah EH EL bO (DenS.dflt EL)
theorem mQ:Sound Tryz.prog G1 136 Bl:=sd (cf [(118,B2)] [(136,17,LoopSpec.of GZ Y8 KQ Ku oM),(136,24,LoopSpec.of G0 Y9 KR Kv oN)]) 136 Tryz.f136 ⟨aFb,trivial⟩ ⟨rfl,fun d=>BA (fun L e x=>Yc B2.pre B2.F L e x) (aNW B2.pre B2.F) (fun _ _ _ _=>bGf ..),⟨rfl,fun d=>BA (fun L e x=>Yd B2.pre B2.F L e x) (aNX B2.pre B2.F) (fun _ _ _ _=>bGg ..),trivial⟩⟩ EH EL bO _ (fun _=>bDb ..)
abbrev E1:=Af EH
abbrev E3:=Ae EH EL
variable (p328:E1)(f328:E3)
abbrev LH:Aa:=[(true,Ze),(false,Zb)]
abbrev Ml:Aa:=[(false,Ze),(false,Zb)]
abbrev Gb:Pat:=⟨31,[(1,.one (.v .u64)),(7,.one (.v .i64)),(0,.one (.own 0)),(6,.one (.v .u64))],[.arr Zb]⟩
abbrev kH:List (Nat×Shape):=[]
abbrev NP:List (Nat×Pat):=[(0,⟨31,[(0,.one (.own 0)),(6,.one (.v .u64))],[.arr Zb]⟩)]
abbrev M1:Option Pat:=none
variable (w1329_3:Pat.D Gb->Option (Ad NP M1))
def X0(p328:E1)(f328:E3)(p173:Bw)(f173:Bx){R:Type}(L:Pat.D Gb->Option R)(e:Ad NP M1->Option R)(x:Pat.D Gb):Option R:=let e3_:=(x.1.2.2.2.1,(x.2.1.getD (af x.1.2.1) (0:Int)),x.1.1,());let e1_:=(f328 e3_);let e2_:=((decide ((0:Int)<=x.1.2.1))&&(decide (x.1.2.1<(x.2.1.length:Int))));bif(decide (x.1.2.1>=(0:Int)))then(bif e2_ then(bif(p328 e3_)then(bif e2_ then(((L ((x.1.1,(aa .i64 (x.1.2.1-(1:Int))),(),e1_.2),(x.2.1.set (af x.1.2.1) e1_.1),()))))else none)else none)else none)else(e (.inl (((),x.1.2.2.2),x.2)))
theorem bFX(d:Nat)(R:Type)(L:Pat.D Gb->Option R)(e:Ad NP M1->Option R)(x:Pat.D Gb):
  Br ({cf [(136,⟨EH,EL,p328,f328⟩),(93,⟨BT,BU,p173,f173⟩)] [(117,3,LoopSpec.of Gb kH NP M1 w1329_3)]with keep:=true}) (d+2) 117 (Bq Tryz.f117 3) Gb kH NP M1 (R:=R) L e x=X0 p328 f328 p173 f173 L e x:=by kernel_rfl
theorem aNK(p328:E1)(f328:E3)(p173:Bw)(f173:Bx):Bo fun L e x=>X0 p328 f328 p173 f173 L e x:=by intro _ _ _ _ _ _ _ h0 hL he _;unfold X0;repeat' (first|exact h0|exact hL _|exact he _|apply BB|(apply BC h0;intro _)|(apply BD<;>intro _))
def uM(p328:E1)(f328:E3)(p173:Bw)(f173:Bx)(w1329_3:Pat.D Gb->Option (Ad NP M1))(a0:Ab Ze)(a1:Ab Zb):Option (DenS Ml):=
 Vx.Ba (w1329_3 ((a1,(aa .i64 ((a0.length:Int)-(1:Int))),(),(0:Int),()),a0,())) fun y0=>
 Vx.A9 y0 (fun y1=>
 bif(p173 y1.2)then(some ((f173 y1.2).1,y1.1.2))
 else none) (fun z1=>
 none)
theorem bCk(x:DenS LH):run ({cf [(136,⟨EH,EL,p328,f328⟩),(93,⟨BT,BU,p173,f173⟩)] [(117,3,LoopSpec.of Gb kH NP M1 w1329_3)]with keep:=true}) 9 117 Tryz.f117 LH Ml x=uM p328 f328 p173 f173 w1329_3 x.1 x.2.1:=by kernel_rfl
def d0:Gb.D->Option (Ad NP M1):=Bf fun L=>X0 Bl.pre Bl.F Aj.pre Aj.F L some
def aS(x:DenS LH):Option (DenS Ml):=uM Bl.pre Bl.F Aj.pre Aj.F d0 x.1 x.2.1
def EN:Sum:=Ah LH Ml aS (DenS.dflt Ml)
theorem aSO:Sound Tryz.prog G1 117 EN:=sd ({cf [(136,Bl),(93,Aj)] [(117,3,LoopSpec.of Gb kH NP M1 d0)]with keep:=true}) 117 Tryz.f117 ⟨mQ,Eg,trivial⟩ ⟨rfl,fun d=>BA (fun L e x=>X0 Bl.pre Bl.F Aj.pre Aj.F L e x) (aNK Bl.pre Bl.F Aj.pre Aj.F) (fun _ _ _ _=>bFX ..),trivial⟩ LH Ml aS _ (fun _=>bCk ..)
abbrev o7:=Af LH
abbrev pV:=Ae LH Ml
variable (p1329:o7)(f1329:pV)
abbrev F0:Aa:=[(false,Ze),(false,Ze)]
abbrev F8:Aa:=[(false,Za)]
abbrev Ia:Pat:=⟨49,[(0,.one (.sl Zb)),(1,.one (.sl Zb)),(5,.one (.v .i64))],[]⟩
abbrev kJ:List (Nat×Shape):=[]
abbrev NR:List (Nat×Pat):=[(1,⟨49,[],[]⟩)]
abbrev M3:Option Pat:=(some ⟨49,[(4,.one (.v .i64))],[]⟩)
variable (w144_7:Pat.D Ia->Option (Ad NR M3))
def X2(p173:Bw)(f173:Bx){R:Type}(L:Pat.D Ia->Option R)(e:Ad NR M3->Option R)(x:Pat.D Ia):Option R:=let e1_:=((decide ((0:Int)<=x.1.2.2.1))&&(decide (x.1.2.2.1<(x.1.2.1.length:Int))));let e2_:=((decide ((0:Int)<=x.1.2.2.1))&&(decide (x.1.2.2.1<(x.1.1.length:Int))));let e3_:=(x.1.2.1.getD (af x.1.2.2.1) (0:Int));bif(decide (x.1.2.2.1>=(0:Int)))then(bif e2_ then(bif e1_ then(bif(decide ((x.1.1.getD (af x.1.2.2.1) (0:Int))<e3_))then(((e (.inr (((-(1:Int)),()),())))))else bif e2_ then(bif e1_ then(bif(decide ((x.1.1.getD (af x.1.2.2.1) (0:Int))>e3_))then(((e (.inr (((1:Int),()),())))))else(L ((x.1.1,x.1.2.1,(aa .i64 (x.1.2.2.1-(1:Int))),()),())))else none)else none)else none)else none)else(e (.inl ((),())))
theorem bFZ(d:Nat)(R:Type)(L:Pat.D Ia->Option R)(e:Ad NR M3->Option R)(x:Pat.D Ia):
  Br (cf [(93,⟨BT,BU,p173,f173⟩)] [(101,7,LoopSpec.of Ia kJ NR M3 w144_7)]) (d+2) 101 (Bq Tryz.f101 7) Ia kJ NR M3 (R:=R) L e x=X2 p173 f173 L e x:=by kernel_rfl
theorem aNM(p173:Bw)(f173:Bx):Bo fun L e x=>X2 p173 f173 L e x:=by intro _ _ _ _ _ _ _ h0 hL he _;unfold X2;repeat' (first|exact h0|exact hL _|exact he _|apply BB|(apply BC h0;intro _)|(apply BD<;>intro _))
def uP(p173:Bw)(f173:Bx)(w144_7:Pat.D Ia->Option (Ad NR M3))(a0 a1:Ab Ze):Option (DenS F8):=
 bif(p173 (a0,()))then(bif(p173 (a1,()))then(bif(decide (((f173 (a0,())).1.length:Int)<((f173 (a1,())).1.length:Int)))then(some ((-(1:Int)),()))
 else bif(decide (((f173 (a0,())).1.length:Int)>((f173 (a1,())).1.length:Int)))then(some ((1:Int),()))
 else Vx.Ba (w144_7 (((f173 (a0,())).1,(f173 (a1,())).1,(aa .i64 (((f173 (a0,())).1.length:Int)-(1:Int))),()),())) fun y4=>
 Vx.A9 y4 (fun y5=>
 some ((0:Int),())) (fun z5=>
 some z5.1))
 else none)
 else none
theorem bCq(x:DenS F0):run (cf [(93,⟨BT,BU,p173,f173⟩)] [(101,7,LoopSpec.of Ia kJ NR M3 w144_7)]) 9 101 Tryz.f101 F0 F8 x=uP p173 f173 w144_7 x.1 x.2.1:=by kernel_rfl
def oC:Ia.D->Option (Ad NR M3):=Bf fun L=>X2 Aj.pre Aj.F L some
def aT(x:DenS F0):Option (DenS F8):=uP Aj.pre Aj.F oC x.1 x.2.1
def B1:Sum:=Ah F0 F8 aT (DenS.dflt F8)
theorem mC:Sound Tryz.prog G1 101 B1:=sd (cf [(93,Aj)] [(101,7,LoopSpec.of Ia kJ NR M3 oC)]) 101 Tryz.f101 ⟨Eg,trivial⟩ ⟨rfl,fun d=>BA (fun L e x=>X2 Aj.pre Aj.F L e x) (aNM Aj.pre Aj.F) (fun _ _ _ _=>bFZ ..),trivial⟩ F0 F8 aT _ (fun _=>bCq ..)
abbrev IH:=Af F0
abbrev IL:=Ae F0 F8
variable (p144:IH)(f144:IL)
abbrev LO:Aa:=[(false,Ze),(false,Zb)]
abbrev Mq:Aa:=[(false,Ze),(false,Zb)]
abbrev Ip:Pat:=⟨31,[(1,.one (.v .u64)),(7,.one (.v .i64)),(0,.one (.sl Zb)),(6,.one (.v .u64))],[]⟩
abbrev kX:List (Nat×Shape):=[]
abbrev N6:List (Nat×Pat):=[(0,⟨31,[(0,.one (.sl Zb)),(6,.one (.v .u64))],[]⟩)]
abbrev Ni:Option Pat:=none
variable (w329_3:Pat.D Ip->Option (Ad N6 Ni))
def iM(p328:E1)(f328:E3)(p173:Bw)(f173:Bx){R:Type}(L:Pat.D Ip->Option R)(e:Ad N6 Ni->Option R)(x:Pat.D Ip):Option R:=let e1_:=((decide ((0:Int)<=x.1.2.1))&&(decide (x.1.2.1<(x.1.2.2.1.length:Int))));bif(decide (x.1.2.1>=(0:Int)))then(bif e1_ then(bif(p328 (x.1.2.2.2.1,(x.1.2.2.1.getD (af x.1.2.1) (0:Int)),x.1.1,()))then(bif e1_ then((none))else none)else none)else none)else(e (.inl (x.1.2.2,())))
theorem bGh(d:Nat)(R:Type)(L:Pat.D Ip->Option R)(e:Ad N6 Ni->Option R)(x:Pat.D Ip):
  Br (cf [(136,⟨EH,EL,p328,f328⟩),(93,⟨BT,BU,p173,f173⟩)] [(117,3,LoopSpec.of Ip kX N6 Ni w329_3)]) (d+2) 117 (Bq Tryz.f117 3) Ip kX N6 Ni (R:=R) L e x=iM p328 f328 p173 f173 L e x:=by kernel_rfl
theorem aZK(p328:E1)(f328:E3)(p173:Bw)(f173:Bx):Bo fun L e x=>iM p328 f328 p173 f173 L e x:=by intro _ _ _ _ _ _ _ h0 hL he _;unfold iM;repeat' (first|exact h0|exact hL _|exact he _|apply BB|(apply BC h0;intro _)|(apply BD<;>intro _))
def aQh(p328:E1)(f328:E3)(p173:Bw)(f173:Bx)(w329_3:Pat.D Ip->Option (Ad N6 Ni))(a0:Ab Ze)(a1:Ab Zb):Option (DenS Mq):=
 Vx.Ba (w329_3 ((a1,(aa .i64 ((a0.length:Int)-(1:Int))),a0,(0:Int),()),())) fun y0=>
 Vx.A9 y0 (fun y1=>
 bif(p173 (y1.1.1,()))then(some ((f173 (y1.1.1,())).1,y1.1.2))
 else none) (fun z1=>
 none)
theorem bDc(x:DenS LO):run (cf [(136,⟨EH,EL,p328,f328⟩),(93,⟨BT,BU,p173,f173⟩)] [(117,3,LoopSpec.of Ip kX N6 Ni w329_3)]) 9 117 Tryz.f117 LO Mq x=aQh p328 f328 p173 f173 w329_3 x.1 x.2.1:=by kernel_rfl
def aHI:Ip.D->Option (Ad N6 Ni):=Bf fun L=>iM Bl.pre Bl.F Aj.pre Aj.F L some
def aGo(x:DenS LO):Option (DenS Mq):=aQh Bl.pre Bl.F Aj.pre Aj.F aHI x.1 x.2.1
def FL:Sum:=Ah LO Mq aGo (DenS.dflt Mq)
theorem aTe:Sound Tryz.prog G1 117 FL:=sd (cf [(136,Bl),(93,Aj)] [(117,3,LoopSpec.of Ip kX N6 Ni aHI)]) 117 Tryz.f117 ⟨mQ,Eg,trivial⟩ ⟨rfl,fun d=>BA (fun L e x=>iM Bl.pre Bl.F Aj.pre Aj.F L e x) (aZK Bl.pre Bl.F Aj.pre Aj.F) (fun _ _ _ _=>bGh ..),trivial⟩ LO Mq aGo _ (fun _=>bDc ..)
abbrev pF:=Af LO
abbrev qC:=Ae LO Mq
variable (p329:pF)(f329:qC)
abbrev JA:Aa:=[(false,Ze),(false,Zb)]
abbrev J7:Aa:=[(false,.bool)]
abbrev Fs:LK:=.win Zb
abbrev Iq:Pat:=⟨68,[(16,.one (.v .i64)),(15,.one (.sl Zb)),(2,.one (.v .u64)),(17,.one (.v .i64)),(1,.one (.sl Zb)),(0,.one (.sub 0)),(7,.one (.v .u64)),(8,.one (.v .u64))],[.arr Zb]⟩
abbrev kY:List (Nat×Shape):=[]
abbrev N7:List (Nat×Pat):=[(0,⟨68,[(1,.one (.sl Zb)),(0,.one (.sub 0)),(7,.one (.v .u64)),(8,.one (.v .u64))],[.arr Zb]⟩)]
abbrev Nj:Option Pat:=none
variable (w330_3:Pat.D Iq->Option (Ad N7 Nj))
def Ye(p315:E0)(f315:E2)(p155:C5)(f155:C6)(p157:Hb)(f157:Hf){R:Type}(L:Pat.D Iq->Option R)(e:Ad N7 Nj->Option R)(x:Pat.D Iq):Option R:=let e7_:=(x.2.1.getD (x.1.2.2.2.2.2.1.1+(af x.1.2.2.2.1)) (0:Int));let e8_:=(x.1.2.2.1,(x.1.2.1.getD (af x.1.2.2.2.1) (0:Int)),());let e6_:=(f315 e8_);let e5_:=(f155 (e6_.2.1,x.1.2.2.2.2.2.2.1,(0:Int),()));let e1_:=(f157 (e7_,e5_.1,x.1.2.2.2.2.2.2.2));let e2_:=e5_;let e3_:=((decide ((0:Int)<=x.1.2.2.2.1))&&(decide (x.1.2.2.2.1<(x.1.2.2.2.2.2.1.2:Int))));let e4_:=e6_;bif(decide (x.1.2.2.2.1<x.1.1))then(bif((decide ((0:Int)<=x.1.2.2.2.1))&&(decide (x.1.2.2.2.1<(x.1.2.1.length:Int))))then(bif(p315 e8_)then(bif(p155 (e4_.2.1,x.1.2.2.2.2.2.2.1,(0:Int),()))then(bif e3_ then(bif(p157 (e7_,e2_.1,x.1.2.2.2.2.2.2.2))then(bif e3_ then(((L ((x.1.1,x.1.2.1,x.1.2.2.1,(aa .i64 (x.1.2.2.2.1+(1:Int))),x.1.2.2.2.2.1,x.1.2.2.2.2.2.1,(aa .u64 (e4_.1+e2_.2.1)),e1_.2),(x.2.1.set (x.1.2.2.2.2.2.1.1+(af x.1.2.2.2.1)) e1_.1),()))))else none)else none)else none)else none)else none)else none)else(e (.inl (x.1.2.2.2.2,x.2)))
theorem bGi(d:Nat)(R:Type)(L:Pat.D Iq->Option R)(e:Ad N7 Nj->Option R)(x:Pat.D Iq):
  Br (cf [(120,⟨EG,EK,p315,f315⟩),(94,⟨Fc,FB,p155,f155⟩),(148,⟨LL,Rk,p157,f157⟩)] [(137,3,LoopSpec.of Iq kY N7 Nj w330_3 1)]) (d+2) 137 (Bq Tryz.f137 3) Iq kY N7 Nj (R:=R) L e x 1=Ye p315 f315 p155 f155 p157 f157 L e x:=by kernel_rfl
theorem aNY(p315:E0)(f315:E2)(p155:C5)(f155:C6)(p157:Hb)(f157:Hf):Bo fun L e x=>Ye p315 f315 p155 f155 p157 f157 L e x:=by intro _ _ _ _ _ _ _ h0 hL he _;unfold Ye;repeat' (first|exact h0|exact hL _|exact he _|apply BB|(apply BC h0;intro _)|(apply BD<;>intro _))
def vV(p315:E0)(f315:E2)(p155:C5)(f155:C6)(p157:Hb)(f157:Hf)(w330_3:Pat.D Iq->Option (Ad N7 Nj))(l0:LK.D (.win Zb))(a0:Ab Ze)(a1:Ab Zb):Option (LK.B Fs×DenS J7):=
 Vx.Ba (w330_3 (((a0.length:Int),a0,a1,(0:Int),a0,l0.2,(0:Int),(0:Int),()),l0.1,())) fun y0=>
 Vx.A9 y0 (fun y1=>
 bif((decide ((0:Int)<=(y1.1.1.length:Int)))&&(decide ((y1.1.1.length:Int)<(y1.1.2.1.2:Int))))then(bif(p157 ((y1.2.1.getD (y1.1.2.1.1+(af (y1.1.1.length:Int))) (0:Int)),y1.1.2.2))then(bif((decide ((0:Int)<=(y1.1.1.length:Int)))&&(decide ((y1.1.1.length:Int)<(y1.1.2.1.2:Int))))then(some ((y1.2.1.set (y1.1.2.1.1+(af (y1.1.1.length:Int))) (f157 ((y1.2.1.getD (y1.1.2.1.1+(af (y1.1.1.length:Int))) (0:Int)),y1.1.2.2)).1),((f157 ((y1.2.1.getD (y1.1.2.1.1+(af (y1.1.1.length:Int))) (0:Int)),y1.1.2.2)).2.1 !=(0:Int)),()))
 else none)
 else none)
 else none) (fun z1=>
 none)
theorem bDd(x:LK.D Fs×DenS JA):C2 (cf [(120,⟨EG,EK,p315,f315⟩),(94,⟨Fc,FB,p155,f155⟩),(148,⟨LL,Rk,p157,f157⟩)] [(137,3,LoopSpec.of Iq kY N7 Nj w330_3 1)]) 9 137 Tryz.f137 Fs JA J7 x=vV p315 f315 p155 f155 p157 f157 w330_3 x.1 x.2.1 x.2.2.1:=by kernel_rfl
def oO:Iq.D->Option (Ad N7 Nj):=Bf fun L=>Ye Bi.pre Bi.F AC.pre AC.F By.pre By.F L some
def bP(x:LK.D Fs×DenS JA):Option (LK.B Fs×DenS J7):=vV Bi.pre Bi.F AC.pre AC.F By.pre By.F oO x.1 x.2.1 x.2.2.1
def Cn:SumL:=C3 Fs JA J7 bP (LK.dflt Fs,DenS.dflt J7)
theorem aTg:SoundL Tryz.prog G1 137 Cn:=Ea (cf [(120,Bi),(94,AC),(148,By)] [(137,3,LoopSpec.of Iq kY N7 Nj oO 1)]) 137 Tryz.f137 ⟨mL,Wy,mE,trivial⟩ ⟨rfl,fun d=>BA (fun L e x=>Ye Bi.pre Bi.F AC.pre AC.F By.pre By.F L e x) (aNY Bi.pre Bi.F AC.pre AC.F By.pre By.F) (fun _ _ _ _=>bGi ..),trivial⟩ Fs JA J7 bP _ (fun _=>bDd ..)
abbrev W8:=LK.D Fs×DenS JA->Bool
abbrev Xm:=LK.D Fs×DenS JA->LK.B Fs×DenS J7
variable (p330:W8)(f330:Xm)
abbrev JB:Aa:=[(false,Ze)]
abbrev J8:Aa:=[(false,.bool)]
abbrev Ft:LK:=.win Zb
abbrev Ir:Pat:=⟨46,[(10,.one (.v .i64)),(9,.one (.sl Zb)),(11,.one (.v .i64)),(1,.one (.sl Zb)),(0,.one (.sub 0)),(5,.one (.v .u64))],[.arr Zb]⟩
abbrev kZ:List (Nat×Shape):=[]
abbrev N8:List (Nat×Pat):=[(0,⟨46,[(1,.one (.sl Zb)),(0,.one (.sub 0)),(5,.one (.v .u64))],[.arr Zb]⟩)]
abbrev Nk:Option Pat:=none
variable (w331_3:Pat.D Ir->Option (Ad N8 Nk))
def Yf(p155:C5)(f155:C6){R:Type}(L:Pat.D Ir->Option R)(e:Ad N8 Nk->Option R)(x:Pat.D Ir):Option R:=let e3_:=((x.2.1.getD (x.1.2.2.2.2.1.1+(af x.1.2.2.1)) (0:Int)),(x.1.2.1.getD (af x.1.2.2.1) (0:Int)),x.1.2.2.2.2.2);let e1_:=(f155 e3_);let e2_:=((decide ((0:Int)<=x.1.2.2.1))&&(decide (x.1.2.2.1<(x.1.2.2.2.2.1.2:Int))));bif(decide (x.1.2.2.1<x.1.1))then(bif((decide ((0:Int)<=x.1.2.2.1))&&(decide (x.1.2.2.1<(x.1.2.1.length:Int))))then(bif e2_ then(bif(p155 e3_)then(bif e2_ then(((L ((x.1.1,x.1.2.1,(aa .i64 (x.1.2.2.1+(1:Int))),x.1.2.2.2.1,x.1.2.2.2.2.1,e1_.2),(x.2.1.set (x.1.2.2.2.2.1.1+(af x.1.2.2.1)) e1_.1),()))))else none)else none)else none)else none)else(e (.inl (x.1.2.2.2,x.2)))
theorem bGj(d:Nat)(R:Type)(L:Pat.D Ir->Option R)(e:Ad N8 Nk->Option R)(x:Pat.D Ir):
  Br (cf [(94,⟨Fc,FB,p155,f155⟩)] [(138,3,LoopSpec.of Ir kZ N8 Nk w331_3 1)]) (d+2) 138 (Bq Tryz.f138 3) Ir kZ N8 Nk (R:=R) L e x 1=Yf p155 f155 L e x:=by kernel_rfl
theorem aNZ(p155:C5)(f155:C6):Bo fun L e x=>Yf p155 f155 L e x:=by intro _ _ _ _ _ _ _ h0 hL he _;unfold Yf;repeat' (first|exact h0|exact hL _|exact he _|apply BB|(apply BC h0;intro _)|(apply BD<;>intro _))
def vW(p155:C5)(f155:C6)(w331_3:Pat.D Ir->Option (Ad N8 Nk))(l0:LK.D (.win Zb))(a0:Ab Ze):Option (LK.B Ft×DenS J8):=
 Vx.Ba (w331_3 (((a0.length:Int),a0,(0:Int),a0,l0.2,(0:Int),()),l0.1,())) fun y0=>
 Vx.A9 y0 (fun y1=>
 bif((decide ((0:Int)<=(y1.1.1.length:Int)))&&(decide ((y1.1.1.length:Int)<(y1.1.2.1.2:Int))))then(bif(p155 ((y1.2.1.getD (y1.1.2.1.1+(af (y1.1.1.length:Int))) (0:Int)),(0:Int),y1.1.2.2))then(bif((decide ((0:Int)<=(y1.1.1.length:Int)))&&(decide ((y1.1.1.length:Int)<(y1.1.2.1.2:Int))))then(some ((y1.2.1.set (y1.1.2.1.1+(af (y1.1.1.length:Int))) (f155 ((y1.2.1.getD (y1.1.2.1.1+(af (y1.1.1.length:Int))) (0:Int)),(0:Int),y1.1.2.2)).1),((f155 ((y1.2.1.getD (y1.1.2.1.1+(af (y1.1.1.length:Int))) (0:Int)),(0:Int),y1.1.2.2)).2.1 !=(0:Int)),()))
 else none)
 else none)
 else none) (fun z1=>
 none)
theorem bDe(x:LK.D Ft×DenS JB):C2 (cf [(94,⟨Fc,FB,p155,f155⟩)] [(138,3,LoopSpec.of Ir kZ N8 Nk w331_3 1)]) 9 138 Tryz.f138 Ft JB J8 x=vW p155 f155 w331_3 x.1 x.2.1:=by kernel_rfl
def oP:Ir.D->Option (Ad N8 Nk):=Bf fun L=>Yf AC.pre AC.F L some
def bQ(x:LK.D Ft×DenS JB):Option (LK.B Ft×DenS J8):=vW AC.pre AC.F oP x.1 x.2.1
def CX:SumL:=C3 Ft JB J8 bQ (LK.dflt Ft,DenS.dflt J8)
theorem aTh:SoundL Tryz.prog G1 138 CX:=Ea (cf [(94,AC)] [(138,3,LoopSpec.of Ir kZ N8 Nk oP 1)]) 138 Tryz.f138 ⟨Wy,trivial⟩ ⟨rfl,fun d=>BA (fun L e x=>Yf AC.pre AC.F L e x) (aNZ AC.pre AC.F) (fun _ _ _ _=>bGj ..),trivial⟩ Ft JB J8 bQ _ (fun _=>bDe ..)
abbrev W9:=LK.D Ft×DenS JB->Bool
abbrev Xn:=LK.D Ft×DenS JB->LK.B Ft×DenS J8
variable (p331:W9)(f331:Xn)
abbrev LP:Aa:=[(false,Ze)]
abbrev J9:Aa:=[(false,Zb)]
abbrev Fu:LK:=.win Zb
abbrev Gd:Pat:=⟨92,[(6,.one (.v .u64)),(7,.one (.v .u64)),(5,.one (.v .i64)),(0,.one (.sub 0)),(1,.one (.sl Zb))],[.arr Zb]⟩
abbrev ZJ:List (Nat×Shape):=[]
abbrev KT:List (Nat×Pat):=[(0,⟨92,[(0,.one (.sub 0)),(1,.one (.sl Zb)),(6,.one (.v .u64))],[.arr Zb]⟩)]
abbrev Kx:Option Pat:=none
abbrev Gc:Pat:=⟨92,[(6,.one (.v .u64)),(0,.one (.sub 0)),(1,.one (.sl Zb))],[.arr Zb]⟩
abbrev ZI:List (Nat×Shape):=[]
abbrev KS:List (Nat×Pat):=[(2,⟨92,[(6,.one (.v .u64))],[.arr Zb]⟩)]
abbrev Kw:Option Pat:=none
variable (w332_6:Pat.D Gd->Option (Ad KT Kx))(w332_13:Pat.D Gc->Option (Ad KS Kw))
def Yg(p328:E1)(f328:E3)(p315:E0)(f315:E2)(p155:C5)(f155:C6)(p330:W8)(f330:Xm)(p331:W9)(f331:Xn){R:Type}(L:Pat.D Gc->Option R)(e:Ad KS Kw->Option R)(x:Pat.D Gc):Option R:=let e1_:=(aa .u64 (x.1.1-(1:Int)));bif(p331 ((x.2.1,x.1.2.1),x.1.2.2))then(bif(f331 ((x.2.1,x.1.2.1),x.1.2.2)).2.1 then(((e (.inl ((e1_,()),(f331 ((x.2.1,x.1.2.1),x.1.2.2)).1,())))))else(L ((e1_,x.1.2),(f331 ((x.2.1,x.1.2.1),x.1.2.2)).1,())))else none
theorem bGk(d:Nat)(R:Type)(L:Pat.D Gc->Option R)(e:Ad KS Kw->Option R)(x:Pat.D Gc):
  Br ({cf [(136,⟨EH,EL,p328,f328⟩),(120,⟨EG,EK,p315,f315⟩),(94,⟨Fc,FB,p155,f155⟩)] [(119,6,LoopSpec.of Gd ZJ KT Kx w332_6 1),(119,13,LoopSpec.of Gc ZI KS Kw w332_13 1)]with lsums:=[(137,⟨Fs,JA,J7,p330,f330⟩),(138,⟨Ft,JB,J8,p331,f331⟩)] }) (d+2) 119 (Bq Tryz.f119 13) Gc ZI KS Kw (R:=R) L e x 1=Yg p328 f328 p315 f315 p155 f155 p330 f330 p331 f331 L e x:=by kernel_rfl
theorem aN0(p328:E1)(f328:E3)(p315:E0)(f315:E2)(p155:C5)(f155:C6)(p330:W8)(f330:Xm)(p331:W9)(f331:Xn):Bo fun L e x=>Yg p328 f328 p315 f315 p155 f155 p330 f330 p331 f331 L e x:=by intro _ _ _ _ _ _ _ h0 hL he _;unfold Yg;repeat' (first|exact h0|exact hL _|exact he _|apply BB|(apply BC h0;intro _)|(apply BD<;>intro _))
def Yh(p328:E1)(f328:E3)(p315:E0)(f315:E2)(p155:C5)(f155:C6)(p330:W8)(f330:Xm)(p331:W9)(f331:Xn){R:Type}(L:Pat.D Gd->Option R)(e:Ad KT Kx->Option R)(x:Pat.D Gd):Option R:=let e11_:=(aa .i64 (x.1.2.2.1-(2:Int)));let e10_:=(af e11_);let e9_:=(f315 (x.1.1,(x.1.2.2.2.2.1.getD e10_ (0:Int)),()));let e1_:=(decide (e9_.1<x.1.2.1));let e12_:=(aa .i64 (x.1.2.2.1-(1:Int)));let e2_:=(f155 (x.1.2.1,(x.1.2.2.2.2.1.getD (af e12_) (0:Int)),(0:Int),()));let e3_:=e9_;let e4_:=(decide ((0:Int)<=e11_));let e5_:=e10_;let e6_:=e12_;let e7_:=e11_;let e8_:=(aa .u64 (x.1.1-(1:Int)));bif(e4_&&(decide (e7_<(x.1.2.2.2.2.1.length:Int))))then(bif(p315 (x.1.1,(x.1.2.2.2.2.1.getD e5_ (0:Int)),()))then(bif((e4_&&(decide (e7_<(x.1.2.2.2.1.2:Int))))||(!((bif e1_ then false else true)&&(decide (e3_.1=x.1.2.1)))))then(bif(e1_||((e3_.1==x.1.2.1)&&(decide (e3_.2.1<=(x.2.1.getD (x.1.2.2.2.1.1+e5_) (0:Int))))))then(((e (.inl ((x.1.2.2.2.1,x.1.2.2.2.2.1,x.1.1,()),x.2)))))else bif((decide ((0:Int)<=e6_))&&(decide (e6_<(x.1.2.2.2.2.1.length:Int))))then(bif(p155 (x.1.2.1,(x.1.2.2.2.2.1.getD (af e6_) (0:Int)),(0:Int),()))then(bif(e2_.2.1 !=(0:Int))then(((e (.inl ((x.1.2.2.2.1,x.1.2.2.2.2.1,e8_,()),x.2)))))else(L ((e8_,e2_.1,x.1.2.2),x.2)))else none)else none)else none)else none)else none
theorem bGl(d:Nat)(R:Type)(L:Pat.D Gd->Option R)(e:Ad KT Kx->Option R)(x:Pat.D Gd):
  Br ({cf [(136,⟨EH,EL,p328,f328⟩),(120,⟨EG,EK,p315,f315⟩),(94,⟨Fc,FB,p155,f155⟩)] [(119,6,LoopSpec.of Gd ZJ KT Kx w332_6 1),(119,13,LoopSpec.of Gc ZI KS Kw w332_13 1)]with lsums:=[(137,⟨Fs,JA,J7,p330,f330⟩),(138,⟨Ft,JB,J8,p331,f331⟩)] }) (d+2) 119 (Bq Tryz.f119 6) Gd ZJ KT Kx (R:=R) L e x 1=Yh p328 f328 p315 f315 p155 f155 p330 f330 p331 f331 L e x:=by kernel_rfl
theorem aN1(p328:E1)(f328:E3)(p315:E0)(f315:E2)(p155:C5)(f155:C6)(p330:W8)(f330:Xm)(p331:W9)(f331:Xn):Bo fun L e x=>Yh p328 f328 p315 f315 p155 f155 p330 f330 p331 f331 L e x:=by intro _ _ _ _ _ _ _ h0 hL he _;unfold Yh;repeat' (first|exact h0|exact hL _|exact he _|apply BB|(apply BC h0;intro _)|(apply BD<;>intro _))
def vX(p328:E1)(f328:E3)(p315:E0)(f315:E2)(p155:C5)(f155:C6)(p330:W8)(f330:Xm)(p331:W9)(f331:Xn)(w332_6:Pat.D Gd->Option (Ad KT Kx))(w332_13:Pat.D Gc->Option (Ad KS Kw))(l0:LK.D (.win Zb))(a0:Ab Ze):Option (LK.B Fu×DenS J9):=
 let e11_:=(l0.1.getD (l0.2.1+(af (a0.length:Int))) (0:Int))
 let e10_:=(aa .i64 ((a0.length:Int)-(1:Int)))
 let e9_:=(af e10_)
 let e8_:=(a0.getD e9_ (0:Int))
 let e1_:=(f328 (e11_,(l0.1.getD (l0.2.1+e9_) (0:Int)),e8_,()))
 let e2_:=((decide ((0:Int)<=e10_))&&(decide (e10_<(a0.length:Int))))
 let e3_:=e8_
 let e4_:=((decide ((0:Int)<=(a0.length:Int)))&&(decide ((a0.length:Int)<(l0.2.2:Int))))
 let e5_:=e10_
 let e12_:=((l0.1,l0.2),a0,(18446744073709551615:Int),())
 let e6_:=(f330 e12_)
 let e7_:=e11_
 bif e4_ then(bif e2_ then(bif(decide (e7_<e3_))then(bif e4_ then(bif((decide ((0:Int)<=e5_))&&(decide (e5_<(l0.2.2:Int))))then(bif e2_ then(bif(p328 (e7_,(l0.1.getD (l0.2.1+(af e5_)) (0:Int)),e3_,()))then(Vx.Ba (w332_6 ((e1_.1,e1_.2.1,(a0.length:Int),l0.2,a0,()),l0.1,())) fun y7=>
 Vx.A9 y7 (fun y8=>
 bif(p330 ((y8.2.1,y8.1.1),y8.1.2))then(bif(f330 ((y8.2.1,y8.1.1),y8.1.2)).2.1 then(Vx.Ba (w332_13 ((y8.1.2.2.1,y8.1.1,y8.1.2.1,()),(f330 ((y8.2.1,y8.1.1),y8.1.2)).1,())) fun y11=>
 Vx.A9 y11 (fun y12=>
 some (y12.2.1,y12.1)) (fun z12=>
 none))
 else some ((f330 ((y8.2.1,y8.1.1),y8.1.2)).1,y8.1.2.2))
 else none) (fun z8=>
 none))
 else none)
 else none)
 else none)
 else none)
 else bif(p330 e12_)then(bif e6_.2.1 then(Vx.Ba (w332_13 (((18446744073709551615:Int),l0.2,a0,()),e6_.1,())) fun y5=>
 Vx.A9 y5 (fun y6=>
 some (y6.2.1,y6.1)) (fun z6=>
 none))
 else some (e6_.1,(18446744073709551615:Int),()))
 else none)
 else none)
 else none
theorem bDf(x:LK.D Fu×DenS LP):C2 ({cf [(136,⟨EH,EL,p328,f328⟩),(120,⟨EG,EK,p315,f315⟩),(94,⟨Fc,FB,p155,f155⟩)] [(119,6,LoopSpec.of Gd ZJ KT Kx w332_6 1),(119,13,LoopSpec.of Gc ZI KS Kw w332_13 1)]with lsums:=[(137,⟨Fs,JA,J7,p330,f330⟩),(138,⟨Ft,JB,J8,p331,f331⟩)] }) 9 119 Tryz.f119 Fu LP J9 x=vX p328 f328 p315 f315 p155 f155 p330 f330 p331 f331 w332_6 w332_13 x.1 x.2.1:=by kernel_rfl
def eC:Gc.D->Option (Ad KS Kw):=Bf fun L=>Yg Bl.pre Bl.F Bi.pre Bi.F AC.pre AC.F Cn.pre Cn.F CX.pre CX.F L some
def oQ:Gd.D->Option (Ad KT Kx):=Bf fun L=>Yh Bl.pre Bl.F Bi.pre Bi.F AC.pre AC.F Cn.pre Cn.F CX.pre CX.F L some
def bR(x:LK.D Fu×DenS LP):Option (LK.B Fu×DenS J9):=vX Bl.pre Bl.F Bi.pre Bi.F AC.pre AC.F Cn.pre Cn.F CX.pre CX.F oQ eC x.1 x.2.1
def EP:SumL:=C3 Fu LP J9 bR (LK.dflt Fu,DenS.dflt J9)
theorem aTi:SoundL Tryz.prog G1 119 EP:=Ea ({cf [(136,Bl),(120,Bi),(94,AC)] [(119,6,LoopSpec.of Gd ZJ KT Kx oQ 1),(119,13,LoopSpec.of Gc ZI KS Kw eC 1)]with lsums:=[(137,Cn),(138,CX)] }) 119 Tryz.f119 ⟨mQ,mL,Wy,trivial⟩ ⟨rfl,fun d=>BA (fun L e x=>Yh Bl.pre Bl.F Bi.pre Bi.F AC.pre AC.F Cn.pre Cn.F CX.pre CX.F L e x) (aN1 Bl.pre Bl.F Bi.pre Bi.F AC.pre AC.F Cn.pre Cn.F CX.pre CX.F) (fun _ _ _ _=>bGl ..),⟨rfl,fun d=>BA (fun L e x=>Yg Bl.pre Bl.F Bi.pre Bi.F AC.pre AC.F Cn.pre Cn.F CX.pre CX.F L e x) (aN0 Bl.pre Bl.F Bi.pre Bi.F AC.pre AC.F Cn.pre Cn.F CX.pre CX.F) (fun _ _ _ _=>bGk ..),trivial⟩⟩ Fu LP J9 bR _ (fun _=>bDf ..) (hls:=⟨aTg,aTh,trivial⟩)
abbrev pG:=LK.D Fu×DenS LP->Bool
abbrev qD:=LK.D Fu×DenS LP->LK.B Fu×DenS J9
variable (p332:pG)(f332:qD)
abbrev PP:Aa:=[(false,Ze),(false,Ze)]
abbrev RI:Aa:=[(false,Ze),(false,Ze)]
abbrev Ge:Pat:=⟨91,[(9,.one (.sl Zb)),(12,.one (.v .i64)),(4,.one (.own 1)),(10,.one (.own 0)),(11,.one (.v .i64)),(8,.one (.v .i64))],[.arr Zb,.arr Zb]⟩
abbrev k8:List (Nat×Shape):=[]
abbrev N9:List (Nat×Pat):=[(0,⟨91,[(4,.one (.own 1)),(10,.one (.own 0)),(11,.one (.v .i64)),(8,.one (.v .i64))],[.arr Zb,.arr Zb]⟩)]
abbrev Nl:Option Pat:=none
variable (w333_14:Pat.D Ge->Option (Ad N9 Nl))
def Yi(p1146:eI)(f1146:eZ)(p1329:o7)(f1329:pV)(p144:IH)(f144:IL)(p146:U7)(f146:Vl)(p329:pF)(f329:qC)(p327:Om)(f327:Oq)(p186:Va)(f186:Vo)(p332:pG)(f332:qD)(p173:Bw)(f173:Bx)(p171:TR)(f171:TU){R:Type}(L:Pat.D Ge->Option R)(e:Ad N9 Nl->Option R)(x:Pat.D Ge):Option R:=let e3_:=(aa .i64 ((aa .i64 (x.1.2.1+x.1.2.2.2.2.1))+(1:Int)));let e1_:=(f332 ((x.2.1,(af x.1.2.1),((af e3_)-(af x.1.2.1))),x.1.1,()));let e2_:=e3_;bif(decide (x.1.2.1>=(0:Int)))then(bif(((decide ((0:Int)<=x.1.2.1))&&(decide (x.1.2.1<=e2_)))&&(decide (e2_<=(x.2.1.length:Int))))then(bif(p332 ((x.2.1,(af x.1.2.1),((af e2_)-(af x.1.2.1))),x.1.1,()))then(bif((decide ((0:Int)<=x.1.2.1))&&(decide (x.1.2.1<(x.2.2.1.length:Int))))then(((L ((x.1.1,(aa .i64 (x.1.2.1-(1:Int))),(),(),x.1.2.2.2.2),e1_.1,(x.2.2.1.set (af x.1.2.1) e1_.2.1),()))))else none)else none)else none)else(e (.inl (((),(),x.1.2.2.2.2),x.2)))
theorem bGm(d:Nat)(R:Type)(L:Pat.D Ge->Option R)(e:Ad N9 Nl->Option R)(x:Pat.D Ge):
  Br ({cf [(116,⟨Jm,JV,p1146,f1146⟩),(117,⟨LH,Ml,p1329,f1329⟩),(101,⟨F0,F8,p144,f144⟩),(116,⟨HI,HV,p146,f146⟩),(117,⟨LO,Mq,p329,f329⟩),(118,⟨GC,GR,p327,f327⟩),(97,⟨Jy,J5,p186,f186⟩),(93,⟨BT,BU,p173,f173⟩),(100,⟨HJ,HW,p171,f171⟩)] [(99,14,LoopSpec.of Ge k8 N9 Nl w333_14)]with cut:=true,lsums:=[(119,⟨Fu,LP,J9,p332,f332⟩)] }) (d+2) 99 (Bq Tryz.f99 14) Ge k8 N9 Nl (R:=R) L e x=Yi p1146 f1146 p1329 f1329 p144 f144 p146 f146 p329 f329 p327 f327 p186 f186 p332 f332 p173 f173 p171 f171 L e x:=by kernel_rfl
theorem aN2(p1146:eI)(f1146:eZ)(p1329:o7)(f1329:pV)(p144:IH)(f144:IL)(p146:U7)(f146:Vl)(p329:pF)(f329:qC)(p327:Om)(f327:Oq)(p186:Va)(f186:Vo)(p332:pG)(f332:qD)(p173:Bw)(f173:Bx)(p171:TR)(f171:TU):Bo fun L e x=>Yi p1146 f1146 p1329 f1329 p144 f144 p146 f146 p329 f329 p327 f327 p186 f186 p332 f332 p173 f173 p171 f171 L e x:=by intro _ _ _ _ _ _ _ h0 hL he _;unfold Yi;repeat' (first|exact h0|exact hL _|exact he _|apply BB|(apply BC h0;intro _)|(apply BD<;>intro _))
def vY(p1146:eI)(f1146:eZ)(p1329:o7)(f1329:pV)(p144:IH)(f144:IL)(p146:U7)(f146:Vl)(p329:pF)(f329:qC)(p327:Om)(f327:Oq)(p186:Va)(f186:Vo)(p332:pG)(f332:qD)(p173:Bw)(f173:Bx)(p171:TR)(f171:TU)(w333_14:Pat.D Ge->Option (Ad N9 Nl))(a0 a1:Ab Ze):Option (DenS RI):=
 let e17_:=(aa .i64 (((f173 (a1,())).1.length:Int)-(1:Int)))
 let e14_:=(f327 (((f173 (a1,())).1.getD (af e17_) (0:Int)),()))
 let e12_:=(f186 ((f173 (a0,())).1,e14_))
 let e18_:=(aa .i64 (((f173 (a0,())).1.length:Int)+(1:Int)))
 let e15_:=(aq (af e18_) (0:Int))
 let e13_:=(f186 ((f173 (a1,())).1,e14_))
 let e11_:=(aa .i64 ((((e12_.1.take e15_.length)++(e15_.drop e12_.1.length)).length:Int)-(e13_.1.length:Int)))
 let e1_:=(aq (af e11_) (0:Int))
 let e2_:=e11_
 let e3_:=e13_
 let e4_:=e12_
 let e5_:=e14_
 let e6_:=e15_
 let e16_:=((f1146 (f173 (a0,()))).1,((f173 (a1,())).1.getD (af (0:Int)) (0:Int)),())
 let e7_:=(((f1329 e16_).2.1::[]),())
 let e8_:=e16_
 let e9_:=e17_
 let e10_:=e18_
 bif(p173 (a0,()))then(bif(p173 (a1,()))then(bif(p144 ((f173 (a0,())).1,(f173 (a1,()))))then(bif(decide ((f144 ((f173 (a0,())).1,(f173 (a1,())))).1<(0:Int)))then(bif(p1146 (f173 (a0,())))then(some ([],(f1146 (f173 (a0,())))))
 else none)
 else bif(((f173 (a1,())).1.length:Int)==(1:Int))then(bif(p1146 (f173 (a0,())))then(bif(decide ((0:Int)<((f173 (a1,())).1.length:Int)))then(bif(p1329 e8_)then(bif(p173 e7_)then(some ((f1329 e8_).1,(f173 e7_)))
 else none)
 else none)
 else none)
 else none)
 else bif((decide ((0:Int)<=e9_))&&(decide (e9_<((f173 (a1,())).1.length:Int))))then(bif(p327 (((f173 (a1,())).1.getD (af e9_) (0:Int)),()))then(bif(p186 ((f173 (a1,())).1,e5_))then(bif((decide ((0:Int)<=e10_))&&(decide ((e10_*(8:Int))<=(140737488355328:Int))))then(bif(p186 ((f173 (a0,())).1,e5_))then(bif((decide ((0:Int)<=e2_))&&(decide ((e2_*(8:Int))<=(140737488355328:Int))))then(Vx.Ba (w333_14 ((e3_.1,(aa .i64 ((e1_.length:Int)-(1:Int))),(),(),(e3_.1.length:Int),e5_),((e4_.1.take e6_.length)++(e6_.drop e4_.1.length)),e1_,())) fun y11=>
 Vx.A9 y11 (fun y12=>
 bif(p173 y12.2.2)then(bif((decide ((0:Int)<=y12.1.2.2.1))&&(decide (y12.1.2.2.1<=(y12.2.1.length:Int))))then(bif(p171 (((y12.2.1.take (af y12.1.2.2.1)).drop (af (0:Int))),y12.1.2.2.2))then(some ((f173 y12.2.2).1,(f171 (((y12.2.1.take (af y12.1.2.2.1)).drop (af (0:Int))),y12.1.2.2.2))))
 else none)
 else none)
 else none) (fun z12=>
 none))
 else none)
 else none)
 else none)
 else none)
 else none)
 else none)
 else none)
 else none)
 else none
theorem bDg(x:DenS PP):run ({cf [(116,⟨Jm,JV,p1146,f1146⟩),(117,⟨LH,Ml,p1329,f1329⟩),(101,⟨F0,F8,p144,f144⟩),(116,⟨HI,HV,p146,f146⟩),(117,⟨LO,Mq,p329,f329⟩),(118,⟨GC,GR,p327,f327⟩),(97,⟨Jy,J5,p186,f186⟩),(93,⟨BT,BU,p173,f173⟩),(100,⟨HJ,HW,p171,f171⟩)] [(99,14,LoopSpec.of Ge k8 N9 Nl w333_14)]with cut:=true,lsums:=[(119,⟨Fu,LP,J9,p332,f332⟩)] }) 9 99 Tryz.f99 PP RI x=vY p1146 f1146 p1329 f1329 p144 f144 p146 f146 p329 f329 p327 f327 p186 f186 p332 f332 p173 f173 p171 f171 w333_14 x.1 x.2.1:=by kernel_rfl
def eD:Ge.D->Option (Ad N9 Nl):=Bf fun L=>Yi Dl.pre Dl.F EN.pre EN.F B1.pre B1.F CJ.pre CJ.F FL.pre FL.F B2.pre B2.F Dn.pre Dn.F EP.pre EP.F Aj.pre Aj.F CK.pre CK.F L some
def bS(x:DenS PP):Option (DenS RI):=vY Dl.pre Dl.F EN.pre EN.F B1.pre B1.F CJ.pre CJ.F FL.pre FL.F B2.pre B2.F Dn.pre Dn.F EP.pre EP.F Aj.pre Aj.F CK.pre CK.F eD x.1 x.2.1
def Tb:Sum:=Ah PP RI bS (DenS.dflt RI)
theorem aTj:Sound Tryz.prog G1 99 Tb:=sd ({cf [(116,Dl),(117,EN),(101,B1),(116,CJ),(117,FL),(118,B2),(97,Dn),(93,Aj),(100,CK)] [(99,14,LoopSpec.of Ge k8 N9 Nl eD)]with cut:=true,lsums:=[(119,EP)] }) 99 Tryz.f99 ⟨aEU,aSO,mC,yW,aTe,aFb,aE5,Eg,yX,trivial⟩ ⟨rfl,fun d=>BA (fun L e x=>Yi Dl.pre Dl.F EN.pre EN.F B1.pre B1.F CJ.pre CJ.F FL.pre FL.F B2.pre B2.F Dn.pre Dn.F EP.pre EP.F Aj.pre Aj.F CK.pre CK.F L e x) (aN2 Dl.pre Dl.F EN.pre EN.F B1.pre B1.F CJ.pre CJ.F FL.pre FL.F B2.pre B2.F Dn.pre Dn.F EP.pre EP.F Aj.pre Aj.F CK.pre CK.F) (fun _ _ _ _=>bGm ..),trivial⟩ PP RI bS _ (fun _=>bDg ..) (hls:=⟨aTi,trivial⟩)
abbrev aAA:=Af PP
abbrev aBh:=Ae PP RI
variable (p333:aAA)(f333:aBh)
abbrev LQ:Aa:=[(false,Ze),(false,Ze)]
abbrev Mr:Aa:=[(false,Ze),(false,Ze),(false,Za)]
def vZ(p185:U9)(f185:Vn)(p173:Bw)(f173:Bx)(p333:aAA)(f333:aBh)(a0 a1:Ab Ze):Option (DenS Mr):=bif(p185 ((a0::(a1::[])),()))then(bif(f185 ((a0::(a1::[])),())).1 then(some ([],[],(5:Int),()))else bif(p173 (a1,()))then(bif(((f173 (a1,())).1.length:Int)==(0:Int))then(some ([],[],(10:Int),()))else bif(p333 (a0,a1,()))then(some ((f333 (a0,a1,())).1,(f333 (a0,a1,())).2.1,(0:Int),()))else none)else none)else none
theorem bDh(x:DenS LQ):run (cf [(96,⟨Jx,J4,p185,f185⟩),(93,⟨BT,BU,p173,f173⟩),(99,⟨PP,RI,p333,f333⟩)] []) 9 247 Tryz.f247 LQ Mr x=vZ p185 f185 p173 f173 p333 f333 x.1 x.2.1:=by kernel_rfl
def bT(x:DenS LQ):Option (DenS Mr):=vZ EO.pre EO.F Aj.pre Aj.F Tb.pre Tb.F x.1 x.2.1
def EQ:Sum:=Ah LQ Mr bT (DenS.dflt Mr)
theorem aTk:Sound Tryz.prog G1 247 EQ:=sd (cf [(96,EO),(93,Aj),(99,Tb)] []) 247 Tryz.f247 ⟨yZ,Eg,aTj,trivial⟩ trivial LQ Mr bT _ (fun _=>bDh ..)
abbrev pH:=Af LQ
abbrev qE:=Ae LQ Mr
variable (p345:pH)(f345:qE)
abbrev Pi:Aa:=[(true,Ze),(false,Ze)]
abbrev Rb:Aa:=[(true,Ze)]
abbrev H3:Pat:=⟨37,[(9,.one (.v .i64)),(1,.one (.sl Zb)),(5,.one (.v .u64)),(10,.one (.v .i64)),(0,.one (.own 0))],[.arr Zb]⟩
abbrev kB:List (Nat×Shape):=[]
abbrev NJ:List (Nat×Pat):=[(0,⟨37,[(0,.one (.own 0))],[.arr Zb]⟩)]
abbrev MV:Option Pat:=none
variable (w1174_3:Pat.D H3->Option (Ad NJ MV))
def XU(p1173:TQ)(f1173:TT)(p157:Hb)(f157:Hf)(p173:Bw)(f173:Bx){R:Type}(L:Pat.D H3->Option R)(e:Ad NJ MV->Option R)(x:Pat.D H3):Option R:=let e8_:=(x.2.1.getD (af x.1.2.2.2.1) (0:Int));let e7_:=((x.1.2.1.getD (af x.1.2.2.2.1) (0:Int)),x.1.2.2.1,());let e1_:=(f157 (e8_,e7_));let e2_:=((decide ((0:Int)<=x.1.2.2.2.1))&&(decide (x.1.2.2.2.1<(x.2.1.length:Int))));let e3_:=(f157 (e8_,(0:Int),x.1.2.2.1,()));let e4_:=((aa .i64 (x.1.2.2.2.1+(1:Int))),(),());let e5_:=(decide (x.1.2.2.2.1<(x.1.2.1.length:Int)));let e6_:=e8_;bif(decide (x.1.2.2.2.1<x.1.1))then(bif e5_ then(bif((decide ((0:Int)<=x.1.2.2.2.1))&&e5_)then(bif e2_ then(bif(p157 (e6_,e7_))then(bif e2_ then(((L ((x.1.1,x.1.2.1,e1_.2.1,e4_),(x.2.1.set (af x.1.2.2.2.1) e1_.1),()))))else none)else none)else none)else none)else bif e2_ then(bif(p157 (e6_,(0:Int),x.1.2.2.1,()))then(bif e2_ then(((L ((x.1.1,x.1.2.1,e3_.2.1,e4_),(x.2.1.set (af x.1.2.2.2.1) e3_.1),()))))else none)else none)else none)else(e (.inl (((),()),x.2)))
theorem bFR(d:Nat)(R:Type)(L:Pat.D H3->Option R)(e:Ad NJ MV->Option R)(x:Pat.D H3):
  Br ({cf [(93,⟨HA,HO,p1173,f1173⟩),(148,⟨LL,Rk,p157,f157⟩),(93,⟨BT,BU,p173,f173⟩)] [(254,3,LoopSpec.of H3 kB NJ MV w1174_3)]with keep:=true}) (d+2) 254 (Bq Tryz.f254 3) H3 kB NJ MV (R:=R) L e x=XU p1173 f1173 p157 f157 p173 f173 L e x:=by kernel_rfl
theorem aNE(p1173:TQ)(f1173:TT)(p157:Hb)(f157:Hf)(p173:Bw)(f173:Bx):Bo fun L e x=>XU p1173 f1173 p157 f157 p173 f173 L e x:=by intro _ _ _ _ _ _ _ h0 hL he _;unfold XU;repeat' (first|exact h0|exact hL _|exact he _|apply BB|(apply BC h0;intro _)|(apply BD<;>intro _))
def t9(p1173:TQ)(f1173:TT)(p157:Hb)(f157:Hf)(p173:Bw)(f173:Bx)(w1174_3:Pat.D H3->Option (Ad NJ MV))(a0 a1:Ab Ze):Option (DenS Rb):=
 Vx.Ba (w1174_3 (((a0.length:Int),a1,(0:Int),(0:Int),(),()),a0,())) fun y0=>
 Vx.A9 y0 (fun y1=>
 bif(p1173 y1.2)then(some (f1173 y1.2))
 else none) (fun z1=>
 none)
theorem bB6(x:DenS Pi):run ({cf [(93,⟨HA,HO,p1173,f1173⟩),(148,⟨LL,Rk,p157,f157⟩),(93,⟨BT,BU,p173,f173⟩)] [(254,3,LoopSpec.of H3 kB NJ MV w1174_3)]with keep:=true}) 9 254 Tryz.f254 Pi Rb x=t9 p1173 f1173 p157 f157 p173 f173 w1174_3 x.1 x.2.1:=by kernel_rfl
def dZ:H3.D->Option (Ad NJ MV):=Bf fun L=>XU Cc.pre Cc.F By.pre By.F Aj.pre Aj.F L some
def aI(x:DenS Pi):Option (DenS Rb):=t9 Cc.pre Cc.F By.pre By.F Aj.pre Aj.F dZ x.1 x.2.1
def SY:Sum:=Ah Pi Rb aI (DenS.dflt Rb)
theorem aSI:Sound Tryz.prog G1 254 SY:=sd ({cf [(93,Cc),(148,By),(93,Aj)] [(254,3,LoopSpec.of H3 kB NJ MV dZ)]with keep:=true}) 254 Tryz.f254 ⟨aEV,mE,Eg,trivial⟩ ⟨rfl,fun d=>BA (fun L e x=>XU Cc.pre Cc.F By.pre By.F Aj.pre Aj.F L e x) (aNE Cc.pre Cc.F By.pre By.F Aj.pre Aj.F) (fun _ _ _ _=>bFR ..),trivial⟩ Pi Rb aI _ (fun _=>bB6 ..)
abbrev aH1:=Af Pi
abbrev aJF:=Ae Pi Rb
variable (p1174:aH1)(f1174:aJF)
abbrev Pv:Aa:=[(false,Ze),(false,Ze)]
abbrev Rp:Aa:=[(false,Ze)]
abbrev Ii:Pat:=⟨37,[(9,.one (.v .i64)),(1,.one (.sl Zb)),(5,.one (.v .u64)),(10,.one (.v .i64)),(0,.one (.sl Zb))],[]⟩
abbrev kQ:List (Nat×Shape):=[]
abbrev NY:List (Nat×Pat):=[(0,⟨37,[(0,.one (.sl Zb))],[]⟩)]
abbrev Na:Option Pat:=none
variable (w174_3:Pat.D Ii->Option (Ad NY Na))
def iH(p157:Hb)(f157:Hf)(p173:Bw)(f173:Bx){R:Type}(L:Pat.D Ii->Option R)(e:Ad NY Na->Option R)(x:Pat.D Ii):Option R:=let e1_:=((decide ((0:Int)<=x.1.2.2.2.1))&&(decide (x.1.2.2.2.1<(x.1.2.2.2.2.1.length:Int))));let e2_:=(x.1.2.2.2.2.1.getD (af x.1.2.2.2.1) (0:Int));let e3_:=(decide (x.1.2.2.2.1<(x.1.2.1.length:Int)));bif(decide (x.1.2.2.2.1<x.1.1))then(bif e3_ then(bif((decide ((0:Int)<=x.1.2.2.2.1))&&e3_)then(bif e1_ then(bif(p157 (e2_,(x.1.2.1.getD (af x.1.2.2.2.1) (0:Int)),x.1.2.2.1,()))then(bif e1_ then((none))else none)else none)else none)else none)else bif e1_ then(bif(p157 (e2_,(0:Int),x.1.2.2.1,()))then(bif e1_ then((none))else none)else none)else none)else(e (.inl (x.1.2.2.2.2,())))
theorem bF6(d:Nat)(R:Type)(L:Pat.D Ii->Option R)(e:Ad NY Na->Option R)(x:Pat.D Ii):
  Br (cf [(148,⟨LL,Rk,p157,f157⟩),(93,⟨BT,BU,p173,f173⟩)] [(254,3,LoopSpec.of Ii kQ NY Na w174_3)]) (d+2) 254 (Bq Tryz.f254 3) Ii kQ NY Na (R:=R) L e x=iH p157 f157 p173 f173 L e x:=by kernel_rfl
theorem aZF(p157:Hb)(f157:Hf)(p173:Bw)(f173:Bx):Bo fun L e x=>iH p157 f157 p173 f173 L e x:=by intro _ _ _ _ _ _ _ h0 hL he _;unfold iH;repeat' (first|exact h0|exact hL _|exact he _|apply BB|(apply BC h0;intro _)|(apply BD<;>intro _))
def aP5(p157:Hb)(f157:Hf)(p173:Bw)(f173:Bx)(w174_3:Pat.D Ii->Option (Ad NY Na))(a0 a1:Ab Ze):Option (DenS Rp):=
 Vx.Ba (w174_3 (((a0.length:Int),a1,(0:Int),(0:Int),a0,()),())) fun y0=>
 Vx.A9 y0 (fun y1=>
 bif(p173 y1.1)then(some (f173 y1.1))
 else none) (fun z1=>
 none)
theorem bCJ(x:DenS Pv):run (cf [(148,⟨LL,Rk,p157,f157⟩),(93,⟨BT,BU,p173,f173⟩)] [(254,3,LoopSpec.of Ii kQ NY Na w174_3)]) 9 254 Tryz.f254 Pv Rp x=aP5 p157 f157 p173 f173 w174_3 x.1 x.2.1:=by kernel_rfl
def aHE:Ii.D->Option (Ad NY Na):=Bf fun L=>iH By.pre By.F Aj.pre Aj.F L some
def aF7(x:DenS Pv):Option (DenS Rp):=aP5 By.pre By.F Aj.pre Aj.F aHE x.1 x.2.1
def Wz:Sum:=Ah Pv Rp aF7 (DenS.dflt Rp)
theorem aS0:Sound Tryz.prog G1 254 Wz:=sd (cf [(148,By),(93,Aj)] [(254,3,LoopSpec.of Ii kQ NY Na aHE)]) 254 Tryz.f254 ⟨mE,Eg,trivial⟩ ⟨rfl,fun d=>BA (fun L e x=>iH By.pre By.F Aj.pre Aj.F L e x) (aZF By.pre By.F Aj.pre Aj.F) (fun _ _ _ _=>bF6 ..),trivial⟩ Pv Rp aF7 _ (fun _=>bCJ ..)
abbrev aIe:=Af Pv
abbrev aJS:=Ae Pv Rp
variable (p174:aIe)(f174:aJS)
abbrev Jt:Aa:=[(false,Ze),(false,Ze)]
abbrev J0:Aa:=[(false,Ze),(false,Za)]
def uQ(p1174:aH1)(f1174:aJF)(p1146:eI)(f1146:eZ)(p144:IH)(f144:IL)(p146:U7)(f146:Vl)(p173:Bw)(f173:Bx)(p174:aIe)(f174:aJS)(a0 a1:Ab Ze):Option (DenS J0):=bif(p144 (a0,a1,()))then(bif(decide ((f144 (a0,a1,())).1<(0:Int)))then(some ([],(20:Int),()))else bif(p1146 (a0,()))then(bif(p173 (a1,()))then(bif(p1174 ((f1146 (a0,())).1,(f173 (a1,()))))then(some ((f1174 ((f1146 (a0,())).1,(f173 (a1,())))).1,(0:Int),()))else none)else none)else none)else none
theorem bCr(x:DenS Jt):run (cf [(254,⟨Pi,Rb,p1174,f1174⟩),(116,⟨Jm,JV,p1146,f1146⟩),(101,⟨F0,F8,p144,f144⟩),(116,⟨HI,HV,p146,f146⟩),(93,⟨BT,BU,p173,f173⟩),(254,⟨Pv,Rp,p174,f174⟩)] []) 9 248 Tryz.f248 Jt J0 x=uQ p1174 f1174 p1146 f1146 p144 f144 p146 f146 p173 f173 p174 f174 x.1 x.2.1:=by kernel_rfl
def aU(x:DenS Jt):Option (DenS J0):=uQ SY.pre SY.F Dl.pre Dl.F B1.pre B1.F CJ.pre CJ.F Aj.pre Aj.F Wz.pre Wz.F x.1 x.2.1
def DT:Sum:=Ah Jt J0 aU (DenS.dflt J0)
theorem aE0:Sound Tryz.prog G1 248 DT:=sd (cf [(254,SY),(116,Dl),(101,B1),(116,CJ),(93,Aj),(254,Wz)] []) 248 Tryz.f248 ⟨aSI,aEU,mC,yW,Eg,aS0,trivial⟩ trivial Jt J0 aU _ (fun _=>bCr ..)
abbrev W6:=Af Jt
abbrev Xk:=Ae Jt J0
variable (p145:W6)(f145:Xk)
abbrev P0:Aa:=[(false,Ze),(false,Ze),(false,Za)]
abbrev RS:Aa:=[(true,Zu)]
abbrev It:Pat:=⟨81,[(2,.one (.v .i64)),(1,.one (.sl Zb)),(11,.one (.sl Zb)),(13,.one (.ptr 1 0)),(6,.one (.ptr 0 0))],[.raw [.bool,.sl Zb,.v .i64,.bool],.raw [.bool,.sl Zb,.v .i64,.bool]]⟩
abbrev lA:List (Nat×Shape):=[]
abbrev Ob:List (Nat×Pat):=[(0,⟨81,[(11,.one (.sl Zb)),(13,.one (.ptr 1 0)),(6,.one (.ptr 0 0))],[.raw [.bool,.sl Zb,.v .i64,.bool],.raw [.bool,.sl Zb,.v .i64,.bool]]⟩)]
abbrev Nn:Option Pat:=none
variable (w379_5:Pat.D It->Option (Ad Ob Nn))
def Yk(p176:U8)(f176:Vm)(p345:pH)(f345:qE)(p151:KX)(f151:K0)(p144:IH)(f144:IL)(p145:W6)(f145:Xk)(p143:Ol)(f143:Oo){R:Type}(L:Pat.D It->Option R)(e:Ad Ob Nn->Option R)(x:Pat.D It):Option R:=let e1_:=((aa .i64 (x.2.2.1.2.2.1-(1:Int))),x.2.2.1.2.2.2);let e2_:=((f143 (x.2.2.1.2.1,x.2.2.1.2.1,())).1,((1:Int)::[]),());let e3_:=((f143 (x.1.2.2.1,x.1.2.2.1,())).1,x.1.2.1,());bif(p151 (x.2.2.1.2.1,()))then(bif((decide ((f151 (x.2.2.1.2.1,())).1<x.1.1))&&(decide ((x.1.2.2.1.length:Int)>(0:Int))))then(bif(p143 (x.2.2.1.2.1,x.2.2.1.2.1,()))then(bif(p143 (x.1.2.2.1,x.1.2.2.1,()))then(bif(p144 e3_)then(bif(decide ((f144 e3_).1>=(0:Int)))then(bif(p145 e3_)then(bif(p143 e2_)then(((L ((x.1.1,x.1.2.1,(f145 e3_).1,(),(),()),x.2.1,(x.2.2.1.1,(f143 e2_).1,e1_),()))))else none)else none)else(L ((x.1.1,x.1.2.1,(f143 (x.1.2.2.1,x.1.2.2.1,())).1,(),(),()),x.2.1,(x.2.2.1.1,(f143 (x.2.2.1.2.1,x.2.2.1.2.1,())).1,e1_),())))else none)else none)else none)else(e (.inl ((x.1.2.2.1,(),(),()),x.2))))else none
theorem bGo(d:Nat)(R:Type)(L:Pat.D It->Option R)(e:Ad Ob Nn->Option R)(x:Pat.D It):
  Br (cf [(67,⟨Jv,J2,p176,f176⟩),(247,⟨LQ,Mr,p345,f345⟩),(98,⟨F2,F9,p151,f151⟩),(101,⟨F0,F8,p144,f144⟩),(248,⟨Jt,J0,p145,f145⟩),(65,⟨HH,GQ,p143,f143⟩)] [(238,5,LoopSpec.of It lA Ob Nn w379_5)]) (d+2) 238 (Bq Tryz.f238 5) It lA Ob Nn (R:=R) L e x=Yk p176 f176 p345 f345 p151 f151 p144 f144 p145 f145 p143 f143 L e x:=by kernel_rfl
theorem aN4(p176:U8)(f176:Vm)(p345:pH)(f345:qE)(p151:KX)(f151:K0)(p144:IH)(f144:IL)(p145:W6)(f145:Xk)(p143:Ol)(f143:Oo):Bo fun L e x=>Yk p176 f176 p345 f345 p151 f151 p144 f144 p145 f145 p143 f143 L e x:=by intro _ _ _ _ _ _ _ h0 hL he _;unfold Yk;repeat' (first|exact h0|exact hL _|exact he _|apply BB|(apply BC h0;intro _)|(apply BD<;>intro _))
def v7(p176:U8)(f176:Vm)(p345:pH)(f345:qE)(p151:KX)(f151:K0)(p144:IH)(f144:IL)(p145:W6)(f145:Xk)(p143:Ol)(f143:Oo)(w379_5:Pat.D It->Option (Ad Ob Nn))(a0 a1:Ab Ze)(a2:Ab Za):Option (DenS RS):=
 let e5_:=(aa .i64 ((aa .i64 ((f151 (a1,())).1-(f151 (a0,())).1))-(1:Int)))
 let e4_:=(a0,(if(e5_>(0:Int))then e5_ else(0:Int)),())
 let e1_:=(f345 ((f176 e4_).1,a1,()))
 let e2_:=e4_
 let e3_:=e5_
 bif(p151 (a1,()))then(bif(p151 (a0,()))then(bif(p176 e2_)then(bif(p345 ((f176 e2_).1,a1,()))then(Vx.Ba (w379_5 ((a2,a1,e1_.2.1,(),(),()),(false,[],(0:Int),false,()),(false,e1_.1,(aa .i64 ((0:Int)-(if(e3_>(0:Int))then e3_ else(0:Int)))),false,()),())) fun y4=>
 Vx.A9 y4 (fun y5=>
 some ((y5.2.2.1.1,y5.2.2.1.2.1,y5.2.2.1.2.2.1,(decide ((y5.1.1.length:Int)>(0:Int))),()),())) (fun z5=>
 none))
 else none)
 else none)
 else none)
 else none
theorem bDs(x:DenS P0):run (cf [(67,⟨Jv,J2,p176,f176⟩),(247,⟨LQ,Mr,p345,f345⟩),(98,⟨F2,F9,p151,f151⟩),(101,⟨F0,F8,p144,f144⟩),(248,⟨Jt,J0,p145,f145⟩),(65,⟨HH,GQ,p143,f143⟩)] [(238,5,LoopSpec.of It lA Ob Nn w379_5)]) 9 238 Tryz.f238 P0 RS x=v7 p176 f176 p345 f345 p151 f151 p144 f144 p145 f145 p143 f143 w379_5 x.1 x.2.1 x.2.2.1:=by kernel_rfl
def oS:It.D->Option (Ad Ob Nn):=Bf fun L=>Yk DU.pre DU.F EQ.pre EQ.F Cf.pre Cf.F B1.pre B1.F DT.pre DT.F Db.pre Db.F L some
def cC(x:DenS P0):Option (DenS RS):=v7 DU.pre DU.F EQ.pre EQ.F Cf.pre Cf.F B1.pre B1.F DT.pre DT.F Db.pre Db.F oS x.1 x.2.1 x.2.2.1
def Tj:Sum:=Ah P0 RS cC (DenS.dflt RS)
theorem aTt:Sound Tryz.prog G1 238 Tj:=sd (cf [(67,DU),(247,EQ),(98,Cf),(101,B1),(248,DT),(65,Db)] [(238,5,LoopSpec.of It lA Ob Nn oS)]) 238 Tryz.f238 ⟨aE4,aTk,ZS,mC,aE0,yV,trivial⟩ ⟨rfl,fun d=>BA (fun L e x=>Yk DU.pre DU.F EQ.pre EQ.F Cf.pre Cf.F B1.pre B1.F DT.pre DT.F Db.pre Db.F L e x) (aN4 DU.pre DU.F EQ.pre EQ.F Cf.pre Cf.F B1.pre B1.F DT.pre DT.F Db.pre Db.F) (fun _ _ _ _=>bGo ..),trivial⟩ P0 RS cC _ (fun _=>bDs ..)
abbrev aIy:=Af P0
abbrev aKc:=Ae P0 RS
variable (p379:aIy)(f379:aKc)
abbrev P3:Aa:=[(false,Za),(false,Za),(false,.bool),(false,Ze),(false,Ze),(false,Za)]
abbrev RT:Aa:=[(false,Zb),(false,Za),(false,Za)]
def v8(p105:W2)(f105:Xg)(p102:G9)(f102:Hd)(p156:o8)(f156:pW)(p379:aIy)(f379:aKc)(p107:W3)(f107:Xh)(a0 a1:Ab Za)(a2:Ab (.bool))(a3 a4:Ab Ze)(a5:Ab Za):Option (DenS RT):=let e4_:=((f102 (a3,())).1,(f102 (a4,())).1,(aa .i64 ((f105 (a0,a1,())).1.2.1+(3:Int))),());let e3_:=(f379 e4_);let e1_:=(f107 ((a2,e3_.1.2.1,(aa .i64 (e3_.1.2.2.1+a5)),e3_.1.2.2.2),a0,(f105 (a0,a1,())).1,a1,()));let e2_:=e3_;bif(p105 (a0,a1,()))then(bif((f105 (a0,a1,())).2.1 !=(0:Int))then(some ((0:Int),(0:Int),(f105 (a0,a1,())).2))else bif(p102 (a3,()))then(bif(p102 (a4,()))then(bif(decide ((aa .i64 (((f102 (a3,())).1.length:Int)+((f102 (a4,())).1.length:Int)))>(1024:Int)))then(some ((0:Int),(0:Int),(5:Int),()))else bif((decide (a5<(-(40000:Int))))||(decide (a5>(40000:Int))))then(some ((0:Int),(0:Int),(30:Int),()))else bif(((f102 (a4,())).1.length:Int)==(0:Int))then(some ((0:Int),(0:Int),(10:Int),()))else bif(((f102 (a3,())).1.length:Int)==(0:Int))then(bif(p156 (a0,a2,()))then(some (f156 (a0,a2,())))else none)else bif(p379 e4_)then(bif(p107 ((a2,e2_.1.2.1,(aa .i64 (e2_.1.2.2.1+a5)),e2_.1.2.2.2),a0,(f105 (a0,a1,())).1,a1,()))then(some (e1_.1,e1_.2.1,(0:Int),()))else none)else none)else none)else none)else none
theorem bDu(x:DenS P3):run (cf [(121,⟨Jk,JT,p105,f105⟩),(122,⟨Fq,Fy,p102,f102⟩),(123,⟨LJ,Mn,p156,f156⟩),(238,⟨P0,RS,p379,f379⟩),(124,⟨Jl,JU,p107,f107⟩)] []) 9 204 Tryz.f204 P3 RT x=v8 p105 f105 p102 f102 p156 f156 p379 f379 p107 f107 x.1 x.2.1 x.2.2.1 x.2.2.2.1 x.2.2.2.2.1 x.2.2.2.2.2.1:=by kernel_rfl
def cD(x:DenS P3):Option (DenS RT):=v8 FH.pre FH.F Ce.pre Ce.F ID.pre ID.F Tj.pre Tj.F FI.pre FI.F x.1 x.2.1 x.2.2.1 x.2.2.2.1 x.2.2.2.2.1 x.2.2.2.2.2.1
def Tk:Sum:=Ah P3 RT cD (DenS.dflt RT)
theorem aTu:Sound Tryz.prog G1 204 Tk:=sd (cf [(121,FH),(122,Ce),(123,ID),(238,Tj),(124,FI)] []) 204 Tryz.f204 ⟨yM,ZR,aE2,aTt,yN,trivial⟩ trivial P3 RT cD _ (fun _=>bDu ..)
abbrev aIA:=Af P3
abbrev aKe:=Ae P3 RT
variable (p380:aIA)(f380:aKe)
abbrev P4:Aa:=[(false,Za),(false,Za),(false,Zb),(false,Zb)]
abbrev Mu:Aa:=[(false,Zb),(false,Za),(false,Za)]
def v9(p376:aIv)(f376:aJ9)(p377:aIw)(f377:aKa)(p378:aIx)(f378:aKb)(p97:On)(f97:Ot)(p118:IG)(f118:IK)(p40:TS)(f40:TW)(p380:aIA)(f380:aKe)(a0 a1:Ab Za)(a2 a3:Ab Zb):Option (DenS Mu):=let e6_:=(!((f377 (a0,a2,())).1.2.2.2.2.1==(f377 (a0,a3,())).1.2.2.2.2.1));let e1_:=(a0,a1,e6_,(f40 (a0,a2,())).1.2.1,(f40 (a0,a3,())).1.2.1,(aa .i64 ((f40 (a0,a2,())).1.2.2.1-(f40 (a0,a3,())).1.2.2.1)),());let e5_:=(a0,e6_,());let e2_:=(f118 e5_);let e3_:=(f97 e5_);let e4_:=(p97 e5_);let g1_:Option (DenS Mu):=bif(p378 (a0,(1:Int),()))then(some (f378 (a0,(1:Int),())))else none;bif(p376 (a0,a1,(a2::(a3::[])),()))then(bif((f376 (a0,a1,(a2::(a3::[])),())).1 !=(0:Int))then(some ((0:Int),(0:Int),(f376 (a0,a1,(a2::(a3::[])),()))))else bif(p377 (a0,a2,()))then(bif(p377 (a0,a3,()))then(bif((f377 (a0,a2,())).1.2.1||(f377 (a0,a3,())).1.2.1)then(g1_)else bif((f377 (a0,a2,())).1.1||(f377 (a0,a3,())).1.1)then(bif(p378 (a0,(0:Int),()))then(some (f378 (a0,(0:Int),())))else none)else bif(((f377 (a0,a2,())).1.2.2.1&&(f377 (a0,a3,())).1.2.2.1)||((f377 (a0,a2,())).1.2.2.2.1&&(f377 (a0,a3,())).1.2.2.2.1))then(g1_)else bif(f377 (a0,a2,())).1.2.2.1 then(bif e4_ then(some (e3_.1,(0:Int),e3_.2))else none)else bif(f377 (a0,a3,())).1.2.2.2.1 then(bif e4_ then(some (e3_.1,(2:Int),e3_.2))else none)else bif((f377 (a0,a3,())).1.2.2.1||(f377 (a0,a2,())).1.2.2.2.1)then(bif(p118 e5_)then(some (e2_.1,(0:Int),e2_.2))else none)else bif(p40 (a0,a2,()))then(bif(p40 (a0,a3,()))then(bif(p380 e1_)then(some (f380 e1_))else none)else none)else none)else none)else none)else none
theorem bDv(x:DenS P4):run (cf [(200,⟨PX,RP,p376,f376⟩),(201,⟨PY,RQ,p377,f377⟩),(202,⟨PZ,RR,p378,f378⟩),(62,⟨GH,GW,p97,f97⟩),(64,⟨Fa,Fz,p118,f118⟩),(203,⟨GD,GS,p40,f40⟩),(204,⟨P3,RT,p380,f380⟩)] []) 9 161 Tryz.f161 P4 Mu x=v9 p376 f376 p377 f377 p378 f378 p97 f97 p118 f118 p40 f40 p380 f380 x.1 x.2.1 x.2.2.1 x.2.2.2.1:=by kernel_rfl
def cE(x:DenS P4):Option (DenS Mu):=v9 Tg.pre Tg.F Th.pre Th.F Ti.pre Ti.F CM.pre CM.F B0.pre B0.F DB.pre DB.F Tk.pre Tk.F x.1 x.2.1 x.2.2.1 x.2.2.2.1
def Nz:Sum:=Ah P4 Mu cE (DenS.dflt Mu)
theorem aFe:Sound Tryz.prog G1 161 Nz:=sd (cf [(200,Tg),(201,Th),(202,Ti),(62,CM),(64,B0),(203,DB),(204,Tk)] []) 161 Tryz.f161 ⟨aTq,aTr,aTs,aC,Wt,Z1,aTu,trivial⟩ trivial P4 Mu cE _ (fun _=>bDv ..)
abbrev aAD:=Af P4
abbrev aBk:=Ae P4 Mu
variable (p381:aAD)(f381:aBk)
abbrev lN:Aa:=[(false,Za),(false,Za),(false,Zb),(false,Zb)]
abbrev yG:Aa:=[(false,Zb),(false,Za),(false,Za)]
def SW:SumF:=K8 lN yG [(158,[],FK),(159,[],Nx),(160,[],Ny),(161,[],Nz)]
theorem aSB:LC Tryz.prog G1 SW:=XC ⟨DI zA,⟨DI aE8,⟨DI aFc,⟨DI aFe,trivial⟩⟩⟩⟩
abbrev aHT:=Option (Nat×List Nat)->Af lN
abbrev aJx:=Option (Nat×List Nat)->Ae lN yG
variable (p100002:aHT)(f100002:aJx)
abbrev P8:Aa:=[(true,Zz),(false,Zc)]
abbrev Mv:Aa:=[(false,Zb),(false,Za),(false,Za)]
def wC(p100002:aHT)(f100002:aJx)(a0:Ab Zz)(a1:Ab Zc):Option (DenS Mv):=let e1_:=(a0.2.1,a0.1,a0.2.2.1,a0.2.2.2.1,());bif(p100002 (some (a1,[])) e1_)then(some (f100002 (some (a1,[])) e1_))else none
theorem bDz(x:DenS P8):run ({cf [] []with fns:=[(57,⟨lN,yG,p100002,f100002⟩)] }) 9 192 Tryz.f192 P8 Mv x=wC p100002 f100002 x.1 x.2.1:=by kernel_rfl
def cF(x:DenS P8):Option (DenS Mv):=wC SW.pre SW.F x.1 x.2.1
def Dc:Sum:=Ah P8 Mv cF (DenS.dflt Mv)
theorem ZW:Sound Tryz.prog G1 192 Dc:=sd ({cf [] []with fns:=[(57,SW)] }) 192 Tryz.f192 trivial trivial P8 Mv cF _ (fun _=>bDz ..) (hfs:=⟨aSB,trivial⟩)
abbrev aAE:=Af P8
abbrev aBl:=Ae P8 Mv
variable (p395:aAE)(f395:aBl)
abbrev PG:Aa:=[(false,Za),(false,Za),(false,Ze)]
abbrev Ry:Aa:=[(true,Zw),(false,Za)]
abbrev In:Pat:=⟨44,[(30,.one (.v .i64)),(29,.one (.sl Zb)),(0,.one (.v .i64)),(31,.one (.v .i64)),(8,.one (.ptr 1 0)),(6,.one (.ptr 0 0))],[.raw [.v .i64,.v .i64,.v .i64,.v .i64],.raw [.v .i64,.v .i64,.v .i64,.v .i64]]⟩
abbrev kV:List (Nat×Shape):=[]
abbrev N4:List (Nat×Pat):=[(0,⟨44,[(8,.one (.ptr 1 0)),(6,.one (.ptr 0 0))],[.raw [.v .i64,.v .i64,.v .i64,.v .i64],.raw [.v .i64,.v .i64,.v .i64,.v .i64]]⟩)]
abbrev Ng:Option Pat:=(some ⟨44,[(6,.one (.ptr 0 0)),(7,.one (.v .i64))],[.raw [.v .i64,.v .i64,.v .i64,.v .i64]]⟩)
variable (w311_7:Pat.D In->Option (Ad N4 Ng))
def iI(p69:BV)(f69:BW)(p66:B9)(f66:Ca){R:Type}(L:Pat.D In->Option R)(e:Ad N4 Ng->Option R)(x:Pat.D In):Option R:=let e2_:=(x.1.2.2.1,(x.1.2.1.getD (af x.1.2.2.2.1) (0:Int)),());let e1_:=(f66 e2_);bif(decide (x.1.2.2.2.1<x.1.1))then(bif((decide ((0:Int)<=x.1.2.2.2.1))&&(decide (x.1.2.2.2.1<(x.1.2.1.length:Int))))then(bif(p66 e2_)then(bif(e1_.1 !=(0:Int))then(((e (.inr (((),e1_),x.2.2)))))else(L ((x.1.1,x.1.2.1,x.1.2.2.1,(aa .i64 (x.1.2.2.2.1+(1:Int))),(),(),()),x.2)))else none)else none)else(e (.inl (((),(),()),x.2)))
theorem bGb(d:Nat)(R:Type)(L:Pat.D In->Option R)(e:Ad N4 Ng->Option R)(x:Pat.D In):
  Br (cf [(71,⟨B7,B8,p69,f69⟩),(85,⟨Cq,Cr,p66,f66⟩)] [(58,7,LoopSpec.of In kV N4 Ng w311_7)]) (d+2) 58 (Bq Tryz.f58 7) In kV N4 Ng (R:=R) L e x=iI p69 f69 p66 f66 L e x:=by kernel_rfl
theorem aZG(p69:BV)(f69:BW)(p66:B9)(f66:Ca):Bo fun L e x=>iI p69 f69 p66 f66 L e x:=by intro _ _ _ _ _ _ _ h0 hL he _;unfold iI;repeat' (first|exact h0|exact hL _|exact he _|apply BB|(apply BC h0;intro _)|(apply BD<;>intro _))
def aP9(p69:BV)(f69:BW)(p66:B9)(f66:Ca)(w311_7:Pat.D In->Option (Ad N4 Ng))(a0 a1:Ab Za)(a2:Ab Ze):Option (DenS Ry):=
 bif(p69 (a0,()))then(bif((f69 (a0,())).2.1 !=(0:Int))then(some (f69 (a0,())))
 else bif((decide (a1<(0:Int)))||(decide (a1>(5:Int))))then(some ((f69 (a0,())).1,(3:Int),()))
 else Vx.Ba (w311_7 (((a2.length:Int),a2,a0,(0:Int),(),(),()),((0:Int),(0:Int),(0:Int),(0:Int),()),(f69 (a0,())).1,())) fun y3=>
 Vx.A9 y3 (fun y4=>
 some (y4.2.2.1,(0:Int),())) (fun z4=>
 some (z4.2.1,z4.1.2)))
 else none
theorem bCZ(x:DenS PG):run (cf [(71,⟨B7,B8,p69,f69⟩),(85,⟨Cq,Cr,p66,f66⟩)] [(58,7,LoopSpec.of In kV N4 Ng w311_7)]) 9 58 Tryz.f58 PG Ry x=aP9 p69 f69 p66 f66 w311_7 x.1 x.2.1 x.2.2.1:=by kernel_rfl
def aHF:In.D->Option (Ad N4 Ng):=Bf fun L=>iI Aq.pre Aq.F Au.pre Au.F L some
def aGe(x:DenS PG):Option (DenS Ry):=aP9 Aq.pre Aq.F Au.pre Au.F aHF x.1 x.2.1 x.2.2.1
def mH:Sum:=Ah PG Ry aGe (DenS.dflt Ry)
theorem aS6:Sound Tryz.prog G1 58 mH:=sd (cf [(71,Aq),(85,Au)] [(58,7,LoopSpec.of In kV N4 Ng aHF)]) 58 Tryz.f58 ⟨DC,FM,trivial⟩ ⟨rfl,fun d=>BA (fun L e x=>iI Aq.pre Aq.F Au.pre Au.F L e x) (aZG Aq.pre Aq.F Au.pre Au.F) (fun _ _ _ _=>bGb ..),trivial⟩ PG Ry aGe _ (fun _=>bCZ ..)
abbrev pD:=Af PG
abbrev qA:=Ae PG Ry
variable (p311:pD)(f311:qA)
abbrev PH:Aa:=[(false,Za),(false,Za)]
abbrev Rz:Aa:=[(false,Zb),(false,Za),(false,.bool)]
def aQa(p70:DE)(f70:DF)(a0 a1:Ab Za):Option (DenS Rz):=bif(p70 (a0,()))then(bif(a1==(1:Int))then(some ((f70 (a0,())).1,(0:Int),true,()))else bif(a1==(0:Int))then(bif(a1==(0:Int))then(some ((f70 (a0,())).1,(1:Int),true,()))else some ((0:Int),(0:Int),false,()))else bif(a1==(2:Int))then(bif(a1==(2:Int))then(some ((f70 (a0,())).1,(1:Int),true,()))else some ((0:Int),(0:Int),false,()))else bif(a1==(3:Int))then(bif(a1==(3:Int))then(some ((f70 (a0,())).1,(1:Int),true,()))else some ((0:Int),(0:Int),false,()))else bif(a1==(4:Int))then(some ((f70 (a0,())).1,(1:Int),true,()))else some ((0:Int),(0:Int),false,()))else none
theorem bC0(x:DenS PH):run (cf [(61,⟨Dz,DA,p70,f70⟩)] []) 9 205 Tryz.f205 PH Rz x=aQa p70 f70 x.1 x.2.1:=by kernel_rfl
def aGf(x:DenS PH):Option (DenS Rz):=aQa Bs.pre Bs.F x.1 x.2.1
def mI:Sum:=Ah PH Rz aGf (DenS.dflt Rz)
theorem aS7:Sound Tryz.prog G1 205 mI:=sd (cf [(61,Bs)] []) 205 Tryz.f205 ⟨G6,trivial⟩ trivial PH Rz aGf _ (fun _=>bC0 ..)
abbrev aAv:=Af PH
abbrev aBc:=Ae PH Rz
variable (p312:aAv)(f312:aBc)
abbrev PI:Aa:=[(false,Za),(true,Zw),(false,Zb)]
abbrev RA:Aa:=[(false,Zb),(false,Za)]
def aQb(p98:KZ)(f98:K2)(a0:Ab Za)(a1:Ab Zw)(a2:Ab Zb):Option (DenS RA):=let e1_:=(aa .i64 (a1.2.1-(1:Int)));bif(p98 (a0,a2,()))then(bif((f98 (a0,a2,())).2.1==(0:Int))then(some ((f98 (a0,a2,())).2.2.1,(aa .i64 ((aa .i64 ((aa .i64 ((aa .i64 ((aa .i64 (1:Int))-(1:Int)))+a1.2.2.1))-a1.2.1))+(1:Int))),()))else bif(decide ((0:Int)<=e1_))then(some ((Ai .u64 (f98 (a0,a2,())).2.2.1 (Be .u64 (1:Int) e1_)),(aa .i64 ((aa .i64 ((aa .i64 ((aa .i64 ((aa .i64 (f98 (a0,a2,())).2.1)-(1:Int)))+a1.2.2.1))-a1.2.1))+(1:Int))),()))else none)else none
theorem bC1(x:DenS PI):run (cf [(91,⟨Fr,FE,p98,f98⟩)] []) 9 63 Tryz.f63 PI RA x=aQb p98 f98 x.1 x.2.1 x.2.2.1:=by kernel_rfl
def aGg(x:DenS PI):Option (DenS RA):=aQb Cg.pre Cg.F x.1 x.2.1 x.2.2.1
def mJ:Sum:=Ah PI RA aGg (DenS.dflt RA)
theorem aS8:Sound Tryz.prog G1 63 mJ:=sd (cf [(91,Cg)] []) 63 Tryz.f63 ⟨UN,trivial⟩ trivial PI RA aGg _ (fun _=>bC1 ..)
abbrev pE:=Af PI
abbrev qB:=Ae PI RA
variable (p313:pE)(f313:qB)
abbrev PJ:Aa:=[(true,Zj)]
abbrev RB:Aa:=[(false,Za)]
def aQc(p178:II)(f178:IM)(a0:Ab Zj):Option (DenS RB):=bif(a0.1 !=(0:Int))then(bif(p178 (a0.1,()))then(some ((aa .i64 ((64:Int)+(f178 (a0.1,())).1)),()))else none)else bif(p178 a0.2)then(some (f178 a0.2))else none
theorem bC2(x:DenS PJ):run (cf [(115,⟨F3,FC,p178,f178⟩)] []) 9 206 Tryz.f206 PJ RB x=aQc p178 f178 x.1:=by kernel_rfl
def aGh(x:DenS PJ):Option (DenS RB):=aQc Cu.pre Cu.F x.1
def mK:Sum:=Ah PJ RB aGh (DenS.dflt RB)
theorem aS9:Sound Tryz.prog G1 206 mK:=sd (cf [(115,Cu)] []) 206 Tryz.f206 ⟨ZT,trivial⟩ trivial PJ RB aGh _ (fun _=>bC2 ..)
abbrev aAw:=Af PJ
abbrev aBd:=Ae PJ RB
variable (p314:aAw)(f314:aBd)
end Vx
end
