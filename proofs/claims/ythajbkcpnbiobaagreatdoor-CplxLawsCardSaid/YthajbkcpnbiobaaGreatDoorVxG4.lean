/- Part 4 of the proof. What is proved: symbolic execution of the functions, proved sound; what each function of the program computes, and that every run ends with it; what these functions compute, in plain numbers. Conditions: each theorem bears its own. -/
import Derived.Test.YthajbkcpnbiobaaGreatDoorVxG3
import Derived.Test.YthajbkcpnbiobaaGreatDoorProg
set_option linter.all false
set_option exponentiation.threshold 1000000
noncomputable section
open Go.IntKind renaming wrap->aa
open Int renaming tmod->iu,toNat->ai
open List renaming replicate->ar
namespace Vx
open Go Go.Proofs
abbrev rowsSh:Shape:=.pair (.int .i64) (.pair (.int .i64) (.pair (.int .i64) (.pair (.int .i64) .unit)))
abbrev kindsSh:Shape:=.pair (.int .u64) (.pair (.int .u64) .unit)
def k_rows:List (Ab rowsSh):=[(16,11,-14,15,()),(16,8,-126,127,()),(32,24,-126,127,()),(64,53,-1022,1023,())]
def ID:List UInt8:=[0,1,2,2,3,3,3,3,4,4,4,4,4,4,4,4,5,5,5,5,5,5,5,5,5,5,5,5,5,5,5,5,6,6,6,6,6,6,6,6,6,6,6,6,6,6,6,6,6,6,6,6,6,6,6,6,6,6,6,6,6,6,6,6,7,7,7,7,7,7,7,7,7,7,7,7,7,7,7,7,7,7,7,7,7,7,7,7,7,7,7,7,7,7,7,7,7,7,7,7,7,7,7,7,7,7,7,7,7,7,7,7,7,7,7,7,7,7,7,7,7,7,7,7,7,7,7,7,8,8,8,8,8,8,8,8,8,8,8,8,8,8,8,8,8,8,8,8,8,8,8,8,8,8,8,8,8,8,8,8,8,8,8,8,8,8,8,8,8,8,8,8,8,8,8,8,8,8,8,8,8,8,8,8,8,8,8,8,8,8,8,8,8,8,8,8,8,8,8,8,8,8,8,8,8,8,8,8,8,8,8,8,8,8,8,8,8,8,8,8,8,8,8,8,8,8,8,8,8,8,8,8,8,8,8,8,8,8,8,8,8,8,8,8,8,8,8,8,8,8,8,8,8,8,8,8]
def k_deb:List (Ab (.int .u8)):=[0,1,56,2,57,49,28,3,61,58,42,50,38,29,17,4,62,47,59,36,45,43,51,22,53,39,33,30,24,18,12,5,63,55,48,27,60,41,37,16,46,35,44,21,52,32,23,11,54,26,40,15,34,20,31,10,25,14,19,9,13,8,7,6]
def k_kinds:List (Ab kindsSh):=[(2147483648,2147483647,()),(9223372036854775808,9223372036854775807,()),(0,4294967295,()),(0,18446744073709551615,())]
def G1:List (Nat×Sigma fun τ=>List (Ab τ)):=[(1,⟨rowsSh,k_rows⟩),(4,⟨kindsSh,k_kinds⟩),(5,⟨.int .u8,k_deb⟩)]
abbrev Ae(I:Aa):=DenS I->Bool
abbrev Ad(I O:Aa):=DenS I->DenS O
@[reducible] def cf(s:List (FuncId×Sum))(l:List (FuncId×Nat×LoopSpec)):Cfg:={P:=Tryz.prog,sums:=s,loops:=l,globs:=G1}
theorem sd(C:Cfg)(n:FuncId)(fn:Func)(hs:Um C.P C.globs C.sums)(hl:SP C n fn C.loops)(I O:Aa)(t:DenS I->Option (DenS O))(d:DenS O)(h:∀x,run C 9 n fn I O x=t x)(hls:Un C.P C.globs C.lsums:=by exact trivial)(hfs:Uk C.P C.globs C.fns:=by exact trivial)(hms:Ul C.P C.globs C.meths:=by exact trivial)
  (hm : C.P.follows .mixedOrders = true := by kernel_rfl) (hf : C.P.funcs[n]? = some fn := by kernel_rfl) (hb : (match fn.body with | some c => II ((CP c).map Db) | none => false) = true := by kernel_rfl) (hn : (fn.name == "runtime.NumGoroutine") = false := by kernel_rfl) : Sound C.P C.globs n (Aj I O t d) :=
 aVv C 9 n fn hm hf hb hn hs hl I O t d h hls hfs hms
theorem Hq(C:Cfg)(n:FuncId)(fn:Func)(hs:Um C.P C.globs C.sums)(hl:SP C n fn C.loops)(k:LK)(I O:Aa)(t:k.D×DenS I->Option (k.B×DenS O))(d:k.B×DenS O)(h:∀x,Em C 9 n fn k I O x=t x)(hls:Un C.P C.globs C.lsums:=by exact trivial)(hfs:Uk C.P C.globs C.fns:=by exact trivial)(hms:Ul C.P C.globs C.meths:=by exact trivial)
  (hm : C.P.follows .mixedOrders = true := by kernel_rfl) (hf : C.P.funcs[n]? = some fn := by kernel_rfl) (hb : (match fn.body with | some c => II ((CP c).map Db) | none => false) = true := by kernel_rfl) (hn : (fn.name == "runtime.NumGoroutine") = false := by kernel_rfl) : SoundL C.P C.globs n (Eo k I O t d) :=
 aVw C 9 n fn hm hf hb hn hs hl k I O t d h hls hfs hms
abbrev BU:Aa:=[(false,.int .i64)]
abbrev BV:Aa:=[(true,.pair (.int .i64) (.pair (.int .i64) (.pair (.int .i64) (.pair (.int .i64) (.unit))))),(false,.int .i64)]
def pN(a0:Ab (.int .i64)):Option (DenS BV):=let e1_:=((0:Int),(0:Int),(0:Int),(0:Int),());bif((decide (a0<(0:Int)))||(decide (a0>=(4:Int))))then(some (e1_,(2:Int),()))else bif((decide ((0:Int)<=a0))&&(decide (a0<((4:Nat):Int))))then(some ((Vx.k_rows.getD (ai a0) e1_),(0:Int),()))else none
theorem r69(x:DenS BU):run (cf [] []) 9 71 Tryz.f71 BU BV x=pN x.1:=by kernel_rfl
def UZ(x:DenS BU):Option (DenS BV):=pN x.1
def Ao:Sum:=Aj BU BV UZ (DenS.dflt BV)
theorem Do:Sound Tryz.prog G1 71 Ao:=sd (cf [] []) 71 Tryz.f71 trivial trivial BU BV UZ _ (fun _=>r69 ..)
abbrev BF:=Ae BU
abbrev BG:=Ad BU BV
variable (p69:BF)(f69:BG)
abbrev CA:Aa:=[(false,.int .i64),(false,.int .u64)]
abbrev CB:Aa:=[(false,.int .i64)]
def pM(p69:BF)(f69:BG)(a0:Ab (.int .i64))(a1:Ab (.int .u64)):Option (DenS CB):=bif(p69 (a0,()))then(bif((f69 (a0,())).2.1 !=(0:Int))then(some (f69 (a0,())).2)else bif((decide ((0:Int)<=(f69 (a0,())).1.1))||(!(decide ((f69 (a0,())).1.1<(64:Int)))))then(bif((decide ((f69 (a0,())).1.1<(64:Int)))&&((AE .u64 a1 (f69 (a0,())).1.1)!=(0:Int)))then(some ((4:Int),()))else some ((0:Int),()))else none)else none
theorem r66(x:DenS CA):run (cf [(71,⟨BU,BV,p69,f69⟩)] []) 9 85 Tryz.f85 CA CB x=pM p69 f69 x.1 x.2.1:=by kernel_rfl
def YQ(x:DenS CA):Option (DenS CB):=pM Ao.pre Ao.F x.1 x.2.1
def Ar:Sum:=Aj CA CB YQ (DenS.dflt CB)
theorem Fu:Sound Tryz.prog G1 85 Ar:=sd (cf [(71,Ao)] []) 85 Tryz.f85 ⟨Do,trivial⟩ trivial CA CB YQ _ (fun _=>r66 ..)
abbrev B2:=Ae CA
abbrev B3:=Ad CA CB
variable (p66:B2)(f66:B3)
abbrev Ed:Aa:=[(false,.int .i64)]
abbrev Ee:Aa:=[(false,.int .u64)]
def pR(a0:Ab (.int .i64)):Option (DenS Ee):=bif(decide ((0:Int)<=a0))then(some ((aa .u64 ((AQ .u64 (1:Int) a0)-(1:Int))),()))else none
theorem r91(x:DenS Ed):run (cf [] []) 9 72 Tryz.f72 Ed Ee x=pR x.1:=by kernel_rfl
def YX(x:DenS Ed):Option (DenS Ee):=pR x.1
def Br:Sum:=Aj Ed Ee YX (DenS.dflt Ee)
theorem JX:Sound Tryz.prog G1 72 Br:=sd (cf [] []) 72 Tryz.f72 trivial trivial Ed Ee YX _ (fun _=>r91 ..)
abbrev Gh:=Ae Ed
abbrev Gk:=Ad Ed Ee
variable (p91:Gh)(f91:Gk)
abbrev Jf:Aa:=[(true,.pair (.int .i64) (.pair (.int .i64) (.pair (.int .i64) (.pair (.int .i64) (.unit))))),(false,.int .u64)]
abbrev JG:Aa:=[(false,.bool),(false,.int .u64),(false,.int .u64)]
def pQ(p91:Gh)(f91:Gk)(a0:Ab (.pair (.int .i64) (.pair (.int .i64) (.pair (.int .i64) (.pair (.int .i64) (.unit))))))(a1:Ab (.int .u64)):Option (DenS JG):=let e5_:=(aa .i64 (a0.2.1-(1:Int)));let e1_:=(e5_,());let e2_:=((aa .i64 (a0.1-a0.2.1)),());let e3_:=e5_;let e4_:=(aa .i64 (a0.1-(1:Int)));bif(decide ((0:Int)<=e4_))then(bif(decide ((0:Int)<=e3_))then(bif(p91 e2_)then(bif(p91 e1_)then(some (((AE .u64 a1 e4_)!=(0:Int)),(Bs .u64 (AE .u64 a1 e3_) (f91 e2_).1),(Bs .u64 a1 (f91 e1_).1),()))else none)else none)else none)else none
theorem r90(x:DenS Jf):run (cf [(72,⟨Ed,Ee,p91,f91⟩)] []) 9 87 Tryz.f87 Jf JG x=pQ p91 f91 x.1 x.2.1:=by kernel_rfl
def YW(x:DenS Jf):Option (DenS JG):=pQ Br.pre Br.F x.1 x.2.1
def DD:Sum:=Aj Jf JG YW (DenS.dflt JG)
theorem rU:Sound Tryz.prog G1 87 DD:=sd (cf [(72,Br)] []) 87 Tryz.f87 ⟨JX,trivial⟩ trivial Jf JG YW _ (fun _=>r90 ..)
abbrev Zn:=Ae Jf
abbrev ZA:=Ad Jf JG
variable (p90:Zn)(f90:ZA)
abbrev Dy:Aa:=[(false,.int .i64),(false,.int .u64)]
abbrev Dz:Aa:=[(false,.int .i64),(false,.int .i64)]
def W0(p66:B2)(f66:B3)(p90:Zn)(f90:ZA)(p91:Gh)(f91:Gk)(a0:Ab (.int .i64))(a1:Ab (.int .u64)):Option (DenS Dz):=let e10_:=(Vx.k_rows.getD (ai a0) ((0:Int),(0:Int),(0:Int),(0:Int),()));let e9_:=(f90 (e10_,a1,()));let e8_:=((aa .i64 (e10_.1-e10_.2.1)),());let e1_:=(e9_.2.1==(f91 e8_).1);let e2_:=(p91 e8_);let e3_:=(aa .i64 (e10_.2.1-(2:Int)));let e4_:=(e9_.2.2.1==(0:Int));let e5_:=(e9_.2.1==(0:Int));let e6_:=e9_;let e7_:=e10_;bif(p66 (a0,a1,()))then(bif((f66 (a0,a1,())).1 !=(0:Int))then(some ((0:Int),(f66 (a0,a1,()))))else bif((decide ((0:Int)<=a0))&&(decide (a0<((4:Nat):Int))))then(bif(p90 (e7_,a1,()))then(bif e2_ then(bif(e1_&&e4_)then(bif e6_.1 then(some ((aa .i64 ((11:Int)-(9:Int))),(0:Int),()))else some ((9:Int),(0:Int),()))else bif e2_ then(bif((decide ((0:Int)<=e3_))||(!(decide (e6_.2.1=(f91 ((aa .i64 (e7_.1-e7_.2.1)),())).1))))then(bif(e1_&&((AE .u64 e6_.2.2.1 e3_)!=(0:Int)))then(some ((1:Int),(0:Int),()))else bif e2_ then(bif e1_ then(some ((0:Int),(0:Int),()))else bif(e5_&&e4_)then(bif e6_.1 then(some ((aa .i64 ((11:Int)-(6:Int))),(0:Int),()))else some ((6:Int),(0:Int),()))else bif e5_ then(bif e6_.1 then(some ((aa .i64 ((11:Int)-(7:Int))),(0:Int),()))else some ((7:Int),(0:Int),()))else bif e6_.1 then(some ((aa .i64 ((11:Int)-(8:Int))),(0:Int),()))else some ((8:Int),(0:Int),()))else none)else none)else none)else none)else none)else none)else none
theorem r65(x:DenS Dy):run (cf [(85,⟨CA,CB,p66,f66⟩),(87,⟨Jf,JG,p90,f90⟩),(72,⟨Ed,Ee,p91,f91⟩)] []) 9 59 Tryz.f59 Dy Dz x=W0 p66 f66 p90 f90 p91 f91 x.1 x.2.1:=by kernel_rfl
def UX(x:DenS Dy):Option (DenS Dz):=W0 Ar.pre Ar.F DD.pre DD.F Br.pre Br.F x.1 x.2.1
def AW:Sum:=Aj Dy Dz UX (DenS.dflt Dz)
theorem G0:Sound Tryz.prog G1 59 AW:=sd (cf [(85,Ar),(87,DD),(72,Br)] []) 59 Tryz.f59 ⟨Fu,rU,JX,trivial⟩ trivial Dy Dz UX _ (fun _=>r65 ..)
abbrev DE:=Ae Dy
abbrev DF:=Ad Dy Dz
variable (p65:DE)(f65:DF)
abbrev IX:Aa:=[(true,.pair (.int .i64) (.pair (.int .i64) (.pair (.int .i64) (.pair (.int .i64) (.unit)))))]
abbrev Jl:Aa:=[(false,.int .u64)]
def aMz(a0:Ab (.pair (.int .i64) (.pair (.int .i64) (.pair (.int .i64) (.pair (.int .i64) (.unit)))))):Option (DenS Jl):=some ((0:Int),())
theorem aZb(x:DenS IX):run (cf [] []) 9 89 Tryz.f89 IX Jl x=aMz x.1:=by kernel_rfl
def aCc(x:DenS IX):Option (DenS Jl):=aMz x.1
def JR:Sum:=Aj IX Jl aCc (DenS.dflt Jl)
theorem rE:Sound Tryz.prog G1 89 JR:=sd (cf [] []) 89 Tryz.f89 trivial trivial IX Jl aCc _ (fun _=>aZb ..)
abbrev hZ:=Ae IX
abbrev iQ:=Ad IX Jl
variable (p116:hZ)(f116:iQ)
abbrev NJ:Aa:=[(true,.pair (.int .i64) (.pair (.int .i64) (.pair (.int .i64) (.pair (.int .i64) (.unit)))))]
abbrev Pw:Aa:=[(false,.int .u64)]
def aMA(a0:Ab (.pair (.int .i64) (.pair (.int .i64) (.pair (.int .i64) (.pair (.int .i64) (.unit)))))):Option (DenS Pw):=let e1_:=(aa .i64 (a0.2.1-(2:Int)));bif(decide ((0:Int)<=e1_))then(some ((AQ .u64 (1:Int) e1_),()))else none
theorem aZc(x:DenS NJ):run (cf [] []) 9 90 Tryz.f90 NJ Pw x=aMA x.1:=by kernel_rfl
def aCd(x:DenS NJ):Option (DenS Pw):=aMA x.1
def eC:Sum:=Aj NJ Pw aCd (DenS.dflt Pw)
theorem aPV:Sound Tryz.prog G1 90 eC:=sd (cf [] []) 90 Tryz.f90 trivial trivial NJ Pw aCd _ (fun _=>aZc ..)
abbrev aD8:=Ae NJ
abbrev aFS:=Ad NJ Pw
variable (p117:aD8)(f117:aFS)
abbrev Gy:Aa:=[(true,.pair (.int .i64) (.pair (.int .i64) (.pair (.int .i64) (.pair (.int .i64) (.unit))))),(false,.bool),(false,.int .u64),(false,.int .u64)]
abbrev GK:Aa:=[(false,.int .u64)]
def mZ(a0:Ab (.pair (.int .i64) (.pair (.int .i64) (.pair (.int .i64) (.pair (.int .i64) (.unit))))))(a1:Ab (.bool))(a2 a3:Ab (.int .u64)):Option (DenS GK):=let e3_:=(aa .i64 (a0.2.1-(1:Int)));let e1_:=(Aq .u64 (AQ .u64 a2 e3_) a3);let e2_:=(aa .i64 (a0.1-(1:Int)));bif(decide ((0:Int)<=e3_))then(bif a1 then(bif(decide ((0:Int)<=e2_))then(some ((Aq .u64 e1_ (AQ .u64 (1:Int) e2_)),()))else none)else some (e1_,()))else none
theorem aZq(x:DenS Gy):run (cf [] []) 9 73 Tryz.f73 Gy GK x=mZ x.1 x.2.1 x.2.2.1 x.2.2.2.1:=by kernel_rfl
def XU(x:DenS Gy):Option (DenS GK):=mZ x.1 x.2.1 x.2.2.1 x.2.2.2.1
def DA:Sum:=Aj Gy GK XU (DenS.dflt GK)
theorem Xl:Sound Tryz.prog G1 73 DA:=sd (cf [] []) 73 Tryz.f73 trivial trivial Gy GK XU _ (fun _=>aZq ..)
abbrev Ti:=Ae Gy
abbrev To:=Ad Gy GK
variable (p140:Ti)(f140:To)
abbrev Di:Aa:=[(false,.int .i64)]
abbrev Dj:Aa:=[(false,.int .u64),(false,.int .i64)]
def t70(p116:hZ)(f116:iQ)(p117:aD8)(f117:aFS)(p69:BF)(f69:BG)(p91:Gh)(f91:Gk)(p140:Ti)(f140:To)(a0:Ab (.int .i64)):Option (DenS Dj):=let e2_:=((aa .i64 ((f69 (a0,())).1.1-(f69 (a0,())).1.2.1)),());let e1_:=((f69 (a0,())).1,false,(aa .u64 ((f91 e2_).1-(f116 ((f69 (a0,())).1,())).1)),(f117 ((f69 (a0,())).1,())));bif(p69 (a0,()))then(bif((f69 (a0,())).2.1 !=(0:Int))then(some ((0:Int),(f69 (a0,())).2))else bif(p91 e2_)then(bif(p116 ((f69 (a0,())).1,()))then(bif(p117 ((f69 (a0,())).1,()))then(bif(p140 e1_)then(some ((f140 e1_).1,(0:Int),()))else none)else none)else none)else none)else none
theorem r70(x:DenS Di):run (cf [(89,⟨IX,Jl,p116,f116⟩),(90,⟨NJ,Pw,p117,f117⟩),(71,⟨BU,BV,p69,f69⟩),(72,⟨Ed,Ee,p91,f91⟩),(73,⟨Gy,GK,p140,f140⟩)] []) 9 61 Tryz.f61 Di Dj x=t70 p116 f116 p117 f117 p69 f69 p91 f91 p140 f140 x.1:=by kernel_rfl
def YS(x:DenS Di):Option (DenS Dj):=t70 JR.pre JR.F eC.pre eC.F Ao.pre Ao.F Br.pre Br.F DA.pre DA.F x.1
def AS:Sum:=Aj Di Dj YS (DenS.dflt Dj)
theorem Gd:Sound Tryz.prog G1 61 AS:=sd (cf [(89,JR),(90,eC),(71,Ao),(72,Br),(73,DA)] []) 61 Tryz.f61 ⟨rE,aPV,Do,JX,Xl,trivial⟩ trivial Di Dj YS _ (fun _=>r70 ..)
abbrev Dp:=Ae Di
abbrev Dq:=Ad Di Dj
variable (p70:Dp)(f70:Dq)
abbrev E9:Aa:=[(false,.int .i64),(false,.int .u64)]
abbrev Fk:Aa:=[(false,.bool),(false,.int .u64),(false,.int .u64),(false,.int .i64)]
def pT(p66:B2)(f66:B3)(p90:Zn)(f90:ZA)(a0:Ab (.int .i64))(a1:Ab (.int .u64)):Option (DenS Fk):=let e2_:=((Vx.k_rows.getD (ai a0) ((0:Int),(0:Int),(0:Int),(0:Int),())),a1,());let e1_:=(f90 e2_);bif(p66 (a0,a1,()))then(bif((f66 (a0,a1,())).1 !=(0:Int))then(some (false,(0:Int),(0:Int),(f66 (a0,a1,()))))else bif(bif(decide ((0:Int)<=a0))then(decide (a0<((4:Nat):Int)))else false)then(bif(p90 e2_)then(some (e1_.1,e1_.2.1,e1_.2.2.1,(0:Int),()))else none)else none)else none
theorem r98(x:DenS E9):run (cf [(85,⟨CA,CB,p66,f66⟩),(87,⟨Jf,JG,p90,f90⟩)] []) 9 91 Tryz.f91 E9 Fk x=pT p66 f66 p90 f90 x.1 x.2.1:=by kernel_rfl
def Y1(x:DenS E9):Option (DenS Fk):=pT Ar.pre Ar.F DD.pre DD.F x.1 x.2.1
def B1:Sum:=Aj E9 Fk Y1 (DenS.dflt Fk)
theorem S6:Sound Tryz.prog G1 91 B1:=sd (cf [(85,Ar),(87,DD)] []) 91 Tryz.f91 ⟨Fu,rU,trivial⟩ trivial E9 Fk Y1 _ (fun _=>r98 ..)
abbrev Kd:=Ae E9
abbrev Kj:=Ad E9 Fk
variable (p98:Kd)(f98:Kj)
abbrev Po:Aa:=[(false,.int .i64),(true,.pair (.int .i64) (.pair (.int .i64) (.pair (.int .i64) (.pair (.int .i64) (.unit))))),(false,.int .u64)]
abbrev Q4:Aa:=[(true,.pair (.bool) (.pair (.int .u64) (.pair (.int .i64) (.unit))))]
def pO(p98:Kd)(f98:Kj)(a0:Ab (.int .i64))(a1:Ab (.pair (.int .i64) (.pair (.int .i64) (.pair (.int .i64) (.pair (.int .i64) (.unit))))))(a2:Ab (.int .u64)):Option (DenS Q4):=let e1_:=(aa .i64 ((aa .i64 (a1.2.2.1-a1.2.1))+(1:Int)));let e2_:=(aa .i64 (a1.2.1-(1:Int)));bif(p98 (a0,a2,()))then(bif(decide ((f98 (a0,a2,())).2.1>(0:Int)))then(bif(decide ((0:Int)<=e2_))then(some (((f98 (a0,a2,())).1,(Aq .u64 (f98 (a0,a2,())).2.2.1 (AQ .u64 (1:Int) e2_)),(aa .i64 (e1_+(aa .i64 ((aa .i64 (f98 (a0,a2,())).2.1)-(1:Int))))),()),()))else none)else some (((f98 (a0,a2,())).1,(f98 (a0,a2,())).2.2.1,e1_,()),()))else none
theorem r72(x:DenS Po):run (cf [(91,⟨E9,Fk,p98,f98⟩)] []) 9 194 Tryz.f194 Po Q4 x=pO p98 f98 x.1 x.2.1 x.2.2.1:=by kernel_rfl
def YU(x:DenS Po):Option (DenS Q4):=pO B1.pre B1.F x.1 x.2.1 x.2.2.1
def RO:Sum:=Aj Po Q4 YU (DenS.dflt Q4)
theorem aRj:Sound Tryz.prog G1 194 RO:=sd (cf [(91,B1)] []) 194 Tryz.f194 ⟨S6,trivial⟩ trivial Po Q4 YU _ (fun _=>r72 ..)
abbrev tN:=Ae Po
abbrev uQ:=Ad Po Q4
variable (p72:tN)(f72:uQ)
abbrev Hz:Aa:=[(true,.pair (.int .u64) (.pair (.int .u64) (.unit))),(false,.int .i64)]
abbrev Jm:Aa:=[(true,.pair (.int .u64) (.pair (.int .u64) (.unit)))]
def mR(a0:Ab (.pair (.int .u64) (.pair (.int .u64) (.unit))))(a1:Ab (.int .i64)):Option (DenS Jm):=let e1_:=(aa .i64 (a1-(64:Int)));let e2_:=(aa .i64 ((64:Int)-a1));bif(decide (a1<=(0:Int)))then(some ((a0.1,a0.2),()))else bif(decide (a1>=(128:Int)))then(some (((0:Int),(0:Int),()),()))else bif(decide (a1>=(64:Int)))then(bif(decide ((0:Int)<=e1_))then(some (((AQ .u64 a0.2.1 e1_),(0:Int),()),()))else none)else bif(decide ((0:Int)<=a1))then(bif(decide ((0:Int)<=e2_))then(bif(decide ((0:Int)<=a1))then(some (((Aq .u64 (AQ .u64 a0.1 a1) (AE .u64 a0.2.1 e2_)),(AQ .u64 a0.2.1 a1),()),()))else none)else none)else none
theorem aZh(x:DenS Hz):run (cf [] []) 9 208 Tryz.f208 Hz Jm x=mR x.1 x.2.1:=by kernel_rfl
def Ta(x:DenS Hz):Option (DenS Jm):=mR x.1 x.2.1
def AJ:Sum:=Aj Hz Jm Ta (DenS.dflt Jm)
theorem aBk:Sound Tryz.prog G1 208 AJ:=sd (cf [] []) 208 Tryz.f208 trivial trivial Hz Jm Ta _ (fun _=>aZh ..)
abbrev Ze:=Ae Hz
abbrev Zr:=Ad Hz Jm
variable (p119:Ze)(f119:Zr)
abbrev IY:Aa:=[(true,.pair (.int .u64) (.pair (.int .u64) (.unit))),(false,.int .i64)]
abbrev Lh:Aa:=[(true,.pair (.int .u64) (.pair (.int .u64) (.unit)))]
def mS(a0:Ab (.pair (.int .u64) (.pair (.int .u64) (.unit))))(a1:Ab (.int .i64)):Option (DenS Lh):=let e1_:=(aa .i64 (a1-(64:Int)));let e2_:=(aa .i64 ((64:Int)-a1));bif(decide (a1<=(0:Int)))then(some ((a0.1,a0.2),()))else bif(decide (a1>=(128:Int)))then(some (((0:Int),(0:Int),()),()))else bif(decide (a1>=(64:Int)))then(bif(decide ((0:Int)<=e1_))then(some (((0:Int),(AE .u64 a0.1 e1_),()),()))else none)else bif(decide ((0:Int)<=a1))then(bif(decide ((0:Int)<=a1))then(bif(decide ((0:Int)<=e2_))then(some (((AE .u64 a0.1 a1),(Aq .u64 (AE .u64 a0.2.1 a1) (AQ .u64 a0.1 e2_)),()),()))else none)else none)else none
theorem aZi(x:DenS IY):run (cf [] []) 9 234 Tryz.f234 IY Lh x=mS x.1 x.2.1:=by kernel_rfl
def UG(x:DenS IY):Option (DenS Lh):=mS x.1 x.2.1
def AK:Sum:=Aj IY Lh UG (DenS.dflt Lh)
theorem aPW:Sound Tryz.prog G1 234 AK:=sd (cf [] []) 234 Tryz.f234 trivial trivial IY Lh UG _ (fun _=>aZi ..)
abbrev sH:=Ae IY
abbrev tQ:=Ad IY Lh
variable (p120:sH)(f120:tQ)
abbrev EW:Aa:=Ud
abbrev Fh:Aa:=WT
def Az:Sum:=aHz
theorem UA:Sound Tryz.prog G1 94 Az:=aUj Tryz.func94 (by kernel_rfl) (by kernel_rfl) (by kernel_rfl) (by kernel_rfl)
abbrev C6:=Ae EW
abbrev C7:=Ad EW Fh
variable (p155:C6)(f155:C7)
abbrev IZ:Aa:=[(true,.pair (.int .u64) (.pair (.int .u64) (.unit))),(true,.pair (.int .u64) (.pair (.int .u64) (.unit)))]
abbrev Li:Aa:=[(true,.pair (.int .u64) (.pair (.int .u64) (.unit))),(false,.int .u64)]
def mT(p155:C6)(f155:C7)(a0 a1:Ab (.pair (.int .u64) (.pair (.int .u64) (.unit)))):Option (DenS Li):=let e2_:=(a0.1,a1.1,(f155 (a0.2.1,a1.2.1,(0:Int),())).2);let e1_:=(f155 e2_);bif(p155 (a0.2.1,a1.2.1,(0:Int),()))then(bif(p155 e2_)then(some ((e1_.1,(f155 (a0.2.1,a1.2.1,(0:Int),())).1,()),e1_.2))else none)else none
theorem aZj(x:DenS IZ):run (cf [(94,⟨EW,Fh,p155,f155⟩)] []) 9 235 Tryz.f235 IZ Li x=mT p155 f155 x.1 x.2.1:=by kernel_rfl
def XP(x:DenS IZ):Option (DenS Li):=mT Az.pre Az.F x.1 x.2.1
def Mn:Sum:=Aj IZ Li XP (DenS.dflt Li)
theorem aPX:Sound Tryz.prog G1 235 Mn:=sd (cf [(94,Az)] []) 235 Tryz.f235 ⟨UA,trivial⟩ trivial IZ Li XP _ (fun _=>aZj ..)
abbrev sI:=Ae IZ
abbrev tR:=Ad IZ Li
variable (p121:sI)(f121:tR)
abbrev Gx:Aa:=[(true,.pair (.int .u64) (.pair (.int .u64) (.unit))),(true,.pair (.int .u64) (.pair (.int .u64) (.unit)))]
abbrev HG:Aa:=[(false,.int .i64)]
def mV(a0 a1:Ab (.pair (.int .u64) (.pair (.int .u64) (.unit)))):Option (DenS HG):=bif((a0.1==a1.1)&&(a0.2.1==a1.2.1))then(some ((0:Int),()))else bif((decide (a0.1<a1.1))||((a0.1==a1.1)&&(decide (a0.2.1<a1.2.1))))then(some ((-(1:Int)),()))else some ((1:Int),())
theorem aZl(x:DenS Gx):run (cf [] []) 9 236 Tryz.f236 Gx HG x=mV x.1 x.2.1:=by kernel_rfl
def XR(x:DenS Gx):Option (DenS HG):=mV x.1 x.2.1
def Ef:Sum:=Aj Gx HG XR (DenS.dflt HG)
theorem aBl:Sound Tryz.prog G1 236 Ef:=sd (cf [] []) 236 Tryz.f236 trivial trivial Gx HG XR _ (fun _=>aZl ..)
abbrev Th:=Ae Gx
abbrev Tn:=Ad Gx HG
variable (p123:Th)(f123:Tn)
abbrev KS:Aa:=Ud
abbrev PJ:Aa:=WT
def A9:Sum:=aMn
theorem eH:Sound Tryz.prog G1 148 A9:=bDy Tryz.func148 (by kernel_rfl) (by kernel_rfl) (by kernel_rfl) (by kernel_rfl)
abbrev G6:=Ae KS
abbrev G9:=Ad KS PJ
variable (p157:G6)(f157:G9)
abbrev I0:Aa:=[(true,.pair (.int .u64) (.pair (.int .u64) (.unit))),(true,.pair (.int .u64) (.pair (.int .u64) (.unit)))]
abbrev Lj:Aa:=[(true,.pair (.int .u64) (.pair (.int .u64) (.unit))),(false,.int .u64)]
def mW(p157:G6)(f157:G9)(a0 a1:Ab (.pair (.int .u64) (.pair (.int .u64) (.unit)))):Option (DenS Lj):=let e2_:=(a0.1,a1.1,(f157 (a0.2.1,a1.2.1,(0:Int),())).2);let e1_:=(f157 e2_);bif(p157 (a0.2.1,a1.2.1,(0:Int),()))then(bif(p157 e2_)then(some ((e1_.1,(f157 (a0.2.1,a1.2.1,(0:Int),())).1,()),e1_.2))else none)else none
theorem aZm(x:DenS I0):run (cf [(148,⟨KS,PJ,p157,f157⟩)] []) 9 237 Tryz.f237 I0 Lj x=mW p157 f157 x.1 x.2.1:=by kernel_rfl
def XS(x:DenS I0):Option (DenS Lj):=mW A9.pre A9.F x.1 x.2.1
def BR:Sum:=Aj I0 Lj XS (DenS.dflt Lj)
theorem aPY:Sound Tryz.prog G1 237 BR:=sd (cf [(148,A9)] []) 237 Tryz.f237 ⟨eH,trivial⟩ trivial I0 Lj XS _ (fun _=>aZm ..)
abbrev sJ:=Ae I0
abbrev tS:=Ad I0 Lj
variable (p124:sJ)(f124:tS)
abbrev NT:Aa:=[(true,.pair (.int .i64) (.pair (.int .i64) (.pair (.int .i64) (.pair (.int .i64) (.unit)))))]
abbrev PI:Aa:=[(false,.int .u64)]
def aME(p91:Gh)(f91:Gk)(a0:Ab (.pair (.int .i64) (.pair (.int .i64) (.pair (.int .i64) (.pair (.int .i64) (.unit)))))):Option (DenS PI):=let e1_:=((aa .i64 (a0.1-a0.2.1)),());bif(p91 e1_)then(some (f91 e1_))else none
theorem aZD(x:DenS NT):run (cf [(72,⟨Ed,Ee,p91,f91⟩)] []) 9 92 Tryz.f92 NT PI x=aME p91 f91 x.1:=by kernel_rfl
def aCm(x:DenS NT):Option (DenS PI):=aME Br.pre Br.F x.1
def eG:Sum:=Aj NT PI aCm (DenS.dflt PI)
theorem aP7:Sound Tryz.prog G1 92 eG:=sd (cf [(72,Br)] []) 92 Tryz.f92 ⟨JX,trivial⟩ trivial NT PI aCm _ (fun _=>aZD ..)
abbrev aEl:=Ae NT
abbrev aF5:=Ad NT PI
variable (p154:aEl)(f154:aF5)
abbrev Es:Aa:=[(false,.int .i64),(false,.bool)]
abbrev EY:Aa:=[(false,.int .u64),(false,.int .i64)]
def aMB(p154:aEl)(f154:aF5)(p116:hZ)(f116:iQ)(p69:BF)(f69:BG)(p91:Gh)(f91:Gk)(p140:Ti)(f140:To)(a0:Ab (.int .i64))(a1:Ab (.bool)):Option (DenS EY):=let e2_:=((aa .i64 ((f69 (a0,())).1.1-(f69 (a0,())).1.2.1)),());let e1_:=((f69 (a0,())).1,a1,(aa .u64 ((f91 e2_).1-(f154 ((f69 (a0,())).1,())).1)),(f116 ((f69 (a0,())).1,())));bif(p69 (a0,()))then(bif((f69 (a0,())).2.1 !=(0:Int))then(some ((0:Int),(f69 (a0,())).2))else bif(p91 e2_)then(bif(p154 ((f69 (a0,())).1,()))then(bif(p116 ((f69 (a0,())).1,()))then(bif(p140 e1_)then(some ((f140 e1_).1,(0:Int),()))else none)else none)else none)else none)else none
theorem aZg(x:DenS Es):run (cf [(92,⟨NT,PI,p154,f154⟩),(89,⟨IX,Jl,p116,f116⟩),(71,⟨BU,BV,p69,f69⟩),(72,⟨Ed,Ee,p91,f91⟩),(73,⟨Gy,GK,p140,f140⟩)] []) 9 64 Tryz.f64 Es EY x=aMB p154 f154 p116 f116 p69 f69 p91 f91 p140 f140 x.1 x.2.1:=by kernel_rfl
def XO(x:DenS Es):Option (DenS EY):=aMB eG.pre eG.F JR.pre JR.F Ao.pre Ao.F Br.pre Br.F DA.pre DA.F x.1 x.2.1
def Bu:Sum:=Aj Es EY XO (DenS.dflt EY)
theorem SW:Sound Tryz.prog G1 64 Bu:=sd (cf [(92,eG),(89,JR),(71,Ao),(72,Br),(73,DA)] []) 64 Tryz.f64 ⟨aP7,rE,Do,JX,Xl,trivial⟩ trivial Es EY XO _ (fun _=>aZg ..)
abbrev G5:=Ae Es
abbrev G8:=Ad Es EY
variable (p118:G5)(f118:G8)
abbrev NP:Aa:=[(false,.int .i64)]
abbrev PE:Aa:=[(false,.int .i64)]
def nD(a0:Ab (.int .i64)):Option (DenS PE):=bif((decide (a0<(0:Int)))||(decide (a0>(5:Int))))then(some ((3:Int),()))else some ((0:Int),())
theorem aZx(x:DenS NP):run (cf [] []) 9 139 Tryz.f139 NP PE x=nD x.1:=by kernel_rfl
def XZ(x:DenS NP):Option (DenS PE):=nD x.1
def Re:Sum:=Aj NP PE XZ (DenS.dflt PE)
theorem aP2:Sound Tryz.prog G1 139 Re:=sd (cf [] []) 139 Tryz.f139 trivial trivial NP PE XZ _ (fun _=>aZx ..)
abbrev aEh:=Ae NP
abbrev aF1:=Ad NP PE
variable (p147:aEh)(f147:aF1)
abbrev IT:Aa:=[(false,.int .i64),(false,.int .i64)]
abbrev Jh:Aa:=[(true,.pair (.int .i64) (.pair (.int .i64) (.pair (.int .i64) (.pair (.int .i64) (.unit))))),(false,.int .i64)]
def mL(p69:BF)(f69:BG)(p147:aEh)(f147:aF1)(a0 a1:Ab (.int .i64)):Option (DenS Jh):=bif(p69 (a0,()))then(bif((f69 (a0,())).2.1 !=(0:Int))then(some (f69 (a0,())))else bif(p147 (a1,()))then(some ((f69 (a0,())).1,(f147 (a1,()))))else none)else none
theorem aY5(x:DenS IT):run (cf [(71,⟨BU,BV,p69,f69⟩),(139,⟨NP,PE,p147,f147⟩)] []) 9 121 Tryz.f121 IT Jh x=mL p69 f69 p147 f147 x.1 x.2.1:=by kernel_rfl
def XH(x:DenS IT):Option (DenS Jh):=mL Ao.pre Ao.F Re.pre Re.F x.1 x.2.1
def Fp:Sum:=Aj IT Jh XH (DenS.dflt Jh)
theorem rA:Sound Tryz.prog G1 121 Fp:=sd (cf [(71,Ao),(139,Re)] []) 121 Tryz.f121 ⟨Do,aP2,trivial⟩ trivial IT Jh XH _ (fun _=>aY5 ..)
abbrev U5:=Ae IT
abbrev Vf:=Ad IT Jh
variable (p105:U5)(f105:Vf)
abbrev Bz:Aa:=[(false,.slice (.int .u64))]
abbrev BA:Aa:=[(false,.slice (.int .u64))]
abbrev HV:Pat:=⟨21,[(0,.one (.sl (.int .u64))),(3,.one (.v .i64))],[]⟩
abbrev cX:List (Nat×Shape):=[]
abbrev MI:List (Nat×Pat):=[(0,⟨21,[(0,.one (.sl (.int .u64))),(3,.one (.v .i64))],[]⟩)]
abbrev L4:Option Pat:=none
variable (w173_2:Pat.D HV->Option (Ah MI L4))
def V0{R:Type}(L:Pat.D HV->Option R)(e:Ah MI L4->Option R)(x:Pat.D HV):Option R:=let e1_:=(aa .i64 (x.1.2.1-(1:Int)));bif(((decide ((0:Int)<=e1_))&&(decide (e1_<(x.1.1.length:Int))))||(!(decide (x.1.2.1>(0:Int)))))then(bif((decide (x.1.2.1>(0:Int)))&&((x.1.1.getD (ai e1_) (0:Int))==(0:Int)))then(((L ((x.1.1,e1_,()),()))))else(e (.inl (x.1,()))))else none
theorem bCJ(d:Nat)(R:Type)(L:Pat.D HV->Option R)(e:Ah MI L4->Option R)(x:Pat.D HV):
  BC (cf [] [(93,2,LoopSpec.of HV cX MI L4 w173_2)]) (d+2) 93 (Bw Tryz.f93 2) HV cX MI L4 (R:=R) L e x=V0 L e x:=by kernel_rfl
theorem aKd:Bq fun L e x=>V0 L e x:=by intro _ _ _ _ _ _ _ h0 hL he _;unfold V0;repeat' (first|exact h0|exact hL _|exact he _|apply BM|(apply BN h0;intro _)|(apply BO<;>intro _))
def nM(w173_2:Pat.D HV->Option (Ah MI L4))(a0:Ab (.slice (.int .u64))):Option (DenS BA):=
 Vx.A3 (w173_2 ((a0,(a0.length:Int),()),())) fun y0=>
 Vx.A2 y0 (fun y1=>
 bif((decide ((0:Int)<=y1.1.2.1))&&(decide (y1.1.2.1<=(y1.1.1.length:Int))))then(some (((y1.1.1.take (ai y1.1.2.1)).drop (ai (0:Int))),()))
 else none) (fun z1=>
 none)
theorem aZI(x:DenS Bz):run (cf [] [(93,2,LoopSpec.of HV cX MI L4 w173_2)]) 9 93 Tryz.f93 Bz BA x=nM w173_2 x.1:=by kernel_rfl
def gN:HV.D->Option (Ah MI L4):=Bf fun L=>V0 L some
def Td(x:DenS Bz):Option (DenS BA):=nM gN x.1
def Ag:Sum:=Aj Bz BA Td (DenS.dflt BA)
theorem DO:Sound Tryz.prog G1 93 Ag:=sd (cf [] [(93,2,LoopSpec.of HV cX MI L4 gN)]) 93 Tryz.f93 trivial ⟨rfl,fun d=>BL (fun L e x=>V0 L e x) (aKd) (fun _ _ _ _=>bCJ ..),trivial⟩ Bz BA Td _ (fun _=>aZI ..)
abbrev AZ:=Ae Bz
abbrev A1:=Ad Bz BA
variable (p173:AZ)(f173:A1)
abbrev HB:Aa:=[(false,.slice (.int .u64))]
abbrev HI:Aa:=[(false,.slice (.int .u64))]
def nC(p173:AZ)(f173:A1)(a0:Ab (.slice (.int .u64))):Option (DenS HI):=let e1_:=(ar (ai ((f173 (a0,())).1.length:Int)) (0:Int));bif(p173 (a0,()))then(bif((decide ((0:Int)<=((f173 (a0,())).1.length:Int)))&&(decide ((((f173 (a0,())).1.length:Int)*(8:Int))<=(140737488355328:Int))))then(some ((((f173 (a0,())).1.take e1_.length)++(e1_.drop (f173 (a0,())).1.length)),()))else none)else none
theorem aZw(x:DenS HB):run (cf [(93,⟨Bz,BA,p173,f173⟩)] []) 9 116 Tryz.f116 HB HI x=nC p173 f173 x.1:=by kernel_rfl
def XY(x:DenS HB):Option (DenS HI):=nC Ag.pre Ag.F x.1
def CQ:Sum:=Aj HB HI XY (DenS.dflt HI)
theorem rG:Sound Tryz.prog G1 116 CQ:=sd (cf [(93,Ag)] []) 116 Tryz.f116 ⟨DO,trivial⟩ trivial HB HI XY _ (fun _=>aZw ..)
abbrev Tj:=Ae HB
abbrev Tp:=Ad HB HI
variable (p146:Tj)(f146:Tp)
abbrev E7:Aa:=[(false,.slice (.int .u64))]
abbrev Fg:Aa:=[(false,.slice (.int .u64))]
def mK(p146:Tj)(f146:Tp)(a0:Ab (.slice (.int .u64))):Option (DenS Fg):=bif(p146 (a0,()))then(some (f146 (a0,())))else none
theorem aY2(x:DenS E7):run (cf [(116,⟨HB,HI,p146,f146⟩)] []) 9 122 Tryz.f122 E7 Fg x=mK p146 f146 x.1:=by kernel_rfl
def UF(x:DenS E7):Option (DenS Fg):=mK CQ.pre CQ.F x.1
def Cc:Sum:=Aj E7 Fg UF (DenS.dflt Fg)
theorem Xk:Sound Tryz.prog G1 122 Cc:=sd (cf [(116,CQ)] []) 122 Tryz.f122 ⟨rG,trivial⟩ trivial E7 Fg UF _ (fun _=>aY2 ..)
abbrev G4:=Ae E7
abbrev G7:=Ad E7 Fg
variable (p102:G4)(f102:G7)
abbrev FO:Aa:=[(false,.int .u64)]
abbrev Fi:Aa:=[(false,.int .i64)]
def nQ(a0:Ab (.int .u64)):Option (DenS Fi):=let e10_:=(AE .u64 (AE .u64 a0 (32:Int)) (16:Int));let e1_:=(aa .u8 (AE .u64 e10_ (8:Int)));let e2_:=(aa .u8 e10_);let e3_:=(aa .u8 (AE .u64 (AE .u64 a0 (32:Int)) (8:Int)));let e4_:=(aa .u8 (AE .u64 (AE .u64 a0 (16:Int)) (8:Int)));let e5_:=(aa .u8 (AE .u64 a0 (32:Int)));let e6_:=(aa .u8 (AE .u64 a0 (16:Int)));let e7_:=(aa .u8 (AE .u64 a0 (8:Int)));let e8_:=(aa .i64 ((32:Int)+(16:Int)));let e9_:=(aa .i64 ((0:Int)+(16:Int)));bif(decide (a0>=(4294967296:Int)))then(bif(decide ((AE .u64 a0 (32:Int))>=(65536:Int)))then(bif(decide (e10_>=(256:Int)))then(bif((decide ((0:Int)<=e1_))&&(decide (e1_<(256:Int))))then(some ((aa .i64 ((aa .i64 (e8_+(8:Int)))+(aa .i64 ((UInt8.toNat (Vx.ID.getD (ai e1_) (0:UInt8))):Int)))),()))else none)else bif((decide ((0:Int)<=e2_))&&(decide (e2_<(256:Int))))then(some ((aa .i64 (e8_+(aa .i64 ((UInt8.toNat (Vx.ID.getD (ai e2_) (0:UInt8))):Int)))),()))else none)else bif(decide ((AE .u64 a0 (32:Int))>=(256:Int)))then(bif((decide ((0:Int)<=e3_))&&(decide (e3_<(256:Int))))then(some ((aa .i64 ((aa .i64 ((32:Int)+(8:Int)))+(aa .i64 ((UInt8.toNat (Vx.ID.getD (ai e3_) (0:UInt8))):Int)))),()))else none)else bif((decide ((0:Int)<=e5_))&&(decide (e5_<(256:Int))))then(some ((aa .i64 ((32:Int)+(aa .i64 ((UInt8.toNat (Vx.ID.getD (ai e5_) (0:UInt8))):Int)))),()))else none)else bif(decide (a0>=(65536:Int)))then(bif(decide ((AE .u64 a0 (16:Int))>=(256:Int)))then(bif((decide ((0:Int)<=e4_))&&(decide (e4_<(256:Int))))then(some ((aa .i64 ((aa .i64 (e9_+(8:Int)))+(aa .i64 ((UInt8.toNat (Vx.ID.getD (ai e4_) (0:UInt8))):Int)))),()))else none)else bif((decide ((0:Int)<=e6_))&&(decide (e6_<(256:Int))))then(some ((aa .i64 (e9_+(aa .i64 ((UInt8.toNat (Vx.ID.getD (ai e6_) (0:UInt8))):Int)))),()))else none)else bif(decide (a0>=(256:Int)))then(bif((decide ((0:Int)<=e7_))&&(decide (e7_<(256:Int))))then(some ((aa .i64 ((aa .i64 ((0:Int)+(8:Int)))+(aa .i64 ((UInt8.toNat (Vx.ID.getD (ai e7_) (0:UInt8))):Int)))),()))else none)else bif((decide ((0:Int)<=(aa .u8 a0)))&&(decide ((aa .u8 a0)<(256:Int))))then(some ((aa .i64 ((0:Int)+(aa .i64 ((UInt8.toNat (Vx.ID.getD (ai (aa .u8 a0)) (0:UInt8))):Int)))),()))else none
theorem aZN(x:DenS FO):run (cf [] []) 9 115 Tryz.f115 FO Fi x=nQ x.1:=by kernel_rfl
def X5(x:DenS FO):Option (DenS Fi):=nQ x.1
def CE:Sum:=Aj FO Fi X5 (DenS.dflt Fi)
theorem Xo:Sound Tryz.prog G1 115 CE:=sd (cf [] []) 115 Tryz.f115 trivial trivial FO Fi X5 _ (fun _=>aZN ..)
abbrev Ik:=Ae FO
abbrev Im:=Ad FO Fi
variable (p178:Ik)(f178:Im)
abbrev Ew:Aa:=[(false,.slice (.int .u64))]
abbrev EB:Aa:=[(false,.int .i64)]
def nH(p173:AZ)(f173:A1)(p178:Ik)(f178:Im)(a0:Ab (.slice (.int .u64))):Option (DenS EB):=let e3_:=(aa .i64 (((f173 (a0,())).1.length:Int)-(1:Int)));let e1_:=(((f173 (a0,())).1.getD (ai e3_) (0:Int)),());let e2_:=e3_;bif(p173 (a0,()))then(bif(((f173 (a0,())).1.length:Int)==(0:Int))then(some ((0:Int),()))else bif((decide ((0:Int)<=e2_))&&(decide (e2_<((f173 (a0,())).1.length:Int))))then(bif(p178 e1_)then(some ((aa .i64 ((aa .i64 ((64:Int)*e2_))+(f178 e1_).1)),()))else none)else none)else none
theorem aZB(x:DenS Ew):run (cf [(93,⟨Bz,BA,p173,f173⟩),(115,⟨FO,Fi,p178,f178⟩)] []) 9 98 Tryz.f98 Ew EB x=nH p173 f173 p178 f178 x.1:=by kernel_rfl
def UK(x:DenS Ew):Option (DenS EB):=nH Ag.pre Ag.F CE.pre CE.F x.1
def A8:Sum:=Aj Ew EB UK (DenS.dflt EB)
theorem SY:Sound Tryz.prog G1 98 A8:=sd (cf [(93,Ag),(115,CE)] []) 98 Tryz.f98 ⟨DO,Xo,trivial⟩ trivial Ew EB UK _ (fun _=>aZB ..)
abbrev Fv:=Ae Ew
abbrev Fw:=Ad Ew EB
variable (p151:Fv)(f151:Fw)
abbrev KR:Aa:=[(false,.int .i64),(false,.bool)]
abbrev Lm:Aa:=[(false,.int .u64),(false,.int .i64),(false,.int .i64)]
def nJ(p118:G5)(f118:G8)(a0:Ab (.int .i64))(a1:Ab (.bool)):Option (DenS Lm):=bif(p118 (a0,a1,()))then(some ((f118 (a0,a1,())).1,(0:Int),(f118 (a0,a1,())).2))else none
theorem aZE(x:DenS KR):run (cf [(64,⟨Es,EY,p118,f118⟩)] []) 9 123 Tryz.f123 KR Lm x=nJ p118 f118 x.1 x.2.1:=by kernel_rfl
def X3(x:DenS KR):Option (DenS Lm):=nJ Bu.pre Bu.F x.1 x.2.1
def Ic:Sum:=Aj KR Lm X3 (DenS.dflt Lm)
theorem aBo:Sound Tryz.prog G1 123 Ic:=sd (cf [(64,Bu)] []) 123 Tryz.f123 ⟨SW,trivial⟩ trivial KR Lm X3 _ (fun _=>aZE ..)
abbrev iA:=Ae KR
abbrev iS:=Ad KR Lm
variable (p156:iA)(f156:iS)
abbrev NQ:Aa:=[(true,.pair (.bool) (.pair (.slice (.int .u64)) (.pair (.int .i64) (.pair (.bool) (.unit)))))]
abbrev PF:Aa:=[(false,.int .i64)]
def nE(p151:Fv)(f151:Fw)(a0:Ab (.pair (.bool) (.pair (.slice (.int .u64)) (.pair (.int .i64) (.pair (.bool) (.unit)))))):Option (DenS PF):=bif(p151 (a0.2.1,()))then(some ((aa .i64 ((aa .i64 (a0.2.2.1+(f151 (a0.2.1,())).1))-(1:Int))),()))else none
theorem aZy(x:DenS NQ):run (cf [(98,⟨Ew,EB,p151,f151⟩)] []) 9 140 Tryz.f140 NQ PF x=nE p151 f151 x.1:=by kernel_rfl
def X0(x:DenS NQ):Option (DenS PF):=nE A8.pre A8.F x.1
def Ux:Sum:=Aj NQ PF X0 (DenS.dflt PF)
theorem aP3:Sound Tryz.prog G1 140 Ux:=sd (cf [(98,A8)] []) 140 Tryz.f140 ⟨SY,trivial⟩ trivial NQ PF X0 _ (fun _=>aZy ..)
abbrev aEi:=Ae NQ
abbrev aF2:=Ad NQ PF
variable (p148:aEi)(f148:aF2)
abbrev Hy:Aa:=[(true,.slice (.int .u64))]
abbrev HF:Aa:=[(true,.slice (.int .u64))]
abbrev HN:Pat:=⟨21,[(0,.one (.own 0)),(3,.one (.v .i64))],[.arr (.int .u64)]⟩
abbrev cM:List (Nat×Shape):=[]
abbrev Mz:List (Nat×Pat):=[(0,⟨21,[(0,.one (.own 0)),(3,.one (.v .i64))],[.arr (.int .u64)]⟩)]
abbrev LR:Option Pat:=none
variable (w1173_2:Pat.D HN->Option (Ah Mz LR))
def VR{R:Type}(L:Pat.D HN->Option R)(e:Ah Mz LR->Option R)(x:Pat.D HN):Option R:=let e1_:=(aa .i64 (x.1.2.1-(1:Int)));bif(((decide ((0:Int)<=e1_))&&(decide (e1_<(x.2.1.length:Int))))||(!(decide (x.1.2.1>(0:Int)))))then(bif((decide (x.1.2.1>(0:Int)))&&((x.2.1.getD (ai e1_) (0:Int))==(0:Int)))then(((L (((),e1_,()),x.2))))else(e (.inl (((),x.1.2),x.2))))else none
theorem bCA(d:Nat)(R:Type)(L:Pat.D HN->Option R)(e:Ah Mz LR->Option R)(x:Pat.D HN):
  BC ({cf [] [(93,2,LoopSpec.of HN cM Mz LR w1173_2)]with keep:=true}) (d+2) 93 (Bw Tryz.f93 2) HN cM Mz LR (R:=R) L e x=VR L e x:=by kernel_rfl
theorem aJ5:Bq fun L e x=>VR L e x:=by intro _ _ _ _ _ _ _ h0 hL he _;unfold VR;repeat' (first|exact h0|exact hL _|exact he _|apply BM|(apply BN h0;intro _)|(apply BO<;>intro _))
def mP(w1173_2:Pat.D HN->Option (Ah Mz LR))(a0:Ab (.slice (.int .u64))):Option (DenS HF):=
 Vx.A3 (w1173_2 (((),(a0.length:Int),()),a0,())) fun y0=>
 Vx.A2 y0 (fun y1=>
 bif((decide ((0:Int)<=y1.1.2.1))&&(decide (y1.1.2.1<=(y1.2.1.length:Int))))then(some ((y1.2.1.take (ai y1.1.2.1)),()))
 else none) (fun z1=>
 none)
theorem aZe(x:DenS Hy):run ({cf [] [(93,2,LoopSpec.of HN cM Mz LR w1173_2)]with keep:=true}) 9 93 Tryz.f93 Hy HF x=mP w1173_2 x.1:=by kernel_rfl
def gI:HN.D->Option (Ah Mz LR):=Bf fun L=>VR L some
def XM(x:DenS Hy):Option (DenS HF):=mP gI x.1
def B7:Sum:=Aj Hy HF XM (DenS.dflt HF)
theorem aBj:Sound Tryz.prog G1 93 B7:=sd ({cf [] [(93,2,LoopSpec.of HN cM Mz LR gI)]with keep:=true}) 93 Tryz.f93 trivial ⟨rfl,fun d=>BL (fun L e x=>VR L e x) (aJ5) (fun _ _ _ _=>bCA ..),trivial⟩ Hy HF XM _ (fun _=>aZe ..)
abbrev RW:=Ae Hy
abbrev RZ:=Ad Hy HF
variable (p1173:RW)(f1173:RZ)
abbrev NK:Aa:=[(false,.slice (.int .u64)),(false,.int .i64)]
abbrev Px:Aa:=[(true,.slice (.int .u64))]
abbrev HM:Pat:=⟨66,[(25,.one (.v .i64)),(0,.one (.sl (.int .u64))),(5,.one (.v .i64)),(6,.one (.v .i64)),(26,.one (.v .i64)),(7,.one (.own 0))],[.arr (.int .u64)]⟩
abbrev cL:List (Nat×Shape):=[]
abbrev My:List (Nat×Pat):=[(0,⟨66,[(7,.one (.own 0))],[.arr (.int .u64)]⟩)]
abbrev LQ:Option Pat:=none
variable (w1171_7:Pat.D HM->Option (Ah My LQ))
def VQ(p1173:RW)(f1173:RZ)(p173:AZ)(f173:A1){R:Type}(L:Pat.D HM->Option R)(e:Ah My LQ->Option R)(x:Pat.D HM):Option R:=let e10_:=(aa .i64 (x.1.2.2.1+x.1.2.2.2.2.1));let e8_:=(x.2.1.set (ai x.1.2.2.2.2.1) (AE .u64 (x.1.2.1.getD (ai e10_) (0:Int)) x.1.2.2.2.1));let e1_:=((decide ((0:Int)<=x.1.2.2.2.2.1))&&(decide (x.1.2.2.2.2.1<(e8_.length:Int))));let e2_:=e8_;let e9_:=(aa .i64 (e10_+(1:Int)));let e3_:=(decide (e9_<(x.1.2.1.length:Int)));let e4_:=(x.1.1,x.1.2.1,x.1.2.2.1,x.1.2.2.2.1,(aa .i64 (x.1.2.2.2.2.1+(1:Int))),(),());let e5_:=e9_;let e6_:=e10_;let e7_:=(aa .i64 ((64:Int)-x.1.2.2.2.1));bif(decide (x.1.2.2.2.2.1<x.1.1))then(bif((decide ((0:Int)<=e6_))&&(decide (e6_<(x.1.2.1.length:Int))))then(bif(decide ((0:Int)<=x.1.2.2.2.1))then(bif((decide ((0:Int)<=x.1.2.2.2.2.1))&&(decide (x.1.2.2.2.2.1<(x.2.1.length:Int))))then(bif e3_ then(bif e1_ then(bif((decide ((0:Int)<=e5_))&&e3_)then(bif(decide ((0:Int)<=e7_))then(bif e1_ then(((L (e4_,(e2_.set (ai x.1.2.2.2.2.1) (Aq .u64 (e2_.getD (ai x.1.2.2.2.2.1) (0:Int)) (AQ .u64 (x.1.2.1.getD (ai e5_) (0:Int)) e7_))),()))))else none)else none)else none)else none)else(L (e4_,e2_,())))else none)else none)else none)else(e (.inl (((),()),x.2)))
theorem bCz(d:Nat)(R:Type)(L:Pat.D HM->Option R)(e:Ah My LQ->Option R)(x:Pat.D HM):
  BC ({cf [(93,⟨Hy,HF,p1173,f1173⟩),(93,⟨Bz,BA,p173,f173⟩)] [(100,7,LoopSpec.of HM cL My LQ w1171_7)]with keep:=true}) (d+2) 100 (Bw Tryz.f100 7) HM cL My LQ (R:=R) L e x=VQ p1173 f1173 p173 f173 L e x:=by kernel_rfl
theorem aJ4(p1173:RW)(f1173:RZ)(p173:AZ)(f173:A1):Bq fun L e x=>VQ p1173 f1173 p173 f173 L e x:=by intro _ _ _ _ _ _ _ h0 hL he _;unfold VQ;repeat' (first|exact h0|exact hL _|exact he _|apply BM|(apply BN h0;intro _)|(apply BO<;>intro _))
def mO(p1173:RW)(f1173:RZ)(p173:AZ)(f173:A1)(w1171_7:Pat.D HM->Option (Ah My LQ))(a0:Ab (.slice (.int .u64)))(a1:Ab (.int .i64)):Option (DenS Px):=
 let e3_:=(aa .i64 (((f173 (a0,())).1.length:Int)-(BK .i64 a1 (64:Int))))
 let e1_:=(ar (ai e3_) (0:Int))
 let e2_:=e3_
 bif(p173 (a0,()))then(bif(decide ((BK .i64 a1 (64:Int))>=((f173 (a0,())).1.length:Int)))then(some ([],()))
 else bif((decide ((0:Int)<=e2_))&&(decide ((e2_*(8:Int))<=(140737488355328:Int))))then(Vx.A3 (w1171_7 (((e1_.length:Int),(f173 (a0,())).1,(BK .i64 a1 (64:Int)),(iu a1 (64:Int)),(0:Int),(),()),e1_,())) fun y3=>
 Vx.A2 y3 (fun y4=>
 bif(p1173 y4.2)then(some (f1173 y4.2))
 else none) (fun z4=>
 none))
 else none)
 else none
theorem aZd(x:DenS NK):run ({cf [(93,⟨Hy,HF,p1173,f1173⟩),(93,⟨Bz,BA,p173,f173⟩)] [(100,7,LoopSpec.of HM cL My LQ w1171_7)]with keep:=true}) 9 100 Tryz.f100 NK Px x=mO p1173 f1173 p173 f173 w1171_7 x.1 x.2.1:=by kernel_rfl
def gH:HM.D->Option (Ah My LQ):=Bf fun L=>VQ B7.pre B7.F Ag.pre Ag.F L some
def XL(x:DenS NK):Option (DenS Px):=mO B7.pre B7.F Ag.pre Ag.F gH x.1 x.2.1
def Rb:Sum:=Aj NK Px XL (DenS.dflt Px)
theorem aPT:Sound Tryz.prog G1 100 Rb:=sd ({cf [(93,B7),(93,Ag)] [(100,7,LoopSpec.of HM cL My LQ gH)]with keep:=true}) 100 Tryz.f100 ⟨aBj,DO,trivial⟩ ⟨rfl,fun d=>BL (fun L e x=>VQ B7.pre B7.F Ag.pre Ag.F L e x) (aJ4 B7.pre B7.F Ag.pre Ag.F) (fun _ _ _ _=>bCz ..),trivial⟩ NK Px XL _ (fun _=>aZd ..)
abbrev aD9:=Ae NK
abbrev aFT:=Ad NK Px
variable (p1171:aD9)(f1171:aFT)
abbrev FM:Aa:=[(false,.slice (.int .u64)),(false,.int .i64)]
abbrev FT:Aa:=[(false,.slice (.int .u64))]
abbrev HT:Pat:=⟨66,[(25,.one (.v .i64)),(0,.one (.sl (.int .u64))),(5,.one (.v .i64)),(6,.one (.v .i64)),(26,.one (.v .i64)),(7,.one (.own 0))],[.arr (.int .u64)]⟩
abbrev cV:List (Nat×Shape):=[]
abbrev MG:List (Nat×Pat):=[(0,⟨66,[(7,.one (.own 0))],[.arr (.int .u64)]⟩)]
abbrev LZ:Option Pat:=none
variable (w171_7:Pat.D HT->Option (Ah MG LZ))
def VZ(p173:AZ)(f173:A1){R:Type}(L:Pat.D HT->Option R)(e:Ah MG LZ->Option R)(x:Pat.D HT):Option R:=let e10_:=(aa .i64 (x.1.2.2.1+x.1.2.2.2.2.1));let e8_:=(x.2.1.set (ai x.1.2.2.2.2.1) (AE .u64 (x.1.2.1.getD (ai e10_) (0:Int)) x.1.2.2.2.1));let e1_:=((decide ((0:Int)<=x.1.2.2.2.2.1))&&(decide (x.1.2.2.2.2.1<(e8_.length:Int))));let e2_:=e8_;let e9_:=(aa .i64 (e10_+(1:Int)));let e3_:=(decide (e9_<(x.1.2.1.length:Int)));let e4_:=(x.1.1,x.1.2.1,x.1.2.2.1,x.1.2.2.2.1,(aa .i64 (x.1.2.2.2.2.1+(1:Int))),(),());let e5_:=e9_;let e6_:=e10_;let e7_:=(aa .i64 ((64:Int)-x.1.2.2.2.1));bif(decide (x.1.2.2.2.2.1<x.1.1))then(bif((decide ((0:Int)<=e6_))&&(decide (e6_<(x.1.2.1.length:Int))))then(bif(decide ((0:Int)<=x.1.2.2.2.1))then(bif((decide ((0:Int)<=x.1.2.2.2.2.1))&&(decide (x.1.2.2.2.2.1<(x.2.1.length:Int))))then(bif e3_ then(bif e1_ then(bif((decide ((0:Int)<=e5_))&&e3_)then(bif(decide ((0:Int)<=e7_))then(bif e1_ then(((L (e4_,(e2_.set (ai x.1.2.2.2.2.1) (Aq .u64 (e2_.getD (ai x.1.2.2.2.2.1) (0:Int)) (AQ .u64 (x.1.2.1.getD (ai e5_) (0:Int)) e7_))),()))))else none)else none)else none)else none)else(L (e4_,e2_,())))else none)else none)else none)else(e (.inl (((),()),x.2)))
theorem bCH(d:Nat)(R:Type)(L:Pat.D HT->Option R)(e:Ah MG LZ->Option R)(x:Pat.D HT):
  BC (cf [(93,⟨Bz,BA,p173,f173⟩)] [(100,7,LoopSpec.of HT cV MG LZ w171_7)]) (d+2) 100 (Bw Tryz.f100 7) HT cV MG LZ (R:=R) L e x=VZ p173 f173 L e x:=by kernel_rfl
theorem aKc(p173:AZ)(f173:A1):Bq fun L e x=>VZ p173 f173 L e x:=by intro _ _ _ _ _ _ _ h0 hL he _;unfold VZ;repeat' (first|exact h0|exact hL _|exact he _|apply BM|(apply BN h0;intro _)|(apply BO<;>intro _))
def nL(p173:AZ)(f173:A1)(w171_7:Pat.D HT->Option (Ah MG LZ))(a0:Ab (.slice (.int .u64)))(a1:Ab (.int .i64)):Option (DenS FT):=
 let e3_:=(aa .i64 (((f173 (a0,())).1.length:Int)-(BK .i64 a1 (64:Int))))
 let e1_:=(ar (ai e3_) (0:Int))
 let e2_:=e3_
 bif(p173 (a0,()))then(bif(decide ((BK .i64 a1 (64:Int))>=((f173 (a0,())).1.length:Int)))then(some ([],()))
 else bif((decide ((0:Int)<=e2_))&&(decide ((e2_*(8:Int))<=(140737488355328:Int))))then(Vx.A3 (w171_7 (((e1_.length:Int),(f173 (a0,())).1,(BK .i64 a1 (64:Int)),(iu a1 (64:Int)),(0:Int),(),()),e1_,())) fun y3=>
 Vx.A2 y3 (fun y4=>
 bif(p173 y4.2)then(some (f173 y4.2))
 else none) (fun z4=>
 none))
 else none)
 else none
theorem aZG(x:DenS FM):run (cf [(93,⟨Bz,BA,p173,f173⟩)] [(100,7,LoopSpec.of HT cV MG LZ w171_7)]) 9 100 Tryz.f100 FM FT x=nL p173 f173 w171_7 x.1 x.2.1:=by kernel_rfl
def gM:HT.D->Option (Ah MG LZ):=Bf fun L=>VZ Ag.pre Ag.F L some
def Tc(x:DenS FM):Option (DenS FT):=nL Ag.pre Ag.F gM x.1 x.2.1
def BI:Sum:=Aj FM FT Tc (DenS.dflt FT)
theorem eI:Sound Tryz.prog G1 100 BI:=sd (cf [(93,Ag)] [(100,7,LoopSpec.of HT cV MG LZ gM)]) 100 Tryz.f100 ⟨DO,trivial⟩ ⟨rfl,fun d=>BL (fun L e x=>VZ Ag.pre Ag.F L e x) (aKc Ag.pre Ag.F) (fun _ _ _ _=>bCH ..),trivial⟩ FM FT Tc _ (fun _=>aZG ..)
abbrev Ij:=Ae FM
abbrev Il:=Ad FM FT
variable (p171:Ij)(f171:Il)
abbrev GF:Aa:=[(false,.int .u64)]
abbrev GR:Aa:=[(false,.int .i64)]
def pS(a0:Ab (.int .u64)):Option (DenS GR):=let e1_:=(AE .u64 (aa .u64 ((Bs .u64 a0 (aa .u64 ((0:Int)-a0)))*(285870213051353865:Int))) (58:Int));bif(a0==(0:Int))then(some ((64:Int),()))else bif(Vx.zJ ((decide ((0:Int)<=e1_))&&(decide (e1_<((64:Nat):Int)))))then(some ((aa .i64 (Vx.k_deb.getD (ai e1_) (0:Int))),()))else none
theorem r92(x:DenS GF):run (cf [] []) 9 191 Tryz.f191 GF GR x=pS x.1:=by kernel_rfl
def YY(x:DenS GF):Option (DenS GR):=pS x.1
def Cv:Sum:=Aj GF GR YY (DenS.dflt GR)
theorem rV:Sound Tryz.prog G1 191 Cv:=sd (cf [] []) 191 Tryz.f191 trivial trivial GF GR YY _ (fun _=>r92 ..)
abbrev Kb:=Ae GF
abbrev Kh:=Ad GF GR
variable (p92:Kb)(f92:Kh)
abbrev NY:Aa:=[(false,.slice (.int .u64)),(false,.int .i64)]
abbrev PO:Aa:=[(false,.bool)]
abbrev HX:Pat:=⟨25,[(9,.one (.v .i64)),(8,.one (.sl (.int .u64))),(1,.one (.v .i64)),(10,.one (.v .i64))],[]⟩
abbrev cZ:List (Nat×Shape):=[]
abbrev MK:List (Nat×Pat):=[(0,⟨25,[],[]⟩)]
abbrev L6:Option Pat:=(some ⟨25,[(4,.one (.bool))],[]⟩)
variable (w184_2:Pat.D HX->Option (Ah MK L6))
def V1(p173:AZ)(f173:A1)(p92:Kb)(f92:Kh){R:Type}(L:Pat.D HX->Option R)(e:Ah MK L6->Option R)(x:Pat.D HX):Option R:=let e2_:=(x.1.2.1.getD (ai x.1.2.2.2.1) (0:Int));let e1_:=(e2_,());bif(decide (x.1.2.2.2.1<x.1.1))then(bif((decide ((0:Int)<=x.1.2.2.2.1))&&(decide (x.1.2.2.2.1<(x.1.2.1.length:Int))))then(bif(e2_ !=(0:Int))then(bif(p92 e1_)then(((e (.inr (((decide ((aa .i64 ((aa .i64 ((64:Int)*x.1.2.2.2.1))+(f92 e1_).1))>=x.1.2.2.1)),()),())))))else none)else(L ((x.1.1,x.1.2.1,x.1.2.2.1,(aa .i64 (x.1.2.2.2.1+(1:Int))),()),())))else none)else(e (.inl ((),())))
theorem bCL(d:Nat)(R:Type)(L:Pat.D HX->Option R)(e:Ah MK L6->Option R)(x:Pat.D HX):
  BC (cf [(93,⟨Bz,BA,p173,f173⟩),(191,⟨GF,GR,p92,f92⟩)] [(156,2,LoopSpec.of HX cZ MK L6 w184_2)]) (d+2) 156 (Bw Tryz.f156 2) HX cZ MK L6 (R:=R) L e x=V1 p173 f173 p92 f92 L e x:=by kernel_rfl
theorem aKe(p173:AZ)(f173:A1)(p92:Kb)(f92:Kh):Bq fun L e x=>V1 p173 f173 p92 f92 L e x:=by intro _ _ _ _ _ _ _ h0 hL he _;unfold V1;repeat' (first|exact h0|exact hL _|exact he _|apply BM|(apply BN h0;intro _)|(apply BO<;>intro _))
def nR(p173:AZ)(f173:A1)(p92:Kb)(f92:Kh)(w184_2:Pat.D HX->Option (Ah MK L6))(a0:Ab (.slice (.int .u64)))(a1:Ab (.int .i64)):Option (DenS PO):=
 bif(p173 (a0,()))then(Vx.A3 (w184_2 ((((f173 (a0,())).1.length:Int),(f173 (a0,())).1,a1,(0:Int),()),())) fun y1=>
 Vx.A2 y1 (fun y2=>
 some (true,())) (fun z2=>
 some z2.1))
 else none
theorem aZO(x:DenS NY):run (cf [(93,⟨Bz,BA,p173,f173⟩),(191,⟨GF,GR,p92,f92⟩)] [(156,2,LoopSpec.of HX cZ MK L6 w184_2)]) 9 156 Tryz.f156 NY PO x=nR p173 f173 p92 f92 w184_2 x.1 x.2.1:=by kernel_rfl
def gO:HX.D->Option (Ah MK L6):=Bf fun L=>V1 Ag.pre Ag.F Cv.pre Cv.F L some
def X6(x:DenS NY):Option (DenS PO):=nR Ag.pre Ag.F Cv.pre Cv.F gO x.1 x.2.1
def Rf:Sum:=Aj NY PO X6 (DenS.dflt PO)
theorem aQd:Sound Tryz.prog G1 156 Rf:=sd (cf [(93,Ag),(191,Cv)] [(156,2,LoopSpec.of HX cZ MK L6 gO)]) 156 Tryz.f156 ⟨DO,rV,trivial⟩ ⟨rfl,fun d=>BL (fun L e x=>V1 Ag.pre Ag.F Cv.pre Cv.F L e x) (aKe Ag.pre Ag.F Cv.pre Cv.F) (fun _ _ _ _=>bCL ..),trivial⟩ NY PO X6 _ (fun _=>aZO ..)
abbrev aEq:=Ae NY
abbrev aGa:=Ad NY PO
variable (p184:aEq)(f184:aGa)
abbrev NW:Aa:=[(false,.slice (.int .u64)),(false,.int .i64)]
abbrev PM:Aa:=[(false,.slice (.int .u64)),(false,.int .i64)]
def nN(p1171:aD9)(f1171:aFT)(p171:Ij)(f171:Il)(p184:aEq)(f184:aGa)(a0:Ab (.slice (.int .u64)))(a1:Ab (.int .i64)):Option (DenS PM):=let e1_:=(decide ((0:Int)<((f1171 (a0,a1,())).1.length:Int)));bif(decide (a1<(0:Int)))then(some ([],(7:Int),()))else bif(p1171 (a0,a1,()))then(bif(p184 (a0,a1,()))then(bif(!(f184 (a0,a1,())).1)then(bif(((f1171 (a0,a1,())).1.length:Int)==(0:Int))then(some (((1:Int)::[]),(0:Int),()))else bif e1_ then(bif e1_ then(some (((f1171 (a0,a1,())).1.set (ai (0:Int)) (Aq .u64 ((f1171 (a0,a1,())).1.getD (ai (0:Int)) (0:Int)) (1:Int))),(0:Int),()))else none)else none)else some ((f1171 (a0,a1,())).1,(0:Int),()))else none)else none
theorem aZK(x:DenS NW):run (cf [(100,⟨NK,Px,p1171,f1171⟩),(100,⟨FM,FT,p171,f171⟩),(156,⟨NY,PO,p184,f184⟩)] []) 9 150 Tryz.f150 NW PM x=nN p1171 f1171 p171 f171 p184 f184 x.1 x.2.1:=by kernel_rfl
def UM(x:DenS NW):Option (DenS PM):=nN Rb.pre Rb.F BI.pre BI.F Rf.pre Rf.F x.1 x.2.1
def UC:Sum:=Aj NW PM UM (DenS.dflt PM)
theorem aQb:Sound Tryz.prog G1 150 UC:=sd (cf [(100,Rb),(100,BI),(156,Rf)] []) 150 Tryz.f150 ⟨aPT,eI,aQd,trivial⟩ trivial NW PM UM _ (fun _=>aZK ..)
abbrev aEo:=Ae NW
abbrev aF8:=Ad NW PM
variable (p175:aEo)(f175:aF8)
abbrev GA:Aa:=[(false,.slice (.int .u64)),(false,.int .i64)]
abbrev GM:Aa:=[(false,.slice (.int .u64))]
abbrev HZ:Pat:=⟨56,[(26,.one (.v .i64)),(25,.one (.sl (.int .u64))),(5,.one (.v .i64)),(6,.one (.v .i64)),(27,.one (.v .i64)),(7,.one (.own 0))],[.arr (.int .u64)]⟩
abbrev dB:List (Nat×Shape):=[]
abbrev MM:List (Nat×Pat):=[(0,⟨56,[(7,.one (.own 0))],[.arr (.int .u64)]⟩)]
abbrev L8:Option Pat:=none
variable (w186_7:Pat.D HZ->Option (Ah MM L8))
def V3(p173:AZ)(f173:A1){R:Type}(L:Pat.D HZ->Option R)(e:Ah MM L8->Option R)(x:Pat.D HZ):Option R:=let e6_:=(aa .i64 (x.1.2.2.1+x.1.2.2.2.2.1));let e5_:=(ai e6_);let e7_:=(x.1.2.1.getD (ai x.1.2.2.2.2.1) (0:Int));let e1_:=(x.2.1.set e5_ (Aq .u64 (x.2.1.getD e5_ (0:Int)) (AQ .u64 e7_ x.1.2.2.2.1)));let e2_:=((decide ((0:Int)<=e6_))&&(decide (e6_<(x.2.1.length:Int))));let e3_:=(aa .i64 (e6_+(1:Int)));let e4_:=(aa .i64 ((64:Int)-x.1.2.2.2.1));bif(decide (x.1.2.2.2.2.1<x.1.1))then(bif((decide ((0:Int)<=x.1.2.2.2.2.1))&&(decide (x.1.2.2.2.2.1<(x.1.2.1.length:Int))))then(bif e2_ then(bif(decide ((0:Int)<=x.1.2.2.2.1))then(bif e2_ then(bif(decide ((0:Int)<=e4_))then(bif((decide ((0:Int)<=e3_))&&(decide (e3_<(e1_.length:Int))))then(((L ((x.1.1,x.1.2.1,x.1.2.2.1,x.1.2.2.2.1,(aa .i64 (x.1.2.2.2.2.1+(1:Int))),(),()),(e1_.set (ai e3_) (AE .u64 e7_ e4_)),()))))else none)else none)else none)else none)else none)else none)else(e (.inl (((),()),x.2)))
theorem bCN(d:Nat)(R:Type)(L:Pat.D HZ->Option R)(e:Ah MM L8->Option R)(x:Pat.D HZ):
  BC (cf [(93,⟨Bz,BA,p173,f173⟩)] [(97,7,LoopSpec.of HZ dB MM L8 w186_7)]) (d+2) 97 (Bw Tryz.f97 7) HZ dB MM L8 (R:=R) L e x=V3 p173 f173 L e x:=by kernel_rfl
theorem aKg(p173:AZ)(f173:A1):Bq fun L e x=>V3 p173 f173 L e x:=by intro _ _ _ _ _ _ _ h0 hL he _;unfold V3;repeat' (first|exact h0|exact hL _|exact he _|apply BM|(apply BN h0;intro _)|(apply BO<;>intro _))
def nT(p173:AZ)(f173:A1)(w186_7:Pat.D HZ->Option (Ah MM L8))(a0:Ab (.slice (.int .u64)))(a1:Ab (.int .i64)):Option (DenS GM):=
 let e1_:=(aa .i64 ((aa .i64 ((BK .i64 a1 (64:Int))+((f173 (a0,())).1.length:Int)))+(1:Int)))
 bif(p173 (a0,()))then(bif(((f173 (a0,())).1.length:Int)==(0:Int))then(some ([],()))
 else bif((decide ((0:Int)<=e1_))&&(decide ((e1_*(8:Int))<=(140737488355328:Int))))then(Vx.A3 (w186_7 ((((f173 (a0,())).1.length:Int),(f173 (a0,())).1,(BK .i64 a1 (64:Int)),(iu a1 (64:Int)),(0:Int),(),()),(ar (ai e1_) (0:Int)),())) fun y3=>
 Vx.A2 y3 (fun y4=>
 bif(p173 y4.2)then(some (f173 y4.2))
 else none) (fun z4=>
 none))
 else none)
 else none
theorem aZQ(x:DenS GA):run (cf [(93,⟨Bz,BA,p173,f173⟩)] [(97,7,LoopSpec.of HZ dB MM L8 w186_7)]) 9 97 Tryz.f97 GA GM x=nT p173 f173 w186_7 x.1 x.2.1:=by kernel_rfl
def gQ:HZ.D->Option (Ah MM L8):=Bf fun L=>V3 Ag.pre Ag.F L some
def RS(x:DenS GA):Option (DenS GM):=nT Ag.pre Ag.F gQ x.1 x.2.1
def B0:Sum:=Aj GA GM RS (DenS.dflt GM)
theorem rH:Sound Tryz.prog G1 97 B0:=sd (cf [(93,Ag)] [(97,7,LoopSpec.of HZ dB MM L8 gQ)]) 97 Tryz.f97 ⟨DO,trivial⟩ ⟨rfl,fun d=>BL (fun L e x=>V3 Ag.pre Ag.F L e x) (aKg Ag.pre Ag.F) (fun _ _ _ _=>bCN ..),trivial⟩ GA GM RS _ (fun _=>aZQ ..)
abbrev Ka:=Ae GA
abbrev Kg:=Ad GA GM
variable (p186:Ka)(f186:Kg)
abbrev Gz:Aa:=[(false,.slice (.slice (.int .u64)))]
abbrev GL:Aa:=[(false,.bool)]
abbrev HY:Pat:=⟨16,[(6,.one (.v .i64)),(5,.one (.sl (.slice (.int .u64)))),(7,.one (.v .i64))],[]⟩
abbrev dA:List (Nat×Shape):=[]
abbrev ML:List (Nat×Pat):=[(0,⟨16,[],[]⟩)]
abbrev L7:Option Pat:=(some ⟨16,[(2,.one (.bool))],[]⟩)
variable (w185_2:Pat.D HY->Option (Ah ML L7))
def V2(p173:AZ)(f173:A1){R:Type}(L:Pat.D HY->Option R)(e:Ah ML L7->Option R)(x:Pat.D HY):Option R:=bif(decide (x.1.2.2.1<x.1.1))then(bif((decide ((0:Int)<=x.1.2.2.1))&&(decide (x.1.2.2.1<(x.1.2.1.length:Int))))then(bif(p173 ((x.1.2.1.getD (ai x.1.2.2.1) []),()))then(bif(decide (((f173 ((x.1.2.1.getD (ai x.1.2.2.1) []),())).1.length:Int)>(1024:Int)))then(((e (.inr ((true,()),())))))else(L ((x.1.1,x.1.2.1,(aa .i64 (x.1.2.2.1+(1:Int))),()),())))else none)else none)else(e (.inl ((),())))
theorem bCM(d:Nat)(R:Type)(L:Pat.D HY->Option R)(e:Ah ML L7->Option R)(x:Pat.D HY):
  BC (cf [(93,⟨Bz,BA,p173,f173⟩)] [(96,2,LoopSpec.of HY dA ML L7 w185_2)]) (d+2) 96 (Bw Tryz.f96 2) HY dA ML L7 (R:=R) L e x=V2 p173 f173 L e x:=by kernel_rfl
theorem aKf(p173:AZ)(f173:A1):Bq fun L e x=>V2 p173 f173 L e x:=by intro _ _ _ _ _ _ _ h0 hL he _;unfold V2;repeat' (first|exact h0|exact hL _|exact he _|apply BM|(apply BN h0;intro _)|(apply BO<;>intro _))
def nS(p173:AZ)(f173:A1)(w185_2:Pat.D HY->Option (Ah ML L7))(a0:Ab (.slice (.slice (.int .u64)))):Option (DenS GL):=
 Vx.A3 (w185_2 (((a0.length:Int),a0,(0:Int),()),())) fun y0=>
 Vx.A2 y0 (fun y1=>
 some (false,())) (fun z1=>
 some z1.1)
theorem aZP(x:DenS Gz):run (cf [(93,⟨Bz,BA,p173,f173⟩)] [(96,2,LoopSpec.of HY dA ML L7 w185_2)]) 9 96 Tryz.f96 Gz GL x=nS p173 f173 w185_2 x.1:=by kernel_rfl
def gP:HY.D->Option (Ah ML L7):=Bf fun L=>V2 Ag.pre Ag.F L some
def Ig(x:DenS Gz):Option (DenS GL):=nS Ag.pre Ag.F gP x.1
def Cp:Sum:=Aj Gz GL Ig (DenS.dflt GL)
theorem eK:Sound Tryz.prog G1 96 Cp:=sd (cf [(93,Ag)] [(96,2,LoopSpec.of HY dA ML L7 gP)]) 96 Tryz.f96 ⟨DO,trivial⟩ ⟨rfl,fun d=>BL (fun L e x=>V2 Ag.pre Ag.F L e x) (aKf Ag.pre Ag.F) (fun _ _ _ _=>bCM ..),trivial⟩ Gz GL Ig _ (fun _=>aZP ..)
abbrev J9:=Ae Gz
abbrev Kf:=Ad Gz GL
variable (p185:J9)(f185:Kf)
abbrev FN:Aa:=[(false,.slice (.int .u64)),(false,.int .i64)]
abbrev FU:Aa:=[(false,.slice (.int .u64)),(false,.int .i64)]
def nO(p186:Ka)(f186:Kg)(p185:J9)(f185:Kf)(a0:Ab (.slice (.int .u64)))(a1:Ab (.int .i64)):Option (DenS FU):=bif((decide (a1<(0:Int)))||(decide (a1>(65536:Int))))then(some ([],(7:Int),()))else bif(p185 ((a0::[]),()))then(bif(f185 ((a0::[]),())).1 then(some ([],(5:Int),()))else bif(p186 (a0,a1,()))then(bif(p185 (((f186 (a0,a1,())).1::[]),()))then(bif(f185 (((f186 (a0,a1,())).1::[]),())).1 then(some ([],(5:Int),()))else some ((f186 (a0,a1,())).1,(0:Int),()))else none)else none)else none
theorem aZL(x:DenS FN):run (cf [(97,⟨GA,GM,p186,f186⟩),(96,⟨Gz,GL,p185,f185⟩)] []) 9 67 Tryz.f67 FN FU x=nO p186 f186 p185 f185 x.1 x.2.1:=by kernel_rfl
def JY(x:DenS FN):Option (DenS FU):=nO B0.pre B0.F Cp.pre Cp.F x.1 x.2.1
def BS:Sum:=Aj FN FU JY (DenS.dflt FU)
theorem Xn:Sound Tryz.prog G1 67 BS:=sd (cf [(97,B0),(96,Cp)] []) 67 Tryz.f67 ⟨rH,eK,trivial⟩ trivial FN FU JY _ (fun _=>aZL ..)
abbrev J8:=Ae FN
abbrev Ke:=Ad FN FU
variable (p176:J8)(f176:Ke)
abbrev HA:Aa:=[(false,.slice (.int .u64)),(false,.int .i64)]
abbrev HH:Aa:=[(false,.slice (.int .u64)),(false,.int .i64)]
def m8(p171:Ij)(f171:Il)(a0:Ab (.slice (.int .u64)))(a1:Ab (.int .i64)):Option (DenS HH):=bif(decide (a1<(0:Int)))then(some ([],(7:Int),()))else bif(p171 (a0,a1,()))then(some ((f171 (a0,a1,())).1,(0:Int),()))else none
theorem aZr(x:DenS HA):run (cf [(100,⟨FM,FT,p171,f171⟩)] []) 9 103 Tryz.f103 HA HH x=m8 p171 f171 x.1 x.2.1:=by kernel_rfl
def Ms(x:DenS HA):Option (DenS HH):=m8 BI.pre BI.F x.1 x.2.1
def DB:Sum:=Aj HA HH Ms (DenS.dflt HH)
theorem rF:Sound Tryz.prog G1 103 DB:=sd (cf [(100,BI)] []) 103 Tryz.f103 ⟨eI,trivial⟩ trivial HA HH Ms _ (fun _=>aZr ..)
abbrev RX:=Ae HA
abbrev R0:=Ad HA HH
variable (p141:RX)(f141:R0)
abbrev NX:Aa:=[(false,.int .i64),(false,.bool),(false,.bool),(false,.int .u64)]
abbrev PN:Aa:=[(false,.bool)]
def nP(a0:Ab (.int .i64))(a1 a2:Ab (.bool))(a3:Ab (.int .u64)):Option (DenS PN):=bif(a0==(4:Int))then(some ((!(!a1)),()))else bif(a0==(3:Int))then(some ((!a1),()))else bif(a0==(0:Int))then(bif(a3==(2:Int))then(some (a2,()))else some ((decide (a3>=(2:Int))),()))else bif(a0==(1:Int))then(some ((decide (a3>=(2:Int))),()))else bif(a0==(5:Int))then(some ((!a2),()))else some (false,())
theorem aZM(x:DenS NX):run (cf [] []) 9 151 Tryz.f151 NX PN x=nP x.1 x.2.1 x.2.2.1 x.2.2.2.1:=by kernel_rfl
def Te(x:DenS NX):Option (DenS PN):=nP x.1 x.2.1 x.2.2.1 x.2.2.2.1
def UD:Sum:=Aj NX PN Te (DenS.dflt PN)
theorem aQc:Sound Tryz.prog G1 151 UD:=sd (cf [] []) 151 Tryz.f151 trivial trivial NX PN Te _ (fun _=>aZM ..)
abbrev aEp:=Ae NX
abbrev aF9:=Ad NX PN
variable (p177:aEp)(f177:aF9)
abbrev E8:Aa:=[(false,.slice (.int .u64)),(false,.slice (.int .u64))]
abbrev E0:Aa:=[(false,.slice (.int .u64))]
abbrev HQ:Pat:=⟨61,[(28,.one (.v .i64)),(1,.one (.sl (.int .u64))),(29,.one (.v .i64)),(0,.one (.sl (.int .u64))),(6,.one (.v .u64)),(5,.one (.own 0))],[.arr (.int .u64)]⟩
abbrev cR:List (Nat×Shape):=[]
abbrev MD:List (Nat×Pat):=[(0,⟨61,[(0,.one (.sl (.int .u64))),(6,.one (.v .u64)),(5,.one (.own 0))],[.arr (.int .u64)]⟩)]
abbrev LW:Option Pat:=none
variable (w143_8:Pat.D HQ->Option (Ah MD LW))
def VW(p155:C6)(f155:C7)(p173:AZ)(f173:A1){R:Type}(L:Pat.D HQ->Option R)(e:Ah MD LW->Option R)(x:Pat.D HQ):Option R:=let e8_:=(x.1.2.2.2.1.getD (ai x.1.2.2.1) (0:Int));let e7_:=((x.1.2.1.getD (ai x.1.2.2.1) (0:Int)),x.1.2.2.2.2.1,());let e1_:=(f155 (e8_,e7_));let e2_:=(f155 (e8_,(0:Int),x.1.2.2.2.2.1,()));let e3_:=((decide ((0:Int)<=x.1.2.2.1))&&(decide (x.1.2.2.1<(x.1.2.2.2.1.length:Int))));let e4_:=((decide ((0:Int)<=x.1.2.2.1))&&(decide (x.1.2.2.1<(x.2.1.length:Int))));let e5_:=(aa .i64 (x.1.2.2.1+(1:Int)));let e6_:=e8_;bif(decide (x.1.2.2.1<x.1.1))then(bif(decide (x.1.2.2.1<(x.1.2.1.length:Int)))then(bif((decide ((0:Int)<=x.1.2.2.1))&&(decide (x.1.2.2.1<(x.1.2.1.length:Int))))then(bif e3_ then(bif(p155 (e6_,e7_))then(bif e4_ then(((L ((x.1.1,x.1.2.1,e5_,x.1.2.2.2.1,e1_.2.1,(),()),(x.2.1.set (ai x.1.2.2.1) e1_.1),()))))else none)else none)else none)else none)else bif e3_ then(bif(p155 (e6_,(0:Int),x.1.2.2.2.2.1,()))then(bif e4_ then(((L ((x.1.1,x.1.2.1,e5_,x.1.2.2.2.1,e2_.2.1,(),()),(x.2.1.set (ai x.1.2.2.1) e2_.1),()))))else none)else none)else none)else(e (.inl ((x.1.2.2.2.1,x.1.2.2.2.2.1,(),()),x.2)))
theorem bCE(d:Nat)(R:Type)(L:Pat.D HQ->Option R)(e:Ah MD LW->Option R)(x:Pat.D HQ):
  BC (cf [(94,⟨EW,Fh,p155,f155⟩),(93,⟨Bz,BA,p173,f173⟩)] [(65,8,LoopSpec.of HQ cR MD LW w143_8)]) (d+2) 65 (Bw Tryz.f65 8) HQ cR MD LW (R:=R) L e x=VW p155 f155 p173 f173 L e x:=by kernel_rfl
theorem aJ9(p155:C6)(f155:C7)(p173:AZ)(f173:A1):Bq fun L e x=>VW p155 f155 p173 f173 L e x:=by intro _ _ _ _ _ _ _ h0 hL he _;unfold VW;repeat' (first|exact h0|exact hL _|exact he _|apply BM|(apply BN h0;intro _)|(apply BO<;>intro _))
def m9(p155:C6)(f155:C7)(p173:AZ)(f173:A1)(w143_8:Pat.D HQ->Option (Ah MD LW))(a0 a1:Ab (.slice (.int .u64))):Option (DenS E0):=
 let e5_:=(aa .i64 (((f173 (a1,())).1.length:Int)+(1:Int)))
 let e1_:=(ar (ai e5_) (0:Int))
 let e6_:=(aa .i64 (((f173 (a0,())).1.length:Int)+(1:Int)))
 let e2_:=(ar (ai e6_) (0:Int))
 let e3_:=e5_
 let e4_:=e6_
 bif(p173 (a0,()))then(bif(p173 (a1,()))then(bif(decide (((f173 (a0,())).1.length:Int)<((f173 (a1,())).1.length:Int)))then(bif((decide ((0:Int)<=e3_))&&(decide ((e3_*(8:Int))<=(140737488355328:Int))))then(Vx.A3 (w143_8 ((((f173 (a1,())).1.length:Int),(f173 (a0,())).1,(0:Int),(f173 (a1,())).1,(0:Int),(),()),(((f173 (a1,())).1.take e1_.length)++(e1_.drop (f173 (a1,())).1.length)),())) fun y4=>
 Vx.A2 y4 (fun y5=>
 bif((decide ((0:Int)<=(y5.1.1.length:Int)))&&(decide ((y5.1.1.length:Int)<(y5.2.1.length:Int))))then(bif(p173 ((y5.2.1.set (ai (y5.1.1.length:Int)) y5.1.2.1),()))then(some (f173 ((y5.2.1.set (ai (y5.1.1.length:Int)) y5.1.2.1),())))
 else none)
 else none) (fun z5=>
 none))
 else none)
 else bif((decide ((0:Int)<=e4_))&&(decide ((e4_*(8:Int))<=(140737488355328:Int))))then(Vx.A3 (w143_8 ((((f173 (a0,())).1.length:Int),(f173 (a1,())).1,(0:Int),(f173 (a0,())).1,(0:Int),(),()),(((f173 (a0,())).1.take e2_.length)++(e2_.drop (f173 (a0,())).1.length)),())) fun y4=>
 Vx.A2 y4 (fun y5=>
 bif((decide ((0:Int)<=(y5.1.1.length:Int)))&&(decide ((y5.1.1.length:Int)<(y5.2.1.length:Int))))then(bif(p173 ((y5.2.1.set (ai (y5.1.1.length:Int)) y5.1.2.1),()))then(some (f173 ((y5.2.1.set (ai (y5.1.1.length:Int)) y5.1.2.1),())))
 else none)
 else none) (fun z5=>
 none))
 else none)
 else none)
 else none
theorem aZt(x:DenS E8):run (cf [(94,⟨EW,Fh,p155,f155⟩),(93,⟨Bz,BA,p173,f173⟩)] [(65,8,LoopSpec.of HQ cR MD LW w143_8)]) 9 65 Tryz.f65 E8 E0 x=m9 p155 f155 p173 f173 w143_8 x.1 x.2.1:=by kernel_rfl
def Y4:HQ.D->Option (Ah MD LW):=Bf fun L=>VW Az.pre Az.F Ag.pre Ag.F L some
def RR(x:DenS E8):Option (DenS E0):=m9 Az.pre Az.F Ag.pre Ag.F Y4 x.1 x.2.1
def BE:Sum:=Aj E8 E0 RR (DenS.dflt E0)
theorem Xm:Sound Tryz.prog G1 65 BE:=sd (cf [(94,Az),(93,Ag)] [(65,8,LoopSpec.of HQ cR MD LW Y4)]) 65 Tryz.f65 ⟨UA,DO,trivial⟩ ⟨rfl,fun d=>BL (fun L e x=>VW Az.pre Az.F Ag.pre Ag.F L e x) (aJ9 Az.pre Az.F Ag.pre Ag.F) (fun _ _ _ _=>bCE ..),trivial⟩ E8 E0 RR _ (fun _=>aZt ..)
abbrev Gg:=Ae E8
abbrev Gj:=Ad E8 E0
variable (p143:Gg)(f143:Gj)
abbrev KQ:Aa:=[(true,.pair (.bool) (.pair (.slice (.int .u64)) (.pair (.int .i64) (.pair (.bool) (.unit))))),(false,.int .i64),(false,.int .i64)]
abbrev Ll:Aa:=[(false,.slice (.int .u64)),(false,.bool)]
def nG(p175:aEo)(f175:aF8)(p176:J8)(f176:Ke)(p141:RX)(f141:R0)(p177:aEp)(f177:aF9)(p143:Gg)(f143:Gj)(a0:Ab (.pair (.bool) (.pair (.slice (.int .u64)) (.pair (.int .i64) (.pair (.bool) (.unit))))))(a1 a2:Ab (.int .i64)):Option (DenS Ll):=let e47_:=(aa .i64 (a2-a0.2.2.1));let e44_:=(f175 (a0.2.1,(aa .i64 (e47_-(2:Int))),()));let e42_:=(e44_.1,(2:Int),());let e40_:=(f141 e42_);let e38_:=(e40_.1.length:Int);let e34_:=(decide (e38_>(0:Int)));let e28_:=(e34_&&((Bs .u64 (e40_.1.getD (ai (0:Int)) (0:Int)) (1:Int))==(1:Int)));let e32_:=(Bs .u64 (e44_.1.getD (ai (0:Int)) (0:Int)) (3:Int));let e30_:=(Aq .u64 e32_ (1:Int));let e1_:=(a1,a0.1,e28_,e30_,());let e45_:=(f176 (a0.2.1,(aa .i64 ((2:Int)-e47_)),()));let e43_:=(e45_.1,(2:Int),());let e41_:=(f141 e43_);let e39_:=(e41_.1.length:Int);let e35_:=(decide (e39_>(0:Int)));let e29_:=(e35_&&((Bs .u64 (e41_.1.getD (ai (0:Int)) (0:Int)) (1:Int))==(1:Int)));let e33_:=(Bs .u64 (e45_.1.getD (ai (0:Int)) (0:Int)) (3:Int));let e31_:=(Aq .u64 e33_ (1:Int));let e2_:=(a1,a0.1,e29_,e31_,());let e3_:=(a1,a0.1,e28_,e32_,());let e4_:=(a1,a0.1,e29_,e33_,());let e46_:=((Aq .u64 (0:Int) (1:Int)),());let e5_:=(a1,a0.1,e28_,e46_);let e6_:=(a1,a0.1,e29_,e46_);let e7_:=((decide ((0:Int)<e38_))||(!e34_));let e8_:=((decide ((0:Int)<e39_))||(!e35_));let e9_:=((e30_ !=(0:Int)),());let e10_:=((e31_ !=(0:Int)),());let e11_:=e30_;let e12_:=e31_;let e13_:=((e32_ !=(0:Int)),());let e14_:=((e33_ !=(0:Int)),());let e15_:=e32_;let e16_:=e33_;let e36_:=(e40_.1,((1:Int)::[]),());let e17_:=(p143 e36_);let e18_:=(f143 e36_);let e37_:=(e41_.1,((1:Int)::[]),());let e19_:=(p143 e37_);let e20_:=(f143 e37_);let e21_:=e40_;let e22_:=e41_;let e23_:=(p141 e42_);let e24_:=(p141 e43_);let e25_:=(e44_.1.length:Int);let e26_:=(e45_.1.length:Int);let e27_:=e47_;bif(decide (e27_>=(2:Int)))then(bif(p175 (a0.2.1,(aa .i64 (e27_-(2:Int))),()))then(bif(decide (e25_>(0:Int)))then(bif(decide ((0:Int)<e25_))then(bif a0.2.2.2.1 then(bif e23_ then(bif e7_ then(bif((p177 e1_)||(!(bif(e11_==(0:Int))then false else true)))then(bif((e11_ !=(0:Int))&&(f177 e1_).1)then(bif e17_ then(some (e18_.1,e9_))else none)else some (e21_.1,e9_))else none)else none)else none)else bif e23_ then(bif e7_ then(bif((p177 e3_)||(!(bif(e15_==(0:Int))then false else true)))then(bif((e15_ !=(0:Int))&&(f177 e3_).1)then(bif e17_ then(some (e18_.1,e13_))else none)else some (e21_.1,e13_))else none)else none)else none)else none)else bif a0.2.2.2.1 then(bif e23_ then(bif e7_ then(bif((p177 e5_)||false)then(bif(f177 e5_).1 then(bif e17_ then(some (e18_.1,true,()))else none)else some (e21_.1,true,()))else none)else none)else none)else bif e23_ then(bif e7_ then(bif((p177 (a1,a0.1,((decide ((e21_.1.length:Int)>(0:Int)))&&((Bs .u64 (e21_.1.getD (ai (0:Int)) (0:Int)) (1:Int))==(1:Int))),(0:Int),()))||true)then(some (e21_.1,false,()))else none)else none)else none)else none)else bif(p176 (a0.2.1,(aa .i64 ((2:Int)-e27_)),()))then(bif(decide (e26_>(0:Int)))then(bif(decide ((0:Int)<e26_))then(bif a0.2.2.2.1 then(bif e24_ then(bif e8_ then(bif((p177 e2_)||(!(bif(e12_==(0:Int))then false else true)))then(bif((e12_ !=(0:Int))&&(f177 e2_).1)then(bif e19_ then(some (e20_.1,e10_))else none)else some (e22_.1,e10_))else none)else none)else none)else bif e24_ then(bif e8_ then(bif((p177 e4_)||(!(bif(e16_==(0:Int))then false else true)))then(bif((e16_ !=(0:Int))&&(f177 e4_).1)then(bif e19_ then(some (e20_.1,e14_))else none)else some (e22_.1,e14_))else none)else none)else none)else none)else bif a0.2.2.2.1 then(bif e24_ then(bif e8_ then(bif((p177 e6_)||false)then(bif(f177 e6_).1 then(bif e19_ then(some (e20_.1,true,()))else none)else some (e22_.1,true,()))else none)else none)else none)else bif e24_ then(bif e8_ then(bif((p177 (a1,a0.1,((decide ((e22_.1.length:Int)>(0:Int)))&&((Bs .u64 (e22_.1.getD (ai (0:Int)) (0:Int)) (1:Int))==(1:Int))),(0:Int),()))||true)then(some (e22_.1,false,()))else none)else none)else none)else none
theorem aZA(x:DenS KQ):run (cf [(150,⟨NW,PM,p175,f175⟩),(67,⟨FN,FU,p176,f176⟩),(103,⟨HA,HH,p141,f141⟩),(151,⟨NX,PN,p177,f177⟩),(65,⟨E8,E0,p143,f143⟩)] []) 9 142 Tryz.f142 KQ Ll x=nG p175 f175 p176 f176 p141 f141 p177 f177 p143 f143 x.1 x.2.1 x.2.2.1:=by kernel_rfl
def UJ(x:DenS KQ):Option (DenS Ll):=nG UC.pre UC.F BS.pre BS.F DB.pre DB.F UD.pre UD.F BE.pre BE.F x.1 x.2.1 x.2.2.1
def Ib:Sum:=Aj KQ Ll UJ (DenS.dflt Ll)
theorem aBn:Sound Tryz.prog G1 142 Ib:=sd (cf [(150,UC),(67,BS),(103,DB),(151,UD),(65,BE)] []) 142 Tryz.f142 ⟨aQb,Xn,rF,aQc,Xm,trivial⟩ trivial KQ Ll UJ _ (fun _=>aZA ..)
abbrev sK:=Ae KQ
abbrev tT:=Ad KQ Ll
variable (p150:sK)(f150:tT)
abbrev FQ:Aa:=[(false,.int .i64),(false,.bool)]
abbrev FV:Aa:=[(false,.int .u64),(false,.int .i64)]
def t97(p116:hZ)(f116:iQ)(p69:BF)(f69:BG)(p91:Gh)(f91:Gk)(p140:Ti)(f140:To)(a0:Ab (.int .i64))(a1:Ab (.bool)):Option (DenS FV):=let e2_:=((aa .i64 ((f69 (a0,())).1.1-(f69 (a0,())).1.2.1)),());let e1_:=((f69 (a0,())).1,a1,(aa .u64 ((f91 e2_).1-(f116 ((f69 (a0,())).1,())).1)),(f116 ((f69 (a0,())).1,())));bif(p69 (a0,()))then(bif((f69 (a0,())).2.1 !=(0:Int))then(some ((0:Int),(f69 (a0,())).2))else bif(p91 e2_)then(bif(p116 ((f69 (a0,())).1,()))then(bif(p116 ((f69 (a0,())).1,()))then(bif(p140 e1_)then(some ((f140 e1_).1,(0:Int),()))else none)else none)else none)else none)else none
theorem r97(x:DenS FQ):run (cf [(89,⟨IX,Jl,p116,f116⟩),(71,⟨BU,BV,p69,f69⟩),(72,⟨Ed,Ee,p91,f91⟩),(73,⟨Gy,GK,p140,f140⟩)] []) 9 62 Tryz.f62 FQ FV x=t97 p116 f116 p69 f69 p91 f91 p140 f140 x.1 x.2.1:=by kernel_rfl
def YZ(x:DenS FQ):Option (DenS FV):=t97 JR.pre JR.F Ao.pre Ao.F Br.pre Br.F DA.pre DA.F x.1 x.2.1
def Cq:Sum:=Aj FQ FV YZ (DenS.dflt FV)
theorem UE:Sound Tryz.prog G1 62 Cq:=sd (cf [(89,JR),(71,Ao),(72,Br),(73,DA)] []) 62 Tryz.f62 ⟨rE,Do,JX,Xl,trivial⟩ trivial FQ FV YZ _ (fun _=>r97 ..)
abbrev Kc:=Ae FQ
abbrev Ki:=Ad FQ FV
variable (p97:Kc)(f97:Ki)
abbrev Ps:Aa:=[(true,.pair (.int .i64) (.pair (.int .i64) (.pair (.int .i64) (.pair (.int .i64) (.unit)))))]
abbrev Q8:Aa:=[(false,.int .u64)]
def t95(a0:Ab (.pair (.int .i64) (.pair (.int .i64) (.pair (.int .i64) (.pair (.int .i64) (.unit)))))):Option (DenS Q8):=some ((1:Int),())
theorem r95(x:DenS Ps):run (cf [] []) 9 154 Tryz.f154 Ps Q8 x=t95 x.1:=by kernel_rfl
def T95(x:DenS Ps):Option (DenS Q8):=t95 x.1
def f8:Sum:=Aj Ps Q8 T95 (DenS.dflt Q8)
theorem aRn:Sound Tryz.prog G1 154 f8:=sd (cf [] []) 154 Tryz.f154 trivial trivial Ps Q8 T95 _ (fun _=>r95 ..)
abbrev Y95:=Ae Ps
abbrev Z95:=Ad Ps Q8
variable (p95:Y95)(f95:Z95)
abbrev Pt:Aa:=[(true,.pair (.int .i64) (.pair (.int .i64) (.pair (.int .i64) (.pair (.int .i64) (.unit)))))]
abbrev Q9:Aa:=[(false,.int .u64)]
def t96(p91:Gh)(f91:Gk)(a0:Ab (.pair (.int .i64) (.pair (.int .i64) (.pair (.int .i64) (.pair (.int .i64) (.unit)))))):Option (DenS Q9):=let e1_:=((aa .i64 (a0.2.1-(1:Int))),());bif(p91 e1_)then(some (f91 e1_))else none
theorem r96(x:DenS Pt):run (cf [(72,⟨Ed,Ee,p91,f91⟩)] []) 9 155 Tryz.f155 Pt Q9 x=t96 p91 f91 x.1:=by kernel_rfl
def T96(x:DenS Pt):Option (DenS Q9):=t96 Br.pre Br.F x.1
def gA:Sum:=Aj Pt Q9 T96 (DenS.dflt Q9)
theorem aRo:Sound Tryz.prog G1 155 gA:=sd (cf [(72,Br)] []) 155 Tryz.f155 ⟨JX,trivial⟩ trivial Pt Q9 T96 _ (fun _=>r96 ..)
abbrev Y96:=Ae Pt
abbrev Z96:=Ad Pt Q9
variable (p96:Y96)(f96:Z96)
abbrev O0:Aa:=[(false,.int .i64),(false,.bool)]
abbrev QH:Aa:=[(false,.int .u64),(false,.int .i64)]
def t43(p95:Y95)(f95:Z95)(p96:Y96)(f96:Z96)(p69:BF)(f69:BG)(p91:Gh)(f91:Gk)(p140:Ti)(f140:To)(a0:Ab (.int .i64))(a1:Ab (.bool)):Option (DenS QH):=let e2_:=((aa .i64 ((f69 (a0,())).1.1-(f69 (a0,())).1.2.1)),());let e1_:=((f69 (a0,())).1,a1,(aa .u64 ((f91 e2_).1-(f95 ((f69 (a0,())).1,())).1)),(f96 ((f69 (a0,())).1,())));bif(p69 (a0,()))then(bif((f69 (a0,())).2.1 !=(0:Int))then(some ((0:Int),(f69 (a0,())).2))else bif(p91 e2_)then(bif(p95 ((f69 (a0,())).1,()))then(bif(p96 ((f69 (a0,())).1,()))then(bif(p140 e1_)then(some ((f140 e1_).1,(0:Int),()))else none)else none)else none)else none)else none
theorem r43(x:DenS O0):run (cf [(154,⟨Ps,Q8,p95,f95⟩),(155,⟨Pt,Q9,p96,f96⟩),(71,⟨BU,BV,p69,f69⟩),(72,⟨Ed,Ee,p91,f91⟩),(73,⟨Gy,GK,p140,f140⟩)] []) 9 149 Tryz.f149 O0 QH x=t43 p95 f95 p96 f96 p69 f69 p91 f91 p140 f140 x.1 x.2.1:=by kernel_rfl
def Yx(x:DenS O0):Option (DenS QH):=t43 f8.pre f8.F gA.pre gA.F Ao.pre Ao.F Br.pre Br.F DA.pre DA.F x.1 x.2.1
def JT:Sum:=Aj O0 QH Yx (DenS.dflt QH)
theorem aQ3:Sound Tryz.prog G1 149 JT:=sd (cf [(154,f8),(155,gA),(71,Ao),(72,Br),(73,DA)] []) 149 Tryz.f149 ⟨aRn,aRo,Do,JX,Xl,trivial⟩ trivial O0 QH Yx _ (fun _=>r43 ..)
abbrev Y43:=Ae O0
abbrev Z43:=Ad O0 QH
variable (p43:Y43)(f43:Z43)
abbrev NR:Aa:=[(false,.int .i64),(false,.int .i64),(false,.bool)]
abbrev PG:Aa:=[(false,.int .u64)]
def nF(p97:Kc)(f97:Ki)(p43:Y43)(f43:Z43)(a0 a1:Ab (.int .i64))(a2:Ab (.bool)):Option (DenS PG):=bif((((a1==(0:Int))||(a1==(1:Int)))||((a1==(3:Int))&&(!a2)))||((a1==(4:Int))&&a2))then(bif(p97 (a0,a2,()))then(some ((f97 (a0,a2,())).1,()))else none)else bif(p43 (a0,a2,()))then(some ((f43 (a0,a2,())).1,()))else none
theorem aZz(x:DenS NR):run (cf [(62,⟨FQ,FV,p97,f97⟩),(149,⟨O0,QH,p43,f43⟩)] []) 9 141 Tryz.f141 NR PG x=nF p97 f97 p43 f43 x.1 x.2.1 x.2.2.1:=by kernel_rfl
def X1(x:DenS NR):Option (DenS PG):=nF Cq.pre Cq.F JT.pre JT.F x.1 x.2.1 x.2.2.1
def Uy:Sum:=Aj NR PG X1 (DenS.dflt PG)
theorem aP4:Sound Tryz.prog G1 141 Uy:=sd (cf [(62,Cq),(149,JT)] []) 141 Tryz.f141 ⟨UE,aQ3,trivial⟩ trivial NR PG X1 _ (fun _=>aZz ..)
abbrev aEj:=Ae NR
abbrev aF3:=Ad NR PG
variable (p149:aEj)(f149:aF3)
abbrev NS:Aa:=[(true,.pair (.bool) (.pair (.slice (.int .u64)) (.pair (.int .i64) (.pair (.bool) (.unit))))),(true,.pair (.int .i64) (.pair (.int .i64) (.pair (.int .i64) (.pair (.int .i64) (.unit))))),(false,.int .i64),(false,.int .i64)]
abbrev PH:Aa:=[(false,.bool)]
def nI(p150:sK)(f150:tT)(p151:Fv)(f151:Fw)(a0:Ab (.pair (.bool) (.pair (.slice (.int .u64)) (.pair (.int .i64) (.pair (.bool) (.unit))))))(a1:Ab (.pair (.int .i64) (.pair (.int .i64) (.pair (.int .i64) (.pair (.int .i64) (.unit))))))(a2 a3:Ab (.int .i64)):Option (DenS PH):=let e3_:=(aa .i64 (a3-a1.2.1));let e1_:=((f150 ((a0.1,a0.2),a2,(aa .i64 (e3_+(1:Int))),())).1,());let e2_:=e3_;bif(decide (a3>=a1.2.2.1))then(some (false,()))else bif(p150 ((a0.1,a0.2),a2,(aa .i64 (e2_+(1:Int))),()))then(bif(p151 e1_)then(some ((decide ((aa .i64 (e2_+(f151 e1_).1))<a1.2.2.1)),()))else none)else none
theorem aZC(x:DenS NS):run (cf [(142,⟨KQ,Ll,p150,f150⟩),(98,⟨Ew,EB,p151,f151⟩)] []) 9 143 Tryz.f143 NS PH x=nI p150 f150 p151 f151 x.1 x.2.1 x.2.2.1 x.2.2.2.1:=by kernel_rfl
def X2(x:DenS NS):Option (DenS PH):=nI Ib.pre Ib.F A8.pre A8.F x.1 x.2.1 x.2.2.1 x.2.2.2.1
def Uz:Sum:=Aj NS PH X2 (DenS.dflt PH)
theorem aP6:Sound Tryz.prog G1 143 Uz:=sd (cf [(142,Ib),(98,A8)] []) 143 Tryz.f143 ⟨aBn,SY,trivial⟩ trivial NS PH X2 _ (fun _=>aZC ..)
abbrev aEk:=Ae NS
abbrev aF4:=Ad NS PH
variable (p152:aEk)(f152:aF4)
abbrev IU:Aa:=[(true,.pair (.bool) (.pair (.slice (.int .u64)) (.pair (.int .i64) (.pair (.bool) (.unit))))),(false,.int .i64),(true,.pair (.int .i64) (.pair (.int .i64) (.pair (.int .i64) (.pair (.int .i64) (.unit))))),(false,.int .i64)]
abbrev Ji:Aa:=[(false,.int .u64),(false,.int .i64)]
def mM(p148:aEi)(f148:aF2)(p150:sK)(f150:tT)(p151:Fv)(f151:Fw)(p149:aEj)(f149:aF3)(p152:aEk)(f152:aF4)(a0:Ab (.pair (.bool) (.pair (.slice (.int .u64)) (.pair (.int .i64) (.pair (.bool) (.unit))))))(a1:Ab (.int .i64))(a2:Ab (.pair (.int .i64) (.pair (.int .i64) (.pair (.int .i64) (.pair (.int .i64) (.unit))))))(a3:Ab (.int .i64)):Option (DenS Ji):=let e18_:=(aa .i64 ((aa .i64 ((if(a2.2.2.1>(f148 ((a0.1,a0.2),())).1)then a2.2.2.1 else(f148 ((a0.1,a0.2),())).1)-a2.2.1))+(1:Int)));let e21_:=(aa .i64 (a2.2.1-(1:Int)));let e14_:=(AQ .u64 (aa .u64 (aa .i64 (e18_-(aa .i64 ((aa .i64 (a2.2.2.1-a2.2.1))+(1:Int)))))) e21_);let e17_:=((a0.1,a0.2),a3,e18_,());let e16_:=(f150 e17_);let e13_:=(aa .u64 (e14_+(e16_.1.getD (ai (0:Int)) (0:Int))));let e22_:=(aa .i64 (a2.1-(1:Int)));let e19_:=(AQ .u64 (1:Int) e22_);let e1_:=(Aq .u64 e13_ e19_);let e2_:=e13_;let e3_:=(Aq .u64 e14_ e19_);let e15_:=(e16_.1,());let e4_:=(decide ((aa .i64 ((aa .i64 (e18_+(f151 e15_).1))-(1:Int)))>a2.2.2.2.1));let e5_:=e14_;let e6_:=(e16_.1.length:Int);let e7_:=(p151 e15_);let e8_:=(!e16_.2.1);let e9_:=(decide ((0:Int)<=e22_));let e20_:=((a0.1,a0.2),(a2.1,a2.2),a3,(f148 ((a0.1,a0.2),())));let e10_:=(p152 e20_);let e11_:=(f152 e20_);let e12_:=((f149 (a1,a3,a0.1,())).1,(20:Int),());bif(p148 ((a0.1,a0.2),()))then(bif(decide ((f148 ((a0.1,a0.2),())).1>a2.2.2.2.1))then(bif(p149 (a1,a3,a0.1,()))then(some e12_)else none)else bif(p150 e17_)then(bif(decide ((0:Int)<=e21_))then(bif(decide (e6_>(0:Int)))then(bif(decide ((0:Int)<e6_))then(bif e7_ then(bif e4_ then(bif(p149 (a1,a3,a0.1,()))then(some e12_)else none)else bif a0.1 then(bif e9_ then(bif e8_ then(some (e1_,(0:Int),()))else bif e10_ then(bif e11_.1 then(some (e1_,(24:Int),()))else some (e1_,(16:Int),()))else none)else none)else bif e8_ then(some (e2_,(0:Int),()))else bif e10_ then(bif e11_.1 then(some (e2_,(24:Int),()))else some (e2_,(16:Int),()))else none)else none)else none)else bif e7_ then(bif e4_ then(bif(p149 (a1,a3,a0.1,()))then(some e12_)else none)else bif a0.1 then(bif e9_ then(bif e8_ then(some (e3_,(0:Int),()))else bif e10_ then(bif e11_.1 then(some (e3_,(24:Int),()))else some (e3_,(16:Int),()))else none)else none)else bif e8_ then(some (e5_,(0:Int),()))else bif e10_ then(bif e11_.1 then(some (e5_,(24:Int),()))else some (e5_,(16:Int),()))else none)else none)else none)else none)else none
theorem aY7(x:DenS IU):run (cf [(140,⟨NQ,PF,p148,f148⟩),(142,⟨KQ,Ll,p150,f150⟩),(98,⟨Ew,EB,p151,f151⟩),(141,⟨NR,PG,p149,f149⟩),(143,⟨NS,PH,p152,f152⟩)] []) 9 124 Tryz.f124 IU Ji x=mM p148 f148 p150 f150 p151 f151 p149 f149 p152 f152 x.1 x.2.1 x.2.2.1 x.2.2.2.1:=by kernel_rfl
def XJ(x:DenS IU):Option (DenS Ji):=mM Ux.pre Ux.F Ib.pre Ib.F A8.pre A8.F Uy.pre Uy.F Uz.pre Uz.F x.1 x.2.1 x.2.2.1 x.2.2.2.1
def Fq:Sum:=Aj IU Ji XJ (DenS.dflt Ji)
theorem rB:Sound Tryz.prog G1 124 Fq:=sd (cf [(140,Ux),(142,Ib),(98,A8),(141,Uy),(143,Uz)] []) 124 Tryz.f124 ⟨aP3,aBn,SY,aP4,aP6,trivial⟩ trivial IU Ji XJ _ (fun _=>aY7 ..)
abbrev U6:=Ae IU
abbrev Vg:=Ad IU Ji
variable (p107:U6)(f107:Vg)
abbrev Et:Aa:=[(false,.int .i64),(false,.int .i64),(false,.bool),(true,.pair (.int .u64) (.pair (.int .u64) (.unit))),(false,.int .i64),(false,.bool)]
abbrev EZ:Aa:=[(false,.int .u64),(false,.int .i64),(false,.int .i64)]
def mU(p105:U5)(f105:Vf)(p102:G4)(f102:G7)(p151:Fv)(f151:Fw)(p156:iA)(f156:iS)(p107:U6)(f107:Vg)(a0 a1:Ab (.int .i64))(a2:Ab (.bool))(a3:Ab (.pair (.int .u64) (.pair (.int .u64) (.unit))))(a4:Ab (.int .i64))(a5:Ab (.bool)):Option (DenS EZ):=let e2_:=((a2,(f102 ((a3.2.1::(a3.1::[])),())).1,a4,a5,()),a0,(f105 (a0,a1,())).1,a1,());let e1_:=(f107 e2_);bif(p105 (a0,a1,()))then(bif((f105 (a0,a1,())).2.1 !=(0:Int))then(some ((0:Int),(0:Int),(f105 (a0,a1,())).2))else bif(p102 ((a3.2.1::(a3.1::[])),()))then(bif((decide (a4<(-(40000:Int))))||(decide (a4>(40000:Int))))then(some ((0:Int),(0:Int),(30:Int),()))else bif((p151 (f102 ((a3.2.1::(a3.1::[])),())))||(!a5))then(bif(a5&&(decide ((f151 (f102 ((a3.2.1::(a3.1::[])),()))).1<(aa .i64 ((f105 (a0,a1,())).1.2.1+(2:Int))))))then(some ((0:Int),(0:Int),(7:Int),()))else bif(((f102 ((a3.2.1::(a3.1::[])),())).1.length:Int)==(0:Int))then(bif(p156 (a0,a2,()))then(some (f156 (a0,a2,())))else none)else bif(p107 e2_)then(some (e1_.1,e1_.2.1,(0:Int),()))else none)else none)else none)else none
theorem aZk(x:DenS Et):run (cf [(121,⟨IT,Jh,p105,f105⟩),(122,⟨E7,Fg,p102,f102⟩),(98,⟨Ew,EB,p151,f151⟩),(123,⟨KR,Lm,p156,f156⟩),(124,⟨IU,Ji,p107,f107⟩)] []) 9 104 Tryz.f104 Et EZ x=mU p105 f105 p102 f102 p151 f151 p156 f156 p107 f107 x.1 x.2.1 x.2.2.1 x.2.2.2.1 x.2.2.2.2.1 x.2.2.2.2.2.1:=by kernel_rfl
def XQ(x:DenS Et):Option (DenS EZ):=mU Fp.pre Fp.F Cc.pre Cc.F A8.pre A8.F Ic.pre Ic.F Fq.pre Fq.F x.1 x.2.1 x.2.2.1 x.2.2.2.1 x.2.2.2.2.1 x.2.2.2.2.2.1
def Bv:Sum:=Aj Et EZ XQ (DenS.dflt EZ)
theorem SX:Sound Tryz.prog G1 104 Bv:=sd (cf [(121,Fp),(122,Cc),(98,A8),(123,Ic),(124,Fq)] []) 104 Tryz.f104 ⟨rA,Xk,SY,aBo,rB,trivial⟩ trivial Et EZ XQ _ (fun _=>aZk ..)
abbrev Gf:=Ae Et
abbrev Gi:=Ad Et EZ
variable (p122:Gf)(f122:Gi)
end Vx
namespace Vx
open Go Go.Proofs
variable (p119:Ze)(f119:Zr)(p120:sH)(f120:tQ)(p121:sI)(f121:tR)(p123:Th)(f123:Tn)(p124:sJ)(f124:tS)(p118:G5)(f118:G8)(p122:Gf)(f122:Gi)
abbrev Pn:Aa:=[(false,.int .i64),(false,.int .i64),(true,.pair (.bool) (.pair (.int .u64) (.pair (.int .i64) (.unit)))),(true,.pair (.bool) (.pair (.int .u64) (.pair (.int .i64) (.unit))))]
abbrev JD:Aa:=[(false,.int .u64),(false,.int .i64),(false,.int .i64)]
def pW(p119:DenS Hz->Bool)(f119:DenS Hz->DenS Jm)(p120:DenS IY->Bool)(f120:DenS IY->DenS Lh)(p121:DenS IZ->Bool)(f121:DenS IZ->DenS Li)(p123:DenS Gx->Bool)(f123:DenS Gx->DenS HG)(p124:DenS I0->Bool)(f124:DenS I0->DenS Lj)(p118:DenS Es->Bool)(f118:DenS Es->DenS EY)(p122:DenS Et->Bool)(f122:DenS Et->DenS EZ)(f m:Int)(nx:Bool)(X ex:Int)(ny:Bool)(Y ey:Int):Option (DenS JD):=bif(p119 (((0:Int),(X,())),((if((70:Int)<(aa .i64 (ex-ey)))then(70:Int)else(aa .i64 (ex-ey))),())))then(bif(p120 (((0:Int),(Y,())),((aa .i64 ((aa .i64 (ex-(if((70:Int)<(aa .i64 (ex-ey)))then(70:Int)else(aa .i64 (ex-ey)))))-ey)),())))then(bif(p119 ((f120 (((0:Int),(Y,())),((aa .i64 ((aa .i64 (ex-(if((70:Int)<(aa .i64 (ex-ey)))then(70:Int)else(aa .i64 (ex-ey)))))-ey)),()))).1,((aa .i64 ((aa .i64 (ex-(if((70:Int)<(aa .i64 (ex-ey)))then(70:Int)else(aa .i64 (ex-ey)))))-ey)),())))then(bif(p120 (((0:Int),(Y,())),((aa .i64 ((aa .i64 (ex-(if((70:Int)<(aa .i64 (ex-ey)))then(70:Int)else(aa .i64 (ex-ey)))))-ey)),())))then(bif(nx==ny)then(bif(p121 ((f119 (((0:Int),(X,())),((if((70:Int)<(aa .i64 (ex-ey)))then(70:Int)else(aa .i64 (ex-ey))),()))).1,(f120 (((0:Int),(Y,())),((aa .i64 ((aa .i64 (ex-(if((70:Int)<(aa .i64 (ex-ey)))then(70:Int)else(aa .i64 (ex-ey)))))-ey)),())))))then(bif(p122 (f,(m,(nx,((f121 ((f119 (((0:Int),(X,())),((if((70:Int)<(aa .i64 (ex-ey)))then(70:Int)else(aa .i64 (ex-ey))),()))).1,(f120 (((0:Int),(Y,())),((aa .i64 ((aa .i64 (ex-(if((70:Int)<(aa .i64 (ex-ey)))then(70:Int)else(aa .i64 (ex-ey)))))-ey)),()))))).1,((aa .i64 (ex-(if((70:Int)<(aa .i64 (ex-ey)))then(70:Int)else(aa .i64 (ex-ey))))),(((!(((f119 ((f120 (((0:Int),(Y,())),((aa .i64 ((aa .i64 (ex-(if((70:Int)<(aa .i64 (ex-ey)))then(70:Int)else(aa .i64 (ex-ey)))))-ey)),()))).1,((aa .i64 ((aa .i64 (ex-(if((70:Int)<(aa .i64 (ex-ey)))then(70:Int)else(aa .i64 (ex-ey)))))-ey)),()))).1.1==(0:Int))&&((f119 ((f120 (((0:Int),(Y,())),((aa .i64 ((aa .i64 (ex-(if((70:Int)<(aa .i64 (ex-ey)))then(70:Int)else(aa .i64 (ex-ey)))))-ey)),()))).1,((aa .i64 ((aa .i64 (ex-(if((70:Int)<(aa .i64 (ex-ey)))then(70:Int)else(aa .i64 (ex-ey)))))-ey)),()))).1.2.1==Y)))||((decide ((aa .i64 ((aa .i64 (ex-(if((70:Int)<(aa .i64 (ex-ey)))then(70:Int)else(aa .i64 (ex-ey)))))-ey))>(63:Int)))&&(Y !=(0:Int)))),())))))))then(some (f122 (f,(m,(nx,((f121 ((f119 (((0:Int),(X,())),((if((70:Int)<(aa .i64 (ex-ey)))then(70:Int)else(aa .i64 (ex-ey))),()))).1,(f120 (((0:Int),(Y,())),((aa .i64 ((aa .i64 (ex-(if((70:Int)<(aa .i64 (ex-ey)))then(70:Int)else(aa .i64 (ex-ey)))))-ey)),()))))).1,((aa .i64 (ex-(if((70:Int)<(aa .i64 (ex-ey)))then(70:Int)else(aa .i64 (ex-ey))))),(((!(((f119 ((f120 (((0:Int),(Y,())),((aa .i64 ((aa .i64 (ex-(if((70:Int)<(aa .i64 (ex-ey)))then(70:Int)else(aa .i64 (ex-ey)))))-ey)),()))).1,((aa .i64 ((aa .i64 (ex-(if((70:Int)<(aa .i64 (ex-ey)))then(70:Int)else(aa .i64 (ex-ey)))))-ey)),()))).1.1==(0:Int))&&((f119 ((f120 (((0:Int),(Y,())),((aa .i64 ((aa .i64 (ex-(if((70:Int)<(aa .i64 (ex-ey)))then(70:Int)else(aa .i64 (ex-ey)))))-ey)),()))).1,((aa .i64 ((aa .i64 (ex-(if((70:Int)<(aa .i64 (ex-ey)))then(70:Int)else(aa .i64 (ex-ey)))))-ey)),()))).1.2.1==Y)))||((decide ((aa .i64 ((aa .i64 (ex-(if((70:Int)<(aa .i64 (ex-ey)))then(70:Int)else(aa .i64 (ex-ey)))))-ey))>(63:Int)))&&(Y !=(0:Int)))),()))))))))else none)else none)else bif(p123 ((f119 (((0:Int),(X,())),((if((70:Int)<(aa .i64 (ex-ey)))then(70:Int)else(aa .i64 (ex-ey))),()))).1,(f120 (((0:Int),(Y,())),((aa .i64 ((aa .i64 (ex-(if((70:Int)<(aa .i64 (ex-ey)))then(70:Int)else(aa .i64 (ex-ey)))))-ey)),())))))then(bif(decide ((f123 ((f119 (((0:Int),(X,())),((if((70:Int)<(aa .i64 (ex-ey)))then(70:Int)else(aa .i64 (ex-ey))),()))).1,(f120 (((0:Int),(Y,())),((aa .i64 ((aa .i64 (ex-(if((70:Int)<(aa .i64 (ex-ey)))then(70:Int)else(aa .i64 (ex-ey)))))-ey)),()))))).1<(0:Int)))then(bif(p124 ((f120 (((0:Int),(Y,())),((aa .i64 ((aa .i64 (ex-(if((70:Int)<(aa .i64 (ex-ey)))then(70:Int)else(aa .i64 (ex-ey)))))-ey)),()))).1,(f119 (((0:Int),(X,())),((if((70:Int)<(aa .i64 (ex-ey)))then(70:Int)else(aa .i64 (ex-ey))),())))))then(bif((!(((f119 ((f120 (((0:Int),(Y,())),((aa .i64 ((aa .i64 (ex-(if((70:Int)<(aa .i64 (ex-ey)))then(70:Int)else(aa .i64 (ex-ey)))))-ey)),()))).1,((aa .i64 ((aa .i64 (ex-(if((70:Int)<(aa .i64 (ex-ey)))then(70:Int)else(aa .i64 (ex-ey)))))-ey)),()))).1.1==(0:Int))&&((f119 ((f120 (((0:Int),(Y,())),((aa .i64 ((aa .i64 (ex-(if((70:Int)<(aa .i64 (ex-ey)))then(70:Int)else(aa .i64 (ex-ey)))))-ey)),()))).1,((aa .i64 ((aa .i64 (ex-(if((70:Int)<(aa .i64 (ex-ey)))then(70:Int)else(aa .i64 (ex-ey)))))-ey)),()))).1.2.1==Y)))||((decide ((aa .i64 ((aa .i64 (ex-(if((70:Int)<(aa .i64 (ex-ey)))then(70:Int)else(aa .i64 (ex-ey)))))-ey))>(63:Int)))&&(Y !=(0:Int))))then(bif(p124 ((f124 ((f120 (((0:Int),(Y,())),((aa .i64 ((aa .i64 (ex-(if((70:Int)<(aa .i64 (ex-ey)))then(70:Int)else(aa .i64 (ex-ey)))))-ey)),()))).1,(f119 (((0:Int),(X,())),((if((70:Int)<(aa .i64 (ex-ey)))then(70:Int)else(aa .i64 (ex-ey))),()))))).1,(((0:Int),((1:Int),())),())))then(bif((((f124 ((f124 ((f120 (((0:Int),(Y,())),((aa .i64 ((aa .i64 (ex-(if((70:Int)<(aa .i64 (ex-ey)))then(70:Int)else(aa .i64 (ex-ey)))))-ey)),()))).1,(f119 (((0:Int),(X,())),((if((70:Int)<(aa .i64 (ex-ey)))then(70:Int)else(aa .i64 (ex-ey))),()))))).1,(((0:Int),((1:Int),())),()))).1.1==(0:Int))&&((f124 ((f124 ((f120 (((0:Int),(Y,())),((aa .i64 ((aa .i64 (ex-(if((70:Int)<(aa .i64 (ex-ey)))then(70:Int)else(aa .i64 (ex-ey)))))-ey)),()))).1,(f119 (((0:Int),(X,())),((if((70:Int)<(aa .i64 (ex-ey)))then(70:Int)else(aa .i64 (ex-ey))),()))))).1,(((0:Int),((1:Int),())),()))).1.2.1==(0:Int)))&&(!((!(((f119 ((f120 (((0:Int),(Y,())),((aa .i64 ((aa .i64 (ex-(if((70:Int)<(aa .i64 (ex-ey)))then(70:Int)else(aa .i64 (ex-ey)))))-ey)),()))).1,((aa .i64 ((aa .i64 (ex-(if((70:Int)<(aa .i64 (ex-ey)))then(70:Int)else(aa .i64 (ex-ey)))))-ey)),()))).1.1==(0:Int))&&((f119 ((f120 (((0:Int),(Y,())),((aa .i64 ((aa .i64 (ex-(if((70:Int)<(aa .i64 (ex-ey)))then(70:Int)else(aa .i64 (ex-ey)))))-ey)),()))).1,((aa .i64 ((aa .i64 (ex-(if((70:Int)<(aa .i64 (ex-ey)))then(70:Int)else(aa .i64 (ex-ey)))))-ey)),()))).1.2.1==Y)))||((decide ((aa .i64 ((aa .i64 (ex-(if((70:Int)<(aa .i64 (ex-ey)))then(70:Int)else(aa .i64 (ex-ey)))))-ey))>(63:Int)))&&(Y !=(0:Int))))))then(bif(p118 (f,((m==(4:Int)),())))then(some ((f118 (f,((m==(4:Int)),()))).1,((0:Int),((0:Int),()))))else none)else bif(p122 (f,(m,(ny,((f124 ((f124 ((f120 (((0:Int),(Y,())),((aa .i64 ((aa .i64 (ex-(if((70:Int)<(aa .i64 (ex-ey)))then(70:Int)else(aa .i64 (ex-ey)))))-ey)),()))).1,(f119 (((0:Int),(X,())),((if((70:Int)<(aa .i64 (ex-ey)))then(70:Int)else(aa .i64 (ex-ey))),()))))).1,(((0:Int),((1:Int),())),()))).1,((aa .i64 (ex-(if((70:Int)<(aa .i64 (ex-ey)))then(70:Int)else(aa .i64 (ex-ey))))),(((!(((f119 ((f120 (((0:Int),(Y,())),((aa .i64 ((aa .i64 (ex-(if((70:Int)<(aa .i64 (ex-ey)))then(70:Int)else(aa .i64 (ex-ey)))))-ey)),()))).1,((aa .i64 ((aa .i64 (ex-(if((70:Int)<(aa .i64 (ex-ey)))then(70:Int)else(aa .i64 (ex-ey)))))-ey)),()))).1.1==(0:Int))&&((f119 ((f120 (((0:Int),(Y,())),((aa .i64 ((aa .i64 (ex-(if((70:Int)<(aa .i64 (ex-ey)))then(70:Int)else(aa .i64 (ex-ey)))))-ey)),()))).1,((aa .i64 ((aa .i64 (ex-(if((70:Int)<(aa .i64 (ex-ey)))then(70:Int)else(aa .i64 (ex-ey)))))-ey)),()))).1.2.1==Y)))||((decide ((aa .i64 ((aa .i64 (ex-(if((70:Int)<(aa .i64 (ex-ey)))then(70:Int)else(aa .i64 (ex-ey)))))-ey))>(63:Int)))&&(Y !=(0:Int)))),())))))))then(some (f122 (f,(m,(ny,((f124 ((f124 ((f120 (((0:Int),(Y,())),((aa .i64 ((aa .i64 (ex-(if((70:Int)<(aa .i64 (ex-ey)))then(70:Int)else(aa .i64 (ex-ey)))))-ey)),()))).1,(f119 (((0:Int),(X,())),((if((70:Int)<(aa .i64 (ex-ey)))then(70:Int)else(aa .i64 (ex-ey))),()))))).1,(((0:Int),((1:Int),())),()))).1,((aa .i64 (ex-(if((70:Int)<(aa .i64 (ex-ey)))then(70:Int)else(aa .i64 (ex-ey))))),(((!(((f119 ((f120 (((0:Int),(Y,())),((aa .i64 ((aa .i64 (ex-(if((70:Int)<(aa .i64 (ex-ey)))then(70:Int)else(aa .i64 (ex-ey)))))-ey)),()))).1,((aa .i64 ((aa .i64 (ex-(if((70:Int)<(aa .i64 (ex-ey)))then(70:Int)else(aa .i64 (ex-ey)))))-ey)),()))).1.1==(0:Int))&&((f119 ((f120 (((0:Int),(Y,())),((aa .i64 ((aa .i64 (ex-(if((70:Int)<(aa .i64 (ex-ey)))then(70:Int)else(aa .i64 (ex-ey)))))-ey)),()))).1,((aa .i64 ((aa .i64 (ex-(if((70:Int)<(aa .i64 (ex-ey)))then(70:Int)else(aa .i64 (ex-ey)))))-ey)),()))).1.2.1==Y)))||((decide ((aa .i64 ((aa .i64 (ex-(if((70:Int)<(aa .i64 (ex-ey)))then(70:Int)else(aa .i64 (ex-ey)))))-ey))>(63:Int)))&&(Y !=(0:Int)))),()))))))))else none)else none)else bif((((f124 ((f120 (((0:Int),(Y,())),((aa .i64 ((aa .i64 (ex-(if((70:Int)<(aa .i64 (ex-ey)))then(70:Int)else(aa .i64 (ex-ey)))))-ey)),()))).1,(f119 (((0:Int),(X,())),((if((70:Int)<(aa .i64 (ex-ey)))then(70:Int)else(aa .i64 (ex-ey))),()))))).1.1==(0:Int))&&((f124 ((f120 (((0:Int),(Y,())),((aa .i64 ((aa .i64 (ex-(if((70:Int)<(aa .i64 (ex-ey)))then(70:Int)else(aa .i64 (ex-ey)))))-ey)),()))).1,(f119 (((0:Int),(X,())),((if((70:Int)<(aa .i64 (ex-ey)))then(70:Int)else(aa .i64 (ex-ey))),()))))).1.2.1==(0:Int)))&&(!((!(((f119 ((f120 (((0:Int),(Y,())),((aa .i64 ((aa .i64 (ex-(if((70:Int)<(aa .i64 (ex-ey)))then(70:Int)else(aa .i64 (ex-ey)))))-ey)),()))).1,((aa .i64 ((aa .i64 (ex-(if((70:Int)<(aa .i64 (ex-ey)))then(70:Int)else(aa .i64 (ex-ey)))))-ey)),()))).1.1==(0:Int))&&((f119 ((f120 (((0:Int),(Y,())),((aa .i64 ((aa .i64 (ex-(if((70:Int)<(aa .i64 (ex-ey)))then(70:Int)else(aa .i64 (ex-ey)))))-ey)),()))).1,((aa .i64 ((aa .i64 (ex-(if((70:Int)<(aa .i64 (ex-ey)))then(70:Int)else(aa .i64 (ex-ey)))))-ey)),()))).1.2.1==Y)))||((decide ((aa .i64 ((aa .i64 (ex-(if((70:Int)<(aa .i64 (ex-ey)))then(70:Int)else(aa .i64 (ex-ey)))))-ey))>(63:Int)))&&(Y !=(0:Int))))))then(bif(p118 (f,((m==(4:Int)),())))then(some ((f118 (f,((m==(4:Int)),()))).1,((0:Int),((0:Int),()))))else none)else bif(p122 (f,(m,(ny,((f124 ((f120 (((0:Int),(Y,())),((aa .i64 ((aa .i64 (ex-(if((70:Int)<(aa .i64 (ex-ey)))then(70:Int)else(aa .i64 (ex-ey)))))-ey)),()))).1,(f119 (((0:Int),(X,())),((if((70:Int)<(aa .i64 (ex-ey)))then(70:Int)else(aa .i64 (ex-ey))),()))))).1,((aa .i64 (ex-(if((70:Int)<(aa .i64 (ex-ey)))then(70:Int)else(aa .i64 (ex-ey))))),(((!(((f119 ((f120 (((0:Int),(Y,())),((aa .i64 ((aa .i64 (ex-(if((70:Int)<(aa .i64 (ex-ey)))then(70:Int)else(aa .i64 (ex-ey)))))-ey)),()))).1,((aa .i64 ((aa .i64 (ex-(if((70:Int)<(aa .i64 (ex-ey)))then(70:Int)else(aa .i64 (ex-ey)))))-ey)),()))).1.1==(0:Int))&&((f119 ((f120 (((0:Int),(Y,())),((aa .i64 ((aa .i64 (ex-(if((70:Int)<(aa .i64 (ex-ey)))then(70:Int)else(aa .i64 (ex-ey)))))-ey)),()))).1,((aa .i64 ((aa .i64 (ex-(if((70:Int)<(aa .i64 (ex-ey)))then(70:Int)else(aa .i64 (ex-ey)))))-ey)),()))).1.2.1==Y)))||((decide ((aa .i64 ((aa .i64 (ex-(if((70:Int)<(aa .i64 (ex-ey)))then(70:Int)else(aa .i64 (ex-ey)))))-ey))>(63:Int)))&&(Y !=(0:Int)))),())))))))then(some (f122 (f,(m,(ny,((f124 ((f120 (((0:Int),(Y,())),((aa .i64 ((aa .i64 (ex-(if((70:Int)<(aa .i64 (ex-ey)))then(70:Int)else(aa .i64 (ex-ey)))))-ey)),()))).1,(f119 (((0:Int),(X,())),((if((70:Int)<(aa .i64 (ex-ey)))then(70:Int)else(aa .i64 (ex-ey))),()))))).1,((aa .i64 (ex-(if((70:Int)<(aa .i64 (ex-ey)))then(70:Int)else(aa .i64 (ex-ey))))),(((!(((f119 ((f120 (((0:Int),(Y,())),((aa .i64 ((aa .i64 (ex-(if((70:Int)<(aa .i64 (ex-ey)))then(70:Int)else(aa .i64 (ex-ey)))))-ey)),()))).1,((aa .i64 ((aa .i64 (ex-(if((70:Int)<(aa .i64 (ex-ey)))then(70:Int)else(aa .i64 (ex-ey)))))-ey)),()))).1.1==(0:Int))&&((f119 ((f120 (((0:Int),(Y,())),((aa .i64 ((aa .i64 (ex-(if((70:Int)<(aa .i64 (ex-ey)))then(70:Int)else(aa .i64 (ex-ey)))))-ey)),()))).1,((aa .i64 ((aa .i64 (ex-(if((70:Int)<(aa .i64 (ex-ey)))then(70:Int)else(aa .i64 (ex-ey)))))-ey)),()))).1.2.1==Y)))||((decide ((aa .i64 ((aa .i64 (ex-(if((70:Int)<(aa .i64 (ex-ey)))then(70:Int)else(aa .i64 (ex-ey)))))-ey))>(63:Int)))&&(Y !=(0:Int)))),()))))))))else none)else none)else bif(p124 ((f119 (((0:Int),(X,())),((if((70:Int)<(aa .i64 (ex-ey)))then(70:Int)else(aa .i64 (ex-ey))),()))).1,(f120 (((0:Int),(Y,())),((aa .i64 ((aa .i64 (ex-(if((70:Int)<(aa .i64 (ex-ey)))then(70:Int)else(aa .i64 (ex-ey)))))-ey)),())))))then(bif((!(((f119 ((f120 (((0:Int),(Y,())),((aa .i64 ((aa .i64 (ex-(if((70:Int)<(aa .i64 (ex-ey)))then(70:Int)else(aa .i64 (ex-ey)))))-ey)),()))).1,((aa .i64 ((aa .i64 (ex-(if((70:Int)<(aa .i64 (ex-ey)))then(70:Int)else(aa .i64 (ex-ey)))))-ey)),()))).1.1==(0:Int))&&((f119 ((f120 (((0:Int),(Y,())),((aa .i64 ((aa .i64 (ex-(if((70:Int)<(aa .i64 (ex-ey)))then(70:Int)else(aa .i64 (ex-ey)))))-ey)),()))).1,((aa .i64 ((aa .i64 (ex-(if((70:Int)<(aa .i64 (ex-ey)))then(70:Int)else(aa .i64 (ex-ey)))))-ey)),()))).1.2.1==Y)))||((decide ((aa .i64 ((aa .i64 (ex-(if((70:Int)<(aa .i64 (ex-ey)))then(70:Int)else(aa .i64 (ex-ey)))))-ey))>(63:Int)))&&(Y !=(0:Int))))then(bif(p124 ((f124 ((f119 (((0:Int),(X,())),((if((70:Int)<(aa .i64 (ex-ey)))then(70:Int)else(aa .i64 (ex-ey))),()))).1,(f120 (((0:Int),(Y,())),((aa .i64 ((aa .i64 (ex-(if((70:Int)<(aa .i64 (ex-ey)))then(70:Int)else(aa .i64 (ex-ey)))))-ey)),()))))).1,(((0:Int),((1:Int),())),())))then(bif((((f124 ((f124 ((f119 (((0:Int),(X,())),((if((70:Int)<(aa .i64 (ex-ey)))then(70:Int)else(aa .i64 (ex-ey))),()))).1,(f120 (((0:Int),(Y,())),((aa .i64 ((aa .i64 (ex-(if((70:Int)<(aa .i64 (ex-ey)))then(70:Int)else(aa .i64 (ex-ey)))))-ey)),()))))).1,(((0:Int),((1:Int),())),()))).1.1==(0:Int))&&((f124 ((f124 ((f119 (((0:Int),(X,())),((if((70:Int)<(aa .i64 (ex-ey)))then(70:Int)else(aa .i64 (ex-ey))),()))).1,(f120 (((0:Int),(Y,())),((aa .i64 ((aa .i64 (ex-(if((70:Int)<(aa .i64 (ex-ey)))then(70:Int)else(aa .i64 (ex-ey)))))-ey)),()))))).1,(((0:Int),((1:Int),())),()))).1.2.1==(0:Int)))&&(!((!(((f119 ((f120 (((0:Int),(Y,())),((aa .i64 ((aa .i64 (ex-(if((70:Int)<(aa .i64 (ex-ey)))then(70:Int)else(aa .i64 (ex-ey)))))-ey)),()))).1,((aa .i64 ((aa .i64 (ex-(if((70:Int)<(aa .i64 (ex-ey)))then(70:Int)else(aa .i64 (ex-ey)))))-ey)),()))).1.1==(0:Int))&&((f119 ((f120 (((0:Int),(Y,())),((aa .i64 ((aa .i64 (ex-(if((70:Int)<(aa .i64 (ex-ey)))then(70:Int)else(aa .i64 (ex-ey)))))-ey)),()))).1,((aa .i64 ((aa .i64 (ex-(if((70:Int)<(aa .i64 (ex-ey)))then(70:Int)else(aa .i64 (ex-ey)))))-ey)),()))).1.2.1==Y)))||((decide ((aa .i64 ((aa .i64 (ex-(if((70:Int)<(aa .i64 (ex-ey)))then(70:Int)else(aa .i64 (ex-ey)))))-ey))>(63:Int)))&&(Y !=(0:Int))))))then(bif(p118 (f,((m==(4:Int)),())))then(some ((f118 (f,((m==(4:Int)),()))).1,((0:Int),((0:Int),()))))else none)else bif(p122 (f,(m,(nx,((f124 ((f124 ((f119 (((0:Int),(X,())),((if((70:Int)<(aa .i64 (ex-ey)))then(70:Int)else(aa .i64 (ex-ey))),()))).1,(f120 (((0:Int),(Y,())),((aa .i64 ((aa .i64 (ex-(if((70:Int)<(aa .i64 (ex-ey)))then(70:Int)else(aa .i64 (ex-ey)))))-ey)),()))))).1,(((0:Int),((1:Int),())),()))).1,((aa .i64 (ex-(if((70:Int)<(aa .i64 (ex-ey)))then(70:Int)else(aa .i64 (ex-ey))))),(((!(((f119 ((f120 (((0:Int),(Y,())),((aa .i64 ((aa .i64 (ex-(if((70:Int)<(aa .i64 (ex-ey)))then(70:Int)else(aa .i64 (ex-ey)))))-ey)),()))).1,((aa .i64 ((aa .i64 (ex-(if((70:Int)<(aa .i64 (ex-ey)))then(70:Int)else(aa .i64 (ex-ey)))))-ey)),()))).1.1==(0:Int))&&((f119 ((f120 (((0:Int),(Y,())),((aa .i64 ((aa .i64 (ex-(if((70:Int)<(aa .i64 (ex-ey)))then(70:Int)else(aa .i64 (ex-ey)))))-ey)),()))).1,((aa .i64 ((aa .i64 (ex-(if((70:Int)<(aa .i64 (ex-ey)))then(70:Int)else(aa .i64 (ex-ey)))))-ey)),()))).1.2.1==Y)))||((decide ((aa .i64 ((aa .i64 (ex-(if((70:Int)<(aa .i64 (ex-ey)))then(70:Int)else(aa .i64 (ex-ey)))))-ey))>(63:Int)))&&(Y !=(0:Int)))),())))))))then(some (f122 (f,(m,(nx,((f124 ((f124 ((f119 (((0:Int),(X,())),((if((70:Int)<(aa .i64 (ex-ey)))then(70:Int)else(aa .i64 (ex-ey))),()))).1,(f120 (((0:Int),(Y,())),((aa .i64 ((aa .i64 (ex-(if((70:Int)<(aa .i64 (ex-ey)))then(70:Int)else(aa .i64 (ex-ey)))))-ey)),()))))).1,(((0:Int),((1:Int),())),()))).1,((aa .i64 (ex-(if((70:Int)<(aa .i64 (ex-ey)))then(70:Int)else(aa .i64 (ex-ey))))),(((!(((f119 ((f120 (((0:Int),(Y,())),((aa .i64 ((aa .i64 (ex-(if((70:Int)<(aa .i64 (ex-ey)))then(70:Int)else(aa .i64 (ex-ey)))))-ey)),()))).1,((aa .i64 ((aa .i64 (ex-(if((70:Int)<(aa .i64 (ex-ey)))then(70:Int)else(aa .i64 (ex-ey)))))-ey)),()))).1.1==(0:Int))&&((f119 ((f120 (((0:Int),(Y,())),((aa .i64 ((aa .i64 (ex-(if((70:Int)<(aa .i64 (ex-ey)))then(70:Int)else(aa .i64 (ex-ey)))))-ey)),()))).1,((aa .i64 ((aa .i64 (ex-(if((70:Int)<(aa .i64 (ex-ey)))then(70:Int)else(aa .i64 (ex-ey)))))-ey)),()))).1.2.1==Y)))||((decide ((aa .i64 ((aa .i64 (ex-(if((70:Int)<(aa .i64 (ex-ey)))then(70:Int)else(aa .i64 (ex-ey)))))-ey))>(63:Int)))&&(Y !=(0:Int)))),()))))))))else none)else none)else bif((((f124 ((f119 (((0:Int),(X,())),((if((70:Int)<(aa .i64 (ex-ey)))then(70:Int)else(aa .i64 (ex-ey))),()))).1,(f120 (((0:Int),(Y,())),((aa .i64 ((aa .i64 (ex-(if((70:Int)<(aa .i64 (ex-ey)))then(70:Int)else(aa .i64 (ex-ey)))))-ey)),()))))).1.1==(0:Int))&&((f124 ((f119 (((0:Int),(X,())),((if((70:Int)<(aa .i64 (ex-ey)))then(70:Int)else(aa .i64 (ex-ey))),()))).1,(f120 (((0:Int),(Y,())),((aa .i64 ((aa .i64 (ex-(if((70:Int)<(aa .i64 (ex-ey)))then(70:Int)else(aa .i64 (ex-ey)))))-ey)),()))))).1.2.1==(0:Int)))&&(!((!(((f119 ((f120 (((0:Int),(Y,())),((aa .i64 ((aa .i64 (ex-(if((70:Int)<(aa .i64 (ex-ey)))then(70:Int)else(aa .i64 (ex-ey)))))-ey)),()))).1,((aa .i64 ((aa .i64 (ex-(if((70:Int)<(aa .i64 (ex-ey)))then(70:Int)else(aa .i64 (ex-ey)))))-ey)),()))).1.1==(0:Int))&&((f119 ((f120 (((0:Int),(Y,())),((aa .i64 ((aa .i64 (ex-(if((70:Int)<(aa .i64 (ex-ey)))then(70:Int)else(aa .i64 (ex-ey)))))-ey)),()))).1,((aa .i64 ((aa .i64 (ex-(if((70:Int)<(aa .i64 (ex-ey)))then(70:Int)else(aa .i64 (ex-ey)))))-ey)),()))).1.2.1==Y)))||((decide ((aa .i64 ((aa .i64 (ex-(if((70:Int)<(aa .i64 (ex-ey)))then(70:Int)else(aa .i64 (ex-ey)))))-ey))>(63:Int)))&&(Y !=(0:Int))))))then(bif(p118 (f,((m==(4:Int)),())))then(some ((f118 (f,((m==(4:Int)),()))).1,((0:Int),((0:Int),()))))else none)else bif(p122 (f,(m,(nx,((f124 ((f119 (((0:Int),(X,())),((if((70:Int)<(aa .i64 (ex-ey)))then(70:Int)else(aa .i64 (ex-ey))),()))).1,(f120 (((0:Int),(Y,())),((aa .i64 ((aa .i64 (ex-(if((70:Int)<(aa .i64 (ex-ey)))then(70:Int)else(aa .i64 (ex-ey)))))-ey)),()))))).1,((aa .i64 (ex-(if((70:Int)<(aa .i64 (ex-ey)))then(70:Int)else(aa .i64 (ex-ey))))),(((!(((f119 ((f120 (((0:Int),(Y,())),((aa .i64 ((aa .i64 (ex-(if((70:Int)<(aa .i64 (ex-ey)))then(70:Int)else(aa .i64 (ex-ey)))))-ey)),()))).1,((aa .i64 ((aa .i64 (ex-(if((70:Int)<(aa .i64 (ex-ey)))then(70:Int)else(aa .i64 (ex-ey)))))-ey)),()))).1.1==(0:Int))&&((f119 ((f120 (((0:Int),(Y,())),((aa .i64 ((aa .i64 (ex-(if((70:Int)<(aa .i64 (ex-ey)))then(70:Int)else(aa .i64 (ex-ey)))))-ey)),()))).1,((aa .i64 ((aa .i64 (ex-(if((70:Int)<(aa .i64 (ex-ey)))then(70:Int)else(aa .i64 (ex-ey)))))-ey)),()))).1.2.1==Y)))||((decide ((aa .i64 ((aa .i64 (ex-(if((70:Int)<(aa .i64 (ex-ey)))then(70:Int)else(aa .i64 (ex-ey)))))-ey))>(63:Int)))&&(Y !=(0:Int)))),())))))))then(some (f122 (f,(m,(nx,((f124 ((f119 (((0:Int),(X,())),((if((70:Int)<(aa .i64 (ex-ey)))then(70:Int)else(aa .i64 (ex-ey))),()))).1,(f120 (((0:Int),(Y,())),((aa .i64 ((aa .i64 (ex-(if((70:Int)<(aa .i64 (ex-ey)))then(70:Int)else(aa .i64 (ex-ey)))))-ey)),()))))).1,((aa .i64 (ex-(if((70:Int)<(aa .i64 (ex-ey)))then(70:Int)else(aa .i64 (ex-ey))))),(((!(((f119 ((f120 (((0:Int),(Y,())),((aa .i64 ((aa .i64 (ex-(if((70:Int)<(aa .i64 (ex-ey)))then(70:Int)else(aa .i64 (ex-ey)))))-ey)),()))).1,((aa .i64 ((aa .i64 (ex-(if((70:Int)<(aa .i64 (ex-ey)))then(70:Int)else(aa .i64 (ex-ey)))))-ey)),()))).1.1==(0:Int))&&((f119 ((f120 (((0:Int),(Y,())),((aa .i64 ((aa .i64 (ex-(if((70:Int)<(aa .i64 (ex-ey)))then(70:Int)else(aa .i64 (ex-ey)))))-ey)),()))).1,((aa .i64 ((aa .i64 (ex-(if((70:Int)<(aa .i64 (ex-ey)))then(70:Int)else(aa .i64 (ex-ey)))))-ey)),()))).1.2.1==Y)))||((decide ((aa .i64 ((aa .i64 (ex-(if((70:Int)<(aa .i64 (ex-ey)))then(70:Int)else(aa .i64 (ex-ey)))))-ey))>(63:Int)))&&(Y !=(0:Int)))),()))))))))else none)else none)else none)else none)else none)else none)else none
def t71(p119:Ze)(f119:Zr)(p120:sH)(f120:tQ)(p121:sI)(f121:tR)(p123:Th)(f123:Tn)(p124:sJ)(f124:tS)(p118:G5)(f118:G8)(p122:Gf)(f122:Gi)(a0 a1:Ab (.int .i64))(a2 a3:Ab (.pair (.bool) (.pair (.int .u64) (.pair (.int .i64) (.unit))))):Option (DenS JD):=bif(((a2.2.1==(0:Int))&&(a3.2.1==(0:Int)))&&(a2.1==a3.1))then(bif(p118 (a0,a2.1,()))then(some ((f118 (a0,a2.1,())).1,(0:Int),(0:Int),()))else none)else bif((a2.2.1==(0:Int))||((a3.2.1 !=(0:Int))&&(decide (a2.2.2.1<a3.2.2.1))))then(bif(a2.2.1==(0:Int))then(pW p119 f119 p120 f120 p121 f121 p123 f123 p124 f124 p118 f118 p122 f122 a0 a1 a3.1 a3.2.1 a3.2.2.1 a2.1 a2.2.1 a3.2.2.1)else(pW p119 f119 p120 f120 p121 f121 p123 f123 p124 f124 p118 f118 p122 f122 a0 a1 a3.1 a3.2.1 a3.2.2.1 a2.1 a2.2.1 a2.2.2.1))else bif(a3.2.1==(0:Int))then(pW p119 f119 p120 f120 p121 f121 p123 f123 p124 f124 p118 f118 p122 f122 a0 a1 a2.1 a2.2.1 a2.2.2.1 a3.1 a3.2.1 a2.2.2.1)else(pW p119 f119 p120 f120 p121 f121 p123 f123 p124 f124 p118 f118 p122 f122 a0 a1 a2.1 a2.2.1 a2.2.2.1 a3.1 a3.2.1 a3.2.2.1)
theorem r71(x:DenS Pn):run (cf [(208,⟨Hz,Jm,p119,f119⟩),(234,⟨IY,Lh,p120,f120⟩),(235,⟨IZ,Li,p121,f121⟩),(236,⟨Gx,HG,p123,f123⟩),(237,⟨I0,Lj,p124,f124⟩),(64,⟨Es,EY,p118,f118⟩),(104,⟨Et,EZ,p122,f122⟩)] []) 9 193 Tryz.f193 Pn JD x=t71 p119 f119 p120 f120 p121 f121 p123 f123 p124 f124 p118 f118 p122 f122 x.1 x.2.1 x.2.2.1 x.2.2.2.1:=by kernel_rfl
def U0(x:DenS Pn):Option (DenS JD):=t71 AJ.pre AJ.F AK.pre AK.F Mn.pre Mn.F Ef.pre Ef.F BR.pre BR.F Bu.pre Bu.F Bv.pre Bv.F x.1 x.2.1 x.2.2.1 x.2.2.2.1
def RN:Sum:=Aj Pn JD U0 (DenS.dflt JD)
theorem aRi:Sound Tryz.prog G1 193 RN:=sd (cf [(208,AJ),(234,AK),(235,Mn),(236,Ef),(237,BR),(64,Bu),(104,Bv)] []) 193 Tryz.f193 ⟨aBk,aPW,aPX,aBl,aPY,SW,SX,trivial⟩ trivial Pn JD U0 _ (fun _=>r71 ..)
abbrev tM:=Ae Pn
abbrev uP:=Ad Pn JD
variable (p71:tM)(f71:uP)
end Vx
namespace Vx
open Go Go.Proofs
variable (p69:BF)(f69:BG)(p66:B2)(f66:B3)(p91:Gh)(f91:Gk)(p90:Zn)(f90:ZA)(p65:DE)(f65:DF)(p70:Dp)(f70:Dq)(p98:Kd)(f98:Kj)(p72:tN)(f72:uQ)(p155:C6)(f155:C7)(p157:G6)(f157:G9)(p118:G5)(f118:G8)(p105:U5)(f105:Vf)(p173:AZ)(f173:A1)(p146:Tj)(f146:Tp)(p102:G4)(f102:G7)(p178:Ik)(f178:Im)(p151:Fv)(f151:Fw)(p156:iA)(f156:iS)(p1173:RW)(f1173:RZ)(p171:Ij)(f171:Il)(p92:Kb)(f92:Kh)(p186:Ka)(f186:Kg)(p185:J9)(f185:Kf)(p176:J8)(f176:Ke)(p143:Gg)(f143:Gj)(p97:Kc)(f97:Ki)(p107:U6)(f107:Vg)(p122:Gf)(f122:Gi)(p71:tM)(f71:uP)
abbrev KU:Aa:=[(false,.int .i64),(false,.int .i64),(false,.int .u64),(false,.int .u64)]
abbrev Lo:Aa:=[(false,.int .u64),(false,.int .i64),(false,.int .i64)]
def nV(p69:BF)(f69:BG)(p65:DE)(f65:DF)(p70:Dp)(f70:Dq)(p72:tN)(f72:uQ)(p71:tM)(f71:uP)(a0 a1:Ab (.int .i64))(a2 a3:Ab (.int .u64)):Option (DenS Lo):=let e1_:=(a0,a1,(f72 (a0,(f69 (a0,())).1,a2,())).1,(f72 (a0,(f69 (a0,())).1,a3,())));let e2_:=(((f65 (a0,a2,())).1==(2:Int))||((f65 (a0,a2,())).1==(9:Int)));let e3_:=(((f65 (a0,a3,())).1==(2:Int))||((f65 (a0,a3,())).1==(9:Int)));let e4_:=((f70 (a0,())).1,(1:Int),(0:Int),());bif(p69 (a0,()))then(bif((f69 (a0,())).2.1 !=(0:Int))then(some ((0:Int),(0:Int),(f69 (a0,())).2))else bif((decide (a1<(0:Int)))||(decide (a1>(5:Int))))then(some ((0:Int),(0:Int),(3:Int),()))else bif(p65 (a0,a2,()))then(bif((f65 (a0,a2,())).2.1 !=(0:Int))then(some ((0:Int),(0:Int),(f65 (a0,a2,())).2))else bif(p65 (a0,a3,()))then(bif((f65 (a0,a3,())).2.1 !=(0:Int))then(some ((0:Int),(0:Int),(f65 (a0,a3,())).2))else bif(p70 (a0,()))then(bif(((f65 (a0,a2,())).1==(0:Int))||((f65 (a0,a3,())).1==(0:Int)))then(some e4_)else bif(((f65 (a0,a2,())).1==(1:Int))||((f65 (a0,a3,())).1==(1:Int)))then(some ((f70 (a0,())).1,(0:Int),(0:Int),()))else bif((e2_&&e3_)&&((f65 (a0,a2,())).1 !=(f65 (a0,a3,())).1))then(some e4_)else bif e2_ then(some (a2,(0:Int),(0:Int),()))else bif e3_ then(some (a3,(0:Int),(0:Int),()))else bif(p72 (a0,(f69 (a0,())).1,a2,()))then(bif(p72 (a0,(f69 (a0,())).1,a3,()))then(bif(p71 e1_)then(some (f71 e1_))else none)else none)else none)else none)else none)else none)else none
theorem r27(x:DenS KU):run (cf [(71,⟨BU,BV,p69,f69⟩),(59,⟨Dy,Dz,p65,f65⟩),(61,⟨Di,Dj,p70,f70⟩),(194,⟨Po,Q4,p72,f72⟩),(193,⟨Pn,JD,p71,f71⟩)] []) 9 158 Tryz.f158 KU Lo x=nV p69 f69 p65 f65 p70 f70 p72 f72 p71 f71 x.1 x.2.1 x.2.2.1 x.2.2.2.1:=by kernel_rfl
def X8(x:DenS KU):Option (DenS Lo):=nV Ao.pre Ao.F AW.pre AW.F AS.pre AS.F RO.pre RO.F RN.pre RN.F x.1 x.2.1 x.2.2.1 x.2.2.2.1
def Fs:Sum:=Aj KU Lo X8 (DenS.dflt Lo)
theorem rI:Sound Tryz.prog G1 158 Fs:=sd (cf [(71,Ao),(59,AW),(61,AS),(194,RO),(193,RN)] []) 158 Tryz.f158 ⟨Do,G0,Gd,aRj,aRi,trivial⟩ trivial KU Lo X8 _ (fun _=>r27 ..)
abbrev iB:=Ae KU
abbrev iT:=Ad KU Lo
variable (p27:iB)(f27:iT)
abbrev IW:Aa:=[(false,.int .i64)]
abbrev Jk:Aa:=[(false,.int .u64)]
def aMy(a0:Ab (.int .i64)):Option (DenS Jk):=let e1_:=(aa .i64 ((Vx.k_rows.getD (ai a0) ((0:Int),(0:Int),(0:Int),(0:Int),())).1-(1:Int)));bif((decide ((0:Int)<=a0))&&(decide (a0<((4:Nat):Int))))then(bif(decide ((0:Int)<=e1_))then(some ((AQ .u64 (1:Int) e1_),()))else none)else none
theorem aZa(x:DenS IW):run (cf [] []) 9 233 Tryz.f233 IW Jk x=aMy x.1:=by kernel_rfl
def XK(x:DenS IW):Option (DenS Jk):=aMy x.1
def Fr:Sum:=Aj IW Jk XK (DenS.dflt Jk)
theorem rD:Sound Tryz.prog G1 233 Fr:=sd (cf [] []) 233 Tryz.f233 trivial trivial IW Jk XK _ (fun _=>aZa ..)
abbrev Zd:=Ae IW
abbrev Zq:=Ad IW Jk
variable (p115:Zd)(f115:Zq)
abbrev Jc:Aa:=[(false,.int .i64),(false,.int .u64)]
abbrev JC:Aa:=[(false,.int .u64),(false,.int .i64)]
def pL(p66:B2)(f66:B3)(p115:Zd)(f115:Zq)(a0:Ab (.int .i64))(a1:Ab (.int .u64)):Option (DenS JC):=bif(p66 (a0,a1,()))then(bif((f66 (a0,a1,())).1 !=(0:Int))then(some ((0:Int),(f66 (a0,a1,()))))else bif(p115 (a0,()))then(some ((cF .u64 a1 (f115 (a0,())).1),(0:Int),()))else none)else none
theorem r64(x:DenS Jc):run (cf [(85,⟨CA,CB,p66,f66⟩),(233,⟨IW,Jk,p115,f115⟩)] []) 9 187 Tryz.f187 Jc JC x=pL p66 f66 p115 f115 x.1 x.2.1:=by kernel_rfl
def YP(x:DenS Jc):Option (DenS JC):=pL Ar.pre Ar.F Fr.pre Fr.F x.1 x.2.1
def E1:Sum:=Aj Jc JC YP (DenS.dflt JC)
theorem fY:Sound Tryz.prog G1 187 E1:=sd (cf [(85,Ar),(233,Fr)] []) 187 Tryz.f187 ⟨Fu,rD,trivial⟩ trivial Jc JC YP _ (fun _=>r64 ..)
abbrev Vd:=Ae Jc
abbrev Vn:=Ad Jc JC
variable (p64:Vd)(f64:Vn)
abbrev N1:Aa:=[(false,.int .i64),(false,.int .i64),(false,.int .u64),(false,.int .u64)]
abbrev PR:Aa:=[(false,.int .u64),(false,.int .i64),(false,.int .i64)]
def nU(p66:B2)(f66:B3)(p64:Vd)(f64:Vn)(p27:iB)(f27:iT)(a0 a1:Ab (.int .i64))(a2 a3:Ab (.int .u64)):Option (DenS PR):=let e1_:=(a0,a1,a2,(f64 (a0,a3,())).1,());bif(p66 (a0,a3,()))then(bif((f66 (a0,a3,())).1==(0:Int))then(bif(p64 (a0,a3,()))then(bif(p27 e1_)then(some (f27 e1_))else none)else none)else bif(p27 (a0,a1,a2,a3,()))then(some (f27 (a0,a1,a2,a3,())))else none)else none
theorem r25(x:DenS N1):run (cf [(85,⟨CA,CB,p66,f66⟩),(187,⟨Jc,JC,p64,f64⟩),(158,⟨KU,Lo,p27,f27⟩)] []) 9 159 Tryz.f159 N1 PR x=nU p66 f66 p64 f64 p27 f27 x.1 x.2.1 x.2.2.1 x.2.2.2.1:=by kernel_rfl
def X7(x:DenS N1):Option (DenS PR):=nU Ar.pre Ar.F E1.pre E1.F Fs.pre Fs.F x.1 x.2.1 x.2.2.1 x.2.2.2.1
def Mo:Sum:=Aj N1 PR X7 (DenS.dflt PR)
theorem aBr:Sound Tryz.prog G1 159 Mo:=sd (cf [(85,Ar),(187,E1),(158,Fs)] []) 159 Tryz.f159 ⟨Fu,fY,rI,trivial⟩ trivial N1 PR X7 _ (fun _=>r25 ..)
abbrev sL:=Ae N1
abbrev tU:=Ad N1 PR
variable (p25:sL)(f25:tU)
abbrev Ob:Aa:=[(false,.int .i64),(true,.pair (.int .i64) (.pair (.int .i64) (.pair (.int .i64) (.pair (.int .i64) (.unit))))),(false,.int .u64)]
abbrev P2:Aa:=[(true,.pair (.int .i64) (.pair (.bool) (.pair (.int .u64) (.pair (.int .i64) (.unit))))),(false,.int .i64)]
def WY(p65:DE)(f65:DF)(p98:Kd)(f98:Kj)(a0:Ab (.int .i64))(a1:Ab (.pair (.int .i64) (.pair (.int .i64) (.pair (.int .i64) (.pair (.int .i64) (.unit))))))(a2:Ab (.int .u64)):Option (DenS P2):=let e1_:=(aa .i64 (a1.2.1-(1:Int)));bif(p65 (a0,a2,()))then(bif((f65 (a0,a2,())).2.1 !=(0:Int))then(some (((0:Int),false,(0:Int),(0:Int),()),(f65 (a0,a2,())).2))else bif(p98 (a0,a2,()))then(bif((f98 (a0,a2,())).2.1==(0:Int))then(some (((f65 (a0,a2,())).1,(f98 (a0,a2,())).1,(f98 (a0,a2,())).2.2.1,(aa .i64 ((aa .i64 ((aa .i64 ((aa .i64 ((aa .i64 (1:Int))-(1:Int)))+a1.2.2.1))-a1.2.1))+(1:Int))),()),(0:Int),()))else bif(decide ((0:Int)<=e1_))then(some (((f65 (a0,a2,())).1,(f98 (a0,a2,())).1,(Aq .u64 (f98 (a0,a2,())).2.2.1 (AQ .u64 (1:Int) e1_)),(aa .i64 ((aa .i64 ((aa .i64 ((aa .i64 ((aa .i64 (f98 (a0,a2,())).2.1)-(1:Int)))+a1.2.2.1))-a1.2.1))+(1:Int))),()),(0:Int),()))else none)else none)else none
theorem bAk(x:DenS Ob):run (cf [(59,⟨Dy,Dz,p65,f65⟩),(91,⟨E9,Fk,p98,f98⟩)] []) 9 195 Tryz.f195 Ob P2 x=WY p65 f65 p98 f98 x.1 x.2.1 x.2.2.1:=by kernel_rfl
def UT(x:DenS Ob):Option (DenS P2):=WY AW.pre AW.F B1.pre B1.F x.1 x.2.1 x.2.2.1
def Rl:Sum:=Aj Ob P2 UT (DenS.dflt P2)
theorem aQs:Sound Tryz.prog G1 195 Rl:=sd (cf [(59,AW),(91,B1)] []) 195 Tryz.f195 ⟨G0,S6,trivial⟩ trivial Ob P2 UT _ (fun _=>bAk ..)
abbrev aEC:=Ae Ob
abbrev aGm:=Ad Ob P2
variable (p350:aEC)(f350:aGm)
abbrev Oc:Aa:=[(true,.pair (.int .i64) (.pair (.bool) (.pair (.int .u64) (.pair (.int .i64) (.unit)))))]
abbrev P3:Aa:=[(false,.bool)]
def aMO(a0:Ab (.pair (.int .i64) (.pair (.bool) (.pair (.int .u64) (.pair (.int .i64) (.unit)))))):Option (DenS P3):=some (((a0.1==(1:Int))||(a0.1==(0:Int))),())
theorem bAl(x:DenS Oc):run (cf [] []) 9 196 Tryz.f196 Oc P3 x=aMO x.1:=by kernel_rfl
def Ym(x:DenS Oc):Option (DenS P3):=aMO x.1
def Rm:Sum:=Aj Oc P3 Ym (DenS.dflt P3)
theorem aQt:Sound Tryz.prog G1 196 Rm:=sd (cf [] []) 196 Tryz.f196 trivial trivial Oc P3 Ym _ (fun _=>bAl ..)
abbrev aED:=Ae Oc
abbrev aGn:=Ad Oc P3
variable (p351:aED)(f351:aGn)
abbrev Od:Aa:=[(true,.pair (.int .i64) (.pair (.bool) (.pair (.int .u64) (.pair (.int .i64) (.unit)))))]
abbrev P4:Aa:=[(false,.bool)]
def aMP(a0:Ab (.pair (.int .i64) (.pair (.bool) (.pair (.int .u64) (.pair (.int .i64) (.unit)))))):Option (DenS P4):=some (((a0.1==(2:Int))||(a0.1==(9:Int))),())
theorem bAm(x:DenS Od):run (cf [] []) 9 197 Tryz.f197 Od P4 x=aMP x.1:=by kernel_rfl
def Yn(x:DenS Od):Option (DenS P4):=aMP x.1
def Rn:Sum:=Aj Od P4 Yn (DenS.dflt P4)
theorem aQu:Sound Tryz.prog G1 197 Rn:=sd (cf [] []) 197 Tryz.f197 trivial trivial Od P4 Yn _ (fun _=>bAm ..)
abbrev aEE:=Ae Od
abbrev aGo:=Ad Od P4
variable (p352:aEE)(f352:aGo)
abbrev Oe:Aa:=[(true,.pair (.int .i64) (.pair (.bool) (.pair (.int .u64) (.pair (.int .i64) (.unit)))))]
abbrev P5:Aa:=[(false,.bool)]
def aMQ(a0:Ab (.pair (.int .i64) (.pair (.bool) (.pair (.int .u64) (.pair (.int .i64) (.unit)))))):Option (DenS P5):=some (((a0.1==(5:Int))||(a0.1==(6:Int))),())
theorem bAn(x:DenS Oe):run (cf [] []) 9 198 Tryz.f198 Oe P5 x=aMQ x.1:=by kernel_rfl
def Yo(x:DenS Oe):Option (DenS P5):=aMQ x.1
def Ro:Sum:=Aj Oe P5 Yo (DenS.dflt P5)
theorem aQv:Sound Tryz.prog G1 198 Ro:=sd (cf [] []) 198 Tryz.f198 trivial trivial Oe P5 Yo _ (fun _=>bAn ..)
abbrev aEF:=Ae Oe
abbrev aGp:=Ad Oe P5
variable (p353:aEF)(f353:aGp)
abbrev Ex:Aa:=[(false,.int .u64),(false,.int .u64)]
abbrev EC:Aa:=[(false,.int .u64),(false,.int .u64)]
def nX(a0 a1:Ab (.int .u64)):Option (DenS EC):=let e2_:=(Bs .u64 a1 (4294967295:Int));let e3_:=(Bs .u64 a0 (4294967295:Int));let e1_:=(aa .u64 ((aa .u64 ((AE .u64 a0 (32:Int))*e2_))+(AE .u64 (aa .u64 (e3_*e2_)) (32:Int))));some ((aa .u64 ((aa .u64 ((aa .u64 ((AE .u64 a0 (32:Int))*(AE .u64 a1 (32:Int))))+(AE .u64 e1_ (32:Int))))+(AE .u64 (aa .u64 ((Bs .u64 e1_ (4294967295:Int))+(aa .u64 (e3_*(AE .u64 a1 (32:Int)))))) (32:Int)))),(aa .u64 (a0*a1)),())
theorem aZZ(x:DenS Ex):run (cf [] []) 9 120 Tryz.f120 Ex EC x=nX x.1 x.2.1:=by kernel_rfl
def Ya(x:DenS Ex):Option (DenS EC):=nX x.1 x.2.1
def AN:Sum:=Aj Ex EC Ya (DenS.dflt EC)
theorem eO:Sound Tryz.prog G1 120 AN:=sd (cf [] []) 120 Tryz.f120 trivial trivial Ex EC Ya _ (fun _=>aZZ ..)
abbrev EK:=Ae Ex
abbrev EM:=Ad Ex EC
variable (p315:EK)(f315:EM)
abbrev I2:Aa:=[(false,.int .u64),(false,.int .u64)]
abbrev Jo:Aa:=[(true,.pair (.int .u64) (.pair (.int .u64) (.unit)))]
def nY(p315:EK)(f315:EM)(a0 a1:Ab (.int .u64)):Option (DenS Jo):=bif(p315 (a0,a1,()))then(some ((f315 (a0,a1,())),()))else none
theorem aZ0(x:DenS I2):run (cf [(120,⟨Ex,EC,p315,f315⟩)] []) 9 199 Tryz.f199 I2 Jo x=nY p315 f315 x.1 x.2.1:=by kernel_rfl
def Yb(x:DenS I2):Option (DenS Jo):=nY AN.pre AN.F x.1 x.2.1
def Eg:Sum:=Aj I2 Jo Yb (DenS.dflt Jo)
theorem aBu:Sound Tryz.prog G1 199 Eg:=sd (cf [(120,AN)] []) 199 Tryz.f199 ⟨eO,trivial⟩ trivial I2 Jo Yb _ (fun _=>aZ0 ..)
abbrev U8:=Ae I2
abbrev Vi:=Ad I2 Jo
variable (p316:U8)(f316:Vi)
abbrev Of:Aa:=[(false,.int .i64),(false,.int .i64),(false,.int .u64),(false,.int .u64)]
abbrev P6:Aa:=[(false,.int .u64),(false,.int .i64),(false,.int .i64)]
def oG(p69:BF)(f69:BG)(p350:aEC)(f350:aGm)(p351:aED)(f351:aGn)(p70:Dp)(f70:Dq)(p352:aEE)(f352:aGo)(p97:Kc)(f97:Ki)(p353:aEF)(f353:aGp)(p118:G5)(f118:G8)(p316:U8)(f316:Vi)(p122:Gf)(f122:Gi)(a0 a1:Ab (.int .i64))(a2 a3:Ab (.int .u64)):Option (DenS P6):=let e18_:=(!((f350 (a0,(f69 (a0,())).1,a2,())).1.2.1==(f350 (a0,(f69 (a0,())).1,a3,())).1.2.1));let e17_:=((f350 (a0,(f69 (a0,())).1,a2,())).1.2.2.1,(f350 (a0,(f69 (a0,())).1,a3,())).1.2.2.1,());let e1_:=(a0,a1,e18_,(f316 e17_).1,(aa .i64 ((f350 (a0,(f69 (a0,())).1,a2,())).1.2.2.2.1+(f350 (a0,(f69 (a0,())).1,a3,())).1.2.2.2.1)),false,());let e20_:=((f350 (a0,(f69 (a0,())).1,a2,())).1,());let e19_:=(f352 e20_);let e21_:=((f350 (a0,(f69 (a0,())).1,a3,())).1,());let e2_:=(e19_.1&&(f353 e21_).1);let e16_:=(a0,e18_,());let e3_:=(f118 e16_);let e4_:=(f97 e16_);let e5_:=e16_;let e6_:=(f353 e20_);let e7_:=e19_;let e8_:=(f351 e20_);let e9_:=(p352 e20_);let e10_:=(p353 e21_);let e11_:=(p353 e20_);let e12_:=(p352 e21_);let e13_:=(f352 e21_);let e14_:=e21_;let e15_:=((f70 (a0,())).1,(1:Int),(f70 (a0,())).2);bif(p69 (a0,()))then(bif((f69 (a0,())).2.1 !=(0:Int))then(some ((0:Int),(0:Int),(f69 (a0,())).2))else bif((decide (a1<(0:Int)))||(decide (a1>(5:Int))))then(some ((0:Int),(0:Int),(3:Int),()))else bif(p350 (a0,(f69 (a0,())).1,a2,()))then(bif((f350 (a0,(f69 (a0,())).1,a2,())).2.1 !=(0:Int))then(some ((0:Int),(0:Int),(f350 (a0,(f69 (a0,())).1,a2,())).2))else bif(p350 (a0,(f69 (a0,())).1,a3,()))then(bif((f350 (a0,(f69 (a0,())).1,a3,())).2.1 !=(0:Int))then(some ((0:Int),(0:Int),(f350 (a0,(f69 (a0,())).1,a3,())).2))else bif(p351 e20_)then(bif((p351 e14_)||(!(bif e8_.1 then false else true)))then(bif(e8_.1||(f351 e14_).1)then(bif(((f350 (a0,(f69 (a0,())).1,a2,())).1.1==(0:Int))||((f350 (a0,(f69 (a0,())).1,a3,())).1.1==(0:Int)))then(bif(p70 (a0,()))then(some e15_)else none)else bif(p70 (a0,()))then(some ((f70 (a0,())).1,(0:Int),(f70 (a0,())).2))else none)else bif e9_ then(bif(e10_||(!e7_.1))then(bif(e11_||(!(bif e2_ then false else true)))then(bif(e12_||(!((bif e2_ then false else true)&&e6_.1)))then(bif(e2_||(e6_.1&&e13_.1))then(bif(p70 (a0,()))then(some e15_)else none)else bif e9_ then(bif(e12_||(!(bif e7_.1 then false else true)))then(bif(e7_.1||e13_.1)then(bif(p97 e5_)then(some (e4_.1,(0:Int),e4_.2))else none)else bif e11_ then(bif(e10_||(!(bif e6_.1 then false else true)))then(bif(e6_.1||(f353 e14_).1)then(bif(p118 e5_)then(some (e3_.1,(0:Int),e3_.2))else none)else bif(p316 e17_)then(bif(p122 e1_)then(some (f122 e1_))else none)else none)else none)else none)else none)else none)else none)else none)else none)else none)else none)else none)else none)else none)else none
theorem bAo(x:DenS Of):run (cf [(71,⟨BU,BV,p69,f69⟩),(195,⟨Ob,P2,p350,f350⟩),(196,⟨Oc,P3,p351,f351⟩),(61,⟨Di,Dj,p70,f70⟩),(197,⟨Od,P4,p352,f352⟩),(62,⟨FQ,FV,p97,f97⟩),(198,⟨Oe,P5,p353,f353⟩),(64,⟨Es,EY,p118,f118⟩),(199,⟨I2,Jo,p316,f316⟩),(104,⟨Et,EZ,p122,f122⟩)] []) 9 160 Tryz.f160 Of P6 x=oG p69 f69 p350 f350 p351 f351 p70 f70 p352 f352 p97 f97 p353 f353 p118 f118 p316 f316 p122 f122 x.1 x.2.1 x.2.2.1 x.2.2.2.1:=by kernel_rfl
def Yp(x:DenS Of):Option (DenS P6):=oG Ao.pre Ao.F Rl.pre Rl.F Rm.pre Rm.F AS.pre AS.F Rn.pre Rn.F Cq.pre Cq.F Ro.pre Ro.F Bu.pre Bu.F Eg.pre Eg.F Bv.pre Bv.F x.1 x.2.1 x.2.2.1 x.2.2.2.1
def Mp:Sum:=Aj Of P6 Yp (DenS.dflt P6)
theorem aBB:Sound Tryz.prog G1 160 Mp:=sd (cf [(71,Ao),(195,Rl),(196,Rm),(61,AS),(197,Rn),(62,Cq),(198,Ro),(64,Bu),(199,Eg),(104,Bv)] []) 160 Tryz.f160 ⟨Do,aQs,aQt,Gd,aQu,UE,aQv,SW,aBu,SX,trivial⟩ trivial Of P6 Yp _ (fun _=>bAo ..)
abbrev sP:=Ae Of
abbrev tY:=Ad Of P6
variable (p354:sP)(f354:tY)
abbrev Oh:Aa:=[(false,.int .i64),(false,.int .i64),(false,.slice (.int .u64))]
abbrev P8:Aa:=[(false,.int .i64)]
abbrev H4:Pat:=⟨39,[(27,.one (.v .i64)),(26,.one (.sl (.int .u64))),(0,.one (.v .i64)),(28,.one (.v .i64))],[]⟩
abbrev dJ:List (Nat×Shape):=[]
abbrev MU:List (Nat×Pat):=[(0,⟨39,[],[]⟩)]
abbrev Mg:Option Pat:=(some ⟨39,[(6,.one (.v .i64))],[]⟩)
variable (w376_7:Pat.D H4->Option (Ah MU Mg))
def Wg(p69:BF)(f69:BG)(p66:B2)(f66:B3){R:Type}(L:Pat.D H4->Option R)(e:Ah MU Mg->Option R)(x:Pat.D H4):Option R:=let e2_:=(x.1.2.2.1,(x.1.2.1.getD (ai x.1.2.2.2.1) (0:Int)),());let e1_:=(f66 e2_);bif(decide (x.1.2.2.2.1<x.1.1))then(bif((decide ((0:Int)<=x.1.2.2.2.1))&&(decide (x.1.2.2.2.1<(x.1.2.1.length:Int))))then(bif(p66 e2_)then(bif(e1_.1 !=(0:Int))then(((e (.inr (e1_,())))))else(L ((x.1.1,x.1.2.1,x.1.2.2.1,(aa .i64 (x.1.2.2.2.1+(1:Int))),()),())))else none)else none)else(e (.inl ((),())))
theorem bC1(d:Nat)(R:Type)(L:Pat.D H4->Option R)(e:Ah MU Mg->Option R)(x:Pat.D H4):
  BC (cf [(71,⟨BU,BV,p69,f69⟩),(85,⟨CA,CB,p66,f66⟩)] [(200,7,LoopSpec.of H4 dJ MU Mg w376_7)]) (d+2) 200 (Bw Tryz.f200 7) H4 dJ MU Mg (R:=R) L e x=Wg p69 f69 p66 f66 L e x:=by kernel_rfl
theorem aKs(p69:BF)(f69:BG)(p66:B2)(f66:B3):Bq fun L e x=>Wg p69 f69 p66 f66 L e x:=by intro _ _ _ _ _ _ _ h0 hL he _;unfold Wg;repeat' (first|exact h0|exact hL _|exact he _|apply BM|(apply BN h0;intro _)|(apply BO<;>intro _))
def oH(p69:BF)(f69:BG)(p66:B2)(f66:B3)(w376_7:Pat.D H4->Option (Ah MU Mg))(a0 a1:Ab (.int .i64))(a2:Ab (.slice (.int .u64))):Option (DenS P8):=
 bif(p69 (a0,()))then(bif((f69 (a0,())).2.1 !=(0:Int))then(some (f69 (a0,())).2)
 else bif((decide (a1<(0:Int)))||(decide (a1>(5:Int))))then(some ((3:Int),()))
 else Vx.A3 (w376_7 (((a2.length:Int),a2,a0,(0:Int),()),())) fun y3=>
 Vx.A2 y3 (fun y4=>
 some ((0:Int),())) (fun z4=>
 some z4.1))
 else none
theorem bAq(x:DenS Oh):run (cf [(71,⟨BU,BV,p69,f69⟩),(85,⟨CA,CB,p66,f66⟩)] [(200,7,LoopSpec.of H4 dJ MU Mg w376_7)]) 9 200 Tryz.f200 Oh P8 x=oH p69 f69 p66 f66 w376_7 x.1 x.2.1 x.2.2.1:=by kernel_rfl
def gX:H4.D->Option (Ah MU Mg):=Bf fun L=>Wg Ao.pre Ao.F Ar.pre Ar.F L some
def UU(x:DenS Oh):Option (DenS P8):=oH Ao.pre Ao.F Ar.pre Ar.F gX x.1 x.2.1 x.2.2.1
def Rp:Sum:=Aj Oh P8 UU (DenS.dflt P8)
theorem aQx:Sound Tryz.prog G1 200 Rp:=sd (cf [(71,Ao),(85,Ar)] [(200,7,LoopSpec.of H4 dJ MU Mg gX)]) 200 Tryz.f200 ⟨Do,Fu,trivial⟩ ⟨rfl,fun d=>BL (fun L e x=>Wg Ao.pre Ao.F Ar.pre Ar.F L e x) (aKs Ao.pre Ao.F Ar.pre Ar.F) (fun _ _ _ _=>bC1 ..),trivial⟩ Oh P8 UU _ (fun _=>bAq ..)
abbrev aEH:=Ae Oh
abbrev aGr:=Ad Oh P8
variable (p376:aEH)(f376:aGr)
abbrev Oi:Aa:=[(false,.int .i64),(false,.int .u64)]
abbrev P9:Aa:=[(true,.pair (.bool) (.pair (.bool) (.pair (.bool) (.pair (.bool) (.pair (.bool) (.unit))))))]
def oI(p65:DE)(f65:DF)(p98:Kd)(f98:Kj)(a0:Ab (.int .i64))(a1:Ab (.int .u64)):Option (DenS P9):=bif(p65 (a0,a1,()))then(bif(p98 (a0,a1,()))then(some (((((f65 (a0,a1,())).1==(1:Int))||((f65 (a0,a1,())).1==(0:Int))),((f65 (a0,a1,())).1==(0:Int)),(((f65 (a0,a1,())).1==(9:Int))||((f65 (a0,a1,())).1==(2:Int))),(((f65 (a0,a1,())).1==(6:Int))||((f65 (a0,a1,())).1==(5:Int))),(f98 (a0,a1,())).1,()),()))else none)else none
theorem bAr(x:DenS Oi):run (cf [(59,⟨Dy,Dz,p65,f65⟩),(91,⟨E9,Fk,p98,f98⟩)] []) 9 201 Tryz.f201 Oi P9 x=oI p65 f65 p98 f98 x.1 x.2.1:=by kernel_rfl
def Yq(x:DenS Oi):Option (DenS P9):=oI AW.pre AW.F B1.pre B1.F x.1 x.2.1
def Rq:Sum:=Aj Oi P9 Yq (DenS.dflt P9)
theorem aQy:Sound Tryz.prog G1 201 Rq:=sd (cf [(59,AW),(91,B1)] []) 201 Tryz.f201 ⟨G0,S6,trivial⟩ trivial Oi P9 Yq _ (fun _=>bAr ..)
abbrev aEI:=Ae Oi
abbrev aGs:=Ad Oi P9
variable (p377:aEI)(f377:aGs)
abbrev Oj:Aa:=[(false,.int .i64),(false,.int .i64)]
abbrev Qa:Aa:=[(false,.int .u64),(false,.int .i64),(false,.int .i64)]
def oJ(p70:Dp)(f70:Dq)(a0 a1:Ab (.int .i64)):Option (DenS Qa):=bif(p70 (a0,()))then(some ((f70 (a0,())).1,a1,(f70 (a0,())).2))else none
theorem bAs(x:DenS Oj):run (cf [(61,⟨Di,Dj,p70,f70⟩)] []) 9 202 Tryz.f202 Oj Qa x=oJ p70 f70 x.1 x.2.1:=by kernel_rfl
def Yr(x:DenS Oj):Option (DenS Qa):=oJ AS.pre AS.F x.1 x.2.1
def Rr:Sum:=Aj Oj Qa Yr (DenS.dflt Qa)
theorem aQz:Sound Tryz.prog G1 202 Rr:=sd (cf [(61,AS)] []) 202 Tryz.f202 ⟨Gd,trivial⟩ trivial Oj Qa Yr _ (fun _=>bAs ..)
abbrev aEJ:=Ae Oj
abbrev aGt:=Ad Oj Qa
variable (p378:aEJ)(f378:aGt)
abbrev GC:Aa:=[(false,.int .i64),(false,.int .u64)]
abbrev GO:Aa:=[(true,.pair (.bool) (.pair (.slice (.int .u64)) (.pair (.int .i64) (.unit)))),(false,.int .i64)]
def oO(p66:B2)(f66:B3)(p90:Zn)(f90:ZA)(p91:Gh)(f91:Gk)(p92:Kb)(f92:Kh)(a0:Ab (.int .i64))(a1:Ab (.int .u64)):Option (DenS GO):=let e10_:=(Vx.k_rows.getD (ai a0) ((0:Int),(0:Int),(0:Int),(0:Int),()));let e9_:=(f90 (e10_,a1,()));let e8_:=(Aq .u64 e9_.2.2.1 (AQ .u64 (1:Int) (aa .i64 (e10_.2.1-(1:Int)))));let e1_:=(f92 (e8_,()));let e2_:=e8_;let e3_:=((aa .i64 (e10_.1-e10_.2.1)),());let e4_:=(f92 e9_.2.2);let e5_:=e9_;let e6_:=e10_;let e7_:=((false,[],(0:Int),()),(0:Int),());bif(p66 (a0,a1,()))then(bif((f66 (a0,a1,())).1 !=(0:Int))then(some ((false,[],(0:Int),()),(f66 (a0,a1,()))))else bif(bif(decide ((0:Int)<=a0))then(decide (a0<((4:Nat):Int)))else false)then(bif(p90 (e6_,a1,()))then(bif(p91 e3_)then(bif(e5_.2.1==(f91 e3_).1)then(some ((false,[],(0:Int),()),(40:Int),()))else bif(e5_.2.1==(0:Int))then(bif(e5_.2.2.1==(0:Int))then(some e7_)else bif(p92 e5_.2.2)then(bif(decide ((0:Int)<=e4_.1))then(some ((e5_.1,((AE .u64 e5_.2.2.1 e4_.1)::[]),(aa .i64 ((aa .i64 ((aa .i64 ((aa .i64 ((aa .i64 ((aa .i64 (1:Int))-(1:Int)))+e6_.2.2.1))-e6_.2.1))+(1:Int)))+e4_.1)),()),(0:Int),()))else none)else none)else bif(decide ((0:Int)<=(aa .i64 (e6_.2.1-(1:Int)))))then(bif(e2_==(0:Int))then(some e7_)else bif(p92 (e2_,()))then(bif(decide ((0:Int)<=e1_.1))then(some ((e5_.1,((AE .u64 e2_ e1_.1)::[]),(aa .i64 ((aa .i64 ((aa .i64 ((aa .i64 ((aa .i64 ((aa .i64 e5_.2.1)-(1:Int)))+e6_.2.2.1))-e6_.2.1))+(1:Int)))+e1_.1)),()),(0:Int),()))else none)else none)else none)else none)else none)else none)else none
theorem r40(x:DenS GC):run (cf [(85,⟨CA,CB,p66,f66⟩),(87,⟨Jf,JG,p90,f90⟩),(72,⟨Ed,Ee,p91,f91⟩),(191,⟨GF,GR,p92,f92⟩)] []) 9 203 Tryz.f203 GC GO x=oO p66 f66 p90 f90 p91 f91 p92 f92 x.1 x.2.1:=by kernel_rfl
def Yw(x:DenS GC):Option (DenS GO):=oO Ar.pre Ar.F DD.pre DD.F Br.pre Br.F Cv.pre Cv.F x.1 x.2.1
def DC:Sum:=Aj GC GO Yw (DenS.dflt GO)
theorem Xw:Sound Tryz.prog G1 203 DC:=sd (cf [(85,Ar),(87,DD),(72,Br),(191,Cv)] []) 203 Tryz.f203 ⟨Fu,rU,JX,rV,trivial⟩ trivial GC GO Yw _ (fun _=>r40 ..)
abbrev RY:=Ae GC
abbrev R1:=Ad GC GO
variable (p40:RY)(f40:R1)
abbrev IV:Aa:=[(false,.slice (.int .u64))]
abbrev Jj:Aa:=[(true,.slice (.int .u64))]
def mN(p173:AZ)(f173:A1)(a0:Ab (.slice (.int .u64))):Option (DenS Jj):=let e1_:=(ar (ai ((f173 (a0,())).1.length:Int)) (0:Int));bif(p173 (a0,()))then(bif((decide ((0:Int)<=((f173 (a0,())).1.length:Int)))&&(decide ((((f173 (a0,())).1.length:Int)*(8:Int))<=(140737488355328:Int))))then(some ((((f173 (a0,())).1.take e1_.length)++(e1_.drop (f173 (a0,())).1.length)),()))else none)else none
theorem aY9(x:DenS IV):run ({cf [(93,⟨Bz,BA,p173,f173⟩)] []with keep:=true}) 9 116 Tryz.f116 IV Jj x=mN p173 f173 x.1:=by kernel_rfl
def S8(x:DenS IV):Option (DenS Jj):=mN Ag.pre Ag.F x.1
def Dk:Sum:=Aj IV Jj S8 (DenS.dflt Jj)
theorem aBi:Sound Tryz.prog G1 116 Dk:=sd ({cf [(93,Ag)] []with keep:=true}) 116 Tryz.f116 ⟨DO,trivial⟩ trivial IV Jj S8 _ (fun _=>aY9 ..)
abbrev Zc:=Ae IV
abbrev Zp:=Ad IV Jj
variable (p1146:Zc)(f1146:Zp)
abbrev GB:Aa:=[(false,.int .u64)]
abbrev GN:Aa:=[(false,.int .i64)]
def n5(p178:Ik)(f178:Im)(a0:Ab (.int .u64)):Option (DenS GN):=bif(p178 (a0,()))then(some ((aa .i64 ((64:Int)-(f178 (a0,())).1)),()))else none
theorem aZ8(x:DenS GB):run (cf [(115,⟨FO,Fi,p178,f178⟩)] []) 9 118 Tryz.f118 GB GN x=n5 p178 f178 x.1:=by kernel_rfl
def Yf(x:DenS GB):Option (DenS GN):=n5 CE.pre CE.F x.1
def BP:Sum:=Aj GB GN Yf (DenS.dflt GN)
theorem aBx:Sound Tryz.prog G1 118 BP:=sd (cf [(115,CE)] []) 118 Tryz.f118 ⟨Xo,trivial⟩ trivial GB GN Yf _ (fun _=>aZ8 ..)
abbrev M1:=Ae GB
abbrev M2:=Ad GB GN
variable (p327:M1)(f327:M2)
abbrev Ey:Aa:=[(false,.int .u64),(false,.int .u64),(false,.int .u64)]
abbrev ED:Aa:=[(false,.int .u64),(false,.int .u64)]
abbrev GU:Pat:=⟨135,[(16,.one (.v .u64)),(11,.one (.v .u64)),(13,.one (.v .u64)),(10,.one (.v .u64)),(9,.one (.v .u64)),(15,.one (.v .u64)),(14,.one (.v .u64)),(2,.one (.v .u64)),(8,.one (.v .u64))],[]⟩
abbrev Xb:List (Nat×Shape):=[]
abbrev J2:List (Nat×Pat):=[(0,⟨135,[(11,.one (.v .u64)),(13,.one (.v .u64)),(10,.one (.v .u64)),(9,.one (.v .u64)),(15,.one (.v .u64)),(14,.one (.v .u64)),(2,.one (.v .u64)),(8,.one (.v .u64))],[]⟩)]
abbrev JI:Option Pat:=none
abbrev GV:Pat:=⟨135,[(10,.one (.v .u64)),(16,.one (.v .u64)),(9,.one (.v .u64)),(15,.one (.v .u64)),(17,.one (.v .u64)),(14,.one (.v .u64)),(18,.one (.v .u64)),(2,.one (.v .u64)),(8,.one (.v .u64))],[]⟩
abbrev Xc:List (Nat×Shape):=[]
abbrev J3:List (Nat×Pat):=[(2,⟨135,[(15,.one (.v .u64)),(17,.one (.v .u64)),(14,.one (.v .u64)),(18,.one (.v .u64)),(2,.one (.v .u64)),(8,.one (.v .u64))],[]⟩)]
abbrev JJ:Option Pat:=none
variable (w328_17:Pat.D GU->Option (Ah J2 JI))(w328_24:Pat.D GV->Option (Ah J3 JJ))
def V8(p327:M1)(f327:M2){R:Type}(L:Pat.D GV->Option R)(e:Ah J3 JJ->Option R)(x:Pat.D GV):Option R:=let e1_:=(x.1.2.2.2.1,x.1.2.2.2.2.1,x.1.2.2.2.2.2.1,(aa .u64 (x.1.2.2.2.2.2.2.1-(1:Int))),x.1.2.2.2.2.2.2.2);let e2_:=(aa .u64 (x.1.2.1+x.1.2.2.1));bif((decide (x.1.2.2.2.2.2.2.1>=(4294967296:Int)))||(decide ((aa .u64 (x.1.2.2.2.2.2.2.1*x.1.1))>(aa .u64 ((aa .u64 ((4294967296:Int)*x.1.2.1))+x.1.2.2.2.2.2.1)))))then(bif(decide (e2_>=(4294967296:Int)))then(((e (.inl (e1_,())))))else(L ((x.1.1,e2_,x.1.2.2.1,e1_),())))else(e (.inl (x.1.2.2.2,())))
theorem bCT(d:Nat)(R:Type)(L:Pat.D GV->Option R)(e:Ah J3 JJ->Option R)(x:Pat.D GV):
  BC (cf [(118,⟨GB,GN,p327,f327⟩)] [(136,17,LoopSpec.of GU Xb J2 JI w328_17),(136,24,LoopSpec.of GV Xc J3 JJ w328_24)]) (d+2) 136 (Bw Tryz.f136 24) GV Xc J3 JJ (R:=R) L e x=V8 p327 f327 L e x:=by kernel_rfl
theorem aKl(p327:M1)(f327:M2):Bq fun L e x=>V8 p327 f327 L e x:=by intro _ _ _ _ _ _ _ h0 hL he _;unfold V8;repeat' (first|exact h0|exact hL _|exact he _|apply BM|(apply BN h0;intro _)|(apply BO<;>intro _))
def V7(p327:M1)(f327:M2){R:Type}(L:Pat.D GU->Option R)(e:Ah J2 JI->Option R)(x:Pat.D GU):Option R:=let e1_:=(x.1.2.1,x.1.2.2.1,x.1.2.2.2.1,x.1.2.2.2.2.1,(aa .u64 (x.1.2.2.2.2.2.1-(1:Int))),x.1.2.2.2.2.2.2);let e2_:=(aa .u64 (x.1.1+x.1.2.2.2.2.1));bif((decide (x.1.2.2.2.2.2.1>=(4294967296:Int)))||(decide ((aa .u64 (x.1.2.2.2.2.2.1*x.1.2.2.2.1))>(aa .u64 ((aa .u64 ((4294967296:Int)*x.1.1))+x.1.2.2.1)))))then(bif(decide (e2_>=(4294967296:Int)))then(((e (.inl (e1_,())))))else(L ((e2_,e1_),())))else(e (.inl (x.1.2,())))
theorem bCS(d:Nat)(R:Type)(L:Pat.D GU->Option R)(e:Ah J2 JI->Option R)(x:Pat.D GU):
  BC (cf [(118,⟨GB,GN,p327,f327⟩)] [(136,17,LoopSpec.of GU Xb J2 JI w328_17),(136,24,LoopSpec.of GV Xc J3 JJ w328_24)]) (d+2) 136 (Bw Tryz.f136 17) GU Xb J2 JI (R:=R) L e x=V7 p327 f327 L e x:=by kernel_rfl
theorem aKk(p327:M1)(f327:M2):Bq fun L e x=>V7 p327 f327 L e x:=by intro _ _ _ _ _ _ _ h0 hL he _;unfold V7;repeat' (first|exact h0|exact hL _|exact he _|apply BM|(apply BN h0;intro _)|(apply BO<;>intro _))
def n6(p327:M1)(f327:M2)(w328_17:Pat.D GU->Option (Ah J2 JI))(w328_24:Pat.D GV->Option (Ah J3 JJ))(a0 a1 a2:Ab (.int .u64)):Option (DenS ED):=
 let e9_:=(aa .u64 (f327 (a2,())).1)
 let e6_:=(Aq .u64 (AQ .u64 a0 e9_) (AE .u64 a1 (aa .u64 ((64:Int)-e9_))))
 let e8_:=(AQ .u64 a2 e9_)
 let e7_:=(AE .u64 e8_ (32:Int))
 let e1_:=(BK .u64 e6_ e7_)
 let e2_:=e6_
 let e3_:=e7_
 let e4_:=(AQ .u64 a1 e9_)
 let e5_:=e8_
 bif(a2==(0:Int))then((none))
 else bif(decide (a2<=a0))then((none))
 else bif(a0==(0:Int))then(bif(a2 !=(0:Int))then(bif(a2 !=(0:Int))then(some ((BK .u64 a1 a2),(iu a1 a2),()))
 else none)
 else none)
 else bif(p327 (a2,()))then(bif(e3_ !=(0:Int))then(Vx.A3 (w328_17 (((aa .u64 (e2_-(aa .u64 (e1_*e3_)))),e2_,(AE .u64 e4_ (32:Int)),(Bs .u64 e5_ (4294967295:Int)),e3_,e1_,(Bs .u64 e4_ (4294967295:Int)),e5_,e9_,()),())) fun y5=>
 Vx.A2 y5 (fun y6=>
 bif(y6.1.2.2.2.1 !=(0:Int))then(Vx.A3 (w328_24 ((y6.1.2.2.1,(aa .u64 ((aa .u64 ((aa .u64 ((aa .u64 (y6.1.1*(4294967296:Int)))+y6.1.2.1))-(aa .u64 (y6.1.2.2.2.2.1*y6.1.2.2.2.2.2.2.1))))-(aa .u64 ((BK .u64 (aa .u64 ((aa .u64 ((aa .u64 (y6.1.1*(4294967296:Int)))+y6.1.2.1))-(aa .u64 (y6.1.2.2.2.2.1*y6.1.2.2.2.2.2.2.1)))) y6.1.2.2.2.1)*y6.1.2.2.2.1)))),y6.1.2.2.2.1,y6.1.2.2.2.2.1,(aa .u64 ((aa .u64 ((aa .u64 (y6.1.1*(4294967296:Int)))+y6.1.2.1))-(aa .u64 (y6.1.2.2.2.2.1*y6.1.2.2.2.2.2.2.1)))),y6.1.2.2.2.2.2.1,(BK .u64 (aa .u64 ((aa .u64 ((aa .u64 (y6.1.1*(4294967296:Int)))+y6.1.2.1))-(aa .u64 (y6.1.2.2.2.2.1*y6.1.2.2.2.2.2.2.1)))) y6.1.2.2.2.1),y6.1.2.2.2.2.2.2),())) fun y8=>
 Vx.A2 y8 (fun y9=>
 some ((aa .u64 ((aa .u64 (y9.1.1*(4294967296:Int)))+y9.1.2.2.2.1)),(AE .u64 (aa .u64 ((aa .u64 ((aa .u64 (y9.1.2.1*(4294967296:Int)))+y9.1.2.2.1))-(aa .u64 (y9.1.2.2.2.1*y9.1.2.2.2.2.1)))) y9.1.2.2.2.2.2.1),())) (fun z9=>
 none))
 else none) (fun z6=>
 none))
 else none)
 else none
theorem aZ9(x:DenS Ey):run (cf [(118,⟨GB,GN,p327,f327⟩)] [(136,17,LoopSpec.of GU Xb J2 JI w328_17),(136,24,LoopSpec.of GV Xc J3 JJ w328_24)]) 9 136 Tryz.f136 Ey ED x=n6 p327 f327 w328_17 w328_24 x.1 x.2.1 x.2.2.1:=by kernel_rfl
def gS:GV.D->Option (Ah J3 JJ):=Bf fun L=>V8 BP.pre BP.F L some
def gR:GU.D->Option (Ah J2 JI):=Bf fun L=>V7 BP.pre BP.F L some
def Yg(x:DenS Ey):Option (DenS ED):=n6 BP.pre BP.F gR gS x.1 x.2.1 x.2.2.1
def AV:Sum:=Aj Ey ED Yg (DenS.dflt ED)
theorem eR:Sound Tryz.prog G1 136 AV:=sd (cf [(118,BP)] [(136,17,LoopSpec.of GU Xb J2 JI gR),(136,24,LoopSpec.of GV Xc J3 JJ gS)]) 136 Tryz.f136 ⟨aBx,trivial⟩ ⟨rfl,fun d=>BL (fun L e x=>V7 BP.pre BP.F L e x) (aKk BP.pre BP.F) (fun _ _ _ _=>bCS ..),⟨rfl,fun d=>BL (fun L e x=>V8 BP.pre BP.F L e x) (aKl BP.pre BP.F) (fun _ _ _ _=>bCT ..),trivial⟩⟩ Ey ED Yg _ (fun _=>aZ9 ..)
abbrev EL:=Ae Ey
abbrev EN:=Ad Ey ED
variable (p328:EL)(f328:EN)
abbrev KP:Aa:=[(true,.slice (.int .u64)),(false,.int .u64)]
abbrev Lk:Aa:=[(false,.slice (.int .u64)),(false,.int .u64)]
abbrev FX:Pat:=⟨31,[(1,.one (.v .u64)),(7,.one (.v .i64)),(0,.one (.own 0)),(6,.one (.v .u64))],[.arr (.int .u64)]⟩
abbrev cQ:List (Nat×Shape):=[]
abbrev MC:List (Nat×Pat):=[(0,⟨31,[(0,.one (.own 0)),(6,.one (.v .u64))],[.arr (.int .u64)]⟩)]
abbrev LV:Option Pat:=none
variable (w1329_3:Pat.D FX->Option (Ah MC LV))
def VU(p328:EL)(f328:EN)(p173:AZ)(f173:A1){R:Type}(L:Pat.D FX->Option R)(e:Ah MC LV->Option R)(x:Pat.D FX):Option R:=let e3_:=(x.1.2.2.2.1,(x.2.1.getD (ai x.1.2.1) (0:Int)),x.1.1,());let e1_:=(f328 e3_);let e2_:=((decide ((0:Int)<=x.1.2.1))&&(decide (x.1.2.1<(x.2.1.length:Int))));bif(decide (x.1.2.1>=(0:Int)))then(bif e2_ then(bif(p328 e3_)then(bif e2_ then(((L ((x.1.1,(aa .i64 (x.1.2.1-(1:Int))),(),e1_.2),(x.2.1.set (ai x.1.2.1) e1_.1),()))))else none)else none)else none)else(e (.inl (((),x.1.2.2.2),x.2)))
theorem bCD(d:Nat)(R:Type)(L:Pat.D FX->Option R)(e:Ah MC LV->Option R)(x:Pat.D FX):
  BC ({cf [(136,⟨Ey,ED,p328,f328⟩),(93,⟨Bz,BA,p173,f173⟩)] [(117,3,LoopSpec.of FX cQ MC LV w1329_3)]with keep:=true}) (d+2) 117 (Bw Tryz.f117 3) FX cQ MC LV (R:=R) L e x=VU p328 f328 p173 f173 L e x:=by kernel_rfl
theorem aJ8(p328:EL)(f328:EN)(p173:AZ)(f173:A1):Bq fun L e x=>VU p328 f328 p173 f173 L e x:=by intro _ _ _ _ _ _ _ h0 hL he _;unfold VU;repeat' (first|exact h0|exact hL _|exact he _|apply BM|(apply BN h0;intro _)|(apply BO<;>intro _))
def mY(p328:EL)(f328:EN)(p173:AZ)(f173:A1)(w1329_3:Pat.D FX->Option (Ah MC LV))(a0:Ab (.slice (.int .u64)))(a1:Ab (.int .u64)):Option (DenS Lk):=
 Vx.A3 (w1329_3 ((a1,(aa .i64 ((a0.length:Int)-(1:Int))),(),(0:Int),()),a0,())) fun y0=>
 Vx.A2 y0 (fun y1=>
 bif(p173 y1.2)then(some ((f173 y1.2).1,y1.1.2))
 else none) (fun z1=>
 none)
theorem aZo(x:DenS KP):run ({cf [(136,⟨Ey,ED,p328,f328⟩),(93,⟨Bz,BA,p173,f173⟩)] [(117,3,LoopSpec.of FX cQ MC LV w1329_3)]with keep:=true}) 9 117 Tryz.f117 KP Lk x=mY p328 f328 p173 f173 w1329_3 x.1 x.2.1:=by kernel_rfl
def Y3:FX.D->Option (Ah MC LV):=Bf fun L=>VU AV.pre AV.F Ag.pre Ag.F L some
def XT(x:DenS KP):Option (DenS Lk):=mY AV.pre AV.F Ag.pre Ag.F Y3 x.1 x.2.1
def EE:Sum:=Aj KP Lk XT (DenS.dflt Lk)
theorem aP0:Sound Tryz.prog G1 117 EE:=sd ({cf [(136,AV),(93,Ag)] [(117,3,LoopSpec.of FX cQ MC LV Y3)]with keep:=true}) 117 Tryz.f117 ⟨eR,DO,trivial⟩ ⟨rfl,fun d=>BL (fun L e x=>VU AV.pre AV.F Ag.pre Ag.F L e x) (aJ8 AV.pre AV.F Ag.pre Ag.F) (fun _ _ _ _=>bCD ..),trivial⟩ KP Lk XT _ (fun _=>aZo ..)
abbrev h9:=Ae KP
abbrev iR:=Ad KP Lk
variable (p1329:h9)(f1329:iR)
abbrev Eu:Aa:=[(false,.slice (.int .u64)),(false,.slice (.int .u64))]
abbrev EA:Aa:=[(false,.int .i64)]
abbrev HR:Pat:=⟨49,[(0,.one (.sl (.int .u64))),(1,.one (.sl (.int .u64))),(5,.one (.v .i64))],[]⟩
abbrev cT:List (Nat×Shape):=[]
abbrev ME:List (Nat×Pat):=[(1,⟨49,[],[]⟩)]
abbrev LX:Option Pat:=(some ⟨49,[(4,.one (.v .i64))],[]⟩)
variable (w144_7:Pat.D HR->Option (Ah ME LX))
def VX(p173:AZ)(f173:A1){R:Type}(L:Pat.D HR->Option R)(e:Ah ME LX->Option R)(x:Pat.D HR):Option R:=let e1_:=((decide ((0:Int)<=x.1.2.2.1))&&(decide (x.1.2.2.1<(x.1.2.1.length:Int))));let e2_:=((decide ((0:Int)<=x.1.2.2.1))&&(decide (x.1.2.2.1<(x.1.1.length:Int))));let e3_:=(x.1.2.1.getD (ai x.1.2.2.1) (0:Int));bif(decide (x.1.2.2.1>=(0:Int)))then(bif e2_ then(bif e1_ then(bif(decide ((x.1.1.getD (ai x.1.2.2.1) (0:Int))<e3_))then(((e (.inr (((-(1:Int)),()),())))))else bif e2_ then(bif e1_ then(bif(decide ((x.1.1.getD (ai x.1.2.2.1) (0:Int))>e3_))then(((e (.inr (((1:Int),()),())))))else(L ((x.1.1,x.1.2.1,(aa .i64 (x.1.2.2.1-(1:Int))),()),())))else none)else none)else none)else none)else(e (.inl ((),())))
theorem bCF(d:Nat)(R:Type)(L:Pat.D HR->Option R)(e:Ah ME LX->Option R)(x:Pat.D HR):
  BC (cf [(93,⟨Bz,BA,p173,f173⟩)] [(101,7,LoopSpec.of HR cT ME LX w144_7)]) (d+2) 101 (Bw Tryz.f101 7) HR cT ME LX (R:=R) L e x=VX p173 f173 L e x:=by kernel_rfl
theorem aKa(p173:AZ)(f173:A1):Bq fun L e x=>VX p173 f173 L e x:=by intro _ _ _ _ _ _ _ h0 hL he _;unfold VX;repeat' (first|exact h0|exact hL _|exact he _|apply BM|(apply BN h0;intro _)|(apply BO<;>intro _))
def nA(p173:AZ)(f173:A1)(w144_7:Pat.D HR->Option (Ah ME LX))(a0 a1:Ab (.slice (.int .u64))):Option (DenS EA):=
 bif(p173 (a0,()))then(bif(p173 (a1,()))then(bif(decide (((f173 (a0,())).1.length:Int)<((f173 (a1,())).1.length:Int)))then(some ((-(1:Int)),()))
 else bif(decide (((f173 (a0,())).1.length:Int)>((f173 (a1,())).1.length:Int)))then(some ((1:Int),()))
 else Vx.A3 (w144_7 (((f173 (a0,())).1,(f173 (a1,())).1,(aa .i64 (((f173 (a0,())).1.length:Int)-(1:Int))),()),())) fun y4=>
 Vx.A2 y4 (fun y5=>
 some ((0:Int),())) (fun z5=>
 some z5.1))
 else none)
 else none
theorem aZu(x:DenS Eu):run (cf [(93,⟨Bz,BA,p173,f173⟩)] [(101,7,LoopSpec.of HR cT ME LX w144_7)]) 9 101 Tryz.f101 Eu EA x=nA p173 f173 w144_7 x.1 x.2.1:=by kernel_rfl
def gK:HR.D->Option (Ah ME LX):=Bf fun L=>VX Ag.pre Ag.F L some
def XW(x:DenS Eu):Option (DenS EA):=nA Ag.pre Ag.F gK x.1 x.2.1
def AU:Sum:=Aj Eu EA XW (DenS.dflt EA)
theorem Uw:Sound Tryz.prog G1 101 AU:=sd (cf [(93,Ag)] [(101,7,LoopSpec.of HR cT ME LX gK)]) 101 Tryz.f101 ⟨DO,trivial⟩ ⟨rfl,fun d=>BL (fun L e x=>VX Ag.pre Ag.F L e x) (aKa Ag.pre Ag.F) (fun _ _ _ _=>bCF ..),trivial⟩ Eu EA XW _ (fun _=>aZu ..)
abbrev E2:=Ae Eu
abbrev E3:=Ad Eu EA
variable (p144:E2)(f144:E3)
abbrev KZ:Aa:=[(false,.slice (.int .u64)),(false,.int .u64)]
abbrev Lt:Aa:=[(false,.slice (.int .u64)),(false,.int .u64)]
abbrev H1:Pat:=⟨31,[(1,.one (.v .u64)),(7,.one (.v .i64)),(0,.one (.sl (.int .u64))),(6,.one (.v .u64))],[]⟩
abbrev dE:List (Nat×Shape):=[]
abbrev MP:List (Nat×Pat):=[(0,⟨31,[(0,.one (.sl (.int .u64))),(6,.one (.v .u64))],[]⟩)]
abbrev Mb:Option Pat:=none
variable (w329_3:Pat.D H1->Option (Ah MP Mb))
def aF(p328:EL)(f328:EN)(p173:AZ)(f173:A1){R:Type}(L:Pat.D H1->Option R)(e:Ah MP Mb->Option R)(x:Pat.D H1):Option R:=let e1_:=((decide ((0:Int)<=x.1.2.1))&&(decide (x.1.2.1<(x.1.2.2.1.length:Int))));bif(decide (x.1.2.1>=(0:Int)))then(bif e1_ then(bif(p328 (x.1.2.2.2.1,(x.1.2.2.1.getD (ai x.1.2.1) (0:Int)),x.1.1,()))then(bif e1_ then((none))else none)else none)else none)else(e (.inl (x.1.2.2,())))
theorem bCU(d:Nat)(R:Type)(L:Pat.D H1->Option R)(e:Ah MP Mb->Option R)(x:Pat.D H1):
  BC (cf [(136,⟨Ey,ED,p328,f328⟩),(93,⟨Bz,BA,p173,f173⟩)] [(117,3,LoopSpec.of H1 dE MP Mb w329_3)]) (d+2) 117 (Bw Tryz.f117 3) H1 dE MP Mb (R:=R) L e x=aF p328 f328 p173 f173 L e x:=by kernel_rfl
theorem aWV(p328:EL)(f328:EN)(p173:AZ)(f173:A1):Bq fun L e x=>aF p328 f328 p173 f173 L e x:=by intro _ _ _ _ _ _ _ h0 hL he _;unfold aF;repeat' (first|exact h0|exact hL _|exact he _|apply BM|(apply BN h0;intro _)|(apply BO<;>intro _))
def aMN(p328:EL)(f328:EN)(p173:AZ)(f173:A1)(w329_3:Pat.D H1->Option (Ah MP Mb))(a0:Ab (.slice (.int .u64)))(a1:Ab (.int .u64)):Option (DenS Lt):=
 Vx.A3 (w329_3 ((a1,(aa .i64 ((a0.length:Int)-(1:Int))),a0,(0:Int),()),())) fun y0=>
 Vx.A2 y0 (fun y1=>
 bif(p173 (y1.1.1,()))then(some ((f173 (y1.1.1,())).1,y1.1.2))
 else none) (fun z1=>
 none)
theorem bAa(x:DenS KZ):run (cf [(136,⟨Ey,ED,p328,f328⟩),(93,⟨Bz,BA,p173,f173⟩)] [(117,3,LoopSpec.of H1 dE MP Mb w329_3)]) 9 117 Tryz.f117 KZ Lt x=aMN p328 f328 p173 f173 w329_3 x.1 x.2.1:=by kernel_rfl
def aDQ:H1.D->Option (Ah MP Mb):=Bf fun L=>aF AV.pre AV.F Ag.pre Ag.F L some
def aCC(x:DenS KZ):Option (DenS Lt):=aMN AV.pre AV.F Ag.pre Ag.F aDQ x.1 x.2.1
def Ft:Sum:=Aj KZ Lt aCC (DenS.dflt Lt)
theorem aQk:Sound Tryz.prog G1 117 Ft:=sd (cf [(136,AV),(93,Ag)] [(117,3,LoopSpec.of H1 dE MP Mb aDQ)]) 117 Tryz.f117 ⟨eR,DO,trivial⟩ ⟨rfl,fun d=>BL (fun L e x=>aF AV.pre AV.F Ag.pre Ag.F L e x) (aWV AV.pre AV.F Ag.pre Ag.F) (fun _ _ _ _=>bCU ..),trivial⟩ KZ Lt aCC _ (fun _=>bAa ..)
abbrev iE:=Ae KZ
abbrev iW:=Ad KZ Lt
variable (p329:iE)(f329:iW)
abbrev I4:Aa:=[(false,.slice (.int .u64)),(false,.int .u64)]
abbrev Jq:Aa:=[(false,.bool)]
abbrev Fa:LK:=.win (.int .u64)
abbrev H2:Pat:=⟨68,[(16,.one (.v .i64)),(15,.one (.sl (.int .u64))),(2,.one (.v .u64)),(17,.one (.v .i64)),(1,.one (.sl (.int .u64))),(0,.one (.sub 0)),(7,.one (.v .u64)),(8,.one (.v .u64))],[.arr (.int .u64)]⟩
abbrev dF:List (Nat×Shape):=[]
abbrev MQ:List (Nat×Pat):=[(0,⟨68,[(1,.one (.sl (.int .u64))),(0,.one (.sub 0)),(7,.one (.v .u64)),(8,.one (.v .u64))],[.arr (.int .u64)]⟩)]
abbrev Mc:Option Pat:=none
variable (w330_3:Pat.D H2->Option (Ah MQ Mc))
def V9(p315:EK)(f315:EM)(p155:C6)(f155:C7)(p157:G6)(f157:G9){R:Type}(L:Pat.D H2->Option R)(e:Ah MQ Mc->Option R)(x:Pat.D H2):Option R:=let e7_:=(x.2.1.getD (x.1.2.2.2.2.2.1.1+(ai x.1.2.2.2.1)) (0:Int));let e8_:=(x.1.2.2.1,(x.1.2.1.getD (ai x.1.2.2.2.1) (0:Int)),());let e6_:=(f315 e8_);let e5_:=(f155 (e6_.2.1,x.1.2.2.2.2.2.2.1,(0:Int),()));let e1_:=(f157 (e7_,e5_.1,x.1.2.2.2.2.2.2.2));let e2_:=e5_;let e3_:=((decide ((0:Int)<=x.1.2.2.2.1))&&(decide (x.1.2.2.2.1<(x.1.2.2.2.2.2.1.2:Int))));let e4_:=e6_;bif(decide (x.1.2.2.2.1<x.1.1))then(bif((decide ((0:Int)<=x.1.2.2.2.1))&&(decide (x.1.2.2.2.1<(x.1.2.1.length:Int))))then(bif(p315 e8_)then(bif(p155 (e4_.2.1,x.1.2.2.2.2.2.2.1,(0:Int),()))then(bif e3_ then(bif(p157 (e7_,e2_.1,x.1.2.2.2.2.2.2.2))then(bif e3_ then(((L ((x.1.1,x.1.2.1,x.1.2.2.1,(aa .i64 (x.1.2.2.2.1+(1:Int))),x.1.2.2.2.2.1,x.1.2.2.2.2.2.1,(aa .u64 (e4_.1+e2_.2.1)),e1_.2),(x.2.1.set (x.1.2.2.2.2.2.1.1+(ai x.1.2.2.2.1)) e1_.1),()))))else none)else none)else none)else none)else none)else none)else(e (.inl (x.1.2.2.2.2,x.2)))
theorem bCV(d:Nat)(R:Type)(L:Pat.D H2->Option R)(e:Ah MQ Mc->Option R)(x:Pat.D H2):
  BC (cf [(120,⟨Ex,EC,p315,f315⟩),(94,⟨EW,Fh,p155,f155⟩),(148,⟨KS,PJ,p157,f157⟩)] [(137,3,LoopSpec.of H2 dF MQ Mc w330_3 1)]) (d+2) 137 (Bw Tryz.f137 3) H2 dF MQ Mc (R:=R) L e x 1=V9 p315 f315 p155 f155 p157 f157 L e x:=by kernel_rfl
theorem aKm(p315:EK)(f315:EM)(p155:C6)(f155:C7)(p157:G6)(f157:G9):Bq fun L e x=>V9 p315 f315 p155 f155 p157 f157 L e x:=by intro _ _ _ _ _ _ _ h0 hL he _;unfold V9;repeat' (first|exact h0|exact hL _|exact he _|apply BM|(apply BN h0;intro _)|(apply BO<;>intro _))
def n7(p315:EK)(f315:EM)(p155:C6)(f155:C7)(p157:G6)(f157:G9)(w330_3:Pat.D H2->Option (Ah MQ Mc))(l0:LK.D (.win (.int .u64)))(a0:Ab (.slice (.int .u64)))(a1:Ab (.int .u64)):Option (LK.B Fa×DenS Jq):=
 Vx.A3 (w330_3 (((a0.length:Int),a0,a1,(0:Int),a0,l0.2,(0:Int),(0:Int),()),l0.1,())) fun y0=>
 Vx.A2 y0 (fun y1=>
 bif((decide ((0:Int)<=(y1.1.1.length:Int)))&&(decide ((y1.1.1.length:Int)<(y1.1.2.1.2:Int))))then(bif(p157 ((y1.2.1.getD (y1.1.2.1.1+(ai (y1.1.1.length:Int))) (0:Int)),y1.1.2.2))then(bif((decide ((0:Int)<=(y1.1.1.length:Int)))&&(decide ((y1.1.1.length:Int)<(y1.1.2.1.2:Int))))then(some ((y1.2.1.set (y1.1.2.1.1+(ai (y1.1.1.length:Int))) (f157 ((y1.2.1.getD (y1.1.2.1.1+(ai (y1.1.1.length:Int))) (0:Int)),y1.1.2.2)).1),((f157 ((y1.2.1.getD (y1.1.2.1.1+(ai (y1.1.1.length:Int))) (0:Int)),y1.1.2.2)).2.1 !=(0:Int)),()))
 else none)
 else none)
 else none) (fun z1=>
 none)
theorem bAb(x:LK.D Fa×DenS I4):Em (cf [(120,⟨Ex,EC,p315,f315⟩),(94,⟨EW,Fh,p155,f155⟩),(148,⟨KS,PJ,p157,f157⟩)] [(137,3,LoopSpec.of H2 dF MQ Mc w330_3 1)]) 9 137 Tryz.f137 Fa I4 Jq x=n7 p315 f315 p155 f155 p157 f157 w330_3 x.1 x.2.1 x.2.2.1:=by kernel_rfl
def gT:H2.D->Option (Ah MQ Mc):=Bf fun L=>V9 AN.pre AN.F Az.pre Az.F A9.pre A9.F L some
def Yh(x:LK.D Fa×DenS I4):Option (LK.B Fa×DenS Jq):=n7 AN.pre AN.F Az.pre Az.F A9.pre A9.F gT x.1 x.2.1 x.2.2.1
def Cu:SumL:=Eo Fa I4 Jq Yh (LK.dflt Fa,DenS.dflt Jq)
theorem aQl:SoundL Tryz.prog G1 137 Cu:=Hq (cf [(120,AN),(94,Az),(148,A9)] [(137,3,LoopSpec.of H2 dF MQ Mc gT 1)]) 137 Tryz.f137 ⟨eO,UA,eH,trivial⟩ ⟨rfl,fun d=>BL (fun L e x=>V9 AN.pre AN.F Az.pre Az.F A9.pre A9.F L e x) (aKm AN.pre AN.F Az.pre Az.F A9.pre A9.F) (fun _ _ _ _=>bCV ..),trivial⟩ Fa I4 Jq Yh _ (fun _=>bAb ..)
abbrev Va:=LK.D Fa×DenS I4->Bool
abbrev Vk:=LK.D Fa×DenS I4->LK.B Fa×DenS Jq
variable (p330:Va)(f330:Vk)
abbrev I5:Aa:=[(false,.slice (.int .u64))]
abbrev Jr:Aa:=[(false,.bool)]
abbrev Fb:LK:=.win (.int .u64)
abbrev H3:Pat:=⟨46,[(10,.one (.v .i64)),(9,.one (.sl (.int .u64))),(11,.one (.v .i64)),(1,.one (.sl (.int .u64))),(0,.one (.sub 0)),(5,.one (.v .u64))],[.arr (.int .u64)]⟩
abbrev dG:List (Nat×Shape):=[]
abbrev MR:List (Nat×Pat):=[(0,⟨46,[(1,.one (.sl (.int .u64))),(0,.one (.sub 0)),(5,.one (.v .u64))],[.arr (.int .u64)]⟩)]
abbrev Md:Option Pat:=none
variable (w331_3:Pat.D H3->Option (Ah MR Md))
def Wa(p155:C6)(f155:C7){R:Type}(L:Pat.D H3->Option R)(e:Ah MR Md->Option R)(x:Pat.D H3):Option R:=let e3_:=((x.2.1.getD (x.1.2.2.2.2.1.1+(ai x.1.2.2.1)) (0:Int)),(x.1.2.1.getD (ai x.1.2.2.1) (0:Int)),x.1.2.2.2.2.2);let e1_:=(f155 e3_);let e2_:=((decide ((0:Int)<=x.1.2.2.1))&&(decide (x.1.2.2.1<(x.1.2.2.2.2.1.2:Int))));bif(decide (x.1.2.2.1<x.1.1))then(bif((decide ((0:Int)<=x.1.2.2.1))&&(decide (x.1.2.2.1<(x.1.2.1.length:Int))))then(bif e2_ then(bif(p155 e3_)then(bif e2_ then(((L ((x.1.1,x.1.2.1,(aa .i64 (x.1.2.2.1+(1:Int))),x.1.2.2.2.1,x.1.2.2.2.2.1,e1_.2),(x.2.1.set (x.1.2.2.2.2.1.1+(ai x.1.2.2.1)) e1_.1),()))))else none)else none)else none)else none)else(e (.inl (x.1.2.2.2,x.2)))
theorem bCW(d:Nat)(R:Type)(L:Pat.D H3->Option R)(e:Ah MR Md->Option R)(x:Pat.D H3):
  BC (cf [(94,⟨EW,Fh,p155,f155⟩)] [(138,3,LoopSpec.of H3 dG MR Md w331_3 1)]) (d+2) 138 (Bw Tryz.f138 3) H3 dG MR Md (R:=R) L e x 1=Wa p155 f155 L e x:=by kernel_rfl
theorem aKn(p155:C6)(f155:C7):Bq fun L e x=>Wa p155 f155 L e x:=by intro _ _ _ _ _ _ _ h0 hL he _;unfold Wa;repeat' (first|exact h0|exact hL _|exact he _|apply BM|(apply BN h0;intro _)|(apply BO<;>intro _))
def n8(p155:C6)(f155:C7)(w331_3:Pat.D H3->Option (Ah MR Md))(l0:LK.D (.win (.int .u64)))(a0:Ab (.slice (.int .u64))):Option (LK.B Fb×DenS Jr):=
 Vx.A3 (w331_3 (((a0.length:Int),a0,(0:Int),a0,l0.2,(0:Int),()),l0.1,())) fun y0=>
 Vx.A2 y0 (fun y1=>
 bif((decide ((0:Int)<=(y1.1.1.length:Int)))&&(decide ((y1.1.1.length:Int)<(y1.1.2.1.2:Int))))then(bif(p155 ((y1.2.1.getD (y1.1.2.1.1+(ai (y1.1.1.length:Int))) (0:Int)),(0:Int),y1.1.2.2))then(bif((decide ((0:Int)<=(y1.1.1.length:Int)))&&(decide ((y1.1.1.length:Int)<(y1.1.2.1.2:Int))))then(some ((y1.2.1.set (y1.1.2.1.1+(ai (y1.1.1.length:Int))) (f155 ((y1.2.1.getD (y1.1.2.1.1+(ai (y1.1.1.length:Int))) (0:Int)),(0:Int),y1.1.2.2)).1),((f155 ((y1.2.1.getD (y1.1.2.1.1+(ai (y1.1.1.length:Int))) (0:Int)),(0:Int),y1.1.2.2)).2.1 !=(0:Int)),()))
 else none)
 else none)
 else none) (fun z1=>
 none)
theorem bAc(x:LK.D Fb×DenS I5):Em (cf [(94,⟨EW,Fh,p155,f155⟩)] [(138,3,LoopSpec.of H3 dG MR Md w331_3 1)]) 9 138 Tryz.f138 Fb I5 Jr x=n8 p155 f155 w331_3 x.1 x.2.1:=by kernel_rfl
def gU:H3.D->Option (Ah MR Md):=Bf fun L=>Wa Az.pre Az.F L some
def Yi(x:LK.D Fb×DenS I5):Option (LK.B Fb×DenS Jr):=n8 Az.pre Az.F gU x.1 x.2.1
def CZ:SumL:=Eo Fb I5 Jr Yi (LK.dflt Fb,DenS.dflt Jr)
theorem aQm:SoundL Tryz.prog G1 138 CZ:=Hq (cf [(94,Az)] [(138,3,LoopSpec.of H3 dG MR Md gU 1)]) 138 Tryz.f138 ⟨UA,trivial⟩ ⟨rfl,fun d=>BL (fun L e x=>Wa Az.pre Az.F L e x) (aKn Az.pre Az.F) (fun _ _ _ _=>bCW ..),trivial⟩ Fb I5 Jr Yi _ (fun _=>bAc ..)
abbrev Vb:=LK.D Fb×DenS I5->Bool
abbrev Vl:=LK.D Fb×DenS I5->LK.B Fb×DenS Jr
variable (p331:Vb)(f331:Vl)
abbrev K0:Aa:=[(false,.slice (.int .u64))]
abbrev Js:Aa:=[(false,.int .u64)]
abbrev Fc:LK:=.win (.int .u64)
abbrev FZ:Pat:=⟨92,[(6,.one (.v .u64)),(7,.one (.v .u64)),(5,.one (.v .i64)),(0,.one (.sub 0)),(1,.one (.sl (.int .u64)))],[.arr (.int .u64)]⟩
abbrev Xe:List (Nat×Shape):=[]
abbrev J5:List (Nat×Pat):=[(0,⟨92,[(0,.one (.sub 0)),(1,.one (.sl (.int .u64))),(6,.one (.v .u64))],[.arr (.int .u64)]⟩)]
abbrev JL:Option Pat:=none
abbrev FY:Pat:=⟨92,[(6,.one (.v .u64)),(0,.one (.sub 0)),(1,.one (.sl (.int .u64)))],[.arr (.int .u64)]⟩
abbrev Xd:List (Nat×Shape):=[]
abbrev J4:List (Nat×Pat):=[(2,⟨92,[(6,.one (.v .u64))],[.arr (.int .u64)]⟩)]
abbrev JK:Option Pat:=none
variable (w332_6:Pat.D FZ->Option (Ah J5 JL))(w332_13:Pat.D FY->Option (Ah J4 JK))
def Wb(p328:EL)(f328:EN)(p315:EK)(f315:EM)(p155:C6)(f155:C7)(p330:Va)(f330:Vk)(p331:Vb)(f331:Vl){R:Type}(L:Pat.D FY->Option R)(e:Ah J4 JK->Option R)(x:Pat.D FY):Option R:=let e1_:=(aa .u64 (x.1.1-(1:Int)));bif(p331 ((x.2.1,x.1.2.1),x.1.2.2))then(bif(f331 ((x.2.1,x.1.2.1),x.1.2.2)).2.1 then(((e (.inl ((e1_,()),(f331 ((x.2.1,x.1.2.1),x.1.2.2)).1,())))))else(L ((e1_,x.1.2),(f331 ((x.2.1,x.1.2.1),x.1.2.2)).1,())))else none
theorem bCX(d:Nat)(R:Type)(L:Pat.D FY->Option R)(e:Ah J4 JK->Option R)(x:Pat.D FY):
  BC ({cf [(136,⟨Ey,ED,p328,f328⟩),(120,⟨Ex,EC,p315,f315⟩),(94,⟨EW,Fh,p155,f155⟩)] [(119,6,LoopSpec.of FZ Xe J5 JL w332_6 1),(119,13,LoopSpec.of FY Xd J4 JK w332_13 1)]with lsums:=[(137,⟨Fa,I4,Jq,p330,f330⟩),(138,⟨Fb,I5,Jr,p331,f331⟩)] }) (d+2) 119 (Bw Tryz.f119 13) FY Xd J4 JK (R:=R) L e x 1=Wb p328 f328 p315 f315 p155 f155 p330 f330 p331 f331 L e x:=by kernel_rfl
theorem aKo(p328:EL)(f328:EN)(p315:EK)(f315:EM)(p155:C6)(f155:C7)(p330:Va)(f330:Vk)(p331:Vb)(f331:Vl):Bq fun L e x=>Wb p328 f328 p315 f315 p155 f155 p330 f330 p331 f331 L e x:=by intro _ _ _ _ _ _ _ h0 hL he _;unfold Wb;repeat' (first|exact h0|exact hL _|exact he _|apply BM|(apply BN h0;intro _)|(apply BO<;>intro _))
def Wc(p328:EL)(f328:EN)(p315:EK)(f315:EM)(p155:C6)(f155:C7)(p330:Va)(f330:Vk)(p331:Vb)(f331:Vl){R:Type}(L:Pat.D FZ->Option R)(e:Ah J5 JL->Option R)(x:Pat.D FZ):Option R:=let e11_:=(aa .i64 (x.1.2.2.1-(2:Int)));let e10_:=(ai e11_);let e9_:=(f315 (x.1.1,(x.1.2.2.2.2.1.getD e10_ (0:Int)),()));let e1_:=(decide (e9_.1<x.1.2.1));let e12_:=(aa .i64 (x.1.2.2.1-(1:Int)));let e2_:=(f155 (x.1.2.1,(x.1.2.2.2.2.1.getD (ai e12_) (0:Int)),(0:Int),()));let e3_:=e9_;let e4_:=(decide ((0:Int)<=e11_));let e5_:=e10_;let e6_:=e12_;let e7_:=e11_;let e8_:=(aa .u64 (x.1.1-(1:Int)));bif(e4_&&(decide (e7_<(x.1.2.2.2.2.1.length:Int))))then(bif(p315 (x.1.1,(x.1.2.2.2.2.1.getD e5_ (0:Int)),()))then(bif((e4_&&(decide (e7_<(x.1.2.2.2.1.2:Int))))||(!((bif e1_ then false else true)&&(decide (e3_.1=x.1.2.1)))))then(bif(e1_||((e3_.1==x.1.2.1)&&(decide (e3_.2.1<=(x.2.1.getD (x.1.2.2.2.1.1+e5_) (0:Int))))))then(((e (.inl ((x.1.2.2.2.1,x.1.2.2.2.2.1,x.1.1,()),x.2)))))else bif((decide ((0:Int)<=e6_))&&(decide (e6_<(x.1.2.2.2.2.1.length:Int))))then(bif(p155 (x.1.2.1,(x.1.2.2.2.2.1.getD (ai e6_) (0:Int)),(0:Int),()))then(bif(e2_.2.1 !=(0:Int))then(((e (.inl ((x.1.2.2.2.1,x.1.2.2.2.2.1,e8_,()),x.2)))))else(L ((e8_,e2_.1,x.1.2.2),x.2)))else none)else none)else none)else none)else none
theorem bCY(d:Nat)(R:Type)(L:Pat.D FZ->Option R)(e:Ah J5 JL->Option R)(x:Pat.D FZ):
  BC ({cf [(136,⟨Ey,ED,p328,f328⟩),(120,⟨Ex,EC,p315,f315⟩),(94,⟨EW,Fh,p155,f155⟩)] [(119,6,LoopSpec.of FZ Xe J5 JL w332_6 1),(119,13,LoopSpec.of FY Xd J4 JK w332_13 1)]with lsums:=[(137,⟨Fa,I4,Jq,p330,f330⟩),(138,⟨Fb,I5,Jr,p331,f331⟩)] }) (d+2) 119 (Bw Tryz.f119 6) FZ Xe J5 JL (R:=R) L e x 1=Wc p328 f328 p315 f315 p155 f155 p330 f330 p331 f331 L e x:=by kernel_rfl
theorem aKp(p328:EL)(f328:EN)(p315:EK)(f315:EM)(p155:C6)(f155:C7)(p330:Va)(f330:Vk)(p331:Vb)(f331:Vl):Bq fun L e x=>Wc p328 f328 p315 f315 p155 f155 p330 f330 p331 f331 L e x:=by intro _ _ _ _ _ _ _ h0 hL he _;unfold Wc;repeat' (first|exact h0|exact hL _|exact he _|apply BM|(apply BN h0;intro _)|(apply BO<;>intro _))
def n9(p328:EL)(f328:EN)(p315:EK)(f315:EM)(p155:C6)(f155:C7)(p330:Va)(f330:Vk)(p331:Vb)(f331:Vl)(w332_6:Pat.D FZ->Option (Ah J5 JL))(w332_13:Pat.D FY->Option (Ah J4 JK))(l0:LK.D (.win (.int .u64)))(a0:Ab (.slice (.int .u64))):Option (LK.B Fc×DenS Js):=
 let e11_:=(l0.1.getD (l0.2.1+(ai (a0.length:Int))) (0:Int))
 let e10_:=(aa .i64 ((a0.length:Int)-(1:Int)))
 let e9_:=(ai e10_)
 let e8_:=(a0.getD e9_ (0:Int))
 let e1_:=(f328 (e11_,(l0.1.getD (l0.2.1+e9_) (0:Int)),e8_,()))
 let e2_:=((decide ((0:Int)<=e10_))&&(decide (e10_<(a0.length:Int))))
 let e3_:=e8_
 let e4_:=((decide ((0:Int)<=(a0.length:Int)))&&(decide ((a0.length:Int)<(l0.2.2:Int))))
 let e5_:=e10_
 let e12_:=((l0.1,l0.2),a0,(18446744073709551615:Int),())
 let e6_:=(f330 e12_)
 let e7_:=e11_
 bif e4_ then(bif e2_ then(bif(decide (e7_<e3_))then(bif e4_ then(bif((decide ((0:Int)<=e5_))&&(decide (e5_<(l0.2.2:Int))))then(bif e2_ then(bif(p328 (e7_,(l0.1.getD (l0.2.1+(ai e5_)) (0:Int)),e3_,()))then(Vx.A3 (w332_6 ((e1_.1,e1_.2.1,(a0.length:Int),l0.2,a0,()),l0.1,())) fun y7=>
 Vx.A2 y7 (fun y8=>
 bif(p330 ((y8.2.1,y8.1.1),y8.1.2))then(bif(f330 ((y8.2.1,y8.1.1),y8.1.2)).2.1 then(Vx.A3 (w332_13 ((y8.1.2.2.1,y8.1.1,y8.1.2.1,()),(f330 ((y8.2.1,y8.1.1),y8.1.2)).1,())) fun y11=>
 Vx.A2 y11 (fun y12=>
 some (y12.2.1,y12.1)) (fun z12=>
 none))
 else some ((f330 ((y8.2.1,y8.1.1),y8.1.2)).1,y8.1.2.2))
 else none) (fun z8=>
 none))
 else none)
 else none)
 else none)
 else none)
 else bif(p330 e12_)then(bif e6_.2.1 then(Vx.A3 (w332_13 (((18446744073709551615:Int),l0.2,a0,()),e6_.1,())) fun y5=>
 Vx.A2 y5 (fun y6=>
 some (y6.2.1,y6.1)) (fun z6=>
 none))
 else some (e6_.1,(18446744073709551615:Int),()))
 else none)
 else none)
 else none
theorem bAd(x:LK.D Fc×DenS K0):Em ({cf [(136,⟨Ey,ED,p328,f328⟩),(120,⟨Ex,EC,p315,f315⟩),(94,⟨EW,Fh,p155,f155⟩)] [(119,6,LoopSpec.of FZ Xe J5 JL w332_6 1),(119,13,LoopSpec.of FY Xd J4 JK w332_13 1)]with lsums:=[(137,⟨Fa,I4,Jq,p330,f330⟩),(138,⟨Fb,I5,Jr,p331,f331⟩)] }) 9 119 Tryz.f119 Fc K0 Js x=n9 p328 f328 p315 f315 p155 f155 p330 f330 p331 f331 w332_6 w332_13 x.1 x.2.1:=by kernel_rfl
def Y7:FY.D->Option (Ah J4 JK):=Bf fun L=>Wb AV.pre AV.F AN.pre AN.F Az.pre Az.F Cu.pre Cu.F CZ.pre CZ.F L some
def gV:FZ.D->Option (Ah J5 JL):=Bf fun L=>Wc AV.pre AV.F AN.pre AN.F Az.pre Az.F Cu.pre Cu.F CZ.pre CZ.F L some
def Yj(x:LK.D Fc×DenS K0):Option (LK.B Fc×DenS Js):=n9 AV.pre AV.F AN.pre AN.F Az.pre Az.F Cu.pre Cu.F CZ.pre CZ.F gV Y7 x.1 x.2.1
def EF:SumL:=Eo Fc K0 Js Yj (LK.dflt Fc,DenS.dflt Js)
theorem aQn:SoundL Tryz.prog G1 119 EF:=Hq ({cf [(136,AV),(120,AN),(94,Az)] [(119,6,LoopSpec.of FZ Xe J5 JL gV 1),(119,13,LoopSpec.of FY Xd J4 JK Y7 1)]with lsums:=[(137,Cu),(138,CZ)] }) 119 Tryz.f119 ⟨eR,eO,UA,trivial⟩ ⟨rfl,fun d=>BL (fun L e x=>Wc AV.pre AV.F AN.pre AN.F Az.pre Az.F Cu.pre Cu.F CZ.pre CZ.F L e x) (aKp AV.pre AV.F AN.pre AN.F Az.pre Az.F Cu.pre Cu.F CZ.pre CZ.F) (fun _ _ _ _=>bCY ..),⟨rfl,fun d=>BL (fun L e x=>Wb AV.pre AV.F AN.pre AN.F Az.pre Az.F Cu.pre Cu.F CZ.pre CZ.F L e x) (aKo AV.pre AV.F AN.pre AN.F Az.pre Az.F Cu.pre Cu.F CZ.pre CZ.F) (fun _ _ _ _=>bCX ..),trivial⟩⟩ Fc K0 Js Yj _ (fun _=>bAd ..) (hls:=⟨aQl,aQm,trivial⟩)
abbrev iF:=LK.D Fc×DenS K0->Bool
abbrev iX:=LK.D Fc×DenS K0->LK.B Fc×DenS Js
variable (p332:iF)(f332:iX)
abbrev I6:Aa:=[(false,.slice (.int .u64)),(false,.slice (.int .u64))]
abbrev Jt:Aa:=[(false,.slice (.int .u64)),(false,.slice (.int .u64))]
abbrev F0:Pat:=⟨91,[(9,.one (.sl (.int .u64))),(12,.one (.v .i64)),(4,.one (.own 1)),(10,.one (.own 0)),(11,.one (.v .i64)),(8,.one (.v .i64))],[.arr (.int .u64),.arr (.int .u64)]⟩
abbrev dH:List (Nat×Shape):=[]
abbrev MS:List (Nat×Pat):=[(0,⟨91,[(4,.one (.own 1)),(10,.one (.own 0)),(11,.one (.v .i64)),(8,.one (.v .i64))],[.arr (.int .u64),.arr (.int .u64)]⟩)]
abbrev Me:Option Pat:=none
variable (w333_14:Pat.D F0->Option (Ah MS Me))
def We(p1146:Zc)(f1146:Zp)(p1329:h9)(f1329:iR)(p144:E2)(f144:E3)(p146:Tj)(f146:Tp)(p329:iE)(f329:iW)(p327:M1)(f327:M2)(p186:Ka)(f186:Kg)(p332:iF)(f332:iX)(p173:AZ)(f173:A1)(p171:Ij)(f171:Il){R:Type}(L:Pat.D F0->Option R)(e:Ah MS Me->Option R)(x:Pat.D F0):Option R:=let e3_:=(aa .i64 ((aa .i64 (x.1.2.1+x.1.2.2.2.2.1))+(1:Int)));let e1_:=(f332 ((x.2.1,(ai x.1.2.1),((ai e3_)-(ai x.1.2.1))),x.1.1,()));let e2_:=e3_;bif(decide (x.1.2.1>=(0:Int)))then(bif(((decide ((0:Int)<=x.1.2.1))&&(decide (x.1.2.1<=e2_)))&&(decide (e2_<=(x.2.1.length:Int))))then(bif(p332 ((x.2.1,(ai x.1.2.1),((ai e2_)-(ai x.1.2.1))),x.1.1,()))then(bif((decide ((0:Int)<=x.1.2.1))&&(decide (x.1.2.1<(x.2.2.1.length:Int))))then(((L ((x.1.1,(aa .i64 (x.1.2.1-(1:Int))),(),(),x.1.2.2.2.2),e1_.1,(x.2.2.1.set (ai x.1.2.1) e1_.2.1),()))))else none)else none)else none)else(e (.inl (((),(),x.1.2.2.2.2),x.2)))
theorem bCZ(d:Nat)(R:Type)(L:Pat.D F0->Option R)(e:Ah MS Me->Option R)(x:Pat.D F0):
  BC ({cf [(116,⟨IV,Jj,p1146,f1146⟩),(117,⟨KP,Lk,p1329,f1329⟩),(101,⟨Eu,EA,p144,f144⟩),(116,⟨HB,HI,p146,f146⟩),(117,⟨KZ,Lt,p329,f329⟩),(118,⟨GB,GN,p327,f327⟩),(97,⟨GA,GM,p186,f186⟩),(93,⟨Bz,BA,p173,f173⟩),(100,⟨FM,FT,p171,f171⟩)] [(99,14,LoopSpec.of F0 dH MS Me w333_14)]with cut:=true,lsums:=[(119,⟨Fc,K0,Js,p332,f332⟩)] }) (d+2) 99 (Bw Tryz.f99 14) F0 dH MS Me (R:=R) L e x=We p1146 f1146 p1329 f1329 p144 f144 p146 f146 p329 f329 p327 f327 p186 f186 p332 f332 p173 f173 p171 f171 L e x:=by kernel_rfl
theorem aKq(p1146:Zc)(f1146:Zp)(p1329:h9)(f1329:iR)(p144:E2)(f144:E3)(p146:Tj)(f146:Tp)(p329:iE)(f329:iW)(p327:M1)(f327:M2)(p186:Ka)(f186:Kg)(p332:iF)(f332:iX)(p173:AZ)(f173:A1)(p171:Ij)(f171:Il):Bq fun L e x=>We p1146 f1146 p1329 f1329 p144 f144 p146 f146 p329 f329 p327 f327 p186 f186 p332 f332 p173 f173 p171 f171 L e x:=by intro _ _ _ _ _ _ _ h0 hL he _;unfold We;repeat' (first|exact h0|exact hL _|exact he _|apply BM|(apply BN h0;intro _)|(apply BO<;>intro _))
def oA(p1146:Zc)(f1146:Zp)(p1329:h9)(f1329:iR)(p144:E2)(f144:E3)(p146:Tj)(f146:Tp)(p329:iE)(f329:iW)(p327:M1)(f327:M2)(p186:Ka)(f186:Kg)(p332:iF)(f332:iX)(p173:AZ)(f173:A1)(p171:Ij)(f171:Il)(w333_14:Pat.D F0->Option (Ah MS Me))(a0 a1:Ab (.slice (.int .u64))):Option (DenS Jt):=
 let e17_:=(aa .i64 (((f173 (a1,())).1.length:Int)-(1:Int)))
 let e14_:=(f327 (((f173 (a1,())).1.getD (ai e17_) (0:Int)),()))
 let e12_:=(f186 ((f173 (a0,())).1,e14_))
 let e18_:=(aa .i64 (((f173 (a0,())).1.length:Int)+(1:Int)))
 let e15_:=(ar (ai e18_) (0:Int))
 let e13_:=(f186 ((f173 (a1,())).1,e14_))
 let e11_:=(aa .i64 ((((e12_.1.take e15_.length)++(e15_.drop e12_.1.length)).length:Int)-(e13_.1.length:Int)))
 let e1_:=(ar (ai e11_) (0:Int))
 let e2_:=e11_
 let e3_:=e13_
 let e4_:=e12_
 let e5_:=e14_
 let e6_:=e15_
 let e16_:=((f1146 (f173 (a0,()))).1,((f173 (a1,())).1.getD (ai (0:Int)) (0:Int)),())
 let e7_:=(((f1329 e16_).2.1::[]),())
 let e8_:=e16_
 let e9_:=e17_
 let e10_:=e18_
 bif(p173 (a0,()))then(bif(p173 (a1,()))then(bif(p144 ((f173 (a0,())).1,(f173 (a1,()))))then(bif(decide ((f144 ((f173 (a0,())).1,(f173 (a1,())))).1<(0:Int)))then(bif(p1146 (f173 (a0,())))then(some ([],(f1146 (f173 (a0,())))))
 else none)
 else bif(((f173 (a1,())).1.length:Int)==(1:Int))then(bif(p1146 (f173 (a0,())))then(bif(decide ((0:Int)<((f173 (a1,())).1.length:Int)))then(bif(p1329 e8_)then(bif(p173 e7_)then(some ((f1329 e8_).1,(f173 e7_)))
 else none)
 else none)
 else none)
 else none)
 else bif((decide ((0:Int)<=e9_))&&(decide (e9_<((f173 (a1,())).1.length:Int))))then(bif(p327 (((f173 (a1,())).1.getD (ai e9_) (0:Int)),()))then(bif(p186 ((f173 (a1,())).1,e5_))then(bif((decide ((0:Int)<=e10_))&&(decide ((e10_*(8:Int))<=(140737488355328:Int))))then(bif(p186 ((f173 (a0,())).1,e5_))then(bif((decide ((0:Int)<=e2_))&&(decide ((e2_*(8:Int))<=(140737488355328:Int))))then(Vx.A3 (w333_14 ((e3_.1,(aa .i64 ((e1_.length:Int)-(1:Int))),(),(),(e3_.1.length:Int),e5_),((e4_.1.take e6_.length)++(e6_.drop e4_.1.length)),e1_,())) fun y11=>
 Vx.A2 y11 (fun y12=>
 bif(p173 y12.2.2)then(bif((decide ((0:Int)<=y12.1.2.2.1))&&(decide (y12.1.2.2.1<=(y12.2.1.length:Int))))then(bif(p171 (((y12.2.1.take (ai y12.1.2.2.1)).drop (ai (0:Int))),y12.1.2.2.2))then(some ((f173 y12.2.2).1,(f171 (((y12.2.1.take (ai y12.1.2.2.1)).drop (ai (0:Int))),y12.1.2.2.2))))
 else none)
 else none)
 else none) (fun z12=>
 none))
 else none)
 else none)
 else none)
 else none)
 else none)
 else none)
 else none)
 else none)
 else none
theorem bAe(x:DenS I6):run ({cf [(116,⟨IV,Jj,p1146,f1146⟩),(117,⟨KP,Lk,p1329,f1329⟩),(101,⟨Eu,EA,p144,f144⟩),(116,⟨HB,HI,p146,f146⟩),(117,⟨KZ,Lt,p329,f329⟩),(118,⟨GB,GN,p327,f327⟩),(97,⟨GA,GM,p186,f186⟩),(93,⟨Bz,BA,p173,f173⟩),(100,⟨FM,FT,p171,f171⟩)] [(99,14,LoopSpec.of F0 dH MS Me w333_14)]with cut:=true,lsums:=[(119,⟨Fc,K0,Js,p332,f332⟩)] }) 9 99 Tryz.f99 I6 Jt x=oA p1146 f1146 p1329 f1329 p144 f144 p146 f146 p329 f329 p327 f327 p186 f186 p332 f332 p173 f173 p171 f171 w333_14 x.1 x.2.1:=by kernel_rfl
def Y8:F0.D->Option (Ah MS Me):=Bf fun L=>We Dk.pre Dk.F EE.pre EE.F AU.pre AU.F CQ.pre CQ.F Ft.pre Ft.F BP.pre BP.F B0.pre B0.F EF.pre EF.F Ag.pre Ag.F BI.pre BI.F L some
def Yk(x:DenS I6):Option (DenS Jt):=oA Dk.pre Dk.F EE.pre EE.F AU.pre AU.F CQ.pre CQ.F Ft.pre Ft.F BP.pre BP.F B0.pre B0.F EF.pre EF.F Ag.pre Ag.F BI.pre BI.F Y8 x.1 x.2.1
def Dm:Sum:=Aj I6 Jt Yk (DenS.dflt Jt)
theorem aBz:Sound Tryz.prog G1 99 Dm:=sd ({cf [(116,Dk),(117,EE),(101,AU),(116,CQ),(117,Ft),(118,BP),(97,B0),(93,Ag),(100,BI)] [(99,14,LoopSpec.of F0 dH MS Me Y8)]with cut:=true,lsums:=[(119,EF)] }) 99 Tryz.f99 ⟨aBi,aP0,Uw,rG,aQk,aBx,rH,DO,eI,trivial⟩ ⟨rfl,fun d=>BL (fun L e x=>We Dk.pre Dk.F EE.pre EE.F AU.pre AU.F CQ.pre CQ.F Ft.pre Ft.F BP.pre BP.F B0.pre B0.F EF.pre EF.F Ag.pre Ag.F BI.pre BI.F L e x) (aKq Dk.pre Dk.F EE.pre EE.F AU.pre AU.F CQ.pre CQ.F Ft.pre Ft.F BP.pre BP.F B0.pre B0.F EF.pre EF.F Ag.pre Ag.F BI.pre BI.F) (fun _ _ _ _=>bCZ ..),trivial⟩ I6 Jt Yk _ (fun _=>bAe ..) (hls:=⟨aQn,trivial⟩)
abbrev Vc:=Ae I6
abbrev Vm:=Ad I6 Jt
variable (p333:Vc)(f333:Vm)
abbrev K2:Aa:=[(false,.slice (.int .u64)),(false,.slice (.int .u64))]
abbrev Lu:Aa:=[(false,.slice (.int .u64)),(false,.slice (.int .u64)),(false,.int .i64)]
def oE(p185:J9)(f185:Kf)(p173:AZ)(f173:A1)(p333:Vc)(f333:Vm)(a0 a1:Ab (.slice (.int .u64))):Option (DenS Lu):=bif(p185 ((a0::(a1::[])),()))then(bif(f185 ((a0::(a1::[])),())).1 then(some ([],[],(5:Int),()))else bif(p173 (a1,()))then(bif(((f173 (a1,())).1.length:Int)==(0:Int))then(some ([],[],(10:Int),()))else bif(p333 (a0,a1,()))then(some ((f333 (a0,a1,())).1,(f333 (a0,a1,())).2.1,(0:Int),()))else none)else none)else none
theorem bAi(x:DenS K2):run (cf [(96,⟨Gz,GL,p185,f185⟩),(93,⟨Bz,BA,p173,f173⟩),(99,⟨I6,Jt,p333,f333⟩)] []) 9 247 Tryz.f247 K2 Lu x=oE p185 f185 p173 f173 p333 f333 x.1 x.2.1:=by kernel_rfl
def Yl(x:DenS K2):Option (DenS Lu):=oE Cp.pre Cp.F Ag.pre Ag.F Dm.pre Dm.F x.1 x.2.1
def EG:Sum:=Aj K2 Lu Yl (DenS.dflt Lu)
theorem aQq:Sound Tryz.prog G1 247 EG:=sd (cf [(96,Cp),(93,Ag),(99,Dm)] []) 247 Tryz.f247 ⟨eK,DO,aBz,trivial⟩ trivial K2 Lu Yl _ (fun _=>bAi ..)
abbrev iG:=Ae K2
abbrev iY:=Ad K2 Lu
variable (p345:iG)(f345:iY)
abbrev NL:Aa:=[(true,.slice (.int .u64)),(false,.slice (.int .u64))]
abbrev Py:Aa:=[(true,.slice (.int .u64))]
abbrev HO:Pat:=⟨37,[(9,.one (.v .i64)),(1,.one (.sl (.int .u64))),(5,.one (.v .u64)),(10,.one (.v .i64)),(0,.one (.own 0))],[.arr (.int .u64)]⟩
abbrev cN:List (Nat×Shape):=[]
abbrev MA:List (Nat×Pat):=[(0,⟨37,[(0,.one (.own 0))],[.arr (.int .u64)]⟩)]
abbrev LS:Option Pat:=none
variable (w1174_3:Pat.D HO->Option (Ah MA LS))
def VS(p1173:RW)(f1173:RZ)(p157:G6)(f157:G9)(p173:AZ)(f173:A1){R:Type}(L:Pat.D HO->Option R)(e:Ah MA LS->Option R)(x:Pat.D HO):Option R:=let e8_:=(x.2.1.getD (ai x.1.2.2.2.1) (0:Int));let e7_:=((x.1.2.1.getD (ai x.1.2.2.2.1) (0:Int)),x.1.2.2.1,());let e1_:=(f157 (e8_,e7_));let e2_:=((decide ((0:Int)<=x.1.2.2.2.1))&&(decide (x.1.2.2.2.1<(x.2.1.length:Int))));let e3_:=(f157 (e8_,(0:Int),x.1.2.2.1,()));let e4_:=((aa .i64 (x.1.2.2.2.1+(1:Int))),(),());let e5_:=(decide (x.1.2.2.2.1<(x.1.2.1.length:Int)));let e6_:=e8_;bif(decide (x.1.2.2.2.1<x.1.1))then(bif e5_ then(bif((decide ((0:Int)<=x.1.2.2.2.1))&&e5_)then(bif e2_ then(bif(p157 (e6_,e7_))then(bif e2_ then(((L ((x.1.1,x.1.2.1,e1_.2.1,e4_),(x.2.1.set (ai x.1.2.2.2.1) e1_.1),()))))else none)else none)else none)else none)else bif e2_ then(bif(p157 (e6_,(0:Int),x.1.2.2.1,()))then(bif e2_ then(((L ((x.1.1,x.1.2.1,e3_.2.1,e4_),(x.2.1.set (ai x.1.2.2.2.1) e3_.1),()))))else none)else none)else none)else(e (.inl (((),()),x.2)))
theorem bCB(d:Nat)(R:Type)(L:Pat.D HO->Option R)(e:Ah MA LS->Option R)(x:Pat.D HO):
  BC ({cf [(93,⟨Hy,HF,p1173,f1173⟩),(148,⟨KS,PJ,p157,f157⟩),(93,⟨Bz,BA,p173,f173⟩)] [(254,3,LoopSpec.of HO cN MA LS w1174_3)]with keep:=true}) (d+2) 254 (Bw Tryz.f254 3) HO cN MA LS (R:=R) L e x=VS p1173 f1173 p157 f157 p173 f173 L e x:=by kernel_rfl
theorem aJ6(p1173:RW)(f1173:RZ)(p157:G6)(f157:G9)(p173:AZ)(f173:A1):Bq fun L e x=>VS p1173 f1173 p157 f157 p173 f173 L e x:=by intro _ _ _ _ _ _ _ h0 hL he _;unfold VS;repeat' (first|exact h0|exact hL _|exact he _|apply BM|(apply BN h0;intro _)|(apply BO<;>intro _))
def mQ(p1173:RW)(f1173:RZ)(p157:G6)(f157:G9)(p173:AZ)(f173:A1)(w1174_3:Pat.D HO->Option (Ah MA LS))(a0 a1:Ab (.slice (.int .u64))):Option (DenS Py):=
 Vx.A3 (w1174_3 (((a0.length:Int),a1,(0:Int),(0:Int),(),()),a0,())) fun y0=>
 Vx.A2 y0 (fun y1=>
 bif(p1173 y1.2)then(some (f1173 y1.2))
 else none) (fun z1=>
 none)
theorem aZf(x:DenS NL):run ({cf [(93,⟨Hy,HF,p1173,f1173⟩),(148,⟨KS,PJ,p157,f157⟩),(93,⟨Bz,BA,p173,f173⟩)] [(254,3,LoopSpec.of HO cN MA LS w1174_3)]with keep:=true}) 9 254 Tryz.f254 NL Py x=mQ p1173 f1173 p157 f157 p173 f173 w1174_3 x.1 x.2.1:=by kernel_rfl
def Y2:HO.D->Option (Ah MA LS):=Bf fun L=>VS B7.pre B7.F A9.pre A9.F Ag.pre Ag.F L some
def XN(x:DenS NL):Option (DenS Py):=mQ B7.pre B7.F A9.pre A9.F Ag.pre Ag.F Y2 x.1 x.2.1
def Rc:Sum:=Aj NL Py XN (DenS.dflt Py)
theorem aPU:Sound Tryz.prog G1 254 Rc:=sd ({cf [(93,B7),(148,A9),(93,Ag)] [(254,3,LoopSpec.of HO cN MA LS Y2)]with keep:=true}) 254 Tryz.f254 ⟨aBj,eH,DO,trivial⟩ ⟨rfl,fun d=>BL (fun L e x=>VS B7.pre B7.F A9.pre A9.F Ag.pre Ag.F L e x) (aJ6 B7.pre B7.F A9.pre A9.F Ag.pre Ag.F) (fun _ _ _ _=>bCB ..),trivial⟩ NL Py XN _ (fun _=>aZf ..)
abbrev aEa:=Ae NL
abbrev aFU:=Ad NL Py
variable (p1174:aEa)(f1174:aFU)
abbrev NV:Aa:=[(false,.slice (.int .u64)),(false,.slice (.int .u64))]
abbrev PL:Aa:=[(false,.slice (.int .u64))]
abbrev HW:Pat:=⟨37,[(9,.one (.v .i64)),(1,.one (.sl (.int .u64))),(5,.one (.v .u64)),(10,.one (.v .i64)),(0,.one (.sl (.int .u64)))],[]⟩
abbrev cY:List (Nat×Shape):=[]
abbrev MJ:List (Nat×Pat):=[(0,⟨37,[(0,.one (.sl (.int .u64)))],[]⟩)]
abbrev L5:Option Pat:=none
variable (w174_3:Pat.D HW->Option (Ah MJ L5))
def aD(p157:G6)(f157:G9)(p173:AZ)(f173:A1){R:Type}(L:Pat.D HW->Option R)(e:Ah MJ L5->Option R)(x:Pat.D HW):Option R:=let e1_:=((decide ((0:Int)<=x.1.2.2.2.1))&&(decide (x.1.2.2.2.1<(x.1.2.2.2.2.1.length:Int))));let e2_:=(x.1.2.2.2.2.1.getD (ai x.1.2.2.2.1) (0:Int));let e3_:=(decide (x.1.2.2.2.1<(x.1.2.1.length:Int)));bif(decide (x.1.2.2.2.1<x.1.1))then(bif e3_ then(bif((decide ((0:Int)<=x.1.2.2.2.1))&&e3_)then(bif e1_ then(bif(p157 (e2_,(x.1.2.1.getD (ai x.1.2.2.2.1) (0:Int)),x.1.2.2.1,()))then(bif e1_ then((none))else none)else none)else none)else none)else bif e1_ then(bif(p157 (e2_,(0:Int),x.1.2.2.1,()))then(bif e1_ then((none))else none)else none)else none)else(e (.inl (x.1.2.2.2.2,())))
theorem bCK(d:Nat)(R:Type)(L:Pat.D HW->Option R)(e:Ah MJ L5->Option R)(x:Pat.D HW):
  BC (cf [(148,⟨KS,PJ,p157,f157⟩),(93,⟨Bz,BA,p173,f173⟩)] [(254,3,LoopSpec.of HW cY MJ L5 w174_3)]) (d+2) 254 (Bw Tryz.f254 3) HW cY MJ L5 (R:=R) L e x=aD p157 f157 p173 f173 L e x:=by kernel_rfl
theorem aWT(p157:G6)(f157:G9)(p173:AZ)(f173:A1):Bq fun L e x=>aD p157 f157 p173 f173 L e x:=by intro _ _ _ _ _ _ _ h0 hL he _;unfold aD;repeat' (first|exact h0|exact hL _|exact he _|apply BM|(apply BN h0;intro _)|(apply BO<;>intro _))
def aMG(p157:G6)(f157:G9)(p173:AZ)(f173:A1)(w174_3:Pat.D HW->Option (Ah MJ L5))(a0 a1:Ab (.slice (.int .u64))):Option (DenS PL):=
 Vx.A3 (w174_3 (((a0.length:Int),a1,(0:Int),(0:Int),a0,()),())) fun y0=>
 Vx.A2 y0 (fun y1=>
 bif(p173 y1.1)then(some (f173 y1.1))
 else none) (fun z1=>
 none)
theorem aZJ(x:DenS NV):run (cf [(148,⟨KS,PJ,p157,f157⟩),(93,⟨Bz,BA,p173,f173⟩)] [(254,3,LoopSpec.of HW cY MJ L5 w174_3)]) 9 254 Tryz.f254 NV PL x=aMG p157 f157 p173 f173 w174_3 x.1 x.2.1:=by kernel_rfl
def aDO:HW.D->Option (Ah MJ L5):=Bf fun L=>aD A9.pre A9.F Ag.pre Ag.F L some
def aCo(x:DenS NV):Option (DenS PL):=aMG A9.pre A9.F Ag.pre Ag.F aDO x.1 x.2.1
def UB:Sum:=Aj NV PL aCo (DenS.dflt PL)
theorem aQa:Sound Tryz.prog G1 254 UB:=sd (cf [(148,A9),(93,Ag)] [(254,3,LoopSpec.of HW cY MJ L5 aDO)]) 254 Tryz.f254 ⟨eH,DO,trivial⟩ ⟨rfl,fun d=>BL (fun L e x=>aD A9.pre A9.F Ag.pre Ag.F L e x) (aWT A9.pre A9.F Ag.pre Ag.F) (fun _ _ _ _=>bCK ..),trivial⟩ NV PL aCo _ (fun _=>aZJ ..)
abbrev aEn:=Ae NV
abbrev aF7:=Ad NV PL
variable (p174:aEn)(f174:aF7)
abbrev I1:Aa:=[(false,.slice (.int .u64)),(false,.slice (.int .u64))]
abbrev Jn:Aa:=[(false,.slice (.int .u64)),(false,.int .i64)]
def nB(p1174:aEa)(f1174:aFU)(p1146:Zc)(f1146:Zp)(p144:E2)(f144:E3)(p146:Tj)(f146:Tp)(p173:AZ)(f173:A1)(p174:aEn)(f174:aF7)(a0 a1:Ab (.slice (.int .u64))):Option (DenS Jn):=bif(p144 (a0,a1,()))then(bif(decide ((f144 (a0,a1,())).1<(0:Int)))then(some ([],(20:Int),()))else bif(p1146 (a0,()))then(bif(p173 (a1,()))then(bif(p1174 ((f1146 (a0,())).1,(f173 (a1,()))))then(some ((f1174 ((f1146 (a0,())).1,(f173 (a1,())))).1,(0:Int),()))else none)else none)else none)else none
theorem aZv(x:DenS I1):run (cf [(254,⟨NL,Py,p1174,f1174⟩),(116,⟨IV,Jj,p1146,f1146⟩),(101,⟨Eu,EA,p144,f144⟩),(116,⟨HB,HI,p146,f146⟩),(93,⟨Bz,BA,p173,f173⟩),(254,⟨NV,PL,p174,f174⟩)] []) 9 248 Tryz.f248 I1 Jn x=nB p1174 f1174 p1146 f1146 p144 f144 p146 f146 p173 f173 p174 f174 x.1 x.2.1:=by kernel_rfl
def XX(x:DenS I1):Option (DenS Jn):=nB Rc.pre Rc.F Dk.pre Dk.F AU.pre AU.F CQ.pre CQ.F Ag.pre Ag.F UB.pre UB.F x.1 x.2.1
def DN:Sum:=Aj I1 Jn XX (DenS.dflt Jn)
theorem aBm:Sound Tryz.prog G1 248 DN:=sd (cf [(254,Rc),(116,Dk),(101,AU),(116,CQ),(93,Ag),(254,UB)] []) 248 Tryz.f248 ⟨aPU,aBi,Uw,rG,DO,aQa,trivial⟩ trivial I1 Jn XX _ (fun _=>aZv ..)
abbrev U7:=Ae I1
abbrev Vh:=Ad I1 Jn
variable (p145:U7)(f145:Vh)
abbrev Ol:Aa:=[(false,.slice (.int .u64)),(false,.slice (.int .u64)),(false,.int .i64)]
abbrev Qb:Aa:=[(true,.pair (.bool) (.pair (.slice (.int .u64)) (.pair (.int .i64) (.pair (.bool) (.unit)))))]
abbrev H5:Pat:=⟨81,[(2,.one (.v .i64)),(1,.one (.sl (.int .u64))),(11,.one (.sl (.int .u64))),(13,.one (.ptr 1 0)),(6,.one (.ptr 0 0))],[.raw [.bool,.sl (.int .u64),.v .i64,.bool],.raw [.bool,.sl (.int .u64),.v .i64,.bool]]⟩
abbrev dK:List (Nat×Shape):=[]
abbrev MV:List (Nat×Pat):=[(0,⟨81,[(11,.one (.sl (.int .u64))),(13,.one (.ptr 1 0)),(6,.one (.ptr 0 0))],[.raw [.bool,.sl (.int .u64),.v .i64,.bool],.raw [.bool,.sl (.int .u64),.v .i64,.bool]]⟩)]
abbrev Mh:Option Pat:=none
variable (w379_5:Pat.D H5->Option (Ah MV Mh))
def Wh(p176:J8)(f176:Ke)(p345:iG)(f345:iY)(p151:Fv)(f151:Fw)(p144:E2)(f144:E3)(p145:U7)(f145:Vh)(p143:Gg)(f143:Gj){R:Type}(L:Pat.D H5->Option R)(e:Ah MV Mh->Option R)(x:Pat.D H5):Option R:=let e1_:=((aa .i64 (x.2.2.1.2.2.1-(1:Int))),x.2.2.1.2.2.2);let e2_:=((f143 (x.2.2.1.2.1,x.2.2.1.2.1,())).1,((1:Int)::[]),());let e3_:=((f143 (x.1.2.2.1,x.1.2.2.1,())).1,x.1.2.1,());bif(p151 (x.2.2.1.2.1,()))then(bif((decide ((f151 (x.2.2.1.2.1,())).1<x.1.1))&&(decide ((x.1.2.2.1.length:Int)>(0:Int))))then(bif(p143 (x.2.2.1.2.1,x.2.2.1.2.1,()))then(bif(p143 (x.1.2.2.1,x.1.2.2.1,()))then(bif(p144 e3_)then(bif(decide ((f144 e3_).1>=(0:Int)))then(bif(p145 e3_)then(bif(p143 e2_)then(((L ((x.1.1,x.1.2.1,(f145 e3_).1,(),(),()),x.2.1,(x.2.2.1.1,(f143 e2_).1,e1_),()))))else none)else none)else(L ((x.1.1,x.1.2.1,(f143 (x.1.2.2.1,x.1.2.2.1,())).1,(),(),()),x.2.1,(x.2.2.1.1,(f143 (x.2.2.1.2.1,x.2.2.1.2.1,())).1,e1_),())))else none)else none)else none)else(e (.inl ((x.1.2.2.1,(),(),()),x.2))))else none
theorem bC2(d:Nat)(R:Type)(L:Pat.D H5->Option R)(e:Ah MV Mh->Option R)(x:Pat.D H5):
  BC (cf [(67,⟨FN,FU,p176,f176⟩),(247,⟨K2,Lu,p345,f345⟩),(98,⟨Ew,EB,p151,f151⟩),(101,⟨Eu,EA,p144,f144⟩),(248,⟨I1,Jn,p145,f145⟩),(65,⟨E8,E0,p143,f143⟩)] [(238,5,LoopSpec.of H5 dK MV Mh w379_5)]) (d+2) 238 (Bw Tryz.f238 5) H5 dK MV Mh (R:=R) L e x=Wh p176 f176 p345 f345 p151 f151 p144 f144 p145 f145 p143 f143 L e x:=by kernel_rfl
theorem aKt(p176:J8)(f176:Ke)(p345:iG)(f345:iY)(p151:Fv)(f151:Fw)(p144:E2)(f144:E3)(p145:U7)(f145:Vh)(p143:Gg)(f143:Gj):Bq fun L e x=>Wh p176 f176 p345 f345 p151 f151 p144 f144 p145 f145 p143 f143 L e x:=by intro _ _ _ _ _ _ _ h0 hL he _;unfold Wh;repeat' (first|exact h0|exact hL _|exact he _|apply BM|(apply BN h0;intro _)|(apply BO<;>intro _))
def oK(p176:J8)(f176:Ke)(p345:iG)(f345:iY)(p151:Fv)(f151:Fw)(p144:E2)(f144:E3)(p145:U7)(f145:Vh)(p143:Gg)(f143:Gj)(w379_5:Pat.D H5->Option (Ah MV Mh))(a0 a1:Ab (.slice (.int .u64)))(a2:Ab (.int .i64)):Option (DenS Qb):=
 let e5_:=(aa .i64 ((aa .i64 ((f151 (a1,())).1-(f151 (a0,())).1))-(1:Int)))
 let e4_:=(a0,(if(e5_>(0:Int))then e5_ else(0:Int)),())
 let e1_:=(f345 ((f176 e4_).1,a1,()))
 let e2_:=e4_
 let e3_:=e5_
 bif(p151 (a1,()))then(bif(p151 (a0,()))then(bif(p176 e2_)then(bif(p345 ((f176 e2_).1,a1,()))then(Vx.A3 (w379_5 ((a2,a1,e1_.2.1,(),(),()),(false,[],(0:Int),false,()),(false,e1_.1,(aa .i64 ((0:Int)-(if(e3_>(0:Int))then e3_ else(0:Int)))),false,()),())) fun y4=>
 Vx.A2 y4 (fun y5=>
 some ((y5.2.2.1.1,y5.2.2.1.2.1,y5.2.2.1.2.2.1,(decide ((y5.1.1.length:Int)>(0:Int))),()),())) (fun z5=>
 none))
 else none)
 else none)
 else none)
 else none
theorem bAt(x:DenS Ol):run (cf [(67,⟨FN,FU,p176,f176⟩),(247,⟨K2,Lu,p345,f345⟩),(98,⟨Ew,EB,p151,f151⟩),(101,⟨Eu,EA,p144,f144⟩),(248,⟨I1,Jn,p145,f145⟩),(65,⟨E8,E0,p143,f143⟩)] [(238,5,LoopSpec.of H5 dK MV Mh w379_5)]) 9 238 Tryz.f238 Ol Qb x=oK p176 f176 p345 f345 p151 f151 p144 f144 p145 f145 p143 f143 w379_5 x.1 x.2.1 x.2.2.1:=by kernel_rfl
def gY:H5.D->Option (Ah MV Mh):=Bf fun L=>Wh BS.pre BS.F EG.pre EG.F A8.pre A8.F AU.pre AU.F DN.pre DN.F BE.pre BE.F L some
def Ys(x:DenS Ol):Option (DenS Qb):=oK BS.pre BS.F EG.pre EG.F A8.pre A8.F AU.pre AU.F DN.pre DN.F BE.pre BE.F gY x.1 x.2.1 x.2.2.1
def Rs:Sum:=Aj Ol Qb Ys (DenS.dflt Qb)
theorem aQA:Sound Tryz.prog G1 238 Rs:=sd (cf [(67,BS),(247,EG),(98,A8),(101,AU),(248,DN),(65,BE)] [(238,5,LoopSpec.of H5 dK MV Mh gY)]) 238 Tryz.f238 ⟨Xn,aQq,SY,Uw,aBm,Xm,trivial⟩ ⟨rfl,fun d=>BL (fun L e x=>Wh BS.pre BS.F EG.pre EG.F A8.pre A8.F AU.pre AU.F DN.pre DN.F BE.pre BE.F L e x) (aKt BS.pre BS.F EG.pre EG.F A8.pre A8.F AU.pre AU.F DN.pre DN.F BE.pre BE.F) (fun _ _ _ _=>bC2 ..),trivial⟩ Ol Qb Ys _ (fun _=>bAt ..)
abbrev aEK:=Ae Ol
abbrev aGu:=Ad Ol Qb
variable (p379:aEK)(f379:aGu)
abbrev On:Aa:=[(false,.int .i64),(false,.int .i64),(false,.bool),(false,.slice (.int .u64)),(false,.slice (.int .u64)),(false,.int .i64)]
abbrev Qc:Aa:=[(false,.int .u64),(false,.int .i64),(false,.int .i64)]
def oL(p105:U5)(f105:Vf)(p102:G4)(f102:G7)(p156:iA)(f156:iS)(p379:aEK)(f379:aGu)(p107:U6)(f107:Vg)(a0 a1:Ab (.int .i64))(a2:Ab (.bool))(a3 a4:Ab (.slice (.int .u64)))(a5:Ab (.int .i64)):Option (DenS Qc):=let e4_:=((f102 (a3,())).1,(f102 (a4,())).1,(aa .i64 ((f105 (a0,a1,())).1.2.1+(3:Int))),());let e3_:=(f379 e4_);let e1_:=(f107 ((a2,e3_.1.2.1,(aa .i64 (e3_.1.2.2.1+a5)),e3_.1.2.2.2),a0,(f105 (a0,a1,())).1,a1,()));let e2_:=e3_;bif(p105 (a0,a1,()))then(bif((f105 (a0,a1,())).2.1 !=(0:Int))then(some ((0:Int),(0:Int),(f105 (a0,a1,())).2))else bif(p102 (a3,()))then(bif(p102 (a4,()))then(bif(decide ((aa .i64 (((f102 (a3,())).1.length:Int)+((f102 (a4,())).1.length:Int)))>(1024:Int)))then(some ((0:Int),(0:Int),(5:Int),()))else bif((decide (a5<(-(40000:Int))))||(decide (a5>(40000:Int))))then(some ((0:Int),(0:Int),(30:Int),()))else bif(((f102 (a4,())).1.length:Int)==(0:Int))then(some ((0:Int),(0:Int),(10:Int),()))else bif(((f102 (a3,())).1.length:Int)==(0:Int))then(bif(p156 (a0,a2,()))then(some (f156 (a0,a2,())))else none)else bif(p379 e4_)then(bif(p107 ((a2,e2_.1.2.1,(aa .i64 (e2_.1.2.2.1+a5)),e2_.1.2.2.2),a0,(f105 (a0,a1,())).1,a1,()))then(some (e1_.1,e1_.2.1,(0:Int),()))else none)else none)else none)else none)else none
theorem bAv(x:DenS On):run (cf [(121,⟨IT,Jh,p105,f105⟩),(122,⟨E7,Fg,p102,f102⟩),(123,⟨KR,Lm,p156,f156⟩),(238,⟨Ol,Qb,p379,f379⟩),(124,⟨IU,Ji,p107,f107⟩)] []) 9 204 Tryz.f204 On Qc x=oL p105 f105 p102 f102 p156 f156 p379 f379 p107 f107 x.1 x.2.1 x.2.2.1 x.2.2.2.1 x.2.2.2.2.1 x.2.2.2.2.2.1:=by kernel_rfl
def Yt(x:DenS On):Option (DenS Qc):=oL Fp.pre Fp.F Cc.pre Cc.F Ic.pre Ic.F Rs.pre Rs.F Fq.pre Fq.F x.1 x.2.1 x.2.2.1 x.2.2.2.1 x.2.2.2.2.1 x.2.2.2.2.2.1
def Rt:Sum:=Aj On Qc Yt (DenS.dflt Qc)
theorem aQB:Sound Tryz.prog G1 204 Rt:=sd (cf [(121,Fp),(122,Cc),(123,Ic),(238,Rs),(124,Fq)] []) 204 Tryz.f204 ⟨rA,Xk,aBo,aQA,rB,trivial⟩ trivial On Qc Yt _ (fun _=>bAv ..)
abbrev aEM:=Ae On
abbrev aGw:=Ad On Qc
variable (p380:aEM)(f380:aGw)
abbrev Oo:Aa:=[(false,.int .i64),(false,.int .i64),(false,.int .u64),(false,.int .u64)]
abbrev Lw:Aa:=[(false,.int .u64),(false,.int .i64),(false,.int .i64)]
def oM(p376:aEH)(f376:aGr)(p377:aEI)(f377:aGs)(p378:aEJ)(f378:aGt)(p97:Kc)(f97:Ki)(p118:G5)(f118:G8)(p40:RY)(f40:R1)(p380:aEM)(f380:aGw)(a0 a1:Ab (.int .i64))(a2 a3:Ab (.int .u64)):Option (DenS Lw):=let e6_:=(!((f377 (a0,a2,())).1.2.2.2.2.1==(f377 (a0,a3,())).1.2.2.2.2.1));let e1_:=(a0,a1,e6_,(f40 (a0,a2,())).1.2.1,(f40 (a0,a3,())).1.2.1,(aa .i64 ((f40 (a0,a2,())).1.2.2.1-(f40 (a0,a3,())).1.2.2.1)),());let e5_:=(a0,e6_,());let e2_:=(f118 e5_);let e3_:=(f97 e5_);let e4_:=(p97 e5_);let g1_:Option (DenS Lw):=bif(p378 (a0,(1:Int),()))then(some (f378 (a0,(1:Int),())))else none;bif(p376 (a0,a1,(a2::(a3::[])),()))then(bif((f376 (a0,a1,(a2::(a3::[])),())).1 !=(0:Int))then(some ((0:Int),(0:Int),(f376 (a0,a1,(a2::(a3::[])),()))))else bif(p377 (a0,a2,()))then(bif(p377 (a0,a3,()))then(bif((f377 (a0,a2,())).1.2.1||(f377 (a0,a3,())).1.2.1)then(g1_)else bif((f377 (a0,a2,())).1.1||(f377 (a0,a3,())).1.1)then(bif(p378 (a0,(0:Int),()))then(some (f378 (a0,(0:Int),())))else none)else bif(((f377 (a0,a2,())).1.2.2.1&&(f377 (a0,a3,())).1.2.2.1)||((f377 (a0,a2,())).1.2.2.2.1&&(f377 (a0,a3,())).1.2.2.2.1))then(g1_)else bif(f377 (a0,a2,())).1.2.2.1 then(bif e4_ then(some (e3_.1,(0:Int),e3_.2))else none)else bif(f377 (a0,a3,())).1.2.2.2.1 then(bif e4_ then(some (e3_.1,(2:Int),e3_.2))else none)else bif((f377 (a0,a3,())).1.2.2.1||(f377 (a0,a2,())).1.2.2.2.1)then(bif(p118 e5_)then(some (e2_.1,(0:Int),e2_.2))else none)else bif(p40 (a0,a2,()))then(bif(p40 (a0,a3,()))then(bif(p380 e1_)then(some (f380 e1_))else none)else none)else none)else none)else none)else none
theorem bAw(x:DenS Oo):run (cf [(200,⟨Oh,P8,p376,f376⟩),(201,⟨Oi,P9,p377,f377⟩),(202,⟨Oj,Qa,p378,f378⟩),(62,⟨FQ,FV,p97,f97⟩),(64,⟨Es,EY,p118,f118⟩),(203,⟨GC,GO,p40,f40⟩),(204,⟨On,Qc,p380,f380⟩)] []) 9 161 Tryz.f161 Oo Lw x=oM p376 f376 p377 f377 p378 f378 p97 f97 p118 f118 p40 f40 p380 f380 x.1 x.2.1 x.2.2.1 x.2.2.2.1:=by kernel_rfl
def Yu(x:DenS Oo):Option (DenS Lw):=oM Rp.pre Rp.F Rq.pre Rq.F Rr.pre Rr.F Cq.pre Cq.F Bu.pre Bu.F DC.pre DC.F Rt.pre Rt.F x.1 x.2.1 x.2.2.1 x.2.2.2.1
def Mq:Sum:=Aj Oo Lw Yu (DenS.dflt Lw)
theorem aBC:Sound Tryz.prog G1 161 Mq:=sd (cf [(200,Rp),(201,Rq),(202,Rr),(62,Cq),(64,Bu),(203,DC),(204,Rt)] []) 161 Tryz.f161 ⟨aQx,aQy,aQz,UE,SW,Xw,aQB,trivial⟩ trivial Oo Lw Yu _ (fun _=>bAw ..)
abbrev sQ:=Ae Oo
abbrev tZ:=Ad Oo Lw
variable (p381:sQ)(f381:tZ)
abbrev dS:Aa:=[(false,.int .i64),(false,.int .i64),(false,.int .u64),(false,.int .u64)]
abbrev qU:Aa:=[(false,.int .u64),(false,.int .i64),(false,.int .i64)]
def Ra:SumF:=Kq dS qU [(158,[],Fs),(159,[],Mo),(160,[],Mp),(161,[],Mq)]
theorem aPN:KM Tryz.prog G1 Ra:=Vy ⟨DH rI,⟨DH aBr,⟨DH aBB,⟨DH aBC,trivial⟩⟩⟩⟩
abbrev aD2:=Option (Nat×List Nat)->Ae dS
abbrev aFM:=Option (Nat×List Nat)->Ad dS qU
variable (p100002:aD2)(f100002:aFM)
abbrev Ov:Aa:=[(true,.pair (.int .i64) (.pair (.int .i64) (.pair (.int .u64) (.pair (.int .u64) (.pair (.int .u64) .unit))))),(false,.box (.pfn))]
abbrev Lx:Aa:=[(false,.int .u64),(false,.int .i64),(false,.int .i64)]
def oN(p100002:aD2)(f100002:aFM)(a0:Ab (.pair (.int .i64) (.pair (.int .i64) (.pair (.int .u64) (.pair (.int .u64) (.pair (.int .u64) .unit))))))(a1:Ab (.box (.pfn))):Option (DenS Lx):=let e1_:=(a0.2.1,a0.1,a0.2.2.1,a0.2.2.2.1,());bif(p100002 (some (a1,[])) e1_)then(some (f100002 (some (a1,[])) e1_))else none
theorem bAA(x:DenS Ov):run ({cf [] []with fns:=[(57,⟨dS,qU,p100002,f100002⟩)] }) 9 192 Tryz.f192 Ov Lx x=oN p100002 f100002 x.1 x.2.1:=by kernel_rfl
def Yv(x:DenS Ov):Option (DenS Lx):=oN Ra.pre Ra.F x.1 x.2.1
def Dd:Sum:=Aj Ov Lx Yv (DenS.dflt Lx)
theorem Xr:Sound Tryz.prog G1 192 Dd:=sd ({cf [] []with fns:=[(57,Ra)] }) 192 Tryz.f192 trivial trivial Ov Lx Yv _ (fun _=>bAA ..) (hfs:=⟨aPN,trivial⟩)
abbrev sR:=Ae Ov
abbrev t0:=Ad Ov Lx
variable (p395:sR)(f395:t0)
abbrev KV:Aa:=[(false,.int .i64),(false,.int .i64),(false,.slice (.int .u64))]
abbrev Lp:Aa:=[(true,.pair (.int .i64) (.pair (.int .i64) (.pair (.int .i64) (.pair (.int .i64) (.unit))))),(false,.int .i64)]
abbrev GT:Pat:=⟨44,[(30,.one (.v .i64)),(29,.one (.sl (.int .u64))),(0,.one (.v .i64)),(31,.one (.v .i64)),(8,.one (.ptr 1 0)),(6,.one (.ptr 0 0))],[.raw [.v .i64,.v .i64,.v .i64,.v .i64],.raw [.v .i64,.v .i64,.v .i64,.v .i64]]⟩
abbrev dC:List (Nat×Shape):=[]
abbrev MN:List (Nat×Pat):=[(0,⟨44,[(8,.one (.ptr 1 0)),(6,.one (.ptr 0 0))],[.raw [.v .i64,.v .i64,.v .i64,.v .i64],.raw [.v .i64,.v .i64,.v .i64,.v .i64]]⟩)]
abbrev L9:Option Pat:=(some ⟨44,[(6,.one (.ptr 0 0)),(7,.one (.v .i64))],[.raw [.v .i64,.v .i64,.v .i64,.v .i64]]⟩)
variable (w311_7:Pat.D GT->Option (Ah MN L9))
def V4(p69:BF)(f69:BG)(p66:B2)(f66:B3){R:Type}(L:Pat.D GT->Option R)(e:Ah MN L9->Option R)(x:Pat.D GT):Option R:=let e2_:=(x.1.2.2.1,(x.1.2.1.getD (ai x.1.2.2.2.1) (0:Int)),());let e1_:=(f66 e2_);bif(decide (x.1.2.2.2.1<x.1.1))then(bif((decide ((0:Int)<=x.1.2.2.2.1))&&(decide (x.1.2.2.2.1<(x.1.2.1.length:Int))))then(bif(p66 e2_)then(bif(e1_.1 !=(0:Int))then(((e (.inr (((),e1_),x.2.2)))))else(L ((x.1.1,x.1.2.1,x.1.2.2.1,(aa .i64 (x.1.2.2.2.1+(1:Int))),(),(),()),x.2)))else none)else none)else(e (.inl (((),(),()),x.2)))
theorem bCO(d:Nat)(R:Type)(L:Pat.D GT->Option R)(e:Ah MN L9->Option R)(x:Pat.D GT):
  BC (cf [(71,⟨BU,BV,p69,f69⟩),(85,⟨CA,CB,p66,f66⟩)] [(58,7,LoopSpec.of GT dC MN L9 w311_7)]) (d+2) 58 (Bw Tryz.f58 7) GT dC MN L9 (R:=R) L e x=V4 p69 f69 p66 f66 L e x:=by kernel_rfl
theorem aKh(p69:BF)(f69:BG)(p66:B2)(f66:B3):Bq fun L e x=>V4 p69 f69 p66 f66 L e x:=by intro _ _ _ _ _ _ _ h0 hL he _;unfold V4;repeat' (first|exact h0|exact hL _|exact he _|apply BM|(apply BN h0;intro _)|(apply BO<;>intro _))
def WX(p69:BF)(f69:BG)(p66:B2)(f66:B3)(w311_7:Pat.D GT->Option (Ah MN L9))(a0 a1:Ab (.int .i64))(a2:Ab (.slice (.int .u64))):Option (DenS Lp):=
 bif(p69 (a0,()))then(bif((f69 (a0,())).2.1 !=(0:Int))then(some (f69 (a0,())))
 else bif((decide (a1<(0:Int)))||(decide (a1>(5:Int))))then(some ((f69 (a0,())).1,(3:Int),()))
 else Vx.A3 (w311_7 (((a2.length:Int),a2,a0,(0:Int),(),(),()),((0:Int),(0:Int),(0:Int),(0:Int),()),(f69 (a0,())).1,())) fun y3=>
 Vx.A2 y3 (fun y4=>
 some (y4.2.2.1,(0:Int),())) (fun z4=>
 some (z4.2.1,z4.1.2)))
 else none
theorem aZV(x:DenS KV):run (cf [(71,⟨BU,BV,p69,f69⟩),(85,⟨CA,CB,p66,f66⟩)] [(58,7,LoopSpec.of GT dC MN L9 w311_7)]) 9 58 Tryz.f58 KV Lp x=WX p69 f69 p66 f66 w311_7 x.1 x.2.1 x.2.2.1:=by kernel_rfl
def Y5:GT.D->Option (Ah MN L9):=Bf fun L=>V4 Ao.pre Ao.F Ar.pre Ar.F L some
def UO(x:DenS KV):Option (DenS Lp):=WX Ao.pre Ao.F Ar.pre Ar.F Y5 x.1 x.2.1 x.2.2.1
def Ie:Sum:=Aj KV Lp UO (DenS.dflt Lp)
theorem aBs:Sound Tryz.prog G1 58 Ie:=sd (cf [(71,Ao),(85,Ar)] [(58,7,LoopSpec.of GT dC MN L9 Y5)]) 58 Tryz.f58 ⟨Do,Fu,trivial⟩ ⟨rfl,fun d=>BL (fun L e x=>V4 Ao.pre Ao.F Ar.pre Ar.F L e x) (aKh Ao.pre Ao.F Ar.pre Ar.F) (fun _ _ _ _=>bCO ..),trivial⟩ KV Lp UO _ (fun _=>aZV ..)
abbrev Zg:=Ae KV
abbrev Zt:=Ad KV Lp
variable (p311:Zg)(f311:Zt)
abbrev N2:Aa:=[(false,.int .i64),(false,.int .i64)]
abbrev PS:Aa:=[(false,.int .u64),(false,.int .i64),(false,.bool)]
def aMJ(p70:Dp)(f70:Dq)(a0 a1:Ab (.int .i64)):Option (DenS PS):=bif(p70 (a0,()))then(bif(a1==(1:Int))then(some ((f70 (a0,())).1,(0:Int),true,()))else bif(a1==(0:Int))then(bif(a1==(0:Int))then(some ((f70 (a0,())).1,(1:Int),true,()))else some ((0:Int),(0:Int),false,()))else bif(a1==(2:Int))then(bif(a1==(2:Int))then(some ((f70 (a0,())).1,(1:Int),true,()))else some ((0:Int),(0:Int),false,()))else bif(a1==(3:Int))then(bif(a1==(3:Int))then(some ((f70 (a0,())).1,(1:Int),true,()))else some ((0:Int),(0:Int),false,()))else bif(a1==(4:Int))then(some ((f70 (a0,())).1,(1:Int),true,()))else some ((0:Int),(0:Int),false,()))else none
theorem aZW(x:DenS N2):run (cf [(61,⟨Di,Dj,p70,f70⟩)] []) 9 205 Tryz.f205 N2 PS x=aMJ p70 f70 x.1 x.2.1:=by kernel_rfl
def aCu(x:DenS N2):Option (DenS PS):=aMJ AS.pre AS.F x.1 x.2.1
def eM:Sum:=Aj N2 PS aCu (DenS.dflt PS)
theorem aQe:Sound Tryz.prog G1 205 eM:=sd (cf [(61,AS)] []) 205 Tryz.f205 ⟨Gd,trivial⟩ trivial N2 PS aCu _ (fun _=>aZW ..)
abbrev sM:=Ae N2
abbrev tV:=Ad N2 PS
variable (p312:sM)(f312:tV)
abbrev KW:Aa:=[(false,.int .i64),(true,.pair (.int .i64) (.pair (.int .i64) (.pair (.int .i64) (.pair (.int .i64) (.unit))))),(false,.int .u64)]
abbrev Lq:Aa:=[(false,.int .u64),(false,.int .i64)]
def nW(p98:Kd)(f98:Kj)(a0:Ab (.int .i64))(a1:Ab (.pair (.int .i64) (.pair (.int .i64) (.pair (.int .i64) (.pair (.int .i64) (.unit))))))(a2:Ab (.int .u64)):Option (DenS Lq):=let e1_:=(aa .i64 (a1.2.1-(1:Int)));bif(p98 (a0,a2,()))then(bif((f98 (a0,a2,())).2.1==(0:Int))then(some ((f98 (a0,a2,())).2.2.1,(aa .i64 ((aa .i64 ((aa .i64 ((aa .i64 ((aa .i64 (1:Int))-(1:Int)))+a1.2.2.1))-a1.2.1))+(1:Int))),()))else bif(decide ((0:Int)<=e1_))then(some ((Aq .u64 (f98 (a0,a2,())).2.2.1 (AQ .u64 (1:Int) e1_)),(aa .i64 ((aa .i64 ((aa .i64 ((aa .i64 ((aa .i64 (f98 (a0,a2,())).2.1)-(1:Int)))+a1.2.2.1))-a1.2.1))+(1:Int))),()))else none)else none
theorem aZX(x:DenS KW):run (cf [(91,⟨E9,Fk,p98,f98⟩)] []) 9 63 Tryz.f63 KW Lq x=nW p98 f98 x.1 x.2.1 x.2.2.1:=by kernel_rfl
def X9(x:DenS KW):Option (DenS Lq):=nW B1.pre B1.F x.1 x.2.1 x.2.2.1
def If:Sum:=Aj KW Lq X9 (DenS.dflt Lq)
theorem aBt:Sound Tryz.prog G1 63 If:=sd (cf [(91,B1)] []) 63 Tryz.f63 ⟨S6,trivial⟩ trivial KW Lq X9 _ (fun _=>aZX ..)
abbrev Zh:=Ae KW
abbrev Zu:=Ad KW Lq
variable (p313:Zh)(f313:Zu)
abbrev N3:Aa:=[(true,.pair (.int .u64) (.pair (.int .u64) (.unit)))]
abbrev PT:Aa:=[(false,.int .i64)]
def aMK(p178:Ik)(f178:Im)(a0:Ab (.pair (.int .u64) (.pair (.int .u64) (.unit)))):Option (DenS PT):=bif(a0.1 !=(0:Int))then(bif(p178 (a0.1,()))then(some ((aa .i64 ((64:Int)+(f178 (a0.1,())).1)),()))else none)else bif(p178 a0.2)then(some (f178 a0.2))else none
theorem aZY(x:DenS N3):run (cf [(115,⟨FO,Fi,p178,f178⟩)] []) 9 206 Tryz.f206 N3 PT x=aMK p178 f178 x.1:=by kernel_rfl
def aCw(x:DenS N3):Option (DenS PT):=aMK CE.pre CE.F x.1
def eN:Sum:=Aj N3 PT aCw (DenS.dflt PT)
theorem aQf:Sound Tryz.prog G1 206 eN:=sd (cf [(115,CE)] []) 206 Tryz.f206 ⟨Xo,trivial⟩ trivial N3 PT aCw _ (fun _=>aZY ..)
abbrev sN:=Ae N3
abbrev tW:=Ad N3 PT
variable (p314:sN)(f314:tW)
end Vx
end
