/- Part 4 of the proof. What is proved: symbolic execution of the functions, proved sound; what each function of the program computes, and that every run ends with it; what these functions compute, in plain numbers. Conditions: each theorem bears its own. -/
import Derived.Test.YthajbkcpnbiobaaGreatDoorVxG3
import Derived.Test.YthajbkcpnbiobaaGreatDoorProg
set_option linter.all false
set_option exponentiation.threshold 1000000
noncomputable section
open Go.IntKind renaming wrap->aa
open Int renaming tmod->le,toNat->ai
open List renaming replicate->au
namespace Vx
open Go Go.Proofs
abbrev rowsSh:Shape:=.pair (.int .i64) (.pair (.int .i64) (.pair (.int .i64) (.pair (.int .i64) .unit)))
abbrev kindsSh:Shape:=.pair (.int .u64) (.pair (.int .u64) .unit)
def k_rows:List (Ab rowsSh):=[(16,11,-14,15,()),(16,8,-126,127,()),(32,24,-126,127,()),(64,53,-1022,1023,())]
def HT:List UInt8:=[0,1,2,2,3,3,3,3,4,4,4,4,4,4,4,4,5,5,5,5,5,5,5,5,5,5,5,5,5,5,5,5,6,6,6,6,6,6,6,6,6,6,6,6,6,6,6,6,6,6,6,6,6,6,6,6,6,6,6,6,6,6,6,6,7,7,7,7,7,7,7,7,7,7,7,7,7,7,7,7,7,7,7,7,7,7,7,7,7,7,7,7,7,7,7,7,7,7,7,7,7,7,7,7,7,7,7,7,7,7,7,7,7,7,7,7,7,7,7,7,7,7,7,7,7,7,7,7,8,8,8,8,8,8,8,8,8,8,8,8,8,8,8,8,8,8,8,8,8,8,8,8,8,8,8,8,8,8,8,8,8,8,8,8,8,8,8,8,8,8,8,8,8,8,8,8,8,8,8,8,8,8,8,8,8,8,8,8,8,8,8,8,8,8,8,8,8,8,8,8,8,8,8,8,8,8,8,8,8,8,8,8,8,8,8,8,8,8,8,8,8,8,8,8,8,8,8,8,8,8,8,8,8,8,8,8,8,8,8,8,8,8,8,8,8,8,8,8,8,8,8,8,8,8,8,8]
def k_deb:List (Ab (.int .u8)):=[0,1,56,2,57,49,28,3,61,58,42,50,38,29,17,4,62,47,59,36,45,43,51,22,53,39,33,30,24,18,12,5,63,55,48,27,60,41,37,16,46,35,44,21,52,32,23,11,54,26,40,15,34,20,31,10,25,14,19,9,13,8,7,6]
def k_kinds:List (Ab kindsSh):=[(2147483648,2147483647,()),(9223372036854775808,9223372036854775807,()),(0,4294967295,()),(0,18446744073709551615,())]
def G1:List (Nat×Sigma fun τ=>List (Ab τ)):=[(1,⟨rowsSh,k_rows⟩),(4,⟨kindsSh,k_kinds⟩),(5,⟨.int .u8,k_deb⟩)]
abbrev Ae(I:Aa):=DenS I->Bool
abbrev Ad(I O:Aa):=DenS I->DenS O
@[reducible] def cf(s:List (FuncId×Sum))(l:List (FuncId×Nat×LoopSpec)):Cfg:={P:=Tryz.prog,sums:=s,loops:=l,globs:=G1}
theorem sd(C:Cfg)(n:FuncId)(fn:Func)(hs:SK C.P C.globs C.sums)(hl:Ro C n fn C.loops)(I O:Aa)(t:DenS I->Option (DenS O))(d:DenS O)(h:∀x,run C 9 n fn I O x=t x)(hls:SL C.P C.globs C.lsums:=by exact trivial)(hfs:SI C.P C.globs C.fns:=by exact trivial)(hms:SJ C.P C.globs C.meths:=by exact trivial)
  (hm : C.P.follows .mixedOrders = true := by kernel_rfl) (hf : C.P.funcs[n]? = some fn := by kernel_rfl) (hb : (match fn.body with | some c => HW ((Cw c).map C2) | none => false) = true := by kernel_rfl) (hn : (fn.name == "runtime.NumGoroutine") = false := by kernel_rfl) : Sound C.P C.globs n (Ak I O t d) :=
 aSK C 9 n fn hm hf hb hn hs hl I O t d h hls hfs hms
theorem GM(C:Cfg)(n:FuncId)(fn:Func)(hs:SK C.P C.globs C.sums)(hl:Ro C n fn C.loops)(k:LK)(I O:Aa)(t:k.D×DenS I->Option (k.B×DenS O))(d:k.B×DenS O)(h:∀x,D5 C 9 n fn k I O x=t x)(hls:SL C.P C.globs C.lsums:=by exact trivial)(hfs:SI C.P C.globs C.fns:=by exact trivial)(hms:SJ C.P C.globs C.meths:=by exact trivial)
  (hm : C.P.follows .mixedOrders = true := by kernel_rfl) (hf : C.P.funcs[n]? = some fn := by kernel_rfl) (hb : (match fn.body with | some c => HW ((Cw c).map C2) | none => false) = true := by kernel_rfl) (hn : (fn.name == "runtime.NumGoroutine") = false := by kernel_rfl) : SoundL C.P C.globs n (D7 k I O t d) :=
 aSL C 9 n fn hm hf hb hn hs hl k I O t d h hls hfs hms
abbrev BJ:Aa:=[(false,.int .i64)]
abbrev BK:Aa:=[(true,.pair (.int .i64) (.pair (.int .i64) (.pair (.int .i64) (.pair (.int .i64) (.unit))))),(false,.int .i64)]
def kD(a0:Ab (.int .i64)):Option (DenS BK):=let e1_:=((0:Int),(0:Int),(0:Int),(0:Int),());bif((decide (a0<(0:Int)))||(decide (a0>=(4:Int))))then(some (e1_,(2:Int),()))else bif((decide ((0:Int)<=a0))&&(decide (a0<((4:Nat):Int))))then(some ((Vx.k_rows.getD (ai a0) e1_),(0:Int),()))else none
theorem r69(x:DenS BJ):run (cf [] []) 9 71 Tryz.f71 BJ BK x=kD x.1:=by kernel_rfl
def Tp(x:DenS BJ):Option (DenS BK):=kD x.1
def An:Sum:=Ak BJ BK Tp (DenS.dflt BK)
theorem Dk:Sound Tryz.prog G1 71 An:=sd (cf [] []) 71 Tryz.f71 trivial trivial BJ BK Tp _ (fun _=>r69 ..)
abbrev Bq:=Ae BJ
abbrev Br:=Ad BJ BK
variable (p69:Bq)(f69:Br)
abbrev B7:Aa:=[(false,.int .i64),(false,.int .u64)]
abbrev B8:Aa:=[(false,.int .i64)]
def kC(p69:Bq)(f69:Br)(a0:Ab (.int .i64))(a1:Ab (.int .u64)):Option (DenS B8):=bif(p69 (a0,()))then(bif((f69 (a0,())).2.1 !=(0:Int))then(some (f69 (a0,())).2)else bif((decide ((0:Int)<=(f69 (a0,())).1.1))||(!(decide ((f69 (a0,())).1.1<(64:Int)))))then(bif((decide ((f69 (a0,())).1.1<(64:Int)))&&((AL .u64 a1 (f69 (a0,())).1.1)!=(0:Int)))then(some ((4:Int),()))else some ((0:Int),()))else none)else none
theorem r66(x:DenS B7):run (cf [(71,⟨BJ,BK,p69,f69⟩)] []) 9 85 Tryz.f85 B7 B8 x=kC p69 f69 x.1 x.2.1:=by kernel_rfl
def WO(x:DenS B7):Option (DenS B8):=kC An.pre An.F x.1 x.2.1
def Aq:Sum:=Ak B7 B8 WO (DenS.dflt B8)
theorem E9:Sound Tryz.prog G1 85 Aq:=sd (cf [(71,An)] []) 85 Tryz.f85 ⟨Dk,trivial⟩ trivial B7 B8 WO _ (fun _=>r66 ..)
abbrev BL:=Ae B7
abbrev BM:=Ad B7 B8
variable (p66:BL)(f66:BM)
abbrev Ec:Aa:=[(false,.int .i64)]
abbrev Eg:Aa:=[(false,.int .u64)]
def kG(a0:Ab (.int .i64)):Option (DenS Eg):=bif(decide ((0:Int)<=a0))then(some ((aa .u64 ((Bb .u64 (1:Int) a0)-(1:Int))),()))else none
theorem r91(x:DenS Ec):run (cf [] []) 9 72 Tryz.f72 Ec Eg x=kG x.1:=by kernel_rfl
def WR(x:DenS Ec):Option (DenS Eg):=kG x.1
def Bu:Sum:=Ak Ec Eg WR (DenS.dflt Eg)
theorem Lh:Sound Tryz.prog G1 72 Bu:=sd (cf [] []) 72 Tryz.f72 trivial trivial Ec Eg WR _ (fun _=>r91 ..)
abbrev Gz:=Ae Ec
abbrev GD:=Ad Ec Eg
variable (p91:Gz)(f91:GD)
abbrev Iw:Aa:=[(true,.pair (.int .i64) (.pair (.int .i64) (.pair (.int .i64) (.pair (.int .i64) (.unit))))),(false,.int .u64)]
abbrev IZ:Aa:=[(false,.bool),(false,.int .u64),(false,.int .u64)]
def kF(p91:Gz)(f91:GD)(a0:Ab (.pair (.int .i64) (.pair (.int .i64) (.pair (.int .i64) (.pair (.int .i64) (.unit))))))(a1:Ab (.int .u64)):Option (DenS IZ):=let e5_:=(aa .i64 (a0.2.1-(1:Int)));let e1_:=(e5_,());let e2_:=((aa .i64 (a0.1-a0.2.1)),());let e3_:=e5_;let e4_:=(aa .i64 (a0.1-(1:Int)));bif(decide ((0:Int)<=e4_))then(bif(decide ((0:Int)<=e3_))then(bif(p91 e2_)then(bif(p91 e1_)then(some (((AL .u64 a1 e4_)!=(0:Int)),(BA .u64 (AL .u64 a1 e3_) (f91 e2_).1),(BA .u64 a1 (f91 e1_).1),()))else none)else none)else none)else none
theorem r90(x:DenS Iw):run (cf [(72,⟨Ec,Eg,p91,f91⟩)] []) 9 87 Tryz.f87 Iw IZ x=kF p91 f91 x.1 x.2.1:=by kernel_rfl
def WQ(x:DenS Iw):Option (DenS IZ):=kF Bu.pre Bu.F x.1 x.2.1
def Dl:Sum:=Ak Iw IZ WQ (DenS.dflt IZ)
theorem mL:Sound Tryz.prog G1 87 Dl:=sd (cf [(72,Bu)] []) 87 Tryz.f87 ⟨Lh,trivial⟩ trivial Iw IZ WQ _ (fun _=>r90 ..)
abbrev Xb:=Ae Iw
abbrev Xk:=Ad Iw IZ
variable (p90:Xb)(f90:Xk)
abbrev Dr:Aa:=[(false,.int .i64),(false,.int .u64)]
abbrev Ds:Aa:=[(false,.int .i64),(false,.int .i64)]
def U5(p66:BL)(f66:BM)(p90:Xb)(f90:Xk)(p91:Gz)(f91:GD)(a0:Ab (.int .i64))(a1:Ab (.int .u64)):Option (DenS Ds):=let e10_:=(Vx.k_rows.getD (ai a0) ((0:Int),(0:Int),(0:Int),(0:Int),()));let e9_:=(f90 (e10_,a1,()));let e8_:=((aa .i64 (e10_.1-e10_.2.1)),());let e1_:=(e9_.2.1==(f91 e8_).1);let e2_:=(p91 e8_);let e3_:=(aa .i64 (e10_.2.1-(2:Int)));let e4_:=(e9_.2.2.1==(0:Int));let e5_:=(e9_.2.1==(0:Int));let e6_:=e9_;let e7_:=e10_;bif(p66 (a0,a1,()))then(bif((f66 (a0,a1,())).1 !=(0:Int))then(some ((0:Int),(f66 (a0,a1,()))))else bif((decide ((0:Int)<=a0))&&(decide (a0<((4:Nat):Int))))then(bif(p90 (e7_,a1,()))then(bif e2_ then(bif(e1_&&e4_)then(bif e6_.1 then(some ((aa .i64 ((11:Int)-(9:Int))),(0:Int),()))else some ((9:Int),(0:Int),()))else bif e2_ then(bif((decide ((0:Int)<=e3_))||(!(decide (e6_.2.1=(f91 ((aa .i64 (e7_.1-e7_.2.1)),())).1))))then(bif(e1_&&((AL .u64 e6_.2.2.1 e3_)!=(0:Int)))then(some ((1:Int),(0:Int),()))else bif e2_ then(bif e1_ then(some ((0:Int),(0:Int),()))else bif(e5_&&e4_)then(bif e6_.1 then(some ((aa .i64 ((11:Int)-(6:Int))),(0:Int),()))else some ((6:Int),(0:Int),()))else bif e5_ then(bif e6_.1 then(some ((aa .i64 ((11:Int)-(7:Int))),(0:Int),()))else some ((7:Int),(0:Int),()))else bif e6_.1 then(some ((aa .i64 ((11:Int)-(8:Int))),(0:Int),()))else some ((8:Int),(0:Int),()))else none)else none)else none)else none)else none)else none)else none
theorem r65(x:DenS Dr):run (cf [(85,⟨B7,B8,p66,f66⟩),(87,⟨Iw,IZ,p90,f90⟩),(72,⟨Ec,Eg,p91,f91⟩)] []) 9 59 Tryz.f59 Dr Ds x=U5 p66 f66 p90 f90 p91 f91 x.1 x.2.1:=by kernel_rfl
def To(x:DenS Dr):Option (DenS Ds):=U5 Aq.pre Aq.F Dl.pre Dl.F Bu.pre Bu.F x.1 x.2.1
def AY:Sum:=Ak Dr Ds To (DenS.dflt Ds)
theorem HA:Sound Tryz.prog G1 59 AY:=sd (cf [(85,Aq),(87,Dl),(72,Bu)] []) 59 Tryz.f59 ⟨E9,mL,Lh,trivial⟩ trivial Dr Ds To _ (fun _=>r65 ..)
abbrev Dx:=Ae Dr
abbrev Dy:=Ad Dr Ds
variable (p65:Dx)(f65:Dy)
abbrev Ib:Aa:=[(true,.pair (.int .i64) (.pair (.int .i64) (.pair (.int .i64) (.pair (.int .i64) (.unit)))))]
abbrev IC:Aa:=[(false,.int .u64)]
def aJG(a0:Ab (.pair (.int .i64) (.pair (.int .i64) (.pair (.int .i64) (.pair (.int .i64) (.unit)))))):Option (DenS IC):=some ((0:Int),())
theorem aWz(x:DenS Ib):run (cf [] []) 9 89 Tryz.f89 Ib IC x=aJG x.1:=by kernel_rfl
def aAe(x:DenS Ib):Option (DenS IC):=aJG x.1
def Ja:Sum:=Ak Ib IC aAe (DenS.dflt IC)
theorem lT:Sound Tryz.prog G1 89 Ja:=sd (cf [] []) 89 Tryz.f89 trivial trivial Ib IC aAe _ (fun _=>aWz ..)
abbrev bU:=Ae Ib
abbrev cQ:=Ad Ib IC
variable (p116:bU)(f116:cQ)
abbrev MG:Aa:=[(true,.pair (.int .i64) (.pair (.int .i64) (.pair (.int .i64) (.pair (.int .i64) (.unit)))))]
abbrev Ot:Aa:=[(false,.int .u64)]
def aJH(a0:Ab (.pair (.int .i64) (.pair (.int .i64) (.pair (.int .i64) (.pair (.int .i64) (.unit)))))):Option (DenS Ot):=let e1_:=(aa .i64 (a0.2.1-(2:Int)));bif(decide ((0:Int)<=e1_))then(some ((Bb .u64 (1:Int) e1_),()))else none
theorem aWA(x:DenS MG):run (cf [] []) 9 90 Tryz.f90 MG Ot x=aJH x.1:=by kernel_rfl
def aAf(x:DenS MG):Option (DenS Ot):=aJH x.1
def ZK:Sum:=Ak MG Ot aAf (DenS.dflt Ot)
theorem aM8:Sound Tryz.prog G1 90 ZK:=sd (cf [] []) 90 Tryz.f90 trivial trivial MG Ot aAf _ (fun _=>aWA ..)
abbrev aCc:=Ae MG
abbrev aDG:=Ad MG Ot
variable (p117:aCc)(f117:aDG)
abbrev GV:Aa:=[(true,.pair (.int .i64) (.pair (.int .i64) (.pair (.int .i64) (.pair (.int .i64) (.unit))))),(false,.bool),(false,.int .u64),(false,.int .u64)]
abbrev G4:Aa:=[(false,.int .u64)]
def aJK(a0:Ab (.pair (.int .i64) (.pair (.int .i64) (.pair (.int .i64) (.pair (.int .i64) (.unit))))))(a1:Ab (.bool))(a2 a3:Ab (.int .u64)):Option (DenS G4):=let e3_:=(aa .i64 (a0.2.1-(1:Int)));let e1_:=(Ap .u64 (Bb .u64 a2 e3_) a3);let e2_:=(aa .i64 (a0.1-(1:Int)));bif(decide ((0:Int)<=e3_))then(bif a1 then(bif(decide ((0:Int)<=e2_))then(some ((Ap .u64 e1_ (Bb .u64 (1:Int) e2_)),()))else none)else some (e1_,()))else none
theorem aWN(x:DenS GV):run (cf [] []) 9 73 Tryz.f73 GV G4 x=aJK x.1 x.2.1 x.2.2.1 x.2.2.2.1:=by kernel_rfl
def aAj(x:DenS GV):Option (DenS G4):=aJK x.1 x.2.1 x.2.2.1 x.2.2.2.1
def FD:Sum:=Ak GV G4 aAj (DenS.dflt G4)
theorem ZM:Sound Tryz.prog G1 73 FD:=sd (cf [] []) 73 Tryz.f73 trivial trivial GV G4 aAj _ (fun _=>aWN ..)
abbrev Tv:=Ae GV
abbrev TD:=Ad GV G4
variable (p140:Tv)(f140:TD)
abbrev Da:Aa:=[(false,.int .i64)]
abbrev Db:Aa:=[(false,.int .u64),(false,.int .i64)]
def t70(p116:bU)(f116:cQ)(p117:aCc)(f117:aDG)(p69:Bq)(f69:Br)(p91:Gz)(f91:GD)(p140:Tv)(f140:TD)(a0:Ab (.int .i64)):Option (DenS Db):=let e2_:=((aa .i64 ((f69 (a0,())).1.1-(f69 (a0,())).1.2.1)),());let e1_:=((f69 (a0,())).1,false,(aa .u64 ((f91 e2_).1-(f116 ((f69 (a0,())).1,())).1)),(f117 ((f69 (a0,())).1,())));bif(p69 (a0,()))then(bif((f69 (a0,())).2.1 !=(0:Int))then(some ((0:Int),(f69 (a0,())).2))else bif(p91 e2_)then(bif(p116 ((f69 (a0,())).1,()))then(bif(p117 ((f69 (a0,())).1,()))then(bif(p140 e1_)then(some ((f140 e1_).1,(0:Int),()))else none)else none)else none)else none)else none
theorem r70(x:DenS Da):run (cf [(89,⟨Ib,IC,p116,f116⟩),(90,⟨MG,Ot,p117,f117⟩),(71,⟨BJ,BK,p69,f69⟩),(72,⟨Ec,Eg,p91,f91⟩),(73,⟨GV,G4,p140,f140⟩)] []) 9 61 Tryz.f61 Da Db x=t70 p116 f116 p117 f117 p69 f69 p91 f91 p140 f140 x.1:=by kernel_rfl
def Tq(x:DenS Da):Option (DenS Db):=t70 Ja.pre Ja.F ZK.pre ZK.F An.pre An.F Bu.pre Bu.F FD.pre FD.F x.1
def AR:Sum:=Ak Da Db Tq (DenS.dflt Db)
theorem FK:Sound Tryz.prog G1 61 AR:=sd (cf [(89,Ja),(90,ZK),(71,An),(72,Bu),(73,FD)] []) 61 Tryz.f61 ⟨lT,aM8,Dk,Lh,ZM,trivial⟩ trivial Da Db Tq _ (fun _=>r70 ..)
abbrev De:=Ae Da
abbrev Df:=Ad Da Db
variable (p70:De)(f70:Df)
abbrev EQ:Aa:=[(false,.int .i64),(false,.int .u64)]
abbrev E2:Aa:=[(false,.bool),(false,.int .u64),(false,.int .u64),(false,.int .i64)]
def kI(p66:BL)(f66:BM)(p90:Xb)(f90:Xk)(a0:Ab (.int .i64))(a1:Ab (.int .u64)):Option (DenS E2):=let e2_:=((Vx.k_rows.getD (ai a0) ((0:Int),(0:Int),(0:Int),(0:Int),())),a1,());let e1_:=(f90 e2_);bif(p66 (a0,a1,()))then(bif((f66 (a0,a1,())).1 !=(0:Int))then(some (false,(0:Int),(0:Int),(f66 (a0,a1,()))))else bif(bif(decide ((0:Int)<=a0))then(decide (a0<((4:Nat):Int)))else false)then(bif(p90 e2_)then(some (e1_.1,e1_.2.1,e1_.2.2.1,(0:Int),()))else none)else none)else none
theorem r98(x:DenS EQ):run (cf [(85,⟨B7,B8,p66,f66⟩),(87,⟨Iw,IZ,p90,f90⟩)] []) 9 91 Tryz.f91 EQ E2 x=kI p66 f66 p90 f90 x.1 x.2.1:=by kernel_rfl
def WU(x:DenS EQ):Option (DenS E2):=kI Aq.pre Aq.F Dl.pre Dl.F x.1 x.2.1
def BT:Sum:=Ak EQ E2 WU (DenS.dflt E2)
theorem Rz:Sound Tryz.prog G1 91 BT:=sd (cf [(85,Aq),(87,Dl)] []) 91 Tryz.f91 ⟨E9,mL,trivial⟩ trivial EQ E2 WU _ (fun _=>r98 ..)
abbrev Jt:=Ae EQ
abbrev Jw:=Ad EQ E2
variable (p98:Jt)(f98:Jw)
abbrev Oj:Aa:=[(false,.int .i64),(true,.pair (.int .i64) (.pair (.int .i64) (.pair (.int .i64) (.pair (.int .i64) (.unit))))),(false,.int .u64)]
abbrev P1:Aa:=[(true,.pair (.bool) (.pair (.int .u64) (.pair (.int .i64) (.unit))))]
def kE(p98:Jt)(f98:Jw)(a0:Ab (.int .i64))(a1:Ab (.pair (.int .i64) (.pair (.int .i64) (.pair (.int .i64) (.pair (.int .i64) (.unit))))))(a2:Ab (.int .u64)):Option (DenS P1):=let e1_:=(aa .i64 ((aa .i64 (a1.2.2.1-a1.2.1))+(1:Int)));let e2_:=(aa .i64 (a1.2.1-(1:Int)));bif(p98 (a0,a2,()))then(bif(decide ((f98 (a0,a2,())).2.1>(0:Int)))then(bif(decide ((0:Int)<=e2_))then(some (((f98 (a0,a2,())).1,(Ap .u64 (f98 (a0,a2,())).2.2.1 (Bb .u64 (1:Int) e2_)),(aa .i64 (e1_+(aa .i64 ((aa .i64 (f98 (a0,a2,())).2.1)-(1:Int))))),()),()))else none)else some (((f98 (a0,a2,())).1,(f98 (a0,a2,())).2.2.1,e1_,()),()))else none
theorem r72(x:DenS Oj):run (cf [(91,⟨EQ,E2,p98,f98⟩)] []) 9 194 Tryz.f194 Oj P1 x=kE p98 f98 x.1 x.2.1 x.2.2.1:=by kernel_rfl
def WP(x:DenS Oj):Option (DenS P1):=kE BT.pre BT.F x.1 x.2.1 x.2.2.1
def QF:Sum:=Ak Oj P1 WP (DenS.dflt P1)
theorem aOw:Sound Tryz.prog G1 194 QF:=sd (cf [(91,BT)] []) 194 Tryz.f194 ⟨Rz,trivial⟩ trivial Oj P1 WP _ (fun _=>r72 ..)
abbrev oF:=Ae Oj
abbrev pU:=Ad Oj P1
variable (p72:oF)(f72:pU)
abbrev GU:Aa:=[(true,.pair (.int .u64) (.pair (.int .u64) (.unit))),(false,.int .i64)]
abbrev ID:Aa:=[(true,.pair (.int .u64) (.pair (.int .u64) (.unit)))]
def iA(a0:Ab (.pair (.int .u64) (.pair (.int .u64) (.unit))))(a1:Ab (.int .i64)):Option (DenS ID):=let e1_:=(aa .i64 (a1-(64:Int)));let e2_:=(aa .i64 ((64:Int)-a1));bif(decide (a1<=(0:Int)))then(some ((a0.1,a0.2),()))else bif(decide (a1>=(128:Int)))then(some (((0:Int),(0:Int),()),()))else bif(decide (a1>=(64:Int)))then(bif(decide ((0:Int)<=e1_))then(some (((Bb .u64 a0.2.1 e1_),(0:Int),()),()))else none)else bif(decide ((0:Int)<=a1))then(bif(decide ((0:Int)<=e2_))then(bif(decide ((0:Int)<=a1))then(some (((Ap .u64 (Bb .u64 a0.1 a1) (AL .u64 a0.2.1 e2_)),(Bb .u64 a0.2.1 a1),()),()))else none)else none)else none
theorem aWF(x:DenS GU):run (cf [] []) 9 208 Tryz.f208 GU ID x=iA x.1 x.2.1:=by kernel_rfl
def RC(x:DenS GU):Option (DenS ID):=iA x.1 x.2.1
def AH:Sum:=Ak GU ID RC (DenS.dflt ID)
theorem yF:Sound Tryz.prog G1 208 AH:=sd (cf [] []) 208 Tryz.f208 trivial trivial GU ID RC _ (fun _=>aWF ..)
abbrev W6:=Ae GU
abbrev Xf:=Ad GU ID
variable (p119:W6)(f119:Xf)
abbrev Ic:Aa:=[(true,.pair (.int .u64) (.pair (.int .u64) (.unit))),(false,.int .i64)]
abbrev Kl:Aa:=[(true,.pair (.int .u64) (.pair (.int .u64) (.unit)))]
def iB(a0:Ab (.pair (.int .u64) (.pair (.int .u64) (.unit))))(a1:Ab (.int .i64)):Option (DenS Kl):=let e1_:=(aa .i64 (a1-(64:Int)));let e2_:=(aa .i64 ((64:Int)-a1));bif(decide (a1<=(0:Int)))then(some ((a0.1,a0.2),()))else bif(decide (a1>=(128:Int)))then(some (((0:Int),(0:Int),()),()))else bif(decide (a1>=(64:Int)))then(bif(decide ((0:Int)<=e1_))then(some (((0:Int),(AL .u64 a0.1 e1_),()),()))else none)else bif(decide ((0:Int)<=a1))then(bif(decide ((0:Int)<=a1))then(bif(decide ((0:Int)<=e2_))then(some (((AL .u64 a0.1 a1),(Ap .u64 (AL .u64 a0.2.1 a1) (Bb .u64 a0.1 e2_)),()),()))else none)else none)else none
theorem aWG(x:DenS Ic):run (cf [] []) 9 234 Tryz.f234 Ic Kl x=iB x.1 x.2.1:=by kernel_rfl
def S6(x:DenS Ic):Option (DenS Kl):=iB x.1 x.2.1
def AJ:Sum:=Ak Ic Kl S6 (DenS.dflt Kl)
theorem aM9:Sound Tryz.prog G1 234 AJ:=sd (cf [] []) 234 Tryz.f234 trivial trivial Ic Kl S6 _ (fun _=>aWG ..)
abbrev m8:=Ae Ic
abbrev oK:=Ad Ic Kl
variable (p120:m8)(f120:oK)
abbrev ED:Aa:=SD
abbrev EZ:Aa:=U0
def Au:Sum:=aE5
theorem SZ:Sound Tryz.prog G1 94 Au:=aRz Tryz.func94 (by kernel_rfl) (by kernel_rfl) (by kernel_rfl) (by kernel_rfl)
abbrev CW:=Ae ED
abbrev CX:=Ad ED EZ
variable (p155:CW)(f155:CX)
abbrev Ie:Aa:=[(true,.pair (.int .u64) (.pair (.int .u64) (.unit))),(true,.pair (.int .u64) (.pair (.int .u64) (.unit)))]
abbrev Km:Aa:=[(true,.pair (.int .u64) (.pair (.int .u64) (.unit))),(false,.int .u64)]
def iC(p155:CW)(f155:CX)(a0 a1:Ab (.pair (.int .u64) (.pair (.int .u64) (.unit)))):Option (DenS Km):=let e2_:=(a0.1,a1.1,(f155 (a0.2.1,a1.2.1,(0:Int),())).2);let e1_:=(f155 e2_);bif(p155 (a0.2.1,a1.2.1,(0:Int),()))then(bif(p155 e2_)then(some ((e1_.1,(f155 (a0.2.1,a1.2.1,(0:Int),())).1,()),e1_.2))else none)else none
theorem aWH(x:DenS Ie):run (cf [(94,⟨ED,EZ,p155,f155⟩)] []) 9 235 Tryz.f235 Ie Km x=iC p155 f155 x.1 x.2.1:=by kernel_rfl
def VS(x:DenS Ie):Option (DenS Km):=iC Au.pre Au.F x.1 x.2.1
def Lc:Sum:=Ak Ie Km VS (DenS.dflt Km)
theorem aNa:Sound Tryz.prog G1 235 Lc:=sd (cf [(94,Au)] []) 235 Tryz.f235 ⟨SZ,trivial⟩ trivial Ie Km VS _ (fun _=>aWH ..)
abbrev m9:=Ae Ie
abbrev oL:=Ad Ie Km
variable (p121:m9)(f121:oL)
abbrev F5:Aa:=[(true,.pair (.int .u64) (.pair (.int .u64) (.unit))),(true,.pair (.int .u64) (.pair (.int .u64) (.unit)))]
abbrev G3:Aa:=[(false,.int .i64)]
def iE(a0 a1:Ab (.pair (.int .u64) (.pair (.int .u64) (.unit)))):Option (DenS G3):=bif((a0.1==a1.1)&&(a0.2.1==a1.2.1))then(some ((0:Int),()))else bif((decide (a0.1<a1.1))||((a0.1==a1.1)&&(decide (a0.2.1<a1.2.1))))then(some ((-(1:Int)),()))else some ((1:Int),())
theorem aWJ(x:DenS F5):run (cf [] []) 9 236 Tryz.f236 F5 G3 x=iE x.1 x.2.1:=by kernel_rfl
def VW(x:DenS F5):Option (DenS G3):=iE x.1 x.2.1
def DX:Sum:=Ak F5 G3 VW (DenS.dflt G3)
theorem yG:Sound Tryz.prog G1 236 DX:=sd (cf [] []) 236 Tryz.f236 trivial trivial F5 G3 VW _ (fun _=>aWJ ..)
abbrev RK:=Ae F5
abbrev RS:=Ad F5 G3
variable (p123:RK)(f123:RS)
abbrev J3:Aa:=SD
abbrev OD:Aa:=U0
def A3:Sum:=aJu
theorem ZQ:Sound Tryz.prog G1 148 A3:=bAG Tryz.func148 (by kernel_rfl) (by kernel_rfl) (by kernel_rfl) (by kernel_rfl)
abbrev Gy:=Ae J3
abbrev GC:=Ad J3 OD
variable (p157:Gy)(f157:GC)
abbrev If:Aa:=[(true,.pair (.int .u64) (.pair (.int .u64) (.unit))),(true,.pair (.int .u64) (.pair (.int .u64) (.unit)))]
abbrev Kn:Aa:=[(true,.pair (.int .u64) (.pair (.int .u64) (.unit))),(false,.int .u64)]
def iF(p157:Gy)(f157:GC)(a0 a1:Ab (.pair (.int .u64) (.pair (.int .u64) (.unit)))):Option (DenS Kn):=let e2_:=(a0.1,a1.1,(f157 (a0.2.1,a1.2.1,(0:Int),())).2);let e1_:=(f157 e2_);bif(p157 (a0.2.1,a1.2.1,(0:Int),()))then(bif(p157 e2_)then(some ((e1_.1,(f157 (a0.2.1,a1.2.1,(0:Int),())).1,()),e1_.2))else none)else none
theorem aWK(x:DenS If):run (cf [(148,⟨J3,OD,p157,f157⟩)] []) 9 237 Tryz.f237 If Kn x=iF p157 f157 x.1 x.2.1:=by kernel_rfl
def VX(x:DenS If):Option (DenS Kn):=iF A3.pre A3.F x.1 x.2.1
def BB:Sum:=Ak If Kn VX (DenS.dflt Kn)
theorem aNb:Sound Tryz.prog G1 237 BB:=sd (cf [(148,A3)] []) 237 Tryz.f237 ⟨ZQ,trivial⟩ trivial If Kn VX _ (fun _=>aWK ..)
abbrev nA:=Ae If
abbrev oM:=Ad If Kn
variable (p124:nA)(f124:oM)
abbrev MP:Aa:=[(true,.pair (.int .i64) (.pair (.int .i64) (.pair (.int .i64) (.pair (.int .i64) (.unit)))))]
abbrev OC:Aa:=[(false,.int .u64)]
def aJM(p91:Gz)(f91:GD)(a0:Ab (.pair (.int .i64) (.pair (.int .i64) (.pair (.int .i64) (.pair (.int .i64) (.unit)))))):Option (DenS OC):=let e1_:=((aa .i64 (a0.1-a0.2.1)),());bif(p91 e1_)then(some (f91 e1_))else none
theorem aW0(x:DenS MP):run (cf [(72,⟨Ec,Eg,p91,f91⟩)] []) 9 92 Tryz.f92 MP OC x=aJM p91 f91 x.1:=by kernel_rfl
def aAn(x:DenS MP):Option (DenS OC):=aJM Bu.pre Bu.F x.1
def ZP:Sum:=Ak MP OC aAn (DenS.dflt OC)
theorem aNj:Sound Tryz.prog G1 92 ZP:=sd (cf [(72,Bu)] []) 92 Tryz.f92 ⟨Lh,trivial⟩ trivial MP OC aAn _ (fun _=>aW0 ..)
abbrev aCo:=Ae MP
abbrev aDS:=Ad MP OC
variable (p154:aCo)(f154:aDS)
abbrev EB:Aa:=[(false,.int .i64),(false,.bool)]
abbrev EX:Aa:=[(false,.int .u64),(false,.int .i64)]
def aJI(p154:aCo)(f154:aDS)(p116:bU)(f116:cQ)(p69:Bq)(f69:Br)(p91:Gz)(f91:GD)(p140:Tv)(f140:TD)(a0:Ab (.int .i64))(a1:Ab (.bool)):Option (DenS EX):=let e2_:=((aa .i64 ((f69 (a0,())).1.1-(f69 (a0,())).1.2.1)),());let e1_:=((f69 (a0,())).1,a1,(aa .u64 ((f91 e2_).1-(f154 ((f69 (a0,())).1,())).1)),(f116 ((f69 (a0,())).1,())));bif(p69 (a0,()))then(bif((f69 (a0,())).2.1 !=(0:Int))then(some ((0:Int),(f69 (a0,())).2))else bif(p91 e2_)then(bif(p154 ((f69 (a0,())).1,()))then(bif(p116 ((f69 (a0,())).1,()))then(bif(p140 e1_)then(some ((f140 e1_).1,(0:Int),()))else none)else none)else none)else none)else none
theorem aWE(x:DenS EB):run (cf [(92,⟨MP,OC,p154,f154⟩),(89,⟨Ib,IC,p116,f116⟩),(71,⟨BJ,BK,p69,f69⟩),(72,⟨Ec,Eg,p91,f91⟩),(73,⟨GV,G4,p140,f140⟩)] []) 9 64 Tryz.f64 EB EX x=aJI p154 f154 p116 f116 p69 f69 p91 f91 p140 f140 x.1 x.2.1:=by kernel_rfl
def VQ(x:DenS EB):Option (DenS EX):=aJI ZP.pre ZP.F Ja.pre Ja.F An.pre An.F Bu.pre Bu.F FD.pre FD.F x.1 x.2.1
def Bx:Sum:=Ak EB EX VQ (DenS.dflt EX)
theorem SS:Sound Tryz.prog G1 64 Bx:=sd (cf [(92,ZP),(89,Ja),(71,An),(72,Bu),(73,FD)] []) 64 Tryz.f64 ⟨aNj,lT,Dk,Lh,ZM,trivial⟩ trivial EB EX VQ _ (fun _=>aWE ..)
abbrev HD:=Ae EB
abbrev HG:=Ad EB EX
variable (p118:HD)(f118:HG)
abbrev ML:Aa:=[(false,.int .i64)]
abbrev Oy:Aa:=[(false,.int .i64)]
def iM(a0:Ab (.int .i64)):Option (DenS Oy):=bif((decide (a0<(0:Int)))||(decide (a0>(5:Int))))then(some ((3:Int),()))else some ((0:Int),())
theorem aWU(x:DenS ML):run (cf [] []) 9 139 Tryz.f139 ML Oy x=iM x.1:=by kernel_rfl
def V2(x:DenS ML):Option (DenS Oy):=iM x.1
def P8:Sum:=Ak ML Oy V2 (DenS.dflt Oy)
theorem aNe:Sound Tryz.prog G1 139 P8:=sd (cf [] []) 139 Tryz.f139 trivial trivial ML Oy V2 _ (fun _=>aWU ..)
abbrev aCk:=Ae ML
abbrev aDO:=Ad ML Oy
variable (p147:aCk)(f147:aDO)
abbrev H7:Aa:=[(false,.int .i64),(false,.int .i64)]
abbrev Iy:Aa:=[(true,.pair (.int .i64) (.pair (.int .i64) (.pair (.int .i64) (.pair (.int .i64) (.unit))))),(false,.int .i64)]
def gX(p69:Bq)(f69:Br)(p147:aCk)(f147:aDO)(a0 a1:Ab (.int .i64)):Option (DenS Iy):=bif(p69 (a0,()))then(bif((f69 (a0,())).2.1 !=(0:Int))then(some (f69 (a0,())))else bif(p147 (a1,()))then(some ((f69 (a0,())).1,(f147 (a1,()))))else none)else none
theorem aWt(x:DenS H7):run (cf [(71,⟨BJ,BK,p69,f69⟩),(139,⟨ML,Oy,p147,f147⟩)] []) 9 121 Tryz.f121 H7 Iy x=gX p69 f69 p147 f147 x.1 x.2.1:=by kernel_rfl
def VJ(x:DenS H7):Option (DenS Iy):=gX An.pre An.F P8.pre P8.F x.1 x.2.1
def E4:Sum:=Ak H7 Iy VJ (DenS.dflt Iy)
theorem lP:Sound Tryz.prog G1 121 E4:=sd (cf [(71,An),(139,P8)] []) 121 Tryz.f121 ⟨Dk,aNe,trivial⟩ trivial H7 Iy VJ _ (fun _=>aWt ..)
abbrev Tt:=Ae H7
abbrev TB:=Ad H7 Iy
variable (p105:Tt)(f105:TB)
abbrev Bo:Aa:=[(false,.slice (.int .u64))]
abbrev Bp:Aa:=[(false,.slice (.int .u64))]
abbrev Hg:Pat:=⟨21,[(0,.one (.sl (.int .u64))),(3,.one (.v .i64))],[]⟩
abbrev Zb:List (Nat×Shape):=[]
abbrev Ls:List (Nat×Pat):=[(0,⟨21,[(0,.one (.sl (.int .u64))),(3,.one (.v .i64))],[]⟩)]
abbrev KU:Option Pat:=none
variable (w173_2:Pat.D Hg->Option (Ah Ls KU))
def Ug{R:Type}(L:Pat.D Hg->Option R)(e:Ah Ls KU->Option R)(x:Pat.D Hg):Option R:=let e1_:=(aa .i64 (x.1.2.1-(1:Int)));bif(((decide ((0:Int)<=e1_))&&(decide (e1_<(x.1.1.length:Int))))||(!(decide (x.1.2.1>(0:Int)))))then(bif((decide (x.1.2.1>(0:Int)))&&((x.1.1.getD (ai e1_) (0:Int))==(0:Int)))then(((L ((x.1.1,e1_,()),()))))else(e (.inl (x.1,()))))else none
theorem aZS(d:Nat)(R:Type)(L:Pat.D Hg->Option R)(e:Ah Ls KU->Option R)(x:Pat.D Hg):
  Bv (cf [] [(93,2,LoopSpec.of Hg Zb Ls KU w173_2)]) (d+2) 93 (Bs Tryz.f93 2) Hg Zb Ls KU (R:=R) L e x=Ug L e x:=by kernel_rfl
theorem aHB:Bm fun L e x=>Ug L e x:=by intro _ _ _ _ _ _ _ h0 hL he _;unfold Ug;repeat' (first|exact h0|exact hL _|exact he _|apply BG|(apply BH h0;intro _)|(apply BI<;>intro _))
def iU(w173_2:Pat.D Hg->Option (Ah Ls KU))(a0:Ab (.slice (.int .u64))):Option (DenS Bp):=
 Vx.Ba (w173_2 ((a0,(a0.length:Int),()),())) fun y0=>
 Vx.A7 y0 (fun y1=>
 bif((decide ((0:Int)<=y1.1.2.1))&&(decide (y1.1.2.1<=(y1.1.1.length:Int))))then(some (((y1.1.1.take (ai y1.1.2.1)).drop (ai (0:Int))),()))
 else none) (fun z1=>
 none)
theorem aW4(x:DenS Bo):run (cf [] [(93,2,LoopSpec.of Hg Zb Ls KU w173_2)]) 9 93 Tryz.f93 Bo Bp x=iU w173_2 x.1:=by kernel_rfl
def bF:Hg.D->Option (Ah Ls KU):=Bg fun L=>Ug L some
def RF(x:DenS Bo):Option (DenS Bp):=iU bF x.1
def Ai:Sum:=Ak Bo Bp RF (DenS.dflt Bp)
theorem DO:Sound Tryz.prog G1 93 Ai:=sd (cf [] [(93,2,LoopSpec.of Hg Zb Ls KU bF)]) 93 Tryz.f93 trivial ⟨rfl,fun d=>BE (fun L e x=>Ug L e x) (aHB) (fun _ _ _ _=>aZS ..),trivial⟩ Bo Bp RF _ (fun _=>aW4 ..)
abbrev AZ:=Ae Bo
abbrev A1:=Ad Bo Bp
variable (p173:AZ)(f173:A1)
abbrev GX:Aa:=[(false,.slice (.int .u64))]
abbrev G5:Aa:=[(false,.slice (.int .u64))]
def iL(p173:AZ)(f173:A1)(a0:Ab (.slice (.int .u64))):Option (DenS G5):=let e1_:=(au (ai ((f173 (a0,())).1.length:Int)) (0:Int));bif(p173 (a0,()))then(bif((decide ((0:Int)<=((f173 (a0,())).1.length:Int)))&&(decide ((((f173 (a0,())).1.length:Int)*(8:Int))<=(140737488355328:Int))))then(some ((((f173 (a0,())).1.take e1_.length)++(e1_.drop (f173 (a0,())).1.length)),()))else none)else none
theorem aWT(x:DenS GX):run (cf [(93,⟨Bo,Bp,p173,f173⟩)] []) 9 116 Tryz.f116 GX G5 x=iL p173 f173 x.1:=by kernel_rfl
def V1(x:DenS GX):Option (DenS G5):=iL Ai.pre Ai.F x.1
def CA:Sum:=Ak GX G5 V1 (DenS.dflt G5)
theorem lV:Sound Tryz.prog G1 116 CA:=sd (cf [(93,Ai)] []) 116 Tryz.f116 ⟨DO,trivial⟩ trivial GX G5 V1 _ (fun _=>aWT ..)
abbrev RM:=Ae GX
abbrev RU:=Ad GX G5
variable (p146:RM)(f146:RU)
abbrev EP:Aa:=[(false,.slice (.int .u64))]
abbrev EW:Aa:=[(false,.slice (.int .u64))]
def gW(p146:RM)(f146:RU)(a0:Ab (.slice (.int .u64))):Option (DenS EW):=bif(p146 (a0,()))then(some (f146 (a0,())))else none
theorem aWq(x:DenS EP):run (cf [(116,⟨GX,G5,p146,f146⟩)] []) 9 122 Tryz.f122 EP EW x=gW p146 f146 x.1:=by kernel_rfl
def S5(x:DenS EP):Option (DenS EW):=gW CA.pre CA.F x.1
def BR:Sum:=Ak EP EW S5 (DenS.dflt EW)
theorem Vm:Sound Tryz.prog G1 122 BR:=sd (cf [(116,CA)] []) 122 Tryz.f122 ⟨lV,trivial⟩ trivial EP EW S5 _ (fun _=>aWq ..)
abbrev Gw:=Ae EP
abbrev GA:=Ad EP EW
variable (p102:Gw)(f102:GA)
abbrev Fr:Aa:=[(false,.int .u64)]
abbrev E0:Aa:=[(false,.int .i64)]
def iY(a0:Ab (.int .u64)):Option (DenS E0):=let e10_:=(AL .u64 (AL .u64 a0 (32:Int)) (16:Int));let e1_:=(aa .u8 (AL .u64 e10_ (8:Int)));let e2_:=(aa .u8 e10_);let e3_:=(aa .u8 (AL .u64 (AL .u64 a0 (32:Int)) (8:Int)));let e4_:=(aa .u8 (AL .u64 (AL .u64 a0 (16:Int)) (8:Int)));let e5_:=(aa .u8 (AL .u64 a0 (32:Int)));let e6_:=(aa .u8 (AL .u64 a0 (16:Int)));let e7_:=(aa .u8 (AL .u64 a0 (8:Int)));let e8_:=(aa .i64 ((32:Int)+(16:Int)));let e9_:=(aa .i64 ((0:Int)+(16:Int)));bif(decide (a0>=(4294967296:Int)))then(bif(decide ((AL .u64 a0 (32:Int))>=(65536:Int)))then(bif(decide (e10_>=(256:Int)))then(bif((decide ((0:Int)<=e1_))&&(decide (e1_<(256:Int))))then(some ((aa .i64 ((aa .i64 (e8_+(8:Int)))+(aa .i64 ((UInt8.toNat (Vx.HT.getD (ai e1_) (0:UInt8))):Int)))),()))else none)else bif((decide ((0:Int)<=e2_))&&(decide (e2_<(256:Int))))then(some ((aa .i64 (e8_+(aa .i64 ((UInt8.toNat (Vx.HT.getD (ai e2_) (0:UInt8))):Int)))),()))else none)else bif(decide ((AL .u64 a0 (32:Int))>=(256:Int)))then(bif((decide ((0:Int)<=e3_))&&(decide (e3_<(256:Int))))then(some ((aa .i64 ((aa .i64 ((32:Int)+(8:Int)))+(aa .i64 ((UInt8.toNat (Vx.HT.getD (ai e3_) (0:UInt8))):Int)))),()))else none)else bif((decide ((0:Int)<=e5_))&&(decide (e5_<(256:Int))))then(some ((aa .i64 ((32:Int)+(aa .i64 ((UInt8.toNat (Vx.HT.getD (ai e5_) (0:UInt8))):Int)))),()))else none)else bif(decide (a0>=(65536:Int)))then(bif(decide ((AL .u64 a0 (16:Int))>=(256:Int)))then(bif((decide ((0:Int)<=e4_))&&(decide (e4_<(256:Int))))then(some ((aa .i64 ((aa .i64 (e9_+(8:Int)))+(aa .i64 ((UInt8.toNat (Vx.HT.getD (ai e4_) (0:UInt8))):Int)))),()))else none)else bif((decide ((0:Int)<=e6_))&&(decide (e6_<(256:Int))))then(some ((aa .i64 (e9_+(aa .i64 ((UInt8.toNat (Vx.HT.getD (ai e6_) (0:UInt8))):Int)))),()))else none)else bif(decide (a0>=(256:Int)))then(bif((decide ((0:Int)<=e7_))&&(decide (e7_<(256:Int))))then(some ((aa .i64 ((aa .i64 ((0:Int)+(8:Int)))+(aa .i64 ((UInt8.toNat (Vx.HT.getD (ai e7_) (0:UInt8))):Int)))),()))else none)else bif((decide ((0:Int)<=(aa .u8 a0)))&&(decide ((aa .u8 a0)<(256:Int))))then(some ((aa .i64 ((0:Int)+(aa .i64 ((UInt8.toNat (Vx.HT.getD (ai (aa .u8 a0)) (0:UInt8))):Int)))),()))else none
theorem aW9(x:DenS Fr):run (cf [] []) 9 115 Tryz.f115 Fr E0 x=iY x.1:=by kernel_rfl
def V7(x:DenS Fr):Option (DenS E0):=iY x.1
def Cd:Sum:=Ak Fr E0 V7 (DenS.dflt E0)
theorem Vo:Sound Tryz.prog G1 115 Cd:=sd (cf [] []) 115 Tryz.f115 trivial trivial Fr E0 V7 _ (fun _=>aW9 ..)
abbrev HF:=Ae Fr
abbrev HI:=Ad Fr E0
variable (p178:HF)(f178:HI)
abbrev Fq:Aa:=[(false,.slice (.int .u64))]
abbrev Fv:Aa:=[(false,.int .i64)]
def iQ(p173:AZ)(f173:A1)(p178:HF)(f178:HI)(a0:Ab (.slice (.int .u64))):Option (DenS Fv):=let e3_:=(aa .i64 (((f173 (a0,())).1.length:Int)-(1:Int)));let e1_:=(((f173 (a0,())).1.getD (ai e3_) (0:Int)),());let e2_:=e3_;bif(p173 (a0,()))then(bif(((f173 (a0,())).1.length:Int)==(0:Int))then(some ((0:Int),()))else bif((decide ((0:Int)<=e2_))&&(decide (e2_<((f173 (a0,())).1.length:Int))))then(bif(p178 e1_)then(some ((aa .i64 ((aa .i64 ((64:Int)*e2_))+(f178 e1_).1)),()))else none)else none)else none
theorem aWY(x:DenS Fq):run (cf [(93,⟨Bo,Bp,p173,f173⟩),(115,⟨Fr,E0,p178,f178⟩)] []) 9 98 Tryz.f98 Fq Fv x=iQ p173 f173 p178 f178 x.1:=by kernel_rfl
def S8(x:DenS Fq):Option (DenS Fv):=iQ Ai.pre Ai.F Cd.pre Cd.F x.1
def BS:Sum:=Ak Fq Fv S8 (DenS.dflt Fv)
theorem Vn:Sound Tryz.prog G1 98 BS:=sd (cf [(93,Ai),(115,Cd)] []) 98 Tryz.f98 ⟨DO,Vo,trivial⟩ trivial Fq Fv S8 _ (fun _=>aWY ..)
abbrev Jr:=Ae Fq
abbrev Ju:=Ad Fq Fv
variable (p151:Jr)(f151:Ju)
abbrev J2:Aa:=[(false,.int .i64),(false,.bool)]
abbrev Kq:Aa:=[(false,.int .u64),(false,.int .i64),(false,.int .i64)]
def iS(p118:HD)(f118:HG)(a0:Ab (.int .i64))(a1:Ab (.bool)):Option (DenS Kq):=bif(p118 (a0,a1,()))then(some ((f118 (a0,a1,())).1,(0:Int),(f118 (a0,a1,())).2))else none
theorem aW1(x:DenS J2):run (cf [(64,⟨EB,EX,p118,f118⟩)] []) 9 123 Tryz.f123 J2 Kq x=iS p118 f118 x.1 x.2.1:=by kernel_rfl
def V6(x:DenS J2):Option (DenS Kq):=iS Bx.pre Bx.F x.1 x.2.1
def Hz:Sum:=Ak J2 Kq V6 (DenS.dflt Kq)
theorem yK:Sound Tryz.prog G1 123 Hz:=sd (cf [(64,Bx)] []) 123 Tryz.f123 ⟨SS,trivial⟩ trivial J2 Kq V6 _ (fun _=>aW1 ..)
abbrev bW:=Ae J2
abbrev cS:=Ad J2 Kq
variable (p156:bW)(f156:cS)
abbrev MM:Aa:=[(true,.pair (.bool) (.pair (.slice (.int .u64)) (.pair (.int .i64) (.pair (.bool) (.unit)))))]
abbrev Oz:Aa:=[(false,.int .i64)]
def iN(p151:Jr)(f151:Ju)(a0:Ab (.pair (.bool) (.pair (.slice (.int .u64)) (.pair (.int .i64) (.pair (.bool) (.unit)))))):Option (DenS Oz):=bif(p151 (a0.2.1,()))then(some ((aa .i64 ((aa .i64 (a0.2.2.1+(f151 (a0.2.1,())).1))-(1:Int))),()))else none
theorem aWV(x:DenS MM):run (cf [(98,⟨Fq,Fv,p151,f151⟩)] []) 9 140 Tryz.f140 MM Oz x=iN p151 f151 x.1:=by kernel_rfl
def V3(x:DenS MM):Option (DenS Oz):=iN BS.pre BS.F x.1
def SW:Sum:=Ak MM Oz V3 (DenS.dflt Oz)
theorem aNf:Sound Tryz.prog G1 140 SW:=sd (cf [(98,BS)] []) 140 Tryz.f140 ⟨Vn,trivial⟩ trivial MM Oz V3 _ (fun _=>aWV ..)
abbrev aCl:=Ae MM
abbrev aDP:=Ad MM Oz
variable (p148:aCl)(f148:aDP)
abbrev GT:Aa:=[(true,.slice (.int .u64))]
abbrev G2:Aa:=[(true,.slice (.int .u64))]
abbrev Ha:Pat:=⟨21,[(0,.one (.own 0)),(3,.one (.v .i64))],[.arr (.int .u64)]⟩
abbrev Y4:List (Nat×Shape):=[]
abbrev Ll:List (Nat×Pat):=[(0,⟨21,[(0,.one (.own 0)),(3,.one (.v .i64))],[.arr (.int .u64)]⟩)]
abbrev KN:Option Pat:=none
variable (w1173_2:Pat.D Ha->Option (Ah Ll KN))
def Ua{R:Type}(L:Pat.D Ha->Option R)(e:Ah Ll KN->Option R)(x:Pat.D Ha):Option R:=let e1_:=(aa .i64 (x.1.2.1-(1:Int)));bif(((decide ((0:Int)<=e1_))&&(decide (e1_<(x.2.1.length:Int))))||(!(decide (x.1.2.1>(0:Int)))))then(bif((decide (x.1.2.1>(0:Int)))&&((x.2.1.getD (ai e1_) (0:Int))==(0:Int)))then(((L (((),e1_,()),x.2))))else(e (.inl (((),x.1.2),x.2))))else none
theorem aZL(d:Nat)(R:Type)(L:Pat.D Ha->Option R)(e:Ah Ll KN->Option R)(x:Pat.D Ha):
  Bv ({cf [] [(93,2,LoopSpec.of Ha Y4 Ll KN w1173_2)]with keep:=true}) (d+2) 93 (Bs Tryz.f93 2) Ha Y4 Ll KN (R:=R) L e x=Ua L e x:=by kernel_rfl
theorem aHv:Bm fun L e x=>Ua L e x:=by intro _ _ _ _ _ _ _ h0 hL he _;unfold Ua;repeat' (first|exact h0|exact hL _|exact he _|apply BG|(apply BH h0;intro _)|(apply BI<;>intro _))
def hZ(w1173_2:Pat.D Ha->Option (Ah Ll KN))(a0:Ab (.slice (.int .u64))):Option (DenS G2):=
 Vx.Ba (w1173_2 (((),(a0.length:Int),()),a0,())) fun y0=>
 Vx.A7 y0 (fun y1=>
 bif((decide ((0:Int)<=y1.1.2.1))&&(decide (y1.1.2.1<=(y1.2.1.length:Int))))then(some ((y1.2.1.take (ai y1.1.2.1)),()))
 else none) (fun z1=>
 none)
theorem aWC(x:DenS GT):run ({cf [] [(93,2,LoopSpec.of Ha Y4 Ll KN w1173_2)]with keep:=true}) 9 93 Tryz.f93 GT G2 x=hZ w1173_2 x.1:=by kernel_rfl
def bC:Ha.D->Option (Ah Ll KN):=Bg fun L=>Ua L some
def VO(x:DenS GT):Option (DenS G2):=hZ bC x.1
def BO:Sum:=Ak GT G2 VO (DenS.dflt G2)
theorem yE:Sound Tryz.prog G1 93 BO:=sd ({cf [] [(93,2,LoopSpec.of Ha Y4 Ll KN bC)]with keep:=true}) 93 Tryz.f93 trivial ⟨rfl,fun d=>BE (fun L e x=>Ua L e x) (aHv) (fun _ _ _ _=>aZL ..),trivial⟩ GT G2 VO _ (fun _=>aWC ..)
abbrev QK:=Ae GT
abbrev QN:=Ad GT G2
variable (p1173:QK)(f1173:QN)
abbrev MH:Aa:=[(false,.slice (.int .u64)),(false,.int .i64)]
abbrev Ou:Aa:=[(true,.slice (.int .u64))]
abbrev G9:Pat:=⟨66,[(25,.one (.v .i64)),(0,.one (.sl (.int .u64))),(5,.one (.v .i64)),(6,.one (.v .i64)),(26,.one (.v .i64)),(7,.one (.own 0))],[.arr (.int .u64)]⟩
abbrev Y3:List (Nat×Shape):=[]
abbrev Lk:List (Nat×Pat):=[(0,⟨66,[(7,.one (.own 0))],[.arr (.int .u64)]⟩)]
abbrev KM:Option Pat:=none
variable (w1171_7:Pat.D G9->Option (Ah Lk KM))
def T9(p1173:QK)(f1173:QN)(p173:AZ)(f173:A1){R:Type}(L:Pat.D G9->Option R)(e:Ah Lk KM->Option R)(x:Pat.D G9):Option R:=let e10_:=(aa .i64 (x.1.2.2.1+x.1.2.2.2.2.1));let e8_:=(x.2.1.set (ai x.1.2.2.2.2.1) (AL .u64 (x.1.2.1.getD (ai e10_) (0:Int)) x.1.2.2.2.1));let e1_:=((decide ((0:Int)<=x.1.2.2.2.2.1))&&(decide (x.1.2.2.2.2.1<(e8_.length:Int))));let e2_:=e8_;let e9_:=(aa .i64 (e10_+(1:Int)));let e3_:=(decide (e9_<(x.1.2.1.length:Int)));let e4_:=(x.1.1,x.1.2.1,x.1.2.2.1,x.1.2.2.2.1,(aa .i64 (x.1.2.2.2.2.1+(1:Int))),(),());let e5_:=e9_;let e6_:=e10_;let e7_:=(aa .i64 ((64:Int)-x.1.2.2.2.1));bif(decide (x.1.2.2.2.2.1<x.1.1))then(bif((decide ((0:Int)<=e6_))&&(decide (e6_<(x.1.2.1.length:Int))))then(bif(decide ((0:Int)<=x.1.2.2.2.1))then(bif((decide ((0:Int)<=x.1.2.2.2.2.1))&&(decide (x.1.2.2.2.2.1<(x.2.1.length:Int))))then(bif e3_ then(bif e1_ then(bif((decide ((0:Int)<=e5_))&&e3_)then(bif(decide ((0:Int)<=e7_))then(bif e1_ then(((L (e4_,(e2_.set (ai x.1.2.2.2.2.1) (Ap .u64 (e2_.getD (ai x.1.2.2.2.2.1) (0:Int)) (Bb .u64 (x.1.2.1.getD (ai e5_) (0:Int)) e7_))),()))))else none)else none)else none)else none)else(L (e4_,e2_,())))else none)else none)else none)else(e (.inl (((),()),x.2)))
theorem aZK(d:Nat)(R:Type)(L:Pat.D G9->Option R)(e:Ah Lk KM->Option R)(x:Pat.D G9):
  Bv ({cf [(93,⟨GT,G2,p1173,f1173⟩),(93,⟨Bo,Bp,p173,f173⟩)] [(100,7,LoopSpec.of G9 Y3 Lk KM w1171_7)]with keep:=true}) (d+2) 100 (Bs Tryz.f100 7) G9 Y3 Lk KM (R:=R) L e x=T9 p1173 f1173 p173 f173 L e x:=by kernel_rfl
theorem aHu(p1173:QK)(f1173:QN)(p173:AZ)(f173:A1):Bm fun L e x=>T9 p1173 f1173 p173 f173 L e x:=by intro _ _ _ _ _ _ _ h0 hL he _;unfold T9;repeat' (first|exact h0|exact hL _|exact he _|apply BG|(apply BH h0;intro _)|(apply BI<;>intro _))
def g9(p1173:QK)(f1173:QN)(p173:AZ)(f173:A1)(w1171_7:Pat.D G9->Option (Ah Lk KM))(a0:Ab (.slice (.int .u64)))(a1:Ab (.int .i64)):Option (DenS Ou):=
 let e3_:=(aa .i64 (((f173 (a0,())).1.length:Int)-(BX .i64 a1 (64:Int))))
 let e1_:=(au (ai e3_) (0:Int))
 let e2_:=e3_
 bif(p173 (a0,()))then(bif(decide ((BX .i64 a1 (64:Int))>=((f173 (a0,())).1.length:Int)))then(some ([],()))
 else bif((decide ((0:Int)<=e2_))&&(decide ((e2_*(8:Int))<=(140737488355328:Int))))then(Vx.Ba (w1171_7 (((e1_.length:Int),(f173 (a0,())).1,(BX .i64 a1 (64:Int)),(le a1 (64:Int)),(0:Int),(),()),e1_,())) fun y3=>
 Vx.A7 y3 (fun y4=>
 bif(p1173 y4.2)then(some (f1173 y4.2))
 else none) (fun z4=>
 none))
 else none)
 else none
theorem aWB(x:DenS MH):run ({cf [(93,⟨GT,G2,p1173,f1173⟩),(93,⟨Bo,Bp,p173,f173⟩)] [(100,7,LoopSpec.of G9 Y3 Lk KM w1171_7)]with keep:=true}) 9 100 Tryz.f100 MH Ou x=g9 p1173 f1173 p173 f173 w1171_7 x.1 x.2.1:=by kernel_rfl
def bB:G9.D->Option (Ah Lk KM):=Bg fun L=>T9 BO.pre BO.F Ai.pre Ai.F L some
def VN(x:DenS MH):Option (DenS Ou):=g9 BO.pre BO.F Ai.pre Ai.F bB x.1 x.2.1
def P6:Sum:=Ak MH Ou VN (DenS.dflt Ou)
theorem aM6:Sound Tryz.prog G1 100 P6:=sd ({cf [(93,BO),(93,Ai)] [(100,7,LoopSpec.of G9 Y3 Lk KM bB)]with keep:=true}) 100 Tryz.f100 ⟨yE,DO,trivial⟩ ⟨rfl,fun d=>BE (fun L e x=>T9 BO.pre BO.F Ai.pre Ai.F L e x) (aHu BO.pre BO.F Ai.pre Ai.F) (fun _ _ _ _=>aZK ..),trivial⟩ MH Ou VN _ (fun _=>aWB ..)
abbrev aCd:=Ae MH
abbrev aDH:=Ad MH Ou
variable (p1171:aCd)(f1171:aDH)
abbrev GY:Aa:=[(false,.slice (.int .u64)),(false,.int .i64)]
abbrev G6:Aa:=[(false,.slice (.int .u64))]
abbrev He:Pat:=⟨66,[(25,.one (.v .i64)),(0,.one (.sl (.int .u64))),(5,.one (.v .i64)),(6,.one (.v .i64)),(26,.one (.v .i64)),(7,.one (.own 0))],[.arr (.int .u64)]⟩
abbrev Y9:List (Nat×Shape):=[]
abbrev Lq:List (Nat×Pat):=[(0,⟨66,[(7,.one (.own 0))],[.arr (.int .u64)]⟩)]
abbrev KS:Option Pat:=none
variable (w171_7:Pat.D He->Option (Ah Lq KS))
def Uf(p173:AZ)(f173:A1){R:Type}(L:Pat.D He->Option R)(e:Ah Lq KS->Option R)(x:Pat.D He):Option R:=let e10_:=(aa .i64 (x.1.2.2.1+x.1.2.2.2.2.1));let e8_:=(x.2.1.set (ai x.1.2.2.2.2.1) (AL .u64 (x.1.2.1.getD (ai e10_) (0:Int)) x.1.2.2.2.1));let e1_:=((decide ((0:Int)<=x.1.2.2.2.2.1))&&(decide (x.1.2.2.2.2.1<(e8_.length:Int))));let e2_:=e8_;let e9_:=(aa .i64 (e10_+(1:Int)));let e3_:=(decide (e9_<(x.1.2.1.length:Int)));let e4_:=(x.1.1,x.1.2.1,x.1.2.2.1,x.1.2.2.2.1,(aa .i64 (x.1.2.2.2.2.1+(1:Int))),(),());let e5_:=e9_;let e6_:=e10_;let e7_:=(aa .i64 ((64:Int)-x.1.2.2.2.1));bif(decide (x.1.2.2.2.2.1<x.1.1))then(bif((decide ((0:Int)<=e6_))&&(decide (e6_<(x.1.2.1.length:Int))))then(bif(decide ((0:Int)<=x.1.2.2.2.1))then(bif((decide ((0:Int)<=x.1.2.2.2.2.1))&&(decide (x.1.2.2.2.2.1<(x.2.1.length:Int))))then(bif e3_ then(bif e1_ then(bif((decide ((0:Int)<=e5_))&&e3_)then(bif(decide ((0:Int)<=e7_))then(bif e1_ then(((L (e4_,(e2_.set (ai x.1.2.2.2.2.1) (Ap .u64 (e2_.getD (ai x.1.2.2.2.2.1) (0:Int)) (Bb .u64 (x.1.2.1.getD (ai e5_) (0:Int)) e7_))),()))))else none)else none)else none)else none)else(L (e4_,e2_,())))else none)else none)else none)else(e (.inl (((),()),x.2)))
theorem aZQ(d:Nat)(R:Type)(L:Pat.D He->Option R)(e:Ah Lq KS->Option R)(x:Pat.D He):
  Bv (cf [(93,⟨Bo,Bp,p173,f173⟩)] [(100,7,LoopSpec.of He Y9 Lq KS w171_7)]) (d+2) 100 (Bs Tryz.f100 7) He Y9 Lq KS (R:=R) L e x=Uf p173 f173 L e x:=by kernel_rfl
theorem aHA(p173:AZ)(f173:A1):Bm fun L e x=>Uf p173 f173 L e x:=by intro _ _ _ _ _ _ _ h0 hL he _;unfold Uf;repeat' (first|exact h0|exact hL _|exact he _|apply BG|(apply BH h0;intro _)|(apply BI<;>intro _))
def iT(p173:AZ)(f173:A1)(w171_7:Pat.D He->Option (Ah Lq KS))(a0:Ab (.slice (.int .u64)))(a1:Ab (.int .i64)):Option (DenS G6):=
 let e3_:=(aa .i64 (((f173 (a0,())).1.length:Int)-(BX .i64 a1 (64:Int))))
 let e1_:=(au (ai e3_) (0:Int))
 let e2_:=e3_
 bif(p173 (a0,()))then(bif(decide ((BX .i64 a1 (64:Int))>=((f173 (a0,())).1.length:Int)))then(some ([],()))
 else bif((decide ((0:Int)<=e2_))&&(decide ((e2_*(8:Int))<=(140737488355328:Int))))then(Vx.Ba (w171_7 (((e1_.length:Int),(f173 (a0,())).1,(BX .i64 a1 (64:Int)),(le a1 (64:Int)),(0:Int),(),()),e1_,())) fun y3=>
 Vx.A7 y3 (fun y4=>
 bif(p173 y4.2)then(some (f173 y4.2))
 else none) (fun z4=>
 none))
 else none)
 else none
theorem aW2(x:DenS GY):run (cf [(93,⟨Bo,Bp,p173,f173⟩)] [(100,7,LoopSpec.of He Y9 Lq KS w171_7)]) 9 100 Tryz.f100 GY G6 x=iT p173 f173 w171_7 x.1 x.2.1:=by kernel_rfl
def bE:He.D->Option (Ah Lq KS):=Bg fun L=>Uf Ai.pre Ai.F L some
def S9(x:DenS GY):Option (DenS G6):=iT Ai.pre Ai.F bE x.1 x.2.1
def CB:Sum:=Ak GY G6 S9 (DenS.dflt G6)
theorem lW:Sound Tryz.prog G1 100 CB:=sd (cf [(93,Ai)] [(100,7,LoopSpec.of He Y9 Lq KS bE)]) 100 Tryz.f100 ⟨DO,trivial⟩ ⟨rfl,fun d=>BE (fun L e x=>Uf Ai.pre Ai.F L e x) (aHA Ai.pre Ai.F) (fun _ _ _ _=>aZQ ..),trivial⟩ GY G6 S9 _ (fun _=>aW2 ..)
abbrev QL:=Ae GY
abbrev QO:=Ad GY G6
variable (p171:QL)(f171:QO)
abbrev Ga:Aa:=[(false,.int .u64)]
abbrev Gl:Aa:=[(false,.int .i64)]
def kH(a0:Ab (.int .u64)):Option (DenS Gl):=let e1_:=(AL .u64 (aa .u64 ((BA .u64 a0 (aa .u64 ((0:Int)-a0)))*(285870213051353865:Int))) (58:Int));bif(a0==(0:Int))then(some ((64:Int),()))else bif(Vx.vC ((decide ((0:Int)<=e1_))&&(decide (e1_<((64:Nat):Int)))))then(some ((aa .i64 (Vx.k_deb.getD (ai e1_) (0:Int))),()))else none
theorem r92(x:DenS Ga):run (cf [] []) 9 191 Tryz.f191 Ga Gl x=kH x.1:=by kernel_rfl
def WS(x:DenS Ga):Option (DenS Gl):=kH x.1
def B2:Sum:=Ak Ga Gl WS (DenS.dflt Gl)
theorem mM:Sound Tryz.prog G1 191 B2:=sd (cf [] []) 191 Tryz.f191 trivial trivial Ga Gl WS _ (fun _=>r92 ..)
abbrev Js:=Ae Ga
abbrev Jv:=Ad Ga Gl
variable (p92:Js)(f92:Jv)
abbrev MU:Aa:=[(false,.slice (.int .u64)),(false,.int .i64)]
abbrev OI:Aa:=[(false,.bool)]
abbrev Hi:Pat:=⟨25,[(9,.one (.v .i64)),(8,.one (.sl (.int .u64))),(1,.one (.v .i64)),(10,.one (.v .i64))],[]⟩
abbrev Zd:List (Nat×Shape):=[]
abbrev Lu:List (Nat×Pat):=[(0,⟨25,[],[]⟩)]
abbrev KW:Option Pat:=(some ⟨25,[(4,.one (.bool))],[]⟩)
variable (w184_2:Pat.D Hi->Option (Ah Lu KW))
def Uh(p173:AZ)(f173:A1)(p92:Js)(f92:Jv){R:Type}(L:Pat.D Hi->Option R)(e:Ah Lu KW->Option R)(x:Pat.D Hi):Option R:=let e2_:=(x.1.2.1.getD (ai x.1.2.2.2.1) (0:Int));let e1_:=(e2_,());bif(decide (x.1.2.2.2.1<x.1.1))then(bif((decide ((0:Int)<=x.1.2.2.2.1))&&(decide (x.1.2.2.2.1<(x.1.2.1.length:Int))))then(bif(e2_ !=(0:Int))then(bif(p92 e1_)then(((e (.inr (((decide ((aa .i64 ((aa .i64 ((64:Int)*x.1.2.2.2.1))+(f92 e1_).1))>=x.1.2.2.1)),()),())))))else none)else(L ((x.1.1,x.1.2.1,x.1.2.2.1,(aa .i64 (x.1.2.2.2.1+(1:Int))),()),())))else none)else(e (.inl ((),())))
theorem aZU(d:Nat)(R:Type)(L:Pat.D Hi->Option R)(e:Ah Lu KW->Option R)(x:Pat.D Hi):
  Bv (cf [(93,⟨Bo,Bp,p173,f173⟩),(191,⟨Ga,Gl,p92,f92⟩)] [(156,2,LoopSpec.of Hi Zd Lu KW w184_2)]) (d+2) 156 (Bs Tryz.f156 2) Hi Zd Lu KW (R:=R) L e x=Uh p173 f173 p92 f92 L e x:=by kernel_rfl
theorem aHC(p173:AZ)(f173:A1)(p92:Js)(f92:Jv):Bm fun L e x=>Uh p173 f173 p92 f92 L e x:=by intro _ _ _ _ _ _ _ h0 hL he _;unfold Uh;repeat' (first|exact h0|exact hL _|exact he _|apply BG|(apply BH h0;intro _)|(apply BI<;>intro _))
def iZ(p173:AZ)(f173:A1)(p92:Js)(f92:Jv)(w184_2:Pat.D Hi->Option (Ah Lu KW))(a0:Ab (.slice (.int .u64)))(a1:Ab (.int .i64)):Option (DenS OI):=
 bif(p173 (a0,()))then(Vx.Ba (w184_2 ((((f173 (a0,())).1.length:Int),(f173 (a0,())).1,a1,(0:Int),()),())) fun y1=>
 Vx.A7 y1 (fun y2=>
 some (true,())) (fun z2=>
 some z2.1))
 else none
theorem aXa(x:DenS MU):run (cf [(93,⟨Bo,Bp,p173,f173⟩),(191,⟨Ga,Gl,p92,f92⟩)] [(156,2,LoopSpec.of Hi Zd Lu KW w184_2)]) 9 156 Tryz.f156 MU OI x=iZ p173 f173 p92 f92 w184_2 x.1 x.2.1:=by kernel_rfl
def bG:Hi.D->Option (Ah Lu KW):=Bg fun L=>Uh Ai.pre Ai.F B2.pre B2.F L some
def V8(x:DenS MU):Option (DenS OI):=iZ Ai.pre Ai.F B2.pre B2.F bG x.1 x.2.1
def P9:Sum:=Ak MU OI V8 (DenS.dflt OI)
theorem aNo:Sound Tryz.prog G1 156 P9:=sd (cf [(93,Ai),(191,B2)] [(156,2,LoopSpec.of Hi Zd Lu KW bG)]) 156 Tryz.f156 ⟨DO,mM,trivial⟩ ⟨rfl,fun d=>BE (fun L e x=>Uh Ai.pre Ai.F B2.pre B2.F L e x) (aHC Ai.pre Ai.F B2.pre B2.F) (fun _ _ _ _=>aZU ..),trivial⟩ MU OI V8 _ (fun _=>aXa ..)
abbrev aCu:=Ae MU
abbrev aDY:=Ad MU OI
variable (p184:aCu)(f184:aDY)
abbrev MS:Aa:=[(false,.slice (.int .u64)),(false,.int .i64)]
abbrev OG:Aa:=[(false,.slice (.int .u64)),(false,.int .i64)]
def iV(p1171:aCd)(f1171:aDH)(p171:QL)(f171:QO)(p184:aCu)(f184:aDY)(a0:Ab (.slice (.int .u64)))(a1:Ab (.int .i64)):Option (DenS OG):=let e1_:=(decide ((0:Int)<((f1171 (a0,a1,())).1.length:Int)));bif(decide (a1<(0:Int)))then(some ([],(7:Int),()))else bif(p1171 (a0,a1,()))then(bif(p184 (a0,a1,()))then(bif(!(f184 (a0,a1,())).1)then(bif(((f1171 (a0,a1,())).1.length:Int)==(0:Int))then(some (((1:Int)::[]),(0:Int),()))else bif e1_ then(bif e1_ then(some (((f1171 (a0,a1,())).1.set (ai (0:Int)) (Ap .u64 ((f1171 (a0,a1,())).1.getD (ai (0:Int)) (0:Int)) (1:Int))),(0:Int),()))else none)else none)else some ((f1171 (a0,a1,())).1,(0:Int),()))else none)else none
theorem aW6(x:DenS MS):run (cf [(100,⟨MH,Ou,p1171,f1171⟩),(100,⟨GY,G6,p171,f171⟩),(156,⟨MU,OI,p184,f184⟩)] []) 9 150 Tryz.f150 MS OG x=iV p1171 f1171 p171 f171 p184 f184 x.1 x.2.1:=by kernel_rfl
def Tb(x:DenS MS):Option (DenS OG):=iV P6.pre P6.F CB.pre CB.F P9.pre P9.F x.1 x.2.1
def S3:Sum:=Ak MS OG Tb (DenS.dflt OG)
theorem aNm:Sound Tryz.prog G1 150 S3:=sd (cf [(100,P6),(100,CB),(156,P9)] []) 150 Tryz.f150 ⟨aM6,lW,aNo,trivial⟩ trivial MS OG Tb _ (fun _=>aW6 ..)
abbrev aCs:=Ae MS
abbrev aDW:=Ad MS OG
variable (p175:aCs)(f175:aDW)
abbrev Ik:Aa:=[(false,.slice (.int .u64)),(false,.int .i64)]
abbrev II:Aa:=[(false,.slice (.int .u64))]
abbrev Hk:Pat:=⟨56,[(26,.one (.v .i64)),(25,.one (.sl (.int .u64))),(5,.one (.v .i64)),(6,.one (.v .i64)),(27,.one (.v .i64)),(7,.one (.own 0))],[.arr (.int .u64)]⟩
abbrev Zf:List (Nat×Shape):=[]
abbrev Lw:List (Nat×Pat):=[(0,⟨56,[(7,.one (.own 0))],[.arr (.int .u64)]⟩)]
abbrev KY:Option Pat:=none
variable (w186_7:Pat.D Hk->Option (Ah Lw KY))
def Uj(p173:AZ)(f173:A1){R:Type}(L:Pat.D Hk->Option R)(e:Ah Lw KY->Option R)(x:Pat.D Hk):Option R:=let e6_:=(aa .i64 (x.1.2.2.1+x.1.2.2.2.2.1));let e5_:=(ai e6_);let e7_:=(x.1.2.1.getD (ai x.1.2.2.2.2.1) (0:Int));let e1_:=(x.2.1.set e5_ (Ap .u64 (x.2.1.getD e5_ (0:Int)) (Bb .u64 e7_ x.1.2.2.2.1)));let e2_:=((decide ((0:Int)<=e6_))&&(decide (e6_<(x.2.1.length:Int))));let e3_:=(aa .i64 (e6_+(1:Int)));let e4_:=(aa .i64 ((64:Int)-x.1.2.2.2.1));bif(decide (x.1.2.2.2.2.1<x.1.1))then(bif((decide ((0:Int)<=x.1.2.2.2.2.1))&&(decide (x.1.2.2.2.2.1<(x.1.2.1.length:Int))))then(bif e2_ then(bif(decide ((0:Int)<=x.1.2.2.2.1))then(bif e2_ then(bif(decide ((0:Int)<=e4_))then(bif((decide ((0:Int)<=e3_))&&(decide (e3_<(e1_.length:Int))))then(((L ((x.1.1,x.1.2.1,x.1.2.2.1,x.1.2.2.2.1,(aa .i64 (x.1.2.2.2.2.1+(1:Int))),(),()),(e1_.set (ai e3_) (AL .u64 e7_ e4_)),()))))else none)else none)else none)else none)else none)else none)else(e (.inl (((),()),x.2)))
theorem aZW(d:Nat)(R:Type)(L:Pat.D Hk->Option R)(e:Ah Lw KY->Option R)(x:Pat.D Hk):
  Bv (cf [(93,⟨Bo,Bp,p173,f173⟩)] [(97,7,LoopSpec.of Hk Zf Lw KY w186_7)]) (d+2) 97 (Bs Tryz.f97 7) Hk Zf Lw KY (R:=R) L e x=Uj p173 f173 L e x:=by kernel_rfl
theorem aHE(p173:AZ)(f173:A1):Bm fun L e x=>Uj p173 f173 L e x:=by intro _ _ _ _ _ _ _ h0 hL he _;unfold Uj;repeat' (first|exact h0|exact hL _|exact he _|apply BG|(apply BH h0;intro _)|(apply BI<;>intro _))
def i1(p173:AZ)(f173:A1)(w186_7:Pat.D Hk->Option (Ah Lw KY))(a0:Ab (.slice (.int .u64)))(a1:Ab (.int .i64)):Option (DenS II):=
 let e1_:=(aa .i64 ((aa .i64 ((BX .i64 a1 (64:Int))+((f173 (a0,())).1.length:Int)))+(1:Int)))
 bif(p173 (a0,()))then(bif(((f173 (a0,())).1.length:Int)==(0:Int))then(some ([],()))
 else bif((decide ((0:Int)<=e1_))&&(decide ((e1_*(8:Int))<=(140737488355328:Int))))then(Vx.Ba (w186_7 ((((f173 (a0,())).1.length:Int),(f173 (a0,())).1,(BX .i64 a1 (64:Int)),(le a1 (64:Int)),(0:Int),(),()),(au (ai e1_) (0:Int)),())) fun y3=>
 Vx.A7 y3 (fun y4=>
 bif(p173 y4.2)then(some (f173 y4.2))
 else none) (fun z4=>
 none))
 else none)
 else none
theorem aXc(x:DenS Ik):run (cf [(93,⟨Bo,Bp,p173,f173⟩)] [(97,7,LoopSpec.of Hk Zf Lw KY w186_7)]) 9 97 Tryz.f97 Ik II x=i1 p173 f173 w186_7 x.1 x.2.1:=by kernel_rfl
def bI:Hk.D->Option (Ah Lw KY):=Bg fun L=>Uj Ai.pre Ai.F L some
def RI(x:DenS Ik):Option (DenS II):=i1 Ai.pre Ai.F bI x.1 x.2.1
def Dd:Sum:=Ak Ik II RI (DenS.dflt II)
theorem yM:Sound Tryz.prog G1 97 Dd:=sd (cf [(93,Ai)] [(97,7,LoopSpec.of Hk Zf Lw KY bI)]) 97 Tryz.f97 ⟨DO,trivial⟩ ⟨rfl,fun d=>BE (fun L e x=>Uj Ai.pre Ai.F L e x) (aHE Ai.pre Ai.F) (fun _ _ _ _=>aZW ..),trivial⟩ Ik II RI _ (fun _=>aXc ..)
abbrev RP:=Ae Ik
abbrev RX:=Ad Ik II
variable (p186:RP)(f186:RX)
abbrev Ij:Aa:=[(false,.slice (.slice (.int .u64)))]
abbrev IH:Aa:=[(false,.bool)]
abbrev Hj:Pat:=⟨16,[(6,.one (.v .i64)),(5,.one (.sl (.slice (.int .u64)))),(7,.one (.v .i64))],[]⟩
abbrev Ze:List (Nat×Shape):=[]
abbrev Lv:List (Nat×Pat):=[(0,⟨16,[],[]⟩)]
abbrev KX:Option Pat:=(some ⟨16,[(2,.one (.bool))],[]⟩)
variable (w185_2:Pat.D Hj->Option (Ah Lv KX))
def Ui(p173:AZ)(f173:A1){R:Type}(L:Pat.D Hj->Option R)(e:Ah Lv KX->Option R)(x:Pat.D Hj):Option R:=bif(decide (x.1.2.2.1<x.1.1))then(bif((decide ((0:Int)<=x.1.2.2.1))&&(decide (x.1.2.2.1<(x.1.2.1.length:Int))))then(bif(p173 ((x.1.2.1.getD (ai x.1.2.2.1) []),()))then(bif(decide (((f173 ((x.1.2.1.getD (ai x.1.2.2.1) []),())).1.length:Int)>(1024:Int)))then(((e (.inr ((true,()),())))))else(L ((x.1.1,x.1.2.1,(aa .i64 (x.1.2.2.1+(1:Int))),()),())))else none)else none)else(e (.inl ((),())))
theorem aZV(d:Nat)(R:Type)(L:Pat.D Hj->Option R)(e:Ah Lv KX->Option R)(x:Pat.D Hj):
  Bv (cf [(93,⟨Bo,Bp,p173,f173⟩)] [(96,2,LoopSpec.of Hj Ze Lv KX w185_2)]) (d+2) 96 (Bs Tryz.f96 2) Hj Ze Lv KX (R:=R) L e x=Ui p173 f173 L e x:=by kernel_rfl
theorem aHD(p173:AZ)(f173:A1):Bm fun L e x=>Ui p173 f173 L e x:=by intro _ _ _ _ _ _ _ h0 hL he _;unfold Ui;repeat' (first|exact h0|exact hL _|exact he _|apply BG|(apply BH h0;intro _)|(apply BI<;>intro _))
def i0(p173:AZ)(f173:A1)(w185_2:Pat.D Hj->Option (Ah Lv KX))(a0:Ab (.slice (.slice (.int .u64)))):Option (DenS IH):=
 Vx.Ba (w185_2 (((a0.length:Int),a0,(0:Int),()),())) fun y0=>
 Vx.A7 y0 (fun y1=>
 some (false,())) (fun z1=>
 some z1.1)
theorem aXb(x:DenS Ij):run (cf [(93,⟨Bo,Bp,p173,f173⟩)] [(96,2,LoopSpec.of Hj Ze Lv KX w185_2)]) 9 96 Tryz.f96 Ij IH x=i0 p173 f173 w185_2 x.1:=by kernel_rfl
def bH:Hj.D->Option (Ah Lv KX):=Bg fun L=>Ui Ai.pre Ai.F L some
def QH(x:DenS Ij):Option (DenS IH):=i0 Ai.pre Ai.F bH x.1
def Ei:Sum:=Ak Ij IH QH (DenS.dflt IH)
theorem lX:Sound Tryz.prog G1 96 Ei:=sd (cf [(93,Ai)] [(96,2,LoopSpec.of Hj Ze Lv KX bH)]) 96 Tryz.f96 ⟨DO,trivial⟩ ⟨rfl,fun d=>BE (fun L e x=>Ui Ai.pre Ai.F L e x) (aHD Ai.pre Ai.F) (fun _ _ _ _=>aZV ..),trivial⟩ Ij IH QH _ (fun _=>aXb ..)
abbrev RO:=Ae Ij
abbrev RW:=Ad Ij IH
variable (p185:RO)(f185:RW)
abbrev Ii:Aa:=[(false,.slice (.int .u64)),(false,.int .i64)]
abbrev IG:Aa:=[(false,.slice (.int .u64)),(false,.int .i64)]
def iW(p186:RP)(f186:RX)(p185:RO)(f185:RW)(a0:Ab (.slice (.int .u64)))(a1:Ab (.int .i64)):Option (DenS IG):=bif((decide (a1<(0:Int)))||(decide (a1>(65536:Int))))then(some ([],(7:Int),()))else bif(p185 ((a0::[]),()))then(bif(f185 ((a0::[]),())).1 then(some ([],(5:Int),()))else bif(p186 (a0,a1,()))then(bif(p185 (((f186 (a0,a1,())).1::[]),()))then(bif(f185 (((f186 (a0,a1,())).1::[]),())).1 then(some ([],(5:Int),()))else some ((f186 (a0,a1,())).1,(0:Int),()))else none)else none)else none
theorem aW7(x:DenS Ii):run (cf [(97,⟨Ik,II,p186,f186⟩),(96,⟨Ij,IH,p185,f185⟩)] []) 9 67 Tryz.f67 Ii IG x=iW p186 f186 p185 f185 x.1 x.2.1:=by kernel_rfl
def RG(x:DenS Ii):Option (DenS IG):=iW Dd.pre Dd.F Ei.pre Ei.F x.1 x.2.1
def Dv:Sum:=Ak Ii IG RG (DenS.dflt IG)
theorem yL:Sound Tryz.prog G1 67 Dv:=sd (cf [(97,Dd),(96,Ei)] []) 67 Tryz.f67 ⟨yM,lX,trivial⟩ trivial Ii IG RG _ (fun _=>aW7 ..)
abbrev RN:=Ae Ii
abbrev RV:=Ad Ii IG
variable (p176:RN)(f176:RV)
abbrev Ig:Aa:=[(false,.slice (.int .u64)),(false,.int .i64)]
abbrev IE:Aa:=[(false,.slice (.int .u64)),(false,.int .i64)]
def iH(p171:QL)(f171:QO)(a0:Ab (.slice (.int .u64)))(a1:Ab (.int .i64)):Option (DenS IE):=bif(decide (a1<(0:Int)))then(some ([],(7:Int),()))else bif(p171 (a0,a1,()))then(some ((f171 (a0,a1,())).1,(0:Int),()))else none
theorem aWO(x:DenS Ig):run (cf [(100,⟨GY,G6,p171,f171⟩)] []) 9 103 Tryz.f103 Ig IE x=iH p171 f171 x.1 x.2.1:=by kernel_rfl
def QG(x:DenS Ig):Option (DenS IE):=iH CB.pre CB.F x.1 x.2.1
def EF:Sum:=Ak Ig IE QG (DenS.dflt IE)
theorem yH:Sound Tryz.prog G1 103 EF:=sd (cf [(100,CB)] []) 103 Tryz.f103 ⟨lW,trivial⟩ trivial Ig IE QG _ (fun _=>aWO ..)
abbrev RL:=Ae Ig
abbrev RT:=Ad Ig IE
variable (p141:RL)(f141:RT)
abbrev MT:Aa:=[(false,.int .i64),(false,.bool),(false,.bool),(false,.int .u64)]
abbrev OH:Aa:=[(false,.bool)]
def iX(a0:Ab (.int .i64))(a1 a2:Ab (.bool))(a3:Ab (.int .u64)):Option (DenS OH):=bif(a0==(4:Int))then(some ((!(!a1)),()))else bif(a0==(3:Int))then(some ((!a1),()))else bif(a0==(0:Int))then(bif(a3==(2:Int))then(some (a2,()))else some ((decide (a3>=(2:Int))),()))else bif(a0==(1:Int))then(some ((decide (a3>=(2:Int))),()))else bif(a0==(5:Int))then(some ((!a2),()))else some (false,())
theorem aW8(x:DenS MT):run (cf [] []) 9 151 Tryz.f151 MT OH x=iX x.1 x.2.1 x.2.2.1 x.2.2.2.1:=by kernel_rfl
def RH(x:DenS MT):Option (DenS OH):=iX x.1 x.2.1 x.2.2.1 x.2.2.2.1
def S4:Sum:=Ak MT OH RH (DenS.dflt OH)
theorem aNn:Sound Tryz.prog G1 151 S4:=sd (cf [] []) 151 Tryz.f151 trivial trivial MT OH RH _ (fun _=>aW8 ..)
abbrev aCt:=Ae MT
abbrev aDX:=Ad MT OH
variable (p177:aCt)(f177:aDX)
abbrev GW:Aa:=[(false,.slice (.int .u64)),(false,.slice (.int .u64))]
abbrev Gg:Aa:=[(false,.slice (.int .u64))]
abbrev Hc:Pat:=⟨61,[(28,.one (.v .i64)),(1,.one (.sl (.int .u64))),(29,.one (.v .i64)),(0,.one (.sl (.int .u64))),(6,.one (.v .u64)),(5,.one (.own 0))],[.arr (.int .u64)]⟩
abbrev Y7:List (Nat×Shape):=[]
abbrev Lo:List (Nat×Pat):=[(0,⟨61,[(0,.one (.sl (.int .u64))),(6,.one (.v .u64)),(5,.one (.own 0))],[.arr (.int .u64)]⟩)]
abbrev KQ:Option Pat:=none
variable (w143_8:Pat.D Hc->Option (Ah Lo KQ))
def Ud(p155:CW)(f155:CX)(p173:AZ)(f173:A1){R:Type}(L:Pat.D Hc->Option R)(e:Ah Lo KQ->Option R)(x:Pat.D Hc):Option R:=let e8_:=(x.1.2.2.2.1.getD (ai x.1.2.2.1) (0:Int));let e7_:=((x.1.2.1.getD (ai x.1.2.2.1) (0:Int)),x.1.2.2.2.2.1,());let e1_:=(f155 (e8_,e7_));let e2_:=(f155 (e8_,(0:Int),x.1.2.2.2.2.1,()));let e3_:=((decide ((0:Int)<=x.1.2.2.1))&&(decide (x.1.2.2.1<(x.1.2.2.2.1.length:Int))));let e4_:=((decide ((0:Int)<=x.1.2.2.1))&&(decide (x.1.2.2.1<(x.2.1.length:Int))));let e5_:=(aa .i64 (x.1.2.2.1+(1:Int)));let e6_:=e8_;bif(decide (x.1.2.2.1<x.1.1))then(bif(decide (x.1.2.2.1<(x.1.2.1.length:Int)))then(bif((decide ((0:Int)<=x.1.2.2.1))&&(decide (x.1.2.2.1<(x.1.2.1.length:Int))))then(bif e3_ then(bif(p155 (e6_,e7_))then(bif e4_ then(((L ((x.1.1,x.1.2.1,e5_,x.1.2.2.2.1,e1_.2.1,(),()),(x.2.1.set (ai x.1.2.2.1) e1_.1),()))))else none)else none)else none)else none)else bif e3_ then(bif(p155 (e6_,(0:Int),x.1.2.2.2.2.1,()))then(bif e4_ then(((L ((x.1.1,x.1.2.1,e5_,x.1.2.2.2.1,e2_.2.1,(),()),(x.2.1.set (ai x.1.2.2.1) e2_.1),()))))else none)else none)else none)else(e (.inl ((x.1.2.2.2.1,x.1.2.2.2.2.1,(),()),x.2)))
theorem aZO(d:Nat)(R:Type)(L:Pat.D Hc->Option R)(e:Ah Lo KQ->Option R)(x:Pat.D Hc):
  Bv (cf [(94,⟨ED,EZ,p155,f155⟩),(93,⟨Bo,Bp,p173,f173⟩)] [(65,8,LoopSpec.of Hc Y7 Lo KQ w143_8)]) (d+2) 65 (Bs Tryz.f65 8) Hc Y7 Lo KQ (R:=R) L e x=Ud p155 f155 p173 f173 L e x:=by kernel_rfl
theorem aHy(p155:CW)(f155:CX)(p173:AZ)(f173:A1):Bm fun L e x=>Ud p155 f155 p173 f173 L e x:=by intro _ _ _ _ _ _ _ h0 hL he _;unfold Ud;repeat' (first|exact h0|exact hL _|exact he _|apply BG|(apply BH h0;intro _)|(apply BI<;>intro _))
def iI(p155:CW)(f155:CX)(p173:AZ)(f173:A1)(w143_8:Pat.D Hc->Option (Ah Lo KQ))(a0 a1:Ab (.slice (.int .u64))):Option (DenS Gg):=
 let e5_:=(aa .i64 (((f173 (a1,())).1.length:Int)+(1:Int)))
 let e1_:=(au (ai e5_) (0:Int))
 let e6_:=(aa .i64 (((f173 (a0,())).1.length:Int)+(1:Int)))
 let e2_:=(au (ai e6_) (0:Int))
 let e3_:=e5_
 let e4_:=e6_
 bif(p173 (a0,()))then(bif(p173 (a1,()))then(bif(decide (((f173 (a0,())).1.length:Int)<((f173 (a1,())).1.length:Int)))then(bif((decide ((0:Int)<=e3_))&&(decide ((e3_*(8:Int))<=(140737488355328:Int))))then(Vx.Ba (w143_8 ((((f173 (a1,())).1.length:Int),(f173 (a0,())).1,(0:Int),(f173 (a1,())).1,(0:Int),(),()),(((f173 (a1,())).1.take e1_.length)++(e1_.drop (f173 (a1,())).1.length)),())) fun y4=>
 Vx.A7 y4 (fun y5=>
 bif((decide ((0:Int)<=(y5.1.1.length:Int)))&&(decide ((y5.1.1.length:Int)<(y5.2.1.length:Int))))then(bif(p173 ((y5.2.1.set (ai (y5.1.1.length:Int)) y5.1.2.1),()))then(some (f173 ((y5.2.1.set (ai (y5.1.1.length:Int)) y5.1.2.1),())))
 else none)
 else none) (fun z5=>
 none))
 else none)
 else bif((decide ((0:Int)<=e4_))&&(decide ((e4_*(8:Int))<=(140737488355328:Int))))then(Vx.Ba (w143_8 ((((f173 (a0,())).1.length:Int),(f173 (a1,())).1,(0:Int),(f173 (a0,())).1,(0:Int),(),()),(((f173 (a0,())).1.take e2_.length)++(e2_.drop (f173 (a0,())).1.length)),())) fun y4=>
 Vx.A7 y4 (fun y5=>
 bif((decide ((0:Int)<=(y5.1.1.length:Int)))&&(decide ((y5.1.1.length:Int)<(y5.2.1.length:Int))))then(bif(p173 ((y5.2.1.set (ai (y5.1.1.length:Int)) y5.1.2.1),()))then(some (f173 ((y5.2.1.set (ai (y5.1.1.length:Int)) y5.1.2.1),())))
 else none)
 else none) (fun z5=>
 none))
 else none)
 else none)
 else none
theorem aWQ(x:DenS GW):run (cf [(94,⟨ED,EZ,p155,f155⟩),(93,⟨Bo,Bp,p173,f173⟩)] [(65,8,LoopSpec.of Hc Y7 Lo KQ w143_8)]) 9 65 Tryz.f65 GW Gg x=iI p155 f155 p173 f173 w143_8 x.1 x.2.1:=by kernel_rfl
def WX:Hc.D->Option (Ah Lo KQ):=Bg fun L=>Ud Au.pre Au.F Ai.pre Ai.F L some
def RD(x:DenS GW):Option (DenS Gg):=iI Au.pre Au.F Ai.pre Ai.F WX x.1 x.2.1
def C5:Sum:=Ak GW Gg RD (DenS.dflt Gg)
theorem lU:Sound Tryz.prog G1 65 C5:=sd (cf [(94,Au),(93,Ai)] [(65,8,LoopSpec.of Hc Y7 Lo KQ WX)]) 65 Tryz.f65 ⟨SZ,DO,trivial⟩ ⟨rfl,fun d=>BE (fun L e x=>Ud Au.pre Au.F Ai.pre Ai.F L e x) (aHy Au.pre Au.F Ai.pre Ai.F) (fun _ _ _ _=>aZO ..),trivial⟩ GW Gg RD _ (fun _=>aWQ ..)
abbrev LM:=Ae GW
abbrev LP:=Ad GW Gg
variable (p143:LM)(f143:LP)
abbrev J1:Aa:=[(true,.pair (.bool) (.pair (.slice (.int .u64)) (.pair (.int .i64) (.pair (.bool) (.unit))))),(false,.int .i64),(false,.int .i64)]
abbrev Kp:Aa:=[(false,.slice (.int .u64)),(false,.bool)]
def iP(p175:aCs)(f175:aDW)(p176:RN)(f176:RV)(p141:RL)(f141:RT)(p177:aCt)(f177:aDX)(p143:LM)(f143:LP)(a0:Ab (.pair (.bool) (.pair (.slice (.int .u64)) (.pair (.int .i64) (.pair (.bool) (.unit))))))(a1 a2:Ab (.int .i64)):Option (DenS Kp):=let e47_:=(aa .i64 (a2-a0.2.2.1));let e44_:=(f175 (a0.2.1,(aa .i64 (e47_-(2:Int))),()));let e42_:=(e44_.1,(2:Int),());let e40_:=(f141 e42_);let e38_:=(e40_.1.length:Int);let e34_:=(decide (e38_>(0:Int)));let e28_:=(e34_&&((BA .u64 (e40_.1.getD (ai (0:Int)) (0:Int)) (1:Int))==(1:Int)));let e32_:=(BA .u64 (e44_.1.getD (ai (0:Int)) (0:Int)) (3:Int));let e30_:=(Ap .u64 e32_ (1:Int));let e1_:=(a1,a0.1,e28_,e30_,());let e45_:=(f176 (a0.2.1,(aa .i64 ((2:Int)-e47_)),()));let e43_:=(e45_.1,(2:Int),());let e41_:=(f141 e43_);let e39_:=(e41_.1.length:Int);let e35_:=(decide (e39_>(0:Int)));let e29_:=(e35_&&((BA .u64 (e41_.1.getD (ai (0:Int)) (0:Int)) (1:Int))==(1:Int)));let e33_:=(BA .u64 (e45_.1.getD (ai (0:Int)) (0:Int)) (3:Int));let e31_:=(Ap .u64 e33_ (1:Int));let e2_:=(a1,a0.1,e29_,e31_,());let e3_:=(a1,a0.1,e28_,e32_,());let e4_:=(a1,a0.1,e29_,e33_,());let e46_:=((Ap .u64 (0:Int) (1:Int)),());let e5_:=(a1,a0.1,e28_,e46_);let e6_:=(a1,a0.1,e29_,e46_);let e7_:=((decide ((0:Int)<e38_))||(!e34_));let e8_:=((decide ((0:Int)<e39_))||(!e35_));let e9_:=((e30_ !=(0:Int)),());let e10_:=((e31_ !=(0:Int)),());let e11_:=e30_;let e12_:=e31_;let e13_:=((e32_ !=(0:Int)),());let e14_:=((e33_ !=(0:Int)),());let e15_:=e32_;let e16_:=e33_;let e36_:=(e40_.1,((1:Int)::[]),());let e17_:=(p143 e36_);let e18_:=(f143 e36_);let e37_:=(e41_.1,((1:Int)::[]),());let e19_:=(p143 e37_);let e20_:=(f143 e37_);let e21_:=e40_;let e22_:=e41_;let e23_:=(p141 e42_);let e24_:=(p141 e43_);let e25_:=(e44_.1.length:Int);let e26_:=(e45_.1.length:Int);let e27_:=e47_;bif(decide (e27_>=(2:Int)))then(bif(p175 (a0.2.1,(aa .i64 (e27_-(2:Int))),()))then(bif(decide (e25_>(0:Int)))then(bif(decide ((0:Int)<e25_))then(bif a0.2.2.2.1 then(bif e23_ then(bif e7_ then(bif((p177 e1_)||(!(bif(e11_==(0:Int))then false else true)))then(bif((e11_ !=(0:Int))&&(f177 e1_).1)then(bif e17_ then(some (e18_.1,e9_))else none)else some (e21_.1,e9_))else none)else none)else none)else bif e23_ then(bif e7_ then(bif((p177 e3_)||(!(bif(e15_==(0:Int))then false else true)))then(bif((e15_ !=(0:Int))&&(f177 e3_).1)then(bif e17_ then(some (e18_.1,e13_))else none)else some (e21_.1,e13_))else none)else none)else none)else none)else bif a0.2.2.2.1 then(bif e23_ then(bif e7_ then(bif((p177 e5_)||false)then(bif(f177 e5_).1 then(bif e17_ then(some (e18_.1,true,()))else none)else some (e21_.1,true,()))else none)else none)else none)else bif e23_ then(bif e7_ then(bif((p177 (a1,a0.1,((decide ((e21_.1.length:Int)>(0:Int)))&&((BA .u64 (e21_.1.getD (ai (0:Int)) (0:Int)) (1:Int))==(1:Int))),(0:Int),()))||true)then(some (e21_.1,false,()))else none)else none)else none)else none)else bif(p176 (a0.2.1,(aa .i64 ((2:Int)-e27_)),()))then(bif(decide (e26_>(0:Int)))then(bif(decide ((0:Int)<e26_))then(bif a0.2.2.2.1 then(bif e24_ then(bif e8_ then(bif((p177 e2_)||(!(bif(e12_==(0:Int))then false else true)))then(bif((e12_ !=(0:Int))&&(f177 e2_).1)then(bif e19_ then(some (e20_.1,e10_))else none)else some (e22_.1,e10_))else none)else none)else none)else bif e24_ then(bif e8_ then(bif((p177 e4_)||(!(bif(e16_==(0:Int))then false else true)))then(bif((e16_ !=(0:Int))&&(f177 e4_).1)then(bif e19_ then(some (e20_.1,e14_))else none)else some (e22_.1,e14_))else none)else none)else none)else none)else bif a0.2.2.2.1 then(bif e24_ then(bif e8_ then(bif((p177 e6_)||false)then(bif(f177 e6_).1 then(bif e19_ then(some (e20_.1,true,()))else none)else some (e22_.1,true,()))else none)else none)else none)else bif e24_ then(bif e8_ then(bif((p177 (a1,a0.1,((decide ((e22_.1.length:Int)>(0:Int)))&&((BA .u64 (e22_.1.getD (ai (0:Int)) (0:Int)) (1:Int))==(1:Int))),(0:Int),()))||true)then(some (e22_.1,false,()))else none)else none)else none)else none
theorem aWX(x:DenS J1):run (cf [(150,⟨MS,OG,p175,f175⟩),(67,⟨Ii,IG,p176,f176⟩),(103,⟨Ig,IE,p141,f141⟩),(151,⟨MT,OH,p177,f177⟩),(65,⟨GW,Gg,p143,f143⟩)] []) 9 142 Tryz.f142 J1 Kp x=iP p175 f175 p176 f176 p141 f141 p177 f177 p143 f143 x.1 x.2.1 x.2.2.1:=by kernel_rfl
def S7(x:DenS J1):Option (DenS Kp):=iP S3.pre S3.F Dv.pre Dv.F EF.pre EF.F S4.pre S4.F C5.pre C5.F x.1 x.2.1 x.2.2.1
def Hy:Sum:=Ak J1 Kp S7 (DenS.dflt Kp)
theorem yJ:Sound Tryz.prog G1 142 Hy:=sd (cf [(150,S3),(67,Dv),(103,EF),(151,S4),(65,C5)] []) 142 Tryz.f142 ⟨aNm,yL,yH,aNn,lU,trivial⟩ trivial J1 Kp S7 _ (fun _=>aWX ..)
abbrev nB:=Ae J1
abbrev oN:=Ad J1 Kp
variable (p150:nB)(f150:oN)
abbrev Gb:Aa:=[(false,.int .i64),(false,.bool)]
abbrev Gm:Aa:=[(false,.int .u64),(false,.int .i64)]
def t97(p116:bU)(f116:cQ)(p69:Bq)(f69:Br)(p91:Gz)(f91:GD)(p140:Tv)(f140:TD)(a0:Ab (.int .i64))(a1:Ab (.bool)):Option (DenS Gm):=let e2_:=((aa .i64 ((f69 (a0,())).1.1-(f69 (a0,())).1.2.1)),());let e1_:=((f69 (a0,())).1,a1,(aa .u64 ((f91 e2_).1-(f116 ((f69 (a0,())).1,())).1)),(f116 ((f69 (a0,())).1,())));bif(p69 (a0,()))then(bif((f69 (a0,())).2.1 !=(0:Int))then(some ((0:Int),(f69 (a0,())).2))else bif(p91 e2_)then(bif(p116 ((f69 (a0,())).1,()))then(bif(p116 ((f69 (a0,())).1,()))then(bif(p140 e1_)then(some ((f140 e1_).1,(0:Int),()))else none)else none)else none)else none)else none
theorem r97(x:DenS Gb):run (cf [(89,⟨Ib,IC,p116,f116⟩),(71,⟨BJ,BK,p69,f69⟩),(72,⟨Ec,Eg,p91,f91⟩),(73,⟨GV,G4,p140,f140⟩)] []) 9 62 Tryz.f62 Gb Gm x=t97 p116 f116 p69 f69 p91 f91 p140 f140 x.1 x.2.1:=by kernel_rfl
def WT(x:DenS Gb):Option (DenS Gm):=t97 Ja.pre Ja.F An.pre An.F Bu.pre Bu.F FD.pre FD.F x.1 x.2.1
def CC:Sum:=Ak Gb Gm WT (DenS.dflt Gm)
theorem VI:Sound Tryz.prog G1 62 CC:=sd (cf [(89,Ja),(71,An),(72,Bu),(73,FD)] []) 62 Tryz.f62 ⟨lT,Dk,Lh,ZM,trivial⟩ trivial Gb Gm WT _ (fun _=>r97 ..)
abbrev LO:=Ae Gb
abbrev LR:=Ad Gb Gm
variable (p97:LO)(f97:LR)
abbrev Om:Aa:=[(true,.pair (.int .i64) (.pair (.int .i64) (.pair (.int .i64) (.pair (.int .i64) (.unit)))))]
abbrev P3:Aa:=[(false,.int .u64)]
def t95(a0:Ab (.pair (.int .i64) (.pair (.int .i64) (.pair (.int .i64) (.pair (.int .i64) (.unit)))))):Option (DenS P3):=some ((1:Int),())
theorem r95(x:DenS Om):run (cf [] []) 9 154 Tryz.f154 Om P3 x=t95 x.1:=by kernel_rfl
def T95(x:DenS Om):Option (DenS P3):=t95 x.1
def aU:Sum:=Ak Om P3 T95 (DenS.dflt P3)
theorem aOy:Sound Tryz.prog G1 154 aU:=sd (cf [] []) 154 Tryz.f154 trivial trivial Om P3 T95 _ (fun _=>r95 ..)
abbrev Y95:=Ae Om
abbrev Z95:=Ad Om P3
variable (p95:Y95)(f95:Z95)
abbrev On:Aa:=[(true,.pair (.int .i64) (.pair (.int .i64) (.pair (.int .i64) (.pair (.int .i64) (.unit)))))]
abbrev P4:Aa:=[(false,.int .u64)]
def t96(p91:Gz)(f91:GD)(a0:Ab (.pair (.int .i64) (.pair (.int .i64) (.pair (.int .i64) (.pair (.int .i64) (.unit)))))):Option (DenS P4):=let e1_:=((aa .i64 (a0.2.1-(1:Int))),());bif(p91 e1_)then(some (f91 e1_))else none
theorem r96(x:DenS On):run (cf [(72,⟨Ec,Eg,p91,f91⟩)] []) 9 155 Tryz.f155 On P4 x=t96 p91 f91 x.1:=by kernel_rfl
def T96(x:DenS On):Option (DenS P4):=t96 Bu.pre Bu.F x.1
def aV:Sum:=Ak On P4 T96 (DenS.dflt P4)
theorem aOz:Sound Tryz.prog G1 155 aV:=sd (cf [(72,Bu)] []) 155 Tryz.f155 ⟨Lh,trivial⟩ trivial On P4 T96 _ (fun _=>r96 ..)
abbrev Y96:=Ae On
abbrev Z96:=Ad On P4
variable (p96:Y96)(f96:Z96)
abbrev NT:Aa:=[(false,.int .i64),(false,.bool)]
abbrev PA:Aa:=[(false,.int .u64),(false,.int .i64)]
def t43(p95:Y95)(f95:Z95)(p96:Y96)(f96:Z96)(p69:Bq)(f69:Br)(p91:Gz)(f91:GD)(p140:Tv)(f140:TD)(a0:Ab (.int .i64))(a1:Ab (.bool)):Option (DenS PA):=let e2_:=((aa .i64 ((f69 (a0,())).1.1-(f69 (a0,())).1.2.1)),());let e1_:=((f69 (a0,())).1,a1,(aa .u64 ((f91 e2_).1-(f95 ((f69 (a0,())).1,())).1)),(f96 ((f69 (a0,())).1,())));bif(p69 (a0,()))then(bif((f69 (a0,())).2.1 !=(0:Int))then(some ((0:Int),(f69 (a0,())).2))else bif(p91 e2_)then(bif(p95 ((f69 (a0,())).1,()))then(bif(p96 ((f69 (a0,())).1,()))then(bif(p140 e1_)then(some ((f140 e1_).1,(0:Int),()))else none)else none)else none)else none)else none
theorem r43(x:DenS NT):run (cf [(154,⟨Om,P3,p95,f95⟩),(155,⟨On,P4,p96,f96⟩),(71,⟨BJ,BK,p69,f69⟩),(72,⟨Ec,Eg,p91,f91⟩),(73,⟨GV,G4,p140,f140⟩)] []) 9 149 Tryz.f149 NT PA x=t43 p95 f95 p96 f96 p69 f69 p91 f91 p140 f140 x.1 x.2.1:=by kernel_rfl
def Wz(x:DenS NT):Option (DenS PA):=t43 aU.pre aU.F aV.pre aV.F An.pre An.F Bu.pre Bu.F FD.pre FD.F x.1 x.2.1
def Jd:Sum:=Ak NT PA Wz (DenS.dflt PA)
theorem aOe:Sound Tryz.prog G1 149 Jd:=sd (cf [(154,aU),(155,aV),(71,An),(72,Bu),(73,FD)] []) 149 Tryz.f149 ⟨aOy,aOz,Dk,Lh,ZM,trivial⟩ trivial NT PA Wz _ (fun _=>r43 ..)
abbrev Y43:=Ae NT
abbrev Z43:=Ad NT PA
variable (p43:Y43)(f43:Z43)
abbrev MN:Aa:=[(false,.int .i64),(false,.int .i64),(false,.bool)]
abbrev OA:Aa:=[(false,.int .u64)]
def iO(p97:LO)(f97:LR)(p43:Y43)(f43:Z43)(a0 a1:Ab (.int .i64))(a2:Ab (.bool)):Option (DenS OA):=bif((((a1==(0:Int))||(a1==(1:Int)))||((a1==(3:Int))&&(!a2)))||((a1==(4:Int))&&a2))then(bif(p97 (a0,a2,()))then(some ((f97 (a0,a2,())).1,()))else none)else bif(p43 (a0,a2,()))then(some ((f43 (a0,a2,())).1,()))else none
theorem aWW(x:DenS MN):run (cf [(62,⟨Gb,Gm,p97,f97⟩),(149,⟨NT,PA,p43,f43⟩)] []) 9 141 Tryz.f141 MN OA x=iO p97 f97 p43 f43 x.1 x.2.1 x.2.2.1:=by kernel_rfl
def V4(x:DenS MN):Option (DenS OA):=iO CC.pre CC.F Jd.pre Jd.F x.1 x.2.1 x.2.2.1
def SX:Sum:=Ak MN OA V4 (DenS.dflt OA)
theorem aNg:Sound Tryz.prog G1 141 SX:=sd (cf [(62,CC),(149,Jd)] []) 141 Tryz.f141 ⟨VI,aOe,trivial⟩ trivial MN OA V4 _ (fun _=>aWW ..)
abbrev aCm:=Ae MN
abbrev aDQ:=Ad MN OA
variable (p149:aCm)(f149:aDQ)
abbrev MO:Aa:=[(true,.pair (.bool) (.pair (.slice (.int .u64)) (.pair (.int .i64) (.pair (.bool) (.unit))))),(true,.pair (.int .i64) (.pair (.int .i64) (.pair (.int .i64) (.pair (.int .i64) (.unit))))),(false,.int .i64),(false,.int .i64)]
abbrev OB:Aa:=[(false,.bool)]
def iR(p150:nB)(f150:oN)(p151:Jr)(f151:Ju)(a0:Ab (.pair (.bool) (.pair (.slice (.int .u64)) (.pair (.int .i64) (.pair (.bool) (.unit))))))(a1:Ab (.pair (.int .i64) (.pair (.int .i64) (.pair (.int .i64) (.pair (.int .i64) (.unit))))))(a2 a3:Ab (.int .i64)):Option (DenS OB):=let e3_:=(aa .i64 (a3-a1.2.1));let e1_:=((f150 ((a0.1,a0.2),a2,(aa .i64 (e3_+(1:Int))),())).1,());let e2_:=e3_;bif(decide (a3>=a1.2.2.1))then(some (false,()))else bif(p150 ((a0.1,a0.2),a2,(aa .i64 (e2_+(1:Int))),()))then(bif(p151 e1_)then(some ((decide ((aa .i64 (e2_+(f151 e1_).1))<a1.2.2.1)),()))else none)else none
theorem aWZ(x:DenS MO):run (cf [(142,⟨J1,Kp,p150,f150⟩),(98,⟨Fq,Fv,p151,f151⟩)] []) 9 143 Tryz.f143 MO OB x=iR p150 f150 p151 f151 x.1 x.2.1 x.2.2.1 x.2.2.2.1:=by kernel_rfl
def V5(x:DenS MO):Option (DenS OB):=iR Hy.pre Hy.F BS.pre BS.F x.1 x.2.1 x.2.2.1 x.2.2.2.1
def SY:Sum:=Ak MO OB V5 (DenS.dflt OB)
theorem aNi:Sound Tryz.prog G1 143 SY:=sd (cf [(142,Hy),(98,BS)] []) 143 Tryz.f143 ⟨yJ,Vn,trivial⟩ trivial MO OB V5 _ (fun _=>aWZ ..)
abbrev aCn:=Ae MO
abbrev aDR:=Ad MO OB
variable (p152:aCn)(f152:aDR)
abbrev H8:Aa:=[(true,.pair (.bool) (.pair (.slice (.int .u64)) (.pair (.int .i64) (.pair (.bool) (.unit))))),(false,.int .i64),(true,.pair (.int .i64) (.pair (.int .i64) (.pair (.int .i64) (.pair (.int .i64) (.unit))))),(false,.int .i64)]
abbrev Iz:Aa:=[(false,.int .u64),(false,.int .i64)]
def gY(p148:aCl)(f148:aDP)(p150:nB)(f150:oN)(p151:Jr)(f151:Ju)(p149:aCm)(f149:aDQ)(p152:aCn)(f152:aDR)(a0:Ab (.pair (.bool) (.pair (.slice (.int .u64)) (.pair (.int .i64) (.pair (.bool) (.unit))))))(a1:Ab (.int .i64))(a2:Ab (.pair (.int .i64) (.pair (.int .i64) (.pair (.int .i64) (.pair (.int .i64) (.unit))))))(a3:Ab (.int .i64)):Option (DenS Iz):=let e18_:=(aa .i64 ((aa .i64 ((if(a2.2.2.1>(f148 ((a0.1,a0.2),())).1)then a2.2.2.1 else(f148 ((a0.1,a0.2),())).1)-a2.2.1))+(1:Int)));let e21_:=(aa .i64 (a2.2.1-(1:Int)));let e14_:=(Bb .u64 (aa .u64 (aa .i64 (e18_-(aa .i64 ((aa .i64 (a2.2.2.1-a2.2.1))+(1:Int)))))) e21_);let e17_:=((a0.1,a0.2),a3,e18_,());let e16_:=(f150 e17_);let e13_:=(aa .u64 (e14_+(e16_.1.getD (ai (0:Int)) (0:Int))));let e22_:=(aa .i64 (a2.1-(1:Int)));let e19_:=(Bb .u64 (1:Int) e22_);let e1_:=(Ap .u64 e13_ e19_);let e2_:=e13_;let e3_:=(Ap .u64 e14_ e19_);let e15_:=(e16_.1,());let e4_:=(decide ((aa .i64 ((aa .i64 (e18_+(f151 e15_).1))-(1:Int)))>a2.2.2.2.1));let e5_:=e14_;let e6_:=(e16_.1.length:Int);let e7_:=(p151 e15_);let e8_:=(!e16_.2.1);let e9_:=(decide ((0:Int)<=e22_));let e20_:=((a0.1,a0.2),(a2.1,a2.2),a3,(f148 ((a0.1,a0.2),())));let e10_:=(p152 e20_);let e11_:=(f152 e20_);let e12_:=((f149 (a1,a3,a0.1,())).1,(20:Int),());bif(p148 ((a0.1,a0.2),()))then(bif(decide ((f148 ((a0.1,a0.2),())).1>a2.2.2.2.1))then(bif(p149 (a1,a3,a0.1,()))then(some e12_)else none)else bif(p150 e17_)then(bif(decide ((0:Int)<=e21_))then(bif(decide (e6_>(0:Int)))then(bif(decide ((0:Int)<e6_))then(bif e7_ then(bif e4_ then(bif(p149 (a1,a3,a0.1,()))then(some e12_)else none)else bif a0.1 then(bif e9_ then(bif e8_ then(some (e1_,(0:Int),()))else bif e10_ then(bif e11_.1 then(some (e1_,(24:Int),()))else some (e1_,(16:Int),()))else none)else none)else bif e8_ then(some (e2_,(0:Int),()))else bif e10_ then(bif e11_.1 then(some (e2_,(24:Int),()))else some (e2_,(16:Int),()))else none)else none)else none)else bif e7_ then(bif e4_ then(bif(p149 (a1,a3,a0.1,()))then(some e12_)else none)else bif a0.1 then(bif e9_ then(bif e8_ then(some (e3_,(0:Int),()))else bif e10_ then(bif e11_.1 then(some (e3_,(24:Int),()))else some (e3_,(16:Int),()))else none)else none)else bif e8_ then(some (e5_,(0:Int),()))else bif e10_ then(bif e11_.1 then(some (e5_,(24:Int),()))else some (e5_,(16:Int),()))else none)else none)else none)else none)else none
theorem aWv(x:DenS H8):run (cf [(140,⟨MM,Oz,p148,f148⟩),(142,⟨J1,Kp,p150,f150⟩),(98,⟨Fq,Fv,p151,f151⟩),(141,⟨MN,OA,p149,f149⟩),(143,⟨MO,OB,p152,f152⟩)] []) 9 124 Tryz.f124 H8 Iz x=gY p148 f148 p150 f150 p151 f151 p149 f149 p152 f152 x.1 x.2.1 x.2.2.1 x.2.2.2.1:=by kernel_rfl
def VK(x:DenS H8):Option (DenS Iz):=gY SW.pre SW.F Hy.pre Hy.F BS.pre BS.F SX.pre SX.F SY.pre SY.F x.1 x.2.1 x.2.2.1 x.2.2.2.1
def E5:Sum:=Ak H8 Iz VK (DenS.dflt Iz)
theorem lQ:Sound Tryz.prog G1 124 E5:=sd (cf [(140,SW),(142,Hy),(98,BS),(141,SX),(143,SY)] []) 124 Tryz.f124 ⟨aNf,yJ,Vn,aNg,aNi,trivial⟩ trivial H8 Iz VK _ (fun _=>aWv ..)
abbrev Tu:=Ae H8
abbrev TC:=Ad H8 Iz
variable (p107:Tu)(f107:TC)
abbrev EC:Aa:=[(false,.int .i64),(false,.int .i64),(false,.bool),(true,.pair (.int .u64) (.pair (.int .u64) (.unit))),(false,.int .i64),(false,.bool)]
abbrev EY:Aa:=[(false,.int .u64),(false,.int .i64),(false,.int .i64)]
def iD(p105:Tt)(f105:TB)(p102:Gw)(f102:GA)(p151:Jr)(f151:Ju)(p156:bW)(f156:cS)(p107:Tu)(f107:TC)(a0 a1:Ab (.int .i64))(a2:Ab (.bool))(a3:Ab (.pair (.int .u64) (.pair (.int .u64) (.unit))))(a4:Ab (.int .i64))(a5:Ab (.bool)):Option (DenS EY):=let e2_:=((a2,(f102 ((a3.2.1::(a3.1::[])),())).1,a4,a5,()),a0,(f105 (a0,a1,())).1,a1,());let e1_:=(f107 e2_);bif(p105 (a0,a1,()))then(bif((f105 (a0,a1,())).2.1 !=(0:Int))then(some ((0:Int),(0:Int),(f105 (a0,a1,())).2))else bif(p102 ((a3.2.1::(a3.1::[])),()))then(bif((decide (a4<(-(40000:Int))))||(decide (a4>(40000:Int))))then(some ((0:Int),(0:Int),(30:Int),()))else bif((p151 (f102 ((a3.2.1::(a3.1::[])),())))||(!a5))then(bif(a5&&(decide ((f151 (f102 ((a3.2.1::(a3.1::[])),()))).1<(aa .i64 ((f105 (a0,a1,())).1.2.1+(2:Int))))))then(some ((0:Int),(0:Int),(7:Int),()))else bif(((f102 ((a3.2.1::(a3.1::[])),())).1.length:Int)==(0:Int))then(bif(p156 (a0,a2,()))then(some (f156 (a0,a2,())))else none)else bif(p107 e2_)then(some (e1_.1,e1_.2.1,(0:Int),()))else none)else none)else none)else none
theorem aWI(x:DenS EC):run (cf [(121,⟨H7,Iy,p105,f105⟩),(122,⟨EP,EW,p102,f102⟩),(98,⟨Fq,Fv,p151,f151⟩),(123,⟨J2,Kq,p156,f156⟩),(124,⟨H8,Iz,p107,f107⟩)] []) 9 104 Tryz.f104 EC EY x=iD p105 f105 p102 f102 p151 f151 p156 f156 p107 f107 x.1 x.2.1 x.2.2.1 x.2.2.2.1 x.2.2.2.2.1 x.2.2.2.2.2.1:=by kernel_rfl
def VT(x:DenS EC):Option (DenS EY):=iD E4.pre E4.F BR.pre BR.F BS.pre BS.F Hz.pre Hz.F E5.pre E5.F x.1 x.2.1 x.2.2.1 x.2.2.2.1 x.2.2.2.2.1 x.2.2.2.2.2.1
def BP:Sum:=Ak EC EY VT (DenS.dflt EY)
theorem SU:Sound Tryz.prog G1 104 BP:=sd (cf [(121,E4),(122,BR),(98,BS),(123,Hz),(124,E5)] []) 104 Tryz.f104 ⟨lP,Vm,Vn,yK,lQ,trivial⟩ trivial EC EY VT _ (fun _=>aWI ..)
abbrev Gx:=Ae EC
abbrev GB:=Ad EC EY
variable (p122:Gx)(f122:GB)
end Vx
namespace Vx
open Go Go.Proofs
variable (p119:W6)(f119:Xf)(p120:m8)(f120:oK)(p121:m9)(f121:oL)(p123:RK)(f123:RS)(p124:nA)(f124:oM)(p118:HD)(f118:HG)(p122:Gx)(f122:GB)
abbrev Oi:Aa:=[(false,.int .i64),(false,.int .i64),(true,.pair (.bool) (.pair (.int .u64) (.pair (.int .i64) (.unit)))),(true,.pair (.bool) (.pair (.int .u64) (.pair (.int .i64) (.unit))))]
abbrev IX:Aa:=[(false,.int .u64),(false,.int .i64),(false,.int .i64)]
def kL(p119:DenS GU->Bool)(f119:DenS GU->DenS ID)(p120:DenS Ic->Bool)(f120:DenS Ic->DenS Kl)(p121:DenS Ie->Bool)(f121:DenS Ie->DenS Km)(p123:DenS F5->Bool)(f123:DenS F5->DenS G3)(p124:DenS If->Bool)(f124:DenS If->DenS Kn)(p118:DenS EB->Bool)(f118:DenS EB->DenS EX)(p122:DenS EC->Bool)(f122:DenS EC->DenS EY)(f m:Int)(nx:Bool)(X ex:Int)(ny:Bool)(Y ey:Int):Option (DenS IX):=bif(p119 (((0:Int),(X,())),((if((70:Int)<(aa .i64 (ex-ey)))then(70:Int)else(aa .i64 (ex-ey))),())))then(bif(p120 (((0:Int),(Y,())),((aa .i64 ((aa .i64 (ex-(if((70:Int)<(aa .i64 (ex-ey)))then(70:Int)else(aa .i64 (ex-ey)))))-ey)),())))then(bif(p119 ((f120 (((0:Int),(Y,())),((aa .i64 ((aa .i64 (ex-(if((70:Int)<(aa .i64 (ex-ey)))then(70:Int)else(aa .i64 (ex-ey)))))-ey)),()))).1,((aa .i64 ((aa .i64 (ex-(if((70:Int)<(aa .i64 (ex-ey)))then(70:Int)else(aa .i64 (ex-ey)))))-ey)),())))then(bif(p120 (((0:Int),(Y,())),((aa .i64 ((aa .i64 (ex-(if((70:Int)<(aa .i64 (ex-ey)))then(70:Int)else(aa .i64 (ex-ey)))))-ey)),())))then(bif(nx==ny)then(bif(p121 ((f119 (((0:Int),(X,())),((if((70:Int)<(aa .i64 (ex-ey)))then(70:Int)else(aa .i64 (ex-ey))),()))).1,(f120 (((0:Int),(Y,())),((aa .i64 ((aa .i64 (ex-(if((70:Int)<(aa .i64 (ex-ey)))then(70:Int)else(aa .i64 (ex-ey)))))-ey)),())))))then(bif(p122 (f,(m,(nx,((f121 ((f119 (((0:Int),(X,())),((if((70:Int)<(aa .i64 (ex-ey)))then(70:Int)else(aa .i64 (ex-ey))),()))).1,(f120 (((0:Int),(Y,())),((aa .i64 ((aa .i64 (ex-(if((70:Int)<(aa .i64 (ex-ey)))then(70:Int)else(aa .i64 (ex-ey)))))-ey)),()))))).1,((aa .i64 (ex-(if((70:Int)<(aa .i64 (ex-ey)))then(70:Int)else(aa .i64 (ex-ey))))),(((!(((f119 ((f120 (((0:Int),(Y,())),((aa .i64 ((aa .i64 (ex-(if((70:Int)<(aa .i64 (ex-ey)))then(70:Int)else(aa .i64 (ex-ey)))))-ey)),()))).1,((aa .i64 ((aa .i64 (ex-(if((70:Int)<(aa .i64 (ex-ey)))then(70:Int)else(aa .i64 (ex-ey)))))-ey)),()))).1.1==(0:Int))&&((f119 ((f120 (((0:Int),(Y,())),((aa .i64 ((aa .i64 (ex-(if((70:Int)<(aa .i64 (ex-ey)))then(70:Int)else(aa .i64 (ex-ey)))))-ey)),()))).1,((aa .i64 ((aa .i64 (ex-(if((70:Int)<(aa .i64 (ex-ey)))then(70:Int)else(aa .i64 (ex-ey)))))-ey)),()))).1.2.1==Y)))||((decide ((aa .i64 ((aa .i64 (ex-(if((70:Int)<(aa .i64 (ex-ey)))then(70:Int)else(aa .i64 (ex-ey)))))-ey))>(63:Int)))&&(Y !=(0:Int)))),())))))))then(some (f122 (f,(m,(nx,((f121 ((f119 (((0:Int),(X,())),((if((70:Int)<(aa .i64 (ex-ey)))then(70:Int)else(aa .i64 (ex-ey))),()))).1,(f120 (((0:Int),(Y,())),((aa .i64 ((aa .i64 (ex-(if((70:Int)<(aa .i64 (ex-ey)))then(70:Int)else(aa .i64 (ex-ey)))))-ey)),()))))).1,((aa .i64 (ex-(if((70:Int)<(aa .i64 (ex-ey)))then(70:Int)else(aa .i64 (ex-ey))))),(((!(((f119 ((f120 (((0:Int),(Y,())),((aa .i64 ((aa .i64 (ex-(if((70:Int)<(aa .i64 (ex-ey)))then(70:Int)else(aa .i64 (ex-ey)))))-ey)),()))).1,((aa .i64 ((aa .i64 (ex-(if((70:Int)<(aa .i64 (ex-ey)))then(70:Int)else(aa .i64 (ex-ey)))))-ey)),()))).1.1==(0:Int))&&((f119 ((f120 (((0:Int),(Y,())),((aa .i64 ((aa .i64 (ex-(if((70:Int)<(aa .i64 (ex-ey)))then(70:Int)else(aa .i64 (ex-ey)))))-ey)),()))).1,((aa .i64 ((aa .i64 (ex-(if((70:Int)<(aa .i64 (ex-ey)))then(70:Int)else(aa .i64 (ex-ey)))))-ey)),()))).1.2.1==Y)))||((decide ((aa .i64 ((aa .i64 (ex-(if((70:Int)<(aa .i64 (ex-ey)))then(70:Int)else(aa .i64 (ex-ey)))))-ey))>(63:Int)))&&(Y !=(0:Int)))),()))))))))else none)else none)else bif(p123 ((f119 (((0:Int),(X,())),((if((70:Int)<(aa .i64 (ex-ey)))then(70:Int)else(aa .i64 (ex-ey))),()))).1,(f120 (((0:Int),(Y,())),((aa .i64 ((aa .i64 (ex-(if((70:Int)<(aa .i64 (ex-ey)))then(70:Int)else(aa .i64 (ex-ey)))))-ey)),())))))then(bif(decide ((f123 ((f119 (((0:Int),(X,())),((if((70:Int)<(aa .i64 (ex-ey)))then(70:Int)else(aa .i64 (ex-ey))),()))).1,(f120 (((0:Int),(Y,())),((aa .i64 ((aa .i64 (ex-(if((70:Int)<(aa .i64 (ex-ey)))then(70:Int)else(aa .i64 (ex-ey)))))-ey)),()))))).1<(0:Int)))then(bif(p124 ((f120 (((0:Int),(Y,())),((aa .i64 ((aa .i64 (ex-(if((70:Int)<(aa .i64 (ex-ey)))then(70:Int)else(aa .i64 (ex-ey)))))-ey)),()))).1,(f119 (((0:Int),(X,())),((if((70:Int)<(aa .i64 (ex-ey)))then(70:Int)else(aa .i64 (ex-ey))),())))))then(bif((!(((f119 ((f120 (((0:Int),(Y,())),((aa .i64 ((aa .i64 (ex-(if((70:Int)<(aa .i64 (ex-ey)))then(70:Int)else(aa .i64 (ex-ey)))))-ey)),()))).1,((aa .i64 ((aa .i64 (ex-(if((70:Int)<(aa .i64 (ex-ey)))then(70:Int)else(aa .i64 (ex-ey)))))-ey)),()))).1.1==(0:Int))&&((f119 ((f120 (((0:Int),(Y,())),((aa .i64 ((aa .i64 (ex-(if((70:Int)<(aa .i64 (ex-ey)))then(70:Int)else(aa .i64 (ex-ey)))))-ey)),()))).1,((aa .i64 ((aa .i64 (ex-(if((70:Int)<(aa .i64 (ex-ey)))then(70:Int)else(aa .i64 (ex-ey)))))-ey)),()))).1.2.1==Y)))||((decide ((aa .i64 ((aa .i64 (ex-(if((70:Int)<(aa .i64 (ex-ey)))then(70:Int)else(aa .i64 (ex-ey)))))-ey))>(63:Int)))&&(Y !=(0:Int))))then(bif(p124 ((f124 ((f120 (((0:Int),(Y,())),((aa .i64 ((aa .i64 (ex-(if((70:Int)<(aa .i64 (ex-ey)))then(70:Int)else(aa .i64 (ex-ey)))))-ey)),()))).1,(f119 (((0:Int),(X,())),((if((70:Int)<(aa .i64 (ex-ey)))then(70:Int)else(aa .i64 (ex-ey))),()))))).1,(((0:Int),((1:Int),())),())))then(bif((((f124 ((f124 ((f120 (((0:Int),(Y,())),((aa .i64 ((aa .i64 (ex-(if((70:Int)<(aa .i64 (ex-ey)))then(70:Int)else(aa .i64 (ex-ey)))))-ey)),()))).1,(f119 (((0:Int),(X,())),((if((70:Int)<(aa .i64 (ex-ey)))then(70:Int)else(aa .i64 (ex-ey))),()))))).1,(((0:Int),((1:Int),())),()))).1.1==(0:Int))&&((f124 ((f124 ((f120 (((0:Int),(Y,())),((aa .i64 ((aa .i64 (ex-(if((70:Int)<(aa .i64 (ex-ey)))then(70:Int)else(aa .i64 (ex-ey)))))-ey)),()))).1,(f119 (((0:Int),(X,())),((if((70:Int)<(aa .i64 (ex-ey)))then(70:Int)else(aa .i64 (ex-ey))),()))))).1,(((0:Int),((1:Int),())),()))).1.2.1==(0:Int)))&&(!((!(((f119 ((f120 (((0:Int),(Y,())),((aa .i64 ((aa .i64 (ex-(if((70:Int)<(aa .i64 (ex-ey)))then(70:Int)else(aa .i64 (ex-ey)))))-ey)),()))).1,((aa .i64 ((aa .i64 (ex-(if((70:Int)<(aa .i64 (ex-ey)))then(70:Int)else(aa .i64 (ex-ey)))))-ey)),()))).1.1==(0:Int))&&((f119 ((f120 (((0:Int),(Y,())),((aa .i64 ((aa .i64 (ex-(if((70:Int)<(aa .i64 (ex-ey)))then(70:Int)else(aa .i64 (ex-ey)))))-ey)),()))).1,((aa .i64 ((aa .i64 (ex-(if((70:Int)<(aa .i64 (ex-ey)))then(70:Int)else(aa .i64 (ex-ey)))))-ey)),()))).1.2.1==Y)))||((decide ((aa .i64 ((aa .i64 (ex-(if((70:Int)<(aa .i64 (ex-ey)))then(70:Int)else(aa .i64 (ex-ey)))))-ey))>(63:Int)))&&(Y !=(0:Int))))))then(bif(p118 (f,((m==(4:Int)),())))then(some ((f118 (f,((m==(4:Int)),()))).1,((0:Int),((0:Int),()))))else none)else bif(p122 (f,(m,(ny,((f124 ((f124 ((f120 (((0:Int),(Y,())),((aa .i64 ((aa .i64 (ex-(if((70:Int)<(aa .i64 (ex-ey)))then(70:Int)else(aa .i64 (ex-ey)))))-ey)),()))).1,(f119 (((0:Int),(X,())),((if((70:Int)<(aa .i64 (ex-ey)))then(70:Int)else(aa .i64 (ex-ey))),()))))).1,(((0:Int),((1:Int),())),()))).1,((aa .i64 (ex-(if((70:Int)<(aa .i64 (ex-ey)))then(70:Int)else(aa .i64 (ex-ey))))),(((!(((f119 ((f120 (((0:Int),(Y,())),((aa .i64 ((aa .i64 (ex-(if((70:Int)<(aa .i64 (ex-ey)))then(70:Int)else(aa .i64 (ex-ey)))))-ey)),()))).1,((aa .i64 ((aa .i64 (ex-(if((70:Int)<(aa .i64 (ex-ey)))then(70:Int)else(aa .i64 (ex-ey)))))-ey)),()))).1.1==(0:Int))&&((f119 ((f120 (((0:Int),(Y,())),((aa .i64 ((aa .i64 (ex-(if((70:Int)<(aa .i64 (ex-ey)))then(70:Int)else(aa .i64 (ex-ey)))))-ey)),()))).1,((aa .i64 ((aa .i64 (ex-(if((70:Int)<(aa .i64 (ex-ey)))then(70:Int)else(aa .i64 (ex-ey)))))-ey)),()))).1.2.1==Y)))||((decide ((aa .i64 ((aa .i64 (ex-(if((70:Int)<(aa .i64 (ex-ey)))then(70:Int)else(aa .i64 (ex-ey)))))-ey))>(63:Int)))&&(Y !=(0:Int)))),())))))))then(some (f122 (f,(m,(ny,((f124 ((f124 ((f120 (((0:Int),(Y,())),((aa .i64 ((aa .i64 (ex-(if((70:Int)<(aa .i64 (ex-ey)))then(70:Int)else(aa .i64 (ex-ey)))))-ey)),()))).1,(f119 (((0:Int),(X,())),((if((70:Int)<(aa .i64 (ex-ey)))then(70:Int)else(aa .i64 (ex-ey))),()))))).1,(((0:Int),((1:Int),())),()))).1,((aa .i64 (ex-(if((70:Int)<(aa .i64 (ex-ey)))then(70:Int)else(aa .i64 (ex-ey))))),(((!(((f119 ((f120 (((0:Int),(Y,())),((aa .i64 ((aa .i64 (ex-(if((70:Int)<(aa .i64 (ex-ey)))then(70:Int)else(aa .i64 (ex-ey)))))-ey)),()))).1,((aa .i64 ((aa .i64 (ex-(if((70:Int)<(aa .i64 (ex-ey)))then(70:Int)else(aa .i64 (ex-ey)))))-ey)),()))).1.1==(0:Int))&&((f119 ((f120 (((0:Int),(Y,())),((aa .i64 ((aa .i64 (ex-(if((70:Int)<(aa .i64 (ex-ey)))then(70:Int)else(aa .i64 (ex-ey)))))-ey)),()))).1,((aa .i64 ((aa .i64 (ex-(if((70:Int)<(aa .i64 (ex-ey)))then(70:Int)else(aa .i64 (ex-ey)))))-ey)),()))).1.2.1==Y)))||((decide ((aa .i64 ((aa .i64 (ex-(if((70:Int)<(aa .i64 (ex-ey)))then(70:Int)else(aa .i64 (ex-ey)))))-ey))>(63:Int)))&&(Y !=(0:Int)))),()))))))))else none)else none)else bif((((f124 ((f120 (((0:Int),(Y,())),((aa .i64 ((aa .i64 (ex-(if((70:Int)<(aa .i64 (ex-ey)))then(70:Int)else(aa .i64 (ex-ey)))))-ey)),()))).1,(f119 (((0:Int),(X,())),((if((70:Int)<(aa .i64 (ex-ey)))then(70:Int)else(aa .i64 (ex-ey))),()))))).1.1==(0:Int))&&((f124 ((f120 (((0:Int),(Y,())),((aa .i64 ((aa .i64 (ex-(if((70:Int)<(aa .i64 (ex-ey)))then(70:Int)else(aa .i64 (ex-ey)))))-ey)),()))).1,(f119 (((0:Int),(X,())),((if((70:Int)<(aa .i64 (ex-ey)))then(70:Int)else(aa .i64 (ex-ey))),()))))).1.2.1==(0:Int)))&&(!((!(((f119 ((f120 (((0:Int),(Y,())),((aa .i64 ((aa .i64 (ex-(if((70:Int)<(aa .i64 (ex-ey)))then(70:Int)else(aa .i64 (ex-ey)))))-ey)),()))).1,((aa .i64 ((aa .i64 (ex-(if((70:Int)<(aa .i64 (ex-ey)))then(70:Int)else(aa .i64 (ex-ey)))))-ey)),()))).1.1==(0:Int))&&((f119 ((f120 (((0:Int),(Y,())),((aa .i64 ((aa .i64 (ex-(if((70:Int)<(aa .i64 (ex-ey)))then(70:Int)else(aa .i64 (ex-ey)))))-ey)),()))).1,((aa .i64 ((aa .i64 (ex-(if((70:Int)<(aa .i64 (ex-ey)))then(70:Int)else(aa .i64 (ex-ey)))))-ey)),()))).1.2.1==Y)))||((decide ((aa .i64 ((aa .i64 (ex-(if((70:Int)<(aa .i64 (ex-ey)))then(70:Int)else(aa .i64 (ex-ey)))))-ey))>(63:Int)))&&(Y !=(0:Int))))))then(bif(p118 (f,((m==(4:Int)),())))then(some ((f118 (f,((m==(4:Int)),()))).1,((0:Int),((0:Int),()))))else none)else bif(p122 (f,(m,(ny,((f124 ((f120 (((0:Int),(Y,())),((aa .i64 ((aa .i64 (ex-(if((70:Int)<(aa .i64 (ex-ey)))then(70:Int)else(aa .i64 (ex-ey)))))-ey)),()))).1,(f119 (((0:Int),(X,())),((if((70:Int)<(aa .i64 (ex-ey)))then(70:Int)else(aa .i64 (ex-ey))),()))))).1,((aa .i64 (ex-(if((70:Int)<(aa .i64 (ex-ey)))then(70:Int)else(aa .i64 (ex-ey))))),(((!(((f119 ((f120 (((0:Int),(Y,())),((aa .i64 ((aa .i64 (ex-(if((70:Int)<(aa .i64 (ex-ey)))then(70:Int)else(aa .i64 (ex-ey)))))-ey)),()))).1,((aa .i64 ((aa .i64 (ex-(if((70:Int)<(aa .i64 (ex-ey)))then(70:Int)else(aa .i64 (ex-ey)))))-ey)),()))).1.1==(0:Int))&&((f119 ((f120 (((0:Int),(Y,())),((aa .i64 ((aa .i64 (ex-(if((70:Int)<(aa .i64 (ex-ey)))then(70:Int)else(aa .i64 (ex-ey)))))-ey)),()))).1,((aa .i64 ((aa .i64 (ex-(if((70:Int)<(aa .i64 (ex-ey)))then(70:Int)else(aa .i64 (ex-ey)))))-ey)),()))).1.2.1==Y)))||((decide ((aa .i64 ((aa .i64 (ex-(if((70:Int)<(aa .i64 (ex-ey)))then(70:Int)else(aa .i64 (ex-ey)))))-ey))>(63:Int)))&&(Y !=(0:Int)))),())))))))then(some (f122 (f,(m,(ny,((f124 ((f120 (((0:Int),(Y,())),((aa .i64 ((aa .i64 (ex-(if((70:Int)<(aa .i64 (ex-ey)))then(70:Int)else(aa .i64 (ex-ey)))))-ey)),()))).1,(f119 (((0:Int),(X,())),((if((70:Int)<(aa .i64 (ex-ey)))then(70:Int)else(aa .i64 (ex-ey))),()))))).1,((aa .i64 (ex-(if((70:Int)<(aa .i64 (ex-ey)))then(70:Int)else(aa .i64 (ex-ey))))),(((!(((f119 ((f120 (((0:Int),(Y,())),((aa .i64 ((aa .i64 (ex-(if((70:Int)<(aa .i64 (ex-ey)))then(70:Int)else(aa .i64 (ex-ey)))))-ey)),()))).1,((aa .i64 ((aa .i64 (ex-(if((70:Int)<(aa .i64 (ex-ey)))then(70:Int)else(aa .i64 (ex-ey)))))-ey)),()))).1.1==(0:Int))&&((f119 ((f120 (((0:Int),(Y,())),((aa .i64 ((aa .i64 (ex-(if((70:Int)<(aa .i64 (ex-ey)))then(70:Int)else(aa .i64 (ex-ey)))))-ey)),()))).1,((aa .i64 ((aa .i64 (ex-(if((70:Int)<(aa .i64 (ex-ey)))then(70:Int)else(aa .i64 (ex-ey)))))-ey)),()))).1.2.1==Y)))||((decide ((aa .i64 ((aa .i64 (ex-(if((70:Int)<(aa .i64 (ex-ey)))then(70:Int)else(aa .i64 (ex-ey)))))-ey))>(63:Int)))&&(Y !=(0:Int)))),()))))))))else none)else none)else bif(p124 ((f119 (((0:Int),(X,())),((if((70:Int)<(aa .i64 (ex-ey)))then(70:Int)else(aa .i64 (ex-ey))),()))).1,(f120 (((0:Int),(Y,())),((aa .i64 ((aa .i64 (ex-(if((70:Int)<(aa .i64 (ex-ey)))then(70:Int)else(aa .i64 (ex-ey)))))-ey)),())))))then(bif((!(((f119 ((f120 (((0:Int),(Y,())),((aa .i64 ((aa .i64 (ex-(if((70:Int)<(aa .i64 (ex-ey)))then(70:Int)else(aa .i64 (ex-ey)))))-ey)),()))).1,((aa .i64 ((aa .i64 (ex-(if((70:Int)<(aa .i64 (ex-ey)))then(70:Int)else(aa .i64 (ex-ey)))))-ey)),()))).1.1==(0:Int))&&((f119 ((f120 (((0:Int),(Y,())),((aa .i64 ((aa .i64 (ex-(if((70:Int)<(aa .i64 (ex-ey)))then(70:Int)else(aa .i64 (ex-ey)))))-ey)),()))).1,((aa .i64 ((aa .i64 (ex-(if((70:Int)<(aa .i64 (ex-ey)))then(70:Int)else(aa .i64 (ex-ey)))))-ey)),()))).1.2.1==Y)))||((decide ((aa .i64 ((aa .i64 (ex-(if((70:Int)<(aa .i64 (ex-ey)))then(70:Int)else(aa .i64 (ex-ey)))))-ey))>(63:Int)))&&(Y !=(0:Int))))then(bif(p124 ((f124 ((f119 (((0:Int),(X,())),((if((70:Int)<(aa .i64 (ex-ey)))then(70:Int)else(aa .i64 (ex-ey))),()))).1,(f120 (((0:Int),(Y,())),((aa .i64 ((aa .i64 (ex-(if((70:Int)<(aa .i64 (ex-ey)))then(70:Int)else(aa .i64 (ex-ey)))))-ey)),()))))).1,(((0:Int),((1:Int),())),())))then(bif((((f124 ((f124 ((f119 (((0:Int),(X,())),((if((70:Int)<(aa .i64 (ex-ey)))then(70:Int)else(aa .i64 (ex-ey))),()))).1,(f120 (((0:Int),(Y,())),((aa .i64 ((aa .i64 (ex-(if((70:Int)<(aa .i64 (ex-ey)))then(70:Int)else(aa .i64 (ex-ey)))))-ey)),()))))).1,(((0:Int),((1:Int),())),()))).1.1==(0:Int))&&((f124 ((f124 ((f119 (((0:Int),(X,())),((if((70:Int)<(aa .i64 (ex-ey)))then(70:Int)else(aa .i64 (ex-ey))),()))).1,(f120 (((0:Int),(Y,())),((aa .i64 ((aa .i64 (ex-(if((70:Int)<(aa .i64 (ex-ey)))then(70:Int)else(aa .i64 (ex-ey)))))-ey)),()))))).1,(((0:Int),((1:Int),())),()))).1.2.1==(0:Int)))&&(!((!(((f119 ((f120 (((0:Int),(Y,())),((aa .i64 ((aa .i64 (ex-(if((70:Int)<(aa .i64 (ex-ey)))then(70:Int)else(aa .i64 (ex-ey)))))-ey)),()))).1,((aa .i64 ((aa .i64 (ex-(if((70:Int)<(aa .i64 (ex-ey)))then(70:Int)else(aa .i64 (ex-ey)))))-ey)),()))).1.1==(0:Int))&&((f119 ((f120 (((0:Int),(Y,())),((aa .i64 ((aa .i64 (ex-(if((70:Int)<(aa .i64 (ex-ey)))then(70:Int)else(aa .i64 (ex-ey)))))-ey)),()))).1,((aa .i64 ((aa .i64 (ex-(if((70:Int)<(aa .i64 (ex-ey)))then(70:Int)else(aa .i64 (ex-ey)))))-ey)),()))).1.2.1==Y)))||((decide ((aa .i64 ((aa .i64 (ex-(if((70:Int)<(aa .i64 (ex-ey)))then(70:Int)else(aa .i64 (ex-ey)))))-ey))>(63:Int)))&&(Y !=(0:Int))))))then(bif(p118 (f,((m==(4:Int)),())))then(some ((f118 (f,((m==(4:Int)),()))).1,((0:Int),((0:Int),()))))else none)else bif(p122 (f,(m,(nx,((f124 ((f124 ((f119 (((0:Int),(X,())),((if((70:Int)<(aa .i64 (ex-ey)))then(70:Int)else(aa .i64 (ex-ey))),()))).1,(f120 (((0:Int),(Y,())),((aa .i64 ((aa .i64 (ex-(if((70:Int)<(aa .i64 (ex-ey)))then(70:Int)else(aa .i64 (ex-ey)))))-ey)),()))))).1,(((0:Int),((1:Int),())),()))).1,((aa .i64 (ex-(if((70:Int)<(aa .i64 (ex-ey)))then(70:Int)else(aa .i64 (ex-ey))))),(((!(((f119 ((f120 (((0:Int),(Y,())),((aa .i64 ((aa .i64 (ex-(if((70:Int)<(aa .i64 (ex-ey)))then(70:Int)else(aa .i64 (ex-ey)))))-ey)),()))).1,((aa .i64 ((aa .i64 (ex-(if((70:Int)<(aa .i64 (ex-ey)))then(70:Int)else(aa .i64 (ex-ey)))))-ey)),()))).1.1==(0:Int))&&((f119 ((f120 (((0:Int),(Y,())),((aa .i64 ((aa .i64 (ex-(if((70:Int)<(aa .i64 (ex-ey)))then(70:Int)else(aa .i64 (ex-ey)))))-ey)),()))).1,((aa .i64 ((aa .i64 (ex-(if((70:Int)<(aa .i64 (ex-ey)))then(70:Int)else(aa .i64 (ex-ey)))))-ey)),()))).1.2.1==Y)))||((decide ((aa .i64 ((aa .i64 (ex-(if((70:Int)<(aa .i64 (ex-ey)))then(70:Int)else(aa .i64 (ex-ey)))))-ey))>(63:Int)))&&(Y !=(0:Int)))),())))))))then(some (f122 (f,(m,(nx,((f124 ((f124 ((f119 (((0:Int),(X,())),((if((70:Int)<(aa .i64 (ex-ey)))then(70:Int)else(aa .i64 (ex-ey))),()))).1,(f120 (((0:Int),(Y,())),((aa .i64 ((aa .i64 (ex-(if((70:Int)<(aa .i64 (ex-ey)))then(70:Int)else(aa .i64 (ex-ey)))))-ey)),()))))).1,(((0:Int),((1:Int),())),()))).1,((aa .i64 (ex-(if((70:Int)<(aa .i64 (ex-ey)))then(70:Int)else(aa .i64 (ex-ey))))),(((!(((f119 ((f120 (((0:Int),(Y,())),((aa .i64 ((aa .i64 (ex-(if((70:Int)<(aa .i64 (ex-ey)))then(70:Int)else(aa .i64 (ex-ey)))))-ey)),()))).1,((aa .i64 ((aa .i64 (ex-(if((70:Int)<(aa .i64 (ex-ey)))then(70:Int)else(aa .i64 (ex-ey)))))-ey)),()))).1.1==(0:Int))&&((f119 ((f120 (((0:Int),(Y,())),((aa .i64 ((aa .i64 (ex-(if((70:Int)<(aa .i64 (ex-ey)))then(70:Int)else(aa .i64 (ex-ey)))))-ey)),()))).1,((aa .i64 ((aa .i64 (ex-(if((70:Int)<(aa .i64 (ex-ey)))then(70:Int)else(aa .i64 (ex-ey)))))-ey)),()))).1.2.1==Y)))||((decide ((aa .i64 ((aa .i64 (ex-(if((70:Int)<(aa .i64 (ex-ey)))then(70:Int)else(aa .i64 (ex-ey)))))-ey))>(63:Int)))&&(Y !=(0:Int)))),()))))))))else none)else none)else bif((((f124 ((f119 (((0:Int),(X,())),((if((70:Int)<(aa .i64 (ex-ey)))then(70:Int)else(aa .i64 (ex-ey))),()))).1,(f120 (((0:Int),(Y,())),((aa .i64 ((aa .i64 (ex-(if((70:Int)<(aa .i64 (ex-ey)))then(70:Int)else(aa .i64 (ex-ey)))))-ey)),()))))).1.1==(0:Int))&&((f124 ((f119 (((0:Int),(X,())),((if((70:Int)<(aa .i64 (ex-ey)))then(70:Int)else(aa .i64 (ex-ey))),()))).1,(f120 (((0:Int),(Y,())),((aa .i64 ((aa .i64 (ex-(if((70:Int)<(aa .i64 (ex-ey)))then(70:Int)else(aa .i64 (ex-ey)))))-ey)),()))))).1.2.1==(0:Int)))&&(!((!(((f119 ((f120 (((0:Int),(Y,())),((aa .i64 ((aa .i64 (ex-(if((70:Int)<(aa .i64 (ex-ey)))then(70:Int)else(aa .i64 (ex-ey)))))-ey)),()))).1,((aa .i64 ((aa .i64 (ex-(if((70:Int)<(aa .i64 (ex-ey)))then(70:Int)else(aa .i64 (ex-ey)))))-ey)),()))).1.1==(0:Int))&&((f119 ((f120 (((0:Int),(Y,())),((aa .i64 ((aa .i64 (ex-(if((70:Int)<(aa .i64 (ex-ey)))then(70:Int)else(aa .i64 (ex-ey)))))-ey)),()))).1,((aa .i64 ((aa .i64 (ex-(if((70:Int)<(aa .i64 (ex-ey)))then(70:Int)else(aa .i64 (ex-ey)))))-ey)),()))).1.2.1==Y)))||((decide ((aa .i64 ((aa .i64 (ex-(if((70:Int)<(aa .i64 (ex-ey)))then(70:Int)else(aa .i64 (ex-ey)))))-ey))>(63:Int)))&&(Y !=(0:Int))))))then(bif(p118 (f,((m==(4:Int)),())))then(some ((f118 (f,((m==(4:Int)),()))).1,((0:Int),((0:Int),()))))else none)else bif(p122 (f,(m,(nx,((f124 ((f119 (((0:Int),(X,())),((if((70:Int)<(aa .i64 (ex-ey)))then(70:Int)else(aa .i64 (ex-ey))),()))).1,(f120 (((0:Int),(Y,())),((aa .i64 ((aa .i64 (ex-(if((70:Int)<(aa .i64 (ex-ey)))then(70:Int)else(aa .i64 (ex-ey)))))-ey)),()))))).1,((aa .i64 (ex-(if((70:Int)<(aa .i64 (ex-ey)))then(70:Int)else(aa .i64 (ex-ey))))),(((!(((f119 ((f120 (((0:Int),(Y,())),((aa .i64 ((aa .i64 (ex-(if((70:Int)<(aa .i64 (ex-ey)))then(70:Int)else(aa .i64 (ex-ey)))))-ey)),()))).1,((aa .i64 ((aa .i64 (ex-(if((70:Int)<(aa .i64 (ex-ey)))then(70:Int)else(aa .i64 (ex-ey)))))-ey)),()))).1.1==(0:Int))&&((f119 ((f120 (((0:Int),(Y,())),((aa .i64 ((aa .i64 (ex-(if((70:Int)<(aa .i64 (ex-ey)))then(70:Int)else(aa .i64 (ex-ey)))))-ey)),()))).1,((aa .i64 ((aa .i64 (ex-(if((70:Int)<(aa .i64 (ex-ey)))then(70:Int)else(aa .i64 (ex-ey)))))-ey)),()))).1.2.1==Y)))||((decide ((aa .i64 ((aa .i64 (ex-(if((70:Int)<(aa .i64 (ex-ey)))then(70:Int)else(aa .i64 (ex-ey)))))-ey))>(63:Int)))&&(Y !=(0:Int)))),())))))))then(some (f122 (f,(m,(nx,((f124 ((f119 (((0:Int),(X,())),((if((70:Int)<(aa .i64 (ex-ey)))then(70:Int)else(aa .i64 (ex-ey))),()))).1,(f120 (((0:Int),(Y,())),((aa .i64 ((aa .i64 (ex-(if((70:Int)<(aa .i64 (ex-ey)))then(70:Int)else(aa .i64 (ex-ey)))))-ey)),()))))).1,((aa .i64 (ex-(if((70:Int)<(aa .i64 (ex-ey)))then(70:Int)else(aa .i64 (ex-ey))))),(((!(((f119 ((f120 (((0:Int),(Y,())),((aa .i64 ((aa .i64 (ex-(if((70:Int)<(aa .i64 (ex-ey)))then(70:Int)else(aa .i64 (ex-ey)))))-ey)),()))).1,((aa .i64 ((aa .i64 (ex-(if((70:Int)<(aa .i64 (ex-ey)))then(70:Int)else(aa .i64 (ex-ey)))))-ey)),()))).1.1==(0:Int))&&((f119 ((f120 (((0:Int),(Y,())),((aa .i64 ((aa .i64 (ex-(if((70:Int)<(aa .i64 (ex-ey)))then(70:Int)else(aa .i64 (ex-ey)))))-ey)),()))).1,((aa .i64 ((aa .i64 (ex-(if((70:Int)<(aa .i64 (ex-ey)))then(70:Int)else(aa .i64 (ex-ey)))))-ey)),()))).1.2.1==Y)))||((decide ((aa .i64 ((aa .i64 (ex-(if((70:Int)<(aa .i64 (ex-ey)))then(70:Int)else(aa .i64 (ex-ey)))))-ey))>(63:Int)))&&(Y !=(0:Int)))),()))))))))else none)else none)else none)else none)else none)else none)else none
def t71(p119:W6)(f119:Xf)(p120:m8)(f120:oK)(p121:m9)(f121:oL)(p123:RK)(f123:RS)(p124:nA)(f124:oM)(p118:HD)(f118:HG)(p122:Gx)(f122:GB)(a0 a1:Ab (.int .i64))(a2 a3:Ab (.pair (.bool) (.pair (.int .u64) (.pair (.int .i64) (.unit))))):Option (DenS IX):=bif(((a2.2.1==(0:Int))&&(a3.2.1==(0:Int)))&&(a2.1==a3.1))then(bif(p118 (a0,a2.1,()))then(some ((f118 (a0,a2.1,())).1,(0:Int),(0:Int),()))else none)else bif((a2.2.1==(0:Int))||((a3.2.1 !=(0:Int))&&(decide (a2.2.2.1<a3.2.2.1))))then(bif(a2.2.1==(0:Int))then(kL p119 f119 p120 f120 p121 f121 p123 f123 p124 f124 p118 f118 p122 f122 a0 a1 a3.1 a3.2.1 a3.2.2.1 a2.1 a2.2.1 a3.2.2.1)else(kL p119 f119 p120 f120 p121 f121 p123 f123 p124 f124 p118 f118 p122 f122 a0 a1 a3.1 a3.2.1 a3.2.2.1 a2.1 a2.2.1 a2.2.2.1))else bif(a3.2.1==(0:Int))then(kL p119 f119 p120 f120 p121 f121 p123 f123 p124 f124 p118 f118 p122 f122 a0 a1 a2.1 a2.2.1 a2.2.2.1 a3.1 a3.2.1 a2.2.2.1)else(kL p119 f119 p120 f120 p121 f121 p123 f123 p124 f124 p118 f118 p122 f122 a0 a1 a2.1 a2.2.1 a2.2.2.1 a3.1 a3.2.1 a3.2.2.1)
theorem r71(x:DenS Oi):run (cf [(208,⟨GU,ID,p119,f119⟩),(234,⟨Ic,Kl,p120,f120⟩),(235,⟨Ie,Km,p121,f121⟩),(236,⟨F5,G3,p123,f123⟩),(237,⟨If,Kn,p124,f124⟩),(64,⟨EB,EX,p118,f118⟩),(104,⟨EC,EY,p122,f122⟩)] []) 9 193 Tryz.f193 Oi IX x=t71 p119 f119 p120 f120 p121 f121 p123 f123 p124 f124 p118 f118 p122 f122 x.1 x.2.1 x.2.2.1 x.2.2.2.1:=by kernel_rfl
def Tr(x:DenS Oi):Option (DenS IX):=t71 AH.pre AH.F AJ.pre AJ.F Lc.pre Lc.F DX.pre DX.F BB.pre BB.F Bx.pre Bx.F BP.pre BP.F x.1 x.2.1 x.2.2.1 x.2.2.2.1
def QE:Sum:=Ak Oi IX Tr (DenS.dflt IX)
theorem aOv:Sound Tryz.prog G1 193 QE:=sd (cf [(208,AH),(234,AJ),(235,Lc),(236,DX),(237,BB),(64,Bx),(104,BP)] []) 193 Tryz.f193 ⟨yF,aM9,aNa,yG,aNb,SS,SU,trivial⟩ trivial Oi IX Tr _ (fun _=>r71 ..)
abbrev oE:=Ae Oi
abbrev pT:=Ad Oi IX
variable (p71:oE)(f71:pT)
end Vx
namespace Vx
open Go Go.Proofs
variable (p69:Bq)(f69:Br)(p66:BL)(f66:BM)(p91:Gz)(f91:GD)(p90:Xb)(f90:Xk)(p65:Dx)(f65:Dy)(p70:De)(f70:Df)(p98:Jt)(f98:Jw)(p72:oF)(f72:pU)(p155:CW)(f155:CX)(p157:Gy)(f157:GC)(p118:HD)(f118:HG)(p105:Tt)(f105:TB)(p173:AZ)(f173:A1)(p146:RM)(f146:RU)(p102:Gw)(f102:GA)(p178:HF)(f178:HI)(p151:Jr)(f151:Ju)(p156:bW)(f156:cS)(p1173:QK)(f1173:QN)(p171:QL)(f171:QO)(p92:Js)(f92:Jv)(p186:RP)(f186:RX)(p185:RO)(f185:RW)(p176:RN)(f176:RV)(p143:LM)(f143:LP)(p97:LO)(f97:LR)(p107:Tu)(f107:TC)(p122:Gx)(f122:GB)(p71:oE)(f71:pT)
abbrev J4:Aa:=[(false,.int .i64),(false,.int .i64),(false,.int .u64),(false,.int .u64)]
abbrev Kr:Aa:=[(false,.int .u64),(false,.int .i64),(false,.int .i64)]
def i3(p69:Bq)(f69:Br)(p65:Dx)(f65:Dy)(p70:De)(f70:Df)(p72:oF)(f72:pU)(p71:oE)(f71:pT)(a0 a1:Ab (.int .i64))(a2 a3:Ab (.int .u64)):Option (DenS Kr):=let e1_:=(a0,a1,(f72 (a0,(f69 (a0,())).1,a2,())).1,(f72 (a0,(f69 (a0,())).1,a3,())));let e2_:=(((f65 (a0,a2,())).1==(2:Int))||((f65 (a0,a2,())).1==(9:Int)));let e3_:=(((f65 (a0,a3,())).1==(2:Int))||((f65 (a0,a3,())).1==(9:Int)));let e4_:=((f70 (a0,())).1,(1:Int),(0:Int),());bif(p69 (a0,()))then(bif((f69 (a0,())).2.1 !=(0:Int))then(some ((0:Int),(0:Int),(f69 (a0,())).2))else bif((decide (a1<(0:Int)))||(decide (a1>(5:Int))))then(some ((0:Int),(0:Int),(3:Int),()))else bif(p65 (a0,a2,()))then(bif((f65 (a0,a2,())).2.1 !=(0:Int))then(some ((0:Int),(0:Int),(f65 (a0,a2,())).2))else bif(p65 (a0,a3,()))then(bif((f65 (a0,a3,())).2.1 !=(0:Int))then(some ((0:Int),(0:Int),(f65 (a0,a3,())).2))else bif(p70 (a0,()))then(bif(((f65 (a0,a2,())).1==(0:Int))||((f65 (a0,a3,())).1==(0:Int)))then(some e4_)else bif(((f65 (a0,a2,())).1==(1:Int))||((f65 (a0,a3,())).1==(1:Int)))then(some ((f70 (a0,())).1,(0:Int),(0:Int),()))else bif((e2_&&e3_)&&((f65 (a0,a2,())).1 !=(f65 (a0,a3,())).1))then(some e4_)else bif e2_ then(some (a2,(0:Int),(0:Int),()))else bif e3_ then(some (a3,(0:Int),(0:Int),()))else bif(p72 (a0,(f69 (a0,())).1,a2,()))then(bif(p72 (a0,(f69 (a0,())).1,a3,()))then(bif(p71 e1_)then(some (f71 e1_))else none)else none)else none)else none)else none)else none)else none
theorem r27(x:DenS J4):run (cf [(71,⟨BJ,BK,p69,f69⟩),(59,⟨Dr,Ds,p65,f65⟩),(61,⟨Da,Db,p70,f70⟩),(194,⟨Oj,P1,p72,f72⟩),(193,⟨Oi,IX,p71,f71⟩)] []) 9 158 Tryz.f158 J4 Kr x=i3 p69 f69 p65 f65 p70 f70 p72 f72 p71 f71 x.1 x.2.1 x.2.2.1 x.2.2.2.1:=by kernel_rfl
def Wa(x:DenS J4):Option (DenS Kr):=i3 An.pre An.F AY.pre AY.F AR.pre AR.F QF.pre QF.F QE.pre QE.F x.1 x.2.1 x.2.2.1 x.2.2.2.1
def E7:Sum:=Ak J4 Kr Wa (DenS.dflt Kr)
theorem lY:Sound Tryz.prog G1 158 E7:=sd (cf [(71,An),(59,AY),(61,AR),(194,QF),(193,QE)] []) 158 Tryz.f158 ⟨Dk,HA,FK,aOw,aOv,trivial⟩ trivial J4 Kr Wa _ (fun _=>r27 ..)
abbrev bX:=Ae J4
abbrev cT:=Ad J4 Kr
variable (p27:bX)(f27:cT)
abbrev Ia:Aa:=[(false,.int .i64)]
abbrev IB:Aa:=[(false,.int .u64)]
def aJF(a0:Ab (.int .i64)):Option (DenS IB):=let e1_:=(aa .i64 ((Vx.k_rows.getD (ai a0) ((0:Int),(0:Int),(0:Int),(0:Int),())).1-(1:Int)));bif((decide ((0:Int)<=a0))&&(decide (a0<((4:Nat):Int))))then(bif(decide ((0:Int)<=e1_))then(some ((Bb .u64 (1:Int) e1_),()))else none)else none
theorem aWy(x:DenS Ia):run (cf [] []) 9 233 Tryz.f233 Ia IB x=aJF x.1:=by kernel_rfl
def VM(x:DenS Ia):Option (DenS IB):=aJF x.1
def E6:Sum:=Ak Ia IB VM (DenS.dflt IB)
theorem lS:Sound Tryz.prog G1 233 E6:=sd (cf [] []) 233 Tryz.f233 trivial trivial Ia IB VM _ (fun _=>aWy ..)
abbrev W5:=Ae Ia
abbrev Xe:=Ad Ia IB
variable (p115:W5)(f115:Xe)
abbrev Iu:Aa:=[(false,.int .i64),(false,.int .u64)]
abbrev IW:Aa:=[(false,.int .u64),(false,.int .i64)]
def kB(p66:BL)(f66:BM)(p115:W5)(f115:Xe)(a0:Ab (.int .i64))(a1:Ab (.int .u64)):Option (DenS IW):=bif(p66 (a0,a1,()))then(bif((f66 (a0,a1,())).1 !=(0:Int))then(some ((0:Int),(f66 (a0,a1,()))))else bif(p115 (a0,()))then(some ((kT .u64 a1 (f115 (a0,())).1),(0:Int),()))else none)else none
theorem r64(x:DenS Iu):run (cf [(85,⟨B7,B8,p66,f66⟩),(233,⟨Ia,IB,p115,f115⟩)] []) 9 187 Tryz.f187 Iu IW x=kB p66 f66 p115 f115 x.1 x.2.1:=by kernel_rfl
def WN(x:DenS Iu):Option (DenS IW):=kB Aq.pre Aq.F E6.pre E6.F x.1 x.2.1
def EG:Sum:=Ak Iu IW WN (DenS.dflt IW)
theorem aS:Sound Tryz.prog G1 187 EG:=sd (cf [(85,Aq),(233,E6)] []) 187 Tryz.f187 ⟨E9,lS,trivial⟩ trivial Iu IW WN _ (fun _=>r64 ..)
abbrev TA:=Ae Iu
abbrev TI:=Ad Iu IW
variable (p64:TA)(f64:TI)
abbrev MX:Aa:=[(false,.int .i64),(false,.int .i64),(false,.int .u64),(false,.int .u64)]
abbrev OL:Aa:=[(false,.int .u64),(false,.int .i64),(false,.int .i64)]
def i2(p66:BL)(f66:BM)(p64:TA)(f64:TI)(p27:bX)(f27:cT)(a0 a1:Ab (.int .i64))(a2 a3:Ab (.int .u64)):Option (DenS OL):=let e1_:=(a0,a1,a2,(f64 (a0,a3,())).1,());bif(p66 (a0,a3,()))then(bif((f66 (a0,a3,())).1==(0:Int))then(bif(p64 (a0,a3,()))then(bif(p27 e1_)then(some (f27 e1_))else none)else none)else bif(p27 (a0,a1,a2,a3,()))then(some (f27 (a0,a1,a2,a3,())))else none)else none
theorem r25(x:DenS MX):run (cf [(85,⟨B7,B8,p66,f66⟩),(187,⟨Iu,IW,p64,f64⟩),(158,⟨J4,Kr,p27,f27⟩)] []) 9 159 Tryz.f159 MX OL x=i2 p66 f66 p64 f64 p27 f27 x.1 x.2.1 x.2.2.1 x.2.2.2.1:=by kernel_rfl
def V9(x:DenS MX):Option (DenS OL):=i2 Aq.pre Aq.F EG.pre EG.F E7.pre E7.F x.1 x.2.1 x.2.2.1 x.2.2.2.1
def Ld:Sum:=Ak MX OL V9 (DenS.dflt OL)
theorem yP:Sound Tryz.prog G1 159 Ld:=sd (cf [(85,Aq),(187,EG),(158,E7)] []) 159 Tryz.f159 ⟨E9,aS,lY,trivial⟩ trivial MX OL V9 _ (fun _=>r25 ..)
abbrev nC:=Ae MX
abbrev oO:=Ad MX OL
variable (p25:nC)(f25:oO)
abbrev M7:Aa:=[(false,.int .i64),(true,.pair (.int .i64) (.pair (.int .i64) (.pair (.int .i64) (.pair (.int .i64) (.unit))))),(false,.int .u64)]
abbrev OV:Aa:=[(true,.pair (.int .i64) (.pair (.bool) (.pair (.int .u64) (.pair (.int .i64) (.unit))))),(false,.int .i64)]
def U3(p65:Dx)(f65:Dy)(p98:Jt)(f98:Jw)(a0:Ab (.int .i64))(a1:Ab (.pair (.int .i64) (.pair (.int .i64) (.pair (.int .i64) (.pair (.int .i64) (.unit))))))(a2:Ab (.int .u64)):Option (DenS OV):=let e1_:=(aa .i64 (a1.2.1-(1:Int)));bif(p65 (a0,a2,()))then(bif((f65 (a0,a2,())).2.1 !=(0:Int))then(some (((0:Int),false,(0:Int),(0:Int),()),(f65 (a0,a2,())).2))else bif(p98 (a0,a2,()))then(bif((f98 (a0,a2,())).2.1==(0:Int))then(some (((f65 (a0,a2,())).1,(f98 (a0,a2,())).1,(f98 (a0,a2,())).2.2.1,(aa .i64 ((aa .i64 ((aa .i64 ((aa .i64 ((aa .i64 (1:Int))-(1:Int)))+a1.2.2.1))-a1.2.1))+(1:Int))),()),(0:Int),()))else bif(decide ((0:Int)<=e1_))then(some (((f65 (a0,a2,())).1,(f98 (a0,a2,())).1,(Ap .u64 (f98 (a0,a2,())).2.2.1 (Bb .u64 (1:Int) e1_)),(aa .i64 ((aa .i64 ((aa .i64 ((aa .i64 ((aa .i64 (f98 (a0,a2,())).2.1)-(1:Int)))+a1.2.2.1))-a1.2.1))+(1:Int))),()),(0:Int),()))else none)else none)else none
theorem aXz(x:DenS M7):run (cf [(59,⟨Dr,Ds,p65,f65⟩),(91,⟨EQ,E2,p98,f98⟩)] []) 9 195 Tryz.f195 M7 OV x=U3 p65 f65 p98 f98 x.1 x.2.1 x.2.2.1:=by kernel_rfl
def Td(x:DenS M7):Option (DenS OV):=U3 AY.pre AY.F BT.pre BT.F x.1 x.2.1 x.2.2.1
def Qb:Sum:=Ak M7 OV Td (DenS.dflt OV)
theorem aND:Sound Tryz.prog G1 195 Qb:=sd (cf [(59,AY),(91,BT)] []) 195 Tryz.f195 ⟨HA,Rz,trivial⟩ trivial M7 OV Td _ (fun _=>aXz ..)
abbrev aCA:=Ae M7
abbrev aD4:=Ad M7 OV
variable (p350:aCA)(f350:aD4)
abbrev M8:Aa:=[(true,.pair (.int .i64) (.pair (.bool) (.pair (.int .u64) (.pair (.int .i64) (.unit)))))]
abbrev OW:Aa:=[(false,.bool)]
def aJ0(a0:Ab (.pair (.int .i64) (.pair (.bool) (.pair (.int .u64) (.pair (.int .i64) (.unit)))))):Option (DenS OW):=some (((a0.1==(1:Int))||(a0.1==(0:Int))),())
theorem aXA(x:DenS M8):run (cf [] []) 9 196 Tryz.f196 M8 OW x=aJ0 x.1:=by kernel_rfl
def Wm(x:DenS M8):Option (DenS OW):=aJ0 x.1
def Qc:Sum:=Ak M8 OW Wm (DenS.dflt OW)
theorem aNE:Sound Tryz.prog G1 196 Qc:=sd (cf [] []) 196 Tryz.f196 trivial trivial M8 OW Wm _ (fun _=>aXA ..)
abbrev aCB:=Ae M8
abbrev aD5:=Ad M8 OW
variable (p351:aCB)(f351:aD5)
abbrev M9:Aa:=[(true,.pair (.int .i64) (.pair (.bool) (.pair (.int .u64) (.pair (.int .i64) (.unit)))))]
abbrev OX:Aa:=[(false,.bool)]
def aJ1(a0:Ab (.pair (.int .i64) (.pair (.bool) (.pair (.int .u64) (.pair (.int .i64) (.unit)))))):Option (DenS OX):=some (((a0.1==(2:Int))||(a0.1==(9:Int))),())
theorem aXB(x:DenS M9):run (cf [] []) 9 197 Tryz.f197 M9 OX x=aJ1 x.1:=by kernel_rfl
def Wn(x:DenS M9):Option (DenS OX):=aJ1 x.1
def Qd:Sum:=Ak M9 OX Wn (DenS.dflt OX)
theorem aNF:Sound Tryz.prog G1 197 Qd:=sd (cf [] []) 197 Tryz.f197 trivial trivial M9 OX Wn _ (fun _=>aXB ..)
abbrev aCC:=Ae M9
abbrev aD6:=Ad M9 OX
variable (p352:aCC)(f352:aD6)
abbrev Na:Aa:=[(true,.pair (.int .i64) (.pair (.bool) (.pair (.int .u64) (.pair (.int .i64) (.unit)))))]
abbrev OY:Aa:=[(false,.bool)]
def aJ2(a0:Ab (.pair (.int .i64) (.pair (.bool) (.pair (.int .u64) (.pair (.int .i64) (.unit)))))):Option (DenS OY):=some (((a0.1==(5:Int))||(a0.1==(6:Int))),())
theorem aXC(x:DenS Na):run (cf [] []) 9 198 Tryz.f198 Na OY x=aJ2 x.1:=by kernel_rfl
def Wo(x:DenS Na):Option (DenS OY):=aJ2 x.1
def Qe:Sum:=Ak Na OY Wo (DenS.dflt OY)
theorem aNG:Sound Tryz.prog G1 198 Qe:=sd (cf [] []) 198 Tryz.f198 trivial trivial Na OY Wo _ (fun _=>aXC ..)
abbrev aCD:=Ae Na
abbrev aD7:=Ad Na OY
variable (p353:aCD)(f353:aD7)
abbrev Ea:Aa:=[(false,.int .u64),(false,.int .u64)]
abbrev Ee:Aa:=[(false,.int .u64),(false,.int .u64)]
def i4(a0 a1:Ab (.int .u64)):Option (DenS Ee):=let e2_:=(BA .u64 a1 (4294967295:Int));let e3_:=(BA .u64 a0 (4294967295:Int));let e1_:=(aa .u64 ((aa .u64 ((AL .u64 a0 (32:Int))*e2_))+(AL .u64 (aa .u64 (e3_*e2_)) (32:Int))));some ((aa .u64 ((aa .u64 ((aa .u64 ((AL .u64 a0 (32:Int))*(AL .u64 a1 (32:Int))))+(AL .u64 e1_ (32:Int))))+(AL .u64 (aa .u64 ((BA .u64 e1_ (4294967295:Int))+(aa .u64 (e3_*(AL .u64 a1 (32:Int)))))) (32:Int)))),(aa .u64 (a0*a1)),())
theorem aXl(x:DenS Ea):run (cf [] []) 9 120 Tryz.f120 Ea Ee x=i4 x.1 x.2.1:=by kernel_rfl
def Wb(x:DenS Ea):Option (DenS Ee):=i4 x.1 x.2.1
def AQ:Sum:=Ak Ea Ee Wb (DenS.dflt Ee)
theorem ZW:Sound Tryz.prog G1 120 AQ:=sd (cf [] []) 120 Tryz.f120 trivial trivial Ea Ee Wb _ (fun _=>aXl ..)
abbrev En:=Ae Ea
abbrev Ep:=Ad Ea Ee
variable (p315:En)(f315:Ep)
abbrev Il:Aa:=[(false,.int .u64),(false,.int .u64)]
abbrev IJ:Aa:=[(true,.pair (.int .u64) (.pair (.int .u64) (.unit)))]
def i5(p315:En)(f315:Ep)(a0 a1:Ab (.int .u64)):Option (DenS IJ):=bif(p315 (a0,a1,()))then(some ((f315 (a0,a1,())),()))else none
theorem aXm(x:DenS Il):run (cf [(120,⟨Ea,Ee,p315,f315⟩)] []) 9 199 Tryz.f199 Il IJ x=i5 p315 f315 x.1 x.2.1:=by kernel_rfl
def Wc(x:DenS Il):Option (DenS IJ):=i5 AQ.pre AQ.F x.1 x.2.1
def DY:Sum:=Ak Il IJ Wc (DenS.dflt IJ)
theorem yS:Sound Tryz.prog G1 199 DY:=sd (cf [(120,AQ)] []) 199 Tryz.f199 ⟨ZW,trivial⟩ trivial Il IJ Wc _ (fun _=>aXm ..)
abbrev Tx:=Ae Il
abbrev TF:=Ad Il IJ
variable (p316:Tx)(f316:TF)
abbrev Nb:Aa:=[(false,.int .i64),(false,.int .i64),(false,.int .u64),(false,.int .u64)]
abbrev OZ:Aa:=[(false,.int .u64),(false,.int .i64),(false,.int .i64)]
def jE(p69:Bq)(f69:Br)(p350:aCA)(f350:aD4)(p351:aCB)(f351:aD5)(p70:De)(f70:Df)(p352:aCC)(f352:aD6)(p97:LO)(f97:LR)(p353:aCD)(f353:aD7)(p118:HD)(f118:HG)(p316:Tx)(f316:TF)(p122:Gx)(f122:GB)(a0 a1:Ab (.int .i64))(a2 a3:Ab (.int .u64)):Option (DenS OZ):=let e18_:=(!((f350 (a0,(f69 (a0,())).1,a2,())).1.2.1==(f350 (a0,(f69 (a0,())).1,a3,())).1.2.1));let e17_:=((f350 (a0,(f69 (a0,())).1,a2,())).1.2.2.1,(f350 (a0,(f69 (a0,())).1,a3,())).1.2.2.1,());let e1_:=(a0,a1,e18_,(f316 e17_).1,(aa .i64 ((f350 (a0,(f69 (a0,())).1,a2,())).1.2.2.2.1+(f350 (a0,(f69 (a0,())).1,a3,())).1.2.2.2.1)),false,());let e20_:=((f350 (a0,(f69 (a0,())).1,a2,())).1,());let e19_:=(f352 e20_);let e21_:=((f350 (a0,(f69 (a0,())).1,a3,())).1,());let e2_:=(e19_.1&&(f353 e21_).1);let e16_:=(a0,e18_,());let e3_:=(f118 e16_);let e4_:=(f97 e16_);let e5_:=e16_;let e6_:=(f353 e20_);let e7_:=e19_;let e8_:=(f351 e20_);let e9_:=(p352 e20_);let e10_:=(p353 e21_);let e11_:=(p353 e20_);let e12_:=(p352 e21_);let e13_:=(f352 e21_);let e14_:=e21_;let e15_:=((f70 (a0,())).1,(1:Int),(f70 (a0,())).2);bif(p69 (a0,()))then(bif((f69 (a0,())).2.1 !=(0:Int))then(some ((0:Int),(0:Int),(f69 (a0,())).2))else bif((decide (a1<(0:Int)))||(decide (a1>(5:Int))))then(some ((0:Int),(0:Int),(3:Int),()))else bif(p350 (a0,(f69 (a0,())).1,a2,()))then(bif((f350 (a0,(f69 (a0,())).1,a2,())).2.1 !=(0:Int))then(some ((0:Int),(0:Int),(f350 (a0,(f69 (a0,())).1,a2,())).2))else bif(p350 (a0,(f69 (a0,())).1,a3,()))then(bif((f350 (a0,(f69 (a0,())).1,a3,())).2.1 !=(0:Int))then(some ((0:Int),(0:Int),(f350 (a0,(f69 (a0,())).1,a3,())).2))else bif(p351 e20_)then(bif((p351 e14_)||(!(bif e8_.1 then false else true)))then(bif(e8_.1||(f351 e14_).1)then(bif(((f350 (a0,(f69 (a0,())).1,a2,())).1.1==(0:Int))||((f350 (a0,(f69 (a0,())).1,a3,())).1.1==(0:Int)))then(bif(p70 (a0,()))then(some e15_)else none)else bif(p70 (a0,()))then(some ((f70 (a0,())).1,(0:Int),(f70 (a0,())).2))else none)else bif e9_ then(bif(e10_||(!e7_.1))then(bif(e11_||(!(bif e2_ then false else true)))then(bif(e12_||(!((bif e2_ then false else true)&&e6_.1)))then(bif(e2_||(e6_.1&&e13_.1))then(bif(p70 (a0,()))then(some e15_)else none)else bif e9_ then(bif(e12_||(!(bif e7_.1 then false else true)))then(bif(e7_.1||e13_.1)then(bif(p97 e5_)then(some (e4_.1,(0:Int),e4_.2))else none)else bif e11_ then(bif(e10_||(!(bif e6_.1 then false else true)))then(bif(e6_.1||(f353 e14_).1)then(bif(p118 e5_)then(some (e3_.1,(0:Int),e3_.2))else none)else bif(p316 e17_)then(bif(p122 e1_)then(some (f122 e1_))else none)else none)else none)else none)else none)else none)else none)else none)else none)else none)else none)else none)else none)else none)else none
theorem aXD(x:DenS Nb):run (cf [(71,⟨BJ,BK,p69,f69⟩),(195,⟨M7,OV,p350,f350⟩),(196,⟨M8,OW,p351,f351⟩),(61,⟨Da,Db,p70,f70⟩),(197,⟨M9,OX,p352,f352⟩),(62,⟨Gb,Gm,p97,f97⟩),(198,⟨Na,OY,p353,f353⟩),(64,⟨EB,EX,p118,f118⟩),(199,⟨Il,IJ,p316,f316⟩),(104,⟨EC,EY,p122,f122⟩)] []) 9 160 Tryz.f160 Nb OZ x=jE p69 f69 p350 f350 p351 f351 p70 f70 p352 f352 p97 f97 p353 f353 p118 f118 p316 f316 p122 f122 x.1 x.2.1 x.2.2.1 x.2.2.2.1:=by kernel_rfl
def Wp(x:DenS Nb):Option (DenS OZ):=jE An.pre An.F Qb.pre Qb.F Qc.pre Qc.F AR.pre AR.F Qd.pre Qd.F CC.pre CC.F Qe.pre Qe.F Bx.pre Bx.F DY.pre DY.F BP.pre BP.F x.1 x.2.1 x.2.2.1 x.2.2.2.1
def Le:Sum:=Ak Nb OZ Wp (DenS.dflt OZ)
theorem yU:Sound Tryz.prog G1 160 Le:=sd (cf [(71,An),(195,Qb),(196,Qc),(61,AR),(197,Qd),(62,CC),(198,Qe),(64,Bx),(199,DY),(104,BP)] []) 160 Tryz.f160 ⟨Dk,aND,aNE,FK,aNF,VI,aNG,SS,yS,SU,trivial⟩ trivial Nb OZ Wp _ (fun _=>aXD ..)
abbrev nI:=Ae Nb
abbrev oU:=Ad Nb OZ
variable (p354:nI)(f354:oU)
abbrev Nd:Aa:=[(false,.int .i64),(false,.int .i64),(false,.slice (.int .u64))]
abbrev O1:Aa:=[(false,.int .i64)]
abbrev Hq:Pat:=⟨39,[(27,.one (.v .i64)),(26,.one (.sl (.int .u64))),(0,.one (.v .i64)),(28,.one (.v .i64))],[]⟩
abbrev Zm:List (Nat×Shape):=[]
abbrev LD:List (Nat×Pat):=[(0,⟨39,[],[]⟩)]
abbrev K5:Option Pat:=(some ⟨39,[(6,.one (.v .i64))],[]⟩)
variable (w376_7:Pat.D Hq->Option (Ah LD K5))
def Ur(p69:Bq)(f69:Br)(p66:BL)(f66:BM){R:Type}(L:Pat.D Hq->Option R)(e:Ah LD K5->Option R)(x:Pat.D Hq):Option R:=let e2_:=(x.1.2.2.1,(x.1.2.1.getD (ai x.1.2.2.2.1) (0:Int)),());let e1_:=(f66 e2_);bif(decide (x.1.2.2.2.1<x.1.1))then(bif((decide ((0:Int)<=x.1.2.2.2.1))&&(decide (x.1.2.2.2.1<(x.1.2.1.length:Int))))then(bif(p66 e2_)then(bif(e1_.1 !=(0:Int))then(((e (.inr (e1_,())))))else(L ((x.1.1,x.1.2.1,x.1.2.2.1,(aa .i64 (x.1.2.2.2.1+(1:Int))),()),())))else none)else none)else(e (.inl ((),())))
theorem aZ9(d:Nat)(R:Type)(L:Pat.D Hq->Option R)(e:Ah LD K5->Option R)(x:Pat.D Hq):
  Bv (cf [(71,⟨BJ,BK,p69,f69⟩),(85,⟨B7,B8,p66,f66⟩)] [(200,7,LoopSpec.of Hq Zm LD K5 w376_7)]) (d+2) 200 (Bs Tryz.f200 7) Hq Zm LD K5 (R:=R) L e x=Ur p69 f69 p66 f66 L e x:=by kernel_rfl
theorem aHM(p69:Bq)(f69:Br)(p66:BL)(f66:BM):Bm fun L e x=>Ur p69 f69 p66 f66 L e x:=by intro _ _ _ _ _ _ _ h0 hL he _;unfold Ur;repeat' (first|exact h0|exact hL _|exact he _|apply BG|(apply BH h0;intro _)|(apply BI<;>intro _))
def jF(p69:Bq)(f69:Br)(p66:BL)(f66:BM)(w376_7:Pat.D Hq->Option (Ah LD K5))(a0 a1:Ab (.int .i64))(a2:Ab (.slice (.int .u64))):Option (DenS O1):=
 bif(p69 (a0,()))then(bif((f69 (a0,())).2.1 !=(0:Int))then(some (f69 (a0,())).2)
 else bif((decide (a1<(0:Int)))||(decide (a1>(5:Int))))then(some ((3:Int),()))
 else Vx.Ba (w376_7 (((a2.length:Int),a2,a0,(0:Int),()),())) fun y3=>
 Vx.A7 y3 (fun y4=>
 some ((0:Int),())) (fun z4=>
 some z4.1))
 else none
theorem aXF(x:DenS Nd):run (cf [(71,⟨BJ,BK,p69,f69⟩),(85,⟨B7,B8,p66,f66⟩)] [(200,7,LoopSpec.of Hq Zm LD K5 w376_7)]) 9 200 Tryz.f200 Nd O1 x=jF p69 f69 p66 f66 w376_7 x.1 x.2.1 x.2.2.1:=by kernel_rfl
def bO:Hq.D->Option (Ah LD K5):=Bg fun L=>Ur An.pre An.F Aq.pre Aq.F L some
def Te(x:DenS Nd):Option (DenS O1):=jF An.pre An.F Aq.pre Aq.F bO x.1 x.2.1 x.2.2.1
def Qf:Sum:=Ak Nd O1 Te (DenS.dflt O1)
theorem aNI:Sound Tryz.prog G1 200 Qf:=sd (cf [(71,An),(85,Aq)] [(200,7,LoopSpec.of Hq Zm LD K5 bO)]) 200 Tryz.f200 ⟨Dk,E9,trivial⟩ ⟨rfl,fun d=>BE (fun L e x=>Ur An.pre An.F Aq.pre Aq.F L e x) (aHM An.pre An.F Aq.pre Aq.F) (fun _ _ _ _=>aZ9 ..),trivial⟩ Nd O1 Te _ (fun _=>aXF ..)
abbrev aCF:=Ae Nd
abbrev aD9:=Ad Nd O1
variable (p376:aCF)(f376:aD9)
abbrev Nf:Aa:=[(false,.int .i64),(false,.int .u64)]
abbrev O2:Aa:=[(true,.pair (.bool) (.pair (.bool) (.pair (.bool) (.pair (.bool) (.pair (.bool) (.unit))))))]
def jG(p65:Dx)(f65:Dy)(p98:Jt)(f98:Jw)(a0:Ab (.int .i64))(a1:Ab (.int .u64)):Option (DenS O2):=bif(p65 (a0,a1,()))then(bif(p98 (a0,a1,()))then(some (((((f65 (a0,a1,())).1==(1:Int))||((f65 (a0,a1,())).1==(0:Int))),((f65 (a0,a1,())).1==(0:Int)),(((f65 (a0,a1,())).1==(9:Int))||((f65 (a0,a1,())).1==(2:Int))),(((f65 (a0,a1,())).1==(6:Int))||((f65 (a0,a1,())).1==(5:Int))),(f98 (a0,a1,())).1,()),()))else none)else none
theorem aXG(x:DenS Nf):run (cf [(59,⟨Dr,Ds,p65,f65⟩),(91,⟨EQ,E2,p98,f98⟩)] []) 9 201 Tryz.f201 Nf O2 x=jG p65 f65 p98 f98 x.1 x.2.1:=by kernel_rfl
def Wq(x:DenS Nf):Option (DenS O2):=jG AY.pre AY.F BT.pre BT.F x.1 x.2.1
def Qg:Sum:=Ak Nf O2 Wq (DenS.dflt O2)
theorem aNJ:Sound Tryz.prog G1 201 Qg:=sd (cf [(59,AY),(91,BT)] []) 201 Tryz.f201 ⟨HA,Rz,trivial⟩ trivial Nf O2 Wq _ (fun _=>aXG ..)
abbrev aCG:=Ae Nf
abbrev aEa:=Ad Nf O2
variable (p377:aCG)(f377:aEa)
abbrev Ng:Aa:=[(false,.int .i64),(false,.int .i64)]
abbrev O3:Aa:=[(false,.int .u64),(false,.int .i64),(false,.int .i64)]
def jH(p70:De)(f70:Df)(a0 a1:Ab (.int .i64)):Option (DenS O3):=bif(p70 (a0,()))then(some ((f70 (a0,())).1,a1,(f70 (a0,())).2))else none
theorem aXH(x:DenS Ng):run (cf [(61,⟨Da,Db,p70,f70⟩)] []) 9 202 Tryz.f202 Ng O3 x=jH p70 f70 x.1 x.2.1:=by kernel_rfl
def Wt(x:DenS Ng):Option (DenS O3):=jH AR.pre AR.F x.1 x.2.1
def Qh:Sum:=Ak Ng O3 Wt (DenS.dflt O3)
theorem aNK:Sound Tryz.prog G1 202 Qh:=sd (cf [(61,AR)] []) 202 Tryz.f202 ⟨FK,trivial⟩ trivial Ng O3 Wt _ (fun _=>aXH ..)
abbrev aCH:=Ae Ng
abbrev aEb:=Ad Ng O3
variable (p378:aCH)(f378:aEb)
abbrev F7:Aa:=[(false,.int .i64),(false,.int .u64)]
abbrev Gi:Aa:=[(true,.pair (.bool) (.pair (.slice (.int .u64)) (.pair (.int .i64) (.unit)))),(false,.int .i64)]
def jM(p66:BL)(f66:BM)(p90:Xb)(f90:Xk)(p91:Gz)(f91:GD)(p92:Js)(f92:Jv)(a0:Ab (.int .i64))(a1:Ab (.int .u64)):Option (DenS Gi):=let e10_:=(Vx.k_rows.getD (ai a0) ((0:Int),(0:Int),(0:Int),(0:Int),()));let e9_:=(f90 (e10_,a1,()));let e8_:=(Ap .u64 e9_.2.2.1 (Bb .u64 (1:Int) (aa .i64 (e10_.2.1-(1:Int)))));let e1_:=(f92 (e8_,()));let e2_:=e8_;let e3_:=((aa .i64 (e10_.1-e10_.2.1)),());let e4_:=(f92 e9_.2.2);let e5_:=e9_;let e6_:=e10_;let e7_:=((false,[],(0:Int),()),(0:Int),());bif(p66 (a0,a1,()))then(bif((f66 (a0,a1,())).1 !=(0:Int))then(some ((false,[],(0:Int),()),(f66 (a0,a1,()))))else bif(bif(decide ((0:Int)<=a0))then(decide (a0<((4:Nat):Int)))else false)then(bif(p90 (e6_,a1,()))then(bif(p91 e3_)then(bif(e5_.2.1==(f91 e3_).1)then(some ((false,[],(0:Int),()),(40:Int),()))else bif(e5_.2.1==(0:Int))then(bif(e5_.2.2.1==(0:Int))then(some e7_)else bif(p92 e5_.2.2)then(bif(decide ((0:Int)<=e4_.1))then(some ((e5_.1,((AL .u64 e5_.2.2.1 e4_.1)::[]),(aa .i64 ((aa .i64 ((aa .i64 ((aa .i64 ((aa .i64 ((aa .i64 (1:Int))-(1:Int)))+e6_.2.2.1))-e6_.2.1))+(1:Int)))+e4_.1)),()),(0:Int),()))else none)else none)else bif(decide ((0:Int)<=(aa .i64 (e6_.2.1-(1:Int)))))then(bif(e2_==(0:Int))then(some e7_)else bif(p92 (e2_,()))then(bif(decide ((0:Int)<=e1_.1))then(some ((e5_.1,((AL .u64 e2_ e1_.1)::[]),(aa .i64 ((aa .i64 ((aa .i64 ((aa .i64 ((aa .i64 ((aa .i64 e5_.2.1)-(1:Int)))+e6_.2.2.1))-e6_.2.1))+(1:Int)))+e1_.1)),()),(0:Int),()))else none)else none)else none)else none)else none)else none)else none
theorem r40(x:DenS F7):run (cf [(85,⟨B7,B8,p66,f66⟩),(87,⟨Iw,IZ,p90,f90⟩),(72,⟨Ec,Eg,p91,f91⟩),(191,⟨Ga,Gl,p92,f92⟩)] []) 9 203 Tryz.f203 F7 Gi x=jM p66 f66 p90 f90 p91 f91 p92 f92 x.1 x.2.1:=by kernel_rfl
def Wy(x:DenS F7):Option (DenS Gi):=jM Aq.pre Aq.F Dl.pre Dl.F Bu.pre Bu.F B2.pre B2.F x.1 x.2.1
def Dj:Sum:=Ak F7 Gi Wy (DenS.dflt Gi)
theorem Vw:Sound Tryz.prog G1 203 Dj:=sd (cf [(85,Aq),(87,Dl),(72,Bu),(191,B2)] []) 203 Tryz.f203 ⟨E9,mL,Lh,mM,trivial⟩ trivial F7 Gi Wy _ (fun _=>r40 ..)
abbrev QM:=Ae F7
abbrev QP:=Ad F7 Gi
variable (p40:QM)(f40:QP)
abbrev H9:Aa:=[(false,.slice (.int .u64))]
abbrev IA:Aa:=[(true,.slice (.int .u64))]
def gZ(p173:AZ)(f173:A1)(a0:Ab (.slice (.int .u64))):Option (DenS IA):=let e1_:=(au (ai ((f173 (a0,())).1.length:Int)) (0:Int));bif(p173 (a0,()))then(bif((decide ((0:Int)<=((f173 (a0,())).1.length:Int)))&&(decide ((((f173 (a0,())).1.length:Int)*(8:Int))<=(140737488355328:Int))))then(some ((((f173 (a0,())).1.take e1_.length)++(e1_.drop (f173 (a0,())).1.length)),()))else none)else none
theorem aWx(x:DenS H9):run ({cf [(93,⟨Bo,Bp,p173,f173⟩)] []with keep:=true}) 9 116 Tryz.f116 H9 IA x=gZ p173 f173 x.1:=by kernel_rfl
def RB(x:DenS H9):Option (DenS IA):=gZ Ai.pre Ai.F x.1
def Dc:Sum:=Ak H9 IA RB (DenS.dflt IA)
theorem yD:Sound Tryz.prog G1 116 Dc:=sd ({cf [(93,Ai)] []with keep:=true}) 116 Tryz.f116 ⟨DO,trivial⟩ trivial H9 IA RB _ (fun _=>aWx ..)
abbrev W4:=Ae H9
abbrev Xd:=Ad H9 IA
variable (p1146:W4)(f1146:Xd)
abbrev F6:Aa:=[(false,.int .u64)]
abbrev Gh:Aa:=[(false,.int .i64)]
def i6(p178:HF)(f178:HI)(a0:Ab (.int .u64)):Option (DenS Gh):=bif(p178 (a0,()))then(some ((aa .i64 ((64:Int)-(f178 (a0,())).1)),()))else none
theorem aXr(x:DenS F6):run (cf [(115,⟨Fr,E0,p178,f178⟩)] []) 9 118 Tryz.f118 F6 Gh x=i6 p178 f178 x.1:=by kernel_rfl
def We(x:DenS F6):Option (DenS Gh):=i6 Cd.pre Cd.F x.1
def Bz:Sum:=Ak F6 Gh We (DenS.dflt Gh)
theorem yT:Sound Tryz.prog G1 118 Bz:=sd (cf [(115,Cd)] []) 118 Tryz.f118 ⟨Vo,trivial⟩ trivial F6 Gh We _ (fun _=>aXr ..)
abbrev LN:=Ae F6
abbrev LQ:=Ad F6 Gh
variable (p327:LN)(f327:LQ)
abbrev Eb:Aa:=[(false,.int .u64),(false,.int .u64),(false,.int .u64)]
abbrev Ef:Aa:=[(false,.int .u64),(false,.int .u64)]
abbrev Gq:Pat:=⟨135,[(16,.one (.v .u64)),(11,.one (.v .u64)),(13,.one (.v .u64)),(10,.one (.v .u64)),(9,.one (.v .u64)),(15,.one (.v .u64)),(14,.one (.v .u64)),(2,.one (.v .u64)),(8,.one (.v .u64))],[]⟩
abbrev Vd:List (Nat×Shape):=[]
abbrev Jl:List (Nat×Pat):=[(0,⟨135,[(11,.one (.v .u64)),(13,.one (.v .u64)),(10,.one (.v .u64)),(9,.one (.v .u64)),(15,.one (.v .u64)),(14,.one (.v .u64)),(2,.one (.v .u64)),(8,.one (.v .u64))],[]⟩)]
abbrev I1:Option Pat:=none
abbrev Gr:Pat:=⟨135,[(10,.one (.v .u64)),(16,.one (.v .u64)),(9,.one (.v .u64)),(15,.one (.v .u64)),(17,.one (.v .u64)),(14,.one (.v .u64)),(18,.one (.v .u64)),(2,.one (.v .u64)),(8,.one (.v .u64))],[]⟩
abbrev Ve:List (Nat×Shape):=[]
abbrev Jm:List (Nat×Pat):=[(2,⟨135,[(15,.one (.v .u64)),(17,.one (.v .u64)),(14,.one (.v .u64)),(18,.one (.v .u64)),(2,.one (.v .u64)),(8,.one (.v .u64))],[]⟩)]
abbrev I2:Option Pat:=none
variable (w328_17:Pat.D Gq->Option (Ah Jl I1))(w328_24:Pat.D Gr->Option (Ah Jm I2))
def Ul(p327:LN)(f327:LQ){R:Type}(L:Pat.D Gr->Option R)(e:Ah Jm I2->Option R)(x:Pat.D Gr):Option R:=let e1_:=(x.1.2.2.2.1,x.1.2.2.2.2.1,x.1.2.2.2.2.2.1,(aa .u64 (x.1.2.2.2.2.2.2.1-(1:Int))),x.1.2.2.2.2.2.2.2);let e2_:=(aa .u64 (x.1.2.1+x.1.2.2.1));bif((decide (x.1.2.2.2.2.2.2.1>=(4294967296:Int)))||(decide ((aa .u64 (x.1.2.2.2.2.2.2.1*x.1.1))>(aa .u64 ((aa .u64 ((4294967296:Int)*x.1.2.1))+x.1.2.2.2.2.2.1)))))then(bif(decide (e2_>=(4294967296:Int)))then(((e (.inl (e1_,())))))else(L ((x.1.1,e2_,x.1.2.2.1,e1_),())))else(e (.inl (x.1.2.2.2,())))
theorem aZ2(d:Nat)(R:Type)(L:Pat.D Gr->Option R)(e:Ah Jm I2->Option R)(x:Pat.D Gr):
  Bv (cf [(118,⟨F6,Gh,p327,f327⟩)] [(136,17,LoopSpec.of Gq Vd Jl I1 w328_17),(136,24,LoopSpec.of Gr Ve Jm I2 w328_24)]) (d+2) 136 (Bs Tryz.f136 24) Gr Ve Jm I2 (R:=R) L e x=Ul p327 f327 L e x:=by kernel_rfl
theorem aHG(p327:LN)(f327:LQ):Bm fun L e x=>Ul p327 f327 L e x:=by intro _ _ _ _ _ _ _ h0 hL he _;unfold Ul;repeat' (first|exact h0|exact hL _|exact he _|apply BG|(apply BH h0;intro _)|(apply BI<;>intro _))
def Uk(p327:LN)(f327:LQ){R:Type}(L:Pat.D Gq->Option R)(e:Ah Jl I1->Option R)(x:Pat.D Gq):Option R:=let e1_:=(x.1.2.1,x.1.2.2.1,x.1.2.2.2.1,x.1.2.2.2.2.1,(aa .u64 (x.1.2.2.2.2.2.1-(1:Int))),x.1.2.2.2.2.2.2);let e2_:=(aa .u64 (x.1.1+x.1.2.2.2.2.1));bif((decide (x.1.2.2.2.2.2.1>=(4294967296:Int)))||(decide ((aa .u64 (x.1.2.2.2.2.2.1*x.1.2.2.2.1))>(aa .u64 ((aa .u64 ((4294967296:Int)*x.1.1))+x.1.2.2.1)))))then(bif(decide (e2_>=(4294967296:Int)))then(((e (.inl (e1_,())))))else(L ((e2_,e1_),())))else(e (.inl (x.1.2,())))
theorem aZ1(d:Nat)(R:Type)(L:Pat.D Gq->Option R)(e:Ah Jl I1->Option R)(x:Pat.D Gq):
  Bv (cf [(118,⟨F6,Gh,p327,f327⟩)] [(136,17,LoopSpec.of Gq Vd Jl I1 w328_17),(136,24,LoopSpec.of Gr Ve Jm I2 w328_24)]) (d+2) 136 (Bs Tryz.f136 17) Gq Vd Jl I1 (R:=R) L e x=Uk p327 f327 L e x:=by kernel_rfl
theorem aHF(p327:LN)(f327:LQ):Bm fun L e x=>Uk p327 f327 L e x:=by intro _ _ _ _ _ _ _ h0 hL he _;unfold Uk;repeat' (first|exact h0|exact hL _|exact he _|apply BG|(apply BH h0;intro _)|(apply BI<;>intro _))
def i7(p327:LN)(f327:LQ)(w328_17:Pat.D Gq->Option (Ah Jl I1))(w328_24:Pat.D Gr->Option (Ah Jm I2))(a0 a1 a2:Ab (.int .u64)):Option (DenS Ef):=
 let e9_:=(aa .u64 (f327 (a2,())).1)
 let e6_:=(Ap .u64 (Bb .u64 a0 e9_) (AL .u64 a1 (aa .u64 ((64:Int)-e9_))))
 let e8_:=(Bb .u64 a2 e9_)
 let e7_:=(AL .u64 e8_ (32:Int))
 let e1_:=(BX .u64 e6_ e7_)
 let e2_:=e6_
 let e3_:=e7_
 let e4_:=(Bb .u64 a1 e9_)
 let e5_:=e8_
 bif(a2==(0:Int))then((none))
 else bif(decide (a2<=a0))then((none))
 else bif(a0==(0:Int))then(bif(a2 !=(0:Int))then(bif(a2 !=(0:Int))then(some ((BX .u64 a1 a2),(le a1 a2),()))
 else none)
 else none)
 else bif(p327 (a2,()))then(bif(e3_ !=(0:Int))then(Vx.Ba (w328_17 (((aa .u64 (e2_-(aa .u64 (e1_*e3_)))),e2_,(AL .u64 e4_ (32:Int)),(BA .u64 e5_ (4294967295:Int)),e3_,e1_,(BA .u64 e4_ (4294967295:Int)),e5_,e9_,()),())) fun y5=>
 Vx.A7 y5 (fun y6=>
 bif(y6.1.2.2.2.1 !=(0:Int))then(Vx.Ba (w328_24 ((y6.1.2.2.1,(aa .u64 ((aa .u64 ((aa .u64 ((aa .u64 (y6.1.1*(4294967296:Int)))+y6.1.2.1))-(aa .u64 (y6.1.2.2.2.2.1*y6.1.2.2.2.2.2.2.1))))-(aa .u64 ((BX .u64 (aa .u64 ((aa .u64 ((aa .u64 (y6.1.1*(4294967296:Int)))+y6.1.2.1))-(aa .u64 (y6.1.2.2.2.2.1*y6.1.2.2.2.2.2.2.1)))) y6.1.2.2.2.1)*y6.1.2.2.2.1)))),y6.1.2.2.2.1,y6.1.2.2.2.2.1,(aa .u64 ((aa .u64 ((aa .u64 (y6.1.1*(4294967296:Int)))+y6.1.2.1))-(aa .u64 (y6.1.2.2.2.2.1*y6.1.2.2.2.2.2.2.1)))),y6.1.2.2.2.2.2.1,(BX .u64 (aa .u64 ((aa .u64 ((aa .u64 (y6.1.1*(4294967296:Int)))+y6.1.2.1))-(aa .u64 (y6.1.2.2.2.2.1*y6.1.2.2.2.2.2.2.1)))) y6.1.2.2.2.1),y6.1.2.2.2.2.2.2),())) fun y8=>
 Vx.A7 y8 (fun y9=>
 some ((aa .u64 ((aa .u64 (y9.1.1*(4294967296:Int)))+y9.1.2.2.2.1)),(AL .u64 (aa .u64 ((aa .u64 ((aa .u64 (y9.1.2.1*(4294967296:Int)))+y9.1.2.2.1))-(aa .u64 (y9.1.2.2.2.1*y9.1.2.2.2.2.1)))) y9.1.2.2.2.2.2.1),())) (fun z9=>
 none))
 else none) (fun z6=>
 none))
 else none)
 else none
theorem aXs(x:DenS Eb):run (cf [(118,⟨F6,Gh,p327,f327⟩)] [(136,17,LoopSpec.of Gq Vd Jl I1 w328_17),(136,24,LoopSpec.of Gr Ve Jm I2 w328_24)]) 9 136 Tryz.f136 Eb Ef x=i7 p327 f327 w328_17 w328_24 x.1 x.2.1 x.2.2.1:=by kernel_rfl
def bK:Gr.D->Option (Ah Jm I2):=Bg fun L=>Ul Bz.pre Bz.F L some
def bJ:Gq.D->Option (Ah Jl I1):=Bg fun L=>Uk Bz.pre Bz.F L some
def Wf(x:DenS Eb):Option (DenS Ef):=i7 Bz.pre Bz.F bJ bK x.1 x.2.1 x.2.2.1
def AS:Sum:=Ak Eb Ef Wf (DenS.dflt Ef)
theorem Z1:Sound Tryz.prog G1 136 AS:=sd (cf [(118,Bz)] [(136,17,LoopSpec.of Gq Vd Jl I1 bJ),(136,24,LoopSpec.of Gr Ve Jm I2 bK)]) 136 Tryz.f136 ⟨yT,trivial⟩ ⟨rfl,fun d=>BE (fun L e x=>Uk Bz.pre Bz.F L e x) (aHF Bz.pre Bz.F) (fun _ _ _ _=>aZ1 ..),⟨rfl,fun d=>BE (fun L e x=>Ul Bz.pre Bz.F L e x) (aHG Bz.pre Bz.F) (fun _ _ _ _=>aZ2 ..),trivial⟩⟩ Eb Ef Wf _ (fun _=>aXs ..)
abbrev Eo:=Ae Eb
abbrev Er:=Ad Eb Ef
variable (p328:Eo)(f328:Er)
abbrev J0:Aa:=[(true,.slice (.int .u64)),(false,.int .u64)]
abbrev Ko:Aa:=[(false,.slice (.int .u64)),(false,.int .u64)]
abbrev Fx:Pat:=⟨31,[(1,.one (.v .u64)),(7,.one (.v .i64)),(0,.one (.own 0)),(6,.one (.v .u64))],[.arr (.int .u64)]⟩
abbrev Y6:List (Nat×Shape):=[]
abbrev Ln:List (Nat×Pat):=[(0,⟨31,[(0,.one (.own 0)),(6,.one (.v .u64))],[.arr (.int .u64)]⟩)]
abbrev KP:Option Pat:=none
variable (w1329_3:Pat.D Fx->Option (Ah Ln KP))
def Uc(p328:Eo)(f328:Er)(p173:AZ)(f173:A1){R:Type}(L:Pat.D Fx->Option R)(e:Ah Ln KP->Option R)(x:Pat.D Fx):Option R:=let e3_:=(x.1.2.2.2.1,(x.2.1.getD (ai x.1.2.1) (0:Int)),x.1.1,());let e1_:=(f328 e3_);let e2_:=((decide ((0:Int)<=x.1.2.1))&&(decide (x.1.2.1<(x.2.1.length:Int))));bif(decide (x.1.2.1>=(0:Int)))then(bif e2_ then(bif(p328 e3_)then(bif e2_ then(((L ((x.1.1,(aa .i64 (x.1.2.1-(1:Int))),(),e1_.2),(x.2.1.set (ai x.1.2.1) e1_.1),()))))else none)else none)else none)else(e (.inl (((),x.1.2.2.2),x.2)))
theorem aZN(d:Nat)(R:Type)(L:Pat.D Fx->Option R)(e:Ah Ln KP->Option R)(x:Pat.D Fx):
  Bv ({cf [(136,⟨Eb,Ef,p328,f328⟩),(93,⟨Bo,Bp,p173,f173⟩)] [(117,3,LoopSpec.of Fx Y6 Ln KP w1329_3)]with keep:=true}) (d+2) 117 (Bs Tryz.f117 3) Fx Y6 Ln KP (R:=R) L e x=Uc p328 f328 p173 f173 L e x:=by kernel_rfl
theorem aHx(p328:Eo)(f328:Er)(p173:AZ)(f173:A1):Bm fun L e x=>Uc p328 f328 p173 f173 L e x:=by intro _ _ _ _ _ _ _ h0 hL he _;unfold Uc;repeat' (first|exact h0|exact hL _|exact he _|apply BG|(apply BH h0;intro _)|(apply BI<;>intro _))
def iG(p328:Eo)(f328:Er)(p173:AZ)(f173:A1)(w1329_3:Pat.D Fx->Option (Ah Ln KP))(a0:Ab (.slice (.int .u64)))(a1:Ab (.int .u64)):Option (DenS Ko):=
 Vx.Ba (w1329_3 ((a1,(aa .i64 ((a0.length:Int)-(1:Int))),(),(0:Int),()),a0,())) fun y0=>
 Vx.A7 y0 (fun y1=>
 bif(p173 y1.2)then(some ((f173 y1.2).1,y1.1.2))
 else none) (fun z1=>
 none)
theorem aWL(x:DenS J0):run ({cf [(136,⟨Eb,Ef,p328,f328⟩),(93,⟨Bo,Bp,p173,f173⟩)] [(117,3,LoopSpec.of Fx Y6 Ln KP w1329_3)]with keep:=true}) 9 117 Tryz.f117 J0 Ko x=iG p328 f328 p173 f173 w1329_3 x.1 x.2.1:=by kernel_rfl
def WW:Fx.D->Option (Ah Ln KP):=Bg fun L=>Uc AS.pre AS.F Ai.pre Ai.F L some
def VY(x:DenS J0):Option (DenS Ko):=iG AS.pre AS.F Ai.pre Ai.F WW x.1 x.2.1
def Eh:Sum:=Ak J0 Ko VY (DenS.dflt Ko)
theorem aNc:Sound Tryz.prog G1 117 Eh:=sd ({cf [(136,AS),(93,Ai)] [(117,3,LoopSpec.of Fx Y6 Ln KP WW)]with keep:=true}) 117 Tryz.f117 ⟨Z1,DO,trivial⟩ ⟨rfl,fun d=>BE (fun L e x=>Uc AS.pre AS.F Ai.pre Ai.F L e x) (aHx AS.pre AS.F Ai.pre Ai.F) (fun _ _ _ _=>aZN ..),trivial⟩ J0 Ko VY _ (fun _=>aWL ..)
abbrev bV:=Ae J0
abbrev cR:=Ad J0 Ko
variable (p1329:bV)(f1329:cR)
abbrev Fp:Aa:=[(false,.slice (.int .u64)),(false,.slice (.int .u64))]
abbrev Fu:Aa:=[(false,.int .i64)]
abbrev Hd:Pat:=⟨49,[(0,.one (.sl (.int .u64))),(1,.one (.sl (.int .u64))),(5,.one (.v .i64))],[]⟩
abbrev Y8:List (Nat×Shape):=[]
abbrev Lp:List (Nat×Pat):=[(1,⟨49,[],[]⟩)]
abbrev KR:Option Pat:=(some ⟨49,[(4,.one (.v .i64))],[]⟩)
variable (w144_7:Pat.D Hd->Option (Ah Lp KR))
def Ue(p173:AZ)(f173:A1){R:Type}(L:Pat.D Hd->Option R)(e:Ah Lp KR->Option R)(x:Pat.D Hd):Option R:=let e1_:=((decide ((0:Int)<=x.1.2.2.1))&&(decide (x.1.2.2.1<(x.1.2.1.length:Int))));let e2_:=((decide ((0:Int)<=x.1.2.2.1))&&(decide (x.1.2.2.1<(x.1.1.length:Int))));let e3_:=(x.1.2.1.getD (ai x.1.2.2.1) (0:Int));bif(decide (x.1.2.2.1>=(0:Int)))then(bif e2_ then(bif e1_ then(bif(decide ((x.1.1.getD (ai x.1.2.2.1) (0:Int))<e3_))then(((e (.inr (((-(1:Int)),()),())))))else bif e2_ then(bif e1_ then(bif(decide ((x.1.1.getD (ai x.1.2.2.1) (0:Int))>e3_))then(((e (.inr (((1:Int),()),())))))else(L ((x.1.1,x.1.2.1,(aa .i64 (x.1.2.2.1-(1:Int))),()),())))else none)else none)else none)else none)else(e (.inl ((),())))
theorem aZP(d:Nat)(R:Type)(L:Pat.D Hd->Option R)(e:Ah Lp KR->Option R)(x:Pat.D Hd):
  Bv (cf [(93,⟨Bo,Bp,p173,f173⟩)] [(101,7,LoopSpec.of Hd Y8 Lp KR w144_7)]) (d+2) 101 (Bs Tryz.f101 7) Hd Y8 Lp KR (R:=R) L e x=Ue p173 f173 L e x:=by kernel_rfl
theorem aHz(p173:AZ)(f173:A1):Bm fun L e x=>Ue p173 f173 L e x:=by intro _ _ _ _ _ _ _ h0 hL he _;unfold Ue;repeat' (first|exact h0|exact hL _|exact he _|apply BG|(apply BH h0;intro _)|(apply BI<;>intro _))
def iJ(p173:AZ)(f173:A1)(w144_7:Pat.D Hd->Option (Ah Lp KR))(a0 a1:Ab (.slice (.int .u64))):Option (DenS Fu):=
 bif(p173 (a0,()))then(bif(p173 (a1,()))then(bif(decide (((f173 (a0,())).1.length:Int)<((f173 (a1,())).1.length:Int)))then(some ((-(1:Int)),()))
 else bif(decide (((f173 (a0,())).1.length:Int)>((f173 (a1,())).1.length:Int)))then(some ((1:Int),()))
 else Vx.Ba (w144_7 (((f173 (a0,())).1,(f173 (a1,())).1,(aa .i64 (((f173 (a0,())).1.length:Int)-(1:Int))),()),())) fun y4=>
 Vx.A7 y4 (fun y5=>
 some ((0:Int),())) (fun z5=>
 some z5.1))
 else none)
 else none
theorem aWR(x:DenS Fp):run (cf [(93,⟨Bo,Bp,p173,f173⟩)] [(101,7,LoopSpec.of Hd Y8 Lp KR w144_7)]) 9 101 Tryz.f101 Fp Fu x=iJ p173 f173 w144_7 x.1 x.2.1:=by kernel_rfl
def bD:Hd.D->Option (Ah Lp KR):=Bg fun L=>Ue Ai.pre Ai.F L some
def VZ(x:DenS Fp):Option (DenS Fu):=iJ Ai.pre Ai.F bD x.1 x.2.1
def By:Sum:=Ak Fp Fu VZ (DenS.dflt Fu)
theorem ZO:Sound Tryz.prog G1 101 By:=sd (cf [(93,Ai)] [(101,7,LoopSpec.of Hd Y8 Lp KR bD)]) 101 Tryz.f101 ⟨DO,trivial⟩ ⟨rfl,fun d=>BE (fun L e x=>Ue Ai.pre Ai.F L e x) (aHz Ai.pre Ai.F) (fun _ _ _ _=>aZP ..),trivial⟩ Fp Fu VZ _ (fun _=>aWR ..)
abbrev HE:=Ae Fp
abbrev HH:=Ad Fp Fu
variable (p144:HE)(f144:HH)
abbrev J5:Aa:=[(false,.slice (.int .u64)),(false,.int .u64)]
abbrev Ks:Aa:=[(false,.slice (.int .u64)),(false,.int .u64)]
abbrev Hn:Pat:=⟨31,[(1,.one (.v .u64)),(7,.one (.v .i64)),(0,.one (.sl (.int .u64))),(6,.one (.v .u64))],[]⟩
abbrev Zi:List (Nat×Shape):=[]
abbrev Lz:List (Nat×Pat):=[(0,⟨31,[(0,.one (.sl (.int .u64))),(6,.one (.v .u64))],[]⟩)]
abbrev K1:Option Pat:=none
variable (w329_3:Pat.D Hn->Option (Ah Lz K1))
def X7(p328:Eo)(f328:Er)(p173:AZ)(f173:A1){R:Type}(L:Pat.D Hn->Option R)(e:Ah Lz K1->Option R)(x:Pat.D Hn):Option R:=let e1_:=((decide ((0:Int)<=x.1.2.1))&&(decide (x.1.2.1<(x.1.2.2.1.length:Int))));bif(decide (x.1.2.1>=(0:Int)))then(bif e1_ then(bif(p328 (x.1.2.2.2.1,(x.1.2.2.1.getD (ai x.1.2.1) (0:Int)),x.1.1,()))then(bif e1_ then((none))else none)else none)else none)else(e (.inl (x.1.2.2,())))
theorem aZ3(d:Nat)(R:Type)(L:Pat.D Hn->Option R)(e:Ah Lz K1->Option R)(x:Pat.D Hn):
  Bv (cf [(136,⟨Eb,Ef,p328,f328⟩),(93,⟨Bo,Bp,p173,f173⟩)] [(117,3,LoopSpec.of Hn Zi Lz K1 w329_3)]) (d+2) 117 (Bs Tryz.f117 3) Hn Zi Lz K1 (R:=R) L e x=X7 p328 f328 p173 f173 L e x:=by kernel_rfl
theorem aUb(p328:Eo)(f328:Er)(p173:AZ)(f173:A1):Bm fun L e x=>X7 p328 f328 p173 f173 L e x:=by intro _ _ _ _ _ _ _ h0 hL he _;unfold X7;repeat' (first|exact h0|exact hL _|exact he _|apply BG|(apply BH h0;intro _)|(apply BI<;>intro _))
def aJZ(p328:Eo)(f328:Er)(p173:AZ)(f173:A1)(w329_3:Pat.D Hn->Option (Ah Lz K1))(a0:Ab (.slice (.int .u64)))(a1:Ab (.int .u64)):Option (DenS Ks):=
 Vx.Ba (w329_3 ((a1,(aa .i64 ((a0.length:Int)-(1:Int))),a0,(0:Int),()),())) fun y0=>
 Vx.A7 y0 (fun y1=>
 bif(p173 (y1.1.1,()))then(some ((f173 (y1.1.1,())).1,y1.1.2))
 else none) (fun z1=>
 none)
theorem aXt(x:DenS J5):run (cf [(136,⟨Eb,Ef,p328,f328⟩),(93,⟨Bo,Bp,p173,f173⟩)] [(117,3,LoopSpec.of Hn Zi Lz K1 w329_3)]) 9 117 Tryz.f117 J5 Ks x=aJZ p328 f328 p173 f173 w329_3 x.1 x.2.1:=by kernel_rfl
def aBV:Hn.D->Option (Ah Lz K1):=Bg fun L=>X7 AS.pre AS.F Ai.pre Ai.F L some
def aAH(x:DenS J5):Option (DenS Ks):=aJZ AS.pre AS.F Ai.pre Ai.F aBV x.1 x.2.1
def E8:Sum:=Ak J5 Ks aAH (DenS.dflt Ks)
theorem aNx:Sound Tryz.prog G1 117 E8:=sd (cf [(136,AS),(93,Ai)] [(117,3,LoopSpec.of Hn Zi Lz K1 aBV)]) 117 Tryz.f117 ⟨Z1,DO,trivial⟩ ⟨rfl,fun d=>BE (fun L e x=>X7 AS.pre AS.F Ai.pre Ai.F L e x) (aUb AS.pre AS.F Ai.pre Ai.F) (fun _ _ _ _=>aZ3 ..),trivial⟩ J5 Ks aAH _ (fun _=>aXt ..)
abbrev cC:=Ae J5
abbrev cY:=Ad J5 Ks
variable (p329:cC)(f329:cY)
abbrev Im:Aa:=[(false,.slice (.int .u64)),(false,.int .u64)]
abbrev IK:Aa:=[(false,.bool)]
abbrev ER:LK:=.win (.int .u64)
abbrev Ho:Pat:=⟨68,[(16,.one (.v .i64)),(15,.one (.sl (.int .u64))),(2,.one (.v .u64)),(17,.one (.v .i64)),(1,.one (.sl (.int .u64))),(0,.one (.sub 0)),(7,.one (.v .u64)),(8,.one (.v .u64))],[.arr (.int .u64)]⟩
abbrev Zj:List (Nat×Shape):=[]
abbrev LA:List (Nat×Pat):=[(0,⟨68,[(1,.one (.sl (.int .u64))),(0,.one (.sub 0)),(7,.one (.v .u64)),(8,.one (.v .u64))],[.arr (.int .u64)]⟩)]
abbrev K2:Option Pat:=none
variable (w330_3:Pat.D Ho->Option (Ah LA K2))
def Um(p315:En)(f315:Ep)(p155:CW)(f155:CX)(p157:Gy)(f157:GC){R:Type}(L:Pat.D Ho->Option R)(e:Ah LA K2->Option R)(x:Pat.D Ho):Option R:=let e7_:=(x.2.1.getD (x.1.2.2.2.2.2.1.1+(ai x.1.2.2.2.1)) (0:Int));let e8_:=(x.1.2.2.1,(x.1.2.1.getD (ai x.1.2.2.2.1) (0:Int)),());let e6_:=(f315 e8_);let e5_:=(f155 (e6_.2.1,x.1.2.2.2.2.2.2.1,(0:Int),()));let e1_:=(f157 (e7_,e5_.1,x.1.2.2.2.2.2.2.2));let e2_:=e5_;let e3_:=((decide ((0:Int)<=x.1.2.2.2.1))&&(decide (x.1.2.2.2.1<(x.1.2.2.2.2.2.1.2:Int))));let e4_:=e6_;bif(decide (x.1.2.2.2.1<x.1.1))then(bif((decide ((0:Int)<=x.1.2.2.2.1))&&(decide (x.1.2.2.2.1<(x.1.2.1.length:Int))))then(bif(p315 e8_)then(bif(p155 (e4_.2.1,x.1.2.2.2.2.2.2.1,(0:Int),()))then(bif e3_ then(bif(p157 (e7_,e2_.1,x.1.2.2.2.2.2.2.2))then(bif e3_ then(((L ((x.1.1,x.1.2.1,x.1.2.2.1,(aa .i64 (x.1.2.2.2.1+(1:Int))),x.1.2.2.2.2.1,x.1.2.2.2.2.2.1,(aa .u64 (e4_.1+e2_.2.1)),e1_.2),(x.2.1.set (x.1.2.2.2.2.2.1.1+(ai x.1.2.2.2.1)) e1_.1),()))))else none)else none)else none)else none)else none)else none)else(e (.inl (x.1.2.2.2.2,x.2)))
theorem aZ4(d:Nat)(R:Type)(L:Pat.D Ho->Option R)(e:Ah LA K2->Option R)(x:Pat.D Ho):
  Bv (cf [(120,⟨Ea,Ee,p315,f315⟩),(94,⟨ED,EZ,p155,f155⟩),(148,⟨J3,OD,p157,f157⟩)] [(137,3,LoopSpec.of Ho Zj LA K2 w330_3 1)]) (d+2) 137 (Bs Tryz.f137 3) Ho Zj LA K2 (R:=R) L e x 1=Um p315 f315 p155 f155 p157 f157 L e x:=by kernel_rfl
theorem aHH(p315:En)(f315:Ep)(p155:CW)(f155:CX)(p157:Gy)(f157:GC):Bm fun L e x=>Um p315 f315 p155 f155 p157 f157 L e x:=by intro _ _ _ _ _ _ _ h0 hL he _;unfold Um;repeat' (first|exact h0|exact hL _|exact he _|apply BG|(apply BH h0;intro _)|(apply BI<;>intro _))
def i9(p315:En)(f315:Ep)(p155:CW)(f155:CX)(p157:Gy)(f157:GC)(w330_3:Pat.D Ho->Option (Ah LA K2))(l0:LK.D (.win (.int .u64)))(a0:Ab (.slice (.int .u64)))(a1:Ab (.int .u64)):Option (LK.B ER×DenS IK):=
 Vx.Ba (w330_3 (((a0.length:Int),a0,a1,(0:Int),a0,l0.2,(0:Int),(0:Int),()),l0.1,())) fun y0=>
 Vx.A7 y0 (fun y1=>
 bif((decide ((0:Int)<=(y1.1.1.length:Int)))&&(decide ((y1.1.1.length:Int)<(y1.1.2.1.2:Int))))then(bif(p157 ((y1.2.1.getD (y1.1.2.1.1+(ai (y1.1.1.length:Int))) (0:Int)),y1.1.2.2))then(bif((decide ((0:Int)<=(y1.1.1.length:Int)))&&(decide ((y1.1.1.length:Int)<(y1.1.2.1.2:Int))))then(some ((y1.2.1.set (y1.1.2.1.1+(ai (y1.1.1.length:Int))) (f157 ((y1.2.1.getD (y1.1.2.1.1+(ai (y1.1.1.length:Int))) (0:Int)),y1.1.2.2)).1),((f157 ((y1.2.1.getD (y1.1.2.1.1+(ai (y1.1.1.length:Int))) (0:Int)),y1.1.2.2)).2.1 !=(0:Int)),()))
 else none)
 else none)
 else none) (fun z1=>
 none)
theorem aXu(x:LK.D ER×DenS Im):D5 (cf [(120,⟨Ea,Ee,p315,f315⟩),(94,⟨ED,EZ,p155,f155⟩),(148,⟨J3,OD,p157,f157⟩)] [(137,3,LoopSpec.of Ho Zj LA K2 w330_3 1)]) 9 137 Tryz.f137 ER Im IK x=i9 p315 f315 p155 f155 p157 f157 w330_3 x.1 x.2.1 x.2.2.1:=by kernel_rfl
def bL:Ho.D->Option (Ah LA K2):=Bg fun L=>Um AQ.pre AQ.F Au.pre Au.F A3.pre A3.F L some
def Wg(x:LK.D ER×DenS Im):Option (LK.B ER×DenS IK):=i9 AQ.pre AQ.F Au.pre Au.F A3.pre A3.F bL x.1 x.2.1 x.2.2.1
def B1:SumL:=D7 ER Im IK Wg (LK.dflt ER,DenS.dflt IK)
theorem aNy:SoundL Tryz.prog G1 137 B1:=GM (cf [(120,AQ),(94,Au),(148,A3)] [(137,3,LoopSpec.of Ho Zj LA K2 bL 1)]) 137 Tryz.f137 ⟨ZW,SZ,ZQ,trivial⟩ ⟨rfl,fun d=>BE (fun L e x=>Um AQ.pre AQ.F Au.pre Au.F A3.pre A3.F L e x) (aHH AQ.pre AQ.F Au.pre Au.F A3.pre A3.F) (fun _ _ _ _=>aZ4 ..),trivial⟩ ER Im IK Wg _ (fun _=>aXu ..)
abbrev Ty:=LK.D ER×DenS Im->Bool
abbrev TG:=LK.D ER×DenS Im->LK.B ER×DenS IK
variable (p330:Ty)(f330:TG)
abbrev In:Aa:=[(false,.slice (.int .u64))]
abbrev IL:Aa:=[(false,.bool)]
abbrev ES:LK:=.win (.int .u64)
abbrev Hp:Pat:=⟨46,[(10,.one (.v .i64)),(9,.one (.sl (.int .u64))),(11,.one (.v .i64)),(1,.one (.sl (.int .u64))),(0,.one (.sub 0)),(5,.one (.v .u64))],[.arr (.int .u64)]⟩
abbrev Zk:List (Nat×Shape):=[]
abbrev LB:List (Nat×Pat):=[(0,⟨46,[(1,.one (.sl (.int .u64))),(0,.one (.sub 0)),(5,.one (.v .u64))],[.arr (.int .u64)]⟩)]
abbrev K3:Option Pat:=none
variable (w331_3:Pat.D Hp->Option (Ah LB K3))
def Un(p155:CW)(f155:CX){R:Type}(L:Pat.D Hp->Option R)(e:Ah LB K3->Option R)(x:Pat.D Hp):Option R:=let e3_:=((x.2.1.getD (x.1.2.2.2.2.1.1+(ai x.1.2.2.1)) (0:Int)),(x.1.2.1.getD (ai x.1.2.2.1) (0:Int)),x.1.2.2.2.2.2);let e1_:=(f155 e3_);let e2_:=((decide ((0:Int)<=x.1.2.2.1))&&(decide (x.1.2.2.1<(x.1.2.2.2.2.1.2:Int))));bif(decide (x.1.2.2.1<x.1.1))then(bif((decide ((0:Int)<=x.1.2.2.1))&&(decide (x.1.2.2.1<(x.1.2.1.length:Int))))then(bif e2_ then(bif(p155 e3_)then(bif e2_ then(((L ((x.1.1,x.1.2.1,(aa .i64 (x.1.2.2.1+(1:Int))),x.1.2.2.2.1,x.1.2.2.2.2.1,e1_.2),(x.2.1.set (x.1.2.2.2.2.1.1+(ai x.1.2.2.1)) e1_.1),()))))else none)else none)else none)else none)else(e (.inl (x.1.2.2.2,x.2)))
theorem aZ5(d:Nat)(R:Type)(L:Pat.D Hp->Option R)(e:Ah LB K3->Option R)(x:Pat.D Hp):
  Bv (cf [(94,⟨ED,EZ,p155,f155⟩)] [(138,3,LoopSpec.of Hp Zk LB K3 w331_3 1)]) (d+2) 138 (Bs Tryz.f138 3) Hp Zk LB K3 (R:=R) L e x 1=Un p155 f155 L e x:=by kernel_rfl
theorem aHI(p155:CW)(f155:CX):Bm fun L e x=>Un p155 f155 L e x:=by intro _ _ _ _ _ _ _ h0 hL he _;unfold Un;repeat' (first|exact h0|exact hL _|exact he _|apply BG|(apply BH h0;intro _)|(apply BI<;>intro _))
def jA(p155:CW)(f155:CX)(w331_3:Pat.D Hp->Option (Ah LB K3))(l0:LK.D (.win (.int .u64)))(a0:Ab (.slice (.int .u64))):Option (LK.B ES×DenS IL):=
 Vx.Ba (w331_3 (((a0.length:Int),a0,(0:Int),a0,l0.2,(0:Int),()),l0.1,())) fun y0=>
 Vx.A7 y0 (fun y1=>
 bif((decide ((0:Int)<=(y1.1.1.length:Int)))&&(decide ((y1.1.1.length:Int)<(y1.1.2.1.2:Int))))then(bif(p155 ((y1.2.1.getD (y1.1.2.1.1+(ai (y1.1.1.length:Int))) (0:Int)),(0:Int),y1.1.2.2))then(bif((decide ((0:Int)<=(y1.1.1.length:Int)))&&(decide ((y1.1.1.length:Int)<(y1.1.2.1.2:Int))))then(some ((y1.2.1.set (y1.1.2.1.1+(ai (y1.1.1.length:Int))) (f155 ((y1.2.1.getD (y1.1.2.1.1+(ai (y1.1.1.length:Int))) (0:Int)),(0:Int),y1.1.2.2)).1),((f155 ((y1.2.1.getD (y1.1.2.1.1+(ai (y1.1.1.length:Int))) (0:Int)),(0:Int),y1.1.2.2)).2.1 !=(0:Int)),()))
 else none)
 else none)
 else none) (fun z1=>
 none)
theorem aXv(x:LK.D ES×DenS In):D5 (cf [(94,⟨ED,EZ,p155,f155⟩)] [(138,3,LoopSpec.of Hp Zk LB K3 w331_3 1)]) 9 138 Tryz.f138 ES In IL x=jA p155 f155 w331_3 x.1 x.2.1:=by kernel_rfl
def bM:Hp.D->Option (Ah LB K3):=Bg fun L=>Un Au.pre Au.F L some
def Wh(x:LK.D ES×DenS In):Option (LK.B ES×DenS IL):=jA Au.pre Au.F bM x.1 x.2.1
def CO:SumL:=D7 ES In IL Wh (LK.dflt ES,DenS.dflt IL)
theorem aNz:SoundL Tryz.prog G1 138 CO:=GM (cf [(94,Au)] [(138,3,LoopSpec.of Hp Zk LB K3 bM 1)]) 138 Tryz.f138 ⟨SZ,trivial⟩ ⟨rfl,fun d=>BE (fun L e x=>Un Au.pre Au.F L e x) (aHI Au.pre Au.F) (fun _ _ _ _=>aZ5 ..),trivial⟩ ES In IL Wh _ (fun _=>aXv ..)
abbrev Tz:=LK.D ES×DenS In->Bool
abbrev TH:=LK.D ES×DenS In->LK.B ES×DenS IL
variable (p331:Tz)(f331:TH)
abbrev J6:Aa:=[(false,.slice (.int .u64))]
abbrev IM:Aa:=[(false,.int .u64)]
abbrev ET:LK:=.win (.int .u64)
abbrev Fz:Pat:=⟨92,[(6,.one (.v .u64)),(7,.one (.v .u64)),(5,.one (.v .i64)),(0,.one (.sub 0)),(1,.one (.sl (.int .u64)))],[.arr (.int .u64)]⟩
abbrev Vg:List (Nat×Shape):=[]
abbrev Jo:List (Nat×Pat):=[(0,⟨92,[(0,.one (.sub 0)),(1,.one (.sl (.int .u64))),(6,.one (.v .u64))],[.arr (.int .u64)]⟩)]
abbrev I4:Option Pat:=none
abbrev Fy:Pat:=⟨92,[(6,.one (.v .u64)),(0,.one (.sub 0)),(1,.one (.sl (.int .u64)))],[.arr (.int .u64)]⟩
abbrev Vf:List (Nat×Shape):=[]
abbrev Jn:List (Nat×Pat):=[(2,⟨92,[(6,.one (.v .u64))],[.arr (.int .u64)]⟩)]
abbrev I3:Option Pat:=none
variable (w332_6:Pat.D Fz->Option (Ah Jo I4))(w332_13:Pat.D Fy->Option (Ah Jn I3))
def Uo(p328:Eo)(f328:Er)(p315:En)(f315:Ep)(p155:CW)(f155:CX)(p330:Ty)(f330:TG)(p331:Tz)(f331:TH){R:Type}(L:Pat.D Fy->Option R)(e:Ah Jn I3->Option R)(x:Pat.D Fy):Option R:=let e1_:=(aa .u64 (x.1.1-(1:Int)));bif(p331 ((x.2.1,x.1.2.1),x.1.2.2))then(bif(f331 ((x.2.1,x.1.2.1),x.1.2.2)).2.1 then(((e (.inl ((e1_,()),(f331 ((x.2.1,x.1.2.1),x.1.2.2)).1,())))))else(L ((e1_,x.1.2),(f331 ((x.2.1,x.1.2.1),x.1.2.2)).1,())))else none
theorem aZ6(d:Nat)(R:Type)(L:Pat.D Fy->Option R)(e:Ah Jn I3->Option R)(x:Pat.D Fy):
  Bv ({cf [(136,⟨Eb,Ef,p328,f328⟩),(120,⟨Ea,Ee,p315,f315⟩),(94,⟨ED,EZ,p155,f155⟩)] [(119,6,LoopSpec.of Fz Vg Jo I4 w332_6 1),(119,13,LoopSpec.of Fy Vf Jn I3 w332_13 1)]with lsums:=[(137,⟨ER,Im,IK,p330,f330⟩),(138,⟨ES,In,IL,p331,f331⟩)] }) (d+2) 119 (Bs Tryz.f119 13) Fy Vf Jn I3 (R:=R) L e x 1=Uo p328 f328 p315 f315 p155 f155 p330 f330 p331 f331 L e x:=by kernel_rfl
theorem aHJ(p328:Eo)(f328:Er)(p315:En)(f315:Ep)(p155:CW)(f155:CX)(p330:Ty)(f330:TG)(p331:Tz)(f331:TH):Bm fun L e x=>Uo p328 f328 p315 f315 p155 f155 p330 f330 p331 f331 L e x:=by intro _ _ _ _ _ _ _ h0 hL he _;unfold Uo;repeat' (first|exact h0|exact hL _|exact he _|apply BG|(apply BH h0;intro _)|(apply BI<;>intro _))
def Up(p328:Eo)(f328:Er)(p315:En)(f315:Ep)(p155:CW)(f155:CX)(p330:Ty)(f330:TG)(p331:Tz)(f331:TH){R:Type}(L:Pat.D Fz->Option R)(e:Ah Jo I4->Option R)(x:Pat.D Fz):Option R:=let e11_:=(aa .i64 (x.1.2.2.1-(2:Int)));let e10_:=(ai e11_);let e9_:=(f315 (x.1.1,(x.1.2.2.2.2.1.getD e10_ (0:Int)),()));let e1_:=(decide (e9_.1<x.1.2.1));let e12_:=(aa .i64 (x.1.2.2.1-(1:Int)));let e2_:=(f155 (x.1.2.1,(x.1.2.2.2.2.1.getD (ai e12_) (0:Int)),(0:Int),()));let e3_:=e9_;let e4_:=(decide ((0:Int)<=e11_));let e5_:=e10_;let e6_:=e12_;let e7_:=e11_;let e8_:=(aa .u64 (x.1.1-(1:Int)));bif(e4_&&(decide (e7_<(x.1.2.2.2.2.1.length:Int))))then(bif(p315 (x.1.1,(x.1.2.2.2.2.1.getD e5_ (0:Int)),()))then(bif((e4_&&(decide (e7_<(x.1.2.2.2.1.2:Int))))||(!((bif e1_ then false else true)&&(decide (e3_.1=x.1.2.1)))))then(bif(e1_||((e3_.1==x.1.2.1)&&(decide (e3_.2.1<=(x.2.1.getD (x.1.2.2.2.1.1+e5_) (0:Int))))))then(((e (.inl ((x.1.2.2.2.1,x.1.2.2.2.2.1,x.1.1,()),x.2)))))else bif((decide ((0:Int)<=e6_))&&(decide (e6_<(x.1.2.2.2.2.1.length:Int))))then(bif(p155 (x.1.2.1,(x.1.2.2.2.2.1.getD (ai e6_) (0:Int)),(0:Int),()))then(bif(e2_.2.1 !=(0:Int))then(((e (.inl ((x.1.2.2.2.1,x.1.2.2.2.2.1,e8_,()),x.2)))))else(L ((e8_,e2_.1,x.1.2.2),x.2)))else none)else none)else none)else none)else none
theorem aZ7(d:Nat)(R:Type)(L:Pat.D Fz->Option R)(e:Ah Jo I4->Option R)(x:Pat.D Fz):
  Bv ({cf [(136,⟨Eb,Ef,p328,f328⟩),(120,⟨Ea,Ee,p315,f315⟩),(94,⟨ED,EZ,p155,f155⟩)] [(119,6,LoopSpec.of Fz Vg Jo I4 w332_6 1),(119,13,LoopSpec.of Fy Vf Jn I3 w332_13 1)]with lsums:=[(137,⟨ER,Im,IK,p330,f330⟩),(138,⟨ES,In,IL,p331,f331⟩)] }) (d+2) 119 (Bs Tryz.f119 6) Fz Vg Jo I4 (R:=R) L e x 1=Up p328 f328 p315 f315 p155 f155 p330 f330 p331 f331 L e x:=by kernel_rfl
theorem aHK(p328:Eo)(f328:Er)(p315:En)(f315:Ep)(p155:CW)(f155:CX)(p330:Ty)(f330:TG)(p331:Tz)(f331:TH):Bm fun L e x=>Up p328 f328 p315 f315 p155 f155 p330 f330 p331 f331 L e x:=by intro _ _ _ _ _ _ _ h0 hL he _;unfold Up;repeat' (first|exact h0|exact hL _|exact he _|apply BG|(apply BH h0;intro _)|(apply BI<;>intro _))
def jB(p328:Eo)(f328:Er)(p315:En)(f315:Ep)(p155:CW)(f155:CX)(p330:Ty)(f330:TG)(p331:Tz)(f331:TH)(w332_6:Pat.D Fz->Option (Ah Jo I4))(w332_13:Pat.D Fy->Option (Ah Jn I3))(l0:LK.D (.win (.int .u64)))(a0:Ab (.slice (.int .u64))):Option (LK.B ET×DenS IM):=
 let e11_:=(l0.1.getD (l0.2.1+(ai (a0.length:Int))) (0:Int))
 let e10_:=(aa .i64 ((a0.length:Int)-(1:Int)))
 let e9_:=(ai e10_)
 let e8_:=(a0.getD e9_ (0:Int))
 let e1_:=(f328 (e11_,(l0.1.getD (l0.2.1+e9_) (0:Int)),e8_,()))
 let e2_:=((decide ((0:Int)<=e10_))&&(decide (e10_<(a0.length:Int))))
 let e3_:=e8_
 let e4_:=((decide ((0:Int)<=(a0.length:Int)))&&(decide ((a0.length:Int)<(l0.2.2:Int))))
 let e5_:=e10_
 let e12_:=((l0.1,l0.2),a0,(18446744073709551615:Int),())
 let e6_:=(f330 e12_)
 let e7_:=e11_
 bif e4_ then(bif e2_ then(bif(decide (e7_<e3_))then(bif e4_ then(bif((decide ((0:Int)<=e5_))&&(decide (e5_<(l0.2.2:Int))))then(bif e2_ then(bif(p328 (e7_,(l0.1.getD (l0.2.1+(ai e5_)) (0:Int)),e3_,()))then(Vx.Ba (w332_6 ((e1_.1,e1_.2.1,(a0.length:Int),l0.2,a0,()),l0.1,())) fun y7=>
 Vx.A7 y7 (fun y8=>
 bif(p330 ((y8.2.1,y8.1.1),y8.1.2))then(bif(f330 ((y8.2.1,y8.1.1),y8.1.2)).2.1 then(Vx.Ba (w332_13 ((y8.1.2.2.1,y8.1.1,y8.1.2.1,()),(f330 ((y8.2.1,y8.1.1),y8.1.2)).1,())) fun y11=>
 Vx.A7 y11 (fun y12=>
 some (y12.2.1,y12.1)) (fun z12=>
 none))
 else some ((f330 ((y8.2.1,y8.1.1),y8.1.2)).1,y8.1.2.2))
 else none) (fun z8=>
 none))
 else none)
 else none)
 else none)
 else none)
 else bif(p330 e12_)then(bif e6_.2.1 then(Vx.Ba (w332_13 (((18446744073709551615:Int),l0.2,a0,()),e6_.1,())) fun y5=>
 Vx.A7 y5 (fun y6=>
 some (y6.2.1,y6.1)) (fun z6=>
 none))
 else some (e6_.1,(18446744073709551615:Int),()))
 else none)
 else none)
 else none
theorem aXw(x:LK.D ET×DenS J6):D5 ({cf [(136,⟨Eb,Ef,p328,f328⟩),(120,⟨Ea,Ee,p315,f315⟩),(94,⟨ED,EZ,p155,f155⟩)] [(119,6,LoopSpec.of Fz Vg Jo I4 w332_6 1),(119,13,LoopSpec.of Fy Vf Jn I3 w332_13 1)]with lsums:=[(137,⟨ER,Im,IK,p330,f330⟩),(138,⟨ES,In,IL,p331,f331⟩)] }) 9 119 Tryz.f119 ET J6 IM x=jB p328 f328 p315 f315 p155 f155 p330 f330 p331 f331 w332_6 w332_13 x.1 x.2.1:=by kernel_rfl
def WZ:Fy.D->Option (Ah Jn I3):=Bg fun L=>Uo AS.pre AS.F AQ.pre AQ.F Au.pre Au.F B1.pre B1.F CO.pre CO.F L some
def bN:Fz.D->Option (Ah Jo I4):=Bg fun L=>Up AS.pre AS.F AQ.pre AQ.F Au.pre Au.F B1.pre B1.F CO.pre CO.F L some
def Wj(x:LK.D ET×DenS J6):Option (LK.B ET×DenS IM):=jB AS.pre AS.F AQ.pre AQ.F Au.pre Au.F B1.pre B1.F CO.pre CO.F bN WZ x.1 x.2.1
def Ej:SumL:=D7 ET J6 IM Wj (LK.dflt ET,DenS.dflt IM)
theorem aNA:SoundL Tryz.prog G1 119 Ej:=GM ({cf [(136,AS),(120,AQ),(94,Au)] [(119,6,LoopSpec.of Fz Vg Jo I4 bN 1),(119,13,LoopSpec.of Fy Vf Jn I3 WZ 1)]with lsums:=[(137,B1),(138,CO)] }) 119 Tryz.f119 ⟨Z1,ZW,SZ,trivial⟩ ⟨rfl,fun d=>BE (fun L e x=>Up AS.pre AS.F AQ.pre AQ.F Au.pre Au.F B1.pre B1.F CO.pre CO.F L e x) (aHK AS.pre AS.F AQ.pre AQ.F Au.pre Au.F B1.pre B1.F CO.pre CO.F) (fun _ _ _ _=>aZ7 ..),⟨rfl,fun d=>BE (fun L e x=>Uo AS.pre AS.F AQ.pre AQ.F Au.pre Au.F B1.pre B1.F CO.pre CO.F L e x) (aHJ AS.pre AS.F AQ.pre AQ.F Au.pre Au.F B1.pre B1.F CO.pre CO.F) (fun _ _ _ _=>aZ6 ..),trivial⟩⟩ ET J6 IM Wj _ (fun _=>aXw ..) (hls:=⟨aNy,aNz,trivial⟩)
abbrev cD:=LK.D ET×DenS J6->Bool
abbrev cZ:=LK.D ET×DenS J6->LK.B ET×DenS IM
variable (p332:cD)(f332:cZ)
abbrev M6:Aa:=[(false,.slice (.int .u64)),(false,.slice (.int .u64))]
abbrev OU:Aa:=[(false,.slice (.int .u64)),(false,.slice (.int .u64))]
abbrev FA:Pat:=⟨91,[(9,.one (.sl (.int .u64))),(12,.one (.v .i64)),(4,.one (.own 1)),(10,.one (.own 0)),(11,.one (.v .i64)),(8,.one (.v .i64))],[.arr (.int .u64),.arr (.int .u64)]⟩
abbrev Zl:List (Nat×Shape):=[]
abbrev LC:List (Nat×Pat):=[(0,⟨91,[(4,.one (.own 1)),(10,.one (.own 0)),(11,.one (.v .i64)),(8,.one (.v .i64))],[.arr (.int .u64),.arr (.int .u64)]⟩)]
abbrev K4:Option Pat:=none
variable (w333_14:Pat.D FA->Option (Ah LC K4))
def Uq(p1146:W4)(f1146:Xd)(p1329:bV)(f1329:cR)(p144:HE)(f144:HH)(p146:RM)(f146:RU)(p329:cC)(f329:cY)(p327:LN)(f327:LQ)(p186:RP)(f186:RX)(p332:cD)(f332:cZ)(p173:AZ)(f173:A1)(p171:QL)(f171:QO){R:Type}(L:Pat.D FA->Option R)(e:Ah LC K4->Option R)(x:Pat.D FA):Option R:=let e3_:=(aa .i64 ((aa .i64 (x.1.2.1+x.1.2.2.2.2.1))+(1:Int)));let e1_:=(f332 ((x.2.1,(ai x.1.2.1),((ai e3_)-(ai x.1.2.1))),x.1.1,()));let e2_:=e3_;bif(decide (x.1.2.1>=(0:Int)))then(bif(((decide ((0:Int)<=x.1.2.1))&&(decide (x.1.2.1<=e2_)))&&(decide (e2_<=(x.2.1.length:Int))))then(bif(p332 ((x.2.1,(ai x.1.2.1),((ai e2_)-(ai x.1.2.1))),x.1.1,()))then(bif((decide ((0:Int)<=x.1.2.1))&&(decide (x.1.2.1<(x.2.2.1.length:Int))))then(((L ((x.1.1,(aa .i64 (x.1.2.1-(1:Int))),(),(),x.1.2.2.2.2),e1_.1,(x.2.2.1.set (ai x.1.2.1) e1_.2.1),()))))else none)else none)else none)else(e (.inl (((),(),x.1.2.2.2.2),x.2)))
theorem aZ8(d:Nat)(R:Type)(L:Pat.D FA->Option R)(e:Ah LC K4->Option R)(x:Pat.D FA):
  Bv ({cf [(116,⟨H9,IA,p1146,f1146⟩),(117,⟨J0,Ko,p1329,f1329⟩),(101,⟨Fp,Fu,p144,f144⟩),(116,⟨GX,G5,p146,f146⟩),(117,⟨J5,Ks,p329,f329⟩),(118,⟨F6,Gh,p327,f327⟩),(97,⟨Ik,II,p186,f186⟩),(93,⟨Bo,Bp,p173,f173⟩),(100,⟨GY,G6,p171,f171⟩)] [(99,14,LoopSpec.of FA Zl LC K4 w333_14)]with cut:=true,lsums:=[(119,⟨ET,J6,IM,p332,f332⟩)] }) (d+2) 99 (Bs Tryz.f99 14) FA Zl LC K4 (R:=R) L e x=Uq p1146 f1146 p1329 f1329 p144 f144 p146 f146 p329 f329 p327 f327 p186 f186 p332 f332 p173 f173 p171 f171 L e x:=by kernel_rfl
theorem aHL(p1146:W4)(f1146:Xd)(p1329:bV)(f1329:cR)(p144:HE)(f144:HH)(p146:RM)(f146:RU)(p329:cC)(f329:cY)(p327:LN)(f327:LQ)(p186:RP)(f186:RX)(p332:cD)(f332:cZ)(p173:AZ)(f173:A1)(p171:QL)(f171:QO):Bm fun L e x=>Uq p1146 f1146 p1329 f1329 p144 f144 p146 f146 p329 f329 p327 f327 p186 f186 p332 f332 p173 f173 p171 f171 L e x:=by intro _ _ _ _ _ _ _ h0 hL he _;unfold Uq;repeat' (first|exact h0|exact hL _|exact he _|apply BG|(apply BH h0;intro _)|(apply BI<;>intro _))
def jC(p1146:W4)(f1146:Xd)(p1329:bV)(f1329:cR)(p144:HE)(f144:HH)(p146:RM)(f146:RU)(p329:cC)(f329:cY)(p327:LN)(f327:LQ)(p186:RP)(f186:RX)(p332:cD)(f332:cZ)(p173:AZ)(f173:A1)(p171:QL)(f171:QO)(w333_14:Pat.D FA->Option (Ah LC K4))(a0 a1:Ab (.slice (.int .u64))):Option (DenS OU):=
 let e17_:=(aa .i64 (((f173 (a1,())).1.length:Int)-(1:Int)))
 let e14_:=(f327 (((f173 (a1,())).1.getD (ai e17_) (0:Int)),()))
 let e12_:=(f186 ((f173 (a0,())).1,e14_))
 let e18_:=(aa .i64 (((f173 (a0,())).1.length:Int)+(1:Int)))
 let e15_:=(au (ai e18_) (0:Int))
 let e13_:=(f186 ((f173 (a1,())).1,e14_))
 let e11_:=(aa .i64 ((((e12_.1.take e15_.length)++(e15_.drop e12_.1.length)).length:Int)-(e13_.1.length:Int)))
 let e1_:=(au (ai e11_) (0:Int))
 let e2_:=e11_
 let e3_:=e13_
 let e4_:=e12_
 let e5_:=e14_
 let e6_:=e15_
 let e16_:=((f1146 (f173 (a0,()))).1,((f173 (a1,())).1.getD (ai (0:Int)) (0:Int)),())
 let e7_:=(((f1329 e16_).2.1::[]),())
 let e8_:=e16_
 let e9_:=e17_
 let e10_:=e18_
 bif(p173 (a0,()))then(bif(p173 (a1,()))then(bif(p144 ((f173 (a0,())).1,(f173 (a1,()))))then(bif(decide ((f144 ((f173 (a0,())).1,(f173 (a1,())))).1<(0:Int)))then(bif(p1146 (f173 (a0,())))then(some ([],(f1146 (f173 (a0,())))))
 else none)
 else bif(((f173 (a1,())).1.length:Int)==(1:Int))then(bif(p1146 (f173 (a0,())))then(bif(decide ((0:Int)<((f173 (a1,())).1.length:Int)))then(bif(p1329 e8_)then(bif(p173 e7_)then(some ((f1329 e8_).1,(f173 e7_)))
 else none)
 else none)
 else none)
 else none)
 else bif((decide ((0:Int)<=e9_))&&(decide (e9_<((f173 (a1,())).1.length:Int))))then(bif(p327 (((f173 (a1,())).1.getD (ai e9_) (0:Int)),()))then(bif(p186 ((f173 (a1,())).1,e5_))then(bif((decide ((0:Int)<=e10_))&&(decide ((e10_*(8:Int))<=(140737488355328:Int))))then(bif(p186 ((f173 (a0,())).1,e5_))then(bif((decide ((0:Int)<=e2_))&&(decide ((e2_*(8:Int))<=(140737488355328:Int))))then(Vx.Ba (w333_14 ((e3_.1,(aa .i64 ((e1_.length:Int)-(1:Int))),(),(),(e3_.1.length:Int),e5_),((e4_.1.take e6_.length)++(e6_.drop e4_.1.length)),e1_,())) fun y11=>
 Vx.A7 y11 (fun y12=>
 bif(p173 y12.2.2)then(bif((decide ((0:Int)<=y12.1.2.2.1))&&(decide (y12.1.2.2.1<=(y12.2.1.length:Int))))then(bif(p171 (((y12.2.1.take (ai y12.1.2.2.1)).drop (ai (0:Int))),y12.1.2.2.2))then(some ((f173 y12.2.2).1,(f171 (((y12.2.1.take (ai y12.1.2.2.1)).drop (ai (0:Int))),y12.1.2.2.2))))
 else none)
 else none)
 else none) (fun z12=>
 none))
 else none)
 else none)
 else none)
 else none)
 else none)
 else none)
 else none)
 else none)
 else none
theorem aXx(x:DenS M6):run ({cf [(116,⟨H9,IA,p1146,f1146⟩),(117,⟨J0,Ko,p1329,f1329⟩),(101,⟨Fp,Fu,p144,f144⟩),(116,⟨GX,G5,p146,f146⟩),(117,⟨J5,Ks,p329,f329⟩),(118,⟨F6,Gh,p327,f327⟩),(97,⟨Ik,II,p186,f186⟩),(93,⟨Bo,Bp,p173,f173⟩),(100,⟨GY,G6,p171,f171⟩)] [(99,14,LoopSpec.of FA Zl LC K4 w333_14)]with cut:=true,lsums:=[(119,⟨ET,J6,IM,p332,f332⟩)] }) 9 99 Tryz.f99 M6 OU x=jC p1146 f1146 p1329 f1329 p144 f144 p146 f146 p329 f329 p327 f327 p186 f186 p332 f332 p173 f173 p171 f171 w333_14 x.1 x.2.1:=by kernel_rfl
def W0:FA.D->Option (Ah LC K4):=Bg fun L=>Uq Dc.pre Dc.F Eh.pre Eh.F By.pre By.F CA.pre CA.F E8.pre E8.F Bz.pre Bz.F Dd.pre Dd.F Ej.pre Ej.F Ai.pre Ai.F CB.pre CB.F L some
def Wk(x:DenS M6):Option (DenS OU):=jC Dc.pre Dc.F Eh.pre Eh.F By.pre By.F CA.pre CA.F E8.pre E8.F Bz.pre Bz.F Dd.pre Dd.F Ej.pre Ej.F Ai.pre Ai.F CB.pre CB.F W0 x.1 x.2.1
def Qa:Sum:=Ak M6 OU Wk (DenS.dflt OU)
theorem aNB:Sound Tryz.prog G1 99 Qa:=sd ({cf [(116,Dc),(117,Eh),(101,By),(116,CA),(117,E8),(118,Bz),(97,Dd),(93,Ai),(100,CB)] [(99,14,LoopSpec.of FA Zl LC K4 W0)]with cut:=true,lsums:=[(119,Ej)] }) 99 Tryz.f99 ⟨yD,aNc,ZO,lV,aNx,yT,yM,DO,lW,trivial⟩ ⟨rfl,fun d=>BE (fun L e x=>Uq Dc.pre Dc.F Eh.pre Eh.F By.pre By.F CA.pre CA.F E8.pre E8.F Bz.pre Bz.F Dd.pre Dd.F Ej.pre Ej.F Ai.pre Ai.F CB.pre CB.F L e x) (aHL Dc.pre Dc.F Eh.pre Eh.F By.pre By.F CA.pre CA.F E8.pre E8.F Bz.pre Bz.F Dd.pre Dd.F Ej.pre Ej.F Ai.pre Ai.F CB.pre CB.F) (fun _ _ _ _=>aZ8 ..),trivial⟩ M6 OU Wk _ (fun _=>aXx ..) (hls:=⟨aNA,trivial⟩)
abbrev nH:=Ae M6
abbrev oT:=Ad M6 OU
variable (p333:nH)(f333:oT)
abbrev J7:Aa:=[(false,.slice (.int .u64)),(false,.slice (.int .u64))]
abbrev Kt:Aa:=[(false,.slice (.int .u64)),(false,.slice (.int .u64)),(false,.int .i64)]
def jD(p185:RO)(f185:RW)(p173:AZ)(f173:A1)(p333:nH)(f333:oT)(a0 a1:Ab (.slice (.int .u64))):Option (DenS Kt):=bif(p185 ((a0::(a1::[])),()))then(bif(f185 ((a0::(a1::[])),())).1 then(some ([],[],(5:Int),()))else bif(p173 (a1,()))then(bif(((f173 (a1,())).1.length:Int)==(0:Int))then(some ([],[],(10:Int),()))else bif(p333 (a0,a1,()))then(some ((f333 (a0,a1,())).1,(f333 (a0,a1,())).2.1,(0:Int),()))else none)else none)else none
theorem aXy(x:DenS J7):run (cf [(96,⟨Ij,IH,p185,f185⟩),(93,⟨Bo,Bp,p173,f173⟩),(99,⟨M6,OU,p333,f333⟩)] []) 9 247 Tryz.f247 J7 Kt x=jD p185 f185 p173 f173 p333 f333 x.1 x.2.1:=by kernel_rfl
def Wl(x:DenS J7):Option (DenS Kt):=jD Ei.pre Ei.F Ai.pre Ai.F Qa.pre Qa.F x.1 x.2.1
def Ek:Sum:=Ak J7 Kt Wl (DenS.dflt Kt)
theorem aNC:Sound Tryz.prog G1 247 Ek:=sd (cf [(96,Ei),(93,Ai),(99,Qa)] []) 247 Tryz.f247 ⟨lX,DO,aNB,trivial⟩ trivial J7 Kt Wl _ (fun _=>aXy ..)
abbrev cE:=Ae J7
abbrev dA:=Ad J7 Kt
variable (p345:cE)(f345:dA)
abbrev MI:Aa:=[(true,.slice (.int .u64)),(false,.slice (.int .u64))]
abbrev Ov:Aa:=[(true,.slice (.int .u64))]
abbrev Hb:Pat:=⟨37,[(9,.one (.v .i64)),(1,.one (.sl (.int .u64))),(5,.one (.v .u64)),(10,.one (.v .i64)),(0,.one (.own 0))],[.arr (.int .u64)]⟩
abbrev Y5:List (Nat×Shape):=[]
abbrev Lm:List (Nat×Pat):=[(0,⟨37,[(0,.one (.own 0))],[.arr (.int .u64)]⟩)]
abbrev KO:Option Pat:=none
variable (w1174_3:Pat.D Hb->Option (Ah Lm KO))
def Ub(p1173:QK)(f1173:QN)(p157:Gy)(f157:GC)(p173:AZ)(f173:A1){R:Type}(L:Pat.D Hb->Option R)(e:Ah Lm KO->Option R)(x:Pat.D Hb):Option R:=let e8_:=(x.2.1.getD (ai x.1.2.2.2.1) (0:Int));let e7_:=((x.1.2.1.getD (ai x.1.2.2.2.1) (0:Int)),x.1.2.2.1,());let e1_:=(f157 (e8_,e7_));let e2_:=((decide ((0:Int)<=x.1.2.2.2.1))&&(decide (x.1.2.2.2.1<(x.2.1.length:Int))));let e3_:=(f157 (e8_,(0:Int),x.1.2.2.1,()));let e4_:=((aa .i64 (x.1.2.2.2.1+(1:Int))),(),());let e5_:=(decide (x.1.2.2.2.1<(x.1.2.1.length:Int)));let e6_:=e8_;bif(decide (x.1.2.2.2.1<x.1.1))then(bif e5_ then(bif((decide ((0:Int)<=x.1.2.2.2.1))&&e5_)then(bif e2_ then(bif(p157 (e6_,e7_))then(bif e2_ then(((L ((x.1.1,x.1.2.1,e1_.2.1,e4_),(x.2.1.set (ai x.1.2.2.2.1) e1_.1),()))))else none)else none)else none)else none)else bif e2_ then(bif(p157 (e6_,(0:Int),x.1.2.2.1,()))then(bif e2_ then(((L ((x.1.1,x.1.2.1,e3_.2.1,e4_),(x.2.1.set (ai x.1.2.2.2.1) e3_.1),()))))else none)else none)else none)else(e (.inl (((),()),x.2)))
theorem aZM(d:Nat)(R:Type)(L:Pat.D Hb->Option R)(e:Ah Lm KO->Option R)(x:Pat.D Hb):
  Bv ({cf [(93,⟨GT,G2,p1173,f1173⟩),(148,⟨J3,OD,p157,f157⟩),(93,⟨Bo,Bp,p173,f173⟩)] [(254,3,LoopSpec.of Hb Y5 Lm KO w1174_3)]with keep:=true}) (d+2) 254 (Bs Tryz.f254 3) Hb Y5 Lm KO (R:=R) L e x=Ub p1173 f1173 p157 f157 p173 f173 L e x:=by kernel_rfl
theorem aHw(p1173:QK)(f1173:QN)(p157:Gy)(f157:GC)(p173:AZ)(f173:A1):Bm fun L e x=>Ub p1173 f1173 p157 f157 p173 f173 L e x:=by intro _ _ _ _ _ _ _ h0 hL he _;unfold Ub;repeat' (first|exact h0|exact hL _|exact he _|apply BG|(apply BH h0;intro _)|(apply BI<;>intro _))
def h9(p1173:QK)(f1173:QN)(p157:Gy)(f157:GC)(p173:AZ)(f173:A1)(w1174_3:Pat.D Hb->Option (Ah Lm KO))(a0 a1:Ab (.slice (.int .u64))):Option (DenS Ov):=
 Vx.Ba (w1174_3 (((a0.length:Int),a1,(0:Int),(0:Int),(),()),a0,())) fun y0=>
 Vx.A7 y0 (fun y1=>
 bif(p1173 y1.2)then(some (f1173 y1.2))
 else none) (fun z1=>
 none)
theorem aWD(x:DenS MI):run ({cf [(93,⟨GT,G2,p1173,f1173⟩),(148,⟨J3,OD,p157,f157⟩),(93,⟨Bo,Bp,p173,f173⟩)] [(254,3,LoopSpec.of Hb Y5 Lm KO w1174_3)]with keep:=true}) 9 254 Tryz.f254 MI Ov x=h9 p1173 f1173 p157 f157 p173 f173 w1174_3 x.1 x.2.1:=by kernel_rfl
def WV:Hb.D->Option (Ah Lm KO):=Bg fun L=>Ub BO.pre BO.F A3.pre A3.F Ai.pre Ai.F L some
def VP(x:DenS MI):Option (DenS Ov):=h9 BO.pre BO.F A3.pre A3.F Ai.pre Ai.F WV x.1 x.2.1
def P7:Sum:=Ak MI Ov VP (DenS.dflt Ov)
theorem aM7:Sound Tryz.prog G1 254 P7:=sd ({cf [(93,BO),(148,A3),(93,Ai)] [(254,3,LoopSpec.of Hb Y5 Lm KO WV)]with keep:=true}) 254 Tryz.f254 ⟨yE,ZQ,DO,trivial⟩ ⟨rfl,fun d=>BE (fun L e x=>Ub BO.pre BO.F A3.pre A3.F Ai.pre Ai.F L e x) (aHw BO.pre BO.F A3.pre A3.F Ai.pre Ai.F) (fun _ _ _ _=>aZM ..),trivial⟩ MI Ov VP _ (fun _=>aWD ..)
abbrev aCe:=Ae MI
abbrev aDI:=Ad MI Ov
variable (p1174:aCe)(f1174:aDI)
abbrev MR:Aa:=[(false,.slice (.int .u64)),(false,.slice (.int .u64))]
abbrev OF:Aa:=[(false,.slice (.int .u64))]
abbrev Hh:Pat:=⟨37,[(9,.one (.v .i64)),(1,.one (.sl (.int .u64))),(5,.one (.v .u64)),(10,.one (.v .i64)),(0,.one (.sl (.int .u64)))],[]⟩
abbrev Zc:List (Nat×Shape):=[]
abbrev Lt:List (Nat×Pat):=[(0,⟨37,[(0,.one (.sl (.int .u64)))],[]⟩)]
abbrev KV:Option Pat:=none
variable (w174_3:Pat.D Hh->Option (Ah Lt KV))
def X2(p157:Gy)(f157:GC)(p173:AZ)(f173:A1){R:Type}(L:Pat.D Hh->Option R)(e:Ah Lt KV->Option R)(x:Pat.D Hh):Option R:=let e1_:=((decide ((0:Int)<=x.1.2.2.2.1))&&(decide (x.1.2.2.2.1<(x.1.2.2.2.2.1.length:Int))));let e2_:=(x.1.2.2.2.2.1.getD (ai x.1.2.2.2.1) (0:Int));let e3_:=(decide (x.1.2.2.2.1<(x.1.2.1.length:Int)));bif(decide (x.1.2.2.2.1<x.1.1))then(bif e3_ then(bif((decide ((0:Int)<=x.1.2.2.2.1))&&e3_)then(bif e1_ then(bif(p157 (e2_,(x.1.2.1.getD (ai x.1.2.2.2.1) (0:Int)),x.1.2.2.1,()))then(bif e1_ then((none))else none)else none)else none)else none)else bif e1_ then(bif(p157 (e2_,(0:Int),x.1.2.2.1,()))then(bif e1_ then((none))else none)else none)else none)else(e (.inl (x.1.2.2.2.2,())))
theorem aZT(d:Nat)(R:Type)(L:Pat.D Hh->Option R)(e:Ah Lt KV->Option R)(x:Pat.D Hh):
  Bv (cf [(148,⟨J3,OD,p157,f157⟩),(93,⟨Bo,Bp,p173,f173⟩)] [(254,3,LoopSpec.of Hh Zc Lt KV w174_3)]) (d+2) 254 (Bs Tryz.f254 3) Hh Zc Lt KV (R:=R) L e x=X2 p157 f157 p173 f173 L e x:=by kernel_rfl
theorem aT6(p157:Gy)(f157:GC)(p173:AZ)(f173:A1):Bm fun L e x=>X2 p157 f157 p173 f173 L e x:=by intro _ _ _ _ _ _ _ h0 hL he _;unfold X2;repeat' (first|exact h0|exact hL _|exact he _|apply BG|(apply BH h0;intro _)|(apply BI<;>intro _))
def aJO(p157:Gy)(f157:GC)(p173:AZ)(f173:A1)(w174_3:Pat.D Hh->Option (Ah Lt KV))(a0 a1:Ab (.slice (.int .u64))):Option (DenS OF):=
 Vx.Ba (w174_3 (((a0.length:Int),a1,(0:Int),(0:Int),a0,()),())) fun y0=>
 Vx.A7 y0 (fun y1=>
 bif(p173 y1.1)then(some (f173 y1.1))
 else none) (fun z1=>
 none)
theorem aW5(x:DenS MR):run (cf [(148,⟨J3,OD,p157,f157⟩),(93,⟨Bo,Bp,p173,f173⟩)] [(254,3,LoopSpec.of Hh Zc Lt KV w174_3)]) 9 254 Tryz.f254 MR OF x=aJO p157 f157 p173 f173 w174_3 x.1 x.2.1:=by kernel_rfl
def aBR:Hh.D->Option (Ah Lt KV):=Bg fun L=>X2 A3.pre A3.F Ai.pre Ai.F L some
def aAq(x:DenS MR):Option (DenS OF):=aJO A3.pre A3.F Ai.pre Ai.F aBR x.1 x.2.1
def S2:Sum:=Ak MR OF aAq (DenS.dflt OF)
theorem aNl:Sound Tryz.prog G1 254 S2:=sd (cf [(148,A3),(93,Ai)] [(254,3,LoopSpec.of Hh Zc Lt KV aBR)]) 254 Tryz.f254 ⟨ZQ,DO,trivial⟩ ⟨rfl,fun d=>BE (fun L e x=>X2 A3.pre A3.F Ai.pre Ai.F L e x) (aT6 A3.pre A3.F Ai.pre Ai.F) (fun _ _ _ _=>aZT ..),trivial⟩ MR OF aAq _ (fun _=>aW5 ..)
abbrev aCr:=Ae MR
abbrev aDV:=Ad MR OF
variable (p174:aCr)(f174:aDV)
abbrev Ih:Aa:=[(false,.slice (.int .u64)),(false,.slice (.int .u64))]
abbrev IF:Aa:=[(false,.slice (.int .u64)),(false,.int .i64)]
def iK(p1174:aCe)(f1174:aDI)(p1146:W4)(f1146:Xd)(p144:HE)(f144:HH)(p146:RM)(f146:RU)(p173:AZ)(f173:A1)(p174:aCr)(f174:aDV)(a0 a1:Ab (.slice (.int .u64))):Option (DenS IF):=bif(p144 (a0,a1,()))then(bif(decide ((f144 (a0,a1,())).1<(0:Int)))then(some ([],(20:Int),()))else bif(p1146 (a0,()))then(bif(p173 (a1,()))then(bif(p1174 ((f1146 (a0,())).1,(f173 (a1,()))))then(some ((f1174 ((f1146 (a0,())).1,(f173 (a1,())))).1,(0:Int),()))else none)else none)else none)else none
theorem aWS(x:DenS Ih):run (cf [(254,⟨MI,Ov,p1174,f1174⟩),(116,⟨H9,IA,p1146,f1146⟩),(101,⟨Fp,Fu,p144,f144⟩),(116,⟨GX,G5,p146,f146⟩),(93,⟨Bo,Bp,p173,f173⟩),(254,⟨MR,OF,p174,f174⟩)] []) 9 248 Tryz.f248 Ih IF x=iK p1174 f1174 p1146 f1146 p144 f144 p146 f146 p173 f173 p174 f174 x.1 x.2.1:=by kernel_rfl
def V0(x:DenS Ih):Option (DenS IF):=iK P7.pre P7.F Dc.pre Dc.F By.pre By.F CA.pre CA.F Ai.pre Ai.F S2.pre S2.F x.1 x.2.1
def Du:Sum:=Ak Ih IF V0 (DenS.dflt IF)
theorem yI:Sound Tryz.prog G1 248 Du:=sd (cf [(254,P7),(116,Dc),(101,By),(116,CA),(93,Ai),(254,S2)] []) 248 Tryz.f248 ⟨aM7,yD,ZO,lV,DO,aNl,trivial⟩ trivial Ih IF V0 _ (fun _=>aWS ..)
abbrev Tw:=Ae Ih
abbrev TE:=Ad Ih IF
variable (p145:Tw)(f145:TE)
abbrev Nh:Aa:=[(false,.slice (.int .u64)),(false,.slice (.int .u64)),(false,.int .i64)]
abbrev O4:Aa:=[(true,.pair (.bool) (.pair (.slice (.int .u64)) (.pair (.int .i64) (.pair (.bool) (.unit)))))]
abbrev Hr:Pat:=⟨81,[(2,.one (.v .i64)),(1,.one (.sl (.int .u64))),(11,.one (.sl (.int .u64))),(13,.one (.ptr 1 0)),(6,.one (.ptr 0 0))],[.raw [.bool,.sl (.int .u64),.v .i64,.bool],.raw [.bool,.sl (.int .u64),.v .i64,.bool]]⟩
abbrev Zn:List (Nat×Shape):=[]
abbrev LF:List (Nat×Pat):=[(0,⟨81,[(11,.one (.sl (.int .u64))),(13,.one (.ptr 1 0)),(6,.one (.ptr 0 0))],[.raw [.bool,.sl (.int .u64),.v .i64,.bool],.raw [.bool,.sl (.int .u64),.v .i64,.bool]]⟩)]
abbrev K6:Option Pat:=none
variable (w379_5:Pat.D Hr->Option (Ah LF K6))
def Us(p176:RN)(f176:RV)(p345:cE)(f345:dA)(p151:Jr)(f151:Ju)(p144:HE)(f144:HH)(p145:Tw)(f145:TE)(p143:LM)(f143:LP){R:Type}(L:Pat.D Hr->Option R)(e:Ah LF K6->Option R)(x:Pat.D Hr):Option R:=let e1_:=((aa .i64 (x.2.2.1.2.2.1-(1:Int))),x.2.2.1.2.2.2);let e2_:=((f143 (x.2.2.1.2.1,x.2.2.1.2.1,())).1,((1:Int)::[]),());let e3_:=((f143 (x.1.2.2.1,x.1.2.2.1,())).1,x.1.2.1,());bif(p151 (x.2.2.1.2.1,()))then(bif((decide ((f151 (x.2.2.1.2.1,())).1<x.1.1))&&(decide ((x.1.2.2.1.length:Int)>(0:Int))))then(bif(p143 (x.2.2.1.2.1,x.2.2.1.2.1,()))then(bif(p143 (x.1.2.2.1,x.1.2.2.1,()))then(bif(p144 e3_)then(bif(decide ((f144 e3_).1>=(0:Int)))then(bif(p145 e3_)then(bif(p143 e2_)then(((L ((x.1.1,x.1.2.1,(f145 e3_).1,(),(),()),x.2.1,(x.2.2.1.1,(f143 e2_).1,e1_),()))))else none)else none)else(L ((x.1.1,x.1.2.1,(f143 (x.1.2.2.1,x.1.2.2.1,())).1,(),(),()),x.2.1,(x.2.2.1.1,(f143 (x.2.2.1.2.1,x.2.2.1.2.1,())).1,e1_),())))else none)else none)else none)else(e (.inl ((x.1.2.2.1,(),(),()),x.2))))else none
theorem bAa(d:Nat)(R:Type)(L:Pat.D Hr->Option R)(e:Ah LF K6->Option R)(x:Pat.D Hr):
  Bv (cf [(67,⟨Ii,IG,p176,f176⟩),(247,⟨J7,Kt,p345,f345⟩),(98,⟨Fq,Fv,p151,f151⟩),(101,⟨Fp,Fu,p144,f144⟩),(248,⟨Ih,IF,p145,f145⟩),(65,⟨GW,Gg,p143,f143⟩)] [(238,5,LoopSpec.of Hr Zn LF K6 w379_5)]) (d+2) 238 (Bs Tryz.f238 5) Hr Zn LF K6 (R:=R) L e x=Us p176 f176 p345 f345 p151 f151 p144 f144 p145 f145 p143 f143 L e x:=by kernel_rfl
theorem aHN(p176:RN)(f176:RV)(p345:cE)(f345:dA)(p151:Jr)(f151:Ju)(p144:HE)(f144:HH)(p145:Tw)(f145:TE)(p143:LM)(f143:LP):Bm fun L e x=>Us p176 f176 p345 f345 p151 f151 p144 f144 p145 f145 p143 f143 L e x:=by intro _ _ _ _ _ _ _ h0 hL he _;unfold Us;repeat' (first|exact h0|exact hL _|exact he _|apply BG|(apply BH h0;intro _)|(apply BI<;>intro _))
def jI(p176:RN)(f176:RV)(p345:cE)(f345:dA)(p151:Jr)(f151:Ju)(p144:HE)(f144:HH)(p145:Tw)(f145:TE)(p143:LM)(f143:LP)(w379_5:Pat.D Hr->Option (Ah LF K6))(a0 a1:Ab (.slice (.int .u64)))(a2:Ab (.int .i64)):Option (DenS O4):=
 let e5_:=(aa .i64 ((aa .i64 ((f151 (a1,())).1-(f151 (a0,())).1))-(1:Int)))
 let e4_:=(a0,(if(e5_>(0:Int))then e5_ else(0:Int)),())
 let e1_:=(f345 ((f176 e4_).1,a1,()))
 let e2_:=e4_
 let e3_:=e5_
 bif(p151 (a1,()))then(bif(p151 (a0,()))then(bif(p176 e2_)then(bif(p345 ((f176 e2_).1,a1,()))then(Vx.Ba (w379_5 ((a2,a1,e1_.2.1,(),(),()),(false,[],(0:Int),false,()),(false,e1_.1,(aa .i64 ((0:Int)-(if(e3_>(0:Int))then e3_ else(0:Int)))),false,()),())) fun y4=>
 Vx.A7 y4 (fun y5=>
 some ((y5.2.2.1.1,y5.2.2.1.2.1,y5.2.2.1.2.2.1,(decide ((y5.1.1.length:Int)>(0:Int))),()),())) (fun z5=>
 none))
 else none)
 else none)
 else none)
 else none
theorem aXI(x:DenS Nh):run (cf [(67,⟨Ii,IG,p176,f176⟩),(247,⟨J7,Kt,p345,f345⟩),(98,⟨Fq,Fv,p151,f151⟩),(101,⟨Fp,Fu,p144,f144⟩),(248,⟨Ih,IF,p145,f145⟩),(65,⟨GW,Gg,p143,f143⟩)] [(238,5,LoopSpec.of Hr Zn LF K6 w379_5)]) 9 238 Tryz.f238 Nh O4 x=jI p176 f176 p345 f345 p151 f151 p144 f144 p145 f145 p143 f143 w379_5 x.1 x.2.1 x.2.2.1:=by kernel_rfl
def bP:Hr.D->Option (Ah LF K6):=Bg fun L=>Us Dv.pre Dv.F Ek.pre Ek.F BS.pre BS.F By.pre By.F Du.pre Du.F C5.pre C5.F L some
def Wu(x:DenS Nh):Option (DenS O4):=jI Dv.pre Dv.F Ek.pre Ek.F BS.pre BS.F By.pre By.F Du.pre Du.F C5.pre C5.F bP x.1 x.2.1 x.2.2.1
def Qi:Sum:=Ak Nh O4 Wu (DenS.dflt O4)
theorem aNL:Sound Tryz.prog G1 238 Qi:=sd (cf [(67,Dv),(247,Ek),(98,BS),(101,By),(248,Du),(65,C5)] [(238,5,LoopSpec.of Hr Zn LF K6 bP)]) 238 Tryz.f238 ⟨yL,aNC,Vn,ZO,yI,lU,trivial⟩ ⟨rfl,fun d=>BE (fun L e x=>Us Dv.pre Dv.F Ek.pre Ek.F BS.pre BS.F By.pre By.F Du.pre Du.F C5.pre C5.F L e x) (aHN Dv.pre Dv.F Ek.pre Ek.F BS.pre BS.F By.pre By.F Du.pre Du.F C5.pre C5.F) (fun _ _ _ _=>bAa ..),trivial⟩ Nh O4 Wu _ (fun _=>aXI ..)
abbrev aCI:=Ae Nh
abbrev aEc:=Ad Nh O4
variable (p379:aCI)(f379:aEc)
abbrev Nj:Aa:=[(false,.int .i64),(false,.int .i64),(false,.bool),(false,.slice (.int .u64)),(false,.slice (.int .u64)),(false,.int .i64)]
abbrev O5:Aa:=[(false,.int .u64),(false,.int .i64),(false,.int .i64)]
def jJ(p105:Tt)(f105:TB)(p102:Gw)(f102:GA)(p156:bW)(f156:cS)(p379:aCI)(f379:aEc)(p107:Tu)(f107:TC)(a0 a1:Ab (.int .i64))(a2:Ab (.bool))(a3 a4:Ab (.slice (.int .u64)))(a5:Ab (.int .i64)):Option (DenS O5):=let e4_:=((f102 (a3,())).1,(f102 (a4,())).1,(aa .i64 ((f105 (a0,a1,())).1.2.1+(3:Int))),());let e3_:=(f379 e4_);let e1_:=(f107 ((a2,e3_.1.2.1,(aa .i64 (e3_.1.2.2.1+a5)),e3_.1.2.2.2),a0,(f105 (a0,a1,())).1,a1,()));let e2_:=e3_;bif(p105 (a0,a1,()))then(bif((f105 (a0,a1,())).2.1 !=(0:Int))then(some ((0:Int),(0:Int),(f105 (a0,a1,())).2))else bif(p102 (a3,()))then(bif(p102 (a4,()))then(bif(decide ((aa .i64 (((f102 (a3,())).1.length:Int)+((f102 (a4,())).1.length:Int)))>(1024:Int)))then(some ((0:Int),(0:Int),(5:Int),()))else bif((decide (a5<(-(40000:Int))))||(decide (a5>(40000:Int))))then(some ((0:Int),(0:Int),(30:Int),()))else bif(((f102 (a4,())).1.length:Int)==(0:Int))then(some ((0:Int),(0:Int),(10:Int),()))else bif(((f102 (a3,())).1.length:Int)==(0:Int))then(bif(p156 (a0,a2,()))then(some (f156 (a0,a2,())))else none)else bif(p379 e4_)then(bif(p107 ((a2,e2_.1.2.1,(aa .i64 (e2_.1.2.2.1+a5)),e2_.1.2.2.2),a0,(f105 (a0,a1,())).1,a1,()))then(some (e1_.1,e1_.2.1,(0:Int),()))else none)else none)else none)else none)else none
theorem aXK(x:DenS Nj):run (cf [(121,⟨H7,Iy,p105,f105⟩),(122,⟨EP,EW,p102,f102⟩),(123,⟨J2,Kq,p156,f156⟩),(238,⟨Nh,O4,p379,f379⟩),(124,⟨H8,Iz,p107,f107⟩)] []) 9 204 Tryz.f204 Nj O5 x=jJ p105 f105 p102 f102 p156 f156 p379 f379 p107 f107 x.1 x.2.1 x.2.2.1 x.2.2.2.1 x.2.2.2.2.1 x.2.2.2.2.2.1:=by kernel_rfl
def Wv(x:DenS Nj):Option (DenS O5):=jJ E4.pre E4.F BR.pre BR.F Hz.pre Hz.F Qi.pre Qi.F E5.pre E5.F x.1 x.2.1 x.2.2.1 x.2.2.2.1 x.2.2.2.2.1 x.2.2.2.2.2.1
def Qj:Sum:=Ak Nj O5 Wv (DenS.dflt O5)
theorem aNM:Sound Tryz.prog G1 204 Qj:=sd (cf [(121,E4),(122,BR),(123,Hz),(238,Qi),(124,E5)] []) 204 Tryz.f204 ⟨lP,Vm,yK,aNL,lQ,trivial⟩ trivial Nj O5 Wv _ (fun _=>aXK ..)
abbrev aCK:=Ae Nj
abbrev aEe:=Ad Nj O5
variable (p380:aCK)(f380:aEe)
abbrev Nk:Aa:=[(false,.int .i64),(false,.int .i64),(false,.int .u64),(false,.int .u64)]
abbrev Kv:Aa:=[(false,.int .u64),(false,.int .i64),(false,.int .i64)]
def jK(p376:aCF)(f376:aD9)(p377:aCG)(f377:aEa)(p378:aCH)(f378:aEb)(p97:LO)(f97:LR)(p118:HD)(f118:HG)(p40:QM)(f40:QP)(p380:aCK)(f380:aEe)(a0 a1:Ab (.int .i64))(a2 a3:Ab (.int .u64)):Option (DenS Kv):=let e6_:=(!((f377 (a0,a2,())).1.2.2.2.2.1==(f377 (a0,a3,())).1.2.2.2.2.1));let e1_:=(a0,a1,e6_,(f40 (a0,a2,())).1.2.1,(f40 (a0,a3,())).1.2.1,(aa .i64 ((f40 (a0,a2,())).1.2.2.1-(f40 (a0,a3,())).1.2.2.1)),());let e5_:=(a0,e6_,());let e2_:=(f118 e5_);let e3_:=(f97 e5_);let e4_:=(p97 e5_);let g1_:Option (DenS Kv):=bif(p378 (a0,(1:Int),()))then(some (f378 (a0,(1:Int),())))else none;bif(p376 (a0,a1,(a2::(a3::[])),()))then(bif((f376 (a0,a1,(a2::(a3::[])),())).1 !=(0:Int))then(some ((0:Int),(0:Int),(f376 (a0,a1,(a2::(a3::[])),()))))else bif(p377 (a0,a2,()))then(bif(p377 (a0,a3,()))then(bif((f377 (a0,a2,())).1.2.1||(f377 (a0,a3,())).1.2.1)then(g1_)else bif((f377 (a0,a2,())).1.1||(f377 (a0,a3,())).1.1)then(bif(p378 (a0,(0:Int),()))then(some (f378 (a0,(0:Int),())))else none)else bif(((f377 (a0,a2,())).1.2.2.1&&(f377 (a0,a3,())).1.2.2.1)||((f377 (a0,a2,())).1.2.2.2.1&&(f377 (a0,a3,())).1.2.2.2.1))then(g1_)else bif(f377 (a0,a2,())).1.2.2.1 then(bif e4_ then(some (e3_.1,(0:Int),e3_.2))else none)else bif(f377 (a0,a3,())).1.2.2.2.1 then(bif e4_ then(some (e3_.1,(2:Int),e3_.2))else none)else bif((f377 (a0,a3,())).1.2.2.1||(f377 (a0,a2,())).1.2.2.2.1)then(bif(p118 e5_)then(some (e2_.1,(0:Int),e2_.2))else none)else bif(p40 (a0,a2,()))then(bif(p40 (a0,a3,()))then(bif(p380 e1_)then(some (f380 e1_))else none)else none)else none)else none)else none)else none
theorem aXL(x:DenS Nk):run (cf [(200,⟨Nd,O1,p376,f376⟩),(201,⟨Nf,O2,p377,f377⟩),(202,⟨Ng,O3,p378,f378⟩),(62,⟨Gb,Gm,p97,f97⟩),(64,⟨EB,EX,p118,f118⟩),(203,⟨F7,Gi,p40,f40⟩),(204,⟨Nj,O5,p380,f380⟩)] []) 9 161 Tryz.f161 Nk Kv x=jK p376 f376 p377 f377 p378 f378 p97 f97 p118 f118 p40 f40 p380 f380 x.1 x.2.1 x.2.2.1 x.2.2.2.1:=by kernel_rfl
def Ww(x:DenS Nk):Option (DenS Kv):=jK Qf.pre Qf.F Qg.pre Qg.F Qh.pre Qh.F CC.pre CC.F Bx.pre Bx.F Dj.pre Dj.F Qj.pre Qj.F x.1 x.2.1 x.2.2.1 x.2.2.2.1
def Lf:Sum:=Ak Nk Kv Ww (DenS.dflt Kv)
theorem yV:Sound Tryz.prog G1 161 Lf:=sd (cf [(200,Qf),(201,Qg),(202,Qh),(62,CC),(64,Bx),(203,Dj),(204,Qj)] []) 161 Tryz.f161 ⟨aNI,aNJ,aNK,VI,SS,Vw,aNM,trivial⟩ trivial Nk Kv Ww _ (fun _=>aXL ..)
abbrev nJ:=Ae Nk
abbrev oV:=Ad Nk Kv
variable (p381:nJ)(f381:oV)
abbrev Zw:Aa:=[(false,.int .i64),(false,.int .i64),(false,.int .u64),(false,.int .u64)]
abbrev lH:Aa:=[(false,.int .u64),(false,.int .i64),(false,.int .i64)]
def P5:SumF:=JC Zw lH [(158,[],E7),(159,[],Ld),(160,[],Le),(161,[],Lf)]
theorem aM0:JX Tryz.prog G1 P5:=TT ⟨Dn lY,⟨Dn yP,⟨Dn yU,⟨Dn yV,trivial⟩⟩⟩⟩
abbrev aB6:=Option (Nat×List Nat)->Ae Zw
abbrev aDA:=Option (Nat×List Nat)->Ad Zw lH
variable (p100002:aB6)(f100002:aDA)
abbrev No:Aa:=[(true,.pair (.int .i64) (.pair (.int .i64) (.pair (.int .u64) (.pair (.int .u64) (.pair (.int .u64) .unit))))),(false,.box (.pfn))]
abbrev Kw:Aa:=[(false,.int .u64),(false,.int .i64),(false,.int .i64)]
def jL(p100002:aB6)(f100002:aDA)(a0:Ab (.pair (.int .i64) (.pair (.int .i64) (.pair (.int .u64) (.pair (.int .u64) (.pair (.int .u64) .unit))))))(a1:Ab (.box (.pfn))):Option (DenS Kw):=let e1_:=(a0.2.1,a0.1,a0.2.2.1,a0.2.2.2.1,());bif(p100002 (some (a1,[])) e1_)then(some (f100002 (some (a1,[])) e1_))else none
theorem aXP(x:DenS No):run ({cf [] []with fns:=[(57,⟨Zw,lH,p100002,f100002⟩)] }) 9 192 Tryz.f192 No Kw x=jL p100002 f100002 x.1 x.2.1:=by kernel_rfl
def Wx(x:DenS No):Option (DenS Kw):=jL P5.pre P5.F x.1 x.2.1
def C6:Sum:=Ak No Kw Wx (DenS.dflt Kw)
theorem Vr:Sound Tryz.prog G1 192 C6:=sd ({cf [] []with fns:=[(57,P5)] }) 192 Tryz.f192 trivial trivial No Kw Wx _ (fun _=>aXP ..) (hfs:=⟨aM0,trivial⟩)
abbrev nK:=Ae No
abbrev oW:=Ad No Kw
variable (p395:nK)(f395:oW)
abbrev MY:Aa:=[(false,.int .i64),(false,.int .i64),(false,.slice (.int .u64))]
abbrev OM:Aa:=[(true,.pair (.int .i64) (.pair (.int .i64) (.pair (.int .i64) (.pair (.int .i64) (.unit))))),(false,.int .i64)]
abbrev Hl:Pat:=⟨44,[(30,.one (.v .i64)),(29,.one (.sl (.int .u64))),(0,.one (.v .i64)),(31,.one (.v .i64)),(8,.one (.ptr 1 0)),(6,.one (.ptr 0 0))],[.raw [.v .i64,.v .i64,.v .i64,.v .i64],.raw [.v .i64,.v .i64,.v .i64,.v .i64]]⟩
abbrev Zg:List (Nat×Shape):=[]
abbrev Lx:List (Nat×Pat):=[(0,⟨44,[(8,.one (.ptr 1 0)),(6,.one (.ptr 0 0))],[.raw [.v .i64,.v .i64,.v .i64,.v .i64],.raw [.v .i64,.v .i64,.v .i64,.v .i64]]⟩)]
abbrev KZ:Option Pat:=(some ⟨44,[(6,.one (.ptr 0 0)),(7,.one (.v .i64))],[.raw [.v .i64,.v .i64,.v .i64,.v .i64]]⟩)
variable (w311_7:Pat.D Hl->Option (Ah Lx KZ))
def X3(p69:Bq)(f69:Br)(p66:BL)(f66:BM){R:Type}(L:Pat.D Hl->Option R)(e:Ah Lx KZ->Option R)(x:Pat.D Hl):Option R:=let e2_:=(x.1.2.2.1,(x.1.2.1.getD (ai x.1.2.2.2.1) (0:Int)),());let e1_:=(f66 e2_);bif(decide (x.1.2.2.2.1<x.1.1))then(bif((decide ((0:Int)<=x.1.2.2.2.1))&&(decide (x.1.2.2.2.1<(x.1.2.1.length:Int))))then(bif(p66 e2_)then(bif(e1_.1 !=(0:Int))then(((e (.inr (((),e1_),x.2.2)))))else(L ((x.1.1,x.1.2.1,x.1.2.2.1,(aa .i64 (x.1.2.2.2.1+(1:Int))),(),(),()),x.2)))else none)else none)else(e (.inl (((),(),()),x.2)))
theorem aZX(d:Nat)(R:Type)(L:Pat.D Hl->Option R)(e:Ah Lx KZ->Option R)(x:Pat.D Hl):
  Bv (cf [(71,⟨BJ,BK,p69,f69⟩),(85,⟨B7,B8,p66,f66⟩)] [(58,7,LoopSpec.of Hl Zg Lx KZ w311_7)]) (d+2) 58 (Bs Tryz.f58 7) Hl Zg Lx KZ (R:=R) L e x=X3 p69 f69 p66 f66 L e x:=by kernel_rfl
theorem aT7(p69:Bq)(f69:Br)(p66:BL)(f66:BM):Bm fun L e x=>X3 p69 f69 p66 f66 L e x:=by intro _ _ _ _ _ _ _ h0 hL he _;unfold X3;repeat' (first|exact h0|exact hL _|exact he _|apply BG|(apply BH h0;intro _)|(apply BI<;>intro _))
def aJR(p69:Bq)(f69:Br)(p66:BL)(f66:BM)(w311_7:Pat.D Hl->Option (Ah Lx KZ))(a0 a1:Ab (.int .i64))(a2:Ab (.slice (.int .u64))):Option (DenS OM):=
 bif(p69 (a0,()))then(bif((f69 (a0,())).2.1 !=(0:Int))then(some (f69 (a0,())))
 else bif((decide (a1<(0:Int)))||(decide (a1>(5:Int))))then(some ((f69 (a0,())).1,(3:Int),()))
 else Vx.Ba (w311_7 (((a2.length:Int),a2,a0,(0:Int),(),(),()),((0:Int),(0:Int),(0:Int),(0:Int),()),(f69 (a0,())).1,())) fun y3=>
 Vx.A7 y3 (fun y4=>
 some (y4.2.2.1,(0:Int),())) (fun z4=>
 some (z4.2.1,z4.1.2)))
 else none
theorem aXh(x:DenS MY):run (cf [(71,⟨BJ,BK,p69,f69⟩),(85,⟨B7,B8,p66,f66⟩)] [(58,7,LoopSpec.of Hl Zg Lx KZ w311_7)]) 9 58 Tryz.f58 MY OM x=aJR p69 f69 p66 f66 w311_7 x.1 x.2.1 x.2.2.1:=by kernel_rfl
def aBS:Hl.D->Option (Ah Lx KZ):=Bg fun L=>X3 An.pre An.F Aq.pre Aq.F L some
def aAx(x:DenS MY):Option (DenS OM):=aJR An.pre An.F Aq.pre Aq.F aBS x.1 x.2.1 x.2.2.1
def ZS:Sum:=Ak MY OM aAx (DenS.dflt OM)
theorem aNp:Sound Tryz.prog G1 58 ZS:=sd (cf [(71,An),(85,Aq)] [(58,7,LoopSpec.of Hl Zg Lx KZ aBS)]) 58 Tryz.f58 ⟨Dk,E9,trivial⟩ ⟨rfl,fun d=>BE (fun L e x=>X3 An.pre An.F Aq.pre Aq.F L e x) (aT7 An.pre An.F Aq.pre Aq.F) (fun _ _ _ _=>aZX ..),trivial⟩ MY OM aAx _ (fun _=>aXh ..)
abbrev cA:=Ae MY
abbrev cW:=Ad MY OM
variable (p311:cA)(f311:cW)
abbrev MZ:Aa:=[(false,.int .i64),(false,.int .i64)]
abbrev ON:Aa:=[(false,.int .u64),(false,.int .i64),(false,.bool)]
def aJS(p70:De)(f70:Df)(a0 a1:Ab (.int .i64)):Option (DenS ON):=bif(p70 (a0,()))then(bif(a1==(1:Int))then(some ((f70 (a0,())).1,(0:Int),true,()))else bif(a1==(0:Int))then(bif(a1==(0:Int))then(some ((f70 (a0,())).1,(1:Int),true,()))else some ((0:Int),(0:Int),false,()))else bif(a1==(2:Int))then(bif(a1==(2:Int))then(some ((f70 (a0,())).1,(1:Int),true,()))else some ((0:Int),(0:Int),false,()))else bif(a1==(3:Int))then(bif(a1==(3:Int))then(some ((f70 (a0,())).1,(1:Int),true,()))else some ((0:Int),(0:Int),false,()))else bif(a1==(4:Int))then(some ((f70 (a0,())).1,(1:Int),true,()))else some ((0:Int),(0:Int),false,()))else none
theorem aXi(x:DenS MZ):run (cf [(61,⟨Da,Db,p70,f70⟩)] []) 9 205 Tryz.f205 MZ ON x=aJS p70 f70 x.1 x.2.1:=by kernel_rfl
def aAy(x:DenS MZ):Option (DenS ON):=aJS AR.pre AR.F x.1 x.2.1
def ZT:Sum:=Ak MZ ON aAy (DenS.dflt ON)
theorem aNq:Sound Tryz.prog G1 205 ZT:=sd (cf [(61,AR)] []) 205 Tryz.f205 ⟨FK,trivial⟩ trivial MZ ON aAy _ (fun _=>aXi ..)
abbrev nD:=Ae MZ
abbrev oP:=Ad MZ ON
variable (p312:nD)(f312:oP)
abbrev M0:Aa:=[(false,.int .i64),(true,.pair (.int .i64) (.pair (.int .i64) (.pair (.int .i64) (.pair (.int .i64) (.unit))))),(false,.int .u64)]
abbrev OO:Aa:=[(false,.int .u64),(false,.int .i64)]
def aJT(p98:Jt)(f98:Jw)(a0:Ab (.int .i64))(a1:Ab (.pair (.int .i64) (.pair (.int .i64) (.pair (.int .i64) (.pair (.int .i64) (.unit))))))(a2:Ab (.int .u64)):Option (DenS OO):=let e1_:=(aa .i64 (a1.2.1-(1:Int)));bif(p98 (a0,a2,()))then(bif((f98 (a0,a2,())).2.1==(0:Int))then(some ((f98 (a0,a2,())).2.2.1,(aa .i64 ((aa .i64 ((aa .i64 ((aa .i64 ((aa .i64 (1:Int))-(1:Int)))+a1.2.2.1))-a1.2.1))+(1:Int))),()))else bif(decide ((0:Int)<=e1_))then(some ((Ap .u64 (f98 (a0,a2,())).2.2.1 (Bb .u64 (1:Int) e1_)),(aa .i64 ((aa .i64 ((aa .i64 ((aa .i64 ((aa .i64 (f98 (a0,a2,())).2.1)-(1:Int)))+a1.2.2.1))-a1.2.1))+(1:Int))),()))else none)else none
theorem aXj(x:DenS M0):run (cf [(91,⟨EQ,E2,p98,f98⟩)] []) 9 63 Tryz.f63 M0 OO x=aJT p98 f98 x.1 x.2.1 x.2.2.1:=by kernel_rfl
def aAz(x:DenS M0):Option (DenS OO):=aJT BT.pre BT.F x.1 x.2.1 x.2.2.1
def ZU:Sum:=Ak M0 OO aAz (DenS.dflt OO)
theorem aNr:Sound Tryz.prog G1 63 ZU:=sd (cf [(91,BT)] []) 63 Tryz.f63 ⟨Rz,trivial⟩ trivial M0 OO aAz _ (fun _=>aXj ..)
abbrev cB:=Ae M0
abbrev cX:=Ad M0 OO
variable (p313:cB)(f313:cX)
abbrev M1:Aa:=[(true,.pair (.int .u64) (.pair (.int .u64) (.unit)))]
abbrev OP:Aa:=[(false,.int .i64)]
def aJU(p178:HF)(f178:HI)(a0:Ab (.pair (.int .u64) (.pair (.int .u64) (.unit)))):Option (DenS OP):=bif(a0.1 !=(0:Int))then(bif(p178 (a0.1,()))then(some ((aa .i64 ((64:Int)+(f178 (a0.1,())).1)),()))else none)else bif(p178 a0.2)then(some (f178 a0.2))else none
theorem aXk(x:DenS M1):run (cf [(115,⟨Fr,E0,p178,f178⟩)] []) 9 206 Tryz.f206 M1 OP x=aJU p178 f178 x.1:=by kernel_rfl
def aAA(x:DenS M1):Option (DenS OP):=aJU Cd.pre Cd.F x.1
def ZV:Sum:=Ak M1 OP aAA (DenS.dflt OP)
theorem aNs:Sound Tryz.prog G1 206 ZV:=sd (cf [(115,Cd)] []) 206 Tryz.f206 ⟨Vo,trivial⟩ trivial M1 OP aAA _ (fun _=>aXk ..)
abbrev nE:=Ae M1
abbrev oQ:=Ad M1 OP
variable (p314:nE)(f314:oQ)
end Vx
end
