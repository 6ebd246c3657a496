/- Part 4 of the proof. What is proved: symbolic execution of the functions, proved sound; what each function of the program computes, and that every run ends with it; what these functions compute, in plain numbers. Conditions: each theorem bears its own. -/
import Derived.Test.YthajbkcpnbiobaaGreatDoorVxG3
import Derived.Test.YthajbkcpnbiobaaGreatDoorProg
set_option linter.all false
set_option exponentiation.threshold 1000000
noncomputable section
open Go.IntKind renaming wrap->aa
open Int renaming tmod->ks,toNat->ah
open List renaming replicate->ap
namespace Vx
open Go Go.Proofs
abbrev rowsSh:Shape:=.pair (.int .i64) (.pair (.int .i64) (.pair (.int .i64) (.pair (.int .i64) .unit)))
abbrev kindsSh:Shape:=.pair (.int .u64) (.pair (.int .u64) .unit)
def k_rows:List (Ab rowsSh):=[(16,11,-14,15,()),(16,8,-126,127,()),(32,24,-126,127,()),(64,53,-1022,1023,())]
def Ht:List UInt8:=[0,1,2,2,3,3,3,3,4,4,4,4,4,4,4,4,5,5,5,5,5,5,5,5,5,5,5,5,5,5,5,5,6,6,6,6,6,6,6,6,6,6,6,6,6,6,6,6,6,6,6,6,6,6,6,6,6,6,6,6,6,6,6,6,7,7,7,7,7,7,7,7,7,7,7,7,7,7,7,7,7,7,7,7,7,7,7,7,7,7,7,7,7,7,7,7,7,7,7,7,7,7,7,7,7,7,7,7,7,7,7,7,7,7,7,7,7,7,7,7,7,7,7,7,7,7,7,7,8,8,8,8,8,8,8,8,8,8,8,8,8,8,8,8,8,8,8,8,8,8,8,8,8,8,8,8,8,8,8,8,8,8,8,8,8,8,8,8,8,8,8,8,8,8,8,8,8,8,8,8,8,8,8,8,8,8,8,8,8,8,8,8,8,8,8,8,8,8,8,8,8,8,8,8,8,8,8,8,8,8,8,8,8,8,8,8,8,8,8,8,8,8,8,8,8,8,8,8,8,8,8,8,8,8,8,8,8,8,8,8,8,8,8,8,8,8,8,8,8,8,8,8,8,8,8,8]
def k_deb:List (Ab (.int .u8)):=[0,1,56,2,57,49,28,3,61,58,42,50,38,29,17,4,62,47,59,36,45,43,51,22,53,39,33,30,24,18,12,5,63,55,48,27,60,41,37,16,46,35,44,21,52,32,23,11,54,26,40,15,34,20,31,10,25,14,19,9,13,8,7,6]
def k_kinds:List (Ab kindsSh):=[(2147483648,2147483647,()),(9223372036854775808,9223372036854775807,()),(0,4294967295,()),(0,18446744073709551615,())]
def G1:List (Nat×Sigma fun τ=>List (Ab τ)):=[(1,⟨rowsSh,k_rows⟩),(4,⟨kindsSh,k_kinds⟩),(5,⟨.int .u8,k_deb⟩)]
abbrev Ae(I:Aa):=DenS I->Bool
abbrev Ad(I O:Aa):=DenS I->DenS O
@[reducible] def cf(s:List (FuncId×Sum))(l:List (FuncId×Nat×LoopSpec)):Cfg:={P:=Tryz.prog,sums:=s,loops:=l,globs:=G1}
theorem sd(C:Cfg)(n:FuncId)(fn:Func)(hs:R4 C.P C.globs C.sums)(hl:QO C n fn C.loops)(I O:Aa)(t:DenS I->Option (DenS O))(d:DenS O)(h:∀x,run C 9 n fn I O x=t x)(hls:R6 C.P C.globs C.lsums:=by exact trivial)(hfs:R2 C.P C.globs C.fns:=by exact trivial)(hms:R3 C.P C.globs C.meths:=by exact trivial)
  (hm : C.P.follows .mixedOrders = true := by kernel_rfl) (hf : C.P.funcs[n]? = some fn := by kernel_rfl) (hb : (match fn.body with | some c => Hw ((Co c).map CO) | none => false) = true := by kernel_rfl) (hn : (fn.name == "runtime.NumGoroutine") = false := by kernel_rfl) : Sound C.P C.globs n (Ai I O t d) :=
 aRb C 9 n fn hm hf hb hn hs hl I O t d h hls hfs hms
theorem HB(C:Cfg)(n:FuncId)(fn:Func)(hs:R4 C.P C.globs C.sums)(hl:QO C n fn C.loops)(k:LK)(I O:Aa)(t:k.D×DenS I->Option (k.B×DenS O))(d:k.B×DenS O)(h:∀x,Eg C 9 n fn k I O x=t x)(hls:R6 C.P C.globs C.lsums:=by exact trivial)(hfs:R2 C.P C.globs C.fns:=by exact trivial)(hms:R3 C.P C.globs C.meths:=by exact trivial)
  (hm : C.P.follows .mixedOrders = true := by kernel_rfl) (hf : C.P.funcs[n]? = some fn := by kernel_rfl) (hb : (match fn.body with | some c => Hw ((Co c).map CO) | none => false) = true := by kernel_rfl) (hn : (fn.name == "runtime.NumGoroutine") = false := by kernel_rfl) : SoundL C.P C.globs n (Eh k I O t d) :=
 aRc C 9 n fn hm hf hb hn hs hl k I O t d h hls hfs hms
abbrev BE:Aa:=[(false,.int .i64)]
abbrev BF:Aa:=[(true,.pair (.int .i64) (.pair (.int .i64) (.pair (.int .i64) (.pair (.int .i64) (.unit))))),(false,.int .i64)]
def iF(a0:Ab (.int .i64)):Option (DenS BF):=let e1_:=((0:Int),(0:Int),(0:Int),(0:Int),());bif((decide (a0<(0:Int)))||(decide (a0>=(4:Int))))then(some (e1_,(2:Int),()))else bif((decide ((0:Int)<=a0))&&(decide (a0<((4:Nat):Int))))then(some ((Vx.k_rows.getD (ah a0) e1_),(0:Int),()))else none
theorem r69(x:DenS BE):run (cf [] []) 9 71 Tryz.f71 BE BF x=iF x.1:=by kernel_rfl
def SI(x:DenS BE):Option (DenS BF):=iF x.1
def Al:Sum:=Ai BE BF SI (DenS.dflt BF)
theorem Dj:Sound Tryz.prog G1 71 Al:=sd (cf [] []) 71 Tryz.f71 trivial trivial BE BF SI _ (fun _=>r69 ..)
abbrev Bl:=Ae BE
abbrev Bm:=Ad BE BF
variable (p69:Bl)(f69:Bm)
abbrev BY:Aa:=[(false,.int .i64),(false,.int .u64)]
abbrev BZ:Aa:=[(false,.int .i64)]
def iE(p69:Bl)(f69:Bm)(a0:Ab (.int .i64))(a1:Ab (.int .u64)):Option (DenS BZ):=bif(p69 (a0,()))then(bif((f69 (a0,())).2.1 !=(0:Int))then(some (f69 (a0,())).2)else bif((decide ((0:Int)<=(f69 (a0,())).1.1))||(!(decide ((f69 (a0,())).1.1<(64:Int)))))then(bif((decide ((f69 (a0,())).1.1<(64:Int)))&&((AJ .u64 a1 (f69 (a0,())).1.1)!=(0:Int)))then(some ((4:Int),()))else some ((0:Int),()))else none)else none
theorem r66(x:DenS BY):run (cf [(71,⟨BE,BF,p69,f69⟩)] []) 9 85 Tryz.f85 BY BZ x=iE p69 f69 x.1 x.2.1:=by kernel_rfl
def VY(x:DenS BY):Option (DenS BZ):=iE Al.pre Al.F x.1 x.2.1
def Ao:Sum:=Ai BY BZ VY (DenS.dflt BZ)
theorem EP:Sound Tryz.prog G1 85 Ao:=sd (cf [(71,Al)] []) 85 Tryz.f85 ⟨Dj,trivial⟩ trivial BY BZ VY _ (fun _=>r66 ..)
abbrev BB:=Ae BY
abbrev BC:=Ad BY BZ
variable (p66:BB)(f66:BC)
abbrev DW:Aa:=[(false,.int .i64)]
abbrev D0:Aa:=[(false,.int .u64)]
def iI(a0:Ab (.int .i64)):Option (DenS D0):=bif(decide ((0:Int)<=a0))then(some ((aa .u64 ((A4 .u64 (1:Int) a0)-(1:Int))),()))else none
theorem r91(x:DenS DW):run (cf [] []) 9 72 Tryz.f72 DW D0 x=iI x.1:=by kernel_rfl
def V1(x:DenS DW):Option (DenS D0):=iI x.1
def Bk:Sum:=Ai DW D0 V1 (DenS.dflt D0)
theorem KR:Sound Tryz.prog G1 72 Bk:=sd (cf [] []) 72 Tryz.f72 trivial trivial DW D0 V1 _ (fun _=>r91 ..)
abbrev Ga:=Ae DW
abbrev Ge:=Ad DW D0
variable (p91:Ga)(f91:Ge)
abbrev H6:Aa:=[(true,.pair (.int .i64) (.pair (.int .i64) (.pair (.int .i64) (.pair (.int .i64) (.unit))))),(false,.int .u64)]
abbrev Ix:Aa:=[(false,.bool),(false,.int .u64),(false,.int .u64)]
def iH(p91:Ga)(f91:Ge)(a0:Ab (.pair (.int .i64) (.pair (.int .i64) (.pair (.int .i64) (.pair (.int .i64) (.unit))))))(a1:Ab (.int .u64)):Option (DenS Ix):=let e5_:=(aa .i64 (a0.2.1-(1:Int)));let e1_:=(e5_,());let e2_:=((aa .i64 (a0.1-a0.2.1)),());let e3_:=e5_;let e4_:=(aa .i64 (a0.1-(1:Int)));bif(decide ((0:Int)<=e4_))then(bif(decide ((0:Int)<=e3_))then(bif(p91 e2_)then(bif(p91 e1_)then(some (((AJ .u64 a1 e4_)!=(0:Int)),(Bs .u64 (AJ .u64 a1 e3_) (f91 e2_).1),(Bs .u64 a1 (f91 e1_).1),()))else none)else none)else none)else none
theorem r90(x:DenS H6):run (cf [(72,⟨DW,D0,p91,f91⟩)] []) 9 87 Tryz.f87 H6 Ix x=iH p91 f91 x.1 x.2.1:=by kernel_rfl
def V0(x:DenS H6):Option (DenS Ix):=iH Bk.pre Bk.F x.1 x.2.1
def C9:Sum:=Ai H6 Ix V0 (DenS.dflt Ix)
theorem j5:Sound Tryz.prog G1 87 C9:=sd (cf [(72,Bk)] []) 87 Tryz.f87 ⟨KR,trivial⟩ trivial H6 Ix V0 _ (fun _=>r90 ..)
abbrev Wm:=Ae H6
abbrev Ww:=Ad H6 Ix
variable (p90:Wm)(f90:Ww)
abbrev De:Aa:=[(false,.int .i64),(false,.int .u64)]
abbrev Df:Aa:=[(false,.int .i64),(false,.int .i64)]
def Uk(p66:BB)(f66:BC)(p90:Wm)(f90:Ww)(p91:Ga)(f91:Ge)(a0:Ab (.int .i64))(a1:Ab (.int .u64)):Option (DenS Df):=let e10_:=(Vx.k_rows.getD (ah a0) ((0:Int),(0:Int),(0:Int),(0:Int),()));let e9_:=(f90 (e10_,a1,()));let e8_:=((aa .i64 (e10_.1-e10_.2.1)),());let e1_:=(e9_.2.1==(f91 e8_).1);let e2_:=(p91 e8_);let e3_:=(aa .i64 (e10_.2.1-(2:Int)));let e4_:=(e9_.2.2.1==(0:Int));let e5_:=(e9_.2.1==(0:Int));let e6_:=e9_;let e7_:=e10_;bif(p66 (a0,a1,()))then(bif((f66 (a0,a1,())).1 !=(0:Int))then(some ((0:Int),(f66 (a0,a1,()))))else bif((decide ((0:Int)<=a0))&&(decide (a0<((4:Nat):Int))))then(bif(p90 (e7_,a1,()))then(bif e2_ then(bif(e1_&&e4_)then(bif e6_.1 then(some ((aa .i64 ((11:Int)-(9:Int))),(0:Int),()))else some ((9:Int),(0:Int),()))else bif e2_ then(bif((decide ((0:Int)<=e3_))||(!(decide (e6_.2.1=(f91 ((aa .i64 (e7_.1-e7_.2.1)),())).1))))then(bif(e1_&&((AJ .u64 e6_.2.2.1 e3_)!=(0:Int)))then(some ((1:Int),(0:Int),()))else bif e2_ then(bif e1_ then(some ((0:Int),(0:Int),()))else bif(e5_&&e4_)then(bif e6_.1 then(some ((aa .i64 ((11:Int)-(6:Int))),(0:Int),()))else some ((6:Int),(0:Int),()))else bif e5_ then(bif e6_.1 then(some ((aa .i64 ((11:Int)-(7:Int))),(0:Int),()))else some ((7:Int),(0:Int),()))else bif e6_.1 then(some ((aa .i64 ((11:Int)-(8:Int))),(0:Int),()))else some ((8:Int),(0:Int),()))else none)else none)else none)else none)else none)else none)else none
theorem r65(x:DenS De):run (cf [(85,⟨BY,BZ,p66,f66⟩),(87,⟨H6,Ix,p90,f90⟩),(72,⟨DW,D0,p91,f91⟩)] []) 9 59 Tryz.f59 De Df x=Uk p66 f66 p90 f90 p91 f91 x.1 x.2.1:=by kernel_rfl
def SH(x:DenS De):Option (DenS Df):=Uk Ao.pre Ao.F C9.pre C9.F Bk.pre Bk.F x.1 x.2.1
def AS:Sum:=Ai De Df SH (DenS.dflt Df)
theorem G8:Sound Tryz.prog G1 59 AS:=sd (cf [(85,Ao),(87,C9),(72,Bk)] []) 59 Tryz.f59 ⟨EP,j5,KR,trivial⟩ trivial De Df SH _ (fun _=>r65 ..)
abbrev Dk:=Ae De
abbrev Dl:=Ad De Df
variable (p65:Dk)(f65:Dl)
abbrev HO:Aa:=[(true,.pair (.int .i64) (.pair (.int .i64) (.pair (.int .i64) (.pair (.int .i64) (.unit)))))]
abbrev Ic:Aa:=[(false,.int .u64)]
def aIc(a0:Ab (.pair (.int .i64) (.pair (.int .i64) (.pair (.int .i64) (.pair (.int .i64) (.unit)))))):Option (DenS Ic):=some ((0:Int),())
theorem aUK(x:DenS HO):run (cf [] []) 9 89 Tryz.f89 HO Ic x=aIc x.1:=by kernel_rfl
def xJ(x:DenS HO):Option (DenS Ic):=aIc x.1
def II:Sum:=Ai HO Ic xJ (DenS.dflt Ic)
theorem jO:Sound Tryz.prog G1 89 II:=sd (cf [] []) 89 Tryz.f89 trivial trivial HO Ic xJ _ (fun _=>aUK ..)
abbrev ZS:=Ae HO
abbrev aD:=Ad HO Ic
variable (p116:ZS)(f116:aD)
abbrev L8:Aa:=[(true,.pair (.int .i64) (.pair (.int .i64) (.pair (.int .i64) (.pair (.int .i64) (.unit)))))]
abbrev NQ:Aa:=[(false,.int .u64)]
def aId(a0:Ab (.pair (.int .i64) (.pair (.int .i64) (.pair (.int .i64) (.pair (.int .i64) (.unit)))))):Option (DenS NQ):=let e1_:=(aa .i64 (a0.2.1-(2:Int)));bif(decide ((0:Int)<=e1_))then(some ((A4 .u64 (1:Int) e1_),()))else none
theorem aUL(x:DenS L8):run (cf [] []) 9 90 Tryz.f90 L8 NQ x=aId x.1:=by kernel_rfl
def xK(x:DenS L8):Option (DenS NQ):=aId x.1
def YI:Sum:=Ai L8 NQ xK (DenS.dflt NQ)
theorem aLF:Sound Tryz.prog G1 90 YI:=sd (cf [] []) 90 Tryz.f90 trivial trivial L8 NQ xK _ (fun _=>aUL ..)
abbrev aAW:=Ae L8
abbrev aCr:=Ad L8 NQ
variable (p117:aAW)(f117:aCr)
abbrev Gu:Aa:=[(true,.pair (.int .i64) (.pair (.int .i64) (.pair (.int .i64) (.pair (.int .i64) (.unit))))),(false,.bool),(false,.int .u64),(false,.int .u64)]
abbrev GC:Aa:=[(false,.int .u64)]
def aIg(a0:Ab (.pair (.int .i64) (.pair (.int .i64) (.pair (.int .i64) (.pair (.int .i64) (.unit))))))(a1:Ab (.bool))(a2 a3:Ab (.int .u64)):Option (DenS GC):=let e3_:=(aa .i64 (a0.2.1-(1:Int)));let e1_:=(An .u64 (A4 .u64 a2 e3_) a3);let e2_:=(aa .i64 (a0.1-(1:Int)));bif(decide ((0:Int)<=e3_))then(bif a1 then(bif(decide ((0:Int)<=e2_))then(some ((An .u64 e1_ (A4 .u64 (1:Int) e2_)),()))else none)else some (e1_,()))else none
theorem aUY(x:DenS Gu):run (cf [] []) 9 73 Tryz.f73 Gu GC x=aIg x.1 x.2.1 x.2.2.1 x.2.2.2.1:=by kernel_rfl
def xO(x:DenS Gu):Option (DenS GC):=aIg x.1 x.2.1 x.2.2.1 x.2.2.2.1
def Fi:Sum:=Ai Gu GC xO (DenS.dflt GC)
theorem YK:Sound Tryz.prog G1 73 Fi:=sd (cf [] []) 73 Tryz.f73 trivial trivial Gu GC xO _ (fun _=>aUY ..)
abbrev SN:=Ae Gu
abbrev SX:=Ad Gu GC
variable (p140:SN)(f140:SX)
abbrev CV:Aa:=[(false,.int .i64)]
abbrev CW:Aa:=[(false,.int .u64),(false,.int .i64)]
def t70(p116:ZS)(f116:aD)(p117:aAW)(f117:aCr)(p69:Bl)(f69:Bm)(p91:Ga)(f91:Ge)(p140:SN)(f140:SX)(a0:Ab (.int .i64)):Option (DenS CW):=let e2_:=((aa .i64 ((f69 (a0,())).1.1-(f69 (a0,())).1.2.1)),());let e1_:=((f69 (a0,())).1,false,(aa .u64 ((f91 e2_).1-(f116 ((f69 (a0,())).1,())).1)),(f117 ((f69 (a0,())).1,())));bif(p69 (a0,()))then(bif((f69 (a0,())).2.1 !=(0:Int))then(some ((0:Int),(f69 (a0,())).2))else bif(p91 e2_)then(bif(p116 ((f69 (a0,())).1,()))then(bif(p117 ((f69 (a0,())).1,()))then(bif(p140 e1_)then(some ((f140 e1_).1,(0:Int),()))else none)else none)else none)else none)else none
theorem r70(x:DenS CV):run (cf [(89,⟨HO,Ic,p116,f116⟩),(90,⟨L8,NQ,p117,f117⟩),(71,⟨BE,BF,p69,f69⟩),(72,⟨DW,D0,p91,f91⟩),(73,⟨Gu,GC,p140,f140⟩)] []) 9 61 Tryz.f61 CV CW x=t70 p116 f116 p117 f117 p69 f69 p91 f91 p140 f140 x.1:=by kernel_rfl
def SJ(x:DenS CV):Option (DenS CW):=t70 II.pre II.F YI.pre YI.F Al.pre Al.F Bk.pre Bk.F Fi.pre Fi.F x.1
def AO:Sum:=Ai CV CW SJ (DenS.dflt CW)
theorem Ft:Sound Tryz.prog G1 61 AO:=sd (cf [(89,II),(90,YI),(71,Al),(72,Bk),(73,Fi)] []) 61 Tryz.f61 ⟨jO,aLF,Dj,KR,YK,trivial⟩ trivial CV CW SJ _ (fun _=>r70 ..)
abbrev CZ:=Ae CV
abbrev C0:=Ad CV CW
variable (p70:CZ)(f70:C0)
abbrev Ey:Aa:=[(false,.int .i64),(false,.int .u64)]
abbrev EI:Aa:=[(false,.bool),(false,.int .u64),(false,.int .u64),(false,.int .i64)]
def iK(p66:BB)(f66:BC)(p90:Wm)(f90:Ww)(a0:Ab (.int .i64))(a1:Ab (.int .u64)):Option (DenS EI):=let e2_:=((Vx.k_rows.getD (ah a0) ((0:Int),(0:Int),(0:Int),(0:Int),())),a1,());let e1_:=(f90 e2_);bif(p66 (a0,a1,()))then(bif((f66 (a0,a1,())).1 !=(0:Int))then(some (false,(0:Int),(0:Int),(f66 (a0,a1,()))))else bif(bif(decide ((0:Int)<=a0))then(decide (a0<((4:Nat):Int)))else false)then(bif(p90 e2_)then(some (e1_.1,e1_.2.1,e1_.2.2.1,(0:Int),()))else none)else none)else none
theorem r98(x:DenS Ey):run (cf [(85,⟨BY,BZ,p66,f66⟩),(87,⟨H6,Ix,p90,f90⟩)] []) 9 91 Tryz.f91 Ey EI x=iK p66 f66 p90 f90 x.1 x.2.1:=by kernel_rfl
def V4(x:DenS Ey):Option (DenS EI):=iK Ao.pre Ao.F C9.pre C9.F x.1 x.2.1
def BM:Sum:=Ai Ey EI V4 (DenS.dflt EI)
theorem QZ:Sound Tryz.prog G1 91 BM:=sd (cf [(85,Ao),(87,C9)] []) 91 Tryz.f91 ⟨EP,j5,trivial⟩ trivial Ey EI V4 _ (fun _=>r98 ..)
abbrev I1:=Ae Ey
abbrev I4:=Ad Ey EI
variable (p98:I1)(f98:I4)
abbrev NK:Aa:=[(false,.int .i64),(true,.pair (.int .i64) (.pair (.int .i64) (.pair (.int .i64) (.pair (.int .i64) (.unit))))),(false,.int .u64)]
abbrev Po:Aa:=[(true,.pair (.bool) (.pair (.int .u64) (.pair (.int .i64) (.unit))))]
def iG(p98:I1)(f98:I4)(a0:Ab (.int .i64))(a1:Ab (.pair (.int .i64) (.pair (.int .i64) (.pair (.int .i64) (.pair (.int .i64) (.unit))))))(a2:Ab (.int .u64)):Option (DenS Po):=let e1_:=(aa .i64 ((aa .i64 (a1.2.2.1-a1.2.1))+(1:Int)));let e2_:=(aa .i64 (a1.2.1-(1:Int)));bif(p98 (a0,a2,()))then(bif(decide ((f98 (a0,a2,())).2.1>(0:Int)))then(bif(decide ((0:Int)<=e2_))then(some (((f98 (a0,a2,())).1,(An .u64 (f98 (a0,a2,())).2.2.1 (A4 .u64 (1:Int) e2_)),(aa .i64 (e1_+(aa .i64 ((aa .i64 (f98 (a0,a2,())).2.1)-(1:Int))))),()),()))else none)else some (((f98 (a0,a2,())).1,(f98 (a0,a2,())).2.2.1,e1_,()),()))else none
theorem r72(x:DenS NK):run (cf [(91,⟨Ey,EI,p98,f98⟩)] []) 9 194 Tryz.f194 NK Po x=iG p98 f98 x.1 x.2.1 x.2.2.1:=by kernel_rfl
def VZ(x:DenS NK):Option (DenS Po):=iG BM.pre BM.F x.1 x.2.1 x.2.2.1
def P4:Sum:=Ai NK Po VZ (DenS.dflt Po)
theorem aM2:Sound Tryz.prog G1 194 P4:=sd (cf [(91,BM)] []) 194 Tryz.f194 ⟨QZ,trivial⟩ trivial NK Po VZ _ (fun _=>r72 ..)
abbrev lW:=Ae NK
abbrev nO:=Ad NK Po
variable (p72:lW)(f72:nO)
abbrev Gt:Aa:=[(true,.pair (.int .u64) (.pair (.int .u64) (.unit))),(false,.int .i64)]
abbrev Ie:Aa:=[(true,.pair (.int .u64) (.pair (.int .u64) (.unit)))]
def eM(a0:Ab (.pair (.int .u64) (.pair (.int .u64) (.unit))))(a1:Ab (.int .i64)):Option (DenS Ie):=let e1_:=(aa .i64 (a1-(64:Int)));let e2_:=(aa .i64 ((64:Int)-a1));bif(decide (a1<=(0:Int)))then(some ((a0.1,a0.2),()))else bif(decide (a1>=(128:Int)))then(some (((0:Int),(0:Int),()),()))else bif(decide (a1>=(64:Int)))then(bif(decide ((0:Int)<=e1_))then(some (((A4 .u64 a0.2.1 e1_),(0:Int),()),()))else none)else bif(decide ((0:Int)<=a1))then(bif(decide ((0:Int)<=e2_))then(bif(decide ((0:Int)<=a1))then(some (((An .u64 (A4 .u64 a0.1 a1) (AJ .u64 a0.2.1 e2_)),(A4 .u64 a0.2.1 a1),()),()))else none)else none)else none
theorem aUQ(x:DenS Gt):run (cf [] []) 9 208 Tryz.f208 Gt Ie x=eM x.1 x.2.1:=by kernel_rfl
def Q2(x:DenS Gt):Option (DenS Ie):=eM x.1 x.2.1
def AE:Sum:=Ai Gt Ie Q2 (DenS.dflt Ie)
theorem vT:Sound Tryz.prog G1 208 AE:=sd (cf [] []) 208 Tryz.f208 trivial trivial Gt Ie Q2 _ (fun _=>aUQ ..)
abbrev Wh:=Ae Gt
abbrev Wq:=Ad Gt Ie
variable (p119:Wh)(f119:Wq)
abbrev HP:Aa:=[(true,.pair (.int .u64) (.pair (.int .u64) (.unit))),(false,.int .i64)]
abbrev JT:Aa:=[(true,.pair (.int .u64) (.pair (.int .u64) (.unit)))]
def eN(a0:Ab (.pair (.int .u64) (.pair (.int .u64) (.unit))))(a1:Ab (.int .i64)):Option (DenS JT):=let e1_:=(aa .i64 (a1-(64:Int)));let e2_:=(aa .i64 ((64:Int)-a1));bif(decide (a1<=(0:Int)))then(some ((a0.1,a0.2),()))else bif(decide (a1>=(128:Int)))then(some (((0:Int),(0:Int),()),()))else bif(decide (a1>=(64:Int)))then(bif(decide ((0:Int)<=e1_))then(some (((0:Int),(AJ .u64 a0.1 e1_),()),()))else none)else bif(decide ((0:Int)<=a1))then(bif(decide ((0:Int)<=a1))then(bif(decide ((0:Int)<=e2_))then(some (((AJ .u64 a0.1 a1),(An .u64 (AJ .u64 a0.2.1 a1) (A4 .u64 a0.1 e2_)),()),()))else none)else none)else none
theorem aUR(x:DenS HP):run (cf [] []) 9 234 Tryz.f234 HP JT x=eN x.1 x.2.1:=by kernel_rfl
def So(x:DenS HP):Option (DenS JT):=eN x.1 x.2.1
def AH:Sum:=Ai HP JT So (DenS.dflt JT)
theorem aLG:Sound Tryz.prog G1 234 AH:=sd (cf [] []) 234 Tryz.f234 trivial trivial HP JT So _ (fun _=>aUR ..)
abbrev kK:=Ae HP
abbrev mB:=Ad HP JT
variable (p120:kK)(f120:mB)
abbrev Ek:Aa:=RZ
abbrev EF:Aa:=Uf
def Ar:Sum:=aDR
theorem Sj:Sound Tryz.prog G1 94 Ar:=aP4 Tryz.func94 (by kernel_rfl) (by kernel_rfl) (by kernel_rfl) (by kernel_rfl)
abbrev CK:=Ae Ek
abbrev CL:=Ad Ek EF
variable (p155:CK)(f155:CL)
abbrev HQ:Aa:=[(true,.pair (.int .u64) (.pair (.int .u64) (.unit))),(true,.pair (.int .u64) (.pair (.int .u64) (.unit)))]
abbrev JU:Aa:=[(true,.pair (.int .u64) (.pair (.int .u64) (.unit))),(false,.int .u64)]
def eO(p155:CK)(f155:CL)(a0 a1:Ab (.pair (.int .u64) (.pair (.int .u64) (.unit)))):Option (DenS JU):=let e2_:=(a0.1,a1.1,(f155 (a0.2.1,a1.2.1,(0:Int),())).2);let e1_:=(f155 e2_);bif(p155 (a0.2.1,a1.2.1,(0:Int),()))then(bif(p155 e2_)then(some ((e1_.1,(f155 (a0.2.1,a1.2.1,(0:Int),())).1,()),e1_.2))else none)else none
theorem aUS(x:DenS HQ):run (cf [(94,⟨Ek,EF,p155,f155⟩)] []) 9 235 Tryz.f235 HQ JU x=eO p155 f155 x.1 x.2.1:=by kernel_rfl
def U5(x:DenS HQ):Option (DenS JU):=eO Ar.pre Ar.F x.1 x.2.1
def KM:Sum:=Ai HQ JU U5 (DenS.dflt JU)
theorem aLH:Sound Tryz.prog G1 235 KM:=sd (cf [(94,Ar)] []) 235 Tryz.f235 ⟨Sj,trivial⟩ trivial HQ JU U5 _ (fun _=>aUS ..)
abbrev kL:=Ae HQ
abbrev mC:=Ad HQ JU
variable (p121:kL)(f121:mC)
abbrev FF:Aa:=[(true,.pair (.int .u64) (.pair (.int .u64) (.unit))),(true,.pair (.int .u64) (.pair (.int .u64) (.unit)))]
abbrev GB:Aa:=[(false,.int .i64)]
def eQ(a0 a1:Ab (.pair (.int .u64) (.pair (.int .u64) (.unit)))):Option (DenS GB):=bif((a0.1==a1.1)&&(a0.2.1==a1.2.1))then(some ((0:Int),()))else bif((decide (a0.1<a1.1))||((a0.1==a1.1)&&(decide (a0.2.1<a1.2.1))))then(some ((-(1:Int)),()))else some ((1:Int),())
theorem aUU(x:DenS FF):run (cf [] []) 9 236 Tryz.f236 FF GB x=eQ x.1 x.2.1:=by kernel_rfl
def U8(x:DenS FF):Option (DenS GB):=eQ x.1 x.2.1
def DE:Sum:=Ai FF GB U8 (DenS.dflt GB)
theorem vU:Sound Tryz.prog G1 236 DE:=sd (cf [] []) 236 Tryz.f236 trivial trivial FF GB U8 _ (fun _=>aUU ..)
abbrev Rc:=Ae FF
abbrev Rk:=Ad FF GB
variable (p123:Rc)(f123:Rk)
abbrev Jz:Aa:=RZ
abbrev N0:Aa:=Uf
def AW:Sum:=aH2
theorem YO:Sound Tryz.prog G1 148 AW:=aYJ Tryz.func148 (by kernel_rfl) (by kernel_rfl) (by kernel_rfl) (by kernel_rfl)
abbrev F9:=Ae Jz
abbrev Gd:=Ad Jz N0
variable (p157:F9)(f157:Gd)
abbrev HR:Aa:=[(true,.pair (.int .u64) (.pair (.int .u64) (.unit))),(true,.pair (.int .u64) (.pair (.int .u64) (.unit)))]
abbrev JV:Aa:=[(true,.pair (.int .u64) (.pair (.int .u64) (.unit))),(false,.int .u64)]
def eR(p157:F9)(f157:Gd)(a0 a1:Ab (.pair (.int .u64) (.pair (.int .u64) (.unit)))):Option (DenS JV):=let e2_:=(a0.1,a1.1,(f157 (a0.2.1,a1.2.1,(0:Int),())).2);let e1_:=(f157 e2_);bif(p157 (a0.2.1,a1.2.1,(0:Int),()))then(bif(p157 e2_)then(some ((e1_.1,(f157 (a0.2.1,a1.2.1,(0:Int),())).1,()),e1_.2))else none)else none
theorem aUV(x:DenS HR):run (cf [(148,⟨Jz,N0,p157,f157⟩)] []) 9 237 Tryz.f237 HR JV x=eR p157 f157 x.1 x.2.1:=by kernel_rfl
def U9(x:DenS HR):Option (DenS JV):=eR AW.pre AW.F x.1 x.2.1
def Bt:Sum:=Ai HR JV U9 (DenS.dflt JV)
theorem aLI:Sound Tryz.prog G1 237 Bt:=sd (cf [(148,AW)] []) 237 Tryz.f237 ⟨YO,trivial⟩ trivial HR JV U9 _ (fun _=>aUV ..)
abbrev kM:=Ae HR
abbrev mD:=Ad HR JV
variable (p124:kM)(f124:mD)
abbrev Mh:Aa:=[(true,.pair (.int .i64) (.pair (.int .i64) (.pair (.int .i64) (.pair (.int .i64) (.unit)))))]
abbrev NZ:Aa:=[(false,.int .u64)]
def aIi(p91:Ga)(f91:Ge)(a0:Ab (.pair (.int .i64) (.pair (.int .i64) (.pair (.int .i64) (.pair (.int .i64) (.unit)))))):Option (DenS NZ):=let e1_:=((aa .i64 (a0.1-a0.2.1)),());bif(p91 e1_)then(some (f91 e1_))else none
theorem aVb(x:DenS Mh):run (cf [(72,⟨DW,D0,p91,f91⟩)] []) 9 92 Tryz.f92 Mh NZ x=aIi p91 f91 x.1:=by kernel_rfl
def xS(x:DenS Mh):Option (DenS NZ):=aIi Bk.pre Bk.F x.1
def YN:Sum:=Ai Mh NZ xS (DenS.dflt NZ)
theorem aLQ:Sound Tryz.prog G1 92 YN:=sd (cf [(72,Bk)] []) 92 Tryz.f92 ⟨KR,trivial⟩ trivial Mh NZ xS _ (fun _=>aVb ..)
abbrev aA8:=Ae Mh
abbrev aCD:=Ad Mh NZ
variable (p154:aA8)(f154:aCD)
abbrev Ei:Aa:=[(false,.int .i64),(false,.bool)]
abbrev ED:Aa:=[(false,.int .u64),(false,.int .i64)]
def aIe(p154:aA8)(f154:aCD)(p116:ZS)(f116:aD)(p69:Bl)(f69:Bm)(p91:Ga)(f91:Ge)(p140:SN)(f140:SX)(a0:Ab (.int .i64))(a1:Ab (.bool)):Option (DenS ED):=let e2_:=((aa .i64 ((f69 (a0,())).1.1-(f69 (a0,())).1.2.1)),());let e1_:=((f69 (a0,())).1,a1,(aa .u64 ((f91 e2_).1-(f154 ((f69 (a0,())).1,())).1)),(f116 ((f69 (a0,())).1,())));bif(p69 (a0,()))then(bif((f69 (a0,())).2.1 !=(0:Int))then(some ((0:Int),(f69 (a0,())).2))else bif(p91 e2_)then(bif(p154 ((f69 (a0,())).1,()))then(bif(p116 ((f69 (a0,())).1,()))then(bif(p140 e1_)then(some ((f140 e1_).1,(0:Int),()))else none)else none)else none)else none)else none
theorem aUP(x:DenS Ei):run (cf [(92,⟨Mh,NZ,p154,f154⟩),(89,⟨HO,Ic,p116,f116⟩),(71,⟨BE,BF,p69,f69⟩),(72,⟨DW,D0,p91,f91⟩),(73,⟨Gu,GC,p140,f140⟩)] []) 9 64 Tryz.f64 Ei ED x=aIe p154 f154 p116 f116 p69 f69 p91 f91 p140 f140 x.1 x.2.1:=by kernel_rfl
def U3(x:DenS Ei):Option (DenS ED):=aIe YN.pre YN.F II.pre II.F Al.pre Al.F Bk.pre Bk.F Fi.pre Fi.F x.1 x.2.1
def Bp:Sum:=Ai Ei ED U3 (DenS.dflt ED)
theorem Se:Sound Tryz.prog G1 64 Bp:=sd (cf [(92,YN),(89,II),(71,Al),(72,Bk),(73,Fi)] []) 64 Tryz.f64 ⟨aLQ,jO,Dj,KR,YK,trivial⟩ trivial Ei ED U3 _ (fun _=>aUP ..)
abbrev Ha:=Ae Ei
abbrev Hd:=Ad Ei ED
variable (p118:Ha)(f118:Hd)
abbrev Md:Aa:=[(false,.int .i64)]
abbrev NV:Aa:=[(false,.int .i64)]
def fA(a0:Ab (.int .i64)):Option (DenS NV):=bif((decide (a0<(0:Int)))||(decide (a0>(5:Int))))then(some ((3:Int),()))else some ((0:Int),())
theorem aU5(x:DenS Md):run (cf [] []) 9 139 Tryz.f139 Md NV x=fA x.1:=by kernel_rfl
def Ve(x:DenS Md):Option (DenS NV):=fA x.1
def Pv:Sum:=Ai Md NV Ve (DenS.dflt NV)
theorem aLL:Sound Tryz.prog G1 139 Pv:=sd (cf [] []) 139 Tryz.f139 trivial trivial Md NV Ve _ (fun _=>aU5 ..)
abbrev aA4:=Ae Md
abbrev aCz:=Ad Md NV
variable (p147:aA4)(f147:aCz)
abbrev HK:Aa:=[(false,.int .i64),(false,.int .i64)]
abbrev H8:Aa:=[(true,.pair (.int .i64) (.pair (.int .i64) (.pair (.int .i64) (.pair (.int .i64) (.unit))))),(false,.int .i64)]
def eE(p69:Bl)(f69:Bm)(p147:aA4)(f147:aCz)(a0 a1:Ab (.int .i64)):Option (DenS H8):=bif(p69 (a0,()))then(bif((f69 (a0,())).2.1 !=(0:Int))then(some (f69 (a0,())))else bif(p147 (a1,()))then(some ((f69 (a0,())).1,(f147 (a1,()))))else none)else none
theorem aUE(x:DenS HK):run (cf [(71,⟨BE,BF,p69,f69⟩),(139,⟨Md,NV,p147,f147⟩)] []) 9 121 Tryz.f121 HK H8 x=eE p69 f69 p147 f147 x.1 x.2.1:=by kernel_rfl
def UX(x:DenS HK):Option (DenS H8):=eE Al.pre Al.F Pv.pre Pv.F x.1 x.2.1
def EK:Sum:=Ai HK H8 UX (DenS.dflt H8)
theorem jK:Sound Tryz.prog G1 121 EK:=sd (cf [(71,Al),(139,Pv)] []) 121 Tryz.f121 ⟨Dj,aLL,trivial⟩ trivial HK H8 UX _ (fun _=>aUE ..)
abbrev SL:=Ae HK
abbrev SU:=Ad HK H8
variable (p105:SL)(f105:SU)
abbrev Bg:Aa:=[(false,.slice (.int .u64))]
abbrev Bh:Aa:=[(false,.slice (.int .u64))]
abbrev GO:Pat:=⟨21,[(0,.one (.sl (.int .u64))),(3,.one (.v .i64))],[]⟩
abbrev Ya:List (Nat×Shape):=[]
abbrev K3:List (Nat×Pat):=[(0,⟨21,[(0,.one (.sl (.int .u64))),(3,.one (.v .i64))],[]⟩)]
abbrev Ku:Option Pat:=none
variable (w173_2:Pat.D GO->Option (Ag K3 Ku))
def Ty{R:Type}(L:Pat.D GO->Option R)(e:Ag K3 Ku->Option R)(x:Pat.D GO):Option R:=let e1_:=(aa .i64 (x.1.2.1-(1:Int)));bif(((decide ((0:Int)<=e1_))&&(decide (e1_<(x.1.1.length:Int))))||(!(decide (x.1.2.1>(0:Int)))))then(bif((decide (x.1.2.1>(0:Int)))&&((x.1.1.getD (ah e1_) (0:Int))==(0:Int)))then(((L ((x.1.1,e1_,()),()))))else(e (.inl (x.1,()))))else none
theorem aXZ(d:Nat)(R:Type)(L:Pat.D GO->Option R)(e:Ag K3 Ku->Option R)(x:Pat.D GO):
  Bn (cf [] [(93,2,LoopSpec.of GO Ya K3 Ku w173_2)]) (d+2) 93 (Bj Tryz.f93 2) GO Ya K3 Ku (R:=R) L e x=Ty L e x:=by kernel_rfl
theorem aGi:Bf fun L e x=>Ty L e x:=by intro _ _ _ _ _ _ _ h0 hL he _;unfold Ty;repeat' (first|exact h0|exact hL _|exact he _|apply By|(apply Bz h0;intro _)|(apply BA<;>intro _))
def fI(w173_2:Pat.D GO->Option (Ag K3 Ku))(a0:Ab (.slice (.int .u64))):Option (DenS Bh):=
 Vx.A3 (w173_2 ((a0,(a0.length:Int),()),())) fun y0=>
 Vx.A1 y0 (fun y1=>
 bif((decide ((0:Int)<=y1.1.2.1))&&(decide (y1.1.2.1<=(y1.1.1.length:Int))))then(some (((y1.1.1.take (ah y1.1.2.1)).drop (ah (0:Int))),()))
 else none) (fun z1=>
 none)
theorem aVf(x:DenS Bg):run (cf [] [(93,2,LoopSpec.of GO Ya K3 Ku w173_2)]) 9 93 Tryz.f93 Bg Bh x=fI w173_2 x.1:=by kernel_rfl
def ZD:GO.D->Option (Ag K3 Ku):=A6 fun L=>Ty L some
def Q5(x:DenS Bg):Option (DenS Bh):=fI ZD x.1
def Ah:Sum:=Ai Bg Bh Q5 (DenS.dflt Bh)
theorem Dy:Sound Tryz.prog G1 93 Ah:=sd (cf [] [(93,2,LoopSpec.of GO Ya K3 Ku ZD)]) 93 Tryz.f93 trivial ⟨rfl,fun d=>Bw (fun L e x=>Ty L e x) (aGi) (fun _ _ _ _=>aXZ ..),trivial⟩ Bg Bh Q5 _ (fun _=>aVf ..)
abbrev AT:=Ae Bg
abbrev AU:=Ad Bg Bh
variable (p173:AT)(f173:AU)
abbrev Gw:Aa:=[(false,.slice (.int .u64))]
abbrev GD:Aa:=[(false,.slice (.int .u64))]
def eZ(p173:AT)(f173:AU)(a0:Ab (.slice (.int .u64))):Option (DenS GD):=let e1_:=(ap (ah ((f173 (a0,())).1.length:Int)) (0:Int));bif(p173 (a0,()))then(bif((decide ((0:Int)<=((f173 (a0,())).1.length:Int)))&&(decide ((((f173 (a0,())).1.length:Int)*(8:Int))<=(140737488355328:Int))))then(some ((((f173 (a0,())).1.take e1_.length)++(e1_.drop (f173 (a0,())).1.length)),()))else none)else none
theorem aU4(x:DenS Gw):run (cf [(93,⟨Bg,Bh,p173,f173⟩)] []) 9 116 Tryz.f116 Gw GD x=eZ p173 f173 x.1:=by kernel_rfl
def Vd(x:DenS Gw):Option (DenS GD):=eZ Ah.pre Ah.F x.1
def Ct:Sum:=Ai Gw GD Vd (DenS.dflt GD)
theorem jQ:Sound Tryz.prog G1 116 Ct:=sd (cf [(93,Ah)] []) 116 Tryz.f116 ⟨Dy,trivial⟩ trivial Gw GD Vd _ (fun _=>aU4 ..)
abbrev Re:=Ae Gw
abbrev Rm:=Ad Gw GD
variable (p146:Re)(f146:Rm)
abbrev Ex:Aa:=[(false,.slice (.int .u64))]
abbrev EC:Aa:=[(false,.slice (.int .u64))]
def eD(p146:Re)(f146:Rm)(a0:Ab (.slice (.int .u64))):Option (DenS EC):=bif(p146 (a0,()))then(some (f146 (a0,())))else none
theorem aUB(x:DenS Ex):run (cf [(116,⟨Gw,GD,p146,f146⟩)] []) 9 122 Tryz.f122 Ex EC x=eD p146 f146 x.1:=by kernel_rfl
def Sn(x:DenS Ex):Option (DenS EC):=eD Ct.pre Ct.F x.1
def BK:Sum:=Ai Ex EC Sn (DenS.dflt EC)
theorem UB:Sound Tryz.prog G1 122 BK:=sd (cf [(116,Ct)] []) 122 Tryz.f122 ⟨jQ,trivial⟩ trivial Ex EC Sn _ (fun _=>aUB ..)
abbrev F7:=Ae Ex
abbrev Gb:=Ad Ex EC
variable (p102:F7)(f102:Gb)
abbrev E3:Aa:=[(false,.int .u64)]
abbrev EG:Aa:=[(false,.int .i64)]
def fM(a0:Ab (.int .u64)):Option (DenS EG):=let e10_:=(AJ .u64 (AJ .u64 a0 (32:Int)) (16:Int));let e1_:=(aa .u8 (AJ .u64 e10_ (8:Int)));let e2_:=(aa .u8 e10_);let e3_:=(aa .u8 (AJ .u64 (AJ .u64 a0 (32:Int)) (8:Int)));let e4_:=(aa .u8 (AJ .u64 (AJ .u64 a0 (16:Int)) (8:Int)));let e5_:=(aa .u8 (AJ .u64 a0 (32:Int)));let e6_:=(aa .u8 (AJ .u64 a0 (16:Int)));let e7_:=(aa .u8 (AJ .u64 a0 (8:Int)));let e8_:=(aa .i64 ((32:Int)+(16:Int)));let e9_:=(aa .i64 ((0:Int)+(16:Int)));bif(decide (a0>=(4294967296:Int)))then(bif(decide ((AJ .u64 a0 (32:Int))>=(65536:Int)))then(bif(decide (e10_>=(256:Int)))then(bif((decide ((0:Int)<=e1_))&&(decide (e1_<(256:Int))))then(some ((aa .i64 ((aa .i64 (e8_+(8:Int)))+(aa .i64 ((UInt8.toNat (Vx.Ht.getD (ah e1_) (0:UInt8))):Int)))),()))else none)else bif((decide ((0:Int)<=e2_))&&(decide (e2_<(256:Int))))then(some ((aa .i64 (e8_+(aa .i64 ((UInt8.toNat (Vx.Ht.getD (ah e2_) (0:UInt8))):Int)))),()))else none)else bif(decide ((AJ .u64 a0 (32:Int))>=(256:Int)))then(bif((decide ((0:Int)<=e3_))&&(decide (e3_<(256:Int))))then(some ((aa .i64 ((aa .i64 ((32:Int)+(8:Int)))+(aa .i64 ((UInt8.toNat (Vx.Ht.getD (ah e3_) (0:UInt8))):Int)))),()))else none)else bif((decide ((0:Int)<=e5_))&&(decide (e5_<(256:Int))))then(some ((aa .i64 ((32:Int)+(aa .i64 ((UInt8.toNat (Vx.Ht.getD (ah e5_) (0:UInt8))):Int)))),()))else none)else bif(decide (a0>=(65536:Int)))then(bif(decide ((AJ .u64 a0 (16:Int))>=(256:Int)))then(bif((decide ((0:Int)<=e4_))&&(decide (e4_<(256:Int))))then(some ((aa .i64 ((aa .i64 (e9_+(8:Int)))+(aa .i64 ((UInt8.toNat (Vx.Ht.getD (ah e4_) (0:UInt8))):Int)))),()))else none)else bif((decide ((0:Int)<=e6_))&&(decide (e6_<(256:Int))))then(some ((aa .i64 (e9_+(aa .i64 ((UInt8.toNat (Vx.Ht.getD (ah e6_) (0:UInt8))):Int)))),()))else none)else bif(decide (a0>=(256:Int)))then(bif((decide ((0:Int)<=e7_))&&(decide (e7_<(256:Int))))then(some ((aa .i64 ((aa .i64 ((0:Int)+(8:Int)))+(aa .i64 ((UInt8.toNat (Vx.Ht.getD (ah e7_) (0:UInt8))):Int)))),()))else none)else bif((decide ((0:Int)<=(aa .u8 a0)))&&(decide ((aa .u8 a0)<(256:Int))))then(some ((aa .i64 ((0:Int)+(aa .i64 ((UInt8.toNat (Vx.Ht.getD (ah (aa .u8 a0)) (0:UInt8))):Int)))),()))else none
theorem aVk(x:DenS E3):run (cf [] []) 9 115 Tryz.f115 E3 EG x=fM x.1:=by kernel_rfl
def Vj(x:DenS E3):Option (DenS EG):=fM x.1
def B4:Sum:=Ai E3 EG Vj (DenS.dflt EG)
theorem UD:Sound Tryz.prog G1 115 B4:=sd (cf [] []) 115 Tryz.f115 trivial trivial E3 EG Vj _ (fun _=>aVk ..)
abbrev Hc:=Ae E3
abbrev Hf:=Ad E3 EG
variable (p178:Hc)(f178:Hf)
abbrev E2:Aa:=[(false,.slice (.int .u64))]
abbrev E9:Aa:=[(false,.int .i64)]
def fE(p173:AT)(f173:AU)(p178:Hc)(f178:Hf)(a0:Ab (.slice (.int .u64))):Option (DenS E9):=let e3_:=(aa .i64 (((f173 (a0,())).1.length:Int)-(1:Int)));let e1_:=(((f173 (a0,())).1.getD (ah e3_) (0:Int)),());let e2_:=e3_;bif(p173 (a0,()))then(bif(((f173 (a0,())).1.length:Int)==(0:Int))then(some ((0:Int),()))else bif((decide ((0:Int)<=e2_))&&(decide (e2_<((f173 (a0,())).1.length:Int))))then(bif(p178 e1_)then(some ((aa .i64 ((aa .i64 ((64:Int)*e2_))+(f178 e1_).1)),()))else none)else none)else none
theorem aU9(x:DenS E2):run (cf [(93,⟨Bg,Bh,p173,f173⟩),(115,⟨E3,EG,p178,f178⟩)] []) 9 98 Tryz.f98 E2 E9 x=fE p173 f173 p178 f178 x.1:=by kernel_rfl
def Sq(x:DenS E2):Option (DenS E9):=fE Ah.pre Ah.F B4.pre B4.F x.1
def BL:Sum:=Ai E2 E9 Sq (DenS.dflt E9)
theorem UC:Sound Tryz.prog G1 98 BL:=sd (cf [(93,Ah),(115,B4)] []) 98 Tryz.f98 ⟨Dy,UD,trivial⟩ trivial E2 E9 Sq _ (fun _=>aU9 ..)
abbrev IZ:=Ae E2
abbrev I2:=Ad E2 E9
variable (p151:IZ)(f151:I2)
abbrev Jy:Aa:=[(false,.int .i64),(false,.bool)]
abbrev JY:Aa:=[(false,.int .u64),(false,.int .i64),(false,.int .i64)]
def fG(p118:Ha)(f118:Hd)(a0:Ab (.int .i64))(a1:Ab (.bool)):Option (DenS JY):=bif(p118 (a0,a1,()))then(some ((f118 (a0,a1,())).1,(0:Int),(f118 (a0,a1,())).2))else none
theorem aVc(x:DenS Jy):run (cf [(64,⟨Ei,ED,p118,f118⟩)] []) 9 123 Tryz.f123 Jy JY x=fG p118 f118 x.1 x.2.1:=by kernel_rfl
def Vi(x:DenS Jy):Option (DenS JY):=fG Bp.pre Bp.F x.1 x.2.1
def G7:Sum:=Ai Jy JY Vi (DenS.dflt JY)
theorem vY:Sound Tryz.prog G1 123 G7:=sd (cf [(64,Bp)] []) 123 Tryz.f123 ⟨Se,trivial⟩ trivial Jy JY Vi _ (fun _=>aVc ..)
abbrev ZU:=Ae Jy
abbrev aF:=Ad Jy JY
variable (p156:ZU)(f156:aF)
abbrev Me:Aa:=[(true,.pair (.bool) (.pair (.slice (.int .u64)) (.pair (.int .i64) (.pair (.bool) (.unit)))))]
abbrev NW:Aa:=[(false,.int .i64)]
def fB(p151:IZ)(f151:I2)(a0:Ab (.pair (.bool) (.pair (.slice (.int .u64)) (.pair (.int .i64) (.pair (.bool) (.unit)))))):Option (DenS NW):=bif(p151 (a0.2.1,()))then(some ((aa .i64 ((aa .i64 (a0.2.2.1+(f151 (a0.2.1,())).1))-(1:Int))),()))else none
theorem aU6(x:DenS Me):run (cf [(98,⟨E2,E9,p151,f151⟩)] []) 9 140 Tryz.f140 Me NW x=fB p151 f151 x.1:=by kernel_rfl
def Vf(x:DenS Me):Option (DenS NW):=fB BL.pre BL.F x.1
def Sg:Sum:=Ai Me NW Vf (DenS.dflt NW)
theorem aLM:Sound Tryz.prog G1 140 Sg:=sd (cf [(98,BL)] []) 140 Tryz.f140 ⟨UC,trivial⟩ trivial Me NW Vf _ (fun _=>aU6 ..)
abbrev aA5:=Ae Me
abbrev aCA:=Ad Me NW
variable (p148:aA5)(f148:aCA)
abbrev Gs:Aa:=[(true,.slice (.int .u64))]
abbrev GA:Aa:=[(true,.slice (.int .u64))]
abbrev GI:Pat:=⟨21,[(0,.one (.own 0)),(3,.one (.v .i64))],[.arr (.int .u64)]⟩
abbrev X3:List (Nat×Shape):=[]
abbrev KW:List (Nat×Pat):=[(0,⟨21,[(0,.one (.own 0)),(3,.one (.v .i64))],[.arr (.int .u64)]⟩)]
abbrev Kn:Option Pat:=none
variable (w1173_2:Pat.D GI->Option (Ag KW Kn))
def Tr{R:Type}(L:Pat.D GI->Option R)(e:Ag KW Kn->Option R)(x:Pat.D GI):Option R:=let e1_:=(aa .i64 (x.1.2.1-(1:Int)));bif(((decide ((0:Int)<=e1_))&&(decide (e1_<(x.2.1.length:Int))))||(!(decide (x.1.2.1>(0:Int)))))then(bif((decide (x.1.2.1>(0:Int)))&&((x.2.1.getD (ah e1_) (0:Int))==(0:Int)))then(((L (((),e1_,()),x.2))))else(e (.inl (((),x.1.2),x.2))))else none
theorem aXS(d:Nat)(R:Type)(L:Pat.D GI->Option R)(e:Ag KW Kn->Option R)(x:Pat.D GI):
  Bn ({cf [] [(93,2,LoopSpec.of GI X3 KW Kn w1173_2)]with keep:=true}) (d+2) 93 (Bj Tryz.f93 2) GI X3 KW Kn (R:=R) L e x=Tr L e x:=by kernel_rfl
theorem aGc:Bf fun L e x=>Tr L e x:=by intro _ _ _ _ _ _ _ h0 hL he _;unfold Tr;repeat' (first|exact h0|exact hL _|exact he _|apply By|(apply Bz h0;intro _)|(apply BA<;>intro _))
def eJ(w1173_2:Pat.D GI->Option (Ag KW Kn))(a0:Ab (.slice (.int .u64))):Option (DenS GA):=
 Vx.A3 (w1173_2 (((),(a0.length:Int),()),a0,())) fun y0=>
 Vx.A1 y0 (fun y1=>
 bif((decide ((0:Int)<=y1.1.2.1))&&(decide (y1.1.2.1<=(y1.2.1.length:Int))))then(some ((y1.2.1.take (ah y1.1.2.1)),()))
 else none) (fun z1=>
 none)
theorem aUN(x:DenS Gs):run ({cf [] [(93,2,LoopSpec.of GI X3 KW Kn w1173_2)]with keep:=true}) 9 93 Tryz.f93 Gs GA x=eJ w1173_2 x.1:=by kernel_rfl
def ZA:GI.D->Option (Ag KW Kn):=A6 fun L=>Tr L some
def U1(x:DenS Gs):Option (DenS GA):=eJ ZA x.1
def BG:Sum:=Ai Gs GA U1 (DenS.dflt GA)
theorem vS:Sound Tryz.prog G1 93 BG:=sd ({cf [] [(93,2,LoopSpec.of GI X3 KW Kn ZA)]with keep:=true}) 93 Tryz.f93 trivial ⟨rfl,fun d=>Bw (fun L e x=>Tr L e x) (aGc) (fun _ _ _ _=>aXS ..),trivial⟩ Gs GA U1 _ (fun _=>aUN ..)
abbrev P8:=Ae Gs
abbrev Qb:=Ad Gs GA
variable (p1173:P8)(f1173:Qb)
abbrev L9:Aa:=[(false,.slice (.int .u64)),(false,.int .i64)]
abbrev NR:Aa:=[(true,.slice (.int .u64))]
abbrev GH:Pat:=⟨66,[(25,.one (.v .i64)),(0,.one (.sl (.int .u64))),(5,.one (.v .i64)),(6,.one (.v .i64)),(26,.one (.v .i64)),(7,.one (.own 0))],[.arr (.int .u64)]⟩
abbrev X2:List (Nat×Shape):=[]
abbrev KV:List (Nat×Pat):=[(0,⟨66,[(7,.one (.own 0))],[.arr (.int .u64)]⟩)]
abbrev Km:Option Pat:=none
variable (w1171_7:Pat.D GH->Option (Ag KV Km))
def Tq(p1173:P8)(f1173:Qb)(p173:AT)(f173:AU){R:Type}(L:Pat.D GH->Option R)(e:Ag KV Km->Option R)(x:Pat.D GH):Option R:=let e10_:=(aa .i64 (x.1.2.2.1+x.1.2.2.2.2.1));let e8_:=(x.2.1.set (ah x.1.2.2.2.2.1) (AJ .u64 (x.1.2.1.getD (ah e10_) (0:Int)) x.1.2.2.2.1));let e1_:=((decide ((0:Int)<=x.1.2.2.2.2.1))&&(decide (x.1.2.2.2.2.1<(e8_.length:Int))));let e2_:=e8_;let e9_:=(aa .i64 (e10_+(1:Int)));let e3_:=(decide (e9_<(x.1.2.1.length:Int)));let e4_:=(x.1.1,x.1.2.1,x.1.2.2.1,x.1.2.2.2.1,(aa .i64 (x.1.2.2.2.2.1+(1:Int))),(),());let e5_:=e9_;let e6_:=e10_;let e7_:=(aa .i64 ((64:Int)-x.1.2.2.2.1));bif(decide (x.1.2.2.2.2.1<x.1.1))then(bif((decide ((0:Int)<=e6_))&&(decide (e6_<(x.1.2.1.length:Int))))then(bif(decide ((0:Int)<=x.1.2.2.2.1))then(bif((decide ((0:Int)<=x.1.2.2.2.2.1))&&(decide (x.1.2.2.2.2.1<(x.2.1.length:Int))))then(bif e3_ then(bif e1_ then(bif((decide ((0:Int)<=e5_))&&e3_)then(bif(decide ((0:Int)<=e7_))then(bif e1_ then(((L (e4_,(e2_.set (ah x.1.2.2.2.2.1) (An .u64 (e2_.getD (ah x.1.2.2.2.2.1) (0:Int)) (A4 .u64 (x.1.2.1.getD (ah e5_) (0:Int)) e7_))),()))))else none)else none)else none)else none)else(L (e4_,e2_,())))else none)else none)else none)else(e (.inl (((),()),x.2)))
theorem aXR(d:Nat)(R:Type)(L:Pat.D GH->Option R)(e:Ag KV Km->Option R)(x:Pat.D GH):
  Bn ({cf [(93,⟨Gs,GA,p1173,f1173⟩),(93,⟨Bg,Bh,p173,f173⟩)] [(100,7,LoopSpec.of GH X2 KV Km w1171_7)]with keep:=true}) (d+2) 100 (Bj Tryz.f100 7) GH X2 KV Km (R:=R) L e x=Tq p1173 f1173 p173 f173 L e x:=by kernel_rfl
theorem aGb(p1173:P8)(f1173:Qb)(p173:AT)(f173:AU):Bf fun L e x=>Tq p1173 f1173 p173 f173 L e x:=by intro _ _ _ _ _ _ _ h0 hL he _;unfold Tq;repeat' (first|exact h0|exact hL _|exact he _|apply By|(apply Bz h0;intro _)|(apply BA<;>intro _))
def eI(p1173:P8)(f1173:Qb)(p173:AT)(f173:AU)(w1171_7:Pat.D GH->Option (Ag KV Km))(a0:Ab (.slice (.int .u64)))(a1:Ab (.int .i64)):Option (DenS NR):=
 let e3_:=(aa .i64 (((f173 (a0,())).1.length:Int)-(BQ .i64 a1 (64:Int))))
 let e1_:=(ap (ah e3_) (0:Int))
 let e2_:=e3_
 bif(p173 (a0,()))then(bif(decide ((BQ .i64 a1 (64:Int))>=((f173 (a0,())).1.length:Int)))then(some ([],()))
 else bif((decide ((0:Int)<=e2_))&&(decide ((e2_*(8:Int))<=(140737488355328:Int))))then(Vx.A3 (w1171_7 (((e1_.length:Int),(f173 (a0,())).1,(BQ .i64 a1 (64:Int)),(ks a1 (64:Int)),(0:Int),(),()),e1_,())) fun y3=>
 Vx.A1 y3 (fun y4=>
 bif(p1173 y4.2)then(some (f1173 y4.2))
 else none) (fun z4=>
 none))
 else none)
 else none
theorem aUM(x:DenS L9):run ({cf [(93,⟨Gs,GA,p1173,f1173⟩),(93,⟨Bg,Bh,p173,f173⟩)] [(100,7,LoopSpec.of GH X2 KV Km w1171_7)]with keep:=true}) 9 100 Tryz.f100 L9 NR x=eI p1173 f1173 p173 f173 w1171_7 x.1 x.2.1:=by kernel_rfl
def Zz:GH.D->Option (Ag KV Km):=A6 fun L=>Tq BG.pre BG.F Ah.pre Ah.F L some
def U0(x:DenS L9):Option (DenS NR):=eI BG.pre BG.F Ah.pre Ah.F Zz x.1 x.2.1
def Pt:Sum:=Ai L9 NR U0 (DenS.dflt NR)
theorem aLD:Sound Tryz.prog G1 100 Pt:=sd ({cf [(93,BG),(93,Ah)] [(100,7,LoopSpec.of GH X2 KV Km Zz)]with keep:=true}) 100 Tryz.f100 ⟨vS,Dy,trivial⟩ ⟨rfl,fun d=>Bw (fun L e x=>Tq BG.pre BG.F Ah.pre Ah.F L e x) (aGb BG.pre BG.F Ah.pre Ah.F) (fun _ _ _ _=>aXR ..),trivial⟩ L9 NR U0 _ (fun _=>aUM ..)
abbrev aAX:=Ae L9
abbrev aCs:=Ad L9 NR
variable (p1171:aAX)(f1171:aCs)
abbrev Gx:Aa:=[(false,.slice (.int .u64)),(false,.int .i64)]
abbrev GE:Aa:=[(false,.slice (.int .u64))]
abbrev GM:Pat:=⟨66,[(25,.one (.v .i64)),(0,.one (.sl (.int .u64))),(5,.one (.v .i64)),(6,.one (.v .i64)),(26,.one (.v .i64)),(7,.one (.own 0))],[.arr (.int .u64)]⟩
abbrev X8:List (Nat×Shape):=[]
abbrev K1:List (Nat×Pat):=[(0,⟨66,[(7,.one (.own 0))],[.arr (.int .u64)]⟩)]
abbrev Ks:Option Pat:=none
variable (w171_7:Pat.D GM->Option (Ag K1 Ks))
def Tx(p173:AT)(f173:AU){R:Type}(L:Pat.D GM->Option R)(e:Ag K1 Ks->Option R)(x:Pat.D GM):Option R:=let e10_:=(aa .i64 (x.1.2.2.1+x.1.2.2.2.2.1));let e8_:=(x.2.1.set (ah x.1.2.2.2.2.1) (AJ .u64 (x.1.2.1.getD (ah e10_) (0:Int)) x.1.2.2.2.1));let e1_:=((decide ((0:Int)<=x.1.2.2.2.2.1))&&(decide (x.1.2.2.2.2.1<(e8_.length:Int))));let e2_:=e8_;let e9_:=(aa .i64 (e10_+(1:Int)));let e3_:=(decide (e9_<(x.1.2.1.length:Int)));let e4_:=(x.1.1,x.1.2.1,x.1.2.2.1,x.1.2.2.2.1,(aa .i64 (x.1.2.2.2.2.1+(1:Int))),(),());let e5_:=e9_;let e6_:=e10_;let e7_:=(aa .i64 ((64:Int)-x.1.2.2.2.1));bif(decide (x.1.2.2.2.2.1<x.1.1))then(bif((decide ((0:Int)<=e6_))&&(decide (e6_<(x.1.2.1.length:Int))))then(bif(decide ((0:Int)<=x.1.2.2.2.1))then(bif((decide ((0:Int)<=x.1.2.2.2.2.1))&&(decide (x.1.2.2.2.2.1<(x.2.1.length:Int))))then(bif e3_ then(bif e1_ then(bif((decide ((0:Int)<=e5_))&&e3_)then(bif(decide ((0:Int)<=e7_))then(bif e1_ then(((L (e4_,(e2_.set (ah x.1.2.2.2.2.1) (An .u64 (e2_.getD (ah x.1.2.2.2.2.1) (0:Int)) (A4 .u64 (x.1.2.1.getD (ah e5_) (0:Int)) e7_))),()))))else none)else none)else none)else none)else(L (e4_,e2_,())))else none)else none)else none)else(e (.inl (((),()),x.2)))
theorem aXX(d:Nat)(R:Type)(L:Pat.D GM->Option R)(e:Ag K1 Ks->Option R)(x:Pat.D GM):
  Bn (cf [(93,⟨Bg,Bh,p173,f173⟩)] [(100,7,LoopSpec.of GM X8 K1 Ks w171_7)]) (d+2) 100 (Bj Tryz.f100 7) GM X8 K1 Ks (R:=R) L e x=Tx p173 f173 L e x:=by kernel_rfl
theorem aGh(p173:AT)(f173:AU):Bf fun L e x=>Tx p173 f173 L e x:=by intro _ _ _ _ _ _ _ h0 hL he _;unfold Tx;repeat' (first|exact h0|exact hL _|exact he _|apply By|(apply Bz h0;intro _)|(apply BA<;>intro _))
def fH(p173:AT)(f173:AU)(w171_7:Pat.D GM->Option (Ag K1 Ks))(a0:Ab (.slice (.int .u64)))(a1:Ab (.int .i64)):Option (DenS GE):=
 let e3_:=(aa .i64 (((f173 (a0,())).1.length:Int)-(BQ .i64 a1 (64:Int))))
 let e1_:=(ap (ah e3_) (0:Int))
 let e2_:=e3_
 bif(p173 (a0,()))then(bif(decide ((BQ .i64 a1 (64:Int))>=((f173 (a0,())).1.length:Int)))then(some ([],()))
 else bif((decide ((0:Int)<=e2_))&&(decide ((e2_*(8:Int))<=(140737488355328:Int))))then(Vx.A3 (w171_7 (((e1_.length:Int),(f173 (a0,())).1,(BQ .i64 a1 (64:Int)),(ks a1 (64:Int)),(0:Int),(),()),e1_,())) fun y3=>
 Vx.A1 y3 (fun y4=>
 bif(p173 y4.2)then(some (f173 y4.2))
 else none) (fun z4=>
 none))
 else none)
 else none
theorem aVd(x:DenS Gx):run (cf [(93,⟨Bg,Bh,p173,f173⟩)] [(100,7,LoopSpec.of GM X8 K1 Ks w171_7)]) 9 100 Tryz.f100 Gx GE x=fH p173 f173 w171_7 x.1 x.2.1:=by kernel_rfl
def ZC:GM.D->Option (Ag K1 Ks):=A6 fun L=>Tx Ah.pre Ah.F L some
def Sr(x:DenS Gx):Option (DenS GE):=fH Ah.pre Ah.F ZC x.1 x.2.1
def Cu:Sum:=Ai Gx GE Sr (DenS.dflt GE)
theorem jR:Sound Tryz.prog G1 100 Cu:=sd (cf [(93,Ah)] [(100,7,LoopSpec.of GM X8 K1 Ks ZC)]) 100 Tryz.f100 ⟨Dy,trivial⟩ ⟨rfl,fun d=>Bw (fun L e x=>Tx Ah.pre Ah.F L e x) (aGh Ah.pre Ah.F) (fun _ _ _ _=>aXX ..),trivial⟩ Gx GE Sr _ (fun _=>aVd ..)
abbrev P9:=Ae Gx
abbrev Qc:=Ad Gx GE
variable (p171:P9)(f171:Qc)
abbrev FK:Aa:=[(false,.int .u64)]
abbrev FV:Aa:=[(false,.int .i64)]
def iJ(a0:Ab (.int .u64)):Option (DenS FV):=let e1_:=(AJ .u64 (aa .u64 ((Bs .u64 a0 (aa .u64 ((0:Int)-a0)))*(285870213051353865:Int))) (58:Int));bif(a0==(0:Int))then(some ((64:Int),()))else bif(Vx.sH ((decide ((0:Int)<=e1_))&&(decide (e1_<((64:Nat):Int)))))then(some ((aa .i64 (Vx.k_deb.getD (ah e1_) (0:Int))),()))else none
theorem r92(x:DenS FK):run (cf [] []) 9 191 Tryz.f191 FK FV x=iJ x.1:=by kernel_rfl
def V2(x:DenS FK):Option (DenS FV):=iJ x.1
def BW:Sum:=Ai FK FV V2 (DenS.dflt FV)
theorem j6:Sound Tryz.prog G1 191 BW:=sd (cf [] []) 191 Tryz.f191 trivial trivial FK FV V2 _ (fun _=>r92 ..)
abbrev I0:=Ae FK
abbrev I3:=Ad FK FV
variable (p92:I0)(f92:I3)
abbrev Mm:Aa:=[(false,.slice (.int .u64)),(false,.int .i64)]
abbrev N5:Aa:=[(false,.bool)]
abbrev GQ:Pat:=⟨25,[(9,.one (.v .i64)),(8,.one (.sl (.int .u64))),(1,.one (.v .i64)),(10,.one (.v .i64))],[]⟩
abbrev Yc:List (Nat×Shape):=[]
abbrev K5:List (Nat×Pat):=[(0,⟨25,[],[]⟩)]
abbrev Kw:Option Pat:=(some ⟨25,[(4,.one (.bool))],[]⟩)
variable (w184_2:Pat.D GQ->Option (Ag K5 Kw))
def Tz(p173:AT)(f173:AU)(p92:I0)(f92:I3){R:Type}(L:Pat.D GQ->Option R)(e:Ag K5 Kw->Option R)(x:Pat.D GQ):Option R:=let e2_:=(x.1.2.1.getD (ah x.1.2.2.2.1) (0:Int));let e1_:=(e2_,());bif(decide (x.1.2.2.2.1<x.1.1))then(bif((decide ((0:Int)<=x.1.2.2.2.1))&&(decide (x.1.2.2.2.1<(x.1.2.1.length:Int))))then(bif(e2_ !=(0:Int))then(bif(p92 e1_)then(((e (.inr (((decide ((aa .i64 ((aa .i64 ((64:Int)*x.1.2.2.2.1))+(f92 e1_).1))>=x.1.2.2.1)),()),())))))else none)else(L ((x.1.1,x.1.2.1,x.1.2.2.1,(aa .i64 (x.1.2.2.2.1+(1:Int))),()),())))else none)else(e (.inl ((),())))
theorem aX1(d:Nat)(R:Type)(L:Pat.D GQ->Option R)(e:Ag K5 Kw->Option R)(x:Pat.D GQ):
  Bn (cf [(93,⟨Bg,Bh,p173,f173⟩),(191,⟨FK,FV,p92,f92⟩)] [(156,2,LoopSpec.of GQ Yc K5 Kw w184_2)]) (d+2) 156 (Bj Tryz.f156 2) GQ Yc K5 Kw (R:=R) L e x=Tz p173 f173 p92 f92 L e x:=by kernel_rfl
theorem aGj(p173:AT)(f173:AU)(p92:I0)(f92:I3):Bf fun L e x=>Tz p173 f173 p92 f92 L e x:=by intro _ _ _ _ _ _ _ h0 hL he _;unfold Tz;repeat' (first|exact h0|exact hL _|exact he _|apply By|(apply Bz h0;intro _)|(apply BA<;>intro _))
def fN(p173:AT)(f173:AU)(p92:I0)(f92:I3)(w184_2:Pat.D GQ->Option (Ag K5 Kw))(a0:Ab (.slice (.int .u64)))(a1:Ab (.int .i64)):Option (DenS N5):=
 bif(p173 (a0,()))then(Vx.A3 (w184_2 ((((f173 (a0,())).1.length:Int),(f173 (a0,())).1,a1,(0:Int),()),())) fun y1=>
 Vx.A1 y1 (fun y2=>
 some (true,())) (fun z2=>
 some z2.1))
 else none
theorem aVl(x:DenS Mm):run (cf [(93,⟨Bg,Bh,p173,f173⟩),(191,⟨FK,FV,p92,f92⟩)] [(156,2,LoopSpec.of GQ Yc K5 Kw w184_2)]) 9 156 Tryz.f156 Mm N5 x=fN p173 f173 p92 f92 w184_2 x.1 x.2.1:=by kernel_rfl
def ZE:GQ.D->Option (Ag K5 Kw):=A6 fun L=>Tz Ah.pre Ah.F BW.pre BW.F L some
def Vk(x:DenS Mm):Option (DenS N5):=fN Ah.pre Ah.F BW.pre BW.F ZE x.1 x.2.1
def Pw:Sum:=Ai Mm N5 Vk (DenS.dflt N5)
theorem aLV:Sound Tryz.prog G1 156 Pw:=sd (cf [(93,Ah),(191,BW)] [(156,2,LoopSpec.of GQ Yc K5 Kw ZE)]) 156 Tryz.f156 ⟨Dy,j6,trivial⟩ ⟨rfl,fun d=>Bw (fun L e x=>Tz Ah.pre Ah.F BW.pre BW.F L e x) (aGj Ah.pre Ah.F BW.pre BW.F) (fun _ _ _ _=>aX1 ..),trivial⟩ Mm N5 Vk _ (fun _=>aVl ..)
abbrev aBe:=Ae Mm
abbrev aCJ:=Ad Mm N5
variable (p184:aBe)(f184:aCJ)
abbrev Mk:Aa:=[(false,.slice (.int .u64)),(false,.int .i64)]
abbrev N3:Aa:=[(false,.slice (.int .u64)),(false,.int .i64)]
def fJ(p1171:aAX)(f1171:aCs)(p171:P9)(f171:Qc)(p184:aBe)(f184:aCJ)(a0:Ab (.slice (.int .u64)))(a1:Ab (.int .i64)):Option (DenS N3):=let e1_:=(decide ((0:Int)<((f1171 (a0,a1,())).1.length:Int)));bif(decide (a1<(0:Int)))then(some ([],(7:Int),()))else bif(p1171 (a0,a1,()))then(bif(p184 (a0,a1,()))then(bif(!(f184 (a0,a1,())).1)then(bif(((f1171 (a0,a1,())).1.length:Int)==(0:Int))then(some (((1:Int)::[]),(0:Int),()))else bif e1_ then(bif e1_ then(some (((f1171 (a0,a1,())).1.set (ah (0:Int)) (An .u64 ((f1171 (a0,a1,())).1.getD (ah (0:Int)) (0:Int)) (1:Int))),(0:Int),()))else none)else none)else some ((f1171 (a0,a1,())).1,(0:Int),()))else none)else none
theorem aVh(x:DenS Mk):run (cf [(100,⟨L9,NR,p1171,f1171⟩),(100,⟨Gx,GE,p171,f171⟩),(156,⟨Mm,N5,p184,f184⟩)] []) 9 150 Tryz.f150 Mk N3 x=fJ p1171 f1171 p171 f171 p184 f184 x.1 x.2.1:=by kernel_rfl
def Su(x:DenS Mk):Option (DenS N3):=fJ Pt.pre Pt.F Cu.pre Cu.F Pw.pre Pw.F x.1 x.2.1
def Sl:Sum:=Ai Mk N3 Su (DenS.dflt N3)
theorem aLT:Sound Tryz.prog G1 150 Sl:=sd (cf [(100,Pt),(100,Cu),(156,Pw)] []) 150 Tryz.f150 ⟨aLD,jR,aLV,trivial⟩ trivial Mk N3 Su _ (fun _=>aVh ..)
abbrev aBc:=Ae Mk
abbrev aCH:=Ad Mk N3
variable (p175:aBc)(f175:aCH)
abbrev HW:Aa:=[(false,.slice (.int .u64)),(false,.int .i64)]
abbrev Ij:Aa:=[(false,.slice (.int .u64))]
abbrev GS:Pat:=⟨56,[(26,.one (.v .i64)),(25,.one (.sl (.int .u64))),(5,.one (.v .i64)),(6,.one (.v .i64)),(27,.one (.v .i64)),(7,.one (.own 0))],[.arr (.int .u64)]⟩
abbrev Ye:List (Nat×Shape):=[]
abbrev K7:List (Nat×Pat):=[(0,⟨56,[(7,.one (.own 0))],[.arr (.int .u64)]⟩)]
abbrev Ky:Option Pat:=none
variable (w186_7:Pat.D GS->Option (Ag K7 Ky))
def TB(p173:AT)(f173:AU){R:Type}(L:Pat.D GS->Option R)(e:Ag K7 Ky->Option R)(x:Pat.D GS):Option R:=let e6_:=(aa .i64 (x.1.2.2.1+x.1.2.2.2.2.1));let e5_:=(ah e6_);let e7_:=(x.1.2.1.getD (ah x.1.2.2.2.2.1) (0:Int));let e1_:=(x.2.1.set e5_ (An .u64 (x.2.1.getD e5_ (0:Int)) (A4 .u64 e7_ x.1.2.2.2.1)));let e2_:=((decide ((0:Int)<=e6_))&&(decide (e6_<(x.2.1.length:Int))));let e3_:=(aa .i64 (e6_+(1:Int)));let e4_:=(aa .i64 ((64:Int)-x.1.2.2.2.1));bif(decide (x.1.2.2.2.2.1<x.1.1))then(bif((decide ((0:Int)<=x.1.2.2.2.2.1))&&(decide (x.1.2.2.2.2.1<(x.1.2.1.length:Int))))then(bif e2_ then(bif(decide ((0:Int)<=x.1.2.2.2.1))then(bif e2_ then(bif(decide ((0:Int)<=e4_))then(bif((decide ((0:Int)<=e3_))&&(decide (e3_<(e1_.length:Int))))then(((L ((x.1.1,x.1.2.1,x.1.2.2.1,x.1.2.2.2.1,(aa .i64 (x.1.2.2.2.2.1+(1:Int))),(),()),(e1_.set (ah e3_) (AJ .u64 e7_ e4_)),()))))else none)else none)else none)else none)else none)else none)else(e (.inl (((),()),x.2)))
theorem aX3(d:Nat)(R:Type)(L:Pat.D GS->Option R)(e:Ag K7 Ky->Option R)(x:Pat.D GS):
  Bn (cf [(93,⟨Bg,Bh,p173,f173⟩)] [(97,7,LoopSpec.of GS Ye K7 Ky w186_7)]) (d+2) 97 (Bj Tryz.f97 7) GS Ye K7 Ky (R:=R) L e x=TB p173 f173 L e x:=by kernel_rfl
theorem aGl(p173:AT)(f173:AU):Bf fun L e x=>TB p173 f173 L e x:=by intro _ _ _ _ _ _ _ h0 hL he _;unfold TB;repeat' (first|exact h0|exact hL _|exact he _|apply By|(apply Bz h0;intro _)|(apply BA<;>intro _))
def fQ(p173:AT)(f173:AU)(w186_7:Pat.D GS->Option (Ag K7 Ky))(a0:Ab (.slice (.int .u64)))(a1:Ab (.int .i64)):Option (DenS Ij):=
 let e1_:=(aa .i64 ((aa .i64 ((BQ .i64 a1 (64:Int))+((f173 (a0,())).1.length:Int)))+(1:Int)))
 bif(p173 (a0,()))then(bif(((f173 (a0,())).1.length:Int)==(0:Int))then(some ([],()))
 else bif((decide ((0:Int)<=e1_))&&(decide ((e1_*(8:Int))<=(140737488355328:Int))))then(Vx.A3 (w186_7 ((((f173 (a0,())).1.length:Int),(f173 (a0,())).1,(BQ .i64 a1 (64:Int)),(ks a1 (64:Int)),(0:Int),(),()),(ap (ah e1_) (0:Int)),())) fun y3=>
 Vx.A1 y3 (fun y4=>
 bif(p173 y4.2)then(some (f173 y4.2))
 else none) (fun z4=>
 none))
 else none)
 else none
theorem aVn(x:DenS HW):run (cf [(93,⟨Bg,Bh,p173,f173⟩)] [(97,7,LoopSpec.of GS Ye K7 Ky w186_7)]) 9 97 Tryz.f97 HW Ij x=fQ p173 f173 w186_7 x.1 x.2.1:=by kernel_rfl
def ZG:GS.D->Option (Ag K7 Ky):=A6 fun L=>TB Ah.pre Ah.F L some
def Q8(x:DenS HW):Option (DenS Ij):=fQ Ah.pre Ah.F ZG x.1 x.2.1
def CY:Sum:=Ai HW Ij Q8 (DenS.dflt Ij)
theorem v0:Sound Tryz.prog G1 97 CY:=sd (cf [(93,Ah)] [(97,7,LoopSpec.of GS Ye K7 Ky ZG)]) 97 Tryz.f97 ⟨Dy,trivial⟩ ⟨rfl,fun d=>Bw (fun L e x=>TB Ah.pre Ah.F L e x) (aGl Ah.pre Ah.F) (fun _ _ _ _=>aX3 ..),trivial⟩ HW Ij Q8 _ (fun _=>aVn ..)
abbrev Rh:=Ae HW
abbrev Rp:=Ad HW Ij
variable (p186:Rh)(f186:Rp)
abbrev HV:Aa:=[(false,.slice (.slice (.int .u64)))]
abbrev Ii:Aa:=[(false,.bool)]
abbrev GR:Pat:=⟨16,[(6,.one (.v .i64)),(5,.one (.sl (.slice (.int .u64)))),(7,.one (.v .i64))],[]⟩
abbrev Yd:List (Nat×Shape):=[]
abbrev K6:List (Nat×Pat):=[(0,⟨16,[],[]⟩)]
abbrev Kx:Option Pat:=(some ⟨16,[(2,.one (.bool))],[]⟩)
variable (w185_2:Pat.D GR->Option (Ag K6 Kx))
def TA(p173:AT)(f173:AU){R:Type}(L:Pat.D GR->Option R)(e:Ag K6 Kx->Option R)(x:Pat.D GR):Option R:=bif(decide (x.1.2.2.1<x.1.1))then(bif((decide ((0:Int)<=x.1.2.2.1))&&(decide (x.1.2.2.1<(x.1.2.1.length:Int))))then(bif(p173 ((x.1.2.1.getD (ah x.1.2.2.1) []),()))then(bif(decide (((f173 ((x.1.2.1.getD (ah x.1.2.2.1) []),())).1.length:Int)>(1024:Int)))then(((e (.inr ((true,()),())))))else(L ((x.1.1,x.1.2.1,(aa .i64 (x.1.2.2.1+(1:Int))),()),())))else none)else none)else(e (.inl ((),())))
theorem aX2(d:Nat)(R:Type)(L:Pat.D GR->Option R)(e:Ag K6 Kx->Option R)(x:Pat.D GR):
  Bn (cf [(93,⟨Bg,Bh,p173,f173⟩)] [(96,2,LoopSpec.of GR Yd K6 Kx w185_2)]) (d+2) 96 (Bj Tryz.f96 2) GR Yd K6 Kx (R:=R) L e x=TA p173 f173 L e x:=by kernel_rfl
theorem aGk(p173:AT)(f173:AU):Bf fun L e x=>TA p173 f173 L e x:=by intro _ _ _ _ _ _ _ h0 hL he _;unfold TA;repeat' (first|exact h0|exact hL _|exact he _|apply By|(apply Bz h0;intro _)|(apply BA<;>intro _))
def fO(p173:AT)(f173:AU)(w185_2:Pat.D GR->Option (Ag K6 Kx))(a0:Ab (.slice (.slice (.int .u64)))):Option (DenS Ii):=
 Vx.A3 (w185_2 (((a0.length:Int),a0,(0:Int),()),())) fun y0=>
 Vx.A1 y0 (fun y1=>
 some (false,())) (fun z1=>
 some z1.1)
theorem aVm(x:DenS HV):run (cf [(93,⟨Bg,Bh,p173,f173⟩)] [(96,2,LoopSpec.of GR Yd K6 Kx w185_2)]) 9 96 Tryz.f96 HV Ii x=fO p173 f173 w185_2 x.1:=by kernel_rfl
def ZF:GR.D->Option (Ag K6 Kx):=A6 fun L=>TA Ah.pre Ah.F L some
def P6(x:DenS HV):Option (DenS Ii):=fO Ah.pre Ah.F ZF x.1
def D2:Sum:=Ai HV Ii P6 (DenS.dflt Ii)
theorem jS:Sound Tryz.prog G1 96 D2:=sd (cf [(93,Ah)] [(96,2,LoopSpec.of GR Yd K6 Kx ZF)]) 96 Tryz.f96 ⟨Dy,trivial⟩ ⟨rfl,fun d=>Bw (fun L e x=>TA Ah.pre Ah.F L e x) (aGk Ah.pre Ah.F) (fun _ _ _ _=>aX2 ..),trivial⟩ HV Ii P6 _ (fun _=>aVm ..)
abbrev Rg:=Ae HV
abbrev Ro:=Ad HV Ii
variable (p185:Rg)(f185:Ro)
abbrev HU:Aa:=[(false,.slice (.int .u64)),(false,.int .i64)]
abbrev Ih:Aa:=[(false,.slice (.int .u64)),(false,.int .i64)]
def fK(p186:Rh)(f186:Rp)(p185:Rg)(f185:Ro)(a0:Ab (.slice (.int .u64)))(a1:Ab (.int .i64)):Option (DenS Ih):=bif((decide (a1<(0:Int)))||(decide (a1>(65536:Int))))then(some ([],(7:Int),()))else bif(p185 ((a0::[]),()))then(bif(f185 ((a0::[]),())).1 then(some ([],(5:Int),()))else bif(p186 (a0,a1,()))then(bif(p185 (((f186 (a0,a1,())).1::[]),()))then(bif(f185 (((f186 (a0,a1,())).1::[]),())).1 then(some ([],(5:Int),()))else some ((f186 (a0,a1,())).1,(0:Int),()))else none)else none)else none
theorem aVi(x:DenS HU):run (cf [(97,⟨HW,Ij,p186,f186⟩),(96,⟨HV,Ii,p185,f185⟩)] []) 9 67 Tryz.f67 HU Ih x=fK p186 f186 p185 f185 x.1 x.2.1:=by kernel_rfl
def Q6(x:DenS HU):Option (DenS Ih):=fK CY.pre CY.F D2.pre D2.F x.1 x.2.1
def Di:Sum:=Ai HU Ih Q6 (DenS.dflt Ih)
theorem vZ:Sound Tryz.prog G1 67 Di:=sd (cf [(97,CY),(96,D2)] []) 67 Tryz.f67 ⟨v0,jS,trivial⟩ trivial HU Ih Q6 _ (fun _=>aVi ..)
abbrev Rf:=Ae HU
abbrev Rn:=Ad HU Ih
variable (p176:Rf)(f176:Rn)
abbrev HS:Aa:=[(false,.slice (.int .u64)),(false,.int .i64)]
abbrev If:Aa:=[(false,.slice (.int .u64)),(false,.int .i64)]
def eV(p171:P9)(f171:Qc)(a0:Ab (.slice (.int .u64)))(a1:Ab (.int .i64)):Option (DenS If):=bif(decide (a1<(0:Int)))then(some ([],(7:Int),()))else bif(p171 (a0,a1,()))then(some ((f171 (a0,a1,())).1,(0:Int),()))else none
theorem aUZ(x:DenS HS):run (cf [(100,⟨Gx,GE,p171,f171⟩)] []) 9 103 Tryz.f103 HS If x=eV p171 f171 x.1 x.2.1:=by kernel_rfl
def P5(x:DenS HS):Option (DenS If):=eV Cu.pre Cu.F x.1 x.2.1
def Em:Sum:=Ai HS If P5 (DenS.dflt If)
theorem vV:Sound Tryz.prog G1 103 Em:=sd (cf [(100,Cu)] []) 103 Tryz.f103 ⟨jR,trivial⟩ trivial HS If P5 _ (fun _=>aUZ ..)
abbrev Rd:=Ae HS
abbrev Rl:=Ad HS If
variable (p141:Rd)(f141:Rl)
abbrev Ml:Aa:=[(false,.int .i64),(false,.bool),(false,.bool),(false,.int .u64)]
abbrev N4:Aa:=[(false,.bool)]
def fL(a0:Ab (.int .i64))(a1 a2:Ab (.bool))(a3:Ab (.int .u64)):Option (DenS N4):=bif(a0==(4:Int))then(some ((!(!a1)),()))else bif(a0==(3:Int))then(some ((!a1),()))else bif(a0==(0:Int))then(bif(a3==(2:Int))then(some (a2,()))else some ((decide (a3>=(2:Int))),()))else bif(a0==(1:Int))then(some ((decide (a3>=(2:Int))),()))else bif(a0==(5:Int))then(some ((!a2),()))else some (false,())
theorem aVj(x:DenS Ml):run (cf [] []) 9 151 Tryz.f151 Ml N4 x=fL x.1 x.2.1 x.2.2.1 x.2.2.2.1:=by kernel_rfl
def Q7(x:DenS Ml):Option (DenS N4):=fL x.1 x.2.1 x.2.2.1 x.2.2.2.1
def Sm:Sum:=Ai Ml N4 Q7 (DenS.dflt N4)
theorem aLU:Sound Tryz.prog G1 151 Sm:=sd (cf [] []) 151 Tryz.f151 trivial trivial Ml N4 Q7 _ (fun _=>aVj ..)
abbrev aBd:=Ae Ml
abbrev aCI:=Ad Ml N4
variable (p177:aBd)(f177:aCI)
abbrev Gv:Aa:=[(false,.slice (.int .u64)),(false,.slice (.int .u64))]
abbrev FQ:Aa:=[(false,.slice (.int .u64))]
abbrev GK:Pat:=⟨61,[(28,.one (.v .i64)),(1,.one (.sl (.int .u64))),(29,.one (.v .i64)),(0,.one (.sl (.int .u64))),(6,.one (.v .u64)),(5,.one (.own 0))],[.arr (.int .u64)]⟩
abbrev X6:List (Nat×Shape):=[]
abbrev KZ:List (Nat×Pat):=[(0,⟨61,[(0,.one (.sl (.int .u64))),(6,.one (.v .u64)),(5,.one (.own 0))],[.arr (.int .u64)]⟩)]
abbrev Kq:Option Pat:=none
variable (w143_8:Pat.D GK->Option (Ag KZ Kq))
def Tv(p155:CK)(f155:CL)(p173:AT)(f173:AU){R:Type}(L:Pat.D GK->Option R)(e:Ag KZ Kq->Option R)(x:Pat.D GK):Option R:=let e8_:=(x.1.2.2.2.1.getD (ah x.1.2.2.1) (0:Int));let e7_:=((x.1.2.1.getD (ah x.1.2.2.1) (0:Int)),x.1.2.2.2.2.1,());let e1_:=(f155 (e8_,e7_));let e2_:=(f155 (e8_,(0:Int),x.1.2.2.2.2.1,()));let e3_:=((decide ((0:Int)<=x.1.2.2.1))&&(decide (x.1.2.2.1<(x.1.2.2.2.1.length:Int))));let e4_:=((decide ((0:Int)<=x.1.2.2.1))&&(decide (x.1.2.2.1<(x.2.1.length:Int))));let e5_:=(aa .i64 (x.1.2.2.1+(1:Int)));let e6_:=e8_;bif(decide (x.1.2.2.1<x.1.1))then(bif(decide (x.1.2.2.1<(x.1.2.1.length:Int)))then(bif((decide ((0:Int)<=x.1.2.2.1))&&(decide (x.1.2.2.1<(x.1.2.1.length:Int))))then(bif e3_ then(bif(p155 (e6_,e7_))then(bif e4_ then(((L ((x.1.1,x.1.2.1,e5_,x.1.2.2.2.1,e1_.2.1,(),()),(x.2.1.set (ah x.1.2.2.1) e1_.1),()))))else none)else none)else none)else none)else bif e3_ then(bif(p155 (e6_,(0:Int),x.1.2.2.2.2.1,()))then(bif e4_ then(((L ((x.1.1,x.1.2.1,e5_,x.1.2.2.2.1,e2_.2.1,(),()),(x.2.1.set (ah x.1.2.2.1) e2_.1),()))))else none)else none)else none)else(e (.inl ((x.1.2.2.2.1,x.1.2.2.2.2.1,(),()),x.2)))
theorem aXV(d:Nat)(R:Type)(L:Pat.D GK->Option R)(e:Ag KZ Kq->Option R)(x:Pat.D GK):
  Bn (cf [(94,⟨Ek,EF,p155,f155⟩),(93,⟨Bg,Bh,p173,f173⟩)] [(65,8,LoopSpec.of GK X6 KZ Kq w143_8)]) (d+2) 65 (Bj Tryz.f65 8) GK X6 KZ Kq (R:=R) L e x=Tv p155 f155 p173 f173 L e x:=by kernel_rfl
theorem aGf(p155:CK)(f155:CL)(p173:AT)(f173:AU):Bf fun L e x=>Tv p155 f155 p173 f173 L e x:=by intro _ _ _ _ _ _ _ h0 hL he _;unfold Tv;repeat' (first|exact h0|exact hL _|exact he _|apply By|(apply Bz h0;intro _)|(apply BA<;>intro _))
def eW(p155:CK)(f155:CL)(p173:AT)(f173:AU)(w143_8:Pat.D GK->Option (Ag KZ Kq))(a0 a1:Ab (.slice (.int .u64))):Option (DenS FQ):=
 let e5_:=(aa .i64 (((f173 (a1,())).1.length:Int)+(1:Int)))
 let e1_:=(ap (ah e5_) (0:Int))
 let e6_:=(aa .i64 (((f173 (a0,())).1.length:Int)+(1:Int)))
 let e2_:=(ap (ah e6_) (0:Int))
 let e3_:=e5_
 let e4_:=e6_
 bif(p173 (a0,()))then(bif(p173 (a1,()))then(bif(decide (((f173 (a0,())).1.length:Int)<((f173 (a1,())).1.length:Int)))then(bif((decide ((0:Int)<=e3_))&&(decide ((e3_*(8:Int))<=(140737488355328:Int))))then(Vx.A3 (w143_8 ((((f173 (a1,())).1.length:Int),(f173 (a0,())).1,(0:Int),(f173 (a1,())).1,(0:Int),(),()),(((f173 (a1,())).1.take e1_.length)++(e1_.drop (f173 (a1,())).1.length)),())) fun y4=>
 Vx.A1 y4 (fun y5=>
 bif((decide ((0:Int)<=(y5.1.1.length:Int)))&&(decide ((y5.1.1.length:Int)<(y5.2.1.length:Int))))then(bif(p173 ((y5.2.1.set (ah (y5.1.1.length:Int)) y5.1.2.1),()))then(some (f173 ((y5.2.1.set (ah (y5.1.1.length:Int)) y5.1.2.1),())))
 else none)
 else none) (fun z5=>
 none))
 else none)
 else bif((decide ((0:Int)<=e4_))&&(decide ((e4_*(8:Int))<=(140737488355328:Int))))then(Vx.A3 (w143_8 ((((f173 (a0,())).1.length:Int),(f173 (a1,())).1,(0:Int),(f173 (a0,())).1,(0:Int),(),()),(((f173 (a0,())).1.take e2_.length)++(e2_.drop (f173 (a0,())).1.length)),())) fun y4=>
 Vx.A1 y4 (fun y5=>
 bif((decide ((0:Int)<=(y5.1.1.length:Int)))&&(decide ((y5.1.1.length:Int)<(y5.2.1.length:Int))))then(bif(p173 ((y5.2.1.set (ah (y5.1.1.length:Int)) y5.1.2.1),()))then(some (f173 ((y5.2.1.set (ah (y5.1.1.length:Int)) y5.1.2.1),())))
 else none)
 else none) (fun z5=>
 none))
 else none)
 else none)
 else none
theorem aU1(x:DenS Gv):run (cf [(94,⟨Ek,EF,p155,f155⟩),(93,⟨Bg,Bh,p173,f173⟩)] [(65,8,LoopSpec.of GK X6 KZ Kq w143_8)]) 9 65 Tryz.f65 Gv FQ x=eW p155 f155 p173 f173 w143_8 x.1 x.2.1:=by kernel_rfl
def V7:GK.D->Option (Ag KZ Kq):=A6 fun L=>Tv Ar.pre Ar.F Ah.pre Ah.F L some
def Q3(x:DenS Gv):Option (DenS FQ):=eW Ar.pre Ar.F Ah.pre Ah.F V7 x.1 x.2.1
def CQ:Sum:=Ai Gv FQ Q3 (DenS.dflt FQ)
theorem jP:Sound Tryz.prog G1 65 CQ:=sd (cf [(94,Ar),(93,Ah)] [(65,8,LoopSpec.of GK X6 KZ Kq V7)]) 65 Tryz.f65 ⟨Sj,Dy,trivial⟩ ⟨rfl,fun d=>Bw (fun L e x=>Tv Ar.pre Ar.F Ah.pre Ah.F L e x) (aGf Ar.pre Ar.F Ah.pre Ah.F) (fun _ _ _ _=>aXV ..),trivial⟩ Gv FQ Q3 _ (fun _=>aU1 ..)
abbrev Ll:=Ae Gv
abbrev Lo:=Ad Gv FQ
variable (p143:Ll)(f143:Lo)
abbrev Jx:Aa:=[(true,.pair (.bool) (.pair (.slice (.int .u64)) (.pair (.int .i64) (.pair (.bool) (.unit))))),(false,.int .i64),(false,.int .i64)]
abbrev JX:Aa:=[(false,.slice (.int .u64)),(false,.bool)]
def fD(p175:aBc)(f175:aCH)(p176:Rf)(f176:Rn)(p141:Rd)(f141:Rl)(p177:aBd)(f177:aCI)(p143:Ll)(f143:Lo)(a0:Ab (.pair (.bool) (.pair (.slice (.int .u64)) (.pair (.int .i64) (.pair (.bool) (.unit))))))(a1 a2:Ab (.int .i64)):Option (DenS JX):=let e47_:=(aa .i64 (a2-a0.2.2.1));let e44_:=(f175 (a0.2.1,(aa .i64 (e47_-(2:Int))),()));let e42_:=(e44_.1,(2:Int),());let e40_:=(f141 e42_);let e38_:=(e40_.1.length:Int);let e34_:=(decide (e38_>(0:Int)));let e28_:=(e34_&&((Bs .u64 (e40_.1.getD (ah (0:Int)) (0:Int)) (1:Int))==(1:Int)));let e32_:=(Bs .u64 (e44_.1.getD (ah (0:Int)) (0:Int)) (3:Int));let e30_:=(An .u64 e32_ (1:Int));let e1_:=(a1,a0.1,e28_,e30_,());let e45_:=(f176 (a0.2.1,(aa .i64 ((2:Int)-e47_)),()));let e43_:=(e45_.1,(2:Int),());let e41_:=(f141 e43_);let e39_:=(e41_.1.length:Int);let e35_:=(decide (e39_>(0:Int)));let e29_:=(e35_&&((Bs .u64 (e41_.1.getD (ah (0:Int)) (0:Int)) (1:Int))==(1:Int)));let e33_:=(Bs .u64 (e45_.1.getD (ah (0:Int)) (0:Int)) (3:Int));let e31_:=(An .u64 e33_ (1:Int));let e2_:=(a1,a0.1,e29_,e31_,());let e3_:=(a1,a0.1,e28_,e32_,());let e4_:=(a1,a0.1,e29_,e33_,());let e46_:=((An .u64 (0:Int) (1:Int)),());let e5_:=(a1,a0.1,e28_,e46_);let e6_:=(a1,a0.1,e29_,e46_);let e7_:=((decide ((0:Int)<e38_))||(!e34_));let e8_:=((decide ((0:Int)<e39_))||(!e35_));let e9_:=((e30_ !=(0:Int)),());let e10_:=((e31_ !=(0:Int)),());let e11_:=e30_;let e12_:=e31_;let e13_:=((e32_ !=(0:Int)),());let e14_:=((e33_ !=(0:Int)),());let e15_:=e32_;let e16_:=e33_;let e36_:=(e40_.1,((1:Int)::[]),());let e17_:=(p143 e36_);let e18_:=(f143 e36_);let e37_:=(e41_.1,((1:Int)::[]),());let e19_:=(p143 e37_);let e20_:=(f143 e37_);let e21_:=e40_;let e22_:=e41_;let e23_:=(p141 e42_);let e24_:=(p141 e43_);let e25_:=(e44_.1.length:Int);let e26_:=(e45_.1.length:Int);let e27_:=e47_;bif(decide (e27_>=(2:Int)))then(bif(p175 (a0.2.1,(aa .i64 (e27_-(2:Int))),()))then(bif(decide (e25_>(0:Int)))then(bif(decide ((0:Int)<e25_))then(bif a0.2.2.2.1 then(bif e23_ then(bif e7_ then(bif((p177 e1_)||(!(bif(e11_==(0:Int))then false else true)))then(bif((e11_ !=(0:Int))&&(f177 e1_).1)then(bif e17_ then(some (e18_.1,e9_))else none)else some (e21_.1,e9_))else none)else none)else none)else bif e23_ then(bif e7_ then(bif((p177 e3_)||(!(bif(e15_==(0:Int))then false else true)))then(bif((e15_ !=(0:Int))&&(f177 e3_).1)then(bif e17_ then(some (e18_.1,e13_))else none)else some (e21_.1,e13_))else none)else none)else none)else none)else bif a0.2.2.2.1 then(bif e23_ then(bif e7_ then(bif((p177 e5_)||false)then(bif(f177 e5_).1 then(bif e17_ then(some (e18_.1,true,()))else none)else some (e21_.1,true,()))else none)else none)else none)else bif e23_ then(bif e7_ then(bif((p177 (a1,a0.1,((decide ((e21_.1.length:Int)>(0:Int)))&&((Bs .u64 (e21_.1.getD (ah (0:Int)) (0:Int)) (1:Int))==(1:Int))),(0:Int),()))||true)then(some (e21_.1,false,()))else none)else none)else none)else none)else bif(p176 (a0.2.1,(aa .i64 ((2:Int)-e27_)),()))then(bif(decide (e26_>(0:Int)))then(bif(decide ((0:Int)<e26_))then(bif a0.2.2.2.1 then(bif e24_ then(bif e8_ then(bif((p177 e2_)||(!(bif(e12_==(0:Int))then false else true)))then(bif((e12_ !=(0:Int))&&(f177 e2_).1)then(bif e19_ then(some (e20_.1,e10_))else none)else some (e22_.1,e10_))else none)else none)else none)else bif e24_ then(bif e8_ then(bif((p177 e4_)||(!(bif(e16_==(0:Int))then false else true)))then(bif((e16_ !=(0:Int))&&(f177 e4_).1)then(bif e19_ then(some (e20_.1,e14_))else none)else some (e22_.1,e14_))else none)else none)else none)else none)else bif a0.2.2.2.1 then(bif e24_ then(bif e8_ then(bif((p177 e6_)||false)then(bif(f177 e6_).1 then(bif e19_ then(some (e20_.1,true,()))else none)else some (e22_.1,true,()))else none)else none)else none)else bif e24_ then(bif e8_ then(bif((p177 (a1,a0.1,((decide ((e22_.1.length:Int)>(0:Int)))&&((Bs .u64 (e22_.1.getD (ah (0:Int)) (0:Int)) (1:Int))==(1:Int))),(0:Int),()))||true)then(some (e22_.1,false,()))else none)else none)else none)else none
theorem aU8(x:DenS Jx):run (cf [(150,⟨Mk,N3,p175,f175⟩),(67,⟨HU,Ih,p176,f176⟩),(103,⟨HS,If,p141,f141⟩),(151,⟨Ml,N4,p177,f177⟩),(65,⟨Gv,FQ,p143,f143⟩)] []) 9 142 Tryz.f142 Jx JX x=fD p175 f175 p176 f176 p141 f141 p177 f177 p143 f143 x.1 x.2.1 x.2.2.1:=by kernel_rfl
def Sp(x:DenS Jx):Option (DenS JX):=fD Sl.pre Sl.F Di.pre Di.F Em.pre Em.F Sm.pre Sm.F CQ.pre CQ.F x.1 x.2.1 x.2.2.1
def G6:Sum:=Ai Jx JX Sp (DenS.dflt JX)
theorem vX:Sound Tryz.prog G1 142 G6:=sd (cf [(150,Sl),(67,Di),(103,Em),(151,Sm),(65,CQ)] []) 142 Tryz.f142 ⟨aLT,vZ,vV,aLU,jP,trivial⟩ trivial Jx JX Sp _ (fun _=>aU8 ..)
abbrev kN:=Ae Jx
abbrev mE:=Ad Jx JX
variable (p150:kN)(f150:mE)
abbrev FL:Aa:=[(false,.int .i64),(false,.bool)]
abbrev FW:Aa:=[(false,.int .u64),(false,.int .i64)]
def t97(p116:ZS)(f116:aD)(p69:Bl)(f69:Bm)(p91:Ga)(f91:Ge)(p140:SN)(f140:SX)(a0:Ab (.int .i64))(a1:Ab (.bool)):Option (DenS FW):=let e2_:=((aa .i64 ((f69 (a0,())).1.1-(f69 (a0,())).1.2.1)),());let e1_:=((f69 (a0,())).1,a1,(aa .u64 ((f91 e2_).1-(f116 ((f69 (a0,())).1,())).1)),(f116 ((f69 (a0,())).1,())));bif(p69 (a0,()))then(bif((f69 (a0,())).2.1 !=(0:Int))then(some ((0:Int),(f69 (a0,())).2))else bif(p91 e2_)then(bif(p116 ((f69 (a0,())).1,()))then(bif(p116 ((f69 (a0,())).1,()))then(bif(p140 e1_)then(some ((f140 e1_).1,(0:Int),()))else none)else none)else none)else none)else none
theorem r97(x:DenS FL):run (cf [(89,⟨HO,Ic,p116,f116⟩),(71,⟨BE,BF,p69,f69⟩),(72,⟨DW,D0,p91,f91⟩),(73,⟨Gu,GC,p140,f140⟩)] []) 9 62 Tryz.f62 FL FW x=t97 p116 f116 p69 f69 p91 f91 p140 f140 x.1 x.2.1:=by kernel_rfl
def V3(x:DenS FL):Option (DenS FW):=t97 II.pre II.F Al.pre Al.F Bk.pre Bk.F Fi.pre Fi.F x.1 x.2.1
def Cv:Sum:=Ai FL FW V3 (DenS.dflt FW)
theorem UW:Sound Tryz.prog G1 62 Cv:=sd (cf [(89,II),(71,Al),(72,Bk),(73,Fi)] []) 62 Tryz.f62 ⟨jO,Dj,KR,YK,trivial⟩ trivial FL FW V3 _ (fun _=>r97 ..)
abbrev Ln:=Ae FL
abbrev Lq:=Ad FL FW
variable (p97:Ln)(f97:Lq)
abbrev NM:Aa:=[(true,.pair (.int .i64) (.pair (.int .i64) (.pair (.int .i64) (.pair (.int .i64) (.unit)))))]
abbrev Pq:Aa:=[(false,.int .u64)]
def t95(a0:Ab (.pair (.int .i64) (.pair (.int .i64) (.pair (.int .i64) (.pair (.int .i64) (.unit)))))):Option (DenS Pq):=some ((1:Int),())
theorem r95(x:DenS NM):run (cf [] []) 9 154 Tryz.f154 NM Pq x=t95 x.1:=by kernel_rfl
def T95(x:DenS NM):Option (DenS Pq):=t95 x.1
def Zs:Sum:=Ai NM Pq T95 (DenS.dflt Pq)
theorem aM4:Sound Tryz.prog G1 154 Zs:=sd (cf [] []) 154 Tryz.f154 trivial trivial NM Pq T95 _ (fun _=>r95 ..)
abbrev Y95:=Ae NM
abbrev Z95:=Ad NM Pq
variable (p95:Y95)(f95:Z95)
abbrev NN:Aa:=[(true,.pair (.int .i64) (.pair (.int .i64) (.pair (.int .i64) (.pair (.int .i64) (.unit)))))]
abbrev Pr:Aa:=[(false,.int .u64)]
def t96(p91:Ga)(f91:Ge)(a0:Ab (.pair (.int .i64) (.pair (.int .i64) (.pair (.int .i64) (.pair (.int .i64) (.unit)))))):Option (DenS Pr):=let e1_:=((aa .i64 (a0.2.1-(1:Int))),());bif(p91 e1_)then(some (f91 e1_))else none
theorem r96(x:DenS NN):run (cf [(72,⟨DW,D0,p91,f91⟩)] []) 9 155 Tryz.f155 NN Pr x=t96 p91 f91 x.1:=by kernel_rfl
def T96(x:DenS NN):Option (DenS Pr):=t96 Bk.pre Bk.F x.1
def Zt:Sum:=Ai NN Pr T96 (DenS.dflt Pr)
theorem aM5:Sound Tryz.prog G1 155 Zt:=sd (cf [(72,Bk)] []) 155 Tryz.f155 ⟨KR,trivial⟩ trivial NN Pr T96 _ (fun _=>r96 ..)
abbrev Y96:=Ae NN
abbrev Z96:=Ad NN Pr
variable (p96:Y96)(f96:Z96)
abbrev Nl:Aa:=[(false,.int .i64),(false,.bool)]
abbrev O1:Aa:=[(false,.int .u64),(false,.int .i64)]
def t43(p95:Y95)(f95:Z95)(p96:Y96)(f96:Z96)(p69:Bl)(f69:Bm)(p91:Ga)(f91:Ge)(p140:SN)(f140:SX)(a0:Ab (.int .i64))(a1:Ab (.bool)):Option (DenS O1):=let e2_:=((aa .i64 ((f69 (a0,())).1.1-(f69 (a0,())).1.2.1)),());let e1_:=((f69 (a0,())).1,a1,(aa .u64 ((f91 e2_).1-(f95 ((f69 (a0,())).1,())).1)),(f96 ((f69 (a0,())).1,())));bif(p69 (a0,()))then(bif((f69 (a0,())).2.1 !=(0:Int))then(some ((0:Int),(f69 (a0,())).2))else bif(p91 e2_)then(bif(p95 ((f69 (a0,())).1,()))then(bif(p96 ((f69 (a0,())).1,()))then(bif(p140 e1_)then(some ((f140 e1_).1,(0:Int),()))else none)else none)else none)else none)else none
theorem r43(x:DenS Nl):run (cf [(154,⟨NM,Pq,p95,f95⟩),(155,⟨NN,Pr,p96,f96⟩),(71,⟨BE,BF,p69,f69⟩),(72,⟨DW,D0,p91,f91⟩),(73,⟨Gu,GC,p140,f140⟩)] []) 9 149 Tryz.f149 Nl O1 x=t43 p95 f95 p96 f96 p69 f69 p91 f91 p140 f140 x.1 x.2.1:=by kernel_rfl
def VI(x:DenS Nl):Option (DenS O1):=t43 Zs.pre Zs.F Zt.pre Zt.F Al.pre Al.F Bk.pre Bk.F Fi.pre Fi.F x.1 x.2.1
def IK:Sum:=Ai Nl O1 VI (DenS.dflt O1)
theorem aML:Sound Tryz.prog G1 149 IK:=sd (cf [(154,Zs),(155,Zt),(71,Al),(72,Bk),(73,Fi)] []) 149 Tryz.f149 ⟨aM4,aM5,Dj,KR,YK,trivial⟩ trivial Nl O1 VI _ (fun _=>r43 ..)
abbrev Y43:=Ae Nl
abbrev Z43:=Ad Nl O1
variable (p43:Y43)(f43:Z43)
abbrev Mf:Aa:=[(false,.int .i64),(false,.int .i64),(false,.bool)]
abbrev NX:Aa:=[(false,.int .u64)]
def fC(p97:Ln)(f97:Lq)(p43:Y43)(f43:Z43)(a0 a1:Ab (.int .i64))(a2:Ab (.bool)):Option (DenS NX):=bif((((a1==(0:Int))||(a1==(1:Int)))||((a1==(3:Int))&&(!a2)))||((a1==(4:Int))&&a2))then(bif(p97 (a0,a2,()))then(some ((f97 (a0,a2,())).1,()))else none)else bif(p43 (a0,a2,()))then(some ((f43 (a0,a2,())).1,()))else none
theorem aU7(x:DenS Mf):run (cf [(62,⟨FL,FW,p97,f97⟩),(149,⟨Nl,O1,p43,f43⟩)] []) 9 141 Tryz.f141 Mf NX x=fC p97 f97 p43 f43 x.1 x.2.1 x.2.2.1:=by kernel_rfl
def Vg(x:DenS Mf):Option (DenS NX):=fC Cv.pre Cv.F IK.pre IK.F x.1 x.2.1 x.2.2.1
def Sh:Sum:=Ai Mf NX Vg (DenS.dflt NX)
theorem aLN:Sound Tryz.prog G1 141 Sh:=sd (cf [(62,Cv),(149,IK)] []) 141 Tryz.f141 ⟨UW,aML,trivial⟩ trivial Mf NX Vg _ (fun _=>aU7 ..)
abbrev aA6:=Ae Mf
abbrev aCB:=Ad Mf NX
variable (p149:aA6)(f149:aCB)
abbrev Mg:Aa:=[(true,.pair (.bool) (.pair (.slice (.int .u64)) (.pair (.int .i64) (.pair (.bool) (.unit))))),(true,.pair (.int .i64) (.pair (.int .i64) (.pair (.int .i64) (.pair (.int .i64) (.unit))))),(false,.int .i64),(false,.int .i64)]
abbrev NY:Aa:=[(false,.bool)]
def fF(p150:kN)(f150:mE)(p151:IZ)(f151:I2)(a0:Ab (.pair (.bool) (.pair (.slice (.int .u64)) (.pair (.int .i64) (.pair (.bool) (.unit))))))(a1:Ab (.pair (.int .i64) (.pair (.int .i64) (.pair (.int .i64) (.pair (.int .i64) (.unit))))))(a2 a3:Ab (.int .i64)):Option (DenS NY):=let e3_:=(aa .i64 (a3-a1.2.1));let e1_:=((f150 ((a0.1,a0.2),a2,(aa .i64 (e3_+(1:Int))),())).1,());let e2_:=e3_;bif(decide (a3>=a1.2.2.1))then(some (false,()))else bif(p150 ((a0.1,a0.2),a2,(aa .i64 (e2_+(1:Int))),()))then(bif(p151 e1_)then(some ((decide ((aa .i64 (e2_+(f151 e1_).1))<a1.2.2.1)),()))else none)else none
theorem aVa(x:DenS Mg):run (cf [(142,⟨Jx,JX,p150,f150⟩),(98,⟨E2,E9,p151,f151⟩)] []) 9 143 Tryz.f143 Mg NY x=fF p150 f150 p151 f151 x.1 x.2.1 x.2.2.1 x.2.2.2.1:=by kernel_rfl
def Vh(x:DenS Mg):Option (DenS NY):=fF G6.pre G6.F BL.pre BL.F x.1 x.2.1 x.2.2.1 x.2.2.2.1
def Si:Sum:=Ai Mg NY Vh (DenS.dflt NY)
theorem aLP:Sound Tryz.prog G1 143 Si:=sd (cf [(142,G6),(98,BL)] []) 143 Tryz.f143 ⟨vX,UC,trivial⟩ trivial Mg NY Vh _ (fun _=>aVa ..)
abbrev aA7:=Ae Mg
abbrev aCC:=Ad Mg NY
variable (p152:aA7)(f152:aCC)
abbrev HL:Aa:=[(true,.pair (.bool) (.pair (.slice (.int .u64)) (.pair (.int .i64) (.pair (.bool) (.unit))))),(false,.int .i64),(true,.pair (.int .i64) (.pair (.int .i64) (.pair (.int .i64) (.pair (.int .i64) (.unit))))),(false,.int .i64)]
abbrev H9:Aa:=[(false,.int .u64),(false,.int .i64)]
def eG(p148:aA5)(f148:aCA)(p150:kN)(f150:mE)(p151:IZ)(f151:I2)(p149:aA6)(f149:aCB)(p152:aA7)(f152:aCC)(a0:Ab (.pair (.bool) (.pair (.slice (.int .u64)) (.pair (.int .i64) (.pair (.bool) (.unit))))))(a1:Ab (.int .i64))(a2:Ab (.pair (.int .i64) (.pair (.int .i64) (.pair (.int .i64) (.pair (.int .i64) (.unit))))))(a3:Ab (.int .i64)):Option (DenS H9):=let e18_:=(aa .i64 ((aa .i64 ((if(a2.2.2.1>(f148 ((a0.1,a0.2),())).1)then a2.2.2.1 else(f148 ((a0.1,a0.2),())).1)-a2.2.1))+(1:Int)));let e21_:=(aa .i64 (a2.2.1-(1:Int)));let e14_:=(A4 .u64 (aa .u64 (aa .i64 (e18_-(aa .i64 ((aa .i64 (a2.2.2.1-a2.2.1))+(1:Int)))))) e21_);let e17_:=((a0.1,a0.2),a3,e18_,());let e16_:=(f150 e17_);let e13_:=(aa .u64 (e14_+(e16_.1.getD (ah (0:Int)) (0:Int))));let e22_:=(aa .i64 (a2.1-(1:Int)));let e19_:=(A4 .u64 (1:Int) e22_);let e1_:=(An .u64 e13_ e19_);let e2_:=e13_;let e3_:=(An .u64 e14_ e19_);let e15_:=(e16_.1,());let e4_:=(decide ((aa .i64 ((aa .i64 (e18_+(f151 e15_).1))-(1:Int)))>a2.2.2.2.1));let e5_:=e14_;let e6_:=(e16_.1.length:Int);let e7_:=(p151 e15_);let e8_:=(!e16_.2.1);let e9_:=(decide ((0:Int)<=e22_));let e20_:=((a0.1,a0.2),(a2.1,a2.2),a3,(f148 ((a0.1,a0.2),())));let e10_:=(p152 e20_);let e11_:=(f152 e20_);let e12_:=((f149 (a1,a3,a0.1,())).1,(20:Int),());bif(p148 ((a0.1,a0.2),()))then(bif(decide ((f148 ((a0.1,a0.2),())).1>a2.2.2.2.1))then(bif(p149 (a1,a3,a0.1,()))then(some e12_)else none)else bif(p150 e17_)then(bif(decide ((0:Int)<=e21_))then(bif(decide (e6_>(0:Int)))then(bif(decide ((0:Int)<e6_))then(bif e7_ then(bif e4_ then(bif(p149 (a1,a3,a0.1,()))then(some e12_)else none)else bif a0.1 then(bif e9_ then(bif e8_ then(some (e1_,(0:Int),()))else bif e10_ then(bif e11_.1 then(some (e1_,(24:Int),()))else some (e1_,(16:Int),()))else none)else none)else bif e8_ then(some (e2_,(0:Int),()))else bif e10_ then(bif e11_.1 then(some (e2_,(24:Int),()))else some (e2_,(16:Int),()))else none)else none)else none)else bif e7_ then(bif e4_ then(bif(p149 (a1,a3,a0.1,()))then(some e12_)else none)else bif a0.1 then(bif e9_ then(bif e8_ then(some (e3_,(0:Int),()))else bif e10_ then(bif e11_.1 then(some (e3_,(24:Int),()))else some (e3_,(16:Int),()))else none)else none)else bif e8_ then(some (e5_,(0:Int),()))else bif e10_ then(bif e11_.1 then(some (e5_,(24:Int),()))else some (e5_,(16:Int),()))else none)else none)else none)else none)else none
theorem aUG(x:DenS HL):run (cf [(140,⟨Me,NW,p148,f148⟩),(142,⟨Jx,JX,p150,f150⟩),(98,⟨E2,E9,p151,f151⟩),(141,⟨Mf,NX,p149,f149⟩),(143,⟨Mg,NY,p152,f152⟩)] []) 9 124 Tryz.f124 HL H9 x=eG p148 f148 p150 f150 p151 f151 p149 f149 p152 f152 x.1 x.2.1 x.2.2.1 x.2.2.2.1:=by kernel_rfl
def UY(x:DenS HL):Option (DenS H9):=eG Sg.pre Sg.F G6.pre G6.F BL.pre BL.F Sh.pre Sh.F Si.pre Si.F x.1 x.2.1 x.2.2.1 x.2.2.2.1
def EL:Sum:=Ai HL H9 UY (DenS.dflt H9)
theorem jL:Sound Tryz.prog G1 124 EL:=sd (cf [(140,Sg),(142,G6),(98,BL),(141,Sh),(143,Si)] []) 124 Tryz.f124 ⟨aLM,vX,UC,aLN,aLP,trivial⟩ trivial HL H9 UY _ (fun _=>aUG ..)
abbrev SM:=Ae HL
abbrev SW:=Ad HL H9
variable (p107:SM)(f107:SW)
abbrev Ej:Aa:=[(false,.int .i64),(false,.int .i64),(false,.bool),(true,.pair (.int .u64) (.pair (.int .u64) (.unit))),(false,.int .i64),(false,.bool)]
abbrev EE:Aa:=[(false,.int .u64),(false,.int .i64),(false,.int .i64)]
def eP(p105:SL)(f105:SU)(p102:F7)(f102:Gb)(p151:IZ)(f151:I2)(p156:ZU)(f156:aF)(p107:SM)(f107:SW)(a0 a1:Ab (.int .i64))(a2:Ab (.bool))(a3:Ab (.pair (.int .u64) (.pair (.int .u64) (.unit))))(a4:Ab (.int .i64))(a5:Ab (.bool)):Option (DenS EE):=let e2_:=((a2,(f102 ((a3.2.1::(a3.1::[])),())).1,a4,a5,()),a0,(f105 (a0,a1,())).1,a1,());let e1_:=(f107 e2_);bif(p105 (a0,a1,()))then(bif((f105 (a0,a1,())).2.1 !=(0:Int))then(some ((0:Int),(0:Int),(f105 (a0,a1,())).2))else bif(p102 ((a3.2.1::(a3.1::[])),()))then(bif((decide (a4<(-(40000:Int))))||(decide (a4>(40000:Int))))then(some ((0:Int),(0:Int),(30:Int),()))else bif((p151 (f102 ((a3.2.1::(a3.1::[])),())))||(!a5))then(bif(a5&&(decide ((f151 (f102 ((a3.2.1::(a3.1::[])),()))).1<(aa .i64 ((f105 (a0,a1,())).1.2.1+(2:Int))))))then(some ((0:Int),(0:Int),(7:Int),()))else bif(((f102 ((a3.2.1::(a3.1::[])),())).1.length:Int)==(0:Int))then(bif(p156 (a0,a2,()))then(some (f156 (a0,a2,())))else none)else bif(p107 e2_)then(some (e1_.1,e1_.2.1,(0:Int),()))else none)else none)else none)else none
theorem aUT(x:DenS Ej):run (cf [(121,⟨HK,H8,p105,f105⟩),(122,⟨Ex,EC,p102,f102⟩),(98,⟨E2,E9,p151,f151⟩),(123,⟨Jy,JY,p156,f156⟩),(124,⟨HL,H9,p107,f107⟩)] []) 9 104 Tryz.f104 Ej EE x=eP p105 f105 p102 f102 p151 f151 p156 f156 p107 f107 x.1 x.2.1 x.2.2.1 x.2.2.2.1 x.2.2.2.2.1 x.2.2.2.2.2.1:=by kernel_rfl
def U6(x:DenS Ej):Option (DenS EE):=eP EK.pre EK.F BK.pre BK.F BL.pre BL.F G7.pre G7.F EL.pre EL.F x.1 x.2.1 x.2.2.1 x.2.2.2.1 x.2.2.2.2.1 x.2.2.2.2.2.1
def BH:Sum:=Ai Ej EE U6 (DenS.dflt EE)
theorem Sf:Sound Tryz.prog G1 104 BH:=sd (cf [(121,EK),(122,BK),(98,BL),(123,G7),(124,EL)] []) 104 Tryz.f104 ⟨jK,UB,UC,vY,jL,trivial⟩ trivial Ej EE U6 _ (fun _=>aUT ..)
abbrev F8:=Ae Ej
abbrev Gc:=Ad Ej EE
variable (p122:F8)(f122:Gc)
end Vx
namespace Vx
open Go Go.Proofs
variable (p119:Wh)(f119:Wq)(p120:kK)(f120:mB)(p121:kL)(f121:mC)(p123:Rc)(f123:Rk)(p124:kM)(f124:mD)(p118:Ha)(f118:Hd)(p122:F8)(f122:Gc)
abbrev NJ:Aa:=[(false,.int .i64),(false,.int .i64),(true,.pair (.bool) (.pair (.int .u64) (.pair (.int .i64) (.unit)))),(true,.pair (.bool) (.pair (.int .u64) (.pair (.int .i64) (.unit))))]
abbrev Iv:Aa:=[(false,.int .u64),(false,.int .i64),(false,.int .i64)]
def iN(p119:DenS Gt->Bool)(f119:DenS Gt->DenS Ie)(p120:DenS HP->Bool)(f120:DenS HP->DenS JT)(p121:DenS HQ->Bool)(f121:DenS HQ->DenS JU)(p123:DenS FF->Bool)(f123:DenS FF->DenS GB)(p124:DenS HR->Bool)(f124:DenS HR->DenS JV)(p118:DenS Ei->Bool)(f118:DenS Ei->DenS ED)(p122:DenS Ej->Bool)(f122:DenS Ej->DenS EE)(f m:Int)(nx:Bool)(X ex:Int)(ny:Bool)(Y ey:Int):Option (DenS Iv):=bif(p119 (((0:Int),(X,())),((if((70:Int)<(aa .i64 (ex-ey)))then(70:Int)else(aa .i64 (ex-ey))),())))then(bif(p120 (((0:Int),(Y,())),((aa .i64 ((aa .i64 (ex-(if((70:Int)<(aa .i64 (ex-ey)))then(70:Int)else(aa .i64 (ex-ey)))))-ey)),())))then(bif(p119 ((f120 (((0:Int),(Y,())),((aa .i64 ((aa .i64 (ex-(if((70:Int)<(aa .i64 (ex-ey)))then(70:Int)else(aa .i64 (ex-ey)))))-ey)),()))).1,((aa .i64 ((aa .i64 (ex-(if((70:Int)<(aa .i64 (ex-ey)))then(70:Int)else(aa .i64 (ex-ey)))))-ey)),())))then(bif(p120 (((0:Int),(Y,())),((aa .i64 ((aa .i64 (ex-(if((70:Int)<(aa .i64 (ex-ey)))then(70:Int)else(aa .i64 (ex-ey)))))-ey)),())))then(bif(nx==ny)then(bif(p121 ((f119 (((0:Int),(X,())),((if((70:Int)<(aa .i64 (ex-ey)))then(70:Int)else(aa .i64 (ex-ey))),()))).1,(f120 (((0:Int),(Y,())),((aa .i64 ((aa .i64 (ex-(if((70:Int)<(aa .i64 (ex-ey)))then(70:Int)else(aa .i64 (ex-ey)))))-ey)),())))))then(bif(p122 (f,(m,(nx,((f121 ((f119 (((0:Int),(X,())),((if((70:Int)<(aa .i64 (ex-ey)))then(70:Int)else(aa .i64 (ex-ey))),()))).1,(f120 (((0:Int),(Y,())),((aa .i64 ((aa .i64 (ex-(if((70:Int)<(aa .i64 (ex-ey)))then(70:Int)else(aa .i64 (ex-ey)))))-ey)),()))))).1,((aa .i64 (ex-(if((70:Int)<(aa .i64 (ex-ey)))then(70:Int)else(aa .i64 (ex-ey))))),(((!(((f119 ((f120 (((0:Int),(Y,())),((aa .i64 ((aa .i64 (ex-(if((70:Int)<(aa .i64 (ex-ey)))then(70:Int)else(aa .i64 (ex-ey)))))-ey)),()))).1,((aa .i64 ((aa .i64 (ex-(if((70:Int)<(aa .i64 (ex-ey)))then(70:Int)else(aa .i64 (ex-ey)))))-ey)),()))).1.1==(0:Int))&&((f119 ((f120 (((0:Int),(Y,())),((aa .i64 ((aa .i64 (ex-(if((70:Int)<(aa .i64 (ex-ey)))then(70:Int)else(aa .i64 (ex-ey)))))-ey)),()))).1,((aa .i64 ((aa .i64 (ex-(if((70:Int)<(aa .i64 (ex-ey)))then(70:Int)else(aa .i64 (ex-ey)))))-ey)),()))).1.2.1==Y)))||((decide ((aa .i64 ((aa .i64 (ex-(if((70:Int)<(aa .i64 (ex-ey)))then(70:Int)else(aa .i64 (ex-ey)))))-ey))>(63:Int)))&&(Y !=(0:Int)))),())))))))then(some (f122 (f,(m,(nx,((f121 ((f119 (((0:Int),(X,())),((if((70:Int)<(aa .i64 (ex-ey)))then(70:Int)else(aa .i64 (ex-ey))),()))).1,(f120 (((0:Int),(Y,())),((aa .i64 ((aa .i64 (ex-(if((70:Int)<(aa .i64 (ex-ey)))then(70:Int)else(aa .i64 (ex-ey)))))-ey)),()))))).1,((aa .i64 (ex-(if((70:Int)<(aa .i64 (ex-ey)))then(70:Int)else(aa .i64 (ex-ey))))),(((!(((f119 ((f120 (((0:Int),(Y,())),((aa .i64 ((aa .i64 (ex-(if((70:Int)<(aa .i64 (ex-ey)))then(70:Int)else(aa .i64 (ex-ey)))))-ey)),()))).1,((aa .i64 ((aa .i64 (ex-(if((70:Int)<(aa .i64 (ex-ey)))then(70:Int)else(aa .i64 (ex-ey)))))-ey)),()))).1.1==(0:Int))&&((f119 ((f120 (((0:Int),(Y,())),((aa .i64 ((aa .i64 (ex-(if((70:Int)<(aa .i64 (ex-ey)))then(70:Int)else(aa .i64 (ex-ey)))))-ey)),()))).1,((aa .i64 ((aa .i64 (ex-(if((70:Int)<(aa .i64 (ex-ey)))then(70:Int)else(aa .i64 (ex-ey)))))-ey)),()))).1.2.1==Y)))||((decide ((aa .i64 ((aa .i64 (ex-(if((70:Int)<(aa .i64 (ex-ey)))then(70:Int)else(aa .i64 (ex-ey)))))-ey))>(63:Int)))&&(Y !=(0:Int)))),()))))))))else none)else none)else bif(p123 ((f119 (((0:Int),(X,())),((if((70:Int)<(aa .i64 (ex-ey)))then(70:Int)else(aa .i64 (ex-ey))),()))).1,(f120 (((0:Int),(Y,())),((aa .i64 ((aa .i64 (ex-(if((70:Int)<(aa .i64 (ex-ey)))then(70:Int)else(aa .i64 (ex-ey)))))-ey)),())))))then(bif(decide ((f123 ((f119 (((0:Int),(X,())),((if((70:Int)<(aa .i64 (ex-ey)))then(70:Int)else(aa .i64 (ex-ey))),()))).1,(f120 (((0:Int),(Y,())),((aa .i64 ((aa .i64 (ex-(if((70:Int)<(aa .i64 (ex-ey)))then(70:Int)else(aa .i64 (ex-ey)))))-ey)),()))))).1<(0:Int)))then(bif(p124 ((f120 (((0:Int),(Y,())),((aa .i64 ((aa .i64 (ex-(if((70:Int)<(aa .i64 (ex-ey)))then(70:Int)else(aa .i64 (ex-ey)))))-ey)),()))).1,(f119 (((0:Int),(X,())),((if((70:Int)<(aa .i64 (ex-ey)))then(70:Int)else(aa .i64 (ex-ey))),())))))then(bif((!(((f119 ((f120 (((0:Int),(Y,())),((aa .i64 ((aa .i64 (ex-(if((70:Int)<(aa .i64 (ex-ey)))then(70:Int)else(aa .i64 (ex-ey)))))-ey)),()))).1,((aa .i64 ((aa .i64 (ex-(if((70:Int)<(aa .i64 (ex-ey)))then(70:Int)else(aa .i64 (ex-ey)))))-ey)),()))).1.1==(0:Int))&&((f119 ((f120 (((0:Int),(Y,())),((aa .i64 ((aa .i64 (ex-(if((70:Int)<(aa .i64 (ex-ey)))then(70:Int)else(aa .i64 (ex-ey)))))-ey)),()))).1,((aa .i64 ((aa .i64 (ex-(if((70:Int)<(aa .i64 (ex-ey)))then(70:Int)else(aa .i64 (ex-ey)))))-ey)),()))).1.2.1==Y)))||((decide ((aa .i64 ((aa .i64 (ex-(if((70:Int)<(aa .i64 (ex-ey)))then(70:Int)else(aa .i64 (ex-ey)))))-ey))>(63:Int)))&&(Y !=(0:Int))))then(bif(p124 ((f124 ((f120 (((0:Int),(Y,())),((aa .i64 ((aa .i64 (ex-(if((70:Int)<(aa .i64 (ex-ey)))then(70:Int)else(aa .i64 (ex-ey)))))-ey)),()))).1,(f119 (((0:Int),(X,())),((if((70:Int)<(aa .i64 (ex-ey)))then(70:Int)else(aa .i64 (ex-ey))),()))))).1,(((0:Int),((1:Int),())),())))then(bif((((f124 ((f124 ((f120 (((0:Int),(Y,())),((aa .i64 ((aa .i64 (ex-(if((70:Int)<(aa .i64 (ex-ey)))then(70:Int)else(aa .i64 (ex-ey)))))-ey)),()))).1,(f119 (((0:Int),(X,())),((if((70:Int)<(aa .i64 (ex-ey)))then(70:Int)else(aa .i64 (ex-ey))),()))))).1,(((0:Int),((1:Int),())),()))).1.1==(0:Int))&&((f124 ((f124 ((f120 (((0:Int),(Y,())),((aa .i64 ((aa .i64 (ex-(if((70:Int)<(aa .i64 (ex-ey)))then(70:Int)else(aa .i64 (ex-ey)))))-ey)),()))).1,(f119 (((0:Int),(X,())),((if((70:Int)<(aa .i64 (ex-ey)))then(70:Int)else(aa .i64 (ex-ey))),()))))).1,(((0:Int),((1:Int),())),()))).1.2.1==(0:Int)))&&(!((!(((f119 ((f120 (((0:Int),(Y,())),((aa .i64 ((aa .i64 (ex-(if((70:Int)<(aa .i64 (ex-ey)))then(70:Int)else(aa .i64 (ex-ey)))))-ey)),()))).1,((aa .i64 ((aa .i64 (ex-(if((70:Int)<(aa .i64 (ex-ey)))then(70:Int)else(aa .i64 (ex-ey)))))-ey)),()))).1.1==(0:Int))&&((f119 ((f120 (((0:Int),(Y,())),((aa .i64 ((aa .i64 (ex-(if((70:Int)<(aa .i64 (ex-ey)))then(70:Int)else(aa .i64 (ex-ey)))))-ey)),()))).1,((aa .i64 ((aa .i64 (ex-(if((70:Int)<(aa .i64 (ex-ey)))then(70:Int)else(aa .i64 (ex-ey)))))-ey)),()))).1.2.1==Y)))||((decide ((aa .i64 ((aa .i64 (ex-(if((70:Int)<(aa .i64 (ex-ey)))then(70:Int)else(aa .i64 (ex-ey)))))-ey))>(63:Int)))&&(Y !=(0:Int))))))then(bif(p118 (f,((m==(4:Int)),())))then(some ((f118 (f,((m==(4:Int)),()))).1,((0:Int),((0:Int),()))))else none)else bif(p122 (f,(m,(ny,((f124 ((f124 ((f120 (((0:Int),(Y,())),((aa .i64 ((aa .i64 (ex-(if((70:Int)<(aa .i64 (ex-ey)))then(70:Int)else(aa .i64 (ex-ey)))))-ey)),()))).1,(f119 (((0:Int),(X,())),((if((70:Int)<(aa .i64 (ex-ey)))then(70:Int)else(aa .i64 (ex-ey))),()))))).1,(((0:Int),((1:Int),())),()))).1,((aa .i64 (ex-(if((70:Int)<(aa .i64 (ex-ey)))then(70:Int)else(aa .i64 (ex-ey))))),(((!(((f119 ((f120 (((0:Int),(Y,())),((aa .i64 ((aa .i64 (ex-(if((70:Int)<(aa .i64 (ex-ey)))then(70:Int)else(aa .i64 (ex-ey)))))-ey)),()))).1,((aa .i64 ((aa .i64 (ex-(if((70:Int)<(aa .i64 (ex-ey)))then(70:Int)else(aa .i64 (ex-ey)))))-ey)),()))).1.1==(0:Int))&&((f119 ((f120 (((0:Int),(Y,())),((aa .i64 ((aa .i64 (ex-(if((70:Int)<(aa .i64 (ex-ey)))then(70:Int)else(aa .i64 (ex-ey)))))-ey)),()))).1,((aa .i64 ((aa .i64 (ex-(if((70:Int)<(aa .i64 (ex-ey)))then(70:Int)else(aa .i64 (ex-ey)))))-ey)),()))).1.2.1==Y)))||((decide ((aa .i64 ((aa .i64 (ex-(if((70:Int)<(aa .i64 (ex-ey)))then(70:Int)else(aa .i64 (ex-ey)))))-ey))>(63:Int)))&&(Y !=(0:Int)))),())))))))then(some (f122 (f,(m,(ny,((f124 ((f124 ((f120 (((0:Int),(Y,())),((aa .i64 ((aa .i64 (ex-(if((70:Int)<(aa .i64 (ex-ey)))then(70:Int)else(aa .i64 (ex-ey)))))-ey)),()))).1,(f119 (((0:Int),(X,())),((if((70:Int)<(aa .i64 (ex-ey)))then(70:Int)else(aa .i64 (ex-ey))),()))))).1,(((0:Int),((1:Int),())),()))).1,((aa .i64 (ex-(if((70:Int)<(aa .i64 (ex-ey)))then(70:Int)else(aa .i64 (ex-ey))))),(((!(((f119 ((f120 (((0:Int),(Y,())),((aa .i64 ((aa .i64 (ex-(if((70:Int)<(aa .i64 (ex-ey)))then(70:Int)else(aa .i64 (ex-ey)))))-ey)),()))).1,((aa .i64 ((aa .i64 (ex-(if((70:Int)<(aa .i64 (ex-ey)))then(70:Int)else(aa .i64 (ex-ey)))))-ey)),()))).1.1==(0:Int))&&((f119 ((f120 (((0:Int),(Y,())),((aa .i64 ((aa .i64 (ex-(if((70:Int)<(aa .i64 (ex-ey)))then(70:Int)else(aa .i64 (ex-ey)))))-ey)),()))).1,((aa .i64 ((aa .i64 (ex-(if((70:Int)<(aa .i64 (ex-ey)))then(70:Int)else(aa .i64 (ex-ey)))))-ey)),()))).1.2.1==Y)))||((decide ((aa .i64 ((aa .i64 (ex-(if((70:Int)<(aa .i64 (ex-ey)))then(70:Int)else(aa .i64 (ex-ey)))))-ey))>(63:Int)))&&(Y !=(0:Int)))),()))))))))else none)else none)else bif((((f124 ((f120 (((0:Int),(Y,())),((aa .i64 ((aa .i64 (ex-(if((70:Int)<(aa .i64 (ex-ey)))then(70:Int)else(aa .i64 (ex-ey)))))-ey)),()))).1,(f119 (((0:Int),(X,())),((if((70:Int)<(aa .i64 (ex-ey)))then(70:Int)else(aa .i64 (ex-ey))),()))))).1.1==(0:Int))&&((f124 ((f120 (((0:Int),(Y,())),((aa .i64 ((aa .i64 (ex-(if((70:Int)<(aa .i64 (ex-ey)))then(70:Int)else(aa .i64 (ex-ey)))))-ey)),()))).1,(f119 (((0:Int),(X,())),((if((70:Int)<(aa .i64 (ex-ey)))then(70:Int)else(aa .i64 (ex-ey))),()))))).1.2.1==(0:Int)))&&(!((!(((f119 ((f120 (((0:Int),(Y,())),((aa .i64 ((aa .i64 (ex-(if((70:Int)<(aa .i64 (ex-ey)))then(70:Int)else(aa .i64 (ex-ey)))))-ey)),()))).1,((aa .i64 ((aa .i64 (ex-(if((70:Int)<(aa .i64 (ex-ey)))then(70:Int)else(aa .i64 (ex-ey)))))-ey)),()))).1.1==(0:Int))&&((f119 ((f120 (((0:Int),(Y,())),((aa .i64 ((aa .i64 (ex-(if((70:Int)<(aa .i64 (ex-ey)))then(70:Int)else(aa .i64 (ex-ey)))))-ey)),()))).1,((aa .i64 ((aa .i64 (ex-(if((70:Int)<(aa .i64 (ex-ey)))then(70:Int)else(aa .i64 (ex-ey)))))-ey)),()))).1.2.1==Y)))||((decide ((aa .i64 ((aa .i64 (ex-(if((70:Int)<(aa .i64 (ex-ey)))then(70:Int)else(aa .i64 (ex-ey)))))-ey))>(63:Int)))&&(Y !=(0:Int))))))then(bif(p118 (f,((m==(4:Int)),())))then(some ((f118 (f,((m==(4:Int)),()))).1,((0:Int),((0:Int),()))))else none)else bif(p122 (f,(m,(ny,((f124 ((f120 (((0:Int),(Y,())),((aa .i64 ((aa .i64 (ex-(if((70:Int)<(aa .i64 (ex-ey)))then(70:Int)else(aa .i64 (ex-ey)))))-ey)),()))).1,(f119 (((0:Int),(X,())),((if((70:Int)<(aa .i64 (ex-ey)))then(70:Int)else(aa .i64 (ex-ey))),()))))).1,((aa .i64 (ex-(if((70:Int)<(aa .i64 (ex-ey)))then(70:Int)else(aa .i64 (ex-ey))))),(((!(((f119 ((f120 (((0:Int),(Y,())),((aa .i64 ((aa .i64 (ex-(if((70:Int)<(aa .i64 (ex-ey)))then(70:Int)else(aa .i64 (ex-ey)))))-ey)),()))).1,((aa .i64 ((aa .i64 (ex-(if((70:Int)<(aa .i64 (ex-ey)))then(70:Int)else(aa .i64 (ex-ey)))))-ey)),()))).1.1==(0:Int))&&((f119 ((f120 (((0:Int),(Y,())),((aa .i64 ((aa .i64 (ex-(if((70:Int)<(aa .i64 (ex-ey)))then(70:Int)else(aa .i64 (ex-ey)))))-ey)),()))).1,((aa .i64 ((aa .i64 (ex-(if((70:Int)<(aa .i64 (ex-ey)))then(70:Int)else(aa .i64 (ex-ey)))))-ey)),()))).1.2.1==Y)))||((decide ((aa .i64 ((aa .i64 (ex-(if((70:Int)<(aa .i64 (ex-ey)))then(70:Int)else(aa .i64 (ex-ey)))))-ey))>(63:Int)))&&(Y !=(0:Int)))),())))))))then(some (f122 (f,(m,(ny,((f124 ((f120 (((0:Int),(Y,())),((aa .i64 ((aa .i64 (ex-(if((70:Int)<(aa .i64 (ex-ey)))then(70:Int)else(aa .i64 (ex-ey)))))-ey)),()))).1,(f119 (((0:Int),(X,())),((if((70:Int)<(aa .i64 (ex-ey)))then(70:Int)else(aa .i64 (ex-ey))),()))))).1,((aa .i64 (ex-(if((70:Int)<(aa .i64 (ex-ey)))then(70:Int)else(aa .i64 (ex-ey))))),(((!(((f119 ((f120 (((0:Int),(Y,())),((aa .i64 ((aa .i64 (ex-(if((70:Int)<(aa .i64 (ex-ey)))then(70:Int)else(aa .i64 (ex-ey)))))-ey)),()))).1,((aa .i64 ((aa .i64 (ex-(if((70:Int)<(aa .i64 (ex-ey)))then(70:Int)else(aa .i64 (ex-ey)))))-ey)),()))).1.1==(0:Int))&&((f119 ((f120 (((0:Int),(Y,())),((aa .i64 ((aa .i64 (ex-(if((70:Int)<(aa .i64 (ex-ey)))then(70:Int)else(aa .i64 (ex-ey)))))-ey)),()))).1,((aa .i64 ((aa .i64 (ex-(if((70:Int)<(aa .i64 (ex-ey)))then(70:Int)else(aa .i64 (ex-ey)))))-ey)),()))).1.2.1==Y)))||((decide ((aa .i64 ((aa .i64 (ex-(if((70:Int)<(aa .i64 (ex-ey)))then(70:Int)else(aa .i64 (ex-ey)))))-ey))>(63:Int)))&&(Y !=(0:Int)))),()))))))))else none)else none)else bif(p124 ((f119 (((0:Int),(X,())),((if((70:Int)<(aa .i64 (ex-ey)))then(70:Int)else(aa .i64 (ex-ey))),()))).1,(f120 (((0:Int),(Y,())),((aa .i64 ((aa .i64 (ex-(if((70:Int)<(aa .i64 (ex-ey)))then(70:Int)else(aa .i64 (ex-ey)))))-ey)),())))))then(bif((!(((f119 ((f120 (((0:Int),(Y,())),((aa .i64 ((aa .i64 (ex-(if((70:Int)<(aa .i64 (ex-ey)))then(70:Int)else(aa .i64 (ex-ey)))))-ey)),()))).1,((aa .i64 ((aa .i64 (ex-(if((70:Int)<(aa .i64 (ex-ey)))then(70:Int)else(aa .i64 (ex-ey)))))-ey)),()))).1.1==(0:Int))&&((f119 ((f120 (((0:Int),(Y,())),((aa .i64 ((aa .i64 (ex-(if((70:Int)<(aa .i64 (ex-ey)))then(70:Int)else(aa .i64 (ex-ey)))))-ey)),()))).1,((aa .i64 ((aa .i64 (ex-(if((70:Int)<(aa .i64 (ex-ey)))then(70:Int)else(aa .i64 (ex-ey)))))-ey)),()))).1.2.1==Y)))||((decide ((aa .i64 ((aa .i64 (ex-(if((70:Int)<(aa .i64 (ex-ey)))then(70:Int)else(aa .i64 (ex-ey)))))-ey))>(63:Int)))&&(Y !=(0:Int))))then(bif(p124 ((f124 ((f119 (((0:Int),(X,())),((if((70:Int)<(aa .i64 (ex-ey)))then(70:Int)else(aa .i64 (ex-ey))),()))).1,(f120 (((0:Int),(Y,())),((aa .i64 ((aa .i64 (ex-(if((70:Int)<(aa .i64 (ex-ey)))then(70:Int)else(aa .i64 (ex-ey)))))-ey)),()))))).1,(((0:Int),((1:Int),())),())))then(bif((((f124 ((f124 ((f119 (((0:Int),(X,())),((if((70:Int)<(aa .i64 (ex-ey)))then(70:Int)else(aa .i64 (ex-ey))),()))).1,(f120 (((0:Int),(Y,())),((aa .i64 ((aa .i64 (ex-(if((70:Int)<(aa .i64 (ex-ey)))then(70:Int)else(aa .i64 (ex-ey)))))-ey)),()))))).1,(((0:Int),((1:Int),())),()))).1.1==(0:Int))&&((f124 ((f124 ((f119 (((0:Int),(X,())),((if((70:Int)<(aa .i64 (ex-ey)))then(70:Int)else(aa .i64 (ex-ey))),()))).1,(f120 (((0:Int),(Y,())),((aa .i64 ((aa .i64 (ex-(if((70:Int)<(aa .i64 (ex-ey)))then(70:Int)else(aa .i64 (ex-ey)))))-ey)),()))))).1,(((0:Int),((1:Int),())),()))).1.2.1==(0:Int)))&&(!((!(((f119 ((f120 (((0:Int),(Y,())),((aa .i64 ((aa .i64 (ex-(if((70:Int)<(aa .i64 (ex-ey)))then(70:Int)else(aa .i64 (ex-ey)))))-ey)),()))).1,((aa .i64 ((aa .i64 (ex-(if((70:Int)<(aa .i64 (ex-ey)))then(70:Int)else(aa .i64 (ex-ey)))))-ey)),()))).1.1==(0:Int))&&((f119 ((f120 (((0:Int),(Y,())),((aa .i64 ((aa .i64 (ex-(if((70:Int)<(aa .i64 (ex-ey)))then(70:Int)else(aa .i64 (ex-ey)))))-ey)),()))).1,((aa .i64 ((aa .i64 (ex-(if((70:Int)<(aa .i64 (ex-ey)))then(70:Int)else(aa .i64 (ex-ey)))))-ey)),()))).1.2.1==Y)))||((decide ((aa .i64 ((aa .i64 (ex-(if((70:Int)<(aa .i64 (ex-ey)))then(70:Int)else(aa .i64 (ex-ey)))))-ey))>(63:Int)))&&(Y !=(0:Int))))))then(bif(p118 (f,((m==(4:Int)),())))then(some ((f118 (f,((m==(4:Int)),()))).1,((0:Int),((0:Int),()))))else none)else bif(p122 (f,(m,(nx,((f124 ((f124 ((f119 (((0:Int),(X,())),((if((70:Int)<(aa .i64 (ex-ey)))then(70:Int)else(aa .i64 (ex-ey))),()))).1,(f120 (((0:Int),(Y,())),((aa .i64 ((aa .i64 (ex-(if((70:Int)<(aa .i64 (ex-ey)))then(70:Int)else(aa .i64 (ex-ey)))))-ey)),()))))).1,(((0:Int),((1:Int),())),()))).1,((aa .i64 (ex-(if((70:Int)<(aa .i64 (ex-ey)))then(70:Int)else(aa .i64 (ex-ey))))),(((!(((f119 ((f120 (((0:Int),(Y,())),((aa .i64 ((aa .i64 (ex-(if((70:Int)<(aa .i64 (ex-ey)))then(70:Int)else(aa .i64 (ex-ey)))))-ey)),()))).1,((aa .i64 ((aa .i64 (ex-(if((70:Int)<(aa .i64 (ex-ey)))then(70:Int)else(aa .i64 (ex-ey)))))-ey)),()))).1.1==(0:Int))&&((f119 ((f120 (((0:Int),(Y,())),((aa .i64 ((aa .i64 (ex-(if((70:Int)<(aa .i64 (ex-ey)))then(70:Int)else(aa .i64 (ex-ey)))))-ey)),()))).1,((aa .i64 ((aa .i64 (ex-(if((70:Int)<(aa .i64 (ex-ey)))then(70:Int)else(aa .i64 (ex-ey)))))-ey)),()))).1.2.1==Y)))||((decide ((aa .i64 ((aa .i64 (ex-(if((70:Int)<(aa .i64 (ex-ey)))then(70:Int)else(aa .i64 (ex-ey)))))-ey))>(63:Int)))&&(Y !=(0:Int)))),())))))))then(some (f122 (f,(m,(nx,((f124 ((f124 ((f119 (((0:Int),(X,())),((if((70:Int)<(aa .i64 (ex-ey)))then(70:Int)else(aa .i64 (ex-ey))),()))).1,(f120 (((0:Int),(Y,())),((aa .i64 ((aa .i64 (ex-(if((70:Int)<(aa .i64 (ex-ey)))then(70:Int)else(aa .i64 (ex-ey)))))-ey)),()))))).1,(((0:Int),((1:Int),())),()))).1,((aa .i64 (ex-(if((70:Int)<(aa .i64 (ex-ey)))then(70:Int)else(aa .i64 (ex-ey))))),(((!(((f119 ((f120 (((0:Int),(Y,())),((aa .i64 ((aa .i64 (ex-(if((70:Int)<(aa .i64 (ex-ey)))then(70:Int)else(aa .i64 (ex-ey)))))-ey)),()))).1,((aa .i64 ((aa .i64 (ex-(if((70:Int)<(aa .i64 (ex-ey)))then(70:Int)else(aa .i64 (ex-ey)))))-ey)),()))).1.1==(0:Int))&&((f119 ((f120 (((0:Int),(Y,())),((aa .i64 ((aa .i64 (ex-(if((70:Int)<(aa .i64 (ex-ey)))then(70:Int)else(aa .i64 (ex-ey)))))-ey)),()))).1,((aa .i64 ((aa .i64 (ex-(if((70:Int)<(aa .i64 (ex-ey)))then(70:Int)else(aa .i64 (ex-ey)))))-ey)),()))).1.2.1==Y)))||((decide ((aa .i64 ((aa .i64 (ex-(if((70:Int)<(aa .i64 (ex-ey)))then(70:Int)else(aa .i64 (ex-ey)))))-ey))>(63:Int)))&&(Y !=(0:Int)))),()))))))))else none)else none)else bif((((f124 ((f119 (((0:Int),(X,())),((if((70:Int)<(aa .i64 (ex-ey)))then(70:Int)else(aa .i64 (ex-ey))),()))).1,(f120 (((0:Int),(Y,())),((aa .i64 ((aa .i64 (ex-(if((70:Int)<(aa .i64 (ex-ey)))then(70:Int)else(aa .i64 (ex-ey)))))-ey)),()))))).1.1==(0:Int))&&((f124 ((f119 (((0:Int),(X,())),((if((70:Int)<(aa .i64 (ex-ey)))then(70:Int)else(aa .i64 (ex-ey))),()))).1,(f120 (((0:Int),(Y,())),((aa .i64 ((aa .i64 (ex-(if((70:Int)<(aa .i64 (ex-ey)))then(70:Int)else(aa .i64 (ex-ey)))))-ey)),()))))).1.2.1==(0:Int)))&&(!((!(((f119 ((f120 (((0:Int),(Y,())),((aa .i64 ((aa .i64 (ex-(if((70:Int)<(aa .i64 (ex-ey)))then(70:Int)else(aa .i64 (ex-ey)))))-ey)),()))).1,((aa .i64 ((aa .i64 (ex-(if((70:Int)<(aa .i64 (ex-ey)))then(70:Int)else(aa .i64 (ex-ey)))))-ey)),()))).1.1==(0:Int))&&((f119 ((f120 (((0:Int),(Y,())),((aa .i64 ((aa .i64 (ex-(if((70:Int)<(aa .i64 (ex-ey)))then(70:Int)else(aa .i64 (ex-ey)))))-ey)),()))).1,((aa .i64 ((aa .i64 (ex-(if((70:Int)<(aa .i64 (ex-ey)))then(70:Int)else(aa .i64 (ex-ey)))))-ey)),()))).1.2.1==Y)))||((decide ((aa .i64 ((aa .i64 (ex-(if((70:Int)<(aa .i64 (ex-ey)))then(70:Int)else(aa .i64 (ex-ey)))))-ey))>(63:Int)))&&(Y !=(0:Int))))))then(bif(p118 (f,((m==(4:Int)),())))then(some ((f118 (f,((m==(4:Int)),()))).1,((0:Int),((0:Int),()))))else none)else bif(p122 (f,(m,(nx,((f124 ((f119 (((0:Int),(X,())),((if((70:Int)<(aa .i64 (ex-ey)))then(70:Int)else(aa .i64 (ex-ey))),()))).1,(f120 (((0:Int),(Y,())),((aa .i64 ((aa .i64 (ex-(if((70:Int)<(aa .i64 (ex-ey)))then(70:Int)else(aa .i64 (ex-ey)))))-ey)),()))))).1,((aa .i64 (ex-(if((70:Int)<(aa .i64 (ex-ey)))then(70:Int)else(aa .i64 (ex-ey))))),(((!(((f119 ((f120 (((0:Int),(Y,())),((aa .i64 ((aa .i64 (ex-(if((70:Int)<(aa .i64 (ex-ey)))then(70:Int)else(aa .i64 (ex-ey)))))-ey)),()))).1,((aa .i64 ((aa .i64 (ex-(if((70:Int)<(aa .i64 (ex-ey)))then(70:Int)else(aa .i64 (ex-ey)))))-ey)),()))).1.1==(0:Int))&&((f119 ((f120 (((0:Int),(Y,())),((aa .i64 ((aa .i64 (ex-(if((70:Int)<(aa .i64 (ex-ey)))then(70:Int)else(aa .i64 (ex-ey)))))-ey)),()))).1,((aa .i64 ((aa .i64 (ex-(if((70:Int)<(aa .i64 (ex-ey)))then(70:Int)else(aa .i64 (ex-ey)))))-ey)),()))).1.2.1==Y)))||((decide ((aa .i64 ((aa .i64 (ex-(if((70:Int)<(aa .i64 (ex-ey)))then(70:Int)else(aa .i64 (ex-ey)))))-ey))>(63:Int)))&&(Y !=(0:Int)))),())))))))then(some (f122 (f,(m,(nx,((f124 ((f119 (((0:Int),(X,())),((if((70:Int)<(aa .i64 (ex-ey)))then(70:Int)else(aa .i64 (ex-ey))),()))).1,(f120 (((0:Int),(Y,())),((aa .i64 ((aa .i64 (ex-(if((70:Int)<(aa .i64 (ex-ey)))then(70:Int)else(aa .i64 (ex-ey)))))-ey)),()))))).1,((aa .i64 (ex-(if((70:Int)<(aa .i64 (ex-ey)))then(70:Int)else(aa .i64 (ex-ey))))),(((!(((f119 ((f120 (((0:Int),(Y,())),((aa .i64 ((aa .i64 (ex-(if((70:Int)<(aa .i64 (ex-ey)))then(70:Int)else(aa .i64 (ex-ey)))))-ey)),()))).1,((aa .i64 ((aa .i64 (ex-(if((70:Int)<(aa .i64 (ex-ey)))then(70:Int)else(aa .i64 (ex-ey)))))-ey)),()))).1.1==(0:Int))&&((f119 ((f120 (((0:Int),(Y,())),((aa .i64 ((aa .i64 (ex-(if((70:Int)<(aa .i64 (ex-ey)))then(70:Int)else(aa .i64 (ex-ey)))))-ey)),()))).1,((aa .i64 ((aa .i64 (ex-(if((70:Int)<(aa .i64 (ex-ey)))then(70:Int)else(aa .i64 (ex-ey)))))-ey)),()))).1.2.1==Y)))||((decide ((aa .i64 ((aa .i64 (ex-(if((70:Int)<(aa .i64 (ex-ey)))then(70:Int)else(aa .i64 (ex-ey)))))-ey))>(63:Int)))&&(Y !=(0:Int)))),()))))))))else none)else none)else none)else none)else none)else none)else none
def t71(p119:Wh)(f119:Wq)(p120:kK)(f120:mB)(p121:kL)(f121:mC)(p123:Rc)(f123:Rk)(p124:kM)(f124:mD)(p118:Ha)(f118:Hd)(p122:F8)(f122:Gc)(a0 a1:Ab (.int .i64))(a2 a3:Ab (.pair (.bool) (.pair (.int .u64) (.pair (.int .i64) (.unit))))):Option (DenS Iv):=bif(((a2.2.1==(0:Int))&&(a3.2.1==(0:Int)))&&(a2.1==a3.1))then(bif(p118 (a0,a2.1,()))then(some ((f118 (a0,a2.1,())).1,(0:Int),(0:Int),()))else none)else bif((a2.2.1==(0:Int))||((a3.2.1 !=(0:Int))&&(decide (a2.2.2.1<a3.2.2.1))))then(bif(a2.2.1==(0:Int))then(iN p119 f119 p120 f120 p121 f121 p123 f123 p124 f124 p118 f118 p122 f122 a0 a1 a3.1 a3.2.1 a3.2.2.1 a2.1 a2.2.1 a3.2.2.1)else(iN p119 f119 p120 f120 p121 f121 p123 f123 p124 f124 p118 f118 p122 f122 a0 a1 a3.1 a3.2.1 a3.2.2.1 a2.1 a2.2.1 a2.2.2.1))else bif(a3.2.1==(0:Int))then(iN p119 f119 p120 f120 p121 f121 p123 f123 p124 f124 p118 f118 p122 f122 a0 a1 a2.1 a2.2.1 a2.2.2.1 a3.1 a3.2.1 a2.2.2.1)else(iN p119 f119 p120 f120 p121 f121 p123 f123 p124 f124 p118 f118 p122 f122 a0 a1 a2.1 a2.2.1 a2.2.2.1 a3.1 a3.2.1 a3.2.2.1)
theorem r71(x:DenS NJ):run (cf [(208,⟨Gt,Ie,p119,f119⟩),(234,⟨HP,JT,p120,f120⟩),(235,⟨HQ,JU,p121,f121⟩),(236,⟨FF,GB,p123,f123⟩),(237,⟨HR,JV,p124,f124⟩),(64,⟨Ei,ED,p118,f118⟩),(104,⟨Ej,EE,p122,f122⟩)] []) 9 193 Tryz.f193 NJ Iv x=t71 p119 f119 p120 f120 p121 f121 p123 f123 p124 f124 p118 f118 p122 f122 x.1 x.2.1 x.2.2.1 x.2.2.2.1:=by kernel_rfl
def SK(x:DenS NJ):Option (DenS Iv):=t71 AE.pre AE.F AH.pre AH.F KM.pre KM.F DE.pre DE.F Bt.pre Bt.F Bp.pre Bp.F BH.pre BH.F x.1 x.2.1 x.2.2.1 x.2.2.2.1
def P3:Sum:=Ai NJ Iv SK (DenS.dflt Iv)
theorem aM1:Sound Tryz.prog G1 193 P3:=sd (cf [(208,AE),(234,AH),(235,KM),(236,DE),(237,Bt),(64,Bp),(104,BH)] []) 193 Tryz.f193 ⟨vT,aLG,aLH,vU,aLI,Se,Sf,trivial⟩ trivial NJ Iv SK _ (fun _=>r71 ..)
abbrev lV:=Ae NJ
abbrev nN:=Ad NJ Iv
variable (p71:lV)(f71:nN)
end Vx
namespace Vx
open Go Go.Proofs
variable (p69:Bl)(f69:Bm)(p66:BB)(f66:BC)(p91:Ga)(f91:Ge)(p90:Wm)(f90:Ww)(p65:Dk)(f65:Dl)(p70:CZ)(f70:C0)(p98:I1)(f98:I4)(p72:lW)(f72:nO)(p155:CK)(f155:CL)(p157:F9)(f157:Gd)(p118:Ha)(f118:Hd)(p105:SL)(f105:SU)(p173:AT)(f173:AU)(p146:Re)(f146:Rm)(p102:F7)(f102:Gb)(p178:Hc)(f178:Hf)(p151:IZ)(f151:I2)(p156:ZU)(f156:aF)(p1173:P8)(f1173:Qb)(p171:P9)(f171:Qc)(p92:I0)(f92:I3)(p186:Rh)(f186:Rp)(p185:Rg)(f185:Ro)(p176:Rf)(f176:Rn)(p143:Ll)(f143:Lo)(p97:Ln)(f97:Lq)(p107:SM)(f107:SW)(p122:F8)(f122:Gc)(p71:lV)(f71:nN)
abbrev JA:Aa:=[(false,.int .i64),(false,.int .i64),(false,.int .u64),(false,.int .u64)]
abbrev JZ:Aa:=[(false,.int .u64),(false,.int .i64),(false,.int .i64)]
def fS(p69:Bl)(f69:Bm)(p65:Dk)(f65:Dl)(p70:CZ)(f70:C0)(p72:lW)(f72:nO)(p71:lV)(f71:nN)(a0 a1:Ab (.int .i64))(a2 a3:Ab (.int .u64)):Option (DenS JZ):=let e1_:=(a0,a1,(f72 (a0,(f69 (a0,())).1,a2,())).1,(f72 (a0,(f69 (a0,())).1,a3,())));let e2_:=(((f65 (a0,a2,())).1==(2:Int))||((f65 (a0,a2,())).1==(9:Int)));let e3_:=(((f65 (a0,a3,())).1==(2:Int))||((f65 (a0,a3,())).1==(9:Int)));let e4_:=((f70 (a0,())).1,(1:Int),(0:Int),());bif(p69 (a0,()))then(bif((f69 (a0,())).2.1 !=(0:Int))then(some ((0:Int),(0:Int),(f69 (a0,())).2))else bif((decide (a1<(0:Int)))||(decide (a1>(5:Int))))then(some ((0:Int),(0:Int),(3:Int),()))else bif(p65 (a0,a2,()))then(bif((f65 (a0,a2,())).2.1 !=(0:Int))then(some ((0:Int),(0:Int),(f65 (a0,a2,())).2))else bif(p65 (a0,a3,()))then(bif((f65 (a0,a3,())).2.1 !=(0:Int))then(some ((0:Int),(0:Int),(f65 (a0,a3,())).2))else bif(p70 (a0,()))then(bif(((f65 (a0,a2,())).1==(0:Int))||((f65 (a0,a3,())).1==(0:Int)))then(some e4_)else bif(((f65 (a0,a2,())).1==(1:Int))||((f65 (a0,a3,())).1==(1:Int)))then(some ((f70 (a0,())).1,(0:Int),(0:Int),()))else bif((e2_&&e3_)&&((f65 (a0,a2,())).1 !=(f65 (a0,a3,())).1))then(some e4_)else bif e2_ then(some (a2,(0:Int),(0:Int),()))else bif e3_ then(some (a3,(0:Int),(0:Int),()))else bif(p72 (a0,(f69 (a0,())).1,a2,()))then(bif(p72 (a0,(f69 (a0,())).1,a3,()))then(bif(p71 e1_)then(some (f71 e1_))else none)else none)else none)else none)else none)else none)else none
theorem r27(x:DenS JA):run (cf [(71,⟨BE,BF,p69,f69⟩),(59,⟨De,Df,p65,f65⟩),(61,⟨CV,CW,p70,f70⟩),(194,⟨NK,Po,p72,f72⟩),(193,⟨NJ,Iv,p71,f71⟩)] []) 9 158 Tryz.f158 JA JZ x=fS p69 f69 p65 f65 p70 f70 p72 f72 p71 f71 x.1 x.2.1 x.2.2.1 x.2.2.2.1:=by kernel_rfl
def Vm(x:DenS JA):Option (DenS JZ):=fS Al.pre Al.F AS.pre AS.F AO.pre AO.F P4.pre P4.F P3.pre P3.F x.1 x.2.1 x.2.2.1 x.2.2.2.1
def EN:Sum:=Ai JA JZ Vm (DenS.dflt JZ)
theorem jT:Sound Tryz.prog G1 158 EN:=sd (cf [(71,Al),(59,AS),(61,AO),(194,P4),(193,P3)] []) 158 Tryz.f158 ⟨Dj,G8,Ft,aM2,aM1,trivial⟩ trivial JA JZ Vm _ (fun _=>r27 ..)
abbrev ZV:=Ae JA
abbrev aG:=Ad JA JZ
variable (p27:ZV)(f27:aG)
abbrev HN:Aa:=[(false,.int .i64)]
abbrev Ib:Aa:=[(false,.int .u64)]
def aIb(a0:Ab (.int .i64)):Option (DenS Ib):=let e1_:=(aa .i64 ((Vx.k_rows.getD (ah a0) ((0:Int),(0:Int),(0:Int),(0:Int),())).1-(1:Int)));bif((decide ((0:Int)<=a0))&&(decide (a0<((4:Nat):Int))))then(bif(decide ((0:Int)<=e1_))then(some ((A4 .u64 (1:Int) e1_),()))else none)else none
theorem aUJ(x:DenS HN):run (cf [] []) 9 233 Tryz.f233 HN Ib x=aIb x.1:=by kernel_rfl
def UZ(x:DenS HN):Option (DenS Ib):=aIb x.1
def EM:Sum:=Ai HN Ib UZ (DenS.dflt Ib)
theorem jN:Sound Tryz.prog G1 233 EM:=sd (cf [] []) 233 Tryz.f233 trivial trivial HN Ib UZ _ (fun _=>aUJ ..)
abbrev Wg:=Ae HN
abbrev Wp:=Ad HN Ib
variable (p115:Wg)(f115:Wp)
abbrev H4:Aa:=[(false,.int .i64),(false,.int .u64)]
abbrev Iu:Aa:=[(false,.int .u64),(false,.int .i64)]
def iD(p66:BB)(f66:BC)(p115:Wg)(f115:Wp)(a0:Ab (.int .i64))(a1:Ab (.int .u64)):Option (DenS Iu):=bif(p66 (a0,a1,()))then(bif((f66 (a0,a1,())).1 !=(0:Int))then(some ((0:Int),(f66 (a0,a1,()))))else bif(p115 (a0,()))then(some ((iV .u64 a1 (f115 (a0,())).1),(0:Int),()))else none)else none
theorem r64(x:DenS H4):run (cf [(85,⟨BY,BZ,p66,f66⟩),(233,⟨HN,Ib,p115,f115⟩)] []) 9 187 Tryz.f187 H4 Iu x=iD p66 f66 p115 f115 x.1 x.2.1:=by kernel_rfl
def VX(x:DenS H4):Option (DenS Iu):=iD Ao.pre Ao.F EM.pre EM.F x.1 x.2.1
def En:Sum:=Ai H4 Iu VX (DenS.dflt Iu)
theorem Zq:Sound Tryz.prog G1 187 En:=sd (cf [(85,Ao),(233,EM)] []) 187 Tryz.f187 ⟨EP,jN,trivial⟩ trivial H4 Iu VX _ (fun _=>r64 ..)
abbrev SS:=Ae H4
abbrev S4:=Ad H4 Iu
variable (p64:SS)(f64:S4)
abbrev Mp:Aa:=[(false,.int .i64),(false,.int .i64),(false,.int .u64),(false,.int .u64)]
abbrev N8:Aa:=[(false,.int .u64),(false,.int .i64),(false,.int .i64)]
def fR(p66:BB)(f66:BC)(p64:SS)(f64:S4)(p27:ZV)(f27:aG)(a0 a1:Ab (.int .i64))(a2 a3:Ab (.int .u64)):Option (DenS N8):=let e1_:=(a0,a1,a2,(f64 (a0,a3,())).1,());bif(p66 (a0,a3,()))then(bif((f66 (a0,a3,())).1==(0:Int))then(bif(p64 (a0,a3,()))then(bif(p27 e1_)then(some (f27 e1_))else none)else none)else bif(p27 (a0,a1,a2,a3,()))then(some (f27 (a0,a1,a2,a3,())))else none)else none
theorem r25(x:DenS Mp):run (cf [(85,⟨BY,BZ,p66,f66⟩),(187,⟨H4,Iu,p64,f64⟩),(158,⟨JA,JZ,p27,f27⟩)] []) 9 159 Tryz.f159 Mp N8 x=fR p66 f66 p64 f64 p27 f27 x.1 x.2.1 x.2.2.1 x.2.2.2.1:=by kernel_rfl
def Vl(x:DenS Mp):Option (DenS N8):=fR Ao.pre Ao.F En.pre En.F EN.pre EN.F x.1 x.2.1 x.2.2.1 x.2.2.2.1
def KN:Sum:=Ai Mp N8 Vl (DenS.dflt N8)
theorem v5:Sound Tryz.prog G1 159 KN:=sd (cf [(85,Ao),(187,En),(158,EN)] []) 159 Tryz.f159 ⟨EP,Zq,jT,trivial⟩ trivial Mp N8 Vl _ (fun _=>r25 ..)
abbrev kO:=Ae Mp
abbrev mG:=Ad Mp N8
variable (p25:kO)(f25:mG)
abbrev Mz:Aa:=[(false,.int .i64),(true,.pair (.int .i64) (.pair (.int .i64) (.pair (.int .i64) (.pair (.int .i64) (.unit))))),(false,.int .u64)]
abbrev Oi:Aa:=[(true,.pair (.int .i64) (.pair (.bool) (.pair (.int .u64) (.pair (.int .i64) (.unit))))),(false,.int .i64)]
def Ui(p65:Dk)(f65:Dl)(p98:I1)(f98:I4)(a0:Ab (.int .i64))(a1:Ab (.pair (.int .i64) (.pair (.int .i64) (.pair (.int .i64) (.pair (.int .i64) (.unit))))))(a2:Ab (.int .u64)):Option (DenS Oi):=let e1_:=(aa .i64 (a1.2.1-(1:Int)));bif(p65 (a0,a2,()))then(bif((f65 (a0,a2,())).2.1 !=(0:Int))then(some (((0:Int),false,(0:Int),(0:Int),()),(f65 (a0,a2,())).2))else bif(p98 (a0,a2,()))then(bif((f98 (a0,a2,())).2.1==(0:Int))then(some (((f65 (a0,a2,())).1,(f98 (a0,a2,())).1,(f98 (a0,a2,())).2.2.1,(aa .i64 ((aa .i64 ((aa .i64 ((aa .i64 ((aa .i64 (1:Int))-(1:Int)))+a1.2.2.1))-a1.2.1))+(1:Int))),()),(0:Int),()))else bif(decide ((0:Int)<=e1_))then(some (((f65 (a0,a2,())).1,(f98 (a0,a2,())).1,(An .u64 (f98 (a0,a2,())).2.2.1 (A4 .u64 (1:Int) e1_)),(aa .i64 ((aa .i64 ((aa .i64 ((aa .i64 ((aa .i64 (f98 (a0,a2,())).2.1)-(1:Int)))+a1.2.2.1))-a1.2.1))+(1:Int))),()),(0:Int),()))else none)else none)else none
theorem aVK(x:DenS Mz):run (cf [(59,⟨De,Df,p65,f65⟩),(91,⟨Ey,EI,p98,f98⟩)] []) 9 195 Tryz.f195 Mz Oi x=Ui p65 f65 p98 f98 x.1 x.2.1 x.2.2.1:=by kernel_rfl
def Sw(x:DenS Mz):Option (DenS Oi):=Ui AS.pre AS.F BM.pre BM.F x.1 x.2.1 x.2.2.1
def Py:Sum:=Ai Mz Oi Sw (DenS.dflt Oi)
theorem aMa:Sound Tryz.prog G1 195 Py:=sd (cf [(59,AS),(91,BM)] []) 195 Tryz.f195 ⟨G8,QZ,trivial⟩ trivial Mz Oi Sw _ (fun _=>aVK ..)
abbrev aBk:=Ae Mz
abbrev aCP:=Ad Mz Oi
variable (p350:aBk)(f350:aCP)
abbrev MA:Aa:=[(true,.pair (.int .i64) (.pair (.bool) (.pair (.int .u64) (.pair (.int .i64) (.unit)))))]
abbrev Oj:Aa:=[(false,.bool)]
def aIw(a0:Ab (.pair (.int .i64) (.pair (.bool) (.pair (.int .u64) (.pair (.int .i64) (.unit)))))):Option (DenS Oj):=some (((a0.1==(1:Int))||(a0.1==(0:Int))),())
theorem aVL(x:DenS MA):run (cf [] []) 9 196 Tryz.f196 MA Oj x=aIw x.1:=by kernel_rfl
def Vw(x:DenS MA):Option (DenS Oj):=aIw x.1
def Pz:Sum:=Ai MA Oj Vw (DenS.dflt Oj)
theorem aMb:Sound Tryz.prog G1 196 Pz:=sd (cf [] []) 196 Tryz.f196 trivial trivial MA Oj Vw _ (fun _=>aVL ..)
abbrev aBl:=Ae MA
abbrev aCQ:=Ad MA Oj
variable (p351:aBl)(f351:aCQ)
abbrev MB:Aa:=[(true,.pair (.int .i64) (.pair (.bool) (.pair (.int .u64) (.pair (.int .i64) (.unit)))))]
abbrev Ol:Aa:=[(false,.bool)]
def aIx(a0:Ab (.pair (.int .i64) (.pair (.bool) (.pair (.int .u64) (.pair (.int .i64) (.unit)))))):Option (DenS Ol):=some (((a0.1==(2:Int))||(a0.1==(9:Int))),())
theorem aVM(x:DenS MB):run (cf [] []) 9 197 Tryz.f197 MB Ol x=aIx x.1:=by kernel_rfl
def Vy(x:DenS MB):Option (DenS Ol):=aIx x.1
def PA:Sum:=Ai MB Ol Vy (DenS.dflt Ol)
theorem aMc:Sound Tryz.prog G1 197 PA:=sd (cf [] []) 197 Tryz.f197 trivial trivial MB Ol Vy _ (fun _=>aVM ..)
abbrev aBm:=Ae MB
abbrev aCR:=Ad MB Ol
variable (p352:aBm)(f352:aCR)
abbrev MC:Aa:=[(true,.pair (.int .i64) (.pair (.bool) (.pair (.int .u64) (.pair (.int .i64) (.unit)))))]
abbrev Om:Aa:=[(false,.bool)]
def aIy(a0:Ab (.pair (.int .i64) (.pair (.bool) (.pair (.int .u64) (.pair (.int .i64) (.unit)))))):Option (DenS Om):=some (((a0.1==(5:Int))||(a0.1==(6:Int))),())
theorem aVN(x:DenS MC):run (cf [] []) 9 198 Tryz.f198 MC Om x=aIy x.1:=by kernel_rfl
def Vz(x:DenS MC):Option (DenS Om):=aIy x.1
def PD:Sum:=Ai MC Om Vz (DenS.dflt Om)
theorem aMd:Sound Tryz.prog G1 198 PD:=sd (cf [] []) 198 Tryz.f198 trivial trivial MC Om Vz _ (fun _=>aVN ..)
abbrev aBn:=Ae MC
abbrev aCS:=Ad MC Om
variable (p353:aBn)(f353:aCS)
abbrev DU:Aa:=[(false,.int .u64),(false,.int .u64)]
abbrev DY:Aa:=[(false,.int .u64),(false,.int .u64)]
def fU(a0 a1:Ab (.int .u64)):Option (DenS DY):=let e2_:=(Bs .u64 a1 (4294967295:Int));let e3_:=(Bs .u64 a0 (4294967295:Int));let e1_:=(aa .u64 ((aa .u64 ((AJ .u64 a0 (32:Int))*e2_))+(AJ .u64 (aa .u64 (e3_*e2_)) (32:Int))));some ((aa .u64 ((aa .u64 ((aa .u64 ((AJ .u64 a0 (32:Int))*(AJ .u64 a1 (32:Int))))+(AJ .u64 e1_ (32:Int))))+(AJ .u64 (aa .u64 ((Bs .u64 e1_ (4294967295:Int))+(aa .u64 (e3_*(AJ .u64 a1 (32:Int)))))) (32:Int)))),(aa .u64 (a0*a1)),())
theorem aVw(x:DenS DU):run (cf [] []) 9 120 Tryz.f120 DU DY x=fU x.1 x.2.1:=by kernel_rfl
def Vn(x:DenS DU):Option (DenS DY):=fU x.1 x.2.1
def AN:Sum:=Ai DU DY Vn (DenS.dflt DY)
theorem YU:Sound Tryz.prog G1 120 AN:=sd (cf [] []) 120 Tryz.f120 trivial trivial DU DY Vn _ (fun _=>aVw ..)
abbrev D7:=Ae DU
abbrev D9:=Ad DU DY
variable (p315:D7)(f315:D9)
abbrev HX:Aa:=[(false,.int .u64),(false,.int .u64)]
abbrev Ik:Aa:=[(true,.pair (.int .u64) (.pair (.int .u64) (.unit)))]
def fV(p315:D7)(f315:D9)(a0 a1:Ab (.int .u64)):Option (DenS Ik):=bif(p315 (a0,a1,()))then(some ((f315 (a0,a1,())),()))else none
theorem aVx(x:DenS HX):run (cf [(120,⟨DU,DY,p315,f315⟩)] []) 9 199 Tryz.f199 HX Ik x=fV p315 f315 x.1 x.2.1:=by kernel_rfl
def Vo(x:DenS HX):Option (DenS Ik):=fV AN.pre AN.F x.1 x.2.1
def DF:Sum:=Ai HX Ik Vo (DenS.dflt Ik)
theorem v8:Sound Tryz.prog G1 199 DF:=sd (cf [(120,AN)] []) 199 Tryz.f199 ⟨YU,trivial⟩ trivial HX Ik Vo _ (fun _=>aVx ..)
abbrev SP:=Ae HX
abbrev SZ:=Ad HX Ik
variable (p316:SP)(f316:SZ)
abbrev MD:Aa:=[(false,.int .i64),(false,.int .i64),(false,.int .u64),(false,.int .u64)]
abbrev On:Aa:=[(false,.int .u64),(false,.int .i64),(false,.int .i64)]
def gD(p69:Bl)(f69:Bm)(p350:aBk)(f350:aCP)(p351:aBl)(f351:aCQ)(p70:CZ)(f70:C0)(p352:aBm)(f352:aCR)(p97:Ln)(f97:Lq)(p353:aBn)(f353:aCS)(p118:Ha)(f118:Hd)(p316:SP)(f316:SZ)(p122:F8)(f122:Gc)(a0 a1:Ab (.int .i64))(a2 a3:Ab (.int .u64)):Option (DenS On):=let e18_:=(!((f350 (a0,(f69 (a0,())).1,a2,())).1.2.1==(f350 (a0,(f69 (a0,())).1,a3,())).1.2.1));let e17_:=((f350 (a0,(f69 (a0,())).1,a2,())).1.2.2.1,(f350 (a0,(f69 (a0,())).1,a3,())).1.2.2.1,());let e1_:=(a0,a1,e18_,(f316 e17_).1,(aa .i64 ((f350 (a0,(f69 (a0,())).1,a2,())).1.2.2.2.1+(f350 (a0,(f69 (a0,())).1,a3,())).1.2.2.2.1)),false,());let e20_:=((f350 (a0,(f69 (a0,())).1,a2,())).1,());let e19_:=(f352 e20_);let e21_:=((f350 (a0,(f69 (a0,())).1,a3,())).1,());let e2_:=(e19_.1&&(f353 e21_).1);let e16_:=(a0,e18_,());let e3_:=(f118 e16_);let e4_:=(f97 e16_);let e5_:=e16_;let e6_:=(f353 e20_);let e7_:=e19_;let e8_:=(f351 e20_);let e9_:=(p352 e20_);let e10_:=(p353 e21_);let e11_:=(p353 e20_);let e12_:=(p352 e21_);let e13_:=(f352 e21_);let e14_:=e21_;let e15_:=((f70 (a0,())).1,(1:Int),(f70 (a0,())).2);bif(p69 (a0,()))then(bif((f69 (a0,())).2.1 !=(0:Int))then(some ((0:Int),(0:Int),(f69 (a0,())).2))else bif((decide (a1<(0:Int)))||(decide (a1>(5:Int))))then(some ((0:Int),(0:Int),(3:Int),()))else bif(p350 (a0,(f69 (a0,())).1,a2,()))then(bif((f350 (a0,(f69 (a0,())).1,a2,())).2.1 !=(0:Int))then(some ((0:Int),(0:Int),(f350 (a0,(f69 (a0,())).1,a2,())).2))else bif(p350 (a0,(f69 (a0,())).1,a3,()))then(bif((f350 (a0,(f69 (a0,())).1,a3,())).2.1 !=(0:Int))then(some ((0:Int),(0:Int),(f350 (a0,(f69 (a0,())).1,a3,())).2))else bif(p351 e20_)then(bif((p351 e14_)||(!(bif e8_.1 then false else true)))then(bif(e8_.1||(f351 e14_).1)then(bif(((f350 (a0,(f69 (a0,())).1,a2,())).1.1==(0:Int))||((f350 (a0,(f69 (a0,())).1,a3,())).1.1==(0:Int)))then(bif(p70 (a0,()))then(some e15_)else none)else bif(p70 (a0,()))then(some ((f70 (a0,())).1,(0:Int),(f70 (a0,())).2))else none)else bif e9_ then(bif(e10_||(!e7_.1))then(bif(e11_||(!(bif e2_ then false else true)))then(bif(e12_||(!((bif e2_ then false else true)&&e6_.1)))then(bif(e2_||(e6_.1&&e13_.1))then(bif(p70 (a0,()))then(some e15_)else none)else bif e9_ then(bif(e12_||(!(bif e7_.1 then false else true)))then(bif(e7_.1||e13_.1)then(bif(p97 e5_)then(some (e4_.1,(0:Int),e4_.2))else none)else bif e11_ then(bif(e10_||(!(bif e6_.1 then false else true)))then(bif(e6_.1||(f353 e14_).1)then(bif(p118 e5_)then(some (e3_.1,(0:Int),e3_.2))else none)else bif(p316 e17_)then(bif(p122 e1_)then(some (f122 e1_))else none)else none)else none)else none)else none)else none)else none)else none)else none)else none)else none)else none)else none)else none)else none
theorem aVO(x:DenS MD):run (cf [(71,⟨BE,BF,p69,f69⟩),(195,⟨Mz,Oi,p350,f350⟩),(196,⟨MA,Oj,p351,f351⟩),(61,⟨CV,CW,p70,f70⟩),(197,⟨MB,Ol,p352,f352⟩),(62,⟨FL,FW,p97,f97⟩),(198,⟨MC,Om,p353,f353⟩),(64,⟨Ei,ED,p118,f118⟩),(199,⟨HX,Ik,p316,f316⟩),(104,⟨Ej,EE,p122,f122⟩)] []) 9 160 Tryz.f160 MD On x=gD p69 f69 p350 f350 p351 f351 p70 f70 p352 f352 p97 f97 p353 f353 p118 f118 p316 f316 p122 f122 x.1 x.2.1 x.2.2.1 x.2.2.2.1:=by kernel_rfl
def VA(x:DenS MD):Option (DenS On):=gD Al.pre Al.F Py.pre Py.F Pz.pre Pz.F AO.pre AO.F PA.pre PA.F Cv.pre Cv.F PD.pre PD.F Bp.pre Bp.F DF.pre DF.F BH.pre BH.F x.1 x.2.1 x.2.2.1 x.2.2.2.1
def KO:Sum:=Ai MD On VA (DenS.dflt On)
theorem wC:Sound Tryz.prog G1 160 KO:=sd (cf [(71,Al),(195,Py),(196,Pz),(61,AO),(197,PA),(62,Cv),(198,PD),(64,Bp),(199,DF),(104,BH)] []) 160 Tryz.f160 ⟨Dj,aMa,aMb,Ft,aMc,UW,aMd,Se,v8,Sf,trivial⟩ trivial MD On VA _ (fun _=>aVO ..)
abbrev kU:=Ae MD
abbrev mM:=Ad MD On
variable (p354:kU)(f354:mM)
abbrev MF:Aa:=[(false,.int .i64),(false,.int .i64),(false,.slice (.int .u64))]
abbrev Oq:Aa:=[(false,.int .i64)]
abbrev GY:Pat:=⟨39,[(27,.one (.v .i64)),(26,.one (.sl (.int .u64))),(0,.one (.v .i64)),(28,.one (.v .i64))],[]⟩
abbrev Yl:List (Nat×Shape):=[]
abbrev Le:List (Nat×Pat):=[(0,⟨39,[],[]⟩)]
abbrev KF:Option Pat:=(some ⟨39,[(6,.one (.v .i64))],[]⟩)
variable (w376_7:Pat.D GY->Option (Ag Le KF))
def TJ(p69:Bl)(f69:Bm)(p66:BB)(f66:BC){R:Type}(L:Pat.D GY->Option R)(e:Ag Le KF->Option R)(x:Pat.D GY):Option R:=let e2_:=(x.1.2.2.1,(x.1.2.1.getD (ah x.1.2.2.2.1) (0:Int)),());let e1_:=(f66 e2_);bif(decide (x.1.2.2.2.1<x.1.1))then(bif((decide ((0:Int)<=x.1.2.2.2.1))&&(decide (x.1.2.2.2.1<(x.1.2.1.length:Int))))then(bif(p66 e2_)then(bif(e1_.1 !=(0:Int))then(((e (.inr (e1_,())))))else(L ((x.1.1,x.1.2.1,x.1.2.2.1,(aa .i64 (x.1.2.2.2.1+(1:Int))),()),())))else none)else none)else(e (.inl ((),())))
theorem aYg(d:Nat)(R:Type)(L:Pat.D GY->Option R)(e:Ag Le KF->Option R)(x:Pat.D GY):
  Bn (cf [(71,⟨BE,BF,p69,f69⟩),(85,⟨BY,BZ,p66,f66⟩)] [(200,7,LoopSpec.of GY Yl Le KF w376_7)]) (d+2) 200 (Bj Tryz.f200 7) GY Yl Le KF (R:=R) L e x=TJ p69 f69 p66 f66 L e x:=by kernel_rfl
theorem aGt(p69:Bl)(f69:Bm)(p66:BB)(f66:BC):Bf fun L e x=>TJ p69 f69 p66 f66 L e x:=by intro _ _ _ _ _ _ _ h0 hL he _;unfold TJ;repeat' (first|exact h0|exact hL _|exact he _|apply By|(apply Bz h0;intro _)|(apply BA<;>intro _))
def gE(p69:Bl)(f69:Bm)(p66:BB)(f66:BC)(w376_7:Pat.D GY->Option (Ag Le KF))(a0 a1:Ab (.int .i64))(a2:Ab (.slice (.int .u64))):Option (DenS Oq):=
 bif(p69 (a0,()))then(bif((f69 (a0,())).2.1 !=(0:Int))then(some (f69 (a0,())).2)
 else bif((decide (a1<(0:Int)))||(decide (a1>(5:Int))))then(some ((3:Int),()))
 else Vx.A3 (w376_7 (((a2.length:Int),a2,a0,(0:Int),()),())) fun y3=>
 Vx.A1 y3 (fun y4=>
 some ((0:Int),())) (fun z4=>
 some z4.1))
 else none
theorem aVQ(x:DenS MF):run (cf [(71,⟨BE,BF,p69,f69⟩),(85,⟨BY,BZ,p66,f66⟩)] [(200,7,LoopSpec.of GY Yl Le KF w376_7)]) 9 200 Tryz.f200 MF Oq x=gE p69 f69 p66 f66 w376_7 x.1 x.2.1 x.2.2.1:=by kernel_rfl
def ZM:GY.D->Option (Ag Le KF):=A6 fun L=>TJ Al.pre Al.F Ao.pre Ao.F L some
def Sx(x:DenS MF):Option (DenS Oq):=gE Al.pre Al.F Ao.pre Ao.F ZM x.1 x.2.1 x.2.2.1
def PE:Sum:=Ai MF Oq Sx (DenS.dflt Oq)
theorem aMf:Sound Tryz.prog G1 200 PE:=sd (cf [(71,Al),(85,Ao)] [(200,7,LoopSpec.of GY Yl Le KF ZM)]) 200 Tryz.f200 ⟨Dj,EP,trivial⟩ ⟨rfl,fun d=>Bw (fun L e x=>TJ Al.pre Al.F Ao.pre Ao.F L e x) (aGt Al.pre Al.F Ao.pre Ao.F) (fun _ _ _ _=>aYg ..),trivial⟩ MF Oq Sx _ (fun _=>aVQ ..)
abbrev aBp:=Ae MF
abbrev aCU:=Ad MF Oq
variable (p376:aBp)(f376:aCU)
abbrev MG:Aa:=[(false,.int .i64),(false,.int .u64)]
abbrev Ot:Aa:=[(true,.pair (.bool) (.pair (.bool) (.pair (.bool) (.pair (.bool) (.pair (.bool) (.unit))))))]
def gF(p65:Dk)(f65:Dl)(p98:I1)(f98:I4)(a0:Ab (.int .i64))(a1:Ab (.int .u64)):Option (DenS Ot):=bif(p65 (a0,a1,()))then(bif(p98 (a0,a1,()))then(some (((((f65 (a0,a1,())).1==(1:Int))||((f65 (a0,a1,())).1==(0:Int))),((f65 (a0,a1,())).1==(0:Int)),(((f65 (a0,a1,())).1==(9:Int))||((f65 (a0,a1,())).1==(2:Int))),(((f65 (a0,a1,())).1==(6:Int))||((f65 (a0,a1,())).1==(5:Int))),(f98 (a0,a1,())).1,()),()))else none)else none
theorem aVR(x:DenS MG):run (cf [(59,⟨De,Df,p65,f65⟩),(91,⟨Ey,EI,p98,f98⟩)] []) 9 201 Tryz.f201 MG Ot x=gF p65 f65 p98 f98 x.1 x.2.1:=by kernel_rfl
def VB(x:DenS MG):Option (DenS Ot):=gF AS.pre AS.F BM.pre BM.F x.1 x.2.1
def PF:Sum:=Ai MG Ot VB (DenS.dflt Ot)
theorem aMg:Sound Tryz.prog G1 201 PF:=sd (cf [(59,AS),(91,BM)] []) 201 Tryz.f201 ⟨G8,QZ,trivial⟩ trivial MG Ot VB _ (fun _=>aVR ..)
abbrev aBq:=Ae MG
abbrev aCV:=Ad MG Ot
variable (p377:aBq)(f377:aCV)
abbrev MH:Aa:=[(false,.int .i64),(false,.int .i64)]
abbrev Ou:Aa:=[(false,.int .u64),(false,.int .i64),(false,.int .i64)]
def gG(p70:CZ)(f70:C0)(a0 a1:Ab (.int .i64)):Option (DenS Ou):=bif(p70 (a0,()))then(some ((f70 (a0,())).1,a1,(f70 (a0,())).2))else none
theorem aVS(x:DenS MH):run (cf [(61,⟨CV,CW,p70,f70⟩)] []) 9 202 Tryz.f202 MH Ou x=gG p70 f70 x.1 x.2.1:=by kernel_rfl
def VC(x:DenS MH):Option (DenS Ou):=gG AO.pre AO.F x.1 x.2.1
def PG:Sum:=Ai MH Ou VC (DenS.dflt Ou)
theorem aMh:Sound Tryz.prog G1 202 PG:=sd (cf [(61,AO)] []) 202 Tryz.f202 ⟨Ft,trivial⟩ trivial MH Ou VC _ (fun _=>aVS ..)
abbrev aBr:=Ae MH
abbrev aCW:=Ad MH Ou
variable (p378:aBr)(f378:aCW)
abbrev FH:Aa:=[(false,.int .i64),(false,.int .u64)]
abbrev FS:Aa:=[(true,.pair (.bool) (.pair (.slice (.int .u64)) (.pair (.int .i64) (.unit)))),(false,.int .i64)]
def gL(p66:BB)(f66:BC)(p90:Wm)(f90:Ww)(p91:Ga)(f91:Ge)(p92:I0)(f92:I3)(a0:Ab (.int .i64))(a1:Ab (.int .u64)):Option (DenS FS):=let e10_:=(Vx.k_rows.getD (ah a0) ((0:Int),(0:Int),(0:Int),(0:Int),()));let e9_:=(f90 (e10_,a1,()));let e8_:=(An .u64 e9_.2.2.1 (A4 .u64 (1:Int) (aa .i64 (e10_.2.1-(1:Int)))));let e1_:=(f92 (e8_,()));let e2_:=e8_;let e3_:=((aa .i64 (e10_.1-e10_.2.1)),());let e4_:=(f92 e9_.2.2);let e5_:=e9_;let e6_:=e10_;let e7_:=((false,[],(0:Int),()),(0:Int),());bif(p66 (a0,a1,()))then(bif((f66 (a0,a1,())).1 !=(0:Int))then(some ((false,[],(0:Int),()),(f66 (a0,a1,()))))else bif(bif(decide ((0:Int)<=a0))then(decide (a0<((4:Nat):Int)))else false)then(bif(p90 (e6_,a1,()))then(bif(p91 e3_)then(bif(e5_.2.1==(f91 e3_).1)then(some ((false,[],(0:Int),()),(40:Int),()))else bif(e5_.2.1==(0:Int))then(bif(e5_.2.2.1==(0:Int))then(some e7_)else bif(p92 e5_.2.2)then(bif(decide ((0:Int)<=e4_.1))then(some ((e5_.1,((AJ .u64 e5_.2.2.1 e4_.1)::[]),(aa .i64 ((aa .i64 ((aa .i64 ((aa .i64 ((aa .i64 ((aa .i64 (1:Int))-(1:Int)))+e6_.2.2.1))-e6_.2.1))+(1:Int)))+e4_.1)),()),(0:Int),()))else none)else none)else bif(decide ((0:Int)<=(aa .i64 (e6_.2.1-(1:Int)))))then(bif(e2_==(0:Int))then(some e7_)else bif(p92 (e2_,()))then(bif(decide ((0:Int)<=e1_.1))then(some ((e5_.1,((AJ .u64 e2_ e1_.1)::[]),(aa .i64 ((aa .i64 ((aa .i64 ((aa .i64 ((aa .i64 ((aa .i64 e5_.2.1)-(1:Int)))+e6_.2.2.1))-e6_.2.1))+(1:Int)))+e1_.1)),()),(0:Int),()))else none)else none)else none)else none)else none)else none)else none
theorem r40(x:DenS FH):run (cf [(85,⟨BY,BZ,p66,f66⟩),(87,⟨H6,Ix,p90,f90⟩),(72,⟨DW,D0,p91,f91⟩),(191,⟨FK,FV,p92,f92⟩)] []) 9 203 Tryz.f203 FH FS x=gL p66 f66 p90 f90 p91 f91 p92 f92 x.1 x.2.1:=by kernel_rfl
def VH(x:DenS FH):Option (DenS FS):=gL Ao.pre Ao.F C9.pre C9.F Bk.pre Bk.F BW.pre BW.F x.1 x.2.1
def C8:Sum:=Ai FH FS VH (DenS.dflt FS)
theorem UL:Sound Tryz.prog G1 203 C8:=sd (cf [(85,Ao),(87,C9),(72,Bk),(191,BW)] []) 203 Tryz.f203 ⟨EP,j5,KR,j6,trivial⟩ trivial FH FS VH _ (fun _=>r40 ..)
abbrev Qa:=Ae FH
abbrev Qd:=Ad FH FS
variable (p40:Qa)(f40:Qd)
abbrev HM:Aa:=[(false,.slice (.int .u64))]
abbrev Ia:Aa:=[(true,.slice (.int .u64))]
def eH(p173:AT)(f173:AU)(a0:Ab (.slice (.int .u64))):Option (DenS Ia):=let e1_:=(ap (ah ((f173 (a0,())).1.length:Int)) (0:Int));bif(p173 (a0,()))then(bif((decide ((0:Int)<=((f173 (a0,())).1.length:Int)))&&(decide ((((f173 (a0,())).1.length:Int)*(8:Int))<=(140737488355328:Int))))then(some ((((f173 (a0,())).1.take e1_.length)++(e1_.drop (f173 (a0,())).1.length)),()))else none)else none
theorem aUI(x:DenS HM):run ({cf [(93,⟨Bg,Bh,p173,f173⟩)] []with keep:=true}) 9 116 Tryz.f116 HM Ia x=eH p173 f173 x.1:=by kernel_rfl
def Q1(x:DenS HM):Option (DenS Ia):=eH Ah.pre Ah.F x.1
def CX:Sum:=Ai HM Ia Q1 (DenS.dflt Ia)
theorem vR:Sound Tryz.prog G1 116 CX:=sd ({cf [(93,Ah)] []with keep:=true}) 116 Tryz.f116 ⟨Dy,trivial⟩ trivial HM Ia Q1 _ (fun _=>aUI ..)
abbrev Wf:=Ae HM
abbrev Wo:=Ad HM Ia
variable (p1146:Wf)(f1146:Wo)
abbrev FG:Aa:=[(false,.int .u64)]
abbrev FR:Aa:=[(false,.int .i64)]
def fY(p178:Hc)(f178:Hf)(a0:Ab (.int .u64)):Option (DenS FR):=bif(p178 (a0,()))then(some ((aa .i64 ((64:Int)-(f178 (a0,())).1)),()))else none
theorem aVC(x:DenS FG):run (cf [(115,⟨E3,EG,p178,f178⟩)] []) 9 118 Tryz.f118 FG FR x=fY p178 f178 x.1:=by kernel_rfl
def Vp(x:DenS FG):Option (DenS FR):=fY B4.pre B4.F x.1
def Br:Sum:=Ai FG FR Vp (DenS.dflt FR)
theorem v9:Sound Tryz.prog G1 118 Br:=sd (cf [(115,B4)] []) 118 Tryz.f118 ⟨UD,trivial⟩ trivial FG FR Vp _ (fun _=>aVC ..)
abbrev Lm:=Ae FG
abbrev Lp:=Ad FG FR
variable (p327:Lm)(f327:Lp)
abbrev DV:Aa:=[(false,.int .u64),(false,.int .u64),(false,.int .u64)]
abbrev DZ:Aa:=[(false,.int .u64),(false,.int .u64)]
abbrev FZ:Pat:=⟨135,[(16,.one (.v .u64)),(11,.one (.v .u64)),(13,.one (.v .u64)),(10,.one (.v .u64)),(9,.one (.v .u64)),(15,.one (.v .u64)),(14,.one (.v .u64)),(2,.one (.v .u64)),(8,.one (.v .u64))],[]⟩
abbrev Us:List (Nat×Shape):=[]
abbrev IT:List (Nat×Pat):=[(0,⟨135,[(11,.one (.v .u64)),(13,.one (.v .u64)),(10,.one (.v .u64)),(9,.one (.v .u64)),(15,.one (.v .u64)),(14,.one (.v .u64)),(2,.one (.v .u64)),(8,.one (.v .u64))],[]⟩)]
abbrev Iz:Option Pat:=none
abbrev F0:Pat:=⟨135,[(10,.one (.v .u64)),(16,.one (.v .u64)),(9,.one (.v .u64)),(15,.one (.v .u64)),(17,.one (.v .u64)),(14,.one (.v .u64)),(18,.one (.v .u64)),(2,.one (.v .u64)),(8,.one (.v .u64))],[]⟩
abbrev Ut:List (Nat×Shape):=[]
abbrev IU:List (Nat×Pat):=[(2,⟨135,[(15,.one (.v .u64)),(17,.one (.v .u64)),(14,.one (.v .u64)),(18,.one (.v .u64)),(2,.one (.v .u64)),(8,.one (.v .u64))],[]⟩)]
abbrev IA:Option Pat:=none
variable (w328_17:Pat.D FZ->Option (Ag IT Iz))(w328_24:Pat.D F0->Option (Ag IU IA))
def TD(p327:Lm)(f327:Lp){R:Type}(L:Pat.D F0->Option R)(e:Ag IU IA->Option R)(x:Pat.D F0):Option R:=let e1_:=(x.1.2.2.2.1,x.1.2.2.2.2.1,x.1.2.2.2.2.2.1,(aa .u64 (x.1.2.2.2.2.2.2.1-(1:Int))),x.1.2.2.2.2.2.2.2);let e2_:=(aa .u64 (x.1.2.1+x.1.2.2.1));bif((decide (x.1.2.2.2.2.2.2.1>=(4294967296:Int)))||(decide ((aa .u64 (x.1.2.2.2.2.2.2.1*x.1.1))>(aa .u64 ((aa .u64 ((4294967296:Int)*x.1.2.1))+x.1.2.2.2.2.2.1)))))then(bif(decide (e2_>=(4294967296:Int)))then(((e (.inl (e1_,())))))else(L ((x.1.1,e2_,x.1.2.2.1,e1_),())))else(e (.inl (x.1.2.2.2,())))
theorem aX9(d:Nat)(R:Type)(L:Pat.D F0->Option R)(e:Ag IU IA->Option R)(x:Pat.D F0):
  Bn (cf [(118,⟨FG,FR,p327,f327⟩)] [(136,17,LoopSpec.of FZ Us IT Iz w328_17),(136,24,LoopSpec.of F0 Ut IU IA w328_24)]) (d+2) 136 (Bj Tryz.f136 24) F0 Ut IU IA (R:=R) L e x=TD p327 f327 L e x:=by kernel_rfl
theorem aGn(p327:Lm)(f327:Lp):Bf fun L e x=>TD p327 f327 L e x:=by intro _ _ _ _ _ _ _ h0 hL he _;unfold TD;repeat' (first|exact h0|exact hL _|exact he _|apply By|(apply Bz h0;intro _)|(apply BA<;>intro _))
def TC(p327:Lm)(f327:Lp){R:Type}(L:Pat.D FZ->Option R)(e:Ag IT Iz->Option R)(x:Pat.D FZ):Option R:=let e1_:=(x.1.2.1,x.1.2.2.1,x.1.2.2.2.1,x.1.2.2.2.2.1,(aa .u64 (x.1.2.2.2.2.2.1-(1:Int))),x.1.2.2.2.2.2.2);let e2_:=(aa .u64 (x.1.1+x.1.2.2.2.2.1));bif((decide (x.1.2.2.2.2.2.1>=(4294967296:Int)))||(decide ((aa .u64 (x.1.2.2.2.2.2.1*x.1.2.2.2.1))>(aa .u64 ((aa .u64 ((4294967296:Int)*x.1.1))+x.1.2.2.1)))))then(bif(decide (e2_>=(4294967296:Int)))then(((e (.inl (e1_,())))))else(L ((e2_,e1_),())))else(e (.inl (x.1.2,())))
theorem aX8(d:Nat)(R:Type)(L:Pat.D FZ->Option R)(e:Ag IT Iz->Option R)(x:Pat.D FZ):
  Bn (cf [(118,⟨FG,FR,p327,f327⟩)] [(136,17,LoopSpec.of FZ Us IT Iz w328_17),(136,24,LoopSpec.of F0 Ut IU IA w328_24)]) (d+2) 136 (Bj Tryz.f136 17) FZ Us IT Iz (R:=R) L e x=TC p327 f327 L e x:=by kernel_rfl
theorem aGm(p327:Lm)(f327:Lp):Bf fun L e x=>TC p327 f327 L e x:=by intro _ _ _ _ _ _ _ h0 hL he _;unfold TC;repeat' (first|exact h0|exact hL _|exact he _|apply By|(apply Bz h0;intro _)|(apply BA<;>intro _))
def fZ(p327:Lm)(f327:Lp)(w328_17:Pat.D FZ->Option (Ag IT Iz))(w328_24:Pat.D F0->Option (Ag IU IA))(a0 a1 a2:Ab (.int .u64)):Option (DenS DZ):=
 let e9_:=(aa .u64 (f327 (a2,())).1)
 let e6_:=(An .u64 (A4 .u64 a0 e9_) (AJ .u64 a1 (aa .u64 ((64:Int)-e9_))))
 let e8_:=(A4 .u64 a2 e9_)
 let e7_:=(AJ .u64 e8_ (32:Int))
 let e1_:=(BQ .u64 e6_ e7_)
 let e2_:=e6_
 let e3_:=e7_
 let e4_:=(A4 .u64 a1 e9_)
 let e5_:=e8_
 bif(a2==(0:Int))then((none))
 else bif(decide (a2<=a0))then((none))
 else bif(a0==(0:Int))then(bif(a2 !=(0:Int))then(bif(a2 !=(0:Int))then(some ((BQ .u64 a1 a2),(ks a1 a2),()))
 else none)
 else none)
 else bif(p327 (a2,()))then(bif(e3_ !=(0:Int))then(Vx.A3 (w328_17 (((aa .u64 (e2_-(aa .u64 (e1_*e3_)))),e2_,(AJ .u64 e4_ (32:Int)),(Bs .u64 e5_ (4294967295:Int)),e3_,e1_,(Bs .u64 e4_ (4294967295:Int)),e5_,e9_,()),())) fun y5=>
 Vx.A1 y5 (fun y6=>
 bif(y6.1.2.2.2.1 !=(0:Int))then(Vx.A3 (w328_24 ((y6.1.2.2.1,(aa .u64 ((aa .u64 ((aa .u64 ((aa .u64 (y6.1.1*(4294967296:Int)))+y6.1.2.1))-(aa .u64 (y6.1.2.2.2.2.1*y6.1.2.2.2.2.2.2.1))))-(aa .u64 ((BQ .u64 (aa .u64 ((aa .u64 ((aa .u64 (y6.1.1*(4294967296:Int)))+y6.1.2.1))-(aa .u64 (y6.1.2.2.2.2.1*y6.1.2.2.2.2.2.2.1)))) y6.1.2.2.2.1)*y6.1.2.2.2.1)))),y6.1.2.2.2.1,y6.1.2.2.2.2.1,(aa .u64 ((aa .u64 ((aa .u64 (y6.1.1*(4294967296:Int)))+y6.1.2.1))-(aa .u64 (y6.1.2.2.2.2.1*y6.1.2.2.2.2.2.2.1)))),y6.1.2.2.2.2.2.1,(BQ .u64 (aa .u64 ((aa .u64 ((aa .u64 (y6.1.1*(4294967296:Int)))+y6.1.2.1))-(aa .u64 (y6.1.2.2.2.2.1*y6.1.2.2.2.2.2.2.1)))) y6.1.2.2.2.1),y6.1.2.2.2.2.2.2),())) fun y8=>
 Vx.A1 y8 (fun y9=>
 some ((aa .u64 ((aa .u64 (y9.1.1*(4294967296:Int)))+y9.1.2.2.2.1)),(AJ .u64 (aa .u64 ((aa .u64 ((aa .u64 (y9.1.2.1*(4294967296:Int)))+y9.1.2.2.1))-(aa .u64 (y9.1.2.2.2.1*y9.1.2.2.2.2.1)))) y9.1.2.2.2.2.2.1),())) (fun z9=>
 none))
 else none) (fun z6=>
 none))
 else none)
 else none
theorem aVD(x:DenS DV):run (cf [(118,⟨FG,FR,p327,f327⟩)] [(136,17,LoopSpec.of FZ Us IT Iz w328_17),(136,24,LoopSpec.of F0 Ut IU IA w328_24)]) 9 136 Tryz.f136 DV DZ x=fZ p327 f327 w328_17 w328_24 x.1 x.2.1 x.2.2.1:=by kernel_rfl
def ZI:F0.D->Option (Ag IU IA):=A6 fun L=>TD Br.pre Br.F L some
def ZH:FZ.D->Option (Ag IT Iz):=A6 fun L=>TC Br.pre Br.F L some
def Vq(x:DenS DV):Option (DenS DZ):=fZ Br.pre Br.F ZH ZI x.1 x.2.1 x.2.2.1
def AP:Sum:=Ai DV DZ Vq (DenS.dflt DZ)
theorem YZ:Sound Tryz.prog G1 136 AP:=sd (cf [(118,Br)] [(136,17,LoopSpec.of FZ Us IT Iz ZH),(136,24,LoopSpec.of F0 Ut IU IA ZI)]) 136 Tryz.f136 ⟨v9,trivial⟩ ⟨rfl,fun d=>Bw (fun L e x=>TC Br.pre Br.F L e x) (aGm Br.pre Br.F) (fun _ _ _ _=>aX8 ..),⟨rfl,fun d=>Bw (fun L e x=>TD Br.pre Br.F L e x) (aGn Br.pre Br.F) (fun _ _ _ _=>aX9 ..),trivial⟩⟩ DV DZ Vq _ (fun _=>aVD ..)
abbrev D8:=Ae DV
abbrev Ea:=Ad DV DZ
variable (p328:D8)(f328:Ea)
abbrev Jw:Aa:=[(true,.slice (.int .u64)),(false,.int .u64)]
abbrev JW:Aa:=[(false,.slice (.int .u64)),(false,.int .u64)]
abbrev Fb:Pat:=⟨31,[(1,.one (.v .u64)),(7,.one (.v .i64)),(0,.one (.own 0)),(6,.one (.v .u64))],[.arr (.int .u64)]⟩
abbrev X5:List (Nat×Shape):=[]
abbrev KY:List (Nat×Pat):=[(0,⟨31,[(0,.one (.own 0)),(6,.one (.v .u64))],[.arr (.int .u64)]⟩)]
abbrev Kp:Option Pat:=none
variable (w1329_3:Pat.D Fb->Option (Ag KY Kp))
def Tu(p328:D8)(f328:Ea)(p173:AT)(f173:AU){R:Type}(L:Pat.D Fb->Option R)(e:Ag KY Kp->Option R)(x:Pat.D Fb):Option R:=let e3_:=(x.1.2.2.2.1,(x.2.1.getD (ah x.1.2.1) (0:Int)),x.1.1,());let e1_:=(f328 e3_);let e2_:=((decide ((0:Int)<=x.1.2.1))&&(decide (x.1.2.1<(x.2.1.length:Int))));bif(decide (x.1.2.1>=(0:Int)))then(bif e2_ then(bif(p328 e3_)then(bif e2_ then(((L ((x.1.1,(aa .i64 (x.1.2.1-(1:Int))),(),e1_.2),(x.2.1.set (ah x.1.2.1) e1_.1),()))))else none)else none)else none)else(e (.inl (((),x.1.2.2.2),x.2)))
theorem aXU(d:Nat)(R:Type)(L:Pat.D Fb->Option R)(e:Ag KY Kp->Option R)(x:Pat.D Fb):
  Bn ({cf [(136,⟨DV,DZ,p328,f328⟩),(93,⟨Bg,Bh,p173,f173⟩)] [(117,3,LoopSpec.of Fb X5 KY Kp w1329_3)]with keep:=true}) (d+2) 117 (Bj Tryz.f117 3) Fb X5 KY Kp (R:=R) L e x=Tu p328 f328 p173 f173 L e x:=by kernel_rfl
theorem aGe(p328:D8)(f328:Ea)(p173:AT)(f173:AU):Bf fun L e x=>Tu p328 f328 p173 f173 L e x:=by intro _ _ _ _ _ _ _ h0 hL he _;unfold Tu;repeat' (first|exact h0|exact hL _|exact he _|apply By|(apply Bz h0;intro _)|(apply BA<;>intro _))
def eU(p328:D8)(f328:Ea)(p173:AT)(f173:AU)(w1329_3:Pat.D Fb->Option (Ag KY Kp))(a0:Ab (.slice (.int .u64)))(a1:Ab (.int .u64)):Option (DenS JW):=
 Vx.A3 (w1329_3 ((a1,(aa .i64 ((a0.length:Int)-(1:Int))),(),(0:Int),()),a0,())) fun y0=>
 Vx.A1 y0 (fun y1=>
 bif(p173 y1.2)then(some ((f173 y1.2).1,y1.1.2))
 else none) (fun z1=>
 none)
theorem aUW(x:DenS Jw):run ({cf [(136,⟨DV,DZ,p328,f328⟩),(93,⟨Bg,Bh,p173,f173⟩)] [(117,3,LoopSpec.of Fb X5 KY Kp w1329_3)]with keep:=true}) 9 117 Tryz.f117 Jw JW x=eU p328 f328 p173 f173 w1329_3 x.1 x.2.1:=by kernel_rfl
def V6:Fb.D->Option (Ag KY Kp):=A6 fun L=>Tu AP.pre AP.F Ah.pre Ah.F L some
def Va(x:DenS Jw):Option (DenS JW):=eU AP.pre AP.F Ah.pre Ah.F V6 x.1 x.2.1
def D1:Sum:=Ai Jw JW Va (DenS.dflt JW)
theorem aLJ:Sound Tryz.prog G1 117 D1:=sd ({cf [(136,AP),(93,Ah)] [(117,3,LoopSpec.of Fb X5 KY Kp V6)]with keep:=true}) 117 Tryz.f117 ⟨YZ,Dy,trivial⟩ ⟨rfl,fun d=>Bw (fun L e x=>Tu AP.pre AP.F Ah.pre Ah.F L e x) (aGe AP.pre AP.F Ah.pre Ah.F) (fun _ _ _ _=>aXU ..),trivial⟩ Jw JW Va _ (fun _=>aUW ..)
abbrev ZT:=Ae Jw
abbrev aE:=Ad Jw JW
variable (p1329:ZT)(f1329:aE)
abbrev E1:Aa:=[(false,.slice (.int .u64)),(false,.slice (.int .u64))]
abbrev E8:Aa:=[(false,.int .i64)]
abbrev GL:Pat:=⟨49,[(0,.one (.sl (.int .u64))),(1,.one (.sl (.int .u64))),(5,.one (.v .i64))],[]⟩
abbrev X7:List (Nat×Shape):=[]
abbrev K0:List (Nat×Pat):=[(1,⟨49,[],[]⟩)]
abbrev Kr:Option Pat:=(some ⟨49,[(4,.one (.v .i64))],[]⟩)
variable (w144_7:Pat.D GL->Option (Ag K0 Kr))
def Tw(p173:AT)(f173:AU){R:Type}(L:Pat.D GL->Option R)(e:Ag K0 Kr->Option R)(x:Pat.D GL):Option R:=let e1_:=((decide ((0:Int)<=x.1.2.2.1))&&(decide (x.1.2.2.1<(x.1.2.1.length:Int))));let e2_:=((decide ((0:Int)<=x.1.2.2.1))&&(decide (x.1.2.2.1<(x.1.1.length:Int))));let e3_:=(x.1.2.1.getD (ah x.1.2.2.1) (0:Int));bif(decide (x.1.2.2.1>=(0:Int)))then(bif e2_ then(bif e1_ then(bif(decide ((x.1.1.getD (ah x.1.2.2.1) (0:Int))<e3_))then(((e (.inr (((-(1:Int)),()),())))))else bif e2_ then(bif e1_ then(bif(decide ((x.1.1.getD (ah x.1.2.2.1) (0:Int))>e3_))then(((e (.inr (((1:Int),()),())))))else(L ((x.1.1,x.1.2.1,(aa .i64 (x.1.2.2.1-(1:Int))),()),())))else none)else none)else none)else none)else(e (.inl ((),())))
theorem aXW(d:Nat)(R:Type)(L:Pat.D GL->Option R)(e:Ag K0 Kr->Option R)(x:Pat.D GL):
  Bn (cf [(93,⟨Bg,Bh,p173,f173⟩)] [(101,7,LoopSpec.of GL X7 K0 Kr w144_7)]) (d+2) 101 (Bj Tryz.f101 7) GL X7 K0 Kr (R:=R) L e x=Tw p173 f173 L e x:=by kernel_rfl
theorem aGg(p173:AT)(f173:AU):Bf fun L e x=>Tw p173 f173 L e x:=by intro _ _ _ _ _ _ _ h0 hL he _;unfold Tw;repeat' (first|exact h0|exact hL _|exact he _|apply By|(apply Bz h0;intro _)|(apply BA<;>intro _))
def eX(p173:AT)(f173:AU)(w144_7:Pat.D GL->Option (Ag K0 Kr))(a0 a1:Ab (.slice (.int .u64))):Option (DenS E8):=
 bif(p173 (a0,()))then(bif(p173 (a1,()))then(bif(decide (((f173 (a0,())).1.length:Int)<((f173 (a1,())).1.length:Int)))then(some ((-(1:Int)),()))
 else bif(decide (((f173 (a0,())).1.length:Int)>((f173 (a1,())).1.length:Int)))then(some ((1:Int),()))
 else Vx.A3 (w144_7 (((f173 (a0,())).1,(f173 (a1,())).1,(aa .i64 (((f173 (a0,())).1.length:Int)-(1:Int))),()),())) fun y4=>
 Vx.A1 y4 (fun y5=>
 some ((0:Int),())) (fun z5=>
 some z5.1))
 else none)
 else none
theorem aU2(x:DenS E1):run (cf [(93,⟨Bg,Bh,p173,f173⟩)] [(101,7,LoopSpec.of GL X7 K0 Kr w144_7)]) 9 101 Tryz.f101 E1 E8 x=eX p173 f173 w144_7 x.1 x.2.1:=by kernel_rfl
def ZB:GL.D->Option (Ag K0 Kr):=A6 fun L=>Tw Ah.pre Ah.F L some
def Vb(x:DenS E1):Option (DenS E8):=eX Ah.pre Ah.F ZB x.1 x.2.1
def Bq:Sum:=Ai E1 E8 Vb (DenS.dflt E8)
theorem YM:Sound Tryz.prog G1 101 Bq:=sd (cf [(93,Ah)] [(101,7,LoopSpec.of GL X7 K0 Kr ZB)]) 101 Tryz.f101 ⟨Dy,trivial⟩ ⟨rfl,fun d=>Bw (fun L e x=>Tw Ah.pre Ah.F L e x) (aGg Ah.pre Ah.F) (fun _ _ _ _=>aXW ..),trivial⟩ E1 E8 Vb _ (fun _=>aU2 ..)
abbrev Hb:=Ae E1
abbrev He:=Ad E1 E8
variable (p144:Hb)(f144:He)
abbrev JB:Aa:=[(false,.slice (.int .u64)),(false,.int .u64)]
abbrev J0:Aa:=[(false,.slice (.int .u64)),(false,.int .u64)]
abbrev GV:Pat:=⟨31,[(1,.one (.v .u64)),(7,.one (.v .i64)),(0,.one (.sl (.int .u64))),(6,.one (.v .u64))],[]⟩
abbrev Yh:List (Nat×Shape):=[]
abbrev La:List (Nat×Pat):=[(0,⟨31,[(0,.one (.sl (.int .u64))),(6,.one (.v .u64))],[]⟩)]
abbrev KB:Option Pat:=none
variable (w329_3:Pat.D GV->Option (Ag La KB))
def Xe(p328:D8)(f328:Ea)(p173:AT)(f173:AU){R:Type}(L:Pat.D GV->Option R)(e:Ag La KB->Option R)(x:Pat.D GV):Option R:=let e1_:=((decide ((0:Int)<=x.1.2.1))&&(decide (x.1.2.1<(x.1.2.2.1.length:Int))));bif(decide (x.1.2.1>=(0:Int)))then(bif e1_ then(bif(p328 (x.1.2.2.2.1,(x.1.2.2.1.getD (ah x.1.2.1) (0:Int)),x.1.1,()))then(bif e1_ then((none))else none)else none)else none)else(e (.inl (x.1.2.2,())))
theorem aYa(d:Nat)(R:Type)(L:Pat.D GV->Option R)(e:Ag La KB->Option R)(x:Pat.D GV):
  Bn (cf [(136,⟨DV,DZ,p328,f328⟩),(93,⟨Bg,Bh,p173,f173⟩)] [(117,3,LoopSpec.of GV Yh La KB w329_3)]) (d+2) 117 (Bj Tryz.f117 3) GV Yh La KB (R:=R) L e x=Xe p328 f328 p173 f173 L e x:=by kernel_rfl
theorem aSG(p328:D8)(f328:Ea)(p173:AT)(f173:AU):Bf fun L e x=>Xe p328 f328 p173 f173 L e x:=by intro _ _ _ _ _ _ _ h0 hL he _;unfold Xe;repeat' (first|exact h0|exact hL _|exact he _|apply By|(apply Bz h0;intro _)|(apply BA<;>intro _))
def aIv(p328:D8)(f328:Ea)(p173:AT)(f173:AU)(w329_3:Pat.D GV->Option (Ag La KB))(a0:Ab (.slice (.int .u64)))(a1:Ab (.int .u64)):Option (DenS J0):=
 Vx.A3 (w329_3 ((a1,(aa .i64 ((a0.length:Int)-(1:Int))),a0,(0:Int),()),())) fun y0=>
 Vx.A1 y0 (fun y1=>
 bif(p173 (y1.1.1,()))then(some ((f173 (y1.1.1,())).1,y1.1.2))
 else none) (fun z1=>
 none)
theorem aVE(x:DenS JB):run (cf [(136,⟨DV,DZ,p328,f328⟩),(93,⟨Bg,Bh,p173,f173⟩)] [(117,3,LoopSpec.of GV Yh La KB w329_3)]) 9 117 Tryz.f117 JB J0 x=aIv p328 f328 p173 f173 w329_3 x.1 x.2.1:=by kernel_rfl
def aAF:GV.D->Option (Ag La KB):=A6 fun L=>Xe AP.pre AP.F Ah.pre Ah.F L some
def yH(x:DenS JB):Option (DenS J0):=aIv AP.pre AP.F Ah.pre Ah.F aAF x.1 x.2.1
def EO:Sum:=Ai JB J0 yH (DenS.dflt J0)
theorem aL4:Sound Tryz.prog G1 117 EO:=sd (cf [(136,AP),(93,Ah)] [(117,3,LoopSpec.of GV Yh La KB aAF)]) 117 Tryz.f117 ⟨YZ,Dy,trivial⟩ ⟨rfl,fun d=>Bw (fun L e x=>Xe AP.pre AP.F Ah.pre Ah.F L e x) (aSG AP.pre AP.F Ah.pre Ah.F) (fun _ _ _ _=>aYa ..),trivial⟩ JB J0 yH _ (fun _=>aVE ..)
abbrev Z0:=Ae JB
abbrev aL:=Ad JB J0
variable (p329:Z0)(f329:aL)
abbrev HY:Aa:=[(false,.slice (.int .u64)),(false,.int .u64)]
abbrev Il:Aa:=[(false,.bool)]
abbrev Ez:LK:=.win (.int .u64)
abbrev GW:Pat:=⟨68,[(16,.one (.v .i64)),(15,.one (.sl (.int .u64))),(2,.one (.v .u64)),(17,.one (.v .i64)),(1,.one (.sl (.int .u64))),(0,.one (.sub 0)),(7,.one (.v .u64)),(8,.one (.v .u64))],[.arr (.int .u64)]⟩
abbrev Yi:List (Nat×Shape):=[]
abbrev Lb:List (Nat×Pat):=[(0,⟨68,[(1,.one (.sl (.int .u64))),(0,.one (.sub 0)),(7,.one (.v .u64)),(8,.one (.v .u64))],[.arr (.int .u64)]⟩)]
abbrev KC:Option Pat:=none
variable (w330_3:Pat.D GW->Option (Ag Lb KC))
def TE(p315:D7)(f315:D9)(p155:CK)(f155:CL)(p157:F9)(f157:Gd){R:Type}(L:Pat.D GW->Option R)(e:Ag Lb KC->Option R)(x:Pat.D GW):Option R:=let e7_:=(x.2.1.getD (x.1.2.2.2.2.2.1.1+(ah x.1.2.2.2.1)) (0:Int));let e8_:=(x.1.2.2.1,(x.1.2.1.getD (ah x.1.2.2.2.1) (0:Int)),());let e6_:=(f315 e8_);let e5_:=(f155 (e6_.2.1,x.1.2.2.2.2.2.2.1,(0:Int),()));let e1_:=(f157 (e7_,e5_.1,x.1.2.2.2.2.2.2.2));let e2_:=e5_;let e3_:=((decide ((0:Int)<=x.1.2.2.2.1))&&(decide (x.1.2.2.2.1<(x.1.2.2.2.2.2.1.2:Int))));let e4_:=e6_;bif(decide (x.1.2.2.2.1<x.1.1))then(bif((decide ((0:Int)<=x.1.2.2.2.1))&&(decide (x.1.2.2.2.1<(x.1.2.1.length:Int))))then(bif(p315 e8_)then(bif(p155 (e4_.2.1,x.1.2.2.2.2.2.2.1,(0:Int),()))then(bif e3_ then(bif(p157 (e7_,e2_.1,x.1.2.2.2.2.2.2.2))then(bif e3_ then(((L ((x.1.1,x.1.2.1,x.1.2.2.1,(aa .i64 (x.1.2.2.2.1+(1:Int))),x.1.2.2.2.2.1,x.1.2.2.2.2.2.1,(aa .u64 (e4_.1+e2_.2.1)),e1_.2),(x.2.1.set (x.1.2.2.2.2.2.1.1+(ah x.1.2.2.2.1)) e1_.1),()))))else none)else none)else none)else none)else none)else none)else(e (.inl (x.1.2.2.2.2,x.2)))
theorem aYb(d:Nat)(R:Type)(L:Pat.D GW->Option R)(e:Ag Lb KC->Option R)(x:Pat.D GW):
  Bn (cf [(120,⟨DU,DY,p315,f315⟩),(94,⟨Ek,EF,p155,f155⟩),(148,⟨Jz,N0,p157,f157⟩)] [(137,3,LoopSpec.of GW Yi Lb KC w330_3 1)]) (d+2) 137 (Bj Tryz.f137 3) GW Yi Lb KC (R:=R) L e x 1=TE p315 f315 p155 f155 p157 f157 L e x:=by kernel_rfl
theorem aGo(p315:D7)(f315:D9)(p155:CK)(f155:CL)(p157:F9)(f157:Gd):Bf fun L e x=>TE p315 f315 p155 f155 p157 f157 L e x:=by intro _ _ _ _ _ _ _ h0 hL he _;unfold TE;repeat' (first|exact h0|exact hL _|exact he _|apply By|(apply Bz h0;intro _)|(apply BA<;>intro _))
def f0(p315:D7)(f315:D9)(p155:CK)(f155:CL)(p157:F9)(f157:Gd)(w330_3:Pat.D GW->Option (Ag Lb KC))(l0:LK.D (.win (.int .u64)))(a0:Ab (.slice (.int .u64)))(a1:Ab (.int .u64)):Option (LK.B Ez×DenS Il):=
 Vx.A3 (w330_3 (((a0.length:Int),a0,a1,(0:Int),a0,l0.2,(0:Int),(0:Int),()),l0.1,())) fun y0=>
 Vx.A1 y0 (fun y1=>
 bif((decide ((0:Int)<=(y1.1.1.length:Int)))&&(decide ((y1.1.1.length:Int)<(y1.1.2.1.2:Int))))then(bif(p157 ((y1.2.1.getD (y1.1.2.1.1+(ah (y1.1.1.length:Int))) (0:Int)),y1.1.2.2))then(bif((decide ((0:Int)<=(y1.1.1.length:Int)))&&(decide ((y1.1.1.length:Int)<(y1.1.2.1.2:Int))))then(some ((y1.2.1.set (y1.1.2.1.1+(ah (y1.1.1.length:Int))) (f157 ((y1.2.1.getD (y1.1.2.1.1+(ah (y1.1.1.length:Int))) (0:Int)),y1.1.2.2)).1),((f157 ((y1.2.1.getD (y1.1.2.1.1+(ah (y1.1.1.length:Int))) (0:Int)),y1.1.2.2)).2.1 !=(0:Int)),()))
 else none)
 else none)
 else none) (fun z1=>
 none)
theorem aVF(x:LK.D Ez×DenS HY):Eg (cf [(120,⟨DU,DY,p315,f315⟩),(94,⟨Ek,EF,p155,f155⟩),(148,⟨Jz,N0,p157,f157⟩)] [(137,3,LoopSpec.of GW Yi Lb KC w330_3 1)]) 9 137 Tryz.f137 Ez HY Il x=f0 p315 f315 p155 f155 p157 f157 w330_3 x.1 x.2.1 x.2.2.1:=by kernel_rfl
def ZJ:GW.D->Option (Ag Lb KC):=A6 fun L=>TE AN.pre AN.F Ar.pre Ar.F AW.pre AW.F L some
def Vr(x:LK.D Ez×DenS HY):Option (LK.B Ez×DenS Il):=f0 AN.pre AN.F Ar.pre Ar.F AW.pre AW.F ZJ x.1 x.2.1 x.2.2.1
def BV:SumL:=Eh Ez HY Il Vr (LK.dflt Ez,DenS.dflt Il)
theorem aL5:SoundL Tryz.prog G1 137 BV:=HB (cf [(120,AN),(94,Ar),(148,AW)] [(137,3,LoopSpec.of GW Yi Lb KC ZJ 1)]) 137 Tryz.f137 ⟨YU,Sj,YO,trivial⟩ ⟨rfl,fun d=>Bw (fun L e x=>TE AN.pre AN.F Ar.pre Ar.F AW.pre AW.F L e x) (aGo AN.pre AN.F Ar.pre Ar.F AW.pre AW.F) (fun _ _ _ _=>aYb ..),trivial⟩ Ez HY Il Vr _ (fun _=>aVF ..)
abbrev SQ:=LK.D Ez×DenS HY->Bool
abbrev S2:=LK.D Ez×DenS HY->LK.B Ez×DenS Il
variable (p330:SQ)(f330:S2)
abbrev HZ:Aa:=[(false,.slice (.int .u64))]
abbrev Im:Aa:=[(false,.bool)]
abbrev EA:LK:=.win (.int .u64)
abbrev GX:Pat:=⟨46,[(10,.one (.v .i64)),(9,.one (.sl (.int .u64))),(11,.one (.v .i64)),(1,.one (.sl (.int .u64))),(0,.one (.sub 0)),(5,.one (.v .u64))],[.arr (.int .u64)]⟩
abbrev Yj:List (Nat×Shape):=[]
abbrev Lc:List (Nat×Pat):=[(0,⟨46,[(1,.one (.sl (.int .u64))),(0,.one (.sub 0)),(5,.one (.v .u64))],[.arr (.int .u64)]⟩)]
abbrev KD:Option Pat:=none
variable (w331_3:Pat.D GX->Option (Ag Lc KD))
def TF(p155:CK)(f155:CL){R:Type}(L:Pat.D GX->Option R)(e:Ag Lc KD->Option R)(x:Pat.D GX):Option R:=let e3_:=((x.2.1.getD (x.1.2.2.2.2.1.1+(ah x.1.2.2.1)) (0:Int)),(x.1.2.1.getD (ah x.1.2.2.1) (0:Int)),x.1.2.2.2.2.2);let e1_:=(f155 e3_);let e2_:=((decide ((0:Int)<=x.1.2.2.1))&&(decide (x.1.2.2.1<(x.1.2.2.2.2.1.2:Int))));bif(decide (x.1.2.2.1<x.1.1))then(bif((decide ((0:Int)<=x.1.2.2.1))&&(decide (x.1.2.2.1<(x.1.2.1.length:Int))))then(bif e2_ then(bif(p155 e3_)then(bif e2_ then(((L ((x.1.1,x.1.2.1,(aa .i64 (x.1.2.2.1+(1:Int))),x.1.2.2.2.1,x.1.2.2.2.2.1,e1_.2),(x.2.1.set (x.1.2.2.2.2.1.1+(ah x.1.2.2.1)) e1_.1),()))))else none)else none)else none)else none)else(e (.inl (x.1.2.2.2,x.2)))
theorem aYc(d:Nat)(R:Type)(L:Pat.D GX->Option R)(e:Ag Lc KD->Option R)(x:Pat.D GX):
  Bn (cf [(94,⟨Ek,EF,p155,f155⟩)] [(138,3,LoopSpec.of GX Yj Lc KD w331_3 1)]) (d+2) 138 (Bj Tryz.f138 3) GX Yj Lc KD (R:=R) L e x 1=TF p155 f155 L e x:=by kernel_rfl
theorem aGp(p155:CK)(f155:CL):Bf fun L e x=>TF p155 f155 L e x:=by intro _ _ _ _ _ _ _ h0 hL he _;unfold TF;repeat' (first|exact h0|exact hL _|exact he _|apply By|(apply Bz h0;intro _)|(apply BA<;>intro _))
def f8(p155:CK)(f155:CL)(w331_3:Pat.D GX->Option (Ag Lc KD))(l0:LK.D (.win (.int .u64)))(a0:Ab (.slice (.int .u64))):Option (LK.B EA×DenS Im):=
 Vx.A3 (w331_3 (((a0.length:Int),a0,(0:Int),a0,l0.2,(0:Int),()),l0.1,())) fun y0=>
 Vx.A1 y0 (fun y1=>
 bif((decide ((0:Int)<=(y1.1.1.length:Int)))&&(decide ((y1.1.1.length:Int)<(y1.1.2.1.2:Int))))then(bif(p155 ((y1.2.1.getD (y1.1.2.1.1+(ah (y1.1.1.length:Int))) (0:Int)),(0:Int),y1.1.2.2))then(bif((decide ((0:Int)<=(y1.1.1.length:Int)))&&(decide ((y1.1.1.length:Int)<(y1.1.2.1.2:Int))))then(some ((y1.2.1.set (y1.1.2.1.1+(ah (y1.1.1.length:Int))) (f155 ((y1.2.1.getD (y1.1.2.1.1+(ah (y1.1.1.length:Int))) (0:Int)),(0:Int),y1.1.2.2)).1),((f155 ((y1.2.1.getD (y1.1.2.1.1+(ah (y1.1.1.length:Int))) (0:Int)),(0:Int),y1.1.2.2)).2.1 !=(0:Int)),()))
 else none)
 else none)
 else none) (fun z1=>
 none)
theorem aVG(x:LK.D EA×DenS HZ):Eg (cf [(94,⟨Ek,EF,p155,f155⟩)] [(138,3,LoopSpec.of GX Yj Lc KD w331_3 1)]) 9 138 Tryz.f138 EA HZ Im x=f8 p155 f155 w331_3 x.1 x.2.1:=by kernel_rfl
def ZK:GX.D->Option (Ag Lc KD):=A6 fun L=>TF Ar.pre Ar.F L some
def Vs(x:LK.D EA×DenS HZ):Option (LK.B EA×DenS Im):=f8 Ar.pre Ar.F ZK x.1 x.2.1
def CC:SumL:=Eh EA HZ Im Vs (LK.dflt EA,DenS.dflt Im)
theorem aL6:SoundL Tryz.prog G1 138 CC:=HB (cf [(94,Ar)] [(138,3,LoopSpec.of GX Yj Lc KD ZK 1)]) 138 Tryz.f138 ⟨Sj,trivial⟩ ⟨rfl,fun d=>Bw (fun L e x=>TF Ar.pre Ar.F L e x) (aGp Ar.pre Ar.F) (fun _ _ _ _=>aYc ..),trivial⟩ EA HZ Im Vs _ (fun _=>aVG ..)
abbrev SR:=LK.D EA×DenS HZ->Bool
abbrev S3:=LK.D EA×DenS HZ->LK.B EA×DenS Im
variable (p331:SR)(f331:S3)
abbrev JC:Aa:=[(false,.slice (.int .u64))]
abbrev In:Aa:=[(false,.int .u64)]
abbrev EB:LK:=.win (.int .u64)
abbrev Fe:Pat:=⟨92,[(6,.one (.v .u64)),(7,.one (.v .u64)),(5,.one (.v .i64)),(0,.one (.sub 0)),(1,.one (.sl (.int .u64)))],[.arr (.int .u64)]⟩
abbrev Uv:List (Nat×Shape):=[]
abbrev IW:List (Nat×Pat):=[(0,⟨92,[(0,.one (.sub 0)),(1,.one (.sl (.int .u64))),(6,.one (.v .u64))],[.arr (.int .u64)]⟩)]
abbrev IC:Option Pat:=none
abbrev Fc:Pat:=⟨92,[(6,.one (.v .u64)),(0,.one (.sub 0)),(1,.one (.sl (.int .u64)))],[.arr (.int .u64)]⟩
abbrev Uu:List (Nat×Shape):=[]
abbrev IV:List (Nat×Pat):=[(2,⟨92,[(6,.one (.v .u64))],[.arr (.int .u64)]⟩)]
abbrev IB:Option Pat:=none
variable (w332_6:Pat.D Fe->Option (Ag IW IC))(w332_13:Pat.D Fc->Option (Ag IV IB))
def TG(p328:D8)(f328:Ea)(p315:D7)(f315:D9)(p155:CK)(f155:CL)(p330:SQ)(f330:S2)(p331:SR)(f331:S3){R:Type}(L:Pat.D Fc->Option R)(e:Ag IV IB->Option R)(x:Pat.D Fc):Option R:=let e1_:=(aa .u64 (x.1.1-(1:Int)));bif(p331 ((x.2.1,x.1.2.1),x.1.2.2))then(bif(f331 ((x.2.1,x.1.2.1),x.1.2.2)).2.1 then(((e (.inl ((e1_,()),(f331 ((x.2.1,x.1.2.1),x.1.2.2)).1,())))))else(L ((e1_,x.1.2),(f331 ((x.2.1,x.1.2.1),x.1.2.2)).1,())))else none
theorem aYd(d:Nat)(R:Type)(L:Pat.D Fc->Option R)(e:Ag IV IB->Option R)(x:Pat.D Fc):
  Bn ({cf [(136,⟨DV,DZ,p328,f328⟩),(120,⟨DU,DY,p315,f315⟩),(94,⟨Ek,EF,p155,f155⟩)] [(119,6,LoopSpec.of Fe Uv IW IC w332_6 1),(119,13,LoopSpec.of Fc Uu IV IB w332_13 1)]with lsums:=[(137,⟨Ez,HY,Il,p330,f330⟩),(138,⟨EA,HZ,Im,p331,f331⟩)] }) (d+2) 119 (Bj Tryz.f119 13) Fc Uu IV IB (R:=R) L e x 1=TG p328 f328 p315 f315 p155 f155 p330 f330 p331 f331 L e x:=by kernel_rfl
theorem aGq(p328:D8)(f328:Ea)(p315:D7)(f315:D9)(p155:CK)(f155:CL)(p330:SQ)(f330:S2)(p331:SR)(f331:S3):Bf fun L e x=>TG p328 f328 p315 f315 p155 f155 p330 f330 p331 f331 L e x:=by intro _ _ _ _ _ _ _ h0 hL he _;unfold TG;repeat' (first|exact h0|exact hL _|exact he _|apply By|(apply Bz h0;intro _)|(apply BA<;>intro _))
def TH(p328:D8)(f328:Ea)(p315:D7)(f315:D9)(p155:CK)(f155:CL)(p330:SQ)(f330:S2)(p331:SR)(f331:S3){R:Type}(L:Pat.D Fe->Option R)(e:Ag IW IC->Option R)(x:Pat.D Fe):Option R:=let e11_:=(aa .i64 (x.1.2.2.1-(2:Int)));let e10_:=(ah e11_);let e9_:=(f315 (x.1.1,(x.1.2.2.2.2.1.getD e10_ (0:Int)),()));let e1_:=(decide (e9_.1<x.1.2.1));let e12_:=(aa .i64 (x.1.2.2.1-(1:Int)));let e2_:=(f155 (x.1.2.1,(x.1.2.2.2.2.1.getD (ah e12_) (0:Int)),(0:Int),()));let e3_:=e9_;let e4_:=(decide ((0:Int)<=e11_));let e5_:=e10_;let e6_:=e12_;let e7_:=e11_;let e8_:=(aa .u64 (x.1.1-(1:Int)));bif(e4_&&(decide (e7_<(x.1.2.2.2.2.1.length:Int))))then(bif(p315 (x.1.1,(x.1.2.2.2.2.1.getD e5_ (0:Int)),()))then(bif((e4_&&(decide (e7_<(x.1.2.2.2.1.2:Int))))||(!((bif e1_ then false else true)&&(decide (e3_.1=x.1.2.1)))))then(bif(e1_||((e3_.1==x.1.2.1)&&(decide (e3_.2.1<=(x.2.1.getD (x.1.2.2.2.1.1+e5_) (0:Int))))))then(((e (.inl ((x.1.2.2.2.1,x.1.2.2.2.2.1,x.1.1,()),x.2)))))else bif((decide ((0:Int)<=e6_))&&(decide (e6_<(x.1.2.2.2.2.1.length:Int))))then(bif(p155 (x.1.2.1,(x.1.2.2.2.2.1.getD (ah e6_) (0:Int)),(0:Int),()))then(bif(e2_.2.1 !=(0:Int))then(((e (.inl ((x.1.2.2.2.1,x.1.2.2.2.2.1,e8_,()),x.2)))))else(L ((e8_,e2_.1,x.1.2.2),x.2)))else none)else none)else none)else none)else none
theorem aYe(d:Nat)(R:Type)(L:Pat.D Fe->Option R)(e:Ag IW IC->Option R)(x:Pat.D Fe):
  Bn ({cf [(136,⟨DV,DZ,p328,f328⟩),(120,⟨DU,DY,p315,f315⟩),(94,⟨Ek,EF,p155,f155⟩)] [(119,6,LoopSpec.of Fe Uv IW IC w332_6 1),(119,13,LoopSpec.of Fc Uu IV IB w332_13 1)]with lsums:=[(137,⟨Ez,HY,Il,p330,f330⟩),(138,⟨EA,HZ,Im,p331,f331⟩)] }) (d+2) 119 (Bj Tryz.f119 6) Fe Uv IW IC (R:=R) L e x 1=TH p328 f328 p315 f315 p155 f155 p330 f330 p331 f331 L e x:=by kernel_rfl
theorem aGr(p328:D8)(f328:Ea)(p315:D7)(f315:D9)(p155:CK)(f155:CL)(p330:SQ)(f330:S2)(p331:SR)(f331:S3):Bf fun L e x=>TH p328 f328 p315 f315 p155 f155 p330 f330 p331 f331 L e x:=by intro _ _ _ _ _ _ _ h0 hL he _;unfold TH;repeat' (first|exact h0|exact hL _|exact he _|apply By|(apply Bz h0;intro _)|(apply BA<;>intro _))
def gA(p328:D8)(f328:Ea)(p315:D7)(f315:D9)(p155:CK)(f155:CL)(p330:SQ)(f330:S2)(p331:SR)(f331:S3)(w332_6:Pat.D Fe->Option (Ag IW IC))(w332_13:Pat.D Fc->Option (Ag IV IB))(l0:LK.D (.win (.int .u64)))(a0:Ab (.slice (.int .u64))):Option (LK.B EB×DenS In):=
 let e11_:=(l0.1.getD (l0.2.1+(ah (a0.length:Int))) (0:Int))
 let e10_:=(aa .i64 ((a0.length:Int)-(1:Int)))
 let e9_:=(ah e10_)
 let e8_:=(a0.getD e9_ (0:Int))
 let e1_:=(f328 (e11_,(l0.1.getD (l0.2.1+e9_) (0:Int)),e8_,()))
 let e2_:=((decide ((0:Int)<=e10_))&&(decide (e10_<(a0.length:Int))))
 let e3_:=e8_
 let e4_:=((decide ((0:Int)<=(a0.length:Int)))&&(decide ((a0.length:Int)<(l0.2.2:Int))))
 let e5_:=e10_
 let e12_:=((l0.1,l0.2),a0,(18446744073709551615:Int),())
 let e6_:=(f330 e12_)
 let e7_:=e11_
 bif e4_ then(bif e2_ then(bif(decide (e7_<e3_))then(bif e4_ then(bif((decide ((0:Int)<=e5_))&&(decide (e5_<(l0.2.2:Int))))then(bif e2_ then(bif(p328 (e7_,(l0.1.getD (l0.2.1+(ah e5_)) (0:Int)),e3_,()))then(Vx.A3 (w332_6 ((e1_.1,e1_.2.1,(a0.length:Int),l0.2,a0,()),l0.1,())) fun y7=>
 Vx.A1 y7 (fun y8=>
 bif(p330 ((y8.2.1,y8.1.1),y8.1.2))then(bif(f330 ((y8.2.1,y8.1.1),y8.1.2)).2.1 then(Vx.A3 (w332_13 ((y8.1.2.2.1,y8.1.1,y8.1.2.1,()),(f330 ((y8.2.1,y8.1.1),y8.1.2)).1,())) fun y11=>
 Vx.A1 y11 (fun y12=>
 some (y12.2.1,y12.1)) (fun z12=>
 none))
 else some ((f330 ((y8.2.1,y8.1.1),y8.1.2)).1,y8.1.2.2))
 else none) (fun z8=>
 none))
 else none)
 else none)
 else none)
 else none)
 else bif(p330 e12_)then(bif e6_.2.1 then(Vx.A3 (w332_13 (((18446744073709551615:Int),l0.2,a0,()),e6_.1,())) fun y5=>
 Vx.A1 y5 (fun y6=>
 some (y6.2.1,y6.1)) (fun z6=>
 none))
 else some (e6_.1,(18446744073709551615:Int),()))
 else none)
 else none)
 else none
theorem aVH(x:LK.D EB×DenS JC):Eg ({cf [(136,⟨DV,DZ,p328,f328⟩),(120,⟨DU,DY,p315,f315⟩),(94,⟨Ek,EF,p155,f155⟩)] [(119,6,LoopSpec.of Fe Uv IW IC w332_6 1),(119,13,LoopSpec.of Fc Uu IV IB w332_13 1)]with lsums:=[(137,⟨Ez,HY,Il,p330,f330⟩),(138,⟨EA,HZ,Im,p331,f331⟩)] }) 9 119 Tryz.f119 EB JC In x=gA p328 f328 p315 f315 p155 f155 p330 f330 p331 f331 w332_6 w332_13 x.1 x.2.1:=by kernel_rfl
def V9:Fc.D->Option (Ag IV IB):=A6 fun L=>TG AP.pre AP.F AN.pre AN.F Ar.pre Ar.F BV.pre BV.F CC.pre CC.F L some
def ZL:Fe.D->Option (Ag IW IC):=A6 fun L=>TH AP.pre AP.F AN.pre AN.F Ar.pre Ar.F BV.pre BV.F CC.pre CC.F L some
def Vt(x:LK.D EB×DenS JC):Option (LK.B EB×DenS In):=gA AP.pre AP.F AN.pre AN.F Ar.pre Ar.F BV.pre BV.F CC.pre CC.F ZL V9 x.1 x.2.1
def D3:SumL:=Eh EB JC In Vt (LK.dflt EB,DenS.dflt In)
theorem aL7:SoundL Tryz.prog G1 119 D3:=HB ({cf [(136,AP),(120,AN),(94,Ar)] [(119,6,LoopSpec.of Fe Uv IW IC ZL 1),(119,13,LoopSpec.of Fc Uu IV IB V9 1)]with lsums:=[(137,BV),(138,CC)] }) 119 Tryz.f119 ⟨YZ,YU,Sj,trivial⟩ ⟨rfl,fun d=>Bw (fun L e x=>TH AP.pre AP.F AN.pre AN.F Ar.pre Ar.F BV.pre BV.F CC.pre CC.F L e x) (aGr AP.pre AP.F AN.pre AN.F Ar.pre Ar.F BV.pre BV.F CC.pre CC.F) (fun _ _ _ _=>aYe ..),⟨rfl,fun d=>Bw (fun L e x=>TG AP.pre AP.F AN.pre AN.F Ar.pre Ar.F BV.pre BV.F CC.pre CC.F L e x) (aGq AP.pre AP.F AN.pre AN.F Ar.pre Ar.F BV.pre BV.F CC.pre CC.F) (fun _ _ _ _=>aYd ..),trivial⟩⟩ EB JC In Vt _ (fun _=>aVH ..) (hls:=⟨aL5,aL6,trivial⟩)
abbrev Z1:=LK.D EB×DenS JC->Bool
abbrev aM:=LK.D EB×DenS JC->LK.B EB×DenS In
variable (p332:Z1)(f332:aM)
abbrev My:Aa:=[(false,.slice (.int .u64)),(false,.slice (.int .u64))]
abbrev Oh:Aa:=[(false,.slice (.int .u64)),(false,.slice (.int .u64))]
abbrev Ff:Pat:=⟨91,[(9,.one (.sl (.int .u64))),(12,.one (.v .i64)),(4,.one (.own 1)),(10,.one (.own 0)),(11,.one (.v .i64)),(8,.one (.v .i64))],[.arr (.int .u64),.arr (.int .u64)]⟩
abbrev Yk:List (Nat×Shape):=[]
abbrev Ld:List (Nat×Pat):=[(0,⟨91,[(4,.one (.own 1)),(10,.one (.own 0)),(11,.one (.v .i64)),(8,.one (.v .i64))],[.arr (.int .u64),.arr (.int .u64)]⟩)]
abbrev KE:Option Pat:=none
variable (w333_14:Pat.D Ff->Option (Ag Ld KE))
def TI(p1146:Wf)(f1146:Wo)(p1329:ZT)(f1329:aE)(p144:Hb)(f144:He)(p146:Re)(f146:Rm)(p329:Z0)(f329:aL)(p327:Lm)(f327:Lp)(p186:Rh)(f186:Rp)(p332:Z1)(f332:aM)(p173:AT)(f173:AU)(p171:P9)(f171:Qc){R:Type}(L:Pat.D Ff->Option R)(e:Ag Ld KE->Option R)(x:Pat.D Ff):Option R:=let e3_:=(aa .i64 ((aa .i64 (x.1.2.1+x.1.2.2.2.2.1))+(1:Int)));let e1_:=(f332 ((x.2.1,(ah x.1.2.1),((ah e3_)-(ah x.1.2.1))),x.1.1,()));let e2_:=e3_;bif(decide (x.1.2.1>=(0:Int)))then(bif(((decide ((0:Int)<=x.1.2.1))&&(decide (x.1.2.1<=e2_)))&&(decide (e2_<=(x.2.1.length:Int))))then(bif(p332 ((x.2.1,(ah x.1.2.1),((ah e2_)-(ah x.1.2.1))),x.1.1,()))then(bif((decide ((0:Int)<=x.1.2.1))&&(decide (x.1.2.1<(x.2.2.1.length:Int))))then(((L ((x.1.1,(aa .i64 (x.1.2.1-(1:Int))),(),(),x.1.2.2.2.2),e1_.1,(x.2.2.1.set (ah x.1.2.1) e1_.2.1),()))))else none)else none)else none)else(e (.inl (((),(),x.1.2.2.2.2),x.2)))
theorem aYf(d:Nat)(R:Type)(L:Pat.D Ff->Option R)(e:Ag Ld KE->Option R)(x:Pat.D Ff):
  Bn ({cf [(116,⟨HM,Ia,p1146,f1146⟩),(117,⟨Jw,JW,p1329,f1329⟩),(101,⟨E1,E8,p144,f144⟩),(116,⟨Gw,GD,p146,f146⟩),(117,⟨JB,J0,p329,f329⟩),(118,⟨FG,FR,p327,f327⟩),(97,⟨HW,Ij,p186,f186⟩),(93,⟨Bg,Bh,p173,f173⟩),(100,⟨Gx,GE,p171,f171⟩)] [(99,14,LoopSpec.of Ff Yk Ld KE w333_14)]with cut:=true,lsums:=[(119,⟨EB,JC,In,p332,f332⟩)] }) (d+2) 99 (Bj Tryz.f99 14) Ff Yk Ld KE (R:=R) L e x=TI p1146 f1146 p1329 f1329 p144 f144 p146 f146 p329 f329 p327 f327 p186 f186 p332 f332 p173 f173 p171 f171 L e x:=by kernel_rfl
theorem aGs(p1146:Wf)(f1146:Wo)(p1329:ZT)(f1329:aE)(p144:Hb)(f144:He)(p146:Re)(f146:Rm)(p329:Z0)(f329:aL)(p327:Lm)(f327:Lp)(p186:Rh)(f186:Rp)(p332:Z1)(f332:aM)(p173:AT)(f173:AU)(p171:P9)(f171:Qc):Bf fun L e x=>TI p1146 f1146 p1329 f1329 p144 f144 p146 f146 p329 f329 p327 f327 p186 f186 p332 f332 p173 f173 p171 f171 L e x:=by intro _ _ _ _ _ _ _ h0 hL he _;unfold TI;repeat' (first|exact h0|exact hL _|exact he _|apply By|(apply Bz h0;intro _)|(apply BA<;>intro _))
def gB(p1146:Wf)(f1146:Wo)(p1329:ZT)(f1329:aE)(p144:Hb)(f144:He)(p146:Re)(f146:Rm)(p329:Z0)(f329:aL)(p327:Lm)(f327:Lp)(p186:Rh)(f186:Rp)(p332:Z1)(f332:aM)(p173:AT)(f173:AU)(p171:P9)(f171:Qc)(w333_14:Pat.D Ff->Option (Ag Ld KE))(a0 a1:Ab (.slice (.int .u64))):Option (DenS Oh):=
 let e17_:=(aa .i64 (((f173 (a1,())).1.length:Int)-(1:Int)))
 let e14_:=(f327 (((f173 (a1,())).1.getD (ah e17_) (0:Int)),()))
 let e12_:=(f186 ((f173 (a0,())).1,e14_))
 let e18_:=(aa .i64 (((f173 (a0,())).1.length:Int)+(1:Int)))
 let e15_:=(ap (ah e18_) (0:Int))
 let e13_:=(f186 ((f173 (a1,())).1,e14_))
 let e11_:=(aa .i64 ((((e12_.1.take e15_.length)++(e15_.drop e12_.1.length)).length:Int)-(e13_.1.length:Int)))
 let e1_:=(ap (ah e11_) (0:Int))
 let e2_:=e11_
 let e3_:=e13_
 let e4_:=e12_
 let e5_:=e14_
 let e6_:=e15_
 let e16_:=((f1146 (f173 (a0,()))).1,((f173 (a1,())).1.getD (ah (0:Int)) (0:Int)),())
 let e7_:=(((f1329 e16_).2.1::[]),())
 let e8_:=e16_
 let e9_:=e17_
 let e10_:=e18_
 bif(p173 (a0,()))then(bif(p173 (a1,()))then(bif(p144 ((f173 (a0,())).1,(f173 (a1,()))))then(bif(decide ((f144 ((f173 (a0,())).1,(f173 (a1,())))).1<(0:Int)))then(bif(p1146 (f173 (a0,())))then(some ([],(f1146 (f173 (a0,())))))
 else none)
 else bif(((f173 (a1,())).1.length:Int)==(1:Int))then(bif(p1146 (f173 (a0,())))then(bif(decide ((0:Int)<((f173 (a1,())).1.length:Int)))then(bif(p1329 e8_)then(bif(p173 e7_)then(some ((f1329 e8_).1,(f173 e7_)))
 else none)
 else none)
 else none)
 else none)
 else bif((decide ((0:Int)<=e9_))&&(decide (e9_<((f173 (a1,())).1.length:Int))))then(bif(p327 (((f173 (a1,())).1.getD (ah e9_) (0:Int)),()))then(bif(p186 ((f173 (a1,())).1,e5_))then(bif((decide ((0:Int)<=e10_))&&(decide ((e10_*(8:Int))<=(140737488355328:Int))))then(bif(p186 ((f173 (a0,())).1,e5_))then(bif((decide ((0:Int)<=e2_))&&(decide ((e2_*(8:Int))<=(140737488355328:Int))))then(Vx.A3 (w333_14 ((e3_.1,(aa .i64 ((e1_.length:Int)-(1:Int))),(),(),(e3_.1.length:Int),e5_),((e4_.1.take e6_.length)++(e6_.drop e4_.1.length)),e1_,())) fun y11=>
 Vx.A1 y11 (fun y12=>
 bif(p173 y12.2.2)then(bif((decide ((0:Int)<=y12.1.2.2.1))&&(decide (y12.1.2.2.1<=(y12.2.1.length:Int))))then(bif(p171 (((y12.2.1.take (ah y12.1.2.2.1)).drop (ah (0:Int))),y12.1.2.2.2))then(some ((f173 y12.2.2).1,(f171 (((y12.2.1.take (ah y12.1.2.2.1)).drop (ah (0:Int))),y12.1.2.2.2))))
 else none)
 else none)
 else none) (fun z12=>
 none))
 else none)
 else none)
 else none)
 else none)
 else none)
 else none)
 else none)
 else none)
 else none
theorem aVI(x:DenS My):run ({cf [(116,⟨HM,Ia,p1146,f1146⟩),(117,⟨Jw,JW,p1329,f1329⟩),(101,⟨E1,E8,p144,f144⟩),(116,⟨Gw,GD,p146,f146⟩),(117,⟨JB,J0,p329,f329⟩),(118,⟨FG,FR,p327,f327⟩),(97,⟨HW,Ij,p186,f186⟩),(93,⟨Bg,Bh,p173,f173⟩),(100,⟨Gx,GE,p171,f171⟩)] [(99,14,LoopSpec.of Ff Yk Ld KE w333_14)]with cut:=true,lsums:=[(119,⟨EB,JC,In,p332,f332⟩)] }) 9 99 Tryz.f99 My Oh x=gB p1146 f1146 p1329 f1329 p144 f144 p146 f146 p329 f329 p327 f327 p186 f186 p332 f332 p173 f173 p171 f171 w333_14 x.1 x.2.1:=by kernel_rfl
def Wa:Ff.D->Option (Ag Ld KE):=A6 fun L=>TI CX.pre CX.F D1.pre D1.F Bq.pre Bq.F Ct.pre Ct.F EO.pre EO.F Br.pre Br.F CY.pre CY.F D3.pre D3.F Ah.pre Ah.F Cu.pre Cu.F L some
def Vu(x:DenS My):Option (DenS Oh):=gB CX.pre CX.F D1.pre D1.F Bq.pre Bq.F Ct.pre Ct.F EO.pre EO.F Br.pre Br.F CY.pre CY.F D3.pre D3.F Ah.pre Ah.F Cu.pre Cu.F Wa x.1 x.2.1
def Px:Sum:=Ai My Oh Vu (DenS.dflt Oh)
theorem aL8:Sound Tryz.prog G1 99 Px:=sd ({cf [(116,CX),(117,D1),(101,Bq),(116,Ct),(117,EO),(118,Br),(97,CY),(93,Ah),(100,Cu)] [(99,14,LoopSpec.of Ff Yk Ld KE Wa)]with cut:=true,lsums:=[(119,D3)] }) 99 Tryz.f99 ⟨vR,aLJ,YM,jQ,aL4,v9,v0,Dy,jR,trivial⟩ ⟨rfl,fun d=>Bw (fun L e x=>TI CX.pre CX.F D1.pre D1.F Bq.pre Bq.F Ct.pre Ct.F EO.pre EO.F Br.pre Br.F CY.pre CY.F D3.pre D3.F Ah.pre Ah.F Cu.pre Cu.F L e x) (aGs CX.pre CX.F D1.pre D1.F Bq.pre Bq.F Ct.pre Ct.F EO.pre EO.F Br.pre Br.F CY.pre CY.F D3.pre D3.F Ah.pre Ah.F Cu.pre Cu.F) (fun _ _ _ _=>aYf ..),trivial⟩ My Oh Vu _ (fun _=>aVI ..) (hls:=⟨aL7,trivial⟩)
abbrev kT:=Ae My
abbrev mL:=Ad My Oh
variable (p333:kT)(f333:mL)
abbrev JD:Aa:=[(false,.slice (.int .u64)),(false,.slice (.int .u64))]
abbrev J1:Aa:=[(false,.slice (.int .u64)),(false,.slice (.int .u64)),(false,.int .i64)]
def gC(p185:Rg)(f185:Ro)(p173:AT)(f173:AU)(p333:kT)(f333:mL)(a0 a1:Ab (.slice (.int .u64))):Option (DenS J1):=bif(p185 ((a0::(a1::[])),()))then(bif(f185 ((a0::(a1::[])),())).1 then(some ([],[],(5:Int),()))else bif(p173 (a1,()))then(bif(((f173 (a1,())).1.length:Int)==(0:Int))then(some ([],[],(10:Int),()))else bif(p333 (a0,a1,()))then(some ((f333 (a0,a1,())).1,(f333 (a0,a1,())).2.1,(0:Int),()))else none)else none)else none
theorem aVJ(x:DenS JD):run (cf [(96,⟨HV,Ii,p185,f185⟩),(93,⟨Bg,Bh,p173,f173⟩),(99,⟨My,Oh,p333,f333⟩)] []) 9 247 Tryz.f247 JD J1 x=gC p185 f185 p173 f173 p333 f333 x.1 x.2.1:=by kernel_rfl
def Vv(x:DenS JD):Option (DenS J1):=gC D2.pre D2.F Ah.pre Ah.F Px.pre Px.F x.1 x.2.1
def D4:Sum:=Ai JD J1 Vv (DenS.dflt J1)
theorem aL9:Sound Tryz.prog G1 247 D4:=sd (cf [(96,D2),(93,Ah),(99,Px)] []) 247 Tryz.f247 ⟨jS,Dy,aL8,trivial⟩ trivial JD J1 Vv _ (fun _=>aVJ ..)
abbrev Z2:=Ae JD
abbrev aN:=Ad JD J1
variable (p345:Z2)(f345:aN)
abbrev Ma:Aa:=[(true,.slice (.int .u64)),(false,.slice (.int .u64))]
abbrev NS:Aa:=[(true,.slice (.int .u64))]
abbrev GJ:Pat:=⟨37,[(9,.one (.v .i64)),(1,.one (.sl (.int .u64))),(5,.one (.v .u64)),(10,.one (.v .i64)),(0,.one (.own 0))],[.arr (.int .u64)]⟩
abbrev X4:List (Nat×Shape):=[]
abbrev KX:List (Nat×Pat):=[(0,⟨37,[(0,.one (.own 0))],[.arr (.int .u64)]⟩)]
abbrev Ko:Option Pat:=none
variable (w1174_3:Pat.D GJ->Option (Ag KX Ko))
def Tt(p1173:P8)(f1173:Qb)(p157:F9)(f157:Gd)(p173:AT)(f173:AU){R:Type}(L:Pat.D GJ->Option R)(e:Ag KX Ko->Option R)(x:Pat.D GJ):Option R:=let e8_:=(x.2.1.getD (ah x.1.2.2.2.1) (0:Int));let e7_:=((x.1.2.1.getD (ah x.1.2.2.2.1) (0:Int)),x.1.2.2.1,());let e1_:=(f157 (e8_,e7_));let e2_:=((decide ((0:Int)<=x.1.2.2.2.1))&&(decide (x.1.2.2.2.1<(x.2.1.length:Int))));let e3_:=(f157 (e8_,(0:Int),x.1.2.2.1,()));let e4_:=((aa .i64 (x.1.2.2.2.1+(1:Int))),(),());let e5_:=(decide (x.1.2.2.2.1<(x.1.2.1.length:Int)));let e6_:=e8_;bif(decide (x.1.2.2.2.1<x.1.1))then(bif e5_ then(bif((decide ((0:Int)<=x.1.2.2.2.1))&&e5_)then(bif e2_ then(bif(p157 (e6_,e7_))then(bif e2_ then(((L ((x.1.1,x.1.2.1,e1_.2.1,e4_),(x.2.1.set (ah x.1.2.2.2.1) e1_.1),()))))else none)else none)else none)else none)else bif e2_ then(bif(p157 (e6_,(0:Int),x.1.2.2.1,()))then(bif e2_ then(((L ((x.1.1,x.1.2.1,e3_.2.1,e4_),(x.2.1.set (ah x.1.2.2.2.1) e3_.1),()))))else none)else none)else none)else(e (.inl (((),()),x.2)))
theorem aXT(d:Nat)(R:Type)(L:Pat.D GJ->Option R)(e:Ag KX Ko->Option R)(x:Pat.D GJ):
  Bn ({cf [(93,⟨Gs,GA,p1173,f1173⟩),(148,⟨Jz,N0,p157,f157⟩),(93,⟨Bg,Bh,p173,f173⟩)] [(254,3,LoopSpec.of GJ X4 KX Ko w1174_3)]with keep:=true}) (d+2) 254 (Bj Tryz.f254 3) GJ X4 KX Ko (R:=R) L e x=Tt p1173 f1173 p157 f157 p173 f173 L e x:=by kernel_rfl
theorem aGd(p1173:P8)(f1173:Qb)(p157:F9)(f157:Gd)(p173:AT)(f173:AU):Bf fun L e x=>Tt p1173 f1173 p157 f157 p173 f173 L e x:=by intro _ _ _ _ _ _ _ h0 hL he _;unfold Tt;repeat' (first|exact h0|exact hL _|exact he _|apply By|(apply Bz h0;intro _)|(apply BA<;>intro _))
def eK(p1173:P8)(f1173:Qb)(p157:F9)(f157:Gd)(p173:AT)(f173:AU)(w1174_3:Pat.D GJ->Option (Ag KX Ko))(a0 a1:Ab (.slice (.int .u64))):Option (DenS NS):=
 Vx.A3 (w1174_3 (((a0.length:Int),a1,(0:Int),(0:Int),(),()),a0,())) fun y0=>
 Vx.A1 y0 (fun y1=>
 bif(p1173 y1.2)then(some (f1173 y1.2))
 else none) (fun z1=>
 none)
theorem aUO(x:DenS Ma):run ({cf [(93,⟨Gs,GA,p1173,f1173⟩),(148,⟨Jz,N0,p157,f157⟩),(93,⟨Bg,Bh,p173,f173⟩)] [(254,3,LoopSpec.of GJ X4 KX Ko w1174_3)]with keep:=true}) 9 254 Tryz.f254 Ma NS x=eK p1173 f1173 p157 f157 p173 f173 w1174_3 x.1 x.2.1:=by kernel_rfl
def V5:GJ.D->Option (Ag KX Ko):=A6 fun L=>Tt BG.pre BG.F AW.pre AW.F Ah.pre Ah.F L some
def U2(x:DenS Ma):Option (DenS NS):=eK BG.pre BG.F AW.pre AW.F Ah.pre Ah.F V5 x.1 x.2.1
def Pu:Sum:=Ai Ma NS U2 (DenS.dflt NS)
theorem aLE:Sound Tryz.prog G1 254 Pu:=sd ({cf [(93,BG),(148,AW),(93,Ah)] [(254,3,LoopSpec.of GJ X4 KX Ko V5)]with keep:=true}) 254 Tryz.f254 ⟨vS,YO,Dy,trivial⟩ ⟨rfl,fun d=>Bw (fun L e x=>Tt BG.pre BG.F AW.pre AW.F Ah.pre Ah.F L e x) (aGd BG.pre BG.F AW.pre AW.F Ah.pre Ah.F) (fun _ _ _ _=>aXT ..),trivial⟩ Ma NS U2 _ (fun _=>aUO ..)
abbrev aAY:=Ae Ma
abbrev aCt:=Ad Ma NS
variable (p1174:aAY)(f1174:aCt)
abbrev Mj:Aa:=[(false,.slice (.int .u64)),(false,.slice (.int .u64))]
abbrev N2:Aa:=[(false,.slice (.int .u64))]
abbrev GP:Pat:=⟨37,[(9,.one (.v .i64)),(1,.one (.sl (.int .u64))),(5,.one (.v .u64)),(10,.one (.v .i64)),(0,.one (.sl (.int .u64)))],[]⟩
abbrev Yb:List (Nat×Shape):=[]
abbrev K4:List (Nat×Pat):=[(0,⟨37,[(0,.one (.sl (.int .u64)))],[]⟩)]
abbrev Kv:Option Pat:=none
variable (w174_3:Pat.D GP->Option (Ag K4 Kv))
def W9(p157:F9)(f157:Gd)(p173:AT)(f173:AU){R:Type}(L:Pat.D GP->Option R)(e:Ag K4 Kv->Option R)(x:Pat.D GP):Option R:=let e1_:=((decide ((0:Int)<=x.1.2.2.2.1))&&(decide (x.1.2.2.2.1<(x.1.2.2.2.2.1.length:Int))));let e2_:=(x.1.2.2.2.2.1.getD (ah x.1.2.2.2.1) (0:Int));let e3_:=(decide (x.1.2.2.2.1<(x.1.2.1.length:Int)));bif(decide (x.1.2.2.2.1<x.1.1))then(bif e3_ then(bif((decide ((0:Int)<=x.1.2.2.2.1))&&e3_)then(bif e1_ then(bif(p157 (e2_,(x.1.2.1.getD (ah x.1.2.2.2.1) (0:Int)),x.1.2.2.1,()))then(bif e1_ then((none))else none)else none)else none)else none)else bif e1_ then(bif(p157 (e2_,(0:Int),x.1.2.2.1,()))then(bif e1_ then((none))else none)else none)else none)else(e (.inl (x.1.2.2.2.2,())))
theorem aX0(d:Nat)(R:Type)(L:Pat.D GP->Option R)(e:Ag K4 Kv->Option R)(x:Pat.D GP):
  Bn (cf [(148,⟨Jz,N0,p157,f157⟩),(93,⟨Bg,Bh,p173,f173⟩)] [(254,3,LoopSpec.of GP Yb K4 Kv w174_3)]) (d+2) 254 (Bj Tryz.f254 3) GP Yb K4 Kv (R:=R) L e x=W9 p157 f157 p173 f173 L e x:=by kernel_rfl
theorem aSB(p157:F9)(f157:Gd)(p173:AT)(f173:AU):Bf fun L e x=>W9 p157 f157 p173 f173 L e x:=by intro _ _ _ _ _ _ _ h0 hL he _;unfold W9;repeat' (first|exact h0|exact hL _|exact he _|apply By|(apply Bz h0;intro _)|(apply BA<;>intro _))
def aIk(p157:F9)(f157:Gd)(p173:AT)(f173:AU)(w174_3:Pat.D GP->Option (Ag K4 Kv))(a0 a1:Ab (.slice (.int .u64))):Option (DenS N2):=
 Vx.A3 (w174_3 (((a0.length:Int),a1,(0:Int),(0:Int),a0,()),())) fun y0=>
 Vx.A1 y0 (fun y1=>
 bif(p173 y1.1)then(some (f173 y1.1))
 else none) (fun z1=>
 none)
theorem aVg(x:DenS Mj):run (cf [(148,⟨Jz,N0,p157,f157⟩),(93,⟨Bg,Bh,p173,f173⟩)] [(254,3,LoopSpec.of GP Yb K4 Kv w174_3)]) 9 254 Tryz.f254 Mj N2 x=aIk p157 f157 p173 f173 w174_3 x.1 x.2.1:=by kernel_rfl
def aAB:GP.D->Option (Ag K4 Kv):=A6 fun L=>W9 AW.pre AW.F Ah.pre Ah.F L some
def xV(x:DenS Mj):Option (DenS N2):=aIk AW.pre AW.F Ah.pre Ah.F aAB x.1 x.2.1
def Sk:Sum:=Ai Mj N2 xV (DenS.dflt N2)
theorem aLS:Sound Tryz.prog G1 254 Sk:=sd (cf [(148,AW),(93,Ah)] [(254,3,LoopSpec.of GP Yb K4 Kv aAB)]) 254 Tryz.f254 ⟨YO,Dy,trivial⟩ ⟨rfl,fun d=>Bw (fun L e x=>W9 AW.pre AW.F Ah.pre Ah.F L e x) (aSB AW.pre AW.F Ah.pre Ah.F) (fun _ _ _ _=>aX0 ..),trivial⟩ Mj N2 xV _ (fun _=>aVg ..)
abbrev aBb:=Ae Mj
abbrev aCG:=Ad Mj N2
variable (p174:aBb)(f174:aCG)
abbrev HT:Aa:=[(false,.slice (.int .u64)),(false,.slice (.int .u64))]
abbrev Ig:Aa:=[(false,.slice (.int .u64)),(false,.int .i64)]
def eY(p1174:aAY)(f1174:aCt)(p1146:Wf)(f1146:Wo)(p144:Hb)(f144:He)(p146:Re)(f146:Rm)(p173:AT)(f173:AU)(p174:aBb)(f174:aCG)(a0 a1:Ab (.slice (.int .u64))):Option (DenS Ig):=bif(p144 (a0,a1,()))then(bif(decide ((f144 (a0,a1,())).1<(0:Int)))then(some ([],(20:Int),()))else bif(p1146 (a0,()))then(bif(p173 (a1,()))then(bif(p1174 ((f1146 (a0,())).1,(f173 (a1,()))))then(some ((f1174 ((f1146 (a0,())).1,(f173 (a1,())))).1,(0:Int),()))else none)else none)else none)else none
theorem aU3(x:DenS HT):run (cf [(254,⟨Ma,NS,p1174,f1174⟩),(116,⟨HM,Ia,p1146,f1146⟩),(101,⟨E1,E8,p144,f144⟩),(116,⟨Gw,GD,p146,f146⟩),(93,⟨Bg,Bh,p173,f173⟩),(254,⟨Mj,N2,p174,f174⟩)] []) 9 248 Tryz.f248 HT Ig x=eY p1174 f1174 p1146 f1146 p144 f144 p146 f146 p173 f173 p174 f174 x.1 x.2.1:=by kernel_rfl
def Vc(x:DenS HT):Option (DenS Ig):=eY Pu.pre Pu.F CX.pre CX.F Bq.pre Bq.F Ct.pre Ct.F Ah.pre Ah.F Sk.pre Sk.F x.1 x.2.1
def Dh:Sum:=Ai HT Ig Vc (DenS.dflt Ig)
theorem vW:Sound Tryz.prog G1 248 Dh:=sd (cf [(254,Pu),(116,CX),(101,Bq),(116,Ct),(93,Ah),(254,Sk)] []) 248 Tryz.f248 ⟨aLE,vR,YM,jQ,Dy,aLS,trivial⟩ trivial HT Ig Vc _ (fun _=>aU3 ..)
abbrev SO:=Ae HT
abbrev SY:=Ad HT Ig
variable (p145:SO)(f145:SY)
abbrev MI:Aa:=[(false,.slice (.int .u64)),(false,.slice (.int .u64)),(false,.int .i64)]
abbrev Ov:Aa:=[(true,.pair (.bool) (.pair (.slice (.int .u64)) (.pair (.int .i64) (.pair (.bool) (.unit)))))]
abbrev GZ:Pat:=⟨81,[(2,.one (.v .i64)),(1,.one (.sl (.int .u64))),(11,.one (.sl (.int .u64))),(13,.one (.ptr 1 0)),(6,.one (.ptr 0 0))],[.raw [.bool,.sl (.int .u64),.v .i64,.bool],.raw [.bool,.sl (.int .u64),.v .i64,.bool]]⟩
abbrev Ym:List (Nat×Shape):=[]
abbrev Lf:List (Nat×Pat):=[(0,⟨81,[(11,.one (.sl (.int .u64))),(13,.one (.ptr 1 0)),(6,.one (.ptr 0 0))],[.raw [.bool,.sl (.int .u64),.v .i64,.bool],.raw [.bool,.sl (.int .u64),.v .i64,.bool]]⟩)]
abbrev KG:Option Pat:=none
variable (w379_5:Pat.D GZ->Option (Ag Lf KG))
def TK(p176:Rf)(f176:Rn)(p345:Z2)(f345:aN)(p151:IZ)(f151:I2)(p144:Hb)(f144:He)(p145:SO)(f145:SY)(p143:Ll)(f143:Lo){R:Type}(L:Pat.D GZ->Option R)(e:Ag Lf KG->Option R)(x:Pat.D GZ):Option R:=let e1_:=((aa .i64 (x.2.2.1.2.2.1-(1:Int))),x.2.2.1.2.2.2);let e2_:=((f143 (x.2.2.1.2.1,x.2.2.1.2.1,())).1,((1:Int)::[]),());let e3_:=((f143 (x.1.2.2.1,x.1.2.2.1,())).1,x.1.2.1,());bif(p151 (x.2.2.1.2.1,()))then(bif((decide ((f151 (x.2.2.1.2.1,())).1<x.1.1))&&(decide ((x.1.2.2.1.length:Int)>(0:Int))))then(bif(p143 (x.2.2.1.2.1,x.2.2.1.2.1,()))then(bif(p143 (x.1.2.2.1,x.1.2.2.1,()))then(bif(p144 e3_)then(bif(decide ((f144 e3_).1>=(0:Int)))then(bif(p145 e3_)then(bif(p143 e2_)then(((L ((x.1.1,x.1.2.1,(f145 e3_).1,(),(),()),x.2.1,(x.2.2.1.1,(f143 e2_).1,e1_),()))))else none)else none)else(L ((x.1.1,x.1.2.1,(f143 (x.1.2.2.1,x.1.2.2.1,())).1,(),(),()),x.2.1,(x.2.2.1.1,(f143 (x.2.2.1.2.1,x.2.2.1.2.1,())).1,e1_),())))else none)else none)else none)else(e (.inl ((x.1.2.2.1,(),(),()),x.2))))else none
theorem aYh(d:Nat)(R:Type)(L:Pat.D GZ->Option R)(e:Ag Lf KG->Option R)(x:Pat.D GZ):
  Bn (cf [(67,⟨HU,Ih,p176,f176⟩),(247,⟨JD,J1,p345,f345⟩),(98,⟨E2,E9,p151,f151⟩),(101,⟨E1,E8,p144,f144⟩),(248,⟨HT,Ig,p145,f145⟩),(65,⟨Gv,FQ,p143,f143⟩)] [(238,5,LoopSpec.of GZ Ym Lf KG w379_5)]) (d+2) 238 (Bj Tryz.f238 5) GZ Ym Lf KG (R:=R) L e x=TK p176 f176 p345 f345 p151 f151 p144 f144 p145 f145 p143 f143 L e x:=by kernel_rfl
theorem aGu(p176:Rf)(f176:Rn)(p345:Z2)(f345:aN)(p151:IZ)(f151:I2)(p144:Hb)(f144:He)(p145:SO)(f145:SY)(p143:Ll)(f143:Lo):Bf fun L e x=>TK p176 f176 p345 f345 p151 f151 p144 f144 p145 f145 p143 f143 L e x:=by intro _ _ _ _ _ _ _ h0 hL he _;unfold TK;repeat' (first|exact h0|exact hL _|exact he _|apply By|(apply Bz h0;intro _)|(apply BA<;>intro _))
def gH(p176:Rf)(f176:Rn)(p345:Z2)(f345:aN)(p151:IZ)(f151:I2)(p144:Hb)(f144:He)(p145:SO)(f145:SY)(p143:Ll)(f143:Lo)(w379_5:Pat.D GZ->Option (Ag Lf KG))(a0 a1:Ab (.slice (.int .u64)))(a2:Ab (.int .i64)):Option (DenS Ov):=
 let e5_:=(aa .i64 ((aa .i64 ((f151 (a1,())).1-(f151 (a0,())).1))-(1:Int)))
 let e4_:=(a0,(if(e5_>(0:Int))then e5_ else(0:Int)),())
 let e1_:=(f345 ((f176 e4_).1,a1,()))
 let e2_:=e4_
 let e3_:=e5_
 bif(p151 (a1,()))then(bif(p151 (a0,()))then(bif(p176 e2_)then(bif(p345 ((f176 e2_).1,a1,()))then(Vx.A3 (w379_5 ((a2,a1,e1_.2.1,(),(),()),(false,[],(0:Int),false,()),(false,e1_.1,(aa .i64 ((0:Int)-(if(e3_>(0:Int))then e3_ else(0:Int)))),false,()),())) fun y4=>
 Vx.A1 y4 (fun y5=>
 some ((y5.2.2.1.1,y5.2.2.1.2.1,y5.2.2.1.2.2.1,(decide ((y5.1.1.length:Int)>(0:Int))),()),())) (fun z5=>
 none))
 else none)
 else none)
 else none)
 else none
theorem aVT(x:DenS MI):run (cf [(67,⟨HU,Ih,p176,f176⟩),(247,⟨JD,J1,p345,f345⟩),(98,⟨E2,E9,p151,f151⟩),(101,⟨E1,E8,p144,f144⟩),(248,⟨HT,Ig,p145,f145⟩),(65,⟨Gv,FQ,p143,f143⟩)] [(238,5,LoopSpec.of GZ Ym Lf KG w379_5)]) 9 238 Tryz.f238 MI Ov x=gH p176 f176 p345 f345 p151 f151 p144 f144 p145 f145 p143 f143 w379_5 x.1 x.2.1 x.2.2.1:=by kernel_rfl
def ZN:GZ.D->Option (Ag Lf KG):=A6 fun L=>TK Di.pre Di.F D4.pre D4.F BL.pre BL.F Bq.pre Bq.F Dh.pre Dh.F CQ.pre CQ.F L some
def VD(x:DenS MI):Option (DenS Ov):=gH Di.pre Di.F D4.pre D4.F BL.pre BL.F Bq.pre Bq.F Dh.pre Dh.F CQ.pre CQ.F ZN x.1 x.2.1 x.2.2.1
def PH:Sum:=Ai MI Ov VD (DenS.dflt Ov)
theorem aMi:Sound Tryz.prog G1 238 PH:=sd (cf [(67,Di),(247,D4),(98,BL),(101,Bq),(248,Dh),(65,CQ)] [(238,5,LoopSpec.of GZ Ym Lf KG ZN)]) 238 Tryz.f238 ⟨vZ,aL9,UC,YM,vW,jP,trivial⟩ ⟨rfl,fun d=>Bw (fun L e x=>TK Di.pre Di.F D4.pre D4.F BL.pre BL.F Bq.pre Bq.F Dh.pre Dh.F CQ.pre CQ.F L e x) (aGu Di.pre Di.F D4.pre D4.F BL.pre BL.F Bq.pre Bq.F Dh.pre Dh.F CQ.pre CQ.F) (fun _ _ _ _=>aYh ..),trivial⟩ MI Ov VD _ (fun _=>aVT ..)
abbrev aBs:=Ae MI
abbrev aCX:=Ad MI Ov
variable (p379:aBs)(f379:aCX)
abbrev MK:Aa:=[(false,.int .i64),(false,.int .i64),(false,.bool),(false,.slice (.int .u64)),(false,.slice (.int .u64)),(false,.int .i64)]
abbrev Ow:Aa:=[(false,.int .u64),(false,.int .i64),(false,.int .i64)]
def gI(p105:SL)(f105:SU)(p102:F7)(f102:Gb)(p156:ZU)(f156:aF)(p379:aBs)(f379:aCX)(p107:SM)(f107:SW)(a0 a1:Ab (.int .i64))(a2:Ab (.bool))(a3 a4:Ab (.slice (.int .u64)))(a5:Ab (.int .i64)):Option (DenS Ow):=let e4_:=((f102 (a3,())).1,(f102 (a4,())).1,(aa .i64 ((f105 (a0,a1,())).1.2.1+(3:Int))),());let e3_:=(f379 e4_);let e1_:=(f107 ((a2,e3_.1.2.1,(aa .i64 (e3_.1.2.2.1+a5)),e3_.1.2.2.2),a0,(f105 (a0,a1,())).1,a1,()));let e2_:=e3_;bif(p105 (a0,a1,()))then(bif((f105 (a0,a1,())).2.1 !=(0:Int))then(some ((0:Int),(0:Int),(f105 (a0,a1,())).2))else bif(p102 (a3,()))then(bif(p102 (a4,()))then(bif(decide ((aa .i64 (((f102 (a3,())).1.length:Int)+((f102 (a4,())).1.length:Int)))>(1024:Int)))then(some ((0:Int),(0:Int),(5:Int),()))else bif((decide (a5<(-(40000:Int))))||(decide (a5>(40000:Int))))then(some ((0:Int),(0:Int),(30:Int),()))else bif(((f102 (a4,())).1.length:Int)==(0:Int))then(some ((0:Int),(0:Int),(10:Int),()))else bif(((f102 (a3,())).1.length:Int)==(0:Int))then(bif(p156 (a0,a2,()))then(some (f156 (a0,a2,())))else none)else bif(p379 e4_)then(bif(p107 ((a2,e2_.1.2.1,(aa .i64 (e2_.1.2.2.1+a5)),e2_.1.2.2.2),a0,(f105 (a0,a1,())).1,a1,()))then(some (e1_.1,e1_.2.1,(0:Int),()))else none)else none)else none)else none)else none
theorem aVV(x:DenS MK):run (cf [(121,⟨HK,H8,p105,f105⟩),(122,⟨Ex,EC,p102,f102⟩),(123,⟨Jy,JY,p156,f156⟩),(238,⟨MI,Ov,p379,f379⟩),(124,⟨HL,H9,p107,f107⟩)] []) 9 204 Tryz.f204 MK Ow x=gI p105 f105 p102 f102 p156 f156 p379 f379 p107 f107 x.1 x.2.1 x.2.2.1 x.2.2.2.1 x.2.2.2.2.1 x.2.2.2.2.2.1:=by kernel_rfl
def VE(x:DenS MK):Option (DenS Ow):=gI EK.pre EK.F BK.pre BK.F G7.pre G7.F PH.pre PH.F EL.pre EL.F x.1 x.2.1 x.2.2.1 x.2.2.2.1 x.2.2.2.2.1 x.2.2.2.2.2.1
def PI:Sum:=Ai MK Ow VE (DenS.dflt Ow)
theorem aMj:Sound Tryz.prog G1 204 PI:=sd (cf [(121,EK),(122,BK),(123,G7),(238,PH),(124,EL)] []) 204 Tryz.f204 ⟨jK,UB,vY,aMi,jL,trivial⟩ trivial MK Ow VE _ (fun _=>aVV ..)
abbrev aBu:=Ae MK
abbrev aCZ:=Ad MK Ow
variable (p380:aBu)(f380:aCZ)
abbrev ML:Aa:=[(false,.int .i64),(false,.int .i64),(false,.int .u64),(false,.int .u64)]
abbrev J3:Aa:=[(false,.int .u64),(false,.int .i64),(false,.int .i64)]
def gJ(p376:aBp)(f376:aCU)(p377:aBq)(f377:aCV)(p378:aBr)(f378:aCW)(p97:Ln)(f97:Lq)(p118:Ha)(f118:Hd)(p40:Qa)(f40:Qd)(p380:aBu)(f380:aCZ)(a0 a1:Ab (.int .i64))(a2 a3:Ab (.int .u64)):Option (DenS J3):=let e6_:=(!((f377 (a0,a2,())).1.2.2.2.2.1==(f377 (a0,a3,())).1.2.2.2.2.1));let e1_:=(a0,a1,e6_,(f40 (a0,a2,())).1.2.1,(f40 (a0,a3,())).1.2.1,(aa .i64 ((f40 (a0,a2,())).1.2.2.1-(f40 (a0,a3,())).1.2.2.1)),());let e5_:=(a0,e6_,());let e2_:=(f118 e5_);let e3_:=(f97 e5_);let e4_:=(p97 e5_);let g1_:Option (DenS J3):=bif(p378 (a0,(1:Int),()))then(some (f378 (a0,(1:Int),())))else none;bif(p376 (a0,a1,(a2::(a3::[])),()))then(bif((f376 (a0,a1,(a2::(a3::[])),())).1 !=(0:Int))then(some ((0:Int),(0:Int),(f376 (a0,a1,(a2::(a3::[])),()))))else bif(p377 (a0,a2,()))then(bif(p377 (a0,a3,()))then(bif((f377 (a0,a2,())).1.2.1||(f377 (a0,a3,())).1.2.1)then(g1_)else bif((f377 (a0,a2,())).1.1||(f377 (a0,a3,())).1.1)then(bif(p378 (a0,(0:Int),()))then(some (f378 (a0,(0:Int),())))else none)else bif(((f377 (a0,a2,())).1.2.2.1&&(f377 (a0,a3,())).1.2.2.1)||((f377 (a0,a2,())).1.2.2.2.1&&(f377 (a0,a3,())).1.2.2.2.1))then(g1_)else bif(f377 (a0,a2,())).1.2.2.1 then(bif e4_ then(some (e3_.1,(0:Int),e3_.2))else none)else bif(f377 (a0,a3,())).1.2.2.2.1 then(bif e4_ then(some (e3_.1,(2:Int),e3_.2))else none)else bif((f377 (a0,a3,())).1.2.2.1||(f377 (a0,a2,())).1.2.2.2.1)then(bif(p118 e5_)then(some (e2_.1,(0:Int),e2_.2))else none)else bif(p40 (a0,a2,()))then(bif(p40 (a0,a3,()))then(bif(p380 e1_)then(some (f380 e1_))else none)else none)else none)else none)else none)else none
theorem aVW(x:DenS ML):run (cf [(200,⟨MF,Oq,p376,f376⟩),(201,⟨MG,Ot,p377,f377⟩),(202,⟨MH,Ou,p378,f378⟩),(62,⟨FL,FW,p97,f97⟩),(64,⟨Ei,ED,p118,f118⟩),(203,⟨FH,FS,p40,f40⟩),(204,⟨MK,Ow,p380,f380⟩)] []) 9 161 Tryz.f161 ML J3 x=gJ p376 f376 p377 f377 p378 f378 p97 f97 p118 f118 p40 f40 p380 f380 x.1 x.2.1 x.2.2.1 x.2.2.2.1:=by kernel_rfl
def VF(x:DenS ML):Option (DenS J3):=gJ PE.pre PE.F PF.pre PF.F PG.pre PG.F Cv.pre Cv.F Bp.pre Bp.F C8.pre C8.F PI.pre PI.F x.1 x.2.1 x.2.2.1 x.2.2.2.1
def KP:Sum:=Ai ML J3 VF (DenS.dflt J3)
theorem wD:Sound Tryz.prog G1 161 KP:=sd (cf [(200,PE),(201,PF),(202,PG),(62,Cv),(64,Bp),(203,C8),(204,PI)] []) 161 Tryz.f161 ⟨aMf,aMg,aMh,UW,Se,UL,aMj,trivial⟩ trivial ML J3 VF _ (fun _=>aVW ..)
abbrev kV:=Ae ML
abbrev mN:=Ad ML J3
variable (p381:kV)(f381:mN)
abbrev Yv:Aa:=[(false,.int .i64),(false,.int .i64),(false,.int .u64),(false,.int .u64)]
abbrev jC:Aa:=[(false,.int .u64),(false,.int .i64),(false,.int .i64)]
def Ps:SumF:=Jb Yv jC [(158,[],EN),(159,[],KN),(160,[],KO),(161,[],KP)]
theorem aLx:Jt Tryz.prog G1 Ps:=Te ⟨Db jT,⟨Db v5,⟨Db wC,⟨Db wD,trivial⟩⟩⟩⟩
abbrev aAQ:=Option (Nat×List Nat)->Ae Yv
abbrev aCl:=Option (Nat×List Nat)->Ad Yv jC
variable (p100002:aAQ)(f100002:aCl)
abbrev MP:Aa:=[(true,.pair (.int .i64) (.pair (.int .i64) (.pair (.int .u64) (.pair (.int .u64) (.pair (.int .u64) .unit))))),(false,.box (.pfn))]
abbrev J4:Aa:=[(false,.int .u64),(false,.int .i64),(false,.int .i64)]
def gK(p100002:aAQ)(f100002:aCl)(a0:Ab (.pair (.int .i64) (.pair (.int .i64) (.pair (.int .u64) (.pair (.int .u64) (.pair (.int .u64) .unit))))))(a1:Ab (.box (.pfn))):Option (DenS J4):=let e1_:=(a0.2.1,a0.1,a0.2.2.1,a0.2.2.2.1,());bif(p100002 (some (a1,[])) e1_)then(some (f100002 (some (a1,[])) e1_))else none
theorem aV0(x:DenS MP):run ({cf [] []with fns:=[(57,⟨Yv,jC,p100002,f100002⟩)] }) 9 192 Tryz.f192 MP J4 x=gK p100002 f100002 x.1 x.2.1:=by kernel_rfl
def VG(x:DenS MP):Option (DenS J4):=gK Ps.pre Ps.F x.1 x.2.1
def CR:Sum:=Ai MP J4 VG (DenS.dflt J4)
theorem UG:Sound Tryz.prog G1 192 CR:=sd ({cf [] []with fns:=[(57,Ps)] }) 192 Tryz.f192 trivial trivial MP J4 VG _ (fun _=>aV0 ..) (hfs:=⟨aLx,trivial⟩)
abbrev kW:=Ae MP
abbrev mO:=Ad MP J4
variable (p395:kW)(f395:mO)
abbrev Mq:Aa:=[(false,.int .i64),(false,.int .i64),(false,.slice (.int .u64))]
abbrev N9:Aa:=[(true,.pair (.int .i64) (.pair (.int .i64) (.pair (.int .i64) (.pair (.int .i64) (.unit))))),(false,.int .i64)]
abbrev GT:Pat:=⟨44,[(30,.one (.v .i64)),(29,.one (.sl (.int .u64))),(0,.one (.v .i64)),(31,.one (.v .i64)),(8,.one (.ptr 1 0)),(6,.one (.ptr 0 0))],[.raw [.v .i64,.v .i64,.v .i64,.v .i64],.raw [.v .i64,.v .i64,.v .i64,.v .i64]]⟩
abbrev Yf:List (Nat×Shape):=[]
abbrev K8:List (Nat×Pat):=[(0,⟨44,[(8,.one (.ptr 1 0)),(6,.one (.ptr 0 0))],[.raw [.v .i64,.v .i64,.v .i64,.v .i64],.raw [.v .i64,.v .i64,.v .i64,.v .i64]]⟩)]
abbrev Kz:Option Pat:=(some ⟨44,[(6,.one (.ptr 0 0)),(7,.one (.v .i64))],[.raw [.v .i64,.v .i64,.v .i64,.v .i64]]⟩)
variable (w311_7:Pat.D GT->Option (Ag K8 Kz))
def Xa(p69:Bl)(f69:Bm)(p66:BB)(f66:BC){R:Type}(L:Pat.D GT->Option R)(e:Ag K8 Kz->Option R)(x:Pat.D GT):Option R:=let e2_:=(x.1.2.2.1,(x.1.2.1.getD (ah x.1.2.2.2.1) (0:Int)),());let e1_:=(f66 e2_);bif(decide (x.1.2.2.2.1<x.1.1))then(bif((decide ((0:Int)<=x.1.2.2.2.1))&&(decide (x.1.2.2.2.1<(x.1.2.1.length:Int))))then(bif(p66 e2_)then(bif(e1_.1 !=(0:Int))then(((e (.inr (((),e1_),x.2.2)))))else(L ((x.1.1,x.1.2.1,x.1.2.2.1,(aa .i64 (x.1.2.2.2.1+(1:Int))),(),(),()),x.2)))else none)else none)else(e (.inl (((),(),()),x.2)))
theorem aX4(d:Nat)(R:Type)(L:Pat.D GT->Option R)(e:Ag K8 Kz->Option R)(x:Pat.D GT):
  Bn (cf [(71,⟨BE,BF,p69,f69⟩),(85,⟨BY,BZ,p66,f66⟩)] [(58,7,LoopSpec.of GT Yf K8 Kz w311_7)]) (d+2) 58 (Bj Tryz.f58 7) GT Yf K8 Kz (R:=R) L e x=Xa p69 f69 p66 f66 L e x:=by kernel_rfl
theorem aSC(p69:Bl)(f69:Bm)(p66:BB)(f66:BC):Bf fun L e x=>Xa p69 f69 p66 f66 L e x:=by intro _ _ _ _ _ _ _ h0 hL he _;unfold Xa;repeat' (first|exact h0|exact hL _|exact he _|apply By|(apply Bz h0;intro _)|(apply BA<;>intro _))
def aIn(p69:Bl)(f69:Bm)(p66:BB)(f66:BC)(w311_7:Pat.D GT->Option (Ag K8 Kz))(a0 a1:Ab (.int .i64))(a2:Ab (.slice (.int .u64))):Option (DenS N9):=
 bif(p69 (a0,()))then(bif((f69 (a0,())).2.1 !=(0:Int))then(some (f69 (a0,())))
 else bif((decide (a1<(0:Int)))||(decide (a1>(5:Int))))then(some ((f69 (a0,())).1,(3:Int),()))
 else Vx.A3 (w311_7 (((a2.length:Int),a2,a0,(0:Int),(),(),()),((0:Int),(0:Int),(0:Int),(0:Int),()),(f69 (a0,())).1,())) fun y3=>
 Vx.A1 y3 (fun y4=>
 some (y4.2.2.1,(0:Int),())) (fun z4=>
 some (z4.2.1,z4.1.2)))
 else none
theorem aVs(x:DenS Mq):run (cf [(71,⟨BE,BF,p69,f69⟩),(85,⟨BY,BZ,p66,f66⟩)] [(58,7,LoopSpec.of GT Yf K8 Kz w311_7)]) 9 58 Tryz.f58 Mq N9 x=aIn p69 f69 p66 f66 w311_7 x.1 x.2.1 x.2.2.1:=by kernel_rfl
def aAC:GT.D->Option (Ag K8 Kz):=A6 fun L=>Xa Al.pre Al.F Ao.pre Ao.F L some
def x7(x:DenS Mq):Option (DenS N9):=aIn Al.pre Al.F Ao.pre Ao.F aAC x.1 x.2.1 x.2.2.1
def YQ:Sum:=Ai Mq N9 x7 (DenS.dflt N9)
theorem aLW:Sound Tryz.prog G1 58 YQ:=sd (cf [(71,Al),(85,Ao)] [(58,7,LoopSpec.of GT Yf K8 Kz aAC)]) 58 Tryz.f58 ⟨Dj,EP,trivial⟩ ⟨rfl,fun d=>Bw (fun L e x=>Xa Al.pre Al.F Ao.pre Ao.F L e x) (aSC Al.pre Al.F Ao.pre Ao.F) (fun _ _ _ _=>aX4 ..),trivial⟩ Mq N9 x7 _ (fun _=>aVs ..)
abbrev ZY:=Ae Mq
abbrev aJ:=Ad Mq N9
variable (p311:ZY)(f311:aJ)
abbrev Mr:Aa:=[(false,.int .i64),(false,.int .i64)]
abbrev Oa:Aa:=[(false,.int .u64),(false,.int .i64),(false,.bool)]
def aIo(p70:CZ)(f70:C0)(a0 a1:Ab (.int .i64)):Option (DenS Oa):=bif(p70 (a0,()))then(bif(a1==(1:Int))then(some ((f70 (a0,())).1,(0:Int),true,()))else bif(a1==(0:Int))then(bif(a1==(0:Int))then(some ((f70 (a0,())).1,(1:Int),true,()))else some ((0:Int),(0:Int),false,()))else bif(a1==(2:Int))then(bif(a1==(2:Int))then(some ((f70 (a0,())).1,(1:Int),true,()))else some ((0:Int),(0:Int),false,()))else bif(a1==(3:Int))then(bif(a1==(3:Int))then(some ((f70 (a0,())).1,(1:Int),true,()))else some ((0:Int),(0:Int),false,()))else bif(a1==(4:Int))then(some ((f70 (a0,())).1,(1:Int),true,()))else some ((0:Int),(0:Int),false,()))else none
theorem aVt(x:DenS Mr):run (cf [(61,⟨CV,CW,p70,f70⟩)] []) 9 205 Tryz.f205 Mr Oa x=aIo p70 f70 x.1 x.2.1:=by kernel_rfl
def x8(x:DenS Mr):Option (DenS Oa):=aIo AO.pre AO.F x.1 x.2.1
def YR:Sum:=Ai Mr Oa x8 (DenS.dflt Oa)
theorem aLX:Sound Tryz.prog G1 205 YR:=sd (cf [(61,AO)] []) 205 Tryz.f205 ⟨Ft,trivial⟩ trivial Mr Oa x8 _ (fun _=>aVt ..)
abbrev kP:=Ae Mr
abbrev mH:=Ad Mr Oa
variable (p312:kP)(f312:mH)
abbrev Ms:Aa:=[(false,.int .i64),(true,.pair (.int .i64) (.pair (.int .i64) (.pair (.int .i64) (.pair (.int .i64) (.unit))))),(false,.int .u64)]
abbrev Ob:Aa:=[(false,.int .u64),(false,.int .i64)]
def aIp(p98:I1)(f98:I4)(a0:Ab (.int .i64))(a1:Ab (.pair (.int .i64) (.pair (.int .i64) (.pair (.int .i64) (.pair (.int .i64) (.unit))))))(a2:Ab (.int .u64)):Option (DenS Ob):=let e1_:=(aa .i64 (a1.2.1-(1:Int)));bif(p98 (a0,a2,()))then(bif((f98 (a0,a2,())).2.1==(0:Int))then(some ((f98 (a0,a2,())).2.2.1,(aa .i64 ((aa .i64 ((aa .i64 ((aa .i64 ((aa .i64 (1:Int))-(1:Int)))+a1.2.2.1))-a1.2.1))+(1:Int))),()))else bif(decide ((0:Int)<=e1_))then(some ((An .u64 (f98 (a0,a2,())).2.2.1 (A4 .u64 (1:Int) e1_)),(aa .i64 ((aa .i64 ((aa .i64 ((aa .i64 ((aa .i64 (f98 (a0,a2,())).2.1)-(1:Int)))+a1.2.2.1))-a1.2.1))+(1:Int))),()))else none)else none
theorem aVu(x:DenS Ms):run (cf [(91,⟨Ey,EI,p98,f98⟩)] []) 9 63 Tryz.f63 Ms Ob x=aIp p98 f98 x.1 x.2.1 x.2.2.1:=by kernel_rfl
def x9(x:DenS Ms):Option (DenS Ob):=aIp BM.pre BM.F x.1 x.2.1 x.2.2.1
def YS:Sum:=Ai Ms Ob x9 (DenS.dflt Ob)
theorem aLY:Sound Tryz.prog G1 63 YS:=sd (cf [(91,BM)] []) 63 Tryz.f63 ⟨QZ,trivial⟩ trivial Ms Ob x9 _ (fun _=>aVu ..)
abbrev ZZ:=Ae Ms
abbrev aK:=Ad Ms Ob
variable (p313:ZZ)(f313:aK)
abbrev Mt:Aa:=[(true,.pair (.int .u64) (.pair (.int .u64) (.unit)))]
abbrev Oc:Aa:=[(false,.int .i64)]
def aIq(p178:Hc)(f178:Hf)(a0:Ab (.pair (.int .u64) (.pair (.int .u64) (.unit)))):Option (DenS Oc):=bif(a0.1 !=(0:Int))then(bif(p178 (a0.1,()))then(some ((aa .i64 ((64:Int)+(f178 (a0.1,())).1)),()))else none)else bif(p178 a0.2)then(some (f178 a0.2))else none
theorem aVv(x:DenS Mt):run (cf [(115,⟨E3,EG,p178,f178⟩)] []) 9 206 Tryz.f206 Mt Oc x=aIq p178 f178 x.1:=by kernel_rfl
def yA(x:DenS Mt):Option (DenS Oc):=aIq B4.pre B4.F x.1
def YT:Sum:=Ai Mt Oc yA (DenS.dflt Oc)
theorem aLZ:Sound Tryz.prog G1 206 YT:=sd (cf [(115,B4)] []) 206 Tryz.f206 ⟨UD,trivial⟩ trivial Mt Oc yA _ (fun _=>aVv ..)
abbrev kQ:=Ae Mt
abbrev mI:=Ad Mt Oc
variable (p314:kQ)(f314:mI)
end Vx
end
