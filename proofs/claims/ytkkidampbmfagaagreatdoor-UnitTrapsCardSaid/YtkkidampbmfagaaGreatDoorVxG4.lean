/- Part 4 of the proof. What is proved: symbolic execution of the functions, proved sound; what each function of the program computes, and that every run ends with it; what these functions compute, in plain numbers. Conditions: each theorem bears its own. -/
import Derived.Test.YtkkidampbmfagaaGreatDoorVxG3
import Derived.Test.YtkkidampbmfagaaGreatDoorProg
set_option linter.all false
set_option exponentiation.threshold 1000000
noncomputable section
namespace Vx
open Go Go.Proofs
abbrev rowsSh:Shape:=.pair (.int .i64) (.pair (.int .i64) (.pair (.int .i64) (.pair (.int .i64) .unit)))
abbrev kindsSh:Shape:=.pair (.int .u64) (.pair (.int .u64) .unit)
def k_rows:List (Aa rowsSh):=[(16,11,-14,15,()),(16,8,-126,127,()),(32,24,-126,127,()),(64,53,-1022,1023,())]
def HY:List UInt8:=[0,1,2,2,3,3,3,3,4,4,4,4,4,4,4,4,5,5,5,5,5,5,5,5,5,5,5,5,5,5,5,5,6,6,6,6,6,6,6,6,6,6,6,6,6,6,6,6,6,6,6,6,6,6,6,6,6,6,6,6,6,6,6,6,7,7,7,7,7,7,7,7,7,7,7,7,7,7,7,7,7,7,7,7,7,7,7,7,7,7,7,7,7,7,7,7,7,7,7,7,7,7,7,7,7,7,7,7,7,7,7,7,7,7,7,7,7,7,7,7,7,7,7,7,7,7,7,7,8,8,8,8,8,8,8,8,8,8,8,8,8,8,8,8,8,8,8,8,8,8,8,8,8,8,8,8,8,8,8,8,8,8,8,8,8,8,8,8,8,8,8,8,8,8,8,8,8,8,8,8,8,8,8,8,8,8,8,8,8,8,8,8,8,8,8,8,8,8,8,8,8,8,8,8,8,8,8,8,8,8,8,8,8,8,8,8,8,8,8,8,8,8,8,8,8,8,8,8,8,8,8,8,8,8,8,8,8,8,8,8,8,8,8,8,8,8,8,8,8,8,8,8,8,8,8,8]
def k_deb:List (Aa (.int .u8)):=[0,1,56,2,57,49,28,3,61,58,42,50,38,29,17,4,62,47,59,36,45,43,51,22,53,39,33,30,24,18,12,5,63,55,48,27,60,41,37,16,46,35,44,21,52,32,23,11,54,26,40,15,34,20,31,10,25,14,19,9,13,8,7,6]
def k_kinds:List (Aa kindsSh):=[(2147483648,2147483647,()),(9223372036854775808,9223372036854775807,()),(0,4294967295,()),(0,18446744073709551615,())]
def G1:List (Nat×Sigma fun τ=>List (Aa τ)):=[(0,⟨kindsSh,k_kinds⟩),(2,⟨rowsSh,k_rows⟩),(3,⟨.int .u8,k_deb⟩)]
abbrev Ak (I:Ab):=DenS I->Bool
abbrev Aj (I O:Ab):=DenS I->DenS O
@[reducible] def cf (s:List (FuncId×Sum)) (l:List (FuncId×Nat×LoopSpec)):Cfg:={ P:=Tryz.prog,sums:=s,loops:=l,globs:=G1 }
theorem sd (C:Cfg) (n:FuncId) (fn:Func) (hs:UE C.P C.globs C.sums) (hl:Si C n fn C.loops) (I O:Ab) (t:DenS I->Option (DenS O)) (d:DenS O) (h:∀ x,run C 9 n fn I O x=t x) (hls:Uu C.P C.globs C.lsums:=by exact trivial) (hfs:UU C.P C.globs C.fns:=by exact trivial) (hms:T6 C.P C.globs C.meths:=by exact trivial)
  (hm : C.P.follows .mixedOrders = true := by kernel_rfl) (hf : C.P.funcs[n]? = some fn := by kernel_rfl) (hb : (match fn.body with | some c => HG ((CL c).map Dh) | none => false) = true := by kernel_rfl) (hn : (fn.name == "runtime.NumGoroutine") = false := by kernel_rfl) : Sound C.P C.globs n (Al I O t d) :=
 aTh C 9 n fn hm hf hb hn hs hl I O t d h hls hfs hms
theorem t8 (C:Cfg) (n:FuncId) (fn:Func) (hs:UE C.P C.globs C.sums) (hl:Si C n fn C.loops) (k:LK) (I O:Ab) (t:k.D×DenS I->Option (k.B×DenS O)) (d:k.B×DenS O) (h:∀ x,OC C 9 n fn k I O x=t x) (hls:Uu C.P C.globs C.lsums:=by exact trivial) (hfs:UU C.P C.globs C.fns:=by exact trivial) (hms:T6 C.P C.globs C.meths:=by exact trivial)
  (hm : C.P.follows .mixedOrders = true := by kernel_rfl) (hf : C.P.funcs[n]? = some fn := by kernel_rfl) (hb : (match fn.body with | some c => HG ((CL c).map Dh) | none => false) = true := by kernel_rfl) (hn : (fn.name == "runtime.NumGoroutine") = false := by kernel_rfl) : SoundL C.P C.globs n (Qn k I O t d) :=
 aJN C 9 n fn hm hf hb hn hs hl k I O t d h hls hfs hms
abbrev Cm:Ab:=[(false,.int .i64)]
abbrev Cn:Ab:=[(true,.pair (.int .i64) (.pair (.int .i64) (.pair (.int .i64) (.pair (.int .i64) (.unit))))),(false,.int .i64)]
def j5 (a0:Aa (.int .i64)):Option (DenS Cn) :=
 let e1_:=((0:Int),(0:Int),(0:Int),(0:Int),())
 bif ((decide (a0<(0:Int)))||(decide (a0>=(4:Int)))) then (some (e1_,(2:Int),()))
 else bif ((decide ((0:Int)<=a0))&&(decide (a0<((4:Nat):Int)))) then (some ((Vx.k_rows.getD (Int.toNat a0) e1_),(0:Int),()))
 else none
theorem r69 (x:DenS Cm):run (cf [] []) 9 54 Tryz.f54 Cm Cn x=j5 x.1:=by kernel_rfl
def RU (x:DenS Cm):Option (DenS Cn):=j5 x.1
def Aq:Sum:=Al Cm Cn RU (DenS.dflt Cn)
theorem Ep:Sound Tryz.prog G1 54 Aq:=sd (cf [] []) 54 Tryz.f54 trivial trivial Cm Cn RU _ (fun _=>r69 ..)
abbrev BL:=Ak Cm
abbrev BO:=Aj Cm Cn
variable (p69:BL) (f69:BO)
abbrev CJ:Ab:=[(false,.int .i64),(false,.int .u64)]
abbrev CN:Ab:=[(false,.int .i64)]
def mH (p69:BL) (f69:BO) (a0:Aa (.int .i64)) (a1:Aa (.int .u64)):Option (DenS CN) :=
 bif (p69 (a0,())) then (bif ((f69 (a0,())).2.1 != (0:Int)) then (some (f69 (a0,())).2)
 else bif ((decide ((0:Int)<=(f69 (a0,())).1.1))||(!(decide ((f69 (a0,())).1.1<(64:Int))))) then (bif ((decide ((f69 (a0,())).1.1<(64:Int)))&&((AJ .u64 a1 (f69 (a0,())).1.1) != (0:Int))) then (some ((4:Int),()))
 else some ((0:Int),()))
 else none)
 else none
theorem r66 (x:DenS CJ):run (cf [(54,⟨Cm,Cn,p69,f69⟩)] []) 9 59 Tryz.f59 CJ CN x=mH p69 f69 x.1 x.2.1:=by kernel_rfl
def WO (x:DenS CJ):Option (DenS CN):=mH Aq.pre Aq.F x.1 x.2.1
def Ar:Sum:=Al CJ CN WO (DenS.dflt CN)
theorem F4:Sound Tryz.prog G1 59 Ar:=sd (cf [(54,Aq)] []) 59 Tryz.f59 ⟨Ep,trivial⟩ trivial CJ CN WO _ (fun _=>r66 ..)
abbrev Ck:=Ak CJ
abbrev Cl:=Aj CJ CN
variable (p66:Ck) (f66:Cl)
abbrev EG:Ab:=[(false,.int .i64)]
abbrev ES:Ab:=[(false,.int .u64)]
def bU (a0:Aa (.int .i64)):Option (DenS ES) :=
 bif (decide ((0:Int)<=a0)) then (some ((IntKind.wrap .u64 ((AT .u64 (1:Int) a0)-(1:Int))),()))
 else none
theorem r91 (x:DenS EG):run (cf [] []) 9 112 Tryz.f112 EG ES x=bU x.1:=by kernel_rfl
def Zx (x:DenS EG):Option (DenS ES):=bU x.1
def Bo:Sum:=Al EG ES Zx (DenS.dflt ES)
theorem L3:Sound Tryz.prog G1 112 Bo:=sd (cf [] []) 112 Tryz.f112 trivial trivial EG ES Zx _ (fun _=>r91 ..)
abbrev Ih:=Ak EG
abbrev H4:=Aj EG ES
variable (p91:Ih) (f91:H4)
abbrev JB:Ab:=[(true,.pair (.int .i64) (.pair (.int .i64) (.pair (.int .i64) (.pair (.int .i64) (.unit))))),(false,.int .u64)]
abbrev IR:Ab:=[(false,.bool),(false,.int .u64),(false,.int .u64)]
def jC (p91:Ih) (f91:H4) (a0:Aa (.pair (.int .i64) (.pair (.int .i64) (.pair (.int .i64) (.pair (.int .i64) (.unit)))))) (a1:Aa (.int .u64)):Option (DenS IR) :=
 let e5_:=(IntKind.wrap .i64 (a0.2.1-(1:Int)))
 let e1_:=(e5_,())
 let e2_:=((IntKind.wrap .i64 (a0.1-a0.2.1)),())
 let e3_:=e5_
 let e4_:=(IntKind.wrap .i64 (a0.1-(1:Int)))
 bif (decide ((0:Int)<=e4_)) then (bif (decide ((0:Int)<=e3_)) then (bif (p91 e2_) then (bif (p91 e1_) then (some (((AJ .u64 a1 e4_) != (0:Int)),(AQ .u64 (AJ .u64 a1 e3_) (f91 e2_).1),(AQ .u64 a1 (f91 e1_).1),()))
 else none)
 else none)
 else none)
 else none
theorem r90 (x:DenS JB):run (cf [(112,⟨EG,ES,p91,f91⟩)] []) 9 111 Tryz.f111 JB IR x=jC p91 f91 x.1 x.2.1:=by kernel_rfl
def W9 (x:DenS JB):Option (DenS IR):=jC Bo.pre Bo.F x.1 x.2.1
def Dr:Sum:=Al JB IR W9 (DenS.dflt IR)
theorem qO:Sound Tryz.prog G1 111 Dr:=sd (cf [(112,Bo)] []) 111 Tryz.f111 ⟨L3,trivial⟩ trivial JB IR W9 _ (fun _=>r90 ..)
abbrev XF:=Ak JB
abbrev XN:=Aj JB IR
variable (p90:XF) (f90:XN)
abbrev DL:Ab:=[(false,.int .i64),(false,.int .u64)]
abbrev DR:Ab:=[(false,.int .i64),(false,.int .i64)]
def UV (p66:Ck) (f66:Cl) (p90:XF) (f90:XN) (p91:Ih) (f91:H4) (a0:Aa (.int .i64)) (a1:Aa (.int .u64)):Option (DenS DR) :=
 let e10_:=(Vx.k_rows.getD (Int.toNat a0) ((0:Int),(0:Int),(0:Int),(0:Int),()))
 let e9_:=(f90 (e10_,a1,()))
 let e8_:=((IntKind.wrap .i64 (e10_.1-e10_.2.1)),())
 let e1_:=(e9_.2.1==(f91 e8_).1)
 let e2_:=(p91 e8_)
 let e3_:=(IntKind.wrap .i64 (e10_.2.1-(2:Int)))
 let e4_:=(e9_.2.2.1==(0:Int))
 let e5_:=(e9_.2.1==(0:Int))
 let e6_:=e9_
 let e7_:=e10_
 bif (p66 (a0,a1,())) then (bif ((f66 (a0,a1,())).1 != (0:Int)) then (some ((0:Int),(f66 (a0,a1,()))))
 else bif ((decide ((0:Int)<=a0))&&(decide (a0<((4:Nat):Int)))) then (bif (p90 (e7_,a1,())) then (bif e2_ then (bif (e1_&&e4_) then (bif e6_.1 then (some ((IntKind.wrap .i64 ((11:Int)-(9:Int))),(0:Int),()))
 else some ((9:Int),(0:Int),()))
 else bif e2_ then (bif ((decide ((0:Int)<=e3_))||(!(decide (e6_.2.1=(f91 ((IntKind.wrap .i64 (e7_.1-e7_.2.1)),())).1)))) then (bif (e1_&&((AJ .u64 e6_.2.2.1 e3_) != (0:Int))) then (some ((1:Int),(0:Int),()))
 else bif e2_ then (bif e1_ then (some ((0:Int),(0:Int),()))
 else bif (e5_&&e4_) then (bif e6_.1 then (some ((IntKind.wrap .i64 ((11:Int)-(6:Int))),(0:Int),()))
 else some ((6:Int),(0:Int),()))
 else bif e5_ then (bif e6_.1 then (some ((IntKind.wrap .i64 ((11:Int)-(7:Int))),(0:Int),()))
 else some ((7:Int),(0:Int),()))
 else bif e6_.1 then (some ((IntKind.wrap .i64 ((11:Int)-(8:Int))),(0:Int),()))
 else some ((8:Int),(0:Int),()))
 else none)
 else none)
 else none)
 else none)
 else none)
 else none)
 else none
theorem r65 (x:DenS DL):run (cf [(59,⟨CJ,CN,p66,f66⟩),(111,⟨JB,IR,p90,f90⟩),(112,⟨EG,ES,p91,f91⟩)] []) 9 55 Tryz.f55 DL DR x=UV p66 f66 p90 f90 p91 f91 x.1 x.2.1:=by kernel_rfl
def UJ (x:DenS DL):Option (DenS DR):=UV Ar.pre Ar.F Dr.pre Dr.F Bo.pre Bo.F x.1 x.2.1
def AE:Sum:=Al DL DR UJ (DenS.dflt DR)
theorem Hn:Sound Tryz.prog G1 55 AE:=sd (cf [(59,Ar),(111,Dr),(112,Bo)] []) 55 Tryz.f55 ⟨F4,qO,L3,trivial⟩ trivial DL DR UJ _ (fun _=>r65 ..)
abbrev Ey:=Ak DL
abbrev Eq:=Aj DL DR
variable (p65:Ey) (f65:Eq)
abbrev IN:Ab:=[(true,.pair (.int .i64) (.pair (.int .i64) (.pair (.int .i64) (.pair (.int .i64) (.unit)))))]
abbrev IW:Ab:=[(false,.int .u64)]
def aGz (a0:Aa (.pair (.int .i64) (.pair (.int .i64) (.pair (.int .i64) (.pair (.int .i64) (.unit)))))):Option (DenS IW) :=
 some ((0:Int),())
theorem aIF (x:DenS IN):run (cf [] []) 9 104 Tryz.f104 IN IW x=aGz x.1:=by kernel_rfl
def aD9 (x:DenS IN):Option (DenS IW):=aGz x.1
def IM:Sum:=Al IN IW aD9 (DenS.dflt IW)
theorem uK:Sound Tryz.prog G1 104 IM:=sd (cf [] []) 104 Tryz.f104 trivial trivial IN IW aD9 _ (fun _=>aIF ..)
abbrev kX:=Ak IN
abbrev eI:=Aj IN IW
variable (p116:kX) (f116:eI)
abbrev PM:Ab:=[(true,.pair (.int .i64) (.pair (.int .i64) (.pair (.int .i64) (.pair (.int .i64) (.unit)))))]
abbrev OZ:Ab:=[(false,.int .u64)]
def aGE (a0:Aa (.pair (.int .i64) (.pair (.int .i64) (.pair (.int .i64) (.pair (.int .i64) (.unit)))))):Option (DenS OZ) :=
 let e1_:=(IntKind.wrap .i64 (a0.2.1-(2:Int)))
 bif (decide ((0:Int)<=e1_)) then (some ((AT .u64 (1:Int) e1_),()))
 else none
theorem aRa (x:DenS PM):run (cf [] []) 9 113 Tryz.f113 PM OZ x=aGE x.1:=by kernel_rfl
def aGj (x:DenS PM):Option (DenS OZ):=aGE x.1
def kP:Sum:=Al PM OZ aGj (DenS.dflt OZ)
theorem aOT:Sound Tryz.prog G1 113 kP:=sd (cf [] []) 113 Tryz.f113 trivial trivial PM OZ aGj _ (fun _=>aRa ..)
abbrev aA1:=Ak PM
abbrev aCD:=Aj PM OZ
variable (p117:aA1) (f117:aCD)
abbrev Ic:Ab:=[(true,.pair (.int .i64) (.pair (.int .i64) (.pair (.int .i64) (.pair (.int .i64) (.unit))))),(false,.bool),(false,.int .u64),(false,.int .u64)]
abbrev H6:Ab:=[(false,.int .u64)]
def aBA (a0:Aa (.pair (.int .i64) (.pair (.int .i64) (.pair (.int .i64) (.pair (.int .i64) (.unit)))))) (a1:Aa (.bool)) (a2 a3:Aa (.int .u64)):Option (DenS H6) :=
 let e3_:=(IntKind.wrap .i64 (a0.2.1-(1:Int)))
 let e1_:=(AX .u64 (AT .u64 a2 e3_) a3)
 let e2_:=(IntKind.wrap .i64 (a0.1-(1:Int)))
 bif (decide ((0:Int)<=e3_)) then (bif a1 then (bif (decide ((0:Int)<=e2_)) then (some ((AX .u64 e1_ (AT .u64 (1:Int) e2_)),()))
 else none)
 else some (e1_,()))
 else none
theorem aMC (x:DenS Ic):run (cf [] []) 9 149 Tryz.f149 Ic H6 x=aBA x.1 x.2.1 x.2.2.1 x.2.2.2.1:=by kernel_rfl
def aHU (x:DenS Ic):Option (DenS H6):=aBA x.1 x.2.1 x.2.2.1 x.2.2.2.1
def Gl:Sum:=Al Ic H6 aHU (DenS.dflt H6)
theorem cZ:Sound Tryz.prog G1 149 Gl:=sd (cf [] []) 149 Tryz.f149 trivial trivial Ic H6 aHU _ (fun _=>aMC ..)
abbrev Xx:=Ak Ic
abbrev V0:=Aj Ic H6
variable (p140:Xx) (f140:V0)
abbrev DJ:Ab:=[(false,.int .i64)]
abbrev DE:Ab:=[(false,.int .u64),(false,.int .i64)]
def t70 (p116:kX) (f116:eI) (p117:aA1) (f117:aCD) (p69:BL) (f69:BO) (p91:Ih) (f91:H4) (p140:Xx) (f140:V0) (a0:Aa (.int .i64)):Option (DenS DE) :=
 let e2_:=((IntKind.wrap .i64 ((f69 (a0,())).1.1-(f69 (a0,())).1.2.1)),())
 let e1_:=((f69 (a0,())).1,false,(IntKind.wrap .u64 ((f91 e2_).1-(f116 ((f69 (a0,())).1,())).1)),(f117 ((f69 (a0,())).1,())))
 bif (p69 (a0,())) then (bif ((f69 (a0,())).2.1 != (0:Int)) then (some ((0:Int),(f69 (a0,())).2))
 else bif (p91 e2_) then (bif (p116 ((f69 (a0,())).1,())) then (bif (p117 ((f69 (a0,())).1,())) then (bif (p140 e1_) then (some ((f140 e1_).1,(0:Int),()))
 else none)
 else none)
 else none)
 else none)
 else none
theorem r70 (x:DenS DJ):run (cf [(104,⟨IN,IW,p116,f116⟩),(113,⟨PM,OZ,p117,f117⟩),(54,⟨Cm,Cn,p69,f69⟩),(112,⟨EG,ES,p91,f91⟩),(149,⟨Ic,H6,p140,f140⟩)] []) 9 56 Tryz.f56 DJ DE x=t70 p116 f116 p117 f117 p69 f69 p91 f91 p140 f140 x.1:=by kernel_rfl
def YL (x:DenS DJ):Option (DenS DE):=t70 IM.pre IM.F kP.pre kP.F Aq.pre Aq.F Bo.pre Bo.F Gl.pre Gl.F x.1
def AB:Sum:=Al DJ DE YL (DenS.dflt DE)
theorem GM:Sound Tryz.prog G1 56 AB:=sd (cf [(104,IM),(113,kP),(54,Aq),(112,Bo),(149,Gl)] []) 56 Tryz.f56 ⟨uK,aOT,Ep,L3,cZ,trivial⟩ trivial DJ DE YL _ (fun _=>r70 ..)
abbrev D9:=Ak DJ
abbrev D4:=Aj DJ DE
variable (p70:D9) (f70:D4)
abbrev Fe:Ab:=[(false,.int .i64),(false,.int .u64)]
abbrev Fk:Ab:=[(false,.bool),(false,.int .u64),(false,.int .u64),(false,.int .i64)]
def gE (p66:Ck) (f66:Cl) (p90:XF) (f90:XN) (a0:Aa (.int .i64)) (a1:Aa (.int .u64)):Option (DenS Fk) :=
 let e2_:=((Vx.k_rows.getD (Int.toNat a0) ((0:Int),(0:Int),(0:Int),(0:Int),())),a1,())
 let e1_:=(f90 e2_)
 bif (p66 (a0,a1,())) then (bif ((f66 (a0,a1,())).1 != (0:Int)) then (some (false,(0:Int),(0:Int),(f66 (a0,a1,()))))
 else bif (bif (decide ((0:Int)<=a0)) then (decide (a0<((4:Nat):Int))) else false) then (bif (p90 e2_) then (some (e1_.1,e1_.2.1,e1_.2.2.1,(0:Int),()))
 else none)
 else none)
 else none
theorem r98 (x:DenS Fe):run (cf [(59,⟨CJ,CN,p66,f66⟩),(111,⟨JB,IR,p90,f90⟩)] []) 9 119 Tryz.f119 Fe Fk x=gE p66 f66 p90 f90 x.1 x.2.1:=by kernel_rfl
def WG (x:DenS Fe):Option (DenS Fk):=gE Ar.pre Ar.F Dr.pre Dr.F x.1 x.2.1
def Bq:Sum:=Al Fe Fk WG (DenS.dflt Fk)
theorem Sk:Sound Tryz.prog G1 119 Bq:=sd (cf [(59,Ar),(111,Dr)] []) 119 Tryz.f119 ⟨F4,qO,trivial⟩ trivial Fe Fk WG _ (fun _=>r98 ..)
abbrev Ju:=Ak Fe
abbrev Iw:=Aj Fe Fk
variable (p98:Ju) (f98:Iw)
abbrev PJ:Ab:=[(false,.int .i64),(true,.pair (.int .i64) (.pair (.int .i64) (.pair (.int .i64) (.pair (.int .i64) (.unit))))),(false,.int .u64)]
abbrev NI:Ab:=[(true,.pair (.bool) (.pair (.int .u64) (.pair (.int .i64) (.unit))))]
def eH (p98:Ju) (f98:Iw) (a0:Aa (.int .i64)) (a1:Aa (.pair (.int .i64) (.pair (.int .i64) (.pair (.int .i64) (.pair (.int .i64) (.unit)))))) (a2:Aa (.int .u64)):Option (DenS NI) :=
 let e1_:=(IntKind.wrap .i64 ((IntKind.wrap .i64 (a1.2.2.1-a1.2.1))+(1:Int)))
 let e2_:=(IntKind.wrap .i64 (a1.2.1-(1:Int)))
 bif (p98 (a0,a2,())) then (bif (decide ((f98 (a0,a2,())).2.1>(0:Int))) then (bif (decide ((0:Int)<=e2_)) then (some (((f98 (a0,a2,())).1,(AX .u64 (f98 (a0,a2,())).2.2.1 (AT .u64 (1:Int) e2_)),(IntKind.wrap .i64 (e1_+(IntKind.wrap .i64 ((IntKind.wrap .i64 (f98 (a0,a2,())).2.1)-(1:Int))))),()),()))
 else none)
 else some (((f98 (a0,a2,())).1,(f98 (a0,a2,())).2.2.1,e1_,()),()))
 else none
theorem r72 (x:DenS PJ):run (cf [(119,⟨Fe,Fk,p98,f98⟩)] []) 9 58 Tryz.f58 PJ NI x=eH p98 f98 x.1 x.2.1 x.2.2.1:=by kernel_rfl
def W6 (x:DenS PJ):Option (DenS NI):=eH Bq.pre Bq.F x.1 x.2.1 x.2.2.1
def P3:Sum:=Al PJ NI W6 (DenS.dflt NI)
theorem aKX:Sound Tryz.prog G1 58 P3:=sd (cf [(119,Bq)] []) 58 Tryz.f58 ⟨Sk,trivial⟩ trivial PJ NI W6 _ (fun _=>r72 ..)
abbrev tT:=Ak PJ
abbrev oM:=Aj PJ NI
variable (p72:tT) (f72:oM)
abbrev HQ:Ab:=[(true,.pair (.int .u64) (.pair (.int .u64) (.unit))),(false,.int .i64)]
abbrev Iz:Ab:=[(true,.pair (.int .u64) (.pair (.int .u64) (.unit)))]
def Z2 (a0:Aa (.pair (.int .u64) (.pair (.int .u64) (.unit)))) (a1:Aa (.int .i64)):Option (DenS Iz) :=
 let e1_:=(IntKind.wrap .i64 (a1-(64:Int)))
 let e2_:=(IntKind.wrap .i64 ((64:Int)-a1))
 bif (decide (a1<=(0:Int))) then (some ((a0.1,a0.2),()))
 else bif (decide (a1>=(128:Int))) then (some (((0:Int),(0:Int),()),()))
 else bif (decide (a1>=(64:Int))) then (bif (decide ((0:Int)<=e1_)) then (some (((AT .u64 a0.2.1 e1_),(0:Int),()),()))
 else none)
 else bif (decide ((0:Int)<=a1)) then (bif (decide ((0:Int)<=e2_)) then (bif (decide ((0:Int)<=a1)) then (some (((AX .u64 (AT .u64 a0.1 a1) (AJ .u64 a0.2.1 e2_)),(AT .u64 a0.2.1 a1),()),()))
 else none)
 else none)
 else none
theorem aQp (x:DenS HQ):run (cf [] []) 9 114 Tryz.f114 HQ Iz x=Z2 x.1 x.2.1:=by kernel_rfl
def O1 (x:DenS HQ):Option (DenS Iz):=Z2 x.1 x.2.1
def AG:Sum:=Al HQ Iz O1 (DenS.dflt Iz)
theorem aEj:Sound Tryz.prog G1 114 AG:=sd (cf [] []) 114 Tryz.f114 trivial trivial HQ Iz O1 _ (fun _=>aQp ..)
abbrev Xn:=Ak HQ
abbrev WY:=Aj HQ Iz
variable (p119:Xn) (f119:WY)
abbrev Jx:Ab:=[(true,.pair (.int .u64) (.pair (.int .u64) (.unit))),(false,.int .i64)]
abbrev Lo:Ab:=[(true,.pair (.int .u64) (.pair (.int .u64) (.unit)))]
def aS (a0:Aa (.pair (.int .u64) (.pair (.int .u64) (.unit)))) (a1:Aa (.int .i64)):Option (DenS Lo) :=
 let e1_:=(IntKind.wrap .i64 (a1-(64:Int)))
 let e2_:=(IntKind.wrap .i64 ((64:Int)-a1))
 bif (decide (a1<=(0:Int))) then (some ((a0.1,a0.2),()))
 else bif (decide (a1>=(128:Int))) then (some (((0:Int),(0:Int),()),()))
 else bif (decide (a1>=(64:Int))) then (bif (decide ((0:Int)<=e1_)) then (some (((0:Int),(AJ .u64 a0.1 e1_),()),()))
 else none)
 else bif (decide ((0:Int)<=a1)) then (bif (decide ((0:Int)<=a1)) then (bif (decide ((0:Int)<=e2_)) then (some (((AJ .u64 a0.1 a1),(AX .u64 (AJ .u64 a0.2.1 a1) (AT .u64 a0.1 e2_)),()),()))
 else none)
 else none)
 else none
theorem aJo (x:DenS Jx):run (cf [] []) 9 115 Tryz.f115 Jx Lo x=aS x.1 x.2.1:=by kernel_rfl
def Ur (x:DenS Jx):Option (DenS Lo):=aS x.1 x.2.1
def AL:Sum:=Al Jx Lo Ur (DenS.dflt Lo)
theorem aTN:Sound Tryz.prog G1 115 AL:=sd (cf [] []) 115 Tryz.f115 trivial trivial Jx Lo Ur _ (fun _=>aJo ..)
abbrev vY:=Ak Jx
abbrev vG:=Aj Jx Lo
variable (p120:vY) (f120:vG)
abbrev E5:Ab:=RY
abbrev Fy:Ab:=Us
def Ay:Sum:=aDY
theorem UK:Sound Tryz.prog G1 165 Ay:=aIw Tryz.func165 (by kernel_rfl) (by kernel_rfl) (by kernel_rfl) (by kernel_rfl)
abbrev Df:=Ak E5
abbrev C8:=Aj E5 Fy
variable (p155:Df) (f155:C8)
abbrev Jn:Ab:=[(true,.pair (.int .u64) (.pair (.int .u64) (.unit))),(true,.pair (.int .u64) (.pair (.int .u64) (.unit)))]
abbrev LX:Ab:=[(true,.pair (.int .u64) (.pair (.int .u64) (.unit))),(false,.int .u64)]
def bO (p155:Df) (f155:C8) (a0 a1:Aa (.pair (.int .u64) (.pair (.int .u64) (.unit)))):Option (DenS LX) :=
 let e2_:=(a0.1,a1.1,(f155 (a0.2.1,a1.2.1,(0:Int),())).2)
 let e1_:=(f155 e2_)
 bif (p155 (a0.2.1,a1.2.1,(0:Int),())) then (bif (p155 e2_) then (some ((e1_.1,(f155 (a0.2.1,a1.2.1,(0:Int),())).1,()),e1_.2))
 else none)
 else none
theorem aJa (x:DenS Jn):run (cf [(165,⟨E5,Fy,p155,f155⟩)] []) 9 116 Tryz.f116 Jn LX x=bO p155 f155 x.1 x.2.1:=by kernel_rfl
def XW (x:DenS Jn):Option (DenS LX):=bO Ay.pre Ay.F x.1 x.2.1
def MC:Sum:=Al Jn LX XW (DenS.dflt LX)
theorem aH5:Sound Tryz.prog G1 116 MC:=sd (cf [(165,Ay)] []) 116 Tryz.f116 ⟨UK,trivial⟩ trivial Jn LX XW _ (fun _=>aJa ..)
abbrev wP:=Ak Jn
abbrev vD:=Aj Jn LX
variable (p121:wP) (f121:vD)
abbrev GX:Ab:=[(true,.pair (.int .u64) (.pair (.int .u64) (.unit))),(true,.pair (.int .u64) (.pair (.int .u64) (.unit)))]
abbrev Hq:Ab:=[(false,.int .i64)]
def gR (a0 a1:Aa (.pair (.int .u64) (.pair (.int .u64) (.unit)))):Option (DenS Hq) :=
 bif ((a0.1==a1.1)&&(a0.2.1==a1.2.1)) then (some ((0:Int),()))
 else bif ((decide (a0.1<a1.1))||((a0.1==a1.1)&&(decide (a0.2.1<a1.2.1)))) then (some ((-(1:Int)),()))
 else some ((1:Int),())
theorem aI8 (x:DenS GX):run (cf [] []) 9 117 Tryz.f117 GX Hq x=gR x.1 x.2.1:=by kernel_rfl
def Yn (x:DenS GX):Option (DenS Hq):=gR x.1 x.2.1
def Dz:Sum:=Al GX Hq Yn (DenS.dflt Hq)
theorem aCr:Sound Tryz.prog G1 117 Dz:=sd (cf [] []) 117 Tryz.f117 trivial trivial GX Hq Yn _ (fun _=>aI8 ..)
abbrev Sm:=Ak GX
abbrev RL:=Aj GX Hq
variable (p123:Sm) (f123:RL)
abbrev KD:Ab:=RY
abbrev Qj:Ab:=Us
def A8:Sum:=aAT
theorem cG:Sound Tryz.prog G1 166 A8:=aUi Tryz.func166 (by kernel_rfl) (by kernel_rfl) (by kernel_rfl) (by kernel_rfl)
abbrev GL:=Ak KD
abbrev GY:=Aj KD Qj
variable (p157:GL) (f157:GY)
abbrev JA:Ab:=[(true,.pair (.int .u64) (.pair (.int .u64) (.unit))),(true,.pair (.int .u64) (.pair (.int .u64) (.unit)))]
abbrev K2:Ab:=[(true,.pair (.int .u64) (.pair (.int .u64) (.unit))),(false,.int .u64)]
def lO (p157:GL) (f157:GY) (a0 a1:Aa (.pair (.int .u64) (.pair (.int .u64) (.unit)))):Option (DenS K2) :=
 let e2_:=(a0.1,a1.1,(f157 (a0.2.1,a1.2.1,(0:Int),())).2)
 let e1_:=(f157 e2_)
 bif (p157 (a0.2.1,a1.2.1,(0:Int),())) then (bif (p157 e2_) then (some ((e1_.1,(f157 (a0.2.1,a1.2.1,(0:Int),())).1,()),e1_.2))
 else none)
 else none
theorem aPp (x:DenS JA):run (cf [(166,⟨KD,Qj,p157,f157⟩)] []) 9 118 Tryz.f118 JA K2 x=lO p157 f157 x.1 x.2.1:=by kernel_rfl
def ZY (x:DenS JA):Option (DenS K2):=lO A8.pre A8.F x.1 x.2.1
def BF:Sum:=Al JA K2 ZY (DenS.dflt K2)
theorem aT0:Sound Tryz.prog G1 118 BF:=sd (cf [(166,A8)] []) 118 Tryz.f118 ⟨cG,trivial⟩ trivial JA K2 ZY _ (fun _=>aPp ..)
abbrev rN:=Ak JA
abbrev sZ:=Aj JA K2
variable (p124:rN) (f124:sZ)
abbrev Oh:Ab:=[(true,.pair (.int .i64) (.pair (.int .i64) (.pair (.int .i64) (.pair (.int .i64) (.unit)))))]
abbrev PI:Ab:=[(false,.int .u64)]
def aHQ (p91:Ih) (f91:H4) (a0:Aa (.pair (.int .i64) (.pair (.int .i64) (.pair (.int .i64) (.pair (.int .i64) (.unit)))))):Option (DenS PI) :=
 let e1_:=((IntKind.wrap .i64 (a0.1-a0.2.1)),())
 bif (p91 e1_) then (some (f91 e1_))
 else none
theorem aQq (x:DenS Oh):run (cf [(112,⟨EG,ES,p91,f91⟩)] []) 9 103 Tryz.f103 Oh PI x=aHQ p91 f91 x.1:=by kernel_rfl
def aGF (x:DenS Oh):Option (DenS PI):=aHQ Bo.pre Bo.F x.1
def aI:Sum:=Al Oh PI aGF (DenS.dflt PI)
theorem aTQ:Sound Tryz.prog G1 103 aI:=sd (cf [(112,Bo)] []) 103 Tryz.f103 ⟨L3,trivial⟩ trivial Oh PI aGF _ (fun _=>aQq ..)
abbrev aFg:=Ak Oh
abbrev aBT:=Aj Oh PI
variable (p154:aFg) (f154:aBT)
abbrev EI:Ab:=[(false,.int .i64),(false,.bool)]
abbrev E8:Ab:=[(false,.int .u64),(false,.int .i64)]
def aBx (p154:aFg) (f154:aBT) (p116:kX) (f116:eI) (p69:BL) (f69:BO) (p91:Ih) (f91:H4) (p140:Xx) (f140:V0) (a0:Aa (.int .i64)) (a1:Aa (.bool)):Option (DenS E8) :=
 let e2_:=((IntKind.wrap .i64 ((f69 (a0,())).1.1-(f69 (a0,())).1.2.1)),())
 let e1_:=((f69 (a0,())).1,a1,(IntKind.wrap .u64 ((f91 e2_).1-(f154 ((f69 (a0,())).1,())).1)),(f116 ((f69 (a0,())).1,())))
 bif (p69 (a0,())) then (bif ((f69 (a0,())).2.1 != (0:Int)) then (some ((0:Int),(f69 (a0,())).2))
 else bif (p91 e2_) then (bif (p154 ((f69 (a0,())).1,())) then (bif (p116 ((f69 (a0,())).1,())) then (bif (p140 e1_) then (some ((f140 e1_).1,(0:Int),()))
 else none)
 else none)
 else none)
 else none)
 else none
theorem aQy (x:DenS EI):run (cf [(103,⟨Oh,PI,p154,f154⟩),(104,⟨IN,IW,p116,f116⟩),(54,⟨Cm,Cn,p69,f69⟩),(112,⟨EG,ES,p91,f91⟩),(149,⟨Ic,H6,p140,f140⟩)] []) 9 38 Tryz.f38 EI E8 x=aBx p154 f154 p116 f116 p69 f69 p91 f91 p140 f140 x.1 x.2.1:=by kernel_rfl
def WC (x:DenS EI):Option (DenS E8):=aBx aI.pre aI.F IM.pre IM.F Aq.pre Aq.F Bo.pre Bo.F Gl.pre Gl.F x.1 x.2.1
def A1:Sum:=Al EI E8 WC (DenS.dflt E8)
theorem RQ:Sound Tryz.prog G1 38 A1:=sd (cf [(103,aI),(104,IM),(54,Aq),(112,Bo),(149,Gl)] []) 38 Tryz.f38 ⟨aTQ,uK,Ep,L3,cZ,trivial⟩ trivial EI E8 WC _ (fun _=>aQy ..)
abbrev GT:=Ak EI
abbrev GC:=Aj EI E8
variable (p118:GT) (f118:GC)
abbrev Rs:Ab:=[(false,.int .i64)]
abbrev Qw:Ab:=[(false,.int .i64)]
def iZ (a0:Aa (.int .i64)):Option (DenS Qw) :=
 bif ((decide (a0<(0:Int)))||(decide (a0>(5:Int)))) then (some ((3:Int),()))
 else some ((0:Int),())
theorem aH3 (x:DenS Rs):run (cf [] []) 9 167 Tryz.f167 Rs Qw x=iZ x.1:=by kernel_rfl
def ZO (x:DenS Rs):Option (DenS Qw):=iZ x.1
def P9:Sum:=Al Rs Qw ZO (DenS.dflt Qw)
theorem aTx:Sound Tryz.prog G1 167 P9:=sd (cf [] []) 167 Tryz.f167 trivial trivial Rs Qw ZO _ (fun _=>aH3 ..)
abbrev aD0:=Ak Rs
abbrev aEf:=Aj Rs Qw
variable (p147:aD0) (f147:aEf)
abbrev I3:Ab:=[(false,.int .i64),(false,.int .i64)]
abbrev JM:Ab:=[(true,.pair (.int .i64) (.pair (.int .i64) (.pair (.int .i64) (.pair (.int .i64) (.unit))))),(false,.int .i64)]
def lC (p69:BL) (f69:BO) (p147:aD0) (f147:aEf) (a0 a1:Aa (.int .i64)):Option (DenS JM) :=
 bif (p69 (a0,())) then (bif ((f69 (a0,())).2.1 != (0:Int)) then (some (f69 (a0,())))
 else bif (p147 (a1,())) then (some ((f69 (a0,())).1,(f147 (a1,()))))
 else none)
 else none
theorem aJy (x:DenS I3):run (cf [(54,⟨Cm,Cn,p69,f69⟩),(167,⟨Rs,Qw,p147,f147⟩)] []) 9 121 Tryz.f121 I3 JM x=lC p69 f69 p147 f147 x.1 x.2.1:=by kernel_rfl
def WK (x:DenS I3):Option (DenS JM):=lC Aq.pre Aq.F P9.pre P9.F x.1 x.2.1
def EL:Sum:=Al I3 JM WK (DenS.dflt JM)
theorem qI:Sound Tryz.prog G1 121 EL:=sd (cf [(54,Aq),(167,P9)] []) 121 Tryz.f121 ⟨Ep,aTx,trivial⟩ trivial I3 JM WK _ (fun _=>aJy ..)
abbrev Tw:=Ak I3
abbrev UO:=Aj I3 JM
variable (p105:Tw) (f105:UO)
abbrev Bt:Ab:=[(false,.slice (.int .u64))]
abbrev Bs:Ab:=[(false,.slice (.int .u64))]
abbrev Ib:Pat:=⟨21,[(0,.one (.sl (.int .u64))),(3,.one (.v .i64))],[]⟩
abbrev cP:List (Nat×Shape):=[]
abbrev J8:List (Nat×Pat):=[(0,⟨21,[(0,.one (.sl (.int .u64))),(3,.one (.v .i64))],[]⟩)]
abbrev Ki:Option Pat:=none
variable (w173_2:Pat.D Ib->Option (Ah J8 Ki))
def Tj {R:Type} (L:Pat.D Ib->Option R) (e:Ah J8 Ki->Option R) (x:Pat.D Ib):Option R :=
 let e1_:=(IntKind.wrap .i64 (x.1.2.1-(1:Int)))
 bif (((decide ((0:Int)<=e1_))&&(decide (e1_<(x.1.1.length:Int))))||(!(decide (x.1.2.1>(0:Int))))) then (bif ((decide (x.1.2.1>(0:Int)))&&((x.1.1.getD (Int.toNat e1_) (0:Int))==(0:Int))) then (((L ((x.1.1,e1_,()),()))))
 else (e (.inl (x.1,()))))
 else none
theorem aIo (d:Nat) (R:Type) (L:Pat.D Ib->Option R) (e:Ah J8 Ki->Option R) (x:Pat.D Ib) :
  Bz (cf [] [(169,2,LoopSpec.of Ib cP J8 Ki w173_2)]) (d+2) 169 (Bw Tryz.f169 2) Ib cP J8 Ki (R:=R) L e x=Tj L e x:=by kernel_rfl
theorem zR:Bu fun L e x=>Tj L e x:=by intro _ _ _ _ _ _ _ h0 hL he _; unfold Tj; repeat' (first | exact h0 | exact hL _ | exact he _ | apply B3 | (apply BY h0; intro _) | (apply BV <;> intro _))
def aY (w173_2:Pat.D Ib->Option (Ah J8 Ki)) (a0:Aa (.slice (.int .u64))):Option (DenS Bs) :=
 Vx.A3 (w173_2 ((a0,(a0.length:Int),()),())) fun y0 =>
 Vx.A6 y0 (fun y1 =>
 bif ((decide ((0:Int)<=y1.1.2.1))&&(decide (y1.1.2.1<=(y1.1.1.length:Int)))) then (some (((y1.1.1.take (Int.toNat y1.1.2.1)).drop (Int.toNat (0:Int))),()))
 else none) (fun z1 =>
 none)
theorem aKV (x:DenS Bt):run (cf [] [(169,2,LoopSpec.of Ib cP J8 Ki w173_2)]) 9 169 Tryz.f169 Bt Bs x=aY w173_2 x.1:=by kernel_rfl
def lM:Ib.D->Option (Ah J8 Ki):=Bf fun L=>Tj L some
def SG (x:DenS Bt):Option (DenS Bs):=aY lM x.1
def Ag:Sum:=Al Bt Bs SG (DenS.dflt Bs)
theorem Ek:Sound Tryz.prog G1 169 Ag:=sd (cf [] [(169,2,LoopSpec.of Ib cP J8 Ki lM)]) 169 Tryz.f169 trivial ⟨rfl,fun d=>BT (fun L e x=>Tj L e x) (zR) (fun _ _ _ _=>aIo ..),trivial⟩ Bt Bs SG _ (fun _=>aKV ..)
abbrev A7:=Ak Bt
abbrev A5:=Aj Bt Bs
variable (p173:A7) (f173:A5)
abbrev H0:Ab:=[(false,.slice (.int .u64))]
abbrev Hg:Ab:=[(false,.slice (.int .u64))]
def lJ (p173:A7) (f173:A5) (a0:Aa (.slice (.int .u64))):Option (DenS Hg) :=
 let e1_:=(List.replicate (Int.toNat ((f173 (a0,())).1.length:Int)) (0:Int))
 bif (p173 (a0,())) then (bif ((decide ((0:Int)<=((f173 (a0,())).1.length:Int)))&&(decide ((((f173 (a0,())).1.length:Int)*(8:Int))<=(140737488355328:Int)))) then (some ((((f173 (a0,())).1.take e1_.length)++(e1_.drop (f173 (a0,())).1.length)),()))
 else none)
 else none
theorem aKI (x:DenS H0):run (cf [(169,⟨Bt,Bs,p173,f173⟩)] []) 9 168 Tryz.f168 H0 Hg x=lJ p173 f173 x.1:=by kernel_rfl
def YJ (x:DenS H0):Option (DenS Hg):=lJ Ag.pre Ag.F x.1
def CR:Sum:=Al H0 Hg YJ (DenS.dflt Hg)
theorem rK:Sound Tryz.prog G1 168 CR:=sd (cf [(169,Ag)] []) 168 Tryz.f168 ⟨Ek,trivial⟩ trivial H0 Hg YJ _ (fun _=>aKI ..)
abbrev Sg:=Ak H0
abbrev SN:=Aj H0 Hg
variable (p146:Sg) (f146:SN)
abbrev Fi:Ab:=[(false,.slice (.int .u64))]
abbrev Fl:Ab:=[(false,.slice (.int .u64))]
def jD (p146:Sg) (f146:SN) (a0:Aa (.slice (.int .u64))):Option (DenS Fl) :=
 bif (p146 (a0,())) then (some (f146 (a0,())))
 else none
theorem aN5 (x:DenS Fi):run (cf [(168,⟨H0,Hg,p146,f146⟩)] []) 9 122 Tryz.f122 Fi Fl x=jD p146 f146 x.1:=by kernel_rfl
def SZ (x:DenS Fi):Option (DenS Fl):=jD CR.pre CR.F x.1
def Bh:Sum:=Al Fi Fl SZ (DenS.dflt Fl)
theorem Y6:Sound Tryz.prog G1 122 Bh:=sd (cf [(168,CR)] []) 122 Tryz.f122 ⟨rK,trivial⟩ trivial Fi Fl SZ _ (fun _=>aN5 ..)
abbrev Gw:=Ak Fi
abbrev GD:=Aj Fi Fl
variable (p102:Gw) (f102:GD)
abbrev FO:Ab:=[(false,.int .u64)]
abbrev Fo:Ab:=[(false,.int .i64)]
def fU (a0:Aa (.int .u64)):Option (DenS Fo) :=
 let e10_:=(AJ .u64 (AJ .u64 a0 (32:Int)) (16:Int))
 let e1_:=(IntKind.wrap .u8 (AJ .u64 e10_ (8:Int)))
 let e2_:=(IntKind.wrap .u8 e10_)
 let e3_:=(IntKind.wrap .u8 (AJ .u64 (AJ .u64 a0 (32:Int)) (8:Int)))
 let e4_:=(IntKind.wrap .u8 (AJ .u64 (AJ .u64 a0 (16:Int)) (8:Int)))
 let e5_:=(IntKind.wrap .u8 (AJ .u64 a0 (32:Int)))
 let e6_:=(IntKind.wrap .u8 (AJ .u64 a0 (16:Int)))
 let e7_:=(IntKind.wrap .u8 (AJ .u64 a0 (8:Int)))
 let e8_:=(IntKind.wrap .i64 ((32:Int)+(16:Int)))
 let e9_:=(IntKind.wrap .i64 ((0:Int)+(16:Int)))
 bif (decide (a0>=(4294967296:Int))) then (bif (decide ((AJ .u64 a0 (32:Int))>=(65536:Int))) then (bif (decide (e10_>=(256:Int))) then (bif ((decide ((0:Int)<=e1_))&&(decide (e1_<(256:Int)))) then (some ((IntKind.wrap .i64 ((IntKind.wrap .i64 (e8_+(8:Int)))+(IntKind.wrap .i64 ((UInt8.toNat (Vx.HY.getD (Int.toNat e1_) (0:UInt8))):Int)))),()))
 else none)
 else bif ((decide ((0:Int)<=e2_))&&(decide (e2_<(256:Int)))) then (some ((IntKind.wrap .i64 (e8_+(IntKind.wrap .i64 ((UInt8.toNat (Vx.HY.getD (Int.toNat e2_) (0:UInt8))):Int)))),()))
 else none)
 else bif (decide ((AJ .u64 a0 (32:Int))>=(256:Int))) then (bif ((decide ((0:Int)<=e3_))&&(decide (e3_<(256:Int)))) then (some ((IntKind.wrap .i64 ((IntKind.wrap .i64 ((32:Int)+(8:Int)))+(IntKind.wrap .i64 ((UInt8.toNat (Vx.HY.getD (Int.toNat e3_) (0:UInt8))):Int)))),()))
 else none)
 else bif ((decide ((0:Int)<=e5_))&&(decide (e5_<(256:Int)))) then (some ((IntKind.wrap .i64 ((32:Int)+(IntKind.wrap .i64 ((UInt8.toNat (Vx.HY.getD (Int.toNat e5_) (0:UInt8))):Int)))),()))
 else none)
 else bif (decide (a0>=(65536:Int))) then (bif (decide ((AJ .u64 a0 (16:Int))>=(256:Int))) then (bif ((decide ((0:Int)<=e4_))&&(decide (e4_<(256:Int)))) then (some ((IntKind.wrap .i64 ((IntKind.wrap .i64 (e9_+(8:Int)))+(IntKind.wrap .i64 ((UInt8.toNat (Vx.HY.getD (Int.toNat e4_) (0:UInt8))):Int)))),()))
 else none)
 else bif ((decide ((0:Int)<=e6_))&&(decide (e6_<(256:Int)))) then (some ((IntKind.wrap .i64 (e9_+(IntKind.wrap .i64 ((UInt8.toNat (Vx.HY.getD (Int.toNat e6_) (0:UInt8))):Int)))),()))
 else none)
 else bif (decide (a0>=(256:Int))) then (bif ((decide ((0:Int)<=e7_))&&(decide (e7_<(256:Int)))) then (some ((IntKind.wrap .i64 ((IntKind.wrap .i64 ((0:Int)+(8:Int)))+(IntKind.wrap .i64 ((UInt8.toNat (Vx.HY.getD (Int.toNat e7_) (0:UInt8))):Int)))),()))
 else none)
 else bif ((decide ((0:Int)<=(IntKind.wrap .u8 a0)))&&(decide ((IntKind.wrap .u8 a0)<(256:Int)))) then (some ((IntKind.wrap .i64 ((0:Int)+(IntKind.wrap .i64 ((UInt8.toNat (Vx.HY.getD (Int.toNat (IntKind.wrap .u8 a0)) (0:UInt8))):Int)))),()))
 else none
theorem aPu (x:DenS FO):run (cf [] []) 9 83 Tryz.f83 FO Fo x=fU x.1:=by kernel_rfl
def ZC (x:DenS FO):Option (DenS Fo):=fU x.1
def Bx:Sum:=Al FO Fo ZC (DenS.dflt Fo)
theorem Zf:Sound Tryz.prog G1 83 Bx:=sd (cf [] []) 83 Tryz.f83 trivial trivial FO Fo ZC _ (fun _=>aPu ..)
abbrev HO:=Ak FO
abbrev In:=Aj FO Fo
variable (p178:HO) (f178:In)
abbrev FZ:Ab:=[(false,.slice (.int .u64))]
abbrev FY:Ab:=[(false,.int .i64)]
def dD (p173:A7) (f173:A5) (p178:HO) (f178:In) (a0:Aa (.slice (.int .u64))):Option (DenS FY) :=
 let e3_:=(IntKind.wrap .i64 (((f173 (a0,())).1.length:Int)-(1:Int)))
 let e1_:=(((f173 (a0,())).1.getD (Int.toNat e3_) (0:Int)),())
 let e2_:=e3_
 bif (p173 (a0,())) then (bif (((f173 (a0,())).1.length:Int)==(0:Int)) then (some ((0:Int),()))
 else bif ((decide ((0:Int)<=e2_))&&(decide (e2_<((f173 (a0,())).1.length:Int)))) then (bif (p178 e1_) then (some ((IntKind.wrap .i64 ((IntKind.wrap .i64 ((64:Int)*e2_))+(f178 e1_).1)),()))
 else none)
 else none)
 else none
theorem aQY (x:DenS FZ):run (cf [(169,⟨Bt,Bs,p173,f173⟩),(83,⟨FO,Fo,p178,f178⟩)] []) 9 123 Tryz.f123 FZ FY x=dD p173 f173 p178 f178 x.1:=by kernel_rfl
def TF (x:DenS FZ):Option (DenS FY):=dD Ag.pre Ag.F Bx.pre Bx.F x.1
def Ch:Sum:=Al FZ FY TF (DenS.dflt FY)
theorem YS:Sound Tryz.prog G1 123 Ch:=sd (cf [(169,Ag),(83,Bx)] []) 123 Tryz.f123 ⟨Ek,Zf,trivial⟩ trivial FZ FY TF _ (fun _=>aQY ..)
abbrev Lu:=Ak FZ
abbrev LG:=Aj FZ FY
variable (p151:Lu) (f151:LG)
abbrev Lz:Ab:=[(false,.int .i64),(false,.bool)]
abbrev Kd:Ab:=[(false,.int .u64),(false,.int .i64),(false,.int .i64)]
def i4 (p118:GT) (f118:GC) (a0:Aa (.int .i64)) (a1:Aa (.bool)):Option (DenS Kd) :=
 bif (p118 (a0,a1,())) then (some ((f118 (a0,a1,())).1,(0:Int),(f118 (a0,a1,())).2))
 else none
theorem aOk (x:DenS Lz):run (cf [(38,⟨EI,E8,p118,f118⟩)] []) 9 124 Tryz.f124 Lz Kd x=i4 p118 f118 x.1 x.2.1:=by kernel_rfl
def Zo (x:DenS Lz):Option (DenS Kd):=i4 A1.pre A1.F x.1 x.2.1
def Hr:Sum:=Al Lz Kd Zo (DenS.dflt Kd)
theorem aFB:Sound Tryz.prog G1 124 Hr:=sd (cf [(38,A1)] []) 124 Tryz.f124 ⟨RQ,trivial⟩ trivial Lz Kd Zo _ (fun _=>aOk ..)
abbrev aA:=Ak Lz
abbrev fL:=Aj Lz Kd
variable (p156:aA) (f156:fL)
abbrev NW:Ab:=[(true,.pair (.bool) (.pair (.slice (.int .u64)) (.pair (.int .i64) (.pair (.bool) (.unit)))))]
abbrev Qf:Ab:=[(false,.int .i64)]
def aT (p151:Lu) (f151:LG) (a0:Aa (.pair (.bool) (.pair (.slice (.int .u64)) (.pair (.int .i64) (.pair (.bool) (.unit)))))):Option (DenS Qf) :=
 bif (p151 (a0.2.1,())) then (some ((IntKind.wrap .i64 ((IntKind.wrap .i64 (a0.2.2.1+(f151 (a0.2.1,())).1))-(1:Int))),()))
 else none
theorem aKS (x:DenS NW):run (cf [(123,⟨FZ,FY,p151,f151⟩)] []) 9 170 Tryz.f170 NW Qf x=aT p151 f151 x.1:=by kernel_rfl
def YE (x:DenS NW):Option (DenS Qf):=aT Ch.pre Ch.F x.1
def UH:Sum:=Al NW Qf YE (DenS.dflt Qf)
theorem aVc:Sound Tryz.prog G1 170 UH:=sd (cf [(123,Ch)] []) 170 Tryz.f170 ⟨YS,trivial⟩ trivial NW Qf YE _ (fun _=>aKS ..)
abbrev aB8:=Ak NW
abbrev xZ:=Aj NW Qf
variable (p148:aB8) (f148:xZ)
abbrev HT:Ab:=[(true,.slice (.int .u64))]
abbrev HX:Ab:=[(true,.slice (.int .u64))]
abbrev HF:Pat:=⟨21,[(0,.one (.own 0)),(3,.one (.v .i64))],[.arr (.int .u64)]⟩
abbrev fK:List (Nat×Shape):=[]
abbrev Mf:List (Nat×Pat):=[(0,⟨21,[(0,.one (.own 0)),(3,.one (.v .i64))],[.arr (.int .u64)]⟩)]
abbrev KU:Option Pat:=none
variable (w1173_2:Pat.D HF->Option (Ah Mf KU))
def Vv {R:Type} (L:Pat.D HF->Option R) (e:Ah Mf KU->Option R) (x:Pat.D HF):Option R :=
 let e1_:=(IntKind.wrap .i64 (x.1.2.1-(1:Int)))
 bif (((decide ((0:Int)<=e1_))&&(decide (e1_<(x.2.1.length:Int))))||(!(decide (x.1.2.1>(0:Int))))) then (bif ((decide (x.1.2.1>(0:Int)))&&((x.2.1.getD (Int.toNat e1_) (0:Int))==(0:Int))) then (((L (((),e1_,()),x.2))))
 else (e (.inl (((),x.1.2),x.2))))
 else none
theorem aM0 (d:Nat) (R:Type) (L:Pat.D HF->Option R) (e:Ah Mf KU->Option R) (x:Pat.D HF) :
  Bz ({ cf [] [(169,2,LoopSpec.of HF fK Mf KU w1173_2)] with keep:=true }) (d+2) 169 (Bw Tryz.f169 2) HF fK Mf KU (R:=R) L e x=Vv L e x:=by kernel_rfl
theorem aBE:Bu fun L e x=>Vv L e x:=by intro _ _ _ _ _ _ _ h0 hL he _; unfold Vv; repeat' (first | exact h0 | exact hL _ | exact he _ | apply B3 | (apply BY h0; intro _) | (apply BV <;> intro _))
def eW (w1173_2:Pat.D HF->Option (Ah Mf KU)) (a0:Aa (.slice (.int .u64))):Option (DenS HX) :=
 Vx.A3 (w1173_2 (((),(a0.length:Int),()),a0,())) fun y0 =>
 Vx.A6 y0 (fun y1 =>
 bif ((decide ((0:Int)<=y1.1.2.1))&&(decide (y1.1.2.1<=(y1.2.1.length:Int)))) then (some ((y1.2.1.take (Int.toNat y1.1.2.1)),()))
 else none) (fun z1 =>
 none)
theorem aI1 (x:DenS HT):run ({ cf [] [(169,2,LoopSpec.of HF fK Mf KU w1173_2)] with keep:=true }) 9 169 Tryz.f169 HT HX x=eW w1173_2 x.1:=by kernel_rfl
def jH:HF.D->Option (Ah Mf KU):=Bf fun L=>Vv L some
def X1 (x:DenS HT):Option (DenS HX):=eW jH x.1
def Cf:Sum:=Al HT HX X1 (DenS.dflt HX)
theorem aBt:Sound Tryz.prog G1 169 Cf:=sd ({ cf [] [(169,2,LoopSpec.of HF fK Mf KU jH)] with keep:=true }) 169 Tryz.f169 trivial ⟨rfl,fun d=>BT (fun L e x=>Vv L e x) (aBE) (fun _ _ _ _=>aM0 ..),trivial⟩ HT HX X1 _ (fun _=>aI1 ..)
abbrev OG:=Ak HT
abbrev PP:=Aj HT HX
variable (p1173:OG) (f1173:PP)
abbrev Rt:Ab:=[(false,.slice (.int .u64)),(false,.int .i64)]
abbrev MS:Ab:=[(true,.slice (.int .u64))]
abbrev Ig:Pat:=⟨66,[(25,.one (.v .i64)),(0,.one (.sl (.int .u64))),(5,.one (.v .i64)),(6,.one (.v .i64)),(26,.one (.v .i64)),(7,.one (.own 0))],[.arr (.int .u64)]⟩
abbrev fA:List (Nat×Shape):=[]
abbrev Lv:List (Nat×Pat):=[(0,⟨66,[(7,.one (.own 0))],[.arr (.int .u64)]⟩)]
abbrev Kn:Option Pat:=none
variable (w1171_7:Pat.D Ig->Option (Ah Lv Kn))
def Ty (p1173:OG) (f1173:PP) (p173:A7) (f173:A5) {R:Type} (L:Pat.D Ig->Option R) (e:Ah Lv Kn->Option R) (x:Pat.D Ig):Option R :=
 let e10_:=(IntKind.wrap .i64 (x.1.2.2.1+x.1.2.2.2.2.1))
 let e8_:=(x.2.1.set (Int.toNat x.1.2.2.2.2.1) (AJ .u64 (x.1.2.1.getD (Int.toNat e10_) (0:Int)) x.1.2.2.2.1))
 let e1_:=((decide ((0:Int)<=x.1.2.2.2.2.1))&&(decide (x.1.2.2.2.2.1<(e8_.length:Int))))
 let e2_:=e8_
 let e9_:=(IntKind.wrap .i64 (e10_+(1:Int)))
 let e3_:=(decide (e9_<(x.1.2.1.length:Int)))
 let e4_:=(x.1.1,x.1.2.1,x.1.2.2.1,x.1.2.2.2.1,(IntKind.wrap .i64 (x.1.2.2.2.2.1+(1:Int))),(),())
 let e5_:=e9_
 let e6_:=e10_
 let e7_:=(IntKind.wrap .i64 ((64:Int)-x.1.2.2.2.1))
 bif (decide (x.1.2.2.2.2.1<x.1.1)) then (bif ((decide ((0:Int)<=e6_))&&(decide (e6_<(x.1.2.1.length:Int)))) then (bif (decide ((0:Int)<=x.1.2.2.2.1)) then (bif ((decide ((0:Int)<=x.1.2.2.2.2.1))&&(decide (x.1.2.2.2.2.1<(x.2.1.length:Int)))) then (bif e3_ then (bif e1_ then (bif ((decide ((0:Int)<=e5_))&&e3_) then (bif (decide ((0:Int)<=e7_)) then (bif e1_ then (((L (e4_,(e2_.set (Int.toNat x.1.2.2.2.2.1) (AX .u64 (e2_.getD (Int.toNat x.1.2.2.2.2.1) (0:Int)) (AT .u64 (x.1.2.1.getD (Int.toNat e5_) (0:Int)) e7_))),()))))
 else none)
 else none)
 else none)
 else none)
 else (L (e4_,e2_,())))
 else none)
 else none)
 else none)
 else (e (.inl (((),()),x.2)))
theorem aJE (d:Nat) (R:Type) (L:Pat.D Ig->Option R) (e:Ah Lv Kn->Option R) (x:Pat.D Ig) :
  Bz ({ cf [(169,⟨HT,HX,p1173,f1173⟩),(169,⟨Bt,Bs,p173,f173⟩)] [(301,7,LoopSpec.of Ig fA Lv Kn w1171_7)] with keep:=true }) (d+2) 301 (Bw Tryz.f301 7) Ig fA Lv Kn (R:=R) L e x=Ty p1173 f1173 p173 f173 L e x:=by kernel_rfl
theorem aGp (p1173:OG) (f1173:PP) (p173:A7) (f173:A5):Bu fun L e x=>Ty p1173 f1173 p173 f173 L e x:=by intro _ _ _ _ _ _ _ h0 hL he _; unfold Ty; repeat' (first | exact h0 | exact hL _ | exact he _ | apply B3 | (apply BY h0; intro _) | (apply BV <;> intro _))
def dJ (p1173:OG) (f1173:PP) (p173:A7) (f173:A5) (w1171_7:Pat.D Ig->Option (Ah Lv Kn)) (a0:Aa (.slice (.int .u64))) (a1:Aa (.int .i64)):Option (DenS MS) :=
 let e3_:=(IntKind.wrap .i64 (((f173 (a0,())).1.length:Int)-(BD .i64 a1 (64:Int))))
 let e1_:=(List.replicate (Int.toNat e3_) (0:Int))
 let e2_:=e3_
 bif (p173 (a0,())) then (bif (decide ((BD .i64 a1 (64:Int))>=((f173 (a0,())).1.length:Int))) then (some ([],()))
 else bif ((decide ((0:Int)<=e2_))&&(decide ((e2_*(8:Int))<=(140737488355328:Int)))) then (Vx.A3 (w1171_7 (((e1_.length:Int),(f173 (a0,())).1,(BD .i64 a1 (64:Int)),(Int.tmod a1 (64:Int)),(0:Int),(),()),e1_,())) fun y3 =>
 Vx.A6 y3 (fun y4 =>
 bif (p1173 y4.2) then (some (f1173 y4.2))
 else none) (fun z4 =>
 none))
 else none)
 else none
theorem aVe (x:DenS Rt):run ({ cf [(169,⟨HT,HX,p1173,f1173⟩),(169,⟨Bt,Bs,p173,f173⟩)] [(301,7,LoopSpec.of Ig fA Lv Kn w1171_7)] with keep:=true }) 9 301 Tryz.f301 Rt MS x=dJ p1173 f1173 p173 f173 w1171_7 x.1 x.2.1:=by kernel_rfl
def iT:Ig.D->Option (Ah Lv Kn):=Bf fun L=>Ty Cf.pre Cf.F Ag.pre Ag.F L some
def ZS (x:DenS Rt):Option (DenS MS):=dJ Cf.pre Cf.F Ag.pre Ag.F iT x.1 x.2.1
def Rj:Sum:=Al Rt MS ZS (DenS.dflt MS)
theorem aIV:Sound Tryz.prog G1 301 Rj:=sd ({ cf [(169,Cf),(169,Ag)] [(301,7,LoopSpec.of Ig fA Lv Kn iT)] with keep:=true }) 301 Tryz.f301 ⟨aBt,Ek,trivial⟩ ⟨rfl,fun d=>BT (fun L e x=>Ty Cf.pre Cf.F Ag.pre Ag.F L e x) (aGp Cf.pre Cf.F Ag.pre Ag.F) (fun _ _ _ _=>aJE ..),trivial⟩ Rt MS ZS _ (fun _=>aVe ..)
abbrev aDF:=Ak Rt
abbrev aCj:=Aj Rt MS
variable (p1171:aDF) (f1171:aCj)
abbrev HL:Ab:=[(false,.slice (.int .u64)),(false,.int .i64)]
abbrev H1:Ab:=[(false,.slice (.int .u64))]
abbrev HH:Pat:=⟨66,[(25,.one (.v .i64)),(0,.one (.sl (.int .u64))),(5,.one (.v .i64)),(6,.one (.v .i64)),(26,.one (.v .i64)),(7,.one (.own 0))],[.arr (.int .u64)]⟩
abbrev Z9:List (Nat×Shape):=[]
abbrev J2:List (Nat×Pat):=[(0,⟨66,[(7,.one (.own 0))],[.arr (.int .u64)]⟩)]
abbrev Lj:Option Pat:=none
variable (w171_7:Pat.D HH->Option (Ah J2 Lj))
def Ut (p173:A7) (f173:A5) {R:Type} (L:Pat.D HH->Option R) (e:Ah J2 Lj->Option R) (x:Pat.D HH):Option R :=
 let e10_:=(IntKind.wrap .i64 (x.1.2.2.1+x.1.2.2.2.2.1))
 let e8_:=(x.2.1.set (Int.toNat x.1.2.2.2.2.1) (AJ .u64 (x.1.2.1.getD (Int.toNat e10_) (0:Int)) x.1.2.2.2.1))
 let e1_:=((decide ((0:Int)<=x.1.2.2.2.2.1))&&(decide (x.1.2.2.2.2.1<(e8_.length:Int))))
 let e2_:=e8_
 let e9_:=(IntKind.wrap .i64 (e10_+(1:Int)))
 let e3_:=(decide (e9_<(x.1.2.1.length:Int)))
 let e4_:=(x.1.1,x.1.2.1,x.1.2.2.1,x.1.2.2.2.1,(IntKind.wrap .i64 (x.1.2.2.2.2.1+(1:Int))),(),())
 let e5_:=e9_
 let e6_:=e10_
 let e7_:=(IntKind.wrap .i64 ((64:Int)-x.1.2.2.2.1))
 bif (decide (x.1.2.2.2.2.1<x.1.1)) then (bif ((decide ((0:Int)<=e6_))&&(decide (e6_<(x.1.2.1.length:Int)))) then (bif (decide ((0:Int)<=x.1.2.2.2.1)) then (bif ((decide ((0:Int)<=x.1.2.2.2.2.1))&&(decide (x.1.2.2.2.2.1<(x.2.1.length:Int)))) then (bif e3_ then (bif e1_ then (bif ((decide ((0:Int)<=e5_))&&e3_) then (bif (decide ((0:Int)<=e7_)) then (bif e1_ then (((L (e4_,(e2_.set (Int.toNat x.1.2.2.2.2.1) (AX .u64 (e2_.getD (Int.toNat x.1.2.2.2.2.1) (0:Int)) (AT .u64 (x.1.2.1.getD (Int.toNat e5_) (0:Int)) e7_))),()))))
 else none)
 else none)
 else none)
 else none)
 else (L (e4_,e2_,())))
 else none)
 else none)
 else none)
 else (e (.inl (((),()),x.2)))
theorem aLz (d:Nat) (R:Type) (L:Pat.D HH->Option R) (e:Ah J2 Lj->Option R) (x:Pat.D HH) :
  Bz (cf [(169,⟨Bt,Bs,p173,f173⟩)] [(301,7,LoopSpec.of HH Z9 J2 Lj w171_7)]) (d+2) 301 (Bw Tryz.f301 7) HH Z9 J2 Lj (R:=R) L e x=Ut p173 f173 L e x:=by kernel_rfl
theorem aA4 (p173:A7) (f173:A5):Bu fun L e x=>Ut p173 f173 L e x:=by intro _ _ _ _ _ _ _ h0 hL he _; unfold Ut; repeat' (first | exact h0 | exact hL _ | exact he _ | apply B3 | (apply BY h0; intro _) | (apply BV <;> intro _))
def bT (p173:A7) (f173:A5) (w171_7:Pat.D HH->Option (Ah J2 Lj)) (a0:Aa (.slice (.int .u64))) (a1:Aa (.int .i64)):Option (DenS H1) :=
 let e3_:=(IntKind.wrap .i64 (((f173 (a0,())).1.length:Int)-(BD .i64 a1 (64:Int))))
 let e1_:=(List.replicate (Int.toNat e3_) (0:Int))
 let e2_:=e3_
 bif (p173 (a0,())) then (bif (decide ((BD .i64 a1 (64:Int))>=((f173 (a0,())).1.length:Int))) then (some ([],()))
 else bif ((decide ((0:Int)<=e2_))&&(decide ((e2_*(8:Int))<=(140737488355328:Int)))) then (Vx.A3 (w171_7 (((e1_.length:Int),(f173 (a0,())).1,(BD .i64 a1 (64:Int)),(Int.tmod a1 (64:Int)),(0:Int),(),()),e1_,())) fun y3 =>
 Vx.A6 y3 (fun y4 =>
 bif (p173 y4.2) then (some (f173 y4.2))
 else none) (fun z4 =>
 none))
 else none)
 else none
theorem aSs (x:DenS HL):run (cf [(169,⟨Bt,Bs,p173,f173⟩)] [(301,7,LoopSpec.of HH Z9 J2 Lj w171_7)]) 9 301 Tryz.f301 HL H1 x=bT p173 f173 w171_7 x.1 x.2.1:=by kernel_rfl
def i7:HH.D->Option (Ah J2 Lj):=Bf fun L=>Ut Ag.pre Ag.F L some
def Tg (x:DenS HL):Option (DenS H1):=bT Ag.pre Ag.F i7 x.1 x.2.1
def CS:Sum:=Al HL H1 Tg (DenS.dflt H1)
theorem oG:Sound Tryz.prog G1 301 CS:=sd (cf [(169,Ag)] [(301,7,LoopSpec.of HH Z9 J2 Lj i7)]) 301 Tryz.f301 ⟨Ek,trivial⟩ ⟨rfl,fun d=>BT (fun L e x=>Ut Ag.pre Ag.F L e x) (aA4 Ag.pre Ag.F) (fun _ _ _ _=>aLz ..),trivial⟩ HL H1 Tg _ (fun _=>aSs ..)
abbrev So:=Ak HL
abbrev Sy:=Aj HL H1
variable (p171:So) (f171:Sy)
abbrev Gp:Ab:=[(false,.int .u64)]
abbrev G5:Ab:=[(false,.int .i64)]
def bB (a0:Aa (.int .u64)):Option (DenS G5) :=
 let e1_:=(AJ .u64 (IntKind.wrap .u64 ((AQ .u64 a0 (IntKind.wrap .u64 ((0:Int)-a0)))*(285870213051353865:Int))) (58:Int))
 bif (a0==(0:Int)) then (some ((64:Int),()))
 else bif (Vx.wL ((decide ((0:Int)<=e1_))&&(decide (e1_<((64:Nat):Int))))) then (some ((IntKind.wrap .i64 (Vx.k_deb.getD (Int.toNat e1_) (0:Int))),()))
 else none
theorem r92 (x:DenS Gp):run (cf [] []) 9 127 Tryz.f127 Gp G5 x=bB x.1:=by kernel_rfl
def Yo (x:DenS Gp):Option (DenS G5):=bB x.1
def BK:Sum:=Al Gp G5 Yo (DenS.dflt G5)
theorem tM:Sound Tryz.prog G1 127 BK:=sd (cf [] []) 127 Tryz.f127 trivial trivial Gp G5 Yo _ (fun _=>r92 ..)
abbrev IX:=Ak Gp
abbrev JJ:=Aj Gp G5
variable (p92:IX) (f92:JJ)
abbrev Nx:Ab:=[(false,.slice (.int .u64)),(false,.int .i64)]
abbrev M6:Ab:=[(false,.bool)]
abbrev Ht:Pat:=⟨25,[(9,.one (.v .i64)),(8,.one (.sl (.int .u64))),(1,.one (.v .i64)),(10,.one (.v .i64))],[]⟩
abbrev Z6:List (Nat×Shape):=[]
abbrev Mn:List (Nat×Pat):=[(0,⟨25,[],[]⟩)]
abbrev LQ:Option Pat:=(some ⟨25,[(4,.one (.bool))],[]⟩)
variable (w184_2:Pat.D Ht->Option (Ah Mn LQ))
def VK (p173:A7) (f173:A5) (p92:IX) (f92:JJ) {R:Type} (L:Pat.D Ht->Option R) (e:Ah Mn LQ->Option R) (x:Pat.D Ht):Option R :=
 let e2_:=(x.1.2.1.getD (Int.toNat x.1.2.2.2.1) (0:Int))
 let e1_:=(e2_,())
 bif (decide (x.1.2.2.2.1<x.1.1)) then (bif ((decide ((0:Int)<=x.1.2.2.2.1))&&(decide (x.1.2.2.2.1<(x.1.2.1.length:Int)))) then (bif (e2_ != (0:Int)) then (bif (p92 e1_) then (((e (.inr (((decide ((IntKind.wrap .i64 ((IntKind.wrap .i64 ((64:Int)*x.1.2.2.2.1))+(f92 e1_).1))>=x.1.2.2.1)),()),())))))
 else none)
 else (L ((x.1.1,x.1.2.1,x.1.2.2.1,(IntKind.wrap .i64 (x.1.2.2.2.1+(1:Int))),()),())))
 else none)
 else (e (.inl ((),())))
theorem aLm (d:Nat) (R:Type) (L:Pat.D Ht->Option R) (e:Ah Mn LQ->Option R) (x:Pat.D Ht) :
  Bz (cf [(169,⟨Bt,Bs,p173,f173⟩),(127,⟨Gp,G5,p92,f92⟩)] [(302,2,LoopSpec.of Ht Z6 Mn LQ w184_2)]) (d+2) 302 (Bw Tryz.f302 2) Ht Z6 Mn LQ (R:=R) L e x=VK p173 f173 p92 f92 L e x:=by kernel_rfl
theorem aFR (p173:A7) (f173:A5) (p92:IX) (f92:JJ):Bu fun L e x=>VK p173 f173 p92 f92 L e x:=by intro _ _ _ _ _ _ _ h0 hL he _; unfold VK; repeat' (first | exact h0 | exact hL _ | exact he _ | apply B3 | (apply BY h0; intro _) | (apply BV <;> intro _))
def cN (p173:A7) (f173:A5) (p92:IX) (f92:JJ) (w184_2:Pat.D Ht->Option (Ah Mn LQ)) (a0:Aa (.slice (.int .u64))) (a1:Aa (.int .i64)):Option (DenS M6) :=
 bif (p173 (a0,())) then (Vx.A3 (w184_2 ((((f173 (a0,())).1.length:Int),(f173 (a0,())).1,a1,(0:Int),()),())) fun y1 =>
 Vx.A6 y1 (fun y2 =>
 some (true,())) (fun z2 =>
 some z2.1))
 else none
theorem aTJ (x:DenS Nx):run (cf [(169,⟨Bt,Bs,p173,f173⟩),(127,⟨Gp,G5,p92,f92⟩)] [(302,2,LoopSpec.of Ht Z6 Mn LQ w184_2)]) 9 302 Tryz.f302 Nx M6 x=cN p173 f173 p92 f92 w184_2 x.1 x.2.1:=by kernel_rfl
def Z8:Ht.D->Option (Ah Mn LQ):=Bf fun L=>VK Ag.pre Ag.F BK.pre BK.F L some
def VY (x:DenS Nx):Option (DenS M6):=cN Ag.pre Ag.F BK.pre BK.F Z8 x.1 x.2.1
def Qk:Sum:=Al Nx M6 VY (DenS.dflt M6)
theorem aJw:Sound Tryz.prog G1 302 Qk:=sd (cf [(169,Ag),(127,BK)] [(302,2,LoopSpec.of Ht Z6 Mn LQ Z8)]) 302 Tryz.f302 ⟨Ek,tM,trivial⟩ ⟨rfl,fun d=>BT (fun L e x=>VK Ag.pre Ag.F BK.pre BK.F L e x) (aFR Ag.pre Ag.F BK.pre BK.F) (fun _ _ _ _=>aLm ..),trivial⟩ Nx M6 VY _ (fun _=>aTJ ..)
abbrev aHL:=Ak Nx
abbrev aEC:=Aj Nx M6
variable (p184:aHL) (f184:aEC)
abbrev N1:Ab:=[(false,.slice (.int .u64)),(false,.int .i64)]
abbrev Oy:Ab:=[(false,.slice (.int .u64)),(false,.int .i64)]
def aZ (p1171:aDF) (f1171:aCj) (p171:So) (f171:Sy) (p184:aHL) (f184:aEC) (a0:Aa (.slice (.int .u64))) (a1:Aa (.int .i64)):Option (DenS Oy) :=
 let e1_:=(decide ((0:Int)<((f1171 (a0,a1,())).1.length:Int)))
 bif (decide (a1<(0:Int))) then (some ([],(7:Int),()))
 else bif (p1171 (a0,a1,())) then (bif (p184 (a0,a1,())) then (bif (!(f184 (a0,a1,())).1) then (bif (((f1171 (a0,a1,())).1.length:Int)==(0:Int)) then (some (((1:Int)::[]),(0:Int),()))
 else bif e1_ then (bif e1_ then (some (((f1171 (a0,a1,())).1.set (Int.toNat (0:Int)) (AX .u64 ((f1171 (a0,a1,())).1.getD (Int.toNat (0:Int)) (0:Int)) (1:Int))),(0:Int),()))
 else none)
 else none)
 else some ((f1171 (a0,a1,())).1,(0:Int),()))
 else none)
 else none
theorem aIE (x:DenS N1):run (cf [(301,⟨Rt,MS,p1171,f1171⟩),(301,⟨HL,H1,p171,f171⟩),(302,⟨Nx,M6,p184,f184⟩)] []) 9 246 Tryz.f246 N1 Oy x=aZ p1171 f1171 p171 f171 p184 f184 x.1 x.2.1:=by kernel_rfl
def TE (x:DenS N1):Option (DenS Oy):=aZ Rj.pre Rj.F CS.pre CS.F Qk.pre Qk.F x.1 x.2.1
def Vy:Sum:=Al N1 Oy TE (DenS.dflt Oy)
theorem aRl:Sound Tryz.prog G1 246 Vy:=sd (cf [(301,Rj),(301,CS),(302,Qk)] []) 246 Tryz.f246 ⟨aIV,oG,aJw,trivial⟩ trivial N1 Oy TE _ (fun _=>aIE ..)
abbrev aHv:=Ak N1
abbrev aGq:=Aj N1 Oy
variable (p175:aHv) (f175:aGq)
abbrev IK:Ab:=[(false,.slice (.int .u64)),(false,.int .i64)]
abbrev IV:Ab:=[(false,.slice (.int .u64))]
abbrev Ie:Pat:=⟨56,[(26,.one (.v .i64)),(25,.one (.sl (.int .u64))),(5,.one (.v .i64)),(6,.one (.v .i64)),(27,.one (.v .i64)),(7,.one (.own 0))],[.arr (.int .u64)]⟩
abbrev gD:List (Nat×Shape):=[]
abbrev Ka:List (Nat×Pat):=[(0,⟨56,[(7,.one (.own 0))],[.arr (.int .u64)]⟩)]
abbrev LO:Option Pat:=none
variable (w186_7:Pat.D Ie->Option (Ah Ka LO))
def U4 (p173:A7) (f173:A5) {R:Type} (L:Pat.D Ie->Option R) (e:Ah Ka LO->Option R) (x:Pat.D Ie):Option R :=
 let e6_:=(IntKind.wrap .i64 (x.1.2.2.1+x.1.2.2.2.2.1))
 let e5_:=(Int.toNat e6_)
 let e7_:=(x.1.2.1.getD (Int.toNat x.1.2.2.2.2.1) (0:Int))
 let e1_:=(x.2.1.set e5_ (AX .u64 (x.2.1.getD e5_ (0:Int)) (AT .u64 e7_ x.1.2.2.2.1)))
 let e2_:=((decide ((0:Int)<=e6_))&&(decide (e6_<(x.2.1.length:Int))))
 let e3_:=(IntKind.wrap .i64 (e6_+(1:Int)))
 let e4_:=(IntKind.wrap .i64 ((64:Int)-x.1.2.2.2.1))
 bif (decide (x.1.2.2.2.2.1<x.1.1)) then (bif ((decide ((0:Int)<=x.1.2.2.2.2.1))&&(decide (x.1.2.2.2.2.1<(x.1.2.1.length:Int)))) then (bif e2_ then (bif (decide ((0:Int)<=x.1.2.2.2.1)) then (bif e2_ then (bif (decide ((0:Int)<=e4_)) then (bif ((decide ((0:Int)<=e3_))&&(decide (e3_<(e1_.length:Int)))) then (((L ((x.1.1,x.1.2.1,x.1.2.2.1,x.1.2.2.2.1,(IntKind.wrap .i64 (x.1.2.2.2.2.1+(1:Int))),(),()),(e1_.set (Int.toNat e3_) (AJ .u64 e7_ e4_)),()))))
 else none)
 else none)
 else none)
 else none)
 else none)
 else none)
 else (e (.inl (((),()),x.2)))
theorem aKt (d:Nat) (R:Type) (L:Pat.D Ie->Option R) (e:Ah Ka LO->Option R) (x:Pat.D Ie) :
  Bz (cf [(169,⟨Bt,Bs,p173,f173⟩)] [(250,7,LoopSpec.of Ie gD Ka LO w186_7)]) (d+2) 250 (Bw Tryz.f250 7) Ie gD Ka LO (R:=R) L e x=U4 p173 f173 L e x:=by kernel_rfl
theorem aDD (p173:A7) (f173:A5):Bu fun L e x=>U4 p173 f173 L e x:=by intro _ _ _ _ _ _ _ h0 hL he _; unfold U4; repeat' (first | exact h0 | exact hL _ | exact he _ | apply B3 | (apply BY h0; intro _) | (apply BV <;> intro _))
def j8 (p173:A7) (f173:A5) (w186_7:Pat.D Ie->Option (Ah Ka LO)) (a0:Aa (.slice (.int .u64))) (a1:Aa (.int .i64)):Option (DenS IV) :=
 let e1_:=(IntKind.wrap .i64 ((IntKind.wrap .i64 ((BD .i64 a1 (64:Int))+((f173 (a0,())).1.length:Int)))+(1:Int)))
 bif (p173 (a0,())) then (bif (((f173 (a0,())).1.length:Int)==(0:Int)) then (some ([],()))
 else bif ((decide ((0:Int)<=e1_))&&(decide ((e1_*(8:Int))<=(140737488355328:Int)))) then (Vx.A3 (w186_7 ((((f173 (a0,())).1.length:Int),(f173 (a0,())).1,(BD .i64 a1 (64:Int)),(Int.tmod a1 (64:Int)),(0:Int),(),()),(List.replicate (Int.toNat e1_) (0:Int)),())) fun y3 =>
 Vx.A6 y3 (fun y4 =>
 bif (p173 y4.2) then (some (f173 y4.2))
 else none) (fun z4 =>
 none))
 else none)
 else none
theorem aK6 (x:DenS IK):run (cf [(169,⟨Bt,Bs,p173,f173⟩)] [(250,7,LoopSpec.of Ie gD Ka LO w186_7)]) 9 250 Tryz.f250 IK IV x=j8 p173 f173 w186_7 x.1 x.2.1:=by kernel_rfl
def iR:Ie.D->Option (Ah Ka LO):=Bf fun L=>U4 Ag.pre Ag.F L some
def RP (x:DenS IK):Option (DenS IV):=j8 Ag.pre Ag.F iR x.1 x.2.1
def DB:Sum:=Al IK IV RP (DenS.dflt IV)
theorem aD3:Sound Tryz.prog G1 250 DB:=sd (cf [(169,Ag)] [(250,7,LoopSpec.of Ie gD Ka LO iR)]) 250 Tryz.f250 ⟨Ek,trivial⟩ ⟨rfl,fun d=>BT (fun L e x=>U4 Ag.pre Ag.F L e x) (aDD Ag.pre Ag.F) (fun _ _ _ _=>aKt ..),trivial⟩ IK IV RP _ (fun _=>aK6 ..)
abbrev Tt:=Ak IK
abbrev Vz:=Aj IK IV
variable (p186:Tt) (f186:Vz)
abbrev IB:Ab:=[(false,.slice (.slice (.int .u64)))]
abbrev IQ:Ab:=[(false,.bool)]
abbrev HS:Pat:=⟨16,[(6,.one (.v .i64)),(5,.one (.sl (.slice (.int .u64)))),(7,.one (.v .i64))],[]⟩
abbrev jM:List (Nat×Shape):=[]
abbrev Ku:List (Nat×Pat):=[(0,⟨16,[],[]⟩)]
abbrev MB:Option Pat:=(some ⟨16,[(2,.one (.bool))],[]⟩)
variable (w185_2:Pat.D HS->Option (Ah Ku MB))
def TQ (p173:A7) (f173:A5) {R:Type} (L:Pat.D HS->Option R) (e:Ah Ku MB->Option R) (x:Pat.D HS):Option R :=
 bif (decide (x.1.2.2.1<x.1.1)) then (bif ((decide ((0:Int)<=x.1.2.2.1))&&(decide (x.1.2.2.1<(x.1.2.1.length:Int)))) then (bif (p173 ((x.1.2.1.getD (Int.toNat x.1.2.2.1) []),())) then (bif (decide (((f173 ((x.1.2.1.getD (Int.toNat x.1.2.2.1) []),())).1.length:Int)>(1024:Int))) then (((e (.inr ((true,()),())))))
 else (L ((x.1.1,x.1.2.1,(IntKind.wrap .i64 (x.1.2.2.1+(1:Int))),()),())))
 else none)
 else none)
 else (e (.inl ((),())))
theorem aQo (d:Nat) (R:Type) (L:Pat.D HS->Option R) (e:Ah Ku MB->Option R) (x:Pat.D HS) :
  Bz (cf [(169,⟨Bt,Bs,p173,f173⟩)] [(249,2,LoopSpec.of HS jM Ku MB w185_2)]) (d+2) 249 (Bw Tryz.f249 2) HS jM Ku MB (R:=R) L e x=TQ p173 f173 L e x:=by kernel_rfl
theorem aGI (p173:A7) (f173:A5):Bu fun L e x=>TQ p173 f173 L e x:=by intro _ _ _ _ _ _ _ h0 hL he _; unfold TQ; repeat' (first | exact h0 | exact hL _ | exact he _ | apply B3 | (apply BY h0; intro _) | (apply BV <;> intro _))
def mK (p173:A7) (f173:A5) (w185_2:Pat.D HS->Option (Ah Ku MB)) (a0:Aa (.slice (.slice (.int .u64)))):Option (DenS IQ) :=
 Vx.A3 (w185_2 (((a0.length:Int),a0,(0:Int),()),())) fun y0 =>
 Vx.A6 y0 (fun y1 =>
 some (false,())) (fun z1 =>
 some z1.1)
theorem aNW (x:DenS IB):run (cf [(169,⟨Bt,Bs,p173,f173⟩)] [(249,2,LoopSpec.of HS jM Ku MB w185_2)]) 9 249 Tryz.f249 IB IQ x=mK p173 f173 w185_2 x.1:=by kernel_rfl
def g9:HS.D->Option (Ah Ku MB):=Bf fun L=>TQ Ag.pre Ag.F L some
def JG (x:DenS IB):Option (DenS IQ):=mK Ag.pre Ag.F g9 x.1
def D6:Sum:=Al IB IQ JG (DenS.dflt IQ)
theorem uA:Sound Tryz.prog G1 249 D6:=sd (cf [(169,Ag)] [(249,2,LoopSpec.of HS jM Ku MB g9)]) 249 Tryz.f249 ⟨Ek,trivial⟩ ⟨rfl,fun d=>BT (fun L e x=>TQ Ag.pre Ag.F L e x) (aGI Ag.pre Ag.F) (fun _ _ _ _=>aQo ..),trivial⟩ IB IQ JG _ (fun _=>aNW ..)
abbrev Tv:=Ak IB
abbrev Ui:=Aj IB IQ
variable (p185:Tv) (f185:Ui)
abbrev Jf:Ab:=[(false,.slice (.int .u64)),(false,.int .i64)]
abbrev Jh:Ab:=[(false,.slice (.int .u64)),(false,.int .i64)]
def dT (p186:Tt) (f186:Vz) (p185:Tv) (f185:Ui) (a0:Aa (.slice (.int .u64))) (a1:Aa (.int .i64)):Option (DenS Jh) :=
 bif ((decide (a1<(0:Int)))||(decide (a1>(65536:Int)))) then (some ([],(7:Int),()))
 else bif (p185 ((a0::[]),())) then (bif (f185 ((a0::[]),())).1 then (some ([],(5:Int),()))
 else bif (p186 (a0,a1,())) then (bif (p185 (((f186 (a0,a1,())).1::[]),())) then (bif (f185 (((f186 (a0,a1,())).1::[]),())).1 then (some ([],(5:Int),()))
 else some ((f186 (a0,a1,())).1,(0:Int),()))
 else none)
 else none)
 else none
theorem aOL (x:DenS Jf):run (cf [(250,⟨IK,IV,p186,f186⟩),(249,⟨IB,IQ,p185,f185⟩)] []) 9 174 Tryz.f174 Jf Jh x=dT p186 f186 p185 f185 x.1 x.2.1:=by kernel_rfl
def Sz (x:DenS Jf):Option (DenS Jh):=dT DB.pre DB.F D6.pre D6.F x.1 x.2.1
def DS:Sum:=Al Jf Jh Sz (DenS.dflt Jh)
theorem aDz:Sound Tryz.prog G1 174 DS:=sd (cf [(250,DB),(249,D6)] []) 174 Tryz.f174 ⟨aD3,uA,trivial⟩ trivial Jf Jh Sz _ (fun _=>aOL ..)
abbrev UX:=Ak Jf
abbrev T5:=Aj Jf Jh
variable (p176:UX) (f176:T5)
abbrev Jz:Ab:=[(false,.slice (.int .u64)),(false,.int .i64)]
abbrev I6:Ab:=[(false,.slice (.int .u64)),(false,.int .i64)]
def kL (p171:So) (f171:Sy) (a0:Aa (.slice (.int .u64))) (a1:Aa (.int .i64)):Option (DenS I6) :=
 bif (decide (a1<(0:Int))) then (some ([],(7:Int),()))
 else bif (p171 (a0,a1,())) then (some ((f171 (a0,a1,())).1,(0:Int),()))
 else none
theorem aJd (x:DenS Jz):run (cf [(301,⟨HL,H1,p171,f171⟩)] []) 9 247 Tryz.f247 Jz I6 x=kL p171 f171 x.1 x.2.1:=by kernel_rfl
def Nl (x:DenS Jz):Option (DenS I6):=kL CS.pre CS.F x.1 x.2.1
def DT:Sum:=Al Jz I6 Nl (DenS.dflt I6)
theorem aBW:Sound Tryz.prog G1 247 DT:=sd (cf [(301,CS)] []) 247 Tryz.f247 ⟨oG,trivial⟩ trivial Jz I6 Nl _ (fun _=>aJd ..)
abbrev Vf:=Ak Jz
abbrev Ud:=Aj Jz I6
variable (p141:Vf) (f141:Ud)
abbrev OY:Ab:=[(false,.int .i64),(false,.bool),(false,.bool),(false,.int .u64)]
abbrev PT:Ab:=[(false,.bool)]
def eQ (a0:Aa (.int .i64)) (a1 a2:Aa (.bool)) (a3:Aa (.int .u64)):Option (DenS PT) :=
 bif (a0==(4:Int)) then (some ((!(!a1)),()))
 else bif (a0==(3:Int)) then (some ((!a1),()))
 else bif (a0==(0:Int)) then (bif (a3==(2:Int)) then (some (a2,()))
 else some ((decide (a3>=(2:Int))),()))
 else bif (a0==(1:Int)) then (some ((decide (a3>=(2:Int))),()))
 else bif (a0==(5:Int)) then (some ((!a2),()))
 else some (false,())
theorem aHZ (x:DenS OY):run (cf [] []) 9 248 Tryz.f248 OY PT x=eQ x.1 x.2.1 x.2.2.1 x.2.2.2.1:=by kernel_rfl
def RH (x:DenS OY):Option (DenS PT):=eQ x.1 x.2.1 x.2.2.1 x.2.2.2.1
def VF:Sum:=Al OY PT RH (DenS.dflt PT)
theorem aOz:Sound Tryz.prog G1 248 VF:=sd (cf [] []) 248 Tryz.f248 trivial trivial OY PT RH _ (fun _=>aHZ ..)
abbrev aGn:=Ak OY
abbrev aFq:=Aj OY PT
variable (p177:aGn) (f177:aFq)
abbrev Hi:Ab:=[(false,.slice (.int .u64)),(false,.slice (.int .u64))]
abbrev Gm:Ab:=[(false,.slice (.int .u64))]
abbrev Hy:Pat:=⟨61,[(28,.one (.v .i64)),(1,.one (.sl (.int .u64))),(29,.one (.v .i64)),(0,.one (.sl (.int .u64))),(6,.one (.v .u64)),(5,.one (.own 0))],[.arr (.int .u64)]⟩
abbrev gW:List (Nat×Shape):=[]
abbrev Lr:List (Nat×Pat):=[(0,⟨61,[(0,.one (.sl (.int .u64))),(6,.one (.v .u64)),(5,.one (.own 0))],[.arr (.int .u64)]⟩)]
abbrev Ms:Option Pat:=none
variable (w143_8:Pat.D Hy->Option (Ah Lr Ms))
def Un (p155:Df) (f155:C8) (p173:A7) (f173:A5) {R:Type} (L:Pat.D Hy->Option R) (e:Ah Lr Ms->Option R) (x:Pat.D Hy):Option R :=
 let e8_:=(x.1.2.2.2.1.getD (Int.toNat x.1.2.2.1) (0:Int))
 let e7_:=((x.1.2.1.getD (Int.toNat x.1.2.2.1) (0:Int)),x.1.2.2.2.2.1,())
 let e1_:=(f155 (e8_,e7_))
 let e2_:=(f155 (e8_,(0:Int),x.1.2.2.2.2.1,()))
 let e3_:=((decide ((0:Int)<=x.1.2.2.1))&&(decide (x.1.2.2.1<(x.1.2.2.2.1.length:Int))))
 let e4_:=((decide ((0:Int)<=x.1.2.2.1))&&(decide (x.1.2.2.1<(x.2.1.length:Int))))
 let e5_:=(IntKind.wrap .i64 (x.1.2.2.1+(1:Int)))
 let e6_:=e8_
 bif (decide (x.1.2.2.1<x.1.1)) then (bif (decide (x.1.2.2.1<(x.1.2.1.length:Int))) then (bif ((decide ((0:Int)<=x.1.2.2.1))&&(decide (x.1.2.2.1<(x.1.2.1.length:Int)))) then (bif e3_ then (bif (p155 (e6_,e7_)) then (bif e4_ then (((L ((x.1.1,x.1.2.1,e5_,x.1.2.2.2.1,e1_.2.1,(),()),(x.2.1.set (Int.toNat x.1.2.2.1) e1_.1),()))))
 else none)
 else none)
 else none)
 else none)
 else bif e3_ then (bif (p155 (e6_,(0:Int),x.1.2.2.2.2.1,())) then (bif e4_ then (((L ((x.1.1,x.1.2.1,e5_,x.1.2.2.2.1,e2_.2.1,(),()),(x.2.1.set (Int.toNat x.1.2.2.1) e2_.1),()))))
 else none)
 else none)
 else none)
 else (e (.inl ((x.1.2.2.2.1,x.1.2.2.2.2.1,(),()),x.2)))
theorem aIc (d:Nat) (R:Type) (L:Pat.D Hy->Option R) (e:Ah Lr Ms->Option R) (x:Pat.D Hy) :
  Bz (cf [(165,⟨E5,Fy,p155,f155⟩),(169,⟨Bt,Bs,p173,f173⟩)] [(176,8,LoopSpec.of Hy gW Lr Ms w143_8)]) (d+2) 176 (Bw Tryz.f176 8) Hy gW Lr Ms (R:=R) L e x=Un p155 f155 p173 f173 L e x:=by kernel_rfl
theorem aDI (p155:Df) (f155:C8) (p173:A7) (f173:A5):Bu fun L e x=>Un p155 f155 p173 f173 L e x:=by intro _ _ _ _ _ _ _ h0 hL he _; unfold Un; repeat' (first | exact h0 | exact hL _ | exact he _ | apply B3 | (apply BY h0; intro _) | (apply BV <;> intro _))
def eA (p155:Df) (f155:C8) (p173:A7) (f173:A5) (w143_8:Pat.D Hy->Option (Ah Lr Ms)) (a0 a1:Aa (.slice (.int .u64))):Option (DenS Gm) :=
 let e5_:=(IntKind.wrap .i64 (((f173 (a1,())).1.length:Int)+(1:Int)))
 let e1_:=(List.replicate (Int.toNat e5_) (0:Int))
 let e6_:=(IntKind.wrap .i64 (((f173 (a0,())).1.length:Int)+(1:Int)))
 let e2_:=(List.replicate (Int.toNat e6_) (0:Int))
 let e3_:=e5_
 let e4_:=e6_
 bif (p173 (a0,())) then (bif (p173 (a1,())) then (bif (decide (((f173 (a0,())).1.length:Int)<((f173 (a1,())).1.length:Int))) then (bif ((decide ((0:Int)<=e3_))&&(decide ((e3_*(8:Int))<=(140737488355328:Int)))) then (Vx.A3 (w143_8 ((((f173 (a1,())).1.length:Int),(f173 (a0,())).1,(0:Int),(f173 (a1,())).1,(0:Int),(),()),(((f173 (a1,())).1.take e1_.length)++(e1_.drop (f173 (a1,())).1.length)),())) fun y4 =>
 Vx.A6 y4 (fun y5 =>
 bif ((decide ((0:Int)<=(y5.1.1.length:Int)))&&(decide ((y5.1.1.length:Int)<(y5.2.1.length:Int)))) then (bif (p173 ((y5.2.1.set (Int.toNat (y5.1.1.length:Int)) y5.1.2.1),())) then (some (f173 ((y5.2.1.set (Int.toNat (y5.1.1.length:Int)) y5.1.2.1),())))
 else none)
 else none) (fun z5 =>
 none))
 else none)
 else bif ((decide ((0:Int)<=e4_))&&(decide ((e4_*(8:Int))<=(140737488355328:Int)))) then (Vx.A3 (w143_8 ((((f173 (a0,())).1.length:Int),(f173 (a1,())).1,(0:Int),(f173 (a0,())).1,(0:Int),(),()),(((f173 (a0,())).1.take e2_.length)++(e2_.drop (f173 (a0,())).1.length)),())) fun y4 =>
 Vx.A6 y4 (fun y5 =>
 bif ((decide ((0:Int)<=(y5.1.1.length:Int)))&&(decide ((y5.1.1.length:Int)<(y5.2.1.length:Int)))) then (bif (p173 ((y5.2.1.set (Int.toNat (y5.1.1.length:Int)) y5.1.2.1),())) then (some (f173 ((y5.2.1.set (Int.toNat (y5.1.1.length:Int)) y5.1.2.1),())))
 else none)
 else none) (fun z5 =>
 none))
 else none)
 else none)
 else none
theorem aOP (x:DenS Hi):run (cf [(165,⟨E5,Fy,p155,f155⟩),(169,⟨Bt,Bs,p173,f173⟩)] [(176,8,LoopSpec.of Hy gW Lr Ms w143_8)]) 9 176 Tryz.f176 Hi Gm x=eA p155 f155 p173 f173 w143_8 x.1 x.2.1:=by kernel_rfl
def ZP:Hy.D->Option (Ah Lr Ms):=Bf fun L=>Un Ay.pre Ay.F Ag.pre Ag.F L some
def RV (x:DenS Hi):Option (DenS Gm):=eA Ay.pre Ay.F Ag.pre Ag.F ZP x.1 x.2.1
def CC:Sum:=Al Hi Gm RV (DenS.dflt Gm)
theorem mV:Sound Tryz.prog G1 176 CC:=sd (cf [(165,Ay),(169,Ag)] [(176,8,LoopSpec.of Hy gW Lr Ms ZP)]) 176 Tryz.f176 ⟨UK,Ek,trivial⟩ ⟨rfl,fun d=>BT (fun L e x=>Un Ay.pre Ay.F Ag.pre Ag.F L e x) (aDI Ay.pre Ay.F Ag.pre Ag.F) (fun _ _ _ _=>aIc ..),trivial⟩ Hi Gm RV _ (fun _=>aOP ..)
abbrev Px:=Ak Hi
abbrev NP:=Aj Hi Gm
variable (p143:Px) (f143:NP)
abbrev KK:Ab:=[(true,.pair (.bool) (.pair (.slice (.int .u64)) (.pair (.int .i64) (.pair (.bool) (.unit))))),(false,.int .i64),(false,.int .i64)]
abbrev My:Ab:=[(false,.slice (.int .u64)),(false,.bool)]
def gX (p175:aHv) (f175:aGq) (p176:UX) (f176:T5) (p141:Vf) (f141:Ud) (p177:aGn) (f177:aFq) (p143:Px) (f143:NP) (a0:Aa (.pair (.bool) (.pair (.slice (.int .u64)) (.pair (.int .i64) (.pair (.bool) (.unit)))))) (a1 a2:Aa (.int .i64)):Option (DenS My) :=
 let e47_:=(IntKind.wrap .i64 (a2-a0.2.2.1))
 let e44_:=(f175 (a0.2.1,(IntKind.wrap .i64 (e47_-(2:Int))),()))
 let e42_:=(e44_.1,(2:Int),())
 let e40_:=(f141 e42_)
 let e38_:=(e40_.1.length:Int)
 let e34_:=(decide (e38_>(0:Int)))
 let e28_:=(e34_&&((AQ .u64 (e40_.1.getD (Int.toNat (0:Int)) (0:Int)) (1:Int))==(1:Int)))
 let e32_:=(AQ .u64 (e44_.1.getD (Int.toNat (0:Int)) (0:Int)) (3:Int))
 let e30_:=(AX .u64 e32_ (1:Int))
 let e1_:=(a1,a0.1,e28_,e30_,())
 let e45_:=(f176 (a0.2.1,(IntKind.wrap .i64 ((2:Int)-e47_)),()))
 let e43_:=(e45_.1,(2:Int),())
 let e41_:=(f141 e43_)
 let e39_:=(e41_.1.length:Int)
 let e35_:=(decide (e39_>(0:Int)))
 let e29_:=(e35_&&((AQ .u64 (e41_.1.getD (Int.toNat (0:Int)) (0:Int)) (1:Int))==(1:Int)))
 let e33_:=(AQ .u64 (e45_.1.getD (Int.toNat (0:Int)) (0:Int)) (3:Int))
 let e31_:=(AX .u64 e33_ (1:Int))
 let e2_:=(a1,a0.1,e29_,e31_,())
 let e3_:=(a1,a0.1,e28_,e32_,())
 let e4_:=(a1,a0.1,e29_,e33_,())
 let e46_:=((AX .u64 (0:Int) (1:Int)),())
 let e5_:=(a1,a0.1,e28_,e46_)
 let e6_:=(a1,a0.1,e29_,e46_)
 let e7_:=((decide ((0:Int)<e38_))||(!e34_))
 let e8_:=((decide ((0:Int)<e39_))||(!e35_))
 let e9_:=((e30_ != (0:Int)),())
 let e10_:=((e31_ != (0:Int)),())
 let e11_:=e30_
 let e12_:=e31_
 let e13_:=((e32_ != (0:Int)),())
 let e14_:=((e33_ != (0:Int)),())
 let e15_:=e32_
 let e16_:=e33_
 let e36_:=(e40_.1,((1:Int)::[]),())
 let e17_:=(p143 e36_)
 let e18_:=(f143 e36_)
 let e37_:=(e41_.1,((1:Int)::[]),())
 let e19_:=(p143 e37_)
 let e20_:=(f143 e37_)
 let e21_:=e40_
 let e22_:=e41_
 let e23_:=(p141 e42_)
 let e24_:=(p141 e43_)
 let e25_:=(e44_.1.length:Int)
 let e26_:=(e45_.1.length:Int)
 let e27_:=e47_
 bif (decide (e27_>=(2:Int))) then (bif (p175 (a0.2.1,(IntKind.wrap .i64 (e27_-(2:Int))),())) then (bif (decide (e25_>(0:Int))) then (bif (decide ((0:Int)<e25_)) then (bif a0.2.2.2.1 then (bif e23_ then (bif e7_ then (bif ((p177 e1_)||(!(bif (e11_==(0:Int)) then false else true))) then (bif ((e11_ != (0:Int))&&(f177 e1_).1) then (bif e17_ then (some (e18_.1,e9_))
 else none)
 else some (e21_.1,e9_))
 else none)
 else none)
 else none)
 else bif e23_ then (bif e7_ then (bif ((p177 e3_)||(!(bif (e15_==(0:Int)) then false else true))) then (bif ((e15_ != (0:Int))&&(f177 e3_).1) then (bif e17_ then (some (e18_.1,e13_))
 else none)
 else some (e21_.1,e13_))
 else none)
 else none)
 else none)
 else none)
 else bif a0.2.2.2.1 then (bif e23_ then (bif e7_ then (bif ((p177 e5_)||false) then (bif (f177 e5_).1 then (bif e17_ then (some (e18_.1,true,()))
 else none)
 else some (e21_.1,true,()))
 else none)
 else none)
 else none)
 else bif e23_ then (bif e7_ then (bif ((p177 (a1,a0.1,((decide ((e21_.1.length:Int)>(0:Int)))&&((AQ .u64 (e21_.1.getD (Int.toNat (0:Int)) (0:Int)) (1:Int))==(1:Int))),(0:Int),()))||true) then (some (e21_.1,false,()))
 else none)
 else none)
 else none)
 else none)
 else bif (p176 (a0.2.1,(IntKind.wrap .i64 ((2:Int)-e27_)),())) then (bif (decide (e26_>(0:Int))) then (bif (decide ((0:Int)<e26_)) then (bif a0.2.2.2.1 then (bif e24_ then (bif e8_ then (bif ((p177 e2_)||(!(bif (e12_==(0:Int)) then false else true))) then (bif ((e12_ != (0:Int))&&(f177 e2_).1) then (bif e19_ then (some (e20_.1,e10_))
 else none)
 else some (e22_.1,e10_))
 else none)
 else none)
 else none)
 else bif e24_ then (bif e8_ then (bif ((p177 e4_)||(!(bif (e16_==(0:Int)) then false else true))) then (bif ((e16_ != (0:Int))&&(f177 e4_).1) then (bif e19_ then (some (e20_.1,e14_))
 else none)
 else some (e22_.1,e14_))
 else none)
 else none)
 else none)
 else none)
 else bif a0.2.2.2.1 then (bif e24_ then (bif e8_ then (bif ((p177 e6_)||false) then (bif (f177 e6_).1 then (bif e19_ then (some (e20_.1,true,()))
 else none)
 else some (e22_.1,true,()))
 else none)
 else none)
 else none)
 else bif e24_ then (bif e8_ then (bif ((p177 (a1,a0.1,((decide ((e22_.1.length:Int)>(0:Int)))&&((AQ .u64 (e22_.1.getD (Int.toNat (0:Int)) (0:Int)) (1:Int))==(1:Int))),(0:Int),()))||true) then (some (e22_.1,false,()))
 else none)
 else none)
 else none)
 else none
theorem aMf (x:DenS KK):run (cf [(246,⟨N1,Oy,p175,f175⟩),(174,⟨Jf,Jh,p176,f176⟩),(247,⟨Jz,I6,p141,f141⟩),(248,⟨OY,PT,p177,f177⟩),(176,⟨Hi,Gm,p143,f143⟩)] []) 9 172 Tryz.f172 KK My x=gX p175 f175 p176 f176 p141 f141 p177 f177 p143 f143 x.1 x.2.1 x.2.2.1:=by kernel_rfl
def TK (x:DenS KK):Option (DenS My):=gX Vy.pre Vy.F DS.pre DS.F DT.pre DT.F VF.pre VF.F CC.pre CC.F x.1 x.2.1 x.2.2.1
def HC:Sum:=Al KK My TK (DenS.dflt My)
theorem aD1:Sound Tryz.prog G1 172 HC:=sd (cf [(246,Vy),(174,DS),(247,DT),(248,VF),(176,CC)] []) 172 Tryz.f172 ⟨aRl,aDz,aBW,aOz,mV,trivial⟩ trivial KK My TK _ (fun _=>aMf ..)
abbrev tW:=Ak KK
abbrev rM:=Aj KK My
variable (p150:tW) (f150:rM)
abbrev GG:Ab:=[(false,.int .i64),(false,.bool)]
abbrev Gs:Ab:=[(false,.int .u64),(false,.int .i64)]
def t97 (p116:kX) (f116:eI) (p69:BL) (f69:BO) (p91:Ih) (f91:H4) (p140:Xx) (f140:V0) (a0:Aa (.int .i64)) (a1:Aa (.bool)):Option (DenS Gs) :=
 let e2_:=((IntKind.wrap .i64 ((f69 (a0,())).1.1-(f69 (a0,())).1.2.1)),())
 let e1_:=((f69 (a0,())).1,a1,(IntKind.wrap .u64 ((f91 e2_).1-(f116 ((f69 (a0,())).1,())).1)),(f116 ((f69 (a0,())).1,())))
 bif (p69 (a0,())) then (bif ((f69 (a0,())).2.1 != (0:Int)) then (some ((0:Int),(f69 (a0,())).2))
 else bif (p91 e2_) then (bif (p116 ((f69 (a0,())).1,())) then (bif (p116 ((f69 (a0,())).1,())) then (bif (p140 e1_) then (some ((f140 e1_).1,(0:Int),()))
 else none)
 else none)
 else none)
 else none)
 else none
theorem r97 (x:DenS GG):run (cf [(104,⟨IN,IW,p116,f116⟩),(54,⟨Cm,Cn,p69,f69⟩),(112,⟨EG,ES,p91,f91⟩),(149,⟨Ic,H6,p140,f140⟩)] []) 9 65 Tryz.f65 GG Gs x=t97 p116 f116 p69 f69 p91 f91 p140 f140 x.1 x.2.1:=by kernel_rfl
def W8 (x:DenS GG):Option (DenS Gs):=t97 IM.pre IM.F Aq.pre Aq.F Bo.pre Bo.F Gl.pre Gl.F x.1 x.2.1
def B6:Sum:=Al GG Gs W8 (DenS.dflt Gs)
theorem Zp:Sound Tryz.prog G1 65 B6:=sd (cf [(104,IM),(54,Aq),(112,Bo),(149,Gl)] []) 65 Tryz.f65 ⟨uK,Ep,L3,cZ,trivial⟩ trivial GG Gs W8 _ (fun _=>r97 ..)
abbrev ON:=Ak GG
abbrev MO:=Aj GG Gs
variable (p97:ON) (f97:MO)
abbrev M8:Ab:=[(true,.pair (.int .i64) (.pair (.int .i64) (.pair (.int .i64) (.pair (.int .i64) (.unit)))))]
abbrev N5:Ab:=[(false,.int .u64)]
def t95 (a0:Aa (.pair (.int .i64) (.pair (.int .i64) (.pair (.int .i64) (.pair (.int .i64) (.unit)))))):Option (DenS N5) :=
 some ((1:Int),())
theorem r95 (x:DenS M8):run (cf [] []) 9 299 Tryz.f299 M8 N5 x=t95 x.1:=by kernel_rfl
def T95 (x:DenS M8):Option (DenS N5):=t95 x.1
def kM:Sum:=Al M8 N5 T95 (DenS.dflt N5)
theorem aSR:Sound Tryz.prog G1 299 kM:=sd (cf [] []) 299 Tryz.f299 trivial trivial M8 N5 T95 _ (fun _=>r95 ..)
abbrev Y95:=Ak M8
abbrev Z95:=Aj M8 N5
variable (p95:Y95) (f95:Z95)
abbrev QE:Ab:=[(true,.pair (.int .i64) (.pair (.int .i64) (.pair (.int .i64) (.pair (.int .i64) (.unit)))))]
abbrev O6:Ab:=[(false,.int .u64)]
def t96 (p91:Ih) (f91:H4) (a0:Aa (.pair (.int .i64) (.pair (.int .i64) (.pair (.int .i64) (.pair (.int .i64) (.unit)))))):Option (DenS O6) :=
 let e1_:=((IntKind.wrap .i64 (a0.2.1-(1:Int))),())
 bif (p91 e1_) then (some (f91 e1_))
 else none
theorem r96 (x:DenS QE):run (cf [(112,⟨EG,ES,p91,f91⟩)] []) 9 300 Tryz.f300 QE O6 x=t96 p91 f91 x.1:=by kernel_rfl
def T96 (x:DenS QE):Option (DenS O6):=t96 Bo.pre Bo.F x.1
def dW:Sum:=Al QE O6 T96 (DenS.dflt O6)
theorem aNM:Sound Tryz.prog G1 300 dW:=sd (cf [(112,Bo)] []) 300 Tryz.f300 ⟨L3,trivial⟩ trivial QE O6 T96 _ (fun _=>r96 ..)
abbrev yN:=Ak QE
abbrev Z96:=Aj QE O6
variable (p96:yN) (f96:Z96)
abbrev P7:Ab:=[(false,.int .i64),(false,.bool)]
abbrev NC:Ab:=[(false,.int .u64),(false,.int .i64)]
def t43 (p95:Y95) (f95:Z95) (p96:yN) (f96:Z96) (p69:BL) (f69:BO) (p91:Ih) (f91:H4) (p140:Xx) (f140:V0) (a0:Aa (.int .i64)) (a1:Aa (.bool)):Option (DenS NC) :=
 let e2_:=((IntKind.wrap .i64 ((f69 (a0,())).1.1-(f69 (a0,())).1.2.1)),())
 let e1_:=((f69 (a0,())).1,a1,(IntKind.wrap .u64 ((f91 e2_).1-(f95 ((f69 (a0,())).1,())).1)),(f96 ((f69 (a0,())).1,())))
 bif (p69 (a0,())) then (bif ((f69 (a0,())).2.1 != (0:Int)) then (some ((0:Int),(f69 (a0,())).2))
 else bif (p91 e2_) then (bif (p95 ((f69 (a0,())).1,())) then (bif (p96 ((f69 (a0,())).1,())) then (bif (p140 e1_) then (some ((f140 e1_).1,(0:Int),()))
 else none)
 else none)
 else none)
 else none)
 else none
theorem r43 (x:DenS P7):run (cf [(299,⟨M8,N5,p95,f95⟩),(300,⟨QE,O6,p96,f96⟩),(54,⟨Cm,Cn,p69,f69⟩),(112,⟨EG,ES,p91,f91⟩),(149,⟨Ic,H6,p140,f140⟩)] []) 9 245 Tryz.f245 P7 NC x=t43 p95 f95 p96 f96 p69 f69 p91 f91 p140 f140 x.1 x.2.1:=by kernel_rfl
def Yf (x:DenS P7):Option (DenS NC):=t43 kM.pre kM.F dW.pre dW.F Aq.pre Aq.F Bo.pre Bo.F Gl.pre Gl.F x.1 x.2.1
def JP:Sum:=Al P7 NC Yf (DenS.dflt NC)
theorem aTv:Sound Tryz.prog G1 245 JP:=sd (cf [(299,kM),(300,dW),(54,Aq),(112,Bo),(149,Gl)] []) 245 Tryz.f245 ⟨aSR,aNM,Ep,L3,cZ,trivial⟩ trivial P7 NC Yf _ (fun _=>r43 ..)
abbrev Y43:=Ak P7
abbrev Z43:=Aj P7 NC
variable (p43:Y43) (f43:Z43)
abbrev Ng:Ab:=[(false,.int .i64),(false,.int .i64),(false,.bool)]
abbrev Pi:Ab:=[(false,.int .u64)]
def aL (p97:ON) (f97:MO) (p43:Y43) (f43:Z43) (a0 a1:Aa (.int .i64)) (a2:Aa (.bool)):Option (DenS Pi) :=
 bif ((((a1==(0:Int))||(a1==(1:Int)))||((a1==(3:Int))&&(!a2)))||((a1==(4:Int))&&a2)) then (bif (p97 (a0,a2,())) then (some ((f97 (a0,a2,())).1,()))
 else none)
 else bif (p43 (a0,a2,())) then (some ((f43 (a0,a2,())).1,()))
 else none
theorem aU3 (x:DenS Ng):run (cf [(65,⟨GG,Gs,p97,f97⟩),(245,⟨P7,NC,p43,f43⟩)] []) 9 171 Tryz.f171 Ng Pi x=aL p97 f97 p43 f43 x.1 x.2.1 x.2.2.1:=by kernel_rfl
def ZW (x:DenS Ng):Option (DenS Pi):=aL B6.pre B6.F JP.pre JP.F x.1 x.2.1 x.2.2.1
def Vq:Sum:=Al Ng Pi ZW (DenS.dflt Pi)
theorem aLC:Sound Tryz.prog G1 171 Vq:=sd (cf [(65,B6),(245,JP)] []) 171 Tryz.f171 ⟨Zp,aTv,trivial⟩ trivial Ng Pi ZW _ (fun _=>aU3 ..)
abbrev wW:=Ak Ng
abbrev yY:=Aj Ng Pi
variable (p149:wW) (f149:yY)
abbrev Oa:Ab:=[(true,.pair (.bool) (.pair (.slice (.int .u64)) (.pair (.int .i64) (.pair (.bool) (.unit))))),(true,.pair (.int .i64) (.pair (.int .i64) (.pair (.int .i64) (.pair (.int .i64) (.unit))))),(false,.int .i64),(false,.int .i64)]
abbrev Nd:Ab:=[(false,.bool)]
def cF (p150:tW) (f150:rM) (p151:Lu) (f151:LG) (a0:Aa (.pair (.bool) (.pair (.slice (.int .u64)) (.pair (.int .i64) (.pair (.bool) (.unit)))))) (a1:Aa (.pair (.int .i64) (.pair (.int .i64) (.pair (.int .i64) (.pair (.int .i64) (.unit)))))) (a2 a3:Aa (.int .i64)):Option (DenS Nd) :=
 let e3_:=(IntKind.wrap .i64 (a3-a1.2.1))
 let e1_:=((f150 ((a0.1,a0.2),a2,(IntKind.wrap .i64 (e3_+(1:Int))),())).1,())
 let e2_:=e3_
 bif (decide (a3>=a1.2.2.1)) then (some (false,()))
 else bif (p150 ((a0.1,a0.2),a2,(IntKind.wrap .i64 (e2_+(1:Int))),())) then (bif (p151 e1_) then (some ((decide ((IntKind.wrap .i64 (e2_+(f151 e1_).1))<a1.2.2.1)),()))
 else none)
 else none
theorem aPw (x:DenS Oa):run (cf [(172,⟨KK,My,p150,f150⟩),(123,⟨FZ,FY,p151,f151⟩)] []) 9 173 Tryz.f173 Oa Nd x=cF p150 f150 p151 f151 x.1 x.2.1 x.2.2.1 x.2.2.2.1:=by kernel_rfl
def Zi (x:DenS Oa):Option (DenS Nd):=cF HC.pre HC.F Ch.pre Ch.F x.1 x.2.1 x.2.2.1 x.2.2.2.1
def VX:Sum:=Al Oa Nd Zi (DenS.dflt Nd)
theorem aUM:Sound Tryz.prog G1 173 VX:=sd (cf [(172,HC),(123,Ch)] []) 173 Tryz.f173 ⟨aD1,YS,trivial⟩ trivial Oa Nd Zi _ (fun _=>aPw ..)
abbrev aF8:=Ak Oa
abbrev xG:=Aj Oa Nd
variable (p152:aF8) (f152:xG)
abbrev I0:Ab:=[(true,.pair (.bool) (.pair (.slice (.int .u64)) (.pair (.int .i64) (.pair (.bool) (.unit))))),(false,.int .i64),(true,.pair (.int .i64) (.pair (.int .i64) (.pair (.int .i64) (.pair (.int .i64) (.unit))))),(false,.int .i64)]
abbrev IG:Ab:=[(false,.int .u64),(false,.int .i64)]
def kH (p148:aB8) (f148:xZ) (p150:tW) (f150:rM) (p151:Lu) (f151:LG) (p149:wW) (f149:yY) (p152:aF8) (f152:xG) (a0:Aa (.pair (.bool) (.pair (.slice (.int .u64)) (.pair (.int .i64) (.pair (.bool) (.unit)))))) (a1:Aa (.int .i64)) (a2:Aa (.pair (.int .i64) (.pair (.int .i64) (.pair (.int .i64) (.pair (.int .i64) (.unit)))))) (a3:Aa (.int .i64)):Option (DenS IG) :=
 let e18_:=(IntKind.wrap .i64 ((IntKind.wrap .i64 ((if (a2.2.2.1>(f148 ((a0.1,a0.2),())).1) then a2.2.2.1 else (f148 ((a0.1,a0.2),())).1)-a2.2.1))+(1:Int)))
 let e21_:=(IntKind.wrap .i64 (a2.2.1-(1:Int)))
 let e14_:=(AT .u64 (IntKind.wrap .u64 (IntKind.wrap .i64 (e18_-(IntKind.wrap .i64 ((IntKind.wrap .i64 (a2.2.2.1-a2.2.1))+(1:Int)))))) e21_)
 let e17_:=((a0.1,a0.2),a3,e18_,())
 let e16_:=(f150 e17_)
 let e13_:=(IntKind.wrap .u64 (e14_+(e16_.1.getD (Int.toNat (0:Int)) (0:Int))))
 let e22_:=(IntKind.wrap .i64 (a2.1-(1:Int)))
 let e19_:=(AT .u64 (1:Int) e22_)
 let e1_:=(AX .u64 e13_ e19_)
 let e2_:=e13_
 let e3_:=(AX .u64 e14_ e19_)
 let e15_:=(e16_.1,())
 let e4_:=(decide ((IntKind.wrap .i64 ((IntKind.wrap .i64 (e18_+(f151 e15_).1))-(1:Int)))>a2.2.2.2.1))
 let e5_:=e14_
 let e6_:=(e16_.1.length:Int)
 let e7_:=(p151 e15_)
 let e8_:=(!e16_.2.1)
 let e9_:=(decide ((0:Int)<=e22_))
 let e20_:=((a0.1,a0.2),(a2.1,a2.2),a3,(f148 ((a0.1,a0.2),())))
 let e10_:=(p152 e20_)
 let e11_:=(f152 e20_)
 let e12_:=((f149 (a1,a3,a0.1,())).1,(20:Int),())
 bif (p148 ((a0.1,a0.2),())) then (bif (decide ((f148 ((a0.1,a0.2),())).1>a2.2.2.2.1)) then (bif (p149 (a1,a3,a0.1,())) then (some e12_)
 else none)
 else bif (p150 e17_) then (bif (decide ((0:Int)<=e21_)) then (bif (decide (e6_>(0:Int))) then (bif (decide ((0:Int)<e6_)) then (bif e7_ then (bif e4_ then (bif (p149 (a1,a3,a0.1,())) then (some e12_)
 else none)
 else bif a0.1 then (bif e9_ then (bif e8_ then (some (e1_,(0:Int),()))
 else bif e10_ then (bif e11_.1 then (some (e1_,(24:Int),()))
 else some (e1_,(16:Int),()))
 else none)
 else none)
 else bif e8_ then (some (e2_,(0:Int),()))
 else bif e10_ then (bif e11_.1 then (some (e2_,(24:Int),()))
 else some (e2_,(16:Int),()))
 else none)
 else none)
 else none)
 else bif e7_ then (bif e4_ then (bif (p149 (a1,a3,a0.1,())) then (some e12_)
 else none)
 else bif a0.1 then (bif e9_ then (bif e8_ then (some (e3_,(0:Int),()))
 else bif e10_ then (bif e11_.1 then (some (e3_,(24:Int),()))
 else some (e3_,(16:Int),()))
 else none)
 else none)
 else bif e8_ then (some (e5_,(0:Int),()))
 else bif e10_ then (bif e11_.1 then (some (e5_,(24:Int),()))
 else some (e5_,(16:Int),()))
 else none)
 else none)
 else none)
 else none)
 else none
theorem aMK (x:DenS I0):run (cf [(170,⟨NW,Qf,p148,f148⟩),(172,⟨KK,My,p150,f150⟩),(123,⟨FZ,FY,p151,f151⟩),(171,⟨Ng,Pi,p149,f149⟩),(173,⟨Oa,Nd,p152,f152⟩)] []) 9 125 Tryz.f125 I0 IG x=kH p148 f148 p150 f150 p151 f151 p149 f149 p152 f152 x.1 x.2.1 x.2.2.1 x.2.2.2.1:=by kernel_rfl
def Zh (x:DenS I0):Option (DenS IG):=kH UH.pre UH.F HC.pre HC.F Ch.pre Ch.F Vq.pre Vq.F VX.pre VX.F x.1 x.2.1 x.2.2.1 x.2.2.2.1
def EO:Sum:=Al I0 IG Zh (DenS.dflt IG)
theorem oN:Sound Tryz.prog G1 125 EO:=sd (cf [(170,UH),(172,HC),(123,Ch),(171,Vq),(173,VX)] []) 125 Tryz.f125 ⟨aVc,aD1,YS,aLC,aUM,trivial⟩ trivial I0 IG Zh _ (fun _=>aMK ..)
abbrev TC:=Ak I0
abbrev VQ:=Aj I0 IG
variable (p107:TC) (f107:VQ)
abbrev E1:Ab:=[(false,.int .i64),(false,.int .i64),(false,.bool),(true,.pair (.int .u64) (.pair (.int .u64) (.unit))),(false,.int .i64),(false,.bool)]
abbrev Fv:Ab:=[(false,.int .u64),(false,.int .i64),(false,.int .i64)]
def dI (p105:Tw) (f105:UO) (p102:Gw) (f102:GD) (p151:Lu) (f151:LG) (p156:aA) (f156:fL) (p107:TC) (f107:VQ) (a0 a1:Aa (.int .i64)) (a2:Aa (.bool)) (a3:Aa (.pair (.int .u64) (.pair (.int .u64) (.unit)))) (a4:Aa (.int .i64)) (a5:Aa (.bool)):Option (DenS Fv) :=
 let e2_:=((a2,(f102 ((a3.2.1::(a3.1::[])),())).1,a4,a5,()),a0,(f105 (a0,a1,())).1,a1,())
 let e1_:=(f107 e2_)
 bif (p105 (a0,a1,())) then (bif ((f105 (a0,a1,())).2.1 != (0:Int)) then (some ((0:Int),(0:Int),(f105 (a0,a1,())).2))
 else bif (p102 ((a3.2.1::(a3.1::[])),())) then (bif ((decide (a4<(-(40000:Int))))||(decide (a4>(40000:Int)))) then (some ((0:Int),(0:Int),(30:Int),()))
 else bif ((p151 (f102 ((a3.2.1::(a3.1::[])),())))||(!a5)) then (bif (a5&&(decide ((f151 (f102 ((a3.2.1::(a3.1::[])),()))).1<(IntKind.wrap .i64 ((f105 (a0,a1,())).1.2.1+(2:Int)))))) then (some ((0:Int),(0:Int),(7:Int),()))
 else bif (((f102 ((a3.2.1::(a3.1::[])),())).1.length:Int)==(0:Int)) then (bif (p156 (a0,a2,())) then (some (f156 (a0,a2,())))
 else none)
 else bif (p107 e2_) then (some (e1_.1,e1_.2.1,(0:Int),()))
 else none)
 else none)
 else none)
 else none
theorem aQK (x:DenS E1):run (cf [(121,⟨I3,JM,p105,f105⟩),(122,⟨Fi,Fl,p102,f102⟩),(123,⟨FZ,FY,p151,f151⟩),(124,⟨Lz,Kd,p156,f156⟩),(125,⟨I0,IG,p107,f107⟩)] []) 9 66 Tryz.f66 E1 Fv x=dI p105 f105 p102 f102 p151 f151 p156 f156 p107 f107 x.1 x.2.1 x.2.2.1 x.2.2.2.1 x.2.2.2.2.1 x.2.2.2.2.2.1:=by kernel_rfl
def SD (x:DenS E1):Option (DenS Fv):=dI EL.pre EL.F Bh.pre Bh.F Ch.pre Ch.F Hr.pre Hr.F EO.pre EO.F x.1 x.2.1 x.2.2.1 x.2.2.2.1 x.2.2.2.2.1 x.2.2.2.2.2.1
def A4:Sum:=Al E1 Fv SD (DenS.dflt Fv)
theorem UB:Sound Tryz.prog G1 66 A4:=sd (cf [(121,EL),(122,Bh),(123,Ch),(124,Hr),(125,EO)] []) 66 Tryz.f66 ⟨qI,Y6,YS,aFB,oN,trivial⟩ trivial E1 Fv SD _ (fun _=>aQK ..)
abbrev Hj:=Ak E1
abbrev H7:=Aj E1 Fv
variable (p122:Hj) (f122:H7)
end Vx
namespace Vx
open Go Go.Proofs
variable (p119:Xn) (f119:WY) (p120:vY) (f120:vG) (p121:wP) (f121:vD) (p123:Sm) (f123:RL) (p124:rN) (f124:sZ) (p118:GT) (f118:GC) (p122:Hj) (f122:H7)
abbrev Nz:Ab:=[(false,.int .i64),(false,.int .i64),(true,.pair (.bool) (.pair (.int .u64) (.pair (.int .i64) (.unit)))),(true,.pair (.bool) (.pair (.int .u64) (.pair (.int .i64) (.unit))))]
abbrev It:Ab:=[(false,.int .u64),(false,.int .i64),(false,.int .i64)]
def fG (p119:DenS HQ->Bool) (f119:DenS HQ->DenS Iz) (p120:DenS Jx->Bool) (f120:DenS Jx->DenS Lo) (p121:DenS Jn->Bool) (f121:DenS Jn->DenS LX) (p123:DenS GX->Bool) (f123:DenS GX->DenS Hq) (p124:DenS JA->Bool) (f124:DenS JA->DenS K2) (p118:DenS EI->Bool) (f118:DenS EI->DenS E8) (p122:DenS E1->Bool) (f122:DenS E1->DenS Fv) (f m:Int) (nx:Bool) (X ex:Int) (ny:Bool) (Y ey:Int):Option (DenS It) :=
 bif (p119 (((0:Int),(X,())),((if ((70:Int)<(IntKind.wrap .i64 (ex-ey))) then (70:Int) else (IntKind.wrap .i64 (ex-ey))),()))) then
 (bif (p120 (((0:Int),(Y,())),((IntKind.wrap .i64 ((IntKind.wrap .i64 (ex-(if ((70:Int)<(IntKind.wrap .i64 (ex-ey))) then (70:Int) else (IntKind.wrap .i64 (ex-ey)))))-ey)),()))) then
 (bif (p119 ((f120 (((0:Int),(Y,())),((IntKind.wrap .i64 ((IntKind.wrap .i64 (ex-(if ((70:Int)<(IntKind.wrap .i64 (ex-ey))) then (70:Int) else (IntKind.wrap .i64 (ex-ey)))))-ey)),()))).1,((IntKind.wrap .i64 ((IntKind.wrap .i64 (ex-(if ((70:Int)<(IntKind.wrap .i64 (ex-ey))) then (70:Int) else (IntKind.wrap .i64 (ex-ey)))))-ey)),()))) then
 (bif (p120 (((0:Int),(Y,())),((IntKind.wrap .i64 ((IntKind.wrap .i64 (ex-(if ((70:Int)<(IntKind.wrap .i64 (ex-ey))) then (70:Int) else (IntKind.wrap .i64 (ex-ey)))))-ey)),()))) then
 (bif (nx==ny) then
 (bif (p121 ((f119 (((0:Int),(X,())),((if ((70:Int)<(IntKind.wrap .i64 (ex-ey))) then (70:Int) else (IntKind.wrap .i64 (ex-ey))),()))).1,(f120 (((0:Int),(Y,())),((IntKind.wrap .i64 ((IntKind.wrap .i64 (ex-(if ((70:Int)<(IntKind.wrap .i64 (ex-ey))) then (70:Int) else (IntKind.wrap .i64 (ex-ey)))))-ey)),()))))) then
 (bif (p122 (f,(m,(nx,((f121 ((f119 (((0:Int),(X,())),((if ((70:Int)<(IntKind.wrap .i64 (ex-ey))) then (70:Int) else (IntKind.wrap .i64 (ex-ey))),()))).1,(f120 (((0:Int),(Y,())),((IntKind.wrap .i64 ((IntKind.wrap .i64 (ex-(if ((70:Int)<(IntKind.wrap .i64 (ex-ey))) then (70:Int) else (IntKind.wrap .i64 (ex-ey)))))-ey)),()))))).1,((IntKind.wrap .i64 (ex-(if ((70:Int)<(IntKind.wrap .i64 (ex-ey))) then (70:Int) else (IntKind.wrap .i64 (ex-ey))))),(((!(((f119 ((f120 (((0:Int),(Y,())),((IntKind.wrap .i64 ((IntKind.wrap .i64 (ex-(if ((70:Int)<(IntKind.wrap .i64 (ex-ey))) then (70:Int) else (IntKind.wrap .i64 (ex-ey)))))-ey)),()))).1,((IntKind.wrap .i64 ((IntKind.wrap .i64 (ex-(if ((70:Int)<(IntKind.wrap .i64 (ex-ey))) then (70:Int) else (IntKind.wrap .i64 (ex-ey)))))-ey)),()))).1.1==(0:Int))&&((f119 ((f120 (((0:Int),(Y,())),((IntKind.wrap .i64 ((IntKind.wrap .i64 (ex-(if ((70:Int)<(IntKind.wrap .i64 (ex-ey))) then (70:Int) else (IntKind.wrap .i64 (ex-ey)))))-ey)),()))).1,((IntKind.wrap .i64 ((IntKind.wrap .i64 (ex-(if ((70:Int)<(IntKind.wrap .i64 (ex-ey))) then (70:Int) else (IntKind.wrap .i64 (ex-ey)))))-ey)),()))).1.2.1==Y)))||((decide ((IntKind.wrap .i64 ((IntKind.wrap .i64 (ex-(if ((70:Int)<(IntKind.wrap .i64 (ex-ey))) then (70:Int) else (IntKind.wrap .i64 (ex-ey)))))-ey))>(63:Int)))&&(Y != (0:Int)))),()))))))) then
 (some (f122 (f,(m,(nx,((f121 ((f119 (((0:Int),(X,())),((if ((70:Int)<(IntKind.wrap .i64 (ex-ey))) then (70:Int) else (IntKind.wrap .i64 (ex-ey))),()))).1,(f120 (((0:Int),(Y,())),((IntKind.wrap .i64 ((IntKind.wrap .i64 (ex-(if ((70:Int)<(IntKind.wrap .i64 (ex-ey))) then (70:Int) else (IntKind.wrap .i64 (ex-ey)))))-ey)),()))))).1,((IntKind.wrap .i64 (ex-(if ((70:Int)<(IntKind.wrap .i64 (ex-ey))) then (70:Int) else (IntKind.wrap .i64 (ex-ey))))),(((!(((f119 ((f120 (((0:Int),(Y,())),((IntKind.wrap .i64 ((IntKind.wrap .i64 (ex-(if ((70:Int)<(IntKind.wrap .i64 (ex-ey))) then (70:Int) else (IntKind.wrap .i64 (ex-ey)))))-ey)),()))).1,((IntKind.wrap .i64 ((IntKind.wrap .i64 (ex-(if ((70:Int)<(IntKind.wrap .i64 (ex-ey))) then (70:Int) else (IntKind.wrap .i64 (ex-ey)))))-ey)),()))).1.1==(0:Int))&&((f119 ((f120 (((0:Int),(Y,())),((IntKind.wrap .i64 ((IntKind.wrap .i64 (ex-(if ((70:Int)<(IntKind.wrap .i64 (ex-ey))) then (70:Int) else (IntKind.wrap .i64 (ex-ey)))))-ey)),()))).1,((IntKind.wrap .i64 ((IntKind.wrap .i64 (ex-(if ((70:Int)<(IntKind.wrap .i64 (ex-ey))) then (70:Int) else (IntKind.wrap .i64 (ex-ey)))))-ey)),()))).1.2.1==Y)))||((decide ((IntKind.wrap .i64 ((IntKind.wrap .i64 (ex-(if ((70:Int)<(IntKind.wrap .i64 (ex-ey))) then (70:Int) else (IntKind.wrap .i64 (ex-ey)))))-ey))>(63:Int)))&&(Y != (0:Int)))),()))))))))
 else none)
 else none)
 else bif (p123 ((f119 (((0:Int),(X,())),((if ((70:Int)<(IntKind.wrap .i64 (ex-ey))) then (70:Int) else (IntKind.wrap .i64 (ex-ey))),()))).1,(f120 (((0:Int),(Y,())),((IntKind.wrap .i64 ((IntKind.wrap .i64 (ex-(if ((70:Int)<(IntKind.wrap .i64 (ex-ey))) then (70:Int) else (IntKind.wrap .i64 (ex-ey)))))-ey)),()))))) then
 (bif (decide ((f123 ((f119 (((0:Int),(X,())),((if ((70:Int)<(IntKind.wrap .i64 (ex-ey))) then (70:Int) else (IntKind.wrap .i64 (ex-ey))),()))).1,(f120 (((0:Int),(Y,())),((IntKind.wrap .i64 ((IntKind.wrap .i64 (ex-(if ((70:Int)<(IntKind.wrap .i64 (ex-ey))) then (70:Int) else (IntKind.wrap .i64 (ex-ey)))))-ey)),()))))).1<(0:Int))) then
 (bif (p124 ((f120 (((0:Int),(Y,())),((IntKind.wrap .i64 ((IntKind.wrap .i64 (ex-(if ((70:Int)<(IntKind.wrap .i64 (ex-ey))) then (70:Int) else (IntKind.wrap .i64 (ex-ey)))))-ey)),()))).1,(f119 (((0:Int),(X,())),((if ((70:Int)<(IntKind.wrap .i64 (ex-ey))) then (70:Int) else (IntKind.wrap .i64 (ex-ey))),()))))) then
 (bif ((!(((f119 ((f120 (((0:Int),(Y,())),((IntKind.wrap .i64 ((IntKind.wrap .i64 (ex-(if ((70:Int)<(IntKind.wrap .i64 (ex-ey))) then (70:Int) else (IntKind.wrap .i64 (ex-ey)))))-ey)),()))).1,((IntKind.wrap .i64 ((IntKind.wrap .i64 (ex-(if ((70:Int)<(IntKind.wrap .i64 (ex-ey))) then (70:Int) else (IntKind.wrap .i64 (ex-ey)))))-ey)),()))).1.1==(0:Int))&&((f119 ((f120 (((0:Int),(Y,())),((IntKind.wrap .i64 ((IntKind.wrap .i64 (ex-(if ((70:Int)<(IntKind.wrap .i64 (ex-ey))) then (70:Int) else (IntKind.wrap .i64 (ex-ey)))))-ey)),()))).1,((IntKind.wrap .i64 ((IntKind.wrap .i64 (ex-(if ((70:Int)<(IntKind.wrap .i64 (ex-ey))) then (70:Int) else (IntKind.wrap .i64 (ex-ey)))))-ey)),()))).1.2.1==Y)))||((decide ((IntKind.wrap .i64 ((IntKind.wrap .i64 (ex-(if ((70:Int)<(IntKind.wrap .i64 (ex-ey))) then (70:Int) else (IntKind.wrap .i64 (ex-ey)))))-ey))>(63:Int)))&&(Y != (0:Int)))) then
 (bif (p124 ((f124 ((f120 (((0:Int),(Y,())),((IntKind.wrap .i64 ((IntKind.wrap .i64 (ex-(if ((70:Int)<(IntKind.wrap .i64 (ex-ey))) then (70:Int) else (IntKind.wrap .i64 (ex-ey)))))-ey)),()))).1,(f119 (((0:Int),(X,())),((if ((70:Int)<(IntKind.wrap .i64 (ex-ey))) then (70:Int) else (IntKind.wrap .i64 (ex-ey))),()))))).1,(((0:Int),((1:Int),())),()))) then
 (bif ((((f124 ((f124 ((f120 (((0:Int),(Y,())),((IntKind.wrap .i64 ((IntKind.wrap .i64 (ex-(if ((70:Int)<(IntKind.wrap .i64 (ex-ey))) then (70:Int) else (IntKind.wrap .i64 (ex-ey)))))-ey)),()))).1,(f119 (((0:Int),(X,())),((if ((70:Int)<(IntKind.wrap .i64 (ex-ey))) then (70:Int) else (IntKind.wrap .i64 (ex-ey))),()))))).1,(((0:Int),((1:Int),())),()))).1.1==(0:Int))&&((f124 ((f124 ((f120 (((0:Int),(Y,())),((IntKind.wrap .i64 ((IntKind.wrap .i64 (ex-(if ((70:Int)<(IntKind.wrap .i64 (ex-ey))) then (70:Int) else (IntKind.wrap .i64 (ex-ey)))))-ey)),()))).1,(f119 (((0:Int),(X,())),((if ((70:Int)<(IntKind.wrap .i64 (ex-ey))) then (70:Int) else (IntKind.wrap .i64 (ex-ey))),()))))).1,(((0:Int),((1:Int),())),()))).1.2.1==(0:Int)))&&(!((!(((f119 ((f120 (((0:Int),(Y,())),((IntKind.wrap .i64 ((IntKind.wrap .i64 (ex-(if ((70:Int)<(IntKind.wrap .i64 (ex-ey))) then (70:Int) else (IntKind.wrap .i64 (ex-ey)))))-ey)),()))).1,((IntKind.wrap .i64 ((IntKind.wrap .i64 (ex-(if ((70:Int)<(IntKind.wrap .i64 (ex-ey))) then (70:Int) else (IntKind.wrap .i64 (ex-ey)))))-ey)),()))).1.1==(0:Int))&&((f119 ((f120 (((0:Int),(Y,())),((IntKind.wrap .i64 ((IntKind.wrap .i64 (ex-(if ((70:Int)<(IntKind.wrap .i64 (ex-ey))) then (70:Int) else (IntKind.wrap .i64 (ex-ey)))))-ey)),()))).1,((IntKind.wrap .i64 ((IntKind.wrap .i64 (ex-(if ((70:Int)<(IntKind.wrap .i64 (ex-ey))) then (70:Int) else (IntKind.wrap .i64 (ex-ey)))))-ey)),()))).1.2.1==Y)))||((decide ((IntKind.wrap .i64 ((IntKind.wrap .i64 (ex-(if ((70:Int)<(IntKind.wrap .i64 (ex-ey))) then (70:Int) else (IntKind.wrap .i64 (ex-ey)))))-ey))>(63:Int)))&&(Y != (0:Int)))))) then
 (bif (p118 (f,((m==(4:Int)),()))) then
 (some ((f118 (f,((m==(4:Int)),()))).1,((0:Int),((0:Int),()))))
 else none)
 else bif (p122 (f,(m,(ny,((f124 ((f124 ((f120 (((0:Int),(Y,())),((IntKind.wrap .i64 ((IntKind.wrap .i64 (ex-(if ((70:Int)<(IntKind.wrap .i64 (ex-ey))) then (70:Int) else (IntKind.wrap .i64 (ex-ey)))))-ey)),()))).1,(f119 (((0:Int),(X,())),((if ((70:Int)<(IntKind.wrap .i64 (ex-ey))) then (70:Int) else (IntKind.wrap .i64 (ex-ey))),()))))).1,(((0:Int),((1:Int),())),()))).1,((IntKind.wrap .i64 (ex-(if ((70:Int)<(IntKind.wrap .i64 (ex-ey))) then (70:Int) else (IntKind.wrap .i64 (ex-ey))))),(((!(((f119 ((f120 (((0:Int),(Y,())),((IntKind.wrap .i64 ((IntKind.wrap .i64 (ex-(if ((70:Int)<(IntKind.wrap .i64 (ex-ey))) then (70:Int) else (IntKind.wrap .i64 (ex-ey)))))-ey)),()))).1,((IntKind.wrap .i64 ((IntKind.wrap .i64 (ex-(if ((70:Int)<(IntKind.wrap .i64 (ex-ey))) then (70:Int) else (IntKind.wrap .i64 (ex-ey)))))-ey)),()))).1.1==(0:Int))&&((f119 ((f120 (((0:Int),(Y,())),((IntKind.wrap .i64 ((IntKind.wrap .i64 (ex-(if ((70:Int)<(IntKind.wrap .i64 (ex-ey))) then (70:Int) else (IntKind.wrap .i64 (ex-ey)))))-ey)),()))).1,((IntKind.wrap .i64 ((IntKind.wrap .i64 (ex-(if ((70:Int)<(IntKind.wrap .i64 (ex-ey))) then (70:Int) else (IntKind.wrap .i64 (ex-ey)))))-ey)),()))).1.2.1==Y)))||((decide ((IntKind.wrap .i64 ((IntKind.wrap .i64 (ex-(if ((70:Int)<(IntKind.wrap .i64 (ex-ey))) then (70:Int) else (IntKind.wrap .i64 (ex-ey)))))-ey))>(63:Int)))&&(Y != (0:Int)))),()))))))) then
 (some (f122 (f,(m,(ny,((f124 ((f124 ((f120 (((0:Int),(Y,())),((IntKind.wrap .i64 ((IntKind.wrap .i64 (ex-(if ((70:Int)<(IntKind.wrap .i64 (ex-ey))) then (70:Int) else (IntKind.wrap .i64 (ex-ey)))))-ey)),()))).1,(f119 (((0:Int),(X,())),((if ((70:Int)<(IntKind.wrap .i64 (ex-ey))) then (70:Int) else (IntKind.wrap .i64 (ex-ey))),()))))).1,(((0:Int),((1:Int),())),()))).1,((IntKind.wrap .i64 (ex-(if ((70:Int)<(IntKind.wrap .i64 (ex-ey))) then (70:Int) else (IntKind.wrap .i64 (ex-ey))))),(((!(((f119 ((f120 (((0:Int),(Y,())),((IntKind.wrap .i64 ((IntKind.wrap .i64 (ex-(if ((70:Int)<(IntKind.wrap .i64 (ex-ey))) then (70:Int) else (IntKind.wrap .i64 (ex-ey)))))-ey)),()))).1,((IntKind.wrap .i64 ((IntKind.wrap .i64 (ex-(if ((70:Int)<(IntKind.wrap .i64 (ex-ey))) then (70:Int) else (IntKind.wrap .i64 (ex-ey)))))-ey)),()))).1.1==(0:Int))&&((f119 ((f120 (((0:Int),(Y,())),((IntKind.wrap .i64 ((IntKind.wrap .i64 (ex-(if ((70:Int)<(IntKind.wrap .i64 (ex-ey))) then (70:Int) else (IntKind.wrap .i64 (ex-ey)))))-ey)),()))).1,((IntKind.wrap .i64 ((IntKind.wrap .i64 (ex-(if ((70:Int)<(IntKind.wrap .i64 (ex-ey))) then (70:Int) else (IntKind.wrap .i64 (ex-ey)))))-ey)),()))).1.2.1==Y)))||((decide ((IntKind.wrap .i64 ((IntKind.wrap .i64 (ex-(if ((70:Int)<(IntKind.wrap .i64 (ex-ey))) then (70:Int) else (IntKind.wrap .i64 (ex-ey)))))-ey))>(63:Int)))&&(Y != (0:Int)))),()))))))))
 else none)
 else none)
 else bif ((((f124 ((f120 (((0:Int),(Y,())),((IntKind.wrap .i64 ((IntKind.wrap .i64 (ex-(if ((70:Int)<(IntKind.wrap .i64 (ex-ey))) then (70:Int) else (IntKind.wrap .i64 (ex-ey)))))-ey)),()))).1,(f119 (((0:Int),(X,())),((if ((70:Int)<(IntKind.wrap .i64 (ex-ey))) then (70:Int) else (IntKind.wrap .i64 (ex-ey))),()))))).1.1==(0:Int))&&((f124 ((f120 (((0:Int),(Y,())),((IntKind.wrap .i64 ((IntKind.wrap .i64 (ex-(if ((70:Int)<(IntKind.wrap .i64 (ex-ey))) then (70:Int) else (IntKind.wrap .i64 (ex-ey)))))-ey)),()))).1,(f119 (((0:Int),(X,())),((if ((70:Int)<(IntKind.wrap .i64 (ex-ey))) then (70:Int) else (IntKind.wrap .i64 (ex-ey))),()))))).1.2.1==(0:Int)))&&(!((!(((f119 ((f120 (((0:Int),(Y,())),((IntKind.wrap .i64 ((IntKind.wrap .i64 (ex-(if ((70:Int)<(IntKind.wrap .i64 (ex-ey))) then (70:Int) else (IntKind.wrap .i64 (ex-ey)))))-ey)),()))).1,((IntKind.wrap .i64 ((IntKind.wrap .i64 (ex-(if ((70:Int)<(IntKind.wrap .i64 (ex-ey))) then (70:Int) else (IntKind.wrap .i64 (ex-ey)))))-ey)),()))).1.1==(0:Int))&&((f119 ((f120 (((0:Int),(Y,())),((IntKind.wrap .i64 ((IntKind.wrap .i64 (ex-(if ((70:Int)<(IntKind.wrap .i64 (ex-ey))) then (70:Int) else (IntKind.wrap .i64 (ex-ey)))))-ey)),()))).1,((IntKind.wrap .i64 ((IntKind.wrap .i64 (ex-(if ((70:Int)<(IntKind.wrap .i64 (ex-ey))) then (70:Int) else (IntKind.wrap .i64 (ex-ey)))))-ey)),()))).1.2.1==Y)))||((decide ((IntKind.wrap .i64 ((IntKind.wrap .i64 (ex-(if ((70:Int)<(IntKind.wrap .i64 (ex-ey))) then (70:Int) else (IntKind.wrap .i64 (ex-ey)))))-ey))>(63:Int)))&&(Y != (0:Int)))))) then
 (bif (p118 (f,((m==(4:Int)),()))) then
 (some ((f118 (f,((m==(4:Int)),()))).1,((0:Int),((0:Int),()))))
 else none)
 else bif (p122 (f,(m,(ny,((f124 ((f120 (((0:Int),(Y,())),((IntKind.wrap .i64 ((IntKind.wrap .i64 (ex-(if ((70:Int)<(IntKind.wrap .i64 (ex-ey))) then (70:Int) else (IntKind.wrap .i64 (ex-ey)))))-ey)),()))).1,(f119 (((0:Int),(X,())),((if ((70:Int)<(IntKind.wrap .i64 (ex-ey))) then (70:Int) else (IntKind.wrap .i64 (ex-ey))),()))))).1,((IntKind.wrap .i64 (ex-(if ((70:Int)<(IntKind.wrap .i64 (ex-ey))) then (70:Int) else (IntKind.wrap .i64 (ex-ey))))),(((!(((f119 ((f120 (((0:Int),(Y,())),((IntKind.wrap .i64 ((IntKind.wrap .i64 (ex-(if ((70:Int)<(IntKind.wrap .i64 (ex-ey))) then (70:Int) else (IntKind.wrap .i64 (ex-ey)))))-ey)),()))).1,((IntKind.wrap .i64 ((IntKind.wrap .i64 (ex-(if ((70:Int)<(IntKind.wrap .i64 (ex-ey))) then (70:Int) else (IntKind.wrap .i64 (ex-ey)))))-ey)),()))).1.1==(0:Int))&&((f119 ((f120 (((0:Int),(Y,())),((IntKind.wrap .i64 ((IntKind.wrap .i64 (ex-(if ((70:Int)<(IntKind.wrap .i64 (ex-ey))) then (70:Int) else (IntKind.wrap .i64 (ex-ey)))))-ey)),()))).1,((IntKind.wrap .i64 ((IntKind.wrap .i64 (ex-(if ((70:Int)<(IntKind.wrap .i64 (ex-ey))) then (70:Int) else (IntKind.wrap .i64 (ex-ey)))))-ey)),()))).1.2.1==Y)))||((decide ((IntKind.wrap .i64 ((IntKind.wrap .i64 (ex-(if ((70:Int)<(IntKind.wrap .i64 (ex-ey))) then (70:Int) else (IntKind.wrap .i64 (ex-ey)))))-ey))>(63:Int)))&&(Y != (0:Int)))),()))))))) then
 (some (f122 (f,(m,(ny,((f124 ((f120 (((0:Int),(Y,())),((IntKind.wrap .i64 ((IntKind.wrap .i64 (ex-(if ((70:Int)<(IntKind.wrap .i64 (ex-ey))) then (70:Int) else (IntKind.wrap .i64 (ex-ey)))))-ey)),()))).1,(f119 (((0:Int),(X,())),((if ((70:Int)<(IntKind.wrap .i64 (ex-ey))) then (70:Int) else (IntKind.wrap .i64 (ex-ey))),()))))).1,((IntKind.wrap .i64 (ex-(if ((70:Int)<(IntKind.wrap .i64 (ex-ey))) then (70:Int) else (IntKind.wrap .i64 (ex-ey))))),(((!(((f119 ((f120 (((0:Int),(Y,())),((IntKind.wrap .i64 ((IntKind.wrap .i64 (ex-(if ((70:Int)<(IntKind.wrap .i64 (ex-ey))) then (70:Int) else (IntKind.wrap .i64 (ex-ey)))))-ey)),()))).1,((IntKind.wrap .i64 ((IntKind.wrap .i64 (ex-(if ((70:Int)<(IntKind.wrap .i64 (ex-ey))) then (70:Int) else (IntKind.wrap .i64 (ex-ey)))))-ey)),()))).1.1==(0:Int))&&((f119 ((f120 (((0:Int),(Y,())),((IntKind.wrap .i64 ((IntKind.wrap .i64 (ex-(if ((70:Int)<(IntKind.wrap .i64 (ex-ey))) then (70:Int) else (IntKind.wrap .i64 (ex-ey)))))-ey)),()))).1,((IntKind.wrap .i64 ((IntKind.wrap .i64 (ex-(if ((70:Int)<(IntKind.wrap .i64 (ex-ey))) then (70:Int) else (IntKind.wrap .i64 (ex-ey)))))-ey)),()))).1.2.1==Y)))||((decide ((IntKind.wrap .i64 ((IntKind.wrap .i64 (ex-(if ((70:Int)<(IntKind.wrap .i64 (ex-ey))) then (70:Int) else (IntKind.wrap .i64 (ex-ey)))))-ey))>(63:Int)))&&(Y != (0:Int)))),()))))))))
 else none)
 else none)
 else bif (p124 ((f119 (((0:Int),(X,())),((if ((70:Int)<(IntKind.wrap .i64 (ex-ey))) then (70:Int) else (IntKind.wrap .i64 (ex-ey))),()))).1,(f120 (((0:Int),(Y,())),((IntKind.wrap .i64 ((IntKind.wrap .i64 (ex-(if ((70:Int)<(IntKind.wrap .i64 (ex-ey))) then (70:Int) else (IntKind.wrap .i64 (ex-ey)))))-ey)),()))))) then
 (bif ((!(((f119 ((f120 (((0:Int),(Y,())),((IntKind.wrap .i64 ((IntKind.wrap .i64 (ex-(if ((70:Int)<(IntKind.wrap .i64 (ex-ey))) then (70:Int) else (IntKind.wrap .i64 (ex-ey)))))-ey)),()))).1,((IntKind.wrap .i64 ((IntKind.wrap .i64 (ex-(if ((70:Int)<(IntKind.wrap .i64 (ex-ey))) then (70:Int) else (IntKind.wrap .i64 (ex-ey)))))-ey)),()))).1.1==(0:Int))&&((f119 ((f120 (((0:Int),(Y,())),((IntKind.wrap .i64 ((IntKind.wrap .i64 (ex-(if ((70:Int)<(IntKind.wrap .i64 (ex-ey))) then (70:Int) else (IntKind.wrap .i64 (ex-ey)))))-ey)),()))).1,((IntKind.wrap .i64 ((IntKind.wrap .i64 (ex-(if ((70:Int)<(IntKind.wrap .i64 (ex-ey))) then (70:Int) else (IntKind.wrap .i64 (ex-ey)))))-ey)),()))).1.2.1==Y)))||((decide ((IntKind.wrap .i64 ((IntKind.wrap .i64 (ex-(if ((70:Int)<(IntKind.wrap .i64 (ex-ey))) then (70:Int) else (IntKind.wrap .i64 (ex-ey)))))-ey))>(63:Int)))&&(Y != (0:Int)))) then
 (bif (p124 ((f124 ((f119 (((0:Int),(X,())),((if ((70:Int)<(IntKind.wrap .i64 (ex-ey))) then (70:Int) else (IntKind.wrap .i64 (ex-ey))),()))).1,(f120 (((0:Int),(Y,())),((IntKind.wrap .i64 ((IntKind.wrap .i64 (ex-(if ((70:Int)<(IntKind.wrap .i64 (ex-ey))) then (70:Int) else (IntKind.wrap .i64 (ex-ey)))))-ey)),()))))).1,(((0:Int),((1:Int),())),()))) then
 (bif ((((f124 ((f124 ((f119 (((0:Int),(X,())),((if ((70:Int)<(IntKind.wrap .i64 (ex-ey))) then (70:Int) else (IntKind.wrap .i64 (ex-ey))),()))).1,(f120 (((0:Int),(Y,())),((IntKind.wrap .i64 ((IntKind.wrap .i64 (ex-(if ((70:Int)<(IntKind.wrap .i64 (ex-ey))) then (70:Int) else (IntKind.wrap .i64 (ex-ey)))))-ey)),()))))).1,(((0:Int),((1:Int),())),()))).1.1==(0:Int))&&((f124 ((f124 ((f119 (((0:Int),(X,())),((if ((70:Int)<(IntKind.wrap .i64 (ex-ey))) then (70:Int) else (IntKind.wrap .i64 (ex-ey))),()))).1,(f120 (((0:Int),(Y,())),((IntKind.wrap .i64 ((IntKind.wrap .i64 (ex-(if ((70:Int)<(IntKind.wrap .i64 (ex-ey))) then (70:Int) else (IntKind.wrap .i64 (ex-ey)))))-ey)),()))))).1,(((0:Int),((1:Int),())),()))).1.2.1==(0:Int)))&&(!((!(((f119 ((f120 (((0:Int),(Y,())),((IntKind.wrap .i64 ((IntKind.wrap .i64 (ex-(if ((70:Int)<(IntKind.wrap .i64 (ex-ey))) then (70:Int) else (IntKind.wrap .i64 (ex-ey)))))-ey)),()))).1,((IntKind.wrap .i64 ((IntKind.wrap .i64 (ex-(if ((70:Int)<(IntKind.wrap .i64 (ex-ey))) then (70:Int) else (IntKind.wrap .i64 (ex-ey)))))-ey)),()))).1.1==(0:Int))&&((f119 ((f120 (((0:Int),(Y,())),((IntKind.wrap .i64 ((IntKind.wrap .i64 (ex-(if ((70:Int)<(IntKind.wrap .i64 (ex-ey))) then (70:Int) else (IntKind.wrap .i64 (ex-ey)))))-ey)),()))).1,((IntKind.wrap .i64 ((IntKind.wrap .i64 (ex-(if ((70:Int)<(IntKind.wrap .i64 (ex-ey))) then (70:Int) else (IntKind.wrap .i64 (ex-ey)))))-ey)),()))).1.2.1==Y)))||((decide ((IntKind.wrap .i64 ((IntKind.wrap .i64 (ex-(if ((70:Int)<(IntKind.wrap .i64 (ex-ey))) then (70:Int) else (IntKind.wrap .i64 (ex-ey)))))-ey))>(63:Int)))&&(Y != (0:Int)))))) then
 (bif (p118 (f,((m==(4:Int)),()))) then
 (some ((f118 (f,((m==(4:Int)),()))).1,((0:Int),((0:Int),()))))
 else none)
 else bif (p122 (f,(m,(nx,((f124 ((f124 ((f119 (((0:Int),(X,())),((if ((70:Int)<(IntKind.wrap .i64 (ex-ey))) then (70:Int) else (IntKind.wrap .i64 (ex-ey))),()))).1,(f120 (((0:Int),(Y,())),((IntKind.wrap .i64 ((IntKind.wrap .i64 (ex-(if ((70:Int)<(IntKind.wrap .i64 (ex-ey))) then (70:Int) else (IntKind.wrap .i64 (ex-ey)))))-ey)),()))))).1,(((0:Int),((1:Int),())),()))).1,((IntKind.wrap .i64 (ex-(if ((70:Int)<(IntKind.wrap .i64 (ex-ey))) then (70:Int) else (IntKind.wrap .i64 (ex-ey))))),(((!(((f119 ((f120 (((0:Int),(Y,())),((IntKind.wrap .i64 ((IntKind.wrap .i64 (ex-(if ((70:Int)<(IntKind.wrap .i64 (ex-ey))) then (70:Int) else (IntKind.wrap .i64 (ex-ey)))))-ey)),()))).1,((IntKind.wrap .i64 ((IntKind.wrap .i64 (ex-(if ((70:Int)<(IntKind.wrap .i64 (ex-ey))) then (70:Int) else (IntKind.wrap .i64 (ex-ey)))))-ey)),()))).1.1==(0:Int))&&((f119 ((f120 (((0:Int),(Y,())),((IntKind.wrap .i64 ((IntKind.wrap .i64 (ex-(if ((70:Int)<(IntKind.wrap .i64 (ex-ey))) then (70:Int) else (IntKind.wrap .i64 (ex-ey)))))-ey)),()))).1,((IntKind.wrap .i64 ((IntKind.wrap .i64 (ex-(if ((70:Int)<(IntKind.wrap .i64 (ex-ey))) then (70:Int) else (IntKind.wrap .i64 (ex-ey)))))-ey)),()))).1.2.1==Y)))||((decide ((IntKind.wrap .i64 ((IntKind.wrap .i64 (ex-(if ((70:Int)<(IntKind.wrap .i64 (ex-ey))) then (70:Int) else (IntKind.wrap .i64 (ex-ey)))))-ey))>(63:Int)))&&(Y != (0:Int)))),()))))))) then
 (some (f122 (f,(m,(nx,((f124 ((f124 ((f119 (((0:Int),(X,())),((if ((70:Int)<(IntKind.wrap .i64 (ex-ey))) then (70:Int) else (IntKind.wrap .i64 (ex-ey))),()))).1,(f120 (((0:Int),(Y,())),((IntKind.wrap .i64 ((IntKind.wrap .i64 (ex-(if ((70:Int)<(IntKind.wrap .i64 (ex-ey))) then (70:Int) else (IntKind.wrap .i64 (ex-ey)))))-ey)),()))))).1,(((0:Int),((1:Int),())),()))).1,((IntKind.wrap .i64 (ex-(if ((70:Int)<(IntKind.wrap .i64 (ex-ey))) then (70:Int) else (IntKind.wrap .i64 (ex-ey))))),(((!(((f119 ((f120 (((0:Int),(Y,())),((IntKind.wrap .i64 ((IntKind.wrap .i64 (ex-(if ((70:Int)<(IntKind.wrap .i64 (ex-ey))) then (70:Int) else (IntKind.wrap .i64 (ex-ey)))))-ey)),()))).1,((IntKind.wrap .i64 ((IntKind.wrap .i64 (ex-(if ((70:Int)<(IntKind.wrap .i64 (ex-ey))) then (70:Int) else (IntKind.wrap .i64 (ex-ey)))))-ey)),()))).1.1==(0:Int))&&((f119 ((f120 (((0:Int),(Y,())),((IntKind.wrap .i64 ((IntKind.wrap .i64 (ex-(if ((70:Int)<(IntKind.wrap .i64 (ex-ey))) then (70:Int) else (IntKind.wrap .i64 (ex-ey)))))-ey)),()))).1,((IntKind.wrap .i64 ((IntKind.wrap .i64 (ex-(if ((70:Int)<(IntKind.wrap .i64 (ex-ey))) then (70:Int) else (IntKind.wrap .i64 (ex-ey)))))-ey)),()))).1.2.1==Y)))||((decide ((IntKind.wrap .i64 ((IntKind.wrap .i64 (ex-(if ((70:Int)<(IntKind.wrap .i64 (ex-ey))) then (70:Int) else (IntKind.wrap .i64 (ex-ey)))))-ey))>(63:Int)))&&(Y != (0:Int)))),()))))))))
 else none)
 else none)
 else bif ((((f124 ((f119 (((0:Int),(X,())),((if ((70:Int)<(IntKind.wrap .i64 (ex-ey))) then (70:Int) else (IntKind.wrap .i64 (ex-ey))),()))).1,(f120 (((0:Int),(Y,())),((IntKind.wrap .i64 ((IntKind.wrap .i64 (ex-(if ((70:Int)<(IntKind.wrap .i64 (ex-ey))) then (70:Int) else (IntKind.wrap .i64 (ex-ey)))))-ey)),()))))).1.1==(0:Int))&&((f124 ((f119 (((0:Int),(X,())),((if ((70:Int)<(IntKind.wrap .i64 (ex-ey))) then (70:Int) else (IntKind.wrap .i64 (ex-ey))),()))).1,(f120 (((0:Int),(Y,())),((IntKind.wrap .i64 ((IntKind.wrap .i64 (ex-(if ((70:Int)<(IntKind.wrap .i64 (ex-ey))) then (70:Int) else (IntKind.wrap .i64 (ex-ey)))))-ey)),()))))).1.2.1==(0:Int)))&&(!((!(((f119 ((f120 (((0:Int),(Y,())),((IntKind.wrap .i64 ((IntKind.wrap .i64 (ex-(if ((70:Int)<(IntKind.wrap .i64 (ex-ey))) then (70:Int) else (IntKind.wrap .i64 (ex-ey)))))-ey)),()))).1,((IntKind.wrap .i64 ((IntKind.wrap .i64 (ex-(if ((70:Int)<(IntKind.wrap .i64 (ex-ey))) then (70:Int) else (IntKind.wrap .i64 (ex-ey)))))-ey)),()))).1.1==(0:Int))&&((f119 ((f120 (((0:Int),(Y,())),((IntKind.wrap .i64 ((IntKind.wrap .i64 (ex-(if ((70:Int)<(IntKind.wrap .i64 (ex-ey))) then (70:Int) else (IntKind.wrap .i64 (ex-ey)))))-ey)),()))).1,((IntKind.wrap .i64 ((IntKind.wrap .i64 (ex-(if ((70:Int)<(IntKind.wrap .i64 (ex-ey))) then (70:Int) else (IntKind.wrap .i64 (ex-ey)))))-ey)),()))).1.2.1==Y)))||((decide ((IntKind.wrap .i64 ((IntKind.wrap .i64 (ex-(if ((70:Int)<(IntKind.wrap .i64 (ex-ey))) then (70:Int) else (IntKind.wrap .i64 (ex-ey)))))-ey))>(63:Int)))&&(Y != (0:Int)))))) then
 (bif (p118 (f,((m==(4:Int)),()))) then
 (some ((f118 (f,((m==(4:Int)),()))).1,((0:Int),((0:Int),()))))
 else none)
 else bif (p122 (f,(m,(nx,((f124 ((f119 (((0:Int),(X,())),((if ((70:Int)<(IntKind.wrap .i64 (ex-ey))) then (70:Int) else (IntKind.wrap .i64 (ex-ey))),()))).1,(f120 (((0:Int),(Y,())),((IntKind.wrap .i64 ((IntKind.wrap .i64 (ex-(if ((70:Int)<(IntKind.wrap .i64 (ex-ey))) then (70:Int) else (IntKind.wrap .i64 (ex-ey)))))-ey)),()))))).1,((IntKind.wrap .i64 (ex-(if ((70:Int)<(IntKind.wrap .i64 (ex-ey))) then (70:Int) else (IntKind.wrap .i64 (ex-ey))))),(((!(((f119 ((f120 (((0:Int),(Y,())),((IntKind.wrap .i64 ((IntKind.wrap .i64 (ex-(if ((70:Int)<(IntKind.wrap .i64 (ex-ey))) then (70:Int) else (IntKind.wrap .i64 (ex-ey)))))-ey)),()))).1,((IntKind.wrap .i64 ((IntKind.wrap .i64 (ex-(if ((70:Int)<(IntKind.wrap .i64 (ex-ey))) then (70:Int) else (IntKind.wrap .i64 (ex-ey)))))-ey)),()))).1.1==(0:Int))&&((f119 ((f120 (((0:Int),(Y,())),((IntKind.wrap .i64 ((IntKind.wrap .i64 (ex-(if ((70:Int)<(IntKind.wrap .i64 (ex-ey))) then (70:Int) else (IntKind.wrap .i64 (ex-ey)))))-ey)),()))).1,((IntKind.wrap .i64 ((IntKind.wrap .i64 (ex-(if ((70:Int)<(IntKind.wrap .i64 (ex-ey))) then (70:Int) else (IntKind.wrap .i64 (ex-ey)))))-ey)),()))).1.2.1==Y)))||((decide ((IntKind.wrap .i64 ((IntKind.wrap .i64 (ex-(if ((70:Int)<(IntKind.wrap .i64 (ex-ey))) then (70:Int) else (IntKind.wrap .i64 (ex-ey)))))-ey))>(63:Int)))&&(Y != (0:Int)))),()))))))) then
 (some (f122 (f,(m,(nx,((f124 ((f119 (((0:Int),(X,())),((if ((70:Int)<(IntKind.wrap .i64 (ex-ey))) then (70:Int) else (IntKind.wrap .i64 (ex-ey))),()))).1,(f120 (((0:Int),(Y,())),((IntKind.wrap .i64 ((IntKind.wrap .i64 (ex-(if ((70:Int)<(IntKind.wrap .i64 (ex-ey))) then (70:Int) else (IntKind.wrap .i64 (ex-ey)))))-ey)),()))))).1,((IntKind.wrap .i64 (ex-(if ((70:Int)<(IntKind.wrap .i64 (ex-ey))) then (70:Int) else (IntKind.wrap .i64 (ex-ey))))),(((!(((f119 ((f120 (((0:Int),(Y,())),((IntKind.wrap .i64 ((IntKind.wrap .i64 (ex-(if ((70:Int)<(IntKind.wrap .i64 (ex-ey))) then (70:Int) else (IntKind.wrap .i64 (ex-ey)))))-ey)),()))).1,((IntKind.wrap .i64 ((IntKind.wrap .i64 (ex-(if ((70:Int)<(IntKind.wrap .i64 (ex-ey))) then (70:Int) else (IntKind.wrap .i64 (ex-ey)))))-ey)),()))).1.1==(0:Int))&&((f119 ((f120 (((0:Int),(Y,())),((IntKind.wrap .i64 ((IntKind.wrap .i64 (ex-(if ((70:Int)<(IntKind.wrap .i64 (ex-ey))) then (70:Int) else (IntKind.wrap .i64 (ex-ey)))))-ey)),()))).1,((IntKind.wrap .i64 ((IntKind.wrap .i64 (ex-(if ((70:Int)<(IntKind.wrap .i64 (ex-ey))) then (70:Int) else (IntKind.wrap .i64 (ex-ey)))))-ey)),()))).1.2.1==Y)))||((decide ((IntKind.wrap .i64 ((IntKind.wrap .i64 (ex-(if ((70:Int)<(IntKind.wrap .i64 (ex-ey))) then (70:Int) else (IntKind.wrap .i64 (ex-ey)))))-ey))>(63:Int)))&&(Y != (0:Int)))),()))))))))
 else none)
 else none)
 else none)
 else none)
 else none)
 else none)
 else none
def t71 (p119:Xn) (f119:WY) (p120:vY) (f120:vG) (p121:wP) (f121:vD) (p123:Sm) (f123:RL) (p124:rN) (f124:sZ) (p118:GT) (f118:GC) (p122:Hj) (f122:H7) (a0 a1:Aa (.int .i64)) (a2 a3:Aa (.pair (.bool) (.pair (.int .u64) (.pair (.int .i64) (.unit))))):Option (DenS It) :=
 bif (((a2.2.1==(0:Int))&&(a3.2.1==(0:Int)))&&(a2.1==a3.1)) then
 (bif (p118 (a0,a2.1,())) then (some ((f118 (a0,a2.1,())).1,(0:Int),(0:Int),())) else none)
 else bif ((a2.2.1==(0:Int))||((a3.2.1 != (0:Int))&&(decide (a2.2.2.1<a3.2.2.1)))) then
 (bif (a2.2.1==(0:Int)) then (fG p119 f119 p120 f120 p121 f121 p123 f123 p124 f124 p118 f118 p122 f122 a0 a1 a3.1 a3.2.1 a3.2.2.1 a2.1 a2.2.1 a3.2.2.1) else (fG p119 f119 p120 f120 p121 f121 p123 f123 p124 f124 p118 f118 p122 f122 a0 a1 a3.1 a3.2.1 a3.2.2.1 a2.1 a2.2.1 a2.2.2.1))
 else bif (a3.2.1==(0:Int)) then (fG p119 f119 p120 f120 p121 f121 p123 f123 p124 f124 p118 f118 p122 f122 a0 a1 a2.1 a2.2.1 a2.2.2.1 a3.1 a3.2.1 a2.2.2.1)
 else (fG p119 f119 p120 f120 p121 f121 p123 f123 p124 f124 p118 f118 p122 f122 a0 a1 a2.1 a2.2.1 a2.2.2.1 a3.1 a3.2.1 a3.2.2.1)
theorem r71 (x:DenS Nz):run (cf [(114,⟨HQ,Iz,p119,f119⟩),(115,⟨Jx,Lo,p120,f120⟩),(116,⟨Jn,LX,p121,f121⟩),(117,⟨GX,Hq,p123,f123⟩),(118,⟨JA,K2,p124,f124⟩),(38,⟨EI,E8,p118,f118⟩),(66,⟨E1,Fv,p122,f122⟩)] []) 9 57 Tryz.f57 Nz It x=t71 p119 f119 p120 f120 p121 f121 p123 f123 p124 f124 p118 f118 p122 f122 x.1 x.2.1 x.2.2.1 x.2.2.2.1:=by kernel_rfl
def U9 (x:DenS Nz):Option (DenS It):=t71 AG.pre AG.F AL.pre AL.F MC.pre MC.F Dz.pre Dz.F BF.pre BF.F A1.pre A1.F A4.pre A4.F x.1 x.2.1 x.2.2.1 x.2.2.2.1
def Rl:Sum:=Al Nz It U9 (DenS.dflt It)
theorem aPO:Sound Tryz.prog G1 57 Rl:=sd (cf [(114,AG),(115,AL),(116,MC),(117,Dz),(118,BF),(38,A1),(66,A4)] []) 57 Tryz.f57 ⟨aEj,aTN,aH5,aCr,aT0,RQ,UB,trivial⟩ trivial Nz It U9 _ (fun _=>r71 ..)
abbrev r5:=Ak Nz
abbrev rT:=Aj Nz It
variable (p71:r5) (f71:rT)
end Vx
namespace Vx
open Go Go.Proofs
variable (p69:BL) (f69:BO) (p66:Ck) (f66:Cl) (p91:Ih) (f91:H4) (p90:XF) (f90:XN) (p65:Ey) (f65:Eq) (p70:D9) (f70:D4) (p98:Ju) (f98:Iw) (p72:tT) (f72:oM) (p155:Df) (f155:C8) (p157:GL) (f157:GY) (p118:GT) (f118:GC) (p105:Tw) (f105:UO) (p173:A7) (f173:A5) (p146:Sg) (f146:SN) (p102:Gw) (f102:GD) (p178:HO) (f178:In) (p151:Lu) (f151:LG) (p156:aA) (f156:fL) (p1173:OG) (f1173:PP) (p171:So) (f171:Sy) (p92:IX) (f92:JJ) (p186:Tt) (f186:Vz) (p185:Tv) (f185:Ui) (p176:UX) (f176:T5) (p143:Px) (f143:NP) (p97:ON) (f97:MO) (p107:TC) (f107:VQ) (p122:Hj) (f122:H7) (p71:r5) (f71:rT)
abbrev MF:Ab:=[(false,.int .i64),(false,.int .i64),(false,.int .u64),(false,.int .u64)]
abbrev Mb:Ab:=[(false,.int .u64),(false,.int .i64),(false,.int .i64)]
def mN (p69:BL) (f69:BO) (p65:Ey) (f65:Eq) (p70:D9) (f70:D4) (p72:tT) (f72:oM) (p71:r5) (f71:rT) (a0 a1:Aa (.int .i64)) (a2 a3:Aa (.int .u64)):Option (DenS Mb) :=
 let e1_:=(a0,a1,(f72 (a0,(f69 (a0,())).1,a2,())).1,(f72 (a0,(f69 (a0,())).1,a3,())))
 let e2_:=(((f65 (a0,a2,())).1==(2:Int))||((f65 (a0,a2,())).1==(9:Int)))
 let e3_:=(((f65 (a0,a3,())).1==(2:Int))||((f65 (a0,a3,())).1==(9:Int)))
 let e4_:=((f70 (a0,())).1,(1:Int),(0:Int),())
 bif (p69 (a0,())) then (bif ((f69 (a0,())).2.1 != (0:Int)) then (some ((0:Int),(0:Int),(f69 (a0,())).2))
 else bif ((decide (a1<(0:Int)))||(decide (a1>(5:Int)))) then (some ((0:Int),(0:Int),(3:Int),()))
 else bif (p65 (a0,a2,())) then (bif ((f65 (a0,a2,())).2.1 != (0:Int)) then (some ((0:Int),(0:Int),(f65 (a0,a2,())).2))
 else bif (p65 (a0,a3,())) then (bif ((f65 (a0,a3,())).2.1 != (0:Int)) then (some ((0:Int),(0:Int),(f65 (a0,a3,())).2))
 else bif (p70 (a0,())) then (bif (((f65 (a0,a2,())).1==(0:Int))||((f65 (a0,a3,())).1==(0:Int))) then (some e4_)
 else bif (((f65 (a0,a2,())).1==(1:Int))||((f65 (a0,a3,())).1==(1:Int))) then (some ((f70 (a0,())).1,(0:Int),(0:Int),()))
 else bif ((e2_&&e3_)&&((f65 (a0,a2,())).1 != (f65 (a0,a3,())).1)) then (some e4_)
 else bif e2_ then (some (a2,(0:Int),(0:Int),()))
 else bif e3_ then (some (a3,(0:Int),(0:Int),()))
 else bif (p72 (a0,(f69 (a0,())).1,a2,())) then (bif (p72 (a0,(f69 (a0,())).1,a3,())) then (bif (p71 e1_) then (some (f71 e1_))
 else none)
 else none)
 else none)
 else none)
 else none)
 else none)
 else none
theorem r27 (x:DenS MF):run (cf [(54,⟨Cm,Cn,p69,f69⟩),(55,⟨DL,DR,p65,f65⟩),(56,⟨DJ,DE,p70,f70⟩),(58,⟨PJ,NI,p72,f72⟩),(57,⟨Nz,It,p71,f71⟩)] []) 9 15 Tryz.f15 MF Mb x=mN p69 f69 p65 f65 p70 f70 p72 f72 p71 f71 x.1 x.2.1 x.2.2.1 x.2.2.2.1:=by kernel_rfl
def WV (x:DenS MF):Option (DenS Mb):=mN Aq.pre Aq.F AE.pre AE.F AB.pre AB.F P3.pre P3.F Rl.pre Rl.F x.1 x.2.1 x.2.2.1 x.2.2.2.1
def FJ:Sum:=Al MF Mb WV (DenS.dflt Mb)
theorem uG:Sound Tryz.prog G1 15 FJ:=sd (cf [(54,Aq),(55,AE),(56,AB),(58,P3),(57,Rl)] []) 15 Tryz.f15 ⟨Ep,Hn,GM,aKX,aPO,trivial⟩ trivial MF Mb WV _ (fun _=>r27 ..)
abbrev eN:=Ak MF
abbrev bD:=Aj MF Mb
variable (p27:eN) (f27:bD)
abbrev IO:Ab:=[(false,.int .i64)]
abbrev IC:Ab:=[(false,.int .u64)]
def aHG (a0:Aa (.int .i64)):Option (DenS IC) :=
 let e1_:=(IntKind.wrap .i64 ((Vx.k_rows.getD (Int.toNat a0) ((0:Int),(0:Int),(0:Int),(0:Int),())).1-(1:Int)))
 bif ((decide ((0:Int)<=a0))&&(decide (a0<((4:Nat):Int)))) then (bif (decide ((0:Int)<=e1_)) then (some ((AT .u64 (1:Int) e1_),()))
 else none)
 else none
theorem aS4 (x:DenS IO):run (cf [] []) 9 120 Tryz.f120 IO IC x=aHG x.1:=by kernel_rfl
def Wu (x:DenS IO):Option (DenS IC):=aHG x.1
def Do:Sum:=Al IO IC Wu (DenS.dflt IC)
theorem uH:Sound Tryz.prog G1 120 Do:=sd (cf [] []) 120 Tryz.f120 trivial trivial IO IC Wu _ (fun _=>aS4 ..)
abbrev ZV:=Ak IO
abbrev Wn:=Aj IO IC
variable (p115:ZV) (f115:Wn)
abbrev JN:Ab:=[(false,.int .i64),(false,.int .u64)]
abbrev I9:Ab:=[(false,.int .u64),(false,.int .i64)]
def UF (p66:Ck) (f66:Cl) (p115:ZV) (f115:Wn) (a0:Aa (.int .i64)) (a1:Aa (.int .u64)):Option (DenS I9) :=
 bif (p66 (a0,a1,())) then (bif ((f66 (a0,a1,())).1 != (0:Int)) then (some ((0:Int),(f66 (a0,a1,()))))
 else bif (p115 (a0,())) then (some ((jY .u64 a1 (f115 (a0,())).1),(0:Int),()))
 else none)
 else none
theorem r64 (x:DenS JN):run (cf [(59,⟨CJ,CN,p66,f66⟩),(120,⟨IO,IC,p115,f115⟩)] []) 9 60 Tryz.f60 JN I9 x=UF p66 f66 p115 f115 x.1 x.2.1:=by kernel_rfl
def SI (x:DenS JN):Option (DenS I9):=UF Ar.pre Ar.F Do.pre Do.F x.1 x.2.1
def DO:Sum:=Al JN I9 SI (DenS.dflt I9)
theorem kC:Sound Tryz.prog G1 60 DO:=sd (cf [(59,Ar),(120,Do)] []) 60 Tryz.f60 ⟨F4,uH,trivial⟩ trivial JN I9 SI _ (fun _=>r64 ..)
abbrev Tl:=Ak JN
abbrev Vs:=Aj JN I9
variable (p64:Tl) (f64:Vs)
abbrev Nu:Ab:=[(false,.int .i64),(false,.int .i64),(false,.int .u64),(false,.int .u64)]
abbrev Qd:Ab:=[(false,.int .u64),(false,.int .i64),(false,.int .i64)]
def jG (p66:Ck) (f66:Cl) (p64:Tl) (f64:Vs) (p27:eN) (f27:bD) (a0 a1:Aa (.int .i64)) (a2 a3:Aa (.int .u64)):Option (DenS Qd) :=
 let e1_:=(a0,a1,a2,(f64 (a0,a3,())).1,())
 bif (p66 (a0,a3,())) then (bif ((f66 (a0,a3,())).1==(0:Int)) then (bif (p64 (a0,a3,())) then (bif (p27 e1_) then (some (f27 e1_))
 else none)
 else none)
 else bif (p27 (a0,a1,a2,a3,())) then (some (f27 (a0,a1,a2,a3,())))
 else none)
 else none
theorem r25 (x:DenS Nu):run (cf [(59,⟨CJ,CN,p66,f66⟩),(60,⟨JN,I9,p64,f64⟩),(15,⟨MF,Mb,p27,f27⟩)] []) 9 16 Tryz.f16 Nu Qd x=jG p66 f66 p64 f64 p27 f27 x.1 x.2.1 x.2.2.1 x.2.2.2.1:=by kernel_rfl
def XC (x:DenS Nu):Option (DenS Qd):=jG Ar.pre Ar.F DO.pre DO.F FJ.pre FJ.F x.1 x.2.1 x.2.2.1 x.2.2.2.1
def Mu:Sum:=Al Nu Qd XC (DenS.dflt Qd)
theorem xQ:Sound Tryz.prog G1 16 Mu:=sd (cf [(59,Ar),(60,DO),(15,FJ)] []) 16 Tryz.f16 ⟨F4,kC,uG,trivial⟩ trivial Nu Qd XC _ (fun _=>r25 ..)
abbrev tN:=Ak Nu
abbrev r6:=Aj Nu Qd
variable (p25:tN) (f25:r6)
abbrev Q4:Ab:=[(false,.int .i64),(true,.pair (.int .i64) (.pair (.int .i64) (.pair (.int .i64) (.pair (.int .i64) (.unit))))),(false,.int .u64)]
abbrev NJ:Ab:=[(true,.pair (.int .i64) (.pair (.bool) (.pair (.int .u64) (.pair (.int .i64) (.unit))))),(false,.int .i64)]
def UW (p65:Ey) (f65:Eq) (p98:Ju) (f98:Iw) (a0:Aa (.int .i64)) (a1:Aa (.pair (.int .i64) (.pair (.int .i64) (.pair (.int .i64) (.pair (.int .i64) (.unit)))))) (a2:Aa (.int .u64)):Option (DenS NJ) :=
 let e1_:=(IntKind.wrap .i64 (a1.2.1-(1:Int)))
 bif (p65 (a0,a2,())) then (bif ((f65 (a0,a2,())).2.1 != (0:Int)) then (some (((0:Int),false,(0:Int),(0:Int),()),(f65 (a0,a2,())).2))
 else bif (p98 (a0,a2,())) then (bif ((f98 (a0,a2,())).2.1==(0:Int)) then (some (((f65 (a0,a2,())).1,(f98 (a0,a2,())).1,(f98 (a0,a2,())).2.2.1,(IntKind.wrap .i64 ((IntKind.wrap .i64 ((IntKind.wrap .i64 ((IntKind.wrap .i64 ((IntKind.wrap .i64 (1:Int))-(1:Int)))+a1.2.2.1))-a1.2.1))+(1:Int))),()),(0:Int),()))
 else bif (decide ((0:Int)<=e1_)) then (some (((f65 (a0,a2,())).1,(f98 (a0,a2,())).1,(AX .u64 (f98 (a0,a2,())).2.2.1 (AT .u64 (1:Int) e1_)),(IntKind.wrap .i64 ((IntKind.wrap .i64 ((IntKind.wrap .i64 ((IntKind.wrap .i64 ((IntKind.wrap .i64 (f98 (a0,a2,())).2.1)-(1:Int)))+a1.2.2.1))-a1.2.1))+(1:Int))),()),(0:Int),()))
 else none)
 else none)
 else none
theorem aPc (x:DenS Q4):run (cf [(55,⟨DL,DR,p65,f65⟩),(119,⟨Fe,Fk,p98,f98⟩)] []) 9 61 Tryz.f61 Q4 NJ x=UW p65 f65 p98 f98 x.1 x.2.1 x.2.2.1:=by kernel_rfl
def U5 (x:DenS Q4):Option (DenS NJ):=UW AE.pre AE.F Bq.pre Bq.F x.1 x.2.1 x.2.2.1
def Pb:Sum:=Al Q4 NJ U5 (DenS.dflt NJ)
theorem aTe:Sound Tryz.prog G1 61 Pb:=sd (cf [(55,AE),(119,Bq)] []) 61 Tryz.f61 ⟨Hn,Sk,trivial⟩ trivial Q4 NJ U5 _ (fun _=>aPc ..)
abbrev zM:=Ak Q4
abbrev aDg:=Aj Q4 NJ
variable (p350:zM) (f350:aDg)
abbrev Nc:Ab:=[(true,.pair (.int .i64) (.pair (.bool) (.pair (.int .u64) (.pair (.int .i64) (.unit)))))]
abbrev QY:Ab:=[(false,.bool)]
def aAj (a0:Aa (.pair (.int .i64) (.pair (.bool) (.pair (.int .u64) (.pair (.int .i64) (.unit)))))):Option (DenS QY) :=
 some (((a0.1==(1:Int))||(a0.1==(0:Int))),())
theorem aJb (x:DenS Nc):run (cf [] []) 9 62 Tryz.f62 Nc QY x=aAj x.1:=by kernel_rfl
def Ya (x:DenS Nc):Option (DenS QY):=aAj x.1
def PZ:Sum:=Al Nc QY Ya (DenS.dflt QY)
theorem aUb:Sound Tryz.prog G1 62 PZ:=sd (cf [] []) 62 Tryz.f62 trivial trivial Nc QY Ya _ (fun _=>aJb ..)
abbrev aEo:=Ak Nc
abbrev xB:=Aj Nc QY
variable (p351:aEo) (f351:xB)
abbrev M7:Ab:=[(true,.pair (.int .i64) (.pair (.bool) (.pair (.int .u64) (.pair (.int .i64) (.unit)))))]
abbrev Pr:Ab:=[(false,.bool)]
def aCL (a0:Aa (.pair (.int .i64) (.pair (.bool) (.pair (.int .u64) (.pair (.int .i64) (.unit)))))):Option (DenS Pr) :=
 some (((a0.1==(2:Int))||(a0.1==(9:Int))),())
theorem aPP (x:DenS M7):run (cf [] []) 9 63 Tryz.f63 M7 Pr x=aCL x.1:=by kernel_rfl
def Zj (x:DenS M7):Option (DenS Pr):=aCL x.1
def N2:Sum:=Al M7 Pr Zj (DenS.dflt Pr)
theorem aJx:Sound Tryz.prog G1 63 N2:=sd (cf [] []) 63 Tryz.f63 trivial trivial M7 Pr Zj _ (fun _=>aPP ..)
abbrev aAr:=Ak M7
abbrev aHg:=Aj M7 Pr
variable (p352:aAr) (f352:aHg)
abbrev Ra:Ab:=[(true,.pair (.int .i64) (.pair (.bool) (.pair (.int .u64) (.pair (.int .i64) (.unit)))))]
abbrev Qs:Ab:=[(false,.bool)]
def aHb (a0:Aa (.pair (.int .i64) (.pair (.bool) (.pair (.int .u64) (.pair (.int .i64) (.unit)))))):Option (DenS Qs) :=
 some (((a0.1==(5:Int))||(a0.1==(6:Int))),())
theorem aJC (x:DenS Ra):run (cf [] []) 9 64 Tryz.f64 Ra Qs x=aHb x.1:=by kernel_rfl
def Zr (x:DenS Ra):Option (DenS Qs):=aHb x.1
def QG:Sum:=Al Ra Qs Zr (DenS.dflt Qs)
theorem aL6:Sound Tryz.prog G1 64 QG:=sd (cf [] []) 64 Tryz.f64 trivial trivial Ra Qs Zr _ (fun _=>aJC ..)
abbrev aEb:=Ak Ra
abbrev aBw:=Aj Ra Qs
variable (p353:aEb) (f353:aBw)
abbrev EM:Ab:=[(false,.int .u64),(false,.int .u64)]
abbrev EK:Ab:=[(false,.int .u64),(false,.int .u64)]
def iO (a0 a1:Aa (.int .u64)):Option (DenS EK) :=
 let e2_:=(AQ .u64 a1 (4294967295:Int))
 let e3_:=(AQ .u64 a0 (4294967295:Int))
 let e1_:=(IntKind.wrap .u64 ((IntKind.wrap .u64 ((AJ .u64 a0 (32:Int))*e2_))+(AJ .u64 (IntKind.wrap .u64 (e3_*e2_)) (32:Int))))
 some ((IntKind.wrap .u64 ((IntKind.wrap .u64 ((IntKind.wrap .u64 ((AJ .u64 a0 (32:Int))*(AJ .u64 a1 (32:Int))))+(AJ .u64 e1_ (32:Int))))+(AJ .u64 (IntKind.wrap .u64 ((AQ .u64 e1_ (4294967295:Int))+(IntKind.wrap .u64 (e3_*(AJ .u64 a1 (32:Int)))))) (32:Int)))),(IntKind.wrap .u64 (a0*a1)),())
theorem aQu (x:DenS EM):run (cf [] []) 9 126 Tryz.f126 EM EK x=iO x.1 x.2.1:=by kernel_rfl
def Yt (x:DenS EM):Option (DenS EK):=iO x.1 x.2.1
def AP:Sum:=Al EM EK Yt (DenS.dflt EK)
theorem iD:Sound Tryz.prog G1 126 AP:=sd (cf [] []) 126 Tryz.f126 trivial trivial EM EK Yt _ (fun _=>aQu ..)
abbrev ET:=Ak EM
abbrev EQ:=Aj EM EK
variable (p315:ET) (f315:EQ)
abbrev IA:Ab:=[(false,.int .u64),(false,.int .u64)]
abbrev ID:Ab:=[(true,.pair (.int .u64) (.pair (.int .u64) (.unit)))]
def aO (p315:ET) (f315:EQ) (a0 a1:Aa (.int .u64)):Option (DenS ID) :=
 bif (p315 (a0,a1,())) then (some ((f315 (a0,a1,())),()))
 else none
theorem aMn (x:DenS IA):run (cf [(126,⟨EM,EK,p315,f315⟩)] []) 9 67 Tryz.f67 IA ID x=aO p315 f315 x.1 x.2.1:=by kernel_rfl
def V4 (x:DenS IA):Option (DenS ID):=aO AP.pre AP.F x.1 x.2.1
def C2:Sum:=Al IA ID V4 (DenS.dflt ID)
theorem aHr:Sound Tryz.prog G1 67 C2:=sd (cf [(126,AP)] []) 67 Tryz.f67 ⟨iD,trivial⟩ trivial IA ID V4 _ (fun _=>aMn ..)
abbrev TG:=Ak IA
abbrev Ul:=Aj IA ID
variable (p316:TG) (f316:Ul)
abbrev Ro:Ab:=[(false,.int .i64),(false,.int .i64),(false,.int .u64),(false,.int .u64)]
abbrev PR:Ab:=[(false,.int .u64),(false,.int .i64),(false,.int .i64)]
def jJ (p69:BL) (f69:BO) (p350:zM) (f350:aDg) (p351:aEo) (f351:xB) (p70:D9) (f70:D4) (p352:aAr) (f352:aHg) (p97:ON) (f97:MO) (p353:aEb) (f353:aBw) (p118:GT) (f118:GC) (p316:TG) (f316:Ul) (p122:Hj) (f122:H7) (a0 a1:Aa (.int .i64)) (a2 a3:Aa (.int .u64)):Option (DenS PR) :=
 let e18_:=(!((f350 (a0,(f69 (a0,())).1,a2,())).1.2.1==(f350 (a0,(f69 (a0,())).1,a3,())).1.2.1))
 let e17_:=((f350 (a0,(f69 (a0,())).1,a2,())).1.2.2.1,(f350 (a0,(f69 (a0,())).1,a3,())).1.2.2.1,())
 let e1_:=(a0,a1,e18_,(f316 e17_).1,(IntKind.wrap .i64 ((f350 (a0,(f69 (a0,())).1,a2,())).1.2.2.2.1+(f350 (a0,(f69 (a0,())).1,a3,())).1.2.2.2.1)),false,())
 let e20_:=((f350 (a0,(f69 (a0,())).1,a2,())).1,())
 let e19_:=(f352 e20_)
 let e21_:=((f350 (a0,(f69 (a0,())).1,a3,())).1,())
 let e2_:=(e19_.1&&(f353 e21_).1)
 let e16_:=(a0,e18_,())
 let e3_:=(f118 e16_)
 let e4_:=(f97 e16_)
 let e5_:=e16_
 let e6_:=(f353 e20_)
 let e7_:=e19_
 let e8_:=(f351 e20_)
 let e9_:=(p352 e20_)
 let e10_:=(p353 e21_)
 let e11_:=(p353 e20_)
 let e12_:=(p352 e21_)
 let e13_:=(f352 e21_)
 let e14_:=e21_
 let e15_:=((f70 (a0,())).1,(1:Int),(f70 (a0,())).2)
 bif (p69 (a0,())) then (bif ((f69 (a0,())).2.1 != (0:Int)) then (some ((0:Int),(0:Int),(f69 (a0,())).2))
 else bif ((decide (a1<(0:Int)))||(decide (a1>(5:Int)))) then (some ((0:Int),(0:Int),(3:Int),()))
 else bif (p350 (a0,(f69 (a0,())).1,a2,())) then (bif ((f350 (a0,(f69 (a0,())).1,a2,())).2.1 != (0:Int)) then (some ((0:Int),(0:Int),(f350 (a0,(f69 (a0,())).1,a2,())).2))
 else bif (p350 (a0,(f69 (a0,())).1,a3,())) then (bif ((f350 (a0,(f69 (a0,())).1,a3,())).2.1 != (0:Int)) then (some ((0:Int),(0:Int),(f350 (a0,(f69 (a0,())).1,a3,())).2))
 else bif (p351 e20_) then (bif ((p351 e14_)||(!(bif e8_.1 then false else true))) then (bif (e8_.1||(f351 e14_).1) then (bif (((f350 (a0,(f69 (a0,())).1,a2,())).1.1==(0:Int))||((f350 (a0,(f69 (a0,())).1,a3,())).1.1==(0:Int))) then (bif (p70 (a0,())) then (some e15_)
 else none)
 else bif (p70 (a0,())) then (some ((f70 (a0,())).1,(0:Int),(f70 (a0,())).2))
 else none)
 else bif e9_ then (bif (e10_||(!e7_.1)) then (bif (e11_||(!(bif e2_ then false else true))) then (bif (e12_||(!((bif e2_ then false else true)&&e6_.1))) then (bif (e2_||(e6_.1&&e13_.1)) then (bif (p70 (a0,())) then (some e15_)
 else none)
 else bif e9_ then (bif (e12_||(!(bif e7_.1 then false else true))) then (bif (e7_.1||e13_.1) then (bif (p97 e5_) then (some (e4_.1,(0:Int),e4_.2))
 else none)
 else bif e11_ then (bif (e10_||(!(bif e6_.1 then false else true))) then (bif (e6_.1||(f353 e14_).1) then (bif (p118 e5_) then (some (e3_.1,(0:Int),e3_.2))
 else none)
 else bif (p316 e17_) then (bif (p122 e1_) then (some (f122 e1_))
 else none)
 else none)
 else none)
 else none)
 else none)
 else none)
 else none)
 else none)
 else none)
 else none)
 else none)
 else none)
 else none)
 else none)
 else none
theorem aTj (x:DenS Ro):run (cf [(54,⟨Cm,Cn,p69,f69⟩),(61,⟨Q4,NJ,p350,f350⟩),(62,⟨Nc,QY,p351,f351⟩),(56,⟨DJ,DE,p70,f70⟩),(63,⟨M7,Pr,p352,f352⟩),(65,⟨GG,Gs,p97,f97⟩),(64,⟨Ra,Qs,p353,f353⟩),(38,⟨EI,E8,p118,f118⟩),(67,⟨IA,ID,p316,f316⟩),(66,⟨E1,Fv,p122,f122⟩)] []) 9 17 Tryz.f17 Ro PR x=jJ p69 f69 p350 f350 p351 f351 p70 f70 p352 f352 p97 f97 p353 f353 p118 f118 p316 f316 p122 f122 x.1 x.2.1 x.2.2.1 x.2.2.2.1:=by kernel_rfl
def ZG (x:DenS Ro):Option (DenS PR):=jJ Aq.pre Aq.F Pb.pre Pb.F PZ.pre PZ.F AB.pre AB.F N2.pre N2.F B6.pre B6.F QG.pre QG.F A1.pre A1.F C2.pre C2.F A4.pre A4.F x.1 x.2.1 x.2.2.1 x.2.2.2.1
def Kj:Sum:=Al Ro PR ZG (DenS.dflt PR)
theorem aFE:Sound Tryz.prog G1 17 Kj:=sd (cf [(54,Aq),(61,Pb),(62,PZ),(56,AB),(63,N2),(65,B6),(64,QG),(38,A1),(67,C2),(66,A4)] []) 17 Tryz.f17 ⟨Ep,aTe,aUb,GM,aJx,Zp,aL6,RQ,aHr,UB,trivial⟩ trivial Ro PR ZG _ (fun _=>aTj ..)
abbrev nH:=Ak Ro
abbrev pU:=Aj Ro PR
variable (p354:nH) (f354:pU)
abbrev M1:Ab:=[(false,.int .i64),(false,.int .i64),(false,.slice (.int .u64))]
abbrev PU:Ab:=[(false,.int .i64)]
abbrev Il:Pat:=⟨39,[(27,.one (.v .i64)),(26,.one (.sl (.int .u64))),(0,.one (.v .i64)),(28,.one (.v .i64))],[]⟩
abbrev Z7:List (Nat×Shape):=[]
abbrev Le:List (Nat×Pat):=[(0,⟨39,[],[]⟩)]
abbrev ME:Option Pat:=(some ⟨39,[(6,.one (.v .i64))],[]⟩)
variable (w376_7:Pat.D Il->Option (Ah Le ME))
def VN (p69:BL) (f69:BO) (p66:Ck) (f66:Cl) {R:Type} (L:Pat.D Il->Option R) (e:Ah Le ME->Option R) (x:Pat.D Il):Option R :=
 let e2_:=(x.1.2.2.1,(x.1.2.1.getD (Int.toNat x.1.2.2.2.1) (0:Int)),())
 let e1_:=(f66 e2_)
 bif (decide (x.1.2.2.2.1<x.1.1)) then (bif ((decide ((0:Int)<=x.1.2.2.2.1))&&(decide (x.1.2.2.2.1<(x.1.2.1.length:Int)))) then (bif (p66 e2_) then (bif (e1_.1 != (0:Int)) then (((e (.inr (e1_,())))))
 else (L ((x.1.1,x.1.2.1,x.1.2.2.1,(IntKind.wrap .i64 (x.1.2.2.2.1+(1:Int))),()),())))
 else none)
 else none)
 else (e (.inl ((),())))
theorem aJS (d:Nat) (R:Type) (L:Pat.D Il->Option R) (e:Ah Le ME->Option R) (x:Pat.D Il) :
  Bz (cf [(54,⟨Cm,Cn,p69,f69⟩),(59,⟨CJ,CN,p66,f66⟩)] [(68,7,LoopSpec.of Il Z7 Le ME w376_7)]) (d+2) 68 (Bw Tryz.f68 7) Il Z7 Le ME (R:=R) L e x=VN p69 f69 p66 f66 L e x:=by kernel_rfl
theorem aFp (p69:BL) (f69:BO) (p66:Ck) (f66:Cl):Bu fun L e x=>VN p69 f69 p66 f66 L e x:=by intro _ _ _ _ _ _ _ h0 hL he _; unfold VN; repeat' (first | exact h0 | exact hL _ | exact he _ | apply B3 | (apply BY h0; intro _) | (apply BV <;> intro _))
def eD (p69:BL) (f69:BO) (p66:Ck) (f66:Cl) (w376_7:Pat.D Il->Option (Ah Le ME)) (a0 a1:Aa (.int .i64)) (a2:Aa (.slice (.int .u64))):Option (DenS PU) :=
 bif (p69 (a0,())) then (bif ((f69 (a0,())).2.1 != (0:Int)) then (some (f69 (a0,())).2)
 else bif ((decide (a1<(0:Int)))||(decide (a1>(5:Int)))) then (some ((3:Int),()))
 else Vx.A3 (w376_7 (((a2.length:Int),a2,a0,(0:Int),()),())) fun y3 =>
 Vx.A6 y3 (fun y4 =>
 some ((0:Int),())) (fun z4 =>
 some z4.1))
 else none
theorem aMt (x:DenS M1):run (cf [(54,⟨Cm,Cn,p69,f69⟩),(59,⟨CJ,CN,p66,f66⟩)] [(68,7,LoopSpec.of Il Z7 Le ME w376_7)]) 9 68 Tryz.f68 M1 PU x=eD p69 f69 p66 f66 w376_7 x.1 x.2.1 x.2.2.1:=by kernel_rfl
def aE:Il.D->Option (Ah Le ME):=Bf fun L=>VN Aq.pre Aq.F Ar.pre Ar.F L some
def Tq (x:DenS M1):Option (DenS PU):=eD Aq.pre Aq.F Ar.pre Ar.F aE x.1 x.2.1 x.2.2.1
def M4:Sum:=Al M1 PU Tq (DenS.dflt PU)
theorem aSo:Sound Tryz.prog G1 68 M4:=sd (cf [(54,Aq),(59,Ar)] [(68,7,LoopSpec.of Il Z7 Le ME aE)]) 68 Tryz.f68 ⟨Ep,F4,trivial⟩ ⟨rfl,fun d=>BT (fun L e x=>VN Aq.pre Aq.F Ar.pre Ar.F L e x) (aFp Aq.pre Aq.F Ar.pre Ar.F) (fun _ _ _ _=>aJS ..),trivial⟩ M1 PU Tq _ (fun _=>aMt ..)
abbrev aEO:=Ak M1
abbrev aAC:=Aj M1 PU
variable (p376:aEO) (f376:aAC)
abbrev PG:Ab:=[(false,.int .i64),(false,.int .u64)]
abbrev N8:Ab:=[(true,.pair (.bool) (.pair (.bool) (.pair (.bool) (.pair (.bool) (.pair (.bool) (.unit))))))]
def bI (p65:Ey) (f65:Eq) (p98:Ju) (f98:Iw) (a0:Aa (.int .i64)) (a1:Aa (.int .u64)):Option (DenS N8) :=
 bif (p65 (a0,a1,())) then (bif (p98 (a0,a1,())) then (some (((((f65 (a0,a1,())).1==(1:Int))||((f65 (a0,a1,())).1==(0:Int))),((f65 (a0,a1,())).1==(0:Int)),(((f65 (a0,a1,())).1==(9:Int))||((f65 (a0,a1,())).1==(2:Int))),(((f65 (a0,a1,())).1==(6:Int))||((f65 (a0,a1,())).1==(5:Int))),(f98 (a0,a1,())).1,()),()))
 else none)
 else none
theorem aPI (x:DenS PG):run (cf [(55,⟨DL,DR,p65,f65⟩),(119,⟨Fe,Fk,p98,f98⟩)] []) 9 69 Tryz.f69 PG N8 x=bI p65 f65 p98 f98 x.1 x.2.1:=by kernel_rfl
def Zy (x:DenS PG):Option (DenS N8):=bI AE.pre AE.F Bq.pre Bq.F x.1 x.2.1
def NF:Sum:=Al PG N8 Zy (DenS.dflt N8)
theorem aLI:Sound Tryz.prog G1 69 NF:=sd (cf [(55,AE),(119,Bq)] []) 69 Tryz.f69 ⟨Hn,Sk,trivial⟩ trivial PG N8 Zy _ (fun _=>aPI ..)
abbrev aEs:=Ak PG
abbrev aB6:=Aj PG N8
variable (p377:aEs) (f377:aB6)
abbrev Pn:Ab:=[(false,.int .i64),(false,.int .i64)]
abbrev Pv:Ab:=[(false,.int .u64),(false,.int .i64),(false,.int .i64)]
def eU (p70:D9) (f70:D4) (a0 a1:Aa (.int .i64)):Option (DenS Pv) :=
 bif (p70 (a0,())) then (some ((f70 (a0,())).1,a1,(f70 (a0,())).2))
 else none
theorem aPf (x:DenS Pn):run (cf [(56,⟨DJ,DE,p70,f70⟩)] []) 9 70 Tryz.f70 Pn Pv x=eU p70 f70 x.1 x.2.1:=by kernel_rfl
def ZZ (x:DenS Pn):Option (DenS Pv):=eU AB.pre AB.F x.1 x.2.1
def Nh:Sum:=Al Pn Pv ZZ (DenS.dflt Pv)
theorem aIt:Sound Tryz.prog G1 70 Nh:=sd (cf [(56,AB)] []) 70 Tryz.f70 ⟨GM,trivial⟩ trivial Pn Pv ZZ _ (fun _=>aPf ..)
abbrev aAs:=Ak Pn
abbrev aEw:=Aj Pn Pv
variable (p378:aAs) (f378:aEw)
abbrev G8:Ab:=[(false,.int .i64),(false,.int .u64)]
abbrev GA:Ab:=[(true,.pair (.bool) (.pair (.slice (.int .u64)) (.pair (.int .i64) (.unit)))),(false,.int .i64)]
def Vu (p66:Ck) (f66:Cl) (p90:XF) (f90:XN) (p91:Ih) (f91:H4) (p92:IX) (f92:JJ) (a0:Aa (.int .i64)) (a1:Aa (.int .u64)):Option (DenS GA) :=
 let e10_:=(Vx.k_rows.getD (Int.toNat a0) ((0:Int),(0:Int),(0:Int),(0:Int),()))
 let e9_:=(f90 (e10_,a1,()))
 let e8_:=(AX .u64 e9_.2.2.1 (AT .u64 (1:Int) (IntKind.wrap .i64 (e10_.2.1-(1:Int)))))
 let e1_:=(f92 (e8_,()))
 let e2_:=e8_
 let e3_:=((IntKind.wrap .i64 (e10_.1-e10_.2.1)),())
 let e4_:=(f92 e9_.2.2)
 let e5_:=e9_
 let e6_:=e10_
 let e7_:=((false,[],(0:Int),()),(0:Int),())
 bif (p66 (a0,a1,())) then (bif ((f66 (a0,a1,())).1 != (0:Int)) then (some ((false,[],(0:Int),()),(f66 (a0,a1,()))))
 else bif (bif (decide ((0:Int)<=a0)) then (decide (a0<((4:Nat):Int))) else false) then (bif (p90 (e6_,a1,())) then (bif (p91 e3_) then (bif (e5_.2.1==(f91 e3_).1) then (some ((false,[],(0:Int),()),(40:Int),()))
 else bif (e5_.2.1==(0:Int)) then (bif (e5_.2.2.1==(0:Int)) then (some e7_)
 else bif (p92 e5_.2.2) then (bif (decide ((0:Int)<=e4_.1)) then (some ((e5_.1,((AJ .u64 e5_.2.2.1 e4_.1)::[]),(IntKind.wrap .i64 ((IntKind.wrap .i64 ((IntKind.wrap .i64 ((IntKind.wrap .i64 ((IntKind.wrap .i64 ((IntKind.wrap .i64 (1:Int))-(1:Int)))+e6_.2.2.1))-e6_.2.1))+(1:Int)))+e4_.1)),()),(0:Int),()))
 else none)
 else none)
 else bif (decide ((0:Int)<=(IntKind.wrap .i64 (e6_.2.1-(1:Int))))) then (bif (e2_==(0:Int)) then (some e7_)
 else bif (p92 (e2_,())) then (bif (decide ((0:Int)<=e1_.1)) then (some ((e5_.1,((AJ .u64 e2_ e1_.1)::[]),(IntKind.wrap .i64 ((IntKind.wrap .i64 ((IntKind.wrap .i64 ((IntKind.wrap .i64 ((IntKind.wrap .i64 ((IntKind.wrap .i64 e5_.2.1)-(1:Int)))+e6_.2.2.1))-e6_.2.1))+(1:Int)))+e1_.1)),()),(0:Int),()))
 else none)
 else none)
 else none)
 else none)
 else none)
 else none)
 else none
theorem r40 (x:DenS G8):run (cf [(59,⟨CJ,CN,p66,f66⟩),(111,⟨JB,IR,p90,f90⟩),(112,⟨EG,ES,p91,f91⟩),(127,⟨Gp,G5,p92,f92⟩)] []) 9 71 Tryz.f71 G8 GA x=Vu p66 f66 p90 f90 p91 f91 p92 f92 x.1 x.2.1:=by kernel_rfl
def SM (x:DenS G8):Option (DenS GA):=Vu Ar.pre Ar.F Dr.pre Dr.F Bo.pre Bo.F BK.pre BK.F x.1 x.2.1
def CF:Sum:=Al G8 GA SM (DenS.dflt GA)
theorem ZH:Sound Tryz.prog G1 71 CF:=sd (cf [(59,Ar),(111,Dr),(112,Bo),(127,BK)] []) 71 Tryz.f71 ⟨F4,qO,L3,tM,trivial⟩ trivial G8 GA SM _ (fun _=>r40 ..)
abbrev QU:=Ak G8
abbrev Nv:=Aj G8 GA
variable (p40:QU) (f40:Nv)
abbrev JQ:Ab:=[(false,.slice (.int .u64))]
abbrev JL:Ab:=[(true,.slice (.int .u64))]
def fM (p173:A7) (f173:A5) (a0:Aa (.slice (.int .u64))):Option (DenS JL) :=
 let e1_:=(List.replicate (Int.toNat ((f173 (a0,())).1.length:Int)) (0:Int))
 bif (p173 (a0,())) then (bif ((decide ((0:Int)<=((f173 (a0,())).1.length:Int)))&&(decide ((((f173 (a0,())).1.length:Int)*(8:Int))<=(140737488355328:Int)))) then (some ((((f173 (a0,())).1.take e1_.length)++(e1_.drop (f173 (a0,())).1.length)),()))
 else none)
 else none
theorem aOX (x:DenS JQ):run ({ cf [(169,⟨Bt,Bs,p173,f173⟩)] [] with keep:=true }) 9 168 Tryz.f168 JQ JL x=fM p173 f173 x.1:=by kernel_rfl
def Sv (x:DenS JQ):Option (DenS JL):=fM Ag.pre Ag.F x.1
def DC:Sum:=Al JQ JL Sv (DenS.dflt JL)
theorem aBN:Sound Tryz.prog G1 168 DC:=sd ({ cf [(169,Ag)] [] with keep:=true }) 168 Tryz.f168 ⟨Ek,trivial⟩ trivial JQ JL Sv _ (fun _=>aOX ..)
abbrev W5:=Ak JQ
abbrev YU:=Aj JQ JL
variable (p1146:W5) (f1146:YU)
abbrev GP:Ab:=[(false,.int .u64)]
abbrev GE:Ab:=[(false,.int .i64)]
def j6 (p178:HO) (f178:In) (a0:Aa (.int .u64)):Option (DenS GE) :=
 bif (p178 (a0,())) then (some ((IntKind.wrap .i64 ((64:Int)-(f178 (a0,())).1)),()))
 else none
theorem aPB (x:DenS GP):run (cf [(83,⟨FO,Fo,p178,f178⟩)] []) 9 304 Tryz.f304 GP GE x=j6 p178 f178 x.1:=by kernel_rfl
def W1 (x:DenS GP):Option (DenS GE):=j6 Bx.pre Bx.F x.1
def BB:Sum:=Al GP GE W1 (DenS.dflt GE)
theorem aDE:Sound Tryz.prog G1 304 BB:=sd (cf [(83,Bx)] []) 304 Tryz.f304 ⟨Zf,trivial⟩ trivial GP GE W1 _ (fun _=>aPB ..)
abbrev K9:=Ak GP
abbrev L4:=Aj GP GE
variable (p327:K9) (f327:L4)
abbrev EV:Ab:=[(false,.int .u64),(false,.int .u64),(false,.int .u64)]
abbrev EX:Ab:=[(false,.int .u64),(false,.int .u64)]
abbrev Gv:Pat:=⟨135,[(16,.one (.v .u64)),(11,.one (.v .u64)),(13,.one (.v .u64)),(10,.one (.v .u64)),(9,.one (.v .u64)),(15,.one (.v .u64)),(14,.one (.v .u64)),(2,.one (.v .u64)),(8,.one (.v .u64))],[]⟩
abbrev YI:List (Nat×Shape):=[]
abbrev Jw:List (Nat×Pat):=[(0,⟨135,[(11,.one (.v .u64)),(13,.one (.v .u64)),(10,.one (.v .u64)),(9,.one (.v .u64)),(15,.one (.v .u64)),(14,.one (.v .u64)),(2,.one (.v .u64)),(8,.one (.v .u64))],[]⟩)]
abbrev Iu:Option Pat:=none
abbrev Ha:Pat:=⟨135,[(10,.one (.v .u64)),(16,.one (.v .u64)),(9,.one (.v .u64)),(15,.one (.v .u64)),(17,.one (.v .u64)),(14,.one (.v .u64)),(18,.one (.v .u64)),(2,.one (.v .u64)),(8,.one (.v .u64))],[]⟩
abbrev Zb:List (Nat×Shape):=[]
abbrev IS:List (Nat×Pat):=[(2,⟨135,[(15,.one (.v .u64)),(17,.one (.v .u64)),(14,.one (.v .u64)),(18,.one (.v .u64)),(2,.one (.v .u64)),(8,.one (.v .u64))],[]⟩)]
abbrev Jk:Option Pat:=none
variable (w328_17:Pat.D Gv->Option (Ah Jw Iu)) (w328_24:Pat.D Ha->Option (Ah IS Jk))
def Tf (p327:K9) (f327:L4) {R:Type} (L:Pat.D Ha->Option R) (e:Ah IS Jk->Option R) (x:Pat.D Ha):Option R :=
 let e1_:=(x.1.2.2.2.1,x.1.2.2.2.2.1,x.1.2.2.2.2.2.1,(IntKind.wrap .u64 (x.1.2.2.2.2.2.2.1-(1:Int))),x.1.2.2.2.2.2.2.2)
 let e2_:=(IntKind.wrap .u64 (x.1.2.1+x.1.2.2.1))
 bif ((decide (x.1.2.2.2.2.2.2.1>=(4294967296:Int)))||(decide ((IntKind.wrap .u64 (x.1.2.2.2.2.2.2.1*x.1.1))>(IntKind.wrap .u64 ((IntKind.wrap .u64 ((4294967296:Int)*x.1.2.1))+x.1.2.2.2.2.2.1))))) then (bif (decide (e2_>=(4294967296:Int))) then (((e (.inl (e1_,())))))
 else (L ((x.1.1,e2_,x.1.2.2.1,e1_),())))
 else (e (.inl (x.1.2.2.2,())))
theorem aTr (d:Nat) (R:Type) (L:Pat.D Ha->Option R) (e:Ah IS Jk->Option R) (x:Pat.D Ha) :
  Bz (cf [(304,⟨GP,GE,p327,f327⟩)] [(264,17,LoopSpec.of Gv YI Jw Iu w328_17),(264,24,LoopSpec.of Ha Zb IS Jk w328_24)]) (d+2) 264 (Bw Tryz.f264 24) Ha Zb IS Jk (R:=R) L e x=Tf p327 f327 L e x:=by kernel_rfl
theorem aEX (p327:K9) (f327:L4):Bu fun L e x=>Tf p327 f327 L e x:=by intro _ _ _ _ _ _ _ h0 hL he _; unfold Tf; repeat' (first | exact h0 | exact hL _ | exact he _ | apply B3 | (apply BY h0; intro _) | (apply BV <;> intro _))
def VS (p327:K9) (f327:L4) {R:Type} (L:Pat.D Gv->Option R) (e:Ah Jw Iu->Option R) (x:Pat.D Gv):Option R :=
 let e1_:=(x.1.2.1,x.1.2.2.1,x.1.2.2.2.1,x.1.2.2.2.2.1,(IntKind.wrap .u64 (x.1.2.2.2.2.2.1-(1:Int))),x.1.2.2.2.2.2.2)
 let e2_:=(IntKind.wrap .u64 (x.1.1+x.1.2.2.2.2.1))
 bif ((decide (x.1.2.2.2.2.2.1>=(4294967296:Int)))||(decide ((IntKind.wrap .u64 (x.1.2.2.2.2.2.1*x.1.2.2.2.1))>(IntKind.wrap .u64 ((IntKind.wrap .u64 ((4294967296:Int)*x.1.1))+x.1.2.2.1))))) then (bif (decide (e2_>=(4294967296:Int))) then (((e (.inl (e1_,())))))
 else (L ((e2_,e1_),())))
 else (e (.inl (x.1.2,())))
theorem aUs (d:Nat) (R:Type) (L:Pat.D Gv->Option R) (e:Ah Jw Iu->Option R) (x:Pat.D Gv) :
  Bz (cf [(304,⟨GP,GE,p327,f327⟩)] [(264,17,LoopSpec.of Gv YI Jw Iu w328_17),(264,24,LoopSpec.of Ha Zb IS Jk w328_24)]) (d+2) 264 (Bw Tryz.f264 17) Gv YI Jw Iu (R:=R) L e x=VS p327 f327 L e x:=by kernel_rfl
theorem aEn (p327:K9) (f327:L4):Bu fun L e x=>VS p327 f327 L e x:=by intro _ _ _ _ _ _ _ h0 hL he _; unfold VS; repeat' (first | exact h0 | exact hL _ | exact he _ | apply B3 | (apply BY h0; intro _) | (apply BV <;> intro _))
def dZ (p327:K9) (f327:L4) (w328_17:Pat.D Gv->Option (Ah Jw Iu)) (w328_24:Pat.D Ha->Option (Ah IS Jk)) (a0 a1 a2:Aa (.int .u64)):Option (DenS EX) :=
 let e9_:=(IntKind.wrap .u64 (f327 (a2,())).1)
 let e6_:=(AX .u64 (AT .u64 a0 e9_) (AJ .u64 a1 (IntKind.wrap .u64 ((64:Int)-e9_))))
 let e8_:=(AT .u64 a2 e9_)
 let e7_:=(AJ .u64 e8_ (32:Int))
 let e1_:=(BD .u64 e6_ e7_)
 let e2_:=e6_
 let e3_:=e7_
 let e4_:=(AT .u64 a1 e9_)
 let e5_:=e8_
 bif (a2==(0:Int)) then ((none))
 else bif (decide (a2<=a0)) then ((none))
 else bif (a0==(0:Int)) then (bif (a2 != (0:Int)) then (bif (a2 != (0:Int)) then (some ((BD .u64 a1 a2),(Int.tmod a1 a2),()))
 else none)
 else none)
 else bif (p327 (a2,())) then (bif (e3_ != (0:Int)) then (Vx.A3 (w328_17 (((IntKind.wrap .u64 (e2_-(IntKind.wrap .u64 (e1_*e3_)))),e2_,(AJ .u64 e4_ (32:Int)),(AQ .u64 e5_ (4294967295:Int)),e3_,e1_,(AQ .u64 e4_ (4294967295:Int)),e5_,e9_,()),())) fun y5 =>
 Vx.A6 y5 (fun y6 =>
 bif (y6.1.2.2.2.1 != (0:Int)) then (Vx.A3 (w328_24 ((y6.1.2.2.1,(IntKind.wrap .u64 ((IntKind.wrap .u64 ((IntKind.wrap .u64 ((IntKind.wrap .u64 (y6.1.1*(4294967296:Int)))+y6.1.2.1))-(IntKind.wrap .u64 (y6.1.2.2.2.2.1*y6.1.2.2.2.2.2.2.1))))-(IntKind.wrap .u64 ((BD .u64 (IntKind.wrap .u64 ((IntKind.wrap .u64 ((IntKind.wrap .u64 (y6.1.1*(4294967296:Int)))+y6.1.2.1))-(IntKind.wrap .u64 (y6.1.2.2.2.2.1*y6.1.2.2.2.2.2.2.1)))) y6.1.2.2.2.1)*y6.1.2.2.2.1)))),y6.1.2.2.2.1,y6.1.2.2.2.2.1,(IntKind.wrap .u64 ((IntKind.wrap .u64 ((IntKind.wrap .u64 (y6.1.1*(4294967296:Int)))+y6.1.2.1))-(IntKind.wrap .u64 (y6.1.2.2.2.2.1*y6.1.2.2.2.2.2.2.1)))),y6.1.2.2.2.2.2.1,(BD .u64 (IntKind.wrap .u64 ((IntKind.wrap .u64 ((IntKind.wrap .u64 (y6.1.1*(4294967296:Int)))+y6.1.2.1))-(IntKind.wrap .u64 (y6.1.2.2.2.2.1*y6.1.2.2.2.2.2.2.1)))) y6.1.2.2.2.1),y6.1.2.2.2.2.2.2),())) fun y8 =>
 Vx.A6 y8 (fun y9 =>
 some ((IntKind.wrap .u64 ((IntKind.wrap .u64 (y9.1.1*(4294967296:Int)))+y9.1.2.2.2.1)),(AJ .u64 (IntKind.wrap .u64 ((IntKind.wrap .u64 ((IntKind.wrap .u64 (y9.1.2.1*(4294967296:Int)))+y9.1.2.2.1))-(IntKind.wrap .u64 (y9.1.2.2.2.1*y9.1.2.2.2.2.1)))) y9.1.2.2.2.2.2.1),())) (fun z9 =>
 none))
 else none) (fun z6 =>
 none))
 else none)
 else none
theorem aQS (x:DenS EV):run (cf [(304,⟨GP,GE,p327,f327⟩)] [(264,17,LoopSpec.of Gv YI Jw Iu w328_17),(264,24,LoopSpec.of Ha Zb IS Jk w328_24)]) 9 264 Tryz.f264 EV EX x=dZ p327 f327 w328_17 w328_24 x.1 x.2.1 x.2.2.1:=by kernel_rfl
def bR:Ha.D->Option (Ah IS Jk):=Bf fun L=>Tf BB.pre BB.F L some
def dY:Gv.D->Option (Ah Jw Iu):=Bf fun L=>VS BB.pre BB.F L some
def Xp (x:DenS EV):Option (DenS EX):=dZ BB.pre BB.F dY bR x.1 x.2.1 x.2.2.1
def AS:Sum:=Al EV EX Xp (DenS.dflt EX)
theorem cI:Sound Tryz.prog G1 264 AS:=sd (cf [(304,BB)] [(264,17,LoopSpec.of Gv YI Jw Iu dY),(264,24,LoopSpec.of Ha Zb IS Jk bR)]) 264 Tryz.f264 ⟨aDE,trivial⟩ ⟨rfl,fun d=>BT (fun L e x=>VS BB.pre BB.F L e x) (aEn BB.pre BB.F) (fun _ _ _ _=>aUs ..),⟨rfl,fun d=>BT (fun L e x=>Tf BB.pre BB.F L e x) (aEX BB.pre BB.F) (fun _ _ _ _=>aTr ..),trivial⟩⟩ EV EX Xp _ (fun _=>aQS ..)
abbrev ER:=Ak EV
abbrev EF:=Aj EV EX
variable (p328:ER) (f328:EF)
abbrev Ma:Ab:=[(true,.slice (.int .u64)),(false,.int .u64)]
abbrev Mh:Ab:=[(false,.slice (.int .u64)),(false,.int .u64)]
abbrev FX:Pat:=⟨31,[(1,.one (.v .u64)),(7,.one (.v .i64)),(0,.one (.own 0)),(6,.one (.v .u64))],[.arr (.int .u64)]⟩
abbrev Z4:List (Nat×Shape):=[]
abbrev Mq:List (Nat×Pat):=[(0,⟨31,[(0,.one (.own 0)),(6,.one (.v .u64))],[.arr (.int .u64)]⟩)]
abbrev MJ:Option Pat:=none
variable (w1329_3:Pat.D FX->Option (Ah Mq MJ))
def Ti (p328:ER) (f328:EF) (p173:A7) (f173:A5) {R:Type} (L:Pat.D FX->Option R) (e:Ah Mq MJ->Option R) (x:Pat.D FX):Option R :=
 let e3_:=(x.1.2.2.2.1,(x.2.1.getD (Int.toNat x.1.2.1) (0:Int)),x.1.1,())
 let e1_:=(f328 e3_)
 let e2_:=((decide ((0:Int)<=x.1.2.1))&&(decide (x.1.2.1<(x.2.1.length:Int))))
 bif (decide (x.1.2.1>=(0:Int))) then (bif e2_ then (bif (p328 e3_) then (bif e2_ then (((L ((x.1.1,(IntKind.wrap .i64 (x.1.2.1-(1:Int))),(),e1_.2),(x.2.1.set (Int.toNat x.1.2.1) e1_.1),()))))
 else none)
 else none)
 else none)
 else (e (.inl (((),x.1.2.2.2),x.2)))
theorem aLs (d:Nat) (R:Type) (L:Pat.D FX->Option R) (e:Ah Mq MJ->Option R) (x:Pat.D FX) :
  Bz ({ cf [(264,⟨EV,EX,p328,f328⟩),(169,⟨Bt,Bs,p173,f173⟩)] [(303,3,LoopSpec.of FX Z4 Mq MJ w1329_3)] with keep:=true }) (d+2) 303 (Bw Tryz.f303 3) FX Z4 Mq MJ (R:=R) L e x=Ti p328 f328 p173 f173 L e x:=by kernel_rfl
theorem xH (p328:ER) (f328:EF) (p173:A7) (f173:A5):Bu fun L e x=>Ti p328 f328 p173 f173 L e x:=by intro _ _ _ _ _ _ _ h0 hL he _; unfold Ti; repeat' (first | exact h0 | exact hL _ | exact he _ | apply B3 | (apply BY h0; intro _) | (apply BV <;> intro _))
def gM (p328:ER) (f328:EF) (p173:A7) (f173:A5) (w1329_3:Pat.D FX->Option (Ah Mq MJ)) (a0:Aa (.slice (.int .u64))) (a1:Aa (.int .u64)):Option (DenS Mh) :=
 Vx.A3 (w1329_3 ((a1,(IntKind.wrap .i64 ((a0.length:Int)-(1:Int))),(),(0:Int),()),a0,())) fun y0 =>
 Vx.A6 y0 (fun y1 =>
 bif (p173 y1.2) then (some ((f173 y1.2).1,y1.1.2))
 else none) (fun z1 =>
 none)
theorem aQj (x:DenS Ma):run ({ cf [(264,⟨EV,EX,p328,f328⟩),(169,⟨Bt,Bs,p173,f173⟩)] [(303,3,LoopSpec.of FX Z4 Mq MJ w1329_3)] with keep:=true }) 9 303 Tryz.f303 Ma Mh x=gM p328 f328 p173 f173 w1329_3 x.1 x.2.1:=by kernel_rfl
def XP:FX.D->Option (Ah Mq MJ):=Bf fun L=>Ti AS.pre AS.F Ag.pre Ag.F L some
def Wg (x:DenS Ma):Option (DenS Mh):=gM AS.pre AS.F Ag.pre Ag.F XP x.1 x.2.1
def EP:Sum:=Al Ma Mh Wg (DenS.dflt Mh)
theorem aIr:Sound Tryz.prog G1 303 EP:=sd ({ cf [(264,AS),(169,Ag)] [(303,3,LoopSpec.of FX Z4 Mq MJ XP)] with keep:=true }) 303 Tryz.f303 ⟨cI,Ek,trivial⟩ ⟨rfl,fun d=>BT (fun L e x=>Ti AS.pre AS.F Ag.pre Ag.F L e x) (xH AS.pre AS.F Ag.pre Ag.F) (fun _ _ _ _=>aLs ..),trivial⟩ Ma Mh Wg _ (fun _=>aQj ..)
abbrev aP:=Ak Ma
abbrev iG:=Aj Ma Mh
variable (p1329:aP) (f1329:iG)
abbrev FS:Ab:=[(false,.slice (.int .u64)),(false,.slice (.int .u64))]
abbrev F8:Ab:=[(false,.int .i64)]
abbrev HJ:Pat:=⟨49,[(0,.one (.sl (.int .u64))),(1,.one (.sl (.int .u64))),(5,.one (.v .i64))],[]⟩
abbrev aC:List (Nat×Shape):=[]
abbrev Ls:List (Nat×Pat):=[(1,⟨49,[],[]⟩)]
abbrev J1:Option Pat:=(some ⟨49,[(4,.one (.v .i64))],[]⟩)
variable (w144_7:Pat.D HJ->Option (Ah Ls J1))
def VW (p173:A7) (f173:A5) {R:Type} (L:Pat.D HJ->Option R) (e:Ah Ls J1->Option R) (x:Pat.D HJ):Option R :=
 let e1_:=((decide ((0:Int)<=x.1.2.2.1))&&(decide (x.1.2.2.1<(x.1.2.1.length:Int))))
 let e2_:=((decide ((0:Int)<=x.1.2.2.1))&&(decide (x.1.2.2.1<(x.1.1.length:Int))))
 let e3_:=(x.1.2.1.getD (Int.toNat x.1.2.2.1) (0:Int))
 bif (decide (x.1.2.2.1>=(0:Int))) then (bif e2_ then (bif e1_ then (bif (decide ((x.1.1.getD (Int.toNat x.1.2.2.1) (0:Int))<e3_)) then (((e (.inr (((-(1:Int)),()),())))))
 else bif e2_ then (bif e1_ then (bif (decide ((x.1.1.getD (Int.toNat x.1.2.2.1) (0:Int))>e3_)) then (((e (.inr (((1:Int),()),())))))
 else (L ((x.1.1,x.1.2.1,(IntKind.wrap .i64 (x.1.2.2.1-(1:Int))),()),())))
 else none)
 else none)
 else none)
 else none)
 else (e (.inl ((),())))
theorem aRj (d:Nat) (R:Type) (L:Pat.D HJ->Option R) (e:Ah Ls J1->Option R) (x:Pat.D HJ) :
  Bz (cf [(169,⟨Bt,Bs,p173,f173⟩)] [(177,7,LoopSpec.of HJ aC Ls J1 w144_7)]) (d+2) 177 (Bw Tryz.f177 7) HJ aC Ls J1 (R:=R) L e x=VW p173 f173 L e x:=by kernel_rfl
theorem aHI (p173:A7) (f173:A5):Bu fun L e x=>VW p173 f173 L e x:=by intro _ _ _ _ _ _ _ h0 hL he _; unfold VW; repeat' (first | exact h0 | exact hL _ | exact he _ | apply B3 | (apply BY h0; intro _) | (apply BV <;> intro _))
def cJ (p173:A7) (f173:A5) (w144_7:Pat.D HJ->Option (Ah Ls J1)) (a0 a1:Aa (.slice (.int .u64))):Option (DenS F8) :=
 bif (p173 (a0,())) then (bif (p173 (a1,())) then (bif (decide (((f173 (a0,())).1.length:Int)<((f173 (a1,())).1.length:Int))) then (some ((-(1:Int)),()))
 else bif (decide (((f173 (a0,())).1.length:Int)>((f173 (a1,())).1.length:Int))) then (some ((1:Int),()))
 else Vx.A3 (w144_7 (((f173 (a0,())).1,(f173 (a1,())).1,(IntKind.wrap .i64 (((f173 (a0,())).1.length:Int)-(1:Int))),()),())) fun y4 =>
 Vx.A6 y4 (fun y5 =>
 some ((0:Int),())) (fun z5 =>
 some z5.1))
 else none)
 else none
theorem aLW (x:DenS FS):run (cf [(169,⟨Bt,Bs,p173,f173⟩)] [(177,7,LoopSpec.of HJ aC Ls J1 w144_7)]) 9 177 Tryz.f177 FS F8 x=cJ p173 f173 w144_7 x.1 x.2.1:=by kernel_rfl
def gG:HJ.D->Option (Ah Ls J1):=Bf fun L=>VW Ag.pre Ag.F L some
def ZU (x:DenS FS):Option (DenS F8):=cJ Ag.pre Ag.F gG x.1 x.2.1
def Bi:Sum:=Al FS F8 ZU (DenS.dflt F8)
theorem dK:Sound Tryz.prog G1 177 Bi:=sd (cf [(169,Ag)] [(177,7,LoopSpec.of HJ aC Ls J1 gG)]) 177 Tryz.f177 ⟨Ek,trivial⟩ ⟨rfl,fun d=>BT (fun L e x=>VW Ag.pre Ag.F L e x) (aHI Ag.pre Ag.F) (fun _ _ _ _=>aRj ..),trivial⟩ FS F8 ZU _ (fun _=>aLW ..)
abbrev II:=Ak FS
abbrev JC:=Aj FS F8
variable (p144:II) (f144:JC)
abbrev Mj:Ab:=[(false,.slice (.int .u64)),(false,.int .u64)]
abbrev Ll:Ab:=[(false,.slice (.int .u64)),(false,.int .u64)]
abbrev Hl:Pat:=⟨31,[(1,.one (.v .u64)),(7,.one (.v .i64)),(0,.one (.sl (.int .u64))),(6,.one (.v .u64))],[]⟩
abbrev cR:List (Nat×Shape):=[]
abbrev Kw:List (Nat×Pat):=[(0,⟨31,[(0,.one (.sl (.int .u64))),(6,.one (.v .u64))],[]⟩)]
abbrev Mp:Option Pat:=none
variable (w329_3:Pat.D Hl->Option (Ah Kw Mp))
def YP (p328:ER) (f328:EF) (p173:A7) (f173:A5) {R:Type} (L:Pat.D Hl->Option R) (e:Ah Kw Mp->Option R) (x:Pat.D Hl):Option R :=
 let e1_:=((decide ((0:Int)<=x.1.2.1))&&(decide (x.1.2.1<(x.1.2.2.1.length:Int))))
 bif (decide (x.1.2.1>=(0:Int))) then (bif e1_ then (bif (p328 (x.1.2.2.2.1,(x.1.2.2.1.getD (Int.toNat x.1.2.1) (0:Int)),x.1.1,())) then (bif e1_ then ((none))
 else none)
 else none)
 else none)
 else (e (.inl (x.1.2.2,())))
theorem aN0 (d:Nat) (R:Type) (L:Pat.D Hl->Option R) (e:Ah Kw Mp->Option R) (x:Pat.D Hl) :
  Bz (cf [(264,⟨EV,EX,p328,f328⟩),(169,⟨Bt,Bs,p173,f173⟩)] [(303,3,LoopSpec.of Hl cR Kw Mp w329_3)]) (d+2) 303 (Bw Tryz.f303 3) Hl cR Kw Mp (R:=R) L e x=YP p328 f328 p173 f173 L e x:=by kernel_rfl
theorem aSB (p328:ER) (f328:EF) (p173:A7) (f173:A5):Bu fun L e x=>YP p328 f328 p173 f173 L e x:=by intro _ _ _ _ _ _ _ h0 hL he _; unfold YP; repeat' (first | exact h0 | exact hL _ | exact he _ | apply B3 | (apply BY h0; intro _) | (apply BV <;> intro _))
def aCh (p328:ER) (f328:EF) (p173:A7) (f173:A5) (w329_3:Pat.D Hl->Option (Ah Kw Mp)) (a0:Aa (.slice (.int .u64))) (a1:Aa (.int .u64)):Option (DenS Ll) :=
 Vx.A3 (w329_3 ((a1,(IntKind.wrap .i64 ((a0.length:Int)-(1:Int))),a0,(0:Int),()),())) fun y0 =>
 Vx.A6 y0 (fun y1 =>
 bif (p173 (y1.1.1,())) then (some ((f173 (y1.1.1,())).1,y1.1.2))
 else none) (fun z1 =>
 none)
theorem aMx (x:DenS Mj):run (cf [(264,⟨EV,EX,p328,f328⟩),(169,⟨Bt,Bs,p173,f173⟩)] [(303,3,LoopSpec.of Hl cR Kw Mp w329_3)]) 9 303 Tryz.f303 Mj Ll x=aCh p328 f328 p173 f173 w329_3 x.1 x.2.1:=by kernel_rfl
def xF:Hl.D->Option (Ah Kw Mp):=Bf fun L=>YP AS.pre AS.F Ag.pre Ag.F L some
def aDO (x:DenS Mj):Option (DenS Ll):=aCh AS.pre AS.F Ag.pre Ag.F xF x.1 x.2.1
def FI:Sum:=Al Mj Ll aDO (DenS.dflt Ll)
theorem aMM:Sound Tryz.prog G1 303 FI:=sd (cf [(264,AS),(169,Ag)] [(303,3,LoopSpec.of Hl cR Kw Mp xF)]) 303 Tryz.f303 ⟨cI,Ek,trivial⟩ ⟨rfl,fun d=>BT (fun L e x=>YP AS.pre AS.F Ag.pre Ag.F L e x) (aSB AS.pre AS.F Ag.pre Ag.F) (fun _ _ _ _=>aN0 ..),trivial⟩ Mj Ll aDO _ (fun _=>aMx ..)
abbrev aN:=Ak Mj
abbrev iU:=Aj Mj Ll
variable (p329:aN) (f329:iU)
abbrev JS:Ab:=[(false,.slice (.int .u64)),(false,.int .u64)]
abbrev JK:Ab:=[(false,.bool)]
abbrev Fa:LK:=.win (.int .u64)
abbrev H8:Pat:=⟨68,[(16,.one (.v .i64)),(15,.one (.sl (.int .u64))),(2,.one (.v .u64)),(17,.one (.v .i64)),(1,.one (.sl (.int .u64))),(0,.one (.sub 0)),(7,.one (.v .u64)),(8,.one (.v .u64))],[.arr (.int .u64)]⟩
abbrev kD:List (Nat×Shape):=[]
abbrev Mo:List (Nat×Pat):=[(0,⟨68,[(1,.one (.sl (.int .u64))),(0,.one (.sub 0)),(7,.one (.v .u64)),(8,.one (.v .u64))],[.arr (.int .u64)]⟩)]
abbrev K8:Option Pat:=none
variable (w330_3:Pat.D H8->Option (Ah Mo K8))
def T7 (p315:ET) (f315:EQ) (p155:Df) (f155:C8) (p157:GL) (f157:GY) {R:Type} (L:Pat.D H8->Option R) (e:Ah Mo K8->Option R) (x:Pat.D H8):Option R :=
 let e7_:=(x.2.1.getD (x.1.2.2.2.2.2.1.1+(Int.toNat x.1.2.2.2.1)) (0:Int))
 let e8_:=(x.1.2.2.1,(x.1.2.1.getD (Int.toNat x.1.2.2.2.1) (0:Int)),())
 let e6_:=(f315 e8_)
 let e5_:=(f155 (e6_.2.1,x.1.2.2.2.2.2.2.1,(0:Int),()))
 let e1_:=(f157 (e7_,e5_.1,x.1.2.2.2.2.2.2.2))
 let e2_:=e5_
 let e3_:=((decide ((0:Int)<=x.1.2.2.2.1))&&(decide (x.1.2.2.2.1<(x.1.2.2.2.2.2.1.2:Int))))
 let e4_:=e6_
 bif (decide (x.1.2.2.2.1<x.1.1)) then (bif ((decide ((0:Int)<=x.1.2.2.2.1))&&(decide (x.1.2.2.2.1<(x.1.2.1.length:Int)))) then (bif (p315 e8_) then (bif (p155 (e4_.2.1,x.1.2.2.2.2.2.2.1,(0:Int),())) then (bif e3_ then (bif (p157 (e7_,e2_.1,x.1.2.2.2.2.2.2.2)) then (bif e3_ then (((L ((x.1.1,x.1.2.1,x.1.2.2.1,(IntKind.wrap .i64 (x.1.2.2.2.1+(1:Int))),x.1.2.2.2.2.1,x.1.2.2.2.2.2.1,(IntKind.wrap .u64 (e4_.1+e2_.2.1)),e1_.2),(x.2.1.set (x.1.2.2.2.2.2.1.1+(Int.toNat x.1.2.2.2.1)) e1_.1),()))))
 else none)
 else none)
 else none)
 else none)
 else none)
 else none)
 else (e (.inl (x.1.2.2.2.2,x.2)))
theorem aNf (d:Nat) (R:Type) (L:Pat.D H8->Option R) (e:Ah Mo K8->Option R) (x:Pat.D H8) :
  Bz (cf [(126,⟨EM,EK,p315,f315⟩),(165,⟨E5,Fy,p155,f155⟩),(166,⟨KD,Qj,p157,f157⟩)] [(324,3,LoopSpec.of H8 kD Mo K8 w330_3 1)]) (d+2) 324 (Bw Tryz.f324 3) H8 kD Mo K8 (R:=R) L e x 1=T7 p315 f315 p155 f155 p157 f157 L e x:=by kernel_rfl
theorem aG3 (p315:ET) (f315:EQ) (p155:Df) (f155:C8) (p157:GL) (f157:GY):Bu fun L e x=>T7 p315 f315 p155 f155 p157 f157 L e x:=by intro _ _ _ _ _ _ _ h0 hL he _; unfold T7; repeat' (first | exact h0 | exact hL _ | exact he _ | apply B3 | (apply BY h0; intro _) | (apply BV <;> intro _))
def gP (p315:ET) (f315:EQ) (p155:Df) (f155:C8) (p157:GL) (f157:GY) (w330_3:Pat.D H8->Option (Ah Mo K8)) (l0:LK.D (.win (.int .u64))) (a0:Aa (.slice (.int .u64))) (a1:Aa (.int .u64)):Option (LK.B Fa×DenS JK) :=
 Vx.A3 (w330_3 (((a0.length:Int),a0,a1,(0:Int),a0,l0.2,(0:Int),(0:Int),()),l0.1,())) fun y0 =>
 Vx.A6 y0 (fun y1 =>
 bif ((decide ((0:Int)<=(y1.1.1.length:Int)))&&(decide ((y1.1.1.length:Int)<(y1.1.2.1.2:Int)))) then (bif (p157 ((y1.2.1.getD (y1.1.2.1.1+(Int.toNat (y1.1.1.length:Int))) (0:Int)),y1.1.2.2)) then (bif ((decide ((0:Int)<=(y1.1.1.length:Int)))&&(decide ((y1.1.1.length:Int)<(y1.1.2.1.2:Int)))) then (some ((y1.2.1.set (y1.1.2.1.1+(Int.toNat (y1.1.1.length:Int))) (f157 ((y1.2.1.getD (y1.1.2.1.1+(Int.toNat (y1.1.1.length:Int))) (0:Int)),y1.1.2.2)).1),((f157 ((y1.2.1.getD (y1.1.2.1.1+(Int.toNat (y1.1.1.length:Int))) (0:Int)),y1.1.2.2)).2.1 != (0:Int)),()))
 else none)
 else none)
 else none) (fun z1 =>
 none)
theorem aUr (x:LK.D Fa×DenS JS):OC (cf [(126,⟨EM,EK,p315,f315⟩),(165,⟨E5,Fy,p155,f155⟩),(166,⟨KD,Qj,p157,f157⟩)] [(324,3,LoopSpec.of H8 kD Mo K8 w330_3 1)]) 9 324 Tryz.f324 Fa JS JK x=gP p315 f315 p155 f155 p157 f157 w330_3 x.1 x.2.1 x.2.2.1:=by kernel_rfl
def fF:H8.D->Option (Ah Mo K8):=Bf fun L=>T7 AP.pre AP.F Ay.pre Ay.F A8.pre A8.F L some
def XR (x:LK.D Fa×DenS JS):Option (LK.B Fa×DenS JK):=gP AP.pre AP.F Ay.pre Ay.F A8.pre A8.F fF x.1 x.2.1 x.2.2.1
def Cs:SumL:=Qn Fa JS JK XR (LK.dflt Fa,DenS.dflt JK)
theorem aRD:SoundL Tryz.prog G1 324 Cs:=t8 (cf [(126,AP),(165,Ay),(166,A8)] [(324,3,LoopSpec.of H8 kD Mo K8 fF 1)]) 324 Tryz.f324 ⟨iD,UK,cG,trivial⟩ ⟨rfl,fun d=>BT (fun L e x=>T7 AP.pre AP.F Ay.pre Ay.F A8.pre A8.F L e x) (aG3 AP.pre AP.F Ay.pre Ay.F A8.pre A8.F) (fun _ _ _ _=>aNf ..),trivial⟩ Fa JS JK XR _ (fun _=>aUr ..)
abbrev Up:=LK.D Fa×DenS JS->Bool
abbrev TP:=LK.D Fa×DenS JS->LK.B Fa×DenS JK
variable (p330:Up) (f330:TP)
abbrev JV:Ab:=[(false,.slice (.int .u64))]
abbrev Jl:Ab:=[(false,.bool)]
abbrev Fz:LK:=.win (.int .u64)
abbrev HV:Pat:=⟨46,[(10,.one (.v .i64)),(9,.one (.sl (.int .u64))),(11,.one (.v .i64)),(1,.one (.sl (.int .u64))),(0,.one (.sub 0)),(5,.one (.v .u64))],[.arr (.int .u64)]⟩
abbrev cW:List (Nat×Shape):=[]
abbrev Kg:List (Nat×Pat):=[(0,⟨46,[(1,.one (.sl (.int .u64))),(0,.one (.sub 0)),(5,.one (.v .u64))],[.arr (.int .u64)]⟩)]
abbrev KH:Option Pat:=none
variable (w331_3:Pat.D HV->Option (Ah Kg KH))
def TL (p155:Df) (f155:C8) {R:Type} (L:Pat.D HV->Option R) (e:Ah Kg KH->Option R) (x:Pat.D HV):Option R :=
 let e3_:=((x.2.1.getD (x.1.2.2.2.2.1.1+(Int.toNat x.1.2.2.1)) (0:Int)),(x.1.2.1.getD (Int.toNat x.1.2.2.1) (0:Int)),x.1.2.2.2.2.2)
 let e1_:=(f155 e3_)
 let e2_:=((decide ((0:Int)<=x.1.2.2.1))&&(decide (x.1.2.2.1<(x.1.2.2.2.2.1.2:Int))))
 bif (decide (x.1.2.2.1<x.1.1)) then (bif ((decide ((0:Int)<=x.1.2.2.1))&&(decide (x.1.2.2.1<(x.1.2.1.length:Int)))) then (bif e2_ then (bif (p155 e3_) then (bif e2_ then (((L ((x.1.1,x.1.2.1,(IntKind.wrap .i64 (x.1.2.2.1+(1:Int))),x.1.2.2.2.1,x.1.2.2.2.2.1,e1_.2),(x.2.1.set (x.1.2.2.2.2.1.1+(Int.toNat x.1.2.2.1)) e1_.1),()))))
 else none)
 else none)
 else none)
 else none)
 else (e (.inl (x.1.2.2.2,x.2)))
theorem aN6 (d:Nat) (R:Type) (L:Pat.D HV->Option R) (e:Ah Kg KH->Option R) (x:Pat.D HV) :
  Bz (cf [(165,⟨E5,Fy,p155,f155⟩)] [(325,3,LoopSpec.of HV cW Kg KH w331_3 1)]) (d+2) 325 (Bw Tryz.f325 3) HV cW Kg KH (R:=R) L e x 1=TL p155 f155 L e x:=by kernel_rfl
theorem aBY (p155:Df) (f155:C8):Bu fun L e x=>TL p155 f155 L e x:=by intro _ _ _ _ _ _ _ h0 hL he _; unfold TL; repeat' (first | exact h0 | exact hL _ | exact he _ | apply B3 | (apply BY h0; intro _) | (apply BV <;> intro _))
def fS (p155:Df) (f155:C8) (w331_3:Pat.D HV->Option (Ah Kg KH)) (l0:LK.D (.win (.int .u64))) (a0:Aa (.slice (.int .u64))):Option (LK.B Fz×DenS Jl) :=
 Vx.A3 (w331_3 (((a0.length:Int),a0,(0:Int),a0,l0.2,(0:Int),()),l0.1,())) fun y0 =>
 Vx.A6 y0 (fun y1 =>
 bif ((decide ((0:Int)<=(y1.1.1.length:Int)))&&(decide ((y1.1.1.length:Int)<(y1.1.2.1.2:Int)))) then (bif (p155 ((y1.2.1.getD (y1.1.2.1.1+(Int.toNat (y1.1.1.length:Int))) (0:Int)),(0:Int),y1.1.2.2)) then (bif ((decide ((0:Int)<=(y1.1.1.length:Int)))&&(decide ((y1.1.1.length:Int)<(y1.1.2.1.2:Int)))) then (some ((y1.2.1.set (y1.1.2.1.1+(Int.toNat (y1.1.1.length:Int))) (f155 ((y1.2.1.getD (y1.1.2.1.1+(Int.toNat (y1.1.1.length:Int))) (0:Int)),(0:Int),y1.1.2.2)).1),((f155 ((y1.2.1.getD (y1.1.2.1.1+(Int.toNat (y1.1.1.length:Int))) (0:Int)),(0:Int),y1.1.2.2)).2.1 != (0:Int)),()))
 else none)
 else none)
 else none) (fun z1 =>
 none)
theorem aMA (x:LK.D Fz×DenS JV):OC (cf [(165,⟨E5,Fy,p155,f155⟩)] [(325,3,LoopSpec.of HV cW Kg KH w331_3 1)]) 9 325 Tryz.f325 Fz JV Jl x=fS p155 f155 w331_3 x.1 x.2.1:=by kernel_rfl
def eC:HV.D->Option (Ah Kg KH):=Bf fun L=>TL Ay.pre Ay.F L some
def ZF (x:LK.D Fz×DenS JV):Option (LK.B Fz×DenS Jl):=fS Ay.pre Ay.F eC x.1 x.2.1
def C1:SumL:=Qn Fz JV Jl ZF (LK.dflt Fz,DenS.dflt Jl)
theorem aQ2:SoundL Tryz.prog G1 325 C1:=t8 (cf [(165,Ay)] [(325,3,LoopSpec.of HV cW Kg KH eC 1)]) 325 Tryz.f325 ⟨UK,trivial⟩ ⟨rfl,fun d=>BT (fun L e x=>TL Ay.pre Ay.F L e x) (aBY Ay.pre Ay.F) (fun _ _ _ _=>aN6 ..),trivial⟩ Fz JV Jl ZF _ (fun _=>aMA ..)
abbrev Uq:=LK.D Fz×DenS JV->Bool
abbrev Vt:=LK.D Fz×DenS JV->LK.B Fz×DenS Jl
variable (p331:Uq) (f331:Vt)
abbrev J5:Ab:=[(false,.slice (.int .u64))]
abbrev Is:Ab:=[(false,.int .u64)]
abbrev Fj:LK:=.win (.int .u64)
abbrev Gb:Pat:=⟨92,[(6,.one (.v .u64)),(7,.one (.v .u64)),(5,.one (.v .i64)),(0,.one (.sub 0)),(1,.one (.sl (.int .u64)))],[.arr (.int .u64)]⟩
abbrev Zl:List (Nat×Shape):=[]
abbrev JI:List (Nat×Pat):=[(0,⟨92,[(0,.one (.sub 0)),(1,.one (.sl (.int .u64))),(6,.one (.v .u64))],[.arr (.int .u64)]⟩)]
abbrev Jp:Option Pat:=none
abbrev F3:Pat:=⟨92,[(6,.one (.v .u64)),(0,.one (.sub 0)),(1,.one (.sl (.int .u64)))],[.arr (.int .u64)]⟩
abbrev YY:List (Nat×Shape):=[]
abbrev Je:List (Nat×Pat):=[(2,⟨92,[(6,.one (.v .u64))],[.arr (.int .u64)]⟩)]
abbrev Jg:Option Pat:=none
variable (w332_6:Pat.D Gb->Option (Ah JI Jp)) (w332_13:Pat.D F3->Option (Ah Je Jg))
def Ta (p328:ER) (f328:EF) (p315:ET) (f315:EQ) (p155:Df) (f155:C8) (p330:Up) (f330:TP) (p331:Uq) (f331:Vt) {R:Type} (L:Pat.D F3->Option R) (e:Ah Je Jg->Option R) (x:Pat.D F3):Option R :=
 let e1_:=(IntKind.wrap .u64 (x.1.1-(1:Int)))
 bif (p331 ((x.2.1,x.1.2.1),x.1.2.2)) then (bif (f331 ((x.2.1,x.1.2.1),x.1.2.2)).2.1 then (((e (.inl ((e1_,()),(f331 ((x.2.1,x.1.2.1),x.1.2.2)).1,())))))
 else (L ((e1_,x.1.2),(f331 ((x.2.1,x.1.2.1),x.1.2.2)).1,())))
 else none
theorem aH0 (d:Nat) (R:Type) (L:Pat.D F3->Option R) (e:Ah Je Jg->Option R) (x:Pat.D F3) :
  Bz ({ cf [(264,⟨EV,EX,p328,f328⟩),(126,⟨EM,EK,p315,f315⟩),(165,⟨E5,Fy,p155,f155⟩)] [(305,6,LoopSpec.of Gb Zl JI Jp w332_6 1),(305,13,LoopSpec.of F3 YY Je Jg w332_13 1)] with lsums:=[(324,⟨Fa,JS,JK,p330,f330⟩),(325,⟨Fz,JV,Jl,p331,f331⟩)] }) (d+2) 305 (Bw Tryz.f305 13) F3 YY Je Jg (R:=R) L e x 1=Ta p328 f328 p315 f315 p155 f155 p330 f330 p331 f331 L e x:=by kernel_rfl
theorem xJ (p328:ER) (f328:EF) (p315:ET) (f315:EQ) (p155:Df) (f155:C8) (p330:Up) (f330:TP) (p331:Uq) (f331:Vt):Bu fun L e x=>Ta p328 f328 p315 f315 p155 f155 p330 f330 p331 f331 L e x:=by intro _ _ _ _ _ _ _ h0 hL he _; unfold Ta; repeat' (first | exact h0 | exact hL _ | exact he _ | apply B3 | (apply BY h0; intro _) | (apply BV <;> intro _))
def Uz (p328:ER) (f328:EF) (p315:ET) (f315:EQ) (p155:Df) (f155:C8) (p330:Up) (f330:TP) (p331:Uq) (f331:Vt) {R:Type} (L:Pat.D Gb->Option R) (e:Ah JI Jp->Option R) (x:Pat.D Gb):Option R :=
 let e11_:=(IntKind.wrap .i64 (x.1.2.2.1-(2:Int)))
 let e10_:=(Int.toNat e11_)
 let e9_:=(f315 (x.1.1,(x.1.2.2.2.2.1.getD e10_ (0:Int)),()))
 let e1_:=(decide (e9_.1<x.1.2.1))
 let e12_:=(IntKind.wrap .i64 (x.1.2.2.1-(1:Int)))
 let e2_:=(f155 (x.1.2.1,(x.1.2.2.2.2.1.getD (Int.toNat e12_) (0:Int)),(0:Int),()))
 let e3_:=e9_
 let e4_:=(decide ((0:Int)<=e11_))
 let e5_:=e10_
 let e6_:=e12_
 let e7_:=e11_
 let e8_:=(IntKind.wrap .u64 (x.1.1-(1:Int)))
 bif (e4_&&(decide (e7_<(x.1.2.2.2.2.1.length:Int)))) then (bif (p315 (x.1.1,(x.1.2.2.2.2.1.getD e5_ (0:Int)),())) then (bif ((e4_&&(decide (e7_<(x.1.2.2.2.1.2:Int))))||(!((bif e1_ then false else true)&&(decide (e3_.1=x.1.2.1))))) then (bif (e1_||((e3_.1==x.1.2.1)&&(decide (e3_.2.1<=(x.2.1.getD (x.1.2.2.2.1.1+e5_) (0:Int)))))) then (((e (.inl ((x.1.2.2.2.1,x.1.2.2.2.2.1,x.1.1,()),x.2)))))
 else bif ((decide ((0:Int)<=e6_))&&(decide (e6_<(x.1.2.2.2.2.1.length:Int)))) then (bif (p155 (x.1.2.1,(x.1.2.2.2.2.1.getD (Int.toNat e6_) (0:Int)),(0:Int),())) then (bif (e2_.2.1 != (0:Int)) then (((e (.inl ((x.1.2.2.2.1,x.1.2.2.2.2.1,e8_,()),x.2)))))
 else (L ((e8_,e2_.1,x.1.2.2),x.2)))
 else none)
 else none)
 else none)
 else none)
 else none
theorem aS5 (d:Nat) (R:Type) (L:Pat.D Gb->Option R) (e:Ah JI Jp->Option R) (x:Pat.D Gb) :
  Bz ({ cf [(264,⟨EV,EX,p328,f328⟩),(126,⟨EM,EK,p315,f315⟩),(165,⟨E5,Fy,p155,f155⟩)] [(305,6,LoopSpec.of Gb Zl JI Jp w332_6 1),(305,13,LoopSpec.of F3 YY Je Jg w332_13 1)] with lsums:=[(324,⟨Fa,JS,JK,p330,f330⟩),(325,⟨Fz,JV,Jl,p331,f331⟩)] }) (d+2) 305 (Bw Tryz.f305 6) Gb Zl JI Jp (R:=R) L e x 1=Uz p328 f328 p315 f315 p155 f155 p330 f330 p331 f331 L e x:=by kernel_rfl
theorem aAi (p328:ER) (f328:EF) (p315:ET) (f315:EQ) (p155:Df) (f155:C8) (p330:Up) (f330:TP) (p331:Uq) (f331:Vt):Bu fun L e x=>Uz p328 f328 p315 f315 p155 f155 p330 f330 p331 f331 L e x:=by intro _ _ _ _ _ _ _ h0 hL he _; unfold Uz; repeat' (first | exact h0 | exact hL _ | exact he _ | apply B3 | (apply BY h0; intro _) | (apply BV <;> intro _))
def dP (p328:ER) (f328:EF) (p315:ET) (f315:EQ) (p155:Df) (f155:C8) (p330:Up) (f330:TP) (p331:Uq) (f331:Vt) (w332_6:Pat.D Gb->Option (Ah JI Jp)) (w332_13:Pat.D F3->Option (Ah Je Jg)) (l0:LK.D (.win (.int .u64))) (a0:Aa (.slice (.int .u64))):Option (LK.B Fj×DenS Is) :=
 let e11_:=(l0.1.getD (l0.2.1+(Int.toNat (a0.length:Int))) (0:Int))
 let e10_:=(IntKind.wrap .i64 ((a0.length:Int)-(1:Int)))
 let e9_:=(Int.toNat e10_)
 let e8_:=(a0.getD e9_ (0:Int))
 let e1_:=(f328 (e11_,(l0.1.getD (l0.2.1+e9_) (0:Int)),e8_,()))
 let e2_:=((decide ((0:Int)<=e10_))&&(decide (e10_<(a0.length:Int))))
 let e3_:=e8_
 let e4_:=((decide ((0:Int)<=(a0.length:Int)))&&(decide ((a0.length:Int)<(l0.2.2:Int))))
 let e5_:=e10_
 let e12_:=((l0.1,l0.2),a0,(18446744073709551615:Int),())
 let e6_:=(f330 e12_)
 let e7_:=e11_
 bif e4_ then (bif e2_ then (bif (decide (e7_<e3_)) then (bif e4_ then (bif ((decide ((0:Int)<=e5_))&&(decide (e5_<(l0.2.2:Int)))) then (bif e2_ then (bif (p328 (e7_,(l0.1.getD (l0.2.1+(Int.toNat e5_)) (0:Int)),e3_,())) then (Vx.A3 (w332_6 ((e1_.1,e1_.2.1,(a0.length:Int),l0.2,a0,()),l0.1,())) fun y7 =>
 Vx.A6 y7 (fun y8 =>
 bif (p330 ((y8.2.1,y8.1.1),y8.1.2)) then (bif (f330 ((y8.2.1,y8.1.1),y8.1.2)).2.1 then (Vx.A3 (w332_13 ((y8.1.2.2.1,y8.1.1,y8.1.2.1,()),(f330 ((y8.2.1,y8.1.1),y8.1.2)).1,())) fun y11 =>
 Vx.A6 y11 (fun y12 =>
 some (y12.2.1,y12.1)) (fun z12 =>
 none))
 else some ((f330 ((y8.2.1,y8.1.1),y8.1.2)).1,y8.1.2.2))
 else none) (fun z8 =>
 none))
 else none)
 else none)
 else none)
 else none)
 else bif (p330 e12_) then (bif e6_.2.1 then (Vx.A3 (w332_13 (((18446744073709551615:Int),l0.2,a0,()),e6_.1,())) fun y5 =>
 Vx.A6 y5 (fun y6 =>
 some (y6.2.1,y6.1)) (fun z6 =>
 none))
 else some (e6_.1,(18446744073709551615:Int),()))
 else none)
 else none)
 else none
theorem aIP (x:LK.D Fj×DenS J5):OC ({ cf [(264,⟨EV,EX,p328,f328⟩),(126,⟨EM,EK,p315,f315⟩),(165,⟨E5,Fy,p155,f155⟩)] [(305,6,LoopSpec.of Gb Zl JI Jp w332_6 1),(305,13,LoopSpec.of F3 YY Je Jg w332_13 1)] with lsums:=[(324,⟨Fa,JS,JK,p330,f330⟩),(325,⟨Fz,JV,Jl,p331,f331⟩)] }) 9 305 Tryz.f305 Fj J5 Is x=dP p328 f328 p315 f315 p155 f155 p330 f330 p331 f331 w332_6 w332_13 x.1 x.2.1:=by kernel_rfl
def YF:F3.D->Option (Ah Je Jg):=Bf fun L=>Ta AS.pre AS.F AP.pre AP.F Ay.pre Ay.F Cs.pre Cs.F C1.pre C1.F L some
def jQ:Gb.D->Option (Ah JI Jp):=Bf fun L=>Uz AS.pre AS.F AP.pre AP.F Ay.pre Ay.F Cs.pre Cs.F C1.pre C1.F L some
def Wa (x:LK.D Fj×DenS J5):Option (LK.B Fj×DenS Is):=dP AS.pre AS.F AP.pre AP.F Ay.pre Ay.F Cs.pre Cs.F C1.pre C1.F jQ YF x.1 x.2.1
def EB:SumL:=Qn Fj J5 Is Wa (LK.dflt Fj,DenS.dflt Is)
theorem aUZ:SoundL Tryz.prog G1 305 EB:=t8 ({ cf [(264,AS),(126,AP),(165,Ay)] [(305,6,LoopSpec.of Gb Zl JI Jp jQ 1),(305,13,LoopSpec.of F3 YY Je Jg YF 1)] with lsums:=[(324,Cs),(325,C1)] }) 305 Tryz.f305 ⟨cI,iD,UK,trivial⟩ ⟨rfl,fun d=>BT (fun L e x=>Uz AS.pre AS.F AP.pre AP.F Ay.pre Ay.F Cs.pre Cs.F C1.pre C1.F L e x) (aAi AS.pre AS.F AP.pre AP.F Ay.pre Ay.F Cs.pre Cs.F C1.pre C1.F) (fun _ _ _ _=>aS5 ..),⟨rfl,fun d=>BT (fun L e x=>Ta AS.pre AS.F AP.pre AP.F Ay.pre Ay.F Cs.pre Cs.F C1.pre C1.F L e x) (xJ AS.pre AS.F AP.pre AP.F Ay.pre Ay.F Cs.pre Cs.F C1.pre C1.F) (fun _ _ _ _=>aH0 ..),trivial⟩⟩ Fj J5 Is Wa _ (fun _=>aIP ..) (hls:=⟨aRD,aQ2,trivial⟩)
abbrev gS:=LK.D Fj×DenS J5->Bool
abbrev gL:=LK.D Fj×DenS J5->LK.B Fj×DenS Is
variable (p332:gS) (f332:gL)
abbrev OH:Ab:=[(false,.slice (.int .u64)),(false,.slice (.int .u64))]
abbrev Re:Ab:=[(false,.slice (.int .u64)),(false,.slice (.int .u64))]
abbrev F6:Pat:=⟨91,[(9,.one (.sl (.int .u64))),(12,.one (.v .i64)),(4,.one (.own 1)),(10,.one (.own 0)),(11,.one (.v .i64)),(8,.one (.v .i64))],[.arr (.int .u64),.arr (.int .u64)]⟩
abbrev kZ:List (Nat×Shape):=[]
abbrev KO:List (Nat×Pat):=[(0,⟨91,[(4,.one (.own 1)),(10,.one (.own 0)),(11,.one (.v .i64)),(8,.one (.v .i64))],[.arr (.int .u64),.arr (.int .u64)]⟩)]
abbrev MG:Option Pat:=none
variable (w333_14:Pat.D F6->Option (Ah KO MG))
def Tm (p1146:W5) (f1146:YU) (p1329:aP) (f1329:iG) (p144:II) (f144:JC) (p146:Sg) (f146:SN) (p329:aN) (f329:iU) (p327:K9) (f327:L4) (p186:Tt) (f186:Vz) (p332:gS) (f332:gL) (p173:A7) (f173:A5) (p171:So) (f171:Sy) {R:Type} (L:Pat.D F6->Option R) (e:Ah KO MG->Option R) (x:Pat.D F6):Option R :=
 let e3_:=(IntKind.wrap .i64 ((IntKind.wrap .i64 (x.1.2.1+x.1.2.2.2.2.1))+(1:Int)))
 let e1_:=(f332 ((x.2.1,(Int.toNat x.1.2.1),((Int.toNat e3_)-(Int.toNat x.1.2.1))),x.1.1,()))
 let e2_:=e3_
 bif (decide (x.1.2.1>=(0:Int))) then (bif (((decide ((0:Int)<=x.1.2.1))&&(decide (x.1.2.1<=e2_)))&&(decide (e2_<=(x.2.1.length:Int)))) then (bif (p332 ((x.2.1,(Int.toNat x.1.2.1),((Int.toNat e2_)-(Int.toNat x.1.2.1))),x.1.1,())) then (bif ((decide ((0:Int)<=x.1.2.1))&&(decide (x.1.2.1<(x.2.2.1.length:Int)))) then (((L ((x.1.1,(IntKind.wrap .i64 (x.1.2.1-(1:Int))),(),(),x.1.2.2.2.2),e1_.1,(x.2.2.1.set (Int.toNat x.1.2.1) e1_.2.1),()))))
 else none)
 else none)
 else none)
 else (e (.inl (((),(),x.1.2.2.2.2),x.2)))
theorem aHW (d:Nat) (R:Type) (L:Pat.D F6->Option R) (e:Ah KO MG->Option R) (x:Pat.D F6) :
  Bz ({ cf [(168,⟨JQ,JL,p1146,f1146⟩),(303,⟨Ma,Mh,p1329,f1329⟩),(177,⟨FS,F8,p144,f144⟩),(168,⟨H0,Hg,p146,f146⟩),(303,⟨Mj,Ll,p329,f329⟩),(304,⟨GP,GE,p327,f327⟩),(250,⟨IK,IV,p186,f186⟩),(169,⟨Bt,Bs,p173,f173⟩),(301,⟨HL,H1,p171,f171⟩)] [(251,14,LoopSpec.of F6 kZ KO MG w333_14)] with cut:=true,lsums:=[(305,⟨Fj,J5,Is,p332,f332⟩)] }) (d+2) 251 (Bw Tryz.f251 14) F6 kZ KO MG (R:=R) L e x=Tm p1146 f1146 p1329 f1329 p144 f144 p146 f146 p329 f329 p327 f327 p186 f186 p332 f332 p173 f173 p171 f171 L e x:=by kernel_rfl
theorem aHf (p1146:W5) (f1146:YU) (p1329:aP) (f1329:iG) (p144:II) (f144:JC) (p146:Sg) (f146:SN) (p329:aN) (f329:iU) (p327:K9) (f327:L4) (p186:Tt) (f186:Vz) (p332:gS) (f332:gL) (p173:A7) (f173:A5) (p171:So) (f171:Sy):Bu fun L e x=>Tm p1146 f1146 p1329 f1329 p144 f144 p146 f146 p329 f329 p327 f327 p186 f186 p332 f332 p173 f173 p171 f171 L e x:=by intro _ _ _ _ _ _ _ h0 hL he _; unfold Tm; repeat' (first | exact h0 | exact hL _ | exact he _ | apply B3 | (apply BY h0; intro _) | (apply BV <;> intro _))
def iF (p1146:W5) (f1146:YU) (p1329:aP) (f1329:iG) (p144:II) (f144:JC) (p146:Sg) (f146:SN) (p329:aN) (f329:iU) (p327:K9) (f327:L4) (p186:Tt) (f186:Vz) (p332:gS) (f332:gL) (p173:A7) (f173:A5) (p171:So) (f171:Sy) (w333_14:Pat.D F6->Option (Ah KO MG)) (a0 a1:Aa (.slice (.int .u64))):Option (DenS Re) :=
 let e17_:=(IntKind.wrap .i64 (((f173 (a1,())).1.length:Int)-(1:Int)))
 let e14_:=(f327 (((f173 (a1,())).1.getD (Int.toNat e17_) (0:Int)),()))
 let e12_:=(f186 ((f173 (a0,())).1,e14_))
 let e18_:=(IntKind.wrap .i64 (((f173 (a0,())).1.length:Int)+(1:Int)))
 let e15_:=(List.replicate (Int.toNat e18_) (0:Int))
 let e13_:=(f186 ((f173 (a1,())).1,e14_))
 let e11_:=(IntKind.wrap .i64 ((((e12_.1.take e15_.length)++(e15_.drop e12_.1.length)).length:Int)-(e13_.1.length:Int)))
 let e1_:=(List.replicate (Int.toNat e11_) (0:Int))
 let e2_:=e11_
 let e3_:=e13_
 let e4_:=e12_
 let e5_:=e14_
 let e6_:=e15_
 let e16_:=((f1146 (f173 (a0,()))).1,((f173 (a1,())).1.getD (Int.toNat (0:Int)) (0:Int)),())
 let e7_:=(((f1329 e16_).2.1::[]),())
 let e8_:=e16_
 let e9_:=e17_
 let e10_:=e18_
 bif (p173 (a0,())) then (bif (p173 (a1,())) then (bif (p144 ((f173 (a0,())).1,(f173 (a1,())))) then (bif (decide ((f144 ((f173 (a0,())).1,(f173 (a1,())))).1<(0:Int))) then (bif (p1146 (f173 (a0,()))) then (some ([],(f1146 (f173 (a0,())))))
 else none)
 else bif (((f173 (a1,())).1.length:Int)==(1:Int)) then (bif (p1146 (f173 (a0,()))) then (bif (decide ((0:Int)<((f173 (a1,())).1.length:Int))) then (bif (p1329 e8_) then (bif (p173 e7_) then (some ((f1329 e8_).1,(f173 e7_)))
 else none)
 else none)
 else none)
 else none)
 else bif ((decide ((0:Int)<=e9_))&&(decide (e9_<((f173 (a1,())).1.length:Int)))) then (bif (p327 (((f173 (a1,())).1.getD (Int.toNat e9_) (0:Int)),())) then (bif (p186 ((f173 (a1,())).1,e5_)) then (bif ((decide ((0:Int)<=e10_))&&(decide ((e10_*(8:Int))<=(140737488355328:Int)))) then (bif (p186 ((f173 (a0,())).1,e5_)) then (bif ((decide ((0:Int)<=e2_))&&(decide ((e2_*(8:Int))<=(140737488355328:Int)))) then (Vx.A3 (w333_14 ((e3_.1,(IntKind.wrap .i64 ((e1_.length:Int)-(1:Int))),(),(),(e3_.1.length:Int),e5_),((e4_.1.take e6_.length)++(e6_.drop e4_.1.length)),e1_,())) fun y11 =>
 Vx.A6 y11 (fun y12 =>
 bif (p173 y12.2.2) then (bif ((decide ((0:Int)<=y12.1.2.2.1))&&(decide (y12.1.2.2.1<=(y12.2.1.length:Int)))) then (bif (p171 (((y12.2.1.take (Int.toNat y12.1.2.2.1)).drop (Int.toNat (0:Int))),y12.1.2.2.2)) then (some ((f173 y12.2.2).1,(f171 (((y12.2.1.take (Int.toNat y12.1.2.2.1)).drop (Int.toNat (0:Int))),y12.1.2.2.2))))
 else none)
 else none)
 else none) (fun z12 =>
 none))
 else none)
 else none)
 else none)
 else none)
 else none)
 else none)
 else none)
 else none)
 else none
theorem aL8 (x:DenS OH):run ({ cf [(168,⟨JQ,JL,p1146,f1146⟩),(303,⟨Ma,Mh,p1329,f1329⟩),(177,⟨FS,F8,p144,f144⟩),(168,⟨H0,Hg,p146,f146⟩),(303,⟨Mj,Ll,p329,f329⟩),(304,⟨GP,GE,p327,f327⟩),(250,⟨IK,IV,p186,f186⟩),(169,⟨Bt,Bs,p173,f173⟩),(301,⟨HL,H1,p171,f171⟩)] [(251,14,LoopSpec.of F6 kZ KO MG w333_14)] with cut:=true,lsums:=[(305,⟨Fj,J5,Is,p332,f332⟩)] }) 9 251 Tryz.f251 OH Re x=iF p1146 f1146 p1329 f1329 p144 f144 p146 f146 p329 f329 p327 f327 p186 f186 p332 f332 p173 f173 p171 f171 w333_14 x.1 x.2.1:=by kernel_rfl
def V2:F6.D->Option (Ah KO MG):=Bf fun L=>Tm DC.pre DC.F EP.pre EP.F Bi.pre Bi.F CR.pre CR.F FI.pre FI.F BB.pre BB.F DB.pre DB.F EB.pre EB.F Ag.pre Ag.F CS.pre CS.F L some
def Y7 (x:DenS OH):Option (DenS Re):=iF DC.pre DC.F EP.pre EP.F Bi.pre Bi.F CR.pre CR.F FI.pre FI.F BB.pre BB.F DB.pre DB.F EB.pre EB.F Ag.pre Ag.F CS.pre CS.F V2 x.1 x.2.1
def Ni:Sum:=Al OH Re Y7 (DenS.dflt Re)
theorem aT1:Sound Tryz.prog G1 251 Ni:=sd ({ cf [(168,DC),(303,EP),(177,Bi),(168,CR),(303,FI),(304,BB),(250,DB),(169,Ag),(301,CS)] [(251,14,LoopSpec.of F6 kZ KO MG V2)] with cut:=true,lsums:=[(305,EB)] }) 251 Tryz.f251 ⟨aBN,aIr,dK,rK,aMM,aDE,aD3,Ek,oG,trivial⟩ ⟨rfl,fun d=>BT (fun L e x=>Tm DC.pre DC.F EP.pre EP.F Bi.pre Bi.F CR.pre CR.F FI.pre FI.F BB.pre BB.F DB.pre DB.F EB.pre EB.F Ag.pre Ag.F CS.pre CS.F L e x) (aHf DC.pre DC.F EP.pre EP.F Bi.pre Bi.F CR.pre CR.F FI.pre FI.F BB.pre BB.F DB.pre DB.F EB.pre EB.F Ag.pre Ag.F CS.pre CS.F) (fun _ _ _ _=>aHW ..),trivial⟩ OH Re Y7 _ (fun _=>aL8 ..) (hls:=⟨aUZ,trivial⟩)
abbrev aAJ:=Ak OH
abbrev aCY:=Aj OH Re
variable (p333:aAJ) (f333:aCY)
abbrev K7:Ab:=[(false,.slice (.int .u64)),(false,.slice (.int .u64))]
abbrev Ld:Ab:=[(false,.slice (.int .u64)),(false,.slice (.int .u64)),(false,.int .i64)]
def j3 (p185:Tv) (f185:Ui) (p173:A7) (f173:A5) (p333:aAJ) (f333:aCY) (a0 a1:Aa (.slice (.int .u64))):Option (DenS Ld) :=
 bif (p185 ((a0::(a1::[])),())) then (bif (f185 ((a0::(a1::[])),())).1 then (some ([],[],(5:Int),()))
 else bif (p173 (a1,())) then (bif (((f173 (a1,())).1.length:Int)==(0:Int)) then (some ([],[],(10:Int),()))
 else bif (p333 (a0,a1,())) then (some ((f333 (a0,a1,())).1,(f333 (a0,a1,())).2.1,(0:Int),()))
 else none)
 else none)
 else none
theorem aKA (x:DenS K7):run (cf [(249,⟨IB,IQ,p185,f185⟩),(169,⟨Bt,Bs,p173,f173⟩),(251,⟨OH,Re,p333,f333⟩)] []) 9 175 Tryz.f175 K7 Ld x=j3 p185 f185 p173 f173 p333 f333 x.1 x.2.1:=by kernel_rfl
def Y9 (x:DenS K7):Option (DenS Ld):=j3 D6.pre D6.F Ag.pre Ag.F Ni.pre Ni.F x.1 x.2.1
def EH:Sum:=Al K7 Ld Y9 (DenS.dflt Ld)
theorem aIO:Sound Tryz.prog G1 175 EH:=sd (cf [(249,D6),(169,Ag),(251,Ni)] []) 175 Tryz.f175 ⟨uA,Ek,aT1,trivial⟩ trivial K7 Ld Y9 _ (fun _=>aKA ..)
abbrev iH:=Ak K7
abbrev kO:=Aj K7 Ld
variable (p345:iH) (f345:kO)
abbrev M3:Ab:=[(true,.slice (.int .u64)),(false,.slice (.int .u64))]
abbrev NL:Ab:=[(true,.slice (.int .u64))]
abbrev Hh:Pat:=⟨37,[(9,.one (.v .i64)),(1,.one (.sl (.int .u64))),(5,.one (.v .u64)),(10,.one (.v .i64)),(0,.one (.own 0))],[.arr (.int .u64)]⟩
abbrev lZ:List (Nat×Shape):=[]
abbrev LH:List (Nat×Pat):=[(0,⟨37,[(0,.one (.own 0))],[.arr (.int .u64)]⟩)]
abbrev MD:Option Pat:=none
variable (w1174_3:Pat.D Hh->Option (Ah LH MD))
def Tb (p1173:OG) (f1173:PP) (p157:GL) (f157:GY) (p173:A7) (f173:A5) {R:Type} (L:Pat.D Hh->Option R) (e:Ah LH MD->Option R) (x:Pat.D Hh):Option R :=
 let e8_:=(x.2.1.getD (Int.toNat x.1.2.2.2.1) (0:Int))
 let e7_:=((x.1.2.1.getD (Int.toNat x.1.2.2.2.1) (0:Int)),x.1.2.2.1,())
 let e1_:=(f157 (e8_,e7_))
 let e2_:=((decide ((0:Int)<=x.1.2.2.2.1))&&(decide (x.1.2.2.2.1<(x.2.1.length:Int))))
 let e3_:=(f157 (e8_,(0:Int),x.1.2.2.1,()))
 let e4_:=((IntKind.wrap .i64 (x.1.2.2.2.1+(1:Int))),(),())
 let e5_:=(decide (x.1.2.2.2.1<(x.1.2.1.length:Int)))
 let e6_:=e8_
 bif (decide (x.1.2.2.2.1<x.1.1)) then (bif e5_ then (bif ((decide ((0:Int)<=x.1.2.2.2.1))&&e5_) then (bif e2_ then (bif (p157 (e6_,e7_)) then (bif e2_ then (((L ((x.1.1,x.1.2.1,e1_.2.1,e4_),(x.2.1.set (Int.toNat x.1.2.2.2.1) e1_.1),()))))
 else none)
 else none)
 else none)
 else none)
 else bif e2_ then (bif (p157 (e6_,(0:Int),x.1.2.2.1,())) then (bif e2_ then (((L ((x.1.1,x.1.2.1,e3_.2.1,e4_),(x.2.1.set (Int.toNat x.1.2.2.2.1) e3_.1),()))))
 else none)
 else none)
 else none)
 else (e (.inl (((),()),x.2)))
theorem aKs (d:Nat) (R:Type) (L:Pat.D Hh->Option R) (e:Ah LH MD->Option R) (x:Pat.D Hh) :
  Bz ({ cf [(169,⟨HT,HX,p1173,f1173⟩),(166,⟨KD,Qj,p157,f157⟩),(169,⟨Bt,Bs,p173,f173⟩)] [(252,3,LoopSpec.of Hh lZ LH MD w1174_3)] with keep:=true }) (d+2) 252 (Bw Tryz.f252 3) Hh lZ LH MD (R:=R) L e x=Tb p1173 f1173 p157 f157 p173 f173 L e x:=by kernel_rfl
theorem xL (p1173:OG) (f1173:PP) (p157:GL) (f157:GY) (p173:A7) (f173:A5):Bu fun L e x=>Tb p1173 f1173 p157 f157 p173 f173 L e x:=by intro _ _ _ _ _ _ _ h0 hL he _; unfold Tb; repeat' (first | exact h0 | exact hL _ | exact he _ | apply B3 | (apply BY h0; intro _) | (apply BV <;> intro _))
def bP (p1173:OG) (f1173:PP) (p157:GL) (f157:GY) (p173:A7) (f173:A5) (w1174_3:Pat.D Hh->Option (Ah LH MD)) (a0 a1:Aa (.slice (.int .u64))):Option (DenS NL) :=
 Vx.A3 (w1174_3 (((a0.length:Int),a1,(0:Int),(0:Int),(),()),a0,())) fun y0 =>
 Vx.A6 y0 (fun y1 =>
 bif (p1173 y1.2) then (some (f1173 y1.2))
 else none) (fun z1 =>
 none)
theorem aT5 (x:DenS M3):run ({ cf [(169,⟨HT,HX,p1173,f1173⟩),(166,⟨KD,Qj,p157,f157⟩),(169,⟨Bt,Bs,p173,f173⟩)] [(252,3,LoopSpec.of Hh lZ LH MD w1174_3)] with keep:=true }) 9 252 Tryz.f252 M3 NL x=bP p1173 f1173 p157 f157 p173 f173 w1174_3 x.1 x.2.1:=by kernel_rfl
def XD:Hh.D->Option (Ah LH MD):=Bf fun L=>Tb Cf.pre Cf.F A8.pre A8.F Ag.pre Ag.F L some
def Wy (x:DenS M3):Option (DenS NL):=bP Cf.pre Cf.F A8.pre A8.F Ag.pre Ag.F XD x.1 x.2.1
def QO:Sum:=Al M3 NL Wy (DenS.dflt NL)
theorem aJv:Sound Tryz.prog G1 252 QO:=sd ({ cf [(169,Cf),(166,A8),(169,Ag)] [(252,3,LoopSpec.of Hh lZ LH MD XD)] with keep:=true }) 252 Tryz.f252 ⟨aBt,cG,Ek,trivial⟩ ⟨rfl,fun d=>BT (fun L e x=>Tb Cf.pre Cf.F A8.pre A8.F Ag.pre Ag.F L e x) (xL Cf.pre Cf.F A8.pre A8.F Ag.pre Ag.F) (fun _ _ _ _=>aKs ..),trivial⟩ M3 NL Wy _ (fun _=>aT5 ..)
abbrev aDd:=Ak M3
abbrev aF2:=Aj M3 NL
variable (p1174:aDd) (f1174:aF2)
abbrev OU:Ab:=[(false,.slice (.int .u64)),(false,.slice (.int .u64))]
abbrev NY:Ab:=[(false,.slice (.int .u64))]
abbrev Hp:Pat:=⟨37,[(9,.one (.v .i64)),(1,.one (.sl (.int .u64))),(5,.one (.v .u64)),(10,.one (.v .i64)),(0,.one (.sl (.int .u64)))],[]⟩
abbrev i5:List (Nat×Shape):=[]
abbrev L8:List (Nat×Pat):=[(0,⟨37,[(0,.one (.sl (.int .u64)))],[]⟩)]
abbrev KP:Option Pat:=none
variable (w174_3:Pat.D Hp->Option (Ah L8 KP))
def YM (p157:GL) (f157:GY) (p173:A7) (f173:A5) {R:Type} (L:Pat.D Hp->Option R) (e:Ah L8 KP->Option R) (x:Pat.D Hp):Option R :=
 let e1_:=((decide ((0:Int)<=x.1.2.2.2.1))&&(decide (x.1.2.2.2.1<(x.1.2.2.2.2.1.length:Int))))
 let e2_:=(x.1.2.2.2.2.1.getD (Int.toNat x.1.2.2.2.1) (0:Int))
 let e3_:=(decide (x.1.2.2.2.1<(x.1.2.1.length:Int)))
 bif (decide (x.1.2.2.2.1<x.1.1)) then (bif e3_ then (bif ((decide ((0:Int)<=x.1.2.2.2.1))&&e3_) then (bif e1_ then (bif (p157 (e2_,(x.1.2.1.getD (Int.toNat x.1.2.2.2.1) (0:Int)),x.1.2.2.1,())) then (bif e1_ then ((none))
 else none)
 else none)
 else none)
 else none)
 else bif e1_ then (bif (p157 (e2_,(0:Int),x.1.2.2.1,())) then (bif e1_ then ((none))
 else none)
 else none)
 else none)
 else (e (.inl (x.1.2.2.2.2,())))
theorem aL0 (d:Nat) (R:Type) (L:Pat.D Hp->Option R) (e:Ah L8 KP->Option R) (x:Pat.D Hp) :
  Bz (cf [(166,⟨KD,Qj,p157,f157⟩),(169,⟨Bt,Bs,p173,f173⟩)] [(252,3,LoopSpec.of Hp i5 L8 KP w174_3)]) (d+2) 252 (Bw Tryz.f252 3) Hp i5 L8 KP (R:=R) L e x=YM p157 f157 p173 f173 L e x:=by kernel_rfl
theorem aOu (p157:GL) (f157:GY) (p173:A7) (f173:A5):Bu fun L e x=>YM p157 f157 p173 f173 L e x:=by intro _ _ _ _ _ _ _ h0 hL he _; unfold YM; repeat' (first | exact h0 | exact hL _ | exact he _ | apply B3 | (apply BY h0; intro _) | (apply BV <;> intro _))
def aCE (p157:GL) (f157:GY) (p173:A7) (f173:A5) (w174_3:Pat.D Hp->Option (Ah L8 KP)) (a0 a1:Aa (.slice (.int .u64))):Option (DenS NY) :=
 Vx.A3 (w174_3 (((a0.length:Int),a1,(0:Int),(0:Int),a0,()),())) fun y0 =>
 Vx.A6 y0 (fun y1 =>
 bif (p173 y1.1) then (some (f173 y1.1))
 else none) (fun z1 =>
 none)
theorem aTL (x:DenS OU):run (cf [(166,⟨KD,Qj,p157,f157⟩),(169,⟨Bt,Bs,p173,f173⟩)] [(252,3,LoopSpec.of Hp i5 L8 KP w174_3)]) 9 252 Tryz.f252 OU NY x=aCE p157 f157 p173 f173 w174_3 x.1 x.2.1:=by kernel_rfl
def yV:Hp.D->Option (Ah L8 KP):=Bf fun L=>YM A8.pre A8.F Ag.pre Ag.F L some
def aGc (x:DenS OU):Option (DenS NY):=aCE A8.pre A8.F Ag.pre Ag.F yV x.1 x.2.1
def Vg:Sum:=Al OU NY aGc (DenS.dflt NY)
theorem aIl:Sound Tryz.prog G1 252 Vg:=sd (cf [(166,A8),(169,Ag)] [(252,3,LoopSpec.of Hp i5 L8 KP yV)]) 252 Tryz.f252 ⟨cG,Ek,trivial⟩ ⟨rfl,fun d=>BT (fun L e x=>YM A8.pre A8.F Ag.pre Ag.F L e x) (aOu A8.pre A8.F Ag.pre Ag.F) (fun _ _ _ _=>aL0 ..),trivial⟩ OU NY aGc _ (fun _=>aTL ..)
abbrev aBL:=Ak OU
abbrev aFd:=Aj OU NY
variable (p174:aBL) (f174:aFd)
abbrev JU:Ab:=[(false,.slice (.int .u64)),(false,.slice (.int .u64))]
abbrev Jr:Ab:=[(false,.slice (.int .u64)),(false,.int .i64)]
def jV (p1174:aDd) (f1174:aF2) (p1146:W5) (f1146:YU) (p144:II) (f144:JC) (p146:Sg) (f146:SN) (p173:A7) (f173:A5) (p174:aBL) (f174:aFd) (a0 a1:Aa (.slice (.int .u64))):Option (DenS Jr) :=
 bif (p144 (a0,a1,())) then (bif (decide ((f144 (a0,a1,())).1<(0:Int))) then (some ([],(20:Int),()))
 else bif (p1146 (a0,())) then (bif (p173 (a1,())) then (bif (p1174 ((f1146 (a0,())).1,(f173 (a1,())))) then (some ((f1174 ((f1146 (a0,())).1,(f173 (a1,())))).1,(0:Int),()))
 else none)
 else none)
 else none)
 else none
theorem aJ5 (x:DenS JU):run (cf [(252,⟨M3,NL,p1174,f1174⟩),(168,⟨JQ,JL,p1146,f1146⟩),(177,⟨FS,F8,p144,f144⟩),(168,⟨H0,Hg,p146,f146⟩),(169,⟨Bt,Bs,p173,f173⟩),(252,⟨OU,NY,p174,f174⟩)] []) 9 178 Tryz.f178 JU Jr x=jV p1174 f1174 p1146 f1146 p144 f144 p146 f146 p173 f173 p174 f174 x.1 x.2.1:=by kernel_rfl
def YK (x:DenS JU):Option (DenS Jr):=jV QO.pre QO.F DC.pre DC.F Bi.pre Bi.F CR.pre CR.F Ag.pre Ag.F Vg.pre Vg.F x.1 x.2.1
def CW:Sum:=Al JU Jr YK (DenS.dflt Jr)
theorem aHj:Sound Tryz.prog G1 178 CW:=sd (cf [(252,QO),(168,DC),(177,Bi),(168,CR),(169,Ag),(252,Vg)] []) 178 Tryz.f178 ⟨aJv,aBN,dK,rK,Ek,aIl,trivial⟩ trivial JU Jr YK _ (fun _=>aJ5 ..)
abbrev Vi:=Ak JU
abbrev Vj:=Aj JU Jr
variable (p145:Vi) (f145:Vj)
abbrev Pe:Ab:=[(false,.slice (.int .u64)),(false,.slice (.int .u64)),(false,.int .i64)]
abbrev Nq:Ab:=[(true,.pair (.bool) (.pair (.slice (.int .u64)) (.pair (.int .i64) (.pair (.bool) (.unit)))))]
abbrev HD:Pat:=⟨81,[(2,.one (.v .i64)),(1,.one (.sl (.int .u64))),(11,.one (.sl (.int .u64))),(13,.one (.ptr 1 0)),(6,.one (.ptr 0 0))],[.raw [.bool,.sl (.int .u64),.v .i64,.bool],.raw [.bool,.sl (.int .u64),.v .i64,.bool]]⟩
abbrev Z1:List (Nat×Shape):=[]
abbrev Ke:List (Nat×Pat):=[(0,⟨81,[(11,.one (.sl (.int .u64))),(13,.one (.ptr 1 0)),(6,.one (.ptr 0 0))],[.raw [.bool,.sl (.int .u64),.v .i64,.bool],.raw [.bool,.sl (.int .u64),.v .i64,.bool]]⟩)]
abbrev Kc:Option Pat:=none
variable (w379_5:Pat.D HD->Option (Ah Ke Kc))
def Vo (p176:UX) (f176:T5) (p345:iH) (f345:kO) (p151:Lu) (f151:LG) (p144:II) (f144:JC) (p145:Vi) (f145:Vj) (p143:Px) (f143:NP) {R:Type} (L:Pat.D HD->Option R) (e:Ah Ke Kc->Option R) (x:Pat.D HD):Option R :=
 let e1_:=((IntKind.wrap .i64 (x.2.2.1.2.2.1-(1:Int))),x.2.2.1.2.2.2)
 let e2_:=((f143 (x.2.2.1.2.1,x.2.2.1.2.1,())).1,((1:Int)::[]),())
 let e3_:=((f143 (x.1.2.2.1,x.1.2.2.1,())).1,x.1.2.1,())
 bif (p151 (x.2.2.1.2.1,())) then (bif ((decide ((f151 (x.2.2.1.2.1,())).1<x.1.1))&&(decide ((x.1.2.2.1.length:Int)>(0:Int)))) then (bif (p143 (x.2.2.1.2.1,x.2.2.1.2.1,())) then (bif (p143 (x.1.2.2.1,x.1.2.2.1,())) then (bif (p144 e3_) then (bif (decide ((f144 e3_).1>=(0:Int))) then (bif (p145 e3_) then (bif (p143 e2_) then (((L ((x.1.1,x.1.2.1,(f145 e3_).1,(),(),()),x.2.1,(x.2.2.1.1,(f143 e2_).1,e1_),()))))
 else none)
 else none)
 else (L ((x.1.1,x.1.2.1,(f143 (x.1.2.2.1,x.1.2.2.1,())).1,(),(),()),x.2.1,(x.2.2.1.1,(f143 (x.2.2.1.2.1,x.2.2.1.2.1,())).1,e1_),())))
 else none)
 else none)
 else none)
 else (e (.inl ((x.1.2.2.1,(),(),()),x.2))))
 else none
theorem aRr (d:Nat) (R:Type) (L:Pat.D HD->Option R) (e:Ah Ke Kc->Option R) (x:Pat.D HD) :
  Bz (cf [(174,⟨Jf,Jh,p176,f176⟩),(175,⟨K7,Ld,p345,f345⟩),(123,⟨FZ,FY,p151,f151⟩),(177,⟨FS,F8,p144,f144⟩),(178,⟨JU,Jr,p145,f145⟩),(176,⟨Hi,Gm,p143,f143⟩)] [(128,5,LoopSpec.of HD Z1 Ke Kc w379_5)]) (d+2) 128 (Bw Tryz.f128 5) HD Z1 Ke Kc (R:=R) L e x=Vo p176 f176 p345 f345 p151 f151 p144 f144 p145 f145 p143 f143 L e x:=by kernel_rfl
theorem zW (p176:UX) (f176:T5) (p345:iH) (f345:kO) (p151:Lu) (f151:LG) (p144:II) (f144:JC) (p145:Vi) (f145:Vj) (p143:Px) (f143:NP):Bu fun L e x=>Vo p176 f176 p345 f345 p151 f151 p144 f144 p145 f145 p143 f143 L e x:=by intro _ _ _ _ _ _ _ h0 hL he _; unfold Vo; repeat' (first | exact h0 | exact hL _ | exact he _ | apply B3 | (apply BY h0; intro _) | (apply BV <;> intro _))
def cL (p176:UX) (f176:T5) (p345:iH) (f345:kO) (p151:Lu) (f151:LG) (p144:II) (f144:JC) (p145:Vi) (f145:Vj) (p143:Px) (f143:NP) (w379_5:Pat.D HD->Option (Ah Ke Kc)) (a0 a1:Aa (.slice (.int .u64))) (a2:Aa (.int .i64)):Option (DenS Nq) :=
 let e5_:=(IntKind.wrap .i64 ((IntKind.wrap .i64 ((f151 (a1,())).1-(f151 (a0,())).1))-(1:Int)))
 let e4_:=(a0,(if (e5_>(0:Int)) then e5_ else (0:Int)),())
 let e1_:=(f345 ((f176 e4_).1,a1,()))
 let e2_:=e4_
 let e3_:=e5_
 bif (p151 (a1,())) then (bif (p151 (a0,())) then (bif (p176 e2_) then (bif (p345 ((f176 e2_).1,a1,())) then (Vx.A3 (w379_5 ((a2,a1,e1_.2.1,(),(),()),(false,[],(0:Int),false,()),(false,e1_.1,(IntKind.wrap .i64 ((0:Int)-(if (e3_>(0:Int)) then e3_ else (0:Int)))),false,()),())) fun y4 =>
 Vx.A6 y4 (fun y5 =>
 some ((y5.2.2.1.1,y5.2.2.1.2.1,y5.2.2.1.2.2.1,(decide ((y5.1.1.length:Int)>(0:Int))),()),())) (fun z5 =>
 none))
 else none)
 else none)
 else none)
 else none
theorem aKR (x:DenS Pe):run (cf [(174,⟨Jf,Jh,p176,f176⟩),(175,⟨K7,Ld,p345,f345⟩),(123,⟨FZ,FY,p151,f151⟩),(177,⟨FS,F8,p144,f144⟩),(178,⟨JU,Jr,p145,f145⟩),(176,⟨Hi,Gm,p143,f143⟩)] [(128,5,LoopSpec.of HD Z1 Ke Kc w379_5)]) 9 128 Tryz.f128 Pe Nq x=cL p176 f176 p345 f345 p151 f151 p144 f144 p145 f145 p143 f143 w379_5 x.1 x.2.1 x.2.2.1:=by kernel_rfl
def kV:HD.D->Option (Ah Ke Kc):=Bf fun L=>Vo DS.pre DS.F EH.pre EH.F Ch.pre Ch.F Bi.pre Bi.F CW.pre CW.F CC.pre CC.F L some
def YH (x:DenS Pe):Option (DenS Nq):=cL DS.pre DS.F EH.pre EH.F Ch.pre Ch.F Bi.pre Bi.F CW.pre CW.F CC.pre CC.F kV x.1 x.2.1 x.2.2.1
def NB:Sum:=Al Pe Nq YH (DenS.dflt Nq)
theorem aKu:Sound Tryz.prog G1 128 NB:=sd (cf [(174,DS),(175,EH),(123,Ch),(177,Bi),(178,CW),(176,CC)] [(128,5,LoopSpec.of HD Z1 Ke Kc kV)]) 128 Tryz.f128 ⟨aDz,aIO,YS,dK,aHj,mV,trivial⟩ ⟨rfl,fun d=>BT (fun L e x=>Vo DS.pre DS.F EH.pre EH.F Ch.pre Ch.F Bi.pre Bi.F CW.pre CW.F CC.pre CC.F L e x) (zW DS.pre DS.F EH.pre EH.F Ch.pre Ch.F Bi.pre Bi.F CW.pre CW.F CC.pre CC.F) (fun _ _ _ _=>aRr ..),trivial⟩ Pe Nq YH _ (fun _=>aKR ..)
abbrev aGD:=Ak Pe
abbrev aEM:=Aj Pe Nq
variable (p379:aGD) (f379:aEM)
abbrev NN:Ab:=[(false,.int .i64),(false,.int .i64),(false,.bool),(false,.slice (.int .u64)),(false,.slice (.int .u64)),(false,.int .i64)]
abbrev Ph:Ab:=[(false,.int .u64),(false,.int .i64),(false,.int .i64)]
def gJ (p105:Tw) (f105:UO) (p102:Gw) (f102:GD) (p156:aA) (f156:fL) (p379:aGD) (f379:aEM) (p107:TC) (f107:VQ) (a0 a1:Aa (.int .i64)) (a2:Aa (.bool)) (a3 a4:Aa (.slice (.int .u64))) (a5:Aa (.int .i64)):Option (DenS Ph) :=
 let e4_:=((f102 (a3,())).1,(f102 (a4,())).1,(IntKind.wrap .i64 ((f105 (a0,a1,())).1.2.1+(3:Int))),())
 let e3_:=(f379 e4_)
 let e1_:=(f107 ((a2,e3_.1.2.1,(IntKind.wrap .i64 (e3_.1.2.2.1+a5)),e3_.1.2.2.2),a0,(f105 (a0,a1,())).1,a1,()))
 let e2_:=e3_
 bif (p105 (a0,a1,())) then (bif ((f105 (a0,a1,())).2.1 != (0:Int)) then (some ((0:Int),(0:Int),(f105 (a0,a1,())).2))
 else bif (p102 (a3,())) then (bif (p102 (a4,())) then (bif (decide ((IntKind.wrap .i64 (((f102 (a3,())).1.length:Int)+((f102 (a4,())).1.length:Int)))>(1024:Int))) then (some ((0:Int),(0:Int),(5:Int),()))
 else bif ((decide (a5<(-(40000:Int))))||(decide (a5>(40000:Int)))) then (some ((0:Int),(0:Int),(30:Int),()))
 else bif (((f102 (a4,())).1.length:Int)==(0:Int)) then (some ((0:Int),(0:Int),(10:Int),()))
 else bif (((f102 (a3,())).1.length:Int)==(0:Int)) then (bif (p156 (a0,a2,())) then (some (f156 (a0,a2,())))
 else none)
 else bif (p379 e4_) then (bif (p107 ((a2,e2_.1.2.1,(IntKind.wrap .i64 (e2_.1.2.2.1+a5)),e2_.1.2.2.2),a0,(f105 (a0,a1,())).1,a1,())) then (some (e1_.1,e1_.2.1,(0:Int),()))
 else none)
 else none)
 else none)
 else none)
 else none
theorem aKl (x:DenS NN):run (cf [(121,⟨I3,JM,p105,f105⟩),(122,⟨Fi,Fl,p102,f102⟩),(124,⟨Lz,Kd,p156,f156⟩),(128,⟨Pe,Nq,p379,f379⟩),(125,⟨I0,IG,p107,f107⟩)] []) 9 72 Tryz.f72 NN Ph x=gJ p105 f105 p102 f102 p156 f156 p379 f379 p107 f107 x.1 x.2.1 x.2.2.1 x.2.2.2.1 x.2.2.2.2.1 x.2.2.2.2.2.1:=by kernel_rfl
def Xb (x:DenS NN):Option (DenS Ph):=gJ EL.pre EL.F Bh.pre Bh.F Hr.pre Hr.F NB.pre NB.F EO.pre EO.F x.1 x.2.1 x.2.2.1 x.2.2.2.1 x.2.2.2.2.1 x.2.2.2.2.2.1
def O2:Sum:=Al NN Ph Xb (DenS.dflt Ph)
theorem aLD:Sound Tryz.prog G1 72 O2:=sd (cf [(121,EL),(122,Bh),(124,Hr),(128,NB),(125,EO)] []) 72 Tryz.f72 ⟨qI,Y6,aFB,aKu,oN,trivial⟩ trivial NN Ph Xb _ (fun _=>aKl ..)
abbrev aDM:=Ak NN
abbrev aFv:=Aj NN Ph
variable (p380:aDM) (f380:aFv)
abbrev PK:Ab:=[(false,.int .i64),(false,.int .i64),(false,.int .u64),(false,.int .u64)]
abbrev KL:Ab:=[(false,.int .u64),(false,.int .i64),(false,.int .i64)]
def dB (p376:aEO) (f376:aAC) (p377:aEs) (f377:aB6) (p378:aAs) (f378:aEw) (p97:ON) (f97:MO) (p118:GT) (f118:GC) (p40:QU) (f40:Nv) (p380:aDM) (f380:aFv) (a0 a1:Aa (.int .i64)) (a2 a3:Aa (.int .u64)):Option (DenS KL) :=
 let e6_:=(!((f377 (a0,a2,())).1.2.2.2.2.1==(f377 (a0,a3,())).1.2.2.2.2.1))
 let e1_:=(a0,a1,e6_,(f40 (a0,a2,())).1.2.1,(f40 (a0,a3,())).1.2.1,(IntKind.wrap .i64 ((f40 (a0,a2,())).1.2.2.1-(f40 (a0,a3,())).1.2.2.1)),())
 let e5_:=(a0,e6_,())
 let e2_:=(f118 e5_)
 let e3_:=(f97 e5_)
 let e4_:=(p97 e5_)
 let g1_:Option (DenS KL):=bif (p378 (a0,(1:Int),())) then (some (f378 (a0,(1:Int),())))
 else none
 bif (p376 (a0,a1,(a2::(a3::[])),())) then (bif ((f376 (a0,a1,(a2::(a3::[])),())).1 != (0:Int)) then (some ((0:Int),(0:Int),(f376 (a0,a1,(a2::(a3::[])),()))))
 else bif (p377 (a0,a2,())) then (bif (p377 (a0,a3,())) then (bif ((f377 (a0,a2,())).1.2.1||(f377 (a0,a3,())).1.2.1) then (g1_)
 else bif ((f377 (a0,a2,())).1.1||(f377 (a0,a3,())).1.1) then (bif (p378 (a0,(0:Int),())) then (some (f378 (a0,(0:Int),())))
 else none)
 else bif (((f377 (a0,a2,())).1.2.2.1&&(f377 (a0,a3,())).1.2.2.1)||((f377 (a0,a2,())).1.2.2.2.1&&(f377 (a0,a3,())).1.2.2.2.1)) then (g1_)
 else bif (f377 (a0,a2,())).1.2.2.1 then (bif e4_ then (some (e3_.1,(0:Int),e3_.2))
 else none)
 else bif (f377 (a0,a3,())).1.2.2.2.1 then (bif e4_ then (some (e3_.1,(2:Int),e3_.2))
 else none)
 else bif ((f377 (a0,a3,())).1.2.2.1||(f377 (a0,a2,())).1.2.2.2.1) then (bif (p118 e5_) then (some (e2_.1,(0:Int),e2_.2))
 else none)
 else bif (p40 (a0,a2,())) then (bif (p40 (a0,a3,())) then (bif (p380 e1_) then (some (f380 e1_))
 else none)
 else none)
 else none)
 else none)
 else none)
 else none
theorem aRE (x:DenS PK):run (cf [(68,⟨M1,PU,p376,f376⟩),(69,⟨PG,N8,p377,f377⟩),(70,⟨Pn,Pv,p378,f378⟩),(65,⟨GG,Gs,p97,f97⟩),(38,⟨EI,E8,p118,f118⟩),(71,⟨G8,GA,p40,f40⟩),(72,⟨NN,Ph,p380,f380⟩)] []) 9 18 Tryz.f18 PK KL x=dB p376 f376 p377 f377 p378 f378 p97 f97 p118 f118 p40 f40 p380 f380 x.1 x.2.1 x.2.2.1 x.2.2.2.1:=by kernel_rfl
def V3 (x:DenS PK):Option (DenS KL):=dB M4.pre M4.F NF.pre NF.F Nh.pre Nh.F B6.pre B6.F A1.pre A1.F CF.pre CF.F O2.pre O2.F x.1 x.2.1 x.2.2.1 x.2.2.2.1
def Ln:Sum:=Al PK KL V3 (DenS.dflt KL)
theorem aEq:Sound Tryz.prog G1 18 Ln:=sd (cf [(68,M4),(69,NF),(70,Nh),(65,B6),(38,A1),(71,CF),(72,O2)] []) 18 Tryz.f18 ⟨aSo,aLI,aIt,Zp,RQ,ZH,aLD,trivial⟩ trivial PK KL V3 _ (fun _=>aRE ..)
abbrev vK:=Ak PK
abbrev uZ:=Aj PK KL
variable (p381:vK) (f381:uZ)
abbrev fI:Ab:=[(false,.int .i64),(false,.int .i64),(false,.int .u64),(false,.int .u64)]
abbrev qP:Ab:=[(false,.int .u64),(false,.int .i64),(false,.int .i64)]
def OD:SumF:=Jq fI qP [(15,[],FJ),(16,[],Mu),(17,[],Kj),(18,[],Ln)]
theorem aKf:Km Tryz.prog G1 OD:=Ub ⟨DH uG,⟨DH xQ,⟨DH aFE,⟨DH aEq,trivial⟩⟩⟩⟩
abbrev aDW:=Option (Nat×List Nat)->Ak fI
abbrev aCS:=Option (Nat×List Nat)->Aj fI qP
variable (p100002:aDW) (f100002:aCS)
abbrev Qp:Ab:=[(true,.pair (.int .i64) (.pair (.int .i64) (.pair (.int .u64) (.pair (.int .u64) (.pair (.int .u64) .unit))))),(false,.box (.pfn))]
abbrev Kt:Ab:=[(false,.int .u64),(false,.int .i64),(false,.int .i64)]
def lP (p100002:aDW) (f100002:aCS) (a0:Aa (.pair (.int .i64) (.pair (.int .i64) (.pair (.int .u64) (.pair (.int .u64) (.pair (.int .u64) .unit)))))) (a1:Aa (.box (.pfn))):Option (DenS Kt) :=
 let e1_:=(a0.2.1,a0.1,a0.2.2.1,a0.2.2.2.1,())
 bif (p100002 (some (a1,[])) e1_) then (some (f100002 (some (a1,[])) e1_))
 else none
theorem aI2 (x:DenS Qp):run ({ cf [] [] with fns:=[(31,⟨fI,qP,p100002,f100002⟩)] }) 9 255 Tryz.f255 Qp Kt x=lP p100002 f100002 x.1 x.2.1:=by kernel_rfl
def Wv (x:DenS Qp):Option (DenS Kt):=lP OD.pre OD.F x.1 x.2.1
def Di:Sum:=Al Qp Kt Wv (DenS.dflt Kt)
theorem Yq:Sound Tryz.prog G1 255 Di:=sd ({ cf [] [] with fns:=[(31,OD)] }) 255 Tryz.f255 trivial trivial Qp Kt Wv _ (fun _=>aI2 ..) (hfs:=⟨aKf,trivial⟩)
abbrev qY:=Ak Qp
abbrev nY:=Aj Qp Kt
variable (p395:qY) (f395:nY)
abbrev OP:Ab:=[(false,.int .i64),(false,.int .i64),(false,.slice (.int .u64))]
abbrev NT:Ab:=[(true,.pair (.int .i64) (.pair (.int .i64) (.pair (.int .i64) (.pair (.int .i64) (.unit))))),(false,.int .i64)]
abbrev GS:Pat:=⟨44,[(30,.one (.v .i64)),(29,.one (.sl (.int .u64))),(0,.one (.v .i64)),(31,.one (.v .i64)),(8,.one (.ptr 1 0)),(6,.one (.ptr 0 0))],[.raw [.v .i64,.v .i64,.v .i64,.v .i64],.raw [.v .i64,.v .i64,.v .i64,.v .i64]]⟩
abbrev lG:List (Nat×Shape):=[]
abbrev La:List (Nat×Pat):=[(0,⟨44,[(8,.one (.ptr 1 0)),(6,.one (.ptr 0 0))],[.raw [.v .i64,.v .i64,.v .i64,.v .i64],.raw [.v .i64,.v .i64,.v .i64,.v .i64]]⟩)]
abbrev K1:Option Pat:=(some ⟨44,[(6,.one (.ptr 0 0)),(7,.one (.v .i64))],[.raw [.v .i64,.v .i64,.v .i64,.v .i64]]⟩)
variable (w311_7:Pat.D GS->Option (Ah La K1))
def Vh (p69:BL) (f69:BO) (p66:Ck) (f66:Cl) {R:Type} (L:Pat.D GS->Option R) (e:Ah La K1->Option R) (x:Pat.D GS):Option R :=
 let e2_:=(x.1.2.2.1,(x.1.2.1.getD (Int.toNat x.1.2.2.2.1) (0:Int)),())
 let e1_:=(f66 e2_)
 bif (decide (x.1.2.2.2.1<x.1.1)) then (bif ((decide ((0:Int)<=x.1.2.2.2.1))&&(decide (x.1.2.2.2.1<(x.1.2.1.length:Int)))) then (bif (p66 e2_) then (bif (e1_.1 != (0:Int)) then (((e (.inr (((),e1_),x.2.2)))))
 else (L ((x.1.1,x.1.2.1,x.1.2.2.1,(IntKind.wrap .i64 (x.1.2.2.2.1+(1:Int))),(),(),()),x.2)))
 else none)
 else none)
 else (e (.inl (((),(),()),x.2)))
theorem aUP (d:Nat) (R:Type) (L:Pat.D GS->Option R) (e:Ah La K1->Option R) (x:Pat.D GS) :
  Bz (cf [(54,⟨Cm,Cn,p69,f69⟩),(59,⟨CJ,CN,p66,f66⟩)] [(133,7,LoopSpec.of GS lG La K1 w311_7)]) (d+2) 133 (Bw Tryz.f133 7) GS lG La K1 (R:=R) L e x=Vh p69 f69 p66 f66 L e x:=by kernel_rfl
theorem aBr (p69:BL) (f69:BO) (p66:Ck) (f66:Cl):Bu fun L e x=>Vh p69 f69 p66 f66 L e x:=by intro _ _ _ _ _ _ _ h0 hL he _; unfold Vh; repeat' (first | exact h0 | exact hL _ | exact he _ | apply B3 | (apply BY h0; intro _) | (apply BV <;> intro _))
def Tx (p69:BL) (f69:BO) (p66:Ck) (f66:Cl) (w311_7:Pat.D GS->Option (Ah La K1)) (a0 a1:Aa (.int .i64)) (a2:Aa (.slice (.int .u64))):Option (DenS NT) :=
 bif (p69 (a0,())) then (bif ((f69 (a0,())).2.1 != (0:Int)) then (some (f69 (a0,())))
 else bif ((decide (a1<(0:Int)))||(decide (a1>(5:Int)))) then (some ((f69 (a0,())).1,(3:Int),()))
 else Vx.A3 (w311_7 (((a2.length:Int),a2,a0,(0:Int),(),(),()),((0:Int),(0:Int),(0:Int),(0:Int),()),(f69 (a0,())).1,())) fun y3 =>
 Vx.A6 y3 (fun y4 =>
 some (y4.2.2.1,(0:Int),())) (fun z4 =>
 some (z4.2.1,z4.1.2)))
 else none
theorem aJR (x:DenS OP):run (cf [(54,⟨Cm,Cn,p69,f69⟩),(59,⟨CJ,CN,p66,f66⟩)] [(133,7,LoopSpec.of GS lG La K1 w311_7)]) 9 133 Tryz.f133 OP NT x=Tx p69 f69 p66 f66 w311_7 x.1 x.2.1 x.2.2.1:=by kernel_rfl
def YO:GS.D->Option (Ah La K1):=Bf fun L=>Vh Aq.pre Aq.F Ar.pre Ar.F L some
def TY (x:DenS OP):Option (DenS NT):=Tx Aq.pre Aq.F Ar.pre Ar.F YO x.1 x.2.1 x.2.2.1
def Qu:Sum:=Al OP NT TY (DenS.dflt NT)
theorem aJ0:Sound Tryz.prog G1 133 Qu:=sd (cf [(54,Aq),(59,Ar)] [(133,7,LoopSpec.of GS lG La K1 YO)]) 133 Tryz.f133 ⟨Ep,F4,trivial⟩ ⟨rfl,fun d=>BT (fun L e x=>Vh Aq.pre Aq.F Ar.pre Ar.F L e x) (aBr Aq.pre Aq.F Ar.pre Ar.F) (fun _ _ _ _=>aUP ..),trivial⟩ OP NT TY _ (fun _=>aJR ..)
abbrev uT:=Ak OP
abbrev uE:=Aj OP NT
variable (p311:uT) (f311:uE)
abbrev O7:Ab:=[(false,.int .i64),(false,.int .i64)]
abbrev QS:Ab:=[(false,.int .u64),(false,.int .i64),(false,.bool)]
def lD (p70:D9) (f70:D4) (a0 a1:Aa (.int .i64)):Option (DenS QS) :=
 bif (p70 (a0,())) then (bif (a1==(1:Int)) then (some ((f70 (a0,())).1,(0:Int),true,()))
 else bif (a1==(0:Int)) then (bif (a1==(0:Int)) then (some ((f70 (a0,())).1,(1:Int),true,()))
 else some ((0:Int),(0:Int),false,()))
 else bif (a1==(2:Int)) then (bif (a1==(2:Int)) then (some ((f70 (a0,())).1,(1:Int),true,()))
 else some ((0:Int),(0:Int),false,()))
 else bif (a1==(3:Int)) then (bif (a1==(3:Int)) then (some ((f70 (a0,())).1,(1:Int),true,()))
 else some ((0:Int),(0:Int),false,()))
 else bif (a1==(4:Int)) then (some ((f70 (a0,())).1,(1:Int),true,()))
 else some ((0:Int),(0:Int),false,()))
 else none
theorem aQh (x:DenS O7):run (cf [(56,⟨DJ,DE,p70,f70⟩)] []) 9 134 Tryz.f134 O7 QS x=lD p70 f70 x.1 x.2.1:=by kernel_rfl
def Y2 (x:DenS O7):Option (DenS QS):=lD AB.pre AB.F x.1 x.2.1
def Rk:Sum:=Al O7 QS Y2 (DenS.dflt QS)
theorem aKP:Sound Tryz.prog G1 134 Rk:=sd (cf [(56,AB)] []) 134 Tryz.f134 ⟨GM,trivial⟩ trivial O7 QS Y2 _ (fun _=>aQh ..)
abbrev nB:=Ak O7
abbrev nQ:=Aj O7 QS
variable (p312:nB) (f312:nQ)
abbrev O0:Ab:=[(false,.int .i64),(true,.pair (.int .i64) (.pair (.int .i64) (.pair (.int .i64) (.pair (.int .i64) (.unit))))),(false,.int .u64)]
abbrev Rb:Ab:=[(false,.int .u64),(false,.int .i64)]
def cH (p98:Ju) (f98:Iw) (a0:Aa (.int .i64)) (a1:Aa (.pair (.int .i64) (.pair (.int .i64) (.pair (.int .i64) (.pair (.int .i64) (.unit)))))) (a2:Aa (.int .u64)):Option (DenS Rb) :=
 let e1_:=(IntKind.wrap .i64 (a1.2.1-(1:Int)))
 bif (p98 (a0,a2,())) then (bif ((f98 (a0,a2,())).2.1==(0:Int)) then (some ((f98 (a0,a2,())).2.2.1,(IntKind.wrap .i64 ((IntKind.wrap .i64 ((IntKind.wrap .i64 ((IntKind.wrap .i64 ((IntKind.wrap .i64 (1:Int))-(1:Int)))+a1.2.2.1))-a1.2.1))+(1:Int))),()))
 else bif (decide ((0:Int)<=e1_)) then (some ((AX .u64 (f98 (a0,a2,())).2.2.1 (AT .u64 (1:Int) e1_)),(IntKind.wrap .i64 ((IntKind.wrap .i64 ((IntKind.wrap .i64 ((IntKind.wrap .i64 ((IntKind.wrap .i64 (f98 (a0,a2,())).2.1)-(1:Int)))+a1.2.2.1))-a1.2.1))+(1:Int))),()))
 else none)
 else none
theorem aOK (x:DenS O0):run (cf [(119,⟨Fe,Fk,p98,f98⟩)] []) 9 135 Tryz.f135 O0 Rb x=cH p98 f98 x.1 x.2.1 x.2.2.1:=by kernel_rfl
def ZQ (x:DenS O0):Option (DenS Rb):=cH Bq.pre Bq.F x.1 x.2.1 x.2.2.1
def ND:Sum:=Al O0 Rb ZQ (DenS.dflt Rb)
theorem aPy:Sound Tryz.prog G1 135 ND:=sd (cf [(119,Bq)] []) 135 Tryz.f135 ⟨Sk,trivial⟩ trivial O0 Rb ZQ _ (fun _=>aOK ..)
abbrev n4:=Ak O0
abbrev sY:=Aj O0 Rb
variable (p313:n4) (f313:sY)
abbrev QP:Ab:=[(true,.pair (.int .u64) (.pair (.int .u64) (.unit)))]
abbrev OK:Ab:=[(false,.int .i64)]
def lS (p178:HO) (f178:In) (a0:Aa (.pair (.int .u64) (.pair (.int .u64) (.unit)))):Option (DenS OK) :=
 bif (a0.1 != (0:Int)) then (bif (p178 (a0.1,())) then (some ((IntKind.wrap .i64 ((64:Int)+(f178 (a0.1,())).1)),()))
 else none)
 else bif (p178 a0.2) then (some (f178 a0.2))
 else none
theorem aK1 (x:DenS QP):run (cf [(83,⟨FO,Fo,p178,f178⟩)] []) 9 136 Tryz.f136 QP OK x=lS p178 f178 x.1:=by kernel_rfl
def Xu (x:DenS QP):Option (DenS OK):=lS Bx.pre Bx.F x.1
def Qm:Sum:=Al QP OK Xu (DenS.dflt OK)
theorem aRI:Sound Tryz.prog G1 136 Qm:=sd (cf [(83,Bx)] []) 136 Tryz.f136 ⟨Zf,trivial⟩ trivial QP OK Xu _ (fun _=>aK1 ..)
abbrev wG:=Ak QP
abbrev nK:=Aj QP OK
variable (p314:wG) (f314:nK)
end Vx
end
