/- Part 4 of the proof. What is proved: symbolic execution of the functions, proved sound; what each function of the program computes, and that every run ends with it; what these functions compute, in plain numbers. Conditions: each theorem bears its own. -/
import Derived.Test.YtkkidampbmfagaaGreatDoorVxG3
import Derived.Test.YtkkidampbmfagaaGreatDoorProg
set_option linter.all false
set_option exponentiation.threshold 1000000
noncomputable section
namespace Vx
open Go Go.Proofs
abbrev rowsSh:Shape:=.pair (.int .i64) (.pair (.int .i64) (.pair (.int .i64) (.pair (.int .i64) .unit)))
abbrev kindsSh:Shape:=.pair (.int .u64) (.pair (.int .u64) .unit)
def k_rows:List (Aa rowsSh):=[(16,11,-14,15,()),(16,8,-126,127,()),(32,24,-126,127,()),(64,53,-1022,1023,())]
def Ih:List UInt8:=[0,1,2,2,3,3,3,3,4,4,4,4,4,4,4,4,5,5,5,5,5,5,5,5,5,5,5,5,5,5,5,5,6,6,6,6,6,6,6,6,6,6,6,6,6,6,6,6,6,6,6,6,6,6,6,6,6,6,6,6,6,6,6,6,7,7,7,7,7,7,7,7,7,7,7,7,7,7,7,7,7,7,7,7,7,7,7,7,7,7,7,7,7,7,7,7,7,7,7,7,7,7,7,7,7,7,7,7,7,7,7,7,7,7,7,7,7,7,7,7,7,7,7,7,7,7,7,7,8,8,8,8,8,8,8,8,8,8,8,8,8,8,8,8,8,8,8,8,8,8,8,8,8,8,8,8,8,8,8,8,8,8,8,8,8,8,8,8,8,8,8,8,8,8,8,8,8,8,8,8,8,8,8,8,8,8,8,8,8,8,8,8,8,8,8,8,8,8,8,8,8,8,8,8,8,8,8,8,8,8,8,8,8,8,8,8,8,8,8,8,8,8,8,8,8,8,8,8,8,8,8,8,8,8,8,8,8,8,8,8,8,8,8,8,8,8,8,8,8,8,8,8,8,8,8,8]
def k_deb:List (Aa (.int .u8)):=[0,1,56,2,57,49,28,3,61,58,42,50,38,29,17,4,62,47,59,36,45,43,51,22,53,39,33,30,24,18,12,5,63,55,48,27,60,41,37,16,46,35,44,21,52,32,23,11,54,26,40,15,34,20,31,10,25,14,19,9,13,8,7,6]
def k_kinds:List (Aa kindsSh):=[(2147483648,2147483647,()),(9223372036854775808,9223372036854775807,()),(0,4294967295,()),(0,18446744073709551615,())]
def G1:List (Nat×Sigma fun τ=>List (Aa τ)):=[(0,⟨kindsSh,k_kinds⟩),(2,⟨rowsSh,k_rows⟩),(3,⟨.int .u8,k_deb⟩)]
abbrev Ak (I:Ab):=DenS I→Bool
abbrev Aj (I O:Ab):=DenS I→DenS O
@[reducible] def cf (s:List (FuncId×Sum)) (l:List (FuncId×Nat×LoopSpec)):Cfg:={ P:=Tryz.prog,sums:=s,loops:=l,globs:=G1 }
theorem sd (C:Cfg) (n:FuncId) (fn:Func) (hs:Vw C.P C.globs C.sums) (hl:RR C n fn C.loops) (I O:Ab) (t:DenS I→Option (DenS O)) (d:DenS O) (h:∀ x,run C 9 n fn I O x=t x) (hls:UQ C.P C.globs C.lsums:=by exact trivial) (hfs:SZ C.P C.globs C.fns:=by exact trivial) (hms:TC C.P C.globs C.meths:=by exact trivial)
  (hm : C.P.follows .mixedOrders = true := by kernel_rfl) (hf : C.P.funcs[n]? = some fn := by kernel_rfl) (hb : (match fn.body with | some c => HF ((CI c).map C7) | none => false) = true := by kernel_rfl) (hn : (fn.name == "runtime.NumGoroutine") = false := by kernel_rfl) : Sound C.P C.globs n (Al I O t d) :=
 aPy C 9 n fn hm hf hb hn hs hl I O t d h hls hfs hms
theorem oY (C:Cfg) (n:FuncId) (fn:Func) (hs:Vw C.P C.globs C.sums) (hl:RR C n fn C.loops) (k:LK) (I O:Ab) (t:k.D×DenS I→Option (k.B×DenS O)) (d:k.B×DenS O) (h:∀ x,Nx C 9 n fn k I O x=t x) (hls:UQ C.P C.globs C.lsums:=by exact trivial) (hfs:SZ C.P C.globs C.fns:=by exact trivial) (hms:TC C.P C.globs C.meths:=by exact trivial)
  (hm : C.P.follows .mixedOrders = true := by kernel_rfl) (hf : C.P.funcs[n]? = some fn := by kernel_rfl) (hb : (match fn.body with | some c => HF ((CI c).map C7) | none => false) = true := by kernel_rfl) (hn : (fn.name == "runtime.NumGoroutine") = false := by kernel_rfl) : SoundL C.P C.globs n (QT k I O t d) :=
 aRG C 9 n fn hm hf hb hn hs hl k I O t d h hls hfs hms
abbrev Ch:Ab:=[(false,.int .i64)]
abbrev Cj:Ab:=[(true,.pair (.int .i64) (.pair (.int .i64) (.pair (.int .i64) (.pair (.int .i64) (.unit))))),(false,.int .i64)]
def mR (a0:Aa (.int .i64)):Option (DenS Cj) :=
 let e1_:=((0:Int),(0:Int),(0:Int),(0:Int),())
 bif ((decide (a0<(0:Int)))||(decide (a0≥(4:Int)))) then (some (e1_,(2:Int),()))
 else bif ((decide ((0:Int)≤a0))&&(decide (a0<((4:Nat):Int)))) then (some ((Vx.k_rows.getD (Int.toNat a0) e1_),(0:Int),()))
 else none
theorem r69 (x:DenS Ch):run (cf [] []) 9 54 Tryz.f54 Ch Cj x=mR x.1:=by kernel_rfl
def SO (x:DenS Ch):Option (DenS Cj):=mR x.1
def Aq:Sum:=Al Ch Cj SO (DenS.dflt Cj)
theorem Ek:Sound Tryz.prog G1 54 Aq:=sd (cf [] []) 54 Tryz.f54 trivial trivial Ch Cj SO _ (fun _=>r69 ..)
abbrev BP:=Ak Ch
abbrev BK:=Aj Ch Cj
variable (p69:BP) (f69:BK)
abbrev CH:Ab:=[(false,.int .i64),(false,.int .u64)]
abbrev CJ:Ab:=[(false,.int .i64)]
def eR (p69:BP) (f69:BK) (a0:Aa (.int .i64)) (a1:Aa (.int .u64)):Option (DenS CJ) :=
 bif (p69 (a0,())) then (bif ((f69 (a0,())).2.1 != (0:Int)) then (some (f69 (a0,())).2)
 else bif ((decide ((0:Int)≤(f69 (a0,())).1.1))||(!(decide ((f69 (a0,())).1.1<(64:Int))))) then (bif ((decide ((f69 (a0,())).1.1<(64:Int)))&&((AH .u64 a1 (f69 (a0,())).1.1) != (0:Int))) then (some ((4:Int),()))
 else some ((0:Int),()))
 else none)
 else none
theorem r66 (x:DenS CH):run (cf [(54,⟨Ch,Cj,p69,f69⟩)] []) 9 59 Tryz.f59 CH CJ x=eR p69 f69 x.1 x.2.1:=by kernel_rfl
def WE (x:DenS CH):Option (DenS CJ):=eR Aq.pre Aq.F x.1 x.2.1
def Ar:Sum:=Al CH CJ WE (DenS.dflt CJ)
theorem FU:Sound Tryz.prog G1 59 Ar:=sd (cf [(54,Aq)] []) 59 Tryz.f59 ⟨Ek,trivial⟩ trivial CH CJ WE _ (fun _=>r66 ..)
abbrev Ci:=Ak CH
abbrev Cl:=Aj CH CJ
variable (p66:Ci) (f66:Cl)
abbrev EA:Ab:=[(false,.int .i64)]
abbrev EK:Ab:=[(false,.int .u64)]
def bZ (a0:Aa (.int .i64)):Option (DenS EK) :=
 bif (decide ((0:Int)≤a0)) then (some ((IntKind.wrap .u64 ((AQ .u64 (1:Int) a0)-(1:Int))),()))
 else none
theorem r91 (x:DenS EA):run (cf [] []) 9 112 Tryz.f112 EA EK x=bZ x.1:=by kernel_rfl
def Xh (x:DenS EA):Option (DenS EK):=bZ x.1
def Br:Sum:=Al EA EK Xh (DenS.dflt EK)
theorem MG:Sound Tryz.prog G1 112 Br:=sd (cf [] []) 112 Tryz.f112 trivial trivial EA EK Xh _ (fun _=>r91 ..)
abbrev Hr:=Ak EA
abbrev HH:=Aj EA EK
variable (p91:Hr) (f91:HH)
abbrev Jt:Ab:=[(true,.pair (.int .i64) (.pair (.int .i64) (.pair (.int .i64) (.pair (.int .i64) (.unit))))),(false,.int .u64)]
abbrev JI:Ab:=[(false,.bool),(false,.int .u64),(false,.int .u64)]
def cQ (p91:Hr) (f91:HH) (a0:Aa (.pair (.int .i64) (.pair (.int .i64) (.pair (.int .i64) (.pair (.int .i64) (.unit)))))) (a1:Aa (.int .u64)):Option (DenS JI) :=
 let e5_:=(IntKind.wrap .i64 (a0.2.1-(1:Int)))
 let e1_:=(e5_,())
 let e2_:=((IntKind.wrap .i64 (a0.1-a0.2.1)),())
 let e3_:=e5_
 let e4_:=(IntKind.wrap .i64 (a0.1-(1:Int)))
 bif (decide ((0:Int)≤e4_)) then (bif (decide ((0:Int)≤e3_)) then (bif (p91 e2_) then (bif (p91 e1_) then (some (((AH .u64 a1 e4_) != (0:Int)),(A8 .u64 (AH .u64 a1 e3_) (f91 e2_).1),(A8 .u64 a1 (f91 e1_).1),()))
 else none)
 else none)
 else none)
 else none
theorem r90 (x:DenS Jt):run (cf [(112,⟨EA,EK,p91,f91⟩)] []) 9 111 Tryz.f111 Jt JI x=cQ p91 f91 x.1 x.2.1:=by kernel_rfl
def Wc (x:DenS Jt):Option (DenS JI):=cQ Br.pre Br.F x.1 x.2.1
def Di:Sum:=Al Jt JI Wc (DenS.dflt JI)
theorem qF:Sound Tryz.prog G1 111 Di:=sd (cf [(112,Br)] []) 111 Tryz.f111 ⟨MG,trivial⟩ trivial Jt JI Wc _ (fun _=>r90 ..)
abbrev VU:=Ak Jt
abbrev W4:=Aj Jt JI
variable (p90:VU) (f90:W4)
abbrev DB:Ab:=[(false,.int .i64),(false,.int .u64)]
abbrev DG:Ab:=[(false,.int .i64),(false,.int .i64)]
def Tm (p66:Ci) (f66:Cl) (p90:VU) (f90:W4) (p91:Hr) (f91:HH) (a0:Aa (.int .i64)) (a1:Aa (.int .u64)):Option (DenS DG) :=
 let e10_:=(Vx.k_rows.getD (Int.toNat a0) ((0:Int),(0:Int),(0:Int),(0:Int),()))
 let e9_:=(f90 (e10_,a1,()))
 let e8_:=((IntKind.wrap .i64 (e10_.1-e10_.2.1)),())
 let e1_:=(e9_.2.1==(f91 e8_).1)
 let e2_:=(p91 e8_)
 let e3_:=(IntKind.wrap .i64 (e10_.2.1-(2:Int)))
 let e4_:=(e9_.2.2.1==(0:Int))
 let e5_:=(e9_.2.1==(0:Int))
 let e6_:=e9_
 let e7_:=e10_
 bif (p66 (a0,a1,())) then (bif ((f66 (a0,a1,())).1 != (0:Int)) then (some ((0:Int),(f66 (a0,a1,()))))
 else bif ((decide ((0:Int)≤a0))&&(decide (a0<((4:Nat):Int)))) then (bif (p90 (e7_,a1,())) then (bif e2_ then (bif (e1_&&e4_) then (bif e6_.1 then (some ((IntKind.wrap .i64 ((11:Int)-(9:Int))),(0:Int),()))
 else some ((9:Int),(0:Int),()))
 else bif e2_ then (bif ((decide ((0:Int)≤e3_))||(!(decide (e6_.2.1=(f91 ((IntKind.wrap .i64 (e7_.1-e7_.2.1)),())).1)))) then (bif (e1_&&((AH .u64 e6_.2.2.1 e3_) != (0:Int))) then (some ((1:Int),(0:Int),()))
 else bif e2_ then (bif e1_ then (some ((0:Int),(0:Int),()))
 else bif (e5_&&e4_) then (bif e6_.1 then (some ((IntKind.wrap .i64 ((11:Int)-(6:Int))),(0:Int),()))
 else some ((6:Int),(0:Int),()))
 else bif e5_ then (bif e6_.1 then (some ((IntKind.wrap .i64 ((11:Int)-(7:Int))),(0:Int),()))
 else some ((7:Int),(0:Int),()))
 else bif e6_.1 then (some ((IntKind.wrap .i64 ((11:Int)-(8:Int))),(0:Int),()))
 else some ((8:Int),(0:Int),()))
 else none)
 else none)
 else none)
 else none)
 else none)
 else none)
 else none
theorem r65 (x:DenS DB):run (cf [(59,⟨CH,CJ,p66,f66⟩),(111,⟨Jt,JI,p90,f90⟩),(112,⟨EA,EK,p91,f91⟩)] []) 9 55 Tryz.f55 DB DG x=Tm p66 f66 p90 f90 p91 f91 x.1 x.2.1:=by kernel_rfl
def Sh (x:DenS DB):Option (DenS DG):=Tm Ar.pre Ar.F Di.pre Di.F Br.pre Br.F x.1 x.2.1
def AB:Sum:=Al DB DG Sh (DenS.dflt DG)
theorem G9:Sound Tryz.prog G1 55 AB:=sd (cf [(59,Ar),(111,Di),(112,Br)] []) 55 Tryz.f55 ⟨FU,qF,MG,trivial⟩ trivial DB DG Sh _ (fun _=>r65 ..)
abbrev D5:=Ak DB
abbrev D3:=Aj DB DG
variable (p65:D5) (f65:D3)
abbrev IL:Ab:=[(true,.pair (.int .i64) (.pair (.int .i64) (.pair (.int .i64) (.pair (.int .i64) (.unit)))))]
abbrev Jk:Ab:=[(false,.int .u64)]
def aAh (a0:Aa (.pair (.int .i64) (.pair (.int .i64) (.pair (.int .i64) (.pair (.int .i64) (.unit)))))):Option (DenS Jk) :=
 some ((0:Int),())
theorem aS8 (x:DenS IL):run (cf [] []) 9 104 Tryz.f104 IL Jk x=aAh x.1:=by kernel_rfl
def aFn (x:DenS IL):Option (DenS Jk):=aAh x.1
def JJ:Sum:=Al IL Jk aFn (DenS.dflt Jk)
theorem o9:Sound Tryz.prog G1 104 JJ:=sd (cf [] []) 104 Tryz.f104 trivial trivial IL Jk aFn _ (fun _=>aS8 ..)
abbrev kV:=Ak IL
abbrev mB:=Aj IL Jk
variable (p116:kV) (f116:mB)
abbrev OF:Ab:=[(true,.pair (.int .i64) (.pair (.int .i64) (.pair (.int .i64) (.pair (.int .i64) (.unit)))))]
abbrev Qb:Ab:=[(false,.int .u64)]
def aBx (a0:Aa (.pair (.int .i64) (.pair (.int .i64) (.pair (.int .i64) (.pair (.int .i64) (.unit)))))):Option (DenS Qb) :=
 let e1_:=(IntKind.wrap .i64 (a0.2.1-(2:Int)))
 bif (decide ((0:Int)≤e1_)) then (some ((AQ .u64 (1:Int) e1_),()))
 else none
theorem aRu (x:DenS OF):run (cf [] []) 9 113 Tryz.f113 OF Qb x=aBx x.1:=by kernel_rfl
def aB1 (x:DenS OF):Option (DenS Qb):=aBx x.1
def aP:Sum:=Al OF Qb aB1 (DenS.dflt Qb)
theorem aOh:Sound Tryz.prog G1 113 aP:=sd (cf [] []) 113 Tryz.f113 trivial trivial OF Qb aB1 _ (fun _=>aRu ..)
abbrev aAK:=Ak OF
abbrev aEu:=Aj OF Qb
variable (p117:aAK) (f117:aEu)
abbrev Ic:Ab:=[(true,.pair (.int .i64) (.pair (.int .i64) (.pair (.int .i64) (.pair (.int .i64) (.unit))))),(false,.bool),(false,.int .u64),(false,.int .u64)]
abbrev H7:Ab:=[(false,.int .u64)]
def aCz (a0:Aa (.pair (.int .i64) (.pair (.int .i64) (.pair (.int .i64) (.pair (.int .i64) (.unit)))))) (a1:Aa (.bool)) (a2 a3:Aa (.int .u64)):Option (DenS H7) :=
 let e3_:=(IntKind.wrap .i64 (a0.2.1-(1:Int)))
 let e1_:=(A9 .u64 (AQ .u64 a2 e3_) a3)
 let e2_:=(IntKind.wrap .i64 (a0.1-(1:Int)))
 bif (decide ((0:Int)≤e3_)) then (bif a1 then (bif (decide ((0:Int)≤e2_)) then (some ((A9 .u64 e1_ (AQ .u64 (1:Int) e2_)),()))
 else none)
 else some (e1_,()))
 else none
theorem aRO (x:DenS Ic):run (cf [] []) 9 149 Tryz.f149 Ic H7 x=aCz x.1 x.2.1 x.2.2.1 x.2.2.2.1:=by kernel_rfl
def aEC (x:DenS Ic):Option (DenS H7):=aCz x.1 x.2.1 x.2.2.1 x.2.2.2.1
def Gx:Sum:=Al Ic H7 aEC (DenS.dflt H7)
theorem kD:Sound Tryz.prog G1 149 Gx:=sd (cf [] []) 149 Tryz.f149 trivial trivial Ic H7 aEC _ (fun _=>aRO ..)
abbrev WR:=Ak Ic
abbrev WW:=Aj Ic H7
variable (p140:WR) (f140:WW)
abbrev DD:Ab:=[(false,.int .i64)]
abbrev DH:Ab:=[(false,.int .u64),(false,.int .i64)]
def t70 (p116:kV) (f116:mB) (p117:aAK) (f117:aEu) (p69:BP) (f69:BK) (p91:Hr) (f91:HH) (p140:WR) (f140:WW) (a0:Aa (.int .i64)):Option (DenS DH) :=
 let e2_:=((IntKind.wrap .i64 ((f69 (a0,())).1.1-(f69 (a0,())).1.2.1)),())
 let e1_:=((f69 (a0,())).1,false,(IntKind.wrap .u64 ((f91 e2_).1-(f116 ((f69 (a0,())).1,())).1)),(f117 ((f69 (a0,())).1,())))
 bif (p69 (a0,())) then (bif ((f69 (a0,())).2.1 != (0:Int)) then (some ((0:Int),(f69 (a0,())).2))
 else bif (p91 e2_) then (bif (p116 ((f69 (a0,())).1,())) then (bif (p117 ((f69 (a0,())).1,())) then (bif (p140 e1_) then (some ((f140 e1_).1,(0:Int),()))
 else none)
 else none)
 else none)
 else none)
 else none
theorem r70 (x:DenS DD):run (cf [(104,⟨IL,Jk,p116,f116⟩),(113,⟨OF,Qb,p117,f117⟩),(54,⟨Ch,Cj,p69,f69⟩),(112,⟨EA,EK,p91,f91⟩),(149,⟨Ic,H7,p140,f140⟩)] []) 9 56 Tryz.f56 DD DH x=t70 p116 f116 p117 f117 p69 f69 p91 f91 p140 f140 x.1:=by kernel_rfl
def ZL (x:DenS DD):Option (DenS DH):=t70 JJ.pre JJ.F aP.pre aP.F Aq.pre Aq.F Br.pre Br.F Gx.pre Gx.F x.1
def AC:Sum:=Al DD DH ZL (DenS.dflt DH)
theorem GL:Sound Tryz.prog G1 56 AC:=sd (cf [(104,JJ),(113,aP),(54,Aq),(112,Br),(149,Gx)] []) 56 Tryz.f56 ⟨o9,aOh,Ek,MG,kD,trivial⟩ trivial DD DH ZL _ (fun _=>r70 ..)
abbrev Ei:=Ak DD
abbrev DW:=Aj DD DH
variable (p70:Ei) (f70:DW)
abbrev FN:Ab:=[(false,.int .i64),(false,.int .u64)]
abbrev FF:Ab:=[(false,.bool),(false,.int .u64),(false,.int .u64),(false,.int .i64)]
def Z0 (p66:Ci) (f66:Cl) (p90:VU) (f90:W4) (a0:Aa (.int .i64)) (a1:Aa (.int .u64)):Option (DenS FF) :=
 let e2_:=((Vx.k_rows.getD (Int.toNat a0) ((0:Int),(0:Int),(0:Int),(0:Int),())),a1,())
 let e1_:=(f90 e2_)
 bif (p66 (a0,a1,())) then (bif ((f66 (a0,a1,())).1 != (0:Int)) then (some (false,(0:Int),(0:Int),(f66 (a0,a1,()))))
 else bif (bif (decide ((0:Int)≤a0)) then (decide (a0<((4:Nat):Int))) else false) then (bif (p90 e2_) then (some (e1_.1,e1_.2.1,e1_.2.2.1,(0:Int),()))
 else none)
 else none)
 else none
theorem r98 (x:DenS FN):run (cf [(59,⟨CH,CJ,p66,f66⟩),(111,⟨Jt,JI,p90,f90⟩)] []) 9 119 Tryz.f119 FN FF x=Z0 p66 f66 p90 f90 x.1 x.2.1:=by kernel_rfl
def VJ (x:DenS FN):Option (DenS FF):=Z0 Ar.pre Ar.F Di.pre Di.F x.1 x.2.1
def Bo:Sum:=Al FN FF VJ (DenS.dflt FF)
theorem R3:Sound Tryz.prog G1 119 Bo:=sd (cf [(59,Ar),(111,Di)] []) 119 Tryz.f119 ⟨FU,qF,trivial⟩ trivial FN FF VJ _ (fun _=>r98 ..)
abbrev IK:=Ak FN
abbrev Ja:=Aj FN FF
variable (p98:IK) (f98:Ja)
abbrev Pj:Ab:=[(false,.int .i64),(true,.pair (.int .i64) (.pair (.int .i64) (.pair (.int .i64) (.pair (.int .i64) (.unit))))),(false,.int .u64)]
abbrev PK:Ab:=[(true,.pair (.bool) (.pair (.int .u64) (.pair (.int .i64) (.unit))))]
def dF (p98:IK) (f98:Ja) (a0:Aa (.int .i64)) (a1:Aa (.pair (.int .i64) (.pair (.int .i64) (.pair (.int .i64) (.pair (.int .i64) (.unit)))))) (a2:Aa (.int .u64)):Option (DenS PK) :=
 let e1_:=(IntKind.wrap .i64 ((IntKind.wrap .i64 (a1.2.2.1-a1.2.1))+(1:Int)))
 let e2_:=(IntKind.wrap .i64 (a1.2.1-(1:Int)))
 bif (p98 (a0,a2,())) then (bif (decide ((f98 (a0,a2,())).2.1>(0:Int))) then (bif (decide ((0:Int)≤e2_)) then (some (((f98 (a0,a2,())).1,(A9 .u64 (f98 (a0,a2,())).2.2.1 (AQ .u64 (1:Int) e2_)),(IntKind.wrap .i64 (e1_+(IntKind.wrap .i64 ((IntKind.wrap .i64 (f98 (a0,a2,())).2.1)-(1:Int))))),()),()))
 else none)
 else some (((f98 (a0,a2,())).1,(f98 (a0,a2,())).2.2.1,e1_,()),()))
 else none
theorem r72 (x:DenS Pj):run (cf [(119,⟨FN,FF,p98,f98⟩)] []) 9 58 Tryz.f58 Pj PK x=dF p98 f98 x.1 x.2.1 x.2.2.1:=by kernel_rfl
def ZT (x:DenS Pj):Option (DenS PK):=dF Bo.pre Bo.F x.1 x.2.1 x.2.2.1
def Nl:Sum:=Al Pj PK ZT (DenS.dflt PK)
theorem aUH:Sound Tryz.prog G1 58 Nl:=sd (cf [(119,Bo)] []) 58 Tryz.f58 ⟨R3,trivial⟩ trivial Pj PK ZT _ (fun _=>r72 ..)
abbrev rC:=Ak Pj
abbrev qV:=Aj Pj PK
variable (p72:rC) (f72:qV)
abbrev HY:Ab:=[(true,.pair (.int .u64) (.pair (.int .u64) (.unit))),(false,.int .i64)]
abbrev JP:Ab:=[(true,.pair (.int .u64) (.pair (.int .u64) (.unit)))]
def gG (a0:Aa (.pair (.int .u64) (.pair (.int .u64) (.unit)))) (a1:Aa (.int .i64)):Option (DenS JP) :=
 let e1_:=(IntKind.wrap .i64 (a1-(64:Int)))
 let e2_:=(IntKind.wrap .i64 ((64:Int)-a1))
 bif (decide (a1≤(0:Int))) then (some ((a0.1,a0.2),()))
 else bif (decide (a1≥(128:Int))) then (some (((0:Int),(0:Int),()),()))
 else bif (decide (a1≥(64:Int))) then (bif (decide ((0:Int)≤e1_)) then (some (((AQ .u64 a0.2.1 e1_),(0:Int),()),()))
 else none)
 else bif (decide ((0:Int)≤a1)) then (bif (decide ((0:Int)≤e2_)) then (bif (decide ((0:Int)≤a1)) then (some (((A9 .u64 (AQ .u64 a0.1 a1) (AH .u64 a0.2.1 e2_)),(AQ .u64 a0.2.1 a1),()),()))
 else none)
 else none)
 else none
theorem aMN (x:DenS HY):run (cf [] []) 9 114 Tryz.f114 HY JP x=gG x.1 x.2.1:=by kernel_rfl
def M9 (x:DenS HY):Option (DenS JP):=gG x.1 x.2.1
def AE:Sum:=Al HY JP M9 (DenS.dflt JP)
theorem aEH:Sound Tryz.prog G1 114 AE:=sd (cf [] []) 114 Tryz.f114 trivial trivial HY JP M9 _ (fun _=>aMN ..)
abbrev Y2:=Ak HY
abbrev Y4:=Aj HY JP
variable (p119:Y2) (f119:Y4)
abbrev IX:Ab:=[(true,.pair (.int .u64) (.pair (.int .u64) (.unit))),(false,.int .i64)]
abbrev M6:Ab:=[(true,.pair (.int .u64) (.pair (.int .u64) (.unit)))]
def k8 (a0:Aa (.pair (.int .u64) (.pair (.int .u64) (.unit)))) (a1:Aa (.int .i64)):Option (DenS M6) :=
 let e1_:=(IntKind.wrap .i64 (a1-(64:Int)))
 let e2_:=(IntKind.wrap .i64 ((64:Int)-a1))
 bif (decide (a1≤(0:Int))) then (some ((a0.1,a0.2),()))
 else bif (decide (a1≥(128:Int))) then (some (((0:Int),(0:Int),()),()))
 else bif (decide (a1≥(64:Int))) then (bif (decide ((0:Int)≤e1_)) then (some (((0:Int),(AH .u64 a0.1 e1_),()),()))
 else none)
 else bif (decide ((0:Int)≤a1)) then (bif (decide ((0:Int)≤a1)) then (bif (decide ((0:Int)≤e2_)) then (some (((AH .u64 a0.1 a1),(A9 .u64 (AH .u64 a0.2.1 a1) (AQ .u64 a0.1 e2_)),()),()))
 else none)
 else none)
 else none
theorem aS2 (x:DenS IX):run (cf [] []) 9 115 Tryz.f115 IX M6 x=k8 x.1 x.2.1:=by kernel_rfl
def Um (x:DenS IX):Option (DenS M6):=k8 x.1 x.2.1
def AK:Sum:=Al IX M6 Um (DenS.dflt M6)
theorem aRL:Sound Tryz.prog G1 115 AK:=sd (cf [] []) 115 Tryz.f115 trivial trivial IX M6 Um _ (fun _=>aS2 ..)
abbrev vW:=Ak IX
abbrev wP:=Aj IX M6
variable (p120:vW) (f120:wP)
abbrev E5:Ab:=Sp
abbrev Fu:Ab:=Us
def Ay:Sum:=aCb
theorem SY:Sound Tryz.prog G1 165 Ay:=aPz Tryz.func165 (by kernel_rfl) (by kernel_rfl) (by kernel_rfl) (by kernel_rfl)
abbrev C5:=Ak E5
abbrev Db:=Aj E5 Fu
variable (p155:C5) (f155:Db)
abbrev J1:Ab:=[(true,.pair (.int .u64) (.pair (.int .u64) (.unit))),(true,.pair (.int .u64) (.pair (.int .u64) (.unit)))]
abbrev Mr:Ab:=[(true,.pair (.int .u64) (.pair (.int .u64) (.unit))),(false,.int .u64)]
def dX (p155:C5) (f155:Db) (a0 a1:Aa (.pair (.int .u64) (.pair (.int .u64) (.unit)))):Option (DenS Mr) :=
 let e2_:=(a0.1,a1.1,(f155 (a0.2.1,a1.2.1,(0:Int),())).2)
 let e1_:=(f155 e2_)
 bif (p155 (a0.2.1,a1.2.1,(0:Int),())) then (bif (p155 e2_) then (some ((e1_.1,(f155 (a0.2.1,a1.2.1,(0:Int),())).1,()),e1_.2))
 else none)
 else none
theorem aMQ (x:DenS J1):run (cf [(165,⟨E5,Fu,p155,f155⟩)] []) 9 116 Tryz.f116 J1 Mr x=dX p155 f155 x.1 x.2.1:=by kernel_rfl
def WJ (x:DenS J1):Option (DenS Mr):=dX Ay.pre Ay.F x.1 x.2.1
def Ma:Sum:=Al J1 Mr WJ (DenS.dflt Mr)
theorem aQ4:Sound Tryz.prog G1 116 Ma:=sd (cf [(165,Ay)] []) 116 Tryz.f116 ⟨SY,trivial⟩ trivial J1 Mr WJ _ (fun _=>aMQ ..)
abbrev uD:=Ak J1
abbrev oB:=Aj J1 Mr
variable (p121:uD) (f121:oB)
abbrev G5:Ab:=[(true,.pair (.int .u64) (.pair (.int .u64) (.unit))),(true,.pair (.int .u64) (.pair (.int .u64) (.unit)))]
abbrev HN:Ab:=[(false,.int .i64)]
def iQ (a0 a1:Aa (.pair (.int .u64) (.pair (.int .u64) (.unit)))):Option (DenS HN) :=
 bif ((a0.1==a1.1)&&(a0.2.1==a1.2.1)) then (some ((0:Int),()))
 else bif ((decide (a0.1<a1.1))||((a0.1==a1.1)&&(decide (a0.2.1<a1.2.1)))) then (some ((-(1:Int)),()))
 else some ((1:Int),())
theorem aK5 (x:DenS G5):run (cf [] []) 9 117 Tryz.f117 G5 HN x=iQ x.1 x.2.1:=by kernel_rfl
def W5 (x:DenS G5):Option (DenS HN):=iQ x.1 x.2.1
def Dx:Sum:=Al G5 HN W5 (DenS.dflt HN)
theorem aBD:Sound Tryz.prog G1 117 Dx:=sd (cf [] []) 117 Tryz.f117 trivial trivial G5 HN W5 _ (fun _=>aK5 ..)
abbrev SD:=Ak G5
abbrev SN:=Aj G5 HN
variable (p123:SD) (f123:SN)
abbrev M4:Ab:=Sp
abbrev Qd:Ab:=Us
def A5:Sum:=aFW
theorem gB:Sound Tryz.prog G1 166 A5:=aN5 Tryz.func166 (by kernel_rfl) (by kernel_rfl) (by kernel_rfl) (by kernel_rfl)
abbrev Ha:=Ak M4
abbrev GP:=Aj M4 Qd
variable (p157:Ha) (f157:GP)
abbrev JX:Ab:=[(true,.pair (.int .u64) (.pair (.int .u64) (.unit))),(true,.pair (.int .u64) (.pair (.int .u64) (.unit)))]
abbrev KS:Ab:=[(true,.pair (.int .u64) (.pair (.int .u64) (.unit))),(false,.int .u64)]
def j5 (p157:Ha) (f157:GP) (a0 a1:Aa (.pair (.int .u64) (.pair (.int .u64) (.unit)))):Option (DenS KS) :=
 let e2_:=(a0.1,a1.1,(f157 (a0.2.1,a1.2.1,(0:Int),())).2)
 let e1_:=(f157 e2_)
 bif (p157 (a0.2.1,a1.2.1,(0:Int),())) then (bif (p157 e2_) then (some ((e1_.1,(f157 (a0.2.1,a1.2.1,(0:Int),())).1,()),e1_.2))
 else none)
 else none
theorem aS1 (x:DenS JX):run (cf [(166,⟨M4,Qd,p157,f157⟩)] []) 9 118 Tryz.f118 JX KS x=j5 p157 f157 x.1 x.2.1:=by kernel_rfl
def Xi (x:DenS JX):Option (DenS KS):=j5 A5.pre A5.F x.1 x.2.1
def BG:Sum:=Al JX KS Xi (DenS.dflt KS)
theorem aLy:Sound Tryz.prog G1 118 BG:=sd (cf [(166,A5)] []) 118 Tryz.f118 ⟨gB,trivial⟩ trivial JX KS Xi _ (fun _=>aS1 ..)
abbrev qT:=Ak JX
abbrev wV:=Aj JX KS
variable (p124:qT) (f124:wV)
abbrev QU:Ab:=[(true,.pair (.int .i64) (.pair (.int .i64) (.pair (.int .i64) (.pair (.int .i64) (.unit)))))]
abbrev Qs:Ab:=[(false,.int .u64)]
def zV (p91:Hr) (f91:HH) (a0:Aa (.pair (.int .i64) (.pair (.int .i64) (.pair (.int .i64) (.pair (.int .i64) (.unit)))))):Option (DenS Qs) :=
 let e1_:=((IntKind.wrap .i64 (a0.1-a0.2.1)),())
 bif (p91 e1_) then (some (f91 e1_))
 else none
theorem aOz (x:DenS QU):run (cf [(112,⟨EA,EK,p91,f91⟩)] []) 9 103 Tryz.f103 QU Qs x=zV p91 f91 x.1:=by kernel_rfl
def aGO (x:DenS QU):Option (DenS Qs):=zV Br.pre Br.F x.1
def mY:Sum:=Al QU Qs aGO (DenS.dflt Qs)
theorem aJf:Sound Tryz.prog G1 103 mY:=sd (cf [(112,Br)] []) 103 Tryz.f103 ⟨MG,trivial⟩ trivial QU Qs aGO _ (fun _=>aOz ..)
abbrev aGx:=Ak QU
abbrev aAE:=Aj QU Qs
variable (p154:aGx) (f154:aAE)
abbrev E1:Ab:=[(false,.int .i64),(false,.bool)]
abbrev FG:Ab:=[(false,.int .u64),(false,.int .i64)]
def aAm (p154:aGx) (f154:aAE) (p116:kV) (f116:mB) (p69:BP) (f69:BK) (p91:Hr) (f91:HH) (p140:WR) (f140:WW) (a0:Aa (.int .i64)) (a1:Aa (.bool)):Option (DenS FG) :=
 let e2_:=((IntKind.wrap .i64 ((f69 (a0,())).1.1-(f69 (a0,())).1.2.1)),())
 let e1_:=((f69 (a0,())).1,a1,(IntKind.wrap .u64 ((f91 e2_).1-(f154 ((f69 (a0,())).1,())).1)),(f116 ((f69 (a0,())).1,())))
 bif (p69 (a0,())) then (bif ((f69 (a0,())).2.1 != (0:Int)) then (some ((0:Int),(f69 (a0,())).2))
 else bif (p91 e2_) then (bif (p154 ((f69 (a0,())).1,())) then (bif (p116 ((f69 (a0,())).1,())) then (bif (p140 e1_) then (some ((f140 e1_).1,(0:Int),()))
 else none)
 else none)
 else none)
 else none)
 else none
theorem aKe (x:DenS E1):run (cf [(103,⟨QU,Qs,p154,f154⟩),(104,⟨IL,Jk,p116,f116⟩),(54,⟨Ch,Cj,p69,f69⟩),(112,⟨EA,EK,p91,f91⟩),(149,⟨Ic,H7,p140,f140⟩)] []) 9 38 Tryz.f38 E1 FG x=aAm p154 f154 p116 f116 p69 f69 p91 f91 p140 f140 x.1 x.2.1:=by kernel_rfl
def Wl (x:DenS E1):Option (DenS FG):=aAm mY.pre mY.F JJ.pre JJ.F Aq.pre Aq.F Br.pre Br.F Gx.pre Gx.F x.1 x.2.1
def Be:Sum:=Al E1 FG Wl (DenS.dflt FG)
theorem VA:Sound Tryz.prog G1 38 Be:=sd (cf [(103,mY),(104,JJ),(54,Aq),(112,Br),(149,Gx)] []) 38 Tryz.f38 ⟨aJf,o9,Ek,MG,kD,trivial⟩ trivial E1 FG Wl _ (fun _=>aKe ..)
abbrev Ib:=Ak E1
abbrev Id:=Aj E1 FG
variable (p118:Ib) (f118:Id)
abbrev Nv:Ab:=[(false,.int .i64)]
abbrev NH:Ab:=[(false,.int .i64)]
def d0 (a0:Aa (.int .i64)):Option (DenS NH) :=
 bif ((decide (a0<(0:Int)))||(decide (a0>(5:Int)))) then (some ((3:Int),()))
 else some ((0:Int),())
theorem aKv (x:DenS Nv):run (cf [] []) 9 167 Tryz.f167 Nv NH x=d0 x.1:=by kernel_rfl
def Wz (x:DenS Nv):Option (DenS NH):=d0 x.1
def Qr:Sum:=Al Nv NH Wz (DenS.dflt NH)
theorem aSs:Sound Tryz.prog G1 167 Qr:=sd (cf [] []) 167 Tryz.f167 trivial trivial Nv NH Wz _ (fun _=>aKv ..)
abbrev aFM:=Ak Nv
abbrev aHW:=Aj Nv NH
variable (p147:aFM) (f147:aHW)
abbrev Jh:Ab:=[(false,.int .i64),(false,.int .i64)]
abbrev JB:Ab:=[(true,.pair (.int .i64) (.pair (.int .i64) (.pair (.int .i64) (.pair (.int .i64) (.unit))))),(false,.int .i64)]
def iA (p69:BP) (f69:BK) (p147:aFM) (f147:aHW) (a0 a1:Aa (.int .i64)):Option (DenS JB) :=
 bif (p69 (a0,())) then (bif ((f69 (a0,())).2.1 != (0:Int)) then (some (f69 (a0,())))
 else bif (p147 (a1,())) then (some ((f69 (a0,())).1,(f147 (a1,()))))
 else none)
 else none
theorem aL4 (x:DenS Jh):run (cf [(54,⟨Ch,Cj,p69,f69⟩),(167,⟨Nv,NH,p147,f147⟩)] []) 9 121 Tryz.f121 Jh JB x=iA p69 f69 p147 f147 x.1 x.2.1:=by kernel_rfl
def Wv (x:DenS Jh):Option (DenS JB):=iA Aq.pre Aq.F Qr.pre Qr.F x.1 x.2.1
def EN:Sum:=Al Jh JB Wv (DenS.dflt JB)
theorem nM:Sound Tryz.prog G1 121 EN:=sd (cf [(54,Aq),(167,Qr)] []) 121 Tryz.f121 ⟨Ek,aSs,trivial⟩ trivial Jh JB Wv _ (fun _=>aL4 ..)
abbrev Tk:=Ak Jh
abbrev Tb:=Aj Jh JB
variable (p105:Tk) (f105:Tb)
abbrev Bt:Ab:=[(false,.slice (.int .u64))]
abbrev Bs:Ab:=[(false,.slice (.int .u64))]
abbrev H6:Pat:=⟨21,[(0,.one (.sl (.int .u64))),(3,.one (.v .i64))],[]⟩
abbrev iR:List (Nat×Shape):=[]
abbrev LB:List (Nat×Pat):=[(0,⟨21,[(0,.one (.sl (.int .u64))),(3,.one (.v .i64))],[]⟩)]
abbrev M2:Option Pat:=none
variable (w173_2:Pat.D H6→Option (Ah LB M2))
def UN {R:Type} (L:Pat.D H6→Option R) (e:Ah LB M2→Option R) (x:Pat.D H6):Option R :=
 let e1_:=(IntKind.wrap .i64 (x.1.2.1-(1:Int)))
 bif (((decide ((0:Int)≤e1_))&&(decide (e1_<(x.1.1.length:Int))))||(!(decide (x.1.2.1>(0:Int))))) then (bif ((decide (x.1.2.1>(0:Int)))&&((x.1.1.getD (Int.toNat e1_) (0:Int))==(0:Int))) then (((L ((x.1.1,e1_,()),()))))
 else (e (.inl (x.1,()))))
 else none
theorem aKs (d:Nat) (R:Type) (L:Pat.D H6→Option R) (e:Ah LB M2→Option R) (x:Pat.D H6) :
  BA (cf [] [(169,2,LoopSpec.of H6 iR LB M2 w173_2)]) (d+2) 169 (By Tryz.f169 2) H6 iR LB M2 (R:=R) L e x=UN L e x:=by kernel_rfl
theorem xI:Bu fun L e x=>UN L e x:=by intro _ _ _ _ _ _ _ h0 hL he _; unfold UN; repeat' (first | exact h0 | exact hL _ | exact he _ | apply BR | (apply BW h0; intro _) | (apply B9 <;> intro _))
def fN (w173_2:Pat.D H6→Option (Ah LB M2)) (a0:Aa (.slice (.int .u64))):Option (DenS Bs) :=
 Vx.AZ (w173_2 ((a0,(a0.length:Int),()),())) fun y0 =>
 Vx.A2 y0 (fun y1 =>
 bif ((decide ((0:Int)≤y1.1.2.1))&&(decide (y1.1.2.1≤(y1.1.1.length:Int)))) then (some (((y1.1.1.take (Int.toNat y1.1.2.1)).drop (Int.toNat (0:Int))),()))
 else none) (fun z1 =>
 none)
theorem aUL (x:DenS Bt):run (cf [] [(169,2,LoopSpec.of H6 iR LB M2 w173_2)]) 9 169 Tryz.f169 Bt Bs x=fN w173_2 x.1:=by kernel_rfl
def cJ:H6.D→Option (Ah LB M2):=Bf fun L=>UN L some
def SP (x:DenS Bt):Option (DenS Bs):=fN cJ x.1
def Af:Sum:=Al Bt Bs SP (DenS.dflt Bs)
theorem DV:Sound Tryz.prog G1 169 Af:=sd (cf [] [(169,2,LoopSpec.of H6 iR LB M2 cJ)]) 169 Tryz.f169 trivial ⟨rfl,fun d=>B3 (fun L e x=>UN L e x) (xI) (fun _ _ _ _=>aKs ..),trivial⟩ Bt Bs SP _ (fun _=>aUL ..)
abbrev A4:=Ak Bt
abbrev A1:=Aj Bt Bs
variable (p173:A4) (f173:A1)
abbrev Hm:Ab:=[(false,.slice (.int .u64))]
abbrev Iv:Ab:=[(false,.slice (.int .u64))]
def bL (p173:A4) (f173:A1) (a0:Aa (.slice (.int .u64))):Option (DenS Iv) :=
 let e1_:=(List.replicate (Int.toNat ((f173 (a0,())).1.length:Int)) (0:Int))
 bif (p173 (a0,())) then (bif ((decide ((0:Int)≤((f173 (a0,())).1.length:Int)))&&(decide ((((f173 (a0,())).1.length:Int)*(8:Int))≤(140737488355328:Int)))) then (some ((((f173 (a0,())).1.take e1_.length)++(e1_.drop (f173 (a0,())).1.length)),()))
 else none)
 else none
theorem aJK (x:DenS Hm):run (cf [(169,⟨Bt,Bs,p173,f173⟩)] []) 9 168 Tryz.f168 Hm Iv x=bL p173 f173 x.1:=by kernel_rfl
def ZI (x:DenS Hm):Option (DenS Iv):=bL Af.pre Af.F x.1
def CQ:Sum:=Al Hm Iv ZI (DenS.dflt Iv)
theorem vX:Sound Tryz.prog G1 168 CQ:=sd (cf [(169,Af)] []) 168 Tryz.f168 ⟨DV,trivial⟩ trivial Hm Iv ZI _ (fun _=>aJK ..)
abbrev RW:=Ak Hm
abbrev RZ:=Aj Hm Iv
variable (p146:RW) (f146:RZ)
abbrev FD:Ab:=[(false,.slice (.int .u64))]
abbrev E8:Ab:=[(false,.slice (.int .u64))]
def mQ (p146:RW) (f146:RZ) (a0:Aa (.slice (.int .u64))):Option (DenS E8) :=
 bif (p146 (a0,())) then (some (f146 (a0,())))
 else none
theorem aPn (x:DenS FD):run (cf [(168,⟨Hm,Iv,p146,f146⟩)] []) 9 122 Tryz.f122 FD E8 x=mQ p146 f146 x.1:=by kernel_rfl
def RD (x:DenS FD):Option (DenS E8):=mQ CQ.pre CQ.F x.1
def Bh:Sum:=Al FD E8 RD (DenS.dflt E8)
theorem X2:Sound Tryz.prog G1 122 Bh:=sd (cf [(168,CQ)] []) 122 Tryz.f122 ⟨vX,trivial⟩ trivial FD E8 RD _ (fun _=>aPn ..)
abbrev GT:=Ak FD
abbrev Hf:=Aj FD E8
variable (p102:GT) (f102:Hf)
abbrev Gi:Ab:=[(false,.int .u64)]
abbrev Fx:Ab:=[(false,.int .i64)]
def Z9 (a0:Aa (.int .u64)):Option (DenS Fx) :=
 let e10_:=(AH .u64 (AH .u64 a0 (32:Int)) (16:Int))
 let e1_:=(IntKind.wrap .u8 (AH .u64 e10_ (8:Int)))
 let e2_:=(IntKind.wrap .u8 e10_)
 let e3_:=(IntKind.wrap .u8 (AH .u64 (AH .u64 a0 (32:Int)) (8:Int)))
 let e4_:=(IntKind.wrap .u8 (AH .u64 (AH .u64 a0 (16:Int)) (8:Int)))
 let e5_:=(IntKind.wrap .u8 (AH .u64 a0 (32:Int)))
 let e6_:=(IntKind.wrap .u8 (AH .u64 a0 (16:Int)))
 let e7_:=(IntKind.wrap .u8 (AH .u64 a0 (8:Int)))
 let e8_:=(IntKind.wrap .i64 ((32:Int)+(16:Int)))
 let e9_:=(IntKind.wrap .i64 ((0:Int)+(16:Int)))
 bif (decide (a0≥(4294967296:Int))) then (bif (decide ((AH .u64 a0 (32:Int))≥(65536:Int))) then (bif (decide (e10_≥(256:Int))) then (bif ((decide ((0:Int)≤e1_))&&(decide (e1_<(256:Int)))) then (some ((IntKind.wrap .i64 ((IntKind.wrap .i64 (e8_+(8:Int)))+(IntKind.wrap .i64 ((UInt8.toNat (Vx.Ih.getD (Int.toNat e1_) (0:UInt8))):Int)))),()))
 else none)
 else bif ((decide ((0:Int)≤e2_))&&(decide (e2_<(256:Int)))) then (some ((IntKind.wrap .i64 (e8_+(IntKind.wrap .i64 ((UInt8.toNat (Vx.Ih.getD (Int.toNat e2_) (0:UInt8))):Int)))),()))
 else none)
 else bif (decide ((AH .u64 a0 (32:Int))≥(256:Int))) then (bif ((decide ((0:Int)≤e3_))&&(decide (e3_<(256:Int)))) then (some ((IntKind.wrap .i64 ((IntKind.wrap .i64 ((32:Int)+(8:Int)))+(IntKind.wrap .i64 ((UInt8.toNat (Vx.Ih.getD (Int.toNat e3_) (0:UInt8))):Int)))),()))
 else none)
 else bif ((decide ((0:Int)≤e5_))&&(decide (e5_<(256:Int)))) then (some ((IntKind.wrap .i64 ((32:Int)+(IntKind.wrap .i64 ((UInt8.toNat (Vx.Ih.getD (Int.toNat e5_) (0:UInt8))):Int)))),()))
 else none)
 else bif (decide (a0≥(65536:Int))) then (bif (decide ((AH .u64 a0 (16:Int))≥(256:Int))) then (bif ((decide ((0:Int)≤e4_))&&(decide (e4_<(256:Int)))) then (some ((IntKind.wrap .i64 ((IntKind.wrap .i64 (e9_+(8:Int)))+(IntKind.wrap .i64 ((UInt8.toNat (Vx.Ih.getD (Int.toNat e4_) (0:UInt8))):Int)))),()))
 else none)
 else bif ((decide ((0:Int)≤e6_))&&(decide (e6_<(256:Int)))) then (some ((IntKind.wrap .i64 (e9_+(IntKind.wrap .i64 ((UInt8.toNat (Vx.Ih.getD (Int.toNat e6_) (0:UInt8))):Int)))),()))
 else none)
 else bif (decide (a0≥(256:Int))) then (bif ((decide ((0:Int)≤e7_))&&(decide (e7_<(256:Int)))) then (some ((IntKind.wrap .i64 ((IntKind.wrap .i64 ((0:Int)+(8:Int)))+(IntKind.wrap .i64 ((UInt8.toNat (Vx.Ih.getD (Int.toNat e7_) (0:UInt8))):Int)))),()))
 else none)
 else bif ((decide ((0:Int)≤(IntKind.wrap .u8 a0)))&&(decide ((IntKind.wrap .u8 a0)<(256:Int)))) then (some ((IntKind.wrap .i64 ((0:Int)+(IntKind.wrap .i64 ((UInt8.toNat (Vx.Ih.getD (Int.toNat (IntKind.wrap .u8 a0)) (0:UInt8))):Int)))),()))
 else none
theorem aMd (x:DenS Gi):run (cf [] []) 9 83 Tryz.f83 Gi Fx x=Z9 x.1:=by kernel_rfl
def XN (x:DenS Gi):Option (DenS Fx):=Z9 x.1
def Bw:Sum:=Al Gi Fx XN (DenS.dflt Fx)
theorem YN:Sound Tryz.prog G1 83 Bw:=sd (cf [] []) 83 Tryz.f83 trivial trivial Gi Fx XN _ (fun _=>aMd ..)
abbrev Ii:=Ak Gi
abbrev H5:=Aj Gi Fx
variable (p178:Ii) (f178:H5)
abbrev Gd:Ab:=[(false,.slice (.int .u64))]
abbrev Gp:Ab:=[(false,.int .i64)]
def eE (p173:A4) (f173:A1) (p178:Ii) (f178:H5) (a0:Aa (.slice (.int .u64))):Option (DenS Gp) :=
 let e3_:=(IntKind.wrap .i64 (((f173 (a0,())).1.length:Int)-(1:Int)))
 let e1_:=(((f173 (a0,())).1.getD (Int.toNat e3_) (0:Int)),())
 let e2_:=e3_
 bif (p173 (a0,())) then (bif (((f173 (a0,())).1.length:Int)==(0:Int)) then (some ((0:Int),()))
 else bif ((decide ((0:Int)≤e2_))&&(decide (e2_<((f173 (a0,())).1.length:Int)))) then (bif (p178 e1_) then (some ((IntKind.wrap .i64 ((IntKind.wrap .i64 ((64:Int)*e2_))+(f178 e1_).1)),()))
 else none)
 else none)
 else none
theorem aPi (x:DenS Gd):run (cf [(169,⟨Bt,Bs,p173,f173⟩),(83,⟨Gi,Fx,p178,f178⟩)] []) 9 123 Tryz.f123 Gd Gp x=eE p173 f173 p178 f178 x.1:=by kernel_rfl
def Vp (x:DenS Gd):Option (DenS Gp):=eE Af.pre Af.F Bw.pre Bw.F x.1
def Ce:Sum:=Al Gd Gp Vp (DenS.dflt Gp)
theorem XX:Sound Tryz.prog G1 123 Ce:=sd (cf [(169,Af),(83,Bw)] []) 123 Tryz.f123 ⟨DV,YN,trivial⟩ trivial Gd Gp Vp _ (fun _=>aPi ..)
abbrev KW:=Ak Gd
abbrev Mp:=Aj Gd Gp
variable (p151:KW) (f151:Mp)
abbrev Mj:Ab:=[(false,.int .i64),(false,.bool)]
abbrev LJ:Ab:=[(false,.int .u64),(false,.int .i64),(false,.int .i64)]
def f9 (p118:Ib) (f118:Id) (a0:Aa (.int .i64)) (a1:Aa (.bool)):Option (DenS LJ) :=
 bif (p118 (a0,a1,())) then (some ((f118 (a0,a1,())).1,(0:Int),(f118 (a0,a1,())).2))
 else none
theorem aKn (x:DenS Mj):run (cf [(38,⟨E1,FG,p118,f118⟩)] []) 9 124 Tryz.f124 Mj LJ x=f9 p118 f118 x.1 x.2.1:=by kernel_rfl
def Wo (x:DenS Mj):Option (DenS LJ):=f9 Be.pre Be.F x.1 x.2.1
def In:Sum:=Al Mj LJ Wo (DenS.dflt LJ)
theorem aEp:Sound Tryz.prog G1 124 In:=sd (cf [(38,Be)] []) 124 Tryz.f124 ⟨VA,trivial⟩ trivial Mj LJ Wo _ (fun _=>aKn ..)
abbrev lR:=Ak Mj
abbrev aH:=Aj Mj LJ
variable (p156:lR) (f156:aH)
abbrev Py:Ab:=[(true,.pair (.bool) (.pair (.slice (.int .u64)) (.pair (.int .i64) (.pair (.bool) (.unit)))))]
abbrev OP:Ab:=[(false,.int .i64)]
def cD (p151:KW) (f151:Mp) (a0:Aa (.pair (.bool) (.pair (.slice (.int .u64)) (.pair (.int .i64) (.pair (.bool) (.unit)))))):Option (DenS OP) :=
 bif (p151 (a0.2.1,())) then (some ((IntKind.wrap .i64 ((IntKind.wrap .i64 (a0.2.2.1+(f151 (a0.2.1,())).1))-(1:Int))),()))
 else none
theorem aTI (x:DenS Py):run (cf [(123,⟨Gd,Gp,p151,f151⟩)] []) 9 170 Tryz.f170 Py OP x=cD p151 f151 x.1:=by kernel_rfl
def WD (x:DenS Py):Option (DenS OP):=cD Ce.pre Ce.F x.1
def Vz:Sum:=Al Py OP WD (DenS.dflt OP)
theorem aLZ:Sound Tryz.prog G1 170 Vz:=sd (cf [(123,Ce)] []) 170 Tryz.f170 ⟨XX,trivial⟩ trivial Py OP WD _ (fun _=>aTI ..)
abbrev aHj:=Ak Py
abbrev aDX:=Aj Py OP
variable (p148:aHj) (f148:aDX)
abbrev Iu:Ab:=[(true,.slice (.int .u64))]
abbrev Ir:Ab:=[(true,.slice (.int .u64))]
abbrev HZ:Pat:=⟨21,[(0,.one (.own 0)),(3,.one (.v .i64))],[.arr (.int .u64)]⟩
abbrev eZ:List (Nat×Shape):=[]
abbrev L6:List (Nat×Pat):=[(0,⟨21,[(0,.one (.own 0)),(3,.one (.v .i64))],[.arr (.int .u64)]⟩)]
abbrev Lr:Option Pat:=none
variable (w1173_2:Pat.D HZ→Option (Ah L6 Lr))
def Tq {R:Type} (L:Pat.D HZ→Option R) (e:Ah L6 Lr→Option R) (x:Pat.D HZ):Option R :=
 let e1_:=(IntKind.wrap .i64 (x.1.2.1-(1:Int)))
 bif (((decide ((0:Int)≤e1_))&&(decide (e1_<(x.2.1.length:Int))))||(!(decide (x.1.2.1>(0:Int))))) then (bif ((decide (x.1.2.1>(0:Int)))&&((x.2.1.getD (Int.toNat e1_) (0:Int))==(0:Int))) then (((L (((),e1_,()),x.2))))
 else (e (.inl (((),x.1.2),x.2))))
 else none
theorem aNO (d:Nat) (R:Type) (L:Pat.D HZ→Option R) (e:Ah L6 Lr→Option R) (x:Pat.D HZ) :
  BA ({ cf [] [(169,2,LoopSpec.of HZ eZ L6 Lr w1173_2)] with keep:=true }) (d+2) 169 (By Tryz.f169 2) HZ eZ L6 Lr (R:=R) L e x=Tq L e x:=by kernel_rfl
theorem aAc:Bu fun L e x=>Tq L e x:=by intro _ _ _ _ _ _ _ h0 hL he _; unfold Tq; repeat' (first | exact h0 | exact hL _ | exact he _ | apply BR | (apply BW h0; intro _) | (apply B9 <;> intro _))
def kA (w1173_2:Pat.D HZ→Option (Ah L6 Lr)) (a0:Aa (.slice (.int .u64))):Option (DenS Ir) :=
 Vx.AZ (w1173_2 (((),(a0.length:Int),()),a0,())) fun y0 =>
 Vx.A2 y0 (fun y1 =>
 bif ((decide ((0:Int)≤y1.1.2.1))&&(decide (y1.1.2.1≤(y1.2.1.length:Int)))) then (some ((y1.2.1.take (Int.toNat y1.1.2.1)),()))
 else none) (fun z1 =>
 none)
theorem aTf (x:DenS Iu):run ({ cf [] [(169,2,LoopSpec.of HZ eZ L6 Lr w1173_2)] with keep:=true }) 9 169 Tryz.f169 Iu Ir x=kA w1173_2 x.1:=by kernel_rfl
def lH:HZ.D→Option (Ah L6 Lr):=Bf fun L=>Tq L some
def Xj (x:DenS Iu):Option (DenS Ir):=kA lH x.1
def Cc:Sum:=Al Iu Ir Xj (DenS.dflt Ir)
theorem aFA:Sound Tryz.prog G1 169 Cc:=sd ({ cf [] [(169,2,LoopSpec.of HZ eZ L6 Lr lH)] with keep:=true }) 169 Tryz.f169 trivial ⟨rfl,fun d=>B3 (fun L e x=>Tq L e x) (aAc) (fun _ _ _ _=>aNO ..),trivial⟩ Iu Ir Xj _ (fun _=>aTf ..)
abbrev Pt:=Ak Iu
abbrev PD:=Aj Iu Ir
variable (p1173:Pt) (f1173:PD)
abbrev OJ:Ab:=[(false,.slice (.int .u64)),(false,.int .i64)]
abbrev OU:Ab:=[(true,.slice (.int .u64))]
abbrev HT:Pat:=⟨66,[(25,.one (.v .i64)),(0,.one (.sl (.int .u64))),(5,.one (.v .i64)),(6,.one (.v .i64)),(26,.one (.v .i64)),(7,.one (.own 0))],[.arr (.int .u64)]⟩
abbrev lQ:List (Nat×Shape):=[]
abbrev M5:List (Nat×Pat):=[(0,⟨66,[(7,.one (.own 0))],[.arr (.int .u64)]⟩)]
abbrev Lw:Option Pat:=none
variable (w1171_7:Pat.D HT→Option (Ah M5 Lw))
def TS (p1173:Pt) (f1173:PD) (p173:A4) (f173:A1) {R:Type} (L:Pat.D HT→Option R) (e:Ah M5 Lw→Option R) (x:Pat.D HT):Option R :=
 let e10_:=(IntKind.wrap .i64 (x.1.2.2.1+x.1.2.2.2.2.1))
 let e8_:=(x.2.1.set (Int.toNat x.1.2.2.2.2.1) (AH .u64 (x.1.2.1.getD (Int.toNat e10_) (0:Int)) x.1.2.2.2.1))
 let e1_:=((decide ((0:Int)≤x.1.2.2.2.2.1))&&(decide (x.1.2.2.2.2.1<(e8_.length:Int))))
 let e2_:=e8_
 let e9_:=(IntKind.wrap .i64 (e10_+(1:Int)))
 let e3_:=(decide (e9_<(x.1.2.1.length:Int)))
 let e4_:=(x.1.1,x.1.2.1,x.1.2.2.1,x.1.2.2.2.1,(IntKind.wrap .i64 (x.1.2.2.2.2.1+(1:Int))),(),())
 let e5_:=e9_
 let e6_:=e10_
 let e7_:=(IntKind.wrap .i64 ((64:Int)-x.1.2.2.2.1))
 bif (decide (x.1.2.2.2.2.1<x.1.1)) then (bif ((decide ((0:Int)≤e6_))&&(decide (e6_<(x.1.2.1.length:Int)))) then (bif (decide ((0:Int)≤x.1.2.2.2.1)) then (bif ((decide ((0:Int)≤x.1.2.2.2.2.1))&&(decide (x.1.2.2.2.2.1<(x.2.1.length:Int)))) then (bif e3_ then (bif e1_ then (bif ((decide ((0:Int)≤e5_))&&e3_) then (bif (decide ((0:Int)≤e7_)) then (bif e1_ then (((L (e4_,(e2_.set (Int.toNat x.1.2.2.2.2.1) (A9 .u64 (e2_.getD (Int.toNat x.1.2.2.2.2.1) (0:Int)) (AQ .u64 (x.1.2.1.getD (Int.toNat e5_) (0:Int)) e7_))),()))))
 else none)
 else none)
 else none)
 else none)
 else (L (e4_,e2_,())))
 else none)
 else none)
 else none)
 else (e (.inl (((),()),x.2)))
theorem aRe (d:Nat) (R:Type) (L:Pat.D HT→Option R) (e:Ah M5 Lw→Option R) (x:Pat.D HT) :
  BA ({ cf [(169,⟨Iu,Ir,p1173,f1173⟩),(169,⟨Bt,Bs,p173,f173⟩)] [(301,7,LoopSpec.of HT lQ M5 Lw w1171_7)] with keep:=true }) (d+2) 301 (By Tryz.f301 7) HT lQ M5 Lw (R:=R) L e x=TS p1173 f1173 p173 f173 L e x:=by kernel_rfl
theorem xL (p1173:Pt) (f1173:PD) (p173:A4) (f173:A1):Bu fun L e x=>TS p1173 f1173 p173 f173 L e x:=by intro _ _ _ _ _ _ _ h0 hL he _; unfold TS; repeat' (first | exact h0 | exact hL _ | exact he _ | apply BR | (apply BW h0; intro _) | (apply B9 <;> intro _))
def fH (p1173:Pt) (f1173:PD) (p173:A4) (f173:A1) (w1171_7:Pat.D HT→Option (Ah M5 Lw)) (a0:Aa (.slice (.int .u64))) (a1:Aa (.int .i64)):Option (DenS OU) :=
 let e3_:=(IntKind.wrap .i64 (((f173 (a0,())).1.length:Int)-(BB .i64 a1 (64:Int))))
 let e1_:=(List.replicate (Int.toNat e3_) (0:Int))
 let e2_:=e3_
 bif (p173 (a0,())) then (bif (decide ((BB .i64 a1 (64:Int))≥((f173 (a0,())).1.length:Int))) then (some ([],()))
 else bif ((decide ((0:Int)≤e2_))&&(decide ((e2_*(8:Int))≤(140737488355328:Int)))) then (Vx.AZ (w1171_7 (((e1_.length:Int),(f173 (a0,())).1,(BB .i64 a1 (64:Int)),(Int.tmod a1 (64:Int)),(0:Int),(),()),e1_,())) fun y3 =>
 Vx.A2 y3 (fun y4 =>
 bif (p1173 y4.2) then (some (f1173 y4.2))
 else none) (fun z4 =>
 none))
 else none)
 else none
theorem aIL (x:DenS OJ):run ({ cf [(169,⟨Iu,Ir,p1173,f1173⟩),(169,⟨Bt,Bs,p173,f173⟩)] [(301,7,LoopSpec.of HT lQ M5 Lw w1171_7)] with keep:=true }) 9 301 Tryz.f301 OJ OU x=fH p1173 f1173 p173 f173 w1171_7 x.1 x.2.1:=by kernel_rfl
def lI:HT.D→Option (Ah M5 Lw):=Bf fun L=>TS Cc.pre Cc.F Af.pre Af.F L some
def WO (x:DenS OJ):Option (DenS OU):=fH Cc.pre Cc.F Af.pre Af.F lI x.1 x.2.1
def Na:Sum:=Al OJ OU WO (DenS.dflt OU)
theorem aTD:Sound Tryz.prog G1 301 Na:=sd ({ cf [(169,Cc),(169,Af)] [(301,7,LoopSpec.of HT lQ M5 Lw lI)] with keep:=true }) 301 Tryz.f301 ⟨aFA,DV,trivial⟩ ⟨rfl,fun d=>B3 (fun L e x=>TS Cc.pre Cc.F Af.pre Af.F L e x) (xL Cc.pre Cc.F Af.pre Af.F) (fun _ _ _ _=>aRe ..),trivial⟩ OJ OU WO _ (fun _=>aIL ..)
abbrev aFh:=Ak OJ
abbrev yT:=Aj OJ OU
variable (p1171:aFh) (f1171:yT)
abbrev Hx:Ab:=[(false,.slice (.int .u64)),(false,.int .i64)]
abbrev Is:Ab:=[(false,.slice (.int .u64))]
abbrev H4:Pat:=⟨66,[(25,.one (.v .i64)),(0,.one (.sl (.int .u64))),(5,.one (.v .i64)),(6,.one (.v .i64)),(26,.one (.v .i64)),(7,.one (.own 0))],[.arr (.int .u64)]⟩
abbrev kP:List (Nat×Shape):=[]
abbrev Mn:List (Nat×Pat):=[(0,⟨66,[(7,.one (.own 0))],[.arr (.int .u64)]⟩)]
abbrev Mf:Option Pat:=none
variable (w171_7:Pat.D H4→Option (Ah Mn Mf))
def Ui (p173:A4) (f173:A1) {R:Type} (L:Pat.D H4→Option R) (e:Ah Mn Mf→Option R) (x:Pat.D H4):Option R :=
 let e10_:=(IntKind.wrap .i64 (x.1.2.2.1+x.1.2.2.2.2.1))
 let e8_:=(x.2.1.set (Int.toNat x.1.2.2.2.2.1) (AH .u64 (x.1.2.1.getD (Int.toNat e10_) (0:Int)) x.1.2.2.2.1))
 let e1_:=((decide ((0:Int)≤x.1.2.2.2.2.1))&&(decide (x.1.2.2.2.2.1<(e8_.length:Int))))
 let e2_:=e8_
 let e9_:=(IntKind.wrap .i64 (e10_+(1:Int)))
 let e3_:=(decide (e9_<(x.1.2.1.length:Int)))
 let e4_:=(x.1.1,x.1.2.1,x.1.2.2.1,x.1.2.2.2.1,(IntKind.wrap .i64 (x.1.2.2.2.2.1+(1:Int))),(),())
 let e5_:=e9_
 let e6_:=e10_
 let e7_:=(IntKind.wrap .i64 ((64:Int)-x.1.2.2.2.1))
 bif (decide (x.1.2.2.2.2.1<x.1.1)) then (bif ((decide ((0:Int)≤e6_))&&(decide (e6_<(x.1.2.1.length:Int)))) then (bif (decide ((0:Int)≤x.1.2.2.2.1)) then (bif ((decide ((0:Int)≤x.1.2.2.2.2.1))&&(decide (x.1.2.2.2.2.1<(x.2.1.length:Int)))) then (bif e3_ then (bif e1_ then (bif ((decide ((0:Int)≤e5_))&&e3_) then (bif (decide ((0:Int)≤e7_)) then (bif e1_ then (((L (e4_,(e2_.set (Int.toNat x.1.2.2.2.2.1) (A9 .u64 (e2_.getD (Int.toNat x.1.2.2.2.2.1) (0:Int)) (AQ .u64 (x.1.2.1.getD (Int.toNat e5_) (0:Int)) e7_))),()))))
 else none)
 else none)
 else none)
 else none)
 else (L (e4_,e2_,())))
 else none)
 else none)
 else none)
 else (e (.inl (((),()),x.2)))
theorem aOv (d:Nat) (R:Type) (L:Pat.D H4→Option R) (e:Ah Mn Mf→Option R) (x:Pat.D H4) :
  BA (cf [(169,⟨Bt,Bs,p173,f173⟩)] [(301,7,LoopSpec.of H4 kP Mn Mf w171_7)]) (d+2) 301 (By Tryz.f301 7) H4 kP Mn Mf (R:=R) L e x=Ui p173 f173 L e x:=by kernel_rfl
theorem yM (p173:A4) (f173:A1):Bu fun L e x=>Ui p173 f173 L e x:=by intro _ _ _ _ _ _ _ h0 hL he _; unfold Ui; repeat' (first | exact h0 | exact hL _ | exact he _ | apply BR | (apply BW h0; intro _) | (apply B9 <;> intro _))
def jG (p173:A4) (f173:A1) (w171_7:Pat.D H4→Option (Ah Mn Mf)) (a0:Aa (.slice (.int .u64))) (a1:Aa (.int .i64)):Option (DenS Is) :=
 let e3_:=(IntKind.wrap .i64 (((f173 (a0,())).1.length:Int)-(BB .i64 a1 (64:Int))))
 let e1_:=(List.replicate (Int.toNat e3_) (0:Int))
 let e2_:=e3_
 bif (p173 (a0,())) then (bif (decide ((BB .i64 a1 (64:Int))≥((f173 (a0,())).1.length:Int))) then (some ([],()))
 else bif ((decide ((0:Int)≤e2_))&&(decide ((e2_*(8:Int))≤(140737488355328:Int)))) then (Vx.AZ (w171_7 (((e1_.length:Int),(f173 (a0,())).1,(BB .i64 a1 (64:Int)),(Int.tmod a1 (64:Int)),(0:Int),(),()),e1_,())) fun y3 =>
 Vx.A2 y3 (fun y4 =>
 bif (p173 y4.2) then (some (f173 y4.2))
 else none) (fun z4 =>
 none))
 else none)
 else none
theorem aNH (x:DenS Hx):run (cf [(169,⟨Bt,Bs,p173,f173⟩)] [(301,7,LoopSpec.of H4 kP Mn Mf w171_7)]) 9 301 Tryz.f301 Hx Is x=jG p173 f173 w171_7 x.1 x.2.1:=by kernel_rfl
def eN:H4.D→Option (Ah Mn Mf):=Bf fun L=>Ui Af.pre Af.F L some
def TW (x:DenS Hx):Option (DenS Is):=jG Af.pre Af.F eN x.1 x.2.1
def CP:Sum:=Al Hx Is TW (DenS.dflt Is)
theorem uP:Sound Tryz.prog G1 301 CP:=sd (cf [(169,Af)] [(301,7,LoopSpec.of H4 kP Mn Mf eN)]) 301 Tryz.f301 ⟨DV,trivial⟩ ⟨rfl,fun d=>B3 (fun L e x=>Ui Af.pre Af.F L e x) (yM Af.pre Af.F) (fun _ _ _ _=>aOv ..),trivial⟩ Hx Is TW _ (fun _=>aNH ..)
abbrev RV:=Ak Hx
abbrev Sx:=Aj Hx Is
variable (p171:RV) (f171:Sx)
abbrev Gz:Ab:=[(false,.int .u64)]
abbrev Hc:Ab:=[(false,.int .i64)]
def bW (a0:Aa (.int .u64)):Option (DenS Hc) :=
 let e1_:=(AH .u64 (IntKind.wrap .u64 ((A8 .u64 a0 (IntKind.wrap .u64 ((0:Int)-a0)))*(285870213051353865:Int))) (58:Int))
 bif (a0==(0:Int)) then (some ((64:Int),()))
 else bif (Vx.v3 ((decide ((0:Int)≤e1_))&&(decide (e1_<((64:Nat):Int))))) then (some ((IntKind.wrap .i64 (Vx.k_deb.getD (Int.toNat e1_) (0:Int))),()))
 else none
theorem r92 (x:DenS Gz):run (cf [] []) 9 127 Tryz.f127 Gz Hc x=bW x.1:=by kernel_rfl
def Wp (x:DenS Gz):Option (DenS Hc):=bW x.1
def BI:Sum:=Al Gz Hc Wp (DenS.dflt Hc)
theorem sJ:Sound Tryz.prog G1 127 BI:=sd (cf [] []) 127 Tryz.f127 trivial trivial Gz Hc Wp _ (fun _=>r92 ..)
abbrev JT:=Ak Gz
abbrev Ji:=Aj Gz Hc
variable (p92:JT) (f92:Ji)
abbrev Pu:Ab:=[(false,.slice (.int .u64)),(false,.int .i64)]
abbrev PH:Ab:=[(false,.bool)]
abbrev H9:Pat:=⟨25,[(9,.one (.v .i64)),(8,.one (.sl (.int .u64))),(1,.one (.v .i64)),(10,.one (.v .i64))],[]⟩
abbrev mZ:List (Nat×Shape):=[]
abbrev KL:List (Nat×Pat):=[(0,⟨25,[],[]⟩)]
abbrev Lq:Option Pat:=(some ⟨25,[(4,.one (.bool))],[]⟩)
variable (w184_2:Pat.D H9→Option (Ah KL Lq))
def Tl (p173:A4) (f173:A1) (p92:JT) (f92:Ji) {R:Type} (L:Pat.D H9→Option R) (e:Ah KL Lq→Option R) (x:Pat.D H9):Option R :=
 let e2_:=(x.1.2.1.getD (Int.toNat x.1.2.2.2.1) (0:Int))
 let e1_:=(e2_,())
 bif (decide (x.1.2.2.2.1<x.1.1)) then (bif ((decide ((0:Int)≤x.1.2.2.2.1))&&(decide (x.1.2.2.2.1<(x.1.2.1.length:Int)))) then (bif (e2_ != (0:Int)) then (bif (p92 e1_) then (((e (.inr (((decide ((IntKind.wrap .i64 ((IntKind.wrap .i64 ((64:Int)*x.1.2.2.2.1))+(f92 e1_).1))≥x.1.2.2.1)),()),())))))
 else none)
 else (L ((x.1.1,x.1.2.1,x.1.2.2.1,(IntKind.wrap .i64 (x.1.2.2.2.1+(1:Int))),()),())))
 else none)
 else (e (.inl ((),())))
theorem aM7 (d:Nat) (R:Type) (L:Pat.D H9→Option R) (e:Ah KL Lq→Option R) (x:Pat.D H9) :
  BA (cf [(169,⟨Bt,Bs,p173,f173⟩),(127,⟨Gz,Hc,p92,f92⟩)] [(302,2,LoopSpec.of H9 mZ KL Lq w184_2)]) (d+2) 302 (By Tryz.f302 2) H9 mZ KL Lq (R:=R) L e x=Tl p173 f173 p92 f92 L e x:=by kernel_rfl
theorem yU (p173:A4) (f173:A1) (p92:JT) (f92:Ji):Bu fun L e x=>Tl p173 f173 p92 f92 L e x:=by intro _ _ _ _ _ _ _ h0 hL he _; unfold Tl; repeat' (first | exact h0 | exact hL _ | exact he _ | apply BR | (apply BW h0; intro _) | (apply B9 <;> intro _))
def dQ (p173:A4) (f173:A1) (p92:JT) (f92:Ji) (w184_2:Pat.D H9→Option (Ah KL Lq)) (a0:Aa (.slice (.int .u64))) (a1:Aa (.int .i64)):Option (DenS PH) :=
 bif (p173 (a0,())) then (Vx.AZ (w184_2 ((((f173 (a0,())).1.length:Int),(f173 (a0,())).1,a1,(0:Int),()),())) fun y1 =>
 Vx.A2 y1 (fun y2 =>
 some (true,())) (fun z2 =>
 some z2.1))
 else none
theorem aOl (x:DenS Pu):run (cf [(169,⟨Bt,Bs,p173,f173⟩),(127,⟨Gz,Hc,p92,f92⟩)] [(302,2,LoopSpec.of H9 mZ KL Lq w184_2)]) 9 302 Tryz.f302 Pu PH x=dQ p173 f173 p92 f92 w184_2 x.1 x.2.1:=by kernel_rfl
def cX:H9.D→Option (Ah KL Lq):=Bf fun L=>Tl Af.pre Af.F BI.pre BI.F L some
def YV (x:DenS Pu):Option (DenS PH):=dQ Af.pre Af.F BI.pre BI.F cX x.1 x.2.1
def Ow:Sum:=Al Pu PH YV (DenS.dflt PH)
theorem aKC:Sound Tryz.prog G1 302 Ow:=sd (cf [(169,Af),(127,BI)] [(302,2,LoopSpec.of H9 mZ KL Lq cX)]) 302 Tryz.f302 ⟨DV,sJ,trivial⟩ ⟨rfl,fun d=>B3 (fun L e x=>Tl Af.pre Af.F BI.pre BI.F L e x) (yU Af.pre Af.F BI.pre BI.F) (fun _ _ _ _=>aM7 ..),trivial⟩ Pu PH YV _ (fun _=>aOl ..)
abbrev aFD:=Ak Pu
abbrev aE3:=Aj Pu PH
variable (p184:aFD) (f184:aE3)
abbrev P3:Ab:=[(false,.slice (.int .u64)),(false,.int .i64)]
abbrev OX:Ab:=[(false,.slice (.int .u64)),(false,.int .i64)]
def cT (p1171:aFh) (f1171:yT) (p171:RV) (f171:Sx) (p184:aFD) (f184:aE3) (a0:Aa (.slice (.int .u64))) (a1:Aa (.int .i64)):Option (DenS OX) :=
 let e1_:=(decide ((0:Int)<((f1171 (a0,a1,())).1.length:Int)))
 bif (decide (a1<(0:Int))) then (some ([],(7:Int),()))
 else bif (p1171 (a0,a1,())) then (bif (p184 (a0,a1,())) then (bif (!(f184 (a0,a1,())).1) then (bif (((f1171 (a0,a1,())).1.length:Int)==(0:Int)) then (some (((1:Int)::[]),(0:Int),()))
 else bif e1_ then (bif e1_ then (some (((f1171 (a0,a1,())).1.set (Int.toNat (0:Int)) (A9 .u64 ((f1171 (a0,a1,())).1.getD (Int.toNat (0:Int)) (0:Int)) (1:Int))),(0:Int),()))
 else none)
 else none)
 else some ((f1171 (a0,a1,())).1,(0:Int),()))
 else none)
 else none
theorem aKj (x:DenS P3):run (cf [(301,⟨OJ,OU,p1171,f1171⟩),(301,⟨Hx,Is,p171,f171⟩),(302,⟨Pu,PH,p184,f184⟩)] []) 9 246 Tryz.f246 P3 OX x=cT p1171 f1171 p171 f171 p184 f184 x.1 x.2.1:=by kernel_rfl
def T8 (x:DenS P3):Option (DenS OX):=cT Na.pre Na.F CP.pre CP.F Ow.pre Ow.F x.1 x.2.1
def Td:Sum:=Al P3 OX T8 (DenS.dflt OX)
theorem aRV:Sound Tryz.prog G1 246 Td:=sd (cf [(301,Na),(301,CP),(302,Ow)] []) 246 Tryz.f246 ⟨aTD,uP,aKC,trivial⟩ trivial P3 OX T8 _ (fun _=>aKj ..)
abbrev aFw:=Ak P3
abbrev aEt:=Aj P3 OX
variable (p175:aFw) (f175:aEt)
abbrev Jo:Ab:=[(false,.slice (.int .u64)),(false,.int .i64)]
abbrev JN:Ab:=[(false,.slice (.int .u64))]
abbrev H1:Pat:=⟨56,[(26,.one (.v .i64)),(25,.one (.sl (.int .u64))),(5,.one (.v .i64)),(6,.one (.v .i64)),(27,.one (.v .i64)),(7,.one (.own 0))],[.arr (.int .u64)]⟩
abbrev nC:List (Nat×Shape):=[]
abbrev Me:List (Nat×Pat):=[(0,⟨56,[(7,.one (.own 0))],[.arr (.int .u64)]⟩)]
abbrev Md:Option Pat:=none
variable (w186_7:Pat.D H1→Option (Ah Me Md))
def Ua (p173:A4) (f173:A1) {R:Type} (L:Pat.D H1→Option R) (e:Ah Me Md→Option R) (x:Pat.D H1):Option R :=
 let e6_:=(IntKind.wrap .i64 (x.1.2.2.1+x.1.2.2.2.2.1))
 let e5_:=(Int.toNat e6_)
 let e7_:=(x.1.2.1.getD (Int.toNat x.1.2.2.2.2.1) (0:Int))
 let e1_:=(x.2.1.set e5_ (A9 .u64 (x.2.1.getD e5_ (0:Int)) (AQ .u64 e7_ x.1.2.2.2.1)))
 let e2_:=((decide ((0:Int)≤e6_))&&(decide (e6_<(x.2.1.length:Int))))
 let e3_:=(IntKind.wrap .i64 (e6_+(1:Int)))
 let e4_:=(IntKind.wrap .i64 ((64:Int)-x.1.2.2.2.1))
 bif (decide (x.1.2.2.2.2.1<x.1.1)) then (bif ((decide ((0:Int)≤x.1.2.2.2.2.1))&&(decide (x.1.2.2.2.2.1<(x.1.2.1.length:Int)))) then (bif e2_ then (bif (decide ((0:Int)≤x.1.2.2.2.1)) then (bif e2_ then (bif (decide ((0:Int)≤e4_)) then (bif ((decide ((0:Int)≤e3_))&&(decide (e3_<(e1_.length:Int)))) then (((L ((x.1.1,x.1.2.1,x.1.2.2.1,x.1.2.2.2.1,(IntKind.wrap .i64 (x.1.2.2.2.2.1+(1:Int))),(),()),(e1_.set (Int.toNat e3_) (AH .u64 e7_ e4_)),()))))
 else none)
 else none)
 else none)
 else none)
 else none)
 else none)
 else (e (.inl (((),()),x.2)))
theorem aJN (d:Nat) (R:Type) (L:Pat.D H1→Option R) (e:Ah Me Md→Option R) (x:Pat.D H1) :
  BA (cf [(169,⟨Bt,Bs,p173,f173⟩)] [(250,7,LoopSpec.of H1 nC Me Md w186_7)]) (d+2) 250 (By Tryz.f250 7) H1 nC Me Md (R:=R) L e x=Ua p173 f173 L e x:=by kernel_rfl
theorem zW (p173:A4) (f173:A1):Bu fun L e x=>Ua p173 f173 L e x:=by intro _ _ _ _ _ _ _ h0 hL he _; unfold Ua; repeat' (first | exact h0 | exact hL _ | exact he _ | apply BR | (apply BW h0; intro _) | (apply B9 <;> intro _))
def iO (p173:A4) (f173:A1) (w186_7:Pat.D H1→Option (Ah Me Md)) (a0:Aa (.slice (.int .u64))) (a1:Aa (.int .i64)):Option (DenS JN) :=
 let e1_:=(IntKind.wrap .i64 ((IntKind.wrap .i64 ((BB .i64 a1 (64:Int))+((f173 (a0,())).1.length:Int)))+(1:Int)))
 bif (p173 (a0,())) then (bif (((f173 (a0,())).1.length:Int)==(0:Int)) then (some ([],()))
 else bif ((decide ((0:Int)≤e1_))&&(decide ((e1_*(8:Int))≤(140737488355328:Int)))) then (Vx.AZ (w186_7 ((((f173 (a0,())).1.length:Int),(f173 (a0,())).1,(BB .i64 a1 (64:Int)),(Int.tmod a1 (64:Int)),(0:Int),(),()),(List.replicate (Int.toNat e1_) (0:Int)),())) fun y3 =>
 Vx.A2 y3 (fun y4 =>
 bif (p173 y4.2) then (some (f173 y4.2))
 else none) (fun z4 =>
 none))
 else none)
 else none
theorem aI5 (x:DenS Jo):run (cf [(169,⟨Bt,Bs,p173,f173⟩)] [(250,7,LoopSpec.of H1 nC Me Md w186_7)]) 9 250 Tryz.f250 Jo JN x=iO p173 f173 w186_7 x.1 x.2.1:=by kernel_rfl
def eH:H1.D→Option (Ah Me Md):=Bf fun L=>Ua Af.pre Af.F L some
def RI (x:DenS Jo):Option (DenS JN):=iO Af.pre Af.F eH x.1 x.2.1
def Dv:Sum:=Al Jo JN RI (DenS.dflt JN)
theorem zN:Sound Tryz.prog G1 250 Dv:=sd (cf [(169,Af)] [(250,7,LoopSpec.of H1 nC Me Md eH)]) 250 Tryz.f250 ⟨DV,trivial⟩ ⟨rfl,fun d=>B3 (fun L e x=>Ua Af.pre Af.F L e x) (zW Af.pre Af.F) (fun _ _ _ _=>aJN ..),trivial⟩ Jo JN RI _ (fun _=>aI5 ..)
abbrev Vt:=Ak Jo
abbrev UR:=Aj Jo JN
variable (p186:Vt) (f186:UR)
abbrev J3:Ab:=[(false,.slice (.slice (.int .u64)))]
abbrev Jp:Ab:=[(false,.bool)]
abbrev HE:Pat:=⟨16,[(6,.one (.v .i64)),(5,.one (.sl (.slice (.int .u64)))),(7,.one (.v .i64))],[]⟩
abbrev iJ:List (Nat×Shape):=[]
abbrev MD:List (Nat×Pat):=[(0,⟨16,[],[]⟩)]
abbrev Kf:Option Pat:=(some ⟨16,[(2,.one (.bool))],[]⟩)
variable (w185_2:Pat.D HE→Option (Ah MD Kf))
def Tg (p173:A4) (f173:A1) {R:Type} (L:Pat.D HE→Option R) (e:Ah MD Kf→Option R) (x:Pat.D HE):Option R :=
 bif (decide (x.1.2.2.1<x.1.1)) then (bif ((decide ((0:Int)≤x.1.2.2.1))&&(decide (x.1.2.2.1<(x.1.2.1.length:Int)))) then (bif (p173 ((x.1.2.1.getD (Int.toNat x.1.2.2.1) []),())) then (bif (decide (((f173 ((x.1.2.1.getD (Int.toNat x.1.2.2.1) []),())).1.length:Int)>(1024:Int))) then (((e (.inr ((true,()),())))))
 else (L ((x.1.1,x.1.2.1,(IntKind.wrap .i64 (x.1.2.2.1+(1:Int))),()),())))
 else none)
 else none)
 else (e (.inl ((),())))
theorem aQJ (d:Nat) (R:Type) (L:Pat.D HE→Option R) (e:Ah MD Kf→Option R) (x:Pat.D HE) :
  BA (cf [(169,⟨Bt,Bs,p173,f173⟩)] [(249,2,LoopSpec.of HE iJ MD Kf w185_2)]) (d+2) 249 (By Tryz.f249 2) HE iJ MD Kf (R:=R) L e x=Tg p173 f173 L e x:=by kernel_rfl
theorem aC0 (p173:A4) (f173:A1):Bu fun L e x=>Tg p173 f173 L e x:=by intro _ _ _ _ _ _ _ h0 hL he _; unfold Tg; repeat' (first | exact h0 | exact hL _ | exact he _ | apply BR | (apply BW h0; intro _) | (apply B9 <;> intro _))
def bH (p173:A4) (f173:A1) (w185_2:Pat.D HE→Option (Ah MD Kf)) (a0:Aa (.slice (.slice (.int .u64)))):Option (DenS Jp) :=
 Vx.AZ (w185_2 (((a0.length:Int),a0,(0:Int),()),())) fun y0 =>
 Vx.A2 y0 (fun y1 =>
 some (false,())) (fun z1 =>
 some z1.1)
theorem aPv (x:DenS J3):run (cf [(169,⟨Bt,Bs,p173,f173⟩)] [(249,2,LoopSpec.of HE iJ MD Kf w185_2)]) 9 249 Tryz.f249 J3 Jp x=bH p173 f173 w185_2 x.1:=by kernel_rfl
def nD:HE.D→Option (Ah MD Kf):=Bf fun L=>Tg Af.pre Af.F L some
def JM (x:DenS J3):Option (DenS Jp):=bH Af.pre Af.F nD x.1
def Ea:Sum:=Al J3 Jp JM (DenS.dflt Jp)
theorem tK:Sound Tryz.prog G1 249 Ea:=sd (cf [(169,Af)] [(249,2,LoopSpec.of HE iJ MD Kf nD)]) 249 Tryz.f249 ⟨DV,trivial⟩ ⟨rfl,fun d=>B3 (fun L e x=>Tg Af.pre Af.F L e x) (aC0 Af.pre Af.F) (fun _ _ _ _=>aQJ ..),trivial⟩ J3 Jp JM _ (fun _=>aPv ..)
abbrev Tv:=Ak J3
abbrev Ux:=Aj J3 Jp
variable (p185:Tv) (f185:Ux)
abbrev IU:Ab:=[(false,.slice (.int .u64)),(false,.int .i64)]
abbrev JY:Ab:=[(false,.slice (.int .u64)),(false,.int .i64)]
def Z4 (p186:Vt) (f186:UR) (p185:Tv) (f185:Ux) (a0:Aa (.slice (.int .u64))) (a1:Aa (.int .i64)):Option (DenS JY) :=
 bif ((decide (a1<(0:Int)))||(decide (a1>(65536:Int)))) then (some ([],(7:Int),()))
 else bif (p185 ((a0::[]),())) then (bif (f185 ((a0::[]),())).1 then (some ([],(5:Int),()))
 else bif (p186 (a0,a1,())) then (bif (p185 (((f186 (a0,a1,())).1::[]),())) then (bif (f185 (((f186 (a0,a1,())).1::[]),())).1 then (some ([],(5:Int),()))
 else some ((f186 (a0,a1,())).1,(0:Int),()))
 else none)
 else none)
 else none
theorem aM1 (x:DenS IU):run (cf [(250,⟨Jo,JN,p186,f186⟩),(249,⟨J3,Jp,p185,f185⟩)] []) 9 174 Tryz.f174 IU JY x=Z4 p186 f186 p185 f185 x.1 x.2.1:=by kernel_rfl
def RH (x:DenS IU):Option (DenS JY):=Z4 Dv.pre Dv.F Ea.pre Ea.F x.1 x.2.1
def DP:Sum:=Al IU JY RH (DenS.dflt JY)
theorem aGs:Sound Tryz.prog G1 174 DP:=sd (cf [(250,Dv),(249,Ea)] []) 174 Tryz.f174 ⟨zN,tK,trivial⟩ trivial IU JY RH _ (fun _=>aM1 ..)
abbrev Uy:=Ak IU
abbrev TZ:=Aj IU JY
variable (p176:Uy) (f176:TZ)
abbrev J7:Ab:=[(false,.slice (.int .u64)),(false,.int .i64)]
abbrev Jy:Ab:=[(false,.slice (.int .u64)),(false,.int .i64)]
def gJ (p171:RV) (f171:Sx) (a0:Aa (.slice (.int .u64))) (a1:Aa (.int .i64)):Option (DenS Jy) :=
 bif (decide (a1<(0:Int))) then (some ([],(7:Int),()))
 else bif (p171 (a0,a1,())) then (some ((f171 (a0,a1,())).1,(0:Int),()))
 else none
theorem aJE (x:DenS J7):run (cf [(301,⟨Hx,Is,p171,f171⟩)] []) 9 247 Tryz.f247 J7 Jy x=gJ p171 f171 x.1 x.2.1:=by kernel_rfl
def Rk (x:DenS J7):Option (DenS Jy):=gJ CP.pre CP.F x.1 x.2.1
def DT:Sum:=Al J7 Jy Rk (DenS.dflt Jy)
theorem aHF:Sound Tryz.prog G1 247 DT:=sd (cf [(301,CP)] []) 247 Tryz.f247 ⟨uP,trivial⟩ trivial J7 Jy Rk _ (fun _=>aJE ..)
abbrev Ti:=Ak J7
abbrev T6:=Aj J7 Jy
variable (p141:Ti) (f141:T6)
abbrev QS:Ab:=[(false,.int .i64),(false,.bool),(false,.bool),(false,.int .u64)]
abbrev Pi:Ab:=[(false,.bool)]
def g9 (a0:Aa (.int .i64)) (a1 a2:Aa (.bool)) (a3:Aa (.int .u64)):Option (DenS Pi) :=
 bif (a0==(4:Int)) then (some ((!(!a1)),()))
 else bif (a0==(3:Int)) then (some ((!a1),()))
 else bif (a0==(0:Int)) then (bif (a3==(2:Int)) then (some (a2,()))
 else some ((decide (a3≥(2:Int))),()))
 else bif (a0==(1:Int)) then (some ((decide (a3≥(2:Int))),()))
 else bif (a0==(5:Int)) then (some ((!a2),()))
 else some (false,())
theorem aOX (x:DenS QS):run (cf [] []) 9 248 Tryz.f248 QS Pi x=g9 x.1 x.2.1 x.2.2.1 x.2.2.2.1:=by kernel_rfl
def RJ (x:DenS QS):Option (DenS Pi):=g9 x.1 x.2.1 x.2.2.1 x.2.2.2.1
def UO:Sum:=Al QS Pi RJ (DenS.dflt Pi)
theorem aOK:Sound Tryz.prog G1 248 UO:=sd (cf [] []) 248 Tryz.f248 trivial trivial QS Pi RJ _ (fun _=>aOX ..)
abbrev aBF:=Ak QS
abbrev aEB:=Aj QS Pi
variable (p177:aBF) (f177:aEB)
abbrev Hu:Ab:=[(false,.slice (.int .u64)),(false,.slice (.int .u64))]
abbrev G8:Ab:=[(false,.slice (.int .u64))]
abbrev HJ:Pat:=⟨61,[(28,.one (.v .i64)),(1,.one (.sl (.int .u64))),(29,.one (.v .i64)),(0,.one (.sl (.int .u64))),(6,.one (.v .u64)),(5,.one (.own 0))],[.arr (.int .u64)]⟩
abbrev i3:List (Nat×Shape):=[]
abbrev LH:List (Nat×Pat):=[(0,⟨61,[(0,.one (.sl (.int .u64))),(6,.one (.v .u64)),(5,.one (.own 0))],[.arr (.int .u64)]⟩)]
abbrev Le:Option Pat:=none
variable (w143_8:Pat.D HJ→Option (Ah LH Le))
def Tf (p155:C5) (f155:Db) (p173:A4) (f173:A1) {R:Type} (L:Pat.D HJ→Option R) (e:Ah LH Le→Option R) (x:Pat.D HJ):Option R :=
 let e8_:=(x.1.2.2.2.1.getD (Int.toNat x.1.2.2.1) (0:Int))
 let e7_:=((x.1.2.1.getD (Int.toNat x.1.2.2.1) (0:Int)),x.1.2.2.2.2.1,())
 let e1_:=(f155 (e8_,e7_))
 let e2_:=(f155 (e8_,(0:Int),x.1.2.2.2.2.1,()))
 let e3_:=((decide ((0:Int)≤x.1.2.2.1))&&(decide (x.1.2.2.1<(x.1.2.2.2.1.length:Int))))
 let e4_:=((decide ((0:Int)≤x.1.2.2.1))&&(decide (x.1.2.2.1<(x.2.1.length:Int))))
 let e5_:=(IntKind.wrap .i64 (x.1.2.2.1+(1:Int)))
 let e6_:=e8_
 bif (decide (x.1.2.2.1<x.1.1)) then (bif (decide (x.1.2.2.1<(x.1.2.1.length:Int))) then (bif ((decide ((0:Int)≤x.1.2.2.1))&&(decide (x.1.2.2.1<(x.1.2.1.length:Int)))) then (bif e3_ then (bif (p155 (e6_,e7_)) then (bif e4_ then (((L ((x.1.1,x.1.2.1,e5_,x.1.2.2.2.1,e1_.2.1,(),()),(x.2.1.set (Int.toNat x.1.2.2.1) e1_.1),()))))
 else none)
 else none)
 else none)
 else none)
 else bif e3_ then (bif (p155 (e6_,(0:Int),x.1.2.2.2.2.1,())) then (bif e4_ then (((L ((x.1.1,x.1.2.1,e5_,x.1.2.2.2.1,e2_.2.1,(),()),(x.2.1.set (Int.toNat x.1.2.2.1) e2_.1),()))))
 else none)
 else none)
 else none)
 else (e (.inl ((x.1.2.2.2.1,x.1.2.2.2.2.1,(),()),x.2)))
theorem aLL (d:Nat) (R:Type) (L:Pat.D HJ→Option R) (e:Ah LH Le→Option R) (x:Pat.D HJ) :
  BA (cf [(165,⟨E5,Fu,p155,f155⟩),(169,⟨Bt,Bs,p173,f173⟩)] [(176,8,LoopSpec.of HJ i3 LH Le w143_8)]) (d+2) 176 (By Tryz.f176 8) HJ i3 LH Le (R:=R) L e x=Tf p155 f155 p173 f173 L e x:=by kernel_rfl
theorem aDd (p155:C5) (f155:Db) (p173:A4) (f173:A1):Bu fun L e x=>Tf p155 f155 p173 f173 L e x:=by intro _ _ _ _ _ _ _ h0 hL he _; unfold Tf; repeat' (first | exact h0 | exact hL _ | exact he _ | apply BR | (apply BW h0; intro _) | (apply B9 <;> intro _))
def jC (p155:C5) (f155:Db) (p173:A4) (f173:A1) (w143_8:Pat.D HJ→Option (Ah LH Le)) (a0 a1:Aa (.slice (.int .u64))):Option (DenS G8) :=
 let e5_:=(IntKind.wrap .i64 (((f173 (a1,())).1.length:Int)+(1:Int)))
 let e1_:=(List.replicate (Int.toNat e5_) (0:Int))
 let e6_:=(IntKind.wrap .i64 (((f173 (a0,())).1.length:Int)+(1:Int)))
 let e2_:=(List.replicate (Int.toNat e6_) (0:Int))
 let e3_:=e5_
 let e4_:=e6_
 bif (p173 (a0,())) then (bif (p173 (a1,())) then (bif (decide (((f173 (a0,())).1.length:Int)<((f173 (a1,())).1.length:Int))) then (bif ((decide ((0:Int)≤e3_))&&(decide ((e3_*(8:Int))≤(140737488355328:Int)))) then (Vx.AZ (w143_8 ((((f173 (a1,())).1.length:Int),(f173 (a0,())).1,(0:Int),(f173 (a1,())).1,(0:Int),(),()),(((f173 (a1,())).1.take e1_.length)++(e1_.drop (f173 (a1,())).1.length)),())) fun y4 =>
 Vx.A2 y4 (fun y5 =>
 bif ((decide ((0:Int)≤(y5.1.1.length:Int)))&&(decide ((y5.1.1.length:Int)<(y5.2.1.length:Int)))) then (bif (p173 ((y5.2.1.set (Int.toNat (y5.1.1.length:Int)) y5.1.2.1),())) then (some (f173 ((y5.2.1.set (Int.toNat (y5.1.1.length:Int)) y5.1.2.1),())))
 else none)
 else none) (fun z5 =>
 none))
 else none)
 else bif ((decide ((0:Int)≤e4_))&&(decide ((e4_*(8:Int))≤(140737488355328:Int)))) then (Vx.AZ (w143_8 ((((f173 (a0,())).1.length:Int),(f173 (a1,())).1,(0:Int),(f173 (a0,())).1,(0:Int),(),()),(((f173 (a0,())).1.take e2_.length)++(e2_.drop (f173 (a0,())).1.length)),())) fun y4 =>
 Vx.A2 y4 (fun y5 =>
 bif ((decide ((0:Int)≤(y5.1.1.length:Int)))&&(decide ((y5.1.1.length:Int)<(y5.2.1.length:Int)))) then (bif (p173 ((y5.2.1.set (Int.toNat (y5.1.1.length:Int)) y5.1.2.1),())) then (some (f173 ((y5.2.1.set (Int.toNat (y5.1.1.length:Int)) y5.1.2.1),())))
 else none)
 else none) (fun z5 =>
 none))
 else none)
 else none)
 else none
theorem aTm (x:DenS Hu):run (cf [(165,⟨E5,Fu,p155,f155⟩),(169,⟨Bt,Bs,p173,f173⟩)] [(176,8,LoopSpec.of HJ i3 LH Le w143_8)]) 9 176 Tryz.f176 Hu G8 x=jC p155 f155 p173 f173 w143_8 x.1 x.2.1:=by kernel_rfl
def Y6:HJ.D→Option (Ah LH Le):=Bf fun L=>Tf Ay.pre Ay.F Af.pre Af.F L some
def Rx (x:DenS Hu):Option (DenS G8):=jC Ay.pre Ay.F Af.pre Af.F Y6 x.1 x.2.1
def CC:Sum:=Al Hu G8 Rx (DenS.dflt G8)
theorem q8:Sound Tryz.prog G1 176 CC:=sd (cf [(165,Ay),(169,Af)] [(176,8,LoopSpec.of HJ i3 LH Le Y6)]) 176 Tryz.f176 ⟨SY,DV,trivial⟩ ⟨rfl,fun d=>B3 (fun L e x=>Tf Ay.pre Ay.F Af.pre Af.F L e x) (aDd Ay.pre Ay.F Af.pre Af.F) (fun _ _ _ _=>aLL ..),trivial⟩ Hu G8 Rx _ (fun _=>aTm ..)
abbrev Qh:=Ak Hu
abbrev OL:=Aj Hu G8
variable (p143:Qh) (f143:OL)
abbrev Ky:Ab:=[(true,.pair (.bool) (.pair (.slice (.int .u64)) (.pair (.int .i64) (.pair (.bool) (.unit))))),(false,.int .i64),(false,.int .i64)]
abbrev Lk:Ab:=[(false,.slice (.int .u64)),(false,.bool)]
def jB (p175:aFw) (f175:aEt) (p176:Uy) (f176:TZ) (p141:Ti) (f141:T6) (p177:aBF) (f177:aEB) (p143:Qh) (f143:OL) (a0:Aa (.pair (.bool) (.pair (.slice (.int .u64)) (.pair (.int .i64) (.pair (.bool) (.unit)))))) (a1 a2:Aa (.int .i64)):Option (DenS Lk) :=
 let e47_:=(IntKind.wrap .i64 (a2-a0.2.2.1))
 let e44_:=(f175 (a0.2.1,(IntKind.wrap .i64 (e47_-(2:Int))),()))
 let e42_:=(e44_.1,(2:Int),())
 let e40_:=(f141 e42_)
 let e38_:=(e40_.1.length:Int)
 let e34_:=(decide (e38_>(0:Int)))
 let e28_:=(e34_&&((A8 .u64 (e40_.1.getD (Int.toNat (0:Int)) (0:Int)) (1:Int))==(1:Int)))
 let e32_:=(A8 .u64 (e44_.1.getD (Int.toNat (0:Int)) (0:Int)) (3:Int))
 let e30_:=(A9 .u64 e32_ (1:Int))
 let e1_:=(a1,a0.1,e28_,e30_,())
 let e45_:=(f176 (a0.2.1,(IntKind.wrap .i64 ((2:Int)-e47_)),()))
 let e43_:=(e45_.1,(2:Int),())
 let e41_:=(f141 e43_)
 let e39_:=(e41_.1.length:Int)
 let e35_:=(decide (e39_>(0:Int)))
 let e29_:=(e35_&&((A8 .u64 (e41_.1.getD (Int.toNat (0:Int)) (0:Int)) (1:Int))==(1:Int)))
 let e33_:=(A8 .u64 (e45_.1.getD (Int.toNat (0:Int)) (0:Int)) (3:Int))
 let e31_:=(A9 .u64 e33_ (1:Int))
 let e2_:=(a1,a0.1,e29_,e31_,())
 let e3_:=(a1,a0.1,e28_,e32_,())
 let e4_:=(a1,a0.1,e29_,e33_,())
 let e46_:=((A9 .u64 (0:Int) (1:Int)),())
 let e5_:=(a1,a0.1,e28_,e46_)
 let e6_:=(a1,a0.1,e29_,e46_)
 let e7_:=((decide ((0:Int)<e38_))||(!e34_))
 let e8_:=((decide ((0:Int)<e39_))||(!e35_))
 let e9_:=((e30_ != (0:Int)),())
 let e10_:=((e31_ != (0:Int)),())
 let e11_:=e30_
 let e12_:=e31_
 let e13_:=((e32_ != (0:Int)),())
 let e14_:=((e33_ != (0:Int)),())
 let e15_:=e32_
 let e16_:=e33_
 let e36_:=(e40_.1,((1:Int)::[]),())
 let e17_:=(p143 e36_)
 let e18_:=(f143 e36_)
 let e37_:=(e41_.1,((1:Int)::[]),())
 let e19_:=(p143 e37_)
 let e20_:=(f143 e37_)
 let e21_:=e40_
 let e22_:=e41_
 let e23_:=(p141 e42_)
 let e24_:=(p141 e43_)
 let e25_:=(e44_.1.length:Int)
 let e26_:=(e45_.1.length:Int)
 let e27_:=e47_
 bif (decide (e27_≥(2:Int))) then (bif (p175 (a0.2.1,(IntKind.wrap .i64 (e27_-(2:Int))),())) then (bif (decide (e25_>(0:Int))) then (bif (decide ((0:Int)<e25_)) then (bif a0.2.2.2.1 then (bif e23_ then (bif e7_ then (bif ((p177 e1_)||(!(bif (e11_==(0:Int)) then false else true))) then (bif ((e11_ != (0:Int))&&(f177 e1_).1) then (bif e17_ then (some (e18_.1,e9_))
 else none)
 else some (e21_.1,e9_))
 else none)
 else none)
 else none)
 else bif e23_ then (bif e7_ then (bif ((p177 e3_)||(!(bif (e15_==(0:Int)) then false else true))) then (bif ((e15_ != (0:Int))&&(f177 e3_).1) then (bif e17_ then (some (e18_.1,e13_))
 else none)
 else some (e21_.1,e13_))
 else none)
 else none)
 else none)
 else none)
 else bif a0.2.2.2.1 then (bif e23_ then (bif e7_ then (bif ((p177 e5_)||false) then (bif (f177 e5_).1 then (bif e17_ then (some (e18_.1,true,()))
 else none)
 else some (e21_.1,true,()))
 else none)
 else none)
 else none)
 else bif e23_ then (bif e7_ then (bif ((p177 (a1,a0.1,((decide ((e21_.1.length:Int)>(0:Int)))&&((A8 .u64 (e21_.1.getD (Int.toNat (0:Int)) (0:Int)) (1:Int))==(1:Int))),(0:Int),()))||true) then (some (e21_.1,false,()))
 else none)
 else none)
 else none)
 else none)
 else bif (p176 (a0.2.1,(IntKind.wrap .i64 ((2:Int)-e27_)),())) then (bif (decide (e26_>(0:Int))) then (bif (decide ((0:Int)<e26_)) then (bif a0.2.2.2.1 then (bif e24_ then (bif e8_ then (bif ((p177 e2_)||(!(bif (e12_==(0:Int)) then false else true))) then (bif ((e12_ != (0:Int))&&(f177 e2_).1) then (bif e19_ then (some (e20_.1,e10_))
 else none)
 else some (e22_.1,e10_))
 else none)
 else none)
 else none)
 else bif e24_ then (bif e8_ then (bif ((p177 e4_)||(!(bif (e16_==(0:Int)) then false else true))) then (bif ((e16_ != (0:Int))&&(f177 e4_).1) then (bif e19_ then (some (e20_.1,e14_))
 else none)
 else some (e22_.1,e14_))
 else none)
 else none)
 else none)
 else none)
 else bif a0.2.2.2.1 then (bif e24_ then (bif e8_ then (bif ((p177 e6_)||false) then (bif (f177 e6_).1 then (bif e19_ then (some (e20_.1,true,()))
 else none)
 else some (e22_.1,true,()))
 else none)
 else none)
 else none)
 else bif e24_ then (bif e8_ then (bif ((p177 (a1,a0.1,((decide ((e22_.1.length:Int)>(0:Int)))&&((A8 .u64 (e22_.1.getD (Int.toNat (0:Int)) (0:Int)) (1:Int))==(1:Int))),(0:Int),()))||true) then (some (e22_.1,false,()))
 else none)
 else none)
 else none)
 else none
theorem aP8 (x:DenS Ky):run (cf [(246,⟨P3,OX,p175,f175⟩),(174,⟨IU,JY,p176,f176⟩),(247,⟨J7,Jy,p141,f141⟩),(248,⟨QS,Pi,p177,f177⟩),(176,⟨Hu,G8,p143,f143⟩)] []) 9 172 Tryz.f172 Ky Lk x=jB p175 f175 p176 f176 p141 f141 p177 f177 p143 f143 x.1 x.2.1 x.2.2.1:=by kernel_rfl
def UX (x:DenS Ky):Option (DenS Lk):=jB Td.pre Td.F DP.pre DP.F DT.pre DT.F UO.pre UO.F CC.pre CC.F x.1 x.2.1 x.2.2.1
def HR:Sum:=Al Ky Lk UX (DenS.dflt Lk)
theorem aFE:Sound Tryz.prog G1 172 HR:=sd (cf [(246,Td),(174,DP),(247,DT),(248,UO),(176,CC)] []) 172 Tryz.f172 ⟨aRV,aGs,aHF,aOK,q8,trivial⟩ trivial Ky Lk UX _ (fun _=>aP8 ..)
abbrev v4:=Ak Ky
abbrev qG:=Aj Ky Lk
variable (p150:v4) (f150:qG)
abbrev GV:Ab:=[(false,.int .i64),(false,.bool)]
abbrev Hl:Ab:=[(false,.int .u64),(false,.int .i64)]
def t97 (p116:kV) (f116:mB) (p69:BP) (f69:BK) (p91:Hr) (f91:HH) (p140:WR) (f140:WW) (a0:Aa (.int .i64)) (a1:Aa (.bool)):Option (DenS Hl) :=
 let e2_:=((IntKind.wrap .i64 ((f69 (a0,())).1.1-(f69 (a0,())).1.2.1)),())
 let e1_:=((f69 (a0,())).1,a1,(IntKind.wrap .u64 ((f91 e2_).1-(f116 ((f69 (a0,())).1,())).1)),(f116 ((f69 (a0,())).1,())))
 bif (p69 (a0,())) then (bif ((f69 (a0,())).2.1 != (0:Int)) then (some ((0:Int),(f69 (a0,())).2))
 else bif (p91 e2_) then (bif (p116 ((f69 (a0,())).1,())) then (bif (p116 ((f69 (a0,())).1,())) then (bif (p140 e1_) then (some ((f140 e1_).1,(0:Int),()))
 else none)
 else none)
 else none)
 else none)
 else none
theorem r97 (x:DenS GV):run (cf [(104,⟨IL,Jk,p116,f116⟩),(54,⟨Ch,Cj,p69,f69⟩),(112,⟨EA,EK,p91,f91⟩),(149,⟨Ic,H7,p140,f140⟩)] []) 9 65 Tryz.f65 GV Hl x=t97 p116 f116 p69 f69 p91 f91 p140 f140 x.1 x.2.1:=by kernel_rfl
def WQ (x:DenS GV):Option (DenS Hl):=t97 JJ.pre JJ.F Aq.pre Aq.F Br.pre Br.F Gx.pre Gx.F x.1 x.2.1
def B7:Sum:=Al GV Hl WQ (DenS.dflt Hl)
theorem VX:Sound Tryz.prog G1 65 B7:=sd (cf [(104,JJ),(54,Aq),(112,Br),(149,Gx)] []) 65 Tryz.f65 ⟨o9,Ek,MG,kD,trivial⟩ trivial GV Hl WQ _ (fun _=>r97 ..)
abbrev Qc:=Ak GV
abbrev PU:=Aj GV Hl
variable (p97:Qc) (f97:PU)
abbrev OE:Ab:=[(true,.pair (.int .i64) (.pair (.int .i64) (.pair (.int .i64) (.pair (.int .i64) (.unit)))))]
abbrev OY:Ab:=[(false,.int .u64)]
def t95 (a0:Aa (.pair (.int .i64) (.pair (.int .i64) (.pair (.int .i64) (.pair (.int .i64) (.unit)))))):Option (DenS OY) :=
 some ((1:Int),())
theorem r95 (x:DenS OE):run (cf [] []) 9 299 Tryz.f299 OE OY x=t95 x.1:=by kernel_rfl
def yY (x:DenS OE):Option (DenS OY):=t95 x.1
def aK:Sum:=Al OE OY yY (DenS.dflt OY)
theorem aP4:Sound Tryz.prog G1 299 aK:=sd (cf [] []) 299 Tryz.f299 trivial trivial OE OY yY _ (fun _=>r95 ..)
abbrev Y95:=Ak OE
abbrev Z95:=Aj OE OY
variable (p95:Y95) (f95:Z95)
abbrev Rq:Ab:=[(true,.pair (.int .i64) (.pair (.int .i64) (.pair (.int .i64) (.pair (.int .i64) (.unit)))))]
abbrev NJ:Ab:=[(false,.int .u64)]
def t96 (p91:Hr) (f91:HH) (a0:Aa (.pair (.int .i64) (.pair (.int .i64) (.pair (.int .i64) (.pair (.int .i64) (.unit)))))):Option (DenS NJ) :=
 let e1_:=((IntKind.wrap .i64 (a0.2.1-(1:Int))),())
 bif (p91 e1_) then (some (f91 e1_))
 else none
theorem r96 (x:DenS Rq):run (cf [(112,⟨EA,EK,p91,f91⟩)] []) 9 300 Tryz.f300 Rq NJ x=t96 p91 f91 x.1:=by kernel_rfl
def xX (x:DenS Rq):Option (DenS NJ):=t96 Br.pre Br.F x.1
def kL:Sum:=Al Rq NJ xX (DenS.dflt NJ)
theorem aNT:Sound Tryz.prog G1 300 kL:=sd (cf [(112,Br)] []) 300 Tryz.f300 ⟨MG,trivial⟩ trivial Rq NJ xX _ (fun _=>r96 ..)
abbrev Y96:=Ak Rq
abbrev Z96:=Aj Rq NJ
variable (p96:Y96) (f96:Z96)
abbrev QR:Ab:=[(false,.int .i64),(false,.bool)]
abbrev PG:Ab:=[(false,.int .u64),(false,.int .i64)]
def t43 (p95:Y95) (f95:Z95) (p96:Y96) (f96:Z96) (p69:BP) (f69:BK) (p91:Hr) (f91:HH) (p140:WR) (f140:WW) (a0:Aa (.int .i64)) (a1:Aa (.bool)):Option (DenS PG) :=
 let e2_:=((IntKind.wrap .i64 ((f69 (a0,())).1.1-(f69 (a0,())).1.2.1)),())
 let e1_:=((f69 (a0,())).1,a1,(IntKind.wrap .u64 ((f91 e2_).1-(f95 ((f69 (a0,())).1,())).1)),(f96 ((f69 (a0,())).1,())))
 bif (p69 (a0,())) then (bif ((f69 (a0,())).2.1 != (0:Int)) then (some ((0:Int),(f69 (a0,())).2))
 else bif (p91 e2_) then (bif (p95 ((f69 (a0,())).1,())) then (bif (p96 ((f69 (a0,())).1,())) then (bif (p140 e1_) then (some ((f140 e1_).1,(0:Int),()))
 else none)
 else none)
 else none)
 else none)
 else none
theorem r43 (x:DenS QR):run (cf [(299,⟨OE,OY,p95,f95⟩),(300,⟨Rq,NJ,p96,f96⟩),(54,⟨Ch,Cj,p69,f69⟩),(112,⟨EA,EK,p91,f91⟩),(149,⟨Ic,H7,p140,f140⟩)] []) 9 245 Tryz.f245 QR PG x=t43 p95 f95 p96 f96 p69 f69 p91 f91 p140 f140 x.1 x.2.1:=by kernel_rfl
def WF (x:DenS QR):Option (DenS PG):=t43 aK.pre aK.F kL.pre kL.F Aq.pre Aq.F Br.pre Br.F Gx.pre Gx.F x.1 x.2.1
def IG:Sum:=Al QR PG WF (DenS.dflt PG)
theorem aKx:Sound Tryz.prog G1 245 IG:=sd (cf [(299,aK),(300,kL),(54,Aq),(112,Br),(149,Gx)] []) 245 Tryz.f245 ⟨aP4,aNT,Ek,MG,kD,trivial⟩ trivial QR PG WF _ (fun _=>r43 ..)
abbrev Y43:=Ak QR
abbrev Z43:=Aj QR PG
variable (p43:Y43) (f43:Z43)
abbrev OV:Ab:=[(false,.int .i64),(false,.int .i64),(false,.bool)]
abbrev Pn:Ab:=[(false,.int .u64)]
def dV (p97:Qc) (f97:PU) (p43:Y43) (f43:Z43) (a0 a1:Aa (.int .i64)) (a2:Aa (.bool)):Option (DenS Pn) :=
 bif ((((a1==(0:Int))||(a1==(1:Int)))||((a1==(3:Int))&&(!a2)))||((a1==(4:Int))&&a2)) then (bif (p97 (a0,a2,())) then (some ((f97 (a0,a2,())).1,()))
 else none)
 else bif (p43 (a0,a2,())) then (some ((f43 (a0,a2,())).1,()))
 else none
theorem aUe (x:DenS OV):run (cf [(65,⟨GV,Hl,p97,f97⟩),(245,⟨QR,PG,p43,f43⟩)] []) 9 171 Tryz.f171 OV Pn x=dV p97 f97 p43 f43 x.1 x.2.1 x.2.2.1:=by kernel_rfl
def XD (x:DenS OV):Option (DenS Pn):=dV B7.pre B7.F IG.pre IG.F x.1 x.2.1 x.2.2.1
def UG:Sum:=Al OV Pn XD (DenS.dflt Pn)
theorem aII:Sound Tryz.prog G1 171 UG:=sd (cf [(65,B7),(245,IG)] []) 171 Tryz.f171 ⟨VX,aKx,trivial⟩ trivial OV Pn XD _ (fun _=>aUe ..)
abbrev aHZ:=Ak OV
abbrev aGG:=Aj OV Pn
variable (p149:aHZ) (f149:aGG)
abbrev Qp:Ab:=[(true,.pair (.bool) (.pair (.slice (.int .u64)) (.pair (.int .i64) (.pair (.bool) (.unit))))),(true,.pair (.int .i64) (.pair (.int .i64) (.pair (.int .i64) (.pair (.int .i64) (.unit))))),(false,.int .i64),(false,.int .i64)]
abbrev QY:Ab:=[(false,.bool)]
def cN (p150:v4) (f150:qG) (p151:KW) (f151:Mp) (a0:Aa (.pair (.bool) (.pair (.slice (.int .u64)) (.pair (.int .i64) (.pair (.bool) (.unit)))))) (a1:Aa (.pair (.int .i64) (.pair (.int .i64) (.pair (.int .i64) (.pair (.int .i64) (.unit)))))) (a2 a3:Aa (.int .i64)):Option (DenS QY) :=
 let e3_:=(IntKind.wrap .i64 (a3-a1.2.1))
 let e1_:=((f150 ((a0.1,a0.2),a2,(IntKind.wrap .i64 (e3_+(1:Int))),())).1,())
 let e2_:=e3_
 bif (decide (a3≥a1.2.2.1)) then (some (false,()))
 else bif (p150 ((a0.1,a0.2),a2,(IntKind.wrap .i64 (e2_+(1:Int))),())) then (bif (p151 e1_) then (some ((decide ((IntKind.wrap .i64 (e2_+(f151 e1_).1))<a1.2.2.1)),()))
 else none)
 else none
theorem aOs (x:DenS Qp):run (cf [(172,⟨Ky,Lk,p150,f150⟩),(123,⟨Gd,Gp,p151,f151⟩)] []) 9 173 Tryz.f173 Qp QY x=cN p150 f150 p151 f151 x.1 x.2.1 x.2.2.1 x.2.2.2.1:=by kernel_rfl
def XA (x:DenS Qp):Option (DenS QY):=cN HR.pre HR.F Ce.pre Ce.F x.1 x.2.1 x.2.2.1 x.2.2.2.1
def TY:Sum:=Al Qp QY XA (DenS.dflt QY)
theorem aRY:Sound Tryz.prog G1 173 TY:=sd (cf [(172,HR),(123,Ce)] []) 173 Tryz.f173 ⟨aFE,XX,trivial⟩ trivial Qp QY XA _ (fun _=>aOs ..)
abbrev aGR:=Ak Qp
abbrev aBw:=Aj Qp QY
variable (p152:aGR) (f152:aBw)
abbrev I9:Ab:=[(true,.pair (.bool) (.pair (.slice (.int .u64)) (.pair (.int .i64) (.pair (.bool) (.unit))))),(false,.int .i64),(true,.pair (.int .i64) (.pair (.int .i64) (.pair (.int .i64) (.pair (.int .i64) (.unit))))),(false,.int .i64)]
abbrev IP:Ab:=[(false,.int .u64),(false,.int .i64)]
def aL (p148:aHj) (f148:aDX) (p150:v4) (f150:qG) (p151:KW) (f151:Mp) (p149:aHZ) (f149:aGG) (p152:aGR) (f152:aBw) (a0:Aa (.pair (.bool) (.pair (.slice (.int .u64)) (.pair (.int .i64) (.pair (.bool) (.unit)))))) (a1:Aa (.int .i64)) (a2:Aa (.pair (.int .i64) (.pair (.int .i64) (.pair (.int .i64) (.pair (.int .i64) (.unit)))))) (a3:Aa (.int .i64)):Option (DenS IP) :=
 let e18_:=(IntKind.wrap .i64 ((IntKind.wrap .i64 ((if (a2.2.2.1>(f148 ((a0.1,a0.2),())).1) then a2.2.2.1 else (f148 ((a0.1,a0.2),())).1)-a2.2.1))+(1:Int)))
 let e21_:=(IntKind.wrap .i64 (a2.2.1-(1:Int)))
 let e14_:=(AQ .u64 (IntKind.wrap .u64 (IntKind.wrap .i64 (e18_-(IntKind.wrap .i64 ((IntKind.wrap .i64 (a2.2.2.1-a2.2.1))+(1:Int)))))) e21_)
 let e17_:=((a0.1,a0.2),a3,e18_,())
 let e16_:=(f150 e17_)
 let e13_:=(IntKind.wrap .u64 (e14_+(e16_.1.getD (Int.toNat (0:Int)) (0:Int))))
 let e22_:=(IntKind.wrap .i64 (a2.1-(1:Int)))
 let e19_:=(AQ .u64 (1:Int) e22_)
 let e1_:=(A9 .u64 e13_ e19_)
 let e2_:=e13_
 let e3_:=(A9 .u64 e14_ e19_)
 let e15_:=(e16_.1,())
 let e4_:=(decide ((IntKind.wrap .i64 ((IntKind.wrap .i64 (e18_+(f151 e15_).1))-(1:Int)))>a2.2.2.2.1))
 let e5_:=e14_
 let e6_:=(e16_.1.length:Int)
 let e7_:=(p151 e15_)
 let e8_:=(!e16_.2.1)
 let e9_:=(decide ((0:Int)≤e22_))
 let e20_:=((a0.1,a0.2),(a2.1,a2.2),a3,(f148 ((a0.1,a0.2),())))
 let e10_:=(p152 e20_)
 let e11_:=(f152 e20_)
 let e12_:=((f149 (a1,a3,a0.1,())).1,(20:Int),())
 bif (p148 ((a0.1,a0.2),())) then (bif (decide ((f148 ((a0.1,a0.2),())).1>a2.2.2.2.1)) then (bif (p149 (a1,a3,a0.1,())) then (some e12_)
 else none)
 else bif (p150 e17_) then (bif (decide ((0:Int)≤e21_)) then (bif (decide (e6_>(0:Int))) then (bif (decide ((0:Int)<e6_)) then (bif e7_ then (bif e4_ then (bif (p149 (a1,a3,a0.1,())) then (some e12_)
 else none)
 else bif a0.1 then (bif e9_ then (bif e8_ then (some (e1_,(0:Int),()))
 else bif e10_ then (bif e11_.1 then (some (e1_,(24:Int),()))
 else some (e1_,(16:Int),()))
 else none)
 else none)
 else bif e8_ then (some (e2_,(0:Int),()))
 else bif e10_ then (bif e11_.1 then (some (e2_,(24:Int),()))
 else some (e2_,(16:Int),()))
 else none)
 else none)
 else none)
 else bif e7_ then (bif e4_ then (bif (p149 (a1,a3,a0.1,())) then (some e12_)
 else none)
 else bif a0.1 then (bif e9_ then (bif e8_ then (some (e3_,(0:Int),()))
 else bif e10_ then (bif e11_.1 then (some (e3_,(24:Int),()))
 else some (e3_,(16:Int),()))
 else none)
 else none)
 else bif e8_ then (some (e5_,(0:Int),()))
 else bif e10_ then (bif e11_.1 then (some (e5_,(24:Int),()))
 else some (e5_,(16:Int),()))
 else none)
 else none)
 else none)
 else none)
 else none
theorem aRK (x:DenS I9):run (cf [(170,⟨Py,OP,p148,f148⟩),(172,⟨Ky,Lk,p150,f150⟩),(123,⟨Gd,Gp,p151,f151⟩),(171,⟨OV,Pn,p149,f149⟩),(173,⟨Qp,QY,p152,f152⟩)] []) 9 125 Tryz.f125 I9 IP x=aL p148 f148 p150 f150 p151 f151 p149 f149 p152 f152 x.1 x.2.1 x.2.2.1 x.2.2.2.1:=by kernel_rfl
def Yo (x:DenS I9):Option (DenS IP):=aL Vz.pre Vz.F HR.pre HR.F Ce.pre Ce.F UG.pre UG.F TY.pre TY.F x.1 x.2.1 x.2.2.1 x.2.2.2.1
def EG:Sum:=Al I9 IP Yo (DenS.dflt IP)
theorem uC:Sound Tryz.prog G1 125 EG:=sd (cf [(170,Vz),(172,HR),(123,Ce),(171,UG),(173,TY)] []) 125 Tryz.f125 ⟨aLZ,aFE,XX,aII,aRY,trivial⟩ trivial I9 IP Yo _ (fun _=>aRK ..)
abbrev TN:=Ak I9
abbrev Vq:=Aj I9 IP
variable (p107:TN) (f107:Vq)
abbrev EZ:Ab:=[(false,.int .i64),(false,.int .i64),(false,.bool),(true,.pair (.int .u64) (.pair (.int .u64) (.unit))),(false,.int .i64),(false,.bool)]
abbrev Fj:Ab:=[(false,.int .u64),(false,.int .i64),(false,.int .i64)]
def gF (p105:Tk) (f105:Tb) (p102:GT) (f102:Hf) (p151:KW) (f151:Mp) (p156:lR) (f156:aH) (p107:TN) (f107:Vq) (a0 a1:Aa (.int .i64)) (a2:Aa (.bool)) (a3:Aa (.pair (.int .u64) (.pair (.int .u64) (.unit)))) (a4:Aa (.int .i64)) (a5:Aa (.bool)):Option (DenS Fj) :=
 let e2_:=((a2,(f102 ((a3.2.1::(a3.1::[])),())).1,a4,a5,()),a0,(f105 (a0,a1,())).1,a1,())
 let e1_:=(f107 e2_)
 bif (p105 (a0,a1,())) then (bif ((f105 (a0,a1,())).2.1 != (0:Int)) then (some ((0:Int),(0:Int),(f105 (a0,a1,())).2))
 else bif (p102 ((a3.2.1::(a3.1::[])),())) then (bif ((decide (a4<(-(40000:Int))))||(decide (a4>(40000:Int)))) then (some ((0:Int),(0:Int),(30:Int),()))
 else bif ((p151 (f102 ((a3.2.1::(a3.1::[])),())))||(!a5)) then (bif (a5&&(decide ((f151 (f102 ((a3.2.1::(a3.1::[])),()))).1<(IntKind.wrap .i64 ((f105 (a0,a1,())).1.2.1+(2:Int)))))) then (some ((0:Int),(0:Int),(7:Int),()))
 else bif (((f102 ((a3.2.1::(a3.1::[])),())).1.length:Int)==(0:Int)) then (bif (p156 (a0,a2,())) then (some (f156 (a0,a2,())))
 else none)
 else bif (p107 e2_) then (some (e1_.1,e1_.2.1,(0:Int),()))
 else none)
 else none)
 else none)
 else none
theorem aKT (x:DenS EZ):run (cf [(121,⟨Jh,JB,p105,f105⟩),(122,⟨FD,E8,p102,f102⟩),(123,⟨Gd,Gp,p151,f151⟩),(124,⟨Mj,LJ,p156,f156⟩),(125,⟨I9,IP,p107,f107⟩)] []) 9 66 Tryz.f66 EZ Fj x=gF p105 f105 p102 f102 p151 f151 p156 f156 p107 f107 x.1 x.2.1 x.2.2.1 x.2.2.2.1 x.2.2.2.2.1 x.2.2.2.2.2.1:=by kernel_rfl
def RT (x:DenS EZ):Option (DenS Fj):=gF EN.pre EN.F Bh.pre Bh.F Ce.pre Ce.F In.pre In.F EG.pre EG.F x.1 x.2.1 x.2.2.1 x.2.2.2.1 x.2.2.2.2.1 x.2.2.2.2.2.1
def A3:Sum:=Al EZ Fj RT (DenS.dflt Fj)
theorem TT:Sound Tryz.prog G1 66 A3:=sd (cf [(121,EN),(122,Bh),(123,Ce),(124,In),(125,EG)] []) 66 Tryz.f66 ⟨nM,X2,XX,aEp,uC,trivial⟩ trivial EZ Fj RT _ (fun _=>aKT ..)
abbrev HS:=Ak EZ
abbrev Iw:=Aj EZ Fj
variable (p122:HS) (f122:Iw)
end Vx
namespace Vx
open Go Go.Proofs
variable (p119:Y2) (f119:Y4) (p120:vW) (f120:wP) (p121:uD) (f121:oB) (p123:SD) (f123:SN) (p124:qT) (f124:wV) (p118:Ib) (f118:Id) (p122:HS) (f122:Iw)
abbrev Qz:Ab:=[(false,.int .i64),(false,.int .i64),(true,.pair (.bool) (.pair (.int .u64) (.pair (.int .i64) (.unit)))),(true,.pair (.bool) (.pair (.int .u64) (.pair (.int .i64) (.unit))))]
abbrev Jr:Ab:=[(false,.int .u64),(false,.int .i64),(false,.int .i64)]
def jZ (p119:DenS HY→Bool) (f119:DenS HY→DenS JP) (p120:DenS IX→Bool) (f120:DenS IX→DenS M6) (p121:DenS J1→Bool) (f121:DenS J1→DenS Mr) (p123:DenS G5→Bool) (f123:DenS G5→DenS HN) (p124:DenS JX→Bool) (f124:DenS JX→DenS KS) (p118:DenS E1→Bool) (f118:DenS E1→DenS FG) (p122:DenS EZ→Bool) (f122:DenS EZ→DenS Fj) (f m:Int) (nx:Bool) (X ex:Int) (ny:Bool) (Y ey:Int):Option (DenS Jr) :=
 bif (p119 (((0:Int),(X,())),((if ((70:Int)<(IntKind.wrap .i64 (ex-ey))) then (70:Int) else (IntKind.wrap .i64 (ex-ey))),()))) then
 (bif (p120 (((0:Int),(Y,())),((IntKind.wrap .i64 ((IntKind.wrap .i64 (ex-(if ((70:Int)<(IntKind.wrap .i64 (ex-ey))) then (70:Int) else (IntKind.wrap .i64 (ex-ey)))))-ey)),()))) then
 (bif (p119 ((f120 (((0:Int),(Y,())),((IntKind.wrap .i64 ((IntKind.wrap .i64 (ex-(if ((70:Int)<(IntKind.wrap .i64 (ex-ey))) then (70:Int) else (IntKind.wrap .i64 (ex-ey)))))-ey)),()))).1,((IntKind.wrap .i64 ((IntKind.wrap .i64 (ex-(if ((70:Int)<(IntKind.wrap .i64 (ex-ey))) then (70:Int) else (IntKind.wrap .i64 (ex-ey)))))-ey)),()))) then
 (bif (p120 (((0:Int),(Y,())),((IntKind.wrap .i64 ((IntKind.wrap .i64 (ex-(if ((70:Int)<(IntKind.wrap .i64 (ex-ey))) then (70:Int) else (IntKind.wrap .i64 (ex-ey)))))-ey)),()))) then
 (bif (nx==ny) then
 (bif (p121 ((f119 (((0:Int),(X,())),((if ((70:Int)<(IntKind.wrap .i64 (ex-ey))) then (70:Int) else (IntKind.wrap .i64 (ex-ey))),()))).1,(f120 (((0:Int),(Y,())),((IntKind.wrap .i64 ((IntKind.wrap .i64 (ex-(if ((70:Int)<(IntKind.wrap .i64 (ex-ey))) then (70:Int) else (IntKind.wrap .i64 (ex-ey)))))-ey)),()))))) then
 (bif (p122 (f,(m,(nx,((f121 ((f119 (((0:Int),(X,())),((if ((70:Int)<(IntKind.wrap .i64 (ex-ey))) then (70:Int) else (IntKind.wrap .i64 (ex-ey))),()))).1,(f120 (((0:Int),(Y,())),((IntKind.wrap .i64 ((IntKind.wrap .i64 (ex-(if ((70:Int)<(IntKind.wrap .i64 (ex-ey))) then (70:Int) else (IntKind.wrap .i64 (ex-ey)))))-ey)),()))))).1,((IntKind.wrap .i64 (ex-(if ((70:Int)<(IntKind.wrap .i64 (ex-ey))) then (70:Int) else (IntKind.wrap .i64 (ex-ey))))),(((!(((f119 ((f120 (((0:Int),(Y,())),((IntKind.wrap .i64 ((IntKind.wrap .i64 (ex-(if ((70:Int)<(IntKind.wrap .i64 (ex-ey))) then (70:Int) else (IntKind.wrap .i64 (ex-ey)))))-ey)),()))).1,((IntKind.wrap .i64 ((IntKind.wrap .i64 (ex-(if ((70:Int)<(IntKind.wrap .i64 (ex-ey))) then (70:Int) else (IntKind.wrap .i64 (ex-ey)))))-ey)),()))).1.1==(0:Int))&&((f119 ((f120 (((0:Int),(Y,())),((IntKind.wrap .i64 ((IntKind.wrap .i64 (ex-(if ((70:Int)<(IntKind.wrap .i64 (ex-ey))) then (70:Int) else (IntKind.wrap .i64 (ex-ey)))))-ey)),()))).1,((IntKind.wrap .i64 ((IntKind.wrap .i64 (ex-(if ((70:Int)<(IntKind.wrap .i64 (ex-ey))) then (70:Int) else (IntKind.wrap .i64 (ex-ey)))))-ey)),()))).1.2.1==Y)))||((decide ((IntKind.wrap .i64 ((IntKind.wrap .i64 (ex-(if ((70:Int)<(IntKind.wrap .i64 (ex-ey))) then (70:Int) else (IntKind.wrap .i64 (ex-ey)))))-ey))>(63:Int)))&&(Y != (0:Int)))),()))))))) then
 (some (f122 (f,(m,(nx,((f121 ((f119 (((0:Int),(X,())),((if ((70:Int)<(IntKind.wrap .i64 (ex-ey))) then (70:Int) else (IntKind.wrap .i64 (ex-ey))),()))).1,(f120 (((0:Int),(Y,())),((IntKind.wrap .i64 ((IntKind.wrap .i64 (ex-(if ((70:Int)<(IntKind.wrap .i64 (ex-ey))) then (70:Int) else (IntKind.wrap .i64 (ex-ey)))))-ey)),()))))).1,((IntKind.wrap .i64 (ex-(if ((70:Int)<(IntKind.wrap .i64 (ex-ey))) then (70:Int) else (IntKind.wrap .i64 (ex-ey))))),(((!(((f119 ((f120 (((0:Int),(Y,())),((IntKind.wrap .i64 ((IntKind.wrap .i64 (ex-(if ((70:Int)<(IntKind.wrap .i64 (ex-ey))) then (70:Int) else (IntKind.wrap .i64 (ex-ey)))))-ey)),()))).1,((IntKind.wrap .i64 ((IntKind.wrap .i64 (ex-(if ((70:Int)<(IntKind.wrap .i64 (ex-ey))) then (70:Int) else (IntKind.wrap .i64 (ex-ey)))))-ey)),()))).1.1==(0:Int))&&((f119 ((f120 (((0:Int),(Y,())),((IntKind.wrap .i64 ((IntKind.wrap .i64 (ex-(if ((70:Int)<(IntKind.wrap .i64 (ex-ey))) then (70:Int) else (IntKind.wrap .i64 (ex-ey)))))-ey)),()))).1,((IntKind.wrap .i64 ((IntKind.wrap .i64 (ex-(if ((70:Int)<(IntKind.wrap .i64 (ex-ey))) then (70:Int) else (IntKind.wrap .i64 (ex-ey)))))-ey)),()))).1.2.1==Y)))||((decide ((IntKind.wrap .i64 ((IntKind.wrap .i64 (ex-(if ((70:Int)<(IntKind.wrap .i64 (ex-ey))) then (70:Int) else (IntKind.wrap .i64 (ex-ey)))))-ey))>(63:Int)))&&(Y != (0:Int)))),()))))))))
 else none)
 else none)
 else bif (p123 ((f119 (((0:Int),(X,())),((if ((70:Int)<(IntKind.wrap .i64 (ex-ey))) then (70:Int) else (IntKind.wrap .i64 (ex-ey))),()))).1,(f120 (((0:Int),(Y,())),((IntKind.wrap .i64 ((IntKind.wrap .i64 (ex-(if ((70:Int)<(IntKind.wrap .i64 (ex-ey))) then (70:Int) else (IntKind.wrap .i64 (ex-ey)))))-ey)),()))))) then
 (bif (decide ((f123 ((f119 (((0:Int),(X,())),((if ((70:Int)<(IntKind.wrap .i64 (ex-ey))) then (70:Int) else (IntKind.wrap .i64 (ex-ey))),()))).1,(f120 (((0:Int),(Y,())),((IntKind.wrap .i64 ((IntKind.wrap .i64 (ex-(if ((70:Int)<(IntKind.wrap .i64 (ex-ey))) then (70:Int) else (IntKind.wrap .i64 (ex-ey)))))-ey)),()))))).1<(0:Int))) then
 (bif (p124 ((f120 (((0:Int),(Y,())),((IntKind.wrap .i64 ((IntKind.wrap .i64 (ex-(if ((70:Int)<(IntKind.wrap .i64 (ex-ey))) then (70:Int) else (IntKind.wrap .i64 (ex-ey)))))-ey)),()))).1,(f119 (((0:Int),(X,())),((if ((70:Int)<(IntKind.wrap .i64 (ex-ey))) then (70:Int) else (IntKind.wrap .i64 (ex-ey))),()))))) then
 (bif ((!(((f119 ((f120 (((0:Int),(Y,())),((IntKind.wrap .i64 ((IntKind.wrap .i64 (ex-(if ((70:Int)<(IntKind.wrap .i64 (ex-ey))) then (70:Int) else (IntKind.wrap .i64 (ex-ey)))))-ey)),()))).1,((IntKind.wrap .i64 ((IntKind.wrap .i64 (ex-(if ((70:Int)<(IntKind.wrap .i64 (ex-ey))) then (70:Int) else (IntKind.wrap .i64 (ex-ey)))))-ey)),()))).1.1==(0:Int))&&((f119 ((f120 (((0:Int),(Y,())),((IntKind.wrap .i64 ((IntKind.wrap .i64 (ex-(if ((70:Int)<(IntKind.wrap .i64 (ex-ey))) then (70:Int) else (IntKind.wrap .i64 (ex-ey)))))-ey)),()))).1,((IntKind.wrap .i64 ((IntKind.wrap .i64 (ex-(if ((70:Int)<(IntKind.wrap .i64 (ex-ey))) then (70:Int) else (IntKind.wrap .i64 (ex-ey)))))-ey)),()))).1.2.1==Y)))||((decide ((IntKind.wrap .i64 ((IntKind.wrap .i64 (ex-(if ((70:Int)<(IntKind.wrap .i64 (ex-ey))) then (70:Int) else (IntKind.wrap .i64 (ex-ey)))))-ey))>(63:Int)))&&(Y != (0:Int)))) then
 (bif (p124 ((f124 ((f120 (((0:Int),(Y,())),((IntKind.wrap .i64 ((IntKind.wrap .i64 (ex-(if ((70:Int)<(IntKind.wrap .i64 (ex-ey))) then (70:Int) else (IntKind.wrap .i64 (ex-ey)))))-ey)),()))).1,(f119 (((0:Int),(X,())),((if ((70:Int)<(IntKind.wrap .i64 (ex-ey))) then (70:Int) else (IntKind.wrap .i64 (ex-ey))),()))))).1,(((0:Int),((1:Int),())),()))) then
 (bif ((((f124 ((f124 ((f120 (((0:Int),(Y,())),((IntKind.wrap .i64 ((IntKind.wrap .i64 (ex-(if ((70:Int)<(IntKind.wrap .i64 (ex-ey))) then (70:Int) else (IntKind.wrap .i64 (ex-ey)))))-ey)),()))).1,(f119 (((0:Int),(X,())),((if ((70:Int)<(IntKind.wrap .i64 (ex-ey))) then (70:Int) else (IntKind.wrap .i64 (ex-ey))),()))))).1,(((0:Int),((1:Int),())),()))).1.1==(0:Int))&&((f124 ((f124 ((f120 (((0:Int),(Y,())),((IntKind.wrap .i64 ((IntKind.wrap .i64 (ex-(if ((70:Int)<(IntKind.wrap .i64 (ex-ey))) then (70:Int) else (IntKind.wrap .i64 (ex-ey)))))-ey)),()))).1,(f119 (((0:Int),(X,())),((if ((70:Int)<(IntKind.wrap .i64 (ex-ey))) then (70:Int) else (IntKind.wrap .i64 (ex-ey))),()))))).1,(((0:Int),((1:Int),())),()))).1.2.1==(0:Int)))&&(!((!(((f119 ((f120 (((0:Int),(Y,())),((IntKind.wrap .i64 ((IntKind.wrap .i64 (ex-(if ((70:Int)<(IntKind.wrap .i64 (ex-ey))) then (70:Int) else (IntKind.wrap .i64 (ex-ey)))))-ey)),()))).1,((IntKind.wrap .i64 ((IntKind.wrap .i64 (ex-(if ((70:Int)<(IntKind.wrap .i64 (ex-ey))) then (70:Int) else (IntKind.wrap .i64 (ex-ey)))))-ey)),()))).1.1==(0:Int))&&((f119 ((f120 (((0:Int),(Y,())),((IntKind.wrap .i64 ((IntKind.wrap .i64 (ex-(if ((70:Int)<(IntKind.wrap .i64 (ex-ey))) then (70:Int) else (IntKind.wrap .i64 (ex-ey)))))-ey)),()))).1,((IntKind.wrap .i64 ((IntKind.wrap .i64 (ex-(if ((70:Int)<(IntKind.wrap .i64 (ex-ey))) then (70:Int) else (IntKind.wrap .i64 (ex-ey)))))-ey)),()))).1.2.1==Y)))||((decide ((IntKind.wrap .i64 ((IntKind.wrap .i64 (ex-(if ((70:Int)<(IntKind.wrap .i64 (ex-ey))) then (70:Int) else (IntKind.wrap .i64 (ex-ey)))))-ey))>(63:Int)))&&(Y != (0:Int)))))) then
 (bif (p118 (f,((m==(4:Int)),()))) then
 (some ((f118 (f,((m==(4:Int)),()))).1,((0:Int),((0:Int),()))))
 else none)
 else bif (p122 (f,(m,(ny,((f124 ((f124 ((f120 (((0:Int),(Y,())),((IntKind.wrap .i64 ((IntKind.wrap .i64 (ex-(if ((70:Int)<(IntKind.wrap .i64 (ex-ey))) then (70:Int) else (IntKind.wrap .i64 (ex-ey)))))-ey)),()))).1,(f119 (((0:Int),(X,())),((if ((70:Int)<(IntKind.wrap .i64 (ex-ey))) then (70:Int) else (IntKind.wrap .i64 (ex-ey))),()))))).1,(((0:Int),((1:Int),())),()))).1,((IntKind.wrap .i64 (ex-(if ((70:Int)<(IntKind.wrap .i64 (ex-ey))) then (70:Int) else (IntKind.wrap .i64 (ex-ey))))),(((!(((f119 ((f120 (((0:Int),(Y,())),((IntKind.wrap .i64 ((IntKind.wrap .i64 (ex-(if ((70:Int)<(IntKind.wrap .i64 (ex-ey))) then (70:Int) else (IntKind.wrap .i64 (ex-ey)))))-ey)),()))).1,((IntKind.wrap .i64 ((IntKind.wrap .i64 (ex-(if ((70:Int)<(IntKind.wrap .i64 (ex-ey))) then (70:Int) else (IntKind.wrap .i64 (ex-ey)))))-ey)),()))).1.1==(0:Int))&&((f119 ((f120 (((0:Int),(Y,())),((IntKind.wrap .i64 ((IntKind.wrap .i64 (ex-(if ((70:Int)<(IntKind.wrap .i64 (ex-ey))) then (70:Int) else (IntKind.wrap .i64 (ex-ey)))))-ey)),()))).1,((IntKind.wrap .i64 ((IntKind.wrap .i64 (ex-(if ((70:Int)<(IntKind.wrap .i64 (ex-ey))) then (70:Int) else (IntKind.wrap .i64 (ex-ey)))))-ey)),()))).1.2.1==Y)))||((decide ((IntKind.wrap .i64 ((IntKind.wrap .i64 (ex-(if ((70:Int)<(IntKind.wrap .i64 (ex-ey))) then (70:Int) else (IntKind.wrap .i64 (ex-ey)))))-ey))>(63:Int)))&&(Y != (0:Int)))),()))))))) then
 (some (f122 (f,(m,(ny,((f124 ((f124 ((f120 (((0:Int),(Y,())),((IntKind.wrap .i64 ((IntKind.wrap .i64 (ex-(if ((70:Int)<(IntKind.wrap .i64 (ex-ey))) then (70:Int) else (IntKind.wrap .i64 (ex-ey)))))-ey)),()))).1,(f119 (((0:Int),(X,())),((if ((70:Int)<(IntKind.wrap .i64 (ex-ey))) then (70:Int) else (IntKind.wrap .i64 (ex-ey))),()))))).1,(((0:Int),((1:Int),())),()))).1,((IntKind.wrap .i64 (ex-(if ((70:Int)<(IntKind.wrap .i64 (ex-ey))) then (70:Int) else (IntKind.wrap .i64 (ex-ey))))),(((!(((f119 ((f120 (((0:Int),(Y,())),((IntKind.wrap .i64 ((IntKind.wrap .i64 (ex-(if ((70:Int)<(IntKind.wrap .i64 (ex-ey))) then (70:Int) else (IntKind.wrap .i64 (ex-ey)))))-ey)),()))).1,((IntKind.wrap .i64 ((IntKind.wrap .i64 (ex-(if ((70:Int)<(IntKind.wrap .i64 (ex-ey))) then (70:Int) else (IntKind.wrap .i64 (ex-ey)))))-ey)),()))).1.1==(0:Int))&&((f119 ((f120 (((0:Int),(Y,())),((IntKind.wrap .i64 ((IntKind.wrap .i64 (ex-(if ((70:Int)<(IntKind.wrap .i64 (ex-ey))) then (70:Int) else (IntKind.wrap .i64 (ex-ey)))))-ey)),()))).1,((IntKind.wrap .i64 ((IntKind.wrap .i64 (ex-(if ((70:Int)<(IntKind.wrap .i64 (ex-ey))) then (70:Int) else (IntKind.wrap .i64 (ex-ey)))))-ey)),()))).1.2.1==Y)))||((decide ((IntKind.wrap .i64 ((IntKind.wrap .i64 (ex-(if ((70:Int)<(IntKind.wrap .i64 (ex-ey))) then (70:Int) else (IntKind.wrap .i64 (ex-ey)))))-ey))>(63:Int)))&&(Y != (0:Int)))),()))))))))
 else none)
 else none)
 else bif ((((f124 ((f120 (((0:Int),(Y,())),((IntKind.wrap .i64 ((IntKind.wrap .i64 (ex-(if ((70:Int)<(IntKind.wrap .i64 (ex-ey))) then (70:Int) else (IntKind.wrap .i64 (ex-ey)))))-ey)),()))).1,(f119 (((0:Int),(X,())),((if ((70:Int)<(IntKind.wrap .i64 (ex-ey))) then (70:Int) else (IntKind.wrap .i64 (ex-ey))),()))))).1.1==(0:Int))&&((f124 ((f120 (((0:Int),(Y,())),((IntKind.wrap .i64 ((IntKind.wrap .i64 (ex-(if ((70:Int)<(IntKind.wrap .i64 (ex-ey))) then (70:Int) else (IntKind.wrap .i64 (ex-ey)))))-ey)),()))).1,(f119 (((0:Int),(X,())),((if ((70:Int)<(IntKind.wrap .i64 (ex-ey))) then (70:Int) else (IntKind.wrap .i64 (ex-ey))),()))))).1.2.1==(0:Int)))&&(!((!(((f119 ((f120 (((0:Int),(Y,())),((IntKind.wrap .i64 ((IntKind.wrap .i64 (ex-(if ((70:Int)<(IntKind.wrap .i64 (ex-ey))) then (70:Int) else (IntKind.wrap .i64 (ex-ey)))))-ey)),()))).1,((IntKind.wrap .i64 ((IntKind.wrap .i64 (ex-(if ((70:Int)<(IntKind.wrap .i64 (ex-ey))) then (70:Int) else (IntKind.wrap .i64 (ex-ey)))))-ey)),()))).1.1==(0:Int))&&((f119 ((f120 (((0:Int),(Y,())),((IntKind.wrap .i64 ((IntKind.wrap .i64 (ex-(if ((70:Int)<(IntKind.wrap .i64 (ex-ey))) then (70:Int) else (IntKind.wrap .i64 (ex-ey)))))-ey)),()))).1,((IntKind.wrap .i64 ((IntKind.wrap .i64 (ex-(if ((70:Int)<(IntKind.wrap .i64 (ex-ey))) then (70:Int) else (IntKind.wrap .i64 (ex-ey)))))-ey)),()))).1.2.1==Y)))||((decide ((IntKind.wrap .i64 ((IntKind.wrap .i64 (ex-(if ((70:Int)<(IntKind.wrap .i64 (ex-ey))) then (70:Int) else (IntKind.wrap .i64 (ex-ey)))))-ey))>(63:Int)))&&(Y != (0:Int)))))) then
 (bif (p118 (f,((m==(4:Int)),()))) then
 (some ((f118 (f,((m==(4:Int)),()))).1,((0:Int),((0:Int),()))))
 else none)
 else bif (p122 (f,(m,(ny,((f124 ((f120 (((0:Int),(Y,())),((IntKind.wrap .i64 ((IntKind.wrap .i64 (ex-(if ((70:Int)<(IntKind.wrap .i64 (ex-ey))) then (70:Int) else (IntKind.wrap .i64 (ex-ey)))))-ey)),()))).1,(f119 (((0:Int),(X,())),((if ((70:Int)<(IntKind.wrap .i64 (ex-ey))) then (70:Int) else (IntKind.wrap .i64 (ex-ey))),()))))).1,((IntKind.wrap .i64 (ex-(if ((70:Int)<(IntKind.wrap .i64 (ex-ey))) then (70:Int) else (IntKind.wrap .i64 (ex-ey))))),(((!(((f119 ((f120 (((0:Int),(Y,())),((IntKind.wrap .i64 ((IntKind.wrap .i64 (ex-(if ((70:Int)<(IntKind.wrap .i64 (ex-ey))) then (70:Int) else (IntKind.wrap .i64 (ex-ey)))))-ey)),()))).1,((IntKind.wrap .i64 ((IntKind.wrap .i64 (ex-(if ((70:Int)<(IntKind.wrap .i64 (ex-ey))) then (70:Int) else (IntKind.wrap .i64 (ex-ey)))))-ey)),()))).1.1==(0:Int))&&((f119 ((f120 (((0:Int),(Y,())),((IntKind.wrap .i64 ((IntKind.wrap .i64 (ex-(if ((70:Int)<(IntKind.wrap .i64 (ex-ey))) then (70:Int) else (IntKind.wrap .i64 (ex-ey)))))-ey)),()))).1,((IntKind.wrap .i64 ((IntKind.wrap .i64 (ex-(if ((70:Int)<(IntKind.wrap .i64 (ex-ey))) then (70:Int) else (IntKind.wrap .i64 (ex-ey)))))-ey)),()))).1.2.1==Y)))||((decide ((IntKind.wrap .i64 ((IntKind.wrap .i64 (ex-(if ((70:Int)<(IntKind.wrap .i64 (ex-ey))) then (70:Int) else (IntKind.wrap .i64 (ex-ey)))))-ey))>(63:Int)))&&(Y != (0:Int)))),()))))))) then
 (some (f122 (f,(m,(ny,((f124 ((f120 (((0:Int),(Y,())),((IntKind.wrap .i64 ((IntKind.wrap .i64 (ex-(if ((70:Int)<(IntKind.wrap .i64 (ex-ey))) then (70:Int) else (IntKind.wrap .i64 (ex-ey)))))-ey)),()))).1,(f119 (((0:Int),(X,())),((if ((70:Int)<(IntKind.wrap .i64 (ex-ey))) then (70:Int) else (IntKind.wrap .i64 (ex-ey))),()))))).1,((IntKind.wrap .i64 (ex-(if ((70:Int)<(IntKind.wrap .i64 (ex-ey))) then (70:Int) else (IntKind.wrap .i64 (ex-ey))))),(((!(((f119 ((f120 (((0:Int),(Y,())),((IntKind.wrap .i64 ((IntKind.wrap .i64 (ex-(if ((70:Int)<(IntKind.wrap .i64 (ex-ey))) then (70:Int) else (IntKind.wrap .i64 (ex-ey)))))-ey)),()))).1,((IntKind.wrap .i64 ((IntKind.wrap .i64 (ex-(if ((70:Int)<(IntKind.wrap .i64 (ex-ey))) then (70:Int) else (IntKind.wrap .i64 (ex-ey)))))-ey)),()))).1.1==(0:Int))&&((f119 ((f120 (((0:Int),(Y,())),((IntKind.wrap .i64 ((IntKind.wrap .i64 (ex-(if ((70:Int)<(IntKind.wrap .i64 (ex-ey))) then (70:Int) else (IntKind.wrap .i64 (ex-ey)))))-ey)),()))).1,((IntKind.wrap .i64 ((IntKind.wrap .i64 (ex-(if ((70:Int)<(IntKind.wrap .i64 (ex-ey))) then (70:Int) else (IntKind.wrap .i64 (ex-ey)))))-ey)),()))).1.2.1==Y)))||((decide ((IntKind.wrap .i64 ((IntKind.wrap .i64 (ex-(if ((70:Int)<(IntKind.wrap .i64 (ex-ey))) then (70:Int) else (IntKind.wrap .i64 (ex-ey)))))-ey))>(63:Int)))&&(Y != (0:Int)))),()))))))))
 else none)
 else none)
 else bif (p124 ((f119 (((0:Int),(X,())),((if ((70:Int)<(IntKind.wrap .i64 (ex-ey))) then (70:Int) else (IntKind.wrap .i64 (ex-ey))),()))).1,(f120 (((0:Int),(Y,())),((IntKind.wrap .i64 ((IntKind.wrap .i64 (ex-(if ((70:Int)<(IntKind.wrap .i64 (ex-ey))) then (70:Int) else (IntKind.wrap .i64 (ex-ey)))))-ey)),()))))) then
 (bif ((!(((f119 ((f120 (((0:Int),(Y,())),((IntKind.wrap .i64 ((IntKind.wrap .i64 (ex-(if ((70:Int)<(IntKind.wrap .i64 (ex-ey))) then (70:Int) else (IntKind.wrap .i64 (ex-ey)))))-ey)),()))).1,((IntKind.wrap .i64 ((IntKind.wrap .i64 (ex-(if ((70:Int)<(IntKind.wrap .i64 (ex-ey))) then (70:Int) else (IntKind.wrap .i64 (ex-ey)))))-ey)),()))).1.1==(0:Int))&&((f119 ((f120 (((0:Int),(Y,())),((IntKind.wrap .i64 ((IntKind.wrap .i64 (ex-(if ((70:Int)<(IntKind.wrap .i64 (ex-ey))) then (70:Int) else (IntKind.wrap .i64 (ex-ey)))))-ey)),()))).1,((IntKind.wrap .i64 ((IntKind.wrap .i64 (ex-(if ((70:Int)<(IntKind.wrap .i64 (ex-ey))) then (70:Int) else (IntKind.wrap .i64 (ex-ey)))))-ey)),()))).1.2.1==Y)))||((decide ((IntKind.wrap .i64 ((IntKind.wrap .i64 (ex-(if ((70:Int)<(IntKind.wrap .i64 (ex-ey))) then (70:Int) else (IntKind.wrap .i64 (ex-ey)))))-ey))>(63:Int)))&&(Y != (0:Int)))) then
 (bif (p124 ((f124 ((f119 (((0:Int),(X,())),((if ((70:Int)<(IntKind.wrap .i64 (ex-ey))) then (70:Int) else (IntKind.wrap .i64 (ex-ey))),()))).1,(f120 (((0:Int),(Y,())),((IntKind.wrap .i64 ((IntKind.wrap .i64 (ex-(if ((70:Int)<(IntKind.wrap .i64 (ex-ey))) then (70:Int) else (IntKind.wrap .i64 (ex-ey)))))-ey)),()))))).1,(((0:Int),((1:Int),())),()))) then
 (bif ((((f124 ((f124 ((f119 (((0:Int),(X,())),((if ((70:Int)<(IntKind.wrap .i64 (ex-ey))) then (70:Int) else (IntKind.wrap .i64 (ex-ey))),()))).1,(f120 (((0:Int),(Y,())),((IntKind.wrap .i64 ((IntKind.wrap .i64 (ex-(if ((70:Int)<(IntKind.wrap .i64 (ex-ey))) then (70:Int) else (IntKind.wrap .i64 (ex-ey)))))-ey)),()))))).1,(((0:Int),((1:Int),())),()))).1.1==(0:Int))&&((f124 ((f124 ((f119 (((0:Int),(X,())),((if ((70:Int)<(IntKind.wrap .i64 (ex-ey))) then (70:Int) else (IntKind.wrap .i64 (ex-ey))),()))).1,(f120 (((0:Int),(Y,())),((IntKind.wrap .i64 ((IntKind.wrap .i64 (ex-(if ((70:Int)<(IntKind.wrap .i64 (ex-ey))) then (70:Int) else (IntKind.wrap .i64 (ex-ey)))))-ey)),()))))).1,(((0:Int),((1:Int),())),()))).1.2.1==(0:Int)))&&(!((!(((f119 ((f120 (((0:Int),(Y,())),((IntKind.wrap .i64 ((IntKind.wrap .i64 (ex-(if ((70:Int)<(IntKind.wrap .i64 (ex-ey))) then (70:Int) else (IntKind.wrap .i64 (ex-ey)))))-ey)),()))).1,((IntKind.wrap .i64 ((IntKind.wrap .i64 (ex-(if ((70:Int)<(IntKind.wrap .i64 (ex-ey))) then (70:Int) else (IntKind.wrap .i64 (ex-ey)))))-ey)),()))).1.1==(0:Int))&&((f119 ((f120 (((0:Int),(Y,())),((IntKind.wrap .i64 ((IntKind.wrap .i64 (ex-(if ((70:Int)<(IntKind.wrap .i64 (ex-ey))) then (70:Int) else (IntKind.wrap .i64 (ex-ey)))))-ey)),()))).1,((IntKind.wrap .i64 ((IntKind.wrap .i64 (ex-(if ((70:Int)<(IntKind.wrap .i64 (ex-ey))) then (70:Int) else (IntKind.wrap .i64 (ex-ey)))))-ey)),()))).1.2.1==Y)))||((decide ((IntKind.wrap .i64 ((IntKind.wrap .i64 (ex-(if ((70:Int)<(IntKind.wrap .i64 (ex-ey))) then (70:Int) else (IntKind.wrap .i64 (ex-ey)))))-ey))>(63:Int)))&&(Y != (0:Int)))))) then
 (bif (p118 (f,((m==(4:Int)),()))) then
 (some ((f118 (f,((m==(4:Int)),()))).1,((0:Int),((0:Int),()))))
 else none)
 else bif (p122 (f,(m,(nx,((f124 ((f124 ((f119 (((0:Int),(X,())),((if ((70:Int)<(IntKind.wrap .i64 (ex-ey))) then (70:Int) else (IntKind.wrap .i64 (ex-ey))),()))).1,(f120 (((0:Int),(Y,())),((IntKind.wrap .i64 ((IntKind.wrap .i64 (ex-(if ((70:Int)<(IntKind.wrap .i64 (ex-ey))) then (70:Int) else (IntKind.wrap .i64 (ex-ey)))))-ey)),()))))).1,(((0:Int),((1:Int),())),()))).1,((IntKind.wrap .i64 (ex-(if ((70:Int)<(IntKind.wrap .i64 (ex-ey))) then (70:Int) else (IntKind.wrap .i64 (ex-ey))))),(((!(((f119 ((f120 (((0:Int),(Y,())),((IntKind.wrap .i64 ((IntKind.wrap .i64 (ex-(if ((70:Int)<(IntKind.wrap .i64 (ex-ey))) then (70:Int) else (IntKind.wrap .i64 (ex-ey)))))-ey)),()))).1,((IntKind.wrap .i64 ((IntKind.wrap .i64 (ex-(if ((70:Int)<(IntKind.wrap .i64 (ex-ey))) then (70:Int) else (IntKind.wrap .i64 (ex-ey)))))-ey)),()))).1.1==(0:Int))&&((f119 ((f120 (((0:Int),(Y,())),((IntKind.wrap .i64 ((IntKind.wrap .i64 (ex-(if ((70:Int)<(IntKind.wrap .i64 (ex-ey))) then (70:Int) else (IntKind.wrap .i64 (ex-ey)))))-ey)),()))).1,((IntKind.wrap .i64 ((IntKind.wrap .i64 (ex-(if ((70:Int)<(IntKind.wrap .i64 (ex-ey))) then (70:Int) else (IntKind.wrap .i64 (ex-ey)))))-ey)),()))).1.2.1==Y)))||((decide ((IntKind.wrap .i64 ((IntKind.wrap .i64 (ex-(if ((70:Int)<(IntKind.wrap .i64 (ex-ey))) then (70:Int) else (IntKind.wrap .i64 (ex-ey)))))-ey))>(63:Int)))&&(Y != (0:Int)))),()))))))) then
 (some (f122 (f,(m,(nx,((f124 ((f124 ((f119 (((0:Int),(X,())),((if ((70:Int)<(IntKind.wrap .i64 (ex-ey))) then (70:Int) else (IntKind.wrap .i64 (ex-ey))),()))).1,(f120 (((0:Int),(Y,())),((IntKind.wrap .i64 ((IntKind.wrap .i64 (ex-(if ((70:Int)<(IntKind.wrap .i64 (ex-ey))) then (70:Int) else (IntKind.wrap .i64 (ex-ey)))))-ey)),()))))).1,(((0:Int),((1:Int),())),()))).1,((IntKind.wrap .i64 (ex-(if ((70:Int)<(IntKind.wrap .i64 (ex-ey))) then (70:Int) else (IntKind.wrap .i64 (ex-ey))))),(((!(((f119 ((f120 (((0:Int),(Y,())),((IntKind.wrap .i64 ((IntKind.wrap .i64 (ex-(if ((70:Int)<(IntKind.wrap .i64 (ex-ey))) then (70:Int) else (IntKind.wrap .i64 (ex-ey)))))-ey)),()))).1,((IntKind.wrap .i64 ((IntKind.wrap .i64 (ex-(if ((70:Int)<(IntKind.wrap .i64 (ex-ey))) then (70:Int) else (IntKind.wrap .i64 (ex-ey)))))-ey)),()))).1.1==(0:Int))&&((f119 ((f120 (((0:Int),(Y,())),((IntKind.wrap .i64 ((IntKind.wrap .i64 (ex-(if ((70:Int)<(IntKind.wrap .i64 (ex-ey))) then (70:Int) else (IntKind.wrap .i64 (ex-ey)))))-ey)),()))).1,((IntKind.wrap .i64 ((IntKind.wrap .i64 (ex-(if ((70:Int)<(IntKind.wrap .i64 (ex-ey))) then (70:Int) else (IntKind.wrap .i64 (ex-ey)))))-ey)),()))).1.2.1==Y)))||((decide ((IntKind.wrap .i64 ((IntKind.wrap .i64 (ex-(if ((70:Int)<(IntKind.wrap .i64 (ex-ey))) then (70:Int) else (IntKind.wrap .i64 (ex-ey)))))-ey))>(63:Int)))&&(Y != (0:Int)))),()))))))))
 else none)
 else none)
 else bif ((((f124 ((f119 (((0:Int),(X,())),((if ((70:Int)<(IntKind.wrap .i64 (ex-ey))) then (70:Int) else (IntKind.wrap .i64 (ex-ey))),()))).1,(f120 (((0:Int),(Y,())),((IntKind.wrap .i64 ((IntKind.wrap .i64 (ex-(if ((70:Int)<(IntKind.wrap .i64 (ex-ey))) then (70:Int) else (IntKind.wrap .i64 (ex-ey)))))-ey)),()))))).1.1==(0:Int))&&((f124 ((f119 (((0:Int),(X,())),((if ((70:Int)<(IntKind.wrap .i64 (ex-ey))) then (70:Int) else (IntKind.wrap .i64 (ex-ey))),()))).1,(f120 (((0:Int),(Y,())),((IntKind.wrap .i64 ((IntKind.wrap .i64 (ex-(if ((70:Int)<(IntKind.wrap .i64 (ex-ey))) then (70:Int) else (IntKind.wrap .i64 (ex-ey)))))-ey)),()))))).1.2.1==(0:Int)))&&(!((!(((f119 ((f120 (((0:Int),(Y,())),((IntKind.wrap .i64 ((IntKind.wrap .i64 (ex-(if ((70:Int)<(IntKind.wrap .i64 (ex-ey))) then (70:Int) else (IntKind.wrap .i64 (ex-ey)))))-ey)),()))).1,((IntKind.wrap .i64 ((IntKind.wrap .i64 (ex-(if ((70:Int)<(IntKind.wrap .i64 (ex-ey))) then (70:Int) else (IntKind.wrap .i64 (ex-ey)))))-ey)),()))).1.1==(0:Int))&&((f119 ((f120 (((0:Int),(Y,())),((IntKind.wrap .i64 ((IntKind.wrap .i64 (ex-(if ((70:Int)<(IntKind.wrap .i64 (ex-ey))) then (70:Int) else (IntKind.wrap .i64 (ex-ey)))))-ey)),()))).1,((IntKind.wrap .i64 ((IntKind.wrap .i64 (ex-(if ((70:Int)<(IntKind.wrap .i64 (ex-ey))) then (70:Int) else (IntKind.wrap .i64 (ex-ey)))))-ey)),()))).1.2.1==Y)))||((decide ((IntKind.wrap .i64 ((IntKind.wrap .i64 (ex-(if ((70:Int)<(IntKind.wrap .i64 (ex-ey))) then (70:Int) else (IntKind.wrap .i64 (ex-ey)))))-ey))>(63:Int)))&&(Y != (0:Int)))))) then
 (bif (p118 (f,((m==(4:Int)),()))) then
 (some ((f118 (f,((m==(4:Int)),()))).1,((0:Int),((0:Int),()))))
 else none)
 else bif (p122 (f,(m,(nx,((f124 ((f119 (((0:Int),(X,())),((if ((70:Int)<(IntKind.wrap .i64 (ex-ey))) then (70:Int) else (IntKind.wrap .i64 (ex-ey))),()))).1,(f120 (((0:Int),(Y,())),((IntKind.wrap .i64 ((IntKind.wrap .i64 (ex-(if ((70:Int)<(IntKind.wrap .i64 (ex-ey))) then (70:Int) else (IntKind.wrap .i64 (ex-ey)))))-ey)),()))))).1,((IntKind.wrap .i64 (ex-(if ((70:Int)<(IntKind.wrap .i64 (ex-ey))) then (70:Int) else (IntKind.wrap .i64 (ex-ey))))),(((!(((f119 ((f120 (((0:Int),(Y,())),((IntKind.wrap .i64 ((IntKind.wrap .i64 (ex-(if ((70:Int)<(IntKind.wrap .i64 (ex-ey))) then (70:Int) else (IntKind.wrap .i64 (ex-ey)))))-ey)),()))).1,((IntKind.wrap .i64 ((IntKind.wrap .i64 (ex-(if ((70:Int)<(IntKind.wrap .i64 (ex-ey))) then (70:Int) else (IntKind.wrap .i64 (ex-ey)))))-ey)),()))).1.1==(0:Int))&&((f119 ((f120 (((0:Int),(Y,())),((IntKind.wrap .i64 ((IntKind.wrap .i64 (ex-(if ((70:Int)<(IntKind.wrap .i64 (ex-ey))) then (70:Int) else (IntKind.wrap .i64 (ex-ey)))))-ey)),()))).1,((IntKind.wrap .i64 ((IntKind.wrap .i64 (ex-(if ((70:Int)<(IntKind.wrap .i64 (ex-ey))) then (70:Int) else (IntKind.wrap .i64 (ex-ey)))))-ey)),()))).1.2.1==Y)))||((decide ((IntKind.wrap .i64 ((IntKind.wrap .i64 (ex-(if ((70:Int)<(IntKind.wrap .i64 (ex-ey))) then (70:Int) else (IntKind.wrap .i64 (ex-ey)))))-ey))>(63:Int)))&&(Y != (0:Int)))),()))))))) then
 (some (f122 (f,(m,(nx,((f124 ((f119 (((0:Int),(X,())),((if ((70:Int)<(IntKind.wrap .i64 (ex-ey))) then (70:Int) else (IntKind.wrap .i64 (ex-ey))),()))).1,(f120 (((0:Int),(Y,())),((IntKind.wrap .i64 ((IntKind.wrap .i64 (ex-(if ((70:Int)<(IntKind.wrap .i64 (ex-ey))) then (70:Int) else (IntKind.wrap .i64 (ex-ey)))))-ey)),()))))).1,((IntKind.wrap .i64 (ex-(if ((70:Int)<(IntKind.wrap .i64 (ex-ey))) then (70:Int) else (IntKind.wrap .i64 (ex-ey))))),(((!(((f119 ((f120 (((0:Int),(Y,())),((IntKind.wrap .i64 ((IntKind.wrap .i64 (ex-(if ((70:Int)<(IntKind.wrap .i64 (ex-ey))) then (70:Int) else (IntKind.wrap .i64 (ex-ey)))))-ey)),()))).1,((IntKind.wrap .i64 ((IntKind.wrap .i64 (ex-(if ((70:Int)<(IntKind.wrap .i64 (ex-ey))) then (70:Int) else (IntKind.wrap .i64 (ex-ey)))))-ey)),()))).1.1==(0:Int))&&((f119 ((f120 (((0:Int),(Y,())),((IntKind.wrap .i64 ((IntKind.wrap .i64 (ex-(if ((70:Int)<(IntKind.wrap .i64 (ex-ey))) then (70:Int) else (IntKind.wrap .i64 (ex-ey)))))-ey)),()))).1,((IntKind.wrap .i64 ((IntKind.wrap .i64 (ex-(if ((70:Int)<(IntKind.wrap .i64 (ex-ey))) then (70:Int) else (IntKind.wrap .i64 (ex-ey)))))-ey)),()))).1.2.1==Y)))||((decide ((IntKind.wrap .i64 ((IntKind.wrap .i64 (ex-(if ((70:Int)<(IntKind.wrap .i64 (ex-ey))) then (70:Int) else (IntKind.wrap .i64 (ex-ey)))))-ey))>(63:Int)))&&(Y != (0:Int)))),()))))))))
 else none)
 else none)
 else none)
 else none)
 else none)
 else none)
 else none
def t71 (p119:Y2) (f119:Y4) (p120:vW) (f120:wP) (p121:uD) (f121:oB) (p123:SD) (f123:SN) (p124:qT) (f124:wV) (p118:Ib) (f118:Id) (p122:HS) (f122:Iw) (a0 a1:Aa (.int .i64)) (a2 a3:Aa (.pair (.bool) (.pair (.int .u64) (.pair (.int .i64) (.unit))))):Option (DenS Jr) :=
 bif (((a2.2.1==(0:Int))&&(a3.2.1==(0:Int)))&&(a2.1==a3.1)) then
 (bif (p118 (a0,a2.1,())) then (some ((f118 (a0,a2.1,())).1,(0:Int),(0:Int),())) else none)
 else bif ((a2.2.1==(0:Int))||((a3.2.1 != (0:Int))&&(decide (a2.2.2.1<a3.2.2.1)))) then
 (bif (a2.2.1==(0:Int)) then (jZ p119 f119 p120 f120 p121 f121 p123 f123 p124 f124 p118 f118 p122 f122 a0 a1 a3.1 a3.2.1 a3.2.2.1 a2.1 a2.2.1 a3.2.2.1) else (jZ p119 f119 p120 f120 p121 f121 p123 f123 p124 f124 p118 f118 p122 f122 a0 a1 a3.1 a3.2.1 a3.2.2.1 a2.1 a2.2.1 a2.2.2.1))
 else bif (a3.2.1==(0:Int)) then (jZ p119 f119 p120 f120 p121 f121 p123 f123 p124 f124 p118 f118 p122 f122 a0 a1 a2.1 a2.2.1 a2.2.2.1 a3.1 a3.2.1 a2.2.2.1)
 else (jZ p119 f119 p120 f120 p121 f121 p123 f123 p124 f124 p118 f118 p122 f122 a0 a1 a2.1 a2.2.1 a2.2.2.1 a3.1 a3.2.1 a3.2.2.1)
theorem r71 (x:DenS Qz):run (cf [(114,⟨HY,JP,p119,f119⟩),(115,⟨IX,M6,p120,f120⟩),(116,⟨J1,Mr,p121,f121⟩),(117,⟨G5,HN,p123,f123⟩),(118,⟨JX,KS,p124,f124⟩),(38,⟨E1,FG,p118,f118⟩),(66,⟨EZ,Fj,p122,f122⟩)] []) 9 57 Tryz.f57 Qz Jr x=t71 p119 f119 p120 f120 p121 f121 p123 f123 p124 f124 p118 f118 p122 f122 x.1 x.2.1 x.2.2.1 x.2.2.2.1:=by kernel_rfl
def Uc (x:DenS Qz):Option (DenS Jr):=t71 AE.pre AE.F AK.pre AK.F Ma.pre Ma.F Dx.pre Dx.F BG.pre BG.F Be.pre Be.F A3.pre A3.F x.1 x.2.1 x.2.2.1 x.2.2.2.1
def Qk:Sum:=Al Qz Jr Uc (DenS.dflt Jr)
theorem aKS:Sound Tryz.prog G1 57 Qk:=sd (cf [(114,AE),(115,AK),(116,Ma),(117,Dx),(118,BG),(38,Be),(66,A3)] []) 57 Tryz.f57 ⟨aEH,aRL,aQ4,aBD,aLy,VA,TT,trivial⟩ trivial Qz Jr Uc _ (fun _=>r71 ..)
abbrev qP:=Ak Qz
abbrev wL:=Aj Qz Jr
variable (p71:qP) (f71:wL)
end Vx
namespace Vx
open Go Go.Proofs
variable (p69:BP) (f69:BK) (p66:Ci) (f66:Cl) (p91:Hr) (f91:HH) (p90:VU) (f90:W4) (p65:D5) (f65:D3) (p70:Ei) (f70:DW) (p98:IK) (f98:Ja) (p72:rC) (f72:qV) (p155:C5) (f155:Db) (p157:Ha) (f157:GP) (p118:Ib) (f118:Id) (p105:Tk) (f105:Tb) (p173:A4) (f173:A1) (p146:RW) (f146:RZ) (p102:GT) (f102:Hf) (p178:Ii) (f178:H5) (p151:KW) (f151:Mp) (p156:lR) (f156:aH) (p1173:Pt) (f1173:PD) (p171:RV) (f171:Sx) (p92:JT) (f92:Ji) (p186:Vt) (f186:UR) (p185:Tv) (f185:Ux) (p176:Uy) (f176:TZ) (p143:Qh) (f143:OL) (p97:Qc) (f97:PU) (p107:TN) (f107:Vq) (p122:HS) (f122:Iw) (p71:qP) (f71:wL)
abbrev J2:Ab:=[(false,.int .i64),(false,.int .i64),(false,.int .u64),(false,.int .u64)]
abbrev JW:Ab:=[(false,.int .u64),(false,.int .i64),(false,.int .i64)]
def gE (p69:BP) (f69:BK) (p65:D5) (f65:D3) (p70:Ei) (f70:DW) (p72:rC) (f72:qV) (p71:qP) (f71:wL) (a0 a1:Aa (.int .i64)) (a2 a3:Aa (.int .u64)):Option (DenS JW) :=
 let e1_:=(a0,a1,(f72 (a0,(f69 (a0,())).1,a2,())).1,(f72 (a0,(f69 (a0,())).1,a3,())))
 let e2_:=(((f65 (a0,a2,())).1==(2:Int))||((f65 (a0,a2,())).1==(9:Int)))
 let e3_:=(((f65 (a0,a3,())).1==(2:Int))||((f65 (a0,a3,())).1==(9:Int)))
 let e4_:=((f70 (a0,())).1,(1:Int),(0:Int),())
 bif (p69 (a0,())) then (bif ((f69 (a0,())).2.1 != (0:Int)) then (some ((0:Int),(0:Int),(f69 (a0,())).2))
 else bif ((decide (a1<(0:Int)))||(decide (a1>(5:Int)))) then (some ((0:Int),(0:Int),(3:Int),()))
 else bif (p65 (a0,a2,())) then (bif ((f65 (a0,a2,())).2.1 != (0:Int)) then (some ((0:Int),(0:Int),(f65 (a0,a2,())).2))
 else bif (p65 (a0,a3,())) then (bif ((f65 (a0,a3,())).2.1 != (0:Int)) then (some ((0:Int),(0:Int),(f65 (a0,a3,())).2))
 else bif (p70 (a0,())) then (bif (((f65 (a0,a2,())).1==(0:Int))||((f65 (a0,a3,())).1==(0:Int))) then (some e4_)
 else bif (((f65 (a0,a2,())).1==(1:Int))||((f65 (a0,a3,())).1==(1:Int))) then (some ((f70 (a0,())).1,(0:Int),(0:Int),()))
 else bif ((e2_&&e3_)&&((f65 (a0,a2,())).1 != (f65 (a0,a3,())).1)) then (some e4_)
 else bif e2_ then (some (a2,(0:Int),(0:Int),()))
 else bif e3_ then (some (a3,(0:Int),(0:Int),()))
 else bif (p72 (a0,(f69 (a0,())).1,a2,())) then (bif (p72 (a0,(f69 (a0,())).1,a3,())) then (bif (p71 e1_) then (some (f71 e1_))
 else none)
 else none)
 else none)
 else none)
 else none)
 else none)
 else none
theorem r27 (x:DenS J2):run (cf [(54,⟨Ch,Cj,p69,f69⟩),(55,⟨DB,DG,p65,f65⟩),(56,⟨DD,DH,p70,f70⟩),(58,⟨Pj,PK,p72,f72⟩),(57,⟨Qz,Jr,p71,f71⟩)] []) 9 15 Tryz.f15 J2 JW x=gE p69 f69 p65 f65 p70 f70 p72 f72 p71 f71 x.1 x.2.1 x.2.2.1 x.2.2.2.1:=by kernel_rfl
def Wm (x:DenS J2):Option (DenS JW):=gE Aq.pre Aq.F AB.pre AB.F AC.pre AC.F Nl.pre Nl.F Qk.pre Qk.F x.1 x.2.1 x.2.2.1 x.2.2.2.1
def DQ:Sum:=Al J2 JW Wm (DenS.dflt JW)
theorem j9:Sound Tryz.prog G1 15 DQ:=sd (cf [(54,Aq),(55,AB),(56,AC),(58,Nl),(57,Qk)] []) 15 Tryz.f15 ⟨Ek,G9,GL,aUH,aKS,trivial⟩ trivial J2 JW Wm _ (fun _=>r27 ..)
abbrev Zk:=Ak J2
abbrev Wt:=Aj J2 JW
variable (p27:Zk) (f27:Wt)
abbrev Jv:Ab:=[(false,.int .i64)]
abbrev J4:Ab:=[(false,.int .u64)]
def aBz (a0:Aa (.int .i64)):Option (DenS J4) :=
 let e1_:=(IntKind.wrap .i64 ((Vx.k_rows.getD (Int.toNat a0) ((0:Int),(0:Int),(0:Int),(0:Int),())).1-(1:Int)))
 bif ((decide ((0:Int)≤a0))&&(decide (a0<((4:Nat):Int)))) then (bif (decide ((0:Int)≤e1_)) then (some ((AQ .u64 (1:Int) e1_),()))
 else none)
 else none
theorem aLK (x:DenS Jv):run (cf [] []) 9 120 Tryz.f120 Jv J4 x=aBz x.1:=by kernel_rfl
def Yn (x:DenS Jv):Option (DenS J4):=aBz x.1
def Dm:Sum:=Al Jv J4 Yn (DenS.dflt J4)
theorem vE:Sound Tryz.prog G1 120 Dm:=sd (cf [] []) 120 Tryz.f120 trivial trivial Jv J4 Yn _ (fun _=>aLK ..)
abbrev ZF:=Ak Jv
abbrev Xk:=Aj Jv J4
variable (p115:ZF) (f115:Xk)
abbrev Ie:Ab:=[(false,.int .i64),(false,.int .u64)]
abbrev Ix:Ab:=[(false,.int .u64),(false,.int .i64)]
def Vv (p66:Ci) (f66:Cl) (p115:ZF) (f115:Xk) (a0:Aa (.int .i64)) (a1:Aa (.int .u64)):Option (DenS Ix) :=
 bif (p66 (a0,a1,())) then (bif ((f66 (a0,a1,())).1 != (0:Int)) then (some ((0:Int),(f66 (a0,a1,()))))
 else bif (p115 (a0,())) then (some ((jY .u64 a1 (f115 (a0,())).1),(0:Int),()))
 else none)
 else none
theorem r64 (x:DenS Ie):run (cf [(59,⟨CH,CJ,p66,f66⟩),(120,⟨Jv,J4,p115,f115⟩)] []) 9 60 Tryz.f60 Ie Ix x=Vv p66 f66 p115 f115 x.1 x.2.1:=by kernel_rfl
def Sl (x:DenS Ie):Option (DenS Ix):=Vv Ar.pre Ar.F Dm.pre Dm.F x.1 x.2.1
def C1:Sum:=Al Ie Ix Sl (DenS.dflt Ix)
theorem YX:Sound Tryz.prog G1 60 C1:=sd (cf [(59,Ar),(120,Dm)] []) 60 Tryz.f60 ⟨FU,vE,trivial⟩ trivial Ie Ix Sl _ (fun _=>r64 ..)
abbrev RG:=Ak Ie
abbrev Se:=Aj Ie Ix
variable (p64:RG) (f64:Se)
abbrev Ls:Ab:=[(false,.int .i64),(false,.int .i64),(false,.int .u64),(false,.int .u64)]
abbrev Kd:Ab:=[(false,.int .u64),(false,.int .i64),(false,.int .i64)]
def mL (p66:Ci) (f66:Cl) (p64:RG) (f64:Se) (p27:Zk) (f27:Wt) (a0 a1:Aa (.int .i64)) (a2 a3:Aa (.int .u64)):Option (DenS Kd) :=
 let e1_:=(a0,a1,a2,(f64 (a0,a3,())).1,())
 bif (p66 (a0,a3,())) then (bif ((f66 (a0,a3,())).1==(0:Int)) then (bif (p64 (a0,a3,())) then (bif (p27 e1_) then (some (f27 e1_))
 else none)
 else none)
 else bif (p27 (a0,a1,a2,a3,())) then (some (f27 (a0,a1,a2,a3,())))
 else none)
 else none
theorem r25 (x:DenS Ls):run (cf [(59,⟨CH,CJ,p66,f66⟩),(60,⟨Ie,Ix,p64,f64⟩),(15,⟨J2,JW,p27,f27⟩)] []) 9 16 Tryz.f16 Ls Kd x=mL p66 f66 p64 f64 p27 f27 x.1 x.2.1 x.2.2.1 x.2.2.2.1:=by kernel_rfl
def Xq (x:DenS Ls):Option (DenS Kd):=mL Ar.pre Ar.F C1.pre C1.F DQ.pre DQ.F x.1 x.2.1 x.2.2.1 x.2.2.2.1
def Fi:Sum:=Al Ls Kd Xq (DenS.dflt Kd)
theorem tT:Sound Tryz.prog G1 16 Fi:=sd (cf [(59,Ar),(60,C1),(15,DQ)] []) 16 Tryz.f16 ⟨FU,YX,j9,trivial⟩ trivial Ls Kd Xq _ (fun _=>r25 ..)
abbrev eQ:=Ak Ls
abbrev jL:=Aj Ls Kd
variable (p25:eQ) (f25:jL)
abbrev Rg:Ab:=[(false,.int .i64),(true,.pair (.int .i64) (.pair (.int .i64) (.pair (.int .i64) (.pair (.int .i64) (.unit))))),(false,.int .u64)]
abbrev P5:Ab:=[(true,.pair (.int .i64) (.pair (.bool) (.pair (.int .u64) (.pair (.int .i64) (.unit))))),(false,.int .i64)]
def Uw (p65:D5) (f65:D3) (p98:IK) (f98:Ja) (a0:Aa (.int .i64)) (a1:Aa (.pair (.int .i64) (.pair (.int .i64) (.pair (.int .i64) (.pair (.int .i64) (.unit)))))) (a2:Aa (.int .u64)):Option (DenS P5) :=
 let e1_:=(IntKind.wrap .i64 (a1.2.1-(1:Int)))
 bif (p65 (a0,a2,())) then (bif ((f65 (a0,a2,())).2.1 != (0:Int)) then (some (((0:Int),false,(0:Int),(0:Int),()),(f65 (a0,a2,())).2))
 else bif (p98 (a0,a2,())) then (bif ((f98 (a0,a2,())).2.1==(0:Int)) then (some (((f65 (a0,a2,())).1,(f98 (a0,a2,())).1,(f98 (a0,a2,())).2.2.1,(IntKind.wrap .i64 ((IntKind.wrap .i64 ((IntKind.wrap .i64 ((IntKind.wrap .i64 ((IntKind.wrap .i64 (1:Int))-(1:Int)))+a1.2.2.1))-a1.2.1))+(1:Int))),()),(0:Int),()))
 else bif (decide ((0:Int)≤e1_)) then (some (((f65 (a0,a2,())).1,(f98 (a0,a2,())).1,(A9 .u64 (f98 (a0,a2,())).2.2.1 (AQ .u64 (1:Int) e1_)),(IntKind.wrap .i64 ((IntKind.wrap .i64 ((IntKind.wrap .i64 ((IntKind.wrap .i64 ((IntKind.wrap .i64 (f98 (a0,a2,())).2.1)-(1:Int)))+a1.2.2.1))-a1.2.1))+(1:Int))),()),(0:Int),()))
 else none)
 else none)
 else none
theorem aRR (x:DenS Rg):run (cf [(55,⟨DB,DG,p65,f65⟩),(119,⟨FN,FF,p98,f98⟩)] []) 9 61 Tryz.f61 Rg P5 x=Uw p65 f65 p98 f98 x.1 x.2.1 x.2.2.1:=by kernel_rfl
def UL (x:DenS Rg):Option (DenS P5):=Uw AB.pre AB.F Bo.pre Bo.F x.1 x.2.1 x.2.2.1
def NS:Sum:=Al Rg P5 UL (DenS.dflt P5)
theorem aPI:Sound Tryz.prog G1 61 NS:=sd (cf [(55,AB),(119,Bo)] []) 61 Tryz.f61 ⟨G9,R3,trivial⟩ trivial Rg P5 UL _ (fun _=>aRR ..)
abbrev aFo:=Ak Rg
abbrev aAa:=Aj Rg P5
variable (p350:aFo) (f350:aAa)
abbrev PT:Ab:=[(true,.pair (.int .i64) (.pair (.bool) (.pair (.int .u64) (.pair (.int .i64) (.unit)))))]
abbrev O2:Ab:=[(false,.bool)]
def aHv (a0:Aa (.pair (.int .i64) (.pair (.bool) (.pair (.int .u64) (.pair (.int .i64) (.unit)))))):Option (DenS O2) :=
 some (((a0.1==(1:Int))||(a0.1==(0:Int))),())
theorem aMf (x:DenS PT):run (cf [] []) 9 62 Tryz.f62 PT O2 x=aHv x.1:=by kernel_rfl
def Xl (x:DenS PT):Option (DenS O2):=aHv x.1
def PF:Sum:=Al PT O2 Xl (DenS.dflt O2)
theorem aLc:Sound Tryz.prog G1 62 PF:=sd (cf [] []) 62 Tryz.f62 trivial trivial PT O2 Xl _ (fun _=>aMf ..)
abbrev aBA:=Ak PT
abbrev aBO:=Aj PT O2
variable (p351:aBA) (f351:aBO)
abbrev Pf:Ab:=[(true,.pair (.int .i64) (.pair (.bool) (.pair (.int .u64) (.pair (.int .i64) (.unit)))))]
abbrev OB:Ab:=[(false,.bool)]
def zM (a0:Aa (.pair (.int .i64) (.pair (.bool) (.pair (.int .u64) (.pair (.int .i64) (.unit)))))):Option (DenS OB) :=
 some (((a0.1==(2:Int))||(a0.1==(9:Int))),())
theorem aM8 (x:DenS Pf):run (cf [] []) 9 63 Tryz.f63 Pf OB x=zM x.1:=by kernel_rfl
def X7 (x:DenS Pf):Option (DenS OB):=zM x.1
def O4:Sum:=Al Pf OB X7 (DenS.dflt OB)
theorem aJS:Sound Tryz.prog G1 63 O4:=sd (cf [] []) 63 Tryz.f63 trivial trivial Pf OB X7 _ (fun _=>aM8 ..)
abbrev aGd:=Ak Pf
abbrev aEJ:=Aj Pf OB
variable (p352:aGd) (f352:aEJ)
abbrev Og:Ab:=[(true,.pair (.int .i64) (.pair (.bool) (.pair (.int .u64) (.pair (.int .i64) (.unit)))))]
abbrev Pg:Ab:=[(false,.bool)]
def yG (a0:Aa (.pair (.int .i64) (.pair (.bool) (.pair (.int .u64) (.pair (.int .i64) (.unit)))))):Option (DenS Pg) :=
 some (((a0.1==(5:Int))||(a0.1==(6:Int))),())
theorem aRH (x:DenS Og):run (cf [] []) 9 64 Tryz.f64 Og Pg x=yG x.1:=by kernel_rfl
def Y9 (x:DenS Og):Option (DenS Pg):=yG x.1
def NU:Sum:=Al Og Pg Y9 (DenS.dflt Pg)
theorem aTX:Sound Tryz.prog G1 64 NU:=sd (cf [] []) 64 Tryz.f64 trivial trivial Og Pg Y9 _ (fun _=>aRH ..)
abbrev aHx:=Ak Og
abbrev aHA:=Aj Og Pg
variable (p353:aHx) (f353:aHA)
abbrev Ew:Ab:=[(false,.int .u64),(false,.int .u64)]
abbrev Ex:Ab:=[(false,.int .u64),(false,.int .u64)]
def i9 (a0 a1:Aa (.int .u64)):Option (DenS Ex) :=
 let e2_:=(A8 .u64 a1 (4294967295:Int))
 let e3_:=(A8 .u64 a0 (4294967295:Int))
 let e1_:=(IntKind.wrap .u64 ((IntKind.wrap .u64 ((AH .u64 a0 (32:Int))*e2_))+(AH .u64 (IntKind.wrap .u64 (e3_*e2_)) (32:Int))))
 some ((IntKind.wrap .u64 ((IntKind.wrap .u64 ((IntKind.wrap .u64 ((AH .u64 a0 (32:Int))*(AH .u64 a1 (32:Int))))+(AH .u64 e1_ (32:Int))))+(AH .u64 (IntKind.wrap .u64 ((A8 .u64 e1_ (4294967295:Int))+(IntKind.wrap .u64 (e3_*(AH .u64 a1 (32:Int)))))) (32:Int)))),(IntKind.wrap .u64 (a0*a1)),())
theorem aTt (x:DenS Ew):run (cf [] []) 9 126 Tryz.f126 Ew Ex x=i9 x.1 x.2.1:=by kernel_rfl
def Zz (x:DenS Ew):Option (DenS Ex):=i9 x.1 x.2.1
def AO:Sum:=Al Ew Ex Zz (DenS.dflt Ex)
theorem i7:Sound Tryz.prog G1 126 AO:=sd (cf [] []) 126 Tryz.f126 trivial trivial Ew Ex Zz _ (fun _=>aTt ..)
abbrev EJ:=Ak Ew
abbrev ER:=Aj Ew Ex
variable (p315:EJ) (f315:ER)
abbrev Jd:Ab:=[(false,.int .u64),(false,.int .u64)]
abbrev IF:Ab:=[(true,.pair (.int .u64) (.pair (.int .u64) (.unit)))]
def mX (p315:EJ) (f315:ER) (a0 a1:Aa (.int .u64)):Option (DenS IF) :=
 bif (p315 (a0,a1,())) then (some ((f315 (a0,a1,())),()))
 else none
theorem aL3 (x:DenS Jd):run (cf [(126,⟨Ew,Ex,p315,f315⟩)] []) 9 67 Tryz.f67 Jd IF x=mX p315 f315 x.1 x.2.1:=by kernel_rfl
def W3 (x:DenS Jd):Option (DenS IF):=mX AO.pre AO.F x.1 x.2.1
def C0:Sum:=Al Jd IF W3 (DenS.dflt IF)
theorem aDM:Sound Tryz.prog G1 67 C0:=sd (cf [(126,AO)] []) 67 Tryz.f67 ⟨i7,trivial⟩ trivial Jd IF W3 _ (fun _=>aL3 ..)
abbrev Vk:=Ak Jd
abbrev Uf:=Aj Jd IF
variable (p316:Vk) (f316:Uf)
abbrev Ll:Ab:=[(false,.int .i64),(false,.int .i64),(false,.int .u64),(false,.int .u64)]
abbrev MH:Ab:=[(false,.int .u64),(false,.int .i64),(false,.int .i64)]
def cU (p69:BP) (f69:BK) (p350:aFo) (f350:aAa) (p351:aBA) (f351:aBO) (p70:Ei) (f70:DW) (p352:aGd) (f352:aEJ) (p97:Qc) (f97:PU) (p353:aHx) (f353:aHA) (p118:Ib) (f118:Id) (p316:Vk) (f316:Uf) (p122:HS) (f122:Iw) (a0 a1:Aa (.int .i64)) (a2 a3:Aa (.int .u64)):Option (DenS MH) :=
 let e18_:=(!((f350 (a0,(f69 (a0,())).1,a2,())).1.2.1==(f350 (a0,(f69 (a0,())).1,a3,())).1.2.1))
 let e17_:=((f350 (a0,(f69 (a0,())).1,a2,())).1.2.2.1,(f350 (a0,(f69 (a0,())).1,a3,())).1.2.2.1,())
 let e1_:=(a0,a1,e18_,(f316 e17_).1,(IntKind.wrap .i64 ((f350 (a0,(f69 (a0,())).1,a2,())).1.2.2.2.1+(f350 (a0,(f69 (a0,())).1,a3,())).1.2.2.2.1)),false,())
 let e20_:=((f350 (a0,(f69 (a0,())).1,a2,())).1,())
 let e19_:=(f352 e20_)
 let e21_:=((f350 (a0,(f69 (a0,())).1,a3,())).1,())
 let e2_:=(e19_.1&&(f353 e21_).1)
 let e16_:=(a0,e18_,())
 let e3_:=(f118 e16_)
 let e4_:=(f97 e16_)
 let e5_:=e16_
 let e6_:=(f353 e20_)
 let e7_:=e19_
 let e8_:=(f351 e20_)
 let e9_:=(p352 e20_)
 let e10_:=(p353 e21_)
 let e11_:=(p353 e20_)
 let e12_:=(p352 e21_)
 let e13_:=(f352 e21_)
 let e14_:=e21_
 let e15_:=((f70 (a0,())).1,(1:Int),(f70 (a0,())).2)
 bif (p69 (a0,())) then (bif ((f69 (a0,())).2.1 != (0:Int)) then (some ((0:Int),(0:Int),(f69 (a0,())).2))
 else bif ((decide (a1<(0:Int)))||(decide (a1>(5:Int)))) then (some ((0:Int),(0:Int),(3:Int),()))
 else bif (p350 (a0,(f69 (a0,())).1,a2,())) then (bif ((f350 (a0,(f69 (a0,())).1,a2,())).2.1 != (0:Int)) then (some ((0:Int),(0:Int),(f350 (a0,(f69 (a0,())).1,a2,())).2))
 else bif (p350 (a0,(f69 (a0,())).1,a3,())) then (bif ((f350 (a0,(f69 (a0,())).1,a3,())).2.1 != (0:Int)) then (some ((0:Int),(0:Int),(f350 (a0,(f69 (a0,())).1,a3,())).2))
 else bif (p351 e20_) then (bif ((p351 e14_)||(!(bif e8_.1 then false else true))) then (bif (e8_.1||(f351 e14_).1) then (bif (((f350 (a0,(f69 (a0,())).1,a2,())).1.1==(0:Int))||((f350 (a0,(f69 (a0,())).1,a3,())).1.1==(0:Int))) then (bif (p70 (a0,())) then (some e15_)
 else none)
 else bif (p70 (a0,())) then (some ((f70 (a0,())).1,(0:Int),(f70 (a0,())).2))
 else none)
 else bif e9_ then (bif (e10_||(!e7_.1)) then (bif (e11_||(!(bif e2_ then false else true))) then (bif (e12_||(!((bif e2_ then false else true)&&e6_.1))) then (bif (e2_||(e6_.1&&e13_.1)) then (bif (p70 (a0,())) then (some e15_)
 else none)
 else bif e9_ then (bif (e12_||(!(bif e7_.1 then false else true))) then (bif (e7_.1||e13_.1) then (bif (p97 e5_) then (some (e4_.1,(0:Int),e4_.2))
 else none)
 else bif e11_ then (bif (e10_||(!(bif e6_.1 then false else true))) then (bif (e6_.1||(f353 e14_).1) then (bif (p118 e5_) then (some (e3_.1,(0:Int),e3_.2))
 else none)
 else bif (p316 e17_) then (bif (p122 e1_) then (some (f122 e1_))
 else none)
 else none)
 else none)
 else none)
 else none)
 else none)
 else none)
 else none)
 else none)
 else none)
 else none)
 else none)
 else none)
 else none)
 else none
theorem aJp (x:DenS Ll):run (cf [(54,⟨Ch,Cj,p69,f69⟩),(61,⟨Rg,P5,p350,f350⟩),(62,⟨PT,O2,p351,f351⟩),(56,⟨DD,DH,p70,f70⟩),(63,⟨Pf,OB,p352,f352⟩),(65,⟨GV,Hl,p97,f97⟩),(64,⟨Og,Pg,p353,f353⟩),(38,⟨E1,FG,p118,f118⟩),(67,⟨Jd,IF,p316,f316⟩),(66,⟨EZ,Fj,p122,f122⟩)] []) 9 17 Tryz.f17 Ll MH x=cU p69 f69 p350 f350 p351 f351 p70 f70 p352 f352 p97 f97 p353 f353 p118 f118 p316 f316 p122 f122 x.1 x.2.1 x.2.2.1 x.2.2.2.1:=by kernel_rfl
def Yl (x:DenS Ll):Option (DenS MH):=cU Aq.pre Aq.F NS.pre NS.F PF.pre PF.F AC.pre AC.F O4.pre O4.F B7.pre B7.F NU.pre NU.F Be.pre Be.F C0.pre C0.F A3.pre A3.F x.1 x.2.1 x.2.2.1 x.2.2.2.1
def Fb:Sum:=Al Ll MH Yl (DenS.dflt MH)
theorem pY:Sound Tryz.prog G1 17 Fb:=sd (cf [(54,Aq),(61,NS),(62,PF),(56,AC),(63,O4),(65,B7),(64,NU),(38,Be),(67,C0),(66,A3)] []) 17 Tryz.f17 ⟨Ek,aPI,aLc,GL,aJS,VX,aTX,VA,aDM,TT,trivial⟩ trivial Ll MH Yl _ (fun _=>aJp ..)
abbrev iV:=Ak Ll
abbrev fA:=Aj Ll MH
variable (p354:iV) (f354:fA)
abbrev QA:Ab:=[(false,.int .i64),(false,.int .i64),(false,.slice (.int .u64))]
abbrev Nq:Ab:=[(false,.int .i64)]
abbrev HK:Pat:=⟨39,[(27,.one (.v .i64)),(26,.one (.sl (.int .u64))),(0,.one (.v .i64)),(28,.one (.v .i64))],[]⟩
abbrev mD:List (Nat×Shape):=[]
abbrev Kb:List (Nat×Pat):=[(0,⟨39,[],[]⟩)]
abbrev Kw:Option Pat:=(some ⟨39,[(6,.one (.v .i64))],[]⟩)
variable (w376_7:Pat.D HK→Option (Ah Kb Kw))
def U0 (p69:BP) (f69:BK) (p66:Ci) (f66:Cl) {R:Type} (L:Pat.D HK→Option R) (e:Ah Kb Kw→Option R) (x:Pat.D HK):Option R :=
 let e2_:=(x.1.2.2.1,(x.1.2.1.getD (Int.toNat x.1.2.2.2.1) (0:Int)),())
 let e1_:=(f66 e2_)
 bif (decide (x.1.2.2.2.1<x.1.1)) then (bif ((decide ((0:Int)≤x.1.2.2.2.1))&&(decide (x.1.2.2.2.1<(x.1.2.1.length:Int)))) then (bif (p66 e2_) then (bif (e1_.1 != (0:Int)) then (((e (.inr (e1_,())))))
 else (L ((x.1.1,x.1.2.1,x.1.2.2.1,(IntKind.wrap .i64 (x.1.2.2.2.1+(1:Int))),()),())))
 else none)
 else none)
 else (e (.inl ((),())))
theorem aNB (d:Nat) (R:Type) (L:Pat.D HK→Option R) (e:Ah Kb Kw→Option R) (x:Pat.D HK) :
  BA (cf [(54,⟨Ch,Cj,p69,f69⟩),(59,⟨CH,CJ,p66,f66⟩)] [(68,7,LoopSpec.of HK mD Kb Kw w376_7)]) (d+2) 68 (By Tryz.f68 7) HK mD Kb Kw (R:=R) L e x=U0 p69 f69 p66 f66 L e x:=by kernel_rfl
theorem aF3 (p69:BP) (f69:BK) (p66:Ci) (f66:Cl):Bu fun L e x=>U0 p69 f69 p66 f66 L e x:=by intro _ _ _ _ _ _ _ h0 hL he _; unfold U0; repeat' (first | exact h0 | exact hL _ | exact he _ | apply BR | (apply BW h0; intro _) | (apply B9 <;> intro _))
def dM (p69:BP) (f69:BK) (p66:Ci) (f66:Cl) (w376_7:Pat.D HK→Option (Ah Kb Kw)) (a0 a1:Aa (.int .i64)) (a2:Aa (.slice (.int .u64))):Option (DenS Nq) :=
 bif (p69 (a0,())) then (bif ((f69 (a0,())).2.1 != (0:Int)) then (some (f69 (a0,())).2)
 else bif ((decide (a1<(0:Int)))||(decide (a1>(5:Int)))) then (some ((3:Int),()))
 else Vx.AZ (w376_7 (((a2.length:Int),a2,a0,(0:Int),()),())) fun y3 =>
 Vx.A2 y3 (fun y4 =>
 some ((0:Int),())) (fun z4 =>
 some z4.1))
 else none
theorem aSr (x:DenS QA):run (cf [(54,⟨Ch,Cj,p69,f69⟩),(59,⟨CH,CJ,p66,f66⟩)] [(68,7,LoopSpec.of HK mD Kb Kw w376_7)]) 9 68 Tryz.f68 QA Nq x=dM p69 f69 p66 f66 w376_7 x.1 x.2.1 x.2.2.1:=by kernel_rfl
def cW:HK.D→Option (Ah Kb Kw):=Bf fun L=>U0 Aq.pre Aq.F Ar.pre Ar.F L some
def U8 (x:DenS QA):Option (DenS Nq):=dM Aq.pre Aq.F Ar.pre Ar.F cW x.1 x.2.1 x.2.2.1
def OH:Sum:=Al QA Nq U8 (DenS.dflt Nq)
theorem aJI:Sound Tryz.prog G1 68 OH:=sd (cf [(54,Aq),(59,Ar)] [(68,7,LoopSpec.of HK mD Kb Kw cW)]) 68 Tryz.f68 ⟨Ek,FU,trivial⟩ ⟨rfl,fun d=>B3 (fun L e x=>U0 Aq.pre Aq.F Ar.pre Ar.F L e x) (aF3 Aq.pre Aq.F Ar.pre Ar.F) (fun _ _ _ _=>aNB ..),trivial⟩ QA Nq U8 _ (fun _=>aSr ..)
abbrev aDi:=Ak QA
abbrev aIE:=Aj QA Nq
variable (p376:aDi) (f376:aIE)
abbrev P9:Ab:=[(false,.int .i64),(false,.int .u64)]
abbrev Nh:Ab:=[(true,.pair (.bool) (.pair (.bool) (.pair (.bool) (.pair (.bool) (.pair (.bool) (.unit))))))]
def jF (p65:D5) (f65:D3) (p98:IK) (f98:Ja) (a0:Aa (.int .i64)) (a1:Aa (.int .u64)):Option (DenS Nh) :=
 bif (p65 (a0,a1,())) then (bif (p98 (a0,a1,())) then (some (((((f65 (a0,a1,())).1==(1:Int))||((f65 (a0,a1,())).1==(0:Int))),((f65 (a0,a1,())).1==(0:Int)),(((f65 (a0,a1,())).1==(9:Int))||((f65 (a0,a1,())).1==(2:Int))),(((f65 (a0,a1,())).1==(6:Int))||((f65 (a0,a1,())).1==(5:Int))),(f98 (a0,a1,())).1,()),()))
 else none)
 else none
theorem aSu (x:DenS P9):run (cf [(55,⟨DB,DG,p65,f65⟩),(119,⟨FN,FF,p98,f98⟩)] []) 9 69 Tryz.f69 P9 Nh x=jF p65 f65 p98 f98 x.1 x.2.1:=by kernel_rfl
def ZV (x:DenS P9):Option (DenS Nh):=jF AB.pre AB.F Bo.pre Bo.F x.1 x.2.1
def PL:Sum:=Al P9 Nh ZV (DenS.dflt Nh)
theorem aSO:Sound Tryz.prog G1 69 PL:=sd (cf [(55,AB),(119,Bo)] []) 69 Tryz.f69 ⟨G9,R3,trivial⟩ trivial P9 Nh ZV _ (fun _=>aSu ..)
abbrev aIx:=Ak P9
abbrev aGa:=Aj P9 Nh
variable (p377:aIx) (f377:aGa)
abbrev Ou:Ab:=[(false,.int .i64),(false,.int .i64)]
abbrev Ov:Ab:=[(false,.int .u64),(false,.int .i64),(false,.int .i64)]
def iB (p70:Ei) (f70:DW) (a0 a1:Aa (.int .i64)):Option (DenS Ov) :=
 bif (p70 (a0,())) then (some ((f70 (a0,())).1,a1,(f70 (a0,())).2))
 else none
theorem aSt (x:DenS Ou):run (cf [(56,⟨DD,DH,p70,f70⟩)] []) 9 70 Tryz.f70 Ou Ov x=iB p70 f70 x.1 x.2.1:=by kernel_rfl
def ZH (x:DenS Ou):Option (DenS Ov):=iB AC.pre AC.F x.1 x.2.1
def O8:Sum:=Al Ou Ov ZH (DenS.dflt Ov)
theorem aUz:Sound Tryz.prog G1 70 O8:=sd (cf [(56,AC)] []) 70 Tryz.f70 ⟨GL,trivial⟩ trivial Ou Ov ZH _ (fun _=>aSt ..)
abbrev aBH:=Ak Ou
abbrev aIC:=Aj Ou Ov
variable (p378:aBH) (f378:aIC)
abbrev Hb:Ab:=[(false,.int .i64),(false,.int .u64)]
abbrev G4:Ab:=[(true,.pair (.bool) (.pair (.slice (.int .u64)) (.pair (.int .i64) (.unit)))),(false,.int .i64)]
def Uv (p66:Ci) (f66:Cl) (p90:VU) (f90:W4) (p91:Hr) (f91:HH) (p92:JT) (f92:Ji) (a0:Aa (.int .i64)) (a1:Aa (.int .u64)):Option (DenS G4) :=
 let e10_:=(Vx.k_rows.getD (Int.toNat a0) ((0:Int),(0:Int),(0:Int),(0:Int),()))
 let e9_:=(f90 (e10_,a1,()))
 let e8_:=(A9 .u64 e9_.2.2.1 (AQ .u64 (1:Int) (IntKind.wrap .i64 (e10_.2.1-(1:Int)))))
 let e1_:=(f92 (e8_,()))
 let e2_:=e8_
 let e3_:=((IntKind.wrap .i64 (e10_.1-e10_.2.1)),())
 let e4_:=(f92 e9_.2.2)
 let e5_:=e9_
 let e6_:=e10_
 let e7_:=((false,[],(0:Int),()),(0:Int),())
 bif (p66 (a0,a1,())) then (bif ((f66 (a0,a1,())).1 != (0:Int)) then (some ((false,[],(0:Int),()),(f66 (a0,a1,()))))
 else bif (bif (decide ((0:Int)≤a0)) then (decide (a0<((4:Nat):Int))) else false) then (bif (p90 (e6_,a1,())) then (bif (p91 e3_) then (bif (e5_.2.1==(f91 e3_).1) then (some ((false,[],(0:Int),()),(40:Int),()))
 else bif (e5_.2.1==(0:Int)) then (bif (e5_.2.2.1==(0:Int)) then (some e7_)
 else bif (p92 e5_.2.2) then (bif (decide ((0:Int)≤e4_.1)) then (some ((e5_.1,((AH .u64 e5_.2.2.1 e4_.1)::[]),(IntKind.wrap .i64 ((IntKind.wrap .i64 ((IntKind.wrap .i64 ((IntKind.wrap .i64 ((IntKind.wrap .i64 ((IntKind.wrap .i64 (1:Int))-(1:Int)))+e6_.2.2.1))-e6_.2.1))+(1:Int)))+e4_.1)),()),(0:Int),()))
 else none)
 else none)
 else bif (decide ((0:Int)≤(IntKind.wrap .i64 (e6_.2.1-(1:Int))))) then (bif (e2_==(0:Int)) then (some e7_)
 else bif (p92 (e2_,())) then (bif (decide ((0:Int)≤e1_.1)) then (some ((e5_.1,((AH .u64 e2_ e1_.1)::[]),(IntKind.wrap .i64 ((IntKind.wrap .i64 ((IntKind.wrap .i64 ((IntKind.wrap .i64 ((IntKind.wrap .i64 ((IntKind.wrap .i64 e5_.2.1)-(1:Int)))+e6_.2.2.1))-e6_.2.1))+(1:Int)))+e1_.1)),()),(0:Int),()))
 else none)
 else none)
 else none)
 else none)
 else none)
 else none)
 else none
theorem r40 (x:DenS Hb):run (cf [(59,⟨CH,CJ,p66,f66⟩),(111,⟨Jt,JI,p90,f90⟩),(112,⟨EA,EK,p91,f91⟩),(127,⟨Gz,Hc,p92,f92⟩)] []) 9 71 Tryz.f71 Hb G4 x=Uv p66 f66 p90 f90 p91 f91 p92 f92 x.1 x.2.1:=by kernel_rfl
def Sd (x:DenS Hb):Option (DenS G4):=Uv Ar.pre Ar.F Di.pre Di.F Br.pre Br.F BI.pre BI.F x.1 x.2.1
def CB:Sum:=Al Hb G4 Sd (DenS.dflt G4)
theorem YC:Sound Tryz.prog G1 71 CB:=sd (cf [(59,Ar),(111,Di),(112,Br),(127,BI)] []) 71 Tryz.f71 ⟨FU,qF,MG,sJ,trivial⟩ trivial Hb G4 Sd _ (fun _=>r40 ..)
abbrev Pr:=Ak Hb
abbrev Oy:=Aj Hb G4
variable (p40:Pr) (f40:Oy)
abbrev IN:Ab:=[(false,.slice (.int .u64))]
abbrev Je:Ab:=[(true,.slice (.int .u64))]
def Z6 (p173:A4) (f173:A1) (a0:Aa (.slice (.int .u64))):Option (DenS Je) :=
 let e1_:=(List.replicate (Int.toNat ((f173 (a0,())).1.length:Int)) (0:Int))
 bif (p173 (a0,())) then (bif ((decide ((0:Int)≤((f173 (a0,())).1.length:Int)))&&(decide ((((f173 (a0,())).1.length:Int)*(8:Int))≤(140737488355328:Int)))) then (some ((((f173 (a0,())).1.take e1_.length)++(e1_.drop (f173 (a0,())).1.length)),()))
 else none)
 else none
theorem aRk (x:DenS IN):run ({ cf [(169,⟨Bt,Bs,p173,f173⟩)] [] with keep:=true }) 9 168 Tryz.f168 IN Je x=Z6 p173 f173 x.1:=by kernel_rfl
def Rw (x:DenS IN):Option (DenS Je):=Z6 Af.pre Af.F x.1
def Du:Sum:=Al IN Je Rw (DenS.dflt Je)
theorem aAl:Sound Tryz.prog G1 168 Du:=sd ({ cf [(169,Af)] [] with keep:=true }) 168 Tryz.f168 ⟨DV,trivial⟩ trivial IN Je Rw _ (fun _=>aRk ..)
abbrev V2:=Ak IN
abbrev YZ:=Aj IN Je
variable (p1146:V2) (f1146:YZ)
abbrev Hg:Ab:=[(false,.int .u64)]
abbrev GB:Ab:=[(false,.int .i64)]
def lL (p178:Ii) (f178:H5) (a0:Aa (.int .u64)):Option (DenS GB) :=
 bif (p178 (a0,())) then (some ((IntKind.wrap .i64 ((64:Int)-(f178 (a0,())).1)),()))
 else none
theorem aP6 (x:DenS Hg):run (cf [(83,⟨Gi,Fx,p178,f178⟩)] []) 9 304 Tryz.f304 Hg GB x=lL p178 f178 x.1:=by kernel_rfl
def V0 (x:DenS Hg):Option (DenS GB):=lL Bw.pre Bw.F x.1
def BC:Sum:=Al Hg GB V0 (DenS.dflt GB)
theorem aAN:Sound Tryz.prog G1 304 BC:=sd (cf [(83,Bw)] []) 304 Tryz.f304 ⟨YN,trivial⟩ trivial Hg GB V0 _ (fun _=>aP6 ..)
abbrev LT:=Ak Hg
abbrev Mh:=Aj Hg GB
variable (p327:LT) (f327:Mh)
abbrev EM:Ab:=[(false,.int .u64),(false,.int .u64),(false,.int .u64)]
abbrev ES:Ab:=[(false,.int .u64),(false,.int .u64)]
abbrev GX:Pat:=⟨135,[(16,.one (.v .u64)),(11,.one (.v .u64)),(13,.one (.v .u64)),(10,.one (.v .u64)),(9,.one (.v .u64)),(15,.one (.v .u64)),(14,.one (.v .u64)),(2,.one (.v .u64)),(8,.one (.v .u64))],[]⟩
abbrev WI:List (Nat×Shape):=[]
abbrev J6:List (Nat×Pat):=[(0,⟨135,[(11,.one (.v .u64)),(13,.one (.v .u64)),(10,.one (.v .u64)),(9,.one (.v .u64)),(15,.one (.v .u64)),(14,.one (.v .u64)),(2,.one (.v .u64)),(8,.one (.v .u64))],[]⟩)]
abbrev IH:Option Pat:=none
abbrev G7:Pat:=⟨135,[(10,.one (.v .u64)),(16,.one (.v .u64)),(9,.one (.v .u64)),(15,.one (.v .u64)),(17,.one (.v .u64)),(14,.one (.v .u64)),(18,.one (.v .u64)),(2,.one (.v .u64)),(8,.one (.v .u64))],[]⟩
abbrev XS:List (Nat×Shape):=[]
abbrev Jw:List (Nat×Pat):=[(2,⟨135,[(15,.one (.v .u64)),(17,.one (.v .u64)),(14,.one (.v .u64)),(18,.one (.v .u64)),(2,.one (.v .u64)),(8,.one (.v .u64))],[]⟩)]
abbrev I7:Option Pat:=none
variable (w328_17:Pat.D GX→Option (Ah J6 IH)) (w328_24:Pat.D G7→Option (Ah Jw I7))
def S3 (p327:LT) (f327:Mh) {R:Type} (L:Pat.D G7→Option R) (e:Ah Jw I7→Option R) (x:Pat.D G7):Option R :=
 let e1_:=(x.1.2.2.2.1,x.1.2.2.2.2.1,x.1.2.2.2.2.2.1,(IntKind.wrap .u64 (x.1.2.2.2.2.2.2.1-(1:Int))),x.1.2.2.2.2.2.2.2)
 let e2_:=(IntKind.wrap .u64 (x.1.2.1+x.1.2.2.1))
 bif ((decide (x.1.2.2.2.2.2.2.1≥(4294967296:Int)))||(decide ((IntKind.wrap .u64 (x.1.2.2.2.2.2.2.1*x.1.1))>(IntKind.wrap .u64 ((IntKind.wrap .u64 ((4294967296:Int)*x.1.2.1))+x.1.2.2.2.2.2.1))))) then (bif (decide (e2_≥(4294967296:Int))) then (((e (.inl (e1_,())))))
 else (L ((x.1.1,e2_,x.1.2.2.1,e1_),())))
 else (e (.inl (x.1.2.2.2,())))
theorem aM6 (d:Nat) (R:Type) (L:Pat.D G7→Option R) (e:Ah Jw I7→Option R) (x:Pat.D G7) :
  BA (cf [(304,⟨Hg,GB,p327,f327⟩)] [(264,17,LoopSpec.of GX WI J6 IH w328_17),(264,24,LoopSpec.of G7 XS Jw I7 w328_24)]) (d+2) 264 (By Tryz.f264 24) G7 XS Jw I7 (R:=R) L e x=S3 p327 f327 L e x:=by kernel_rfl
theorem aCm (p327:LT) (f327:Mh):Bu fun L e x=>S3 p327 f327 L e x:=by intro _ _ _ _ _ _ _ h0 hL he _; unfold S3; repeat' (first | exact h0 | exact hL _ | exact he _ | apply BR | (apply BW h0; intro _) | (apply B9 <;> intro _))
def Ud (p327:LT) (f327:Mh) {R:Type} (L:Pat.D GX→Option R) (e:Ah J6 IH→Option R) (x:Pat.D GX):Option R :=
 let e1_:=(x.1.2.1,x.1.2.2.1,x.1.2.2.2.1,x.1.2.2.2.2.1,(IntKind.wrap .u64 (x.1.2.2.2.2.2.1-(1:Int))),x.1.2.2.2.2.2.2)
 let e2_:=(IntKind.wrap .u64 (x.1.1+x.1.2.2.2.2.1))
 bif ((decide (x.1.2.2.2.2.2.1≥(4294967296:Int)))||(decide ((IntKind.wrap .u64 (x.1.2.2.2.2.2.1*x.1.2.2.2.1))>(IntKind.wrap .u64 ((IntKind.wrap .u64 ((4294967296:Int)*x.1.1))+x.1.2.2.1))))) then (bif (decide (e2_≥(4294967296:Int))) then (((e (.inl (e1_,())))))
 else (L ((e2_,e1_),())))
 else (e (.inl (x.1.2,())))
theorem aOM (d:Nat) (R:Type) (L:Pat.D GX→Option R) (e:Ah J6 IH→Option R) (x:Pat.D GX) :
  BA (cf [(304,⟨Hg,GB,p327,f327⟩)] [(264,17,LoopSpec.of GX WI J6 IH w328_17),(264,24,LoopSpec.of G7 XS Jw I7 w328_24)]) (d+2) 264 (By Tryz.f264 17) GX WI J6 IH (R:=R) L e x=Ud p327 f327 L e x:=by kernel_rfl
theorem aHb (p327:LT) (f327:Mh):Bu fun L e x=>Ud p327 f327 L e x:=by intro _ _ _ _ _ _ _ h0 hL he _; unfold Ud; repeat' (first | exact h0 | exact hL _ | exact he _ | apply BR | (apply BW h0; intro _) | (apply B9 <;> intro _))
def iI (p327:LT) (f327:Mh) (w328_17:Pat.D GX→Option (Ah J6 IH)) (w328_24:Pat.D G7→Option (Ah Jw I7)) (a0 a1 a2:Aa (.int .u64)):Option (DenS ES) :=
 let e9_:=(IntKind.wrap .u64 (f327 (a2,())).1)
 let e6_:=(A9 .u64 (AQ .u64 a0 e9_) (AH .u64 a1 (IntKind.wrap .u64 ((64:Int)-e9_))))
 let e8_:=(AQ .u64 a2 e9_)
 let e7_:=(AH .u64 e8_ (32:Int))
 let e1_:=(BB .u64 e6_ e7_)
 let e2_:=e6_
 let e3_:=e7_
 let e4_:=(AQ .u64 a1 e9_)
 let e5_:=e8_
 bif (a2==(0:Int)) then ((none))
 else bif (decide (a2≤a0)) then ((none))
 else bif (a0==(0:Int)) then (bif (a2 != (0:Int)) then (bif (a2 != (0:Int)) then (some ((BB .u64 a1 a2),(Int.tmod a1 a2),()))
 else none)
 else none)
 else bif (p327 (a2,())) then (bif (e3_ != (0:Int)) then (Vx.AZ (w328_17 (((IntKind.wrap .u64 (e2_-(IntKind.wrap .u64 (e1_*e3_)))),e2_,(AH .u64 e4_ (32:Int)),(A8 .u64 e5_ (4294967295:Int)),e3_,e1_,(A8 .u64 e4_ (4294967295:Int)),e5_,e9_,()),())) fun y5 =>
 Vx.A2 y5 (fun y6 =>
 bif (y6.1.2.2.2.1 != (0:Int)) then (Vx.AZ (w328_24 ((y6.1.2.2.1,(IntKind.wrap .u64 ((IntKind.wrap .u64 ((IntKind.wrap .u64 ((IntKind.wrap .u64 (y6.1.1*(4294967296:Int)))+y6.1.2.1))-(IntKind.wrap .u64 (y6.1.2.2.2.2.1*y6.1.2.2.2.2.2.2.1))))-(IntKind.wrap .u64 ((BB .u64 (IntKind.wrap .u64 ((IntKind.wrap .u64 ((IntKind.wrap .u64 (y6.1.1*(4294967296:Int)))+y6.1.2.1))-(IntKind.wrap .u64 (y6.1.2.2.2.2.1*y6.1.2.2.2.2.2.2.1)))) y6.1.2.2.2.1)*y6.1.2.2.2.1)))),y6.1.2.2.2.1,y6.1.2.2.2.2.1,(IntKind.wrap .u64 ((IntKind.wrap .u64 ((IntKind.wrap .u64 (y6.1.1*(4294967296:Int)))+y6.1.2.1))-(IntKind.wrap .u64 (y6.1.2.2.2.2.1*y6.1.2.2.2.2.2.2.1)))),y6.1.2.2.2.2.2.1,(BB .u64 (IntKind.wrap .u64 ((IntKind.wrap .u64 ((IntKind.wrap .u64 (y6.1.1*(4294967296:Int)))+y6.1.2.1))-(IntKind.wrap .u64 (y6.1.2.2.2.2.1*y6.1.2.2.2.2.2.2.1)))) y6.1.2.2.2.1),y6.1.2.2.2.2.2.2),())) fun y8 =>
 Vx.A2 y8 (fun y9 =>
 some ((IntKind.wrap .u64 ((IntKind.wrap .u64 (y9.1.1*(4294967296:Int)))+y9.1.2.2.2.1)),(AH .u64 (IntKind.wrap .u64 ((IntKind.wrap .u64 ((IntKind.wrap .u64 (y9.1.2.1*(4294967296:Int)))+y9.1.2.2.1))-(IntKind.wrap .u64 (y9.1.2.2.2.1*y9.1.2.2.2.2.1)))) y9.1.2.2.2.2.2.1),())) (fun z9 =>
 none))
 else none) (fun z6 =>
 none))
 else none)
 else none
theorem aNE (x:DenS EM):run (cf [(304,⟨Hg,GB,p327,f327⟩)] [(264,17,LoopSpec.of GX WI J6 IH w328_17),(264,24,LoopSpec.of G7 XS Jw I7 w328_24)]) 9 264 Tryz.f264 EM ES x=iI p327 f327 w328_17 w328_24 x.1 x.2.1 x.2.2.1:=by kernel_rfl
def cY:G7.D→Option (Ah Jw I7):=Bf fun L=>S3 BC.pre BC.F L some
def cL:GX.D→Option (Ah J6 IH):=Bf fun L=>Ud BC.pre BC.F L some
def Xn (x:DenS EM):Option (DenS ES):=iI BC.pre BC.F cL cY x.1 x.2.1 x.2.2.1
def AP:Sum:=Al EM ES Xn (DenS.dflt ES)
theorem mG:Sound Tryz.prog G1 264 AP:=sd (cf [(304,BC)] [(264,17,LoopSpec.of GX WI J6 IH cL),(264,24,LoopSpec.of G7 XS Jw I7 cY)]) 264 Tryz.f264 ⟨aAN,trivial⟩ ⟨rfl,fun d=>B3 (fun L e x=>Ud BC.pre BC.F L e x) (aHb BC.pre BC.F) (fun _ _ _ _=>aOM ..),⟨rfl,fun d=>B3 (fun L e x=>S3 BC.pre BC.F L e x) (aCm BC.pre BC.F) (fun _ _ _ _=>aM6 ..),trivial⟩⟩ EM ES Xn _ (fun _=>aNE ..)
abbrev EE:=Ak EM
abbrev EQ:=Aj EM ES
variable (p328:EE) (f328:EQ)
abbrev Kt:Ab:=[(true,.slice (.int .u64)),(false,.int .u64)]
abbrev Kj:Ab:=[(false,.slice (.int .u64)),(false,.int .u64)]
abbrev FY:Pat:=⟨31,[(1,.one (.v .u64)),(7,.one (.v .i64)),(0,.one (.own 0)),(6,.one (.v .u64))],[.arr (.int .u64)]⟩
abbrev iH:List (Nat×Shape):=[]
abbrev KQ:List (Nat×Pat):=[(0,⟨31,[(0,.one (.own 0)),(6,.one (.v .u64))],[.arr (.int .u64)]⟩)]
abbrev MB:Option Pat:=none
variable (w1329_3:Pat.D FY→Option (Ah KQ MB))
def Vd (p328:EE) (f328:EQ) (p173:A4) (f173:A1) {R:Type} (L:Pat.D FY→Option R) (e:Ah KQ MB→Option R) (x:Pat.D FY):Option R :=
 let e3_:=(x.1.2.2.2.1,(x.2.1.getD (Int.toNat x.1.2.1) (0:Int)),x.1.1,())
 let e1_:=(f328 e3_)
 let e2_:=((decide ((0:Int)≤x.1.2.1))&&(decide (x.1.2.1<(x.2.1.length:Int))))
 bif (decide (x.1.2.1≥(0:Int))) then (bif e2_ then (bif (p328 e3_) then (bif e2_ then (((L ((x.1.1,(IntKind.wrap .i64 (x.1.2.1-(1:Int))),(),e1_.2),(x.2.1.set (Int.toNat x.1.2.1) e1_.1),()))))
 else none)
 else none)
 else none)
 else (e (.inl (((),x.1.2.2.2),x.2)))
theorem aJ7 (d:Nat) (R:Type) (L:Pat.D FY→Option R) (e:Ah KQ MB→Option R) (x:Pat.D FY) :
  BA ({ cf [(264,⟨EM,ES,p328,f328⟩),(169,⟨Bt,Bs,p173,f173⟩)] [(303,3,LoopSpec.of FY iH KQ MB w1329_3)] with keep:=true }) (d+2) 303 (By Tryz.f303 3) FY iH KQ MB (R:=R) L e x=Vd p328 f328 p173 f173 L e x:=by kernel_rfl
theorem aHe (p328:EE) (f328:EQ) (p173:A4) (f173:A1):Bu fun L e x=>Vd p328 f328 p173 f173 L e x:=by intro _ _ _ _ _ _ _ h0 hL he _; unfold Vd; repeat' (first | exact h0 | exact hL _ | exact he _ | apply BR | (apply BW h0; intro _) | (apply B9 <;> intro _))
def dR (p328:EE) (f328:EQ) (p173:A4) (f173:A1) (w1329_3:Pat.D FY→Option (Ah KQ MB)) (a0:Aa (.slice (.int .u64))) (a1:Aa (.int .u64)):Option (DenS Kj) :=
 Vx.AZ (w1329_3 ((a1,(IntKind.wrap .i64 ((a0.length:Int)-(1:Int))),(),(0:Int),()),a0,())) fun y0 =>
 Vx.A2 y0 (fun y1 =>
 bif (p173 y1.2) then (some ((f173 y1.2).1,y1.1.2))
 else none) (fun z1 =>
 none)
theorem aSk (x:DenS Kt):run ({ cf [(264,⟨EM,ES,p328,f328⟩),(169,⟨Bt,Bs,p173,f173⟩)] [(303,3,LoopSpec.of FY iH KQ MB w1329_3)] with keep:=true }) 9 303 Tryz.f303 Kt Kj x=dR p328 f328 p173 f173 w1329_3 x.1 x.2.1:=by kernel_rfl
def XJ:FY.D→Option (Ah KQ MB):=Bf fun L=>Vd AP.pre AP.F Af.pre Af.F L some
def W6 (x:DenS Kt):Option (DenS Kj):=dR AP.pre AP.F Af.pre Af.F XJ x.1 x.2.1
def Ez:Sum:=Al Kt Kj W6 (DenS.dflt Kj)
theorem aP9:Sound Tryz.prog G1 303 Ez:=sd ({ cf [(264,AP),(169,Af)] [(303,3,LoopSpec.of FY iH KQ MB XJ)] with keep:=true }) 303 Tryz.f303 ⟨mG,DV,trivial⟩ ⟨rfl,fun d=>B3 (fun L e x=>Vd AP.pre AP.F Af.pre Af.F L e x) (aHe AP.pre AP.F Af.pre Af.F) (fun _ _ _ _=>aJ7 ..),trivial⟩ Kt Kj W6 _ (fun _=>aSk ..)
abbrev m7:=Ak Kt
abbrev j2:=Aj Kt Kj
variable (p1329:m7) (f1329:j2)
abbrev Gu:Ab:=[(false,.slice (.int .u64)),(false,.slice (.int .u64))]
abbrev Gt:Ab:=[(false,.int .i64)]
abbrev Iq:Pat:=⟨49,[(0,.one (.sl (.int .u64))),(1,.one (.sl (.int .u64))),(5,.one (.v .i64))],[]⟩
abbrev bX:List (Nat×Shape):=[]
abbrev Ki:List (Nat×Pat):=[(1,⟨49,[],[]⟩)]
abbrev K6:Option Pat:=(some ⟨49,[(4,.one (.v .i64))],[]⟩)
variable (w144_7:Pat.D Iq→Option (Ah Ki K6))
def Ue (p173:A4) (f173:A1) {R:Type} (L:Pat.D Iq→Option R) (e:Ah Ki K6→Option R) (x:Pat.D Iq):Option R :=
 let e1_:=((decide ((0:Int)≤x.1.2.2.1))&&(decide (x.1.2.2.1<(x.1.2.1.length:Int))))
 let e2_:=((decide ((0:Int)≤x.1.2.2.1))&&(decide (x.1.2.2.1<(x.1.1.length:Int))))
 let e3_:=(x.1.2.1.getD (Int.toNat x.1.2.2.1) (0:Int))
 bif (decide (x.1.2.2.1≥(0:Int))) then (bif e2_ then (bif e1_ then (bif (decide ((x.1.1.getD (Int.toNat x.1.2.2.1) (0:Int))<e3_)) then (((e (.inr (((-(1:Int)),()),())))))
 else bif e2_ then (bif e1_ then (bif (decide ((x.1.1.getD (Int.toNat x.1.2.2.1) (0:Int))>e3_)) then (((e (.inr (((1:Int),()),())))))
 else (L ((x.1.1,x.1.2.1,(IntKind.wrap .i64 (x.1.2.2.1-(1:Int))),()),())))
 else none)
 else none)
 else none)
 else none)
 else (e (.inl ((),())))
theorem aT8 (d:Nat) (R:Type) (L:Pat.D Iq→Option R) (e:Ah Ki K6→Option R) (x:Pat.D Iq) :
  BA (cf [(169,⟨Bt,Bs,p173,f173⟩)] [(177,7,LoopSpec.of Iq bX Ki K6 w144_7)]) (d+2) 177 (By Tryz.f177 7) Iq bX Ki K6 (R:=R) L e x=Ue p173 f173 L e x:=by kernel_rfl
theorem aFt (p173:A4) (f173:A1):Bu fun L e x=>Ue p173 f173 L e x:=by intro _ _ _ _ _ _ _ h0 hL he _; unfold Ue; repeat' (first | exact h0 | exact hL _ | exact he _ | apply BR | (apply BW h0; intro _) | (apply B9 <;> intro _))
def bE (p173:A4) (f173:A1) (w144_7:Pat.D Iq→Option (Ah Ki K6)) (a0 a1:Aa (.slice (.int .u64))):Option (DenS Gt) :=
 bif (p173 (a0,())) then (bif (p173 (a1,())) then (bif (decide (((f173 (a0,())).1.length:Int)<((f173 (a1,())).1.length:Int))) then (some ((-(1:Int)),()))
 else bif (decide (((f173 (a0,())).1.length:Int)>((f173 (a1,())).1.length:Int))) then (some ((1:Int),()))
 else Vx.AZ (w144_7 (((f173 (a0,())).1,(f173 (a1,())).1,(IntKind.wrap .i64 (((f173 (a0,())).1.length:Int)-(1:Int))),()),())) fun y4 =>
 Vx.A2 y4 (fun y5 =>
 some ((0:Int),())) (fun z5 =>
 some z5.1))
 else none)
 else none
theorem aTv (x:DenS Gu):run (cf [(169,⟨Bt,Bs,p173,f173⟩)] [(177,7,LoopSpec.of Iq bX Ki K6 w144_7)]) 9 177 Tryz.f177 Gu Gt x=bE p173 f173 w144_7 x.1 x.2.1:=by kernel_rfl
def fF:Iq.D→Option (Ah Ki K6):=Bf fun L=>Ue Af.pre Af.F L some
def Zx (x:DenS Gu):Option (DenS Gt):=bE Af.pre Af.F fF x.1 x.2.1
def Bj:Sum:=Al Gu Gt Zx (DenS.dflt Gt)
theorem mU:Sound Tryz.prog G1 177 Bj:=sd (cf [(169,Af)] [(177,7,LoopSpec.of Iq bX Ki K6 fF)]) 177 Tryz.f177 ⟨DV,trivial⟩ ⟨rfl,fun d=>B3 (fun L e x=>Ue Af.pre Af.F L e x) (aFt Af.pre Af.F) (fun _ _ _ _=>aT8 ..),trivial⟩ Gu Gt Zx _ (fun _=>aTv ..)
abbrev IW:=Ak Gu
abbrev I8:=Aj Gu Gt
variable (p144:IW) (f144:I8)
abbrev Mw:Ab:=[(false,.slice (.int .u64)),(false,.int .u64)]
abbrev MC:Ab:=[(false,.slice (.int .u64)),(false,.int .u64)]
abbrev HC:Pat:=⟨31,[(1,.one (.v .u64)),(7,.one (.v .i64)),(0,.one (.sl (.int .u64))),(6,.one (.v .u64))],[]⟩
abbrev mT:List (Nat×Shape):=[]
abbrev Kg:List (Nat×Pat):=[(0,⟨31,[(0,.one (.sl (.int .u64))),(6,.one (.v .u64))],[]⟩)]
abbrev KG:Option Pat:=none
variable (w329_3:Pat.D HC→Option (Ah Kg KG))
def Y3 (p328:EE) (f328:EQ) (p173:A4) (f173:A1) {R:Type} (L:Pat.D HC→Option R) (e:Ah Kg KG→Option R) (x:Pat.D HC):Option R :=
 let e1_:=((decide ((0:Int)≤x.1.2.1))&&(decide (x.1.2.1<(x.1.2.2.1.length:Int))))
 bif (decide (x.1.2.1≥(0:Int))) then (bif e1_ then (bif (p328 (x.1.2.2.2.1,(x.1.2.2.1.getD (Int.toNat x.1.2.1) (0:Int)),x.1.1,())) then (bif e1_ then ((none))
 else none)
 else none)
 else none)
 else (e (.inl (x.1.2.2,())))
theorem aOT (d:Nat) (R:Type) (L:Pat.D HC→Option R) (e:Ah Kg KG→Option R) (x:Pat.D HC) :
  BA (cf [(264,⟨EM,ES,p328,f328⟩),(169,⟨Bt,Bs,p173,f173⟩)] [(303,3,LoopSpec.of HC mT Kg KG w329_3)]) (d+2) 303 (By Tryz.f303 3) HC mT Kg KG (R:=R) L e x=Y3 p328 f328 p173 f173 L e x:=by kernel_rfl
theorem aQy (p328:EE) (f328:EQ) (p173:A4) (f173:A1):Bu fun L e x=>Y3 p328 f328 p173 f173 L e x:=by intro _ _ _ _ _ _ _ h0 hL he _; unfold Y3; repeat' (first | exact h0 | exact hL _ | exact he _ | apply BR | (apply BW h0; intro _) | (apply B9 <;> intro _))
def aGm (p328:EE) (f328:EQ) (p173:A4) (f173:A1) (w329_3:Pat.D HC→Option (Ah Kg KG)) (a0:Aa (.slice (.int .u64))) (a1:Aa (.int .u64)):Option (DenS MC) :=
 Vx.AZ (w329_3 ((a1,(IntKind.wrap .i64 ((a0.length:Int)-(1:Int))),a0,(0:Int),()),())) fun y0 =>
 Vx.A2 y0 (fun y1 =>
 bif (p173 (y1.1.1,())) then (some ((f173 (y1.1.1,())).1,y1.1.2))
 else none) (fun z1 =>
 none)
theorem aSY (x:DenS Mw):run (cf [(264,⟨EM,ES,p328,f328⟩),(169,⟨Bt,Bs,p173,f173⟩)] [(303,3,LoopSpec.of HC mT Kg KG w329_3)]) 9 303 Tryz.f303 Mw MC x=aGm p328 f328 p173 f173 w329_3 x.1 x.2.1:=by kernel_rfl
def aGW:HC.D→Option (Ah Kg KG):=Bf fun L=>Y3 AP.pre AP.F Af.pre Af.F L some
def aIo (x:DenS Mw):Option (DenS MC):=aGm AP.pre AP.F Af.pre Af.F aGW x.1 x.2.1
def Fz:Sum:=Al Mw MC aIo (DenS.dflt MC)
theorem aRx:Sound Tryz.prog G1 303 Fz:=sd (cf [(264,AP),(169,Af)] [(303,3,LoopSpec.of HC mT Kg KG aGW)]) 303 Tryz.f303 ⟨mG,DV,trivial⟩ ⟨rfl,fun d=>B3 (fun L e x=>Y3 AP.pre AP.F Af.pre Af.F L e x) (aQy AP.pre AP.F Af.pre Af.F) (fun _ _ _ _=>aOT ..),trivial⟩ Mw MC aIo _ (fun _=>aSY ..)
abbrev bC:=Ak Mw
abbrev eK:=Aj Mw MC
variable (p329:bC) (f329:eK)
abbrev JU:Ab:=[(false,.slice (.int .u64)),(false,.int .u64)]
abbrev Jb:Ab:=[(false,.bool)]
abbrev FJ:LK:=.win (.int .u64)
abbrev HP:Pat:=⟨68,[(16,.one (.v .i64)),(15,.one (.sl (.int .u64))),(2,.one (.v .u64)),(17,.one (.v .i64)),(1,.one (.sl (.int .u64))),(0,.one (.sub 0)),(7,.one (.v .u64)),(8,.one (.v .u64))],[.arr (.int .u64)]⟩
abbrev gK:List (Nat×Shape):=[]
abbrev Kv:List (Nat×Pat):=[(0,⟨68,[(1,.one (.sl (.int .u64))),(0,.one (.sub 0)),(7,.one (.v .u64)),(8,.one (.v .u64))],[.arr (.int .u64)]⟩)]
abbrev L3:Option Pat:=none
variable (w330_3:Pat.D HP→Option (Ah Kv L3))
def U5 (p315:EJ) (f315:ER) (p155:C5) (f155:Db) (p157:Ha) (f157:GP) {R:Type} (L:Pat.D HP→Option R) (e:Ah Kv L3→Option R) (x:Pat.D HP):Option R :=
 let e7_:=(x.2.1.getD (x.1.2.2.2.2.2.1.1+(Int.toNat x.1.2.2.2.1)) (0:Int))
 let e8_:=(x.1.2.2.1,(x.1.2.1.getD (Int.toNat x.1.2.2.2.1) (0:Int)),())
 let e6_:=(f315 e8_)
 let e5_:=(f155 (e6_.2.1,x.1.2.2.2.2.2.2.1,(0:Int),()))
 let e1_:=(f157 (e7_,e5_.1,x.1.2.2.2.2.2.2.2))
 let e2_:=e5_
 let e3_:=((decide ((0:Int)≤x.1.2.2.2.1))&&(decide (x.1.2.2.2.1<(x.1.2.2.2.2.2.1.2:Int))))
 let e4_:=e6_
 bif (decide (x.1.2.2.2.1<x.1.1)) then (bif ((decide ((0:Int)≤x.1.2.2.2.1))&&(decide (x.1.2.2.2.1<(x.1.2.1.length:Int)))) then (bif (p315 e8_) then (bif (p155 (e4_.2.1,x.1.2.2.2.2.2.2.1,(0:Int),())) then (bif e3_ then (bif (p157 (e7_,e2_.1,x.1.2.2.2.2.2.2.2)) then (bif e3_ then (((L ((x.1.1,x.1.2.1,x.1.2.2.1,(IntKind.wrap .i64 (x.1.2.2.2.1+(1:Int))),x.1.2.2.2.2.1,x.1.2.2.2.2.2.1,(IntKind.wrap .u64 (e4_.1+e2_.2.1)),e1_.2),(x.2.1.set (x.1.2.2.2.2.2.1.1+(Int.toNat x.1.2.2.2.1)) e1_.1),()))))
 else none)
 else none)
 else none)
 else none)
 else none)
 else none)
 else (e (.inl (x.1.2.2.2.2,x.2)))
theorem aUu (d:Nat) (R:Type) (L:Pat.D HP→Option R) (e:Ah Kv L3→Option R) (x:Pat.D HP) :
  BA (cf [(126,⟨Ew,Ex,p315,f315⟩),(165,⟨E5,Fu,p155,f155⟩),(166,⟨M4,Qd,p157,f157⟩)] [(324,3,LoopSpec.of HP gK Kv L3 w330_3 1)]) (d+2) 324 (By Tryz.f324 3) HP gK Kv L3 (R:=R) L e x 1=U5 p315 f315 p155 f155 p157 f157 L e x:=by kernel_rfl
theorem aBL (p315:EJ) (f315:ER) (p155:C5) (f155:Db) (p157:Ha) (f157:GP):Bu fun L e x=>U5 p315 f315 p155 f155 p157 f157 L e x:=by intro _ _ _ _ _ _ _ h0 hL he _; unfold U5; repeat' (first | exact h0 | exact hL _ | exact he _ | apply BR | (apply BW h0; intro _) | (apply B9 <;> intro _))
def j1 (p315:EJ) (f315:ER) (p155:C5) (f155:Db) (p157:Ha) (f157:GP) (w330_3:Pat.D HP→Option (Ah Kv L3)) (l0:LK.D (.win (.int .u64))) (a0:Aa (.slice (.int .u64))) (a1:Aa (.int .u64)):Option (LK.B FJ×DenS Jb) :=
 Vx.AZ (w330_3 (((a0.length:Int),a0,a1,(0:Int),a0,l0.2,(0:Int),(0:Int),()),l0.1,())) fun y0 =>
 Vx.A2 y0 (fun y1 =>
 bif ((decide ((0:Int)≤(y1.1.1.length:Int)))&&(decide ((y1.1.1.length:Int)<(y1.1.2.1.2:Int)))) then (bif (p157 ((y1.2.1.getD (y1.1.2.1.1+(Int.toNat (y1.1.1.length:Int))) (0:Int)),y1.1.2.2)) then (bif ((decide ((0:Int)≤(y1.1.1.length:Int)))&&(decide ((y1.1.1.length:Int)<(y1.1.2.1.2:Int)))) then (some ((y1.2.1.set (y1.1.2.1.1+(Int.toNat (y1.1.1.length:Int))) (f157 ((y1.2.1.getD (y1.1.2.1.1+(Int.toNat (y1.1.1.length:Int))) (0:Int)),y1.1.2.2)).1),((f157 ((y1.2.1.getD (y1.1.2.1.1+(Int.toNat (y1.1.1.length:Int))) (0:Int)),y1.1.2.2)).2.1 != (0:Int)),()))
 else none)
 else none)
 else none) (fun z1 =>
 none)
theorem aK3 (x:LK.D FJ×DenS JU):Nx (cf [(126,⟨Ew,Ex,p315,f315⟩),(165,⟨E5,Fu,p155,f155⟩),(166,⟨M4,Qd,p157,f157⟩)] [(324,3,LoopSpec.of HP gK Kv L3 w330_3 1)]) 9 324 Tryz.f324 FJ JU Jb x=j1 p315 f315 p155 f155 p157 f157 w330_3 x.1 x.2.1 x.2.2.1:=by kernel_rfl
def j6:HP.D→Option (Ah Kv L3):=Bf fun L=>U5 AO.pre AO.F Ay.pre Ay.F A5.pre A5.F L some
def Zl (x:LK.D FJ×DenS JU):Option (LK.B FJ×DenS Jb):=j1 AO.pre AO.F Ay.pre Ay.F A5.pre A5.F j6 x.1 x.2.1 x.2.2.1
def Cn:SumL:=QT FJ JU Jb Zl (LK.dflt FJ,DenS.dflt Jb)
theorem aQX:SoundL Tryz.prog G1 324 Cn:=oY (cf [(126,AO),(165,Ay),(166,A5)] [(324,3,LoopSpec.of HP gK Kv L3 j6 1)]) 324 Tryz.f324 ⟨i7,SY,gB,trivial⟩ ⟨rfl,fun d=>B3 (fun L e x=>U5 AO.pre AO.F Ay.pre Ay.F A5.pre A5.F L e x) (aBL AO.pre AO.F Ay.pre Ay.F A5.pre A5.F) (fun _ _ _ _=>aUu ..),trivial⟩ FJ JU Jb Zl _ (fun _=>aK3 ..)
abbrev UK:=LK.D FJ×DenS JU→Bool
abbrev Tp:=LK.D FJ×DenS JU→LK.B FJ×DenS Jb
variable (p330:UK) (f330:Tp)
abbrev JO:Ab:=[(false,.slice (.int .u64))]
abbrev ID:Ab:=[(false,.bool)]
abbrev E7:LK:=.win (.int .u64)
abbrev It:Pat:=⟨46,[(10,.one (.v .i64)),(9,.one (.sl (.int .u64))),(11,.one (.v .i64)),(1,.one (.sl (.int .u64))),(0,.one (.sub 0)),(5,.one (.v .u64))],[.arr (.int .u64)]⟩
abbrev hZ:List (Nat×Shape):=[]
abbrev Kh:List (Nat×Pat):=[(0,⟨46,[(1,.one (.sl (.int .u64))),(0,.one (.sub 0)),(5,.one (.v .u64))],[.arr (.int .u64)]⟩)]
abbrev KA:Option Pat:=none
variable (w331_3:Pat.D It→Option (Ah Kh KA))
def TJ (p155:C5) (f155:Db) {R:Type} (L:Pat.D It→Option R) (e:Ah Kh KA→Option R) (x:Pat.D It):Option R :=
 let e3_:=((x.2.1.getD (x.1.2.2.2.2.1.1+(Int.toNat x.1.2.2.1)) (0:Int)),(x.1.2.1.getD (Int.toNat x.1.2.2.1) (0:Int)),x.1.2.2.2.2.2)
 let e1_:=(f155 e3_)
 let e2_:=((decide ((0:Int)≤x.1.2.2.1))&&(decide (x.1.2.2.1<(x.1.2.2.2.2.1.2:Int))))
 bif (decide (x.1.2.2.1<x.1.1)) then (bif ((decide ((0:Int)≤x.1.2.2.1))&&(decide (x.1.2.2.1<(x.1.2.1.length:Int)))) then (bif e2_ then (bif (p155 e3_) then (bif e2_ then (((L ((x.1.1,x.1.2.1,(IntKind.wrap .i64 (x.1.2.2.1+(1:Int))),x.1.2.2.2.1,x.1.2.2.2.2.1,e1_.2),(x.2.1.set (x.1.2.2.2.2.1.1+(Int.toNat x.1.2.2.1)) e1_.1),()))))
 else none)
 else none)
 else none)
 else none)
 else (e (.inl (x.1.2.2.2,x.2)))
theorem aO0 (d:Nat) (R:Type) (L:Pat.D It→Option R) (e:Ah Kh KA→Option R) (x:Pat.D It) :
  BA (cf [(165,⟨E5,Fu,p155,f155⟩)] [(325,3,LoopSpec.of It hZ Kh KA w331_3 1)]) (d+2) 325 (By Tryz.f325 3) It hZ Kh KA (R:=R) L e x 1=TJ p155 f155 L e x:=by kernel_rfl
theorem zQ (p155:C5) (f155:Db):Bu fun L e x=>TJ p155 f155 L e x:=by intro _ _ _ _ _ _ _ h0 hL he _; unfold TJ; repeat' (first | exact h0 | exact hL _ | exact he _ | apply BR | (apply BW h0; intro _) | (apply B9 <;> intro _))
def iF (p155:C5) (f155:Db) (w331_3:Pat.D It→Option (Ah Kh KA)) (l0:LK.D (.win (.int .u64))) (a0:Aa (.slice (.int .u64))):Option (LK.B E7×DenS ID) :=
 Vx.AZ (w331_3 (((a0.length:Int),a0,(0:Int),a0,l0.2,(0:Int),()),l0.1,())) fun y0 =>
 Vx.A2 y0 (fun y1 =>
 bif ((decide ((0:Int)≤(y1.1.1.length:Int)))&&(decide ((y1.1.1.length:Int)<(y1.1.2.1.2:Int)))) then (bif (p155 ((y1.2.1.getD (y1.1.2.1.1+(Int.toNat (y1.1.1.length:Int))) (0:Int)),(0:Int),y1.1.2.2)) then (bif ((decide ((0:Int)≤(y1.1.1.length:Int)))&&(decide ((y1.1.1.length:Int)<(y1.1.2.1.2:Int)))) then (some ((y1.2.1.set (y1.1.2.1.1+(Int.toNat (y1.1.1.length:Int))) (f155 ((y1.2.1.getD (y1.1.2.1.1+(Int.toNat (y1.1.1.length:Int))) (0:Int)),(0:Int),y1.1.2.2)).1),((f155 ((y1.2.1.getD (y1.1.2.1.1+(Int.toNat (y1.1.1.length:Int))) (0:Int)),(0:Int),y1.1.2.2)).2.1 != (0:Int)),()))
 else none)
 else none)
 else none) (fun z1 =>
 none)
theorem aLI (x:LK.D E7×DenS JO):Nx (cf [(165,⟨E5,Fu,p155,f155⟩)] [(325,3,LoopSpec.of It hZ Kh KA w331_3 1)]) 9 325 Tryz.f325 E7 JO ID x=iF p155 f155 w331_3 x.1 x.2.1:=by kernel_rfl
def aY:It.D→Option (Ah Kh KA):=Bf fun L=>TJ Ay.pre Ay.F L some
def V1 (x:LK.D E7×DenS JO):Option (LK.B E7×DenS ID):=iF Ay.pre Ay.F aY x.1 x.2.1
def CZ:SumL:=QT E7 JO ID V1 (LK.dflt E7,DenS.dflt ID)
theorem aS7:SoundL Tryz.prog G1 325 CZ:=oY (cf [(165,Ay)] [(325,3,LoopSpec.of It hZ Kh KA aY 1)]) 325 Tryz.f325 ⟨SY,trivial⟩ ⟨rfl,fun d=>B3 (fun L e x=>TJ Ay.pre Ay.F L e x) (zQ Ay.pre Ay.F) (fun _ _ _ _=>aO0 ..),trivial⟩ E7 JO ID V1 _ (fun _=>aLI ..)
abbrev Uo:=LK.D E7×DenS JO→Bool
abbrev UA:=LK.D E7×DenS JO→LK.B E7×DenS ID
variable (p331:Uo) (f331:UA)
abbrev La:Ab:=[(false,.slice (.int .u64))]
abbrev I4:Ab:=[(false,.int .u64)]
abbrev Fl:LK:=.win (.int .u64)
abbrev Gg:Pat:=⟨92,[(6,.one (.v .u64)),(7,.one (.v .u64)),(5,.one (.v .i64)),(0,.one (.sub 0)),(1,.one (.sl (.int .u64)))],[.arr (.int .u64)]⟩
abbrev WU:List (Nat×Shape):=[]
abbrev JA:List (Nat×Pat):=[(0,⟨92,[(0,.one (.sub 0)),(1,.one (.sl (.int .u64))),(6,.one (.v .u64))],[.arr (.int .u64)]⟩)]
abbrev JR:Option Pat:=none
abbrev Gs:Pat:=⟨92,[(6,.one (.v .u64)),(0,.one (.sub 0)),(1,.one (.sl (.int .u64)))],[.arr (.int .u64)]⟩
abbrev Yu:List (Nat×Shape):=[]
abbrev IZ:List (Nat×Pat):=[(2,⟨92,[(6,.one (.v .u64))],[.arr (.int .u64)]⟩)]
abbrev JD:Option Pat:=none
variable (w332_6:Pat.D Gg→Option (Ah JA JR)) (w332_13:Pat.D Gs→Option (Ah IZ JD))
def Tx (p328:EE) (f328:EQ) (p315:EJ) (f315:ER) (p155:C5) (f155:Db) (p330:UK) (f330:Tp) (p331:Uo) (f331:UA) {R:Type} (L:Pat.D Gs→Option R) (e:Ah IZ JD→Option R) (x:Pat.D Gs):Option R :=
 let e1_:=(IntKind.wrap .u64 (x.1.1-(1:Int)))
 bif (p331 ((x.2.1,x.1.2.1),x.1.2.2)) then (bif (f331 ((x.2.1,x.1.2.1),x.1.2.2)).2.1 then (((e (.inl ((e1_,()),(f331 ((x.2.1,x.1.2.1),x.1.2.2)).1,())))))
 else (L ((e1_,x.1.2),(f331 ((x.2.1,x.1.2.1),x.1.2.2)).1,())))
 else none
theorem aSS (d:Nat) (R:Type) (L:Pat.D Gs→Option R) (e:Ah IZ JD→Option R) (x:Pat.D Gs) :
  BA ({ cf [(264,⟨EM,ES,p328,f328⟩),(126,⟨Ew,Ex,p315,f315⟩),(165,⟨E5,Fu,p155,f155⟩)] [(305,6,LoopSpec.of Gg WU JA JR w332_6 1),(305,13,LoopSpec.of Gs Yu IZ JD w332_13 1)] with lsums:=[(324,⟨FJ,JU,Jb,p330,f330⟩),(325,⟨E7,JO,ID,p331,f331⟩)] }) (d+2) 305 (By Tryz.f305 13) Gs Yu IZ JD (R:=R) L e x 1=Tx p328 f328 p315 f315 p155 f155 p330 f330 p331 f331 L e x:=by kernel_rfl
theorem xP (p328:EE) (f328:EQ) (p315:EJ) (f315:ER) (p155:C5) (f155:Db) (p330:UK) (f330:Tp) (p331:Uo) (f331:UA):Bu fun L e x=>Tx p328 f328 p315 f315 p155 f155 p330 f330 p331 f331 L e x:=by intro _ _ _ _ _ _ _ h0 hL he _; unfold Tx; repeat' (first | exact h0 | exact hL _ | exact he _ | apply BR | (apply BW h0; intro _) | (apply B9 <;> intro _))
def UZ (p328:EE) (f328:EQ) (p315:EJ) (f315:ER) (p155:C5) (f155:Db) (p330:UK) (f330:Tp) (p331:Uo) (f331:UA) {R:Type} (L:Pat.D Gg→Option R) (e:Ah JA JR→Option R) (x:Pat.D Gg):Option R :=
 let e11_:=(IntKind.wrap .i64 (x.1.2.2.1-(2:Int)))
 let e10_:=(Int.toNat e11_)
 let e9_:=(f315 (x.1.1,(x.1.2.2.2.2.1.getD e10_ (0:Int)),()))
 let e1_:=(decide (e9_.1<x.1.2.1))
 let e12_:=(IntKind.wrap .i64 (x.1.2.2.1-(1:Int)))
 let e2_:=(f155 (x.1.2.1,(x.1.2.2.2.2.1.getD (Int.toNat e12_) (0:Int)),(0:Int),()))
 let e3_:=e9_
 let e4_:=(decide ((0:Int)≤e11_))
 let e5_:=e10_
 let e6_:=e12_
 let e7_:=e11_
 let e8_:=(IntKind.wrap .u64 (x.1.1-(1:Int)))
 bif (e4_&&(decide (e7_<(x.1.2.2.2.2.1.length:Int)))) then (bif (p315 (x.1.1,(x.1.2.2.2.2.1.getD e5_ (0:Int)),())) then (bif ((e4_&&(decide (e7_<(x.1.2.2.2.1.2:Int))))||(!((bif e1_ then false else true)&&(decide (e3_.1=x.1.2.1))))) then (bif (e1_||((e3_.1==x.1.2.1)&&(decide (e3_.2.1≤(x.2.1.getD (x.1.2.2.2.1.1+e5_) (0:Int)))))) then (((e (.inl ((x.1.2.2.2.1,x.1.2.2.2.2.1,x.1.1,()),x.2)))))
 else bif ((decide ((0:Int)≤e6_))&&(decide (e6_<(x.1.2.2.2.2.1.length:Int)))) then (bif (p155 (x.1.2.1,(x.1.2.2.2.2.1.getD (Int.toNat e6_) (0:Int)),(0:Int),())) then (bif (e2_.2.1 != (0:Int)) then (((e (.inl ((x.1.2.2.2.1,x.1.2.2.2.2.1,e8_,()),x.2)))))
 else (L ((e8_,e2_.1,x.1.2.2),x.2)))
 else none)
 else none)
 else none)
 else none)
 else none
theorem aOq (d:Nat) (R:Type) (L:Pat.D Gg→Option R) (e:Ah JA JR→Option R) (x:Pat.D Gg) :
  BA ({ cf [(264,⟨EM,ES,p328,f328⟩),(126,⟨Ew,Ex,p315,f315⟩),(165,⟨E5,Fu,p155,f155⟩)] [(305,6,LoopSpec.of Gg WU JA JR w332_6 1),(305,13,LoopSpec.of Gs Yu IZ JD w332_13 1)] with lsums:=[(324,⟨FJ,JU,Jb,p330,f330⟩),(325,⟨E7,JO,ID,p331,f331⟩)] }) (d+2) 305 (By Tryz.f305 6) Gg WU JA JR (R:=R) L e x 1=UZ p328 f328 p315 f315 p155 f155 p330 f330 p331 f331 L e x:=by kernel_rfl
theorem aEv (p328:EE) (f328:EQ) (p315:EJ) (f315:ER) (p155:C5) (f155:Db) (p330:UK) (f330:Tp) (p331:Uo) (f331:UA):Bu fun L e x=>UZ p328 f328 p315 f315 p155 f155 p330 f330 p331 f331 L e x:=by intro _ _ _ _ _ _ _ h0 hL he _; unfold UZ; repeat' (first | exact h0 | exact hL _ | exact he _ | apply BR | (apply BW h0; intro _) | (apply B9 <;> intro _))
def aD (p328:EE) (f328:EQ) (p315:EJ) (f315:ER) (p155:C5) (f155:Db) (p330:UK) (f330:Tp) (p331:Uo) (f331:UA) (w332_6:Pat.D Gg→Option (Ah JA JR)) (w332_13:Pat.D Gs→Option (Ah IZ JD)) (l0:LK.D (.win (.int .u64))) (a0:Aa (.slice (.int .u64))):Option (LK.B Fl×DenS I4) :=
 let e11_:=(l0.1.getD (l0.2.1+(Int.toNat (a0.length:Int))) (0:Int))
 let e10_:=(IntKind.wrap .i64 ((a0.length:Int)-(1:Int)))
 let e9_:=(Int.toNat e10_)
 let e8_:=(a0.getD e9_ (0:Int))
 let e1_:=(f328 (e11_,(l0.1.getD (l0.2.1+e9_) (0:Int)),e8_,()))
 let e2_:=((decide ((0:Int)≤e10_))&&(decide (e10_<(a0.length:Int))))
 let e3_:=e8_
 let e4_:=((decide ((0:Int)≤(a0.length:Int)))&&(decide ((a0.length:Int)<(l0.2.2:Int))))
 let e5_:=e10_
 let e12_:=((l0.1,l0.2),a0,(18446744073709551615:Int),())
 let e6_:=(f330 e12_)
 let e7_:=e11_
 bif e4_ then (bif e2_ then (bif (decide (e7_<e3_)) then (bif e4_ then (bif ((decide ((0:Int)≤e5_))&&(decide (e5_<(l0.2.2:Int)))) then (bif e2_ then (bif (p328 (e7_,(l0.1.getD (l0.2.1+(Int.toNat e5_)) (0:Int)),e3_,())) then (Vx.AZ (w332_6 ((e1_.1,e1_.2.1,(a0.length:Int),l0.2,a0,()),l0.1,())) fun y7 =>
 Vx.A2 y7 (fun y8 =>
 bif (p330 ((y8.2.1,y8.1.1),y8.1.2)) then (bif (f330 ((y8.2.1,y8.1.1),y8.1.2)).2.1 then (Vx.AZ (w332_13 ((y8.1.2.2.1,y8.1.1,y8.1.2.1,()),(f330 ((y8.2.1,y8.1.1),y8.1.2)).1,())) fun y11 =>
 Vx.A2 y11 (fun y12 =>
 some (y12.2.1,y12.1)) (fun z12 =>
 none))
 else some ((f330 ((y8.2.1,y8.1.1),y8.1.2)).1,y8.1.2.2))
 else none) (fun z8 =>
 none))
 else none)
 else none)
 else none)
 else none)
 else bif (p330 e12_) then (bif e6_.2.1 then (Vx.AZ (w332_13 (((18446744073709551615:Int),l0.2,a0,()),e6_.1,())) fun y5 =>
 Vx.A2 y5 (fun y6 =>
 some (y6.2.1,y6.1)) (fun z6 =>
 none))
 else some (e6_.1,(18446744073709551615:Int),()))
 else none)
 else none)
 else none
theorem aUx (x:LK.D Fl×DenS La):Nx ({ cf [(264,⟨EM,ES,p328,f328⟩),(126,⟨Ew,Ex,p315,f315⟩),(165,⟨E5,Fu,p155,f155⟩)] [(305,6,LoopSpec.of Gg WU JA JR w332_6 1),(305,13,LoopSpec.of Gs Yu IZ JD w332_13 1)] with lsums:=[(324,⟨FJ,JU,Jb,p330,f330⟩),(325,⟨E7,JO,ID,p331,f331⟩)] }) 9 305 Tryz.f305 Fl La I4 x=aD p328 f328 p315 f315 p155 f155 p330 f330 p331 f331 w332_6 w332_13 x.1 x.2.1:=by kernel_rfl
def VY:Gs.D→Option (Ah IZ JD):=Bf fun L=>Tx AP.pre AP.F AO.pre AO.F Ay.pre Ay.F Cn.pre Cn.F CZ.pre CZ.F L some
def nF:Gg.D→Option (Ah JA JR):=Bf fun L=>UZ AP.pre AP.F AO.pre AO.F Ay.pre Ay.F Cn.pre Cn.F CZ.pre CZ.F L some
def Zj (x:LK.D Fl×DenS La):Option (LK.B Fl×DenS I4):=aD AP.pre AP.F AO.pre AO.F Ay.pre Ay.F Cn.pre Cn.F CZ.pre CZ.F nF VY x.1 x.2.1
def Ev:SumL:=QT Fl La I4 Zj (LK.dflt Fl,DenS.dflt I4)
theorem aRF:SoundL Tryz.prog G1 305 Ev:=oY ({ cf [(264,AP),(126,AO),(165,Ay)] [(305,6,LoopSpec.of Gg WU JA JR nF 1),(305,13,LoopSpec.of Gs Yu IZ JD VY 1)] with lsums:=[(324,Cn),(325,CZ)] }) 305 Tryz.f305 ⟨mG,i7,SY,trivial⟩ ⟨rfl,fun d=>B3 (fun L e x=>UZ AP.pre AP.F AO.pre AO.F Ay.pre Ay.F Cn.pre Cn.F CZ.pre CZ.F L e x) (aEv AP.pre AP.F AO.pre AO.F Ay.pre Ay.F Cn.pre Cn.F CZ.pre CZ.F) (fun _ _ _ _=>aOq ..),⟨rfl,fun d=>B3 (fun L e x=>Tx AP.pre AP.F AO.pre AO.F Ay.pre Ay.F Cn.pre Cn.F CZ.pre CZ.F L e x) (xP AP.pre AP.F AO.pre AO.F Ay.pre Ay.F Cn.pre Cn.F CZ.pre CZ.F) (fun _ _ _ _=>aSS ..),trivial⟩⟩ Fl La I4 Zj _ (fun _=>aUx ..) (hls:=⟨aQX,aS7,trivial⟩)
abbrev dH:=LK.D Fl×DenS La→Bool
abbrev cP:=LK.D Fl×DenS La→LK.B Fl×DenS I4
variable (p332:dH) (f332:cP)
abbrev Pw:Ab:=[(false,.slice (.int .u64)),(false,.slice (.int .u64))]
abbrev OS:Ab:=[(false,.slice (.int .u64)),(false,.slice (.int .u64))]
abbrev Gv:Pat:=⟨91,[(9,.one (.sl (.int .u64))),(12,.one (.v .i64)),(4,.one (.own 1)),(10,.one (.own 0)),(11,.one (.v .i64)),(8,.one (.v .i64))],[.arr (.int .u64),.arr (.int .u64)]⟩
abbrev cM:List (Nat×Shape):=[]
abbrev K8:List (Nat×Pat):=[(0,⟨91,[(4,.one (.own 1)),(10,.one (.own 0)),(11,.one (.v .i64)),(8,.one (.v .i64))],[.arr (.int .u64),.arr (.int .u64)]⟩)]
abbrev MI:Option Pat:=none
variable (w333_14:Pat.D Gv→Option (Ah K8 MI))
def U2 (p1146:V2) (f1146:YZ) (p1329:m7) (f1329:j2) (p144:IW) (f144:I8) (p146:RW) (f146:RZ) (p329:bC) (f329:eK) (p327:LT) (f327:Mh) (p186:Vt) (f186:UR) (p332:dH) (f332:cP) (p173:A4) (f173:A1) (p171:RV) (f171:Sx) {R:Type} (L:Pat.D Gv→Option R) (e:Ah K8 MI→Option R) (x:Pat.D Gv):Option R :=
 let e3_:=(IntKind.wrap .i64 ((IntKind.wrap .i64 (x.1.2.1+x.1.2.2.2.2.1))+(1:Int)))
 let e1_:=(f332 ((x.2.1,(Int.toNat x.1.2.1),((Int.toNat e3_)-(Int.toNat x.1.2.1))),x.1.1,()))
 let e2_:=e3_
 bif (decide (x.1.2.1≥(0:Int))) then (bif (((decide ((0:Int)≤x.1.2.1))&&(decide (x.1.2.1≤e2_)))&&(decide (e2_≤(x.2.1.length:Int)))) then (bif (p332 ((x.2.1,(Int.toNat x.1.2.1),((Int.toNat e2_)-(Int.toNat x.1.2.1))),x.1.1,())) then (bif ((decide ((0:Int)≤x.1.2.1))&&(decide (x.1.2.1<(x.2.2.1.length:Int)))) then (((L ((x.1.1,(IntKind.wrap .i64 (x.1.2.1-(1:Int))),(),(),x.1.2.2.2.2),e1_.1,(x.2.2.1.set (Int.toNat x.1.2.1) e1_.2.1),()))))
 else none)
 else none)
 else none)
 else (e (.inl (((),(),x.1.2.2.2.2),x.2)))
theorem aKH (d:Nat) (R:Type) (L:Pat.D Gv→Option R) (e:Ah K8 MI→Option R) (x:Pat.D Gv) :
  BA ({ cf [(168,⟨IN,Je,p1146,f1146⟩),(303,⟨Kt,Kj,p1329,f1329⟩),(177,⟨Gu,Gt,p144,f144⟩),(168,⟨Hm,Iv,p146,f146⟩),(303,⟨Mw,MC,p329,f329⟩),(304,⟨Hg,GB,p327,f327⟩),(250,⟨Jo,JN,p186,f186⟩),(169,⟨Bt,Bs,p173,f173⟩),(301,⟨Hx,Is,p171,f171⟩)] [(251,14,LoopSpec.of Gv cM K8 MI w333_14)] with cut:=true,lsums:=[(305,⟨Fl,La,I4,p332,f332⟩)] }) (d+2) 251 (By Tryz.f251 14) Gv cM K8 MI (R:=R) L e x=U2 p1146 f1146 p1329 f1329 p144 f144 p146 f146 p329 f329 p327 f327 p186 f186 p332 f332 p173 f173 p171 f171 L e x:=by kernel_rfl
theorem xV (p1146:V2) (f1146:YZ) (p1329:m7) (f1329:j2) (p144:IW) (f144:I8) (p146:RW) (f146:RZ) (p329:bC) (f329:eK) (p327:LT) (f327:Mh) (p186:Vt) (f186:UR) (p332:dH) (f332:cP) (p173:A4) (f173:A1) (p171:RV) (f171:Sx):Bu fun L e x=>U2 p1146 f1146 p1329 f1329 p144 f144 p146 f146 p329 f329 p327 f327 p186 f186 p332 f332 p173 f173 p171 f171 L e x:=by intro _ _ _ _ _ _ _ h0 hL he _; unfold U2; repeat' (first | exact h0 | exact hL _ | exact he _ | apply BR | (apply BW h0; intro _) | (apply B9 <;> intro _))
def jE (p1146:V2) (f1146:YZ) (p1329:m7) (f1329:j2) (p144:IW) (f144:I8) (p146:RW) (f146:RZ) (p329:bC) (f329:eK) (p327:LT) (f327:Mh) (p186:Vt) (f186:UR) (p332:dH) (f332:cP) (p173:A4) (f173:A1) (p171:RV) (f171:Sx) (w333_14:Pat.D Gv→Option (Ah K8 MI)) (a0 a1:Aa (.slice (.int .u64))):Option (DenS OS) :=
 let e17_:=(IntKind.wrap .i64 (((f173 (a1,())).1.length:Int)-(1:Int)))
 let e14_:=(f327 (((f173 (a1,())).1.getD (Int.toNat e17_) (0:Int)),()))
 let e12_:=(f186 ((f173 (a0,())).1,e14_))
 let e18_:=(IntKind.wrap .i64 (((f173 (a0,())).1.length:Int)+(1:Int)))
 let e15_:=(List.replicate (Int.toNat e18_) (0:Int))
 let e13_:=(f186 ((f173 (a1,())).1,e14_))
 let e11_:=(IntKind.wrap .i64 ((((e12_.1.take e15_.length)++(e15_.drop e12_.1.length)).length:Int)-(e13_.1.length:Int)))
 let e1_:=(List.replicate (Int.toNat e11_) (0:Int))
 let e2_:=e11_
 let e3_:=e13_
 let e4_:=e12_
 let e5_:=e14_
 let e6_:=e15_
 let e16_:=((f1146 (f173 (a0,()))).1,((f173 (a1,())).1.getD (Int.toNat (0:Int)) (0:Int)),())
 let e7_:=(((f1329 e16_).2.1::[]),())
 let e8_:=e16_
 let e9_:=e17_
 let e10_:=e18_
 bif (p173 (a0,())) then (bif (p173 (a1,())) then (bif (p144 ((f173 (a0,())).1,(f173 (a1,())))) then (bif (decide ((f144 ((f173 (a0,())).1,(f173 (a1,())))).1<(0:Int))) then (bif (p1146 (f173 (a0,()))) then (some ([],(f1146 (f173 (a0,())))))
 else none)
 else bif (((f173 (a1,())).1.length:Int)==(1:Int)) then (bif (p1146 (f173 (a0,()))) then (bif (decide ((0:Int)<((f173 (a1,())).1.length:Int))) then (bif (p1329 e8_) then (bif (p173 e7_) then (some ((f1329 e8_).1,(f173 e7_)))
 else none)
 else none)
 else none)
 else none)
 else bif ((decide ((0:Int)≤e9_))&&(decide (e9_<((f173 (a1,())).1.length:Int)))) then (bif (p327 (((f173 (a1,())).1.getD (Int.toNat e9_) (0:Int)),())) then (bif (p186 ((f173 (a1,())).1,e5_)) then (bif ((decide ((0:Int)≤e10_))&&(decide ((e10_*(8:Int))≤(140737488355328:Int)))) then (bif (p186 ((f173 (a0,())).1,e5_)) then (bif ((decide ((0:Int)≤e2_))&&(decide ((e2_*(8:Int))≤(140737488355328:Int)))) then (Vx.AZ (w333_14 ((e3_.1,(IntKind.wrap .i64 ((e1_.length:Int)-(1:Int))),(),(),(e3_.1.length:Int),e5_),((e4_.1.take e6_.length)++(e6_.drop e4_.1.length)),e1_,())) fun y11 =>
 Vx.A2 y11 (fun y12 =>
 bif (p173 y12.2.2) then (bif ((decide ((0:Int)≤y12.1.2.2.1))&&(decide (y12.1.2.2.1≤(y12.2.1.length:Int)))) then (bif (p171 (((y12.2.1.take (Int.toNat y12.1.2.2.1)).drop (Int.toNat (0:Int))),y12.1.2.2.2)) then (some ((f173 y12.2.2).1,(f171 (((y12.2.1.take (Int.toNat y12.1.2.2.1)).drop (Int.toNat (0:Int))),y12.1.2.2.2))))
 else none)
 else none)
 else none) (fun z12 =>
 none))
 else none)
 else none)
 else none)
 else none)
 else none)
 else none)
 else none)
 else none)
 else none
theorem aKy (x:DenS Pw):run ({ cf [(168,⟨IN,Je,p1146,f1146⟩),(303,⟨Kt,Kj,p1329,f1329⟩),(177,⟨Gu,Gt,p144,f144⟩),(168,⟨Hm,Iv,p146,f146⟩),(303,⟨Mw,MC,p329,f329⟩),(304,⟨Hg,GB,p327,f327⟩),(250,⟨Jo,JN,p186,f186⟩),(169,⟨Bt,Bs,p173,f173⟩),(301,⟨Hx,Is,p171,f171⟩)] [(251,14,LoopSpec.of Gv cM K8 MI w333_14)] with cut:=true,lsums:=[(305,⟨Fl,La,I4,p332,f332⟩)] }) 9 251 Tryz.f251 Pw OS x=jE p1146 f1146 p1329 f1329 p144 f144 p146 f146 p329 f329 p327 f327 p186 f186 p332 f332 p173 f173 p171 f171 w333_14 x.1 x.2.1:=by kernel_rfl
def ZU:Gv.D→Option (Ah K8 MI):=Bf fun L=>U2 Du.pre Du.F Ez.pre Ez.F Bj.pre Bj.F CQ.pre CQ.F Fz.pre Fz.F BC.pre BC.F Dv.pre Dv.F Ev.pre Ev.F Af.pre Af.F CP.pre CP.F L some
def Y1 (x:DenS Pw):Option (DenS OS):=jE Du.pre Du.F Ez.pre Ez.F Bj.pre Bj.F CQ.pre CQ.F Fz.pre Fz.F BC.pre BC.F Dv.pre Dv.F Ev.pre Ev.F Af.pre Af.F CP.pre CP.F ZU x.1 x.2.1
def OT:Sum:=Al Pw OS Y1 (DenS.dflt OS)
theorem aNh:Sound Tryz.prog G1 251 OT:=sd ({ cf [(168,Du),(303,Ez),(177,Bj),(168,CQ),(303,Fz),(304,BC),(250,Dv),(169,Af),(301,CP)] [(251,14,LoopSpec.of Gv cM K8 MI ZU)] with cut:=true,lsums:=[(305,Ev)] }) 251 Tryz.f251 ⟨aAl,aP9,mU,vX,aRx,aAN,zN,DV,uP,trivial⟩ ⟨rfl,fun d=>B3 (fun L e x=>U2 Du.pre Du.F Ez.pre Ez.F Bj.pre Bj.F CQ.pre CQ.F Fz.pre Fz.F BC.pre BC.F Dv.pre Dv.F Ev.pre Ev.F Af.pre Af.F CP.pre CP.F L e x) (xV Du.pre Du.F Ez.pre Ez.F Bj.pre Bj.F CQ.pre CQ.F Fz.pre Fz.F BC.pre BC.F Dv.pre Dv.F Ev.pre Ev.F Af.pre Af.F CP.pre CP.F) (fun _ _ _ _=>aKH ..),trivial⟩ Pw OS Y1 _ (fun _=>aKy ..) (hls:=⟨aRF,trivial⟩)
abbrev aFl:=Ak Pw
abbrev aFH:=Aj Pw OS
variable (p333:aFl) (f333:aFH)
abbrev M3:Ab:=[(false,.slice (.int .u64)),(false,.slice (.int .u64))]
abbrev Ly:Ab:=[(false,.slice (.int .u64)),(false,.slice (.int .u64)),(false,.int .i64)]
def gM (p185:Tv) (f185:Ux) (p173:A4) (f173:A1) (p333:aFl) (f333:aFH) (a0 a1:Aa (.slice (.int .u64))):Option (DenS Ly) :=
 bif (p185 ((a0::(a1::[])),())) then (bif (f185 ((a0::(a1::[])),())).1 then (some ([],[],(5:Int),()))
 else bif (p173 (a1,())) then (bif (((f173 (a1,())).1.length:Int)==(0:Int)) then (some ([],[],(10:Int),()))
 else bif (p333 (a0,a1,())) then (some ((f333 (a0,a1,())).1,(f333 (a0,a1,())).2.1,(0:Int),()))
 else none)
 else none)
 else none
theorem aSP (x:DenS M3):run (cf [(249,⟨J3,Jp,p185,f185⟩),(169,⟨Bt,Bs,p173,f173⟩),(251,⟨Pw,OS,p333,f333⟩)] []) 9 175 Tryz.f175 M3 Ly x=gM p185 f185 p173 f173 p333 f333 x.1 x.2.1:=by kernel_rfl
def Xv (x:DenS M3):Option (DenS Ly):=gM Ea.pre Ea.F Af.pre Af.F OT.pre OT.F x.1 x.2.1
def Et:Sum:=Al M3 Ly Xv (DenS.dflt Ly)
theorem aRr:Sound Tryz.prog G1 175 Et:=sd (cf [(249,Ea),(169,Af),(251,OT)] []) 175 Tryz.f175 ⟨tK,DV,aNh,trivial⟩ trivial M3 Ly Xv _ (fun _=>aSP ..)
abbrev eX:=Ak M3
abbrev aQ:=Aj M3 Ly
variable (p345:eX) (f345:aQ)
abbrev PW:Ab:=[(true,.slice (.int .u64)),(false,.slice (.int .u64))]
abbrev QG:Ab:=[(true,.slice (.int .u64))]
abbrev HB:Pat:=⟨37,[(9,.one (.v .i64)),(1,.one (.sl (.int .u64))),(5,.one (.v .u64)),(10,.one (.v .i64)),(0,.one (.own 0))],[.arr (.int .u64)]⟩
abbrev iX:List (Nat×Shape):=[]
abbrev M1:List (Nat×Pat):=[(0,⟨37,[(0,.one (.own 0))],[.arr (.int .u64)]⟩)]
abbrev Lv:Option Pat:=none
variable (w1174_3:Pat.D HB→Option (Ah M1 Lv))
def Tc (p1173:Pt) (f1173:PD) (p157:Ha) (f157:GP) (p173:A4) (f173:A1) {R:Type} (L:Pat.D HB→Option R) (e:Ah M1 Lv→Option R) (x:Pat.D HB):Option R :=
 let e8_:=(x.2.1.getD (Int.toNat x.1.2.2.2.1) (0:Int))
 let e7_:=((x.1.2.1.getD (Int.toNat x.1.2.2.2.1) (0:Int)),x.1.2.2.1,())
 let e1_:=(f157 (e8_,e7_))
 let e2_:=((decide ((0:Int)≤x.1.2.2.2.1))&&(decide (x.1.2.2.2.1<(x.2.1.length:Int))))
 let e3_:=(f157 (e8_,(0:Int),x.1.2.2.1,()))
 let e4_:=((IntKind.wrap .i64 (x.1.2.2.2.1+(1:Int))),(),())
 let e5_:=(decide (x.1.2.2.2.1<(x.1.2.1.length:Int)))
 let e6_:=e8_
 bif (decide (x.1.2.2.2.1<x.1.1)) then (bif e5_ then (bif ((decide ((0:Int)≤x.1.2.2.2.1))&&e5_) then (bif e2_ then (bif (p157 (e6_,e7_)) then (bif e2_ then (((L ((x.1.1,x.1.2.1,e1_.2.1,e4_),(x.2.1.set (Int.toNat x.1.2.2.2.1) e1_.1),()))))
 else none)
 else none)
 else none)
 else none)
 else bif e2_ then (bif (p157 (e6_,(0:Int),x.1.2.2.1,())) then (bif e2_ then (((L ((x.1.1,x.1.2.1,e3_.2.1,e4_),(x.2.1.set (Int.toNat x.1.2.2.2.1) e3_.1),()))))
 else none)
 else none)
 else none)
 else (e (.inl (((),()),x.2)))
theorem aNy (d:Nat) (R:Type) (L:Pat.D HB→Option R) (e:Ah M1 Lv→Option R) (x:Pat.D HB) :
  BA ({ cf [(169,⟨Iu,Ir,p1173,f1173⟩),(166,⟨M4,Qd,p157,f157⟩),(169,⟨Bt,Bs,p173,f173⟩)] [(252,3,LoopSpec.of HB iX M1 Lv w1174_3)] with keep:=true }) (d+2) 252 (By Tryz.f252 3) HB iX M1 Lv (R:=R) L e x=Tc p1173 f1173 p157 f157 p173 f173 L e x:=by kernel_rfl
theorem aB7 (p1173:Pt) (f1173:PD) (p157:Ha) (f157:GP) (p173:A4) (f173:A1):Bu fun L e x=>Tc p1173 f1173 p157 f157 p173 f173 L e x:=by intro _ _ _ _ _ _ _ h0 hL he _; unfold Tc; repeat' (first | exact h0 | exact hL _ | exact he _ | apply BR | (apply BW h0; intro _) | (apply B9 <;> intro _))
def fR (p1173:Pt) (f1173:PD) (p157:Ha) (f157:GP) (p173:A4) (f173:A1) (w1174_3:Pat.D HB→Option (Ah M1 Lv)) (a0 a1:Aa (.slice (.int .u64))):Option (DenS QG) :=
 Vx.AZ (w1174_3 (((a0.length:Int),a1,(0:Int),(0:Int),(),()),a0,())) fun y0 =>
 Vx.A2 y0 (fun y1 =>
 bif (p1173 y1.2) then (some (f1173 y1.2))
 else none) (fun z1 =>
 none)
theorem aRM (x:DenS PW):run ({ cf [(169,⟨Iu,Ir,p1173,f1173⟩),(166,⟨M4,Qd,p157,f157⟩),(169,⟨Bt,Bs,p173,f173⟩)] [(252,3,LoopSpec.of HB iX M1 Lv w1174_3)] with keep:=true }) 9 252 Tryz.f252 PW QG x=fR p1173 f1173 p157 f157 p173 f173 w1174_3 x.1 x.2.1:=by kernel_rfl
def XF:HB.D→Option (Ah M1 Lv):=Bf fun L=>Tc Cc.pre Cc.F A5.pre A5.F Af.pre Af.F L some
def Yc (x:DenS PW):Option (DenS QG):=fR Cc.pre Cc.F A5.pre A5.F Af.pre Af.F XF x.1 x.2.1
def N7:Sum:=Al PW QG Yc (DenS.dflt QG)
theorem aNn:Sound Tryz.prog G1 252 N7:=sd ({ cf [(169,Cc),(166,A5),(169,Af)] [(252,3,LoopSpec.of HB iX M1 Lv XF)] with keep:=true }) 252 Tryz.f252 ⟨aFA,gB,DV,trivial⟩ ⟨rfl,fun d=>B3 (fun L e x=>Tc Cc.pre Cc.F A5.pre A5.F Af.pre Af.F L e x) (aB7 Cc.pre Cc.F A5.pre A5.F Af.pre Af.F) (fun _ _ _ _=>aNy ..),trivial⟩ PW QG Yc _ (fun _=>aRM ..)
abbrev aGS:=Ak PW
abbrev aF4:=Aj PW QG
variable (p1174:aGS) (f1174:aF4)
abbrev Rb:Ab:=[(false,.slice (.int .u64)),(false,.slice (.int .u64))]
abbrev QV:Ab:=[(false,.slice (.int .u64))]
abbrev HO:Pat:=⟨37,[(9,.one (.v .i64)),(1,.one (.sl (.int .u64))),(5,.one (.v .u64)),(10,.one (.v .i64)),(0,.one (.sl (.int .u64)))],[]⟩
abbrev gL:List (Nat×Shape):=[]
abbrev LQ:List (Nat×Pat):=[(0,⟨37,[(0,.one (.sl (.int .u64)))],[]⟩)]
abbrev MT:Option Pat:=none
variable (w174_3:Pat.D HO→Option (Ah LQ MT))
def WM (p157:Ha) (f157:GP) (p173:A4) (f173:A1) {R:Type} (L:Pat.D HO→Option R) (e:Ah LQ MT→Option R) (x:Pat.D HO):Option R :=
 let e1_:=((decide ((0:Int)≤x.1.2.2.2.1))&&(decide (x.1.2.2.2.1<(x.1.2.2.2.2.1.length:Int))))
 let e2_:=(x.1.2.2.2.2.1.getD (Int.toNat x.1.2.2.2.1) (0:Int))
 let e3_:=(decide (x.1.2.2.2.1<(x.1.2.1.length:Int)))
 bif (decide (x.1.2.2.2.1<x.1.1)) then (bif e3_ then (bif ((decide ((0:Int)≤x.1.2.2.2.1))&&e3_) then (bif e1_ then (bif (p157 (e2_,(x.1.2.1.getD (Int.toNat x.1.2.2.2.1) (0:Int)),x.1.2.2.1,())) then (bif e1_ then ((none))
 else none)
 else none)
 else none)
 else none)
 else bif e1_ then (bif (p157 (e2_,(0:Int),x.1.2.2.1,())) then (bif e1_ then ((none))
 else none)
 else none)
 else none)
 else (e (.inl (x.1.2.2.2.2,())))
theorem aNu (d:Nat) (R:Type) (L:Pat.D HO→Option R) (e:Ah LQ MT→Option R) (x:Pat.D HO) :
  BA (cf [(166,⟨M4,Qd,p157,f157⟩),(169,⟨Bt,Bs,p173,f173⟩)] [(252,3,LoopSpec.of HO gL LQ MT w174_3)]) (d+2) 252 (By Tryz.f252 3) HO gL LQ MT (R:=R) L e x=WM p157 f157 p173 f173 L e x:=by kernel_rfl
theorem aMB (p157:Ha) (f157:GP) (p173:A4) (f173:A1):Bu fun L e x=>WM p157 f157 p173 f173 L e x:=by intro _ _ _ _ _ _ _ h0 hL he _; unfold WM; repeat' (first | exact h0 | exact hL _ | exact he _ | apply BR | (apply BW h0; intro _) | (apply B9 <;> intro _))
def aCg (p157:Ha) (f157:GP) (p173:A4) (f173:A1) (w174_3:Pat.D HO→Option (Ah LQ MT)) (a0 a1:Aa (.slice (.int .u64))):Option (DenS QV) :=
 Vx.AZ (w174_3 (((a0.length:Int),a1,(0:Int),(0:Int),a0,()),())) fun y0 =>
 Vx.A2 y0 (fun y1 =>
 bif (p173 y1.1) then (some (f173 y1.1))
 else none) (fun z1 =>
 none)
theorem aTQ (x:DenS Rb):run (cf [(166,⟨M4,Qd,p157,f157⟩),(169,⟨Bt,Bs,p173,f173⟩)] [(252,3,LoopSpec.of HO gL LQ MT w174_3)]) 9 252 Tryz.f252 Rb QV x=aCg p157 f157 p173 f173 w174_3 x.1 x.2.1:=by kernel_rfl
def aEq:HO.D→Option (Ah LQ MT):=Bf fun L=>WM A5.pre A5.F Af.pre Af.F L some
def aBU (x:DenS Rb):Option (DenS QV):=aCg A5.pre A5.F Af.pre Af.F aEq x.1 x.2.1
def Ul:Sum:=Al Rb QV aBU (DenS.dflt QV)
theorem aQL:Sound Tryz.prog G1 252 Ul:=sd (cf [(166,A5),(169,Af)] [(252,3,LoopSpec.of HO gL LQ MT aEq)]) 252 Tryz.f252 ⟨gB,DV,trivial⟩ ⟨rfl,fun d=>B3 (fun L e x=>WM A5.pre A5.F Af.pre Af.F L e x) (aMB A5.pre A5.F Af.pre Af.F) (fun _ _ _ _=>aNu ..),trivial⟩ Rb QV aBU _ (fun _=>aTQ ..)
abbrev aC5:=Ak Rb
abbrev aFz:=Aj Rb QV
variable (p174:aC5) (f174:aFz)
abbrev IM:Ab:=[(false,.slice (.int .u64)),(false,.slice (.int .u64))]
abbrev IS:Ab:=[(false,.slice (.int .u64)),(false,.int .i64)]
def dG (p1174:aGS) (f1174:aF4) (p1146:V2) (f1146:YZ) (p144:IW) (f144:I8) (p146:RW) (f146:RZ) (p173:A4) (f173:A1) (p174:aC5) (f174:aFz) (a0 a1:Aa (.slice (.int .u64))):Option (DenS IS) :=
 bif (p144 (a0,a1,())) then (bif (decide ((f144 (a0,a1,())).1<(0:Int))) then (some ([],(20:Int),()))
 else bif (p1146 (a0,())) then (bif (p173 (a1,())) then (bif (p1174 ((f1146 (a0,())).1,(f173 (a1,())))) then (some ((f1174 ((f1146 (a0,())).1,(f173 (a1,())))).1,(0:Int),()))
 else none)
 else none)
 else none)
 else none
theorem aJA (x:DenS IM):run (cf [(252,⟨PW,QG,p1174,f1174⟩),(168,⟨IN,Je,p1146,f1146⟩),(177,⟨Gu,Gt,p144,f144⟩),(168,⟨Hm,Iv,p146,f146⟩),(169,⟨Bt,Bs,p173,f173⟩),(252,⟨Rb,QV,p174,f174⟩)] []) 9 178 Tryz.f178 IM IS x=dG p1174 f1174 p1146 f1146 p144 f144 p146 f146 p173 f173 p174 f174 x.1 x.2.1:=by kernel_rfl
def Xm (x:DenS IM):Option (DenS IS):=dG N7.pre N7.F Du.pre Du.F Bj.pre Bj.F CQ.pre CQ.F Af.pre Af.F Ul.pre Ul.F x.1 x.2.1
def CS:Sum:=Al IM IS Xm (DenS.dflt IS)
theorem aHS:Sound Tryz.prog G1 178 CS:=sd (cf [(252,N7),(168,Du),(177,Bj),(168,CQ),(169,Af),(252,Ul)] []) 178 Tryz.f178 ⟨aNn,aAl,mU,vX,DV,aQL,trivial⟩ trivial IM IS Xm _ (fun _=>aJA ..)
abbrev UC:=Ak IM
abbrev TK:=Aj IM IS
variable (p145:UC) (f145:TK)
abbrev N3:Ab:=[(false,.slice (.int .u64)),(false,.slice (.int .u64)),(false,.int .i64)]
abbrev QW:Ab:=[(true,.pair (.bool) (.pair (.slice (.int .u64)) (.pair (.int .i64) (.pair (.bool) (.unit)))))]
abbrev Hv:Pat:=⟨81,[(2,.one (.v .i64)),(1,.one (.sl (.int .u64))),(11,.one (.sl (.int .u64))),(13,.one (.ptr 1 0)),(6,.one (.ptr 0 0))],[.raw [.bool,.sl (.int .u64),.v .i64,.bool],.raw [.bool,.sl (.int .u64),.v .i64,.bool]]⟩
abbrev eV:List (Nat×Shape):=[]
abbrev KC:List (Nat×Pat):=[(0,⟨81,[(11,.one (.sl (.int .u64))),(13,.one (.ptr 1 0)),(6,.one (.ptr 0 0))],[.raw [.bool,.sl (.int .u64),.v .i64,.bool],.raw [.bool,.sl (.int .u64),.v .i64,.bool]]⟩)]
abbrev LU:Option Pat:=none
variable (w379_5:Pat.D Hv→Option (Ah KC LU))
def Ty (p176:Uy) (f176:TZ) (p345:eX) (f345:aQ) (p151:KW) (f151:Mp) (p144:IW) (f144:I8) (p145:UC) (f145:TK) (p143:Qh) (f143:OL) {R:Type} (L:Pat.D Hv→Option R) (e:Ah KC LU→Option R) (x:Pat.D Hv):Option R :=
 let e1_:=((IntKind.wrap .i64 (x.2.2.1.2.2.1-(1:Int))),x.2.2.1.2.2.2)
 let e2_:=((f143 (x.2.2.1.2.1,x.2.2.1.2.1,())).1,((1:Int)::[]),())
 let e3_:=((f143 (x.1.2.2.1,x.1.2.2.1,())).1,x.1.2.1,())
 bif (p151 (x.2.2.1.2.1,())) then (bif ((decide ((f151 (x.2.2.1.2.1,())).1<x.1.1))&&(decide ((x.1.2.2.1.length:Int)>(0:Int)))) then (bif (p143 (x.2.2.1.2.1,x.2.2.1.2.1,())) then (bif (p143 (x.1.2.2.1,x.1.2.2.1,())) then (bif (p144 e3_) then (bif (decide ((f144 e3_).1≥(0:Int))) then (bif (p145 e3_) then (bif (p143 e2_) then (((L ((x.1.1,x.1.2.1,(f145 e3_).1,(),(),()),x.2.1,(x.2.2.1.1,(f143 e2_).1,e1_),()))))
 else none)
 else none)
 else (L ((x.1.1,x.1.2.1,(f143 (x.1.2.2.1,x.1.2.2.1,())).1,(),(),()),x.2.1,(x.2.2.1.1,(f143 (x.2.2.1.2.1,x.2.2.1.2.1,())).1,e1_),())))
 else none)
 else none)
 else none)
 else (e (.inl ((x.1.2.2.1,(),(),()),x.2))))
 else none
theorem aMq (d:Nat) (R:Type) (L:Pat.D Hv→Option R) (e:Ah KC LU→Option R) (x:Pat.D Hv) :
  BA (cf [(174,⟨IU,JY,p176,f176⟩),(175,⟨M3,Ly,p345,f345⟩),(123,⟨Gd,Gp,p151,f151⟩),(177,⟨Gu,Gt,p144,f144⟩),(178,⟨IM,IS,p145,f145⟩),(176,⟨Hu,G8,p143,f143⟩)] [(128,5,LoopSpec.of Hv eV KC LU w379_5)]) (d+2) 128 (By Tryz.f128 5) Hv eV KC LU (R:=R) L e x=Ty p176 f176 p345 f345 p151 f151 p144 f144 p145 f145 p143 f143 L e x:=by kernel_rfl
theorem aFr (p176:Uy) (f176:TZ) (p345:eX) (f345:aQ) (p151:KW) (f151:Mp) (p144:IW) (f144:I8) (p145:UC) (f145:TK) (p143:Qh) (f143:OL):Bu fun L e x=>Ty p176 f176 p345 f345 p151 f151 p144 f144 p145 f145 p143 f143 L e x:=by intro _ _ _ _ _ _ _ h0 hL he _; unfold Ty; repeat' (first | exact h0 | exact hL _ | exact he _ | apply BR | (apply BW h0; intro _) | (apply B9 <;> intro _))
def lY (p176:Uy) (f176:TZ) (p345:eX) (f345:aQ) (p151:KW) (f151:Mp) (p144:IW) (f144:I8) (p145:UC) (f145:TK) (p143:Qh) (f143:OL) (w379_5:Pat.D Hv→Option (Ah KC LU)) (a0 a1:Aa (.slice (.int .u64))) (a2:Aa (.int .i64)):Option (DenS QW) :=
 let e5_:=(IntKind.wrap .i64 ((IntKind.wrap .i64 ((f151 (a1,())).1-(f151 (a0,())).1))-(1:Int)))
 let e4_:=(a0,(if (e5_>(0:Int)) then e5_ else (0:Int)),())
 let e1_:=(f345 ((f176 e4_).1,a1,()))
 let e2_:=e4_
 let e3_:=e5_
 bif (p151 (a1,())) then (bif (p151 (a0,())) then (bif (p176 e2_) then (bif (p345 ((f176 e2_).1,a1,())) then (Vx.AZ (w379_5 ((a2,a1,e1_.2.1,(),(),()),(false,[],(0:Int),false,()),(false,e1_.1,(IntKind.wrap .i64 ((0:Int)-(if (e3_>(0:Int)) then e3_ else (0:Int)))),false,()),())) fun y4 =>
 Vx.A2 y4 (fun y5 =>
 some ((y5.2.2.1.1,y5.2.2.1.2.1,y5.2.2.1.2.2.1,(decide ((y5.1.1.length:Int)>(0:Int))),()),())) (fun z5 =>
 none))
 else none)
 else none)
 else none)
 else none
theorem aQB (x:DenS N3):run (cf [(174,⟨IU,JY,p176,f176⟩),(175,⟨M3,Ly,p345,f345⟩),(123,⟨Gd,Gp,p151,f151⟩),(177,⟨Gu,Gt,p144,f144⟩),(178,⟨IM,IS,p145,f145⟩),(176,⟨Hu,G8,p143,f143⟩)] [(128,5,LoopSpec.of Hv eV KC LU w379_5)]) 9 128 Tryz.f128 N3 QW x=lY p176 f176 p345 f345 p151 f151 p144 f144 p145 f145 p143 f143 w379_5 x.1 x.2.1 x.2.2.1:=by kernel_rfl
def cR:Hv.D→Option (Ah KC LU):=Bf fun L=>Ty DP.pre DP.F Et.pre Et.F Ce.pre Ce.F Bj.pre Bj.F CS.pre CS.F CC.pre CC.F L some
def Y5 (x:DenS N3):Option (DenS QW):=lY DP.pre DP.F Et.pre Et.F Ce.pre Ce.F Bj.pre Bj.F CS.pre CS.F CC.pre CC.F cR x.1 x.2.1 x.2.2.1
def Oa:Sum:=Al N3 QW Y5 (DenS.dflt QW)
theorem aOW:Sound Tryz.prog G1 128 Oa:=sd (cf [(174,DP),(175,Et),(123,Ce),(177,Bj),(178,CS),(176,CC)] [(128,5,LoopSpec.of Hv eV KC LU cR)]) 128 Tryz.f128 ⟨aGs,aRr,XX,mU,aHS,q8,trivial⟩ ⟨rfl,fun d=>B3 (fun L e x=>Ty DP.pre DP.F Et.pre Et.F Ce.pre Ce.F Bj.pre Bj.F CS.pre CS.F CC.pre CC.F L e x) (aFr DP.pre DP.F Et.pre Et.F Ce.pre Ce.F Bj.pre Bj.F CS.pre CS.F CC.pre CC.F) (fun _ _ _ _=>aMq ..),trivial⟩ N3 QW Y5 _ (fun _=>aQB ..)
abbrev aFR:=Ak N3
abbrev aDA:=Aj N3 QW
variable (p379:aFR) (f379:aDA)
abbrev NT:Ab:=[(false,.int .i64),(false,.int .i64),(false,.bool),(false,.slice (.int .u64)),(false,.slice (.int .u64)),(false,.int .i64)]
abbrev P1:Ab:=[(false,.int .u64),(false,.int .i64),(false,.int .i64)]
def j7 (p105:Tk) (f105:Tb) (p102:GT) (f102:Hf) (p156:lR) (f156:aH) (p379:aFR) (f379:aDA) (p107:TN) (f107:Vq) (a0 a1:Aa (.int .i64)) (a2:Aa (.bool)) (a3 a4:Aa (.slice (.int .u64))) (a5:Aa (.int .i64)):Option (DenS P1) :=
 let e4_:=((f102 (a3,())).1,(f102 (a4,())).1,(IntKind.wrap .i64 ((f105 (a0,a1,())).1.2.1+(3:Int))),())
 let e3_:=(f379 e4_)
 let e1_:=(f107 ((a2,e3_.1.2.1,(IntKind.wrap .i64 (e3_.1.2.2.1+a5)),e3_.1.2.2.2),a0,(f105 (a0,a1,())).1,a1,()))
 let e2_:=e3_
 bif (p105 (a0,a1,())) then (bif ((f105 (a0,a1,())).2.1 != (0:Int)) then (some ((0:Int),(0:Int),(f105 (a0,a1,())).2))
 else bif (p102 (a3,())) then (bif (p102 (a4,())) then (bif (decide ((IntKind.wrap .i64 (((f102 (a3,())).1.length:Int)+((f102 (a4,())).1.length:Int)))>(1024:Int))) then (some ((0:Int),(0:Int),(5:Int),()))
 else bif ((decide (a5<(-(40000:Int))))||(decide (a5>(40000:Int)))) then (some ((0:Int),(0:Int),(30:Int),()))
 else bif (((f102 (a4,())).1.length:Int)==(0:Int)) then (some ((0:Int),(0:Int),(10:Int),()))
 else bif (((f102 (a3,())).1.length:Int)==(0:Int)) then (bif (p156 (a0,a2,())) then (some (f156 (a0,a2,())))
 else none)
 else bif (p379 e4_) then (bif (p107 ((a2,e2_.1.2.1,(IntKind.wrap .i64 (e2_.1.2.2.1+a5)),e2_.1.2.2.2),a0,(f105 (a0,a1,())).1,a1,())) then (some (e1_.1,e1_.2.1,(0:Int),()))
 else none)
 else none)
 else none)
 else none)
 else none
theorem aTK (x:DenS NT):run (cf [(121,⟨Jh,JB,p105,f105⟩),(122,⟨FD,E8,p102,f102⟩),(124,⟨Mj,LJ,p156,f156⟩),(128,⟨N3,QW,p379,f379⟩),(125,⟨I9,IP,p107,f107⟩)] []) 9 72 Tryz.f72 NT P1 x=j7 p105 f105 p102 f102 p156 f156 p379 f379 p107 f107 x.1 x.2.1 x.2.2.1 x.2.2.2.1 x.2.2.2.2.1 x.2.2.2.2.2.1:=by kernel_rfl
def VM (x:DenS NT):Option (DenS P1):=j7 EN.pre EN.F Bh.pre Bh.F In.pre In.F Oa.pre Oa.F EG.pre EG.F x.1 x.2.1 x.2.2.1 x.2.2.2.1 x.2.2.2.2.1 x.2.2.2.2.2.1
def Po:Sum:=Al NT P1 VM (DenS.dflt P1)
theorem aTl:Sound Tryz.prog G1 72 Po:=sd (cf [(121,EN),(122,Bh),(124,In),(128,Oa),(125,EG)] []) 72 Tryz.f72 ⟨nM,X2,aEp,aOW,uC,trivial⟩ trivial NT P1 VM _ (fun _=>aTK ..)
abbrev aEr:=Ak NT
abbrev aG1:=Aj NT P1
variable (p380:aEr) (f380:aG1)
abbrev Ml:Ab:=[(false,.int .i64),(false,.int .i64),(false,.int .u64),(false,.int .u64)]
abbrev JC:Ab:=[(false,.int .u64),(false,.int .i64),(false,.int .i64)]
def dS (p376:aDi) (f376:aIE) (p377:aIx) (f377:aGa) (p378:aBH) (f378:aIC) (p97:Qc) (f97:PU) (p118:Ib) (f118:Id) (p40:Pr) (f40:Oy) (p380:aEr) (f380:aG1) (a0 a1:Aa (.int .i64)) (a2 a3:Aa (.int .u64)):Option (DenS JC) :=
 let e6_:=(!((f377 (a0,a2,())).1.2.2.2.2.1==(f377 (a0,a3,())).1.2.2.2.2.1))
 let e1_:=(a0,a1,e6_,(f40 (a0,a2,())).1.2.1,(f40 (a0,a3,())).1.2.1,(IntKind.wrap .i64 ((f40 (a0,a2,())).1.2.2.1-(f40 (a0,a3,())).1.2.2.1)),())
 let e5_:=(a0,e6_,())
 let e2_:=(f118 e5_)
 let e3_:=(f97 e5_)
 let e4_:=(p97 e5_)
 let g1_:Option (DenS JC):=bif (p378 (a0,(1:Int),())) then (some (f378 (a0,(1:Int),())))
 else none
 bif (p376 (a0,a1,(a2::(a3::[])),())) then (bif ((f376 (a0,a1,(a2::(a3::[])),())).1 != (0:Int)) then (some ((0:Int),(0:Int),(f376 (a0,a1,(a2::(a3::[])),()))))
 else bif (p377 (a0,a2,())) then (bif (p377 (a0,a3,())) then (bif ((f377 (a0,a2,())).1.2.1||(f377 (a0,a3,())).1.2.1) then (g1_)
 else bif ((f377 (a0,a2,())).1.1||(f377 (a0,a3,())).1.1) then (bif (p378 (a0,(0:Int),())) then (some (f378 (a0,(0:Int),())))
 else none)
 else bif (((f377 (a0,a2,())).1.2.2.1&&(f377 (a0,a3,())).1.2.2.1)||((f377 (a0,a2,())).1.2.2.2.1&&(f377 (a0,a3,())).1.2.2.2.1)) then (g1_)
 else bif (f377 (a0,a2,())).1.2.2.1 then (bif e4_ then (some (e3_.1,(0:Int),e3_.2))
 else none)
 else bif (f377 (a0,a3,())).1.2.2.2.1 then (bif e4_ then (some (e3_.1,(2:Int),e3_.2))
 else none)
 else bif ((f377 (a0,a3,())).1.2.2.1||(f377 (a0,a2,())).1.2.2.2.1) then (bif (p118 e5_) then (some (e2_.1,(0:Int),e2_.2))
 else none)
 else bif (p40 (a0,a2,())) then (bif (p40 (a0,a3,())) then (bif (p380 e1_) then (some (f380 e1_))
 else none)
 else none)
 else none)
 else none)
 else none)
 else none
theorem aLO (x:DenS Ml):run (cf [(68,⟨QA,Nq,p376,f376⟩),(69,⟨P9,Nh,p377,f377⟩),(70,⟨Ou,Ov,p378,f378⟩),(65,⟨GV,Hl,p97,f97⟩),(38,⟨E1,FG,p118,f118⟩),(71,⟨Hb,G4,p40,f40⟩),(72,⟨NT,P1,p380,f380⟩)] []) 9 18 Tryz.f18 Ml JC x=dS p376 f376 p377 f377 p378 f378 p97 f97 p118 f118 p40 f40 p380 f380 x.1 x.2.1 x.2.2.1 x.2.2.2.1:=by kernel_rfl
def Yy (x:DenS Ml):Option (DenS JC):=dS OH.pre OH.F PL.pre PL.F O8.pre O8.F B7.pre B7.F Be.pre Be.F CB.pre CB.F Po.pre Po.F x.1 x.2.1 x.2.2.1 x.2.2.2.1
def Fy:Sum:=Al Ml JC Yy (DenS.dflt JC)
theorem rV:Sound Tryz.prog G1 18 Fy:=sd (cf [(68,OH),(69,PL),(70,O8),(65,B7),(38,Be),(71,CB),(72,Po)] []) 18 Tryz.f18 ⟨aJI,aSO,aUz,VX,VA,YC,aTl,trivial⟩ trivial Ml JC Yy _ (fun _=>aLO ..)
abbrev nA:=Ak Ml
abbrev kS:=Aj Ml JC
variable (p381:nA) (f381:kS)
abbrev eM:Ab:=[(false,.int .i64),(false,.int .i64),(false,.int .u64),(false,.int .u64)]
abbrev pN:Ab:=[(false,.int .u64),(false,.int .i64),(false,.int .i64)]
def PZ:SumF:=Jl eM pN [(15,[],DQ),(16,[],Fi),(17,[],Fb),(18,[],Fy)]
theorem aMw:L8 Tryz.prog G1 PZ:=Vs ⟨DF j9,⟨DF tT,⟨DF pY,⟨DF rV,trivial⟩⟩⟩⟩
abbrev xE:=Option (Nat×List Nat)→Ak eM
abbrev yA:=Option (Nat×List Nat)→Aj eM pN
variable (p100002:xE) (f100002:yA)
abbrev N0:Ab:=[(true,.pair (.int .i64) (.pair (.int .i64) (.pair (.int .u64) (.pair (.int .u64) (.pair (.int .u64) .unit))))),(false,.box (.pfn))]
abbrev Lo:Ab:=[(false,.int .u64),(false,.int .i64),(false,.int .i64)]
def bA (p100002:xE) (f100002:yA) (a0:Aa (.pair (.int .i64) (.pair (.int .i64) (.pair (.int .u64) (.pair (.int .u64) (.pair (.int .u64) .unit)))))) (a1:Aa (.box (.pfn))):Option (DenS Lo) :=
 let e1_:=(a0.2.1,a0.1,a0.2.2.1,a0.2.2.2.1,())
 bif (p100002 (some (a1,[])) e1_) then (some (f100002 (some (a1,[])) e1_))
 else none
theorem aJX (x:DenS N0):run ({ cf [] [] with fns:=[(31,⟨eM,pN,p100002,f100002⟩)] }) 9 255 Tryz.f255 N0 Lo x=bA p100002 f100002 x.1 x.2.1:=by kernel_rfl
def XV (x:DenS N0):Option (DenS Lo):=bA PZ.pre PZ.F x.1 x.2.1
def Dg:Sum:=Al N0 Lo XV (DenS.dflt Lo)
theorem ZD:Sound Tryz.prog G1 255 Dg:=sd ({ cf [] [] with fns:=[(31,PZ)] }) 255 Tryz.f255 trivial trivial N0 Lo XV _ (fun _=>aJX ..) (hfs:=⟨aMw,trivial⟩)
abbrev sM:=Ak N0
abbrev tH:=Aj N0 Lo
variable (p395:sM) (f395:tH)
abbrev NR:Ab:=[(false,.int .i64),(false,.int .i64),(false,.slice (.int .u64))]
abbrev QH:Ab:=[(true,.pair (.int .i64) (.pair (.int .i64) (.pair (.int .i64) (.pair (.int .i64) (.unit))))),(false,.int .i64)]
abbrev GM:Pat:=⟨44,[(30,.one (.v .i64)),(29,.one (.sl (.int .u64))),(0,.one (.v .i64)),(31,.one (.v .i64)),(8,.one (.ptr 1 0)),(6,.one (.ptr 0 0))],[.raw [.v .i64,.v .i64,.v .i64,.v .i64],.raw [.v .i64,.v .i64,.v .i64,.v .i64]]⟩
abbrev jU:List (Nat×Shape):=[]
abbrev Lf:List (Nat×Pat):=[(0,⟨44,[(8,.one (.ptr 1 0)),(6,.one (.ptr 0 0))],[.raw [.v .i64,.v .i64,.v .i64,.v .i64],.raw [.v .i64,.v .i64,.v .i64,.v .i64]]⟩)]
abbrev Mv:Option Pat:=(some ⟨44,[(6,.one (.ptr 0 0)),(7,.one (.v .i64))],[.raw [.v .i64,.v .i64,.v .i64,.v .i64]]⟩)
variable (w311_7:Pat.D GM→Option (Ah Lf Mv))
def SX (p69:BP) (f69:BK) (p66:Ci) (f66:Cl) {R:Type} (L:Pat.D GM→Option R) (e:Ah Lf Mv→Option R) (x:Pat.D GM):Option R :=
 let e2_:=(x.1.2.2.1,(x.1.2.1.getD (Int.toNat x.1.2.2.2.1) (0:Int)),())
 let e1_:=(f66 e2_)
 bif (decide (x.1.2.2.2.1<x.1.1)) then (bif ((decide ((0:Int)≤x.1.2.2.2.1))&&(decide (x.1.2.2.2.1<(x.1.2.1.length:Int)))) then (bif (p66 e2_) then (bif (e1_.1 != (0:Int)) then (((e (.inr (((),e1_),x.2.2)))))
 else (L ((x.1.1,x.1.2.1,x.1.2.2.1,(IntKind.wrap .i64 (x.1.2.2.2.1+(1:Int))),(),(),()),x.2)))
 else none)
 else none)
 else (e (.inl (((),(),()),x.2)))
theorem aTJ (d:Nat) (R:Type) (L:Pat.D GM→Option R) (e:Ah Lf Mv→Option R) (x:Pat.D GM) :
  BA (cf [(54,⟨Ch,Cj,p69,f69⟩),(59,⟨CH,CJ,p66,f66⟩)] [(133,7,LoopSpec.of GM jU Lf Mv w311_7)]) (d+2) 133 (By Tryz.f133 7) GM jU Lf Mv (R:=R) L e x=SX p69 f69 p66 f66 L e x:=by kernel_rfl
theorem aEo (p69:BP) (f69:BK) (p66:Ci) (f66:Cl):Bu fun L e x=>SX p69 f69 p66 f66 L e x:=by intro _ _ _ _ _ _ _ h0 hL he _; unfold SX; repeat' (first | exact h0 | exact hL _ | exact he _ | apply BR | (apply BW h0; intro _) | (apply B9 <;> intro _))
def VE (p69:BP) (f69:BK) (p66:Ci) (f66:Cl) (w311_7:Pat.D GM→Option (Ah Lf Mv)) (a0 a1:Aa (.int .i64)) (a2:Aa (.slice (.int .u64))):Option (DenS QH) :=
 bif (p69 (a0,())) then (bif ((f69 (a0,())).2.1 != (0:Int)) then (some (f69 (a0,())))
 else bif ((decide (a1<(0:Int)))||(decide (a1>(5:Int)))) then (some ((f69 (a0,())).1,(3:Int),()))
 else Vx.AZ (w311_7 (((a2.length:Int),a2,a0,(0:Int),(),(),()),((0:Int),(0:Int),(0:Int),(0:Int),()),(f69 (a0,())).1,())) fun y3 =>
 Vx.A2 y3 (fun y4 =>
 some (y4.2.2.1,(0:Int),())) (fun z4 =>
 some (z4.2.1,z4.1.2)))
 else none
theorem aQC (x:DenS NR):run (cf [(54,⟨Ch,Cj,p69,f69⟩),(59,⟨CH,CJ,p66,f66⟩)] [(133,7,LoopSpec.of GM jU Lf Mv w311_7)]) 9 133 Tryz.f133 NR QH x=VE p69 f69 p66 f66 w311_7 x.1 x.2.1 x.2.2.1:=by kernel_rfl
def XW:GM.D→Option (Ah Lf Mv):=Bf fun L=>SX Aq.pre Aq.F Ar.pre Ar.F L some
def Uu (x:DenS NR):Option (DenS QH):=VE Aq.pre Aq.F Ar.pre Ar.F XW x.1 x.2.1 x.2.2.1
def Qy:Sum:=Al NR QH Uu (DenS.dflt QH)
theorem aPe:Sound Tryz.prog G1 133 Qy:=sd (cf [(54,Aq),(59,Ar)] [(133,7,LoopSpec.of GM jU Lf Mv XW)]) 133 Tryz.f133 ⟨Ek,FU,trivial⟩ ⟨rfl,fun d=>B3 (fun L e x=>SX Aq.pre Aq.F Ar.pre Ar.F L e x) (aEo Aq.pre Aq.F Ar.pre Ar.F) (fun _ _ _ _=>aTJ ..),trivial⟩ NR QH Uu _ (fun _=>aQC ..)
abbrev tL:=Ak NR
abbrev nV:=Aj NR QH
variable (p311:tL) (f311:nV)
abbrev Om:Ab:=[(false,.int .i64),(false,.int .i64)]
abbrev Oi:Ab:=[(false,.int .u64),(false,.int .i64),(false,.bool)]
def gD (p70:Ei) (f70:DW) (a0 a1:Aa (.int .i64)):Option (DenS Oi) :=
 bif (p70 (a0,())) then (bif (a1==(1:Int)) then (some ((f70 (a0,())).1,(0:Int),true,()))
 else bif (a1==(0:Int)) then (bif (a1==(0:Int)) then (some ((f70 (a0,())).1,(1:Int),true,()))
 else some ((0:Int),(0:Int),false,()))
 else bif (a1==(2:Int)) then (bif (a1==(2:Int)) then (some ((f70 (a0,())).1,(1:Int),true,()))
 else some ((0:Int),(0:Int),false,()))
 else bif (a1==(3:Int)) then (bif (a1==(3:Int)) then (some ((f70 (a0,())).1,(1:Int),true,()))
 else some ((0:Int),(0:Int),false,()))
 else bif (a1==(4:Int)) then (some ((f70 (a0,())).1,(1:Int),true,()))
 else some ((0:Int),(0:Int),false,()))
 else none
theorem aRh (x:DenS Om):run (cf [(56,⟨DD,DH,p70,f70⟩)] []) 9 134 Tryz.f134 Om Oi x=gD p70 f70 x.1 x.2.1:=by kernel_rfl
def Zu (x:DenS Om):Option (DenS Oi):=gD AC.pre AC.F x.1 x.2.1
def Qe:Sum:=Al Om Oi Zu (DenS.dflt Oi)
theorem aQb:Sound Tryz.prog G1 134 Qe:=sd (cf [(56,AC)] []) 134 Tryz.f134 ⟨GL,trivial⟩ trivial Om Oi Zu _ (fun _=>aRh ..)
abbrev tG:=Ak Om
abbrev pM:=Aj Om Oi
variable (p312:tG) (f312:pM)
abbrev Nm:Ab:=[(false,.int .i64),(true,.pair (.int .i64) (.pair (.int .i64) (.pair (.int .i64) (.pair (.int .i64) (.unit))))),(false,.int .u64)]
abbrev Qg:Ab:=[(false,.int .u64),(false,.int .i64)]
def f0 (p98:IK) (f98:Ja) (a0:Aa (.int .i64)) (a1:Aa (.pair (.int .i64) (.pair (.int .i64) (.pair (.int .i64) (.pair (.int .i64) (.unit)))))) (a2:Aa (.int .u64)):Option (DenS Qg) :=
 let e1_:=(IntKind.wrap .i64 (a1.2.1-(1:Int)))
 bif (p98 (a0,a2,())) then (bif ((f98 (a0,a2,())).2.1==(0:Int)) then (some ((f98 (a0,a2,())).2.2.1,(IntKind.wrap .i64 ((IntKind.wrap .i64 ((IntKind.wrap .i64 ((IntKind.wrap .i64 ((IntKind.wrap .i64 (1:Int))-(1:Int)))+a1.2.2.1))-a1.2.1))+(1:Int))),()))
 else bif (decide ((0:Int)≤e1_)) then (some ((A9 .u64 (f98 (a0,a2,())).2.2.1 (AQ .u64 (1:Int) e1_)),(IntKind.wrap .i64 ((IntKind.wrap .i64 ((IntKind.wrap .i64 ((IntKind.wrap .i64 ((IntKind.wrap .i64 (f98 (a0,a2,())).2.1)-(1:Int)))+a1.2.2.1))-a1.2.1))+(1:Int))),()))
 else none)
 else none
theorem aOE (x:DenS Nm):run (cf [(119,⟨FN,FF,p98,f98⟩)] []) 9 135 Tryz.f135 Nm Qg x=f0 p98 f98 x.1 x.2.1 x.2.2.1:=by kernel_rfl
def Xx (x:DenS Nm):Option (DenS Qg):=f0 Bo.pre Bo.F x.1 x.2.1 x.2.2.1
def O0:Sum:=Al Nm Qg Xx (DenS.dflt Qg)
theorem aJ8:Sound Tryz.prog G1 135 O0:=sd (cf [(119,Bo)] []) 135 Tryz.f135 ⟨R3,trivial⟩ trivial Nm Qg Xx _ (fun _=>aOE ..)
abbrev oK:=Ak Nm
abbrev pK:=Aj Nm Qg
variable (p313:oK) (f313:pK)
abbrev N1:Ab:=[(true,.pair (.int .u64) (.pair (.int .u64) (.unit)))]
abbrev QP:Ab:=[(false,.int .i64)]
def cZ (p178:Ii) (f178:H5) (a0:Aa (.pair (.int .u64) (.pair (.int .u64) (.unit)))):Option (DenS QP) :=
 bif (a0.1 != (0:Int)) then (bif (p178 (a0.1,())) then (some ((IntKind.wrap .i64 ((64:Int)+(f178 (a0.1,())).1)),()))
 else none)
 else bif (p178 a0.2) then (some (f178 a0.2))
 else none
theorem aR8 (x:DenS N1):run (cf [(83,⟨Gi,Fx,p178,f178⟩)] []) 9 136 Tryz.f136 N1 QP x=cZ p178 f178 x.1:=by kernel_rfl
def YH (x:DenS N1):Option (DenS QP):=cZ Bw.pre Bw.F x.1
def NV:Sum:=Al N1 QP YH (DenS.dflt QP)
theorem aLp:Sound Tryz.prog G1 136 NV:=sd (cf [(83,Bw)] []) 136 Tryz.f136 ⟨YN,trivial⟩ trivial N1 QP YH _ (fun _=>aR8 ..)
abbrev v6:=Ak N1
abbrev tB:=Aj N1 QP
variable (p314:v6) (f314:tB)
end Vx
end
