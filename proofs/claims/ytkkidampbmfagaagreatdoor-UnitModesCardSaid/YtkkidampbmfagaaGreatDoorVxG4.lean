/- Part 4 of the proof. What is proved: symbolic execution of the functions, proved sound; what each function of the program computes, and that every run ends with it; what these functions compute, in plain numbers. Conditions: each theorem bears its own. -/
import Derived.Test.YtkkidampbmfagaaGreatDoorVxG3
import Derived.Test.YtkkidampbmfagaaGreatDoorProg
set_option linter.all false
set_option exponentiation.threshold 1000000
noncomputable section
namespace Vx
open Go Go.Proofs
abbrev rowsSh:Shape:=.pair (.int .i64) (.pair (.int .i64) (.pair (.int .i64) (.pair (.int .i64) .unit)))
abbrev kindsSh:Shape:=.pair (.int .u64) (.pair (.int .u64) .unit)
def k_rows:List (Aa rowsSh):=[(16,11,-14,15,()),(16,8,-126,127,()),(32,24,-126,127,()),(64,53,-1022,1023,())]
def HV:List UInt8:=[0,1,2,2,3,3,3,3,4,4,4,4,4,4,4,4,5,5,5,5,5,5,5,5,5,5,5,5,5,5,5,5,6,6,6,6,6,6,6,6,6,6,6,6,6,6,6,6,6,6,6,6,6,6,6,6,6,6,6,6,6,6,6,6,7,7,7,7,7,7,7,7,7,7,7,7,7,7,7,7,7,7,7,7,7,7,7,7,7,7,7,7,7,7,7,7,7,7,7,7,7,7,7,7,7,7,7,7,7,7,7,7,7,7,7,7,7,7,7,7,7,7,7,7,7,7,7,7,8,8,8,8,8,8,8,8,8,8,8,8,8,8,8,8,8,8,8,8,8,8,8,8,8,8,8,8,8,8,8,8,8,8,8,8,8,8,8,8,8,8,8,8,8,8,8,8,8,8,8,8,8,8,8,8,8,8,8,8,8,8,8,8,8,8,8,8,8,8,8,8,8,8,8,8,8,8,8,8,8,8,8,8,8,8,8,8,8,8,8,8,8,8,8,8,8,8,8,8,8,8,8,8,8,8,8,8,8,8,8,8,8,8,8,8,8,8,8,8,8,8,8,8,8,8,8,8]
def k_deb:List (Aa (.int .u8)):=[0,1,56,2,57,49,28,3,61,58,42,50,38,29,17,4,62,47,59,36,45,43,51,22,53,39,33,30,24,18,12,5,63,55,48,27,60,41,37,16,46,35,44,21,52,32,23,11,54,26,40,15,34,20,31,10,25,14,19,9,13,8,7,6]
def k_kinds:List (Aa kindsSh):=[(2147483648,2147483647,()),(9223372036854775808,9223372036854775807,()),(0,4294967295,()),(0,18446744073709551615,())]
def G1:List (Nat×Sigma fun τ=>List (Aa τ)):=[(0,⟨kindsSh,k_kinds⟩),(2,⟨rowsSh,k_rows⟩),(3,⟨.int .u8,k_deb⟩)]
abbrev Ak (I:Ab):=DenS I->Bool
abbrev Aj (I O:Ab):=DenS I->DenS O
@[reducible] def cf (s:List (FuncId×Sum)) (l:List (FuncId×Nat×LoopSpec)):Cfg:={ P:=Tryz.prog,sums:=s,loops:=l,globs:=G1 }
theorem sd (C:Cfg) (n:FuncId) (fn:Func) (hs:UI C.P C.globs C.sums) (hl:R6 C n fn C.loops) (I O:Ab) (t:DenS I->Option (DenS O)) (d:DenS O) (h:∀ x,run C 9 n fn I O x=t x) (hls:TE C.P C.globs C.lsums:=by exact trivial) (hfs:Ub C.P C.globs C.fns:=by exact trivial) (hms:Vl C.P C.globs C.meths:=by exact trivial)
  (hm : C.P.follows .mixedOrders = true := by kernel_rfl) (hf : C.P.funcs[n]? = some fn := by kernel_rfl) (hb : (match fn.body with | some c => HT ((CP c).map Db) | none => false) = true := by kernel_rfl) (hn : (fn.name == "runtime.NumGoroutine") = false := by kernel_rfl) : Sound C.P C.globs n (Al I O t d) :=
 aM3 C 9 n fn hm hf hb hn hs hl I O t d h hls hfs hms
theorem q8 (C:Cfg) (n:FuncId) (fn:Func) (hs:UI C.P C.globs C.sums) (hl:R6 C n fn C.loops) (k:LK) (I O:Ab) (t:k.D×DenS I->Option (k.B×DenS O)) (d:k.B×DenS O) (h:∀ x,Ox C 9 n fn k I O x=t x) (hls:TE C.P C.globs C.lsums:=by exact trivial) (hfs:Ub C.P C.globs C.fns:=by exact trivial) (hms:Vl C.P C.globs C.meths:=by exact trivial)
  (hm : C.P.follows .mixedOrders = true := by kernel_rfl) (hf : C.P.funcs[n]? = some fn := by kernel_rfl) (hb : (match fn.body with | some c => HT ((CP c).map Db) | none => false) = true := by kernel_rfl) (hn : (fn.name == "runtime.NumGoroutine") = false := by kernel_rfl) : SoundL C.P C.globs n (NM k I O t d) :=
 aJb C 9 n fn hm hf hb hn hs hl k I O t d h hls hfs hms
abbrev Ck:Ab:=[(false,.int .i64)]
abbrev Cn:Ab:=[(true,.pair (.int .i64) (.pair (.int .i64) (.pair (.int .i64) (.pair (.int .i64) (.unit))))),(false,.int .i64)]
def jQ (a0:Aa (.int .i64)):Option (DenS Cn) :=
 let e1_:=((0:Int),(0:Int),(0:Int),(0:Int),())
 bif ((decide (a0<(0:Int)))||(decide (a0>=(4:Int)))) then (some (e1_,(2:Int),()))
 else bif ((decide ((0:Int)<=a0))&&(decide (a0<((4:Nat):Int)))) then (some ((Vx.k_rows.getD (Int.toNat a0) e1_),(0:Int),()))
 else none
theorem r69 (x:DenS Ck):run (cf [] []) 9 54 Tryz.f54 Ck Cn x=jQ x.1:=by kernel_rfl
def Sq (x:DenS Ck):Option (DenS Cn):=jQ x.1
def Aq:Sum:=Al Ck Cn Sq (DenS.dflt Cn)
theorem Er:Sound Tryz.prog G1 54 Aq:=sd (cf [] []) 54 Tryz.f54 trivial trivial Ck Cn Sq _ (fun _=>r69 ..)
abbrev BM:=Ak Ck
abbrev BQ:=Aj Ck Cn
variable (p69:BM) (f69:BQ)
abbrev CJ:Ab:=[(false,.int .i64),(false,.int .u64)]
abbrev CM:Ab:=[(false,.int .i64)]
def dJ (p69:BM) (f69:BQ) (a0:Aa (.int .i64)) (a1:Aa (.int .u64)):Option (DenS CM) :=
 bif (p69 (a0,())) then (bif ((f69 (a0,())).2.1 != (0:Int)) then (some (f69 (a0,())).2)
 else bif ((decide ((0:Int)<=(f69 (a0,())).1.1))||(!(decide ((f69 (a0,())).1.1<(64:Int))))) then (bif ((decide ((f69 (a0,())).1.1<(64:Int)))&&((AI .u64 a1 (f69 (a0,())).1.1) != (0:Int))) then (some ((4:Int),()))
 else some ((0:Int),()))
 else none)
 else none
theorem r66 (x:DenS CJ):run (cf [(54,⟨Ck,Cn,p69,f69⟩)] []) 9 59 Tryz.f59 CJ CM x=dJ p69 f69 x.1 x.2.1:=by kernel_rfl
def Yd (x:DenS CJ):Option (DenS CM):=dJ Aq.pre Aq.F x.1 x.2.1
def Ar:Sum:=Al CJ CM Yd (DenS.dflt CM)
theorem Ge:Sound Tryz.prog G1 59 Ar:=sd (cf [(54,Aq)] []) 59 Tryz.f59 ⟨Er,trivial⟩ trivial CJ CM Yd _ (fun _=>r66 ..)
abbrev Cm:=Ak CJ
abbrev Cj:=Aj CJ CM
variable (p66:Cm) (f66:Cj)
abbrev EW:Ab:=[(false,.int .i64)]
abbrev EC:Ab:=[(false,.int .u64)]
def j2 (a0:Aa (.int .i64)):Option (DenS EC) :=
 bif (decide ((0:Int)<=a0)) then (some ((IntKind.wrap .u64 ((AT .u64 (1:Int) a0)-(1:Int))),()))
 else none
theorem r91 (x:DenS EW):run (cf [] []) 9 112 Tryz.f112 EW EC x=j2 x.1:=by kernel_rfl
def WS (x:DenS EW):Option (DenS EC):=j2 x.1
def Br:Sum:=Al EW EC WS (DenS.dflt EC)
theorem Mq:Sound Tryz.prog G1 112 Br:=sd (cf [] []) 112 Tryz.f112 trivial trivial EW EC WS _ (fun _=>r91 ..)
abbrev HO:=Ak EW
abbrev Ie:=Aj EW EC
variable (p91:HO) (f91:Ie)
abbrev JX:Ab:=[(true,.pair (.int .i64) (.pair (.int .i64) (.pair (.int .i64) (.pair (.int .i64) (.unit))))),(false,.int .u64)]
abbrev Jo:Ab:=[(false,.bool),(false,.int .u64),(false,.int .u64)]
def jE (p91:HO) (f91:Ie) (a0:Aa (.pair (.int .i64) (.pair (.int .i64) (.pair (.int .i64) (.pair (.int .i64) (.unit)))))) (a1:Aa (.int .u64)):Option (DenS Jo) :=
 let e5_:=(IntKind.wrap .i64 (a0.2.1-(1:Int)))
 let e1_:=(e5_,())
 let e2_:=((IntKind.wrap .i64 (a0.1-a0.2.1)),())
 let e3_:=e5_
 let e4_:=(IntKind.wrap .i64 (a0.1-(1:Int)))
 bif (decide ((0:Int)<=e4_)) then (bif (decide ((0:Int)<=e3_)) then (bif (p91 e2_) then (bif (p91 e1_) then (some (((AI .u64 a1 e4_) != (0:Int)),(AQ .u64 (AI .u64 a1 e3_) (f91 e2_).1),(AQ .u64 a1 (f91 e1_).1),()))
 else none)
 else none)
 else none)
 else none
theorem r90 (x:DenS JX):run (cf [(112,⟨EW,EC,p91,f91⟩)] []) 9 111 Tryz.f111 JX Jo x=jE p91 f91 x.1 x.2.1:=by kernel_rfl
def WB (x:DenS JX):Option (DenS Jo):=jE Br.pre Br.F x.1 x.2.1
def Dn:Sum:=Al JX Jo WB (DenS.dflt Jo)
theorem vU:Sound Tryz.prog G1 111 Dn:=sd (cf [(112,Br)] []) 111 Tryz.f111 ⟨Mq,trivial⟩ trivial JX Jo WB _ (fun _=>r90 ..)
abbrev Y2:=Ak JX
abbrev Yc:=Aj JX Jo
variable (p90:Y2) (f90:Yc)
abbrev DO:Ab:=[(false,.int .i64),(false,.int .u64)]
abbrev DV:Ab:=[(false,.int .i64),(false,.int .i64)]
def Vq (p66:Cm) (f66:Cj) (p90:Y2) (f90:Yc) (p91:HO) (f91:Ie) (a0:Aa (.int .i64)) (a1:Aa (.int .u64)):Option (DenS DV) :=
 let e10_:=(Vx.k_rows.getD (Int.toNat a0) ((0:Int),(0:Int),(0:Int),(0:Int),()))
 let e9_:=(f90 (e10_,a1,()))
 let e8_:=((IntKind.wrap .i64 (e10_.1-e10_.2.1)),())
 let e1_:=(e9_.2.1==(f91 e8_).1)
 let e2_:=(p91 e8_)
 let e3_:=(IntKind.wrap .i64 (e10_.2.1-(2:Int)))
 let e4_:=(e9_.2.2.1==(0:Int))
 let e5_:=(e9_.2.1==(0:Int))
 let e6_:=e9_
 let e7_:=e10_
 bif (p66 (a0,a1,())) then (bif ((f66 (a0,a1,())).1 != (0:Int)) then (some ((0:Int),(f66 (a0,a1,()))))
 else bif ((decide ((0:Int)<=a0))&&(decide (a0<((4:Nat):Int)))) then (bif (p90 (e7_,a1,())) then (bif e2_ then (bif (e1_&&e4_) then (bif e6_.1 then (some ((IntKind.wrap .i64 ((11:Int)-(9:Int))),(0:Int),()))
 else some ((9:Int),(0:Int),()))
 else bif e2_ then (bif ((decide ((0:Int)<=e3_))||(!(decide (e6_.2.1=(f91 ((IntKind.wrap .i64 (e7_.1-e7_.2.1)),())).1)))) then (bif (e1_&&((AI .u64 e6_.2.2.1 e3_) != (0:Int))) then (some ((1:Int),(0:Int),()))
 else bif e2_ then (bif e1_ then (some ((0:Int),(0:Int),()))
 else bif (e5_&&e4_) then (bif e6_.1 then (some ((IntKind.wrap .i64 ((11:Int)-(6:Int))),(0:Int),()))
 else some ((6:Int),(0:Int),()))
 else bif e5_ then (bif e6_.1 then (some ((IntKind.wrap .i64 ((11:Int)-(7:Int))),(0:Int),()))
 else some ((7:Int),(0:Int),()))
 else bif e6_.1 then (some ((IntKind.wrap .i64 ((11:Int)-(8:Int))),(0:Int),()))
 else some ((8:Int),(0:Int),()))
 else none)
 else none)
 else none)
 else none)
 else none)
 else none)
 else none
theorem r65 (x:DenS DO):run (cf [(59,⟨CJ,CM,p66,f66⟩),(111,⟨JX,Jo,p90,f90⟩),(112,⟨EW,EC,p91,f91⟩)] []) 9 55 Tryz.f55 DO DV x=Vq p66 f66 p90 f90 p91 f91 x.1 x.2.1:=by kernel_rfl
def U1 (x:DenS DO):Option (DenS DV):=Vq Ar.pre Ar.F Dn.pre Dn.F Br.pre Br.F x.1 x.2.1
def AF:Sum:=Al DO DV U1 (DenS.dflt DV)
theorem HW:Sound Tryz.prog G1 55 AF:=sd (cf [(59,Ar),(111,Dn),(112,Br)] []) 55 Tryz.f55 ⟨Ge,vU,Mq,trivial⟩ trivial DO DV U1 _ (fun _=>r65 ..)
abbrev Ex:=Ak DO
abbrev Ez:=Aj DO DV
variable (p65:Ex) (f65:Ez)
abbrev Iv:Ab:=[(true,.pair (.int .i64) (.pair (.int .i64) (.pair (.int .i64) (.pair (.int .i64) (.unit)))))]
abbrev JM:Ab:=[(false,.int .u64)]
def aEx (a0:Aa (.pair (.int .i64) (.pair (.int .i64) (.pair (.int .i64) (.pair (.int .i64) (.unit)))))):Option (DenS JM) :=
 some ((0:Int),())
theorem aU6 (x:DenS Iv):run (cf [] []) 9 104 Tryz.f104 Iv JM x=aEx x.1:=by kernel_rfl
def aBZ (x:DenS Iv):Option (DenS JM):=aEx x.1
def I2:Sum:=Al Iv JM aBZ (DenS.dflt JM)
theorem tZ:Sound Tryz.prog G1 104 I2:=sd (cf [] []) 104 Tryz.f104 trivial trivial Iv JM aBZ _ (fun _=>aU6 ..)
abbrev mA:=Ak Iv
abbrev dV:=Aj Iv JM
variable (p116:mA) (f116:dV)
abbrev Ou:Ab:=[(true,.pair (.int .i64) (.pair (.int .i64) (.pair (.int .i64) (.pair (.int .i64) (.unit)))))]
abbrev P0:Ab:=[(false,.int .u64)]
def aBR (a0:Aa (.pair (.int .i64) (.pair (.int .i64) (.pair (.int .i64) (.pair (.int .i64) (.unit)))))):Option (DenS P0) :=
 let e1_:=(IntKind.wrap .i64 (a0.2.1-(2:Int)))
 bif (decide ((0:Int)<=e1_)) then (some ((AT .u64 (1:Int) e1_),()))
 else none
theorem aJS (x:DenS Ou):run (cf [] []) 9 113 Tryz.f113 Ou P0 x=aBR x.1:=by kernel_rfl
def aGo (x:DenS Ou):Option (DenS P0):=aBR x.1
def lH:Sum:=Al Ou P0 aGo (DenS.dflt P0)
theorem aOo:Sound Tryz.prog G1 113 lH:=sd (cf [] []) 113 Tryz.f113 trivial trivial Ou P0 aGo _ (fun _=>aJS ..)
abbrev xD:=Ak Ou
abbrev aHk:=Aj Ou P0
variable (p117:xD) (f117:aHk)
abbrev HZ:Ab:=[(true,.pair (.int .i64) (.pair (.int .i64) (.pair (.int .i64) (.pair (.int .i64) (.unit))))),(false,.bool),(false,.int .u64),(false,.int .u64)]
abbrev HP:Ab:=[(false,.int .u64)]
def aAA (a0:Aa (.pair (.int .i64) (.pair (.int .i64) (.pair (.int .i64) (.pair (.int .i64) (.unit)))))) (a1:Aa (.bool)) (a2 a3:Aa (.int .u64)):Option (DenS HP) :=
 let e3_:=(IntKind.wrap .i64 (a0.2.1-(1:Int)))
 let e1_:=(AW .u64 (AT .u64 a2 e3_) a3)
 let e2_:=(IntKind.wrap .i64 (a0.1-(1:Int)))
 bif (decide ((0:Int)<=e3_)) then (bif a1 then (bif (decide ((0:Int)<=e2_)) then (some ((AW .u64 e1_ (AT .u64 (1:Int) e2_)),()))
 else none)
 else some (e1_,()))
 else none
theorem aM1 (x:DenS HZ):run (cf [] []) 9 149 Tryz.f149 HZ HP x=aAA x.1 x.2.1 x.2.2.1 x.2.2.2.1:=by kernel_rfl
def aCS (x:DenS HZ):Option (DenS HP):=aAA x.1 x.2.1 x.2.2.1 x.2.2.2.1
def F9:Sum:=Al HZ HP aCS (DenS.dflt HP)
theorem fJ:Sound Tryz.prog G1 149 F9:=sd (cf [] []) 149 Tryz.f149 trivial trivial HZ HP aCS _ (fun _=>aM1 ..)
abbrev YB:=Ak HZ
abbrev Wy:=Aj HZ HP
variable (p140:YB) (f140:Wy)
abbrev DG:Ab:=[(false,.int .i64)]
abbrev DJ:Ab:=[(false,.int .u64),(false,.int .i64)]
def yP (p116:mA) (f116:dV) (p117:xD) (f117:aHk) (p69:BM) (f69:BQ) (p91:HO) (f91:Ie) (p140:YB) (f140:Wy) (a0:Aa (.int .i64)):Option (DenS DJ) :=
 let e2_:=((IntKind.wrap .i64 ((f69 (a0,())).1.1-(f69 (a0,())).1.2.1)),())
 let e1_:=((f69 (a0,())).1,false,(IntKind.wrap .u64 ((f91 e2_).1-(f116 ((f69 (a0,())).1,())).1)),(f117 ((f69 (a0,())).1,())))
 bif (p69 (a0,())) then (bif ((f69 (a0,())).2.1 != (0:Int)) then (some ((0:Int),(f69 (a0,())).2))
 else bif (p91 e2_) then (bif (p116 ((f69 (a0,())).1,())) then (bif (p117 ((f69 (a0,())).1,())) then (bif (p140 e1_) then (some ((f140 e1_).1,(0:Int),()))
 else none)
 else none)
 else none)
 else none)
 else none
theorem r70 (x:DenS DG):run (cf [(104,⟨Iv,JM,p116,f116⟩),(113,⟨Ou,P0,p117,f117⟩),(54,⟨Ck,Cn,p69,f69⟩),(112,⟨EW,EC,p91,f91⟩),(149,⟨HZ,HP,p140,f140⟩)] []) 9 56 Tryz.f56 DG DJ x=yP p116 f116 p117 f117 p69 f69 p91 f91 p140 f140 x.1:=by kernel_rfl
def ZE (x:DenS DG):Option (DenS DJ):=yP I2.pre I2.F lH.pre lH.F Aq.pre Aq.F Br.pre Br.F F9.pre F9.F x.1
def AB:Sum:=Al DG DJ ZE (DenS.dflt DJ)
theorem Ha:Sound Tryz.prog G1 56 AB:=sd (cf [(104,I2),(113,lH),(54,Aq),(112,Br),(149,F9)] []) 56 Tryz.f56 ⟨tZ,aOo,Er,Mq,fJ,trivial⟩ trivial DG DJ ZE _ (fun _=>r70 ..)
abbrev D3:=Ak DG
abbrev D8:=Aj DG DJ
variable (p70:D3) (f70:D8)
abbrev FL:Ab:=[(false,.int .i64),(false,.int .u64)]
abbrev Fi:Ab:=[(false,.bool),(false,.int .u64),(false,.int .u64),(false,.int .i64)]
def bM (p66:Cm) (f66:Cj) (p90:Y2) (f90:Yc) (a0:Aa (.int .i64)) (a1:Aa (.int .u64)):Option (DenS Fi) :=
 let e2_:=((Vx.k_rows.getD (Int.toNat a0) ((0:Int),(0:Int),(0:Int),(0:Int),())),a1,())
 let e1_:=(f90 e2_)
 bif (p66 (a0,a1,())) then (bif ((f66 (a0,a1,())).1 != (0:Int)) then (some (false,(0:Int),(0:Int),(f66 (a0,a1,()))))
 else bif (bif (decide ((0:Int)<=a0)) then (decide (a0<((4:Nat):Int))) else false) then (bif (p90 e2_) then (some (e1_.1,e1_.2.1,e1_.2.2.1,(0:Int),()))
 else none)
 else none)
 else none
theorem r98 (x:DenS FL):run (cf [(59,⟨CJ,CM,p66,f66⟩),(111,⟨JX,Jo,p90,f90⟩)] []) 9 119 Tryz.f119 FL Fi x=bM p66 f66 p90 f90 x.1 x.2.1:=by kernel_rfl
def Wm (x:DenS FL):Option (DenS Fi):=bM Ar.pre Ar.F Dn.pre Dn.F x.1 x.2.1
def Bo:Sum:=Al FL Fi Wm (DenS.dflt Fi)
theorem RU:Sound Tryz.prog G1 119 Bo:=sd (cf [(59,Ar),(111,Dn)] []) 119 Tryz.f119 ⟨Ge,vU,trivial⟩ trivial FL Fi Wm _ (fun _=>r98 ..)
abbrev JH:=Ak FL
abbrev II:=Aj FL Fi
variable (p98:JH) (f98:II)
abbrev Qb:Ab:=[(false,.int .i64),(true,.pair (.int .i64) (.pair (.int .i64) (.pair (.int .i64) (.pair (.int .i64) (.unit))))),(false,.int .u64)]
abbrev Qq:Ab:=[(true,.pair (.bool) (.pair (.int .u64) (.pair (.int .i64) (.unit))))]
def fO (p98:JH) (f98:II) (a0:Aa (.int .i64)) (a1:Aa (.pair (.int .i64) (.pair (.int .i64) (.pair (.int .i64) (.pair (.int .i64) (.unit)))))) (a2:Aa (.int .u64)):Option (DenS Qq) :=
 let e1_:=(IntKind.wrap .i64 ((IntKind.wrap .i64 (a1.2.2.1-a1.2.1))+(1:Int)))
 let e2_:=(IntKind.wrap .i64 (a1.2.1-(1:Int)))
 bif (p98 (a0,a2,())) then (bif (decide ((f98 (a0,a2,())).2.1>(0:Int))) then (bif (decide ((0:Int)<=e2_)) then (some (((f98 (a0,a2,())).1,(AW .u64 (f98 (a0,a2,())).2.2.1 (AT .u64 (1:Int) e2_)),(IntKind.wrap .i64 (e1_+(IntKind.wrap .i64 ((IntKind.wrap .i64 (f98 (a0,a2,())).2.1)-(1:Int))))),()),()))
 else none)
 else some (((f98 (a0,a2,())).1,(f98 (a0,a2,())).2.2.1,e1_,()),()))
 else none
theorem r72 (x:DenS Qb):run (cf [(119,⟨FL,Fi,p98,f98⟩)] []) 9 58 Tryz.f58 Qb Qq x=fO p98 f98 x.1 x.2.1 x.2.2.1:=by kernel_rfl
def Xf (x:DenS Qb):Option (DenS Qq):=fO Bo.pre Bo.F x.1 x.2.1 x.2.2.1
def Rw:Sum:=Al Qb Qq Xf (DenS.dflt Qq)
theorem aLI:Sound Tryz.prog G1 58 Rw:=sd (cf [(119,Bo)] []) 58 Tryz.f58 ⟨RU,trivial⟩ trivial Qb Qq Xf _ (fun _=>r72 ..)
abbrev u7:=Ak Qb
abbrev rL:=Aj Qb Qq
variable (p72:u7) (f72:rL)
abbrev H2:Ab:=[(true,.pair (.int .u64) (.pair (.int .u64) (.unit))),(false,.int .i64)]
abbrev JP:Ab:=[(true,.pair (.int .u64) (.pair (.int .u64) (.unit)))]
def fH (a0:Aa (.pair (.int .u64) (.pair (.int .u64) (.unit)))) (a1:Aa (.int .i64)):Option (DenS JP) :=
 let e1_:=(IntKind.wrap .i64 (a1-(64:Int)))
 let e2_:=(IntKind.wrap .i64 ((64:Int)-a1))
 bif (decide (a1<=(0:Int))) then (some ((a0.1,a0.2),()))
 else bif (decide (a1>=(128:Int))) then (some (((0:Int),(0:Int),()),()))
 else bif (decide (a1>=(64:Int))) then (bif (decide ((0:Int)<=e1_)) then (some (((AT .u64 a0.2.1 e1_),(0:Int),()),()))
 else none)
 else bif (decide ((0:Int)<=a1)) then (bif (decide ((0:Int)<=e2_)) then (bif (decide ((0:Int)<=a1)) then (some (((AW .u64 (AT .u64 a0.1 a1) (AI .u64 a0.2.1 e2_)),(AT .u64 a0.2.1 a1),()),()))
 else none)
 else none)
 else none
theorem aUR (x:DenS H2):run (cf [] []) 9 114 Tryz.f114 H2 JP x=fH x.1 x.2.1:=by kernel_rfl
def Qw (x:DenS H2):Option (DenS JP):=fH x.1 x.2.1
def AG:Sum:=Al H2 JP Qw (DenS.dflt JP)
theorem aBu:Sound Tryz.prog G1 114 AG:=sd (cf [] []) 114 Tryz.f114 trivial trivial H2 JP Qw _ (fun _=>aUR ..)
abbrev XY:=Ak H2
abbrev Yh:=Aj H2 JP
variable (p119:XY) (f119:Yh)
abbrev JI:Ab:=[(true,.pair (.int .u64) (.pair (.int .u64) (.unit))),(false,.int .i64)]
abbrev LG:Ab:=[(true,.pair (.int .u64) (.pair (.int .u64) (.unit)))]
def aG (a0:Aa (.pair (.int .u64) (.pair (.int .u64) (.unit)))) (a1:Aa (.int .i64)):Option (DenS LG) :=
 let e1_:=(IntKind.wrap .i64 (a1-(64:Int)))
 let e2_:=(IntKind.wrap .i64 ((64:Int)-a1))
 bif (decide (a1<=(0:Int))) then (some ((a0.1,a0.2),()))
 else bif (decide (a1>=(128:Int))) then (some (((0:Int),(0:Int),()),()))
 else bif (decide (a1>=(64:Int))) then (bif (decide ((0:Int)<=e1_)) then (some (((0:Int),(AI .u64 a0.1 e1_),()),()))
 else none)
 else bif (decide ((0:Int)<=a1)) then (bif (decide ((0:Int)<=a1)) then (bif (decide ((0:Int)<=e2_)) then (some (((AI .u64 a0.1 a1),(AW .u64 (AI .u64 a0.2.1 a1) (AT .u64 a0.1 e2_)),()),()))
 else none)
 else none)
 else none
theorem aRB (x:DenS JI):run (cf [] []) 9 115 Tryz.f115 JI LG x=aG x.1 x.2.1:=by kernel_rfl
def VG (x:DenS JI):Option (DenS LG):=aG x.1 x.2.1
def AM:Sum:=Al JI LG VG (DenS.dflt LG)
theorem aUY:Sound Tryz.prog G1 115 AM:=sd (cf [] []) 115 Tryz.f115 trivial trivial JI LG VG _ (fun _=>aRB ..)
abbrev qA:=Ak JI
abbrev mS:=Aj JI LG
variable (p120:qA) (f120:mS)
abbrev E3:Ab:=S7
abbrev Fr:Ab:=Um
def Ay:Sum:=aF2
theorem UF:Sound Tryz.prog G1 165 Ay:=aPB Tryz.func165 (by kernel_rfl) (by kernel_rfl) (by kernel_rfl) (by kernel_rfl)
abbrev Df:=Ak E3
abbrev Dd:=Aj E3 Fr
variable (p155:Df) (f155:Dd)
abbrev IK:Ab:=[(true,.pair (.int .u64) (.pair (.int .u64) (.unit))),(true,.pair (.int .u64) (.pair (.int .u64) (.unit)))]
abbrev Mw:Ab:=[(true,.pair (.int .u64) (.pair (.int .u64) (.unit))),(false,.int .u64)]
def iX (p155:Df) (f155:Dd) (a0 a1:Aa (.pair (.int .u64) (.pair (.int .u64) (.unit)))):Option (DenS Mw) :=
 let e2_:=(a0.1,a1.1,(f155 (a0.2.1,a1.2.1,(0:Int),())).2)
 let e1_:=(f155 e2_)
 bif (p155 (a0.2.1,a1.2.1,(0:Int),())) then (bif (p155 e2_) then (some ((e1_.1,(f155 (a0.2.1,a1.2.1,(0:Int),())).1,()),e1_.2))
 else none)
 else none
theorem aOF (x:DenS IK):run (cf [(165,⟨E3,Fr,p155,f155⟩)] []) 9 116 Tryz.f116 IK Mw x=iX p155 f155 x.1 x.2.1:=by kernel_rfl
def Yj (x:DenS IK):Option (DenS Mw):=iX Ay.pre Ay.F x.1 x.2.1
def Mg:Sum:=Al IK Mw Yj (DenS.dflt Mw)
theorem aTy:Sound Tryz.prog G1 116 Mg:=sd (cf [(165,Ay)] []) 116 Tryz.f116 ⟨UF,trivial⟩ trivial IK Mw Yj _ (fun _=>aOF ..)
abbrev tI:=Ak IK
abbrev tU:=Aj IK Mw
variable (p121:tI) (f121:tU)
abbrev GH:Ab:=[(true,.pair (.int .u64) (.pair (.int .u64) (.unit))),(true,.pair (.int .u64) (.pair (.int .u64) (.unit)))]
abbrev Ht:Ab:=[(false,.int .i64)]
def mK (a0 a1:Aa (.pair (.int .u64) (.pair (.int .u64) (.unit)))):Option (DenS Ht) :=
 bif ((a0.1==a1.1)&&(a0.2.1==a1.2.1)) then (some ((0:Int),()))
 else bif ((decide (a0.1<a1.1))||((a0.1==a1.1)&&(decide (a0.2.1<a1.2.1)))) then (some ((-(1:Int)),()))
 else some ((1:Int),())
theorem aUc (x:DenS GH):run (cf [] []) 9 117 Tryz.f117 GH Ht x=mK x.1 x.2.1:=by kernel_rfl
def XK (x:DenS GH):Option (DenS Ht):=mK x.1 x.2.1
def Dt:Sum:=Al GH Ht XK (DenS.dflt Ht)
theorem aFU:Sound Tryz.prog G1 117 Dt:=sd (cf [] []) 117 Tryz.f117 trivial trivial GH Ht XK _ (fun _=>aUc ..)
abbrev Sb:=Ak GH
abbrev So:=Aj GH Ht
variable (p123:Sb) (f123:So)
abbrev Md:Ab:=S7
abbrev Oi:Ab:=Um
def A5:Sum:=aCH
theorem fA:Sound Tryz.prog G1 166 A5:=aOg Tryz.func166 (by kernel_rfl) (by kernel_rfl) (by kernel_rfl) (by kernel_rfl)
abbrev Gs:=Ak Md
abbrev GN:=Aj Md Oi
variable (p157:Gs) (f157:GN)
abbrev JJ:Ab:=[(true,.pair (.int .u64) (.pair (.int .u64) (.unit))),(true,.pair (.int .u64) (.pair (.int .u64) (.unit)))]
abbrev Kw:Ab:=[(true,.pair (.int .u64) (.pair (.int .u64) (.unit))),(false,.int .u64)]
def mO (p157:Gs) (f157:GN) (a0 a1:Aa (.pair (.int .u64) (.pair (.int .u64) (.unit)))):Option (DenS Kw) :=
 let e2_:=(a0.1,a1.1,(f157 (a0.2.1,a1.2.1,(0:Int),())).2)
 let e1_:=(f157 e2_)
 bif (p157 (a0.2.1,a1.2.1,(0:Int),())) then (bif (p157 e2_) then (some ((e1_.1,(f157 (a0.2.1,a1.2.1,(0:Int),())).1,()),e1_.2))
 else none)
 else none
theorem aLM (x:DenS JJ):run (cf [(166,⟨Md,Oi,p157,f157⟩)] []) 9 118 Tryz.f118 JJ Kw x=mO p157 f157 x.1 x.2.1:=by kernel_rfl
def WT (x:DenS JJ):Option (DenS Kw):=mO A5.pre A5.F x.1 x.2.1
def BI:Sum:=Al JJ Kw WT (DenS.dflt Kw)
theorem aLF:Sound Tryz.prog G1 118 BI:=sd (cf [(166,A5)] []) 118 Tryz.f118 ⟨fA,trivial⟩ trivial JJ Kw WT _ (fun _=>aLM ..)
abbrev sK:=Ak JJ
abbrev sJ:=Aj JJ Kw
variable (p124:sK) (f124:sJ)
abbrev Re:Ab:=[(true,.pair (.int .i64) (.pair (.int .i64) (.pair (.int .i64) (.pair (.int .i64) (.unit)))))]
abbrev O3:Ab:=[(false,.int .u64)]
def aAS (p91:HO) (f91:Ie) (a0:Aa (.pair (.int .i64) (.pair (.int .i64) (.pair (.int .i64) (.pair (.int .i64) (.unit)))))):Option (DenS O3) :=
 let e1_:=((IntKind.wrap .i64 (a0.1-a0.2.1)),())
 bif (p91 e1_) then (some (f91 e1_))
 else none
theorem aNU (x:DenS Re):run (cf [(112,⟨EW,EC,p91,f91⟩)] []) 9 103 Tryz.f103 Re O3 x=aAS p91 f91 x.1:=by kernel_rfl
def aCV (x:DenS Re):Option (DenS O3):=aAS Br.pre Br.F x.1
def aP:Sum:=Al Re O3 aCV (DenS.dflt O3)
theorem aLl:Sound Tryz.prog G1 103 aP:=sd (cf [(112,Br)] []) 103 Tryz.f103 ⟨Mq,trivial⟩ trivial Re O3 aCV _ (fun _=>aNU ..)
abbrev aHg:=Ak Re
abbrev aFp:=Aj Re O3
variable (p154:aHg) (f154:aFp)
abbrev EG:Ab:=[(false,.int .i64),(false,.bool)]
abbrev EZ:Ab:=[(false,.int .u64),(false,.int .i64)]
def aFu (p154:aHg) (f154:aFp) (p116:mA) (f116:dV) (p69:BM) (f69:BQ) (p91:HO) (f91:Ie) (p140:YB) (f140:Wy) (a0:Aa (.int .i64)) (a1:Aa (.bool)):Option (DenS EZ) :=
 let e2_:=((IntKind.wrap .i64 ((f69 (a0,())).1.1-(f69 (a0,())).1.2.1)),())
 let e1_:=((f69 (a0,())).1,a1,(IntKind.wrap .u64 ((f91 e2_).1-(f154 ((f69 (a0,())).1,())).1)),(f116 ((f69 (a0,())).1,())))
 bif (p69 (a0,())) then (bif ((f69 (a0,())).2.1 != (0:Int)) then (some ((0:Int),(f69 (a0,())).2))
 else bif (p91 e2_) then (bif (p154 ((f69 (a0,())).1,())) then (bif (p116 ((f69 (a0,())).1,())) then (bif (p140 e1_) then (some ((f140 e1_).1,(0:Int),()))
 else none)
 else none)
 else none)
 else none)
 else none
theorem aUi (x:DenS EG):run (cf [(103,⟨Re,O3,p154,f154⟩),(104,⟨Iv,JM,p116,f116⟩),(54,⟨Ck,Cn,p69,f69⟩),(112,⟨EW,EC,p91,f91⟩),(149,⟨HZ,HP,p140,f140⟩)] []) 9 38 Tryz.f38 EG EZ x=aFu p154 f154 p116 f116 p69 f69 p91 f91 p140 f140 x.1 x.2.1:=by kernel_rfl
def Ze (x:DenS EG):Option (DenS EZ):=aFu aP.pre aP.F I2.pre I2.F Aq.pre Aq.F Br.pre Br.F F9.pre F9.F x.1 x.2.1
def A3:Sum:=Al EG EZ Ze (DenS.dflt EZ)
theorem SR:Sound Tryz.prog G1 38 A3:=sd (cf [(103,aP),(104,I2),(54,Aq),(112,Br),(149,F9)] []) 38 Tryz.f38 ⟨aLl,tZ,Er,Mq,fJ,trivial⟩ trivial EG EZ Ze _ (fun _=>aUi ..)
abbrev G8:=Ak EG
abbrev GD:=Aj EG EZ
variable (p118:G8) (f118:GD)
abbrev QO:Ab:=[(false,.int .i64)]
abbrev Of:Ab:=[(false,.int .i64)]
def kN (a0:Aa (.int .i64)):Option (DenS Of) :=
 bif ((decide (a0<(0:Int)))||(decide (a0>(5:Int)))) then (some ((3:Int),()))
 else some ((0:Int),())
theorem aRk (x:DenS QO):run (cf [] []) 9 167 Tryz.f167 QO Of x=kN x.1:=by kernel_rfl
def Yl (x:DenS QO):Option (DenS Of):=kN x.1
def OE:Sum:=Al QO Of Yl (DenS.dflt Of)
theorem aSl:Sound Tryz.prog G1 167 OE:=sd (cf [] []) 167 Tryz.f167 trivial trivial QO Of Yl _ (fun _=>aRk ..)
abbrev aFs:=Ak QO
abbrev aAB:=Aj QO Of
variable (p147:aFs) (f147:aAB)
abbrev Ju:Ab:=[(false,.int .i64),(false,.int .i64)]
abbrev Jj:Ab:=[(true,.pair (.int .i64) (.pair (.int .i64) (.pair (.int .i64) (.pair (.int .i64) (.unit))))),(false,.int .i64)]
def Z4 (p69:BM) (f69:BQ) (p147:aFs) (f147:aAB) (a0 a1:Aa (.int .i64)):Option (DenS Jj) :=
 bif (p69 (a0,())) then (bif ((f69 (a0,())).2.1 != (0:Int)) then (some (f69 (a0,())))
 else bif (p147 (a1,())) then (some ((f69 (a0,())).1,(f147 (a1,()))))
 else none)
 else none
theorem aPp (x:DenS Ju):run (cf [(54,⟨Ck,Cn,p69,f69⟩),(167,⟨QO,Of,p147,f147⟩)] []) 9 121 Tryz.f121 Ju Jj x=Z4 p69 f69 p147 f147 x.1 x.2.1:=by kernel_rfl
def YN (x:DenS Ju):Option (DenS Jj):=Z4 Aq.pre Aq.F OE.pre OE.F x.1 x.2.1
def EI:Sum:=Al Ju Jj YN (DenS.dflt Jj)
theorem tL:Sound Tryz.prog G1 121 EI:=sd (cf [(54,Aq),(167,OE)] []) 121 Tryz.f121 ⟨Er,aSl,trivial⟩ trivial Ju Jj YN _ (fun _=>aPp ..)
abbrev Vv:=Ak Ju
abbrev TH:=Aj Ju Jj
variable (p105:Vv) (f105:TH)
abbrev Bt:Ab:=[(false,.slice (.int .u64))]
abbrev Bu:Ab:=[(false,.slice (.int .u64))]
abbrev HY:Pat:=⟨21,[(0,.one (.sl (.int .u64))),(3,.one (.v .i64))],[]⟩
abbrev cA:List (Nat×Shape):=[]
abbrev Kt:List (Nat×Pat):=[(0,⟨21,[(0,.one (.sl (.int .u64))),(3,.one (.v .i64))],[]⟩)]
abbrev ME:Option Pat:=none
variable (w173_2:Pat.D HY->Option (Ah Kt ME))
def U6 {R:Type} (L:Pat.D HY->Option R) (e:Ah Kt ME->Option R) (x:Pat.D HY):Option R :=
 let e1_:=(IntKind.wrap .i64 (x.1.2.1-(1:Int)))
 bif (((decide ((0:Int)<=e1_))&&(decide (e1_<(x.1.1.length:Int))))||(!(decide (x.1.2.1>(0:Int))))) then (bif ((decide (x.1.2.1>(0:Int)))&&((x.1.1.getD (Int.toNat e1_) (0:Int))==(0:Int))) then (((L ((x.1.1,e1_,()),()))))
 else (e (.inl (x.1,()))))
 else none
theorem aIT (d:Nat) (R:Type) (L:Pat.D HY->Option R) (e:Ah Kt ME->Option R) (x:Pat.D HY) :
  BB (cf [] [(169,2,LoopSpec.of HY cA Kt ME w173_2)]) (d+2) 169 (By Tryz.f169 2) HY cA Kt ME (R:=R) L e x=U6 L e x:=by kernel_rfl
theorem aGL:Bs fun L e x=>U6 L e x:=by intro _ _ _ _ _ _ _ h0 hL he _; unfold U6; repeat' (first | exact h0 | exact hL _ | exact he _ | apply BU | (apply BX h0; intro _) | (apply B5 <;> intro _))
def jK (w173_2:Pat.D HY->Option (Ah Kt ME)) (a0:Aa (.slice (.int .u64))):Option (DenS Bu) :=
 Vx.A1 (w173_2 ((a0,(a0.length:Int),()),())) fun y0 =>
 Vx.A6 y0 (fun y1 =>
 bif ((decide ((0:Int)<=y1.1.2.1))&&(decide (y1.1.2.1<=(y1.1.1.length:Int)))) then (some (((y1.1.1.take (Int.toNat y1.1.2.1)).drop (Int.toNat (0:Int))),()))
 else none) (fun z1 =>
 none)
theorem aJu (x:DenS Bt):run (cf [] [(169,2,LoopSpec.of HY cA Kt ME w173_2)]) 9 169 Tryz.f169 Bt Bu x=jK w173_2 x.1:=by kernel_rfl
def cQ:HY.D->Option (Ah Kt ME):=Bf fun L=>U6 L some
def Sa (x:DenS Bt):Option (DenS Bu):=jK cQ x.1
def Ag:Sum:=Al Bt Bu Sa (DenS.dflt Bu)
theorem Ea:Sound Tryz.prog G1 169 Ag:=sd (cf [] [(169,2,LoopSpec.of HY cA Kt ME cQ)]) 169 Tryz.f169 trivial ⟨rfl,fun d=>Ca (fun L e x=>U6 L e x) (aGL) (fun _ _ _ _=>aIT ..),trivial⟩ Bt Bu Sa _ (fun _=>aJu ..)
abbrev A7:=Ak Bt
abbrev A8:=Aj Bt Bu
variable (p173:A7) (f173:A8)
abbrev HC:Ab:=[(false,.slice (.int .u64))]
abbrev HB:Ab:=[(false,.slice (.int .u64))]
def aF (p173:A7) (f173:A8) (a0:Aa (.slice (.int .u64))):Option (DenS HB) :=
 let e1_:=(List.replicate (Int.toNat ((f173 (a0,())).1.length:Int)) (0:Int))
 bif (p173 (a0,())) then (bif ((decide ((0:Int)<=((f173 (a0,())).1.length:Int)))&&(decide ((((f173 (a0,())).1.length:Int)*(8:Int))<=(140737488355328:Int)))) then (some ((((f173 (a0,())).1.take e1_.length)++(e1_.drop (f173 (a0,())).1.length)),()))
 else none)
 else none
theorem aII (x:DenS HC):run (cf [(169,⟨Bt,Bu,p173,f173⟩)] []) 9 168 Tryz.f168 HC HB x=aF p173 f173 x.1:=by kernel_rfl
def ZU (x:DenS HC):Option (DenS HB):=aF Ag.pre Ag.F x.1
def CU:Sum:=Al HC HB ZU (DenS.dflt HB)
theorem oY:Sound Tryz.prog G1 168 CU:=sd (cf [(169,Ag)] []) 168 Tryz.f168 ⟨Ea,trivial⟩ trivial HC HB ZU _ (fun _=>aII ..)
abbrev RT:=Ak HC
abbrev Sc:=Aj HC HB
variable (p146:RT) (f146:Sc)
abbrev FI:Ab:=[(false,.slice (.int .u64))]
abbrev FD:Ab:=[(false,.slice (.int .u64))]
def mE (p146:RT) (f146:Sc) (a0:Aa (.slice (.int .u64))):Option (DenS FD) :=
 bif (p146 (a0,())) then (some (f146 (a0,())))
 else none
theorem aO0 (x:DenS FI):run (cf [(168,⟨HC,HB,p146,f146⟩)] []) 9 122 Tryz.f122 FI FD x=mE p146 f146 x.1:=by kernel_rfl
def SM (x:DenS FI):Option (DenS FD):=mE CU.pre CU.F x.1
def Bg:Sum:=Al FI FD SM (DenS.dflt FD)
theorem Xl:Sound Tryz.prog G1 122 Bg:=sd (cf [(168,CU)] []) 122 Tryz.f122 ⟨oY,trivial⟩ trivial FI FD SM _ (fun _=>aO0 ..)
abbrev GM:=Ak FI
abbrev G3:=Aj FI FD
variable (p102:GM) (f102:G3)
abbrev FS:Ab:=[(false,.int .u64)]
abbrev FA:Ab:=[(false,.int .i64)]
def dF (a0:Aa (.int .u64)):Option (DenS FA) :=
 let e10_:=(AI .u64 (AI .u64 a0 (32:Int)) (16:Int))
 let e1_:=(IntKind.wrap .u8 (AI .u64 e10_ (8:Int)))
 let e2_:=(IntKind.wrap .u8 e10_)
 let e3_:=(IntKind.wrap .u8 (AI .u64 (AI .u64 a0 (32:Int)) (8:Int)))
 let e4_:=(IntKind.wrap .u8 (AI .u64 (AI .u64 a0 (16:Int)) (8:Int)))
 let e5_:=(IntKind.wrap .u8 (AI .u64 a0 (32:Int)))
 let e6_:=(IntKind.wrap .u8 (AI .u64 a0 (16:Int)))
 let e7_:=(IntKind.wrap .u8 (AI .u64 a0 (8:Int)))
 let e8_:=(IntKind.wrap .i64 ((32:Int)+(16:Int)))
 let e9_:=(IntKind.wrap .i64 ((0:Int)+(16:Int)))
 bif (decide (a0>=(4294967296:Int))) then (bif (decide ((AI .u64 a0 (32:Int))>=(65536:Int))) then (bif (decide (e10_>=(256:Int))) then (bif ((decide ((0:Int)<=e1_))&&(decide (e1_<(256:Int)))) then (some ((IntKind.wrap .i64 ((IntKind.wrap .i64 (e8_+(8:Int)))+(IntKind.wrap .i64 ((UInt8.toNat (Vx.HV.getD (Int.toNat e1_) (0:UInt8))):Int)))),()))
 else none)
 else bif ((decide ((0:Int)<=e2_))&&(decide (e2_<(256:Int)))) then (some ((IntKind.wrap .i64 (e8_+(IntKind.wrap .i64 ((UInt8.toNat (Vx.HV.getD (Int.toNat e2_) (0:UInt8))):Int)))),()))
 else none)
 else bif (decide ((AI .u64 a0 (32:Int))>=(256:Int))) then (bif ((decide ((0:Int)<=e3_))&&(decide (e3_<(256:Int)))) then (some ((IntKind.wrap .i64 ((IntKind.wrap .i64 ((32:Int)+(8:Int)))+(IntKind.wrap .i64 ((UInt8.toNat (Vx.HV.getD (Int.toNat e3_) (0:UInt8))):Int)))),()))
 else none)
 else bif ((decide ((0:Int)<=e5_))&&(decide (e5_<(256:Int)))) then (some ((IntKind.wrap .i64 ((32:Int)+(IntKind.wrap .i64 ((UInt8.toNat (Vx.HV.getD (Int.toNat e5_) (0:UInt8))):Int)))),()))
 else none)
 else bif (decide (a0>=(65536:Int))) then (bif (decide ((AI .u64 a0 (16:Int))>=(256:Int))) then (bif ((decide ((0:Int)<=e4_))&&(decide (e4_<(256:Int)))) then (some ((IntKind.wrap .i64 ((IntKind.wrap .i64 (e9_+(8:Int)))+(IntKind.wrap .i64 ((UInt8.toNat (Vx.HV.getD (Int.toNat e4_) (0:UInt8))):Int)))),()))
 else none)
 else bif ((decide ((0:Int)<=e6_))&&(decide (e6_<(256:Int)))) then (some ((IntKind.wrap .i64 (e9_+(IntKind.wrap .i64 ((UInt8.toNat (Vx.HV.getD (Int.toNat e6_) (0:UInt8))):Int)))),()))
 else none)
 else bif (decide (a0>=(256:Int))) then (bif ((decide ((0:Int)<=e7_))&&(decide (e7_<(256:Int)))) then (some ((IntKind.wrap .i64 ((IntKind.wrap .i64 ((0:Int)+(8:Int)))+(IntKind.wrap .i64 ((UInt8.toNat (Vx.HV.getD (Int.toNat e7_) (0:UInt8))):Int)))),()))
 else none)
 else bif ((decide ((0:Int)<=(IntKind.wrap .u8 a0)))&&(decide ((IntKind.wrap .u8 a0)<(256:Int)))) then (some ((IntKind.wrap .i64 ((0:Int)+(IntKind.wrap .i64 ((UInt8.toNat (Vx.HV.getD (Int.toNat (IntKind.wrap .u8 a0)) (0:UInt8))):Int)))),()))
 else none
theorem aIK (x:DenS FS):run (cf [] []) 9 83 Tryz.f83 FS FA x=dF x.1:=by kernel_rfl
def Zy (x:DenS FS):Option (DenS FA):=dF x.1
def Bw:Sum:=Al FS FA Zy (DenS.dflt FA)
theorem V7:Sound Tryz.prog G1 83 Bw:=sd (cf [] []) 83 Tryz.f83 trivial trivial FS FA Zy _ (fun _=>aIK ..)
abbrev He:=Ak FS
abbrev Hx:=Aj FS FA
variable (p178:He) (f178:Hx)
abbrev F6:Ab:=[(false,.slice (.int .u64))]
abbrev Gd:Ab:=[(false,.int .i64)]
def dT (p173:A7) (f173:A8) (p178:He) (f178:Hx) (a0:Aa (.slice (.int .u64))):Option (DenS Gd) :=
 let e3_:=(IntKind.wrap .i64 (((f173 (a0,())).1.length:Int)-(1:Int)))
 let e1_:=(((f173 (a0,())).1.getD (Int.toNat e3_) (0:Int)),())
 let e2_:=e3_
 bif (p173 (a0,())) then (bif (((f173 (a0,())).1.length:Int)==(0:Int)) then (some ((0:Int),()))
 else bif ((decide ((0:Int)<=e2_))&&(decide (e2_<((f173 (a0,())).1.length:Int)))) then (bif (p178 e1_) then (some ((IntKind.wrap .i64 ((IntKind.wrap .i64 ((64:Int)*e2_))+(f178 e1_).1)),()))
 else none)
 else none)
 else none
theorem aVf (x:DenS F6):run (cf [(169,⟨Bt,Bu,p173,f173⟩),(83,⟨FS,FA,p178,f178⟩)] []) 9 123 Tryz.f123 F6 Gd x=dT p173 f173 p178 f178 x.1:=by kernel_rfl
def Th (x:DenS F6):Option (DenS Gd):=dT Ag.pre Ag.F Bw.pre Bw.F x.1
def Ci:Sum:=Al F6 Gd Th (DenS.dflt Gd)
theorem YA:Sound Tryz.prog G1 123 Ci:=sd (cf [(169,Ag),(83,Bw)] []) 123 Tryz.f123 ⟨Ea,V7,trivial⟩ trivial F6 Gd Th _ (fun _=>aVf ..)
abbrev KT:=Ak F6
abbrev L5:=Aj F6 Gd
variable (p151:KT) (f151:L5)
abbrev KM:Ab:=[(false,.int .i64),(false,.bool)]
abbrev J8:Ab:=[(false,.int .u64),(false,.int .i64),(false,.int .i64)]
def gR (p118:G8) (f118:GD) (a0:Aa (.int .i64)) (a1:Aa (.bool)):Option (DenS J8) :=
 bif (p118 (a0,a1,())) then (some ((f118 (a0,a1,())).1,(0:Int),(f118 (a0,a1,())).2))
 else none
theorem aVa (x:DenS KM):run (cf [(38,⟨EG,EZ,p118,f118⟩)] []) 9 124 Tryz.f124 KM J8 x=gR p118 f118 x.1 x.2.1:=by kernel_rfl
def Wv (x:DenS KM):Option (DenS J8):=gR A3.pre A3.F x.1 x.2.1
def HN:Sum:=Al KM J8 Wv (DenS.dflt J8)
theorem aFO:Sound Tryz.prog G1 124 HN:=sd (cf [(38,A3)] []) 124 Tryz.f124 ⟨SR,trivial⟩ trivial KM J8 Wv _ (fun _=>aVa ..)
abbrev dE:=Ak KM
abbrev jJ:=Aj KM J8
variable (p156:dE) (f156:jJ)
abbrev NT:Ab:=[(true,.pair (.bool) (.pair (.slice (.int .u64)) (.pair (.int .i64) (.pair (.bool) (.unit)))))]
abbrev OR:Ab:=[(false,.int .i64)]
def lB (p151:KT) (f151:L5) (a0:Aa (.pair (.bool) (.pair (.slice (.int .u64)) (.pair (.int .i64) (.pair (.bool) (.unit)))))):Option (DenS OR) :=
 bif (p151 (a0.2.1,())) then (some ((IntKind.wrap .i64 ((IntKind.wrap .i64 (a0.2.2.1+(f151 (a0.2.1,())).1))-(1:Int))),()))
 else none
theorem aQC (x:DenS NT):run (cf [(123,⟨F6,Gd,p151,f151⟩)] []) 9 170 Tryz.f170 NT OR x=lB p151 f151 x.1:=by kernel_rfl
def Zs (x:DenS NT):Option (DenS OR):=lB Ci.pre Ci.F x.1
def VA:Sum:=Al NT OR Zs (DenS.dflt OR)
theorem aRR:Sound Tryz.prog G1 170 VA:=sd (cf [(123,Ci)] []) 170 Tryz.f170 ⟨YA,trivial⟩ trivial NT OR Zs _ (fun _=>aQC ..)
abbrev aD6:=Ak NT
abbrev aB4:=Aj NT OR
variable (p148:aD6) (f148:aB4)
abbrev HG:Ab:=[(true,.slice (.int .u64))]
abbrev Ii:Ab:=[(true,.slice (.int .u64))]
abbrev Id:Pat:=⟨21,[(0,.one (.own 0)),(3,.one (.v .i64))],[.arr (.int .u64)]⟩
abbrev j9:List (Nat×Shape):=[]
abbrev KV:List (Nat×Pat):=[(0,⟨21,[(0,.one (.own 0)),(3,.one (.v .i64))],[.arr (.int .u64)]⟩)]
abbrev Kb:Option Pat:=none
variable (w1173_2:Pat.D Id->Option (Ah KV Kb))
def VB {R:Type} (L:Pat.D Id->Option R) (e:Ah KV Kb->Option R) (x:Pat.D Id):Option R :=
 let e1_:=(IntKind.wrap .i64 (x.1.2.1-(1:Int)))
 bif (((decide ((0:Int)<=e1_))&&(decide (e1_<(x.2.1.length:Int))))||(!(decide (x.1.2.1>(0:Int))))) then (bif ((decide (x.1.2.1>(0:Int)))&&((x.2.1.getD (Int.toNat e1_) (0:Int))==(0:Int))) then (((L (((),e1_,()),x.2))))
 else (e (.inl (((),x.1.2),x.2))))
 else none
theorem aMc (d:Nat) (R:Type) (L:Pat.D Id->Option R) (e:Ah KV Kb->Option R) (x:Pat.D Id) :
  BB ({ cf [] [(169,2,LoopSpec.of Id j9 KV Kb w1173_2)] with keep:=true }) (d+2) 169 (By Tryz.f169 2) Id j9 KV Kb (R:=R) L e x=VB L e x:=by kernel_rfl
theorem aHm:Bs fun L e x=>VB L e x:=by intro _ _ _ _ _ _ _ h0 hL he _; unfold VB; repeat' (first | exact h0 | exact hL _ | exact he _ | apply BU | (apply BX h0; intro _) | (apply B5 <;> intro _))
def jS (w1173_2:Pat.D Id->Option (Ah KV Kb)) (a0:Aa (.slice (.int .u64))):Option (DenS Ii) :=
 Vx.A1 (w1173_2 (((),(a0.length:Int),()),a0,())) fun y0 =>
 Vx.A6 y0 (fun y1 =>
 bif ((decide ((0:Int)<=y1.1.2.1))&&(decide (y1.1.2.1<=(y1.2.1.length:Int)))) then (some ((y1.2.1.take (Int.toNat y1.1.2.1)),()))
 else none) (fun z1 =>
 none)
theorem aRS (x:DenS HG):run ({ cf [] [(169,2,LoopSpec.of Id j9 KV Kb w1173_2)] with keep:=true }) 9 169 Tryz.f169 HG Ii x=jS w1173_2 x.1:=by kernel_rfl
def iA:Id.D->Option (Ah KV Kb):=Bf fun L=>VB L some
def YR (x:DenS HG):Option (DenS Ii):=jS iA x.1
def Cf:Sum:=Al HG Ii YR (DenS.dflt Ii)
theorem aGK:Sound Tryz.prog G1 169 Cf:=sd ({ cf [] [(169,2,LoopSpec.of Id j9 KV Kb iA)] with keep:=true }) 169 Tryz.f169 trivial ⟨rfl,fun d=>Ca (fun L e x=>VB L e x) (aHm) (fun _ _ _ _=>aMc ..),trivial⟩ HG Ii YR _ (fun _=>aRS ..)
abbrev ML:=Ak HG
abbrev Py:=Aj HG Ii
variable (p1173:ML) (f1173:Py)
abbrev Ro:Ab:=[(false,.slice (.int .u64)),(false,.int .i64)]
abbrev M2:Ab:=[(true,.slice (.int .u64))]
abbrev Ig:Pat:=⟨66,[(25,.one (.v .i64)),(0,.one (.sl (.int .u64))),(5,.one (.v .i64)),(6,.one (.v .i64)),(26,.one (.v .i64)),(7,.one (.own 0))],[.arr (.int .u64)]⟩
abbrev fL:List (Nat×Shape):=[]
abbrev Ld:List (Nat×Pat):=[(0,⟨66,[(7,.one (.own 0))],[.arr (.int .u64)]⟩)]
abbrev J4:Option Pat:=none
variable (w1171_7:Pat.D Ig->Option (Ah Ld J4))
def VQ (p1173:ML) (f1173:Py) (p173:A7) (f173:A8) {R:Type} (L:Pat.D Ig->Option R) (e:Ah Ld J4->Option R) (x:Pat.D Ig):Option R :=
 let e10_:=(IntKind.wrap .i64 (x.1.2.2.1+x.1.2.2.2.2.1))
 let e8_:=(x.2.1.set (Int.toNat x.1.2.2.2.2.1) (AI .u64 (x.1.2.1.getD (Int.toNat e10_) (0:Int)) x.1.2.2.2.1))
 let e1_:=((decide ((0:Int)<=x.1.2.2.2.2.1))&&(decide (x.1.2.2.2.2.1<(e8_.length:Int))))
 let e2_:=e8_
 let e9_:=(IntKind.wrap .i64 (e10_+(1:Int)))
 let e3_:=(decide (e9_<(x.1.2.1.length:Int)))
 let e4_:=(x.1.1,x.1.2.1,x.1.2.2.1,x.1.2.2.2.1,(IntKind.wrap .i64 (x.1.2.2.2.2.1+(1:Int))),(),())
 let e5_:=e9_
 let e6_:=e10_
 let e7_:=(IntKind.wrap .i64 ((64:Int)-x.1.2.2.2.1))
 bif (decide (x.1.2.2.2.2.1<x.1.1)) then (bif ((decide ((0:Int)<=e6_))&&(decide (e6_<(x.1.2.1.length:Int)))) then (bif (decide ((0:Int)<=x.1.2.2.2.1)) then (bif ((decide ((0:Int)<=x.1.2.2.2.2.1))&&(decide (x.1.2.2.2.2.1<(x.2.1.length:Int)))) then (bif e3_ then (bif e1_ then (bif ((decide ((0:Int)<=e5_))&&e3_) then (bif (decide ((0:Int)<=e7_)) then (bif e1_ then (((L (e4_,(e2_.set (Int.toNat x.1.2.2.2.2.1) (AW .u64 (e2_.getD (Int.toNat x.1.2.2.2.2.1) (0:Int)) (AT .u64 (x.1.2.1.getD (Int.toNat e5_) (0:Int)) e7_))),()))))
 else none)
 else none)
 else none)
 else none)
 else (L (e4_,e2_,())))
 else none)
 else none)
 else none)
 else (e (.inl (((),()),x.2)))
theorem aL1 (d:Nat) (R:Type) (L:Pat.D Ig->Option R) (e:Ah Ld J4->Option R) (x:Pat.D Ig) :
  BB ({ cf [(169,⟨HG,Ii,p1173,f1173⟩),(169,⟨Bt,Bu,p173,f173⟩)] [(301,7,LoopSpec.of Ig fL Ld J4 w1171_7)] with keep:=true }) (d+2) 301 (By Tryz.f301 7) Ig fL Ld J4 (R:=R) L e x=VQ p1173 f1173 p173 f173 L e x:=by kernel_rfl
theorem aBj (p1173:ML) (f1173:Py) (p173:A7) (f173:A8):Bs fun L e x=>VQ p1173 f1173 p173 f173 L e x:=by intro _ _ _ _ _ _ _ h0 hL he _; unfold VQ; repeat' (first | exact h0 | exact hL _ | exact he _ | apply BU | (apply BX h0; intro _) | (apply B5 <;> intro _))
def fB (p1173:ML) (f1173:Py) (p173:A7) (f173:A8) (w1171_7:Pat.D Ig->Option (Ah Ld J4)) (a0:Aa (.slice (.int .u64))) (a1:Aa (.int .i64)):Option (DenS M2) :=
 let e3_:=(IntKind.wrap .i64 (((f173 (a0,())).1.length:Int)-(Bz .i64 a1 (64:Int))))
 let e1_:=(List.replicate (Int.toNat e3_) (0:Int))
 let e2_:=e3_
 bif (p173 (a0,())) then (bif (decide ((Bz .i64 a1 (64:Int))>=((f173 (a0,())).1.length:Int))) then (some ([],()))
 else bif ((decide ((0:Int)<=e2_))&&(decide ((e2_*(8:Int))<=(140737488355328:Int)))) then (Vx.A1 (w1171_7 (((e1_.length:Int),(f173 (a0,())).1,(Bz .i64 a1 (64:Int)),(Int.tmod a1 (64:Int)),(0:Int),(),()),e1_,())) fun y3 =>
 Vx.A6 y3 (fun y4 =>
 bif (p1173 y4.2) then (some (f1173 y4.2))
 else none) (fun z4 =>
 none))
 else none)
 else none
theorem aUL (x:DenS Ro):run ({ cf [(169,⟨HG,Ii,p1173,f1173⟩),(169,⟨Bt,Bu,p173,f173⟩)] [(301,7,LoopSpec.of Ig fL Ld J4 w1171_7)] with keep:=true }) 9 301 Tryz.f301 Ro M2 x=fB p1173 f1173 p173 f173 w1171_7 x.1 x.2.1:=by kernel_rfl
def dP:Ig.D->Option (Ah Ld J4):=Bf fun L=>VQ Cf.pre Cf.F Ag.pre Ag.F L some
def Y3 (x:DenS Ro):Option (DenS M2):=fB Cf.pre Cf.F Ag.pre Ag.F dP x.1 x.2.1
def MX:Sum:=Al Ro M2 Y3 (DenS.dflt M2)
theorem aQB:Sound Tryz.prog G1 301 MX:=sd ({ cf [(169,Cf),(169,Ag)] [(301,7,LoopSpec.of Ig fL Ld J4 dP)] with keep:=true }) 301 Tryz.f301 ⟨aGK,Ea,trivial⟩ ⟨rfl,fun d=>Ca (fun L e x=>VQ Cf.pre Cf.F Ag.pre Ag.F L e x) (aBj Cf.pre Cf.F Ag.pre Ag.F) (fun _ _ _ _=>aL1 ..),trivial⟩ Ro M2 Y3 _ (fun _=>aUL ..)
abbrev xX:=Ak Ro
abbrev aHd:=Aj Ro M2
variable (p1171:xX) (f1171:aHd)
abbrev Im:Ab:=[(false,.slice (.int .u64)),(false,.int .i64)]
abbrev Hl:Ab:=[(false,.slice (.int .u64))]
abbrev HU:Pat:=⟨66,[(25,.one (.v .i64)),(0,.one (.sl (.int .u64))),(5,.one (.v .i64)),(6,.one (.v .i64)),(26,.one (.v .i64)),(7,.one (.own 0))],[.arr (.int .u64)]⟩
abbrev fM:List (Nat×Shape):=[]
abbrev MA:List (Nat×Pat):=[(0,⟨66,[(7,.one (.own 0))],[.arr (.int .u64)]⟩)]
abbrev MI:Option Pat:=none
variable (w171_7:Pat.D HU->Option (Ah MA MI))
def T7 (p173:A7) (f173:A8) {R:Type} (L:Pat.D HU->Option R) (e:Ah MA MI->Option R) (x:Pat.D HU):Option R :=
 let e10_:=(IntKind.wrap .i64 (x.1.2.2.1+x.1.2.2.2.2.1))
 let e8_:=(x.2.1.set (Int.toNat x.1.2.2.2.2.1) (AI .u64 (x.1.2.1.getD (Int.toNat e10_) (0:Int)) x.1.2.2.2.1))
 let e1_:=((decide ((0:Int)<=x.1.2.2.2.2.1))&&(decide (x.1.2.2.2.2.1<(e8_.length:Int))))
 let e2_:=e8_
 let e9_:=(IntKind.wrap .i64 (e10_+(1:Int)))
 let e3_:=(decide (e9_<(x.1.2.1.length:Int)))
 let e4_:=(x.1.1,x.1.2.1,x.1.2.2.1,x.1.2.2.2.1,(IntKind.wrap .i64 (x.1.2.2.2.2.1+(1:Int))),(),())
 let e5_:=e9_
 let e6_:=e10_
 let e7_:=(IntKind.wrap .i64 ((64:Int)-x.1.2.2.2.1))
 bif (decide (x.1.2.2.2.2.1<x.1.1)) then (bif ((decide ((0:Int)<=e6_))&&(decide (e6_<(x.1.2.1.length:Int)))) then (bif (decide ((0:Int)<=x.1.2.2.2.1)) then (bif ((decide ((0:Int)<=x.1.2.2.2.2.1))&&(decide (x.1.2.2.2.2.1<(x.2.1.length:Int)))) then (bif e3_ then (bif e1_ then (bif ((decide ((0:Int)<=e5_))&&e3_) then (bif (decide ((0:Int)<=e7_)) then (bif e1_ then (((L (e4_,(e2_.set (Int.toNat x.1.2.2.2.2.1) (AW .u64 (e2_.getD (Int.toNat x.1.2.2.2.2.1) (0:Int)) (AT .u64 (x.1.2.1.getD (Int.toNat e5_) (0:Int)) e7_))),()))))
 else none)
 else none)
 else none)
 else none)
 else (L (e4_,e2_,())))
 else none)
 else none)
 else none)
 else (e (.inl (((),()),x.2)))
theorem aLD (d:Nat) (R:Type) (L:Pat.D HU->Option R) (e:Ah MA MI->Option R) (x:Pat.D HU) :
  BB (cf [(169,⟨Bt,Bu,p173,f173⟩)] [(301,7,LoopSpec.of HU fM MA MI w171_7)]) (d+2) 301 (By Tryz.f301 7) HU fM MA MI (R:=R) L e x=T7 p173 f173 L e x:=by kernel_rfl
theorem aHD (p173:A7) (f173:A8):Bs fun L e x=>T7 p173 f173 L e x:=by intro _ _ _ _ _ _ _ h0 hL he _; unfold T7; repeat' (first | exact h0 | exact hL _ | exact he _ | apply BU | (apply BX h0; intro _) | (apply B5 <;> intro _))
def iE (p173:A7) (f173:A8) (w171_7:Pat.D HU->Option (Ah MA MI)) (a0:Aa (.slice (.int .u64))) (a1:Aa (.int .i64)):Option (DenS Hl) :=
 let e3_:=(IntKind.wrap .i64 (((f173 (a0,())).1.length:Int)-(Bz .i64 a1 (64:Int))))
 let e1_:=(List.replicate (Int.toNat e3_) (0:Int))
 let e2_:=e3_
 bif (p173 (a0,())) then (bif (decide ((Bz .i64 a1 (64:Int))>=((f173 (a0,())).1.length:Int))) then (some ([],()))
 else bif ((decide ((0:Int)<=e2_))&&(decide ((e2_*(8:Int))<=(140737488355328:Int)))) then (Vx.A1 (w171_7 (((e1_.length:Int),(f173 (a0,())).1,(Bz .i64 a1 (64:Int)),(Int.tmod a1 (64:Int)),(0:Int),(),()),e1_,())) fun y3 =>
 Vx.A6 y3 (fun y4 =>
 bif (p173 y4.2) then (some (f173 y4.2))
 else none) (fun z4 =>
 none))
 else none)
 else none
theorem aL8 (x:DenS Im):run (cf [(169,⟨Bt,Bu,p173,f173⟩)] [(301,7,LoopSpec.of HU fM MA MI w171_7)]) 9 301 Tryz.f301 Im Hl x=iE p173 f173 w171_7 x.1 x.2.1:=by kernel_rfl
def bJ:HU.D->Option (Ah MA MI):=Bf fun L=>T7 Ag.pre Ag.F L some
def Tp (x:DenS Im):Option (DenS Hl):=iE Ag.pre Ag.F bJ x.1 x.2.1
def CT:Sum:=Al Im Hl Tp (DenS.dflt Hl)
theorem tS:Sound Tryz.prog G1 301 CT:=sd (cf [(169,Ag)] [(301,7,LoopSpec.of HU fM MA MI bJ)]) 301 Tryz.f301 ⟨Ea,trivial⟩ ⟨rfl,fun d=>Ca (fun L e x=>T7 Ag.pre Ag.F L e x) (aHD Ag.pre Ag.F) (fun _ _ _ _=>aLD ..),trivial⟩ Im Hl Tp _ (fun _=>aL8 ..)
abbrev Sl:=Ak Im
abbrev Sk:=Aj Im Hl
variable (p171:Sl) (f171:Sk)
abbrev GZ:Ab:=[(false,.int .u64)]
abbrev G9:Ab:=[(false,.int .i64)]
def f9 (a0:Aa (.int .u64)):Option (DenS G9) :=
 let e1_:=(AI .u64 (IntKind.wrap .u64 ((AQ .u64 a0 (IntKind.wrap .u64 ((0:Int)-a0)))*(285870213051353865:Int))) (58:Int))
 bif (a0==(0:Int)) then (some ((64:Int),()))
 else bif (Vx.oL ((decide ((0:Int)<=e1_))&&(decide (e1_<((64:Nat):Int))))) then (some ((IntKind.wrap .i64 (Vx.k_deb.getD (Int.toNat e1_) (0:Int))),()))
 else none
theorem r92 (x:DenS GZ):run (cf [] []) 9 127 Tryz.f127 GZ G9 x=f9 x.1:=by kernel_rfl
def YO (x:DenS GZ):Option (DenS G9):=f9 x.1
def BG:Sum:=Al GZ G9 YO (DenS.dflt G9)
theorem pN:Sound Tryz.prog G1 127 BG:=sd (cf [] []) 127 Tryz.f127 trivial trivial GZ G9 YO _ (fun _=>r92 ..)
abbrev JE:=Ak GZ
abbrev JQ:=Aj GZ G9
variable (p92:JE) (f92:JQ)
abbrev QV:Ab:=[(false,.slice (.int .u64)),(false,.int .i64)]
abbrev OT:Ab:=[(false,.bool)]
abbrev If:Pat:=⟨25,[(9,.one (.v .i64)),(8,.one (.sl (.int .u64))),(1,.one (.v .i64)),(10,.one (.v .i64))],[]⟩
abbrev jR:List (Nat×Shape):=[]
abbrev J2:List (Nat×Pat):=[(0,⟨25,[],[]⟩)]
abbrev Lx:Option Pat:=(some ⟨25,[(4,.one (.bool))],[]⟩)
variable (w184_2:Pat.D If->Option (Ah J2 Lx))
def Ut (p173:A7) (f173:A8) (p92:JE) (f92:JQ) {R:Type} (L:Pat.D If->Option R) (e:Ah J2 Lx->Option R) (x:Pat.D If):Option R :=
 let e2_:=(x.1.2.1.getD (Int.toNat x.1.2.2.2.1) (0:Int))
 let e1_:=(e2_,())
 bif (decide (x.1.2.2.2.1<x.1.1)) then (bif ((decide ((0:Int)<=x.1.2.2.2.1))&&(decide (x.1.2.2.2.1<(x.1.2.1.length:Int)))) then (bif (e2_ != (0:Int)) then (bif (p92 e1_) then (((e (.inr (((decide ((IntKind.wrap .i64 ((IntKind.wrap .i64 ((64:Int)*x.1.2.2.2.1))+(f92 e1_).1))>=x.1.2.2.1)),()),())))))
 else none)
 else (L ((x.1.1,x.1.2.1,x.1.2.2.1,(IntKind.wrap .i64 (x.1.2.2.2.1+(1:Int))),()),())))
 else none)
 else (e (.inl ((),())))
theorem aIR (d:Nat) (R:Type) (L:Pat.D If->Option R) (e:Ah J2 Lx->Option R) (x:Pat.D If) :
  BB (cf [(169,⟨Bt,Bu,p173,f173⟩),(127,⟨GZ,G9,p92,f92⟩)] [(302,2,LoopSpec.of If jR J2 Lx w184_2)]) (d+2) 302 (By Tryz.f302 2) If jR J2 Lx (R:=R) L e x=Ut p173 f173 p92 f92 L e x:=by kernel_rfl
theorem aCh (p173:A7) (f173:A8) (p92:JE) (f92:JQ):Bs fun L e x=>Ut p173 f173 p92 f92 L e x:=by intro _ _ _ _ _ _ _ h0 hL he _; unfold Ut; repeat' (first | exact h0 | exact hL _ | exact he _ | apply BU | (apply BX h0; intro _) | (apply B5 <;> intro _))
def eH (p173:A7) (f173:A8) (p92:JE) (f92:JQ) (w184_2:Pat.D If->Option (Ah J2 Lx)) (a0:Aa (.slice (.int .u64))) (a1:Aa (.int .i64)):Option (DenS OT) :=
 bif (p173 (a0,())) then (Vx.A1 (w184_2 ((((f173 (a0,())).1.length:Int),(f173 (a0,())).1,a1,(0:Int),()),())) fun y1 =>
 Vx.A6 y1 (fun y2 =>
 some (true,())) (fun z2 =>
 some z2.1))
 else none
theorem aKa (x:DenS QV):run (cf [(169,⟨Bt,Bu,p173,f173⟩),(127,⟨GZ,G9,p92,f92⟩)] [(302,2,LoopSpec.of If jR J2 Lx w184_2)]) 9 302 Tryz.f302 QV OT x=eH p173 f173 p92 f92 w184_2 x.1 x.2.1:=by kernel_rfl
def eB:If.D->Option (Ah J2 Lx):=Bf fun L=>Ut Ag.pre Ag.F BG.pre BG.F L some
def Ww (x:DenS QV):Option (DenS OT):=eH Ag.pre Ag.F BG.pre BG.F eB x.1 x.2.1
def OQ:Sum:=Al QV OT Ww (DenS.dflt OT)
theorem aK2:Sound Tryz.prog G1 302 OQ:=sd (cf [(169,Ag),(127,BG)] [(302,2,LoopSpec.of If jR J2 Lx eB)]) 302 Tryz.f302 ⟨Ea,pN,trivial⟩ ⟨rfl,fun d=>Ca (fun L e x=>Ut Ag.pre Ag.F BG.pre BG.F L e x) (aCh Ag.pre Ag.F BG.pre BG.F) (fun _ _ _ _=>aIR ..),trivial⟩ QV OT Ww _ (fun _=>aKa ..)
abbrev zK:=Ak QV
abbrev aCK:=Aj QV OT
variable (p184:zK) (f184:aCK)
abbrev P6:Ab:=[(false,.slice (.int .u64)),(false,.int .i64)]
abbrev Ps:Ab:=[(false,.slice (.int .u64)),(false,.int .i64)]
def fQ (p1171:xX) (f1171:aHd) (p171:Sl) (f171:Sk) (p184:zK) (f184:aCK) (a0:Aa (.slice (.int .u64))) (a1:Aa (.int .i64)):Option (DenS Ps) :=
 let e1_:=(decide ((0:Int)<((f1171 (a0,a1,())).1.length:Int)))
 bif (decide (a1<(0:Int))) then (some ([],(7:Int),()))
 else bif (p1171 (a0,a1,())) then (bif (p184 (a0,a1,())) then (bif (!(f184 (a0,a1,())).1) then (bif (((f1171 (a0,a1,())).1.length:Int)==(0:Int)) then (some (((1:Int)::[]),(0:Int),()))
 else bif e1_ then (bif e1_ then (some (((f1171 (a0,a1,())).1.set (Int.toNat (0:Int)) (AW .u64 ((f1171 (a0,a1,())).1.getD (Int.toNat (0:Int)) (0:Int)) (1:Int))),(0:Int),()))
 else none)
 else none)
 else some ((f1171 (a0,a1,())).1,(0:Int),()))
 else none)
 else none
theorem aOD (x:DenS P6):run (cf [(301,⟨Ro,M2,p1171,f1171⟩),(301,⟨Im,Hl,p171,f171⟩),(302,⟨QV,OT,p184,f184⟩)] []) 9 246 Tryz.f246 P6 Ps x=fQ p1171 f1171 p171 f171 p184 f184 x.1 x.2.1:=by kernel_rfl
def TJ (x:DenS P6):Option (DenS Ps):=fQ MX.pre MX.F CT.pre CT.F OQ.pre OQ.F x.1 x.2.1
def Vy:Sum:=Al P6 Ps TJ (DenS.dflt Ps)
theorem aOl:Sound Tryz.prog G1 246 Vy:=sd (cf [(301,MX),(301,CT),(302,OQ)] []) 246 Tryz.f246 ⟨aQB,tS,aK2,trivial⟩ trivial P6 Ps TJ _ (fun _=>aOD ..)
abbrev aGh:=Ak P6
abbrev aCQ:=Aj P6 Ps
variable (p175:aGh) (f175:aCQ)
abbrev Jh:Ab:=[(false,.slice (.int .u64)),(false,.int .i64)]
abbrev Jg:Ab:=[(false,.slice (.int .u64))]
abbrev Ih:Pat:=⟨56,[(26,.one (.v .i64)),(25,.one (.sl (.int .u64))),(5,.one (.v .i64)),(6,.one (.v .i64)),(27,.one (.v .i64)),(7,.one (.own 0))],[.arr (.int .u64)]⟩
abbrev gB:List (Nat×Shape):=[]
abbrev Mm:List (Nat×Pat):=[(0,⟨56,[(7,.one (.own 0))],[.arr (.int .u64)]⟩)]
abbrev J9:Option Pat:=none
variable (w186_7:Pat.D Ih->Option (Ah Mm J9))
def U0 (p173:A7) (f173:A8) {R:Type} (L:Pat.D Ih->Option R) (e:Ah Mm J9->Option R) (x:Pat.D Ih):Option R :=
 let e6_:=(IntKind.wrap .i64 (x.1.2.2.1+x.1.2.2.2.2.1))
 let e5_:=(Int.toNat e6_)
 let e7_:=(x.1.2.1.getD (Int.toNat x.1.2.2.2.2.1) (0:Int))
 let e1_:=(x.2.1.set e5_ (AW .u64 (x.2.1.getD e5_ (0:Int)) (AT .u64 e7_ x.1.2.2.2.1)))
 let e2_:=((decide ((0:Int)<=e6_))&&(decide (e6_<(x.2.1.length:Int))))
 let e3_:=(IntKind.wrap .i64 (e6_+(1:Int)))
 let e4_:=(IntKind.wrap .i64 ((64:Int)-x.1.2.2.2.1))
 bif (decide (x.1.2.2.2.2.1<x.1.1)) then (bif ((decide ((0:Int)<=x.1.2.2.2.2.1))&&(decide (x.1.2.2.2.2.1<(x.1.2.1.length:Int)))) then (bif e2_ then (bif (decide ((0:Int)<=x.1.2.2.2.1)) then (bif e2_ then (bif (decide ((0:Int)<=e4_)) then (bif ((decide ((0:Int)<=e3_))&&(decide (e3_<(e1_.length:Int)))) then (((L ((x.1.1,x.1.2.1,x.1.2.2.1,x.1.2.2.2.1,(IntKind.wrap .i64 (x.1.2.2.2.2.1+(1:Int))),(),()),(e1_.set (Int.toNat e3_) (AI .u64 e7_ e4_)),()))))
 else none)
 else none)
 else none)
 else none)
 else none)
 else none)
 else (e (.inl (((),()),x.2)))
theorem aUl (d:Nat) (R:Type) (L:Pat.D Ih->Option R) (e:Ah Mm J9->Option R) (x:Pat.D Ih) :
  BB (cf [(169,⟨Bt,Bu,p173,f173⟩)] [(250,7,LoopSpec.of Ih gB Mm J9 w186_7)]) (d+2) 250 (By Tryz.f250 7) Ih gB Mm J9 (R:=R) L e x=U0 p173 f173 L e x:=by kernel_rfl
theorem aCp (p173:A7) (f173:A8):Bs fun L e x=>U0 p173 f173 L e x:=by intro _ _ _ _ _ _ _ h0 hL he _; unfold U0; repeat' (first | exact h0 | exact hL _ | exact he _ | apply BU | (apply BX h0; intro _) | (apply B5 <;> intro _))
def lX (p173:A7) (f173:A8) (w186_7:Pat.D Ih->Option (Ah Mm J9)) (a0:Aa (.slice (.int .u64))) (a1:Aa (.int .i64)):Option (DenS Jg) :=
 let e1_:=(IntKind.wrap .i64 ((IntKind.wrap .i64 ((Bz .i64 a1 (64:Int))+((f173 (a0,())).1.length:Int)))+(1:Int)))
 bif (p173 (a0,())) then (bif (((f173 (a0,())).1.length:Int)==(0:Int)) then (some ([],()))
 else bif ((decide ((0:Int)<=e1_))&&(decide ((e1_*(8:Int))<=(140737488355328:Int)))) then (Vx.A1 (w186_7 ((((f173 (a0,())).1.length:Int),(f173 (a0,())).1,(Bz .i64 a1 (64:Int)),(Int.tmod a1 (64:Int)),(0:Int),(),()),(List.replicate (Int.toNat e1_) (0:Int)),())) fun y3 =>
 Vx.A6 y3 (fun y4 =>
 bif (p173 y4.2) then (some (f173 y4.2))
 else none) (fun z4 =>
 none))
 else none)
 else none
theorem aKu (x:DenS Jh):run (cf [(169,⟨Bt,Bu,p173,f173⟩)] [(250,7,LoopSpec.of Ih gB Mm J9 w186_7)]) 9 250 Tryz.f250 Jh Jg x=lX p173 f173 w186_7 x.1 x.2.1:=by kernel_rfl
def iD:Ih.D->Option (Ah Mm J9):=Bf fun L=>U0 Ag.pre Ag.F L some
def RW (x:DenS Jh):Option (DenS Jg):=lX Ag.pre Ag.F iD x.1 x.2.1
def Dx:Sum:=Al Jh Jg RW (DenS.dflt Jg)
theorem aEu:Sound Tryz.prog G1 250 Dx:=sd (cf [(169,Ag)] [(250,7,LoopSpec.of Ih gB Mm J9 iD)]) 250 Tryz.f250 ⟨Ea,trivial⟩ ⟨rfl,fun d=>Ca (fun L e x=>U0 Ag.pre Ag.F L e x) (aCp Ag.pre Ag.F) (fun _ _ _ _=>aUl ..),trivial⟩ Jh Jg RW _ (fun _=>aKu ..)
abbrev Te:=Ak Jh
abbrev Tu:=Aj Jh Jg
variable (p186:Te) (f186:Tu)
abbrev I1:Ab:=[(false,.slice (.slice (.int .u64)))]
abbrev IR:Ab:=[(false,.bool)]
abbrev Hj:Pat:=⟨16,[(6,.one (.v .i64)),(5,.one (.sl (.slice (.int .u64)))),(7,.one (.v .i64))],[]⟩
abbrev iV:List (Nat×Shape):=[]
abbrev Lk:List (Nat×Pat):=[(0,⟨16,[],[]⟩)]
abbrev Kd:Option Pat:=(some ⟨16,[(2,.one (.bool))],[]⟩)
variable (w185_2:Pat.D Hj->Option (Ah Lk Kd))
def VR (p173:A7) (f173:A8) {R:Type} (L:Pat.D Hj->Option R) (e:Ah Lk Kd->Option R) (x:Pat.D Hj):Option R :=
 bif (decide (x.1.2.2.1<x.1.1)) then (bif ((decide ((0:Int)<=x.1.2.2.1))&&(decide (x.1.2.2.1<(x.1.2.1.length:Int)))) then (bif (p173 ((x.1.2.1.getD (Int.toNat x.1.2.2.1) []),())) then (bif (decide (((f173 ((x.1.2.1.getD (Int.toNat x.1.2.2.1) []),())).1.length:Int)>(1024:Int))) then (((e (.inr ((true,()),())))))
 else (L ((x.1.1,x.1.2.1,(IntKind.wrap .i64 (x.1.2.2.1+(1:Int))),()),())))
 else none)
 else none)
 else (e (.inl ((),())))
theorem aSo (d:Nat) (R:Type) (L:Pat.D Hj->Option R) (e:Ah Lk Kd->Option R) (x:Pat.D Hj) :
  BB (cf [(169,⟨Bt,Bu,p173,f173⟩)] [(249,2,LoopSpec.of Hj iV Lk Kd w185_2)]) (d+2) 249 (By Tryz.f249 2) Hj iV Lk Kd (R:=R) L e x=VR p173 f173 L e x:=by kernel_rfl
theorem aCf (p173:A7) (f173:A8):Bs fun L e x=>VR p173 f173 L e x:=by intro _ _ _ _ _ _ _ h0 hL he _; unfold VR; repeat' (first | exact h0 | exact hL _ | exact he _ | apply BU | (apply BX h0; intro _) | (apply B5 <;> intro _))
def bV (p173:A7) (f173:A8) (w185_2:Pat.D Hj->Option (Ah Lk Kd)) (a0:Aa (.slice (.slice (.int .u64)))):Option (DenS IR) :=
 Vx.A1 (w185_2 (((a0.length:Int),a0,(0:Int),()),())) fun y0 =>
 Vx.A6 y0 (fun y1 =>
 some (false,())) (fun z1 =>
 some z1.1)
theorem aIp (x:DenS I1):run (cf [(169,⟨Bt,Bu,p173,f173⟩)] [(249,2,LoopSpec.of Hj iV Lk Kd w185_2)]) 9 249 Tryz.f249 I1 IR x=bV p173 f173 w185_2 x.1:=by kernel_rfl
def kF:Hj.D->Option (Ah Lk Kd):=Bf fun L=>VR Ag.pre Ag.F L some
def Ix (x:DenS I1):Option (DenS IR):=bV Ag.pre Ag.F kF x.1
def Eb:Sum:=Al I1 IR Ix (DenS.dflt IR)
theorem uJ:Sound Tryz.prog G1 249 Eb:=sd (cf [(169,Ag)] [(249,2,LoopSpec.of Hj iV Lk Kd kF)]) 249 Tryz.f249 ⟨Ea,trivial⟩ ⟨rfl,fun d=>Ca (fun L e x=>VR Ag.pre Ag.F L e x) (aCf Ag.pre Ag.F) (fun _ _ _ _=>aSo ..),trivial⟩ I1 IR Ix _ (fun _=>aIp ..)
abbrev Vu:=Ak I1
abbrev UC:=Aj I1 IR
variable (p185:Vu) (f185:UC)
abbrev IU:Ab:=[(false,.slice (.int .u64)),(false,.int .i64)]
abbrev Ip:Ab:=[(false,.slice (.int .u64)),(false,.int .i64)]
def kD (p186:Te) (f186:Tu) (p185:Vu) (f185:UC) (a0:Aa (.slice (.int .u64))) (a1:Aa (.int .i64)):Option (DenS Ip) :=
 bif ((decide (a1<(0:Int)))||(decide (a1>(65536:Int)))) then (some ([],(7:Int),()))
 else bif (p185 ((a0::[]),())) then (bif (f185 ((a0::[]),())).1 then (some ([],(5:Int),()))
 else bif (p186 (a0,a1,())) then (bif (p185 (((f186 (a0,a1,())).1::[]),())) then (bif (f185 (((f186 (a0,a1,())).1::[]),())).1 then (some ([],(5:Int),()))
 else some ((f186 (a0,a1,())).1,(0:Int),()))
 else none)
 else none)
 else none
theorem aPJ (x:DenS IU):run (cf [(250,⟨Jh,Jg,p186,f186⟩),(249,⟨I1,IR,p185,f185⟩)] []) 9 174 Tryz.f174 IU Ip x=kD p186 f186 p185 f185 x.1 x.2.1:=by kernel_rfl
def SS (x:DenS IU):Option (DenS Ip):=kD Dx.pre Dx.F Eb.pre Eb.F x.1 x.2.1
def DU:Sum:=Al IU Ip SS (DenS.dflt Ip)
theorem aAY:Sound Tryz.prog G1 174 DU:=sd (cf [(250,Dx),(249,Eb)] []) 174 Tryz.f174 ⟨aEu,uJ,trivial⟩ trivial IU Ip SS _ (fun _=>aPJ ..)
abbrev Uq:=Ak IU
abbrev T9:=Aj IU Ip
variable (p176:Uq) (f176:T9)
abbrev JL:Ab:=[(false,.slice (.int .u64)),(false,.int .i64)]
abbrev Jy:Ab:=[(false,.slice (.int .u64)),(false,.int .i64)]
def j5 (p171:Sl) (f171:Sk) (a0:Aa (.slice (.int .u64))) (a1:Aa (.int .i64)):Option (DenS Jy) :=
 bif (decide (a1<(0:Int))) then (some ([],(7:Int),()))
 else bif (p171 (a0,a1,())) then (some ((f171 (a0,a1,())).1,(0:Int),()))
 else none
theorem aMW (x:DenS JL):run (cf [(301,⟨Im,Hl,p171,f171⟩)] []) 9 247 Tryz.f247 JL Jy x=j5 p171 f171 x.1 x.2.1:=by kernel_rfl
def On (x:DenS JL):Option (DenS Jy):=j5 CT.pre CT.F x.1 x.2.1
def DS:Sum:=Al JL Jy On (DenS.dflt Jy)
theorem xZ:Sound Tryz.prog G1 247 DS:=sd (cf [(301,CT)] []) 247 Tryz.f247 ⟨tS,trivial⟩ trivial JL Jy On _ (fun _=>aMW ..)
abbrev Vk:=Ak JL
abbrev Vi:=Aj JL Jy
variable (p141:Vk) (f141:Vi)
abbrev NC:Ab:=[(false,.int .i64),(false,.bool),(false,.bool),(false,.int .u64)]
abbrev P3:Ab:=[(false,.bool)]
def j1 (a0:Aa (.int .i64)) (a1 a2:Aa (.bool)) (a3:Aa (.int .u64)):Option (DenS P3) :=
 bif (a0==(4:Int)) then (some ((!(!a1)),()))
 else bif (a0==(3:Int)) then (some ((!a1),()))
 else bif (a0==(0:Int)) then (bif (a3==(2:Int)) then (some (a2,()))
 else some ((decide (a3>=(2:Int))),()))
 else bif (a0==(1:Int)) then (some ((decide (a3>=(2:Int))),()))
 else bif (a0==(5:Int)) then (some ((!a2),()))
 else some (false,())
theorem aMw (x:DenS NC):run (cf [] []) 9 248 Tryz.f248 NC P3 x=j1 x.1 x.2.1 x.2.2.1 x.2.2.2.1:=by kernel_rfl
def R2 (x:DenS NC):Option (DenS P3):=j1 x.1 x.2.1 x.2.2.1 x.2.2.2.1
def TA:Sum:=Al NC P3 R2 (DenS.dflt P3)
theorem aJi:Sound Tryz.prog G1 248 TA:=sd (cf [] []) 248 Tryz.f248 trivial trivial NC P3 R2 _ (fun _=>aMw ..)
abbrev aAM:=Ak NC
abbrev zH:=Aj NC P3
variable (p177:aAM) (f177:zH)
abbrev Ij:Ab:=[(false,.slice (.int .u64)),(false,.slice (.int .u64))]
abbrev GU:Ab:=[(false,.slice (.int .u64))]
abbrev HF:Pat:=⟨61,[(28,.one (.v .i64)),(1,.one (.sl (.int .u64))),(29,.one (.v .i64)),(0,.one (.sl (.int .u64))),(6,.one (.v .u64)),(5,.one (.own 0))],[.arr (.int .u64)]⟩
abbrev lP:List (Nat×Shape):=[]
abbrev Lq:List (Nat×Pat):=[(0,⟨61,[(0,.one (.sl (.int .u64))),(6,.one (.v .u64)),(5,.one (.own 0))],[.arr (.int .u64)]⟩)]
abbrev Mh:Option Pat:=none
variable (w143_8:Pat.D HF->Option (Ah Lq Mh))
def Tj (p155:Df) (f155:Dd) (p173:A7) (f173:A8) {R:Type} (L:Pat.D HF->Option R) (e:Ah Lq Mh->Option R) (x:Pat.D HF):Option R :=
 let e8_:=(x.1.2.2.2.1.getD (Int.toNat x.1.2.2.1) (0:Int))
 let e7_:=((x.1.2.1.getD (Int.toNat x.1.2.2.1) (0:Int)),x.1.2.2.2.2.1,())
 let e1_:=(f155 (e8_,e7_))
 let e2_:=(f155 (e8_,(0:Int),x.1.2.2.2.2.1,()))
 let e3_:=((decide ((0:Int)<=x.1.2.2.1))&&(decide (x.1.2.2.1<(x.1.2.2.2.1.length:Int))))
 let e4_:=((decide ((0:Int)<=x.1.2.2.1))&&(decide (x.1.2.2.1<(x.2.1.length:Int))))
 let e5_:=(IntKind.wrap .i64 (x.1.2.2.1+(1:Int)))
 let e6_:=e8_
 bif (decide (x.1.2.2.1<x.1.1)) then (bif (decide (x.1.2.2.1<(x.1.2.1.length:Int))) then (bif ((decide ((0:Int)<=x.1.2.2.1))&&(decide (x.1.2.2.1<(x.1.2.1.length:Int)))) then (bif e3_ then (bif (p155 (e6_,e7_)) then (bif e4_ then (((L ((x.1.1,x.1.2.1,e5_,x.1.2.2.2.1,e1_.2.1,(),()),(x.2.1.set (Int.toNat x.1.2.2.1) e1_.1),()))))
 else none)
 else none)
 else none)
 else none)
 else bif e3_ then (bif (p155 (e6_,(0:Int),x.1.2.2.2.2.1,())) then (bif e4_ then (((L ((x.1.1,x.1.2.1,e5_,x.1.2.2.2.1,e2_.2.1,(),()),(x.2.1.set (Int.toNat x.1.2.2.1) e2_.1),()))))
 else none)
 else none)
 else none)
 else (e (.inl ((x.1.2.2.2.1,x.1.2.2.2.2.1,(),()),x.2)))
theorem aUV (d:Nat) (R:Type) (L:Pat.D HF->Option R) (e:Ah Lq Mh->Option R) (x:Pat.D HF) :
  BB (cf [(165,⟨E3,Fr,p155,f155⟩),(169,⟨Bt,Bu,p173,f173⟩)] [(176,8,LoopSpec.of HF lP Lq Mh w143_8)]) (d+2) 176 (By Tryz.f176 8) HF lP Lq Mh (R:=R) L e x=Tj p155 f155 p173 f173 L e x:=by kernel_rfl
theorem xO (p155:Df) (f155:Dd) (p173:A7) (f173:A8):Bs fun L e x=>Tj p155 f155 p173 f173 L e x:=by intro _ _ _ _ _ _ _ h0 hL he _; unfold Tj; repeat' (first | exact h0 | exact hL _ | exact he _ | apply BU | (apply BX h0; intro _) | (apply B5 <;> intro _))
def iN (p155:Df) (f155:Dd) (p173:A7) (f173:A8) (w143_8:Pat.D HF->Option (Ah Lq Mh)) (a0 a1:Aa (.slice (.int .u64))):Option (DenS GU) :=
 let e5_:=(IntKind.wrap .i64 (((f173 (a1,())).1.length:Int)+(1:Int)))
 let e1_:=(List.replicate (Int.toNat e5_) (0:Int))
 let e6_:=(IntKind.wrap .i64 (((f173 (a0,())).1.length:Int)+(1:Int)))
 let e2_:=(List.replicate (Int.toNat e6_) (0:Int))
 let e3_:=e5_
 let e4_:=e6_
 bif (p173 (a0,())) then (bif (p173 (a1,())) then (bif (decide (((f173 (a0,())).1.length:Int)<((f173 (a1,())).1.length:Int))) then (bif ((decide ((0:Int)<=e3_))&&(decide ((e3_*(8:Int))<=(140737488355328:Int)))) then (Vx.A1 (w143_8 ((((f173 (a1,())).1.length:Int),(f173 (a0,())).1,(0:Int),(f173 (a1,())).1,(0:Int),(),()),(((f173 (a1,())).1.take e1_.length)++(e1_.drop (f173 (a1,())).1.length)),())) fun y4 =>
 Vx.A6 y4 (fun y5 =>
 bif ((decide ((0:Int)<=(y5.1.1.length:Int)))&&(decide ((y5.1.1.length:Int)<(y5.2.1.length:Int)))) then (bif (p173 ((y5.2.1.set (Int.toNat (y5.1.1.length:Int)) y5.1.2.1),())) then (some (f173 ((y5.2.1.set (Int.toNat (y5.1.1.length:Int)) y5.1.2.1),())))
 else none)
 else none) (fun z5 =>
 none))
 else none)
 else bif ((decide ((0:Int)<=e4_))&&(decide ((e4_*(8:Int))<=(140737488355328:Int)))) then (Vx.A1 (w143_8 ((((f173 (a0,())).1.length:Int),(f173 (a1,())).1,(0:Int),(f173 (a0,())).1,(0:Int),(),()),(((f173 (a0,())).1.take e2_.length)++(e2_.drop (f173 (a0,())).1.length)),())) fun y4 =>
 Vx.A6 y4 (fun y5 =>
 bif ((decide ((0:Int)<=(y5.1.1.length:Int)))&&(decide ((y5.1.1.length:Int)<(y5.2.1.length:Int)))) then (bif (p173 ((y5.2.1.set (Int.toNat (y5.1.1.length:Int)) y5.1.2.1),())) then (some (f173 ((y5.2.1.set (Int.toNat (y5.1.1.length:Int)) y5.1.2.1),())))
 else none)
 else none) (fun z5 =>
 none))
 else none)
 else none)
 else none
theorem aOs (x:DenS Ij):run (cf [(165,⟨E3,Fr,p155,f155⟩),(169,⟨Bt,Bu,p173,f173⟩)] [(176,8,LoopSpec.of HF lP Lq Mh w143_8)]) 9 176 Tryz.f176 Ij GU x=iN p155 f155 p173 f173 w143_8 x.1 x.2.1:=by kernel_rfl
def Yn:HF.D->Option (Ah Lq Mh):=Bf fun L=>Tj Ay.pre Ay.F Ag.pre Ag.F L some
def RP (x:DenS Ij):Option (DenS GU):=iN Ay.pre Ay.F Ag.pre Ag.F Yn x.1 x.2.1
def CG:Sum:=Al Ij GU RP (DenS.dflt GU)
theorem n7:Sound Tryz.prog G1 176 CG:=sd (cf [(165,Ay),(169,Ag)] [(176,8,LoopSpec.of HF lP Lq Mh Yn)]) 176 Tryz.f176 ⟨UF,Ea,trivial⟩ ⟨rfl,fun d=>Ca (fun L e x=>Tj Ay.pre Ay.F Ag.pre Ag.F L e x) (xO Ay.pre Ay.F Ag.pre Ag.F) (fun _ _ _ _=>aUV ..),trivial⟩ Ij GU RP _ (fun _=>aOs ..)
abbrev Nj:=Ak Ij
abbrev PH:=Aj Ij GU
variable (p143:Nj) (f143:PH)
abbrev LM:Ab:=[(true,.pair (.bool) (.pair (.slice (.int .u64)) (.pair (.int .i64) (.pair (.bool) (.unit))))),(false,.int .i64),(false,.int .i64)]
abbrev Mu:Ab:=[(false,.slice (.int .u64)),(false,.bool)]
def bE (p175:aGh) (f175:aCQ) (p176:Uq) (f176:T9) (p141:Vk) (f141:Vi) (p177:aAM) (f177:zH) (p143:Nj) (f143:PH) (a0:Aa (.pair (.bool) (.pair (.slice (.int .u64)) (.pair (.int .i64) (.pair (.bool) (.unit)))))) (a1 a2:Aa (.int .i64)):Option (DenS Mu) :=
 let e47_:=(IntKind.wrap .i64 (a2-a0.2.2.1))
 let e44_:=(f175 (a0.2.1,(IntKind.wrap .i64 (e47_-(2:Int))),()))
 let e42_:=(e44_.1,(2:Int),())
 let e40_:=(f141 e42_)
 let e38_:=(e40_.1.length:Int)
 let e34_:=(decide (e38_>(0:Int)))
 let e28_:=(e34_&&((AQ .u64 (e40_.1.getD (Int.toNat (0:Int)) (0:Int)) (1:Int))==(1:Int)))
 let e32_:=(AQ .u64 (e44_.1.getD (Int.toNat (0:Int)) (0:Int)) (3:Int))
 let e30_:=(AW .u64 e32_ (1:Int))
 let e1_:=(a1,a0.1,e28_,e30_,())
 let e45_:=(f176 (a0.2.1,(IntKind.wrap .i64 ((2:Int)-e47_)),()))
 let e43_:=(e45_.1,(2:Int),())
 let e41_:=(f141 e43_)
 let e39_:=(e41_.1.length:Int)
 let e35_:=(decide (e39_>(0:Int)))
 let e29_:=(e35_&&((AQ .u64 (e41_.1.getD (Int.toNat (0:Int)) (0:Int)) (1:Int))==(1:Int)))
 let e33_:=(AQ .u64 (e45_.1.getD (Int.toNat (0:Int)) (0:Int)) (3:Int))
 let e31_:=(AW .u64 e33_ (1:Int))
 let e2_:=(a1,a0.1,e29_,e31_,())
 let e3_:=(a1,a0.1,e28_,e32_,())
 let e4_:=(a1,a0.1,e29_,e33_,())
 let e46_:=((AW .u64 (0:Int) (1:Int)),())
 let e5_:=(a1,a0.1,e28_,e46_)
 let e6_:=(a1,a0.1,e29_,e46_)
 let e7_:=((decide ((0:Int)<e38_))||(!e34_))
 let e8_:=((decide ((0:Int)<e39_))||(!e35_))
 let e9_:=((e30_ != (0:Int)),())
 let e10_:=((e31_ != (0:Int)),())
 let e11_:=e30_
 let e12_:=e31_
 let e13_:=((e32_ != (0:Int)),())
 let e14_:=((e33_ != (0:Int)),())
 let e15_:=e32_
 let e16_:=e33_
 let e36_:=(e40_.1,((1:Int)::[]),())
 let e17_:=(p143 e36_)
 let e18_:=(f143 e36_)
 let e37_:=(e41_.1,((1:Int)::[]),())
 let e19_:=(p143 e37_)
 let e20_:=(f143 e37_)
 let e21_:=e40_
 let e22_:=e41_
 let e23_:=(p141 e42_)
 let e24_:=(p141 e43_)
 let e25_:=(e44_.1.length:Int)
 let e26_:=(e45_.1.length:Int)
 let e27_:=e47_
 bif (decide (e27_>=(2:Int))) then (bif (p175 (a0.2.1,(IntKind.wrap .i64 (e27_-(2:Int))),())) then (bif (decide (e25_>(0:Int))) then (bif (decide ((0:Int)<e25_)) then (bif a0.2.2.2.1 then (bif e23_ then (bif e7_ then (bif ((p177 e1_)||(!(bif (e11_==(0:Int)) then false else true))) then (bif ((e11_ != (0:Int))&&(f177 e1_).1) then (bif e17_ then (some (e18_.1,e9_))
 else none)
 else some (e21_.1,e9_))
 else none)
 else none)
 else none)
 else bif e23_ then (bif e7_ then (bif ((p177 e3_)||(!(bif (e15_==(0:Int)) then false else true))) then (bif ((e15_ != (0:Int))&&(f177 e3_).1) then (bif e17_ then (some (e18_.1,e13_))
 else none)
 else some (e21_.1,e13_))
 else none)
 else none)
 else none)
 else none)
 else bif a0.2.2.2.1 then (bif e23_ then (bif e7_ then (bif ((p177 e5_)||false) then (bif (f177 e5_).1 then (bif e17_ then (some (e18_.1,true,()))
 else none)
 else some (e21_.1,true,()))
 else none)
 else none)
 else none)
 else bif e23_ then (bif e7_ then (bif ((p177 (a1,a0.1,((decide ((e21_.1.length:Int)>(0:Int)))&&((AQ .u64 (e21_.1.getD (Int.toNat (0:Int)) (0:Int)) (1:Int))==(1:Int))),(0:Int),()))||true) then (some (e21_.1,false,()))
 else none)
 else none)
 else none)
 else none)
 else bif (p176 (a0.2.1,(IntKind.wrap .i64 ((2:Int)-e27_)),())) then (bif (decide (e26_>(0:Int))) then (bif (decide ((0:Int)<e26_)) then (bif a0.2.2.2.1 then (bif e24_ then (bif e8_ then (bif ((p177 e2_)||(!(bif (e12_==(0:Int)) then false else true))) then (bif ((e12_ != (0:Int))&&(f177 e2_).1) then (bif e19_ then (some (e20_.1,e10_))
 else none)
 else some (e22_.1,e10_))
 else none)
 else none)
 else none)
 else bif e24_ then (bif e8_ then (bif ((p177 e4_)||(!(bif (e16_==(0:Int)) then false else true))) then (bif ((e16_ != (0:Int))&&(f177 e4_).1) then (bif e19_ then (some (e20_.1,e14_))
 else none)
 else some (e22_.1,e14_))
 else none)
 else none)
 else none)
 else none)
 else bif a0.2.2.2.1 then (bif e24_ then (bif e8_ then (bif ((p177 e6_)||false) then (bif (f177 e6_).1 then (bif e19_ then (some (e20_.1,true,()))
 else none)
 else some (e22_.1,true,()))
 else none)
 else none)
 else none)
 else bif e24_ then (bif e8_ then (bif ((p177 (a1,a0.1,((decide ((e22_.1.length:Int)>(0:Int)))&&((AQ .u64 (e22_.1.getD (Int.toNat (0:Int)) (0:Int)) (1:Int))==(1:Int))),(0:Int),()))||true) then (some (e22_.1,false,()))
 else none)
 else none)
 else none)
 else none
theorem aLk (x:DenS LM):run (cf [(246,⟨P6,Ps,p175,f175⟩),(174,⟨IU,Ip,p176,f176⟩),(247,⟨JL,Jy,p141,f141⟩),(248,⟨NC,P3,p177,f177⟩),(176,⟨Ij,GU,p143,f143⟩)] []) 9 172 Tryz.f172 LM Mu x=bE p175 f175 p176 f176 p141 f141 p177 f177 p143 f143 x.1 x.2.1 x.2.2.1:=by kernel_rfl
def Tv (x:DenS LM):Option (DenS Mu):=bE Vy.pre Vy.F DU.pre DU.F DS.pre DS.F TA.pre TA.F CG.pre CG.F x.1 x.2.1 x.2.2.1
def HQ:Sum:=Al LM Mu Tv (DenS.dflt Mu)
theorem aFf:Sound Tryz.prog G1 172 HQ:=sd (cf [(246,Vy),(174,DU),(247,DS),(248,TA),(176,CG)] []) 172 Tryz.f172 ⟨aOl,aAY,xZ,aJi,n7,trivial⟩ trivial LM Mu Tv _ (fun _=>aLk ..)
abbrev tY:=Ak LM
abbrev nW:=Aj LM Mu
variable (p150:tY) (f150:nW)
abbrev GJ:Ab:=[(false,.int .i64),(false,.bool)]
abbrev GP:Ab:=[(false,.int .u64),(false,.int .i64)]
def t97 (p116:mA) (f116:dV) (p69:BM) (f69:BQ) (p91:HO) (f91:Ie) (p140:YB) (f140:Wy) (a0:Aa (.int .i64)) (a1:Aa (.bool)):Option (DenS GP) :=
 let e2_:=((IntKind.wrap .i64 ((f69 (a0,())).1.1-(f69 (a0,())).1.2.1)),())
 let e1_:=((f69 (a0,())).1,a1,(IntKind.wrap .u64 ((f91 e2_).1-(f116 ((f69 (a0,())).1,())).1)),(f116 ((f69 (a0,())).1,())))
 bif (p69 (a0,())) then (bif ((f69 (a0,())).2.1 != (0:Int)) then (some ((0:Int),(f69 (a0,())).2))
 else bif (p91 e2_) then (bif (p116 ((f69 (a0,())).1,())) then (bif (p116 ((f69 (a0,())).1,())) then (bif (p140 e1_) then (some ((f140 e1_).1,(0:Int),()))
 else none)
 else none)
 else none)
 else none)
 else none
theorem r97 (x:DenS GJ):run (cf [(104,⟨Iv,JM,p116,f116⟩),(54,⟨Ck,Cn,p69,f69⟩),(112,⟨EW,EC,p91,f91⟩),(149,⟨HZ,HP,p140,f140⟩)] []) 9 65 Tryz.f65 GJ GP x=t97 p116 f116 p69 f69 p91 f91 p140 f140 x.1 x.2.1:=by kernel_rfl
def Xx (x:DenS GJ):Option (DenS GP):=t97 I2.pre I2.F Aq.pre Aq.F Br.pre Br.F F9.pre F9.F x.1 x.2.1
def B4:Sum:=Al GJ GP Xx (DenS.dflt GP)
theorem Y5:Sound Tryz.prog G1 65 B4:=sd (cf [(104,I2),(54,Aq),(112,Br),(149,F9)] []) 65 Tryz.f65 ⟨tZ,Er,Mq,fJ,trivial⟩ trivial GJ GP Xx _ (fun _=>r97 ..)
abbrev NO:=Ak GJ
abbrev MQ:=Aj GJ GP
variable (p97:NO) (f97:MQ)
abbrev OY:Ab:=[(true,.pair (.int .i64) (.pair (.int .i64) (.pair (.int .i64) (.pair (.int .i64) (.unit)))))]
abbrev NB:Ab:=[(false,.int .u64)]
def t95 (a0:Aa (.pair (.int .i64) (.pair (.int .i64) (.pair (.int .i64) (.pair (.int .i64) (.unit)))))):Option (DenS NB) :=
 some ((1:Int),())
theorem r95 (x:DenS OY):run (cf [] []) 9 299 Tryz.f299 OY NB x=t95 x.1:=by kernel_rfl
def T95 (x:DenS OY):Option (DenS NB):=t95 x.1
def cJ:Sum:=Al OY NB T95 (DenS.dflt NB)
theorem aJ3:Sound Tryz.prog G1 299 cJ:=sd (cf [] []) 299 Tryz.f299 trivial trivial OY NB T95 _ (fun _=>r95 ..)
abbrev Y95:=Ak OY
abbrev Z95:=Aj OY NB
variable (p95:Y95) (f95:Z95)
abbrev ND:Ab:=[(true,.pair (.int .i64) (.pair (.int .i64) (.pair (.int .i64) (.pair (.int .i64) (.unit)))))]
abbrev Pj:Ab:=[(false,.int .u64)]
def t96 (p91:HO) (f91:Ie) (a0:Aa (.pair (.int .i64) (.pair (.int .i64) (.pair (.int .i64) (.pair (.int .i64) (.unit)))))):Option (DenS Pj) :=
 let e1_:=((IntKind.wrap .i64 (a0.2.1-(1:Int))),())
 bif (p91 e1_) then (some (f91 e1_))
 else none
theorem r96 (x:DenS ND):run (cf [(112,⟨EW,EC,p91,f91⟩)] []) 9 300 Tryz.f300 ND Pj x=t96 p91 f91 x.1:=by kernel_rfl
def T96 (x:DenS ND):Option (DenS Pj):=t96 Br.pre Br.F x.1
def bP:Sum:=Al ND Pj T96 (DenS.dflt Pj)
theorem aSx:Sound Tryz.prog G1 300 bP:=sd (cf [(112,Br)] []) 300 Tryz.f300 ⟨Mq,trivial⟩ trivial ND Pj T96 _ (fun _=>r96 ..)
abbrev Y96:=Ak ND
abbrev Z96:=Aj ND Pj
variable (p96:Y96) (f96:Z96)
abbrev PW:Ab:=[(false,.int .i64),(false,.bool)]
abbrev Og:Ab:=[(false,.int .u64),(false,.int .i64)]
def t43 (p95:Y95) (f95:Z95) (p96:Y96) (f96:Z96) (p69:BM) (f69:BQ) (p91:HO) (f91:Ie) (p140:YB) (f140:Wy) (a0:Aa (.int .i64)) (a1:Aa (.bool)):Option (DenS Og) :=
 let e2_:=((IntKind.wrap .i64 ((f69 (a0,())).1.1-(f69 (a0,())).1.2.1)),())
 let e1_:=((f69 (a0,())).1,a1,(IntKind.wrap .u64 ((f91 e2_).1-(f95 ((f69 (a0,())).1,())).1)),(f96 ((f69 (a0,())).1,())))
 bif (p69 (a0,())) then (bif ((f69 (a0,())).2.1 != (0:Int)) then (some ((0:Int),(f69 (a0,())).2))
 else bif (p91 e2_) then (bif (p95 ((f69 (a0,())).1,())) then (bif (p96 ((f69 (a0,())).1,())) then (bif (p140 e1_) then (some ((f140 e1_).1,(0:Int),()))
 else none)
 else none)
 else none)
 else none)
 else none
theorem r43 (x:DenS PW):run (cf [(299,⟨OY,NB,p95,f95⟩),(300,⟨ND,Pj,p96,f96⟩),(54,⟨Ck,Cn,p69,f69⟩),(112,⟨EW,EC,p91,f91⟩),(149,⟨HZ,HP,p140,f140⟩)] []) 9 245 Tryz.f245 PW Og x=t43 p95 f95 p96 f96 p69 f69 p91 f91 p140 f140 x.1 x.2.1:=by kernel_rfl
def YY (x:DenS PW):Option (DenS Og):=t43 cJ.pre cJ.F bP.pre bP.F Aq.pre Aq.F Br.pre Br.F F9.pre F9.F x.1 x.2.1
def Ja:Sum:=Al PW Og YY (DenS.dflt Og)
theorem aQU:Sound Tryz.prog G1 245 Ja:=sd (cf [(299,cJ),(300,bP),(54,Aq),(112,Br),(149,F9)] []) 245 Tryz.f245 ⟨aJ3,aSx,Er,Mq,fJ,trivial⟩ trivial PW Og YY _ (fun _=>r43 ..)
abbrev Y43:=Ak PW
abbrev Z43:=Aj PW Og
variable (p43:Y43) (f43:Z43)
abbrev MY:Ab:=[(false,.int .i64),(false,.int .i64),(false,.bool)]
abbrev Na:Ab:=[(false,.int .u64)]
def iY (p97:NO) (f97:MQ) (p43:Y43) (f43:Z43) (a0 a1:Aa (.int .i64)) (a2:Aa (.bool)):Option (DenS Na) :=
 bif ((((a1==(0:Int))||(a1==(1:Int)))||((a1==(3:Int))&&(!a2)))||((a1==(4:Int))&&a2)) then (bif (p97 (a0,a2,())) then (some ((f97 (a0,a2,())).1,()))
 else none)
 else bif (p43 (a0,a2,())) then (some ((f43 (a0,a2,())).1,()))
 else none
theorem aKZ (x:DenS MY):run (cf [(65,⟨GJ,GP,p97,f97⟩),(245,⟨PW,Og,p43,f43⟩)] []) 9 171 Tryz.f171 MY Na x=iY p97 f97 p43 f43 x.1 x.2.1 x.2.2.1:=by kernel_rfl
def ZO (x:DenS MY):Option (DenS Na):=iY B4.pre B4.F Ja.pre Ja.F x.1 x.2.1 x.2.2.1
def Uj:Sum:=Al MY Na ZO (DenS.dflt Na)
theorem aNZ:Sound Tryz.prog G1 171 Uj:=sd (cf [(65,B4),(245,Ja)] []) 171 Tryz.f171 ⟨Y5,aQU,trivial⟩ trivial MY Na ZO _ (fun _=>aKZ ..)
abbrev aHq:=Ak MY
abbrev aGQ:=Aj MY Na
variable (p149:aHq) (f149:aGQ)
abbrev MM:Ab:=[(true,.pair (.bool) (.pair (.slice (.int .u64)) (.pair (.int .i64) (.pair (.bool) (.unit))))),(true,.pair (.int .i64) (.pair (.int .i64) (.pair (.int .i64) (.pair (.int .i64) (.unit))))),(false,.int .i64),(false,.int .i64)]
abbrev Rz:Ab:=[(false,.bool)]
def jG (p150:tY) (f150:nW) (p151:KT) (f151:L5) (a0:Aa (.pair (.bool) (.pair (.slice (.int .u64)) (.pair (.int .i64) (.pair (.bool) (.unit)))))) (a1:Aa (.pair (.int .i64) (.pair (.int .i64) (.pair (.int .i64) (.pair (.int .i64) (.unit)))))) (a2 a3:Aa (.int .i64)):Option (DenS Rz) :=
 let e3_:=(IntKind.wrap .i64 (a3-a1.2.1))
 let e1_:=((f150 ((a0.1,a0.2),a2,(IntKind.wrap .i64 (e3_+(1:Int))),())).1,())
 let e2_:=e3_
 bif (decide (a3>=a1.2.2.1)) then (some (false,()))
 else bif (p150 ((a0.1,a0.2),a2,(IntKind.wrap .i64 (e2_+(1:Int))),())) then (bif (p151 e1_) then (some ((decide ((IntKind.wrap .i64 (e2_+(f151 e1_).1))<a1.2.2.1)),()))
 else none)
 else none
theorem aH3 (x:DenS MM):run (cf [(172,⟨LM,Mu,p150,f150⟩),(123,⟨F6,Gd,p151,f151⟩)] []) 9 173 Tryz.f173 MM Rz x=jG p150 f150 p151 f151 x.1 x.2.1 x.2.2.1 x.2.2.2.1:=by kernel_rfl
def ZX (x:DenS MM):Option (DenS Rz):=jG HQ.pre HQ.F Ci.pre Ci.F x.1 x.2.1 x.2.2.1 x.2.2.2.1
def Uw:Sum:=Al MM Rz ZX (DenS.dflt Rz)
theorem aSM:Sound Tryz.prog G1 173 Uw:=sd (cf [(172,HQ),(123,Ci)] []) 173 Tryz.f173 ⟨aFf,YA,trivial⟩ trivial MM Rz ZX _ (fun _=>aH3 ..)
abbrev aEm:=Ak MM
abbrev aDl:=Aj MM Rz
variable (p152:aEm) (f152:aDl)
abbrev I8:Ab:=[(true,.pair (.bool) (.pair (.slice (.int .u64)) (.pair (.int .i64) (.pair (.bool) (.unit))))),(false,.int .i64),(true,.pair (.int .i64) (.pair (.int .i64) (.pair (.int .i64) (.pair (.int .i64) (.unit))))),(false,.int .i64)]
abbrev IT:Ab:=[(false,.int .u64),(false,.int .i64)]
def jY (p148:aD6) (f148:aB4) (p150:tY) (f150:nW) (p151:KT) (f151:L5) (p149:aHq) (f149:aGQ) (p152:aEm) (f152:aDl) (a0:Aa (.pair (.bool) (.pair (.slice (.int .u64)) (.pair (.int .i64) (.pair (.bool) (.unit)))))) (a1:Aa (.int .i64)) (a2:Aa (.pair (.int .i64) (.pair (.int .i64) (.pair (.int .i64) (.pair (.int .i64) (.unit)))))) (a3:Aa (.int .i64)):Option (DenS IT) :=
 let e18_:=(IntKind.wrap .i64 ((IntKind.wrap .i64 ((if (a2.2.2.1>(f148 ((a0.1,a0.2),())).1) then a2.2.2.1 else (f148 ((a0.1,a0.2),())).1)-a2.2.1))+(1:Int)))
 let e21_:=(IntKind.wrap .i64 (a2.2.1-(1:Int)))
 let e14_:=(AT .u64 (IntKind.wrap .u64 (IntKind.wrap .i64 (e18_-(IntKind.wrap .i64 ((IntKind.wrap .i64 (a2.2.2.1-a2.2.1))+(1:Int)))))) e21_)
 let e17_:=((a0.1,a0.2),a3,e18_,())
 let e16_:=(f150 e17_)
 let e13_:=(IntKind.wrap .u64 (e14_+(e16_.1.getD (Int.toNat (0:Int)) (0:Int))))
 let e22_:=(IntKind.wrap .i64 (a2.1-(1:Int)))
 let e19_:=(AT .u64 (1:Int) e22_)
 let e1_:=(AW .u64 e13_ e19_)
 let e2_:=e13_
 let e3_:=(AW .u64 e14_ e19_)
 let e15_:=(e16_.1,())
 let e4_:=(decide ((IntKind.wrap .i64 ((IntKind.wrap .i64 (e18_+(f151 e15_).1))-(1:Int)))>a2.2.2.2.1))
 let e5_:=e14_
 let e6_:=(e16_.1.length:Int)
 let e7_:=(p151 e15_)
 let e8_:=(!e16_.2.1)
 let e9_:=(decide ((0:Int)<=e22_))
 let e20_:=((a0.1,a0.2),(a2.1,a2.2),a3,(f148 ((a0.1,a0.2),())))
 let e10_:=(p152 e20_)
 let e11_:=(f152 e20_)
 let e12_:=((f149 (a1,a3,a0.1,())).1,(20:Int),())
 bif (p148 ((a0.1,a0.2),())) then (bif (decide ((f148 ((a0.1,a0.2),())).1>a2.2.2.2.1)) then (bif (p149 (a1,a3,a0.1,())) then (some e12_)
 else none)
 else bif (p150 e17_) then (bif (decide ((0:Int)<=e21_)) then (bif (decide (e6_>(0:Int))) then (bif (decide ((0:Int)<e6_)) then (bif e7_ then (bif e4_ then (bif (p149 (a1,a3,a0.1,())) then (some e12_)
 else none)
 else bif a0.1 then (bif e9_ then (bif e8_ then (some (e1_,(0:Int),()))
 else bif e10_ then (bif e11_.1 then (some (e1_,(24:Int),()))
 else some (e1_,(16:Int),()))
 else none)
 else none)
 else bif e8_ then (some (e2_,(0:Int),()))
 else bif e10_ then (bif e11_.1 then (some (e2_,(24:Int),()))
 else some (e2_,(16:Int),()))
 else none)
 else none)
 else none)
 else bif e7_ then (bif e4_ then (bif (p149 (a1,a3,a0.1,())) then (some e12_)
 else none)
 else bif a0.1 then (bif e9_ then (bif e8_ then (some (e3_,(0:Int),()))
 else bif e10_ then (bif e11_.1 then (some (e3_,(24:Int),()))
 else some (e3_,(16:Int),()))
 else none)
 else none)
 else bif e8_ then (some (e5_,(0:Int),()))
 else bif e10_ then (bif e11_.1 then (some (e5_,(24:Int),()))
 else some (e5_,(16:Int),()))
 else none)
 else none)
 else none)
 else none)
 else none
theorem aRJ (x:DenS I8):run (cf [(170,⟨NT,OR,p148,f148⟩),(172,⟨LM,Mu,p150,f150⟩),(123,⟨F6,Gd,p151,f151⟩),(171,⟨MY,Na,p149,f149⟩),(173,⟨MM,Rz,p152,f152⟩)] []) 9 125 Tryz.f125 I8 IT x=jY p148 f148 p150 f150 p151 f151 p149 f149 p152 f152 x.1 x.2.1 x.2.2.1 x.2.2.2.1:=by kernel_rfl
def Za (x:DenS I8):Option (DenS IT):=jY VA.pre VA.F HQ.pre HQ.F Ci.pre Ci.F Uj.pre Uj.F Uw.pre Uw.F x.1 x.2.1 x.2.2.1 x.2.2.2.1
def EV:Sum:=Al I8 IT Za (DenS.dflt IT)
theorem nT:Sound Tryz.prog G1 125 EV:=sd (cf [(170,VA),(172,HQ),(123,Ci),(171,Uj),(173,Uw)] []) 125 Tryz.f125 ⟨aRR,aFf,YA,aNZ,aSM,trivial⟩ trivial I8 IT Za _ (fun _=>aRJ ..)
abbrev Uh:=Ak I8
abbrev UX:=Aj I8 IT
variable (p107:Uh) (f107:UX)
abbrev E1:Ab:=[(false,.int .i64),(false,.int .i64),(false,.bool),(true,.pair (.int .u64) (.pair (.int .u64) (.unit))),(false,.int .i64),(false,.bool)]
abbrev Fc:Ab:=[(false,.int .u64),(false,.int .i64),(false,.int .i64)]
def kC (p105:Vv) (f105:TH) (p102:GM) (f102:G3) (p151:KT) (f151:L5) (p156:dE) (f156:jJ) (p107:Uh) (f107:UX) (a0 a1:Aa (.int .i64)) (a2:Aa (.bool)) (a3:Aa (.pair (.int .u64) (.pair (.int .u64) (.unit)))) (a4:Aa (.int .i64)) (a5:Aa (.bool)):Option (DenS Fc) :=
 let e2_:=((a2,(f102 ((a3.2.1::(a3.1::[])),())).1,a4,a5,()),a0,(f105 (a0,a1,())).1,a1,())
 let e1_:=(f107 e2_)
 bif (p105 (a0,a1,())) then (bif ((f105 (a0,a1,())).2.1 != (0:Int)) then (some ((0:Int),(0:Int),(f105 (a0,a1,())).2))
 else bif (p102 ((a3.2.1::(a3.1::[])),())) then (bif ((decide (a4<(-(40000:Int))))||(decide (a4>(40000:Int)))) then (some ((0:Int),(0:Int),(30:Int),()))
 else bif ((p151 (f102 ((a3.2.1::(a3.1::[])),())))||(!a5)) then (bif (a5&&(decide ((f151 (f102 ((a3.2.1::(a3.1::[])),()))).1<(IntKind.wrap .i64 ((f105 (a0,a1,())).1.2.1+(2:Int)))))) then (some ((0:Int),(0:Int),(7:Int),()))
 else bif (((f102 ((a3.2.1::(a3.1::[])),())).1.length:Int)==(0:Int)) then (bif (p156 (a0,a2,())) then (some (f156 (a0,a2,())))
 else none)
 else bif (p107 e2_) then (some (e1_.1,e1_.2.1,(0:Int),()))
 else none)
 else none)
 else none)
 else none
theorem aIt (x:DenS E1):run (cf [(121,⟨Ju,Jj,p105,f105⟩),(122,⟨FI,FD,p102,f102⟩),(123,⟨F6,Gd,p151,f151⟩),(124,⟨KM,J8,p156,f156⟩),(125,⟨I8,IT,p107,f107⟩)] []) 9 66 Tryz.f66 E1 Fc x=kC p105 f105 p102 f102 p151 f151 p156 f156 p107 f107 x.1 x.2.1 x.2.2.1 x.2.2.2.1 x.2.2.2.2.1 x.2.2.2.2.2.1:=by kernel_rfl
def Ss (x:DenS E1):Option (DenS Fc):=kC EI.pre EI.F Bg.pre Bg.F Ci.pre Ci.F HN.pre HN.F EV.pre EV.F x.1 x.2.1 x.2.2.1 x.2.2.2.1 x.2.2.2.2.1 x.2.2.2.2.2.1
def A4:Sum:=Al E1 Fc Ss (DenS.dflt Fc)
theorem Vn:Sound Tryz.prog G1 66 A4:=sd (cf [(121,EI),(122,Bg),(123,Ci),(124,HN),(125,EV)] []) 66 Tryz.f66 ⟨tL,Xl,YA,aFO,nT,trivial⟩ trivial E1 Fc Ss _ (fun _=>aIt ..)
abbrev HX:=Ak E1
abbrev Ik:=Aj E1 Fc
variable (p122:HX) (f122:Ik)
end Vx
namespace Vx
open Go Go.Proofs
variable (p119:XY) (f119:Yh) (p120:qA) (f120:mS) (p121:tI) (f121:tU) (p123:Sb) (f123:So) (p124:sK) (f124:sJ) (p118:G8) (f118:GD) (p122:HX) (f122:Ik)
abbrev MV:Ab:=[(false,.int .i64),(false,.int .i64),(true,.pair (.bool) (.pair (.int .u64) (.pair (.int .i64) (.unit)))),(true,.pair (.bool) (.pair (.int .u64) (.pair (.int .i64) (.unit))))]
abbrev Jk:Ab:=[(false,.int .u64),(false,.int .i64),(false,.int .i64)]
def kT (p119:DenS H2->Bool) (f119:DenS H2->DenS JP) (p120:DenS JI->Bool) (f120:DenS JI->DenS LG) (p121:DenS IK->Bool) (f121:DenS IK->DenS Mw) (p123:DenS GH->Bool) (f123:DenS GH->DenS Ht) (p124:DenS JJ->Bool) (f124:DenS JJ->DenS Kw) (p118:DenS EG->Bool) (f118:DenS EG->DenS EZ) (p122:DenS E1->Bool) (f122:DenS E1->DenS Fc) (f m:Int) (nx:Bool) (X ex:Int) (ny:Bool) (Y ey:Int):Option (DenS Jk) :=
 bif (p119 (((0:Int),(X,())),((if ((70:Int)<(IntKind.wrap .i64 (ex-ey))) then (70:Int) else (IntKind.wrap .i64 (ex-ey))),()))) then
 (bif (p120 (((0:Int),(Y,())),((IntKind.wrap .i64 ((IntKind.wrap .i64 (ex-(if ((70:Int)<(IntKind.wrap .i64 (ex-ey))) then (70:Int) else (IntKind.wrap .i64 (ex-ey)))))-ey)),()))) then
 (bif (p119 ((f120 (((0:Int),(Y,())),((IntKind.wrap .i64 ((IntKind.wrap .i64 (ex-(if ((70:Int)<(IntKind.wrap .i64 (ex-ey))) then (70:Int) else (IntKind.wrap .i64 (ex-ey)))))-ey)),()))).1,((IntKind.wrap .i64 ((IntKind.wrap .i64 (ex-(if ((70:Int)<(IntKind.wrap .i64 (ex-ey))) then (70:Int) else (IntKind.wrap .i64 (ex-ey)))))-ey)),()))) then
 (bif (p120 (((0:Int),(Y,())),((IntKind.wrap .i64 ((IntKind.wrap .i64 (ex-(if ((70:Int)<(IntKind.wrap .i64 (ex-ey))) then (70:Int) else (IntKind.wrap .i64 (ex-ey)))))-ey)),()))) then
 (bif (nx==ny) then
 (bif (p121 ((f119 (((0:Int),(X,())),((if ((70:Int)<(IntKind.wrap .i64 (ex-ey))) then (70:Int) else (IntKind.wrap .i64 (ex-ey))),()))).1,(f120 (((0:Int),(Y,())),((IntKind.wrap .i64 ((IntKind.wrap .i64 (ex-(if ((70:Int)<(IntKind.wrap .i64 (ex-ey))) then (70:Int) else (IntKind.wrap .i64 (ex-ey)))))-ey)),()))))) then
 (bif (p122 (f,(m,(nx,((f121 ((f119 (((0:Int),(X,())),((if ((70:Int)<(IntKind.wrap .i64 (ex-ey))) then (70:Int) else (IntKind.wrap .i64 (ex-ey))),()))).1,(f120 (((0:Int),(Y,())),((IntKind.wrap .i64 ((IntKind.wrap .i64 (ex-(if ((70:Int)<(IntKind.wrap .i64 (ex-ey))) then (70:Int) else (IntKind.wrap .i64 (ex-ey)))))-ey)),()))))).1,((IntKind.wrap .i64 (ex-(if ((70:Int)<(IntKind.wrap .i64 (ex-ey))) then (70:Int) else (IntKind.wrap .i64 (ex-ey))))),(((!(((f119 ((f120 (((0:Int),(Y,())),((IntKind.wrap .i64 ((IntKind.wrap .i64 (ex-(if ((70:Int)<(IntKind.wrap .i64 (ex-ey))) then (70:Int) else (IntKind.wrap .i64 (ex-ey)))))-ey)),()))).1,((IntKind.wrap .i64 ((IntKind.wrap .i64 (ex-(if ((70:Int)<(IntKind.wrap .i64 (ex-ey))) then (70:Int) else (IntKind.wrap .i64 (ex-ey)))))-ey)),()))).1.1==(0:Int))&&((f119 ((f120 (((0:Int),(Y,())),((IntKind.wrap .i64 ((IntKind.wrap .i64 (ex-(if ((70:Int)<(IntKind.wrap .i64 (ex-ey))) then (70:Int) else (IntKind.wrap .i64 (ex-ey)))))-ey)),()))).1,((IntKind.wrap .i64 ((IntKind.wrap .i64 (ex-(if ((70:Int)<(IntKind.wrap .i64 (ex-ey))) then (70:Int) else (IntKind.wrap .i64 (ex-ey)))))-ey)),()))).1.2.1==Y)))||((decide ((IntKind.wrap .i64 ((IntKind.wrap .i64 (ex-(if ((70:Int)<(IntKind.wrap .i64 (ex-ey))) then (70:Int) else (IntKind.wrap .i64 (ex-ey)))))-ey))>(63:Int)))&&(Y != (0:Int)))),()))))))) then
 (some (f122 (f,(m,(nx,((f121 ((f119 (((0:Int),(X,())),((if ((70:Int)<(IntKind.wrap .i64 (ex-ey))) then (70:Int) else (IntKind.wrap .i64 (ex-ey))),()))).1,(f120 (((0:Int),(Y,())),((IntKind.wrap .i64 ((IntKind.wrap .i64 (ex-(if ((70:Int)<(IntKind.wrap .i64 (ex-ey))) then (70:Int) else (IntKind.wrap .i64 (ex-ey)))))-ey)),()))))).1,((IntKind.wrap .i64 (ex-(if ((70:Int)<(IntKind.wrap .i64 (ex-ey))) then (70:Int) else (IntKind.wrap .i64 (ex-ey))))),(((!(((f119 ((f120 (((0:Int),(Y,())),((IntKind.wrap .i64 ((IntKind.wrap .i64 (ex-(if ((70:Int)<(IntKind.wrap .i64 (ex-ey))) then (70:Int) else (IntKind.wrap .i64 (ex-ey)))))-ey)),()))).1,((IntKind.wrap .i64 ((IntKind.wrap .i64 (ex-(if ((70:Int)<(IntKind.wrap .i64 (ex-ey))) then (70:Int) else (IntKind.wrap .i64 (ex-ey)))))-ey)),()))).1.1==(0:Int))&&((f119 ((f120 (((0:Int),(Y,())),((IntKind.wrap .i64 ((IntKind.wrap .i64 (ex-(if ((70:Int)<(IntKind.wrap .i64 (ex-ey))) then (70:Int) else (IntKind.wrap .i64 (ex-ey)))))-ey)),()))).1,((IntKind.wrap .i64 ((IntKind.wrap .i64 (ex-(if ((70:Int)<(IntKind.wrap .i64 (ex-ey))) then (70:Int) else (IntKind.wrap .i64 (ex-ey)))))-ey)),()))).1.2.1==Y)))||((decide ((IntKind.wrap .i64 ((IntKind.wrap .i64 (ex-(if ((70:Int)<(IntKind.wrap .i64 (ex-ey))) then (70:Int) else (IntKind.wrap .i64 (ex-ey)))))-ey))>(63:Int)))&&(Y != (0:Int)))),()))))))))
 else none)
 else none)
 else bif (p123 ((f119 (((0:Int),(X,())),((if ((70:Int)<(IntKind.wrap .i64 (ex-ey))) then (70:Int) else (IntKind.wrap .i64 (ex-ey))),()))).1,(f120 (((0:Int),(Y,())),((IntKind.wrap .i64 ((IntKind.wrap .i64 (ex-(if ((70:Int)<(IntKind.wrap .i64 (ex-ey))) then (70:Int) else (IntKind.wrap .i64 (ex-ey)))))-ey)),()))))) then
 (bif (decide ((f123 ((f119 (((0:Int),(X,())),((if ((70:Int)<(IntKind.wrap .i64 (ex-ey))) then (70:Int) else (IntKind.wrap .i64 (ex-ey))),()))).1,(f120 (((0:Int),(Y,())),((IntKind.wrap .i64 ((IntKind.wrap .i64 (ex-(if ((70:Int)<(IntKind.wrap .i64 (ex-ey))) then (70:Int) else (IntKind.wrap .i64 (ex-ey)))))-ey)),()))))).1<(0:Int))) then
 (bif (p124 ((f120 (((0:Int),(Y,())),((IntKind.wrap .i64 ((IntKind.wrap .i64 (ex-(if ((70:Int)<(IntKind.wrap .i64 (ex-ey))) then (70:Int) else (IntKind.wrap .i64 (ex-ey)))))-ey)),()))).1,(f119 (((0:Int),(X,())),((if ((70:Int)<(IntKind.wrap .i64 (ex-ey))) then (70:Int) else (IntKind.wrap .i64 (ex-ey))),()))))) then
 (bif ((!(((f119 ((f120 (((0:Int),(Y,())),((IntKind.wrap .i64 ((IntKind.wrap .i64 (ex-(if ((70:Int)<(IntKind.wrap .i64 (ex-ey))) then (70:Int) else (IntKind.wrap .i64 (ex-ey)))))-ey)),()))).1,((IntKind.wrap .i64 ((IntKind.wrap .i64 (ex-(if ((70:Int)<(IntKind.wrap .i64 (ex-ey))) then (70:Int) else (IntKind.wrap .i64 (ex-ey)))))-ey)),()))).1.1==(0:Int))&&((f119 ((f120 (((0:Int),(Y,())),((IntKind.wrap .i64 ((IntKind.wrap .i64 (ex-(if ((70:Int)<(IntKind.wrap .i64 (ex-ey))) then (70:Int) else (IntKind.wrap .i64 (ex-ey)))))-ey)),()))).1,((IntKind.wrap .i64 ((IntKind.wrap .i64 (ex-(if ((70:Int)<(IntKind.wrap .i64 (ex-ey))) then (70:Int) else (IntKind.wrap .i64 (ex-ey)))))-ey)),()))).1.2.1==Y)))||((decide ((IntKind.wrap .i64 ((IntKind.wrap .i64 (ex-(if ((70:Int)<(IntKind.wrap .i64 (ex-ey))) then (70:Int) else (IntKind.wrap .i64 (ex-ey)))))-ey))>(63:Int)))&&(Y != (0:Int)))) then
 (bif (p124 ((f124 ((f120 (((0:Int),(Y,())),((IntKind.wrap .i64 ((IntKind.wrap .i64 (ex-(if ((70:Int)<(IntKind.wrap .i64 (ex-ey))) then (70:Int) else (IntKind.wrap .i64 (ex-ey)))))-ey)),()))).1,(f119 (((0:Int),(X,())),((if ((70:Int)<(IntKind.wrap .i64 (ex-ey))) then (70:Int) else (IntKind.wrap .i64 (ex-ey))),()))))).1,(((0:Int),((1:Int),())),()))) then
 (bif ((((f124 ((f124 ((f120 (((0:Int),(Y,())),((IntKind.wrap .i64 ((IntKind.wrap .i64 (ex-(if ((70:Int)<(IntKind.wrap .i64 (ex-ey))) then (70:Int) else (IntKind.wrap .i64 (ex-ey)))))-ey)),()))).1,(f119 (((0:Int),(X,())),((if ((70:Int)<(IntKind.wrap .i64 (ex-ey))) then (70:Int) else (IntKind.wrap .i64 (ex-ey))),()))))).1,(((0:Int),((1:Int),())),()))).1.1==(0:Int))&&((f124 ((f124 ((f120 (((0:Int),(Y,())),((IntKind.wrap .i64 ((IntKind.wrap .i64 (ex-(if ((70:Int)<(IntKind.wrap .i64 (ex-ey))) then (70:Int) else (IntKind.wrap .i64 (ex-ey)))))-ey)),()))).1,(f119 (((0:Int),(X,())),((if ((70:Int)<(IntKind.wrap .i64 (ex-ey))) then (70:Int) else (IntKind.wrap .i64 (ex-ey))),()))))).1,(((0:Int),((1:Int),())),()))).1.2.1==(0:Int)))&&(!((!(((f119 ((f120 (((0:Int),(Y,())),((IntKind.wrap .i64 ((IntKind.wrap .i64 (ex-(if ((70:Int)<(IntKind.wrap .i64 (ex-ey))) then (70:Int) else (IntKind.wrap .i64 (ex-ey)))))-ey)),()))).1,((IntKind.wrap .i64 ((IntKind.wrap .i64 (ex-(if ((70:Int)<(IntKind.wrap .i64 (ex-ey))) then (70:Int) else (IntKind.wrap .i64 (ex-ey)))))-ey)),()))).1.1==(0:Int))&&((f119 ((f120 (((0:Int),(Y,())),((IntKind.wrap .i64 ((IntKind.wrap .i64 (ex-(if ((70:Int)<(IntKind.wrap .i64 (ex-ey))) then (70:Int) else (IntKind.wrap .i64 (ex-ey)))))-ey)),()))).1,((IntKind.wrap .i64 ((IntKind.wrap .i64 (ex-(if ((70:Int)<(IntKind.wrap .i64 (ex-ey))) then (70:Int) else (IntKind.wrap .i64 (ex-ey)))))-ey)),()))).1.2.1==Y)))||((decide ((IntKind.wrap .i64 ((IntKind.wrap .i64 (ex-(if ((70:Int)<(IntKind.wrap .i64 (ex-ey))) then (70:Int) else (IntKind.wrap .i64 (ex-ey)))))-ey))>(63:Int)))&&(Y != (0:Int)))))) then
 (bif (p118 (f,((m==(4:Int)),()))) then
 (some ((f118 (f,((m==(4:Int)),()))).1,((0:Int),((0:Int),()))))
 else none)
 else bif (p122 (f,(m,(ny,((f124 ((f124 ((f120 (((0:Int),(Y,())),((IntKind.wrap .i64 ((IntKind.wrap .i64 (ex-(if ((70:Int)<(IntKind.wrap .i64 (ex-ey))) then (70:Int) else (IntKind.wrap .i64 (ex-ey)))))-ey)),()))).1,(f119 (((0:Int),(X,())),((if ((70:Int)<(IntKind.wrap .i64 (ex-ey))) then (70:Int) else (IntKind.wrap .i64 (ex-ey))),()))))).1,(((0:Int),((1:Int),())),()))).1,((IntKind.wrap .i64 (ex-(if ((70:Int)<(IntKind.wrap .i64 (ex-ey))) then (70:Int) else (IntKind.wrap .i64 (ex-ey))))),(((!(((f119 ((f120 (((0:Int),(Y,())),((IntKind.wrap .i64 ((IntKind.wrap .i64 (ex-(if ((70:Int)<(IntKind.wrap .i64 (ex-ey))) then (70:Int) else (IntKind.wrap .i64 (ex-ey)))))-ey)),()))).1,((IntKind.wrap .i64 ((IntKind.wrap .i64 (ex-(if ((70:Int)<(IntKind.wrap .i64 (ex-ey))) then (70:Int) else (IntKind.wrap .i64 (ex-ey)))))-ey)),()))).1.1==(0:Int))&&((f119 ((f120 (((0:Int),(Y,())),((IntKind.wrap .i64 ((IntKind.wrap .i64 (ex-(if ((70:Int)<(IntKind.wrap .i64 (ex-ey))) then (70:Int) else (IntKind.wrap .i64 (ex-ey)))))-ey)),()))).1,((IntKind.wrap .i64 ((IntKind.wrap .i64 (ex-(if ((70:Int)<(IntKind.wrap .i64 (ex-ey))) then (70:Int) else (IntKind.wrap .i64 (ex-ey)))))-ey)),()))).1.2.1==Y)))||((decide ((IntKind.wrap .i64 ((IntKind.wrap .i64 (ex-(if ((70:Int)<(IntKind.wrap .i64 (ex-ey))) then (70:Int) else (IntKind.wrap .i64 (ex-ey)))))-ey))>(63:Int)))&&(Y != (0:Int)))),()))))))) then
 (some (f122 (f,(m,(ny,((f124 ((f124 ((f120 (((0:Int),(Y,())),((IntKind.wrap .i64 ((IntKind.wrap .i64 (ex-(if ((70:Int)<(IntKind.wrap .i64 (ex-ey))) then (70:Int) else (IntKind.wrap .i64 (ex-ey)))))-ey)),()))).1,(f119 (((0:Int),(X,())),((if ((70:Int)<(IntKind.wrap .i64 (ex-ey))) then (70:Int) else (IntKind.wrap .i64 (ex-ey))),()))))).1,(((0:Int),((1:Int),())),()))).1,((IntKind.wrap .i64 (ex-(if ((70:Int)<(IntKind.wrap .i64 (ex-ey))) then (70:Int) else (IntKind.wrap .i64 (ex-ey))))),(((!(((f119 ((f120 (((0:Int),(Y,())),((IntKind.wrap .i64 ((IntKind.wrap .i64 (ex-(if ((70:Int)<(IntKind.wrap .i64 (ex-ey))) then (70:Int) else (IntKind.wrap .i64 (ex-ey)))))-ey)),()))).1,((IntKind.wrap .i64 ((IntKind.wrap .i64 (ex-(if ((70:Int)<(IntKind.wrap .i64 (ex-ey))) then (70:Int) else (IntKind.wrap .i64 (ex-ey)))))-ey)),()))).1.1==(0:Int))&&((f119 ((f120 (((0:Int),(Y,())),((IntKind.wrap .i64 ((IntKind.wrap .i64 (ex-(if ((70:Int)<(IntKind.wrap .i64 (ex-ey))) then (70:Int) else (IntKind.wrap .i64 (ex-ey)))))-ey)),()))).1,((IntKind.wrap .i64 ((IntKind.wrap .i64 (ex-(if ((70:Int)<(IntKind.wrap .i64 (ex-ey))) then (70:Int) else (IntKind.wrap .i64 (ex-ey)))))-ey)),()))).1.2.1==Y)))||((decide ((IntKind.wrap .i64 ((IntKind.wrap .i64 (ex-(if ((70:Int)<(IntKind.wrap .i64 (ex-ey))) then (70:Int) else (IntKind.wrap .i64 (ex-ey)))))-ey))>(63:Int)))&&(Y != (0:Int)))),()))))))))
 else none)
 else none)
 else bif ((((f124 ((f120 (((0:Int),(Y,())),((IntKind.wrap .i64 ((IntKind.wrap .i64 (ex-(if ((70:Int)<(IntKind.wrap .i64 (ex-ey))) then (70:Int) else (IntKind.wrap .i64 (ex-ey)))))-ey)),()))).1,(f119 (((0:Int),(X,())),((if ((70:Int)<(IntKind.wrap .i64 (ex-ey))) then (70:Int) else (IntKind.wrap .i64 (ex-ey))),()))))).1.1==(0:Int))&&((f124 ((f120 (((0:Int),(Y,())),((IntKind.wrap .i64 ((IntKind.wrap .i64 (ex-(if ((70:Int)<(IntKind.wrap .i64 (ex-ey))) then (70:Int) else (IntKind.wrap .i64 (ex-ey)))))-ey)),()))).1,(f119 (((0:Int),(X,())),((if ((70:Int)<(IntKind.wrap .i64 (ex-ey))) then (70:Int) else (IntKind.wrap .i64 (ex-ey))),()))))).1.2.1==(0:Int)))&&(!((!(((f119 ((f120 (((0:Int),(Y,())),((IntKind.wrap .i64 ((IntKind.wrap .i64 (ex-(if ((70:Int)<(IntKind.wrap .i64 (ex-ey))) then (70:Int) else (IntKind.wrap .i64 (ex-ey)))))-ey)),()))).1,((IntKind.wrap .i64 ((IntKind.wrap .i64 (ex-(if ((70:Int)<(IntKind.wrap .i64 (ex-ey))) then (70:Int) else (IntKind.wrap .i64 (ex-ey)))))-ey)),()))).1.1==(0:Int))&&((f119 ((f120 (((0:Int),(Y,())),((IntKind.wrap .i64 ((IntKind.wrap .i64 (ex-(if ((70:Int)<(IntKind.wrap .i64 (ex-ey))) then (70:Int) else (IntKind.wrap .i64 (ex-ey)))))-ey)),()))).1,((IntKind.wrap .i64 ((IntKind.wrap .i64 (ex-(if ((70:Int)<(IntKind.wrap .i64 (ex-ey))) then (70:Int) else (IntKind.wrap .i64 (ex-ey)))))-ey)),()))).1.2.1==Y)))||((decide ((IntKind.wrap .i64 ((IntKind.wrap .i64 (ex-(if ((70:Int)<(IntKind.wrap .i64 (ex-ey))) then (70:Int) else (IntKind.wrap .i64 (ex-ey)))))-ey))>(63:Int)))&&(Y != (0:Int)))))) then
 (bif (p118 (f,((m==(4:Int)),()))) then
 (some ((f118 (f,((m==(4:Int)),()))).1,((0:Int),((0:Int),()))))
 else none)
 else bif (p122 (f,(m,(ny,((f124 ((f120 (((0:Int),(Y,())),((IntKind.wrap .i64 ((IntKind.wrap .i64 (ex-(if ((70:Int)<(IntKind.wrap .i64 (ex-ey))) then (70:Int) else (IntKind.wrap .i64 (ex-ey)))))-ey)),()))).1,(f119 (((0:Int),(X,())),((if ((70:Int)<(IntKind.wrap .i64 (ex-ey))) then (70:Int) else (IntKind.wrap .i64 (ex-ey))),()))))).1,((IntKind.wrap .i64 (ex-(if ((70:Int)<(IntKind.wrap .i64 (ex-ey))) then (70:Int) else (IntKind.wrap .i64 (ex-ey))))),(((!(((f119 ((f120 (((0:Int),(Y,())),((IntKind.wrap .i64 ((IntKind.wrap .i64 (ex-(if ((70:Int)<(IntKind.wrap .i64 (ex-ey))) then (70:Int) else (IntKind.wrap .i64 (ex-ey)))))-ey)),()))).1,((IntKind.wrap .i64 ((IntKind.wrap .i64 (ex-(if ((70:Int)<(IntKind.wrap .i64 (ex-ey))) then (70:Int) else (IntKind.wrap .i64 (ex-ey)))))-ey)),()))).1.1==(0:Int))&&((f119 ((f120 (((0:Int),(Y,())),((IntKind.wrap .i64 ((IntKind.wrap .i64 (ex-(if ((70:Int)<(IntKind.wrap .i64 (ex-ey))) then (70:Int) else (IntKind.wrap .i64 (ex-ey)))))-ey)),()))).1,((IntKind.wrap .i64 ((IntKind.wrap .i64 (ex-(if ((70:Int)<(IntKind.wrap .i64 (ex-ey))) then (70:Int) else (IntKind.wrap .i64 (ex-ey)))))-ey)),()))).1.2.1==Y)))||((decide ((IntKind.wrap .i64 ((IntKind.wrap .i64 (ex-(if ((70:Int)<(IntKind.wrap .i64 (ex-ey))) then (70:Int) else (IntKind.wrap .i64 (ex-ey)))))-ey))>(63:Int)))&&(Y != (0:Int)))),()))))))) then
 (some (f122 (f,(m,(ny,((f124 ((f120 (((0:Int),(Y,())),((IntKind.wrap .i64 ((IntKind.wrap .i64 (ex-(if ((70:Int)<(IntKind.wrap .i64 (ex-ey))) then (70:Int) else (IntKind.wrap .i64 (ex-ey)))))-ey)),()))).1,(f119 (((0:Int),(X,())),((if ((70:Int)<(IntKind.wrap .i64 (ex-ey))) then (70:Int) else (IntKind.wrap .i64 (ex-ey))),()))))).1,((IntKind.wrap .i64 (ex-(if ((70:Int)<(IntKind.wrap .i64 (ex-ey))) then (70:Int) else (IntKind.wrap .i64 (ex-ey))))),(((!(((f119 ((f120 (((0:Int),(Y,())),((IntKind.wrap .i64 ((IntKind.wrap .i64 (ex-(if ((70:Int)<(IntKind.wrap .i64 (ex-ey))) then (70:Int) else (IntKind.wrap .i64 (ex-ey)))))-ey)),()))).1,((IntKind.wrap .i64 ((IntKind.wrap .i64 (ex-(if ((70:Int)<(IntKind.wrap .i64 (ex-ey))) then (70:Int) else (IntKind.wrap .i64 (ex-ey)))))-ey)),()))).1.1==(0:Int))&&((f119 ((f120 (((0:Int),(Y,())),((IntKind.wrap .i64 ((IntKind.wrap .i64 (ex-(if ((70:Int)<(IntKind.wrap .i64 (ex-ey))) then (70:Int) else (IntKind.wrap .i64 (ex-ey)))))-ey)),()))).1,((IntKind.wrap .i64 ((IntKind.wrap .i64 (ex-(if ((70:Int)<(IntKind.wrap .i64 (ex-ey))) then (70:Int) else (IntKind.wrap .i64 (ex-ey)))))-ey)),()))).1.2.1==Y)))||((decide ((IntKind.wrap .i64 ((IntKind.wrap .i64 (ex-(if ((70:Int)<(IntKind.wrap .i64 (ex-ey))) then (70:Int) else (IntKind.wrap .i64 (ex-ey)))))-ey))>(63:Int)))&&(Y != (0:Int)))),()))))))))
 else none)
 else none)
 else bif (p124 ((f119 (((0:Int),(X,())),((if ((70:Int)<(IntKind.wrap .i64 (ex-ey))) then (70:Int) else (IntKind.wrap .i64 (ex-ey))),()))).1,(f120 (((0:Int),(Y,())),((IntKind.wrap .i64 ((IntKind.wrap .i64 (ex-(if ((70:Int)<(IntKind.wrap .i64 (ex-ey))) then (70:Int) else (IntKind.wrap .i64 (ex-ey)))))-ey)),()))))) then
 (bif ((!(((f119 ((f120 (((0:Int),(Y,())),((IntKind.wrap .i64 ((IntKind.wrap .i64 (ex-(if ((70:Int)<(IntKind.wrap .i64 (ex-ey))) then (70:Int) else (IntKind.wrap .i64 (ex-ey)))))-ey)),()))).1,((IntKind.wrap .i64 ((IntKind.wrap .i64 (ex-(if ((70:Int)<(IntKind.wrap .i64 (ex-ey))) then (70:Int) else (IntKind.wrap .i64 (ex-ey)))))-ey)),()))).1.1==(0:Int))&&((f119 ((f120 (((0:Int),(Y,())),((IntKind.wrap .i64 ((IntKind.wrap .i64 (ex-(if ((70:Int)<(IntKind.wrap .i64 (ex-ey))) then (70:Int) else (IntKind.wrap .i64 (ex-ey)))))-ey)),()))).1,((IntKind.wrap .i64 ((IntKind.wrap .i64 (ex-(if ((70:Int)<(IntKind.wrap .i64 (ex-ey))) then (70:Int) else (IntKind.wrap .i64 (ex-ey)))))-ey)),()))).1.2.1==Y)))||((decide ((IntKind.wrap .i64 ((IntKind.wrap .i64 (ex-(if ((70:Int)<(IntKind.wrap .i64 (ex-ey))) then (70:Int) else (IntKind.wrap .i64 (ex-ey)))))-ey))>(63:Int)))&&(Y != (0:Int)))) then
 (bif (p124 ((f124 ((f119 (((0:Int),(X,())),((if ((70:Int)<(IntKind.wrap .i64 (ex-ey))) then (70:Int) else (IntKind.wrap .i64 (ex-ey))),()))).1,(f120 (((0:Int),(Y,())),((IntKind.wrap .i64 ((IntKind.wrap .i64 (ex-(if ((70:Int)<(IntKind.wrap .i64 (ex-ey))) then (70:Int) else (IntKind.wrap .i64 (ex-ey)))))-ey)),()))))).1,(((0:Int),((1:Int),())),()))) then
 (bif ((((f124 ((f124 ((f119 (((0:Int),(X,())),((if ((70:Int)<(IntKind.wrap .i64 (ex-ey))) then (70:Int) else (IntKind.wrap .i64 (ex-ey))),()))).1,(f120 (((0:Int),(Y,())),((IntKind.wrap .i64 ((IntKind.wrap .i64 (ex-(if ((70:Int)<(IntKind.wrap .i64 (ex-ey))) then (70:Int) else (IntKind.wrap .i64 (ex-ey)))))-ey)),()))))).1,(((0:Int),((1:Int),())),()))).1.1==(0:Int))&&((f124 ((f124 ((f119 (((0:Int),(X,())),((if ((70:Int)<(IntKind.wrap .i64 (ex-ey))) then (70:Int) else (IntKind.wrap .i64 (ex-ey))),()))).1,(f120 (((0:Int),(Y,())),((IntKind.wrap .i64 ((IntKind.wrap .i64 (ex-(if ((70:Int)<(IntKind.wrap .i64 (ex-ey))) then (70:Int) else (IntKind.wrap .i64 (ex-ey)))))-ey)),()))))).1,(((0:Int),((1:Int),())),()))).1.2.1==(0:Int)))&&(!((!(((f119 ((f120 (((0:Int),(Y,())),((IntKind.wrap .i64 ((IntKind.wrap .i64 (ex-(if ((70:Int)<(IntKind.wrap .i64 (ex-ey))) then (70:Int) else (IntKind.wrap .i64 (ex-ey)))))-ey)),()))).1,((IntKind.wrap .i64 ((IntKind.wrap .i64 (ex-(if ((70:Int)<(IntKind.wrap .i64 (ex-ey))) then (70:Int) else (IntKind.wrap .i64 (ex-ey)))))-ey)),()))).1.1==(0:Int))&&((f119 ((f120 (((0:Int),(Y,())),((IntKind.wrap .i64 ((IntKind.wrap .i64 (ex-(if ((70:Int)<(IntKind.wrap .i64 (ex-ey))) then (70:Int) else (IntKind.wrap .i64 (ex-ey)))))-ey)),()))).1,((IntKind.wrap .i64 ((IntKind.wrap .i64 (ex-(if ((70:Int)<(IntKind.wrap .i64 (ex-ey))) then (70:Int) else (IntKind.wrap .i64 (ex-ey)))))-ey)),()))).1.2.1==Y)))||((decide ((IntKind.wrap .i64 ((IntKind.wrap .i64 (ex-(if ((70:Int)<(IntKind.wrap .i64 (ex-ey))) then (70:Int) else (IntKind.wrap .i64 (ex-ey)))))-ey))>(63:Int)))&&(Y != (0:Int)))))) then
 (bif (p118 (f,((m==(4:Int)),()))) then
 (some ((f118 (f,((m==(4:Int)),()))).1,((0:Int),((0:Int),()))))
 else none)
 else bif (p122 (f,(m,(nx,((f124 ((f124 ((f119 (((0:Int),(X,())),((if ((70:Int)<(IntKind.wrap .i64 (ex-ey))) then (70:Int) else (IntKind.wrap .i64 (ex-ey))),()))).1,(f120 (((0:Int),(Y,())),((IntKind.wrap .i64 ((IntKind.wrap .i64 (ex-(if ((70:Int)<(IntKind.wrap .i64 (ex-ey))) then (70:Int) else (IntKind.wrap .i64 (ex-ey)))))-ey)),()))))).1,(((0:Int),((1:Int),())),()))).1,((IntKind.wrap .i64 (ex-(if ((70:Int)<(IntKind.wrap .i64 (ex-ey))) then (70:Int) else (IntKind.wrap .i64 (ex-ey))))),(((!(((f119 ((f120 (((0:Int),(Y,())),((IntKind.wrap .i64 ((IntKind.wrap .i64 (ex-(if ((70:Int)<(IntKind.wrap .i64 (ex-ey))) then (70:Int) else (IntKind.wrap .i64 (ex-ey)))))-ey)),()))).1,((IntKind.wrap .i64 ((IntKind.wrap .i64 (ex-(if ((70:Int)<(IntKind.wrap .i64 (ex-ey))) then (70:Int) else (IntKind.wrap .i64 (ex-ey)))))-ey)),()))).1.1==(0:Int))&&((f119 ((f120 (((0:Int),(Y,())),((IntKind.wrap .i64 ((IntKind.wrap .i64 (ex-(if ((70:Int)<(IntKind.wrap .i64 (ex-ey))) then (70:Int) else (IntKind.wrap .i64 (ex-ey)))))-ey)),()))).1,((IntKind.wrap .i64 ((IntKind.wrap .i64 (ex-(if ((70:Int)<(IntKind.wrap .i64 (ex-ey))) then (70:Int) else (IntKind.wrap .i64 (ex-ey)))))-ey)),()))).1.2.1==Y)))||((decide ((IntKind.wrap .i64 ((IntKind.wrap .i64 (ex-(if ((70:Int)<(IntKind.wrap .i64 (ex-ey))) then (70:Int) else (IntKind.wrap .i64 (ex-ey)))))-ey))>(63:Int)))&&(Y != (0:Int)))),()))))))) then
 (some (f122 (f,(m,(nx,((f124 ((f124 ((f119 (((0:Int),(X,())),((if ((70:Int)<(IntKind.wrap .i64 (ex-ey))) then (70:Int) else (IntKind.wrap .i64 (ex-ey))),()))).1,(f120 (((0:Int),(Y,())),((IntKind.wrap .i64 ((IntKind.wrap .i64 (ex-(if ((70:Int)<(IntKind.wrap .i64 (ex-ey))) then (70:Int) else (IntKind.wrap .i64 (ex-ey)))))-ey)),()))))).1,(((0:Int),((1:Int),())),()))).1,((IntKind.wrap .i64 (ex-(if ((70:Int)<(IntKind.wrap .i64 (ex-ey))) then (70:Int) else (IntKind.wrap .i64 (ex-ey))))),(((!(((f119 ((f120 (((0:Int),(Y,())),((IntKind.wrap .i64 ((IntKind.wrap .i64 (ex-(if ((70:Int)<(IntKind.wrap .i64 (ex-ey))) then (70:Int) else (IntKind.wrap .i64 (ex-ey)))))-ey)),()))).1,((IntKind.wrap .i64 ((IntKind.wrap .i64 (ex-(if ((70:Int)<(IntKind.wrap .i64 (ex-ey))) then (70:Int) else (IntKind.wrap .i64 (ex-ey)))))-ey)),()))).1.1==(0:Int))&&((f119 ((f120 (((0:Int),(Y,())),((IntKind.wrap .i64 ((IntKind.wrap .i64 (ex-(if ((70:Int)<(IntKind.wrap .i64 (ex-ey))) then (70:Int) else (IntKind.wrap .i64 (ex-ey)))))-ey)),()))).1,((IntKind.wrap .i64 ((IntKind.wrap .i64 (ex-(if ((70:Int)<(IntKind.wrap .i64 (ex-ey))) then (70:Int) else (IntKind.wrap .i64 (ex-ey)))))-ey)),()))).1.2.1==Y)))||((decide ((IntKind.wrap .i64 ((IntKind.wrap .i64 (ex-(if ((70:Int)<(IntKind.wrap .i64 (ex-ey))) then (70:Int) else (IntKind.wrap .i64 (ex-ey)))))-ey))>(63:Int)))&&(Y != (0:Int)))),()))))))))
 else none)
 else none)
 else bif ((((f124 ((f119 (((0:Int),(X,())),((if ((70:Int)<(IntKind.wrap .i64 (ex-ey))) then (70:Int) else (IntKind.wrap .i64 (ex-ey))),()))).1,(f120 (((0:Int),(Y,())),((IntKind.wrap .i64 ((IntKind.wrap .i64 (ex-(if ((70:Int)<(IntKind.wrap .i64 (ex-ey))) then (70:Int) else (IntKind.wrap .i64 (ex-ey)))))-ey)),()))))).1.1==(0:Int))&&((f124 ((f119 (((0:Int),(X,())),((if ((70:Int)<(IntKind.wrap .i64 (ex-ey))) then (70:Int) else (IntKind.wrap .i64 (ex-ey))),()))).1,(f120 (((0:Int),(Y,())),((IntKind.wrap .i64 ((IntKind.wrap .i64 (ex-(if ((70:Int)<(IntKind.wrap .i64 (ex-ey))) then (70:Int) else (IntKind.wrap .i64 (ex-ey)))))-ey)),()))))).1.2.1==(0:Int)))&&(!((!(((f119 ((f120 (((0:Int),(Y,())),((IntKind.wrap .i64 ((IntKind.wrap .i64 (ex-(if ((70:Int)<(IntKind.wrap .i64 (ex-ey))) then (70:Int) else (IntKind.wrap .i64 (ex-ey)))))-ey)),()))).1,((IntKind.wrap .i64 ((IntKind.wrap .i64 (ex-(if ((70:Int)<(IntKind.wrap .i64 (ex-ey))) then (70:Int) else (IntKind.wrap .i64 (ex-ey)))))-ey)),()))).1.1==(0:Int))&&((f119 ((f120 (((0:Int),(Y,())),((IntKind.wrap .i64 ((IntKind.wrap .i64 (ex-(if ((70:Int)<(IntKind.wrap .i64 (ex-ey))) then (70:Int) else (IntKind.wrap .i64 (ex-ey)))))-ey)),()))).1,((IntKind.wrap .i64 ((IntKind.wrap .i64 (ex-(if ((70:Int)<(IntKind.wrap .i64 (ex-ey))) then (70:Int) else (IntKind.wrap .i64 (ex-ey)))))-ey)),()))).1.2.1==Y)))||((decide ((IntKind.wrap .i64 ((IntKind.wrap .i64 (ex-(if ((70:Int)<(IntKind.wrap .i64 (ex-ey))) then (70:Int) else (IntKind.wrap .i64 (ex-ey)))))-ey))>(63:Int)))&&(Y != (0:Int)))))) then
 (bif (p118 (f,((m==(4:Int)),()))) then
 (some ((f118 (f,((m==(4:Int)),()))).1,((0:Int),((0:Int),()))))
 else none)
 else bif (p122 (f,(m,(nx,((f124 ((f119 (((0:Int),(X,())),((if ((70:Int)<(IntKind.wrap .i64 (ex-ey))) then (70:Int) else (IntKind.wrap .i64 (ex-ey))),()))).1,(f120 (((0:Int),(Y,())),((IntKind.wrap .i64 ((IntKind.wrap .i64 (ex-(if ((70:Int)<(IntKind.wrap .i64 (ex-ey))) then (70:Int) else (IntKind.wrap .i64 (ex-ey)))))-ey)),()))))).1,((IntKind.wrap .i64 (ex-(if ((70:Int)<(IntKind.wrap .i64 (ex-ey))) then (70:Int) else (IntKind.wrap .i64 (ex-ey))))),(((!(((f119 ((f120 (((0:Int),(Y,())),((IntKind.wrap .i64 ((IntKind.wrap .i64 (ex-(if ((70:Int)<(IntKind.wrap .i64 (ex-ey))) then (70:Int) else (IntKind.wrap .i64 (ex-ey)))))-ey)),()))).1,((IntKind.wrap .i64 ((IntKind.wrap .i64 (ex-(if ((70:Int)<(IntKind.wrap .i64 (ex-ey))) then (70:Int) else (IntKind.wrap .i64 (ex-ey)))))-ey)),()))).1.1==(0:Int))&&((f119 ((f120 (((0:Int),(Y,())),((IntKind.wrap .i64 ((IntKind.wrap .i64 (ex-(if ((70:Int)<(IntKind.wrap .i64 (ex-ey))) then (70:Int) else (IntKind.wrap .i64 (ex-ey)))))-ey)),()))).1,((IntKind.wrap .i64 ((IntKind.wrap .i64 (ex-(if ((70:Int)<(IntKind.wrap .i64 (ex-ey))) then (70:Int) else (IntKind.wrap .i64 (ex-ey)))))-ey)),()))).1.2.1==Y)))||((decide ((IntKind.wrap .i64 ((IntKind.wrap .i64 (ex-(if ((70:Int)<(IntKind.wrap .i64 (ex-ey))) then (70:Int) else (IntKind.wrap .i64 (ex-ey)))))-ey))>(63:Int)))&&(Y != (0:Int)))),()))))))) then
 (some (f122 (f,(m,(nx,((f124 ((f119 (((0:Int),(X,())),((if ((70:Int)<(IntKind.wrap .i64 (ex-ey))) then (70:Int) else (IntKind.wrap .i64 (ex-ey))),()))).1,(f120 (((0:Int),(Y,())),((IntKind.wrap .i64 ((IntKind.wrap .i64 (ex-(if ((70:Int)<(IntKind.wrap .i64 (ex-ey))) then (70:Int) else (IntKind.wrap .i64 (ex-ey)))))-ey)),()))))).1,((IntKind.wrap .i64 (ex-(if ((70:Int)<(IntKind.wrap .i64 (ex-ey))) then (70:Int) else (IntKind.wrap .i64 (ex-ey))))),(((!(((f119 ((f120 (((0:Int),(Y,())),((IntKind.wrap .i64 ((IntKind.wrap .i64 (ex-(if ((70:Int)<(IntKind.wrap .i64 (ex-ey))) then (70:Int) else (IntKind.wrap .i64 (ex-ey)))))-ey)),()))).1,((IntKind.wrap .i64 ((IntKind.wrap .i64 (ex-(if ((70:Int)<(IntKind.wrap .i64 (ex-ey))) then (70:Int) else (IntKind.wrap .i64 (ex-ey)))))-ey)),()))).1.1==(0:Int))&&((f119 ((f120 (((0:Int),(Y,())),((IntKind.wrap .i64 ((IntKind.wrap .i64 (ex-(if ((70:Int)<(IntKind.wrap .i64 (ex-ey))) then (70:Int) else (IntKind.wrap .i64 (ex-ey)))))-ey)),()))).1,((IntKind.wrap .i64 ((IntKind.wrap .i64 (ex-(if ((70:Int)<(IntKind.wrap .i64 (ex-ey))) then (70:Int) else (IntKind.wrap .i64 (ex-ey)))))-ey)),()))).1.2.1==Y)))||((decide ((IntKind.wrap .i64 ((IntKind.wrap .i64 (ex-(if ((70:Int)<(IntKind.wrap .i64 (ex-ey))) then (70:Int) else (IntKind.wrap .i64 (ex-ey)))))-ey))>(63:Int)))&&(Y != (0:Int)))),()))))))))
 else none)
 else none)
 else none)
 else none)
 else none)
 else none)
 else none
def t71 (p119:XY) (f119:Yh) (p120:qA) (f120:mS) (p121:tI) (f121:tU) (p123:Sb) (f123:So) (p124:sK) (f124:sJ) (p118:G8) (f118:GD) (p122:HX) (f122:Ik) (a0 a1:Aa (.int .i64)) (a2 a3:Aa (.pair (.bool) (.pair (.int .u64) (.pair (.int .i64) (.unit))))):Option (DenS Jk) :=
 bif (((a2.2.1==(0:Int))&&(a3.2.1==(0:Int)))&&(a2.1==a3.1)) then
 (bif (p118 (a0,a2.1,())) then (some ((f118 (a0,a2.1,())).1,(0:Int),(0:Int),())) else none)
 else bif ((a2.2.1==(0:Int))||((a3.2.1 != (0:Int))&&(decide (a2.2.2.1<a3.2.2.1)))) then
 (bif (a2.2.1==(0:Int)) then (kT p119 f119 p120 f120 p121 f121 p123 f123 p124 f124 p118 f118 p122 f122 a0 a1 a3.1 a3.2.1 a3.2.2.1 a2.1 a2.2.1 a3.2.2.1) else (kT p119 f119 p120 f120 p121 f121 p123 f123 p124 f124 p118 f118 p122 f122 a0 a1 a3.1 a3.2.1 a3.2.2.1 a2.1 a2.2.1 a2.2.2.1))
 else bif (a3.2.1==(0:Int)) then (kT p119 f119 p120 f120 p121 f121 p123 f123 p124 f124 p118 f118 p122 f122 a0 a1 a2.1 a2.2.1 a2.2.2.1 a3.1 a3.2.1 a2.2.2.1)
 else (kT p119 f119 p120 f120 p121 f121 p123 f123 p124 f124 p118 f118 p122 f122 a0 a1 a2.1 a2.2.1 a2.2.2.1 a3.1 a3.2.1 a3.2.2.1)
theorem r71 (x:DenS MV):run (cf [(114,⟨H2,JP,p119,f119⟩),(115,⟨JI,LG,p120,f120⟩),(116,⟨IK,Mw,p121,f121⟩),(117,⟨GH,Ht,p123,f123⟩),(118,⟨JJ,Kw,p124,f124⟩),(38,⟨EG,EZ,p118,f118⟩),(66,⟨E1,Fc,p122,f122⟩)] []) 9 57 Tryz.f57 MV Jk x=t71 p119 f119 p120 f120 p121 f121 p123 f123 p124 f124 p118 f118 p122 f122 x.1 x.2.1 x.2.2.1 x.2.2.2.1:=by kernel_rfl
def VE (x:DenS MV):Option (DenS Jk):=t71 AG.pre AG.F AM.pre AM.F Mg.pre Mg.F Dt.pre Dt.F BI.pre BI.F A3.pre A3.F A4.pre A4.F x.1 x.2.1 x.2.2.1 x.2.2.2.1
def Nh:Sum:=Al MV Jk VE (DenS.dflt Jk)
theorem aQ8:Sound Tryz.prog G1 57 Nh:=sd (cf [(114,AG),(115,AM),(116,Mg),(117,Dt),(118,BI),(38,A3),(66,A4)] []) 57 Tryz.f57 ⟨aBu,aUY,aTy,aFU,aLF,SR,Vn,trivial⟩ trivial MV Jk VE _ (fun _=>r71 ..)
abbrev vZ:=Ak MV
abbrev pB:=Aj MV Jk
variable (p71:vZ) (f71:pB)
end Vx
namespace Vx
open Go Go.Proofs
variable (p69:BM) (f69:BQ) (p66:Cm) (f66:Cj) (p91:HO) (f91:Ie) (p90:Y2) (f90:Yc) (p65:Ex) (f65:Ez) (p70:D3) (f70:D8) (p98:JH) (f98:II) (p72:u7) (f72:rL) (p155:Df) (f155:Dd) (p157:Gs) (f157:GN) (p118:G8) (f118:GD) (p105:Vv) (f105:TH) (p173:A7) (f173:A8) (p146:RT) (f146:Sc) (p102:GM) (f102:G3) (p178:He) (f178:Hx) (p151:KT) (f151:L5) (p156:dE) (f156:jJ) (p1173:ML) (f1173:Py) (p171:Sl) (f171:Sk) (p92:JE) (f92:JQ) (p186:Te) (f186:Tu) (p185:Vu) (f185:UC) (p176:Uq) (f176:T9) (p143:Nj) (f143:PH) (p97:NO) (f97:MQ) (p107:Uh) (f107:UX) (p122:HX) (f122:Ik) (p71:vZ) (f71:pB)
abbrev KC:Ab:=[(false,.int .i64),(false,.int .i64),(false,.int .u64),(false,.int .u64)]
abbrev MF:Ab:=[(false,.int .u64),(false,.int .i64),(false,.int .i64)]
def j7 (p69:BM) (f69:BQ) (p65:Ex) (f65:Ez) (p70:D3) (f70:D8) (p72:u7) (f72:rL) (p71:vZ) (f71:pB) (a0 a1:Aa (.int .i64)) (a2 a3:Aa (.int .u64)):Option (DenS MF) :=
 let e1_:=(a0,a1,(f72 (a0,(f69 (a0,())).1,a2,())).1,(f72 (a0,(f69 (a0,())).1,a3,())))
 let e2_:=(((f65 (a0,a2,())).1==(2:Int))||((f65 (a0,a2,())).1==(9:Int)))
 let e3_:=(((f65 (a0,a3,())).1==(2:Int))||((f65 (a0,a3,())).1==(9:Int)))
 let e4_:=((f70 (a0,())).1,(1:Int),(0:Int),())
 bif (p69 (a0,())) then (bif ((f69 (a0,())).2.1 != (0:Int)) then (some ((0:Int),(0:Int),(f69 (a0,())).2))
 else bif ((decide (a1<(0:Int)))||(decide (a1>(5:Int)))) then (some ((0:Int),(0:Int),(3:Int),()))
 else bif (p65 (a0,a2,())) then (bif ((f65 (a0,a2,())).2.1 != (0:Int)) then (some ((0:Int),(0:Int),(f65 (a0,a2,())).2))
 else bif (p65 (a0,a3,())) then (bif ((f65 (a0,a3,())).2.1 != (0:Int)) then (some ((0:Int),(0:Int),(f65 (a0,a3,())).2))
 else bif (p70 (a0,())) then (bif (((f65 (a0,a2,())).1==(0:Int))||((f65 (a0,a3,())).1==(0:Int))) then (some e4_)
 else bif (((f65 (a0,a2,())).1==(1:Int))||((f65 (a0,a3,())).1==(1:Int))) then (some ((f70 (a0,())).1,(0:Int),(0:Int),()))
 else bif ((e2_&&e3_)&&((f65 (a0,a2,())).1 != (f65 (a0,a3,())).1)) then (some e4_)
 else bif e2_ then (some (a2,(0:Int),(0:Int),()))
 else bif e3_ then (some (a3,(0:Int),(0:Int),()))
 else bif (p72 (a0,(f69 (a0,())).1,a2,())) then (bif (p72 (a0,(f69 (a0,())).1,a3,())) then (bif (p71 e1_) then (some (f71 e1_))
 else none)
 else none)
 else none)
 else none)
 else none)
 else none)
 else none
theorem r27 (x:DenS KC):run (cf [(54,⟨Ck,Cn,p69,f69⟩),(55,⟨DO,DV,p65,f65⟩),(56,⟨DG,DJ,p70,f70⟩),(58,⟨Qb,Qq,p72,f72⟩),(57,⟨MV,Jk,p71,f71⟩)] []) 9 15 Tryz.f15 KC MF x=j7 p69 f69 p65 f65 p70 f70 p72 f72 p71 f71 x.1 x.2.1 x.2.2.1 x.2.2.2.1:=by kernel_rfl
def Wo (x:DenS KC):Option (DenS MF):=j7 Aq.pre Aq.F AF.pre AF.F AB.pre AB.F Rw.pre Rw.F Nh.pre Nh.F x.1 x.2.1 x.2.2.1 x.2.2.2.1
def Fb:Sum:=Al KC MF Wo (DenS.dflt MF)
theorem nX:Sound Tryz.prog G1 15 Fb:=sd (cf [(54,Aq),(55,AF),(56,AB),(58,Rw),(57,Nh)] []) 15 Tryz.f15 ⟨Er,HW,Ha,aLI,aQ8,trivial⟩ trivial KC MF Wo _ (fun _=>r27 ..)
abbrev jX:=Ak KC
abbrev cG:=Aj KC MF
variable (p27:jX) (f27:cG)
abbrev JG:Ab:=[(false,.int .i64)]
abbrev I4:Ab:=[(false,.int .u64)]
def yT (a0:Aa (.int .i64)):Option (DenS I4) :=
 let e1_:=(IntKind.wrap .i64 ((Vx.k_rows.getD (Int.toNat a0) ((0:Int),(0:Int),(0:Int),(0:Int),())).1-(1:Int)))
 bif ((decide ((0:Int)<=a0))&&(decide (a0<((4:Nat):Int)))) then (bif (decide ((0:Int)<=e1_)) then (some ((AT .u64 (1:Int) e1_),()))
 else none)
 else none
theorem aIb (x:DenS JG):run (cf [] []) 9 120 Tryz.f120 JG I4 x=yT x.1:=by kernel_rfl
def ZT (x:DenS JG):Option (DenS I4):=yT x.1
def Dq:Sum:=Al JG I4 ZT (DenS.dflt I4)
theorem pZ:Sound Tryz.prog G1 120 Dq:=sd (cf [] []) 120 Tryz.f120 trivial trivial JG I4 ZT _ (fun _=>aIb ..)
abbrev Zd:=Ak JG
abbrev XA:=Aj JG I4
variable (p115:Zd) (f115:XA)
abbrev JR:Ab:=[(false,.int .i64),(false,.int .u64)]
abbrev IG:Ab:=[(false,.int .u64),(false,.int .i64)]
def UQ (p66:Cm) (f66:Cj) (p115:Zd) (f115:XA) (a0:Aa (.int .i64)) (a1:Aa (.int .u64)):Option (DenS IG) :=
 bif (p66 (a0,a1,())) then (bif ((f66 (a0,a1,())).1 != (0:Int)) then (some ((0:Int),(f66 (a0,a1,()))))
 else bif (p115 (a0,())) then (some ((fK .u64 a1 (f115 (a0,())).1),(0:Int),()))
 else none)
 else none
theorem r64 (x:DenS JR):run (cf [(59,⟨CJ,CM,p66,f66⟩),(120,⟨JG,I4,p115,f115⟩)] []) 9 60 Tryz.f60 JR IG x=UQ p66 f66 p115 f115 x.1 x.2.1:=by kernel_rfl
def Sp (x:DenS JR):Option (DenS IG):=UQ Ar.pre Ar.F Dq.pre Dq.F x.1 x.2.1
def DN:Sum:=Al JR IG Sp (DenS.dflt IG)
theorem iP:Sound Tryz.prog G1 60 DN:=sd (cf [(59,Ar),(120,Dq)] []) 60 Tryz.f60 ⟨Ge,pZ,trivial⟩ trivial JR IG Sp _ (fun _=>r64 ..)
abbrev TT:=Ak JR
abbrev Vr:=Aj JR IG
variable (p64:TT) (f64:Vr)
abbrev Pm:Ab:=[(false,.int .i64),(false,.int .i64),(false,.int .u64),(false,.int .u64)]
abbrev Pr:Ab:=[(false,.int .u64),(false,.int .i64),(false,.int .i64)]
def eP (p66:Cm) (f66:Cj) (p64:TT) (f64:Vr) (p27:jX) (f27:cG) (a0 a1:Aa (.int .i64)) (a2 a3:Aa (.int .u64)):Option (DenS Pr) :=
 let e1_:=(a0,a1,a2,(f64 (a0,a3,())).1,())
 bif (p66 (a0,a3,())) then (bif ((f66 (a0,a3,())).1==(0:Int)) then (bif (p64 (a0,a3,())) then (bif (p27 e1_) then (some (f27 e1_))
 else none)
 else none)
 else bif (p27 (a0,a1,a2,a3,())) then (some (f27 (a0,a1,a2,a3,())))
 else none)
 else none
theorem r25 (x:DenS Pm):run (cf [(59,⟨CJ,CM,p66,f66⟩),(60,⟨JR,IG,p64,f64⟩),(15,⟨KC,MF,p27,f27⟩)] []) 9 16 Tryz.f16 Pm Pr x=eP p66 f66 p64 f64 p27 f27 x.1 x.2.1 x.2.2.1 x.2.2.2.1:=by kernel_rfl
def XJ (x:DenS Pm):Option (DenS Pr):=eP Ar.pre Ar.F DN.pre DN.F Fb.pre Fb.F x.1 x.2.1 x.2.2.1 x.2.2.2.1
def Kh:Sum:=Al Pm Pr XJ (DenS.dflt Pr)
theorem aAV:Sound Tryz.prog G1 16 Kh:=sd (cf [(59,Ar),(60,DN),(15,Fb)] []) 16 Tryz.f16 ⟨Ge,iP,nX,trivial⟩ trivial Pm Pr XJ _ (fun _=>r25 ..)
abbrev oQ:=Ak Pm
abbrev oX:=Aj Pm Pr
variable (p25:oQ) (f25:oX)
abbrev PU:Ab:=[(false,.int .i64),(true,.pair (.int .i64) (.pair (.int .i64) (.pair (.int .i64) (.pair (.int .i64) (.unit))))),(false,.int .u64)]
abbrev Q4:Ab:=[(true,.pair (.int .i64) (.pair (.bool) (.pair (.int .u64) (.pair (.int .i64) (.unit))))),(false,.int .i64)]
def UU (p65:Ex) (f65:Ez) (p98:JH) (f98:II) (a0:Aa (.int .i64)) (a1:Aa (.pair (.int .i64) (.pair (.int .i64) (.pair (.int .i64) (.pair (.int .i64) (.unit)))))) (a2:Aa (.int .u64)):Option (DenS Q4) :=
 let e1_:=(IntKind.wrap .i64 (a1.2.1-(1:Int)))
 bif (p65 (a0,a2,())) then (bif ((f65 (a0,a2,())).2.1 != (0:Int)) then (some (((0:Int),false,(0:Int),(0:Int),()),(f65 (a0,a2,())).2))
 else bif (p98 (a0,a2,())) then (bif ((f98 (a0,a2,())).2.1==(0:Int)) then (some (((f65 (a0,a2,())).1,(f98 (a0,a2,())).1,(f98 (a0,a2,())).2.2.1,(IntKind.wrap .i64 ((IntKind.wrap .i64 ((IntKind.wrap .i64 ((IntKind.wrap .i64 ((IntKind.wrap .i64 (1:Int))-(1:Int)))+a1.2.2.1))-a1.2.1))+(1:Int))),()),(0:Int),()))
 else bif (decide ((0:Int)<=e1_)) then (some (((f65 (a0,a2,())).1,(f98 (a0,a2,())).1,(AW .u64 (f98 (a0,a2,())).2.2.1 (AT .u64 (1:Int) e1_)),(IntKind.wrap .i64 ((IntKind.wrap .i64 ((IntKind.wrap .i64 ((IntKind.wrap .i64 ((IntKind.wrap .i64 (f98 (a0,a2,())).2.1)-(1:Int)))+a1.2.2.1))-a1.2.1))+(1:Int))),()),(0:Int),()))
 else none)
 else none)
 else none
theorem aM8 (x:DenS PU):run (cf [(55,⟨DO,DV,p65,f65⟩),(119,⟨FL,Fi,p98,f98⟩)] []) 9 61 Tryz.f61 PU Q4 x=UU p65 f65 p98 f98 x.1 x.2.1 x.2.2.1:=by kernel_rfl
def Tg (x:DenS PU):Option (DenS Q4):=UU AF.pre AF.F Bo.pre Bo.F x.1 x.2.1 x.2.2.1
def M8:Sum:=Al PU Q4 Tg (DenS.dflt Q4)
theorem aN0:Sound Tryz.prog G1 61 M8:=sd (cf [(55,AF),(119,Bo)] []) 61 Tryz.f61 ⟨HW,RU,trivial⟩ trivial PU Q4 Tg _ (fun _=>aM8 ..)
abbrev aBS:=Ak PU
abbrev aDu:=Aj PU Q4
variable (p350:aBS) (f350:aDu)
abbrev Qr:Ab:=[(true,.pair (.int .i64) (.pair (.bool) (.pair (.int .u64) (.pair (.int .i64) (.unit)))))]
abbrev QH:Ab:=[(false,.bool)]
def aB2 (a0:Aa (.pair (.int .i64) (.pair (.bool) (.pair (.int .u64) (.pair (.int .i64) (.unit)))))):Option (DenS QH) :=
 some (((a0.1==(1:Int))||(a0.1==(0:Int))),())
theorem aNp (x:DenS Qr):run (cf [] []) 9 62 Tryz.f62 Qr QH x=aB2 x.1:=by kernel_rfl
def V2 (x:DenS Qr):Option (DenS QH):=aB2 x.1
def P5:Sum:=Al Qr QH V2 (DenS.dflt QH)
theorem aO2:Sound Tryz.prog G1 62 P5:=sd (cf [] []) 62 Tryz.f62 trivial trivial Qr QH V2 _ (fun _=>aNp ..)
abbrev aCl:=Ak Qr
abbrev aEQ:=Aj Qr QH
variable (p351:aCl) (f351:aEQ)
abbrev QU:Ab:=[(true,.pair (.int .i64) (.pair (.bool) (.pair (.int .u64) (.pair (.int .i64) (.unit)))))]
abbrev QL:Ab:=[(false,.bool)]
def aBp (a0:Aa (.pair (.int .i64) (.pair (.bool) (.pair (.int .u64) (.pair (.int .i64) (.unit)))))):Option (DenS QL) :=
 some (((a0.1==(2:Int))||(a0.1==(9:Int))),())
theorem aKt (x:DenS QU):run (cf [] []) 9 63 Tryz.f63 QU QL x=aBp x.1:=by kernel_rfl
def Xg (x:DenS QU):Option (DenS QL):=aBp x.1
def N1:Sum:=Al QU QL Xg (DenS.dflt QL)
theorem aPC:Sound Tryz.prog G1 63 N1:=sd (cf [] []) 63 Tryz.f63 trivial trivial QU QL Xg _ (fun _=>aKt ..)
abbrev yX:=Ak QU
abbrev aBv:=Aj QU QL
variable (p352:yX) (f352:aBv)
abbrev NE:Ab:=[(true,.pair (.int .i64) (.pair (.bool) (.pair (.int .u64) (.pair (.int .i64) (.unit)))))]
abbrev MW:Ab:=[(false,.bool)]
def aBQ (a0:Aa (.pair (.int .i64) (.pair (.bool) (.pair (.int .u64) (.pair (.int .i64) (.unit)))))):Option (DenS MW) :=
 some (((a0.1==(5:Int))||(a0.1==(6:Int))),())
theorem aUM (x:DenS NE):run (cf [] []) 9 64 Tryz.f64 NE MW x=aBQ x.1:=by kernel_rfl
def WG (x:DenS NE):Option (DenS MW):=aBQ x.1
def Om:Sum:=Al NE MW WG (DenS.dflt MW)
theorem aQq:Sound Tryz.prog G1 64 Om:=sd (cf [] []) 64 Tryz.f64 trivial trivial NE MW WG _ (fun _=>aUM ..)
abbrev aEK:=Ak NE
abbrev aFj:=Aj NE MW
variable (p353:aEK) (f353:aFj)
abbrev EL:Ab:=[(false,.int .u64),(false,.int .u64)]
abbrev EA:Ab:=[(false,.int .u64),(false,.int .u64)]
def gX (a0 a1:Aa (.int .u64)):Option (DenS EA) :=
 let e2_:=(AQ .u64 a1 (4294967295:Int))
 let e3_:=(AQ .u64 a0 (4294967295:Int))
 let e1_:=(IntKind.wrap .u64 ((IntKind.wrap .u64 ((AI .u64 a0 (32:Int))*e2_))+(AI .u64 (IntKind.wrap .u64 (e3_*e2_)) (32:Int))))
 some ((IntKind.wrap .u64 ((IntKind.wrap .u64 ((IntKind.wrap .u64 ((AI .u64 a0 (32:Int))*(AI .u64 a1 (32:Int))))+(AI .u64 e1_ (32:Int))))+(AI .u64 (IntKind.wrap .u64 ((AQ .u64 e1_ (4294967295:Int))+(IntKind.wrap .u64 (e3_*(AI .u64 a1 (32:Int)))))) (32:Int)))),(IntKind.wrap .u64 (a0*a1)),())
theorem aTQ (x:DenS EL):run (cf [] []) 9 126 Tryz.f126 EL EA x=gX x.1 x.2.1:=by kernel_rfl
def Zk (x:DenS EL):Option (DenS EA):=gX x.1 x.2.1
def AP:Sum:=Al EL EA Zk (DenS.dflt EA)
theorem cU:Sound Tryz.prog G1 126 AP:=sd (cf [] []) 126 Tryz.f126 trivial trivial EL EA Zk _ (fun _=>aTQ ..)
abbrev EF:=Ak EL
abbrev EH:=Aj EL EA
variable (p315:EF) (f315:EH)
abbrev Jq:Ab:=[(false,.int .u64),(false,.int .u64)]
abbrev Jv:Ab:=[(true,.pair (.int .u64) (.pair (.int .u64) (.unit)))]
def gH (p315:EF) (f315:EH) (a0 a1:Aa (.int .u64)):Option (DenS Jv) :=
 bif (p315 (a0,a1,())) then (some ((f315 (a0,a1,())),()))
 else none
theorem aND (x:DenS Jq):run (cf [(126,⟨EL,EA,p315,f315⟩)] []) 9 67 Tryz.f67 Jq Jv x=gH p315 f315 x.1 x.2.1:=by kernel_rfl
def ZQ (x:DenS Jq):Option (DenS Jv):=gH AP.pre AP.F x.1 x.2.1
def C7:Sum:=Al Jq Jv ZQ (DenS.dflt Jv)
theorem aBY:Sound Tryz.prog G1 67 C7:=sd (cf [(126,AP)] []) 67 Tryz.f67 ⟨cU,trivial⟩ trivial Jq Jv ZQ _ (fun _=>aND ..)
abbrev Tk:=Ak Jq
abbrev Uv:=Aj Jq Jv
variable (p316:Tk) (f316:Uv)
abbrev QB:Ab:=[(false,.int .i64),(false,.int .i64),(false,.int .u64),(false,.int .u64)]
abbrev Pf:Ab:=[(false,.int .u64),(false,.int .i64),(false,.int .i64)]
def Z7 (p69:BM) (f69:BQ) (p350:aBS) (f350:aDu) (p351:aCl) (f351:aEQ) (p70:D3) (f70:D8) (p352:yX) (f352:aBv) (p97:NO) (f97:MQ) (p353:aEK) (f353:aFj) (p118:G8) (f118:GD) (p316:Tk) (f316:Uv) (p122:HX) (f122:Ik) (a0 a1:Aa (.int .i64)) (a2 a3:Aa (.int .u64)):Option (DenS Pf) :=
 let e18_:=(!((f350 (a0,(f69 (a0,())).1,a2,())).1.2.1==(f350 (a0,(f69 (a0,())).1,a3,())).1.2.1))
 let e17_:=((f350 (a0,(f69 (a0,())).1,a2,())).1.2.2.1,(f350 (a0,(f69 (a0,())).1,a3,())).1.2.2.1,())
 let e1_:=(a0,a1,e18_,(f316 e17_).1,(IntKind.wrap .i64 ((f350 (a0,(f69 (a0,())).1,a2,())).1.2.2.2.1+(f350 (a0,(f69 (a0,())).1,a3,())).1.2.2.2.1)),false,())
 let e20_:=((f350 (a0,(f69 (a0,())).1,a2,())).1,())
 let e19_:=(f352 e20_)
 let e21_:=((f350 (a0,(f69 (a0,())).1,a3,())).1,())
 let e2_:=(e19_.1&&(f353 e21_).1)
 let e16_:=(a0,e18_,())
 let e3_:=(f118 e16_)
 let e4_:=(f97 e16_)
 let e5_:=e16_
 let e6_:=(f353 e20_)
 let e7_:=e19_
 let e8_:=(f351 e20_)
 let e9_:=(p352 e20_)
 let e10_:=(p353 e21_)
 let e11_:=(p353 e20_)
 let e12_:=(p352 e21_)
 let e13_:=(f352 e21_)
 let e14_:=e21_
 let e15_:=((f70 (a0,())).1,(1:Int),(f70 (a0,())).2)
 bif (p69 (a0,())) then (bif ((f69 (a0,())).2.1 != (0:Int)) then (some ((0:Int),(0:Int),(f69 (a0,())).2))
 else bif ((decide (a1<(0:Int)))||(decide (a1>(5:Int)))) then (some ((0:Int),(0:Int),(3:Int),()))
 else bif (p350 (a0,(f69 (a0,())).1,a2,())) then (bif ((f350 (a0,(f69 (a0,())).1,a2,())).2.1 != (0:Int)) then (some ((0:Int),(0:Int),(f350 (a0,(f69 (a0,())).1,a2,())).2))
 else bif (p350 (a0,(f69 (a0,())).1,a3,())) then (bif ((f350 (a0,(f69 (a0,())).1,a3,())).2.1 != (0:Int)) then (some ((0:Int),(0:Int),(f350 (a0,(f69 (a0,())).1,a3,())).2))
 else bif (p351 e20_) then (bif ((p351 e14_)||(!(bif e8_.1 then false else true))) then (bif (e8_.1||(f351 e14_).1) then (bif (((f350 (a0,(f69 (a0,())).1,a2,())).1.1==(0:Int))||((f350 (a0,(f69 (a0,())).1,a3,())).1.1==(0:Int))) then (bif (p70 (a0,())) then (some e15_)
 else none)
 else bif (p70 (a0,())) then (some ((f70 (a0,())).1,(0:Int),(f70 (a0,())).2))
 else none)
 else bif e9_ then (bif (e10_||(!e7_.1)) then (bif (e11_||(!(bif e2_ then false else true))) then (bif (e12_||(!((bif e2_ then false else true)&&e6_.1))) then (bif (e2_||(e6_.1&&e13_.1)) then (bif (p70 (a0,())) then (some e15_)
 else none)
 else bif e9_ then (bif (e12_||(!(bif e7_.1 then false else true))) then (bif (e7_.1||e13_.1) then (bif (p97 e5_) then (some (e4_.1,(0:Int),e4_.2))
 else none)
 else bif e11_ then (bif (e10_||(!(bif e6_.1 then false else true))) then (bif (e6_.1||(f353 e14_).1) then (bif (p118 e5_) then (some (e3_.1,(0:Int),e3_.2))
 else none)
 else bif (p316 e17_) then (bif (p122 e1_) then (some (f122 e1_))
 else none)
 else none)
 else none)
 else none)
 else none)
 else none)
 else none)
 else none)
 else none)
 else none)
 else none)
 else none)
 else none)
 else none)
 else none
theorem aRQ (x:DenS QB):run (cf [(54,⟨Ck,Cn,p69,f69⟩),(61,⟨PU,Q4,p350,f350⟩),(62,⟨Qr,QH,p351,f351⟩),(56,⟨DG,DJ,p70,f70⟩),(63,⟨QU,QL,p352,f352⟩),(65,⟨GJ,GP,p97,f97⟩),(64,⟨NE,MW,p353,f353⟩),(38,⟨EG,EZ,p118,f118⟩),(67,⟨Jq,Jv,p316,f316⟩),(66,⟨E1,Fc,p122,f122⟩)] []) 9 17 Tryz.f17 QB Pf x=Z7 p69 f69 p350 f350 p351 f351 p70 f70 p352 f352 p97 f97 p353 f353 p118 f118 p316 f316 p122 f122 x.1 x.2.1 x.2.2.1 x.2.2.2.1:=by kernel_rfl
def ZP (x:DenS QB):Option (DenS Pf):=Z7 Aq.pre Aq.F M8.pre M8.F P5.pre P5.F AB.pre AB.F N1.pre N1.F B4.pre B4.F Om.pre Om.F A3.pre A3.F C7.pre C7.F A4.pre A4.F x.1 x.2.1 x.2.2.1 x.2.2.2.1
def MH:Sum:=Al QB Pf ZP (DenS.dflt Pf)
theorem zM:Sound Tryz.prog G1 17 MH:=sd (cf [(54,Aq),(61,M8),(62,P5),(56,AB),(63,N1),(65,B4),(64,Om),(38,A3),(67,C7),(66,A4)] []) 17 Tryz.f17 ⟨Er,aN0,aO2,Ha,aPC,Y5,aQq,SR,aBY,Vn,trivial⟩ trivial QB Pf ZP _ (fun _=>aRQ ..)
abbrev sW:=Ak QB
abbrev sZ:=Aj QB Pf
variable (p354:sW) (f354:sZ)
abbrev O1:Ab:=[(false,.int .i64),(false,.int .i64),(false,.slice (.int .u64))]
abbrev Ny:Ab:=[(false,.int .i64)]
abbrev Hm:Pat:=⟨39,[(27,.one (.v .i64)),(26,.one (.sl (.int .u64))),(0,.one (.v .i64)),(28,.one (.v .i64))],[]⟩
abbrev kH:List (Nat×Shape):=[]
abbrev L7:List (Nat×Pat):=[(0,⟨39,[],[]⟩)]
abbrev Km:Option Pat:=(some ⟨39,[(6,.one (.v .i64))],[]⟩)
variable (w376_7:Pat.D Hm->Option (Ah L7 Km))
def Uo (p69:BM) (f69:BQ) (p66:Cm) (f66:Cj) {R:Type} (L:Pat.D Hm->Option R) (e:Ah L7 Km->Option R) (x:Pat.D Hm):Option R :=
 let e2_:=(x.1.2.2.1,(x.1.2.1.getD (Int.toNat x.1.2.2.2.1) (0:Int)),())
 let e1_:=(f66 e2_)
 bif (decide (x.1.2.2.2.1<x.1.1)) then (bif ((decide ((0:Int)<=x.1.2.2.2.1))&&(decide (x.1.2.2.2.1<(x.1.2.1.length:Int)))) then (bif (p66 e2_) then (bif (e1_.1 != (0:Int)) then (((e (.inr (e1_,())))))
 else (L ((x.1.1,x.1.2.1,x.1.2.2.1,(IntKind.wrap .i64 (x.1.2.2.2.1+(1:Int))),()),())))
 else none)
 else none)
 else (e (.inl ((),())))
theorem aIy (d:Nat) (R:Type) (L:Pat.D Hm->Option R) (e:Ah L7 Km->Option R) (x:Pat.D Hm) :
  BB (cf [(54,⟨Ck,Cn,p69,f69⟩),(59,⟨CJ,CM,p66,f66⟩)] [(68,7,LoopSpec.of Hm kH L7 Km w376_7)]) (d+2) 68 (By Tryz.f68 7) Hm kH L7 Km (R:=R) L e x=Uo p69 f69 p66 f66 L e x:=by kernel_rfl
theorem aBB (p69:BM) (f69:BQ) (p66:Cm) (f66:Cj):Bs fun L e x=>Uo p69 f69 p66 f66 L e x:=by intro _ _ _ _ _ _ _ h0 hL he _; unfold Uo; repeat' (first | exact h0 | exact hL _ | exact he _ | apply BU | (apply BX h0; intro _) | (apply B5 <;> intro _))
def lT (p69:BM) (f69:BQ) (p66:Cm) (f66:Cj) (w376_7:Pat.D Hm->Option (Ah L7 Km)) (a0 a1:Aa (.int .i64)) (a2:Aa (.slice (.int .u64))):Option (DenS Ny) :=
 bif (p69 (a0,())) then (bif ((f69 (a0,())).2.1 != (0:Int)) then (some (f69 (a0,())).2)
 else bif ((decide (a1<(0:Int)))||(decide (a1>(5:Int)))) then (some ((3:Int),()))
 else Vx.A1 (w376_7 (((a2.length:Int),a2,a0,(0:Int),()),())) fun y3 =>
 Vx.A6 y3 (fun y4 =>
 some ((0:Int),())) (fun z4 =>
 some z4.1))
 else none
theorem aOY (x:DenS O1):run (cf [(54,⟨Ck,Cn,p69,f69⟩),(59,⟨CJ,CM,p66,f66⟩)] [(68,7,LoopSpec.of Hm kH L7 Km w376_7)]) 9 68 Tryz.f68 O1 Ny x=lT p69 f69 p66 f66 w376_7 x.1 x.2.1 x.2.2.1:=by kernel_rfl
def jC:Hm.D->Option (Ah L7 Km):=Bf fun L=>Uo Aq.pre Aq.F Ar.pre Ar.F L some
def Vs (x:DenS O1):Option (DenS Ny):=lT Aq.pre Aq.F Ar.pre Ar.F jC x.1 x.2.1 x.2.2.1
def RC:Sum:=Al O1 Ny Vs (DenS.dflt Ny)
theorem aRF:Sound Tryz.prog G1 68 RC:=sd (cf [(54,Aq),(59,Ar)] [(68,7,LoopSpec.of Hm kH L7 Km jC)]) 68 Tryz.f68 ⟨Er,Ge,trivial⟩ ⟨rfl,fun d=>Ca (fun L e x=>Uo Aq.pre Aq.F Ar.pre Ar.F L e x) (aBB Aq.pre Aq.F Ar.pre Ar.F) (fun _ _ _ _=>aIy ..),trivial⟩ O1 Ny Vs _ (fun _=>aOY ..)
abbrev aEs:=Ak O1
abbrev aGU:=Aj O1 Ny
variable (p376:aEs) (f376:aGU)
abbrev MO:Ab:=[(false,.int .i64),(false,.int .u64)]
abbrev RD:Ab:=[(true,.pair (.bool) (.pair (.bool) (.pair (.bool) (.pair (.bool) (.pair (.bool) (.unit))))))]
def aV (p65:Ex) (f65:Ez) (p98:JH) (f98:II) (a0:Aa (.int .i64)) (a1:Aa (.int .u64)):Option (DenS RD) :=
 bif (p65 (a0,a1,())) then (bif (p98 (a0,a1,())) then (some (((((f65 (a0,a1,())).1==(1:Int))||((f65 (a0,a1,())).1==(0:Int))),((f65 (a0,a1,())).1==(0:Int)),(((f65 (a0,a1,())).1==(9:Int))||((f65 (a0,a1,())).1==(2:Int))),(((f65 (a0,a1,())).1==(6:Int))||((f65 (a0,a1,())).1==(5:Int))),(f98 (a0,a1,())).1,()),()))
 else none)
 else none
theorem aTb (x:DenS MO):run (cf [(55,⟨DO,DV,p65,f65⟩),(119,⟨FL,Fi,p98,f98⟩)] []) 9 69 Tryz.f69 MO RD x=aV p65 f65 p98 f98 x.1 x.2.1:=by kernel_rfl
def Xt (x:DenS MO):Option (DenS RD):=aV AF.pre AF.F Bo.pre Bo.F x.1 x.2.1
def NZ:Sum:=Al MO RD Xt (DenS.dflt RD)
theorem aSI:Sound Tryz.prog G1 69 NZ:=sd (cf [(55,AF),(119,Bo)] []) 69 Tryz.f69 ⟨HW,RU,trivial⟩ trivial MO RD Xt _ (fun _=>aTb ..)
abbrev aCI:=Ak MO
abbrev yV:=Aj MO RD
variable (p377:aCI) (f377:yV)
abbrev Qx:Ab:=[(false,.int .i64),(false,.int .i64)]
abbrev NV:Ab:=[(false,.int .u64),(false,.int .i64),(false,.int .i64)]
def fS (p70:D3) (f70:D8) (a0 a1:Aa (.int .i64)):Option (DenS NV) :=
 bif (p70 (a0,())) then (some ((f70 (a0,())).1,a1,(f70 (a0,())).2))
 else none
theorem aO9 (x:DenS Qx):run (cf [(56,⟨DG,DJ,p70,f70⟩)] []) 9 70 Tryz.f70 Qx NV x=fS p70 f70 x.1 x.2.1:=by kernel_rfl
def Zz (x:DenS Qx):Option (DenS NV):=fS AB.pre AB.F x.1 x.2.1
def Pc:Sum:=Al Qx NV Zz (DenS.dflt NV)
theorem aMS:Sound Tryz.prog G1 70 Pc:=sd (cf [(56,AB)] []) 70 Tryz.f70 ⟨Ha,trivial⟩ trivial Qx NV Zz _ (fun _=>aO9 ..)
abbrev zQ:=Ak Qx
abbrev aDb:=Aj Qx NV
variable (p378:zQ) (f378:aDb)
abbrev Gp:Ab:=[(false,.int .i64),(false,.int .u64)]
abbrev GG:Ab:=[(true,.pair (.bool) (.pair (.slice (.int .u64)) (.pair (.int .i64) (.unit)))),(false,.int .i64)]
def Tf (p66:Cm) (f66:Cj) (p90:Y2) (f90:Yc) (p91:HO) (f91:Ie) (p92:JE) (f92:JQ) (a0:Aa (.int .i64)) (a1:Aa (.int .u64)):Option (DenS GG) :=
 let e10_:=(Vx.k_rows.getD (Int.toNat a0) ((0:Int),(0:Int),(0:Int),(0:Int),()))
 let e9_:=(f90 (e10_,a1,()))
 let e8_:=(AW .u64 e9_.2.2.1 (AT .u64 (1:Int) (IntKind.wrap .i64 (e10_.2.1-(1:Int)))))
 let e1_:=(f92 (e8_,()))
 let e2_:=e8_
 let e3_:=((IntKind.wrap .i64 (e10_.1-e10_.2.1)),())
 let e4_:=(f92 e9_.2.2)
 let e5_:=e9_
 let e6_:=e10_
 let e7_:=((false,[],(0:Int),()),(0:Int),())
 bif (p66 (a0,a1,())) then (bif ((f66 (a0,a1,())).1 != (0:Int)) then (some ((false,[],(0:Int),()),(f66 (a0,a1,()))))
 else bif (bif (decide ((0:Int)<=a0)) then (decide (a0<((4:Nat):Int))) else false) then (bif (p90 (e6_,a1,())) then (bif (p91 e3_) then (bif (e5_.2.1==(f91 e3_).1) then (some ((false,[],(0:Int),()),(40:Int),()))
 else bif (e5_.2.1==(0:Int)) then (bif (e5_.2.2.1==(0:Int)) then (some e7_)
 else bif (p92 e5_.2.2) then (bif (decide ((0:Int)<=e4_.1)) then (some ((e5_.1,((AI .u64 e5_.2.2.1 e4_.1)::[]),(IntKind.wrap .i64 ((IntKind.wrap .i64 ((IntKind.wrap .i64 ((IntKind.wrap .i64 ((IntKind.wrap .i64 ((IntKind.wrap .i64 (1:Int))-(1:Int)))+e6_.2.2.1))-e6_.2.1))+(1:Int)))+e4_.1)),()),(0:Int),()))
 else none)
 else none)
 else bif (decide ((0:Int)<=(IntKind.wrap .i64 (e6_.2.1-(1:Int))))) then (bif (e2_==(0:Int)) then (some e7_)
 else bif (p92 (e2_,())) then (bif (decide ((0:Int)<=e1_.1)) then (some ((e5_.1,((AI .u64 e2_ e1_.1)::[]),(IntKind.wrap .i64 ((IntKind.wrap .i64 ((IntKind.wrap .i64 ((IntKind.wrap .i64 ((IntKind.wrap .i64 ((IntKind.wrap .i64 e5_.2.1)-(1:Int)))+e6_.2.2.1))-e6_.2.1))+(1:Int)))+e1_.1)),()),(0:Int),()))
 else none)
 else none)
 else none)
 else none)
 else none)
 else none)
 else none
theorem r40 (x:DenS Gp):run (cf [(59,⟨CJ,CM,p66,f66⟩),(111,⟨JX,Jo,p90,f90⟩),(112,⟨EW,EC,p91,f91⟩),(127,⟨GZ,G9,p92,f92⟩)] []) 9 71 Tryz.f71 Gp GG x=Tf p66 f66 p90 f90 p91 f91 p92 f92 x.1 x.2.1:=by kernel_rfl
def SD (x:DenS Gp):Option (DenS GG):=Tf Ar.pre Ar.F Dn.pre Dn.F Br.pre Br.F BG.pre BG.F x.1 x.2.1
def CA:Sum:=Al Gp GG SD (DenS.dflt GG)
theorem ZR:Sound Tryz.prog G1 71 CA:=sd (cf [(59,Ar),(111,Dn),(112,Br),(127,BG)] []) 71 Tryz.f71 ⟨Ge,vU,Mq,pN,trivial⟩ trivial Gp GG SD _ (fun _=>r40 ..)
abbrev Pk:=Ak Gp
abbrev Rd:=Aj Gp GG
variable (p40:Pk) (f40:Rd)
abbrev ID:Ab:=[(false,.slice (.int .u64))]
abbrev IZ:Ab:=[(true,.slice (.int .u64))]
def dS (p173:A7) (f173:A8) (a0:Aa (.slice (.int .u64))):Option (DenS IZ) :=
 let e1_:=(List.replicate (Int.toNat ((f173 (a0,())).1.length:Int)) (0:Int))
 bif (p173 (a0,())) then (bif ((decide ((0:Int)<=((f173 (a0,())).1.length:Int)))&&(decide ((((f173 (a0,())).1.length:Int)*(8:Int))<=(140737488355328:Int)))) then (some ((((f173 (a0,())).1.take e1_.length)++(e1_.drop (f173 (a0,())).1.length)),()))
 else none)
 else none
theorem aRq (x:DenS ID):run ({ cf [(169,⟨Bt,Bu,p173,f173⟩)] [] with keep:=true }) 9 168 Tryz.f168 ID IZ x=dS p173 f173 x.1:=by kernel_rfl
def RO (x:DenS ID):Option (DenS IZ):=dS Ag.pre Ag.F x.1
def Dz:Sum:=Al ID IZ RO (DenS.dflt IZ)
theorem aDt:Sound Tryz.prog G1 168 Dz:=sd ({ cf [(169,Ag)] [] with keep:=true }) 168 Tryz.f168 ⟨Ea,trivial⟩ trivial ID IZ RO _ (fun _=>aRq ..)
abbrev Zg:=Ak ID
abbrev V4:=Aj ID IZ
variable (p1146:Zg) (f1146:V4)
abbrev GY:Ab:=[(false,.int .u64)]
abbrev GV:Ab:=[(false,.int .i64)]
def eO (p178:He) (f178:Hx) (a0:Aa (.int .u64)):Option (DenS GV) :=
 bif (p178 (a0,())) then (some ((IntKind.wrap .i64 ((64:Int)-(f178 (a0,())).1)),()))
 else none
theorem aKR (x:DenS GY):run (cf [(83,⟨FS,FA,p178,f178⟩)] []) 9 304 Tryz.f304 GY GV x=eO p178 f178 x.1:=by kernel_rfl
def YC (x:DenS GY):Option (DenS GV):=eO Bw.pre Bw.F x.1
def BA:Sum:=Al GY GV YC (DenS.dflt GV)
theorem aCc:Sound Tryz.prog G1 304 BA:=sd (cf [(83,Bw)] []) 304 Tryz.f304 ⟨V7,trivial⟩ trivial GY GV YC _ (fun _=>aKR ..)
abbrev Lv:=Ak GY
abbrev LV:=Aj GY GV
variable (p327:Lv) (f327:LV)
abbrev EK:Ab:=[(false,.int .u64),(false,.int .u64),(false,.int .u64)]
abbrev EX:Ab:=[(false,.int .u64),(false,.int .u64)]
abbrev Gu:Pat:=⟨135,[(16,.one (.v .u64)),(11,.one (.v .u64)),(13,.one (.v .u64)),(10,.one (.v .u64)),(9,.one (.v .u64)),(15,.one (.v .u64)),(14,.one (.v .u64)),(2,.one (.v .u64)),(8,.one (.v .u64))],[]⟩
abbrev Ya:List (Nat×Shape):=[]
abbrev IP:List (Nat×Pat):=[(0,⟨135,[(11,.one (.v .u64)),(13,.one (.v .u64)),(10,.one (.v .u64)),(9,.one (.v .u64)),(15,.one (.v .u64)),(14,.one (.v .u64)),(2,.one (.v .u64)),(8,.one (.v .u64))],[]⟩)]
abbrev I9:Option Pat:=none
abbrev G4:Pat:=⟨135,[(10,.one (.v .u64)),(16,.one (.v .u64)),(9,.one (.v .u64)),(15,.one (.v .u64)),(17,.one (.v .u64)),(14,.one (.v .u64)),(18,.one (.v .u64)),(2,.one (.v .u64)),(8,.one (.v .u64))],[]⟩
abbrev X2:List (Nat×Shape):=[]
abbrev IM:List (Nat×Pat):=[(2,⟨135,[(15,.one (.v .u64)),(17,.one (.v .u64)),(14,.one (.v .u64)),(18,.one (.v .u64)),(2,.one (.v .u64)),(8,.one (.v .u64))],[]⟩)]
abbrev I5:Option Pat:=none
variable (w328_17:Pat.D Gu->Option (Ah IP I9)) (w328_24:Pat.D G4->Option (Ah IM I5))
def Ui (p327:Lv) (f327:LV) {R:Type} (L:Pat.D G4->Option R) (e:Ah IM I5->Option R) (x:Pat.D G4):Option R :=
 let e1_:=(x.1.2.2.2.1,x.1.2.2.2.2.1,x.1.2.2.2.2.2.1,(IntKind.wrap .u64 (x.1.2.2.2.2.2.2.1-(1:Int))),x.1.2.2.2.2.2.2.2)
 let e2_:=(IntKind.wrap .u64 (x.1.2.1+x.1.2.2.1))
 bif ((decide (x.1.2.2.2.2.2.2.1>=(4294967296:Int)))||(decide ((IntKind.wrap .u64 (x.1.2.2.2.2.2.2.1*x.1.1))>(IntKind.wrap .u64 ((IntKind.wrap .u64 ((4294967296:Int)*x.1.2.1))+x.1.2.2.2.2.2.1))))) then (bif (decide (e2_>=(4294967296:Int))) then (((e (.inl (e1_,())))))
 else (L ((x.1.1,e2_,x.1.2.2.1,e1_),())))
 else (e (.inl (x.1.2.2.2,())))
theorem aPu (d:Nat) (R:Type) (L:Pat.D G4->Option R) (e:Ah IM I5->Option R) (x:Pat.D G4) :
  BB (cf [(304,⟨GY,GV,p327,f327⟩)] [(264,17,LoopSpec.of Gu Ya IP I9 w328_17),(264,24,LoopSpec.of G4 X2 IM I5 w328_24)]) (d+2) 264 (By Tryz.f264 24) G4 X2 IM I5 (R:=R) L e x=Ui p327 f327 L e x:=by kernel_rfl
theorem aG0 (p327:Lv) (f327:LV):Bs fun L e x=>Ui p327 f327 L e x:=by intro _ _ _ _ _ _ _ h0 hL he _; unfold Ui; repeat' (first | exact h0 | exact hL _ | exact he _ | apply BU | (apply BX h0; intro _) | (apply B5 <;> intro _))
def VK (p327:Lv) (f327:LV) {R:Type} (L:Pat.D Gu->Option R) (e:Ah IP I9->Option R) (x:Pat.D Gu):Option R :=
 let e1_:=(x.1.2.1,x.1.2.2.1,x.1.2.2.2.1,x.1.2.2.2.2.1,(IntKind.wrap .u64 (x.1.2.2.2.2.2.1-(1:Int))),x.1.2.2.2.2.2.2)
 let e2_:=(IntKind.wrap .u64 (x.1.1+x.1.2.2.2.2.1))
 bif ((decide (x.1.2.2.2.2.2.1>=(4294967296:Int)))||(decide ((IntKind.wrap .u64 (x.1.2.2.2.2.2.1*x.1.2.2.2.1))>(IntKind.wrap .u64 ((IntKind.wrap .u64 ((4294967296:Int)*x.1.1))+x.1.2.2.1))))) then (bif (decide (e2_>=(4294967296:Int))) then (((e (.inl (e1_,())))))
 else (L ((e2_,e1_),())))
 else (e (.inl (x.1.2,())))
theorem aKA (d:Nat) (R:Type) (L:Pat.D Gu->Option R) (e:Ah IP I9->Option R) (x:Pat.D Gu) :
  BB (cf [(304,⟨GY,GV,p327,f327⟩)] [(264,17,LoopSpec.of Gu Ya IP I9 w328_17),(264,24,LoopSpec.of G4 X2 IM I5 w328_24)]) (d+2) 264 (By Tryz.f264 17) Gu Ya IP I9 (R:=R) L e x=VK p327 f327 L e x:=by kernel_rfl
theorem xN (p327:Lv) (f327:LV):Bs fun L e x=>VK p327 f327 L e x:=by intro _ _ _ _ _ _ _ h0 hL he _; unfold VK; repeat' (first | exact h0 | exact hL _ | exact he _ | apply BU | (apply BX h0; intro _) | (apply B5 <;> intro _))
def gV (p327:Lv) (f327:LV) (w328_17:Pat.D Gu->Option (Ah IP I9)) (w328_24:Pat.D G4->Option (Ah IM I5)) (a0 a1 a2:Aa (.int .u64)):Option (DenS EX) :=
 let e9_:=(IntKind.wrap .u64 (f327 (a2,())).1)
 let e6_:=(AW .u64 (AT .u64 a0 e9_) (AI .u64 a1 (IntKind.wrap .u64 ((64:Int)-e9_))))
 let e8_:=(AT .u64 a2 e9_)
 let e7_:=(AI .u64 e8_ (32:Int))
 let e1_:=(Bz .u64 e6_ e7_)
 let e2_:=e6_
 let e3_:=e7_
 let e4_:=(AT .u64 a1 e9_)
 let e5_:=e8_
 bif (a2==(0:Int)) then ((none))
 else bif (decide (a2<=a0)) then ((none))
 else bif (a0==(0:Int)) then (bif (a2 != (0:Int)) then (bif (a2 != (0:Int)) then (some ((Bz .u64 a1 a2),(Int.tmod a1 a2),()))
 else none)
 else none)
 else bif (p327 (a2,())) then (bif (e3_ != (0:Int)) then (Vx.A1 (w328_17 (((IntKind.wrap .u64 (e2_-(IntKind.wrap .u64 (e1_*e3_)))),e2_,(AI .u64 e4_ (32:Int)),(AQ .u64 e5_ (4294967295:Int)),e3_,e1_,(AQ .u64 e4_ (4294967295:Int)),e5_,e9_,()),())) fun y5 =>
 Vx.A6 y5 (fun y6 =>
 bif (y6.1.2.2.2.1 != (0:Int)) then (Vx.A1 (w328_24 ((y6.1.2.2.1,(IntKind.wrap .u64 ((IntKind.wrap .u64 ((IntKind.wrap .u64 ((IntKind.wrap .u64 (y6.1.1*(4294967296:Int)))+y6.1.2.1))-(IntKind.wrap .u64 (y6.1.2.2.2.2.1*y6.1.2.2.2.2.2.2.1))))-(IntKind.wrap .u64 ((Bz .u64 (IntKind.wrap .u64 ((IntKind.wrap .u64 ((IntKind.wrap .u64 (y6.1.1*(4294967296:Int)))+y6.1.2.1))-(IntKind.wrap .u64 (y6.1.2.2.2.2.1*y6.1.2.2.2.2.2.2.1)))) y6.1.2.2.2.1)*y6.1.2.2.2.1)))),y6.1.2.2.2.1,y6.1.2.2.2.2.1,(IntKind.wrap .u64 ((IntKind.wrap .u64 ((IntKind.wrap .u64 (y6.1.1*(4294967296:Int)))+y6.1.2.1))-(IntKind.wrap .u64 (y6.1.2.2.2.2.1*y6.1.2.2.2.2.2.2.1)))),y6.1.2.2.2.2.2.1,(Bz .u64 (IntKind.wrap .u64 ((IntKind.wrap .u64 ((IntKind.wrap .u64 (y6.1.1*(4294967296:Int)))+y6.1.2.1))-(IntKind.wrap .u64 (y6.1.2.2.2.2.1*y6.1.2.2.2.2.2.2.1)))) y6.1.2.2.2.1),y6.1.2.2.2.2.2.2),())) fun y8 =>
 Vx.A6 y8 (fun y9 =>
 some ((IntKind.wrap .u64 ((IntKind.wrap .u64 (y9.1.1*(4294967296:Int)))+y9.1.2.2.2.1)),(AI .u64 (IntKind.wrap .u64 ((IntKind.wrap .u64 ((IntKind.wrap .u64 (y9.1.2.1*(4294967296:Int)))+y9.1.2.2.1))-(IntKind.wrap .u64 (y9.1.2.2.2.1*y9.1.2.2.2.2.1)))) y9.1.2.2.2.2.2.1),())) (fun z9 =>
 none))
 else none) (fun z6 =>
 none))
 else none)
 else none
theorem aSC (x:DenS EK):run (cf [(304,⟨GY,GV,p327,f327⟩)] [(264,17,LoopSpec.of Gu Ya IP I9 w328_17),(264,24,LoopSpec.of G4 X2 IM I5 w328_24)]) 9 264 Tryz.f264 EK EX x=gV p327 f327 w328_17 w328_24 x.1 x.2.1 x.2.2.1:=by kernel_rfl
def jF:G4.D->Option (Ah IM I5):=Bf fun L=>Ui BA.pre BA.F L some
def bZ:Gu.D->Option (Ah IP I9):=Bf fun L=>VK BA.pre BA.F L some
def WP (x:DenS EK):Option (DenS EX):=gV BA.pre BA.F bZ jF x.1 x.2.1 x.2.2.1
def AS:Sum:=Al EK EX WP (DenS.dflt EX)
theorem gF:Sound Tryz.prog G1 264 AS:=sd (cf [(304,BA)] [(264,17,LoopSpec.of Gu Ya IP I9 bZ),(264,24,LoopSpec.of G4 X2 IM I5 jF)]) 264 Tryz.f264 ⟨aCc,trivial⟩ ⟨rfl,fun d=>Ca (fun L e x=>VK BA.pre BA.F L e x) (xN BA.pre BA.F) (fun _ _ _ _=>aKA ..),⟨rfl,fun d=>Ca (fun L e x=>Ui BA.pre BA.F L e x) (aG0 BA.pre BA.F) (fun _ _ _ _=>aPu ..),trivial⟩⟩ EK EX WP _ (fun _=>aSC ..)
abbrev EJ:=Ak EK
abbrev EE:=Aj EK EX
variable (p328:EJ) (f328:EE)
abbrev LX:Ab:=[(true,.slice (.int .u64)),(false,.int .u64)]
abbrev Mf:Ab:=[(false,.slice (.int .u64)),(false,.int .u64)]
abbrev FY:Pat:=⟨31,[(1,.one (.v .u64)),(7,.one (.v .i64)),(0,.one (.own 0)),(6,.one (.v .u64))],[.arr (.int .u64)]⟩
abbrev kB:List (Nat×Shape):=[]
abbrev Lm:List (Nat×Pat):=[(0,⟨31,[(0,.one (.own 0)),(6,.one (.v .u64))],[.arr (.int .u64)]⟩)]
abbrev K2:Option Pat:=none
variable (w1329_3:Pat.D FY->Option (Ah Lm K2))
def T6 (p328:EJ) (f328:EE) (p173:A7) (f173:A8) {R:Type} (L:Pat.D FY->Option R) (e:Ah Lm K2->Option R) (x:Pat.D FY):Option R :=
 let e3_:=(x.1.2.2.2.1,(x.2.1.getD (Int.toNat x.1.2.1) (0:Int)),x.1.1,())
 let e1_:=(f328 e3_)
 let e2_:=((decide ((0:Int)<=x.1.2.1))&&(decide (x.1.2.1<(x.2.1.length:Int))))
 bif (decide (x.1.2.1>=(0:Int))) then (bif e2_ then (bif (p328 e3_) then (bif e2_ then (((L ((x.1.1,(IntKind.wrap .i64 (x.1.2.1-(1:Int))),(),e1_.2),(x.2.1.set (Int.toNat x.1.2.1) e1_.1),()))))
 else none)
 else none)
 else none)
 else (e (.inl (((),x.1.2.2.2),x.2)))
theorem aNj (d:Nat) (R:Type) (L:Pat.D FY->Option R) (e:Ah Lm K2->Option R) (x:Pat.D FY) :
  BB ({ cf [(264,⟨EK,EX,p328,f328⟩),(169,⟨Bt,Bu,p173,f173⟩)] [(303,3,LoopSpec.of FY kB Lm K2 w1329_3)] with keep:=true }) (d+2) 303 (By Tryz.f303 3) FY kB Lm K2 (R:=R) L e x=T6 p328 f328 p173 f173 L e x:=by kernel_rfl
theorem xV (p328:EJ) (f328:EE) (p173:A7) (f173:A8):Bs fun L e x=>T6 p328 f328 p173 f173 L e x:=by intro _ _ _ _ _ _ _ h0 hL he _; unfold T6; repeat' (first | exact h0 | exact hL _ | exact he _ | apply BU | (apply BX h0; intro _) | (apply B5 <;> intro _))
def gI (p328:EJ) (f328:EE) (p173:A7) (f173:A8) (w1329_3:Pat.D FY->Option (Ah Lm K2)) (a0:Aa (.slice (.int .u64))) (a1:Aa (.int .u64)):Option (DenS Mf) :=
 Vx.A1 (w1329_3 ((a1,(IntKind.wrap .i64 ((a0.length:Int)-(1:Int))),(),(0:Int),()),a0,())) fun y0 =>
 Vx.A6 y0 (fun y1 =>
 bif (p173 y1.2) then (some ((f173 y1.2).1,y1.1.2))
 else none) (fun z1 =>
 none)
theorem aUy (x:DenS LX):run ({ cf [(264,⟨EK,EX,p328,f328⟩),(169,⟨Bt,Bu,p173,f173⟩)] [(303,3,LoopSpec.of FY kB Lm K2 w1329_3)] with keep:=true }) 9 303 Tryz.f303 LX Mf x=gI p328 f328 p173 f173 w1329_3 x.1 x.2.1:=by kernel_rfl
def YT:FY.D->Option (Ah Lm K2):=Bf fun L=>T6 AS.pre AS.F Ag.pre Ag.F L some
def ZL (x:DenS LX):Option (DenS Mf):=gI AS.pre AS.F Ag.pre Ag.F YT x.1 x.2.1
def EN:Sum:=Al LX Mf ZL (DenS.dflt Mf)
theorem aIH:Sound Tryz.prog G1 303 EN:=sd ({ cf [(264,AS),(169,Ag)] [(303,3,LoopSpec.of FY kB Lm K2 YT)] with keep:=true }) 303 Tryz.f303 ⟨gF,Ea,trivial⟩ ⟨rfl,fun d=>Ca (fun L e x=>T6 AS.pre AS.F Ag.pre Ag.F L e x) (xV AS.pre AS.F Ag.pre Ag.F) (fun _ _ _ _=>aNj ..),trivial⟩ LX Mf ZL _ (fun _=>aUy ..)
abbrev dD:=Ak LX
abbrev fE:=Aj LX Mf
variable (p1329:dD) (f1329:fE)
abbrev FQ:Ab:=[(false,.slice (.int .u64)),(false,.slice (.int .u64))]
abbrev FZ:Ab:=[(false,.int .i64)]
abbrev H6:Pat:=⟨49,[(0,.one (.sl (.int .u64))),(1,.one (.sl (.int .u64))),(5,.one (.v .i64))],[]⟩
abbrev Z5:List (Nat×Shape):=[]
abbrev Mb:List (Nat×Pat):=[(1,⟨49,[],[]⟩)]
abbrev KL:Option Pat:=(some ⟨49,[(4,.one (.v .i64))],[]⟩)
variable (w144_7:Pat.D H6->Option (Ah Mb KL))
def VX (p173:A7) (f173:A8) {R:Type} (L:Pat.D H6->Option R) (e:Ah Mb KL->Option R) (x:Pat.D H6):Option R :=
 let e1_:=((decide ((0:Int)<=x.1.2.2.1))&&(decide (x.1.2.2.1<(x.1.2.1.length:Int))))
 let e2_:=((decide ((0:Int)<=x.1.2.2.1))&&(decide (x.1.2.2.1<(x.1.1.length:Int))))
 let e3_:=(x.1.2.1.getD (Int.toNat x.1.2.2.1) (0:Int))
 bif (decide (x.1.2.2.1>=(0:Int))) then (bif e2_ then (bif e1_ then (bif (decide ((x.1.1.getD (Int.toNat x.1.2.2.1) (0:Int))<e3_)) then (((e (.inr (((-(1:Int)),()),())))))
 else bif e2_ then (bif e1_ then (bif (decide ((x.1.1.getD (Int.toNat x.1.2.2.1) (0:Int))>e3_)) then (((e (.inr (((1:Int),()),())))))
 else (L ((x.1.1,x.1.2.1,(IntKind.wrap .i64 (x.1.2.2.1-(1:Int))),()),())))
 else none)
 else none)
 else none)
 else none)
 else (e (.inl ((),())))
theorem aSH (d:Nat) (R:Type) (L:Pat.D H6->Option R) (e:Ah Mb KL->Option R) (x:Pat.D H6) :
  BB (cf [(169,⟨Bt,Bu,p173,f173⟩)] [(177,7,LoopSpec.of H6 Z5 Mb KL w144_7)]) (d+2) 177 (By Tryz.f177 7) H6 Z5 Mb KL (R:=R) L e x=VX p173 f173 L e x:=by kernel_rfl
theorem aEC (p173:A7) (f173:A8):Bs fun L e x=>VX p173 f173 L e x:=by intro _ _ _ _ _ _ _ h0 hL he _; unfold VX; repeat' (first | exact h0 | exact hL _ | exact he _ | apply BU | (apply BX h0; intro _) | (apply B5 <;> intro _))
def kX (p173:A7) (f173:A8) (w144_7:Pat.D H6->Option (Ah Mb KL)) (a0 a1:Aa (.slice (.int .u64))):Option (DenS FZ) :=
 bif (p173 (a0,())) then (bif (p173 (a1,())) then (bif (decide (((f173 (a0,())).1.length:Int)<((f173 (a1,())).1.length:Int))) then (some ((-(1:Int)),()))
 else bif (decide (((f173 (a0,())).1.length:Int)>((f173 (a1,())).1.length:Int))) then (some ((1:Int),()))
 else Vx.A1 (w144_7 (((f173 (a0,())).1,(f173 (a1,())).1,(IntKind.wrap .i64 (((f173 (a0,())).1.length:Int)-(1:Int))),()),())) fun y4 =>
 Vx.A6 y4 (fun y5 =>
 some ((0:Int),())) (fun z5 =>
 some z5.1))
 else none)
 else none
theorem aTm (x:DenS FQ):run (cf [(169,⟨Bt,Bu,p173,f173⟩)] [(177,7,LoopSpec.of H6 Z5 Mb KL w144_7)]) 9 177 Tryz.f177 FQ FZ x=kX p173 f173 w144_7 x.1 x.2.1:=by kernel_rfl
def dB:H6.D->Option (Ah Mb KL):=Bf fun L=>VX Ag.pre Ag.F L some
def V9 (x:DenS FQ):Option (DenS FZ):=kX Ag.pre Ag.F dB x.1 x.2.1
def Bm:Sum:=Al FQ FZ V9 (DenS.dflt FZ)
theorem iZ:Sound Tryz.prog G1 177 Bm:=sd (cf [(169,Ag)] [(177,7,LoopSpec.of H6 Z5 Mb KL dB)]) 177 Tryz.f177 ⟨Ea,trivial⟩ ⟨rfl,fun d=>Ca (fun L e x=>VX Ag.pre Ag.F L e x) (aEC Ag.pre Ag.F) (fun _ _ _ _=>aSH ..),trivial⟩ FQ FZ V9 _ (fun _=>aTm ..)
abbrev Jm:=Ak FQ
abbrev IB:=Aj FQ FZ
variable (p144:Jm) (f144:IB)
abbrev LN:Ab:=[(false,.slice (.int .u64)),(false,.int .u64)]
abbrev KH:Ab:=[(false,.slice (.int .u64)),(false,.int .u64)]
abbrev Hf:Pat:=⟨31,[(1,.one (.v .u64)),(7,.one (.v .i64)),(0,.one (.sl (.int .u64))),(6,.one (.v .u64))],[]⟩
abbrev eM:List (Nat×Shape):=[]
abbrev KI:List (Nat×Pat):=[(0,⟨31,[(0,.one (.sl (.int .u64))),(6,.one (.v .u64))],[]⟩)]
abbrev J0:Option Pat:=none
variable (w329_3:Pat.D Hf->Option (Ah KI J0))
def ZB (p328:EJ) (f328:EE) (p173:A7) (f173:A8) {R:Type} (L:Pat.D Hf->Option R) (e:Ah KI J0->Option R) (x:Pat.D Hf):Option R :=
 let e1_:=((decide ((0:Int)<=x.1.2.1))&&(decide (x.1.2.1<(x.1.2.2.1.length:Int))))
 bif (decide (x.1.2.1>=(0:Int))) then (bif e1_ then (bif (p328 (x.1.2.2.2.1,(x.1.2.2.1.getD (Int.toNat x.1.2.1) (0:Int)),x.1.1,())) then (bif e1_ then ((none))
 else none)
 else none)
 else none)
 else (e (.inl (x.1.2.2,())))
theorem aKd (d:Nat) (R:Type) (L:Pat.D Hf->Option R) (e:Ah KI J0->Option R) (x:Pat.D Hf) :
  BB (cf [(264,⟨EK,EX,p328,f328⟩),(169,⟨Bt,Bu,p173,f173⟩)] [(303,3,LoopSpec.of Hf eM KI J0 w329_3)]) (d+2) 303 (By Tryz.f303 3) Hf eM KI J0 (R:=R) L e x=ZB p328 f328 p173 f173 L e x:=by kernel_rfl
theorem aNW (p328:EJ) (f328:EE) (p173:A7) (f173:A8):Bs fun L e x=>ZB p328 f328 p173 f173 L e x:=by intro _ _ _ _ _ _ _ h0 hL he _; unfold ZB; repeat' (first | exact h0 | exact hL _ | exact he _ | apply BU | (apply BX h0; intro _) | (apply B5 <;> intro _))
def aD5 (p328:EJ) (f328:EE) (p173:A7) (f173:A8) (w329_3:Pat.D Hf->Option (Ah KI J0)) (a0:Aa (.slice (.int .u64))) (a1:Aa (.int .u64)):Option (DenS KH) :=
 Vx.A1 (w329_3 ((a1,(IntKind.wrap .i64 ((a0.length:Int)-(1:Int))),a0,(0:Int),()),())) fun y0 =>
 Vx.A6 y0 (fun y1 =>
 bif (p173 (y1.1.1,())) then (some ((f173 (y1.1.1,())).1,y1.1.2))
 else none) (fun z1 =>
 none)
theorem aKg (x:DenS LN):run (cf [(264,⟨EK,EX,p328,f328⟩),(169,⟨Bt,Bu,p173,f173⟩)] [(303,3,LoopSpec.of Hf eM KI J0 w329_3)]) 9 303 Tryz.f303 LN KH x=aD5 p328 f328 p173 f173 w329_3 x.1 x.2.1:=by kernel_rfl
def zI:Hf.D->Option (Ah KI J0):=Bf fun L=>ZB AS.pre AS.F Ag.pre Ag.F L some
def aAW (x:DenS LN):Option (DenS KH):=aD5 AS.pre AS.F Ag.pre Ag.F zI x.1 x.2.1
def Fj:Sum:=Al LN KH aAW (DenS.dflt KH)
theorem aKT:Sound Tryz.prog G1 303 Fj:=sd (cf [(264,AS),(169,Ag)] [(303,3,LoopSpec.of Hf eM KI J0 zI)]) 303 Tryz.f303 ⟨gF,Ea,trivial⟩ ⟨rfl,fun d=>Ca (fun L e x=>ZB AS.pre AS.F Ag.pre Ag.F L e x) (aNW AS.pre AS.F Ag.pre Ag.F) (fun _ _ _ _=>aKd ..),trivial⟩ LN KH aAW _ (fun _=>aKg ..)
abbrev mN:=Ak LN
abbrev mC:=Aj LN KH
variable (p329:mN) (f329:mC)
abbrev Iy:Ab:=[(false,.slice (.int .u64)),(false,.int .u64)]
abbrev Iz:Ab:=[(false,.bool)]
abbrev Fa:LK:=.win (.int .u64)
abbrev Hc:Pat:=⟨68,[(16,.one (.v .i64)),(15,.one (.sl (.int .u64))),(2,.one (.v .u64)),(17,.one (.v .i64)),(1,.one (.sl (.int .u64))),(0,.one (.sub 0)),(7,.one (.v .u64)),(8,.one (.v .u64))],[.arr (.int .u64)]⟩
abbrev bA:List (Nat×Shape):=[]
abbrev MC:List (Nat×Pat):=[(0,⟨68,[(1,.one (.sl (.int .u64))),(0,.one (.sub 0)),(7,.one (.v .u64)),(8,.one (.v .u64))],[.arr (.int .u64)]⟩)]
abbrev LI:Option Pat:=none
variable (w330_3:Pat.D Hc->Option (Ah MC LI))
def Va (p315:EF) (f315:EH) (p155:Df) (f155:Dd) (p157:Gs) (f157:GN) {R:Type} (L:Pat.D Hc->Option R) (e:Ah MC LI->Option R) (x:Pat.D Hc):Option R :=
 let e7_:=(x.2.1.getD (x.1.2.2.2.2.2.1.1+(Int.toNat x.1.2.2.2.1)) (0:Int))
 let e8_:=(x.1.2.2.1,(x.1.2.1.getD (Int.toNat x.1.2.2.2.1) (0:Int)),())
 let e6_:=(f315 e8_)
 let e5_:=(f155 (e6_.2.1,x.1.2.2.2.2.2.2.1,(0:Int),()))
 let e1_:=(f157 (e7_,e5_.1,x.1.2.2.2.2.2.2.2))
 let e2_:=e5_
 let e3_:=((decide ((0:Int)<=x.1.2.2.2.1))&&(decide (x.1.2.2.2.1<(x.1.2.2.2.2.2.1.2:Int))))
 let e4_:=e6_
 bif (decide (x.1.2.2.2.1<x.1.1)) then (bif ((decide ((0:Int)<=x.1.2.2.2.1))&&(decide (x.1.2.2.2.1<(x.1.2.1.length:Int)))) then (bif (p315 e8_) then (bif (p155 (e4_.2.1,x.1.2.2.2.2.2.2.1,(0:Int),())) then (bif e3_ then (bif (p157 (e7_,e2_.1,x.1.2.2.2.2.2.2.2)) then (bif e3_ then (((L ((x.1.1,x.1.2.1,x.1.2.2.1,(IntKind.wrap .i64 (x.1.2.2.2.1+(1:Int))),x.1.2.2.2.2.1,x.1.2.2.2.2.2.1,(IntKind.wrap .u64 (e4_.1+e2_.2.1)),e1_.2),(x.2.1.set (x.1.2.2.2.2.2.1.1+(Int.toNat x.1.2.2.2.1)) e1_.1),()))))
 else none)
 else none)
 else none)
 else none)
 else none)
 else none)
 else (e (.inl (x.1.2.2.2.2,x.2)))
theorem aQ7 (d:Nat) (R:Type) (L:Pat.D Hc->Option R) (e:Ah MC LI->Option R) (x:Pat.D Hc) :
  BB (cf [(126,⟨EL,EA,p315,f315⟩),(165,⟨E3,Fr,p155,f155⟩),(166,⟨Md,Oi,p157,f157⟩)] [(324,3,LoopSpec.of Hc bA MC LI w330_3 1)]) (d+2) 324 (By Tryz.f324 3) Hc bA MC LI (R:=R) L e x 1=Va p315 f315 p155 f155 p157 f157 L e x:=by kernel_rfl
theorem aBV (p315:EF) (f315:EH) (p155:Df) (f155:Dd) (p157:Gs) (f157:GN):Bs fun L e x=>Va p315 f315 p155 f155 p157 f157 L e x:=by intro _ _ _ _ _ _ _ h0 hL he _; unfold Va; repeat' (first | exact h0 | exact hL _ | exact he _ | apply BU | (apply BX h0; intro _) | (apply B5 <;> intro _))
def aU (p315:EF) (f315:EH) (p155:Df) (f155:Dd) (p157:Gs) (f157:GN) (w330_3:Pat.D Hc->Option (Ah MC LI)) (l0:LK.D (.win (.int .u64))) (a0:Aa (.slice (.int .u64))) (a1:Aa (.int .u64)):Option (LK.B Fa×DenS Iz) :=
 Vx.A1 (w330_3 (((a0.length:Int),a0,a1,(0:Int),a0,l0.2,(0:Int),(0:Int),()),l0.1,())) fun y0 =>
 Vx.A6 y0 (fun y1 =>
 bif ((decide ((0:Int)<=(y1.1.1.length:Int)))&&(decide ((y1.1.1.length:Int)<(y1.1.2.1.2:Int)))) then (bif (p157 ((y1.2.1.getD (y1.1.2.1.1+(Int.toNat (y1.1.1.length:Int))) (0:Int)),y1.1.2.2)) then (bif ((decide ((0:Int)<=(y1.1.1.length:Int)))&&(decide ((y1.1.1.length:Int)<(y1.1.2.1.2:Int)))) then (some ((y1.2.1.set (y1.1.2.1.1+(Int.toNat (y1.1.1.length:Int))) (f157 ((y1.2.1.getD (y1.1.2.1.1+(Int.toNat (y1.1.1.length:Int))) (0:Int)),y1.1.2.2)).1),((f157 ((y1.2.1.getD (y1.1.2.1.1+(Int.toNat (y1.1.1.length:Int))) (0:Int)),y1.1.2.2)).2.1 != (0:Int)),()))
 else none)
 else none)
 else none) (fun z1 =>
 none)
theorem aNV (x:LK.D Fa×DenS Iy):Ox (cf [(126,⟨EL,EA,p315,f315⟩),(165,⟨E3,Fr,p155,f155⟩),(166,⟨Md,Oi,p157,f157⟩)] [(324,3,LoopSpec.of Hc bA MC LI w330_3 1)]) 9 324 Tryz.f324 Fa Iy Iz x=aU p315 f315 p155 f155 p157 f157 w330_3 x.1 x.2.1 x.2.2.1:=by kernel_rfl
def eC:Hc.D->Option (Ah MC LI):=Bf fun L=>Va AP.pre AP.F Ay.pre Ay.F A5.pre A5.F L some
def WI (x:LK.D Fa×DenS Iy):Option (LK.B Fa×DenS Iz):=aU AP.pre AP.F Ay.pre Ay.F A5.pre A5.F eC x.1 x.2.1 x.2.2.1
def Cs:SumL:=NM Fa Iy Iz WI (LK.dflt Fa,DenS.dflt Iz)
theorem aIA:SoundL Tryz.prog G1 324 Cs:=q8 (cf [(126,AP),(165,Ay),(166,A5)] [(324,3,LoopSpec.of Hc bA MC LI eC 1)]) 324 Tryz.f324 ⟨cU,UF,fA,trivial⟩ ⟨rfl,fun d=>Ca (fun L e x=>Va AP.pre AP.F Ay.pre Ay.F A5.pre A5.F L e x) (aBV AP.pre AP.F Ay.pre Ay.F A5.pre A5.F) (fun _ _ _ _=>aQ7 ..),trivial⟩ Fa Iy Iz WI _ (fun _=>aNV ..)
abbrev UM:=LK.D Fa×DenS Iy->Bool
abbrev TO:=LK.D Fa×DenS Iy->LK.B Fa×DenS Iz
variable (p330:UM) (f330:TO)
abbrev JK:Ab:=[(false,.slice (.int .u64))]
abbrev Jd:Ab:=[(false,.bool)]
abbrev Ft:LK:=.win (.int .u64)
abbrev Hp:Pat:=⟨46,[(10,.one (.v .i64)),(9,.one (.sl (.int .u64))),(11,.one (.v .i64)),(1,.one (.sl (.int .u64))),(0,.one (.sub 0)),(5,.one (.v .u64))],[.arr (.int .u64)]⟩
abbrev gD:List (Nat×Shape):=[]
abbrev Lz:List (Nat×Pat):=[(0,⟨46,[(1,.one (.sl (.int .u64))),(0,.one (.sub 0)),(5,.one (.v .u64))],[.arr (.int .u64)]⟩)]
abbrev LH:Option Pat:=none
variable (w331_3:Pat.D Hp->Option (Ah Lz LH))
def VN (p155:Df) (f155:Dd) {R:Type} (L:Pat.D Hp->Option R) (e:Ah Lz LH->Option R) (x:Pat.D Hp):Option R :=
 let e3_:=((x.2.1.getD (x.1.2.2.2.2.1.1+(Int.toNat x.1.2.2.1)) (0:Int)),(x.1.2.1.getD (Int.toNat x.1.2.2.1) (0:Int)),x.1.2.2.2.2.2)
 let e1_:=(f155 e3_)
 let e2_:=((decide ((0:Int)<=x.1.2.2.1))&&(decide (x.1.2.2.1<(x.1.2.2.2.2.1.2:Int))))
 bif (decide (x.1.2.2.1<x.1.1)) then (bif ((decide ((0:Int)<=x.1.2.2.1))&&(decide (x.1.2.2.1<(x.1.2.1.length:Int)))) then (bif e2_ then (bif (p155 e3_) then (bif e2_ then (((L ((x.1.1,x.1.2.1,(IntKind.wrap .i64 (x.1.2.2.1+(1:Int))),x.1.2.2.2.1,x.1.2.2.2.2.1,e1_.2),(x.2.1.set (x.1.2.2.2.2.1.1+(Int.toNat x.1.2.2.1)) e1_.1),()))))
 else none)
 else none)
 else none)
 else none)
 else (e (.inl (x.1.2.2.2,x.2)))
theorem aPt (d:Nat) (R:Type) (L:Pat.D Hp->Option R) (e:Ah Lz LH->Option R) (x:Pat.D Hp) :
  BB (cf [(165,⟨E3,Fr,p155,f155⟩)] [(325,3,LoopSpec.of Hp gD Lz LH w331_3 1)]) (d+2) 325 (By Tryz.f325 3) Hp gD Lz LH (R:=R) L e x 1=VN p155 f155 L e x:=by kernel_rfl
theorem aA8 (p155:Df) (f155:Dd):Bs fun L e x=>VN p155 f155 L e x:=by intro _ _ _ _ _ _ _ h0 hL he _; unfold VN; repeat' (first | exact h0 | exact hL _ | exact he _ | apply BU | (apply BX h0; intro _) | (apply B5 <;> intro _))
def cX (p155:Df) (f155:Dd) (w331_3:Pat.D Hp->Option (Ah Lz LH)) (l0:LK.D (.win (.int .u64))) (a0:Aa (.slice (.int .u64))):Option (LK.B Ft×DenS Jd) :=
 Vx.A1 (w331_3 (((a0.length:Int),a0,(0:Int),a0,l0.2,(0:Int),()),l0.1,())) fun y0 =>
 Vx.A6 y0 (fun y1 =>
 bif ((decide ((0:Int)<=(y1.1.1.length:Int)))&&(decide ((y1.1.1.length:Int)<(y1.1.2.1.2:Int)))) then (bif (p155 ((y1.2.1.getD (y1.1.2.1.1+(Int.toNat (y1.1.1.length:Int))) (0:Int)),(0:Int),y1.1.2.2)) then (bif ((decide ((0:Int)<=(y1.1.1.length:Int)))&&(decide ((y1.1.1.length:Int)<(y1.1.2.1.2:Int)))) then (some ((y1.2.1.set (y1.1.2.1.1+(Int.toNat (y1.1.1.length:Int))) (f155 ((y1.2.1.getD (y1.1.2.1.1+(Int.toNat (y1.1.1.length:Int))) (0:Int)),(0:Int),y1.1.2.2)).1),((f155 ((y1.2.1.getD (y1.1.2.1.1+(Int.toNat (y1.1.1.length:Int))) (0:Int)),(0:Int),y1.1.2.2)).2.1 != (0:Int)),()))
 else none)
 else none)
 else none) (fun z1 =>
 none)
theorem aQx (x:LK.D Ft×DenS JK):Ox (cf [(165,⟨E3,Fr,p155,f155⟩)] [(325,3,LoopSpec.of Hp gD Lz LH w331_3 1)]) 9 325 Tryz.f325 Ft JK Jd x=cX p155 f155 w331_3 x.1 x.2.1:=by kernel_rfl
def dR:Hp.D->Option (Ah Lz LH):=Bf fun L=>VN Ay.pre Ay.F L some
def Ye (x:LK.D Ft×DenS JK):Option (LK.B Ft×DenS Jd):=cX Ay.pre Ay.F dR x.1 x.2.1
def C6:SumL:=NM Ft JK Jd Ye (LK.dflt Ft,DenS.dflt Jd)
theorem aKW:SoundL Tryz.prog G1 325 C6:=q8 (cf [(165,Ay)] [(325,3,LoopSpec.of Hp gD Lz LH dR 1)]) 325 Tryz.f325 ⟨UF,trivial⟩ ⟨rfl,fun d=>Ca (fun L e x=>VN Ay.pre Ay.F L e x) (aA8 Ay.pre Ay.F) (fun _ _ _ _=>aPt ..),trivial⟩ Ft JK Jd Ye _ (fun _=>aQx ..)
abbrev TI:=LK.D Ft×DenS JK->Bool
abbrev T8:=LK.D Ft×DenS JK->LK.B Ft×DenS Jd
variable (p331:TI) (f331:T8)
abbrev Lt:Ab:=[(false,.slice (.int .u64))]
abbrev JC:Ab:=[(false,.int .u64)]
abbrev Ff:LK:=.win (.int .u64)
abbrev FT:Pat:=⟨92,[(6,.one (.v .u64)),(7,.one (.v .u64)),(5,.one (.v .i64)),(0,.one (.sub 0)),(1,.one (.sl (.int .u64)))],[.arr (.int .u64)]⟩
abbrev V3:List (Nat×Shape):=[]
abbrev JY:List (Nat×Pat):=[(0,⟨92,[(0,.one (.sub 0)),(1,.one (.sl (.int .u64))),(6,.one (.v .u64))],[.arr (.int .u64)]⟩)]
abbrev JV:Option Pat:=none
abbrev Ga:Pat:=⟨92,[(6,.one (.v .u64)),(0,.one (.sub 0)),(1,.one (.sl (.int .u64)))],[.arr (.int .u64)]⟩
abbrev W4:List (Nat×Shape):=[]
abbrev Jt:List (Nat×Pat):=[(2,⟨92,[(6,.one (.v .u64))],[.arr (.int .u64)]⟩)]
abbrev Jf:Option Pat:=none
variable (w332_6:Pat.D FT->Option (Ah JY JV)) (w332_13:Pat.D Ga->Option (Ah Jt Jf))
def U5 (p328:EJ) (f328:EE) (p315:EF) (f315:EH) (p155:Df) (f155:Dd) (p330:UM) (f330:TO) (p331:TI) (f331:T8) {R:Type} (L:Pat.D Ga->Option R) (e:Ah Jt Jf->Option R) (x:Pat.D Ga):Option R :=
 let e1_:=(IntKind.wrap .u64 (x.1.1-(1:Int)))
 bif (p331 ((x.2.1,x.1.2.1),x.1.2.2)) then (bif (f331 ((x.2.1,x.1.2.1),x.1.2.2)).2.1 then (((e (.inl ((e1_,()),(f331 ((x.2.1,x.1.2.1),x.1.2.2)).1,())))))
 else (L ((e1_,x.1.2),(f331 ((x.2.1,x.1.2.1),x.1.2.2)).1,())))
 else none
theorem aNk (d:Nat) (R:Type) (L:Pat.D Ga->Option R) (e:Ah Jt Jf->Option R) (x:Pat.D Ga) :
  BB ({ cf [(264,⟨EK,EX,p328,f328⟩),(126,⟨EL,EA,p315,f315⟩),(165,⟨E3,Fr,p155,f155⟩)] [(305,6,LoopSpec.of FT V3 JY JV w332_6 1),(305,13,LoopSpec.of Ga W4 Jt Jf w332_13 1)] with lsums:=[(324,⟨Fa,Iy,Iz,p330,f330⟩),(325,⟨Ft,JK,Jd,p331,f331⟩)] }) (d+2) 305 (By Tryz.f305 13) Ga W4 Jt Jf (R:=R) L e x 1=U5 p328 f328 p315 f315 p155 f155 p330 f330 p331 f331 L e x:=by kernel_rfl
theorem aE8 (p328:EJ) (f328:EE) (p315:EF) (f315:EH) (p155:Df) (f155:Dd) (p330:UM) (f330:TO) (p331:TI) (f331:T8):Bs fun L e x=>U5 p328 f328 p315 f315 p155 f155 p330 f330 p331 f331 L e x:=by intro _ _ _ _ _ _ _ h0 hL he _; unfold U5; repeat' (first | exact h0 | exact hL _ | exact he _ | apply BU | (apply BX h0; intro _) | (apply B5 <;> intro _))
def Ud (p328:EJ) (f328:EE) (p315:EF) (f315:EH) (p155:Df) (f155:Dd) (p330:UM) (f330:TO) (p331:TI) (f331:T8) {R:Type} (L:Pat.D FT->Option R) (e:Ah JY JV->Option R) (x:Pat.D FT):Option R :=
 let e11_:=(IntKind.wrap .i64 (x.1.2.2.1-(2:Int)))
 let e10_:=(Int.toNat e11_)
 let e9_:=(f315 (x.1.1,(x.1.2.2.2.2.1.getD e10_ (0:Int)),()))
 let e1_:=(decide (e9_.1<x.1.2.1))
 let e12_:=(IntKind.wrap .i64 (x.1.2.2.1-(1:Int)))
 let e2_:=(f155 (x.1.2.1,(x.1.2.2.2.2.1.getD (Int.toNat e12_) (0:Int)),(0:Int),()))
 let e3_:=e9_
 let e4_:=(decide ((0:Int)<=e11_))
 let e5_:=e10_
 let e6_:=e12_
 let e7_:=e11_
 let e8_:=(IntKind.wrap .u64 (x.1.1-(1:Int)))
 bif (e4_&&(decide (e7_<(x.1.2.2.2.2.1.length:Int)))) then (bif (p315 (x.1.1,(x.1.2.2.2.2.1.getD e5_ (0:Int)),())) then (bif ((e4_&&(decide (e7_<(x.1.2.2.2.1.2:Int))))||(!((bif e1_ then false else true)&&(decide (e3_.1=x.1.2.1))))) then (bif (e1_||((e3_.1==x.1.2.1)&&(decide (e3_.2.1<=(x.2.1.getD (x.1.2.2.2.1.1+e5_) (0:Int)))))) then (((e (.inl ((x.1.2.2.2.1,x.1.2.2.2.2.1,x.1.1,()),x.2)))))
 else bif ((decide ((0:Int)<=e6_))&&(decide (e6_<(x.1.2.2.2.2.1.length:Int)))) then (bif (p155 (x.1.2.1,(x.1.2.2.2.2.1.getD (Int.toNat e6_) (0:Int)),(0:Int),())) then (bif (e2_.2.1 != (0:Int)) then (((e (.inl ((x.1.2.2.2.1,x.1.2.2.2.2.1,e8_,()),x.2)))))
 else (L ((e8_,e2_.1,x.1.2.2),x.2)))
 else none)
 else none)
 else none)
 else none)
 else none
theorem aKq (d:Nat) (R:Type) (L:Pat.D FT->Option R) (e:Ah JY JV->Option R) (x:Pat.D FT) :
  BB ({ cf [(264,⟨EK,EX,p328,f328⟩),(126,⟨EL,EA,p315,f315⟩),(165,⟨E3,Fr,p155,f155⟩)] [(305,6,LoopSpec.of FT V3 JY JV w332_6 1),(305,13,LoopSpec.of Ga W4 Jt Jf w332_13 1)] with lsums:=[(324,⟨Fa,Iy,Iz,p330,f330⟩),(325,⟨Ft,JK,Jd,p331,f331⟩)] }) (d+2) 305 (By Tryz.f305 6) FT V3 JY JV (R:=R) L e x 1=Ud p328 f328 p315 f315 p155 f155 p330 f330 p331 f331 L e x:=by kernel_rfl
theorem zB (p328:EJ) (f328:EE) (p315:EF) (f315:EH) (p155:Df) (f155:Dd) (p330:UM) (f330:TO) (p331:TI) (f331:T8):Bs fun L e x=>Ud p328 f328 p315 f315 p155 f155 p330 f330 p331 f331 L e x:=by intro _ _ _ _ _ _ _ h0 hL he _; unfold Ud; repeat' (first | exact h0 | exact hL _ | exact he _ | apply BU | (apply BX h0; intro _) | (apply B5 <;> intro _))
def cF (p328:EJ) (f328:EE) (p315:EF) (f315:EH) (p155:Df) (f155:Dd) (p330:UM) (f330:TO) (p331:TI) (f331:T8) (w332_6:Pat.D FT->Option (Ah JY JV)) (w332_13:Pat.D Ga->Option (Ah Jt Jf)) (l0:LK.D (.win (.int .u64))) (a0:Aa (.slice (.int .u64))):Option (LK.B Ff×DenS JC) :=
 let e11_:=(l0.1.getD (l0.2.1+(Int.toNat (a0.length:Int))) (0:Int))
 let e10_:=(IntKind.wrap .i64 ((a0.length:Int)-(1:Int)))
 let e9_:=(Int.toNat e10_)
 let e8_:=(a0.getD e9_ (0:Int))
 let e1_:=(f328 (e11_,(l0.1.getD (l0.2.1+e9_) (0:Int)),e8_,()))
 let e2_:=((decide ((0:Int)<=e10_))&&(decide (e10_<(a0.length:Int))))
 let e3_:=e8_
 let e4_:=((decide ((0:Int)<=(a0.length:Int)))&&(decide ((a0.length:Int)<(l0.2.2:Int))))
 let e5_:=e10_
 let e12_:=((l0.1,l0.2),a0,(18446744073709551615:Int),())
 let e6_:=(f330 e12_)
 let e7_:=e11_
 bif e4_ then (bif e2_ then (bif (decide (e7_<e3_)) then (bif e4_ then (bif ((decide ((0:Int)<=e5_))&&(decide (e5_<(l0.2.2:Int)))) then (bif e2_ then (bif (p328 (e7_,(l0.1.getD (l0.2.1+(Int.toNat e5_)) (0:Int)),e3_,())) then (Vx.A1 (w332_6 ((e1_.1,e1_.2.1,(a0.length:Int),l0.2,a0,()),l0.1,())) fun y7 =>
 Vx.A6 y7 (fun y8 =>
 bif (p330 ((y8.2.1,y8.1.1),y8.1.2)) then (bif (f330 ((y8.2.1,y8.1.1),y8.1.2)).2.1 then (Vx.A1 (w332_13 ((y8.1.2.2.1,y8.1.1,y8.1.2.1,()),(f330 ((y8.2.1,y8.1.1),y8.1.2)).1,())) fun y11 =>
 Vx.A6 y11 (fun y12 =>
 some (y12.2.1,y12.1)) (fun z12 =>
 none))
 else some ((f330 ((y8.2.1,y8.1.1),y8.1.2)).1,y8.1.2.2))
 else none) (fun z8 =>
 none))
 else none)
 else none)
 else none)
 else none)
 else bif (p330 e12_) then (bif e6_.2.1 then (Vx.A1 (w332_13 (((18446744073709551615:Int),l0.2,a0,()),e6_.1,())) fun y5 =>
 Vx.A6 y5 (fun y6 =>
 some (y6.2.1,y6.1)) (fun z6 =>
 none))
 else some (e6_.1,(18446744073709551615:Int),()))
 else none)
 else none)
 else none
theorem aUZ (x:LK.D Ff×DenS Lt):Ox ({ cf [(264,⟨EK,EX,p328,f328⟩),(126,⟨EL,EA,p315,f315⟩),(165,⟨E3,Fr,p155,f155⟩)] [(305,6,LoopSpec.of FT V3 JY JV w332_6 1),(305,13,LoopSpec.of Ga W4 Jt Jf w332_13 1)] with lsums:=[(324,⟨Fa,Iy,Iz,p330,f330⟩),(325,⟨Ft,JK,Jd,p331,f331⟩)] }) 9 305 Tryz.f305 Ff Lt JC x=cF p328 f328 p315 f315 p155 f155 p330 f330 p331 f331 w332_6 w332_13 x.1 x.2.1:=by kernel_rfl
def Yr:Ga.D->Option (Ah Jt Jf):=Bf fun L=>U5 AS.pre AS.F AP.pre AP.F Ay.pre Ay.F Cs.pre Cs.F C6.pre C6.F L some
def gW:FT.D->Option (Ah JY JV):=Bf fun L=>Ud AS.pre AS.F AP.pre AP.F Ay.pre Ay.F Cs.pre Cs.F C6.pre C6.F L some
def Wb (x:LK.D Ff×DenS Lt):Option (LK.B Ff×DenS JC):=cF AS.pre AS.F AP.pre AP.F Ay.pre Ay.F Cs.pre Cs.F C6.pre C6.F gW Yr x.1 x.2.1
def ER:SumL:=NM Ff Lt JC Wb (LK.dflt Ff,DenS.dflt JC)
theorem aM2:SoundL Tryz.prog G1 305 ER:=q8 ({ cf [(264,AS),(126,AP),(165,Ay)] [(305,6,LoopSpec.of FT V3 JY JV gW 1),(305,13,LoopSpec.of Ga W4 Jt Jf Yr 1)] with lsums:=[(324,Cs),(325,C6)] }) 305 Tryz.f305 ⟨gF,cU,UF,trivial⟩ ⟨rfl,fun d=>Ca (fun L e x=>Ud AS.pre AS.F AP.pre AP.F Ay.pre Ay.F Cs.pre Cs.F C6.pre C6.F L e x) (zB AS.pre AS.F AP.pre AP.F Ay.pre Ay.F Cs.pre Cs.F C6.pre C6.F) (fun _ _ _ _=>aKq ..),⟨rfl,fun d=>Ca (fun L e x=>U5 AS.pre AS.F AP.pre AP.F Ay.pre Ay.F Cs.pre Cs.F C6.pre C6.F L e x) (aE8 AS.pre AS.F AP.pre AP.F Ay.pre Ay.F Cs.pre Cs.F C6.pre C6.F) (fun _ _ _ _=>aNk ..),trivial⟩⟩ Ff Lt JC Wb _ (fun _=>aUZ ..) (hls:=⟨aIA,aKW,trivial⟩)
abbrev kR:=LK.D Ff×DenS Lt->Bool
abbrev dO:=LK.D Ff×DenS Lt->LK.B Ff×DenS JC
variable (p332:kR) (f332:dO)
abbrev M1:Ab:=[(false,.slice (.int .u64)),(false,.slice (.int .u64))]
abbrev Pa:Ab:=[(false,.slice (.int .u64)),(false,.slice (.int .u64))]
abbrev F5:Pat:=⟨91,[(9,.one (.sl (.int .u64))),(12,.one (.v .i64)),(4,.one (.own 1)),(10,.one (.own 0)),(11,.one (.v .i64)),(8,.one (.v .i64))],[.arr (.int .u64),.arr (.int .u64)]⟩
abbrev eN:List (Nat×Shape):=[]
abbrev K8:List (Nat×Pat):=[(0,⟨91,[(4,.one (.own 1)),(10,.one (.own 0)),(11,.one (.v .i64)),(8,.one (.v .i64))],[.arr (.int .u64),.arr (.int .u64)]⟩)]
abbrev L4:Option Pat:=none
variable (w333_14:Pat.D F5->Option (Ah K8 L4))
def Tm (p1146:Zg) (f1146:V4) (p1329:dD) (f1329:fE) (p144:Jm) (f144:IB) (p146:RT) (f146:Sc) (p329:mN) (f329:mC) (p327:Lv) (f327:LV) (p186:Te) (f186:Tu) (p332:kR) (f332:dO) (p173:A7) (f173:A8) (p171:Sl) (f171:Sk) {R:Type} (L:Pat.D F5->Option R) (e:Ah K8 L4->Option R) (x:Pat.D F5):Option R :=
 let e3_:=(IntKind.wrap .i64 ((IntKind.wrap .i64 (x.1.2.1+x.1.2.2.2.2.1))+(1:Int)))
 let e1_:=(f332 ((x.2.1,(Int.toNat x.1.2.1),((Int.toNat e3_)-(Int.toNat x.1.2.1))),x.1.1,()))
 let e2_:=e3_
 bif (decide (x.1.2.1>=(0:Int))) then (bif (((decide ((0:Int)<=x.1.2.1))&&(decide (x.1.2.1<=e2_)))&&(decide (e2_<=(x.2.1.length:Int)))) then (bif (p332 ((x.2.1,(Int.toNat x.1.2.1),((Int.toNat e2_)-(Int.toNat x.1.2.1))),x.1.1,())) then (bif ((decide ((0:Int)<=x.1.2.1))&&(decide (x.1.2.1<(x.2.2.1.length:Int)))) then (((L ((x.1.1,(IntKind.wrap .i64 (x.1.2.1-(1:Int))),(),(),x.1.2.2.2.2),e1_.1,(x.2.2.1.set (Int.toNat x.1.2.1) e1_.2.1),()))))
 else none)
 else none)
 else none)
 else (e (.inl (((),(),x.1.2.2.2.2),x.2)))
theorem aMu (d:Nat) (R:Type) (L:Pat.D F5->Option R) (e:Ah K8 L4->Option R) (x:Pat.D F5) :
  BB ({ cf [(168,⟨ID,IZ,p1146,f1146⟩),(303,⟨LX,Mf,p1329,f1329⟩),(177,⟨FQ,FZ,p144,f144⟩),(168,⟨HC,HB,p146,f146⟩),(303,⟨LN,KH,p329,f329⟩),(304,⟨GY,GV,p327,f327⟩),(250,⟨Jh,Jg,p186,f186⟩),(169,⟨Bt,Bu,p173,f173⟩),(301,⟨Im,Hl,p171,f171⟩)] [(251,14,LoopSpec.of F5 eN K8 L4 w333_14)] with cut:=true,lsums:=[(305,⟨Ff,Lt,JC,p332,f332⟩)] }) (d+2) 251 (By Tryz.f251 14) F5 eN K8 L4 (R:=R) L e x=Tm p1146 f1146 p1329 f1329 p144 f144 p146 f146 p329 f329 p327 f327 p186 f186 p332 f332 p173 f173 p171 f171 L e x:=by kernel_rfl
theorem zN (p1146:Zg) (f1146:V4) (p1329:dD) (f1329:fE) (p144:Jm) (f144:IB) (p146:RT) (f146:Sc) (p329:mN) (f329:mC) (p327:Lv) (f327:LV) (p186:Te) (f186:Tu) (p332:kR) (f332:dO) (p173:A7) (f173:A8) (p171:Sl) (f171:Sk):Bs fun L e x=>Tm p1146 f1146 p1329 f1329 p144 f144 p146 f146 p329 f329 p327 f327 p186 f186 p332 f332 p173 f173 p171 f171 L e x:=by intro _ _ _ _ _ _ _ h0 hL he _; unfold Tm; repeat' (first | exact h0 | exact hL _ | exact he _ | apply BU | (apply BX h0; intro _) | (apply B5 <;> intro _))
def kS (p1146:Zg) (f1146:V4) (p1329:dD) (f1329:fE) (p144:Jm) (f144:IB) (p146:RT) (f146:Sc) (p329:mN) (f329:mC) (p327:Lv) (f327:LV) (p186:Te) (f186:Tu) (p332:kR) (f332:dO) (p173:A7) (f173:A8) (p171:Sl) (f171:Sk) (w333_14:Pat.D F5->Option (Ah K8 L4)) (a0 a1:Aa (.slice (.int .u64))):Option (DenS Pa) :=
 let e17_:=(IntKind.wrap .i64 (((f173 (a1,())).1.length:Int)-(1:Int)))
 let e14_:=(f327 (((f173 (a1,())).1.getD (Int.toNat e17_) (0:Int)),()))
 let e12_:=(f186 ((f173 (a0,())).1,e14_))
 let e18_:=(IntKind.wrap .i64 (((f173 (a0,())).1.length:Int)+(1:Int)))
 let e15_:=(List.replicate (Int.toNat e18_) (0:Int))
 let e13_:=(f186 ((f173 (a1,())).1,e14_))
 let e11_:=(IntKind.wrap .i64 ((((e12_.1.take e15_.length)++(e15_.drop e12_.1.length)).length:Int)-(e13_.1.length:Int)))
 let e1_:=(List.replicate (Int.toNat e11_) (0:Int))
 let e2_:=e11_
 let e3_:=e13_
 let e4_:=e12_
 let e5_:=e14_
 let e6_:=e15_
 let e16_:=((f1146 (f173 (a0,()))).1,((f173 (a1,())).1.getD (Int.toNat (0:Int)) (0:Int)),())
 let e7_:=(((f1329 e16_).2.1::[]),())
 let e8_:=e16_
 let e9_:=e17_
 let e10_:=e18_
 bif (p173 (a0,())) then (bif (p173 (a1,())) then (bif (p144 ((f173 (a0,())).1,(f173 (a1,())))) then (bif (decide ((f144 ((f173 (a0,())).1,(f173 (a1,())))).1<(0:Int))) then (bif (p1146 (f173 (a0,()))) then (some ([],(f1146 (f173 (a0,())))))
 else none)
 else bif (((f173 (a1,())).1.length:Int)==(1:Int)) then (bif (p1146 (f173 (a0,()))) then (bif (decide ((0:Int)<((f173 (a1,())).1.length:Int))) then (bif (p1329 e8_) then (bif (p173 e7_) then (some ((f1329 e8_).1,(f173 e7_)))
 else none)
 else none)
 else none)
 else none)
 else bif ((decide ((0:Int)<=e9_))&&(decide (e9_<((f173 (a1,())).1.length:Int)))) then (bif (p327 (((f173 (a1,())).1.getD (Int.toNat e9_) (0:Int)),())) then (bif (p186 ((f173 (a1,())).1,e5_)) then (bif ((decide ((0:Int)<=e10_))&&(decide ((e10_*(8:Int))<=(140737488355328:Int)))) then (bif (p186 ((f173 (a0,())).1,e5_)) then (bif ((decide ((0:Int)<=e2_))&&(decide ((e2_*(8:Int))<=(140737488355328:Int)))) then (Vx.A1 (w333_14 ((e3_.1,(IntKind.wrap .i64 ((e1_.length:Int)-(1:Int))),(),(),(e3_.1.length:Int),e5_),((e4_.1.take e6_.length)++(e6_.drop e4_.1.length)),e1_,())) fun y11 =>
 Vx.A6 y11 (fun y12 =>
 bif (p173 y12.2.2) then (bif ((decide ((0:Int)<=y12.1.2.2.1))&&(decide (y12.1.2.2.1<=(y12.2.1.length:Int)))) then (bif (p171 (((y12.2.1.take (Int.toNat y12.1.2.2.1)).drop (Int.toNat (0:Int))),y12.1.2.2.2)) then (some ((f173 y12.2.2).1,(f171 (((y12.2.1.take (Int.toNat y12.1.2.2.1)).drop (Int.toNat (0:Int))),y12.1.2.2.2))))
 else none)
 else none)
 else none) (fun z12 =>
 none))
 else none)
 else none)
 else none)
 else none)
 else none)
 else none)
 else none)
 else none)
 else none
theorem aPw (x:DenS M1):run ({ cf [(168,⟨ID,IZ,p1146,f1146⟩),(303,⟨LX,Mf,p1329,f1329⟩),(177,⟨FQ,FZ,p144,f144⟩),(168,⟨HC,HB,p146,f146⟩),(303,⟨LN,KH,p329,f329⟩),(304,⟨GY,GV,p327,f327⟩),(250,⟨Jh,Jg,p186,f186⟩),(169,⟨Bt,Bu,p173,f173⟩),(301,⟨Im,Hl,p171,f171⟩)] [(251,14,LoopSpec.of F5 eN K8 L4 w333_14)] with cut:=true,lsums:=[(305,⟨Ff,Lt,JC,p332,f332⟩)] }) 9 251 Tryz.f251 M1 Pa x=kS p1146 f1146 p1329 f1329 p144 f144 p146 f146 p329 f329 p327 f327 p186 f186 p332 f332 p173 f173 p171 f171 w333_14 x.1 x.2.1:=by kernel_rfl
def Xq:F5.D->Option (Ah K8 L4):=Bf fun L=>Tm Dz.pre Dz.F EN.pre EN.F Bm.pre Bm.F CU.pre CU.F Fj.pre Fj.F BA.pre BA.F Dx.pre Dx.F ER.pre ER.F Ag.pre Ag.F CT.pre CT.F L some
def Zu (x:DenS M1):Option (DenS Pa):=kS Dz.pre Dz.F EN.pre EN.F Bm.pre Bm.F CU.pre CU.F Fj.pre Fj.F BA.pre BA.F Dx.pre Dx.F ER.pre ER.F Ag.pre Ag.F CT.pre CT.F Xq x.1 x.2.1
def N3:Sum:=Al M1 Pa Zu (DenS.dflt Pa)
theorem aI7:Sound Tryz.prog G1 251 N3:=sd ({ cf [(168,Dz),(303,EN),(177,Bm),(168,CU),(303,Fj),(304,BA),(250,Dx),(169,Ag),(301,CT)] [(251,14,LoopSpec.of F5 eN K8 L4 Xq)] with cut:=true,lsums:=[(305,ER)] }) 251 Tryz.f251 ⟨aDt,aIH,iZ,oY,aKT,aCc,aEu,Ea,tS,trivial⟩ ⟨rfl,fun d=>Ca (fun L e x=>Tm Dz.pre Dz.F EN.pre EN.F Bm.pre Bm.F CU.pre CU.F Fj.pre Fj.F BA.pre BA.F Dx.pre Dx.F ER.pre ER.F Ag.pre Ag.F CT.pre CT.F L e x) (zN Dz.pre Dz.F EN.pre EN.F Bm.pre Bm.F CU.pre CU.F Fj.pre Fj.F BA.pre BA.F Dx.pre Dx.F ER.pre ER.F Ag.pre Ag.F CT.pre CT.F) (fun _ _ _ _=>aMu ..),trivial⟩ M1 Pa Zu _ (fun _=>aPw ..) (hls:=⟨aM2,trivial⟩)
abbrev aGz:=Ak M1
abbrev aA6:=Aj M1 Pa
variable (p333:aGz) (f333:aA6)
abbrev LS:Ab:=[(false,.slice (.int .u64)),(false,.slice (.int .u64))]
abbrev Ky:Ab:=[(false,.slice (.int .u64)),(false,.slice (.int .u64)),(false,.int .i64)]
def cE (p185:Vu) (f185:UC) (p173:A7) (f173:A8) (p333:aGz) (f333:aA6) (a0 a1:Aa (.slice (.int .u64))):Option (DenS Ky) :=
 bif (p185 ((a0::(a1::[])),())) then (bif (f185 ((a0::(a1::[])),())).1 then (some ([],[],(5:Int),()))
 else bif (p173 (a1,())) then (bif (((f173 (a1,())).1.length:Int)==(0:Int)) then (some ([],[],(10:Int),()))
 else bif (p333 (a0,a1,())) then (some ((f333 (a0,a1,())).1,(f333 (a0,a1,())).2.1,(0:Int),()))
 else none)
 else none)
 else none
theorem aMT (x:DenS LS):run (cf [(249,⟨I1,IR,p185,f185⟩),(169,⟨Bt,Bu,p173,f173⟩),(251,⟨M1,Pa,p333,f333⟩)] []) 9 175 Tryz.f175 LS Ky x=cE p185 f185 p173 f173 p333 f333 x.1 x.2.1:=by kernel_rfl
def WO (x:DenS LS):Option (DenS Ky):=cE Eb.pre Eb.F Ag.pre Ag.F N3.pre N3.F x.1 x.2.1
def EQ:Sum:=Al LS Ky WO (DenS.dflt Ky)
theorem aRV:Sound Tryz.prog G1 175 EQ:=sd (cf [(249,Eb),(169,Ag),(251,N3)] []) 175 Tryz.f175 ⟨uJ,Ea,aI7,trivial⟩ trivial LS Ky WO _ (fun _=>aMT ..)
abbrev jN:=Ak LS
abbrev aK:=Aj LS Ky
variable (p345:jN) (f345:aK)
abbrev Rt:Ab:=[(true,.slice (.int .u64)),(false,.slice (.int .u64))]
abbrev MZ:Ab:=[(true,.slice (.int .u64))]
abbrev Hv:Pat:=⟨37,[(9,.one (.v .i64)),(1,.one (.sl (.int .u64))),(5,.one (.v .u64)),(10,.one (.v .i64)),(0,.one (.own 0))],[.arr (.int .u64)]⟩
abbrev bU:List (Nat×Shape):=[]
abbrev K3:List (Nat×Pat):=[(0,⟨37,[(0,.one (.own 0))],[.arr (.int .u64)]⟩)]
abbrev Kk:Option Pat:=none
variable (w1174_3:Pat.D Hv->Option (Ah K3 Kk))
def VD (p1173:ML) (f1173:Py) (p157:Gs) (f157:GN) (p173:A7) (f173:A8) {R:Type} (L:Pat.D Hv->Option R) (e:Ah K3 Kk->Option R) (x:Pat.D Hv):Option R :=
 let e8_:=(x.2.1.getD (Int.toNat x.1.2.2.2.1) (0:Int))
 let e7_:=((x.1.2.1.getD (Int.toNat x.1.2.2.2.1) (0:Int)),x.1.2.2.1,())
 let e1_:=(f157 (e8_,e7_))
 let e2_:=((decide ((0:Int)<=x.1.2.2.2.1))&&(decide (x.1.2.2.2.1<(x.2.1.length:Int))))
 let e3_:=(f157 (e8_,(0:Int),x.1.2.2.1,()))
 let e4_:=((IntKind.wrap .i64 (x.1.2.2.2.1+(1:Int))),(),())
 let e5_:=(decide (x.1.2.2.2.1<(x.1.2.1.length:Int)))
 let e6_:=e8_
 bif (decide (x.1.2.2.2.1<x.1.1)) then (bif e5_ then (bif ((decide ((0:Int)<=x.1.2.2.2.1))&&e5_) then (bif e2_ then (bif (p157 (e6_,e7_)) then (bif e2_ then (((L ((x.1.1,x.1.2.1,e1_.2.1,e4_),(x.2.1.set (Int.toNat x.1.2.2.2.1) e1_.1),()))))
 else none)
 else none)
 else none)
 else none)
 else bif e2_ then (bif (p157 (e6_,(0:Int),x.1.2.2.1,())) then (bif e2_ then (((L ((x.1.1,x.1.2.1,e3_.2.1,e4_),(x.2.1.set (Int.toNat x.1.2.2.2.1) e3_.1),()))))
 else none)
 else none)
 else none)
 else (e (.inl (((),()),x.2)))
theorem aK5 (d:Nat) (R:Type) (L:Pat.D Hv->Option R) (e:Ah K3 Kk->Option R) (x:Pat.D Hv) :
  BB ({ cf [(169,⟨HG,Ii,p1173,f1173⟩),(166,⟨Md,Oi,p157,f157⟩),(169,⟨Bt,Bu,p173,f173⟩)] [(252,3,LoopSpec.of Hv bU K3 Kk w1174_3)] with keep:=true }) (d+2) 252 (By Tryz.f252 3) Hv bU K3 Kk (R:=R) L e x=VD p1173 f1173 p157 f157 p173 f173 L e x:=by kernel_rfl
theorem aGb (p1173:ML) (f1173:Py) (p157:Gs) (f157:GN) (p173:A7) (f173:A8):Bs fun L e x=>VD p1173 f1173 p157 f157 p173 f173 L e x:=by intro _ _ _ _ _ _ _ h0 hL he _; unfold VD; repeat' (first | exact h0 | exact hL _ | exact he _ | apply BU | (apply BX h0; intro _) | (apply B5 <;> intro _))
def aN (p1173:ML) (f1173:Py) (p157:Gs) (f157:GN) (p173:A7) (f173:A8) (w1174_3:Pat.D Hv->Option (Ah K3 Kk)) (a0 a1:Aa (.slice (.int .u64))):Option (DenS MZ) :=
 Vx.A1 (w1174_3 (((a0.length:Int),a1,(0:Int),(0:Int),(),()),a0,())) fun y0 =>
 Vx.A6 y0 (fun y1 =>
 bif (p1173 y1.2) then (some (f1173 y1.2))
 else none) (fun z1 =>
 none)
theorem aQh (x:DenS Rt):run ({ cf [(169,⟨HG,Ii,p1173,f1173⟩),(166,⟨Md,Oi,p157,f157⟩),(169,⟨Bt,Bu,p173,f173⟩)] [(252,3,LoopSpec.of Hv bU K3 Kk w1174_3)] with keep:=true }) 9 252 Tryz.f252 Rt MZ x=aN p1173 f1173 p157 f157 p173 f173 w1174_3 x.1 x.2.1:=by kernel_rfl
def ZM:Hv.D->Option (Ah K3 Kk):=Bf fun L=>VD Cf.pre Cf.F A5.pre A5.F Ag.pre Ag.F L some
def XD (x:DenS Rt):Option (DenS MZ):=aN Cf.pre Cf.F A5.pre A5.F Ag.pre Ag.F ZM x.1 x.2.1
def M9:Sum:=Al Rt MZ XD (DenS.dflt MZ)
theorem aP6:Sound Tryz.prog G1 252 M9:=sd ({ cf [(169,Cf),(166,A5),(169,Ag)] [(252,3,LoopSpec.of Hv bU K3 Kk ZM)] with keep:=true }) 252 Tryz.f252 ⟨aGK,fA,Ea,trivial⟩ ⟨rfl,fun d=>Ca (fun L e x=>VD Cf.pre Cf.F A5.pre A5.F Ag.pre Ag.F L e x) (aGb Cf.pre Cf.F A5.pre A5.F Ag.pre Ag.F) (fun _ _ _ _=>aK5 ..),trivial⟩ Rt MZ XD _ (fun _=>aQh ..)
abbrev aDw:=Ak Rt
abbrev aHx:=Aj Rt MZ
variable (p1174:aDw) (f1174:aHx)
abbrev Rq:Ab:=[(false,.slice (.int .u64)),(false,.slice (.int .u64))]
abbrev Ra:Ab:=[(false,.slice (.int .u64))]
abbrev Ho:Pat:=⟨37,[(9,.one (.v .i64)),(1,.one (.sl (.int .u64))),(5,.one (.v .u64)),(10,.one (.v .i64)),(0,.one (.sl (.int .u64)))],[]⟩
abbrev lW:List (Nat×Shape):=[]
abbrev LT:List (Nat×Pat):=[(0,⟨37,[(0,.one (.sl (.int .u64)))],[]⟩)]
abbrev Kl:Option Pat:=none
variable (w174_3:Pat.D Ho->Option (Ah LT Kl))
def WL (p157:Gs) (f157:GN) (p173:A7) (f173:A8) {R:Type} (L:Pat.D Ho->Option R) (e:Ah LT Kl->Option R) (x:Pat.D Ho):Option R :=
 let e1_:=((decide ((0:Int)<=x.1.2.2.2.1))&&(decide (x.1.2.2.2.1<(x.1.2.2.2.2.1.length:Int))))
 let e2_:=(x.1.2.2.2.2.1.getD (Int.toNat x.1.2.2.2.1) (0:Int))
 let e3_:=(decide (x.1.2.2.2.1<(x.1.2.1.length:Int)))
 bif (decide (x.1.2.2.2.1<x.1.1)) then (bif e3_ then (bif ((decide ((0:Int)<=x.1.2.2.2.1))&&e3_) then (bif e1_ then (bif (p157 (e2_,(x.1.2.1.getD (Int.toNat x.1.2.2.2.1) (0:Int)),x.1.2.2.1,())) then (bif e1_ then ((none))
 else none)
 else none)
 else none)
 else none)
 else bif e1_ then (bif (p157 (e2_,(0:Int),x.1.2.2.1,())) then (bif e1_ then ((none))
 else none)
 else none)
 else none)
 else (e (.inl (x.1.2.2.2.2,())))
theorem aIC (d:Nat) (R:Type) (L:Pat.D Ho->Option R) (e:Ah LT Kl->Option R) (x:Pat.D Ho) :
  BB (cf [(166,⟨Md,Oi,p157,f157⟩),(169,⟨Bt,Bu,p173,f173⟩)] [(252,3,LoopSpec.of Ho lW LT Kl w174_3)]) (d+2) 252 (By Tryz.f252 3) Ho lW LT Kl (R:=R) L e x=WL p157 f157 p173 f173 L e x:=by kernel_rfl
theorem aJU (p157:Gs) (f157:GN) (p173:A7) (f173:A8):Bs fun L e x=>WL p157 f157 p173 f173 L e x:=by intro _ _ _ _ _ _ _ h0 hL he _; unfold WL; repeat' (first | exact h0 | exact hL _ | exact he _ | apply BU | (apply BX h0; intro _) | (apply B5 <;> intro _))
def aGG (p157:Gs) (f157:GN) (p173:A7) (f173:A8) (w174_3:Pat.D Ho->Option (Ah LT Kl)) (a0 a1:Aa (.slice (.int .u64))):Option (DenS Ra) :=
 Vx.A1 (w174_3 (((a0.length:Int),a1,(0:Int),(0:Int),a0,()),())) fun y0 =>
 Vx.A6 y0 (fun y1 =>
 bif (p173 y1.1) then (some (f173 y1.1))
 else none) (fun z1 =>
 none)
theorem aS5 (x:DenS Rq):run (cf [(166,⟨Md,Oi,p157,f157⟩),(169,⟨Bt,Bu,p173,f173⟩)] [(252,3,LoopSpec.of Ho lW LT Kl w174_3)]) 9 252 Tryz.f252 Rq Ra x=aGG p157 f157 p173 f173 w174_3 x.1 x.2.1:=by kernel_rfl
def aB0:Ho.D->Option (Ah LT Kl):=Bf fun L=>WL A5.pre A5.F Ag.pre Ag.F L some
def aHF (x:DenS Rq):Option (DenS Ra):=aGG A5.pre A5.F Ag.pre Ag.F aB0 x.1 x.2.1
def VH:Sum:=Al Rq Ra aHF (DenS.dflt Ra)
theorem aR1:Sound Tryz.prog G1 252 VH:=sd (cf [(166,A5),(169,Ag)] [(252,3,LoopSpec.of Ho lW LT Kl aB0)]) 252 Tryz.f252 ⟨fA,Ea,trivial⟩ ⟨rfl,fun d=>Ca (fun L e x=>WL A5.pre A5.F Ag.pre Ag.F L e x) (aJU A5.pre A5.F Ag.pre Ag.F) (fun _ _ _ _=>aIC ..),trivial⟩ Rq Ra aHF _ (fun _=>aS5 ..)
abbrev yS:=Ak Rq
abbrev aDi:=Aj Rq Ra
variable (p174:yS) (f174:aDi)
abbrev IV:Ab:=[(false,.slice (.int .u64)),(false,.slice (.int .u64))]
abbrev JN:Ab:=[(false,.slice (.int .u64)),(false,.int .i64)]
def iF (p1174:aDw) (f1174:aHx) (p1146:Zg) (f1146:V4) (p144:Jm) (f144:IB) (p146:RT) (f146:Sc) (p173:A7) (f173:A8) (p174:yS) (f174:aDi) (a0 a1:Aa (.slice (.int .u64))):Option (DenS JN) :=
 bif (p144 (a0,a1,())) then (bif (decide ((f144 (a0,a1,())).1<(0:Int))) then (some ([],(20:Int),()))
 else bif (p1146 (a0,())) then (bif (p173 (a1,())) then (bif (p1174 ((f1146 (a0,())).1,(f173 (a1,())))) then (some ((f1174 ((f1146 (a0,())).1,(f173 (a1,())))).1,(0:Int),()))
 else none)
 else none)
 else none)
 else none
theorem aRN (x:DenS IV):run (cf [(252,⟨Rt,MZ,p1174,f1174⟩),(168,⟨ID,IZ,p1146,f1146⟩),(177,⟨FQ,FZ,p144,f144⟩),(168,⟨HC,HB,p146,f146⟩),(169,⟨Bt,Bu,p173,f173⟩),(252,⟨Rq,Ra,p174,f174⟩)] []) 9 178 Tryz.f178 IV JN x=iF p1174 f1174 p1146 f1146 p144 f144 p146 f146 p173 f173 p174 f174 x.1 x.2.1:=by kernel_rfl
def W3 (x:DenS IV):Option (DenS JN):=iF M9.pre M9.F Dz.pre Dz.F Bm.pre Bm.F CU.pre CU.F Ag.pre Ag.F VH.pre VH.F x.1 x.2.1
def CY:Sum:=Al IV JN W3 (DenS.dflt JN)
theorem aGm:Sound Tryz.prog G1 178 CY:=sd (cf [(252,M9),(168,Dz),(177,Bm),(168,CU),(169,Ag),(252,VH)] []) 178 Tryz.f178 ⟨aP6,aDt,iZ,oY,Ea,aR1,trivial⟩ trivial IV JN W3 _ (fun _=>aRN ..)
abbrev UV:=Ak IV
abbrev TG:=Aj IV JN
variable (p145:UV) (f145:TG)
abbrev OI:Ab:=[(false,.slice (.int .u64)),(false,.slice (.int .u64)),(false,.int .i64)]
abbrev Q7:Ab:=[(true,.pair (.bool) (.pair (.slice (.int .u64)) (.pair (.int .i64) (.pair (.bool) (.unit)))))]
abbrev HE:Pat:=⟨81,[(2,.one (.v .i64)),(1,.one (.sl (.int .u64))),(11,.one (.sl (.int .u64))),(13,.one (.ptr 1 0)),(6,.one (.ptr 0 0))],[.raw [.bool,.sl (.int .u64),.v .i64,.bool],.raw [.bool,.sl (.int .u64),.v .i64,.bool]]⟩
abbrev lU:List (Nat×Shape):=[]
abbrev Mp:List (Nat×Pat):=[(0,⟨81,[(11,.one (.sl (.int .u64))),(13,.one (.ptr 1 0)),(6,.one (.ptr 0 0))],[.raw [.bool,.sl (.int .u64),.v .i64,.bool],.raw [.bool,.sl (.int .u64),.v .i64,.bool]]⟩)]
abbrev Mj:Option Pat:=none
variable (w379_5:Pat.D HE->Option (Ah Mp Mj))
def Td (p176:Uq) (f176:T9) (p345:jN) (f345:aK) (p151:KT) (f151:L5) (p144:Jm) (f144:IB) (p145:UV) (f145:TG) (p143:Nj) (f143:PH) {R:Type} (L:Pat.D HE->Option R) (e:Ah Mp Mj->Option R) (x:Pat.D HE):Option R :=
 let e1_:=((IntKind.wrap .i64 (x.2.2.1.2.2.1-(1:Int))),x.2.2.1.2.2.2)
 let e2_:=((f143 (x.2.2.1.2.1,x.2.2.1.2.1,())).1,((1:Int)::[]),())
 let e3_:=((f143 (x.1.2.2.1,x.1.2.2.1,())).1,x.1.2.1,())
 bif (p151 (x.2.2.1.2.1,())) then (bif ((decide ((f151 (x.2.2.1.2.1,())).1<x.1.1))&&(decide ((x.1.2.2.1.length:Int)>(0:Int)))) then (bif (p143 (x.2.2.1.2.1,x.2.2.1.2.1,())) then (bif (p143 (x.1.2.2.1,x.1.2.2.1,())) then (bif (p144 e3_) then (bif (decide ((f144 e3_).1>=(0:Int))) then (bif (p145 e3_) then (bif (p143 e2_) then (((L ((x.1.1,x.1.2.1,(f145 e3_).1,(),(),()),x.2.1,(x.2.2.1.1,(f143 e2_).1,e1_),()))))
 else none)
 else none)
 else (L ((x.1.1,x.1.2.1,(f143 (x.1.2.2.1,x.1.2.2.1,())).1,(),(),()),x.2.1,(x.2.2.1.1,(f143 (x.2.2.1.2.1,x.2.2.1.2.1,())).1,e1_),())))
 else none)
 else none)
 else none)
 else (e (.inl ((x.1.2.2.1,(),(),()),x.2))))
 else none
theorem aPQ (d:Nat) (R:Type) (L:Pat.D HE->Option R) (e:Ah Mp Mj->Option R) (x:Pat.D HE) :
  BB (cf [(174,⟨IU,Ip,p176,f176⟩),(175,⟨LS,Ky,p345,f345⟩),(123,⟨F6,Gd,p151,f151⟩),(177,⟨FQ,FZ,p144,f144⟩),(178,⟨IV,JN,p145,f145⟩),(176,⟨Ij,GU,p143,f143⟩)] [(128,5,LoopSpec.of HE lU Mp Mj w379_5)]) (d+2) 128 (By Tryz.f128 5) HE lU Mp Mj (R:=R) L e x=Td p176 f176 p345 f345 p151 f151 p144 f144 p145 f145 p143 f143 L e x:=by kernel_rfl
theorem aAy (p176:Uq) (f176:T9) (p345:jN) (f345:aK) (p151:KT) (f151:L5) (p144:Jm) (f144:IB) (p145:UV) (f145:TG) (p143:Nj) (f143:PH):Bs fun L e x=>Td p176 f176 p345 f345 p151 f151 p144 f144 p145 f145 p143 f143 L e x:=by intro _ _ _ _ _ _ _ h0 hL he _; unfold Td; repeat' (first | exact h0 | exact hL _ | exact he _ | apply BU | (apply BX h0; intro _) | (apply B5 <;> intro _))
def eE (p176:Uq) (f176:T9) (p345:jN) (f345:aK) (p151:KT) (f151:L5) (p144:Jm) (f144:IB) (p145:UV) (f145:TG) (p143:Nj) (f143:PH) (w379_5:Pat.D HE->Option (Ah Mp Mj)) (a0 a1:Aa (.slice (.int .u64))) (a2:Aa (.int .i64)):Option (DenS Q7) :=
 let e5_:=(IntKind.wrap .i64 ((IntKind.wrap .i64 ((f151 (a1,())).1-(f151 (a0,())).1))-(1:Int)))
 let e4_:=(a0,(if (e5_>(0:Int)) then e5_ else (0:Int)),())
 let e1_:=(f345 ((f176 e4_).1,a1,()))
 let e2_:=e4_
 let e3_:=e5_
 bif (p151 (a1,())) then (bif (p151 (a0,())) then (bif (p176 e2_) then (bif (p345 ((f176 e2_).1,a1,())) then (Vx.A1 (w379_5 ((a2,a1,e1_.2.1,(),(),()),(false,[],(0:Int),false,()),(false,e1_.1,(IntKind.wrap .i64 ((0:Int)-(if (e3_>(0:Int)) then e3_ else (0:Int)))),false,()),())) fun y4 =>
 Vx.A6 y4 (fun y5 =>
 some ((y5.2.2.1.1,y5.2.2.1.2.1,y5.2.2.1.2.2.1,(decide ((y5.1.1.length:Int)>(0:Int))),()),())) (fun z5 =>
 none))
 else none)
 else none)
 else none)
 else none
theorem aMi (x:DenS OI):run (cf [(174,⟨IU,Ip,p176,f176⟩),(175,⟨LS,Ky,p345,f345⟩),(123,⟨F6,Gd,p151,f151⟩),(177,⟨FQ,FZ,p144,f144⟩),(178,⟨IV,JN,p145,f145⟩),(176,⟨Ij,GU,p143,f143⟩)] [(128,5,LoopSpec.of HE lU Mp Mj w379_5)]) 9 128 Tryz.f128 OI Q7 x=eE p176 f176 p345 f345 p151 f151 p144 f144 p145 f145 p143 f143 w379_5 x.1 x.2.1 x.2.2.1:=by kernel_rfl
def kO:HE.D->Option (Ah Mp Mj):=Bf fun L=>Td DU.pre DU.F EQ.pre EQ.F Ci.pre Ci.F Bm.pre Bm.F CY.pre CY.F CG.pre CG.F L some
def YQ (x:DenS OI):Option (DenS Q7):=eE DU.pre DU.F EQ.pre EQ.F Ci.pre Ci.F Bm.pre Bm.F CY.pre CY.F CG.pre CG.F kO x.1 x.2.1 x.2.2.1
def RG:Sum:=Al OI Q7 YQ (DenS.dflt Q7)
theorem aUm:Sound Tryz.prog G1 128 RG:=sd (cf [(174,DU),(175,EQ),(123,Ci),(177,Bm),(178,CY),(176,CG)] [(128,5,LoopSpec.of HE lU Mp Mj kO)]) 128 Tryz.f128 ⟨aAY,aRV,YA,iZ,aGm,n7,trivial⟩ ⟨rfl,fun d=>Ca (fun L e x=>Td DU.pre DU.F EQ.pre EQ.F Ci.pre Ci.F Bm.pre Bm.F CY.pre CY.F CG.pre CG.F L e x) (aAy DU.pre DU.F EQ.pre EQ.F Ci.pre Ci.F Bm.pre Bm.F CY.pre CY.F CG.pre CG.F) (fun _ _ _ _=>aPQ ..),trivial⟩ OI Q7 YQ _ (fun _=>aMi ..)
abbrev aFA:=Ak OI
abbrev aED:=Aj OI Q7
variable (p379:aFA) (f379:aED)
abbrev Qu:Ab:=[(false,.int .i64),(false,.int .i64),(false,.bool),(false,.slice (.int .u64)),(false,.slice (.int .u64)),(false,.int .i64)]
abbrev OB:Ab:=[(false,.int .u64),(false,.int .i64),(false,.int .i64)]
def lG (p105:Vv) (f105:TH) (p102:GM) (f102:G3) (p156:dE) (f156:jJ) (p379:aFA) (f379:aED) (p107:Uh) (f107:UX) (a0 a1:Aa (.int .i64)) (a2:Aa (.bool)) (a3 a4:Aa (.slice (.int .u64))) (a5:Aa (.int .i64)):Option (DenS OB) :=
 let e4_:=((f102 (a3,())).1,(f102 (a4,())).1,(IntKind.wrap .i64 ((f105 (a0,a1,())).1.2.1+(3:Int))),())
 let e3_:=(f379 e4_)
 let e1_:=(f107 ((a2,e3_.1.2.1,(IntKind.wrap .i64 (e3_.1.2.2.1+a5)),e3_.1.2.2.2),a0,(f105 (a0,a1,())).1,a1,()))
 let e2_:=e3_
 bif (p105 (a0,a1,())) then (bif ((f105 (a0,a1,())).2.1 != (0:Int)) then (some ((0:Int),(0:Int),(f105 (a0,a1,())).2))
 else bif (p102 (a3,())) then (bif (p102 (a4,())) then (bif (decide ((IntKind.wrap .i64 (((f102 (a3,())).1.length:Int)+((f102 (a4,())).1.length:Int)))>(1024:Int))) then (some ((0:Int),(0:Int),(5:Int),()))
 else bif ((decide (a5<(-(40000:Int))))||(decide (a5>(40000:Int)))) then (some ((0:Int),(0:Int),(30:Int),()))
 else bif (((f102 (a4,())).1.length:Int)==(0:Int)) then (some ((0:Int),(0:Int),(10:Int),()))
 else bif (((f102 (a3,())).1.length:Int)==(0:Int)) then (bif (p156 (a0,a2,())) then (some (f156 (a0,a2,())))
 else none)
 else bif (p379 e4_) then (bif (p107 ((a2,e2_.1.2.1,(IntKind.wrap .i64 (e2_.1.2.2.1+a5)),e2_.1.2.2.2),a0,(f105 (a0,a1,())).1,a1,())) then (some (e1_.1,e1_.2.1,(0:Int),()))
 else none)
 else none)
 else none)
 else none)
 else none
theorem aMO (x:DenS Qu):run (cf [(121,⟨Ju,Jj,p105,f105⟩),(122,⟨FI,FD,p102,f102⟩),(124,⟨KM,J8,p156,f156⟩),(128,⟨OI,Q7,p379,f379⟩),(125,⟨I8,IT,p107,f107⟩)] []) 9 72 Tryz.f72 Qu OB x=lG p105 f105 p102 f102 p156 f156 p379 f379 p107 f107 x.1 x.2.1 x.2.2.1 x.2.2.2.1 x.2.2.2.2.1 x.2.2.2.2.2.1:=by kernel_rfl
def Wp (x:DenS Qu):Option (DenS OB):=lG EI.pre EI.F Bg.pre Bg.F HN.pre HN.F RG.pre RG.F EV.pre EV.F x.1 x.2.1 x.2.2.1 x.2.2.2.1 x.2.2.2.2.1 x.2.2.2.2.2.1
def P7:Sum:=Al Qu OB Wp (DenS.dflt OB)
theorem aSs:Sound Tryz.prog G1 72 P7:=sd (cf [(121,EI),(122,Bg),(124,HN),(128,RG),(125,EV)] []) 72 Tryz.f72 ⟨tL,Xl,aFO,aUm,nT,trivial⟩ trivial Qu OB Wp _ (fun _=>aMO ..)
abbrev aAG:=Ak Qu
abbrev yO:=Aj Qu OB
variable (p380:aAG) (f380:yO)
abbrev Qp:Ab:=[(false,.int .i64),(false,.int .i64),(false,.int .u64),(false,.int .u64)]
abbrev LC:Ab:=[(false,.int .u64),(false,.int .i64),(false,.int .i64)]
def gP (p376:aEs) (f376:aGU) (p377:aCI) (f377:yV) (p378:zQ) (f378:aDb) (p97:NO) (f97:MQ) (p118:G8) (f118:GD) (p40:Pk) (f40:Rd) (p380:aAG) (f380:yO) (a0 a1:Aa (.int .i64)) (a2 a3:Aa (.int .u64)):Option (DenS LC) :=
 let e6_:=(!((f377 (a0,a2,())).1.2.2.2.2.1==(f377 (a0,a3,())).1.2.2.2.2.1))
 let e1_:=(a0,a1,e6_,(f40 (a0,a2,())).1.2.1,(f40 (a0,a3,())).1.2.1,(IntKind.wrap .i64 ((f40 (a0,a2,())).1.2.2.1-(f40 (a0,a3,())).1.2.2.1)),())
 let e5_:=(a0,e6_,())
 let e2_:=(f118 e5_)
 let e3_:=(f97 e5_)
 let e4_:=(p97 e5_)
 let g1_:Option (DenS LC):=bif (p378 (a0,(1:Int),())) then (some (f378 (a0,(1:Int),())))
 else none
 bif (p376 (a0,a1,(a2::(a3::[])),())) then (bif ((f376 (a0,a1,(a2::(a3::[])),())).1 != (0:Int)) then (some ((0:Int),(0:Int),(f376 (a0,a1,(a2::(a3::[])),()))))
 else bif (p377 (a0,a2,())) then (bif (p377 (a0,a3,())) then (bif ((f377 (a0,a2,())).1.2.1||(f377 (a0,a3,())).1.2.1) then (g1_)
 else bif ((f377 (a0,a2,())).1.1||(f377 (a0,a3,())).1.1) then (bif (p378 (a0,(0:Int),())) then (some (f378 (a0,(0:Int),())))
 else none)
 else bif (((f377 (a0,a2,())).1.2.2.1&&(f377 (a0,a3,())).1.2.2.1)||((f377 (a0,a2,())).1.2.2.2.1&&(f377 (a0,a3,())).1.2.2.2.1)) then (g1_)
 else bif (f377 (a0,a2,())).1.2.2.1 then (bif e4_ then (some (e3_.1,(0:Int),e3_.2))
 else none)
 else bif (f377 (a0,a3,())).1.2.2.2.1 then (bif e4_ then (some (e3_.1,(2:Int),e3_.2))
 else none)
 else bif ((f377 (a0,a3,())).1.2.2.1||(f377 (a0,a2,())).1.2.2.2.1) then (bif (p118 e5_) then (some (e2_.1,(0:Int),e2_.2))
 else none)
 else bif (p40 (a0,a2,())) then (bif (p40 (a0,a3,())) then (bif (p380 e1_) then (some (f380 e1_))
 else none)
 else none)
 else none)
 else none)
 else none)
 else none
theorem aNG (x:DenS Qp):run (cf [(68,⟨O1,Ny,p376,f376⟩),(69,⟨MO,RD,p377,f377⟩),(70,⟨Qx,NV,p378,f378⟩),(65,⟨GJ,GP,p97,f97⟩),(38,⟨EG,EZ,p118,f118⟩),(71,⟨Gp,GG,p40,f40⟩),(72,⟨Qu,OB,p380,f380⟩)] []) 9 18 Tryz.f18 Qp LC x=gP p376 f376 p377 f377 p378 f378 p97 f97 p118 f118 p40 f40 p380 f380 x.1 x.2.1 x.2.2.1 x.2.2.2.1:=by kernel_rfl
def YF (x:DenS Qp):Option (DenS LC):=gP RC.pre RC.F NZ.pre NZ.F Pc.pre Pc.F B4.pre B4.F A3.pre A3.F CA.pre CA.F P7.pre P7.F x.1 x.2.1 x.2.2.1 x.2.2.2.1
def Ks:Sum:=Al Qp LC YF (DenS.dflt LC)
theorem aBX:Sound Tryz.prog G1 18 Ks:=sd (cf [(68,RC),(69,NZ),(70,Pc),(65,B4),(38,A3),(71,CA),(72,P7)] []) 18 Tryz.f18 ⟨aRF,aSI,aMS,Y5,SR,ZR,aSs,trivial⟩ trivial Qp LC YF _ (fun _=>aNG ..)
abbrev qJ:=Ak Qp
abbrev qY:=Aj Qp LC
variable (p381:qJ) (f381:qY)
abbrev eA:Ab:=[(false,.int .i64),(false,.int .i64),(false,.int .u64),(false,.int .u64)]
abbrev pL:Ab:=[(false,.int .u64),(false,.int .i64),(false,.int .i64)]
def Q0:SumF:=IS eA pL [(15,[],Fb),(16,[],Kh),(17,[],MH),(18,[],Ks)]
theorem aTg:KA Tryz.prog G1 Q0:=UW ⟨DF nX,⟨DF aAV,⟨DF zM,⟨DF aBX,trivial⟩⟩⟩⟩
abbrev xF:=Option (Nat×List Nat)->Ak eA
abbrev aAo:=Option (Nat×List Nat)->Aj eA pL
variable (p100002:xF) (f100002:aAo)
abbrev OP:Ab:=[(true,.pair (.int .i64) (.pair (.int .i64) (.pair (.int .u64) (.pair (.int .u64) (.pair (.int .u64) .unit))))),(false,.box (.pfn))]
abbrev MG:Ab:=[(false,.int .u64),(false,.int .i64),(false,.int .i64)]
def bQ (p100002:xF) (f100002:aAo) (a0:Aa (.pair (.int .i64) (.pair (.int .i64) (.pair (.int .u64) (.pair (.int .u64) (.pair (.int .u64) .unit)))))) (a1:Aa (.box (.pfn))):Option (DenS MG) :=
 let e1_:=(a0.2.1,a0.1,a0.2.2.1,a0.2.2.2.1,())
 bif (p100002 (some (a1,[])) e1_) then (some (f100002 (some (a1,[])) e1_))
 else none
theorem aR0 (x:DenS OP):run ({ cf [] [] with fns:=[(31,⟨eA,pL,p100002,f100002⟩)] }) 9 255 Tryz.f255 OP MG x=bQ p100002 f100002 x.1 x.2.1:=by kernel_rfl
def ZW (x:DenS OP):Option (DenS MG):=bQ Q0.pre Q0.F x.1 x.2.1
def Dp:Sum:=Al OP MG ZW (DenS.dflt MG)
theorem Wa:Sound Tryz.prog G1 255 Dp:=sd ({ cf [] [] with fns:=[(31,Q0)] }) 255 Tryz.f255 trivial trivial OP MG ZW _ (fun _=>aR0 ..) (hfs:=⟨aTg,trivial⟩)
abbrev qG:=Ak OP
abbrev uC:=Aj OP MG
variable (p395:qG) (f395:uC)
abbrev Q6:Ab:=[(false,.int .i64),(false,.int .i64),(false,.slice (.int .u64))]
abbrev Rs:Ab:=[(true,.pair (.int .i64) (.pair (.int .i64) (.pair (.int .i64) (.pair (.int .i64) (.unit))))),(false,.int .i64)]
abbrev G5:Pat:=⟨44,[(30,.one (.v .i64)),(29,.one (.sl (.int .u64))),(0,.one (.v .i64)),(31,.one (.v .i64)),(8,.one (.ptr 1 0)),(6,.one (.ptr 0 0))],[.raw [.v .i64,.v .i64,.v .i64,.v .i64],.raw [.v .i64,.v .i64,.v .i64,.v .i64]]⟩
abbrev dQ:List (Nat×Shape):=[]
abbrev K0:List (Nat×Pat):=[(0,⟨44,[(8,.one (.ptr 1 0)),(6,.one (.ptr 0 0))],[.raw [.v .i64,.v .i64,.v .i64,.v .i64],.raw [.v .i64,.v .i64,.v .i64,.v .i64]]⟩)]
abbrev Me:Option Pat:=(some ⟨44,[(6,.one (.ptr 0 0)),(7,.one (.v .i64))],[.raw [.v .i64,.v .i64,.v .i64,.v .i64]]⟩)
variable (w311_7:Pat.D G5->Option (Ah K0 Me))
def TL (p69:BM) (f69:BQ) (p66:Cm) (f66:Cj) {R:Type} (L:Pat.D G5->Option R) (e:Ah K0 Me->Option R) (x:Pat.D G5):Option R :=
 let e2_:=(x.1.2.2.1,(x.1.2.1.getD (Int.toNat x.1.2.2.2.1) (0:Int)),())
 let e1_:=(f66 e2_)
 bif (decide (x.1.2.2.2.1<x.1.1)) then (bif ((decide ((0:Int)<=x.1.2.2.2.1))&&(decide (x.1.2.2.2.1<(x.1.2.1.length:Int)))) then (bif (p66 e2_) then (bif (e1_.1 != (0:Int)) then (((e (.inr (((),e1_),x.2.2)))))
 else (L ((x.1.1,x.1.2.1,x.1.2.2.1,(IntKind.wrap .i64 (x.1.2.2.2.1+(1:Int))),(),(),()),x.2)))
 else none)
 else none)
 else (e (.inl (((),(),()),x.2)))
theorem aTL (d:Nat) (R:Type) (L:Pat.D G5->Option R) (e:Ah K0 Me->Option R) (x:Pat.D G5) :
  BB (cf [(54,⟨Ck,Cn,p69,f69⟩),(59,⟨CJ,CM,p66,f66⟩)] [(133,7,LoopSpec.of G5 dQ K0 Me w311_7)]) (d+2) 133 (By Tryz.f133 7) G5 dQ K0 Me (R:=R) L e x=TL p69 f69 p66 f66 L e x:=by kernel_rfl
theorem aBm (p69:BM) (f69:BQ) (p66:Cm) (f66:Cj):Bs fun L e x=>TL p69 f69 p66 f66 L e x:=by intro _ _ _ _ _ _ _ h0 hL he _; unfold TL; repeat' (first | exact h0 | exact hL _ | exact he _ | apply BU | (apply BX h0; intro _) | (apply B5 <;> intro _))
def Vj (p69:BM) (f69:BQ) (p66:Cm) (f66:Cj) (w311_7:Pat.D G5->Option (Ah K0 Me)) (a0 a1:Aa (.int .i64)) (a2:Aa (.slice (.int .u64))):Option (DenS Rs) :=
 bif (p69 (a0,())) then (bif ((f69 (a0,())).2.1 != (0:Int)) then (some (f69 (a0,())))
 else bif ((decide (a1<(0:Int)))||(decide (a1>(5:Int)))) then (some ((f69 (a0,())).1,(3:Int),()))
 else Vx.A1 (w311_7 (((a2.length:Int),a2,a0,(0:Int),(),(),()),((0:Int),(0:Int),(0:Int),(0:Int),()),(f69 (a0,())).1,())) fun y3 =>
 Vx.A6 y3 (fun y4 =>
 some (y4.2.2.1,(0:Int),())) (fun z4 =>
 some (z4.2.1,z4.1.2)))
 else none
theorem aSb (x:DenS Q6):run (cf [(54,⟨Ck,Cn,p69,f69⟩),(59,⟨CJ,CM,p66,f66⟩)] [(133,7,LoopSpec.of G5 dQ K0 Me w311_7)]) 9 133 Tryz.f133 Q6 Rs x=Vj p69 f69 p66 f66 w311_7 x.1 x.2.1 x.2.2.1:=by kernel_rfl
def ZI:G5.D->Option (Ah K0 Me):=Bf fun L=>TL Aq.pre Aq.F Ar.pre Ar.F L some
def VJ (x:DenS Q6):Option (DenS Rs):=Vj Aq.pre Aq.F Ar.pre Ar.F ZI x.1 x.2.1 x.2.2.1
def QC:Sum:=Al Q6 Rs VJ (DenS.dflt Rs)
theorem aQv:Sound Tryz.prog G1 133 QC:=sd (cf [(54,Aq),(59,Ar)] [(133,7,LoopSpec.of G5 dQ K0 Me ZI)]) 133 Tryz.f133 ⟨Er,Ge,trivial⟩ ⟨rfl,fun d=>Ca (fun L e x=>TL Aq.pre Aq.F Ar.pre Ar.F L e x) (aBm Aq.pre Aq.F Ar.pre Ar.F) (fun _ _ _ _=>aTL ..),trivial⟩ Q6 Rs VJ _ (fun _=>aSb ..)
abbrev uB:=Ak Q6
abbrev tG:=Aj Q6 Rs
variable (p311:uB) (f311:tG)
abbrev Qj:Ab:=[(false,.int .i64),(false,.int .i64)]
abbrev PK:Ab:=[(false,.int .u64),(false,.int .i64),(false,.bool)]
def mJ (p70:D3) (f70:D8) (a0 a1:Aa (.int .i64)):Option (DenS PK) :=
 bif (p70 (a0,())) then (bif (a1==(1:Int)) then (some ((f70 (a0,())).1,(0:Int),true,()))
 else bif (a1==(0:Int)) then (bif (a1==(0:Int)) then (some ((f70 (a0,())).1,(1:Int),true,()))
 else some ((0:Int),(0:Int),false,()))
 else bif (a1==(2:Int)) then (bif (a1==(2:Int)) then (some ((f70 (a0,())).1,(1:Int),true,()))
 else some ((0:Int),(0:Int),false,()))
 else bif (a1==(3:Int)) then (bif (a1==(3:Int)) then (some ((f70 (a0,())).1,(1:Int),true,()))
 else some ((0:Int),(0:Int),false,()))
 else bif (a1==(4:Int)) then (some ((f70 (a0,())).1,(1:Int),true,()))
 else some ((0:Int),(0:Int),false,()))
 else none
theorem aOt (x:DenS Qj):run (cf [(56,⟨DG,DJ,p70,f70⟩)] []) 9 134 Tryz.f134 Qj PK x=mJ p70 f70 x.1 x.2.1:=by kernel_rfl
def Zc (x:DenS Qj):Option (DenS PK):=mJ AB.pre AB.F x.1 x.2.1
def Nk:Sum:=Al Qj PK Zc (DenS.dflt PK)
theorem aSY:Sound Tryz.prog G1 134 Nk:=sd (cf [(56,AB)] []) 134 Tryz.f134 ⟨Ha,trivial⟩ trivial Qj PK Zc _ (fun _=>aOt ..)
abbrev u5:=Ak Qj
abbrev wH:=Aj Qj PK
variable (p312:u5) (f312:wH)
abbrev Qo:Ab:=[(false,.int .i64),(true,.pair (.int .i64) (.pair (.int .i64) (.pair (.int .i64) (.pair (.int .i64) (.unit))))),(false,.int .u64)]
abbrev Rj:Ab:=[(false,.int .u64),(false,.int .i64)]
def gE (p98:JH) (f98:II) (a0:Aa (.int .i64)) (a1:Aa (.pair (.int .i64) (.pair (.int .i64) (.pair (.int .i64) (.pair (.int .i64) (.unit)))))) (a2:Aa (.int .u64)):Option (DenS Rj) :=
 let e1_:=(IntKind.wrap .i64 (a1.2.1-(1:Int)))
 bif (p98 (a0,a2,())) then (bif ((f98 (a0,a2,())).2.1==(0:Int)) then (some ((f98 (a0,a2,())).2.2.1,(IntKind.wrap .i64 ((IntKind.wrap .i64 ((IntKind.wrap .i64 ((IntKind.wrap .i64 ((IntKind.wrap .i64 (1:Int))-(1:Int)))+a1.2.2.1))-a1.2.1))+(1:Int))),()))
 else bif (decide ((0:Int)<=e1_)) then (some ((AW .u64 (f98 (a0,a2,())).2.2.1 (AT .u64 (1:Int) e1_)),(IntKind.wrap .i64 ((IntKind.wrap .i64 ((IntKind.wrap .i64 ((IntKind.wrap .i64 ((IntKind.wrap .i64 (f98 (a0,a2,())).2.1)-(1:Int)))+a1.2.2.1))-a1.2.1))+(1:Int))),()))
 else none)
 else none
theorem aSz (x:DenS Qo):run (cf [(119,⟨FL,Fi,p98,f98⟩)] []) 9 135 Tryz.f135 Qo Rj x=gE p98 f98 x.1 x.2.1 x.2.2.1:=by kernel_rfl
def Yf (x:DenS Qo):Option (DenS Rj):=gE Bo.pre Bo.F x.1 x.2.1 x.2.2.1
def Ri:Sum:=Al Qo Rj Yf (DenS.dflt Rj)
theorem aNs:Sound Tryz.prog G1 135 Ri:=sd (cf [(119,Bo)] []) 135 Tryz.f135 ⟨RU,trivial⟩ trivial Qo Rj Yf _ (fun _=>aSz ..)
abbrev r4:=Ak Qo
abbrev qC:=Aj Qo Rj
variable (p313:r4) (f313:qC)
abbrev M4:Ab:=[(true,.pair (.int .u64) (.pair (.int .u64) (.unit)))]
abbrev OK:Ab:=[(false,.int .i64)]
def iC (p178:He) (f178:Hx) (a0:Aa (.pair (.int .u64) (.pair (.int .u64) (.unit)))):Option (DenS OK) :=
 bif (a0.1 != (0:Int)) then (bif (p178 (a0.1,())) then (some ((IntKind.wrap .i64 ((64:Int)+(f178 (a0.1,())).1)),()))
 else none)
 else bif (p178 a0.2) then (some (f178 a0.2))
 else none
theorem aUE (x:DenS M4):run (cf [(83,⟨FS,FA,p178,f178⟩)] []) 9 136 Tryz.f136 M4 OK x=iC p178 f178 x.1:=by kernel_rfl
def Wg (x:DenS M4):Option (DenS OK):=iC Bw.pre Bw.F x.1
def Ql:Sum:=Al M4 OK Wg (DenS.dflt OK)
theorem aPI:Sound Tryz.prog G1 136 Ql:=sd (cf [(83,Bw)] []) 136 Tryz.f136 ⟨V7,trivial⟩ trivial M4 OK Wg _ (fun _=>aUE ..)
abbrev oB:=Ak M4
abbrev tF:=Aj M4 OK
variable (p314:oB) (f314:tF)
end Vx
end
