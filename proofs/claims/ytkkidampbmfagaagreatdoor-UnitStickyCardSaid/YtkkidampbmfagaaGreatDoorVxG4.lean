/- Part 4 of the proof. What is proved: symbolic execution of the functions, proved sound; what each function of the program computes, and that every run ends with it; what these functions compute, in plain numbers. Conditions: each theorem bears its own. -/
import Derived.Test.YtkkidampbmfagaaGreatDoorVxG3
import Derived.Test.YtkkidampbmfagaaGreatDoorProg
set_option linter.all false
set_option exponentiation.threshold 1000000
noncomputable section
open Go.IntKind renaming wrap->aa
open Int renaming tmod->jp,toNat->aj
open List renaming replicate->ax
namespace Vx
open Go Go.Proofs
abbrev rowsSh:Shape:=.pair (.int .i64) (.pair (.int .i64) (.pair (.int .i64) (.pair (.int .i64) .unit)))
abbrev kindsSh:Shape:=.pair (.int .u64) (.pair (.int .u64) .unit)
def k_rows:List (Aa rowsSh):=[(16,11,-14,15,()),(16,8,-126,127,()),(32,24,-126,127,()),(64,53,-1022,1023,())]
def Iq:List UInt8:=[0,1,2,2,3,3,3,3,4,4,4,4,4,4,4,4,5,5,5,5,5,5,5,5,5,5,5,5,5,5,5,5,6,6,6,6,6,6,6,6,6,6,6,6,6,6,6,6,6,6,6,6,6,6,6,6,6,6,6,6,6,6,6,6,7,7,7,7,7,7,7,7,7,7,7,7,7,7,7,7,7,7,7,7,7,7,7,7,7,7,7,7,7,7,7,7,7,7,7,7,7,7,7,7,7,7,7,7,7,7,7,7,7,7,7,7,7,7,7,7,7,7,7,7,7,7,7,7,8,8,8,8,8,8,8,8,8,8,8,8,8,8,8,8,8,8,8,8,8,8,8,8,8,8,8,8,8,8,8,8,8,8,8,8,8,8,8,8,8,8,8,8,8,8,8,8,8,8,8,8,8,8,8,8,8,8,8,8,8,8,8,8,8,8,8,8,8,8,8,8,8,8,8,8,8,8,8,8,8,8,8,8,8,8,8,8,8,8,8,8,8,8,8,8,8,8,8,8,8,8,8,8,8,8,8,8,8,8,8,8,8,8,8,8,8,8,8,8,8,8,8,8,8,8,8,8]
def k_deb:List (Aa (.int .u8)):=[0,1,56,2,57,49,28,3,61,58,42,50,38,29,17,4,62,47,59,36,45,43,51,22,53,39,33,30,24,18,12,5,63,55,48,27,60,41,37,16,46,35,44,21,52,32,23,11,54,26,40,15,34,20,31,10,25,14,19,9,13,8,7,6]
def k_kinds:List (Aa kindsSh):=[(2147483648,2147483647,()),(9223372036854775808,9223372036854775807,()),(0,4294967295,()),(0,18446744073709551615,())]
def G1:List (Nat×Sigma fun τ=>List (Aa τ)):=[(0,⟨kindsSh,k_kinds⟩),(2,⟨rowsSh,k_rows⟩),(3,⟨.int .u8,k_deb⟩)]
abbrev Al(I:Ab):=DenS I->Bool
abbrev Ak(I O:Ab):=DenS I->DenS O
@[reducible] def cf(s:List (FuncId×Sum))(l:List (FuncId×Nat×LoopSpec)):Cfg:={P:=Tryz.prog,sums:=s,loops:=l,globs:=G1}
theorem sd(C:Cfg)(n:FuncId)(fn:Func)(hs:Ty C.P C.globs C.sums)(hl:RY C n fn C.loops)(I O:Ab)(t:DenS I->Option (DenS O))(d:DenS O)(h:∀x,run C 9 n fn I O x=t x)(hls:Tz C.P C.globs C.lsums:=by exact trivial)(hfs:Tw C.P C.globs C.fns:=by exact trivial)(hms:Tx C.P C.globs C.meths:=by exact trivial)
  (hm : C.P.follows .mixedOrders = true := by kernel_rfl) (hf : C.P.funcs[n]? = some fn := by kernel_rfl) (hb : (match fn.body with | some c => Iu ((CN c).map Db) | none => false) = true := by kernel_rfl) (hn : (fn.name == "runtime.NumGoroutine") = false := by kernel_rfl) : Sound C.P C.globs n (Aj I O t d) :=
 aM8 C 9 n fn hm hf hb hn hs hl I O t d h hls hfs hms
theorem V5(C:Cfg)(n:FuncId)(fn:Func)(hs:Ty C.P C.globs C.sums)(hl:RY C n fn C.loops)(k:LK)(I O:Ab)(t:k.D×DenS I->Option (k.B×DenS O))(d:k.B×DenS O)(h:∀x,Iy C 9 n fn k I O x=t x)(hls:Tz C.P C.globs C.lsums:=by exact trivial)(hfs:Tw C.P C.globs C.fns:=by exact trivial)(hms:Tx C.P C.globs C.meths:=by exact trivial)
  (hm : C.P.follows .mixedOrders = true := by kernel_rfl) (hf : C.P.funcs[n]? = some fn := by kernel_rfl) (hb : (match fn.body with | some c => Iu ((CN c).map Db) | none => false) = true := by kernel_rfl) (hn : (fn.name == "runtime.NumGoroutine") = false := by kernel_rfl) : SoundL C.P C.globs n (Iz k I O t d) :=
 aM9 C 9 n fn hm hf hb hn hs hl k I O t d h hls hfs hms
abbrev Ck:Ab:=[(false,.int .i64)]
abbrev Cl:Ab:=[(true,.pair (.int .i64) (.pair (.int .i64) (.pair (.int .i64) (.pair (.int .i64) (.unit))))),(false,.int .i64)]
def nJ(a0:Aa (.int .i64)):Option (DenS Cl):=let e1_:=((0:Int),(0:Int),(0:Int),(0:Int),());bif((decide (a0<(0:Int)))||(decide (a0>=(4:Int))))then(some (e1_,(2:Int),()))else bif((decide ((0:Int)<=a0))&&(decide (a0<((4:Nat):Int))))then(some ((Vx.k_rows.getD (aj a0) e1_),(0:Int),()))else none
theorem r69(x:DenS Ck):run (cf [] []) 9 54 Tryz.f54 Ck Cl x=nJ x.1:=by kernel_rfl
def Sn(x:DenS Ck):Option (DenS Cl):=nJ x.1
def Aq:Sum:=Aj Ck Cl Sn (DenS.dflt Cl)
theorem Em:Sound Tryz.prog G1 54 Aq:=sd (cf [] []) 54 Tryz.f54 trivial trivial Ck Cl Sn _ (fun _=>r69 ..)
abbrev BK:=Al Ck
abbrev BL:=Ak Ck Cl
variable (p69:BK)(f69:BL)
abbrev CI:Ab:=[(false,.int .i64),(false,.int .u64)]
abbrev CJ:Ab:=[(false,.int .i64)]
def nI(p69:BK)(f69:BL)(a0:Aa (.int .i64))(a1:Aa (.int .u64)):Option (DenS CJ):=bif(p69 (a0,()))then(bif((f69 (a0,())).2.1 !=(0:Int))then(some (f69 (a0,())).2)else bif((decide ((0:Int)<=(f69 (a0,())).1.1))||(!(decide ((f69 (a0,())).1.1<(64:Int)))))then(bif((decide ((f69 (a0,())).1.1<(64:Int)))&&((AJ .u64 a1 (f69 (a0,())).1.1)!=(0:Int)))then(some ((4:Int),()))else some ((0:Int),()))else none)else none
theorem r66(x:DenS CI):run (cf [(54,⟨Ck,Cl,p69,f69⟩)] []) 9 59 Tryz.f59 CI CJ x=nI p69 f69 x.1 x.2.1:=by kernel_rfl
def Yr(x:DenS CI):Option (DenS CJ):=nI Aq.pre Aq.F x.1 x.2.1
def Ar:Sum:=Aj CI CJ Yr (DenS.dflt CJ)
theorem Gl:Sound Tryz.prog G1 59 Ar:=sd (cf [(54,Aq)] []) 59 Tryz.f59 ⟨Em,trivial⟩ trivial CI CJ Yr _ (fun _=>r66 ..)
abbrev Cm:=Al CI
abbrev Cn:=Ak CI CJ
variable (p66:Cm)(f66:Cn)
abbrev EE:Ab:=[(false,.int .i64)]
abbrev EH:Ab:=[(false,.int .u64)]
def nM(a0:Aa (.int .i64)):Option (DenS EH):=bif(decide ((0:Int)<=a0))then(some ((aa .u64 ((AQ .u64 (1:Int) a0)-(1:Int))),()))else none
theorem r91(x:DenS EE):run (cf [] []) 9 112 Tryz.f112 EE EH x=nM x.1:=by kernel_rfl
def Yw(x:DenS EE):Option (DenS EH):=nM x.1
def Bq:Sum:=Aj EE EH Yw (DenS.dflt EH)
theorem LU:Sound Tryz.prog G1 112 Bq:=sd (cf [] []) 112 Tryz.f112 trivial trivial EE EH Yw _ (fun _=>r91 ..)
abbrev H7:=Al EE
abbrev Ia:=Ak EE EH
variable (p91:H7)(f91:Ia)
abbrev I2:Ab:=[(true,.pair (.int .i64) (.pair (.int .i64) (.pair (.int .i64) (.pair (.int .i64) (.unit))))),(false,.int .u64)]
abbrev Jr:Ab:=[(false,.bool),(false,.int .u64),(false,.int .u64)]
def nL(p91:H7)(f91:Ia)(a0:Aa (.pair (.int .i64) (.pair (.int .i64) (.pair (.int .i64) (.pair (.int .i64) (.unit))))))(a1:Aa (.int .u64)):Option (DenS Jr):=let e5_:=(aa .i64 (a0.2.1-(1:Int)));let e1_:=(e5_,());let e2_:=((aa .i64 (a0.1-a0.2.1)),());let e3_:=e5_;let e4_:=(aa .i64 (a0.1-(1:Int)));bif(decide ((0:Int)<=e4_))then(bif(decide ((0:Int)<=e3_))then(bif(p91 e2_)then(bif(p91 e1_)then(some (((AJ .u64 a1 e4_)!=(0:Int)),(A9 .u64 (AJ .u64 a1 e3_) (f91 e2_).1),(A9 .u64 a1 (f91 e1_).1),()))else none)else none)else none)else none
theorem r90(x:DenS I2):run (cf [(112,⟨EE,EH,p91,f91⟩)] []) 9 111 Tryz.f111 I2 Jr x=nL p91 f91 x.1 x.2.1:=by kernel_rfl
def Yv(x:DenS I2):Option (DenS Jr):=nL Bq.pre Bq.F x.1 x.2.1
def Do:Sum:=Aj I2 Jr Yv (DenS.dflt Jr)
theorem o7:Sound Tryz.prog G1 111 Do:=sd (cf [(112,Bq)] []) 111 Tryz.f111 ⟨LU,trivial⟩ trivial I2 Jr Yv _ (fun _=>r90 ..)
abbrev YU:=Al I2
abbrev Y2:=Ak I2 Jr
variable (p90:YU)(f90:Y2)
abbrev DM:Ab:=[(false,.int .i64),(false,.int .u64)]
abbrev DN:Ab:=[(false,.int .i64),(false,.int .i64)]
def Wl(p66:Cm)(f66:Cn)(p90:YU)(f90:Y2)(p91:H7)(f91:Ia)(a0:Aa (.int .i64))(a1:Aa (.int .u64)):Option (DenS DN):=let e10_:=(Vx.k_rows.getD (aj a0) ((0:Int),(0:Int),(0:Int),(0:Int),()));let e9_:=(f90 (e10_,a1,()));let e8_:=((aa .i64 (e10_.1-e10_.2.1)),());let e1_:=(e9_.2.1==(f91 e8_).1);let e2_:=(p91 e8_);let e3_:=(aa .i64 (e10_.2.1-(2:Int)));let e4_:=(e9_.2.2.1==(0:Int));let e5_:=(e9_.2.1==(0:Int));let e6_:=e9_;let e7_:=e10_;bif(p66 (a0,a1,()))then(bif((f66 (a0,a1,())).1 !=(0:Int))then(some ((0:Int),(f66 (a0,a1,()))))else bif((decide ((0:Int)<=a0))&&(decide (a0<((4:Nat):Int))))then(bif(p90 (e7_,a1,()))then(bif e2_ then(bif(e1_&&e4_)then(bif e6_.1 then(some ((aa .i64 ((11:Int)-(9:Int))),(0:Int),()))else some ((9:Int),(0:Int),()))else bif e2_ then(bif((decide ((0:Int)<=e3_))||(!(decide (e6_.2.1=(f91 ((aa .i64 (e7_.1-e7_.2.1)),())).1))))then(bif(e1_&&((AJ .u64 e6_.2.2.1 e3_)!=(0:Int)))then(some ((1:Int),(0:Int),()))else bif e2_ then(bif e1_ then(some ((0:Int),(0:Int),()))else bif(e5_&&e4_)then(bif e6_.1 then(some ((aa .i64 ((11:Int)-(6:Int))),(0:Int),()))else some ((6:Int),(0:Int),()))else bif e5_ then(bif e6_.1 then(some ((aa .i64 ((11:Int)-(7:Int))),(0:Int),()))else some ((7:Int),(0:Int),()))else bif e6_.1 then(some ((aa .i64 ((11:Int)-(8:Int))),(0:Int),()))else some ((8:Int),(0:Int),()))else none)else none)else none)else none)else none)else none)else none
theorem r65(x:DenS DM):run (cf [(59,⟨CI,CJ,p66,f66⟩),(111,⟨I2,Jr,p90,f90⟩),(112,⟨EE,EH,p91,f91⟩)] []) 9 55 Tryz.f55 DM DN x=Wl p66 f66 p90 f90 p91 f91 x.1 x.2.1:=by kernel_rfl
def Ue(x:DenS DM):Option (DenS DN):=Wl Ar.pre Ar.F Do.pre Do.F Bq.pre Bq.F x.1 x.2.1
def AD:Sum:=Aj DM DN Ue (DenS.dflt DN)
theorem H3:Sound Tryz.prog G1 55 AD:=sd (cf [(59,Ar),(111,Do),(112,Bq)] []) 55 Tryz.f55 ⟨Gl,o7,LU,trivial⟩ trivial DM DN Ue _ (fun _=>r65 ..)
abbrev Ep:=Al DM
abbrev Er:=Ak DM DN
variable (p65:Ep)(f65:Er)
abbrev IJ:Ab:=[(true,.pair (.int .i64) (.pair (.int .i64) (.pair (.int .i64) (.pair (.int .i64) (.unit)))))]
abbrev I8:Ab:=[(false,.int .u64)]
def aHU(a0:Aa (.pair (.int .i64) (.pair (.int .i64) (.pair (.int .i64) (.pair (.int .i64) (.unit)))))):Option (DenS I8):=some ((0:Int),())
theorem aRh(x:DenS IJ):run (cf [] []) 9 104 Tryz.f104 IJ I8 x=aHU x.1:=by kernel_rfl
def zD(x:DenS IJ):Option (DenS I8):=aHU x.1
def JA:Sum:=Aj IJ I8 zD (DenS.dflt I8)
theorem oM:Sound Tryz.prog G1 104 JA:=sd (cf [] []) 104 Tryz.f104 trivial trivial IJ I8 zD _ (fun _=>aRh ..)
abbrev eH:=Al IJ
abbrev fA:=Ak IJ I8
variable (p116:eH)(f116:fA)
abbrev Nj:Ab:=[(true,.pair (.int .i64) (.pair (.int .i64) (.pair (.int .i64) (.pair (.int .i64) (.unit)))))]
abbrev OQ:Ab:=[(false,.int .u64)]
def aHV(a0:Aa (.pair (.int .i64) (.pair (.int .i64) (.pair (.int .i64) (.pair (.int .i64) (.unit)))))):Option (DenS OQ):=let e1_:=(aa .i64 (a0.2.1-(2:Int)));bif(decide ((0:Int)<=e1_))then(some ((AQ .u64 (1:Int) e1_),()))else none
theorem aRi(x:DenS Nj):run (cf [] []) 9 113 Tryz.f113 Nj OQ x=aHV x.1:=by kernel_rfl
def zE(x:DenS Nj):Option (DenS OQ):=aHV x.1
def cO:Sum:=Aj Nj OQ zE (DenS.dflt OQ)
theorem aIP:Sound Tryz.prog G1 113 cO:=sd (cf [] []) 113 Tryz.f113 trivial trivial Nj OQ zE _ (fun _=>aRi ..)
abbrev aAI:=Al Nj
abbrev aBW:=Ak Nj OQ
variable (p117:aAI)(f117:aBW)
abbrev Hp:Ab:=[(true,.pair (.int .i64) (.pair (.int .i64) (.pair (.int .i64) (.pair (.int .i64) (.unit))))),(false,.bool),(false,.int .u64),(false,.int .u64)]
abbrev Hy:Ab:=[(false,.int .u64)]
def aHX(a0:Aa (.pair (.int .i64) (.pair (.int .i64) (.pair (.int .i64) (.pair (.int .i64) (.unit))))))(a1:Aa (.bool))(a2 a3:Aa (.int .u64)):Option (DenS Hy):=let e3_:=(aa .i64 (a0.2.1-(1:Int)));let e1_:=(A7 .u64 (AQ .u64 a2 e3_) a3);let e2_:=(aa .i64 (a0.1-(1:Int)));bif(decide ((0:Int)<=e3_))then(bif a1 then(bif(decide ((0:Int)<=e2_))then(some ((A7 .u64 e1_ (AQ .u64 (1:Int) e2_)),()))else none)else some (e1_,()))else none
theorem aRv(x:DenS Hp):run (cf [] []) 9 149 Tryz.f149 Hp Hy x=aHX x.1 x.2.1 x.2.2.1 x.2.2.2.1:=by kernel_rfl
def zH(x:DenS Hp):Option (DenS Hy):=aHX x.1 x.2.1 x.2.2.1 x.2.2.2.1
def Gg:Sum:=Aj Hp Hy zH (DenS.dflt Hy)
theorem cP:Sound Tryz.prog G1 149 Gg:=sd (cf [] []) 149 Tryz.f149 trivial trivial Hp Hy zH _ (fun _=>aRv ..)
abbrev YR:=Al Hp
abbrev YZ:=Ak Hp Hy
variable (p140:YR)(f140:YZ)
abbrev DE:Ab:=[(false,.int .i64)]
abbrev DF:Ab:=[(false,.int .u64),(false,.int .i64)]
def t70(p116:eH)(f116:fA)(p117:aAI)(f117:aBW)(p69:BK)(f69:BL)(p91:H7)(f91:Ia)(p140:YR)(f140:YZ)(a0:Aa (.int .i64)):Option (DenS DF):=let e2_:=((aa .i64 ((f69 (a0,())).1.1-(f69 (a0,())).1.2.1)),());let e1_:=((f69 (a0,())).1,false,(aa .u64 ((f91 e2_).1-(f116 ((f69 (a0,())).1,())).1)),(f117 ((f69 (a0,())).1,())));bif(p69 (a0,()))then(bif((f69 (a0,())).2.1 !=(0:Int))then(some ((0:Int),(f69 (a0,())).2))else bif(p91 e2_)then(bif(p116 ((f69 (a0,())).1,()))then(bif(p117 ((f69 (a0,())).1,()))then(bif(p140 e1_)then(some ((f140 e1_).1,(0:Int),()))else none)else none)else none)else none)else none
theorem r70(x:DenS DE):run (cf [(104,⟨IJ,I8,p116,f116⟩),(113,⟨Nj,OQ,p117,f117⟩),(54,⟨Ck,Cl,p69,f69⟩),(112,⟨EE,EH,p91,f91⟩),(149,⟨Hp,Hy,p140,f140⟩)] []) 9 56 Tryz.f56 DE DF x=t70 p116 f116 p117 f117 p69 f69 p91 f91 p140 f140 x.1:=by kernel_rfl
def Ys(x:DenS DE):Option (DenS DF):=t70 JA.pre JA.F cO.pre cO.F Aq.pre Aq.F Bq.pre Bq.F Gg.pre Gg.F x.1
def AB:Sum:=Aj DE DF Ys (DenS.dflt DF)
theorem GY:Sound Tryz.prog G1 56 AB:=sd (cf [(104,JA),(113,cO),(54,Aq),(112,Bq),(149,Gg)] []) 56 Tryz.f56 ⟨oM,aIP,Em,LU,cP,trivial⟩ trivial DE DF Ys _ (fun _=>r70 ..)
abbrev Ec:=Al DE
abbrev Ed:=Ak DE DF
variable (p70:Ec)(f70:Ed)
abbrev Fj:Ab:=[(false,.int .i64),(false,.int .u64)]
abbrev Fv:Ab:=[(false,.bool),(false,.int .u64),(false,.int .u64),(false,.int .i64)]
def nP(p66:Cm)(f66:Cn)(p90:YU)(f90:Y2)(a0:Aa (.int .i64))(a1:Aa (.int .u64)):Option (DenS Fv):=let e2_:=((Vx.k_rows.getD (aj a0) ((0:Int),(0:Int),(0:Int),(0:Int),())),a1,());let e1_:=(f90 e2_);bif(p66 (a0,a1,()))then(bif((f66 (a0,a1,())).1 !=(0:Int))then(some (false,(0:Int),(0:Int),(f66 (a0,a1,()))))else bif(bif(decide ((0:Int)<=a0))then(decide (a0<((4:Nat):Int)))else false)then(bif(p90 e2_)then(some (e1_.1,e1_.2.1,e1_.2.2.1,(0:Int),()))else none)else none)else none
theorem r98(x:DenS Fj):run (cf [(59,⟨CI,CJ,p66,f66⟩),(111,⟨I2,Jr,p90,f90⟩)] []) 9 119 Tryz.f119 Fj Fv x=nP p66 f66 p90 f90 x.1 x.2.1:=by kernel_rfl
def YB(x:DenS Fj):Option (DenS Fv):=nP Ar.pre Ar.F Do.pre Do.F x.1 x.2.1
def Br:Sum:=Aj Fj Fv YB (DenS.dflt Fv)
theorem R3:Sound Tryz.prog G1 119 Br:=sd (cf [(59,Ar),(111,Do)] []) 119 Tryz.f119 ⟨Gl,o7,trivial⟩ trivial Fj Fv YB _ (fun _=>r98 ..)
abbrev JP:=Al Fj
abbrev JT:=Ak Fj Fv
variable (p98:JP)(f98:JT)
abbrev OK:Ab:=[(false,.int .i64),(true,.pair (.int .i64) (.pair (.int .i64) (.pair (.int .i64) (.pair (.int .i64) (.unit))))),(false,.int .u64)]
abbrev P8:Ab:=[(true,.pair (.bool) (.pair (.int .u64) (.pair (.int .i64) (.unit))))]
def nK(p98:JP)(f98:JT)(a0:Aa (.int .i64))(a1:Aa (.pair (.int .i64) (.pair (.int .i64) (.pair (.int .i64) (.pair (.int .i64) (.unit))))))(a2:Aa (.int .u64)):Option (DenS P8):=let e1_:=(aa .i64 ((aa .i64 (a1.2.2.1-a1.2.1))+(1:Int)));let e2_:=(aa .i64 (a1.2.1-(1:Int)));bif(p98 (a0,a2,()))then(bif(decide ((f98 (a0,a2,())).2.1>(0:Int)))then(bif(decide ((0:Int)<=e2_))then(some (((f98 (a0,a2,())).1,(A7 .u64 (f98 (a0,a2,())).2.2.1 (AQ .u64 (1:Int) e2_)),(aa .i64 (e1_+(aa .i64 ((aa .i64 (f98 (a0,a2,())).2.1)-(1:Int))))),()),()))else none)else some (((f98 (a0,a2,())).1,(f98 (a0,a2,())).2.2.1,e1_,()),()))else none
theorem r72(x:DenS OK):run (cf [(119,⟨Fj,Fv,p98,f98⟩)] []) 9 58 Tryz.f58 OK P8 x=nK p98 f98 x.1 x.2.1 x.2.2.1:=by kernel_rfl
def Yt(x:DenS OK):Option (DenS P8):=nK Br.pre Br.F x.1 x.2.1 x.2.2.1
def QZ:Sum:=Aj OK P8 Yt (DenS.dflt P8)
theorem aJ2:Sound Tryz.prog G1 58 QZ:=sd (cf [(119,Br)] []) 58 Tryz.f58 ⟨R3,trivial⟩ trivial OK P8 Yt _ (fun _=>r72 ..)
abbrev qU:=Al OK
abbrev rX:=Ak OK P8
variable (p72:qU)(f72:rX)
abbrev Ho:Ab:=[(true,.pair (.int .u64) (.pair (.int .u64) (.unit))),(false,.int .i64)]
abbrev I9:Ab:=[(true,.pair (.int .u64) (.pair (.int .u64) (.unit)))]
def jU(a0:Aa (.pair (.int .u64) (.pair (.int .u64) (.unit))))(a1:Aa (.int .i64)):Option (DenS I9):=let e1_:=(aa .i64 (a1-(64:Int)));let e2_:=(aa .i64 ((64:Int)-a1));bif(decide (a1<=(0:Int)))then(some ((a0.1,a0.2),()))else bif(decide (a1>=(128:Int)))then(some (((0:Int),(0:Int),()),()))else bif(decide (a1>=(64:Int)))then(bif(decide ((0:Int)<=e1_))then(some (((AQ .u64 a0.2.1 e1_),(0:Int),()),()))else none)else bif(decide ((0:Int)<=a1))then(bif(decide ((0:Int)<=e2_))then(bif(decide ((0:Int)<=a1))then(some (((A7 .u64 (AQ .u64 a0.1 a1) (AJ .u64 a0.2.1 e2_)),(AQ .u64 a0.2.1 a1),()),()))else none)else none)else none
theorem aRn(x:DenS Ho):run (cf [] []) 9 114 Tryz.f114 Ho I9 x=jU x.1 x.2.1:=by kernel_rfl
def Q4(x:DenS Ho):Option (DenS I9):=jU x.1 x.2.1
def AE:Sum:=Aj Ho I9 Q4 (DenS.dflt I9)
theorem xV:Sound Tryz.prog G1 114 AE:=sd (cf [] []) 114 Tryz.f114 trivial trivial Ho I9 Q4 _ (fun _=>aRn ..)
abbrev YQ:=Al Ho
abbrev YY:=Ak Ho I9
variable (p119:YQ)(f119:YY)
abbrev IK:Ab:=[(true,.pair (.int .u64) (.pair (.int .u64) (.unit))),(false,.int .i64)]
abbrev KJ:Ab:=[(true,.pair (.int .u64) (.pair (.int .u64) (.unit)))]
def jV(a0:Aa (.pair (.int .u64) (.pair (.int .u64) (.unit))))(a1:Aa (.int .i64)):Option (DenS KJ):=let e1_:=(aa .i64 (a1-(64:Int)));let e2_:=(aa .i64 ((64:Int)-a1));bif(decide (a1<=(0:Int)))then(some ((a0.1,a0.2),()))else bif(decide (a1>=(128:Int)))then(some (((0:Int),(0:Int),()),()))else bif(decide (a1>=(64:Int)))then(bif(decide ((0:Int)<=e1_))then(some (((0:Int),(AJ .u64 a0.1 e1_),()),()))else none)else bif(decide ((0:Int)<=a1))then(bif(decide ((0:Int)<=a1))then(bif(decide ((0:Int)<=e2_))then(some (((AJ .u64 a0.1 a1),(A7 .u64 (AJ .u64 a0.2.1 a1) (AQ .u64 a0.1 e2_)),()),()))else none)else none)else none
theorem aRo(x:DenS IK):run (cf [] []) 9 115 Tryz.f115 IK KJ x=jV x.1 x.2.1:=by kernel_rfl
def TP(x:DenS IK):Option (DenS KJ):=jV x.1 x.2.1
def AL:Sum:=Aj IK KJ TP (DenS.dflt KJ)
theorem aIQ:Sound Tryz.prog G1 115 AL:=sd (cf [] []) 115 Tryz.f115 trivial trivial IK KJ TP _ (fun _=>aRo ..)
abbrev pR:=Al IK
abbrev qX:=Ak IK KJ
variable (p120:pR)(f120:qX)
abbrev E6:Ab:=Tq
abbrev Fs:Ab:=V6
def Ay:Sum:=aC5
theorem TL:Sound Tryz.prog G1 165 Ay:=aLS Tryz.func165 (by kernel_rfl) (by kernel_rfl) (by kernel_rfl) (by kernel_rfl)
abbrev C5:=Al E6
abbrev C6:=Ak E6 Fs
variable (p155:C5)(f155:C6)
abbrev IL:Ab:=[(true,.pair (.int .u64) (.pair (.int .u64) (.unit))),(true,.pair (.int .u64) (.pair (.int .u64) (.unit)))]
abbrev KK:Ab:=[(true,.pair (.int .u64) (.pair (.int .u64) (.unit))),(false,.int .u64)]
def jW(p155:C5)(f155:C6)(a0 a1:Aa (.pair (.int .u64) (.pair (.int .u64) (.unit)))):Option (DenS KK):=let e2_:=(a0.1,a1.1,(f155 (a0.2.1,a1.2.1,(0:Int),())).2);let e1_:=(f155 e2_);bif(p155 (a0.2.1,a1.2.1,(0:Int),()))then(bif(p155 e2_)then(some ((e1_.1,(f155 (a0.2.1,a1.2.1,(0:Int),())).1,()),e1_.2))else none)else none
theorem aRp(x:DenS IL):run (cf [(165,⟨E6,Fs,p155,f155⟩)] []) 9 116 Tryz.f116 IL KK x=jW p155 f155 x.1 x.2.1:=by kernel_rfl
def W2(x:DenS IL):Option (DenS KK):=jW Ay.pre Ay.F x.1 x.2.1
def Ly:Sum:=Aj IL KK W2 (DenS.dflt KK)
theorem aIR:Sound Tryz.prog G1 116 Ly:=sd (cf [(165,Ay)] []) 116 Tryz.f116 ⟨TL,trivial⟩ trivial IL KK W2 _ (fun _=>aRp ..)
abbrev pS:=Al IL
abbrev qY:=Ak IL KK
variable (p121:pS)(f121:qY)
abbrev GA:Ab:=[(true,.pair (.int .u64) (.pair (.int .u64) (.unit))),(true,.pair (.int .u64) (.pair (.int .u64) (.unit)))]
abbrev Hx:Ab:=[(false,.int .i64)]
def jY(a0 a1:Aa (.pair (.int .u64) (.pair (.int .u64) (.unit)))):Option (DenS Hx):=bif((a0.1==a1.1)&&(a0.2.1==a1.2.1))then(some ((0:Int),()))else bif((decide (a0.1<a1.1))||((a0.1==a1.1)&&(decide (a0.2.1<a1.2.1))))then(some ((-(1:Int)),()))else some ((1:Int),())
theorem aRr(x:DenS GA):run (cf [] []) 9 117 Tryz.f117 GA Hx x=jY x.1 x.2.1:=by kernel_rfl
def W3(x:DenS GA):Option (DenS Hx):=jY x.1 x.2.1
def Du:Sum:=Aj GA Hx W3 (DenS.dflt Hx)
theorem xW:Sound Tryz.prog G1 117 Du:=sd (cf [] []) 117 Tryz.f117 trivial trivial GA Hx W3 _ (fun _=>aRr ..)
abbrev Sq:=Al GA
abbrev Sw:=Ak GA Hx
variable (p123:Sq)(f123:Sw)
abbrev Kq:Ab:=Tq
abbrev O0:Ab:=V6
def A4:Sum:=aHQ
theorem cS:Sound Tryz.prog G1 166 A4:=aU3 Tryz.func166 (by kernel_rfl) (by kernel_rfl) (by kernel_rfl) (by kernel_rfl)
abbrev G3:=Al Kq
abbrev G5:=Ak Kq O0
variable (p157:G3)(f157:G5)
abbrev IM:Ab:=[(true,.pair (.int .u64) (.pair (.int .u64) (.unit))),(true,.pair (.int .u64) (.pair (.int .u64) (.unit)))]
abbrev KL:Ab:=[(true,.pair (.int .u64) (.pair (.int .u64) (.unit))),(false,.int .u64)]
def jZ(p157:G3)(f157:G5)(a0 a1:Aa (.pair (.int .u64) (.pair (.int .u64) (.unit)))):Option (DenS KL):=let e2_:=(a0.1,a1.1,(f157 (a0.2.1,a1.2.1,(0:Int),())).2);let e1_:=(f157 e2_);bif(p157 (a0.2.1,a1.2.1,(0:Int),()))then(bif(p157 e2_)then(some ((e1_.1,(f157 (a0.2.1,a1.2.1,(0:Int),())).1,()),e1_.2))else none)else none
theorem aRs(x:DenS IM):run (cf [(166,⟨Kq,O0,p157,f157⟩)] []) 9 118 Tryz.f118 IM KL x=jZ p157 f157 x.1 x.2.1:=by kernel_rfl
def W4(x:DenS IM):Option (DenS KL):=jZ A4.pre A4.F x.1 x.2.1
def BF:Sum:=Aj IM KL W4 (DenS.dflt KL)
theorem aIS:Sound Tryz.prog G1 118 BF:=sd (cf [(166,A4)] []) 118 Tryz.f118 ⟨cS,trivial⟩ trivial IM KL W4 _ (fun _=>aRs ..)
abbrev pT:=Al IM
abbrev qZ:=Ak IM KL
variable (p124:pT)(f124:qZ)
abbrev Ns:Ab:=[(true,.pair (.int .i64) (.pair (.int .i64) (.pair (.int .i64) (.pair (.int .i64) (.unit)))))]
abbrev OZ:Ab:=[(false,.int .u64)]
def aHY(p91:H7)(f91:Ia)(a0:Aa (.pair (.int .i64) (.pair (.int .i64) (.pair (.int .i64) (.pair (.int .i64) (.unit)))))):Option (DenS OZ):=let e1_:=((aa .i64 (a0.1-a0.2.1)),());bif(p91 e1_)then(some (f91 e1_))else none
theorem aRI(x:DenS Ns):run (cf [(112,⟨EE,EH,p91,f91⟩)] []) 9 103 Tryz.f103 Ns OZ x=aHY p91 f91 x.1:=by kernel_rfl
def zM(x:DenS Ns):Option (DenS OZ):=aHY Bq.pre Bq.F x.1
def cR:Sum:=Aj Ns OZ zM (DenS.dflt OZ)
theorem aI0:Sound Tryz.prog G1 103 cR:=sd (cf [(112,Bq)] []) 103 Tryz.f103 ⟨LU,trivial⟩ trivial Ns OZ zM _ (fun _=>aRI ..)
abbrev aAR:=Al Ns
abbrev aB5:=Ak Ns OZ
variable (p154:aAR)(f154:aB5)
abbrev E4:Ab:=[(false,.int .i64),(false,.bool)]
abbrev Fq:Ab:=[(false,.int .u64),(false,.int .i64)]
def aHW(p154:aAR)(f154:aB5)(p116:eH)(f116:fA)(p69:BK)(f69:BL)(p91:H7)(f91:Ia)(p140:YR)(f140:YZ)(a0:Aa (.int .i64))(a1:Aa (.bool)):Option (DenS Fq):=let e2_:=((aa .i64 ((f69 (a0,())).1.1-(f69 (a0,())).1.2.1)),());let e1_:=((f69 (a0,())).1,a1,(aa .u64 ((f91 e2_).1-(f154 ((f69 (a0,())).1,())).1)),(f116 ((f69 (a0,())).1,())));bif(p69 (a0,()))then(bif((f69 (a0,())).2.1 !=(0:Int))then(some ((0:Int),(f69 (a0,())).2))else bif(p91 e2_)then(bif(p154 ((f69 (a0,())).1,()))then(bif(p116 ((f69 (a0,())).1,()))then(bif(p140 e1_)then(some ((f140 e1_).1,(0:Int),()))else none)else none)else none)else none)else none
theorem aRm(x:DenS E4):run (cf [(103,⟨Ns,OZ,p154,f154⟩),(104,⟨IJ,I8,p116,f116⟩),(54,⟨Ck,Cl,p69,f69⟩),(112,⟨EE,EH,p91,f91⟩),(149,⟨Hp,Hy,p140,f140⟩)] []) 9 38 Tryz.f38 E4 Fq x=aHW p154 f154 p116 f116 p69 f69 p91 f91 p140 f140 x.1 x.2.1:=by kernel_rfl
def W1(x:DenS E4):Option (DenS Fq):=aHW cR.pre cR.F JA.pre JA.F Aq.pre Aq.F Bq.pre Bq.F Gg.pre Gg.F x.1 x.2.1
def Bb:Sum:=Aj E4 Fq W1 (DenS.dflt Fq)
theorem TG:Sound Tryz.prog G1 38 Bb:=sd (cf [(103,cR),(104,JA),(54,Aq),(112,Bq),(149,Gg)] []) 38 Tryz.f38 ⟨aI0,oM,Em,LU,cP,trivial⟩ trivial E4 Fq W1 _ (fun _=>aRm ..)
abbrev JM:=Al E4
abbrev JQ:=Ak E4 Fq
variable (p118:JM)(f118:JQ)
abbrev No:Ab:=[(false,.int .i64)]
abbrev OV:Ab:=[(false,.int .i64)]
def kA(a0:Aa (.int .i64)):Option (DenS OV):=bif((decide (a0<(0:Int)))||(decide (a0>(5:Int))))then(some ((3:Int),()))else some ((0:Int),())
theorem aRC(x:DenS No):run (cf [] []) 9 167 Tryz.f167 No OV x=kA x.1:=by kernel_rfl
def Xa(x:DenS No):Option (DenS OV):=kA x.1
def Qk:Sum:=Aj No OV Xa (DenS.dflt OV)
theorem aIV:Sound Tryz.prog G1 167 Qk:=sd (cf [] []) 167 Tryz.f167 trivial trivial No OV Xa _ (fun _=>aRC ..)
abbrev aAN:=Al No
abbrev aB1:=Ak No OV
variable (p147:aAN)(f147:aB1)
abbrev IF:Ab:=[(false,.int .i64),(false,.int .i64)]
abbrev I4:Ab:=[(true,.pair (.int .i64) (.pair (.int .i64) (.pair (.int .i64) (.pair (.int .i64) (.unit))))),(false,.int .i64)]
def jN(p69:BK)(f69:BL)(p147:aAN)(f147:aB1)(a0 a1:Aa (.int .i64)):Option (DenS I4):=bif(p69 (a0,()))then(bif((f69 (a0,())).2.1 !=(0:Int))then(some (f69 (a0,())))else bif(p147 (a1,()))then(some ((f69 (a0,())).1,(f147 (a1,()))))else none)else none
theorem aRb(x:DenS IF):run (cf [(54,⟨Ck,Cl,p69,f69⟩),(167,⟨No,OV,p147,f147⟩)] []) 9 121 Tryz.f121 IF I4 x=jN p69 f69 p147 f147 x.1 x.2.1:=by kernel_rfl
def WU(x:DenS IF):Option (DenS I4):=jN Aq.pre Aq.F Qk.pre Qk.F x.1 x.2.1
def EI:Sum:=Aj IF I4 WU (DenS.dflt I4)
theorem oI:Sound Tryz.prog G1 121 EI:=sd (cf [(54,Aq),(167,Qk)] []) 121 Tryz.f121 ⟨Em,aIV,trivial⟩ trivial IF I4 WU _ (fun _=>aRb ..)
abbrev Uj:=Al IF
abbrev Uv:=Ak IF I4
variable (p105:Uj)(f105:Uv)
abbrev Bu:Ab:=[(false,.slice (.int .u64))]
abbrev Bv:Ab:=[(false,.slice (.int .u64))]
abbrev HM:Pat:=⟨21,[(0,.one (.sl (.int .u64))),(3,.one (.v .i64))],[]⟩
abbrev bJ:List (Nat×Shape):=[]
abbrev Ma:List (Nat×Pat):=[(0,⟨21,[(0,.one (.sl (.int .u64))),(3,.one (.v .i64))],[]⟩)]
abbrev Lg:Option Pat:=none
variable (w173_2:Pat.D HM->Option (Ah Ma Lg))
def Vb{R:Type}(L:Pat.D HM->Option R)(e:Ah Ma Lg->Option R)(x:Pat.D HM):Option R:=let e1_:=(aa .i64 (x.1.2.1-(1:Int)));bif(((decide ((0:Int)<=e1_))&&(decide (e1_<(x.1.1.length:Int))))||(!(decide (x.1.2.1>(0:Int)))))then(bif((decide (x.1.2.1>(0:Int)))&&((x.1.1.getD (aj e1_) (0:Int))==(0:Int)))then(((L ((x.1.1,e1_,()),()))))else(e (.inl (x.1,()))))else none
theorem aUi(d:Nat)(R:Type)(L:Pat.D HM->Option R)(e:Ah Ma Lg->Option R)(x:Pat.D HM):
  BA (cf [] [(169,2,LoopSpec.of HM bJ Ma Lg w173_2)]) (d+2) 169 (Bw Tryz.f169 2) HM bJ Ma Lg (R:=R) L e x=Vb L e x:=by kernel_rfl
theorem aFH:Bp fun L e x=>Vb L e x:=by intro _ _ _ _ _ _ _ h0 hL he _;unfold Vb;repeat' (first|exact h0|exact hL _|exact he _|apply BT|(apply BU h0;intro _)|(apply BV<;>intro _))
def kJ(w173_2:Pat.D HM->Option (Ah Ma Lg))(a0:Aa (.slice (.int .u64))):Option (DenS Bv):=
 Vx.AY (w173_2 ((a0,(a0.length:Int),()),())) fun y0=>
 Vx.A1 y0 (fun y1=>
 bif((decide ((0:Int)<=y1.1.2.1))&&(decide (y1.1.2.1<=(y1.1.1.length:Int))))then(some (((y1.1.1.take (aj y1.1.2.1)).drop (aj (0:Int))),()))
 else none) (fun z1=>
 none)
theorem aRM(x:DenS Bu):run (cf [] [(169,2,LoopSpec.of HM bJ Ma Lg w173_2)]) 9 169 Tryz.f169 Bu Bv x=kJ w173_2 x.1:=by kernel_rfl
def dQ:HM.D->Option (Ah Ma Lg):=Bf fun L=>Vb L some
def Sc(x:DenS Bu):Option (DenS Bv):=kJ dQ x.1
def Af:Sum:=Aj Bu Bv Sc (DenS.dflt Bv)
theorem D6:Sound Tryz.prog G1 169 Af:=sd (cf [] [(169,2,LoopSpec.of HM bJ Ma Lg dQ)]) 169 Tryz.f169 trivial ⟨rfl,fun d=>BR (fun L e x=>Vb L e x) (aFH) (fun _ _ _ _=>aUi ..),trivial⟩ Bu Bv Sc _ (fun _=>aRM ..)
abbrev A5:=Al Bu
abbrev A6:=Ak Bu Bv
variable (p173:A5)(f173:A6)
abbrev Hr:Ab:=[(false,.slice (.int .u64))]
abbrev Hz:Ab:=[(false,.slice (.int .u64))]
def j9(p173:A5)(f173:A6)(a0:Aa (.slice (.int .u64))):Option (DenS Hz):=let e1_:=(ax (aj ((f173 (a0,())).1.length:Int)) (0:Int));bif(p173 (a0,()))then(bif((decide ((0:Int)<=((f173 (a0,())).1.length:Int)))&&(decide ((((f173 (a0,())).1.length:Int)*(8:Int))<=(140737488355328:Int))))then(some ((((f173 (a0,())).1.take e1_.length)++(e1_.drop (f173 (a0,())).1.length)),()))else none)else none
theorem aRB(x:DenS Hr):run (cf [(169,⟨Bu,Bv,p173,f173⟩)] []) 9 168 Tryz.f168 Hr Hz x=j9 p173 f173 x.1:=by kernel_rfl
def W9(x:DenS Hr):Option (DenS Hz):=j9 Af.pre Af.F x.1
def CP:Sum:=Aj Hr Hz W9 (DenS.dflt Hz)
theorem oO:Sound Tryz.prog G1 168 CP:=sd (cf [(169,Af)] []) 168 Tryz.f168 ⟨D6,trivial⟩ trivial Hr Hz W9 _ (fun _=>aRB ..)
abbrev Sr:=Al Hr
abbrev Sx:=Ak Hr Hz
variable (p146:Sr)(f146:Sx)
abbrev Fi:Ab:=[(false,.slice (.int .u64))]
abbrev Fp:Ab:=[(false,.slice (.int .u64))]
def jK(p146:Sr)(f146:Sx)(a0:Aa (.slice (.int .u64))):Option (DenS Fp):=bif(p146 (a0,()))then(some (f146 (a0,())))else none
theorem aQ8(x:DenS Fi):run (cf [(168,⟨Hr,Hz,p146,f146⟩)] []) 9 122 Tryz.f122 Fi Fp x=jK p146 f146 x.1:=by kernel_rfl
def R6(x:DenS Fi):Option (DenS Fp):=jK CP.pre CP.F x.1
def Bh:Sum:=Aj Fi Fp R6 (DenS.dflt Fp)
theorem WK:Sound Tryz.prog G1 122 Bh:=sd (cf [(168,CP)] []) 122 Tryz.f122 ⟨oO,trivial⟩ trivial Fi Fp R6 _ (fun _=>aQ8 ..)
abbrev G2:=Al Fi
abbrev G4:=Ak Fi Fp
variable (p102:G2)(f102:G4)
abbrev F3:Ab:=[(false,.int .u64)]
abbrev Ft:Ab:=[(false,.int .i64)]
def kN(a0:Aa (.int .u64)):Option (DenS Ft):=let e10_:=(AJ .u64 (AJ .u64 a0 (32:Int)) (16:Int));let e1_:=(aa .u8 (AJ .u64 e10_ (8:Int)));let e2_:=(aa .u8 e10_);let e3_:=(aa .u8 (AJ .u64 (AJ .u64 a0 (32:Int)) (8:Int)));let e4_:=(aa .u8 (AJ .u64 (AJ .u64 a0 (16:Int)) (8:Int)));let e5_:=(aa .u8 (AJ .u64 a0 (32:Int)));let e6_:=(aa .u8 (AJ .u64 a0 (16:Int)));let e7_:=(aa .u8 (AJ .u64 a0 (8:Int)));let e8_:=(aa .i64 ((32:Int)+(16:Int)));let e9_:=(aa .i64 ((0:Int)+(16:Int)));bif(decide (a0>=(4294967296:Int)))then(bif(decide ((AJ .u64 a0 (32:Int))>=(65536:Int)))then(bif(decide (e10_>=(256:Int)))then(bif((decide ((0:Int)<=e1_))&&(decide (e1_<(256:Int))))then(some ((aa .i64 ((aa .i64 (e8_+(8:Int)))+(aa .i64 ((UInt8.toNat (Vx.Iq.getD (aj e1_) (0:UInt8))):Int)))),()))else none)else bif((decide ((0:Int)<=e2_))&&(decide (e2_<(256:Int))))then(some ((aa .i64 (e8_+(aa .i64 ((UInt8.toNat (Vx.Iq.getD (aj e2_) (0:UInt8))):Int)))),()))else none)else bif(decide ((AJ .u64 a0 (32:Int))>=(256:Int)))then(bif((decide ((0:Int)<=e3_))&&(decide (e3_<(256:Int))))then(some ((aa .i64 ((aa .i64 ((32:Int)+(8:Int)))+(aa .i64 ((UInt8.toNat (Vx.Iq.getD (aj e3_) (0:UInt8))):Int)))),()))else none)else bif((decide ((0:Int)<=e5_))&&(decide (e5_<(256:Int))))then(some ((aa .i64 ((32:Int)+(aa .i64 ((UInt8.toNat (Vx.Iq.getD (aj e5_) (0:UInt8))):Int)))),()))else none)else bif(decide (a0>=(65536:Int)))then(bif(decide ((AJ .u64 a0 (16:Int))>=(256:Int)))then(bif((decide ((0:Int)<=e4_))&&(decide (e4_<(256:Int))))then(some ((aa .i64 ((aa .i64 (e9_+(8:Int)))+(aa .i64 ((UInt8.toNat (Vx.Iq.getD (aj e4_) (0:UInt8))):Int)))),()))else none)else bif((decide ((0:Int)<=e6_))&&(decide (e6_<(256:Int))))then(some ((aa .i64 (e9_+(aa .i64 ((UInt8.toNat (Vx.Iq.getD (aj e6_) (0:UInt8))):Int)))),()))else none)else bif(decide (a0>=(256:Int)))then(bif((decide ((0:Int)<=e7_))&&(decide (e7_<(256:Int))))then(some ((aa .i64 ((aa .i64 ((0:Int)+(8:Int)))+(aa .i64 ((UInt8.toNat (Vx.Iq.getD (aj e7_) (0:UInt8))):Int)))),()))else none)else bif((decide ((0:Int)<=(aa .u8 a0)))&&(decide ((aa .u8 a0)<(256:Int))))then(some ((aa .i64 ((0:Int)+(aa .i64 ((UInt8.toNat (Vx.Iq.getD (aj (aa .u8 a0)) (0:UInt8))):Int)))),()))else none
theorem aRR(x:DenS F3):run (cf [] []) 9 83 Tryz.f83 F3 Ft x=kN x.1:=by kernel_rfl
def Xg(x:DenS F3):Option (DenS Ft):=kN x.1
def Bx:Sum:=Aj F3 Ft Xg (DenS.dflt Ft)
theorem WM:Sound Tryz.prog G1 83 Bx:=sd (cf [] []) 83 Tryz.f83 trivial trivial F3 Ft Xg _ (fun _=>aRR ..)
abbrev H6:=Al F3
abbrev H9:=Ak F3 Ft
variable (p178:H6)(f178:H9)
abbrev F2:Ab:=[(false,.slice (.int .u64))]
abbrev F8:Ab:=[(false,.int .i64)]
def kE(p173:A5)(f173:A6)(p178:H6)(f178:H9)(a0:Aa (.slice (.int .u64))):Option (DenS F8):=let e3_:=(aa .i64 (((f173 (a0,())).1.length:Int)-(1:Int)));let e1_:=(((f173 (a0,())).1.getD (aj e3_) (0:Int)),());let e2_:=e3_;bif(p173 (a0,()))then(bif(((f173 (a0,())).1.length:Int)==(0:Int))then(some ((0:Int),()))else bif((decide ((0:Int)<=e2_))&&(decide (e2_<((f173 (a0,())).1.length:Int))))then(bif(p178 e1_)then(some ((aa .i64 ((aa .i64 ((64:Int)*e2_))+(f178 e1_).1)),()))else none)else none)else none
theorem aRG(x:DenS F2):run (cf [(169,⟨Bu,Bv,p173,f173⟩),(83,⟨F3,Ft,p178,f178⟩)] []) 9 123 Tryz.f123 F2 F8 x=kE p173 f173 p178 f178 x.1:=by kernel_rfl
def TS(x:DenS F2):Option (DenS F8):=kE Af.pre Af.F Bx.pre Bx.F x.1
def Ch:Sum:=Aj F2 F8 TS (DenS.dflt F8)
theorem WL:Sound Tryz.prog G1 123 Ch:=sd (cf [(169,Af),(83,Bx)] []) 123 Tryz.f123 ⟨D6,WM,trivial⟩ trivial F2 F8 TS _ (fun _=>aRG ..)
abbrev Ms:=Al F2
abbrev Mu:=Ak F2 F8
variable (p151:Ms)(f151:Mu)
abbrev Kp:Ab:=[(false,.int .i64),(false,.bool)]
abbrev KO:Ab:=[(false,.int .u64),(false,.int .i64),(false,.int .i64)]
def kG(p118:JM)(f118:JQ)(a0:Aa (.int .i64))(a1:Aa (.bool)):Option (DenS KO):=bif(p118 (a0,a1,()))then(some ((f118 (a0,a1,())).1,(0:Int),(f118 (a0,a1,())).2))else none
theorem aRJ(x:DenS Kp):run (cf [(38,⟨E4,Fq,p118,f118⟩)] []) 9 124 Tryz.f124 Kp KO x=kG p118 f118 x.1 x.2.1:=by kernel_rfl
def Xe(x:DenS Kp):Option (DenS KO):=kG Bb.pre Bb.F x.1 x.2.1
def H2:Sum:=Aj Kp KO Xe (DenS.dflt KO)
theorem x5:Sound Tryz.prog G1 124 H2:=sd (cf [(38,Bb)] []) 124 Tryz.f124 ⟨TG,trivial⟩ trivial Kp KO Xe _ (fun _=>aRJ ..)
abbrev eJ:=Al Kp
abbrev fC:=Ak Kp KO
variable (p156:eJ)(f156:fC)
abbrev Np:Ab:=[(true,.pair (.bool) (.pair (.slice (.int .u64)) (.pair (.int .i64) (.pair (.bool) (.unit)))))]
abbrev OW:Ab:=[(false,.int .i64)]
def kB(p151:Ms)(f151:Mu)(a0:Aa (.pair (.bool) (.pair (.slice (.int .u64)) (.pair (.int .i64) (.pair (.bool) (.unit)))))):Option (DenS OW):=bif(p151 (a0.2.1,()))then(some ((aa .i64 ((aa .i64 (a0.2.2.1+(f151 (a0.2.1,())).1))-(1:Int))),()))else none
theorem aRD(x:DenS Np):run (cf [(123,⟨F2,F8,p151,f151⟩)] []) 9 170 Tryz.f170 Np OW x=kB p151 f151 x.1:=by kernel_rfl
def Xb(x:DenS Np):Option (DenS OW):=kB Ch.pre Ch.F x.1
def TI:Sum:=Aj Np OW Xb (DenS.dflt OW)
theorem aIW:Sound Tryz.prog G1 170 TI:=sd (cf [(123,Ch)] []) 170 Tryz.f170 ⟨WL,trivial⟩ trivial Np OW Xb _ (fun _=>aRD ..)
abbrev aAO:=Al Np
abbrev aB2:=Ak Np OW
variable (p148:aAO)(f148:aB2)
abbrev Hn:Ab:=[(true,.slice (.int .u64))]
abbrev Hw:Ab:=[(true,.slice (.int .u64))]
abbrev HG:Pat:=⟨21,[(0,.one (.own 0)),(3,.one (.v .i64))],[.arr (.int .u64)]⟩
abbrev bC:List (Nat×Shape):=[]
abbrev L3:List (Nat×Pat):=[(0,⟨21,[(0,.one (.own 0)),(3,.one (.v .i64))],[.arr (.int .u64)]⟩)]
abbrev K9:Option Pat:=none
variable (w1173_2:Pat.D HG->Option (Ah L3 K9))
def U4{R:Type}(L:Pat.D HG->Option R)(e:Ah L3 K9->Option R)(x:Pat.D HG):Option R:=let e1_:=(aa .i64 (x.1.2.1-(1:Int)));bif(((decide ((0:Int)<=e1_))&&(decide (e1_<(x.2.1.length:Int))))||(!(decide (x.1.2.1>(0:Int)))))then(bif((decide (x.1.2.1>(0:Int)))&&((x.2.1.getD (aj e1_) (0:Int))==(0:Int)))then(((L (((),e1_,()),x.2))))else(e (.inl (((),x.1.2),x.2))))else none
theorem aUb(d:Nat)(R:Type)(L:Pat.D HG->Option R)(e:Ah L3 K9->Option R)(x:Pat.D HG):
  BA ({cf [] [(169,2,LoopSpec.of HG bC L3 K9 w1173_2)]with keep:=true}) (d+2) 169 (Bw Tryz.f169 2) HG bC L3 K9 (R:=R) L e x=U4 L e x:=by kernel_rfl
theorem aFA:Bp fun L e x=>U4 L e x:=by intro _ _ _ _ _ _ _ h0 hL he _;unfold U4;repeat' (first|exact h0|exact hL _|exact he _|apply BT|(apply BU h0;intro _)|(apply BV<;>intro _))
def jS(w1173_2:Pat.D HG->Option (Ah L3 K9))(a0:Aa (.slice (.int .u64))):Option (DenS Hw):=
 Vx.AY (w1173_2 (((),(a0.length:Int),()),a0,())) fun y0=>
 Vx.A1 y0 (fun y1=>
 bif((decide ((0:Int)<=y1.1.2.1))&&(decide (y1.1.2.1<=(y1.2.1.length:Int))))then(some ((y1.2.1.take (aj y1.1.2.1)),()))
 else none) (fun z1=>
 none)
theorem aRk(x:DenS Hn):run ({cf [] [(169,2,LoopSpec.of HG bC L3 K9 w1173_2)]with keep:=true}) 9 169 Tryz.f169 Hn Hw x=jS w1173_2 x.1:=by kernel_rfl
def dM:HG.D->Option (Ah L3 K9):=Bf fun L=>U4 L some
def WZ(x:DenS Hn):Option (DenS Hw):=jS dM x.1
def Ce:Sum:=Aj Hn Hw WZ (DenS.dflt Hw)
theorem xU:Sound Tryz.prog G1 169 Ce:=sd ({cf [] [(169,2,LoopSpec.of HG bC L3 K9 dM)]with keep:=true}) 169 Tryz.f169 trivial ⟨rfl,fun d=>BR (fun L e x=>U4 L e x) (aFA) (fun _ _ _ _=>aUb ..),trivial⟩ Hn Hw WZ _ (fun _=>aRk ..)
abbrev Rc:=Al Hn
abbrev Rg:=Ak Hn Hw
variable (p1173:Rc)(f1173:Rg)
abbrev Nk:Ab:=[(false,.slice (.int .u64)),(false,.int .i64)]
abbrev OR:Ab:=[(true,.slice (.int .u64))]
abbrev HF:Pat:=⟨66,[(25,.one (.v .i64)),(0,.one (.sl (.int .u64))),(5,.one (.v .i64)),(6,.one (.v .i64)),(26,.one (.v .i64)),(7,.one (.own 0))],[.arr (.int .u64)]⟩
abbrev bB:List (Nat×Shape):=[]
abbrev LZ:List (Nat×Pat):=[(0,⟨66,[(7,.one (.own 0))],[.arr (.int .u64)]⟩)]
abbrev K8:Option Pat:=none
variable (w1171_7:Pat.D HF->Option (Ah LZ K8))
def U3(p1173:Rc)(f1173:Rg)(p173:A5)(f173:A6){R:Type}(L:Pat.D HF->Option R)(e:Ah LZ K8->Option R)(x:Pat.D HF):Option R:=let e10_:=(aa .i64 (x.1.2.2.1+x.1.2.2.2.2.1));let e8_:=(x.2.1.set (aj x.1.2.2.2.2.1) (AJ .u64 (x.1.2.1.getD (aj e10_) (0:Int)) x.1.2.2.2.1));let e1_:=((decide ((0:Int)<=x.1.2.2.2.2.1))&&(decide (x.1.2.2.2.2.1<(e8_.length:Int))));let e2_:=e8_;let e9_:=(aa .i64 (e10_+(1:Int)));let e3_:=(decide (e9_<(x.1.2.1.length:Int)));let e4_:=(x.1.1,x.1.2.1,x.1.2.2.1,x.1.2.2.2.1,(aa .i64 (x.1.2.2.2.2.1+(1:Int))),(),());let e5_:=e9_;let e6_:=e10_;let e7_:=(aa .i64 ((64:Int)-x.1.2.2.2.1));bif(decide (x.1.2.2.2.2.1<x.1.1))then(bif((decide ((0:Int)<=e6_))&&(decide (e6_<(x.1.2.1.length:Int))))then(bif(decide ((0:Int)<=x.1.2.2.2.1))then(bif((decide ((0:Int)<=x.1.2.2.2.2.1))&&(decide (x.1.2.2.2.2.1<(x.2.1.length:Int))))then(bif e3_ then(bif e1_ then(bif((decide ((0:Int)<=e5_))&&e3_)then(bif(decide ((0:Int)<=e7_))then(bif e1_ then(((L (e4_,(e2_.set (aj x.1.2.2.2.2.1) (A7 .u64 (e2_.getD (aj x.1.2.2.2.2.1) (0:Int)) (AQ .u64 (x.1.2.1.getD (aj e5_) (0:Int)) e7_))),()))))else none)else none)else none)else none)else(L (e4_,e2_,())))else none)else none)else none)else(e (.inl (((),()),x.2)))
theorem aUa(d:Nat)(R:Type)(L:Pat.D HF->Option R)(e:Ah LZ K8->Option R)(x:Pat.D HF):
  BA ({cf [(169,⟨Hn,Hw,p1173,f1173⟩),(169,⟨Bu,Bv,p173,f173⟩)] [(301,7,LoopSpec.of HF bB LZ K8 w1171_7)]with keep:=true}) (d+2) 301 (Bw Tryz.f301 7) HF bB LZ K8 (R:=R) L e x=U3 p1173 f1173 p173 f173 L e x:=by kernel_rfl
theorem aFz(p1173:Rc)(f1173:Rg)(p173:A5)(f173:A6):Bp fun L e x=>U3 p1173 f1173 p173 f173 L e x:=by intro _ _ _ _ _ _ _ h0 hL he _;unfold U3;repeat' (first|exact h0|exact hL _|exact he _|apply BT|(apply BU h0;intro _)|(apply BV<;>intro _))
def jR(p1173:Rc)(f1173:Rg)(p173:A5)(f173:A6)(w1171_7:Pat.D HF->Option (Ah LZ K8))(a0:Aa (.slice (.int .u64)))(a1:Aa (.int .i64)):Option (DenS OR):=
 let e3_:=(aa .i64 (((f173 (a0,())).1.length:Int)-(BC .i64 a1 (64:Int))))
 let e1_:=(ax (aj e3_) (0:Int))
 let e2_:=e3_
 bif(p173 (a0,()))then(bif(decide ((BC .i64 a1 (64:Int))>=((f173 (a0,())).1.length:Int)))then(some ([],()))
 else bif((decide ((0:Int)<=e2_))&&(decide ((e2_*(8:Int))<=(140737488355328:Int))))then(Vx.AY (w1171_7 (((e1_.length:Int),(f173 (a0,())).1,(BC .i64 a1 (64:Int)),(jp a1 (64:Int)),(0:Int),(),()),e1_,())) fun y3=>
 Vx.A1 y3 (fun y4=>
 bif(p1173 y4.2)then(some (f1173 y4.2))
 else none) (fun z4=>
 none))
 else none)
 else none
theorem aRj(x:DenS Nk):run ({cf [(169,⟨Hn,Hw,p1173,f1173⟩),(169,⟨Bu,Bv,p173,f173⟩)] [(301,7,LoopSpec.of HF bB LZ K8 w1171_7)]with keep:=true}) 9 301 Tryz.f301 Nk OR x=jR p1173 f1173 p173 f173 w1171_7 x.1 x.2.1:=by kernel_rfl
def dL:HF.D->Option (Ah LZ K8):=Bf fun L=>U3 Ce.pre Ce.F Af.pre Af.F L some
def WY(x:DenS Nk):Option (DenS OR):=jR Ce.pre Ce.F Af.pre Af.F dL x.1 x.2.1
def Qi:Sum:=Aj Nk OR WY (DenS.dflt OR)
theorem aIN:Sound Tryz.prog G1 301 Qi:=sd ({cf [(169,Ce),(169,Af)] [(301,7,LoopSpec.of HF bB LZ K8 dL)]with keep:=true}) 301 Tryz.f301 ⟨xU,D6,trivial⟩ ⟨rfl,fun d=>BR (fun L e x=>U3 Ce.pre Ce.F Af.pre Af.F L e x) (aFz Ce.pre Ce.F Af.pre Af.F) (fun _ _ _ _=>aUa ..),trivial⟩ Nk OR WY _ (fun _=>aRj ..)
abbrev aAJ:=Al Nk
abbrev aBX:=Ak Nk OR
variable (p1171:aAJ)(f1171:aBX)
abbrev Ht:Ab:=[(false,.slice (.int .u64)),(false,.int .i64)]
abbrev HA:Ab:=[(false,.slice (.int .u64))]
abbrev HK:Pat:=⟨66,[(25,.one (.v .i64)),(0,.one (.sl (.int .u64))),(5,.one (.v .i64)),(6,.one (.v .i64)),(26,.one (.v .i64)),(7,.one (.own 0))],[.arr (.int .u64)]⟩
abbrev bH:List (Nat×Shape):=[]
abbrev L8:List (Nat×Pat):=[(0,⟨66,[(7,.one (.own 0))],[.arr (.int .u64)]⟩)]
abbrev Le:Option Pat:=none
variable (w171_7:Pat.D HK->Option (Ah L8 Le))
def U9(p173:A5)(f173:A6){R:Type}(L:Pat.D HK->Option R)(e:Ah L8 Le->Option R)(x:Pat.D HK):Option R:=let e10_:=(aa .i64 (x.1.2.2.1+x.1.2.2.2.2.1));let e8_:=(x.2.1.set (aj x.1.2.2.2.2.1) (AJ .u64 (x.1.2.1.getD (aj e10_) (0:Int)) x.1.2.2.2.1));let e1_:=((decide ((0:Int)<=x.1.2.2.2.2.1))&&(decide (x.1.2.2.2.2.1<(e8_.length:Int))));let e2_:=e8_;let e9_:=(aa .i64 (e10_+(1:Int)));let e3_:=(decide (e9_<(x.1.2.1.length:Int)));let e4_:=(x.1.1,x.1.2.1,x.1.2.2.1,x.1.2.2.2.1,(aa .i64 (x.1.2.2.2.2.1+(1:Int))),(),());let e5_:=e9_;let e6_:=e10_;let e7_:=(aa .i64 ((64:Int)-x.1.2.2.2.1));bif(decide (x.1.2.2.2.2.1<x.1.1))then(bif((decide ((0:Int)<=e6_))&&(decide (e6_<(x.1.2.1.length:Int))))then(bif(decide ((0:Int)<=x.1.2.2.2.1))then(bif((decide ((0:Int)<=x.1.2.2.2.2.1))&&(decide (x.1.2.2.2.2.1<(x.2.1.length:Int))))then(bif e3_ then(bif e1_ then(bif((decide ((0:Int)<=e5_))&&e3_)then(bif(decide ((0:Int)<=e7_))then(bif e1_ then(((L (e4_,(e2_.set (aj x.1.2.2.2.2.1) (A7 .u64 (e2_.getD (aj x.1.2.2.2.2.1) (0:Int)) (AQ .u64 (x.1.2.1.getD (aj e5_) (0:Int)) e7_))),()))))else none)else none)else none)else none)else(L (e4_,e2_,())))else none)else none)else none)else(e (.inl (((),()),x.2)))
theorem aUg(d:Nat)(R:Type)(L:Pat.D HK->Option R)(e:Ah L8 Le->Option R)(x:Pat.D HK):
  BA (cf [(169,⟨Bu,Bv,p173,f173⟩)] [(301,7,LoopSpec.of HK bH L8 Le w171_7)]) (d+2) 301 (Bw Tryz.f301 7) HK bH L8 Le (R:=R) L e x=U9 p173 f173 L e x:=by kernel_rfl
theorem aFF(p173:A5)(f173:A6):Bp fun L e x=>U9 p173 f173 L e x:=by intro _ _ _ _ _ _ _ h0 hL he _;unfold U9;repeat' (first|exact h0|exact hL _|exact he _|apply BT|(apply BU h0;intro _)|(apply BV<;>intro _))
def kH(p173:A5)(f173:A6)(w171_7:Pat.D HK->Option (Ah L8 Le))(a0:Aa (.slice (.int .u64)))(a1:Aa (.int .i64)):Option (DenS HA):=
 let e3_:=(aa .i64 (((f173 (a0,())).1.length:Int)-(BC .i64 a1 (64:Int))))
 let e1_:=(ax (aj e3_) (0:Int))
 let e2_:=e3_
 bif(p173 (a0,()))then(bif(decide ((BC .i64 a1 (64:Int))>=((f173 (a0,())).1.length:Int)))then(some ([],()))
 else bif((decide ((0:Int)<=e2_))&&(decide ((e2_*(8:Int))<=(140737488355328:Int))))then(Vx.AY (w171_7 (((e1_.length:Int),(f173 (a0,())).1,(BC .i64 a1 (64:Int)),(jp a1 (64:Int)),(0:Int),(),()),e1_,())) fun y3=>
 Vx.A1 y3 (fun y4=>
 bif(p173 y4.2)then(some (f173 y4.2))
 else none) (fun z4=>
 none))
 else none)
 else none
theorem aRK(x:DenS Ht):run (cf [(169,⟨Bu,Bv,p173,f173⟩)] [(301,7,LoopSpec.of HK bH L8 Le w171_7)]) 9 301 Tryz.f301 Ht HA x=kH p173 f173 w171_7 x.1 x.2.1:=by kernel_rfl
def dO:HK.D->Option (Ah L8 Le):=Bf fun L=>U9 Af.pre Af.F L some
def TT(x:DenS Ht):Option (DenS HA):=kH Af.pre Af.F dO x.1 x.2.1
def CQ:Sum:=Aj Ht HA TT (DenS.dflt HA)
theorem oP:Sound Tryz.prog G1 301 CQ:=sd (cf [(169,Af)] [(301,7,LoopSpec.of HK bH L8 Le dO)]) 301 Tryz.f301 ⟨D6,trivial⟩ ⟨rfl,fun d=>BR (fun L e x=>U9 Af.pre Af.F L e x) (aFF Af.pre Af.F) (fun _ _ _ _=>aUg ..),trivial⟩ Ht HA TT _ (fun _=>aRK ..)
abbrev Ss:=Al Ht
abbrev Sy:=Ak Ht HA
variable (p171:Ss)(f171:Sy)
abbrev GF:Ab:=[(false,.int .u64)]
abbrev GM:Ab:=[(false,.int .i64)]
def nN(a0:Aa (.int .u64)):Option (DenS GM):=let e1_:=(AJ .u64 (aa .u64 ((A9 .u64 a0 (aa .u64 ((0:Int)-a0)))*(285870213051353865:Int))) (58:Int));bif(a0==(0:Int))then(some ((64:Int),()))else bif(Vx.wP ((decide ((0:Int)<=e1_))&&(decide (e1_<((64:Nat):Int)))))then(some ((aa .i64 (Vx.k_deb.getD (aj e1_) (0:Int))),()))else none
theorem r92(x:DenS GF):run (cf [] []) 9 127 Tryz.f127 GF GM x=nN x.1:=by kernel_rfl
def Yy(x:DenS GF):Option (DenS GM):=nN x.1
def BG:Sum:=Aj GF GM Yy (DenS.dflt GM)
theorem o8:Sound Tryz.prog G1 127 BG:=sd (cf [] []) 127 Tryz.f127 trivial trivial GF GM Yy _ (fun _=>r92 ..)
abbrev JO:=Al GF
abbrev JS:=Ak GF GM
variable (p92:JO)(f92:JS)
abbrev Nx:Ab:=[(false,.slice (.int .u64)),(false,.int .i64)]
abbrev O5:Ab:=[(false,.bool)]
abbrev HO:Pat:=⟨25,[(9,.one (.v .i64)),(8,.one (.sl (.int .u64))),(1,.one (.v .i64)),(10,.one (.v .i64))],[]⟩
abbrev bL:List (Nat×Shape):=[]
abbrev Mc:List (Nat×Pat):=[(0,⟨25,[],[]⟩)]
abbrev Li:Option Pat:=(some ⟨25,[(4,.one (.bool))],[]⟩)
variable (w184_2:Pat.D HO->Option (Ah Mc Li))
def Vc(p173:A5)(f173:A6)(p92:JO)(f92:JS){R:Type}(L:Pat.D HO->Option R)(e:Ah Mc Li->Option R)(x:Pat.D HO):Option R:=let e2_:=(x.1.2.1.getD (aj x.1.2.2.2.1) (0:Int));let e1_:=(e2_,());bif(decide (x.1.2.2.2.1<x.1.1))then(bif((decide ((0:Int)<=x.1.2.2.2.1))&&(decide (x.1.2.2.2.1<(x.1.2.1.length:Int))))then(bif(e2_ !=(0:Int))then(bif(p92 e1_)then(((e (.inr (((decide ((aa .i64 ((aa .i64 ((64:Int)*x.1.2.2.2.1))+(f92 e1_).1))>=x.1.2.2.1)),()),())))))else none)else(L ((x.1.1,x.1.2.1,x.1.2.2.1,(aa .i64 (x.1.2.2.2.1+(1:Int))),()),())))else none)else(e (.inl ((),())))
theorem aUk(d:Nat)(R:Type)(L:Pat.D HO->Option R)(e:Ah Mc Li->Option R)(x:Pat.D HO):
  BA (cf [(169,⟨Bu,Bv,p173,f173⟩),(127,⟨GF,GM,p92,f92⟩)] [(302,2,LoopSpec.of HO bL Mc Li w184_2)]) (d+2) 302 (Bw Tryz.f302 2) HO bL Mc Li (R:=R) L e x=Vc p173 f173 p92 f92 L e x:=by kernel_rfl
theorem aFI(p173:A5)(f173:A6)(p92:JO)(f92:JS):Bp fun L e x=>Vc p173 f173 p92 f92 L e x:=by intro _ _ _ _ _ _ _ h0 hL he _;unfold Vc;repeat' (first|exact h0|exact hL _|exact he _|apply BT|(apply BU h0;intro _)|(apply BV<;>intro _))
def kO(p173:A5)(f173:A6)(p92:JO)(f92:JS)(w184_2:Pat.D HO->Option (Ah Mc Li))(a0:Aa (.slice (.int .u64)))(a1:Aa (.int .i64)):Option (DenS O5):=
 bif(p173 (a0,()))then(Vx.AY (w184_2 ((((f173 (a0,())).1.length:Int),(f173 (a0,())).1,a1,(0:Int),()),())) fun y1=>
 Vx.A1 y1 (fun y2=>
 some (true,())) (fun z2=>
 some z2.1))
 else none
theorem aRS(x:DenS Nx):run (cf [(169,⟨Bu,Bv,p173,f173⟩),(127,⟨GF,GM,p92,f92⟩)] [(302,2,LoopSpec.of HO bL Mc Li w184_2)]) 9 302 Tryz.f302 Nx O5 x=kO p173 f173 p92 f92 w184_2 x.1 x.2.1:=by kernel_rfl
def dR:HO.D->Option (Ah Mc Li):=Bf fun L=>Vc Af.pre Af.F BG.pre BG.F L some
def Xh(x:DenS Nx):Option (DenS O5):=kO Af.pre Af.F BG.pre BG.F dR x.1 x.2.1
def Qm:Sum:=Aj Nx O5 Xh (DenS.dflt O5)
theorem aI5:Sound Tryz.prog G1 302 Qm:=sd (cf [(169,Af),(127,BG)] [(302,2,LoopSpec.of HO bL Mc Li dR)]) 302 Tryz.f302 ⟨D6,o8,trivial⟩ ⟨rfl,fun d=>BR (fun L e x=>Vc Af.pre Af.F BG.pre BG.F L e x) (aFI Af.pre Af.F BG.pre BG.F) (fun _ _ _ _=>aUk ..),trivial⟩ Nx O5 Xh _ (fun _=>aRS ..)
abbrev aAW:=Al Nx
abbrev aCa:=Ak Nx O5
variable (p184:aAW)(f184:aCa)
abbrev Nv:Ab:=[(false,.slice (.int .u64)),(false,.int .i64)]
abbrev O3:Ab:=[(false,.slice (.int .u64)),(false,.int .i64)]
def kK(p1171:aAJ)(f1171:aBX)(p171:Ss)(f171:Sy)(p184:aAW)(f184:aCa)(a0:Aa (.slice (.int .u64)))(a1:Aa (.int .i64)):Option (DenS O3):=let e1_:=(decide ((0:Int)<((f1171 (a0,a1,())).1.length:Int)));bif(decide (a1<(0:Int)))then(some ([],(7:Int),()))else bif(p1171 (a0,a1,()))then(bif(p184 (a0,a1,()))then(bif(!(f184 (a0,a1,())).1)then(bif(((f1171 (a0,a1,())).1.length:Int)==(0:Int))then(some (((1:Int)::[]),(0:Int),()))else bif e1_ then(bif e1_ then(some (((f1171 (a0,a1,())).1.set (aj (0:Int)) (A7 .u64 ((f1171 (a0,a1,())).1.getD (aj (0:Int)) (0:Int)) (1:Int))),(0:Int),()))else none)else none)else some ((f1171 (a0,a1,())).1,(0:Int),()))else none)else none
theorem aRO(x:DenS Nv):run (cf [(301,⟨Nk,OR,p1171,f1171⟩),(301,⟨Ht,HA,p171,f171⟩),(302,⟨Nx,O5,p184,f184⟩)] []) 9 246 Tryz.f246 Nv O3 x=kK p1171 f1171 p171 f171 p184 f184 x.1 x.2.1:=by kernel_rfl
def TU(x:DenS Nv):Option (DenS O3):=kK Qi.pre Qi.F CQ.pre CQ.F Qm.pre Qm.F x.1 x.2.1
def TN:Sum:=Aj Nv O3 TU (DenS.dflt O3)
theorem aI3:Sound Tryz.prog G1 246 TN:=sd (cf [(301,Qi),(301,CQ),(302,Qm)] []) 246 Tryz.f246 ⟨aIN,oP,aI5,trivial⟩ trivial Nv O3 TU _ (fun _=>aRO ..)
abbrev aAU:=Al Nv
abbrev aB8:=Ak Nv O3
variable (p175:aAU)(f175:aB8)
abbrev IS:Ab:=[(false,.slice (.int .u64)),(false,.int .i64)]
abbrev Je:Ab:=[(false,.slice (.int .u64))]
abbrev HQ:Pat:=⟨56,[(26,.one (.v .i64)),(25,.one (.sl (.int .u64))),(5,.one (.v .i64)),(6,.one (.v .i64)),(27,.one (.v .i64)),(7,.one (.own 0))],[.arr (.int .u64)]⟩
abbrev bN:List (Nat×Shape):=[]
abbrev Me:List (Nat×Pat):=[(0,⟨56,[(7,.one (.own 0))],[.arr (.int .u64)]⟩)]
abbrev Lk:Option Pat:=none
variable (w186_7:Pat.D HQ->Option (Ah Me Lk))
def Ve(p173:A5)(f173:A6){R:Type}(L:Pat.D HQ->Option R)(e:Ah Me Lk->Option R)(x:Pat.D HQ):Option R:=let e6_:=(aa .i64 (x.1.2.2.1+x.1.2.2.2.2.1));let e5_:=(aj e6_);let e7_:=(x.1.2.1.getD (aj x.1.2.2.2.2.1) (0:Int));let e1_:=(x.2.1.set e5_ (A7 .u64 (x.2.1.getD e5_ (0:Int)) (AQ .u64 e7_ x.1.2.2.2.1)));let e2_:=((decide ((0:Int)<=e6_))&&(decide (e6_<(x.2.1.length:Int))));let e3_:=(aa .i64 (e6_+(1:Int)));let e4_:=(aa .i64 ((64:Int)-x.1.2.2.2.1));bif(decide (x.1.2.2.2.2.1<x.1.1))then(bif((decide ((0:Int)<=x.1.2.2.2.2.1))&&(decide (x.1.2.2.2.2.1<(x.1.2.1.length:Int))))then(bif e2_ then(bif(decide ((0:Int)<=x.1.2.2.2.1))then(bif e2_ then(bif(decide ((0:Int)<=e4_))then(bif((decide ((0:Int)<=e3_))&&(decide (e3_<(e1_.length:Int))))then(((L ((x.1.1,x.1.2.1,x.1.2.2.1,x.1.2.2.2.1,(aa .i64 (x.1.2.2.2.2.1+(1:Int))),(),()),(e1_.set (aj e3_) (AJ .u64 e7_ e4_)),()))))else none)else none)else none)else none)else none)else none)else(e (.inl (((),()),x.2)))
theorem aUm(d:Nat)(R:Type)(L:Pat.D HQ->Option R)(e:Ah Me Lk->Option R)(x:Pat.D HQ):
  BA (cf [(169,⟨Bu,Bv,p173,f173⟩)] [(250,7,LoopSpec.of HQ bN Me Lk w186_7)]) (d+2) 250 (Bw Tryz.f250 7) HQ bN Me Lk (R:=R) L e x=Ve p173 f173 L e x:=by kernel_rfl
theorem aFK(p173:A5)(f173:A6):Bp fun L e x=>Ve p173 f173 L e x:=by intro _ _ _ _ _ _ _ h0 hL he _;unfold Ve;repeat' (first|exact h0|exact hL _|exact he _|apply BT|(apply BU h0;intro _)|(apply BV<;>intro _))
def kQ(p173:A5)(f173:A6)(w186_7:Pat.D HQ->Option (Ah Me Lk))(a0:Aa (.slice (.int .u64)))(a1:Aa (.int .i64)):Option (DenS Je):=
 let e1_:=(aa .i64 ((aa .i64 ((BC .i64 a1 (64:Int))+((f173 (a0,())).1.length:Int)))+(1:Int)))
 bif(p173 (a0,()))then(bif(((f173 (a0,())).1.length:Int)==(0:Int))then(some ([],()))
 else bif((decide ((0:Int)<=e1_))&&(decide ((e1_*(8:Int))<=(140737488355328:Int))))then(Vx.AY (w186_7 ((((f173 (a0,())).1.length:Int),(f173 (a0,())).1,(BC .i64 a1 (64:Int)),(jp a1 (64:Int)),(0:Int),(),()),(ax (aj e1_) (0:Int)),())) fun y3=>
 Vx.A1 y3 (fun y4=>
 bif(p173 y4.2)then(some (f173 y4.2))
 else none) (fun z4=>
 none))
 else none)
 else none
theorem aRU(x:DenS IS):run (cf [(169,⟨Bu,Bv,p173,f173⟩)] [(250,7,LoopSpec.of HQ bN Me Lk w186_7)]) 9 250 Tryz.f250 IS Je x=kQ p173 f173 w186_7 x.1 x.2.1:=by kernel_rfl
def dT:HQ.D->Option (Ah Me Lk):=Bf fun L=>Ve Af.pre Af.F L some
def Sf(x:DenS IS):Option (DenS Je):=kQ Af.pre Af.F dT x.1 x.2.1
def Dv:Sum:=Aj IS Je Sf (DenS.dflt Je)
theorem x7:Sound Tryz.prog G1 250 Dv:=sd (cf [(169,Af)] [(250,7,LoopSpec.of HQ bN Me Lk dT)]) 250 Tryz.f250 ⟨D6,trivial⟩ ⟨rfl,fun d=>BR (fun L e x=>Ve Af.pre Af.F L e x) (aFK Af.pre Af.F) (fun _ _ _ _=>aUm ..),trivial⟩ IS Je Sf _ (fun _=>aRU ..)
abbrev Up:=Al IS
abbrev UB:=Ak IS Je
variable (p186:Up)(f186:UB)
abbrev IR:Ab:=[(false,.slice (.slice (.int .u64)))]
abbrev Jd:Ab:=[(false,.bool)]
abbrev HP:Pat:=⟨16,[(6,.one (.v .i64)),(5,.one (.sl (.slice (.int .u64)))),(7,.one (.v .i64))],[]⟩
abbrev bM:List (Nat×Shape):=[]
abbrev Md:List (Nat×Pat):=[(0,⟨16,[],[]⟩)]
abbrev Lj:Option Pat:=(some ⟨16,[(2,.one (.bool))],[]⟩)
variable (w185_2:Pat.D HP->Option (Ah Md Lj))
def Vd(p173:A5)(f173:A6){R:Type}(L:Pat.D HP->Option R)(e:Ah Md Lj->Option R)(x:Pat.D HP):Option R:=bif(decide (x.1.2.2.1<x.1.1))then(bif((decide ((0:Int)<=x.1.2.2.1))&&(decide (x.1.2.2.1<(x.1.2.1.length:Int))))then(bif(p173 ((x.1.2.1.getD (aj x.1.2.2.1) []),()))then(bif(decide (((f173 ((x.1.2.1.getD (aj x.1.2.2.1) []),())).1.length:Int)>(1024:Int)))then(((e (.inr ((true,()),())))))else(L ((x.1.1,x.1.2.1,(aa .i64 (x.1.2.2.1+(1:Int))),()),())))else none)else none)else(e (.inl ((),())))
theorem aUl(d:Nat)(R:Type)(L:Pat.D HP->Option R)(e:Ah Md Lj->Option R)(x:Pat.D HP):
  BA (cf [(169,⟨Bu,Bv,p173,f173⟩)] [(249,2,LoopSpec.of HP bM Md Lj w185_2)]) (d+2) 249 (Bw Tryz.f249 2) HP bM Md Lj (R:=R) L e x=Vd p173 f173 L e x:=by kernel_rfl
theorem aFJ(p173:A5)(f173:A6):Bp fun L e x=>Vd p173 f173 L e x:=by intro _ _ _ _ _ _ _ h0 hL he _;unfold Vd;repeat' (first|exact h0|exact hL _|exact he _|apply BT|(apply BU h0;intro _)|(apply BV<;>intro _))
def kP(p173:A5)(f173:A6)(w185_2:Pat.D HP->Option (Ah Md Lj))(a0:Aa (.slice (.slice (.int .u64)))):Option (DenS Jd):=
 Vx.AY (w185_2 (((a0.length:Int),a0,(0:Int),()),())) fun y0=>
 Vx.A1 y0 (fun y1=>
 some (false,())) (fun z1=>
 some z1.1)
theorem aRT(x:DenS IR):run (cf [(169,⟨Bu,Bv,p173,f173⟩)] [(249,2,LoopSpec.of HP bM Md Lj w185_2)]) 9 249 Tryz.f249 IR Jd x=kP p173 f173 w185_2 x.1:=by kernel_rfl
def dS:HP.D->Option (Ah Md Lj):=Bf fun L=>Vd Af.pre Af.F L some
def JE(x:DenS IR):Option (DenS Jd):=kP Af.pre Af.F dS x.1
def D7:Sum:=Aj IR Jd JE (DenS.dflt Jd)
theorem oQ:Sound Tryz.prog G1 249 D7:=sd (cf [(169,Af)] [(249,2,LoopSpec.of HP bM Md Lj dS)]) 249 Tryz.f249 ⟨D6,trivial⟩ ⟨rfl,fun d=>BR (fun L e x=>Vd Af.pre Af.F L e x) (aFJ Af.pre Af.F) (fun _ _ _ _=>aUl ..),trivial⟩ IR Jd JE _ (fun _=>aRT ..)
abbrev Uo:=Al IR
abbrev UA:=Ak IR Jd
variable (p185:Uo)(f185:UA)
abbrev IQ:Ab:=[(false,.slice (.int .u64)),(false,.int .i64)]
abbrev Jc:Ab:=[(false,.slice (.int .u64)),(false,.int .i64)]
def kL(p186:Up)(f186:UB)(p185:Uo)(f185:UA)(a0:Aa (.slice (.int .u64)))(a1:Aa (.int .i64)):Option (DenS Jc):=bif((decide (a1<(0:Int)))||(decide (a1>(65536:Int))))then(some ([],(7:Int),()))else bif(p185 ((a0::[]),()))then(bif(f185 ((a0::[]),())).1 then(some ([],(5:Int),()))else bif(p186 (a0,a1,()))then(bif(p185 (((f186 (a0,a1,())).1::[]),()))then(bif(f185 (((f186 (a0,a1,())).1::[]),())).1 then(some ([],(5:Int),()))else some ((f186 (a0,a1,())).1,(0:Int),()))else none)else none)else none
theorem aRP(x:DenS IQ):run (cf [(250,⟨IS,Je,p186,f186⟩),(249,⟨IR,Jd,p185,f185⟩)] []) 9 174 Tryz.f174 IQ Jc x=kL p186 f186 p185 f185 x.1 x.2.1:=by kernel_rfl
def Sd(x:DenS IQ):Option (DenS Jc):=kL Dv.pre Dv.F D7.pre D7.F x.1 x.2.1
def DP:Sum:=Aj IQ Jc Sd (DenS.dflt Jc)
theorem x6:Sound Tryz.prog G1 174 DP:=sd (cf [(250,Dv),(249,D7)] []) 174 Tryz.f174 ⟨x7,oQ,trivial⟩ trivial IQ Jc Sd _ (fun _=>aRP ..)
abbrev Un:=Al IQ
abbrev Uz:=Ak IQ Jc
variable (p176:Un)(f176:Uz)
abbrev IN:Ab:=[(false,.slice (.int .u64)),(false,.int .i64)]
abbrev Ja:Ab:=[(false,.slice (.int .u64)),(false,.int .i64)]
def j3(p171:Ss)(f171:Sy)(a0:Aa (.slice (.int .u64)))(a1:Aa (.int .i64)):Option (DenS Ja):=bif(decide (a1<(0:Int)))then(some ([],(7:Int),()))else bif(p171 (a0,a1,()))then(some ((f171 (a0,a1,())).1,(0:Int),()))else none
theorem aRw(x:DenS IN):run (cf [(301,⟨Ht,HA,p171,f171⟩)] []) 9 247 Tryz.f247 IN Ja x=j3 p171 f171 x.1 x.2.1:=by kernel_rfl
def Q5(x:DenS IN):Option (DenS Ja):=j3 CQ.pre CQ.F x.1 x.2.1
def DO:Sum:=Aj IN Ja Q5 (DenS.dflt Ja)
theorem xX:Sound Tryz.prog G1 247 DO:=sd (cf [(301,CQ)] []) 247 Tryz.f247 ⟨oP,trivial⟩ trivial IN Ja Q5 _ (fun _=>aRw ..)
abbrev Ul:=Al IN
abbrev Ux:=Ak IN Ja
variable (p141:Ul)(f141:Ux)
abbrev Nw:Ab:=[(false,.int .i64),(false,.bool),(false,.bool),(false,.int .u64)]
abbrev O4:Ab:=[(false,.bool)]
def kM(a0:Aa (.int .i64))(a1 a2:Aa (.bool))(a3:Aa (.int .u64)):Option (DenS O4):=bif(a0==(4:Int))then(some ((!(!a1)),()))else bif(a0==(3:Int))then(some ((!a1),()))else bif(a0==(0:Int))then(bif(a3==(2:Int))then(some (a2,()))else some ((decide (a3>=(2:Int))),()))else bif(a0==(1:Int))then(some ((decide (a3>=(2:Int))),()))else bif(a0==(5:Int))then(some ((!a2),()))else some (false,())
theorem aRQ(x:DenS Nw):run (cf [] []) 9 248 Tryz.f248 Nw O4 x=kM x.1 x.2.1 x.2.2.1 x.2.2.2.1:=by kernel_rfl
def Se(x:DenS Nw):Option (DenS O4):=kM x.1 x.2.1 x.2.2.1 x.2.2.2.1
def TO:Sum:=Aj Nw O4 Se (DenS.dflt O4)
theorem aI4:Sound Tryz.prog G1 248 TO:=sd (cf [] []) 248 Tryz.f248 trivial trivial Nw O4 Se _ (fun _=>aRQ ..)
abbrev aAV:=Al Nw
abbrev aB9:=Ak Nw O4
variable (p177:aAV)(f177:aB9)
abbrev Hq:Ab:=[(false,.slice (.int .u64)),(false,.slice (.int .u64))]
abbrev GH:Ab:=[(false,.slice (.int .u64))]
abbrev HI:Pat:=⟨61,[(28,.one (.v .i64)),(1,.one (.sl (.int .u64))),(29,.one (.v .i64)),(0,.one (.sl (.int .u64))),(6,.one (.v .u64)),(5,.one (.own 0))],[.arr (.int .u64)]⟩
abbrev bF:List (Nat×Shape):=[]
abbrev L6:List (Nat×Pat):=[(0,⟨61,[(0,.one (.sl (.int .u64))),(6,.one (.v .u64)),(5,.one (.own 0))],[.arr (.int .u64)]⟩)]
abbrev Lc:Option Pat:=none
variable (w143_8:Pat.D HI->Option (Ah L6 Lc))
def U7(p155:C5)(f155:C6)(p173:A5)(f173:A6){R:Type}(L:Pat.D HI->Option R)(e:Ah L6 Lc->Option R)(x:Pat.D HI):Option R:=let e8_:=(x.1.2.2.2.1.getD (aj x.1.2.2.1) (0:Int));let e7_:=((x.1.2.1.getD (aj x.1.2.2.1) (0:Int)),x.1.2.2.2.2.1,());let e1_:=(f155 (e8_,e7_));let e2_:=(f155 (e8_,(0:Int),x.1.2.2.2.2.1,()));let e3_:=((decide ((0:Int)<=x.1.2.2.1))&&(decide (x.1.2.2.1<(x.1.2.2.2.1.length:Int))));let e4_:=((decide ((0:Int)<=x.1.2.2.1))&&(decide (x.1.2.2.1<(x.2.1.length:Int))));let e5_:=(aa .i64 (x.1.2.2.1+(1:Int)));let e6_:=e8_;bif(decide (x.1.2.2.1<x.1.1))then(bif(decide (x.1.2.2.1<(x.1.2.1.length:Int)))then(bif((decide ((0:Int)<=x.1.2.2.1))&&(decide (x.1.2.2.1<(x.1.2.1.length:Int))))then(bif e3_ then(bif(p155 (e6_,e7_))then(bif e4_ then(((L ((x.1.1,x.1.2.1,e5_,x.1.2.2.2.1,e1_.2.1,(),()),(x.2.1.set (aj x.1.2.2.1) e1_.1),()))))else none)else none)else none)else none)else bif e3_ then(bif(p155 (e6_,(0:Int),x.1.2.2.2.2.1,()))then(bif e4_ then(((L ((x.1.1,x.1.2.1,e5_,x.1.2.2.2.1,e2_.2.1,(),()),(x.2.1.set (aj x.1.2.2.1) e2_.1),()))))else none)else none)else none)else(e (.inl ((x.1.2.2.2.1,x.1.2.2.2.2.1,(),()),x.2)))
theorem aUe(d:Nat)(R:Type)(L:Pat.D HI->Option R)(e:Ah L6 Lc->Option R)(x:Pat.D HI):
  BA (cf [(165,⟨E6,Fs,p155,f155⟩),(169,⟨Bu,Bv,p173,f173⟩)] [(176,8,LoopSpec.of HI bF L6 Lc w143_8)]) (d+2) 176 (Bw Tryz.f176 8) HI bF L6 Lc (R:=R) L e x=U7 p155 f155 p173 f173 L e x:=by kernel_rfl
theorem aFD(p155:C5)(f155:C6)(p173:A5)(f173:A6):Bp fun L e x=>U7 p155 f155 p173 f173 L e x:=by intro _ _ _ _ _ _ _ h0 hL he _;unfold U7;repeat' (first|exact h0|exact hL _|exact he _|apply BT|(apply BU h0;intro _)|(apply BV<;>intro _))
def j6(p155:C5)(f155:C6)(p173:A5)(f173:A6)(w143_8:Pat.D HI->Option (Ah L6 Lc))(a0 a1:Aa (.slice (.int .u64))):Option (DenS GH):=
 let e5_:=(aa .i64 (((f173 (a1,())).1.length:Int)+(1:Int)))
 let e1_:=(ax (aj e5_) (0:Int))
 let e6_:=(aa .i64 (((f173 (a0,())).1.length:Int)+(1:Int)))
 let e2_:=(ax (aj e6_) (0:Int))
 let e3_:=e5_
 let e4_:=e6_
 bif(p173 (a0,()))then(bif(p173 (a1,()))then(bif(decide (((f173 (a0,())).1.length:Int)<((f173 (a1,())).1.length:Int)))then(bif((decide ((0:Int)<=e3_))&&(decide ((e3_*(8:Int))<=(140737488355328:Int))))then(Vx.AY (w143_8 ((((f173 (a1,())).1.length:Int),(f173 (a0,())).1,(0:Int),(f173 (a1,())).1,(0:Int),(),()),(((f173 (a1,())).1.take e1_.length)++(e1_.drop (f173 (a1,())).1.length)),())) fun y4=>
 Vx.A1 y4 (fun y5=>
 bif((decide ((0:Int)<=(y5.1.1.length:Int)))&&(decide ((y5.1.1.length:Int)<(y5.2.1.length:Int))))then(bif(p173 ((y5.2.1.set (aj (y5.1.1.length:Int)) y5.1.2.1),()))then(some (f173 ((y5.2.1.set (aj (y5.1.1.length:Int)) y5.1.2.1),())))
 else none)
 else none) (fun z5=>
 none))
 else none)
 else bif((decide ((0:Int)<=e4_))&&(decide ((e4_*(8:Int))<=(140737488355328:Int))))then(Vx.AY (w143_8 ((((f173 (a0,())).1.length:Int),(f173 (a1,())).1,(0:Int),(f173 (a0,())).1,(0:Int),(),()),(((f173 (a0,())).1.take e2_.length)++(e2_.drop (f173 (a0,())).1.length)),())) fun y4=>
 Vx.A1 y4 (fun y5=>
 bif((decide ((0:Int)<=(y5.1.1.length:Int)))&&(decide ((y5.1.1.length:Int)<(y5.2.1.length:Int))))then(bif(p173 ((y5.2.1.set (aj (y5.1.1.length:Int)) y5.1.2.1),()))then(some (f173 ((y5.2.1.set (aj (y5.1.1.length:Int)) y5.1.2.1),())))
 else none)
 else none) (fun z5=>
 none))
 else none)
 else none)
 else none
theorem aRy(x:DenS Hq):run (cf [(165,⟨E6,Fs,p155,f155⟩),(169,⟨Bu,Bv,p173,f173⟩)] [(176,8,LoopSpec.of HI bF L6 Lc w143_8)]) 9 176 Tryz.f176 Hq GH x=j6 p155 f155 p173 f173 w143_8 x.1 x.2.1:=by kernel_rfl
def YF:HI.D->Option (Ah L6 Lc):=Bf fun L=>U7 Ay.pre Ay.F Af.pre Af.F L some
def Sa(x:DenS Hq):Option (DenS GH):=j6 Ay.pre Ay.F Af.pre Af.F YF x.1 x.2.1
def Cx:Sum:=Aj Hq GH Sa (DenS.dflt GH)
theorem oN:Sound Tryz.prog G1 176 Cx:=sd (cf [(165,Ay),(169,Af)] [(176,8,LoopSpec.of HI bF L6 Lc YF)]) 176 Tryz.f176 ⟨TL,D6,trivial⟩ ⟨rfl,fun d=>BR (fun L e x=>U7 Ay.pre Ay.F Af.pre Af.F L e x) (aFD Ay.pre Ay.F Af.pre Af.F) (fun _ _ _ _=>aUe ..),trivial⟩ Hq GH Sa _ (fun _=>aRy ..)
abbrev Rd:=Al Hq
abbrev Rh:=Ak Hq GH
variable (p143:Rd)(f143:Rh)
abbrev Ko:Ab:=[(true,.pair (.bool) (.pair (.slice (.int .u64)) (.pair (.int .i64) (.pair (.bool) (.unit))))),(false,.int .i64),(false,.int .i64)]
abbrev KN:Ab:=[(false,.slice (.int .u64)),(false,.bool)]
def kD(p175:aAU)(f175:aB8)(p176:Un)(f176:Uz)(p141:Ul)(f141:Ux)(p177:aAV)(f177:aB9)(p143:Rd)(f143:Rh)(a0:Aa (.pair (.bool) (.pair (.slice (.int .u64)) (.pair (.int .i64) (.pair (.bool) (.unit))))))(a1 a2:Aa (.int .i64)):Option (DenS KN):=let e47_:=(aa .i64 (a2-a0.2.2.1));let e44_:=(f175 (a0.2.1,(aa .i64 (e47_-(2:Int))),()));let e42_:=(e44_.1,(2:Int),());let e40_:=(f141 e42_);let e38_:=(e40_.1.length:Int);let e34_:=(decide (e38_>(0:Int)));let e28_:=(e34_&&((A9 .u64 (e40_.1.getD (aj (0:Int)) (0:Int)) (1:Int))==(1:Int)));let e32_:=(A9 .u64 (e44_.1.getD (aj (0:Int)) (0:Int)) (3:Int));let e30_:=(A7 .u64 e32_ (1:Int));let e1_:=(a1,a0.1,e28_,e30_,());let e45_:=(f176 (a0.2.1,(aa .i64 ((2:Int)-e47_)),()));let e43_:=(e45_.1,(2:Int),());let e41_:=(f141 e43_);let e39_:=(e41_.1.length:Int);let e35_:=(decide (e39_>(0:Int)));let e29_:=(e35_&&((A9 .u64 (e41_.1.getD (aj (0:Int)) (0:Int)) (1:Int))==(1:Int)));let e33_:=(A9 .u64 (e45_.1.getD (aj (0:Int)) (0:Int)) (3:Int));let e31_:=(A7 .u64 e33_ (1:Int));let e2_:=(a1,a0.1,e29_,e31_,());let e3_:=(a1,a0.1,e28_,e32_,());let e4_:=(a1,a0.1,e29_,e33_,());let e46_:=((A7 .u64 (0:Int) (1:Int)),());let e5_:=(a1,a0.1,e28_,e46_);let e6_:=(a1,a0.1,e29_,e46_);let e7_:=((decide ((0:Int)<e38_))||(!e34_));let e8_:=((decide ((0:Int)<e39_))||(!e35_));let e9_:=((e30_ !=(0:Int)),());let e10_:=((e31_ !=(0:Int)),());let e11_:=e30_;let e12_:=e31_;let e13_:=((e32_ !=(0:Int)),());let e14_:=((e33_ !=(0:Int)),());let e15_:=e32_;let e16_:=e33_;let e36_:=(e40_.1,((1:Int)::[]),());let e17_:=(p143 e36_);let e18_:=(f143 e36_);let e37_:=(e41_.1,((1:Int)::[]),());let e19_:=(p143 e37_);let e20_:=(f143 e37_);let e21_:=e40_;let e22_:=e41_;let e23_:=(p141 e42_);let e24_:=(p141 e43_);let e25_:=(e44_.1.length:Int);let e26_:=(e45_.1.length:Int);let e27_:=e47_;bif(decide (e27_>=(2:Int)))then(bif(p175 (a0.2.1,(aa .i64 (e27_-(2:Int))),()))then(bif(decide (e25_>(0:Int)))then(bif(decide ((0:Int)<e25_))then(bif a0.2.2.2.1 then(bif e23_ then(bif e7_ then(bif((p177 e1_)||(!(bif(e11_==(0:Int))then false else true)))then(bif((e11_ !=(0:Int))&&(f177 e1_).1)then(bif e17_ then(some (e18_.1,e9_))else none)else some (e21_.1,e9_))else none)else none)else none)else bif e23_ then(bif e7_ then(bif((p177 e3_)||(!(bif(e15_==(0:Int))then false else true)))then(bif((e15_ !=(0:Int))&&(f177 e3_).1)then(bif e17_ then(some (e18_.1,e13_))else none)else some (e21_.1,e13_))else none)else none)else none)else none)else bif a0.2.2.2.1 then(bif e23_ then(bif e7_ then(bif((p177 e5_)||false)then(bif(f177 e5_).1 then(bif e17_ then(some (e18_.1,true,()))else none)else some (e21_.1,true,()))else none)else none)else none)else bif e23_ then(bif e7_ then(bif((p177 (a1,a0.1,((decide ((e21_.1.length:Int)>(0:Int)))&&((A9 .u64 (e21_.1.getD (aj (0:Int)) (0:Int)) (1:Int))==(1:Int))),(0:Int),()))||true)then(some (e21_.1,false,()))else none)else none)else none)else none)else bif(p176 (a0.2.1,(aa .i64 ((2:Int)-e27_)),()))then(bif(decide (e26_>(0:Int)))then(bif(decide ((0:Int)<e26_))then(bif a0.2.2.2.1 then(bif e24_ then(bif e8_ then(bif((p177 e2_)||(!(bif(e12_==(0:Int))then false else true)))then(bif((e12_ !=(0:Int))&&(f177 e2_).1)then(bif e19_ then(some (e20_.1,e10_))else none)else some (e22_.1,e10_))else none)else none)else none)else bif e24_ then(bif e8_ then(bif((p177 e4_)||(!(bif(e16_==(0:Int))then false else true)))then(bif((e16_ !=(0:Int))&&(f177 e4_).1)then(bif e19_ then(some (e20_.1,e14_))else none)else some (e22_.1,e14_))else none)else none)else none)else none)else bif a0.2.2.2.1 then(bif e24_ then(bif e8_ then(bif((p177 e6_)||false)then(bif(f177 e6_).1 then(bif e19_ then(some (e20_.1,true,()))else none)else some (e22_.1,true,()))else none)else none)else none)else bif e24_ then(bif e8_ then(bif((p177 (a1,a0.1,((decide ((e22_.1.length:Int)>(0:Int)))&&((A9 .u64 (e22_.1.getD (aj (0:Int)) (0:Int)) (1:Int))==(1:Int))),(0:Int),()))||true)then(some (e22_.1,false,()))else none)else none)else none)else none
theorem aRF(x:DenS Ko):run (cf [(246,⟨Nv,O3,p175,f175⟩),(174,⟨IQ,Jc,p176,f176⟩),(247,⟨IN,Ja,p141,f141⟩),(248,⟨Nw,O4,p177,f177⟩),(176,⟨Hq,GH,p143,f143⟩)] []) 9 172 Tryz.f172 Ko KN x=kD p175 f175 p176 f176 p141 f141 p177 f177 p143 f143 x.1 x.2.1 x.2.2.1:=by kernel_rfl
def TR(x:DenS Ko):Option (DenS KN):=kD TN.pre TN.F DP.pre DP.F DO.pre DO.F TO.pre TO.F Cx.pre Cx.F x.1 x.2.1 x.2.2.1
def H1:Sum:=Aj Ko KN TR (DenS.dflt KN)
theorem xZ:Sound Tryz.prog G1 172 H1:=sd (cf [(246,TN),(174,DP),(247,DO),(248,TO),(176,Cx)] []) 172 Tryz.f172 ⟨aI3,x6,xX,aI4,oN,trivial⟩ trivial Ko KN TR _ (fun _=>aRF ..)
abbrev pU:=Al Ko
abbrev q7:=Ak Ko KN
variable (p150:pU)(f150:q7)
abbrev GG:Ab:=[(false,.int .i64),(false,.bool)]
abbrev GN:Ab:=[(false,.int .u64),(false,.int .i64)]
def t97(p116:eH)(f116:fA)(p69:BK)(f69:BL)(p91:H7)(f91:Ia)(p140:YR)(f140:YZ)(a0:Aa (.int .i64))(a1:Aa (.bool)):Option (DenS GN):=let e2_:=((aa .i64 ((f69 (a0,())).1.1-(f69 (a0,())).1.2.1)),());let e1_:=((f69 (a0,())).1,a1,(aa .u64 ((f91 e2_).1-(f116 ((f69 (a0,())).1,())).1)),(f116 ((f69 (a0,())).1,())));bif(p69 (a0,()))then(bif((f69 (a0,())).2.1 !=(0:Int))then(some ((0:Int),(f69 (a0,())).2))else bif(p91 e2_)then(bif(p116 ((f69 (a0,())).1,()))then(bif(p116 ((f69 (a0,())).1,()))then(bif(p140 e1_)then(some ((f140 e1_).1,(0:Int),()))else none)else none)else none)else none)else none
theorem r97(x:DenS GG):run (cf [(104,⟨IJ,I8,p116,f116⟩),(54,⟨Ck,Cl,p69,f69⟩),(112,⟨EE,EH,p91,f91⟩),(149,⟨Hp,Hy,p140,f140⟩)] []) 9 65 Tryz.f65 GG GN x=t97 p116 f116 p69 f69 p91 f91 p140 f140 x.1 x.2.1:=by kernel_rfl
def YA(x:DenS GG):Option (DenS GN):=t97 JA.pre JA.F Aq.pre Aq.F Bq.pre Bq.F Gg.pre Gg.F x.1 x.2.1
def BY:Sum:=Aj GG GN YA (DenS.dflt GN)
theorem WR:Sound Tryz.prog G1 65 BY:=sd (cf [(104,JA),(54,Aq),(112,Bq),(149,Gg)] []) 65 Tryz.f65 ⟨oM,Em,LU,cP,trivial⟩ trivial GG GN YA _ (fun _=>r97 ..)
abbrev Rf:=Al GG
abbrev Rj:=Ak GG GN
variable (p97:Rf)(f97:Rj)
abbrev OM:Ab:=[(true,.pair (.int .i64) (.pair (.int .i64) (.pair (.int .i64) (.pair (.int .i64) (.unit)))))]
abbrev Qa:Ab:=[(false,.int .u64)]
def t95(a0:Aa (.pair (.int .i64) (.pair (.int .i64) (.pair (.int .i64) (.pair (.int .i64) (.unit)))))):Option (DenS Qa):=some ((1:Int),())
theorem r95(x:DenS OM):run (cf [] []) 9 299 Tryz.f299 OM Qa x=t95 x.1:=by kernel_rfl
def T95(x:DenS OM):Option (DenS Qa):=t95 x.1
def dB:Sum:=Aj OM Qa T95 (DenS.dflt Qa)
theorem aJ4:Sound Tryz.prog G1 299 dB:=sd (cf [] []) 299 Tryz.f299 trivial trivial OM Qa T95 _ (fun _=>r95 ..)
abbrev Y95:=Al OM
abbrev Z95:=Ak OM Qa
variable (p95:Y95)(f95:Z95)
abbrev ON:Ab:=[(true,.pair (.int .i64) (.pair (.int .i64) (.pair (.int .i64) (.pair (.int .i64) (.unit)))))]
abbrev Qb:Ab:=[(false,.int .u64)]
def t96(p91:H7)(f91:Ia)(a0:Aa (.pair (.int .i64) (.pair (.int .i64) (.pair (.int .i64) (.pair (.int .i64) (.unit)))))):Option (DenS Qb):=let e1_:=((aa .i64 (a0.2.1-(1:Int))),());bif(p91 e1_)then(some (f91 e1_))else none
theorem r96(x:DenS ON):run (cf [(112,⟨EE,EH,p91,f91⟩)] []) 9 300 Tryz.f300 ON Qb x=t96 p91 f91 x.1:=by kernel_rfl
def T96(x:DenS ON):Option (DenS Qb):=t96 Bq.pre Bq.F x.1
def dC:Sum:=Aj ON Qb T96 (DenS.dflt Qb)
theorem aJ5:Sound Tryz.prog G1 300 dC:=sd (cf [(112,Bq)] []) 300 Tryz.f300 ⟨LU,trivial⟩ trivial ON Qb T96 _ (fun _=>r96 ..)
abbrev Y96:=Al ON
abbrev Z96:=Ak ON Qb
variable (p96:Y96)(f96:Z96)
abbrev Ox:Ab:=[(false,.int .i64),(false,.bool)]
abbrev PX:Ab:=[(false,.int .u64),(false,.int .i64)]
def t43(p95:Y95)(f95:Z95)(p96:Y96)(f96:Z96)(p69:BK)(f69:BL)(p91:H7)(f91:Ia)(p140:YR)(f140:YZ)(a0:Aa (.int .i64))(a1:Aa (.bool)):Option (DenS PX):=let e2_:=((aa .i64 ((f69 (a0,())).1.1-(f69 (a0,())).1.2.1)),());let e1_:=((f69 (a0,())).1,a1,(aa .u64 ((f91 e2_).1-(f95 ((f69 (a0,())).1,())).1)),(f96 ((f69 (a0,())).1,())));bif(p69 (a0,()))then(bif((f69 (a0,())).2.1 !=(0:Int))then(some ((0:Int),(f69 (a0,())).2))else bif(p91 e2_)then(bif(p95 ((f69 (a0,())).1,()))then(bif(p96 ((f69 (a0,())).1,()))then(bif(p140 e1_)then(some ((f140 e1_).1,(0:Int),()))else none)else none)else none)else none)else none
theorem r43(x:DenS Ox):run (cf [(299,⟨OM,Qa,p95,f95⟩),(300,⟨ON,Qb,p96,f96⟩),(54,⟨Ck,Cl,p69,f69⟩),(112,⟨EE,EH,p91,f91⟩),(149,⟨Hp,Hy,p140,f140⟩)] []) 9 245 Tryz.f245 Ox PX x=t43 p95 f95 p96 f96 p69 f69 p91 f91 p140 f140 x.1 x.2.1:=by kernel_rfl
def Yh(x:DenS Ox):Option (DenS PX):=t43 dB.pre dB.F dC.pre dC.F Aq.pre Aq.F Bq.pre Bq.F Gg.pre Gg.F x.1 x.2.1
def JD:Sum:=Aj Ox PX Yh (DenS.dflt PX)
theorem aJT:Sound Tryz.prog G1 245 JD:=sd (cf [(299,dB),(300,dC),(54,Aq),(112,Bq),(149,Gg)] []) 245 Tryz.f245 ⟨aJ4,aJ5,Em,LU,cP,trivial⟩ trivial Ox PX Yh _ (fun _=>r43 ..)
abbrev Y43:=Al Ox
abbrev Z43:=Ak Ox PX
variable (p43:Y43)(f43:Z43)
abbrev Nq:Ab:=[(false,.int .i64),(false,.int .i64),(false,.bool)]
abbrev OX:Ab:=[(false,.int .u64)]
def kC(p97:Rf)(f97:Rj)(p43:Y43)(f43:Z43)(a0 a1:Aa (.int .i64))(a2:Aa (.bool)):Option (DenS OX):=bif((((a1==(0:Int))||(a1==(1:Int)))||((a1==(3:Int))&&(!a2)))||((a1==(4:Int))&&a2))then(bif(p97 (a0,a2,()))then(some ((f97 (a0,a2,())).1,()))else none)else bif(p43 (a0,a2,()))then(some ((f43 (a0,a2,())).1,()))else none
theorem aRE(x:DenS Nq):run (cf [(65,⟨GG,GN,p97,f97⟩),(245,⟨Ox,PX,p43,f43⟩)] []) 9 171 Tryz.f171 Nq OX x=kC p97 f97 p43 f43 x.1 x.2.1 x.2.2.1:=by kernel_rfl
def Xc(x:DenS Nq):Option (DenS OX):=kC BY.pre BY.F JD.pre JD.F x.1 x.2.1 x.2.2.1
def TJ:Sum:=Aj Nq OX Xc (DenS.dflt OX)
theorem aIX:Sound Tryz.prog G1 171 TJ:=sd (cf [(65,BY),(245,JD)] []) 171 Tryz.f171 ⟨WR,aJT,trivial⟩ trivial Nq OX Xc _ (fun _=>aRE ..)
abbrev aAP:=Al Nq
abbrev aB3:=Ak Nq OX
variable (p149:aAP)(f149:aB3)
abbrev Nr:Ab:=[(true,.pair (.bool) (.pair (.slice (.int .u64)) (.pair (.int .i64) (.pair (.bool) (.unit))))),(true,.pair (.int .i64) (.pair (.int .i64) (.pair (.int .i64) (.pair (.int .i64) (.unit))))),(false,.int .i64),(false,.int .i64)]
abbrev OY:Ab:=[(false,.bool)]
def kF(p150:pU)(f150:q7)(p151:Ms)(f151:Mu)(a0:Aa (.pair (.bool) (.pair (.slice (.int .u64)) (.pair (.int .i64) (.pair (.bool) (.unit))))))(a1:Aa (.pair (.int .i64) (.pair (.int .i64) (.pair (.int .i64) (.pair (.int .i64) (.unit))))))(a2 a3:Aa (.int .i64)):Option (DenS OY):=let e3_:=(aa .i64 (a3-a1.2.1));let e1_:=((f150 ((a0.1,a0.2),a2,(aa .i64 (e3_+(1:Int))),())).1,());let e2_:=e3_;bif(decide (a3>=a1.2.2.1))then(some (false,()))else bif(p150 ((a0.1,a0.2),a2,(aa .i64 (e2_+(1:Int))),()))then(bif(p151 e1_)then(some ((decide ((aa .i64 (e2_+(f151 e1_).1))<a1.2.2.1)),()))else none)else none
theorem aRH(x:DenS Nr):run (cf [(172,⟨Ko,KN,p150,f150⟩),(123,⟨F2,F8,p151,f151⟩)] []) 9 173 Tryz.f173 Nr OY x=kF p150 f150 p151 f151 x.1 x.2.1 x.2.2.1 x.2.2.2.1:=by kernel_rfl
def Xd(x:DenS Nr):Option (DenS OY):=kF H1.pre H1.F Ch.pre Ch.F x.1 x.2.1 x.2.2.1 x.2.2.2.1
def TK:Sum:=Aj Nr OY Xd (DenS.dflt OY)
theorem aIZ:Sound Tryz.prog G1 173 TK:=sd (cf [(172,H1),(123,Ch)] []) 173 Tryz.f173 ⟨xZ,WL,trivial⟩ trivial Nr OY Xd _ (fun _=>aRH ..)
abbrev aAQ:=Al Nr
abbrev aB4:=Ak Nr OY
variable (p152:aAQ)(f152:aB4)
abbrev IG:Ab:=[(true,.pair (.bool) (.pair (.slice (.int .u64)) (.pair (.int .i64) (.pair (.bool) (.unit))))),(false,.int .i64),(true,.pair (.int .i64) (.pair (.int .i64) (.pair (.int .i64) (.pair (.int .i64) (.unit))))),(false,.int .i64)]
abbrev I5:Ab:=[(false,.int .u64),(false,.int .i64)]
def jP(p148:aAO)(f148:aB2)(p150:pU)(f150:q7)(p151:Ms)(f151:Mu)(p149:aAP)(f149:aB3)(p152:aAQ)(f152:aB4)(a0:Aa (.pair (.bool) (.pair (.slice (.int .u64)) (.pair (.int .i64) (.pair (.bool) (.unit))))))(a1:Aa (.int .i64))(a2:Aa (.pair (.int .i64) (.pair (.int .i64) (.pair (.int .i64) (.pair (.int .i64) (.unit))))))(a3:Aa (.int .i64)):Option (DenS I5):=let e18_:=(aa .i64 ((aa .i64 ((if(a2.2.2.1>(f148 ((a0.1,a0.2),())).1)then a2.2.2.1 else(f148 ((a0.1,a0.2),())).1)-a2.2.1))+(1:Int)));let e21_:=(aa .i64 (a2.2.1-(1:Int)));let e14_:=(AQ .u64 (aa .u64 (aa .i64 (e18_-(aa .i64 ((aa .i64 (a2.2.2.1-a2.2.1))+(1:Int)))))) e21_);let e17_:=((a0.1,a0.2),a3,e18_,());let e16_:=(f150 e17_);let e13_:=(aa .u64 (e14_+(e16_.1.getD (aj (0:Int)) (0:Int))));let e22_:=(aa .i64 (a2.1-(1:Int)));let e19_:=(AQ .u64 (1:Int) e22_);let e1_:=(A7 .u64 e13_ e19_);let e2_:=e13_;let e3_:=(A7 .u64 e14_ e19_);let e15_:=(e16_.1,());let e4_:=(decide ((aa .i64 ((aa .i64 (e18_+(f151 e15_).1))-(1:Int)))>a2.2.2.2.1));let e5_:=e14_;let e6_:=(e16_.1.length:Int);let e7_:=(p151 e15_);let e8_:=(!e16_.2.1);let e9_:=(decide ((0:Int)<=e22_));let e20_:=((a0.1,a0.2),(a2.1,a2.2),a3,(f148 ((a0.1,a0.2),())));let e10_:=(p152 e20_);let e11_:=(f152 e20_);let e12_:=((f149 (a1,a3,a0.1,())).1,(20:Int),());bif(p148 ((a0.1,a0.2),()))then(bif(decide ((f148 ((a0.1,a0.2),())).1>a2.2.2.2.1))then(bif(p149 (a1,a3,a0.1,()))then(some e12_)else none)else bif(p150 e17_)then(bif(decide ((0:Int)<=e21_))then(bif(decide (e6_>(0:Int)))then(bif(decide ((0:Int)<e6_))then(bif e7_ then(bif e4_ then(bif(p149 (a1,a3,a0.1,()))then(some e12_)else none)else bif a0.1 then(bif e9_ then(bif e8_ then(some (e1_,(0:Int),()))else bif e10_ then(bif e11_.1 then(some (e1_,(24:Int),()))else some (e1_,(16:Int),()))else none)else none)else bif e8_ then(some (e2_,(0:Int),()))else bif e10_ then(bif e11_.1 then(some (e2_,(24:Int),()))else some (e2_,(16:Int),()))else none)else none)else none)else bif e7_ then(bif e4_ then(bif(p149 (a1,a3,a0.1,()))then(some e12_)else none)else bif a0.1 then(bif e9_ then(bif e8_ then(some (e3_,(0:Int),()))else bif e10_ then(bif e11_.1 then(some (e3_,(24:Int),()))else some (e3_,(16:Int),()))else none)else none)else bif e8_ then(some (e5_,(0:Int),()))else bif e10_ then(bif e11_.1 then(some (e5_,(24:Int),()))else some (e5_,(16:Int),()))else none)else none)else none)else none)else none
theorem aRd(x:DenS IG):run (cf [(170,⟨Np,OW,p148,f148⟩),(172,⟨Ko,KN,p150,f150⟩),(123,⟨F2,F8,p151,f151⟩),(171,⟨Nq,OX,p149,f149⟩),(173,⟨Nr,OY,p152,f152⟩)] []) 9 125 Tryz.f125 IG I5 x=jP p148 f148 p150 f150 p151 f151 p149 f149 p152 f152 x.1 x.2.1 x.2.2.1 x.2.2.2.1:=by kernel_rfl
def WW(x:DenS IG):Option (DenS I5):=jP TI.pre TI.F H1.pre H1.F Ch.pre Ch.F TJ.pre TJ.F TK.pre TK.F x.1 x.2.1 x.2.2.1 x.2.2.2.1
def EJ:Sum:=Aj IG I5 WW (DenS.dflt I5)
theorem oJ:Sound Tryz.prog G1 125 EJ:=sd (cf [(170,TI),(172,H1),(123,Ch),(171,TJ),(173,TK)] []) 125 Tryz.f125 ⟨aIW,xZ,WL,aIX,aIZ,trivial⟩ trivial IG I5 WW _ (fun _=>aRd ..)
abbrev Uk:=Al IG
abbrev Uw:=Ak IG I5
variable (p107:Uk)(f107:Uw)
abbrev E5:Ab:=[(false,.int .i64),(false,.int .i64),(false,.bool),(true,.pair (.int .u64) (.pair (.int .u64) (.unit))),(false,.int .i64),(false,.bool)]
abbrev Fr:Ab:=[(false,.int .u64),(false,.int .i64),(false,.int .i64)]
def jX(p105:Uj)(f105:Uv)(p102:G2)(f102:G4)(p151:Ms)(f151:Mu)(p156:eJ)(f156:fC)(p107:Uk)(f107:Uw)(a0 a1:Aa (.int .i64))(a2:Aa (.bool))(a3:Aa (.pair (.int .u64) (.pair (.int .u64) (.unit))))(a4:Aa (.int .i64))(a5:Aa (.bool)):Option (DenS Fr):=let e2_:=((a2,(f102 ((a3.2.1::(a3.1::[])),())).1,a4,a5,()),a0,(f105 (a0,a1,())).1,a1,());let e1_:=(f107 e2_);bif(p105 (a0,a1,()))then(bif((f105 (a0,a1,())).2.1 !=(0:Int))then(some ((0:Int),(0:Int),(f105 (a0,a1,())).2))else bif(p102 ((a3.2.1::(a3.1::[])),()))then(bif((decide (a4<(-(40000:Int))))||(decide (a4>(40000:Int))))then(some ((0:Int),(0:Int),(30:Int),()))else bif((p151 (f102 ((a3.2.1::(a3.1::[])),())))||(!a5))then(bif(a5&&(decide ((f151 (f102 ((a3.2.1::(a3.1::[])),()))).1<(aa .i64 ((f105 (a0,a1,())).1.2.1+(2:Int))))))then(some ((0:Int),(0:Int),(7:Int),()))else bif(((f102 ((a3.2.1::(a3.1::[])),())).1.length:Int)==(0:Int))then(bif(p156 (a0,a2,()))then(some (f156 (a0,a2,())))else none)else bif(p107 e2_)then(some (e1_.1,e1_.2.1,(0:Int),()))else none)else none)else none)else none
theorem aRq(x:DenS E5):run (cf [(121,⟨IF,I4,p105,f105⟩),(122,⟨Fi,Fp,p102,f102⟩),(123,⟨F2,F8,p151,f151⟩),(124,⟨Kp,KO,p156,f156⟩),(125,⟨IG,I5,p107,f107⟩)] []) 9 66 Tryz.f66 E5 Fr x=jX p105 f105 p102 f102 p151 f151 p156 f156 p107 f107 x.1 x.2.1 x.2.2.1 x.2.2.2.1 x.2.2.2.2.1 x.2.2.2.2.2.1:=by kernel_rfl
def R9(x:DenS E5):Option (DenS Fr):=jX EI.pre EI.F Bh.pre Bh.F Ch.pre Ch.F H2.pre H2.F EJ.pre EJ.F x.1 x.2.1 x.2.2.1 x.2.2.2.1 x.2.2.2.2.1 x.2.2.2.2.2.1
def A3:Sum:=Aj E5 Fr R9 (DenS.dflt Fr)
theorem TH:Sound Tryz.prog G1 66 A3:=sd (cf [(121,EI),(122,Bh),(123,Ch),(124,H2),(125,EJ)] []) 66 Tryz.f66 ⟨oI,WK,WL,x5,oJ,trivial⟩ trivial E5 Fr R9 _ (fun _=>aRq ..)
abbrev H5:=Al E5
abbrev H8:=Ak E5 Fr
variable (p122:H5)(f122:H8)
end Vx
namespace Vx
open Go Go.Proofs
variable (p119:YQ)(f119:YY)(p120:pR)(f120:qX)(p121:pS)(f121:qY)(p123:Sq)(f123:Sw)(p124:pT)(f124:qZ)(p118:JM)(f118:JQ)(p122:H5)(f122:H8)
abbrev OJ:Ab:=[(false,.int .i64),(false,.int .i64),(true,.pair (.bool) (.pair (.int .u64) (.pair (.int .i64) (.unit)))),(true,.pair (.bool) (.pair (.int .u64) (.pair (.int .i64) (.unit))))]
abbrev Jp:Ab:=[(false,.int .u64),(false,.int .i64),(false,.int .i64)]
def nS(p119:DenS Ho->Bool)(f119:DenS Ho->DenS I9)(p120:DenS IK->Bool)(f120:DenS IK->DenS KJ)(p121:DenS IL->Bool)(f121:DenS IL->DenS KK)(p123:DenS GA->Bool)(f123:DenS GA->DenS Hx)(p124:DenS IM->Bool)(f124:DenS IM->DenS KL)(p118:DenS E4->Bool)(f118:DenS E4->DenS Fq)(p122:DenS E5->Bool)(f122:DenS E5->DenS Fr)(f m:Int)(nx:Bool)(X ex:Int)(ny:Bool)(Y ey:Int):Option (DenS Jp):=bif(p119 (((0:Int),(X,())),((if((70:Int)<(aa .i64 (ex-ey)))then(70:Int)else(aa .i64 (ex-ey))),())))then(bif(p120 (((0:Int),(Y,())),((aa .i64 ((aa .i64 (ex-(if((70:Int)<(aa .i64 (ex-ey)))then(70:Int)else(aa .i64 (ex-ey)))))-ey)),())))then(bif(p119 ((f120 (((0:Int),(Y,())),((aa .i64 ((aa .i64 (ex-(if((70:Int)<(aa .i64 (ex-ey)))then(70:Int)else(aa .i64 (ex-ey)))))-ey)),()))).1,((aa .i64 ((aa .i64 (ex-(if((70:Int)<(aa .i64 (ex-ey)))then(70:Int)else(aa .i64 (ex-ey)))))-ey)),())))then(bif(p120 (((0:Int),(Y,())),((aa .i64 ((aa .i64 (ex-(if((70:Int)<(aa .i64 (ex-ey)))then(70:Int)else(aa .i64 (ex-ey)))))-ey)),())))then(bif(nx==ny)then(bif(p121 ((f119 (((0:Int),(X,())),((if((70:Int)<(aa .i64 (ex-ey)))then(70:Int)else(aa .i64 (ex-ey))),()))).1,(f120 (((0:Int),(Y,())),((aa .i64 ((aa .i64 (ex-(if((70:Int)<(aa .i64 (ex-ey)))then(70:Int)else(aa .i64 (ex-ey)))))-ey)),())))))then(bif(p122 (f,(m,(nx,((f121 ((f119 (((0:Int),(X,())),((if((70:Int)<(aa .i64 (ex-ey)))then(70:Int)else(aa .i64 (ex-ey))),()))).1,(f120 (((0:Int),(Y,())),((aa .i64 ((aa .i64 (ex-(if((70:Int)<(aa .i64 (ex-ey)))then(70:Int)else(aa .i64 (ex-ey)))))-ey)),()))))).1,((aa .i64 (ex-(if((70:Int)<(aa .i64 (ex-ey)))then(70:Int)else(aa .i64 (ex-ey))))),(((!(((f119 ((f120 (((0:Int),(Y,())),((aa .i64 ((aa .i64 (ex-(if((70:Int)<(aa .i64 (ex-ey)))then(70:Int)else(aa .i64 (ex-ey)))))-ey)),()))).1,((aa .i64 ((aa .i64 (ex-(if((70:Int)<(aa .i64 (ex-ey)))then(70:Int)else(aa .i64 (ex-ey)))))-ey)),()))).1.1==(0:Int))&&((f119 ((f120 (((0:Int),(Y,())),((aa .i64 ((aa .i64 (ex-(if((70:Int)<(aa .i64 (ex-ey)))then(70:Int)else(aa .i64 (ex-ey)))))-ey)),()))).1,((aa .i64 ((aa .i64 (ex-(if((70:Int)<(aa .i64 (ex-ey)))then(70:Int)else(aa .i64 (ex-ey)))))-ey)),()))).1.2.1==Y)))||((decide ((aa .i64 ((aa .i64 (ex-(if((70:Int)<(aa .i64 (ex-ey)))then(70:Int)else(aa .i64 (ex-ey)))))-ey))>(63:Int)))&&(Y !=(0:Int)))),())))))))then(some (f122 (f,(m,(nx,((f121 ((f119 (((0:Int),(X,())),((if((70:Int)<(aa .i64 (ex-ey)))then(70:Int)else(aa .i64 (ex-ey))),()))).1,(f120 (((0:Int),(Y,())),((aa .i64 ((aa .i64 (ex-(if((70:Int)<(aa .i64 (ex-ey)))then(70:Int)else(aa .i64 (ex-ey)))))-ey)),()))))).1,((aa .i64 (ex-(if((70:Int)<(aa .i64 (ex-ey)))then(70:Int)else(aa .i64 (ex-ey))))),(((!(((f119 ((f120 (((0:Int),(Y,())),((aa .i64 ((aa .i64 (ex-(if((70:Int)<(aa .i64 (ex-ey)))then(70:Int)else(aa .i64 (ex-ey)))))-ey)),()))).1,((aa .i64 ((aa .i64 (ex-(if((70:Int)<(aa .i64 (ex-ey)))then(70:Int)else(aa .i64 (ex-ey)))))-ey)),()))).1.1==(0:Int))&&((f119 ((f120 (((0:Int),(Y,())),((aa .i64 ((aa .i64 (ex-(if((70:Int)<(aa .i64 (ex-ey)))then(70:Int)else(aa .i64 (ex-ey)))))-ey)),()))).1,((aa .i64 ((aa .i64 (ex-(if((70:Int)<(aa .i64 (ex-ey)))then(70:Int)else(aa .i64 (ex-ey)))))-ey)),()))).1.2.1==Y)))||((decide ((aa .i64 ((aa .i64 (ex-(if((70:Int)<(aa .i64 (ex-ey)))then(70:Int)else(aa .i64 (ex-ey)))))-ey))>(63:Int)))&&(Y !=(0:Int)))),()))))))))else none)else none)else bif(p123 ((f119 (((0:Int),(X,())),((if((70:Int)<(aa .i64 (ex-ey)))then(70:Int)else(aa .i64 (ex-ey))),()))).1,(f120 (((0:Int),(Y,())),((aa .i64 ((aa .i64 (ex-(if((70:Int)<(aa .i64 (ex-ey)))then(70:Int)else(aa .i64 (ex-ey)))))-ey)),())))))then(bif(decide ((f123 ((f119 (((0:Int),(X,())),((if((70:Int)<(aa .i64 (ex-ey)))then(70:Int)else(aa .i64 (ex-ey))),()))).1,(f120 (((0:Int),(Y,())),((aa .i64 ((aa .i64 (ex-(if((70:Int)<(aa .i64 (ex-ey)))then(70:Int)else(aa .i64 (ex-ey)))))-ey)),()))))).1<(0:Int)))then(bif(p124 ((f120 (((0:Int),(Y,())),((aa .i64 ((aa .i64 (ex-(if((70:Int)<(aa .i64 (ex-ey)))then(70:Int)else(aa .i64 (ex-ey)))))-ey)),()))).1,(f119 (((0:Int),(X,())),((if((70:Int)<(aa .i64 (ex-ey)))then(70:Int)else(aa .i64 (ex-ey))),())))))then(bif((!(((f119 ((f120 (((0:Int),(Y,())),((aa .i64 ((aa .i64 (ex-(if((70:Int)<(aa .i64 (ex-ey)))then(70:Int)else(aa .i64 (ex-ey)))))-ey)),()))).1,((aa .i64 ((aa .i64 (ex-(if((70:Int)<(aa .i64 (ex-ey)))then(70:Int)else(aa .i64 (ex-ey)))))-ey)),()))).1.1==(0:Int))&&((f119 ((f120 (((0:Int),(Y,())),((aa .i64 ((aa .i64 (ex-(if((70:Int)<(aa .i64 (ex-ey)))then(70:Int)else(aa .i64 (ex-ey)))))-ey)),()))).1,((aa .i64 ((aa .i64 (ex-(if((70:Int)<(aa .i64 (ex-ey)))then(70:Int)else(aa .i64 (ex-ey)))))-ey)),()))).1.2.1==Y)))||((decide ((aa .i64 ((aa .i64 (ex-(if((70:Int)<(aa .i64 (ex-ey)))then(70:Int)else(aa .i64 (ex-ey)))))-ey))>(63:Int)))&&(Y !=(0:Int))))then(bif(p124 ((f124 ((f120 (((0:Int),(Y,())),((aa .i64 ((aa .i64 (ex-(if((70:Int)<(aa .i64 (ex-ey)))then(70:Int)else(aa .i64 (ex-ey)))))-ey)),()))).1,(f119 (((0:Int),(X,())),((if((70:Int)<(aa .i64 (ex-ey)))then(70:Int)else(aa .i64 (ex-ey))),()))))).1,(((0:Int),((1:Int),())),())))then(bif((((f124 ((f124 ((f120 (((0:Int),(Y,())),((aa .i64 ((aa .i64 (ex-(if((70:Int)<(aa .i64 (ex-ey)))then(70:Int)else(aa .i64 (ex-ey)))))-ey)),()))).1,(f119 (((0:Int),(X,())),((if((70:Int)<(aa .i64 (ex-ey)))then(70:Int)else(aa .i64 (ex-ey))),()))))).1,(((0:Int),((1:Int),())),()))).1.1==(0:Int))&&((f124 ((f124 ((f120 (((0:Int),(Y,())),((aa .i64 ((aa .i64 (ex-(if((70:Int)<(aa .i64 (ex-ey)))then(70:Int)else(aa .i64 (ex-ey)))))-ey)),()))).1,(f119 (((0:Int),(X,())),((if((70:Int)<(aa .i64 (ex-ey)))then(70:Int)else(aa .i64 (ex-ey))),()))))).1,(((0:Int),((1:Int),())),()))).1.2.1==(0:Int)))&&(!((!(((f119 ((f120 (((0:Int),(Y,())),((aa .i64 ((aa .i64 (ex-(if((70:Int)<(aa .i64 (ex-ey)))then(70:Int)else(aa .i64 (ex-ey)))))-ey)),()))).1,((aa .i64 ((aa .i64 (ex-(if((70:Int)<(aa .i64 (ex-ey)))then(70:Int)else(aa .i64 (ex-ey)))))-ey)),()))).1.1==(0:Int))&&((f119 ((f120 (((0:Int),(Y,())),((aa .i64 ((aa .i64 (ex-(if((70:Int)<(aa .i64 (ex-ey)))then(70:Int)else(aa .i64 (ex-ey)))))-ey)),()))).1,((aa .i64 ((aa .i64 (ex-(if((70:Int)<(aa .i64 (ex-ey)))then(70:Int)else(aa .i64 (ex-ey)))))-ey)),()))).1.2.1==Y)))||((decide ((aa .i64 ((aa .i64 (ex-(if((70:Int)<(aa .i64 (ex-ey)))then(70:Int)else(aa .i64 (ex-ey)))))-ey))>(63:Int)))&&(Y !=(0:Int))))))then(bif(p118 (f,((m==(4:Int)),())))then(some ((f118 (f,((m==(4:Int)),()))).1,((0:Int),((0:Int),()))))else none)else bif(p122 (f,(m,(ny,((f124 ((f124 ((f120 (((0:Int),(Y,())),((aa .i64 ((aa .i64 (ex-(if((70:Int)<(aa .i64 (ex-ey)))then(70:Int)else(aa .i64 (ex-ey)))))-ey)),()))).1,(f119 (((0:Int),(X,())),((if((70:Int)<(aa .i64 (ex-ey)))then(70:Int)else(aa .i64 (ex-ey))),()))))).1,(((0:Int),((1:Int),())),()))).1,((aa .i64 (ex-(if((70:Int)<(aa .i64 (ex-ey)))then(70:Int)else(aa .i64 (ex-ey))))),(((!(((f119 ((f120 (((0:Int),(Y,())),((aa .i64 ((aa .i64 (ex-(if((70:Int)<(aa .i64 (ex-ey)))then(70:Int)else(aa .i64 (ex-ey)))))-ey)),()))).1,((aa .i64 ((aa .i64 (ex-(if((70:Int)<(aa .i64 (ex-ey)))then(70:Int)else(aa .i64 (ex-ey)))))-ey)),()))).1.1==(0:Int))&&((f119 ((f120 (((0:Int),(Y,())),((aa .i64 ((aa .i64 (ex-(if((70:Int)<(aa .i64 (ex-ey)))then(70:Int)else(aa .i64 (ex-ey)))))-ey)),()))).1,((aa .i64 ((aa .i64 (ex-(if((70:Int)<(aa .i64 (ex-ey)))then(70:Int)else(aa .i64 (ex-ey)))))-ey)),()))).1.2.1==Y)))||((decide ((aa .i64 ((aa .i64 (ex-(if((70:Int)<(aa .i64 (ex-ey)))then(70:Int)else(aa .i64 (ex-ey)))))-ey))>(63:Int)))&&(Y !=(0:Int)))),())))))))then(some (f122 (f,(m,(ny,((f124 ((f124 ((f120 (((0:Int),(Y,())),((aa .i64 ((aa .i64 (ex-(if((70:Int)<(aa .i64 (ex-ey)))then(70:Int)else(aa .i64 (ex-ey)))))-ey)),()))).1,(f119 (((0:Int),(X,())),((if((70:Int)<(aa .i64 (ex-ey)))then(70:Int)else(aa .i64 (ex-ey))),()))))).1,(((0:Int),((1:Int),())),()))).1,((aa .i64 (ex-(if((70:Int)<(aa .i64 (ex-ey)))then(70:Int)else(aa .i64 (ex-ey))))),(((!(((f119 ((f120 (((0:Int),(Y,())),((aa .i64 ((aa .i64 (ex-(if((70:Int)<(aa .i64 (ex-ey)))then(70:Int)else(aa .i64 (ex-ey)))))-ey)),()))).1,((aa .i64 ((aa .i64 (ex-(if((70:Int)<(aa .i64 (ex-ey)))then(70:Int)else(aa .i64 (ex-ey)))))-ey)),()))).1.1==(0:Int))&&((f119 ((f120 (((0:Int),(Y,())),((aa .i64 ((aa .i64 (ex-(if((70:Int)<(aa .i64 (ex-ey)))then(70:Int)else(aa .i64 (ex-ey)))))-ey)),()))).1,((aa .i64 ((aa .i64 (ex-(if((70:Int)<(aa .i64 (ex-ey)))then(70:Int)else(aa .i64 (ex-ey)))))-ey)),()))).1.2.1==Y)))||((decide ((aa .i64 ((aa .i64 (ex-(if((70:Int)<(aa .i64 (ex-ey)))then(70:Int)else(aa .i64 (ex-ey)))))-ey))>(63:Int)))&&(Y !=(0:Int)))),()))))))))else none)else none)else bif((((f124 ((f120 (((0:Int),(Y,())),((aa .i64 ((aa .i64 (ex-(if((70:Int)<(aa .i64 (ex-ey)))then(70:Int)else(aa .i64 (ex-ey)))))-ey)),()))).1,(f119 (((0:Int),(X,())),((if((70:Int)<(aa .i64 (ex-ey)))then(70:Int)else(aa .i64 (ex-ey))),()))))).1.1==(0:Int))&&((f124 ((f120 (((0:Int),(Y,())),((aa .i64 ((aa .i64 (ex-(if((70:Int)<(aa .i64 (ex-ey)))then(70:Int)else(aa .i64 (ex-ey)))))-ey)),()))).1,(f119 (((0:Int),(X,())),((if((70:Int)<(aa .i64 (ex-ey)))then(70:Int)else(aa .i64 (ex-ey))),()))))).1.2.1==(0:Int)))&&(!((!(((f119 ((f120 (((0:Int),(Y,())),((aa .i64 ((aa .i64 (ex-(if((70:Int)<(aa .i64 (ex-ey)))then(70:Int)else(aa .i64 (ex-ey)))))-ey)),()))).1,((aa .i64 ((aa .i64 (ex-(if((70:Int)<(aa .i64 (ex-ey)))then(70:Int)else(aa .i64 (ex-ey)))))-ey)),()))).1.1==(0:Int))&&((f119 ((f120 (((0:Int),(Y,())),((aa .i64 ((aa .i64 (ex-(if((70:Int)<(aa .i64 (ex-ey)))then(70:Int)else(aa .i64 (ex-ey)))))-ey)),()))).1,((aa .i64 ((aa .i64 (ex-(if((70:Int)<(aa .i64 (ex-ey)))then(70:Int)else(aa .i64 (ex-ey)))))-ey)),()))).1.2.1==Y)))||((decide ((aa .i64 ((aa .i64 (ex-(if((70:Int)<(aa .i64 (ex-ey)))then(70:Int)else(aa .i64 (ex-ey)))))-ey))>(63:Int)))&&(Y !=(0:Int))))))then(bif(p118 (f,((m==(4:Int)),())))then(some ((f118 (f,((m==(4:Int)),()))).1,((0:Int),((0:Int),()))))else none)else bif(p122 (f,(m,(ny,((f124 ((f120 (((0:Int),(Y,())),((aa .i64 ((aa .i64 (ex-(if((70:Int)<(aa .i64 (ex-ey)))then(70:Int)else(aa .i64 (ex-ey)))))-ey)),()))).1,(f119 (((0:Int),(X,())),((if((70:Int)<(aa .i64 (ex-ey)))then(70:Int)else(aa .i64 (ex-ey))),()))))).1,((aa .i64 (ex-(if((70:Int)<(aa .i64 (ex-ey)))then(70:Int)else(aa .i64 (ex-ey))))),(((!(((f119 ((f120 (((0:Int),(Y,())),((aa .i64 ((aa .i64 (ex-(if((70:Int)<(aa .i64 (ex-ey)))then(70:Int)else(aa .i64 (ex-ey)))))-ey)),()))).1,((aa .i64 ((aa .i64 (ex-(if((70:Int)<(aa .i64 (ex-ey)))then(70:Int)else(aa .i64 (ex-ey)))))-ey)),()))).1.1==(0:Int))&&((f119 ((f120 (((0:Int),(Y,())),((aa .i64 ((aa .i64 (ex-(if((70:Int)<(aa .i64 (ex-ey)))then(70:Int)else(aa .i64 (ex-ey)))))-ey)),()))).1,((aa .i64 ((aa .i64 (ex-(if((70:Int)<(aa .i64 (ex-ey)))then(70:Int)else(aa .i64 (ex-ey)))))-ey)),()))).1.2.1==Y)))||((decide ((aa .i64 ((aa .i64 (ex-(if((70:Int)<(aa .i64 (ex-ey)))then(70:Int)else(aa .i64 (ex-ey)))))-ey))>(63:Int)))&&(Y !=(0:Int)))),())))))))then(some (f122 (f,(m,(ny,((f124 ((f120 (((0:Int),(Y,())),((aa .i64 ((aa .i64 (ex-(if((70:Int)<(aa .i64 (ex-ey)))then(70:Int)else(aa .i64 (ex-ey)))))-ey)),()))).1,(f119 (((0:Int),(X,())),((if((70:Int)<(aa .i64 (ex-ey)))then(70:Int)else(aa .i64 (ex-ey))),()))))).1,((aa .i64 (ex-(if((70:Int)<(aa .i64 (ex-ey)))then(70:Int)else(aa .i64 (ex-ey))))),(((!(((f119 ((f120 (((0:Int),(Y,())),((aa .i64 ((aa .i64 (ex-(if((70:Int)<(aa .i64 (ex-ey)))then(70:Int)else(aa .i64 (ex-ey)))))-ey)),()))).1,((aa .i64 ((aa .i64 (ex-(if((70:Int)<(aa .i64 (ex-ey)))then(70:Int)else(aa .i64 (ex-ey)))))-ey)),()))).1.1==(0:Int))&&((f119 ((f120 (((0:Int),(Y,())),((aa .i64 ((aa .i64 (ex-(if((70:Int)<(aa .i64 (ex-ey)))then(70:Int)else(aa .i64 (ex-ey)))))-ey)),()))).1,((aa .i64 ((aa .i64 (ex-(if((70:Int)<(aa .i64 (ex-ey)))then(70:Int)else(aa .i64 (ex-ey)))))-ey)),()))).1.2.1==Y)))||((decide ((aa .i64 ((aa .i64 (ex-(if((70:Int)<(aa .i64 (ex-ey)))then(70:Int)else(aa .i64 (ex-ey)))))-ey))>(63:Int)))&&(Y !=(0:Int)))),()))))))))else none)else none)else bif(p124 ((f119 (((0:Int),(X,())),((if((70:Int)<(aa .i64 (ex-ey)))then(70:Int)else(aa .i64 (ex-ey))),()))).1,(f120 (((0:Int),(Y,())),((aa .i64 ((aa .i64 (ex-(if((70:Int)<(aa .i64 (ex-ey)))then(70:Int)else(aa .i64 (ex-ey)))))-ey)),())))))then(bif((!(((f119 ((f120 (((0:Int),(Y,())),((aa .i64 ((aa .i64 (ex-(if((70:Int)<(aa .i64 (ex-ey)))then(70:Int)else(aa .i64 (ex-ey)))))-ey)),()))).1,((aa .i64 ((aa .i64 (ex-(if((70:Int)<(aa .i64 (ex-ey)))then(70:Int)else(aa .i64 (ex-ey)))))-ey)),()))).1.1==(0:Int))&&((f119 ((f120 (((0:Int),(Y,())),((aa .i64 ((aa .i64 (ex-(if((70:Int)<(aa .i64 (ex-ey)))then(70:Int)else(aa .i64 (ex-ey)))))-ey)),()))).1,((aa .i64 ((aa .i64 (ex-(if((70:Int)<(aa .i64 (ex-ey)))then(70:Int)else(aa .i64 (ex-ey)))))-ey)),()))).1.2.1==Y)))||((decide ((aa .i64 ((aa .i64 (ex-(if((70:Int)<(aa .i64 (ex-ey)))then(70:Int)else(aa .i64 (ex-ey)))))-ey))>(63:Int)))&&(Y !=(0:Int))))then(bif(p124 ((f124 ((f119 (((0:Int),(X,())),((if((70:Int)<(aa .i64 (ex-ey)))then(70:Int)else(aa .i64 (ex-ey))),()))).1,(f120 (((0:Int),(Y,())),((aa .i64 ((aa .i64 (ex-(if((70:Int)<(aa .i64 (ex-ey)))then(70:Int)else(aa .i64 (ex-ey)))))-ey)),()))))).1,(((0:Int),((1:Int),())),())))then(bif((((f124 ((f124 ((f119 (((0:Int),(X,())),((if((70:Int)<(aa .i64 (ex-ey)))then(70:Int)else(aa .i64 (ex-ey))),()))).1,(f120 (((0:Int),(Y,())),((aa .i64 ((aa .i64 (ex-(if((70:Int)<(aa .i64 (ex-ey)))then(70:Int)else(aa .i64 (ex-ey)))))-ey)),()))))).1,(((0:Int),((1:Int),())),()))).1.1==(0:Int))&&((f124 ((f124 ((f119 (((0:Int),(X,())),((if((70:Int)<(aa .i64 (ex-ey)))then(70:Int)else(aa .i64 (ex-ey))),()))).1,(f120 (((0:Int),(Y,())),((aa .i64 ((aa .i64 (ex-(if((70:Int)<(aa .i64 (ex-ey)))then(70:Int)else(aa .i64 (ex-ey)))))-ey)),()))))).1,(((0:Int),((1:Int),())),()))).1.2.1==(0:Int)))&&(!((!(((f119 ((f120 (((0:Int),(Y,())),((aa .i64 ((aa .i64 (ex-(if((70:Int)<(aa .i64 (ex-ey)))then(70:Int)else(aa .i64 (ex-ey)))))-ey)),()))).1,((aa .i64 ((aa .i64 (ex-(if((70:Int)<(aa .i64 (ex-ey)))then(70:Int)else(aa .i64 (ex-ey)))))-ey)),()))).1.1==(0:Int))&&((f119 ((f120 (((0:Int),(Y,())),((aa .i64 ((aa .i64 (ex-(if((70:Int)<(aa .i64 (ex-ey)))then(70:Int)else(aa .i64 (ex-ey)))))-ey)),()))).1,((aa .i64 ((aa .i64 (ex-(if((70:Int)<(aa .i64 (ex-ey)))then(70:Int)else(aa .i64 (ex-ey)))))-ey)),()))).1.2.1==Y)))||((decide ((aa .i64 ((aa .i64 (ex-(if((70:Int)<(aa .i64 (ex-ey)))then(70:Int)else(aa .i64 (ex-ey)))))-ey))>(63:Int)))&&(Y !=(0:Int))))))then(bif(p118 (f,((m==(4:Int)),())))then(some ((f118 (f,((m==(4:Int)),()))).1,((0:Int),((0:Int),()))))else none)else bif(p122 (f,(m,(nx,((f124 ((f124 ((f119 (((0:Int),(X,())),((if((70:Int)<(aa .i64 (ex-ey)))then(70:Int)else(aa .i64 (ex-ey))),()))).1,(f120 (((0:Int),(Y,())),((aa .i64 ((aa .i64 (ex-(if((70:Int)<(aa .i64 (ex-ey)))then(70:Int)else(aa .i64 (ex-ey)))))-ey)),()))))).1,(((0:Int),((1:Int),())),()))).1,((aa .i64 (ex-(if((70:Int)<(aa .i64 (ex-ey)))then(70:Int)else(aa .i64 (ex-ey))))),(((!(((f119 ((f120 (((0:Int),(Y,())),((aa .i64 ((aa .i64 (ex-(if((70:Int)<(aa .i64 (ex-ey)))then(70:Int)else(aa .i64 (ex-ey)))))-ey)),()))).1,((aa .i64 ((aa .i64 (ex-(if((70:Int)<(aa .i64 (ex-ey)))then(70:Int)else(aa .i64 (ex-ey)))))-ey)),()))).1.1==(0:Int))&&((f119 ((f120 (((0:Int),(Y,())),((aa .i64 ((aa .i64 (ex-(if((70:Int)<(aa .i64 (ex-ey)))then(70:Int)else(aa .i64 (ex-ey)))))-ey)),()))).1,((aa .i64 ((aa .i64 (ex-(if((70:Int)<(aa .i64 (ex-ey)))then(70:Int)else(aa .i64 (ex-ey)))))-ey)),()))).1.2.1==Y)))||((decide ((aa .i64 ((aa .i64 (ex-(if((70:Int)<(aa .i64 (ex-ey)))then(70:Int)else(aa .i64 (ex-ey)))))-ey))>(63:Int)))&&(Y !=(0:Int)))),())))))))then(some (f122 (f,(m,(nx,((f124 ((f124 ((f119 (((0:Int),(X,())),((if((70:Int)<(aa .i64 (ex-ey)))then(70:Int)else(aa .i64 (ex-ey))),()))).1,(f120 (((0:Int),(Y,())),((aa .i64 ((aa .i64 (ex-(if((70:Int)<(aa .i64 (ex-ey)))then(70:Int)else(aa .i64 (ex-ey)))))-ey)),()))))).1,(((0:Int),((1:Int),())),()))).1,((aa .i64 (ex-(if((70:Int)<(aa .i64 (ex-ey)))then(70:Int)else(aa .i64 (ex-ey))))),(((!(((f119 ((f120 (((0:Int),(Y,())),((aa .i64 ((aa .i64 (ex-(if((70:Int)<(aa .i64 (ex-ey)))then(70:Int)else(aa .i64 (ex-ey)))))-ey)),()))).1,((aa .i64 ((aa .i64 (ex-(if((70:Int)<(aa .i64 (ex-ey)))then(70:Int)else(aa .i64 (ex-ey)))))-ey)),()))).1.1==(0:Int))&&((f119 ((f120 (((0:Int),(Y,())),((aa .i64 ((aa .i64 (ex-(if((70:Int)<(aa .i64 (ex-ey)))then(70:Int)else(aa .i64 (ex-ey)))))-ey)),()))).1,((aa .i64 ((aa .i64 (ex-(if((70:Int)<(aa .i64 (ex-ey)))then(70:Int)else(aa .i64 (ex-ey)))))-ey)),()))).1.2.1==Y)))||((decide ((aa .i64 ((aa .i64 (ex-(if((70:Int)<(aa .i64 (ex-ey)))then(70:Int)else(aa .i64 (ex-ey)))))-ey))>(63:Int)))&&(Y !=(0:Int)))),()))))))))else none)else none)else bif((((f124 ((f119 (((0:Int),(X,())),((if((70:Int)<(aa .i64 (ex-ey)))then(70:Int)else(aa .i64 (ex-ey))),()))).1,(f120 (((0:Int),(Y,())),((aa .i64 ((aa .i64 (ex-(if((70:Int)<(aa .i64 (ex-ey)))then(70:Int)else(aa .i64 (ex-ey)))))-ey)),()))))).1.1==(0:Int))&&((f124 ((f119 (((0:Int),(X,())),((if((70:Int)<(aa .i64 (ex-ey)))then(70:Int)else(aa .i64 (ex-ey))),()))).1,(f120 (((0:Int),(Y,())),((aa .i64 ((aa .i64 (ex-(if((70:Int)<(aa .i64 (ex-ey)))then(70:Int)else(aa .i64 (ex-ey)))))-ey)),()))))).1.2.1==(0:Int)))&&(!((!(((f119 ((f120 (((0:Int),(Y,())),((aa .i64 ((aa .i64 (ex-(if((70:Int)<(aa .i64 (ex-ey)))then(70:Int)else(aa .i64 (ex-ey)))))-ey)),()))).1,((aa .i64 ((aa .i64 (ex-(if((70:Int)<(aa .i64 (ex-ey)))then(70:Int)else(aa .i64 (ex-ey)))))-ey)),()))).1.1==(0:Int))&&((f119 ((f120 (((0:Int),(Y,())),((aa .i64 ((aa .i64 (ex-(if((70:Int)<(aa .i64 (ex-ey)))then(70:Int)else(aa .i64 (ex-ey)))))-ey)),()))).1,((aa .i64 ((aa .i64 (ex-(if((70:Int)<(aa .i64 (ex-ey)))then(70:Int)else(aa .i64 (ex-ey)))))-ey)),()))).1.2.1==Y)))||((decide ((aa .i64 ((aa .i64 (ex-(if((70:Int)<(aa .i64 (ex-ey)))then(70:Int)else(aa .i64 (ex-ey)))))-ey))>(63:Int)))&&(Y !=(0:Int))))))then(bif(p118 (f,((m==(4:Int)),())))then(some ((f118 (f,((m==(4:Int)),()))).1,((0:Int),((0:Int),()))))else none)else bif(p122 (f,(m,(nx,((f124 ((f119 (((0:Int),(X,())),((if((70:Int)<(aa .i64 (ex-ey)))then(70:Int)else(aa .i64 (ex-ey))),()))).1,(f120 (((0:Int),(Y,())),((aa .i64 ((aa .i64 (ex-(if((70:Int)<(aa .i64 (ex-ey)))then(70:Int)else(aa .i64 (ex-ey)))))-ey)),()))))).1,((aa .i64 (ex-(if((70:Int)<(aa .i64 (ex-ey)))then(70:Int)else(aa .i64 (ex-ey))))),(((!(((f119 ((f120 (((0:Int),(Y,())),((aa .i64 ((aa .i64 (ex-(if((70:Int)<(aa .i64 (ex-ey)))then(70:Int)else(aa .i64 (ex-ey)))))-ey)),()))).1,((aa .i64 ((aa .i64 (ex-(if((70:Int)<(aa .i64 (ex-ey)))then(70:Int)else(aa .i64 (ex-ey)))))-ey)),()))).1.1==(0:Int))&&((f119 ((f120 (((0:Int),(Y,())),((aa .i64 ((aa .i64 (ex-(if((70:Int)<(aa .i64 (ex-ey)))then(70:Int)else(aa .i64 (ex-ey)))))-ey)),()))).1,((aa .i64 ((aa .i64 (ex-(if((70:Int)<(aa .i64 (ex-ey)))then(70:Int)else(aa .i64 (ex-ey)))))-ey)),()))).1.2.1==Y)))||((decide ((aa .i64 ((aa .i64 (ex-(if((70:Int)<(aa .i64 (ex-ey)))then(70:Int)else(aa .i64 (ex-ey)))))-ey))>(63:Int)))&&(Y !=(0:Int)))),())))))))then(some (f122 (f,(m,(nx,((f124 ((f119 (((0:Int),(X,())),((if((70:Int)<(aa .i64 (ex-ey)))then(70:Int)else(aa .i64 (ex-ey))),()))).1,(f120 (((0:Int),(Y,())),((aa .i64 ((aa .i64 (ex-(if((70:Int)<(aa .i64 (ex-ey)))then(70:Int)else(aa .i64 (ex-ey)))))-ey)),()))))).1,((aa .i64 (ex-(if((70:Int)<(aa .i64 (ex-ey)))then(70:Int)else(aa .i64 (ex-ey))))),(((!(((f119 ((f120 (((0:Int),(Y,())),((aa .i64 ((aa .i64 (ex-(if((70:Int)<(aa .i64 (ex-ey)))then(70:Int)else(aa .i64 (ex-ey)))))-ey)),()))).1,((aa .i64 ((aa .i64 (ex-(if((70:Int)<(aa .i64 (ex-ey)))then(70:Int)else(aa .i64 (ex-ey)))))-ey)),()))).1.1==(0:Int))&&((f119 ((f120 (((0:Int),(Y,())),((aa .i64 ((aa .i64 (ex-(if((70:Int)<(aa .i64 (ex-ey)))then(70:Int)else(aa .i64 (ex-ey)))))-ey)),()))).1,((aa .i64 ((aa .i64 (ex-(if((70:Int)<(aa .i64 (ex-ey)))then(70:Int)else(aa .i64 (ex-ey)))))-ey)),()))).1.2.1==Y)))||((decide ((aa .i64 ((aa .i64 (ex-(if((70:Int)<(aa .i64 (ex-ey)))then(70:Int)else(aa .i64 (ex-ey)))))-ey))>(63:Int)))&&(Y !=(0:Int)))),()))))))))else none)else none)else none)else none)else none)else none)else none
def t71(p119:YQ)(f119:YY)(p120:pR)(f120:qX)(p121:pS)(f121:qY)(p123:Sq)(f123:Sw)(p124:pT)(f124:qZ)(p118:JM)(f118:JQ)(p122:H5)(f122:H8)(a0 a1:Aa (.int .i64))(a2 a3:Aa (.pair (.bool) (.pair (.int .u64) (.pair (.int .i64) (.unit))))):Option (DenS Jp):=bif(((a2.2.1==(0:Int))&&(a3.2.1==(0:Int)))&&(a2.1==a3.1))then(bif(p118 (a0,a2.1,()))then(some ((f118 (a0,a2.1,())).1,(0:Int),(0:Int),()))else none)else bif((a2.2.1==(0:Int))||((a3.2.1 !=(0:Int))&&(decide (a2.2.2.1<a3.2.2.1))))then(bif(a2.2.1==(0:Int))then(nS p119 f119 p120 f120 p121 f121 p123 f123 p124 f124 p118 f118 p122 f122 a0 a1 a3.1 a3.2.1 a3.2.2.1 a2.1 a2.2.1 a3.2.2.1)else(nS p119 f119 p120 f120 p121 f121 p123 f123 p124 f124 p118 f118 p122 f122 a0 a1 a3.1 a3.2.1 a3.2.2.1 a2.1 a2.2.1 a2.2.2.1))else bif(a3.2.1==(0:Int))then(nS p119 f119 p120 f120 p121 f121 p123 f123 p124 f124 p118 f118 p122 f122 a0 a1 a2.1 a2.2.1 a2.2.2.1 a3.1 a3.2.1 a2.2.2.1)else(nS p119 f119 p120 f120 p121 f121 p123 f123 p124 f124 p118 f118 p122 f122 a0 a1 a2.1 a2.2.1 a2.2.2.1 a3.1 a3.2.1 a3.2.2.1)
theorem r71(x:DenS OJ):run (cf [(114,⟨Ho,I9,p119,f119⟩),(115,⟨IK,KJ,p120,f120⟩),(116,⟨IL,KK,p121,f121⟩),(117,⟨GA,Hx,p123,f123⟩),(118,⟨IM,KL,p124,f124⟩),(38,⟨E4,Fq,p118,f118⟩),(66,⟨E5,Fr,p122,f122⟩)] []) 9 57 Tryz.f57 OJ Jp x=t71 p119 f119 p120 f120 p121 f121 p123 f123 p124 f124 p118 f118 p122 f122 x.1 x.2.1 x.2.2.1 x.2.2.2.1:=by kernel_rfl
def Uf(x:DenS OJ):Option (DenS Jp):=t71 AE.pre AE.F AL.pre AL.F Ly.pre Ly.F Du.pre Du.F BF.pre BF.F Bb.pre Bb.F A3.pre A3.F x.1 x.2.1 x.2.2.1 x.2.2.2.1
def QY:Sum:=Aj OJ Jp Uf (DenS.dflt Jp)
theorem aJ1:Sound Tryz.prog G1 57 QY:=sd (cf [(114,AE),(115,AL),(116,Ly),(117,Du),(118,BF),(38,Bb),(66,A3)] []) 57 Tryz.f57 ⟨xV,aIQ,aIR,xW,aIS,TG,TH,trivial⟩ trivial OJ Jp Uf _ (fun _=>r71 ..)
abbrev qT:=Al OJ
abbrev rW:=Ak OJ Jp
variable (p71:qT)(f71:rW)
end Vx
namespace Vx
open Go Go.Proofs
variable (p69:BK)(f69:BL)(p66:Cm)(f66:Cn)(p91:H7)(f91:Ia)(p90:YU)(f90:Y2)(p65:Ep)(f65:Er)(p70:Ec)(f70:Ed)(p98:JP)(f98:JT)(p72:qU)(f72:rX)(p155:C5)(f155:C6)(p157:G3)(f157:G5)(p118:JM)(f118:JQ)(p105:Uj)(f105:Uv)(p173:A5)(f173:A6)(p146:Sr)(f146:Sx)(p102:G2)(f102:G4)(p178:H6)(f178:H9)(p151:Ms)(f151:Mu)(p156:eJ)(f156:fC)(p1173:Rc)(f1173:Rg)(p171:Ss)(f171:Sy)(p92:JO)(f92:JS)(p186:Up)(f186:UB)(p185:Uo)(f185:UA)(p176:Un)(f176:Uz)(p143:Rd)(f143:Rh)(p97:Rf)(f97:Rj)(p107:Uk)(f107:Uw)(p122:H5)(f122:H8)(p71:qT)(f71:rW)
abbrev Kr:Ab:=[(false,.int .i64),(false,.int .i64),(false,.int .u64),(false,.int .u64)]
abbrev KP:Ab:=[(false,.int .u64),(false,.int .i64),(false,.int .i64)]
def kU(p69:BK)(f69:BL)(p65:Ep)(f65:Er)(p70:Ec)(f70:Ed)(p72:qU)(f72:rX)(p71:qT)(f71:rW)(a0 a1:Aa (.int .i64))(a2 a3:Aa (.int .u64)):Option (DenS KP):=let e1_:=(a0,a1,(f72 (a0,(f69 (a0,())).1,a2,())).1,(f72 (a0,(f69 (a0,())).1,a3,())));let e2_:=(((f65 (a0,a2,())).1==(2:Int))||((f65 (a0,a2,())).1==(9:Int)));let e3_:=(((f65 (a0,a3,())).1==(2:Int))||((f65 (a0,a3,())).1==(9:Int)));let e4_:=((f70 (a0,())).1,(1:Int),(0:Int),());bif(p69 (a0,()))then(bif((f69 (a0,())).2.1 !=(0:Int))then(some ((0:Int),(0:Int),(f69 (a0,())).2))else bif((decide (a1<(0:Int)))||(decide (a1>(5:Int))))then(some ((0:Int),(0:Int),(3:Int),()))else bif(p65 (a0,a2,()))then(bif((f65 (a0,a2,())).2.1 !=(0:Int))then(some ((0:Int),(0:Int),(f65 (a0,a2,())).2))else bif(p65 (a0,a3,()))then(bif((f65 (a0,a3,())).2.1 !=(0:Int))then(some ((0:Int),(0:Int),(f65 (a0,a3,())).2))else bif(p70 (a0,()))then(bif(((f65 (a0,a2,())).1==(0:Int))||((f65 (a0,a3,())).1==(0:Int)))then(some e4_)else bif(((f65 (a0,a2,())).1==(1:Int))||((f65 (a0,a3,())).1==(1:Int)))then(some ((f70 (a0,())).1,(0:Int),(0:Int),()))else bif((e2_&&e3_)&&((f65 (a0,a2,())).1 !=(f65 (a0,a3,())).1))then(some e4_)else bif e2_ then(some (a2,(0:Int),(0:Int),()))else bif e3_ then(some (a3,(0:Int),(0:Int),()))else bif(p72 (a0,(f69 (a0,())).1,a2,()))then(bif(p72 (a0,(f69 (a0,())).1,a3,()))then(bif(p71 e1_)then(some (f71 e1_))else none)else none)else none)else none)else none)else none)else none
theorem r27(x:DenS Kr):run (cf [(54,⟨Ck,Cl,p69,f69⟩),(55,⟨DM,DN,p65,f65⟩),(56,⟨DE,DF,p70,f70⟩),(58,⟨OK,P8,p72,f72⟩),(57,⟨OJ,Jp,p71,f71⟩)] []) 9 15 Tryz.f15 Kr KP x=kU p69 f69 p65 f65 p70 f70 p72 f72 p71 f71 x.1 x.2.1 x.2.2.1 x.2.2.2.1:=by kernel_rfl
def Xl(x:DenS Kr):Option (DenS KP):=kU Aq.pre Aq.F AD.pre AD.F AB.pre AB.F QZ.pre QZ.F QY.pre QY.F x.1 x.2.1 x.2.2.1 x.2.2.2.1
def Fy:Sum:=Aj Kr KP Xl (DenS.dflt KP)
theorem oR:Sound Tryz.prog G1 15 Fy:=sd (cf [(54,Aq),(55,AD),(56,AB),(58,QZ),(57,QY)] []) 15 Tryz.f15 ⟨Em,H3,GY,aJ2,aJ1,trivial⟩ trivial Kr KP Xl _ (fun _=>r27 ..)
abbrev eK:=Al Kr
abbrev fD:=Ak Kr KP
variable (p27:eK)(f27:fD)
abbrev II:Ab:=[(false,.int .i64)]
abbrev I7:Ab:=[(false,.int .u64)]
def aHT(a0:Aa (.int .i64)):Option (DenS I7):=let e1_:=(aa .i64 ((Vx.k_rows.getD (aj a0) ((0:Int),(0:Int),(0:Int),(0:Int),())).1-(1:Int)));bif((decide ((0:Int)<=a0))&&(decide (a0<((4:Nat):Int))))then(bif(decide ((0:Int)<=e1_))then(some ((AQ .u64 (1:Int) e1_),()))else none)else none
theorem aRg(x:DenS II):run (cf [] []) 9 120 Tryz.f120 II I7 x=aHT x.1:=by kernel_rfl
def WX(x:DenS II):Option (DenS I7):=aHT x.1
def Dk:Sum:=Aj II I7 WX (DenS.dflt I7)
theorem oL:Sound Tryz.prog G1 120 Dk:=sd (cf [] []) 120 Tryz.f120 trivial trivial II I7 WX _ (fun _=>aRg ..)
abbrev YP:=Al II
abbrev YX:=Ak II I7
variable (p115:YP)(f115:YX)
abbrev I0:Ab:=[(false,.int .i64),(false,.int .u64)]
abbrev Jo:Ab:=[(false,.int .u64),(false,.int .i64)]
def Wk(p66:Cm)(f66:Cn)(p115:YP)(f115:YX)(a0:Aa (.int .i64))(a1:Aa (.int .u64)):Option (DenS Jo):=bif(p66 (a0,a1,()))then(bif((f66 (a0,a1,())).1 !=(0:Int))then(some ((0:Int),(f66 (a0,a1,()))))else bif(p115 (a0,()))then(some ((n7 .u64 a1 (f115 (a0,())).1),(0:Int),()))else none)else none
theorem r64(x:DenS I0):run (cf [(59,⟨CI,CJ,p66,f66⟩),(120,⟨II,I7,p115,f115⟩)] []) 9 60 Tryz.f60 I0 Jo x=Wk p66 f66 p115 f115 x.1 x.2.1:=by kernel_rfl
def Sl(x:DenS I0):Option (DenS Jo):=Wk Ar.pre Ar.F Dk.pre Dk.F x.1 x.2.1
def DR:Sum:=Aj I0 Jo Sl (DenS.dflt Jo)
theorem dA:Sound Tryz.prog G1 60 DR:=sd (cf [(59,Ar),(120,Dk)] []) 60 Tryz.f60 ⟨Gl,oL,trivial⟩ trivial I0 Jo Sl _ (fun _=>r64 ..)
abbrev Uu:=Al I0
abbrev UG:=Ak I0 Jo
variable (p64:Uu)(f64:UG)
abbrev NA:Ab:=[(false,.int .i64),(false,.int .i64),(false,.int .u64),(false,.int .u64)]
abbrev O8:Ab:=[(false,.int .u64),(false,.int .i64),(false,.int .i64)]
def kT(p66:Cm)(f66:Cn)(p64:Uu)(f64:UG)(p27:eK)(f27:fD)(a0 a1:Aa (.int .i64))(a2 a3:Aa (.int .u64)):Option (DenS O8):=let e1_:=(a0,a1,a2,(f64 (a0,a3,())).1,());bif(p66 (a0,a3,()))then(bif((f66 (a0,a3,())).1==(0:Int))then(bif(p64 (a0,a3,()))then(bif(p27 e1_)then(some (f27 e1_))else none)else none)else bif(p27 (a0,a1,a2,a3,()))then(some (f27 (a0,a1,a2,a3,())))else none)else none
theorem r25(x:DenS NA):run (cf [(59,⟨CI,CJ,p66,f66⟩),(60,⟨I0,Jo,p64,f64⟩),(15,⟨Kr,KP,p27,f27⟩)] []) 9 16 Tryz.f16 NA O8 x=kT p66 f66 p64 f64 p27 f27 x.1 x.2.1 x.2.2.1 x.2.2.2.1:=by kernel_rfl
def Xk(x:DenS NA):Option (DenS O8):=kT Ar.pre Ar.F DR.pre DR.F Fy.pre Fy.F x.1 x.2.1 x.2.2.1 x.2.2.2.1
def LB:Sum:=Aj NA O8 Xk (DenS.dflt O8)
theorem yA:Sound Tryz.prog G1 16 LB:=sd (cf [(59,Ar),(60,DR),(15,Fy)] []) 16 Tryz.f16 ⟨Gl,dA,oR,trivial⟩ trivial NA O8 Xk _ (fun _=>r25 ..)
abbrev pV:=Al NA
abbrev q8:=Ak NA O8
variable (p25:pV)(f25:q8)
abbrev NK:Ab:=[(false,.int .i64),(true,.pair (.int .i64) (.pair (.int .i64) (.pair (.int .i64) (.pair (.int .i64) (.unit))))),(false,.int .u64)]
abbrev Pi:Ab:=[(true,.pair (.int .i64) (.pair (.bool) (.pair (.int .u64) (.pair (.int .i64) (.unit))))),(false,.int .i64)]
def Wc(p65:Ep)(f65:Er)(p98:JP)(f98:JT)(a0:Aa (.int .i64))(a1:Aa (.pair (.int .i64) (.pair (.int .i64) (.pair (.int .i64) (.pair (.int .i64) (.unit))))))(a2:Aa (.int .u64)):Option (DenS Pi):=let e1_:=(aa .i64 (a1.2.1-(1:Int)));bif(p65 (a0,a2,()))then(bif((f65 (a0,a2,())).2.1 !=(0:Int))then(some (((0:Int),false,(0:Int),(0:Int),()),(f65 (a0,a2,())).2))else bif(p98 (a0,a2,()))then(bif((f98 (a0,a2,())).2.1==(0:Int))then(some (((f65 (a0,a2,())).1,(f98 (a0,a2,())).1,(f98 (a0,a2,())).2.2.1,(aa .i64 ((aa .i64 ((aa .i64 ((aa .i64 ((aa .i64 (1:Int))-(1:Int)))+a1.2.2.1))-a1.2.1))+(1:Int))),()),(0:Int),()))else bif(decide ((0:Int)<=e1_))then(some (((f65 (a0,a2,())).1,(f98 (a0,a2,())).1,(A7 .u64 (f98 (a0,a2,())).2.2.1 (AQ .u64 (1:Int) e1_)),(aa .i64 ((aa .i64 ((aa .i64 ((aa .i64 ((aa .i64 (f98 (a0,a2,())).2.1)-(1:Int)))+a1.2.2.1))-a1.2.1))+(1:Int))),()),(0:Int),()))else none)else none)else none
theorem aSh(x:DenS NK):run (cf [(55,⟨DM,DN,p65,f65⟩),(119,⟨Fj,Fv,p98,f98⟩)] []) 9 61 Tryz.f61 NK Pi x=Wc p65 f65 p98 f98 x.1 x.2.1 x.2.2.1:=by kernel_rfl
def T4(x:DenS NK):Option (DenS Pi):=Wc AD.pre AD.F Br.pre Br.F x.1 x.2.1 x.2.2.1
def Qw:Sum:=Aj NK Pi T4 (DenS.dflt Pi)
theorem aJk:Sound Tryz.prog G1 61 Qw:=sd (cf [(55,AD),(119,Br)] []) 61 Tryz.f61 ⟨H3,R3,trivial⟩ trivial NK Pi T4 _ (fun _=>aSh ..)
abbrev aA4:=Al NK
abbrev aCi:=Ak NK Pi
variable (p350:aA4)(f350:aCi)
abbrev NL:Ab:=[(true,.pair (.int .i64) (.pair (.bool) (.pair (.int .u64) (.pair (.int .i64) (.unit)))))]
abbrev Pj:Ab:=[(false,.bool)]
def aH1(a0:Aa (.pair (.int .i64) (.pair (.bool) (.pair (.int .u64) (.pair (.int .i64) (.unit)))))):Option (DenS Pj):=some (((a0.1==(1:Int))||(a0.1==(0:Int))),())
theorem aSi(x:DenS NL):run (cf [] []) 9 62 Tryz.f62 NL Pj x=aH1 x.1:=by kernel_rfl
def XA(x:DenS NL):Option (DenS Pj):=aH1 x.1
def Qx:Sum:=Aj NL Pj XA (DenS.dflt Pj)
theorem aJl:Sound Tryz.prog G1 62 Qx:=sd (cf [] []) 62 Tryz.f62 trivial trivial NL Pj XA _ (fun _=>aSi ..)
abbrev aA5:=Al NL
abbrev aCj:=Ak NL Pj
variable (p351:aA5)(f351:aCj)
abbrev NM:Ab:=[(true,.pair (.int .i64) (.pair (.bool) (.pair (.int .u64) (.pair (.int .i64) (.unit)))))]
abbrev Pk:Ab:=[(false,.bool)]
def aH2(a0:Aa (.pair (.int .i64) (.pair (.bool) (.pair (.int .u64) (.pair (.int .i64) (.unit)))))):Option (DenS Pk):=some (((a0.1==(2:Int))||(a0.1==(9:Int))),())
theorem aSj(x:DenS NM):run (cf [] []) 9 63 Tryz.f63 NM Pk x=aH2 x.1:=by kernel_rfl
def XB(x:DenS NM):Option (DenS Pk):=aH2 x.1
def Qy:Sum:=Aj NM Pk XB (DenS.dflt Pk)
theorem aJm:Sound Tryz.prog G1 63 Qy:=sd (cf [] []) 63 Tryz.f63 trivial trivial NM Pk XB _ (fun _=>aSj ..)
abbrev aA6:=Al NM
abbrev aCk:=Ak NM Pk
variable (p352:aA6)(f352:aCk)
abbrev NN:Ab:=[(true,.pair (.int .i64) (.pair (.bool) (.pair (.int .u64) (.pair (.int .i64) (.unit)))))]
abbrev Pl:Ab:=[(false,.bool)]
def aH3(a0:Aa (.pair (.int .i64) (.pair (.bool) (.pair (.int .u64) (.pair (.int .i64) (.unit)))))):Option (DenS Pl):=some (((a0.1==(5:Int))||(a0.1==(6:Int))),())
theorem aSk(x:DenS NN):run (cf [] []) 9 64 Tryz.f64 NN Pl x=aH3 x.1:=by kernel_rfl
def XC(x:DenS NN):Option (DenS Pl):=aH3 x.1
def Qz:Sum:=Aj NN Pl XC (DenS.dflt Pl)
theorem aJn:Sound Tryz.prog G1 64 Qz:=sd (cf [] []) 64 Tryz.f64 trivial trivial NN Pl XC _ (fun _=>aSk ..)
abbrev aA7:=Al NN
abbrev aCl:=Ak NN Pl
variable (p353:aA7)(f353:aCl)
abbrev EC:Ab:=[(false,.int .u64),(false,.int .u64)]
abbrev EF:Ab:=[(false,.int .u64),(false,.int .u64)]
def kY(a0 a1:Aa (.int .u64)):Option (DenS EF):=let e2_:=(A9 .u64 a1 (4294967295:Int));let e3_:=(A9 .u64 a0 (4294967295:Int));let e1_:=(aa .u64 ((aa .u64 ((AJ .u64 a0 (32:Int))*e2_))+(AJ .u64 (aa .u64 (e3_*e2_)) (32:Int))));some ((aa .u64 ((aa .u64 ((aa .u64 ((AJ .u64 a0 (32:Int))*(AJ .u64 a1 (32:Int))))+(AJ .u64 e1_ (32:Int))))+(AJ .u64 (aa .u64 ((A9 .u64 e1_ (4294967295:Int))+(aa .u64 (e3_*(AJ .u64 a1 (32:Int)))))) (32:Int)))),(aa .u64 (a0*a1)),())
theorem aR3(x:DenS EC):run (cf [] []) 9 126 Tryz.f126 EC EF x=kY x.1 x.2.1:=by kernel_rfl
def Xp(x:DenS EC):Option (DenS EF):=kY x.1 x.2.1
def AO:Sum:=Aj EC EF Xp (DenS.dflt EF)
theorem cT:Sound Tryz.prog G1 126 AO:=sd (cf [] []) 126 Tryz.f126 trivial trivial EC EF Xp _ (fun _=>aR3 ..)
abbrev ER:=Al EC
abbrev ET:=Ak EC EF
variable (p315:ER)(f315:ET)
abbrev IT:Ab:=[(false,.int .u64),(false,.int .u64)]
abbrev Jf:Ab:=[(true,.pair (.int .u64) (.pair (.int .u64) (.unit)))]
def kZ(p315:ER)(f315:ET)(a0 a1:Aa (.int .u64)):Option (DenS Jf):=bif(p315 (a0,a1,()))then(some ((f315 (a0,a1,())),()))else none
theorem aR4(x:DenS IT):run (cf [(126,⟨EC,EF,p315,f315⟩)] []) 9 67 Tryz.f67 IT Jf x=kZ p315 f315 x.1 x.2.1:=by kernel_rfl
def Xq(x:DenS IT):Option (DenS Jf):=kZ AO.pre AO.F x.1 x.2.1
def C1:Sum:=Aj IT Jf Xq (DenS.dflt Jf)
theorem yB:Sound Tryz.prog G1 67 C1:=sd (cf [(126,AO)] []) 67 Tryz.f67 ⟨cT,trivial⟩ trivial IT Jf Xq _ (fun _=>aR4 ..)
abbrev Uq:=Al IT
abbrev UC:=Ak IT Jf
variable (p316:Uq)(f316:UC)
abbrev NO:Ab:=[(false,.int .i64),(false,.int .i64),(false,.int .u64),(false,.int .u64)]
abbrev Pm:Ab:=[(false,.int .u64),(false,.int .i64),(false,.int .i64)]
def lJ(p69:BK)(f69:BL)(p350:aA4)(f350:aCi)(p351:aA5)(f351:aCj)(p70:Ec)(f70:Ed)(p352:aA6)(f352:aCk)(p97:Rf)(f97:Rj)(p353:aA7)(f353:aCl)(p118:JM)(f118:JQ)(p316:Uq)(f316:UC)(p122:H5)(f122:H8)(a0 a1:Aa (.int .i64))(a2 a3:Aa (.int .u64)):Option (DenS Pm):=let e18_:=(!((f350 (a0,(f69 (a0,())).1,a2,())).1.2.1==(f350 (a0,(f69 (a0,())).1,a3,())).1.2.1));let e17_:=((f350 (a0,(f69 (a0,())).1,a2,())).1.2.2.1,(f350 (a0,(f69 (a0,())).1,a3,())).1.2.2.1,());let e1_:=(a0,a1,e18_,(f316 e17_).1,(aa .i64 ((f350 (a0,(f69 (a0,())).1,a2,())).1.2.2.2.1+(f350 (a0,(f69 (a0,())).1,a3,())).1.2.2.2.1)),false,());let e20_:=((f350 (a0,(f69 (a0,())).1,a2,())).1,());let e19_:=(f352 e20_);let e21_:=((f350 (a0,(f69 (a0,())).1,a3,())).1,());let e2_:=(e19_.1&&(f353 e21_).1);let e16_:=(a0,e18_,());let e3_:=(f118 e16_);let e4_:=(f97 e16_);let e5_:=e16_;let e6_:=(f353 e20_);let e7_:=e19_;let e8_:=(f351 e20_);let e9_:=(p352 e20_);let e10_:=(p353 e21_);let e11_:=(p353 e20_);let e12_:=(p352 e21_);let e13_:=(f352 e21_);let e14_:=e21_;let e15_:=((f70 (a0,())).1,(1:Int),(f70 (a0,())).2);bif(p69 (a0,()))then(bif((f69 (a0,())).2.1 !=(0:Int))then(some ((0:Int),(0:Int),(f69 (a0,())).2))else bif((decide (a1<(0:Int)))||(decide (a1>(5:Int))))then(some ((0:Int),(0:Int),(3:Int),()))else bif(p350 (a0,(f69 (a0,())).1,a2,()))then(bif((f350 (a0,(f69 (a0,())).1,a2,())).2.1 !=(0:Int))then(some ((0:Int),(0:Int),(f350 (a0,(f69 (a0,())).1,a2,())).2))else bif(p350 (a0,(f69 (a0,())).1,a3,()))then(bif((f350 (a0,(f69 (a0,())).1,a3,())).2.1 !=(0:Int))then(some ((0:Int),(0:Int),(f350 (a0,(f69 (a0,())).1,a3,())).2))else bif(p351 e20_)then(bif((p351 e14_)||(!(bif e8_.1 then false else true)))then(bif(e8_.1||(f351 e14_).1)then(bif(((f350 (a0,(f69 (a0,())).1,a2,())).1.1==(0:Int))||((f350 (a0,(f69 (a0,())).1,a3,())).1.1==(0:Int)))then(bif(p70 (a0,()))then(some e15_)else none)else bif(p70 (a0,()))then(some ((f70 (a0,())).1,(0:Int),(f70 (a0,())).2))else none)else bif e9_ then(bif(e10_||(!e7_.1))then(bif(e11_||(!(bif e2_ then false else true)))then(bif(e12_||(!((bif e2_ then false else true)&&e6_.1)))then(bif(e2_||(e6_.1&&e13_.1))then(bif(p70 (a0,()))then(some e15_)else none)else bif e9_ then(bif(e12_||(!(bif e7_.1 then false else true)))then(bif(e7_.1||e13_.1)then(bif(p97 e5_)then(some (e4_.1,(0:Int),e4_.2))else none)else bif e11_ then(bif(e10_||(!(bif e6_.1 then false else true)))then(bif(e6_.1||(f353 e14_).1)then(bif(p118 e5_)then(some (e3_.1,(0:Int),e3_.2))else none)else bif(p316 e17_)then(bif(p122 e1_)then(some (f122 e1_))else none)else none)else none)else none)else none)else none)else none)else none)else none)else none)else none)else none)else none)else none)else none
theorem aSl(x:DenS NO):run (cf [(54,⟨Ck,Cl,p69,f69⟩),(61,⟨NK,Pi,p350,f350⟩),(62,⟨NL,Pj,p351,f351⟩),(56,⟨DE,DF,p70,f70⟩),(63,⟨NM,Pk,p352,f352⟩),(65,⟨GG,GN,p97,f97⟩),(64,⟨NN,Pl,p353,f353⟩),(38,⟨E4,Fq,p118,f118⟩),(67,⟨IT,Jf,p316,f316⟩),(66,⟨E5,Fr,p122,f122⟩)] []) 9 17 Tryz.f17 NO Pm x=lJ p69 f69 p350 f350 p351 f351 p70 f70 p352 f352 p97 f97 p353 f353 p118 f118 p316 f316 p122 f122 x.1 x.2.1 x.2.2.1 x.2.2.2.1:=by kernel_rfl
def XD(x:DenS NO):Option (DenS Pm):=lJ Aq.pre Aq.F Qw.pre Qw.F Qx.pre Qx.F AB.pre AB.F Qy.pre Qy.F BY.pre BY.F Qz.pre Qz.F Bb.pre Bb.F C1.pre C1.F A3.pre A3.F x.1 x.2.1 x.2.2.1 x.2.2.2.1
def LC:Sum:=Aj NO Pm XD (DenS.dflt Pm)
theorem yD:Sound Tryz.prog G1 17 LC:=sd (cf [(54,Aq),(61,Qw),(62,Qx),(56,AB),(63,Qy),(65,BY),(64,Qz),(38,Bb),(67,C1),(66,A3)] []) 17 Tryz.f17 ⟨Em,aJk,aJl,GY,aJm,WR,aJn,TG,yB,TH,trivial⟩ trivial NO Pm XD _ (fun _=>aSl ..)
abbrev qA:=Al NO
abbrev rD:=Ak NO Pm
variable (p354:qA)(f354:rD)
abbrev NQ:Ab:=[(false,.int .i64),(false,.int .i64),(false,.slice (.int .u64))]
abbrev Po:Ab:=[(false,.int .i64)]
abbrev HU:Pat:=⟨39,[(27,.one (.v .i64)),(26,.one (.sl (.int .u64))),(0,.one (.v .i64)),(28,.one (.v .i64))],[]⟩
abbrev bU:List (Nat×Shape):=[]
abbrev Ml:List (Nat×Pat):=[(0,⟨39,[],[]⟩)]
abbrev Lr:Option Pat:=(some ⟨39,[(6,.one (.v .i64))],[]⟩)
variable (w376_7:Pat.D HU->Option (Ah Ml Lr))
def Vq(p69:BK)(f69:BL)(p66:Cm)(f66:Cn){R:Type}(L:Pat.D HU->Option R)(e:Ah Ml Lr->Option R)(x:Pat.D HU):Option R:=let e2_:=(x.1.2.2.1,(x.1.2.1.getD (aj x.1.2.2.2.1) (0:Int)),());let e1_:=(f66 e2_);bif(decide (x.1.2.2.2.1<x.1.1))then(bif((decide ((0:Int)<=x.1.2.2.2.1))&&(decide (x.1.2.2.2.1<(x.1.2.1.length:Int))))then(bif(p66 e2_)then(bif(e1_.1 !=(0:Int))then(((e (.inr (e1_,())))))else(L ((x.1.1,x.1.2.1,x.1.2.2.1,(aa .i64 (x.1.2.2.2.1+(1:Int))),()),())))else none)else none)else(e (.inl ((),())))
theorem aUz(d:Nat)(R:Type)(L:Pat.D HU->Option R)(e:Ah Ml Lr->Option R)(x:Pat.D HU):
  BA (cf [(54,⟨Ck,Cl,p69,f69⟩),(59,⟨CI,CJ,p66,f66⟩)] [(68,7,LoopSpec.of HU bU Ml Lr w376_7)]) (d+2) 68 (Bw Tryz.f68 7) HU bU Ml Lr (R:=R) L e x=Vq p69 f69 p66 f66 L e x:=by kernel_rfl
theorem aFW(p69:BK)(f69:BL)(p66:Cm)(f66:Cn):Bp fun L e x=>Vq p69 f69 p66 f66 L e x:=by intro _ _ _ _ _ _ _ h0 hL he _;unfold Vq;repeat' (first|exact h0|exact hL _|exact he _|apply BT|(apply BU h0;intro _)|(apply BV<;>intro _))
def lL(p69:BK)(f69:BL)(p66:Cm)(f66:Cn)(w376_7:Pat.D HU->Option (Ah Ml Lr))(a0 a1:Aa (.int .i64))(a2:Aa (.slice (.int .u64))):Option (DenS Po):=
 bif(p69 (a0,()))then(bif((f69 (a0,())).2.1 !=(0:Int))then(some (f69 (a0,())).2)
 else bif((decide (a1<(0:Int)))||(decide (a1>(5:Int))))then(some ((3:Int),()))
 else Vx.AY (w376_7 (((a2.length:Int),a2,a0,(0:Int),()),())) fun y3=>
 Vx.A1 y3 (fun y4=>
 some ((0:Int),())) (fun z4=>
 some z4.1))
 else none
theorem aSn(x:DenS NQ):run (cf [(54,⟨Ck,Cl,p69,f69⟩),(59,⟨CI,CJ,p66,f66⟩)] [(68,7,LoopSpec.of HU bU Ml Lr w376_7)]) 9 68 Tryz.f68 NQ Po x=lL p69 f69 p66 f66 w376_7 x.1 x.2.1 x.2.2.1:=by kernel_rfl
def dZ:HU.D->Option (Ah Ml Lr):=Bf fun L=>Vq Aq.pre Aq.F Ar.pre Ar.F L some
def T6(x:DenS NQ):Option (DenS Po):=lL Aq.pre Aq.F Ar.pre Ar.F dZ x.1 x.2.1 x.2.2.1
def QA:Sum:=Aj NQ Po T6 (DenS.dflt Po)
theorem aJp:Sound Tryz.prog G1 68 QA:=sd (cf [(54,Aq),(59,Ar)] [(68,7,LoopSpec.of HU bU Ml Lr dZ)]) 68 Tryz.f68 ⟨Em,Gl,trivial⟩ ⟨rfl,fun d=>BR (fun L e x=>Vq Aq.pre Aq.F Ar.pre Ar.F L e x) (aFW Aq.pre Aq.F Ar.pre Ar.F) (fun _ _ _ _=>aUz ..),trivial⟩ NQ Po T6 _ (fun _=>aSn ..)
abbrev aA9:=Al NQ
abbrev aCn:=Ak NQ Po
variable (p376:aA9)(f376:aCn)
abbrev NR:Ab:=[(false,.int .i64),(false,.int .u64)]
abbrev Pp:Ab:=[(true,.pair (.bool) (.pair (.bool) (.pair (.bool) (.pair (.bool) (.pair (.bool) (.unit))))))]
def lM(p65:Ep)(f65:Er)(p98:JP)(f98:JT)(a0:Aa (.int .i64))(a1:Aa (.int .u64)):Option (DenS Pp):=bif(p65 (a0,a1,()))then(bif(p98 (a0,a1,()))then(some (((((f65 (a0,a1,())).1==(1:Int))||((f65 (a0,a1,())).1==(0:Int))),((f65 (a0,a1,())).1==(0:Int)),(((f65 (a0,a1,())).1==(9:Int))||((f65 (a0,a1,())).1==(2:Int))),(((f65 (a0,a1,())).1==(6:Int))||((f65 (a0,a1,())).1==(5:Int))),(f98 (a0,a1,())).1,()),()))else none)else none
theorem aSo(x:DenS NR):run (cf [(55,⟨DM,DN,p65,f65⟩),(119,⟨Fj,Fv,p98,f98⟩)] []) 9 69 Tryz.f69 NR Pp x=lM p65 f65 p98 f98 x.1 x.2.1:=by kernel_rfl
def XE(x:DenS NR):Option (DenS Pp):=lM AD.pre AD.F Br.pre Br.F x.1 x.2.1
def QB:Sum:=Aj NR Pp XE (DenS.dflt Pp)
theorem aJq:Sound Tryz.prog G1 69 QB:=sd (cf [(55,AD),(119,Br)] []) 69 Tryz.f69 ⟨H3,R3,trivial⟩ trivial NR Pp XE _ (fun _=>aSo ..)
abbrev aBa:=Al NR
abbrev aCo:=Ak NR Pp
variable (p377:aBa)(f377:aCo)
abbrev NS:Ab:=[(false,.int .i64),(false,.int .i64)]
abbrev Pq:Ab:=[(false,.int .u64),(false,.int .i64),(false,.int .i64)]
def lN(p70:Ec)(f70:Ed)(a0 a1:Aa (.int .i64)):Option (DenS Pq):=bif(p70 (a0,()))then(some ((f70 (a0,())).1,a1,(f70 (a0,())).2))else none
theorem aSp(x:DenS NS):run (cf [(56,⟨DE,DF,p70,f70⟩)] []) 9 70 Tryz.f70 NS Pq x=lN p70 f70 x.1 x.2.1:=by kernel_rfl
def XF(x:DenS NS):Option (DenS Pq):=lN AB.pre AB.F x.1 x.2.1
def QC:Sum:=Aj NS Pq XF (DenS.dflt Pq)
theorem aJr:Sound Tryz.prog G1 70 QC:=sd (cf [(56,AB)] []) 70 Tryz.f70 ⟨GY,trivial⟩ trivial NS Pq XF _ (fun _=>aSp ..)
abbrev aBb:=Al NS
abbrev aCp:=Ak NS Pq
variable (p378:aBb)(f378:aCp)
abbrev GC:Ab:=[(false,.int .i64),(false,.int .u64)]
abbrev GJ:Ab:=[(true,.pair (.bool) (.pair (.slice (.int .u64)) (.pair (.int .i64) (.unit)))),(false,.int .i64)]
def Wf(p66:Cm)(f66:Cn)(p90:YU)(f90:Y2)(p91:H7)(f91:Ia)(p92:JO)(f92:JS)(a0:Aa (.int .i64))(a1:Aa (.int .u64)):Option (DenS GJ):=let e10_:=(Vx.k_rows.getD (aj a0) ((0:Int),(0:Int),(0:Int),(0:Int),()));let e9_:=(f90 (e10_,a1,()));let e8_:=(A7 .u64 e9_.2.2.1 (AQ .u64 (1:Int) (aa .i64 (e10_.2.1-(1:Int)))));let e1_:=(f92 (e8_,()));let e2_:=e8_;let e3_:=((aa .i64 (e10_.1-e10_.2.1)),());let e4_:=(f92 e9_.2.2);let e5_:=e9_;let e6_:=e10_;let e7_:=((false,[],(0:Int),()),(0:Int),());bif(p66 (a0,a1,()))then(bif((f66 (a0,a1,())).1 !=(0:Int))then(some ((false,[],(0:Int),()),(f66 (a0,a1,()))))else bif(bif(decide ((0:Int)<=a0))then(decide (a0<((4:Nat):Int)))else false)then(bif(p90 (e6_,a1,()))then(bif(p91 e3_)then(bif(e5_.2.1==(f91 e3_).1)then(some ((false,[],(0:Int),()),(40:Int),()))else bif(e5_.2.1==(0:Int))then(bif(e5_.2.2.1==(0:Int))then(some e7_)else bif(p92 e5_.2.2)then(bif(decide ((0:Int)<=e4_.1))then(some ((e5_.1,((AJ .u64 e5_.2.2.1 e4_.1)::[]),(aa .i64 ((aa .i64 ((aa .i64 ((aa .i64 ((aa .i64 ((aa .i64 (1:Int))-(1:Int)))+e6_.2.2.1))-e6_.2.1))+(1:Int)))+e4_.1)),()),(0:Int),()))else none)else none)else bif(decide ((0:Int)<=(aa .i64 (e6_.2.1-(1:Int)))))then(bif(e2_==(0:Int))then(some e7_)else bif(p92 (e2_,()))then(bif(decide ((0:Int)<=e1_.1))then(some ((e5_.1,((AJ .u64 e2_ e1_.1)::[]),(aa .i64 ((aa .i64 ((aa .i64 ((aa .i64 ((aa .i64 ((aa .i64 e5_.2.1)-(1:Int)))+e6_.2.2.1))-e6_.2.1))+(1:Int)))+e1_.1)),()),(0:Int),()))else none)else none)else none)else none)else none)else none)else none
theorem r40(x:DenS GC):run (cf [(59,⟨CI,CJ,p66,f66⟩),(111,⟨I2,Jr,p90,f90⟩),(112,⟨EE,EH,p91,f91⟩),(127,⟨GF,GM,p92,f92⟩)] []) 9 71 Tryz.f71 GC GJ x=Wf p66 f66 p90 f90 p91 f91 p92 f92 x.1 x.2.1:=by kernel_rfl
def Sg(x:DenS GC):Option (DenS GJ):=Wf Ar.pre Ar.F Do.pre Do.F Bq.pre Bq.F BG.pre BG.F x.1 x.2.1
def Cy:Sum:=Aj GC GJ Sg (DenS.dflt GJ)
theorem WO:Sound Tryz.prog G1 71 Cy:=sd (cf [(59,Ar),(111,Do),(112,Bq),(127,BG)] []) 71 Tryz.f71 ⟨Gl,o7,LU,o8,trivial⟩ trivial GC GJ Sg _ (fun _=>r40 ..)
abbrev Re:=Al GC
abbrev Ri:=Ak GC GJ
variable (p40:Re)(f40:Ri)
abbrev IH:Ab:=[(false,.slice (.int .u64))]
abbrev I6:Ab:=[(true,.slice (.int .u64))]
def jQ(p173:A5)(f173:A6)(a0:Aa (.slice (.int .u64))):Option (DenS I6):=let e1_:=(ax (aj ((f173 (a0,())).1.length:Int)) (0:Int));bif(p173 (a0,()))then(bif((decide ((0:Int)<=((f173 (a0,())).1.length:Int)))&&(decide ((((f173 (a0,())).1.length:Int)*(8:Int))<=(140737488355328:Int))))then(some ((((f173 (a0,())).1.take e1_.length)++(e1_.drop (f173 (a0,())).1.length)),()))else none)else none
theorem aRf(x:DenS IH):run ({cf [(169,⟨Bu,Bv,p173,f173⟩)] []with keep:=true}) 9 168 Tryz.f168 IH I6 x=jQ p173 f173 x.1:=by kernel_rfl
def R8(x:DenS IH):Option (DenS I6):=jQ Af.pre Af.F x.1
def Dt:Sum:=Aj IH I6 R8 (DenS.dflt I6)
theorem xT:Sound Tryz.prog G1 168 Dt:=sd ({cf [(169,Af)] []with keep:=true}) 168 Tryz.f168 ⟨D6,trivial⟩ trivial IH I6 R8 _ (fun _=>aRf ..)
abbrev YO:=Al IH
abbrev YW:=Ak IH I6
variable (p1146:YO)(f1146:YW)
abbrev GB:Ab:=[(false,.int .u64)]
abbrev GI:Ab:=[(false,.int .i64)]
def lC(p178:H6)(f178:H9)(a0:Aa (.int .u64)):Option (DenS GI):=bif(p178 (a0,()))then(some ((aa .i64 ((64:Int)-(f178 (a0,())).1)),()))else none
theorem aR9(x:DenS GB):run (cf [(83,⟨F3,Ft,p178,f178⟩)] []) 9 304 Tryz.f304 GB GI x=lC p178 f178 x.1:=by kernel_rfl
def Xt(x:DenS GB):Option (DenS GI):=lC Bx.pre Bx.F x.1
def BB:Sum:=Aj GB GI Xt (DenS.dflt GI)
theorem yC:Sound Tryz.prog G1 304 BB:=sd (cf [(83,Bx)] []) 304 Tryz.f304 ⟨WM,trivial⟩ trivial GB GI Xt _ (fun _=>aR9 ..)
abbrev Mt:=Al GB
abbrev Mv:=Ak GB GI
variable (p327:Mt)(f327:Mv)
abbrev ED:Ab:=[(false,.int .u64),(false,.int .u64),(false,.int .u64)]
abbrev EG:Ab:=[(false,.int .u64),(false,.int .u64)]
abbrev GR:Pat:=⟨135,[(16,.one (.v .u64)),(11,.one (.v .u64)),(13,.one (.v .u64)),(10,.one (.v .u64)),(9,.one (.v .u64)),(15,.one (.v .u64)),(14,.one (.v .u64)),(2,.one (.v .u64)),(8,.one (.v .u64))],[]⟩
abbrev Wz:List (Nat×Shape):=[]
abbrev JG:List (Nat×Pat):=[(0,⟨135,[(11,.one (.v .u64)),(13,.one (.v .u64)),(10,.one (.v .u64)),(9,.one (.v .u64)),(15,.one (.v .u64)),(14,.one (.v .u64)),(2,.one (.v .u64)),(8,.one (.v .u64))],[]⟩)]
abbrev Jt:Option Pat:=none
abbrev GS:Pat:=⟨135,[(10,.one (.v .u64)),(16,.one (.v .u64)),(9,.one (.v .u64)),(15,.one (.v .u64)),(17,.one (.v .u64)),(14,.one (.v .u64)),(18,.one (.v .u64)),(2,.one (.v .u64)),(8,.one (.v .u64))],[]⟩
abbrev WA:List (Nat×Shape):=[]
abbrev JH:List (Nat×Pat):=[(2,⟨135,[(15,.one (.v .u64)),(17,.one (.v .u64)),(14,.one (.v .u64)),(18,.one (.v .u64)),(2,.one (.v .u64)),(8,.one (.v .u64))],[]⟩)]
abbrev Ju:Option Pat:=none
variable (w328_17:Pat.D GR->Option (Ah JG Jt))(w328_24:Pat.D GS->Option (Ah JH Ju))
def Vk(p327:Mt)(f327:Mv){R:Type}(L:Pat.D GS->Option R)(e:Ah JH Ju->Option R)(x:Pat.D GS):Option R:=let e1_:=(x.1.2.2.2.1,x.1.2.2.2.2.1,x.1.2.2.2.2.2.1,(aa .u64 (x.1.2.2.2.2.2.2.1-(1:Int))),x.1.2.2.2.2.2.2.2);let e2_:=(aa .u64 (x.1.2.1+x.1.2.2.1));bif((decide (x.1.2.2.2.2.2.2.1>=(4294967296:Int)))||(decide ((aa .u64 (x.1.2.2.2.2.2.2.1*x.1.1))>(aa .u64 ((aa .u64 ((4294967296:Int)*x.1.2.1))+x.1.2.2.2.2.2.1)))))then(bif(decide (e2_>=(4294967296:Int)))then(((e (.inl (e1_,())))))else(L ((x.1.1,e2_,x.1.2.2.1,e1_),())))else(e (.inl (x.1.2.2.2,())))
theorem aUs(d:Nat)(R:Type)(L:Pat.D GS->Option R)(e:Ah JH Ju->Option R)(x:Pat.D GS):
  BA (cf [(304,⟨GB,GI,p327,f327⟩)] [(264,17,LoopSpec.of GR Wz JG Jt w328_17),(264,24,LoopSpec.of GS WA JH Ju w328_24)]) (d+2) 264 (Bw Tryz.f264 24) GS WA JH Ju (R:=R) L e x=Vk p327 f327 L e x:=by kernel_rfl
theorem aFQ(p327:Mt)(f327:Mv):Bp fun L e x=>Vk p327 f327 L e x:=by intro _ _ _ _ _ _ _ h0 hL he _;unfold Vk;repeat' (first|exact h0|exact hL _|exact he _|apply BT|(apply BU h0;intro _)|(apply BV<;>intro _))
def Vj(p327:Mt)(f327:Mv){R:Type}(L:Pat.D GR->Option R)(e:Ah JG Jt->Option R)(x:Pat.D GR):Option R:=let e1_:=(x.1.2.1,x.1.2.2.1,x.1.2.2.2.1,x.1.2.2.2.2.1,(aa .u64 (x.1.2.2.2.2.2.1-(1:Int))),x.1.2.2.2.2.2.2);let e2_:=(aa .u64 (x.1.1+x.1.2.2.2.2.1));bif((decide (x.1.2.2.2.2.2.1>=(4294967296:Int)))||(decide ((aa .u64 (x.1.2.2.2.2.2.1*x.1.2.2.2.1))>(aa .u64 ((aa .u64 ((4294967296:Int)*x.1.1))+x.1.2.2.1)))))then(bif(decide (e2_>=(4294967296:Int)))then(((e (.inl (e1_,())))))else(L ((e2_,e1_),())))else(e (.inl (x.1.2,())))
theorem aUr(d:Nat)(R:Type)(L:Pat.D GR->Option R)(e:Ah JG Jt->Option R)(x:Pat.D GR):
  BA (cf [(304,⟨GB,GI,p327,f327⟩)] [(264,17,LoopSpec.of GR Wz JG Jt w328_17),(264,24,LoopSpec.of GS WA JH Ju w328_24)]) (d+2) 264 (Bw Tryz.f264 17) GR Wz JG Jt (R:=R) L e x=Vj p327 f327 L e x:=by kernel_rfl
theorem aFP(p327:Mt)(f327:Mv):Bp fun L e x=>Vj p327 f327 L e x:=by intro _ _ _ _ _ _ _ h0 hL he _;unfold Vj;repeat' (first|exact h0|exact hL _|exact he _|apply BT|(apply BU h0;intro _)|(apply BV<;>intro _))
def lD(p327:Mt)(f327:Mv)(w328_17:Pat.D GR->Option (Ah JG Jt))(w328_24:Pat.D GS->Option (Ah JH Ju))(a0 a1 a2:Aa (.int .u64)):Option (DenS EG):=
 let e9_:=(aa .u64 (f327 (a2,())).1)
 let e6_:=(A7 .u64 (AQ .u64 a0 e9_) (AJ .u64 a1 (aa .u64 ((64:Int)-e9_))))
 let e8_:=(AQ .u64 a2 e9_)
 let e7_:=(AJ .u64 e8_ (32:Int))
 let e1_:=(BC .u64 e6_ e7_)
 let e2_:=e6_
 let e3_:=e7_
 let e4_:=(AQ .u64 a1 e9_)
 let e5_:=e8_
 bif(a2==(0:Int))then((none))
 else bif(decide (a2<=a0))then((none))
 else bif(a0==(0:Int))then(bif(a2 !=(0:Int))then(bif(a2 !=(0:Int))then(some ((BC .u64 a1 a2),(jp a1 a2),()))
 else none)
 else none)
 else bif(p327 (a2,()))then(bif(e3_ !=(0:Int))then(Vx.AY (w328_17 (((aa .u64 (e2_-(aa .u64 (e1_*e3_)))),e2_,(AJ .u64 e4_ (32:Int)),(A9 .u64 e5_ (4294967295:Int)),e3_,e1_,(A9 .u64 e4_ (4294967295:Int)),e5_,e9_,()),())) fun y5=>
 Vx.A1 y5 (fun y6=>
 bif(y6.1.2.2.2.1 !=(0:Int))then(Vx.AY (w328_24 ((y6.1.2.2.1,(aa .u64 ((aa .u64 ((aa .u64 ((aa .u64 (y6.1.1*(4294967296:Int)))+y6.1.2.1))-(aa .u64 (y6.1.2.2.2.2.1*y6.1.2.2.2.2.2.2.1))))-(aa .u64 ((BC .u64 (aa .u64 ((aa .u64 ((aa .u64 (y6.1.1*(4294967296:Int)))+y6.1.2.1))-(aa .u64 (y6.1.2.2.2.2.1*y6.1.2.2.2.2.2.2.1)))) y6.1.2.2.2.1)*y6.1.2.2.2.1)))),y6.1.2.2.2.1,y6.1.2.2.2.2.1,(aa .u64 ((aa .u64 ((aa .u64 (y6.1.1*(4294967296:Int)))+y6.1.2.1))-(aa .u64 (y6.1.2.2.2.2.1*y6.1.2.2.2.2.2.2.1)))),y6.1.2.2.2.2.2.1,(BC .u64 (aa .u64 ((aa .u64 ((aa .u64 (y6.1.1*(4294967296:Int)))+y6.1.2.1))-(aa .u64 (y6.1.2.2.2.2.1*y6.1.2.2.2.2.2.2.1)))) y6.1.2.2.2.1),y6.1.2.2.2.2.2.2),())) fun y8=>
 Vx.A1 y8 (fun y9=>
 some ((aa .u64 ((aa .u64 (y9.1.1*(4294967296:Int)))+y9.1.2.2.2.1)),(AJ .u64 (aa .u64 ((aa .u64 ((aa .u64 (y9.1.2.1*(4294967296:Int)))+y9.1.2.2.1))-(aa .u64 (y9.1.2.2.2.1*y9.1.2.2.2.2.1)))) y9.1.2.2.2.2.2.1),())) (fun z9=>
 none))
 else none) (fun z6=>
 none))
 else none)
 else none
theorem aSa(x:DenS ED):run (cf [(304,⟨GB,GI,p327,f327⟩)] [(264,17,LoopSpec.of GR Wz JG Jt w328_17),(264,24,LoopSpec.of GS WA JH Ju w328_24)]) 9 264 Tryz.f264 ED EG x=lD p327 f327 w328_17 w328_24 x.1 x.2.1 x.2.2.1:=by kernel_rfl
def dV:GS.D->Option (Ah JH Ju):=Bf fun L=>Vk BB.pre BB.F L some
def dU:GR.D->Option (Ah JG Jt):=Bf fun L=>Vj BB.pre BB.F L some
def Xu(x:DenS ED):Option (DenS EG):=lD BB.pre BB.F dU dV x.1 x.2.1 x.2.2.1
def AP:Sum:=Aj ED EG Xu (DenS.dflt EG)
theorem cU:Sound Tryz.prog G1 264 AP:=sd (cf [(304,BB)] [(264,17,LoopSpec.of GR Wz JG Jt dU),(264,24,LoopSpec.of GS WA JH Ju dV)]) 264 Tryz.f264 ⟨yC,trivial⟩ ⟨rfl,fun d=>BR (fun L e x=>Vj BB.pre BB.F L e x) (aFP BB.pre BB.F) (fun _ _ _ _=>aUr ..),⟨rfl,fun d=>BR (fun L e x=>Vk BB.pre BB.F L e x) (aFQ BB.pre BB.F) (fun _ _ _ _=>aUs ..),trivial⟩⟩ ED EG Xu _ (fun _=>aSa ..)
abbrev ES:=Al ED
abbrev EU:=Ak ED EG
variable (p328:ES)(f328:EU)
abbrev Kn:Ab:=[(true,.slice (.int .u64)),(false,.int .u64)]
abbrev KM:Ab:=[(false,.slice (.int .u64)),(false,.int .u64)]
abbrev Gb:Pat:=⟨31,[(1,.one (.v .u64)),(7,.one (.v .i64)),(0,.one (.own 0)),(6,.one (.v .u64))],[.arr (.int .u64)]⟩
abbrev bE:List (Nat×Shape):=[]
abbrev L5:List (Nat×Pat):=[(0,⟨31,[(0,.one (.own 0)),(6,.one (.v .u64))],[.arr (.int .u64)]⟩)]
abbrev Lb:Option Pat:=none
variable (w1329_3:Pat.D Gb->Option (Ah L5 Lb))
def U6(p328:ES)(f328:EU)(p173:A5)(f173:A6){R:Type}(L:Pat.D Gb->Option R)(e:Ah L5 Lb->Option R)(x:Pat.D Gb):Option R:=let e3_:=(x.1.2.2.2.1,(x.2.1.getD (aj x.1.2.1) (0:Int)),x.1.1,());let e1_:=(f328 e3_);let e2_:=((decide ((0:Int)<=x.1.2.1))&&(decide (x.1.2.1<(x.2.1.length:Int))));bif(decide (x.1.2.1>=(0:Int)))then(bif e2_ then(bif(p328 e3_)then(bif e2_ then(((L ((x.1.1,(aa .i64 (x.1.2.1-(1:Int))),(),e1_.2),(x.2.1.set (aj x.1.2.1) e1_.1),()))))else none)else none)else none)else(e (.inl (((),x.1.2.2.2),x.2)))
theorem aUd(d:Nat)(R:Type)(L:Pat.D Gb->Option R)(e:Ah L5 Lb->Option R)(x:Pat.D Gb):
  BA ({cf [(264,⟨ED,EG,p328,f328⟩),(169,⟨Bu,Bv,p173,f173⟩)] [(303,3,LoopSpec.of Gb bE L5 Lb w1329_3)]with keep:=true}) (d+2) 303 (Bw Tryz.f303 3) Gb bE L5 Lb (R:=R) L e x=U6 p328 f328 p173 f173 L e x:=by kernel_rfl
theorem aFC(p328:ES)(f328:EU)(p173:A5)(f173:A6):Bp fun L e x=>U6 p328 f328 p173 f173 L e x:=by intro _ _ _ _ _ _ _ h0 hL he _;unfold U6;repeat' (first|exact h0|exact hL _|exact he _|apply BT|(apply BU h0;intro _)|(apply BV<;>intro _))
def j1(p328:ES)(f328:EU)(p173:A5)(f173:A6)(w1329_3:Pat.D Gb->Option (Ah L5 Lb))(a0:Aa (.slice (.int .u64)))(a1:Aa (.int .u64)):Option (DenS KM):=
 Vx.AY (w1329_3 ((a1,(aa .i64 ((a0.length:Int)-(1:Int))),(),(0:Int),()),a0,())) fun y0=>
 Vx.A1 y0 (fun y1=>
 bif(p173 y1.2)then(some ((f173 y1.2).1,y1.1.2))
 else none) (fun z1=>
 none)
theorem aRt(x:DenS Kn):run ({cf [(264,⟨ED,EG,p328,f328⟩),(169,⟨Bu,Bv,p173,f173⟩)] [(303,3,LoopSpec.of Gb bE L5 Lb w1329_3)]with keep:=true}) 9 303 Tryz.f303 Kn KM x=j1 p328 f328 p173 f173 w1329_3 x.1 x.2.1:=by kernel_rfl
def YE:Gb.D->Option (Ah L5 Lb):=Bf fun L=>U6 AP.pre AP.F Af.pre Af.F L some
def W5(x:DenS Kn):Option (DenS KM):=j1 AP.pre AP.F Af.pre Af.F YE x.1 x.2.1
def EK:Sum:=Aj Kn KM W5 (DenS.dflt KM)
theorem aIT:Sound Tryz.prog G1 303 EK:=sd ({cf [(264,AP),(169,Af)] [(303,3,LoopSpec.of Gb bE L5 Lb YE)]with keep:=true}) 303 Tryz.f303 ⟨cU,D6,trivial⟩ ⟨rfl,fun d=>BR (fun L e x=>U6 AP.pre AP.F Af.pre Af.F L e x) (aFC AP.pre AP.F Af.pre Af.F) (fun _ _ _ _=>aUd ..),trivial⟩ Kn KM W5 _ (fun _=>aRt ..)
abbrev eI:=Al Kn
abbrev fB:=Ak Kn KM
variable (p1329:eI)(f1329:fB)
abbrev F0:Ab:=[(false,.slice (.int .u64)),(false,.slice (.int .u64))]
abbrev F7:Ab:=[(false,.int .i64)]
abbrev HJ:Pat:=⟨49,[(0,.one (.sl (.int .u64))),(1,.one (.sl (.int .u64))),(5,.one (.v .i64))],[]⟩
abbrev bG:List (Nat×Shape):=[]
abbrev L7:List (Nat×Pat):=[(1,⟨49,[],[]⟩)]
abbrev Ld:Option Pat:=(some ⟨49,[(4,.one (.v .i64))],[]⟩)
variable (w144_7:Pat.D HJ->Option (Ah L7 Ld))
def U8(p173:A5)(f173:A6){R:Type}(L:Pat.D HJ->Option R)(e:Ah L7 Ld->Option R)(x:Pat.D HJ):Option R:=let e1_:=((decide ((0:Int)<=x.1.2.2.1))&&(decide (x.1.2.2.1<(x.1.2.1.length:Int))));let e2_:=((decide ((0:Int)<=x.1.2.2.1))&&(decide (x.1.2.2.1<(x.1.1.length:Int))));let e3_:=(x.1.2.1.getD (aj x.1.2.2.1) (0:Int));bif(decide (x.1.2.2.1>=(0:Int)))then(bif e2_ then(bif e1_ then(bif(decide ((x.1.1.getD (aj x.1.2.2.1) (0:Int))<e3_))then(((e (.inr (((-(1:Int)),()),())))))else bif e2_ then(bif e1_ then(bif(decide ((x.1.1.getD (aj x.1.2.2.1) (0:Int))>e3_))then(((e (.inr (((1:Int),()),())))))else(L ((x.1.1,x.1.2.1,(aa .i64 (x.1.2.2.1-(1:Int))),()),())))else none)else none)else none)else none)else(e (.inl ((),())))
theorem aUf(d:Nat)(R:Type)(L:Pat.D HJ->Option R)(e:Ah L7 Ld->Option R)(x:Pat.D HJ):
  BA (cf [(169,⟨Bu,Bv,p173,f173⟩)] [(177,7,LoopSpec.of HJ bG L7 Ld w144_7)]) (d+2) 177 (Bw Tryz.f177 7) HJ bG L7 Ld (R:=R) L e x=U8 p173 f173 L e x:=by kernel_rfl
theorem aFE(p173:A5)(f173:A6):Bp fun L e x=>U8 p173 f173 L e x:=by intro _ _ _ _ _ _ _ h0 hL he _;unfold U8;repeat' (first|exact h0|exact hL _|exact he _|apply BT|(apply BU h0;intro _)|(apply BV<;>intro _))
def j7(p173:A5)(f173:A6)(w144_7:Pat.D HJ->Option (Ah L7 Ld))(a0 a1:Aa (.slice (.int .u64))):Option (DenS F7):=
 bif(p173 (a0,()))then(bif(p173 (a1,()))then(bif(decide (((f173 (a0,())).1.length:Int)<((f173 (a1,())).1.length:Int)))then(some ((-(1:Int)),()))
 else bif(decide (((f173 (a0,())).1.length:Int)>((f173 (a1,())).1.length:Int)))then(some ((1:Int),()))
 else Vx.AY (w144_7 (((f173 (a0,())).1,(f173 (a1,())).1,(aa .i64 (((f173 (a0,())).1.length:Int)-(1:Int))),()),())) fun y4=>
 Vx.A1 y4 (fun y5=>
 some ((0:Int),())) (fun z5=>
 some z5.1))
 else none)
 else none
theorem aRz(x:DenS F0):run (cf [(169,⟨Bu,Bv,p173,f173⟩)] [(177,7,LoopSpec.of HJ bG L7 Ld w144_7)]) 9 177 Tryz.f177 F0 F7 x=j7 p173 f173 w144_7 x.1 x.2.1:=by kernel_rfl
def dN:HJ.D->Option (Ah L7 Ld):=Bf fun L=>U8 Af.pre Af.F L some
def W7(x:DenS F0):Option (DenS F7):=j7 Af.pre Af.F dN x.1 x.2.1
def Bk:Sum:=Aj F0 F7 W7 (DenS.dflt F7)
theorem cQ:Sound Tryz.prog G1 177 Bk:=sd (cf [(169,Af)] [(177,7,LoopSpec.of HJ bG L7 Ld dN)]) 177 Tryz.f177 ⟨D6,trivial⟩ ⟨rfl,fun d=>BR (fun L e x=>U8 Af.pre Af.F L e x) (aFE Af.pre Af.F) (fun _ _ _ _=>aUf ..),trivial⟩ F0 F7 W7 _ (fun _=>aRz ..)
abbrev JN:=Al F0
abbrev JR:=Ak F0 F7
variable (p144:JN)(f144:JR)
abbrev Ks:Ab:=[(false,.slice (.int .u64)),(false,.int .u64)]
abbrev KQ:Ab:=[(false,.slice (.int .u64)),(false,.int .u64)]
abbrev HR:Pat:=⟨31,[(1,.one (.v .u64)),(7,.one (.v .i64)),(0,.one (.sl (.int .u64))),(6,.one (.v .u64))],[]⟩
abbrev bQ:List (Nat×Shape):=[]
abbrev Mh:List (Nat×Pat):=[(0,⟨31,[(0,.one (.sl (.int .u64))),(6,.one (.v .u64))],[]⟩)]
abbrev Ln:Option Pat:=none
variable (w329_3:Pat.D HR->Option (Ah Mh Ln))
def ZL(p328:ES)(f328:EU)(p173:A5)(f173:A6){R:Type}(L:Pat.D HR->Option R)(e:Ah Mh Ln->Option R)(x:Pat.D HR):Option R:=let e1_:=((decide ((0:Int)<=x.1.2.1))&&(decide (x.1.2.1<(x.1.2.2.1.length:Int))));bif(decide (x.1.2.1>=(0:Int)))then(bif e1_ then(bif(p328 (x.1.2.2.2.1,(x.1.2.2.1.getD (aj x.1.2.1) (0:Int)),x.1.1,()))then(bif e1_ then((none))else none)else none)else none)else(e (.inl (x.1.2.2,())))
theorem aUt(d:Nat)(R:Type)(L:Pat.D HR->Option R)(e:Ah Mh Ln->Option R)(x:Pat.D HR):
  BA (cf [(264,⟨ED,EG,p328,f328⟩),(169,⟨Bu,Bv,p173,f173⟩)] [(303,3,LoopSpec.of HR bQ Mh Ln w329_3)]) (d+2) 303 (Bw Tryz.f303 3) HR bQ Mh Ln (R:=R) L e x=ZL p328 f328 p173 f173 L e x:=by kernel_rfl
theorem aOQ(p328:ES)(f328:EU)(p173:A5)(f173:A6):Bp fun L e x=>ZL p328 f328 p173 f173 L e x:=by intro _ _ _ _ _ _ _ h0 hL he _;unfold ZL;repeat' (first|exact h0|exact hL _|exact he _|apply BT|(apply BU h0;intro _)|(apply BV<;>intro _))
def aH0(p328:ES)(f328:EU)(p173:A5)(f173:A6)(w329_3:Pat.D HR->Option (Ah Mh Ln))(a0:Aa (.slice (.int .u64)))(a1:Aa (.int .u64)):Option (DenS KQ):=
 Vx.AY (w329_3 ((a1,(aa .i64 ((a0.length:Int)-(1:Int))),a0,(0:Int),()),())) fun y0=>
 Vx.A1 y0 (fun y1=>
 bif(p173 (y1.1.1,()))then(some ((f173 (y1.1.1,())).1,y1.1.2))
 else none) (fun z1=>
 none)
theorem aSb(x:DenS Ks):run (cf [(264,⟨ED,EG,p328,f328⟩),(169,⟨Bu,Bv,p173,f173⟩)] [(303,3,LoopSpec.of HR bQ Mh Ln w329_3)]) 9 303 Tryz.f303 Ks KQ x=aH0 p328 f328 p173 f173 w329_3 x.1 x.2.1:=by kernel_rfl
def aAv:HR.D->Option (Ah Mh Ln):=Bf fun L=>ZL AP.pre AP.F Af.pre Af.F L some
def zU(x:DenS Ks):Option (DenS KQ):=aH0 AP.pre AP.F Af.pre Af.F aAv x.1 x.2.1
def Fz:Sum:=Aj Ks KQ zU (DenS.dflt KQ)
theorem aJe:Sound Tryz.prog G1 303 Fz:=sd (cf [(264,AP),(169,Af)] [(303,3,LoopSpec.of HR bQ Mh Ln aAv)]) 303 Tryz.f303 ⟨cU,D6,trivial⟩ ⟨rfl,fun d=>BR (fun L e x=>ZL AP.pre AP.F Af.pre Af.F L e x) (aOQ AP.pre AP.F Af.pre Af.F) (fun _ _ _ _=>aUt ..),trivial⟩ Ks KQ zU _ (fun _=>aSb ..)
abbrev eM:=Al Ks
abbrev fE:=Ak Ks KQ
variable (p329:eM)(f329:fE)
abbrev IU:Ab:=[(false,.slice (.int .u64)),(false,.int .u64)]
abbrev Jg:Ab:=[(false,.bool)]
abbrev Fk:LK:=.win (.int .u64)
abbrev HS:Pat:=⟨68,[(16,.one (.v .i64)),(15,.one (.sl (.int .u64))),(2,.one (.v .u64)),(17,.one (.v .i64)),(1,.one (.sl (.int .u64))),(0,.one (.sub 0)),(7,.one (.v .u64)),(8,.one (.v .u64))],[.arr (.int .u64)]⟩
abbrev bR:List (Nat×Shape):=[]
abbrev Mi:List (Nat×Pat):=[(0,⟨68,[(1,.one (.sl (.int .u64))),(0,.one (.sub 0)),(7,.one (.v .u64)),(8,.one (.v .u64))],[.arr (.int .u64)]⟩)]
abbrev Lo:Option Pat:=none
variable (w330_3:Pat.D HS->Option (Ah Mi Lo))
def Vl(p315:ER)(f315:ET)(p155:C5)(f155:C6)(p157:G3)(f157:G5){R:Type}(L:Pat.D HS->Option R)(e:Ah Mi Lo->Option R)(x:Pat.D HS):Option R:=let e7_:=(x.2.1.getD (x.1.2.2.2.2.2.1.1+(aj x.1.2.2.2.1)) (0:Int));let e8_:=(x.1.2.2.1,(x.1.2.1.getD (aj x.1.2.2.2.1) (0:Int)),());let e6_:=(f315 e8_);let e5_:=(f155 (e6_.2.1,x.1.2.2.2.2.2.2.1,(0:Int),()));let e1_:=(f157 (e7_,e5_.1,x.1.2.2.2.2.2.2.2));let e2_:=e5_;let e3_:=((decide ((0:Int)<=x.1.2.2.2.1))&&(decide (x.1.2.2.2.1<(x.1.2.2.2.2.2.1.2:Int))));let e4_:=e6_;bif(decide (x.1.2.2.2.1<x.1.1))then(bif((decide ((0:Int)<=x.1.2.2.2.1))&&(decide (x.1.2.2.2.1<(x.1.2.1.length:Int))))then(bif(p315 e8_)then(bif(p155 (e4_.2.1,x.1.2.2.2.2.2.2.1,(0:Int),()))then(bif e3_ then(bif(p157 (e7_,e2_.1,x.1.2.2.2.2.2.2.2))then(bif e3_ then(((L ((x.1.1,x.1.2.1,x.1.2.2.1,(aa .i64 (x.1.2.2.2.1+(1:Int))),x.1.2.2.2.2.1,x.1.2.2.2.2.2.1,(aa .u64 (e4_.1+e2_.2.1)),e1_.2),(x.2.1.set (x.1.2.2.2.2.2.1.1+(aj x.1.2.2.2.1)) e1_.1),()))))else none)else none)else none)else none)else none)else none)else(e (.inl (x.1.2.2.2.2,x.2)))
theorem aUu(d:Nat)(R:Type)(L:Pat.D HS->Option R)(e:Ah Mi Lo->Option R)(x:Pat.D HS):
  BA (cf [(126,⟨EC,EF,p315,f315⟩),(165,⟨E6,Fs,p155,f155⟩),(166,⟨Kq,O0,p157,f157⟩)] [(324,3,LoopSpec.of HS bR Mi Lo w330_3 1)]) (d+2) 324 (Bw Tryz.f324 3) HS bR Mi Lo (R:=R) L e x 1=Vl p315 f315 p155 f155 p157 f157 L e x:=by kernel_rfl
theorem aFR(p315:ER)(f315:ET)(p155:C5)(f155:C6)(p157:G3)(f157:G5):Bp fun L e x=>Vl p315 f315 p155 f155 p157 f157 L e x:=by intro _ _ _ _ _ _ _ h0 hL he _;unfold Vl;repeat' (first|exact h0|exact hL _|exact he _|apply BT|(apply BU h0;intro _)|(apply BV<;>intro _))
def lE(p315:ER)(f315:ET)(p155:C5)(f155:C6)(p157:G3)(f157:G5)(w330_3:Pat.D HS->Option (Ah Mi Lo))(l0:LK.D (.win (.int .u64)))(a0:Aa (.slice (.int .u64)))(a1:Aa (.int .u64)):Option (LK.B Fk×DenS Jg):=
 Vx.AY (w330_3 (((a0.length:Int),a0,a1,(0:Int),a0,l0.2,(0:Int),(0:Int),()),l0.1,())) fun y0=>
 Vx.A1 y0 (fun y1=>
 bif((decide ((0:Int)<=(y1.1.1.length:Int)))&&(decide ((y1.1.1.length:Int)<(y1.1.2.1.2:Int))))then(bif(p157 ((y1.2.1.getD (y1.1.2.1.1+(aj (y1.1.1.length:Int))) (0:Int)),y1.1.2.2))then(bif((decide ((0:Int)<=(y1.1.1.length:Int)))&&(decide ((y1.1.1.length:Int)<(y1.1.2.1.2:Int))))then(some ((y1.2.1.set (y1.1.2.1.1+(aj (y1.1.1.length:Int))) (f157 ((y1.2.1.getD (y1.1.2.1.1+(aj (y1.1.1.length:Int))) (0:Int)),y1.1.2.2)).1),((f157 ((y1.2.1.getD (y1.1.2.1.1+(aj (y1.1.1.length:Int))) (0:Int)),y1.1.2.2)).2.1 !=(0:Int)),()))
 else none)
 else none)
 else none) (fun z1=>
 none)
theorem aSc(x:LK.D Fk×DenS IU):Iy (cf [(126,⟨EC,EF,p315,f315⟩),(165,⟨E6,Fs,p155,f155⟩),(166,⟨Kq,O0,p157,f157⟩)] [(324,3,LoopSpec.of HS bR Mi Lo w330_3 1)]) 9 324 Tryz.f324 Fk IU Jg x=lE p315 f315 p155 f155 p157 f157 w330_3 x.1 x.2.1 x.2.2.1:=by kernel_rfl
def dW:HS.D->Option (Ah Mi Lo):=Bf fun L=>Vl AO.pre AO.F Ay.pre Ay.F A4.pre A4.F L some
def Xv(x:LK.D Fk×DenS IU):Option (LK.B Fk×DenS Jg):=lE AO.pre AO.F Ay.pre Ay.F A4.pre A4.F dW x.1 x.2.1 x.2.2.1
def Cp:SumL:=Iz Fk IU Jg Xv (LK.dflt Fk,DenS.dflt Jg)
theorem aJf:SoundL Tryz.prog G1 324 Cp:=V5 (cf [(126,AO),(165,Ay),(166,A4)] [(324,3,LoopSpec.of HS bR Mi Lo dW 1)]) 324 Tryz.f324 ⟨cT,TL,cS,trivial⟩ ⟨rfl,fun d=>BR (fun L e x=>Vl AO.pre AO.F Ay.pre Ay.F A4.pre A4.F L e x) (aFR AO.pre AO.F Ay.pre Ay.F A4.pre A4.F) (fun _ _ _ _=>aUu ..),trivial⟩ Fk IU Jg Xv _ (fun _=>aSc ..)
abbrev Ur:=LK.D Fk×DenS IU->Bool
abbrev UD:=LK.D Fk×DenS IU->LK.B Fk×DenS Jg
variable (p330:Ur)(f330:UD)
abbrev IV:Ab:=[(false,.slice (.int .u64))]
abbrev Jh:Ab:=[(false,.bool)]
abbrev Fl:LK:=.win (.int .u64)
abbrev HT:Pat:=⟨46,[(10,.one (.v .i64)),(9,.one (.sl (.int .u64))),(11,.one (.v .i64)),(1,.one (.sl (.int .u64))),(0,.one (.sub 0)),(5,.one (.v .u64))],[.arr (.int .u64)]⟩
abbrev bS:List (Nat×Shape):=[]
abbrev Mj:List (Nat×Pat):=[(0,⟨46,[(1,.one (.sl (.int .u64))),(0,.one (.sub 0)),(5,.one (.v .u64))],[.arr (.int .u64)]⟩)]
abbrev Lp:Option Pat:=none
variable (w331_3:Pat.D HT->Option (Ah Mj Lp))
def Vm(p155:C5)(f155:C6){R:Type}(L:Pat.D HT->Option R)(e:Ah Mj Lp->Option R)(x:Pat.D HT):Option R:=let e3_:=((x.2.1.getD (x.1.2.2.2.2.1.1+(aj x.1.2.2.1)) (0:Int)),(x.1.2.1.getD (aj x.1.2.2.1) (0:Int)),x.1.2.2.2.2.2);let e1_:=(f155 e3_);let e2_:=((decide ((0:Int)<=x.1.2.2.1))&&(decide (x.1.2.2.1<(x.1.2.2.2.2.1.2:Int))));bif(decide (x.1.2.2.1<x.1.1))then(bif((decide ((0:Int)<=x.1.2.2.1))&&(decide (x.1.2.2.1<(x.1.2.1.length:Int))))then(bif e2_ then(bif(p155 e3_)then(bif e2_ then(((L ((x.1.1,x.1.2.1,(aa .i64 (x.1.2.2.1+(1:Int))),x.1.2.2.2.1,x.1.2.2.2.2.1,e1_.2),(x.2.1.set (x.1.2.2.2.2.1.1+(aj x.1.2.2.1)) e1_.1),()))))else none)else none)else none)else none)else(e (.inl (x.1.2.2.2,x.2)))
theorem aUv(d:Nat)(R:Type)(L:Pat.D HT->Option R)(e:Ah Mj Lp->Option R)(x:Pat.D HT):
  BA (cf [(165,⟨E6,Fs,p155,f155⟩)] [(325,3,LoopSpec.of HT bS Mj Lp w331_3 1)]) (d+2) 325 (Bw Tryz.f325 3) HT bS Mj Lp (R:=R) L e x 1=Vm p155 f155 L e x:=by kernel_rfl
theorem aFS(p155:C5)(f155:C6):Bp fun L e x=>Vm p155 f155 L e x:=by intro _ _ _ _ _ _ _ h0 hL he _;unfold Vm;repeat' (first|exact h0|exact hL _|exact he _|apply BT|(apply BU h0;intro _)|(apply BV<;>intro _))
def lF(p155:C5)(f155:C6)(w331_3:Pat.D HT->Option (Ah Mj Lp))(l0:LK.D (.win (.int .u64)))(a0:Aa (.slice (.int .u64))):Option (LK.B Fl×DenS Jh):=
 Vx.AY (w331_3 (((a0.length:Int),a0,(0:Int),a0,l0.2,(0:Int),()),l0.1,())) fun y0=>
 Vx.A1 y0 (fun y1=>
 bif((decide ((0:Int)<=(y1.1.1.length:Int)))&&(decide ((y1.1.1.length:Int)<(y1.1.2.1.2:Int))))then(bif(p155 ((y1.2.1.getD (y1.1.2.1.1+(aj (y1.1.1.length:Int))) (0:Int)),(0:Int),y1.1.2.2))then(bif((decide ((0:Int)<=(y1.1.1.length:Int)))&&(decide ((y1.1.1.length:Int)<(y1.1.2.1.2:Int))))then(some ((y1.2.1.set (y1.1.2.1.1+(aj (y1.1.1.length:Int))) (f155 ((y1.2.1.getD (y1.1.2.1.1+(aj (y1.1.1.length:Int))) (0:Int)),(0:Int),y1.1.2.2)).1),((f155 ((y1.2.1.getD (y1.1.2.1.1+(aj (y1.1.1.length:Int))) (0:Int)),(0:Int),y1.1.2.2)).2.1 !=(0:Int)),()))
 else none)
 else none)
 else none) (fun z1=>
 none)
theorem aSd(x:LK.D Fl×DenS IV):Iy (cf [(165,⟨E6,Fs,p155,f155⟩)] [(325,3,LoopSpec.of HT bS Mj Lp w331_3 1)]) 9 325 Tryz.f325 Fl IV Jh x=lF p155 f155 w331_3 x.1 x.2.1:=by kernel_rfl
def dX:HT.D->Option (Ah Mj Lp):=Bf fun L=>Vm Ay.pre Ay.F L some
def Xw(x:LK.D Fl×DenS IV):Option (LK.B Fl×DenS Jh):=lF Ay.pre Ay.F dX x.1 x.2.1
def C2:SumL:=Iz Fl IV Jh Xw (LK.dflt Fl,DenS.dflt Jh)
theorem aJg:SoundL Tryz.prog G1 325 C2:=V5 (cf [(165,Ay)] [(325,3,LoopSpec.of HT bS Mj Lp dX 1)]) 325 Tryz.f325 ⟨TL,trivial⟩ ⟨rfl,fun d=>BR (fun L e x=>Vm Ay.pre Ay.F L e x) (aFS Ay.pre Ay.F) (fun _ _ _ _=>aUv ..),trivial⟩ Fl IV Jh Xw _ (fun _=>aSd ..)
abbrev Us:=LK.D Fl×DenS IV->Bool
abbrev UE:=LK.D Fl×DenS IV->LK.B Fl×DenS Jh
variable (p331:Us)(f331:UE)
abbrev Kt:Ab:=[(false,.slice (.int .u64))]
abbrev Ji:Ab:=[(false,.int .u64)]
abbrev Fo:LK:=.win (.int .u64)
abbrev Gd:Pat:=⟨92,[(6,.one (.v .u64)),(7,.one (.v .u64)),(5,.one (.v .i64)),(0,.one (.sub 0)),(1,.one (.sl (.int .u64)))],[.arr (.int .u64)]⟩
abbrev WC:List (Nat×Shape):=[]
abbrev JJ:List (Nat×Pat):=[(0,⟨92,[(0,.one (.sub 0)),(1,.one (.sl (.int .u64))),(6,.one (.v .u64))],[.arr (.int .u64)]⟩)]
abbrev Jw:Option Pat:=none
abbrev Gc:Pat:=⟨92,[(6,.one (.v .u64)),(0,.one (.sub 0)),(1,.one (.sl (.int .u64)))],[.arr (.int .u64)]⟩
abbrev WB:List (Nat×Shape):=[]
abbrev JI:List (Nat×Pat):=[(2,⟨92,[(6,.one (.v .u64))],[.arr (.int .u64)]⟩)]
abbrev Jv:Option Pat:=none
variable (w332_6:Pat.D Gd->Option (Ah JJ Jw))(w332_13:Pat.D Gc->Option (Ah JI Jv))
def Vn(p328:ES)(f328:EU)(p315:ER)(f315:ET)(p155:C5)(f155:C6)(p330:Ur)(f330:UD)(p331:Us)(f331:UE){R:Type}(L:Pat.D Gc->Option R)(e:Ah JI Jv->Option R)(x:Pat.D Gc):Option R:=let e1_:=(aa .u64 (x.1.1-(1:Int)));bif(p331 ((x.2.1,x.1.2.1),x.1.2.2))then(bif(f331 ((x.2.1,x.1.2.1),x.1.2.2)).2.1 then(((e (.inl ((e1_,()),(f331 ((x.2.1,x.1.2.1),x.1.2.2)).1,())))))else(L ((e1_,x.1.2),(f331 ((x.2.1,x.1.2.1),x.1.2.2)).1,())))else none
theorem aUw(d:Nat)(R:Type)(L:Pat.D Gc->Option R)(e:Ah JI Jv->Option R)(x:Pat.D Gc):
  BA ({cf [(264,⟨ED,EG,p328,f328⟩),(126,⟨EC,EF,p315,f315⟩),(165,⟨E6,Fs,p155,f155⟩)] [(305,6,LoopSpec.of Gd WC JJ Jw w332_6 1),(305,13,LoopSpec.of Gc WB JI Jv w332_13 1)]with lsums:=[(324,⟨Fk,IU,Jg,p330,f330⟩),(325,⟨Fl,IV,Jh,p331,f331⟩)] }) (d+2) 305 (Bw Tryz.f305 13) Gc WB JI Jv (R:=R) L e x 1=Vn p328 f328 p315 f315 p155 f155 p330 f330 p331 f331 L e x:=by kernel_rfl
theorem aFT(p328:ES)(f328:EU)(p315:ER)(f315:ET)(p155:C5)(f155:C6)(p330:Ur)(f330:UD)(p331:Us)(f331:UE):Bp fun L e x=>Vn p328 f328 p315 f315 p155 f155 p330 f330 p331 f331 L e x:=by intro _ _ _ _ _ _ _ h0 hL he _;unfold Vn;repeat' (first|exact h0|exact hL _|exact he _|apply BT|(apply BU h0;intro _)|(apply BV<;>intro _))
def Vo(p328:ES)(f328:EU)(p315:ER)(f315:ET)(p155:C5)(f155:C6)(p330:Ur)(f330:UD)(p331:Us)(f331:UE){R:Type}(L:Pat.D Gd->Option R)(e:Ah JJ Jw->Option R)(x:Pat.D Gd):Option R:=let e11_:=(aa .i64 (x.1.2.2.1-(2:Int)));let e10_:=(aj e11_);let e9_:=(f315 (x.1.1,(x.1.2.2.2.2.1.getD e10_ (0:Int)),()));let e1_:=(decide (e9_.1<x.1.2.1));let e12_:=(aa .i64 (x.1.2.2.1-(1:Int)));let e2_:=(f155 (x.1.2.1,(x.1.2.2.2.2.1.getD (aj e12_) (0:Int)),(0:Int),()));let e3_:=e9_;let e4_:=(decide ((0:Int)<=e11_));let e5_:=e10_;let e6_:=e12_;let e7_:=e11_;let e8_:=(aa .u64 (x.1.1-(1:Int)));bif(e4_&&(decide (e7_<(x.1.2.2.2.2.1.length:Int))))then(bif(p315 (x.1.1,(x.1.2.2.2.2.1.getD e5_ (0:Int)),()))then(bif((e4_&&(decide (e7_<(x.1.2.2.2.1.2:Int))))||(!((bif e1_ then false else true)&&(decide (e3_.1=x.1.2.1)))))then(bif(e1_||((e3_.1==x.1.2.1)&&(decide (e3_.2.1<=(x.2.1.getD (x.1.2.2.2.1.1+e5_) (0:Int))))))then(((e (.inl ((x.1.2.2.2.1,x.1.2.2.2.2.1,x.1.1,()),x.2)))))else bif((decide ((0:Int)<=e6_))&&(decide (e6_<(x.1.2.2.2.2.1.length:Int))))then(bif(p155 (x.1.2.1,(x.1.2.2.2.2.1.getD (aj e6_) (0:Int)),(0:Int),()))then(bif(e2_.2.1 !=(0:Int))then(((e (.inl ((x.1.2.2.2.1,x.1.2.2.2.2.1,e8_,()),x.2)))))else(L ((e8_,e2_.1,x.1.2.2),x.2)))else none)else none)else none)else none)else none
theorem aUx(d:Nat)(R:Type)(L:Pat.D Gd->Option R)(e:Ah JJ Jw->Option R)(x:Pat.D Gd):
  BA ({cf [(264,⟨ED,EG,p328,f328⟩),(126,⟨EC,EF,p315,f315⟩),(165,⟨E6,Fs,p155,f155⟩)] [(305,6,LoopSpec.of Gd WC JJ Jw w332_6 1),(305,13,LoopSpec.of Gc WB JI Jv w332_13 1)]with lsums:=[(324,⟨Fk,IU,Jg,p330,f330⟩),(325,⟨Fl,IV,Jh,p331,f331⟩)] }) (d+2) 305 (Bw Tryz.f305 6) Gd WC JJ Jw (R:=R) L e x 1=Vo p328 f328 p315 f315 p155 f155 p330 f330 p331 f331 L e x:=by kernel_rfl
theorem aFU(p328:ES)(f328:EU)(p315:ER)(f315:ET)(p155:C5)(f155:C6)(p330:Ur)(f330:UD)(p331:Us)(f331:UE):Bp fun L e x=>Vo p328 f328 p315 f315 p155 f155 p330 f330 p331 f331 L e x:=by intro _ _ _ _ _ _ _ h0 hL he _;unfold Vo;repeat' (first|exact h0|exact hL _|exact he _|apply BT|(apply BU h0;intro _)|(apply BV<;>intro _))
def lG(p328:ES)(f328:EU)(p315:ER)(f315:ET)(p155:C5)(f155:C6)(p330:Ur)(f330:UD)(p331:Us)(f331:UE)(w332_6:Pat.D Gd->Option (Ah JJ Jw))(w332_13:Pat.D Gc->Option (Ah JI Jv))(l0:LK.D (.win (.int .u64)))(a0:Aa (.slice (.int .u64))):Option (LK.B Fo×DenS Ji):=
 let e11_:=(l0.1.getD (l0.2.1+(aj (a0.length:Int))) (0:Int))
 let e10_:=(aa .i64 ((a0.length:Int)-(1:Int)))
 let e9_:=(aj e10_)
 let e8_:=(a0.getD e9_ (0:Int))
 let e1_:=(f328 (e11_,(l0.1.getD (l0.2.1+e9_) (0:Int)),e8_,()))
 let e2_:=((decide ((0:Int)<=e10_))&&(decide (e10_<(a0.length:Int))))
 let e3_:=e8_
 let e4_:=((decide ((0:Int)<=(a0.length:Int)))&&(decide ((a0.length:Int)<(l0.2.2:Int))))
 let e5_:=e10_
 let e12_:=((l0.1,l0.2),a0,(18446744073709551615:Int),())
 let e6_:=(f330 e12_)
 let e7_:=e11_
 bif e4_ then(bif e2_ then(bif(decide (e7_<e3_))then(bif e4_ then(bif((decide ((0:Int)<=e5_))&&(decide (e5_<(l0.2.2:Int))))then(bif e2_ then(bif(p328 (e7_,(l0.1.getD (l0.2.1+(aj e5_)) (0:Int)),e3_,()))then(Vx.AY (w332_6 ((e1_.1,e1_.2.1,(a0.length:Int),l0.2,a0,()),l0.1,())) fun y7=>
 Vx.A1 y7 (fun y8=>
 bif(p330 ((y8.2.1,y8.1.1),y8.1.2))then(bif(f330 ((y8.2.1,y8.1.1),y8.1.2)).2.1 then(Vx.AY (w332_13 ((y8.1.2.2.1,y8.1.1,y8.1.2.1,()),(f330 ((y8.2.1,y8.1.1),y8.1.2)).1,())) fun y11=>
 Vx.A1 y11 (fun y12=>
 some (y12.2.1,y12.1)) (fun z12=>
 none))
 else some ((f330 ((y8.2.1,y8.1.1),y8.1.2)).1,y8.1.2.2))
 else none) (fun z8=>
 none))
 else none)
 else none)
 else none)
 else none)
 else bif(p330 e12_)then(bif e6_.2.1 then(Vx.AY (w332_13 (((18446744073709551615:Int),l0.2,a0,()),e6_.1,())) fun y5=>
 Vx.A1 y5 (fun y6=>
 some (y6.2.1,y6.1)) (fun z6=>
 none))
 else some (e6_.1,(18446744073709551615:Int),()))
 else none)
 else none)
 else none
theorem aSe(x:LK.D Fo×DenS Kt):Iy ({cf [(264,⟨ED,EG,p328,f328⟩),(126,⟨EC,EF,p315,f315⟩),(165,⟨E6,Fs,p155,f155⟩)] [(305,6,LoopSpec.of Gd WC JJ Jw w332_6 1),(305,13,LoopSpec.of Gc WB JI Jv w332_13 1)]with lsums:=[(324,⟨Fk,IU,Jg,p330,f330⟩),(325,⟨Fl,IV,Jh,p331,f331⟩)] }) 9 305 Tryz.f305 Fo Kt Ji x=lG p328 f328 p315 f315 p155 f155 p330 f330 p331 f331 w332_6 w332_13 x.1 x.2.1:=by kernel_rfl
def YJ:Gc.D->Option (Ah JI Jv):=Bf fun L=>Vn AP.pre AP.F AO.pre AO.F Ay.pre Ay.F Cp.pre Cp.F C2.pre C2.F L some
def dY:Gd.D->Option (Ah JJ Jw):=Bf fun L=>Vo AP.pre AP.F AO.pre AO.F Ay.pre Ay.F Cp.pre Cp.F C2.pre C2.F L some
def Xx(x:LK.D Fo×DenS Kt):Option (LK.B Fo×DenS Ji):=lG AP.pre AP.F AO.pre AO.F Ay.pre Ay.F Cp.pre Cp.F C2.pre C2.F dY YJ x.1 x.2.1
def EL:SumL:=Iz Fo Kt Ji Xx (LK.dflt Fo,DenS.dflt Ji)
theorem aJh:SoundL Tryz.prog G1 305 EL:=V5 ({cf [(264,AP),(126,AO),(165,Ay)] [(305,6,LoopSpec.of Gd WC JJ Jw dY 1),(305,13,LoopSpec.of Gc WB JI Jv YJ 1)]with lsums:=[(324,Cp),(325,C2)] }) 305 Tryz.f305 ⟨cU,cT,TL,trivial⟩ ⟨rfl,fun d=>BR (fun L e x=>Vo AP.pre AP.F AO.pre AO.F Ay.pre Ay.F Cp.pre Cp.F C2.pre C2.F L e x) (aFU AP.pre AP.F AO.pre AO.F Ay.pre Ay.F Cp.pre Cp.F C2.pre C2.F) (fun _ _ _ _=>aUx ..),⟨rfl,fun d=>BR (fun L e x=>Vn AP.pre AP.F AO.pre AO.F Ay.pre Ay.F Cp.pre Cp.F C2.pre C2.F L e x) (aFT AP.pre AP.F AO.pre AO.F Ay.pre Ay.F Cp.pre Cp.F C2.pre C2.F) (fun _ _ _ _=>aUw ..),trivial⟩⟩ Fo Kt Ji Xx _ (fun _=>aSe ..) (hls:=⟨aJf,aJg,trivial⟩)
abbrev eN:=LK.D Fo×DenS Kt->Bool
abbrev fF:=LK.D Fo×DenS Kt->LK.B Fo×DenS Ji
variable (p332:eN)(f332:fF)
abbrev NJ:Ab:=[(false,.slice (.int .u64)),(false,.slice (.int .u64))]
abbrev Ph:Ab:=[(false,.slice (.int .u64)),(false,.slice (.int .u64))]
abbrev Ge:Pat:=⟨91,[(9,.one (.sl (.int .u64))),(12,.one (.v .i64)),(4,.one (.own 1)),(10,.one (.own 0)),(11,.one (.v .i64)),(8,.one (.v .i64))],[.arr (.int .u64),.arr (.int .u64)]⟩
abbrev bT:List (Nat×Shape):=[]
abbrev Mk:List (Nat×Pat):=[(0,⟨91,[(4,.one (.own 1)),(10,.one (.own 0)),(11,.one (.v .i64)),(8,.one (.v .i64))],[.arr (.int .u64),.arr (.int .u64)]⟩)]
abbrev Lq:Option Pat:=none
variable (w333_14:Pat.D Ge->Option (Ah Mk Lq))
def Vp(p1146:YO)(f1146:YW)(p1329:eI)(f1329:fB)(p144:JN)(f144:JR)(p146:Sr)(f146:Sx)(p329:eM)(f329:fE)(p327:Mt)(f327:Mv)(p186:Up)(f186:UB)(p332:eN)(f332:fF)(p173:A5)(f173:A6)(p171:Ss)(f171:Sy){R:Type}(L:Pat.D Ge->Option R)(e:Ah Mk Lq->Option R)(x:Pat.D Ge):Option R:=let e3_:=(aa .i64 ((aa .i64 (x.1.2.1+x.1.2.2.2.2.1))+(1:Int)));let e1_:=(f332 ((x.2.1,(aj x.1.2.1),((aj e3_)-(aj x.1.2.1))),x.1.1,()));let e2_:=e3_;bif(decide (x.1.2.1>=(0:Int)))then(bif(((decide ((0:Int)<=x.1.2.1))&&(decide (x.1.2.1<=e2_)))&&(decide (e2_<=(x.2.1.length:Int))))then(bif(p332 ((x.2.1,(aj x.1.2.1),((aj e2_)-(aj x.1.2.1))),x.1.1,()))then(bif((decide ((0:Int)<=x.1.2.1))&&(decide (x.1.2.1<(x.2.2.1.length:Int))))then(((L ((x.1.1,(aa .i64 (x.1.2.1-(1:Int))),(),(),x.1.2.2.2.2),e1_.1,(x.2.2.1.set (aj x.1.2.1) e1_.2.1),()))))else none)else none)else none)else(e (.inl (((),(),x.1.2.2.2.2),x.2)))
theorem aUy(d:Nat)(R:Type)(L:Pat.D Ge->Option R)(e:Ah Mk Lq->Option R)(x:Pat.D Ge):
  BA ({cf [(168,⟨IH,I6,p1146,f1146⟩),(303,⟨Kn,KM,p1329,f1329⟩),(177,⟨F0,F7,p144,f144⟩),(168,⟨Hr,Hz,p146,f146⟩),(303,⟨Ks,KQ,p329,f329⟩),(304,⟨GB,GI,p327,f327⟩),(250,⟨IS,Je,p186,f186⟩),(169,⟨Bu,Bv,p173,f173⟩),(301,⟨Ht,HA,p171,f171⟩)] [(251,14,LoopSpec.of Ge bT Mk Lq w333_14)]with cut:=true,lsums:=[(305,⟨Fo,Kt,Ji,p332,f332⟩)] }) (d+2) 251 (Bw Tryz.f251 14) Ge bT Mk Lq (R:=R) L e x=Vp p1146 f1146 p1329 f1329 p144 f144 p146 f146 p329 f329 p327 f327 p186 f186 p332 f332 p173 f173 p171 f171 L e x:=by kernel_rfl
theorem aFV(p1146:YO)(f1146:YW)(p1329:eI)(f1329:fB)(p144:JN)(f144:JR)(p146:Sr)(f146:Sx)(p329:eM)(f329:fE)(p327:Mt)(f327:Mv)(p186:Up)(f186:UB)(p332:eN)(f332:fF)(p173:A5)(f173:A6)(p171:Ss)(f171:Sy):Bp fun L e x=>Vp p1146 f1146 p1329 f1329 p144 f144 p146 f146 p329 f329 p327 f327 p186 f186 p332 f332 p173 f173 p171 f171 L e x:=by intro _ _ _ _ _ _ _ h0 hL he _;unfold Vp;repeat' (first|exact h0|exact hL _|exact he _|apply BT|(apply BU h0;intro _)|(apply BV<;>intro _))
def lH(p1146:YO)(f1146:YW)(p1329:eI)(f1329:fB)(p144:JN)(f144:JR)(p146:Sr)(f146:Sx)(p329:eM)(f329:fE)(p327:Mt)(f327:Mv)(p186:Up)(f186:UB)(p332:eN)(f332:fF)(p173:A5)(f173:A6)(p171:Ss)(f171:Sy)(w333_14:Pat.D Ge->Option (Ah Mk Lq))(a0 a1:Aa (.slice (.int .u64))):Option (DenS Ph):=
 let e17_:=(aa .i64 (((f173 (a1,())).1.length:Int)-(1:Int)))
 let e14_:=(f327 (((f173 (a1,())).1.getD (aj e17_) (0:Int)),()))
 let e12_:=(f186 ((f173 (a0,())).1,e14_))
 let e18_:=(aa .i64 (((f173 (a0,())).1.length:Int)+(1:Int)))
 let e15_:=(ax (aj e18_) (0:Int))
 let e13_:=(f186 ((f173 (a1,())).1,e14_))
 let e11_:=(aa .i64 ((((e12_.1.take e15_.length)++(e15_.drop e12_.1.length)).length:Int)-(e13_.1.length:Int)))
 let e1_:=(ax (aj e11_) (0:Int))
 let e2_:=e11_
 let e3_:=e13_
 let e4_:=e12_
 let e5_:=e14_
 let e6_:=e15_
 let e16_:=((f1146 (f173 (a0,()))).1,((f173 (a1,())).1.getD (aj (0:Int)) (0:Int)),())
 let e7_:=(((f1329 e16_).2.1::[]),())
 let e8_:=e16_
 let e9_:=e17_
 let e10_:=e18_
 bif(p173 (a0,()))then(bif(p173 (a1,()))then(bif(p144 ((f173 (a0,())).1,(f173 (a1,()))))then(bif(decide ((f144 ((f173 (a0,())).1,(f173 (a1,())))).1<(0:Int)))then(bif(p1146 (f173 (a0,())))then(some ([],(f1146 (f173 (a0,())))))
 else none)
 else bif(((f173 (a1,())).1.length:Int)==(1:Int))then(bif(p1146 (f173 (a0,())))then(bif(decide ((0:Int)<((f173 (a1,())).1.length:Int)))then(bif(p1329 e8_)then(bif(p173 e7_)then(some ((f1329 e8_).1,(f173 e7_)))
 else none)
 else none)
 else none)
 else none)
 else bif((decide ((0:Int)<=e9_))&&(decide (e9_<((f173 (a1,())).1.length:Int))))then(bif(p327 (((f173 (a1,())).1.getD (aj e9_) (0:Int)),()))then(bif(p186 ((f173 (a1,())).1,e5_))then(bif((decide ((0:Int)<=e10_))&&(decide ((e10_*(8:Int))<=(140737488355328:Int))))then(bif(p186 ((f173 (a0,())).1,e5_))then(bif((decide ((0:Int)<=e2_))&&(decide ((e2_*(8:Int))<=(140737488355328:Int))))then(Vx.AY (w333_14 ((e3_.1,(aa .i64 ((e1_.length:Int)-(1:Int))),(),(),(e3_.1.length:Int),e5_),((e4_.1.take e6_.length)++(e6_.drop e4_.1.length)),e1_,())) fun y11=>
 Vx.A1 y11 (fun y12=>
 bif(p173 y12.2.2)then(bif((decide ((0:Int)<=y12.1.2.2.1))&&(decide (y12.1.2.2.1<=(y12.2.1.length:Int))))then(bif(p171 (((y12.2.1.take (aj y12.1.2.2.1)).drop (aj (0:Int))),y12.1.2.2.2))then(some ((f173 y12.2.2).1,(f171 (((y12.2.1.take (aj y12.1.2.2.1)).drop (aj (0:Int))),y12.1.2.2.2))))
 else none)
 else none)
 else none) (fun z12=>
 none))
 else none)
 else none)
 else none)
 else none)
 else none)
 else none)
 else none)
 else none)
 else none
theorem aSf(x:DenS NJ):run ({cf [(168,⟨IH,I6,p1146,f1146⟩),(303,⟨Kn,KM,p1329,f1329⟩),(177,⟨F0,F7,p144,f144⟩),(168,⟨Hr,Hz,p146,f146⟩),(303,⟨Ks,KQ,p329,f329⟩),(304,⟨GB,GI,p327,f327⟩),(250,⟨IS,Je,p186,f186⟩),(169,⟨Bu,Bv,p173,f173⟩),(301,⟨Ht,HA,p171,f171⟩)] [(251,14,LoopSpec.of Ge bT Mk Lq w333_14)]with cut:=true,lsums:=[(305,⟨Fo,Kt,Ji,p332,f332⟩)] }) 9 251 Tryz.f251 NJ Ph x=lH p1146 f1146 p1329 f1329 p144 f144 p146 f146 p329 f329 p327 f327 p186 f186 p332 f332 p173 f173 p171 f171 w333_14 x.1 x.2.1:=by kernel_rfl
def YK:Ge.D->Option (Ah Mk Lq):=Bf fun L=>Vp Dt.pre Dt.F EK.pre EK.F Bk.pre Bk.F CP.pre CP.F Fz.pre Fz.F BB.pre BB.F Dv.pre Dv.F EL.pre EL.F Af.pre Af.F CQ.pre CQ.F L some
def Xy(x:DenS NJ):Option (DenS Ph):=lH Dt.pre Dt.F EK.pre EK.F Bk.pre Bk.F CP.pre CP.F Fz.pre Fz.F BB.pre BB.F Dv.pre Dv.F EL.pre EL.F Af.pre Af.F CQ.pre CQ.F YK x.1 x.2.1
def Qv:Sum:=Aj NJ Ph Xy (DenS.dflt Ph)
theorem aJi:Sound Tryz.prog G1 251 Qv:=sd ({cf [(168,Dt),(303,EK),(177,Bk),(168,CP),(303,Fz),(304,BB),(250,Dv),(169,Af),(301,CQ)] [(251,14,LoopSpec.of Ge bT Mk Lq YK)]with cut:=true,lsums:=[(305,EL)] }) 251 Tryz.f251 ⟨xT,aIT,cQ,oO,aJe,yC,x7,D6,oP,trivial⟩ ⟨rfl,fun d=>BR (fun L e x=>Vp Dt.pre Dt.F EK.pre EK.F Bk.pre Bk.F CP.pre CP.F Fz.pre Fz.F BB.pre BB.F Dv.pre Dv.F EL.pre EL.F Af.pre Af.F CQ.pre CQ.F L e x) (aFV Dt.pre Dt.F EK.pre EK.F Bk.pre Bk.F CP.pre CP.F Fz.pre Fz.F BB.pre BB.F Dv.pre Dv.F EL.pre EL.F Af.pre Af.F CQ.pre CQ.F) (fun _ _ _ _=>aUy ..),trivial⟩ NJ Ph Xy _ (fun _=>aSf ..) (hls:=⟨aJh,trivial⟩)
abbrev aA3:=Al NJ
abbrev aCh:=Ak NJ Ph
variable (p333:aA3)(f333:aCh)
abbrev Ku:Ab:=[(false,.slice (.int .u64)),(false,.slice (.int .u64))]
abbrev KR:Ab:=[(false,.slice (.int .u64)),(false,.slice (.int .u64)),(false,.int .i64)]
def lI(p185:Uo)(f185:UA)(p173:A5)(f173:A6)(p333:aA3)(f333:aCh)(a0 a1:Aa (.slice (.int .u64))):Option (DenS KR):=bif(p185 ((a0::(a1::[])),()))then(bif(f185 ((a0::(a1::[])),())).1 then(some ([],[],(5:Int),()))else bif(p173 (a1,()))then(bif(((f173 (a1,())).1.length:Int)==(0:Int))then(some ([],[],(10:Int),()))else bif(p333 (a0,a1,()))then(some ((f333 (a0,a1,())).1,(f333 (a0,a1,())).2.1,(0:Int),()))else none)else none)else none
theorem aSg(x:DenS Ku):run (cf [(249,⟨IR,Jd,p185,f185⟩),(169,⟨Bu,Bv,p173,f173⟩),(251,⟨NJ,Ph,p333,f333⟩)] []) 9 175 Tryz.f175 Ku KR x=lI p185 f185 p173 f173 p333 f333 x.1 x.2.1:=by kernel_rfl
def Xz(x:DenS Ku):Option (DenS KR):=lI D7.pre D7.F Af.pre Af.F Qv.pre Qv.F x.1 x.2.1
def EM:Sum:=Aj Ku KR Xz (DenS.dflt KR)
theorem aJj:Sound Tryz.prog G1 175 EM:=sd (cf [(249,D7),(169,Af),(251,Qv)] []) 175 Tryz.f175 ⟨oQ,D6,aJi,trivial⟩ trivial Ku KR Xz _ (fun _=>aSg ..)
abbrev eO:=Al Ku
abbrev fG:=Ak Ku KR
variable (p345:eO)(f345:fG)
abbrev Nl:Ab:=[(true,.slice (.int .u64)),(false,.slice (.int .u64))]
abbrev OS:Ab:=[(true,.slice (.int .u64))]
abbrev HH:Pat:=⟨37,[(9,.one (.v .i64)),(1,.one (.sl (.int .u64))),(5,.one (.v .u64)),(10,.one (.v .i64)),(0,.one (.own 0))],[.arr (.int .u64)]⟩
abbrev bD:List (Nat×Shape):=[]
abbrev L4:List (Nat×Pat):=[(0,⟨37,[(0,.one (.own 0))],[.arr (.int .u64)]⟩)]
abbrev La:Option Pat:=none
variable (w1174_3:Pat.D HH->Option (Ah L4 La))
def U5(p1173:Rc)(f1173:Rg)(p157:G3)(f157:G5)(p173:A5)(f173:A6){R:Type}(L:Pat.D HH->Option R)(e:Ah L4 La->Option R)(x:Pat.D HH):Option R:=let e8_:=(x.2.1.getD (aj x.1.2.2.2.1) (0:Int));let e7_:=((x.1.2.1.getD (aj x.1.2.2.2.1) (0:Int)),x.1.2.2.1,());let e1_:=(f157 (e8_,e7_));let e2_:=((decide ((0:Int)<=x.1.2.2.2.1))&&(decide (x.1.2.2.2.1<(x.2.1.length:Int))));let e3_:=(f157 (e8_,(0:Int),x.1.2.2.1,()));let e4_:=((aa .i64 (x.1.2.2.2.1+(1:Int))),(),());let e5_:=(decide (x.1.2.2.2.1<(x.1.2.1.length:Int)));let e6_:=e8_;bif(decide (x.1.2.2.2.1<x.1.1))then(bif e5_ then(bif((decide ((0:Int)<=x.1.2.2.2.1))&&e5_)then(bif e2_ then(bif(p157 (e6_,e7_))then(bif e2_ then(((L ((x.1.1,x.1.2.1,e1_.2.1,e4_),(x.2.1.set (aj x.1.2.2.2.1) e1_.1),()))))else none)else none)else none)else none)else bif e2_ then(bif(p157 (e6_,(0:Int),x.1.2.2.1,()))then(bif e2_ then(((L ((x.1.1,x.1.2.1,e3_.2.1,e4_),(x.2.1.set (aj x.1.2.2.2.1) e3_.1),()))))else none)else none)else none)else(e (.inl (((),()),x.2)))
theorem aUc(d:Nat)(R:Type)(L:Pat.D HH->Option R)(e:Ah L4 La->Option R)(x:Pat.D HH):
  BA ({cf [(169,⟨Hn,Hw,p1173,f1173⟩),(166,⟨Kq,O0,p157,f157⟩),(169,⟨Bu,Bv,p173,f173⟩)] [(252,3,LoopSpec.of HH bD L4 La w1174_3)]with keep:=true}) (d+2) 252 (Bw Tryz.f252 3) HH bD L4 La (R:=R) L e x=U5 p1173 f1173 p157 f157 p173 f173 L e x:=by kernel_rfl
theorem aFB(p1173:Rc)(f1173:Rg)(p157:G3)(f157:G5)(p173:A5)(f173:A6):Bp fun L e x=>U5 p1173 f1173 p157 f157 p173 f173 L e x:=by intro _ _ _ _ _ _ _ h0 hL he _;unfold U5;repeat' (first|exact h0|exact hL _|exact he _|apply BT|(apply BU h0;intro _)|(apply BV<;>intro _))
def jT(p1173:Rc)(f1173:Rg)(p157:G3)(f157:G5)(p173:A5)(f173:A6)(w1174_3:Pat.D HH->Option (Ah L4 La))(a0 a1:Aa (.slice (.int .u64))):Option (DenS OS):=
 Vx.AY (w1174_3 (((a0.length:Int),a1,(0:Int),(0:Int),(),()),a0,())) fun y0=>
 Vx.A1 y0 (fun y1=>
 bif(p1173 y1.2)then(some (f1173 y1.2))
 else none) (fun z1=>
 none)
theorem aRl(x:DenS Nl):run ({cf [(169,⟨Hn,Hw,p1173,f1173⟩),(166,⟨Kq,O0,p157,f157⟩),(169,⟨Bu,Bv,p173,f173⟩)] [(252,3,LoopSpec.of HH bD L4 La w1174_3)]with keep:=true}) 9 252 Tryz.f252 Nl OS x=jT p1173 f1173 p157 f157 p173 f173 w1174_3 x.1 x.2.1:=by kernel_rfl
def YD:HH.D->Option (Ah L4 La):=Bf fun L=>U5 Ce.pre Ce.F A4.pre A4.F Af.pre Af.F L some
def W0(x:DenS Nl):Option (DenS OS):=jT Ce.pre Ce.F A4.pre A4.F Af.pre Af.F YD x.1 x.2.1
def Qj:Sum:=Aj Nl OS W0 (DenS.dflt OS)
theorem aIO:Sound Tryz.prog G1 252 Qj:=sd ({cf [(169,Ce),(166,A4),(169,Af)] [(252,3,LoopSpec.of HH bD L4 La YD)]with keep:=true}) 252 Tryz.f252 ⟨xU,cS,D6,trivial⟩ ⟨rfl,fun d=>BR (fun L e x=>U5 Ce.pre Ce.F A4.pre A4.F Af.pre Af.F L e x) (aFB Ce.pre Ce.F A4.pre A4.F Af.pre Af.F) (fun _ _ _ _=>aUc ..),trivial⟩ Nl OS W0 _ (fun _=>aRl ..)
abbrev aAK:=Al Nl
abbrev aBY:=Ak Nl OS
variable (p1174:aAK)(f1174:aBY)
abbrev Nu:Ab:=[(false,.slice (.int .u64)),(false,.slice (.int .u64))]
abbrev O2:Ab:=[(false,.slice (.int .u64))]
abbrev HN:Pat:=⟨37,[(9,.one (.v .i64)),(1,.one (.sl (.int .u64))),(5,.one (.v .u64)),(10,.one (.v .i64)),(0,.one (.sl (.int .u64)))],[]⟩
abbrev bK:List (Nat×Shape):=[]
abbrev Mb:List (Nat×Pat):=[(0,⟨37,[(0,.one (.sl (.int .u64)))],[]⟩)]
abbrev Lh:Option Pat:=none
variable (w174_3:Pat.D HN->Option (Ah Mb Lh))
def ZK(p157:G3)(f157:G5)(p173:A5)(f173:A6){R:Type}(L:Pat.D HN->Option R)(e:Ah Mb Lh->Option R)(x:Pat.D HN):Option R:=let e1_:=((decide ((0:Int)<=x.1.2.2.2.1))&&(decide (x.1.2.2.2.1<(x.1.2.2.2.2.1.length:Int))));let e2_:=(x.1.2.2.2.2.1.getD (aj x.1.2.2.2.1) (0:Int));let e3_:=(decide (x.1.2.2.2.1<(x.1.2.1.length:Int)));bif(decide (x.1.2.2.2.1<x.1.1))then(bif e3_ then(bif((decide ((0:Int)<=x.1.2.2.2.1))&&e3_)then(bif e1_ then(bif(p157 (e2_,(x.1.2.1.getD (aj x.1.2.2.2.1) (0:Int)),x.1.2.2.1,()))then(bif e1_ then((none))else none)else none)else none)else none)else bif e1_ then(bif(p157 (e2_,(0:Int),x.1.2.2.1,()))then(bif e1_ then((none))else none)else none)else none)else(e (.inl (x.1.2.2.2.2,())))
theorem aUj(d:Nat)(R:Type)(L:Pat.D HN->Option R)(e:Ah Mb Lh->Option R)(x:Pat.D HN):
  BA (cf [(166,⟨Kq,O0,p157,f157⟩),(169,⟨Bu,Bv,p173,f173⟩)] [(252,3,LoopSpec.of HN bK Mb Lh w174_3)]) (d+2) 252 (Bw Tryz.f252 3) HN bK Mb Lh (R:=R) L e x=ZK p157 f157 p173 f173 L e x:=by kernel_rfl
theorem aOP(p157:G3)(f157:G5)(p173:A5)(f173:A6):Bp fun L e x=>ZK p157 f157 p173 f173 L e x:=by intro _ _ _ _ _ _ _ h0 hL he _;unfold ZK;repeat' (first|exact h0|exact hL _|exact he _|apply BT|(apply BU h0;intro _)|(apply BV<;>intro _))
def aHZ(p157:G3)(f157:G5)(p173:A5)(f173:A6)(w174_3:Pat.D HN->Option (Ah Mb Lh))(a0 a1:Aa (.slice (.int .u64))):Option (DenS O2):=
 Vx.AY (w174_3 (((a0.length:Int),a1,(0:Int),(0:Int),a0,()),())) fun y0=>
 Vx.A1 y0 (fun y1=>
 bif(p173 y1.1)then(some (f173 y1.1))
 else none) (fun z1=>
 none)
theorem aRN(x:DenS Nu):run (cf [(166,⟨Kq,O0,p157,f157⟩),(169,⟨Bu,Bv,p173,f173⟩)] [(252,3,LoopSpec.of HN bK Mb Lh w174_3)]) 9 252 Tryz.f252 Nu O2 x=aHZ p157 f157 p173 f173 w174_3 x.1 x.2.1:=by kernel_rfl
def aAu:HN.D->Option (Ah Mb Lh):=Bf fun L=>ZK A4.pre A4.F Af.pre Af.F L some
def zP(x:DenS Nu):Option (DenS O2):=aHZ A4.pre A4.F Af.pre Af.F aAu x.1 x.2.1
def TM:Sum:=Aj Nu O2 zP (DenS.dflt O2)
theorem aI2:Sound Tryz.prog G1 252 TM:=sd (cf [(166,A4),(169,Af)] [(252,3,LoopSpec.of HN bK Mb Lh aAu)]) 252 Tryz.f252 ⟨cS,D6,trivial⟩ ⟨rfl,fun d=>BR (fun L e x=>ZK A4.pre A4.F Af.pre Af.F L e x) (aOP A4.pre A4.F Af.pre Af.F) (fun _ _ _ _=>aUj ..),trivial⟩ Nu O2 zP _ (fun _=>aRN ..)
abbrev aAT:=Al Nu
abbrev aB7:=Ak Nu O2
variable (p174:aAT)(f174:aB7)
abbrev IP:Ab:=[(false,.slice (.int .u64)),(false,.slice (.int .u64))]
abbrev Jb:Ab:=[(false,.slice (.int .u64)),(false,.int .i64)]
def j8(p1174:aAK)(f1174:aBY)(p1146:YO)(f1146:YW)(p144:JN)(f144:JR)(p146:Sr)(f146:Sx)(p173:A5)(f173:A6)(p174:aAT)(f174:aB7)(a0 a1:Aa (.slice (.int .u64))):Option (DenS Jb):=bif(p144 (a0,a1,()))then(bif(decide ((f144 (a0,a1,())).1<(0:Int)))then(some ([],(20:Int),()))else bif(p1146 (a0,()))then(bif(p173 (a1,()))then(bif(p1174 ((f1146 (a0,())).1,(f173 (a1,()))))then(some ((f1174 ((f1146 (a0,())).1,(f173 (a1,())))).1,(0:Int),()))else none)else none)else none)else none
theorem aRA(x:DenS IP):run (cf [(252,⟨Nl,OS,p1174,f1174⟩),(168,⟨IH,I6,p1146,f1146⟩),(177,⟨F0,F7,p144,f144⟩),(168,⟨Hr,Hz,p146,f146⟩),(169,⟨Bu,Bv,p173,f173⟩),(252,⟨Nu,O2,p174,f174⟩)] []) 9 178 Tryz.f178 IP Jb x=j8 p1174 f1174 p1146 f1146 p144 f144 p146 f146 p173 f173 p174 f174 x.1 x.2.1:=by kernel_rfl
def W8(x:DenS IP):Option (DenS Jb):=j8 Qj.pre Qj.F Dt.pre Dt.F Bk.pre Bk.F CP.pre CP.F Af.pre Af.F TM.pre TM.F x.1 x.2.1
def CV:Sum:=Aj IP Jb W8 (DenS.dflt Jb)
theorem xY:Sound Tryz.prog G1 178 CV:=sd (cf [(252,Qj),(168,Dt),(177,Bk),(168,CP),(169,Af),(252,TM)] []) 178 Tryz.f178 ⟨aIO,xT,cQ,oO,D6,aI2,trivial⟩ trivial IP Jb W8 _ (fun _=>aRA ..)
abbrev Um:=Al IP
abbrev Uy:=Ak IP Jb
variable (p145:Um)(f145:Uy)
abbrev NT:Ab:=[(false,.slice (.int .u64)),(false,.slice (.int .u64)),(false,.int .i64)]
abbrev Pr:Ab:=[(true,.pair (.bool) (.pair (.slice (.int .u64)) (.pair (.int .i64) (.pair (.bool) (.unit)))))]
abbrev HV:Pat:=⟨81,[(2,.one (.v .i64)),(1,.one (.sl (.int .u64))),(11,.one (.sl (.int .u64))),(13,.one (.ptr 1 0)),(6,.one (.ptr 0 0))],[.raw [.bool,.sl (.int .u64),.v .i64,.bool],.raw [.bool,.sl (.int .u64),.v .i64,.bool]]⟩
abbrev bV:List (Nat×Shape):=[]
abbrev Mm:List (Nat×Pat):=[(0,⟨81,[(11,.one (.sl (.int .u64))),(13,.one (.ptr 1 0)),(6,.one (.ptr 0 0))],[.raw [.bool,.sl (.int .u64),.v .i64,.bool],.raw [.bool,.sl (.int .u64),.v .i64,.bool]]⟩)]
abbrev Ls:Option Pat:=none
variable (w379_5:Pat.D HV->Option (Ah Mm Ls))
def Vr(p176:Un)(f176:Uz)(p345:eO)(f345:fG)(p151:Ms)(f151:Mu)(p144:JN)(f144:JR)(p145:Um)(f145:Uy)(p143:Rd)(f143:Rh){R:Type}(L:Pat.D HV->Option R)(e:Ah Mm Ls->Option R)(x:Pat.D HV):Option R:=let e1_:=((aa .i64 (x.2.2.1.2.2.1-(1:Int))),x.2.2.1.2.2.2);let e2_:=((f143 (x.2.2.1.2.1,x.2.2.1.2.1,())).1,((1:Int)::[]),());let e3_:=((f143 (x.1.2.2.1,x.1.2.2.1,())).1,x.1.2.1,());bif(p151 (x.2.2.1.2.1,()))then(bif((decide ((f151 (x.2.2.1.2.1,())).1<x.1.1))&&(decide ((x.1.2.2.1.length:Int)>(0:Int))))then(bif(p143 (x.2.2.1.2.1,x.2.2.1.2.1,()))then(bif(p143 (x.1.2.2.1,x.1.2.2.1,()))then(bif(p144 e3_)then(bif(decide ((f144 e3_).1>=(0:Int)))then(bif(p145 e3_)then(bif(p143 e2_)then(((L ((x.1.1,x.1.2.1,(f145 e3_).1,(),(),()),x.2.1,(x.2.2.1.1,(f143 e2_).1,e1_),()))))else none)else none)else(L ((x.1.1,x.1.2.1,(f143 (x.1.2.2.1,x.1.2.2.1,())).1,(),(),()),x.2.1,(x.2.2.1.1,(f143 (x.2.2.1.2.1,x.2.2.1.2.1,())).1,e1_),())))else none)else none)else none)else(e (.inl ((x.1.2.2.1,(),(),()),x.2))))else none
theorem aUA(d:Nat)(R:Type)(L:Pat.D HV->Option R)(e:Ah Mm Ls->Option R)(x:Pat.D HV):
  BA (cf [(174,⟨IQ,Jc,p176,f176⟩),(175,⟨Ku,KR,p345,f345⟩),(123,⟨F2,F8,p151,f151⟩),(177,⟨F0,F7,p144,f144⟩),(178,⟨IP,Jb,p145,f145⟩),(176,⟨Hq,GH,p143,f143⟩)] [(128,5,LoopSpec.of HV bV Mm Ls w379_5)]) (d+2) 128 (Bw Tryz.f128 5) HV bV Mm Ls (R:=R) L e x=Vr p176 f176 p345 f345 p151 f151 p144 f144 p145 f145 p143 f143 L e x:=by kernel_rfl
theorem aFX(p176:Un)(f176:Uz)(p345:eO)(f345:fG)(p151:Ms)(f151:Mu)(p144:JN)(f144:JR)(p145:Um)(f145:Uy)(p143:Rd)(f143:Rh):Bp fun L e x=>Vr p176 f176 p345 f345 p151 f151 p144 f144 p145 f145 p143 f143 L e x:=by intro _ _ _ _ _ _ _ h0 hL he _;unfold Vr;repeat' (first|exact h0|exact hL _|exact he _|apply BT|(apply BU h0;intro _)|(apply BV<;>intro _))
def lO(p176:Un)(f176:Uz)(p345:eO)(f345:fG)(p151:Ms)(f151:Mu)(p144:JN)(f144:JR)(p145:Um)(f145:Uy)(p143:Rd)(f143:Rh)(w379_5:Pat.D HV->Option (Ah Mm Ls))(a0 a1:Aa (.slice (.int .u64)))(a2:Aa (.int .i64)):Option (DenS Pr):=
 let e5_:=(aa .i64 ((aa .i64 ((f151 (a1,())).1-(f151 (a0,())).1))-(1:Int)))
 let e4_:=(a0,(if(e5_>(0:Int))then e5_ else(0:Int)),())
 let e1_:=(f345 ((f176 e4_).1,a1,()))
 let e2_:=e4_
 let e3_:=e5_
 bif(p151 (a1,()))then(bif(p151 (a0,()))then(bif(p176 e2_)then(bif(p345 ((f176 e2_).1,a1,()))then(Vx.AY (w379_5 ((a2,a1,e1_.2.1,(),(),()),(false,[],(0:Int),false,()),(false,e1_.1,(aa .i64 ((0:Int)-(if(e3_>(0:Int))then e3_ else(0:Int)))),false,()),())) fun y4=>
 Vx.A1 y4 (fun y5=>
 some ((y5.2.2.1.1,y5.2.2.1.2.1,y5.2.2.1.2.2.1,(decide ((y5.1.1.length:Int)>(0:Int))),()),())) (fun z5=>
 none))
 else none)
 else none)
 else none)
 else none
theorem aSq(x:DenS NT):run (cf [(174,⟨IQ,Jc,p176,f176⟩),(175,⟨Ku,KR,p345,f345⟩),(123,⟨F2,F8,p151,f151⟩),(177,⟨F0,F7,p144,f144⟩),(178,⟨IP,Jb,p145,f145⟩),(176,⟨Hq,GH,p143,f143⟩)] [(128,5,LoopSpec.of HV bV Mm Ls w379_5)]) 9 128 Tryz.f128 NT Pr x=lO p176 f176 p345 f345 p151 f151 p144 f144 p145 f145 p143 f143 w379_5 x.1 x.2.1 x.2.2.1:=by kernel_rfl
def d0:HV.D->Option (Ah Mm Ls):=Bf fun L=>Vr DP.pre DP.F EM.pre EM.F Ch.pre Ch.F Bk.pre Bk.F CV.pre CV.F Cx.pre Cx.F L some
def XG(x:DenS NT):Option (DenS Pr):=lO DP.pre DP.F EM.pre EM.F Ch.pre Ch.F Bk.pre Bk.F CV.pre CV.F Cx.pre Cx.F d0 x.1 x.2.1 x.2.2.1
def QD:Sum:=Aj NT Pr XG (DenS.dflt Pr)
theorem aJs:Sound Tryz.prog G1 128 QD:=sd (cf [(174,DP),(175,EM),(123,Ch),(177,Bk),(178,CV),(176,Cx)] [(128,5,LoopSpec.of HV bV Mm Ls d0)]) 128 Tryz.f128 ⟨x6,aJj,WL,cQ,xY,oN,trivial⟩ ⟨rfl,fun d=>BR (fun L e x=>Vr DP.pre DP.F EM.pre EM.F Ch.pre Ch.F Bk.pre Bk.F CV.pre CV.F Cx.pre Cx.F L e x) (aFX DP.pre DP.F EM.pre EM.F Ch.pre Ch.F Bk.pre Bk.F CV.pre CV.F Cx.pre Cx.F) (fun _ _ _ _=>aUA ..),trivial⟩ NT Pr XG _ (fun _=>aSq ..)
abbrev aBc:=Al NT
abbrev aCq:=Ak NT Pr
variable (p379:aBc)(f379:aCq)
abbrev NV:Ab:=[(false,.int .i64),(false,.int .i64),(false,.bool),(false,.slice (.int .u64)),(false,.slice (.int .u64)),(false,.int .i64)]
abbrev Ps:Ab:=[(false,.int .u64),(false,.int .i64),(false,.int .i64)]
def lQ(p105:Uj)(f105:Uv)(p102:G2)(f102:G4)(p156:eJ)(f156:fC)(p379:aBc)(f379:aCq)(p107:Uk)(f107:Uw)(a0 a1:Aa (.int .i64))(a2:Aa (.bool))(a3 a4:Aa (.slice (.int .u64)))(a5:Aa (.int .i64)):Option (DenS Ps):=let e4_:=((f102 (a3,())).1,(f102 (a4,())).1,(aa .i64 ((f105 (a0,a1,())).1.2.1+(3:Int))),());let e3_:=(f379 e4_);let e1_:=(f107 ((a2,e3_.1.2.1,(aa .i64 (e3_.1.2.2.1+a5)),e3_.1.2.2.2),a0,(f105 (a0,a1,())).1,a1,()));let e2_:=e3_;bif(p105 (a0,a1,()))then(bif((f105 (a0,a1,())).2.1 !=(0:Int))then(some ((0:Int),(0:Int),(f105 (a0,a1,())).2))else bif(p102 (a3,()))then(bif(p102 (a4,()))then(bif(decide ((aa .i64 (((f102 (a3,())).1.length:Int)+((f102 (a4,())).1.length:Int)))>(1024:Int)))then(some ((0:Int),(0:Int),(5:Int),()))else bif((decide (a5<(-(40000:Int))))||(decide (a5>(40000:Int))))then(some ((0:Int),(0:Int),(30:Int),()))else bif(((f102 (a4,())).1.length:Int)==(0:Int))then(some ((0:Int),(0:Int),(10:Int),()))else bif(((f102 (a3,())).1.length:Int)==(0:Int))then(bif(p156 (a0,a2,()))then(some (f156 (a0,a2,())))else none)else bif(p379 e4_)then(bif(p107 ((a2,e2_.1.2.1,(aa .i64 (e2_.1.2.2.1+a5)),e2_.1.2.2.2),a0,(f105 (a0,a1,())).1,a1,()))then(some (e1_.1,e1_.2.1,(0:Int),()))else none)else none)else none)else none)else none
theorem aSs(x:DenS NV):run (cf [(121,⟨IF,I4,p105,f105⟩),(122,⟨Fi,Fp,p102,f102⟩),(124,⟨Kp,KO,p156,f156⟩),(128,⟨NT,Pr,p379,f379⟩),(125,⟨IG,I5,p107,f107⟩)] []) 9 72 Tryz.f72 NV Ps x=lQ p105 f105 p102 f102 p156 f156 p379 f379 p107 f107 x.1 x.2.1 x.2.2.1 x.2.2.2.1 x.2.2.2.2.1 x.2.2.2.2.2.1:=by kernel_rfl
def XI(x:DenS NV):Option (DenS Ps):=lQ EI.pre EI.F Bh.pre Bh.F H2.pre H2.F QD.pre QD.F EJ.pre EJ.F x.1 x.2.1 x.2.2.1 x.2.2.2.1 x.2.2.2.2.1 x.2.2.2.2.2.1
def QF:Sum:=Aj NV Ps XI (DenS.dflt Ps)
theorem aJt:Sound Tryz.prog G1 72 QF:=sd (cf [(121,EI),(122,Bh),(124,H2),(128,QD),(125,EJ)] []) 72 Tryz.f72 ⟨oI,WK,x5,aJs,oJ,trivial⟩ trivial NV Ps XI _ (fun _=>aSs ..)
abbrev aBe:=Al NV
abbrev aCs:=Ak NV Ps
variable (p380:aBe)(f380:aCs)
abbrev NW:Ab:=[(false,.int .i64),(false,.int .i64),(false,.int .u64),(false,.int .u64)]
abbrev KT:Ab:=[(false,.int .u64),(false,.int .i64),(false,.int .i64)]
def lR(p376:aA9)(f376:aCn)(p377:aBa)(f377:aCo)(p378:aBb)(f378:aCp)(p97:Rf)(f97:Rj)(p118:JM)(f118:JQ)(p40:Re)(f40:Ri)(p380:aBe)(f380:aCs)(a0 a1:Aa (.int .i64))(a2 a3:Aa (.int .u64)):Option (DenS KT):=let e6_:=(!((f377 (a0,a2,())).1.2.2.2.2.1==(f377 (a0,a3,())).1.2.2.2.2.1));let e1_:=(a0,a1,e6_,(f40 (a0,a2,())).1.2.1,(f40 (a0,a3,())).1.2.1,(aa .i64 ((f40 (a0,a2,())).1.2.2.1-(f40 (a0,a3,())).1.2.2.1)),());let e5_:=(a0,e6_,());let e2_:=(f118 e5_);let e3_:=(f97 e5_);let e4_:=(p97 e5_);let g1_:Option (DenS KT):=bif(p378 (a0,(1:Int),()))then(some (f378 (a0,(1:Int),())))else none;bif(p376 (a0,a1,(a2::(a3::[])),()))then(bif((f376 (a0,a1,(a2::(a3::[])),())).1 !=(0:Int))then(some ((0:Int),(0:Int),(f376 (a0,a1,(a2::(a3::[])),()))))else bif(p377 (a0,a2,()))then(bif(p377 (a0,a3,()))then(bif((f377 (a0,a2,())).1.2.1||(f377 (a0,a3,())).1.2.1)then(g1_)else bif((f377 (a0,a2,())).1.1||(f377 (a0,a3,())).1.1)then(bif(p378 (a0,(0:Int),()))then(some (f378 (a0,(0:Int),())))else none)else bif(((f377 (a0,a2,())).1.2.2.1&&(f377 (a0,a3,())).1.2.2.1)||((f377 (a0,a2,())).1.2.2.2.1&&(f377 (a0,a3,())).1.2.2.2.1))then(g1_)else bif(f377 (a0,a2,())).1.2.2.1 then(bif e4_ then(some (e3_.1,(0:Int),e3_.2))else none)else bif(f377 (a0,a3,())).1.2.2.2.1 then(bif e4_ then(some (e3_.1,(2:Int),e3_.2))else none)else bif((f377 (a0,a3,())).1.2.2.1||(f377 (a0,a2,())).1.2.2.2.1)then(bif(p118 e5_)then(some (e2_.1,(0:Int),e2_.2))else none)else bif(p40 (a0,a2,()))then(bif(p40 (a0,a3,()))then(bif(p380 e1_)then(some (f380 e1_))else none)else none)else none)else none)else none)else none
theorem aSt(x:DenS NW):run (cf [(68,⟨NQ,Po,p376,f376⟩),(69,⟨NR,Pp,p377,f377⟩),(70,⟨NS,Pq,p378,f378⟩),(65,⟨GG,GN,p97,f97⟩),(38,⟨E4,Fq,p118,f118⟩),(71,⟨GC,GJ,p40,f40⟩),(72,⟨NV,Ps,p380,f380⟩)] []) 9 18 Tryz.f18 NW KT x=lR p376 f376 p377 f377 p378 f378 p97 f97 p118 f118 p40 f40 p380 f380 x.1 x.2.1 x.2.2.1 x.2.2.2.1:=by kernel_rfl
def XJ(x:DenS NW):Option (DenS KT):=lR QA.pre QA.F QB.pre QB.F QC.pre QC.F BY.pre BY.F Bb.pre Bb.F Cy.pre Cy.F QF.pre QF.F x.1 x.2.1 x.2.2.1 x.2.2.2.1
def LD:Sum:=Aj NW KT XJ (DenS.dflt KT)
theorem yE:Sound Tryz.prog G1 18 LD:=sd (cf [(68,QA),(69,QB),(70,QC),(65,BY),(38,Bb),(71,Cy),(72,QF)] []) 18 Tryz.f18 ⟨aJp,aJq,aJr,WR,TG,WO,aJt,trivial⟩ trivial NW KT XJ _ (fun _=>aSt ..)
abbrev qB:=Al NW
abbrev rE:=Ak NW KT
variable (p381:qB)(f381:rE)
abbrev cF:Ab:=[(false,.int .i64),(false,.int .i64),(false,.int .u64),(false,.int .u64)]
abbrev oE:Ab:=[(false,.int .u64),(false,.int .i64),(false,.int .i64)]
def Qc:SumF:=J0 cF oE [(15,[],Fy),(16,[],LB),(17,[],LC),(18,[],LD)]
theorem aIH:Kk Tryz.prog G1 Qc:=UQ ⟨DK oR,⟨DK yA,⟨DK yD,⟨DK yE,trivial⟩⟩⟩⟩
abbrev aAC:=Option (Nat×List Nat)->Al cF
abbrev aBQ:=Option (Nat×List Nat)->Ak cF oE
variable (p100002:aAC)(f100002:aBQ)
abbrev N0:Ab:=[(true,.pair (.int .i64) (.pair (.int .i64) (.pair (.int .u64) (.pair (.int .u64) (.pair (.int .u64) .unit))))),(false,.box (.pfn))]
abbrev KU:Ab:=[(false,.int .u64),(false,.int .i64),(false,.int .i64)]
def lV(p100002:aAC)(f100002:aBQ)(a0:Aa (.pair (.int .i64) (.pair (.int .i64) (.pair (.int .u64) (.pair (.int .u64) (.pair (.int .u64) .unit))))))(a1:Aa (.box (.pfn))):Option (DenS KU):=let e1_:=(a0.2.1,a0.1,a0.2.2.1,a0.2.2.2.1,());bif(p100002 (some (a1,[])) e1_)then(some (f100002 (some (a1,[])) e1_))else none
theorem aSx(x:DenS N0):run ({cf [] []with fns:=[(31,⟨cF,oE,p100002,f100002⟩)] }) 9 255 Tryz.f255 N0 KU x=lV p100002 f100002 x.1 x.2.1:=by kernel_rfl
def XN(x:DenS N0):Option (DenS KU):=lV Qc.pre Qc.F x.1 x.2.1
def Dl:Sum:=Aj N0 KU XN (DenS.dflt KU)
theorem WN:Sound Tryz.prog G1 255 Dl:=sd ({cf [] []with fns:=[(31,Qc)] }) 255 Tryz.f255 trivial trivial N0 KU XN _ (fun _=>aSx ..) (hfs:=⟨aIH,trivial⟩)
abbrev qC:=Al N0
abbrev rF:=Ak N0 KU
variable (p395:qC)(f395:rF)
abbrev NB:Ab:=[(false,.int .i64),(false,.int .i64),(false,.slice (.int .u64))]
abbrev O9:Ab:=[(true,.pair (.int .i64) (.pair (.int .i64) (.pair (.int .i64) (.pair (.int .i64) (.unit))))),(false,.int .i64)]
abbrev GP:Pat:=⟨44,[(30,.one (.v .i64)),(29,.one (.sl (.int .u64))),(0,.one (.v .i64)),(31,.one (.v .i64)),(8,.one (.ptr 1 0)),(6,.one (.ptr 0 0))],[.raw [.v .i64,.v .i64,.v .i64,.v .i64],.raw [.v .i64,.v .i64,.v .i64,.v .i64]]⟩
abbrev bO:List (Nat×Shape):=[]
abbrev Mf:List (Nat×Pat):=[(0,⟨44,[(8,.one (.ptr 1 0)),(6,.one (.ptr 0 0))],[.raw [.v .i64,.v .i64,.v .i64,.v .i64],.raw [.v .i64,.v .i64,.v .i64,.v .i64]]⟩)]
abbrev Ll:Option Pat:=(some ⟨44,[(6,.one (.ptr 0 0)),(7,.one (.v .i64))],[.raw [.v .i64,.v .i64,.v .i64,.v .i64]]⟩)
variable (w311_7:Pat.D GP->Option (Ah Mf Ll))
def Vf(p69:BK)(f69:BL)(p66:Cm)(f66:Cn){R:Type}(L:Pat.D GP->Option R)(e:Ah Mf Ll->Option R)(x:Pat.D GP):Option R:=let e2_:=(x.1.2.2.1,(x.1.2.1.getD (aj x.1.2.2.2.1) (0:Int)),());let e1_:=(f66 e2_);bif(decide (x.1.2.2.2.1<x.1.1))then(bif((decide ((0:Int)<=x.1.2.2.2.1))&&(decide (x.1.2.2.2.1<(x.1.2.1.length:Int))))then(bif(p66 e2_)then(bif(e1_.1 !=(0:Int))then(((e (.inr (((),e1_),x.2.2)))))else(L ((x.1.1,x.1.2.1,x.1.2.2.1,(aa .i64 (x.1.2.2.2.1+(1:Int))),(),(),()),x.2)))else none)else none)else(e (.inl (((),(),()),x.2)))
theorem aUn(d:Nat)(R:Type)(L:Pat.D GP->Option R)(e:Ah Mf Ll->Option R)(x:Pat.D GP):
  BA (cf [(54,⟨Ck,Cl,p69,f69⟩),(59,⟨CI,CJ,p66,f66⟩)] [(133,7,LoopSpec.of GP bO Mf Ll w311_7)]) (d+2) 133 (Bw Tryz.f133 7) GP bO Mf Ll (R:=R) L e x=Vf p69 f69 p66 f66 L e x:=by kernel_rfl
theorem aFL(p69:BK)(f69:BL)(p66:Cm)(f66:Cn):Bp fun L e x=>Vf p69 f69 p66 f66 L e x:=by intro _ _ _ _ _ _ _ h0 hL he _;unfold Vf;repeat' (first|exact h0|exact hL _|exact he _|apply BT|(apply BU h0;intro _)|(apply BV<;>intro _))
def Wb(p69:BK)(f69:BL)(p66:Cm)(f66:Cn)(w311_7:Pat.D GP->Option (Ah Mf Ll))(a0 a1:Aa (.int .i64))(a2:Aa (.slice (.int .u64))):Option (DenS O9):=
 bif(p69 (a0,()))then(bif((f69 (a0,())).2.1 !=(0:Int))then(some (f69 (a0,())))
 else bif((decide (a1<(0:Int)))||(decide (a1>(5:Int))))then(some ((f69 (a0,())).1,(3:Int),()))
 else Vx.AY (w311_7 (((a2.length:Int),a2,a0,(0:Int),(),(),()),((0:Int),(0:Int),(0:Int),(0:Int),()),(f69 (a0,())).1,())) fun y3=>
 Vx.A1 y3 (fun y4=>
 some (y4.2.2.1,(0:Int),())) (fun z4=>
 some (z4.2.1,z4.1.2)))
 else none
theorem aRZ(x:DenS NB):run (cf [(54,⟨Ck,Cl,p69,f69⟩),(59,⟨CI,CJ,p66,f66⟩)] [(133,7,LoopSpec.of GP bO Mf Ll w311_7)]) 9 133 Tryz.f133 NB O9 x=Wb p69 f69 p66 f66 w311_7 x.1 x.2.1 x.2.2.1:=by kernel_rfl
def YG:GP.D->Option (Ah Mf Ll):=Bf fun L=>Vf Aq.pre Aq.F Ar.pre Ar.F L some
def TY(x:DenS NB):Option (DenS O9):=Wb Aq.pre Aq.F Ar.pre Ar.F YG x.1 x.2.1 x.2.2.1
def Qn:Sum:=Aj NB O9 TY (DenS.dflt O9)
theorem aI6:Sound Tryz.prog G1 133 Qn:=sd (cf [(54,Aq),(59,Ar)] [(133,7,LoopSpec.of GP bO Mf Ll YG)]) 133 Tryz.f133 ⟨Em,Gl,trivial⟩ ⟨rfl,fun d=>BR (fun L e x=>Vf Aq.pre Aq.F Ar.pre Ar.F L e x) (aFL Aq.pre Aq.F Ar.pre Ar.F) (fun _ _ _ _=>aUn ..),trivial⟩ NB O9 TY _ (fun _=>aRZ ..)
abbrev pW:=Al NB
abbrev q9:=Ak NB O9
variable (p311:pW)(f311:q9)
abbrev NC:Ab:=[(false,.int .i64),(false,.int .i64)]
abbrev Pa:Ab:=[(false,.int .u64),(false,.int .i64),(false,.bool)]
def kV(p70:Ec)(f70:Ed)(a0 a1:Aa (.int .i64)):Option (DenS Pa):=bif(p70 (a0,()))then(bif(a1==(1:Int))then(some ((f70 (a0,())).1,(0:Int),true,()))else bif(a1==(0:Int))then(bif(a1==(0:Int))then(some ((f70 (a0,())).1,(1:Int),true,()))else some ((0:Int),(0:Int),false,()))else bif(a1==(2:Int))then(bif(a1==(2:Int))then(some ((f70 (a0,())).1,(1:Int),true,()))else some ((0:Int),(0:Int),false,()))else bif(a1==(3:Int))then(bif(a1==(3:Int))then(some ((f70 (a0,())).1,(1:Int),true,()))else some ((0:Int),(0:Int),false,()))else bif(a1==(4:Int))then(some ((f70 (a0,())).1,(1:Int),true,()))else some ((0:Int),(0:Int),false,()))else none
theorem aR0(x:DenS NC):run (cf [(56,⟨DE,DF,p70,f70⟩)] []) 9 134 Tryz.f134 NC Pa x=kV p70 f70 x.1 x.2.1:=by kernel_rfl
def Xm(x:DenS NC):Option (DenS Pa):=kV AB.pre AB.F x.1 x.2.1
def Qo:Sum:=Aj NC Pa Xm (DenS.dflt Pa)
theorem aI7:Sound Tryz.prog G1 134 Qo:=sd (cf [(56,AB)] []) 134 Tryz.f134 ⟨GY,trivial⟩ trivial NC Pa Xm _ (fun _=>aR0 ..)
abbrev pX:=Al NC
abbrev rA:=Ak NC Pa
variable (p312:pX)(f312:rA)
abbrev ND:Ab:=[(false,.int .i64),(true,.pair (.int .i64) (.pair (.int .i64) (.pair (.int .i64) (.pair (.int .i64) (.unit))))),(false,.int .u64)]
abbrev Pb:Ab:=[(false,.int .u64),(false,.int .i64)]
def kW(p98:JP)(f98:JT)(a0:Aa (.int .i64))(a1:Aa (.pair (.int .i64) (.pair (.int .i64) (.pair (.int .i64) (.pair (.int .i64) (.unit))))))(a2:Aa (.int .u64)):Option (DenS Pb):=let e1_:=(aa .i64 (a1.2.1-(1:Int)));bif(p98 (a0,a2,()))then(bif((f98 (a0,a2,())).2.1==(0:Int))then(some ((f98 (a0,a2,())).2.2.1,(aa .i64 ((aa .i64 ((aa .i64 ((aa .i64 ((aa .i64 (1:Int))-(1:Int)))+a1.2.2.1))-a1.2.1))+(1:Int))),()))else bif(decide ((0:Int)<=e1_))then(some ((A7 .u64 (f98 (a0,a2,())).2.2.1 (AQ .u64 (1:Int) e1_)),(aa .i64 ((aa .i64 ((aa .i64 ((aa .i64 ((aa .i64 (f98 (a0,a2,())).2.1)-(1:Int)))+a1.2.2.1))-a1.2.1))+(1:Int))),()))else none)else none
theorem aR1(x:DenS ND):run (cf [(119,⟨Fj,Fv,p98,f98⟩)] []) 9 135 Tryz.f135 ND Pb x=kW p98 f98 x.1 x.2.1 x.2.2.1:=by kernel_rfl
def Xn(x:DenS ND):Option (DenS Pb):=kW Br.pre Br.F x.1 x.2.1 x.2.2.1
def Qp:Sum:=Aj ND Pb Xn (DenS.dflt Pb)
theorem aI8:Sound Tryz.prog G1 135 Qp:=sd (cf [(119,Br)] []) 135 Tryz.f135 ⟨R3,trivial⟩ trivial ND Pb Xn _ (fun _=>aR1 ..)
abbrev pY:=Al ND
abbrev rB:=Ak ND Pb
variable (p313:pY)(f313:rB)
abbrev NE:Ab:=[(true,.pair (.int .u64) (.pair (.int .u64) (.unit)))]
abbrev Pc:Ab:=[(false,.int .i64)]
def kX(p178:H6)(f178:H9)(a0:Aa (.pair (.int .u64) (.pair (.int .u64) (.unit)))):Option (DenS Pc):=bif(a0.1 !=(0:Int))then(bif(p178 (a0.1,()))then(some ((aa .i64 ((64:Int)+(f178 (a0.1,())).1)),()))else none)else bif(p178 a0.2)then(some (f178 a0.2))else none
theorem aR2(x:DenS NE):run (cf [(83,⟨F3,Ft,p178,f178⟩)] []) 9 136 Tryz.f136 NE Pc x=kX p178 f178 x.1:=by kernel_rfl
def Xo(x:DenS NE):Option (DenS Pc):=kX Bx.pre Bx.F x.1
def Qq:Sum:=Aj NE Pc Xo (DenS.dflt Pc)
theorem aI9:Sound Tryz.prog G1 136 Qq:=sd (cf [(83,Bx)] []) 136 Tryz.f136 ⟨WM,trivial⟩ trivial NE Pc Xo _ (fun _=>aR2 ..)
abbrev pZ:=Al NE
abbrev rC:=Ak NE Pc
variable (p314:pZ)(f314:rC)
end Vx
end
