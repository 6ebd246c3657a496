/- Part 4 of the proof. What is proved: symbolic execution of the functions, proved sound; what each function of the program computes, and that every run ends with it; what these functions compute, in plain numbers. Conditions: each theorem bears its own. -/
import Derived.Test.YtkkidampbmfagaaGreatDoorVxG3
import Derived.Test.YtkkidampbmfagaaGreatDoorProg
set_option linter.all false
set_option exponentiation.threshold 1000000
noncomputable section
namespace Vx
open Go Go.Proofs
abbrev rowsSh:Shape:=.pair (.int .i64) (.pair (.int .i64) (.pair (.int .i64) (.pair (.int .i64) .unit)))
def k_rows:List (Aa rowsSh):=[(16,11,-14,15,()),(16,8,-126,127,()),(32,24,-126,127,()),(64,53,-1022,1023,())]
def GD:List UInt8:=[0,1,2,2,3,3,3,3,4,4,4,4,4,4,4,4,5,5,5,5,5,5,5,5,5,5,5,5,5,5,5,5,6,6,6,6,6,6,6,6,6,6,6,6,6,6,6,6,6,6,6,6,6,6,6,6,6,6,6,6,6,6,6,6,7,7,7,7,7,7,7,7,7,7,7,7,7,7,7,7,7,7,7,7,7,7,7,7,7,7,7,7,7,7,7,7,7,7,7,7,7,7,7,7,7,7,7,7,7,7,7,7,7,7,7,7,7,7,7,7,7,7,7,7,7,7,7,7,8,8,8,8,8,8,8,8,8,8,8,8,8,8,8,8,8,8,8,8,8,8,8,8,8,8,8,8,8,8,8,8,8,8,8,8,8,8,8,8,8,8,8,8,8,8,8,8,8,8,8,8,8,8,8,8,8,8,8,8,8,8,8,8,8,8,8,8,8,8,8,8,8,8,8,8,8,8,8,8,8,8,8,8,8,8,8,8,8,8,8,8,8,8,8,8,8,8,8,8,8,8,8,8,8,8,8,8,8,8,8,8,8,8,8,8,8,8,8,8,8,8,8,8,8,8,8,8]
def k_deb:List (Aa (.int .u8)):=[0,1,56,2,57,49,28,3,61,58,42,50,38,29,17,4,62,47,59,36,45,43,51,22,53,39,33,30,24,18,12,5,63,55,48,27,60,41,37,16,46,35,44,21,52,32,23,11,54,26,40,15,34,20,31,10,25,14,19,9,13,8,7,6]
def G1:List (Nat×Sigma fun τ=>List (Aa τ)):=[(2,⟨rowsSh,k_rows⟩),(3,⟨.int .u8,k_deb⟩)]
abbrev An (I:Ac):=DenS I->Bool
abbrev Am (I O:Ac):=DenS I->DenS O
@[reducible] def cf (s:List (FuncId×Sum)) (l:List (FuncId×Nat×LoopSpec)):Cfg:={ P:=Tryz.prog,sums:=s,loops:=l,globs:=G1 }
theorem sd (C:Cfg) (n:FuncId) (fn:Func) (hs:Oi C.P C.globs C.sums) (hl:Nb C n fn C.loops) (I O:Ac) (t:DenS I->Option (DenS O)) (d:DenS O) (h:∀ x,run C 9 n fn I O x=t x) (hls:Oj C.P C.globs C.lsums:=by exact trivial) (hfs:Og C.P C.globs C.fns:=by exact trivial) (hms:Oh C.P C.globs C.meths:=by exact trivial)
  (hm : C.P.follows .mixedOrders = true := by kernel_rfl) (hf : C.P.funcs[n]? = some fn := by kernel_rfl) (hb : (match fn.body with | some c => GG ((Cl c).map CN) | none => false) = true := by kernel_rfl) (hn : (fn.name == "runtime.NumGoroutine") = false := by kernel_rfl) : Sound C.P C.globs n (Al I O t d) :=
 aCP C 9 n fn hm hf hb hn hs hl I O t d h hls hfs hms
theorem JU (C:Cfg) (n:FuncId) (fn:Func) (hs:Oi C.P C.globs C.sums) (hl:Nb C n fn C.loops) (k:LK) (I O:Ac) (t:k.D×DenS I->Option (k.B×DenS O)) (d:k.B×DenS O) (h:∀ x,ED C 9 n fn k I O x=t x) (hls:Oj C.P C.globs C.lsums:=by exact trivial) (hfs:Og C.P C.globs C.fns:=by exact trivial) (hms:Oh C.P C.globs C.meths:=by exact trivial)
  (hm : C.P.follows .mixedOrders = true := by kernel_rfl) (hf : C.P.funcs[n]? = some fn := by kernel_rfl) (hb : (match fn.body with | some c => GG ((Cl c).map CN) | none => false) = true := by kernel_rfl) (hn : (fn.name == "runtime.NumGoroutine") = false := by kernel_rfl) : SoundL C.P C.globs n (EF k I O t d) :=
 aCQ C 9 n fn hm hf hb hn hs hl k I O t d h hls hfs hms
abbrev KA:Ac:=[(false,.int .i64)]
abbrev Ls:Ac:=[(false,.int .i64)]
def Yh (a0:Aa (.int .i64)):Option (DenS Ls) :=
 some ((IntKind.wrap .i64 (Int.tmod (IntKind.wrap .u64 a0) (4:Int))),())
theorem aHl (x:DenS KA):run (cf [] []) 9 85 Tryz.f85 KA Ls x=Yh x.1:=by kernel_rfl
def RC (x:DenS KA):Option (DenS Ls):=Yh x.1
def Mf:Sum:=Al KA Ls RC (DenS.dflt Ls)
theorem zL:Sound Tryz.prog G1 85 Mf:=sd (cf [] []) 85 Tryz.f85 trivial trivial KA Ls RC _ (fun _=>aHl ..)
abbrev kU:=An KA
abbrev mM:=Am KA Ls
variable (p385:kU) (f385:mM)
abbrev KB:Ac:=[(false,.int .i64)]
abbrev Lt:Ac:=[(false,.int .i64)]
def wV (a0:Aa (.int .i64)):Option (DenS Lt) :=
 some ((IntKind.wrap .i64 (Int.tmod (IntKind.wrap .u64 a0) (6:Int))),())
theorem aHm (x:DenS KB):run (cf [] []) 9 86 Tryz.f86 KB Lt x=wV x.1:=by kernel_rfl
def RD (x:DenS KB):Option (DenS Lt):=wV x.1
def Mg:Sum:=Al KB Lt RD (DenS.dflt Lt)
theorem zM:Sound Tryz.prog G1 86 Mg:=sd (cf [] []) 86 Tryz.f86 trivial trivial KB Lt RD _ (fun _=>aHm ..)
abbrev kV:=An KB
abbrev mN:=Am KB Lt
variable (p386:kV) (f386:mN)
abbrev KC:Ac:=[(false,.int .i64)]
abbrev Lu:Ac:=[(false,.int .i64),(false,.int .i64),(false,.int .i64)]
def wW (a0:Aa (.int .i64)):Option (DenS Lu) :=
 bif (a0==(0:Int)) then (some ((16:Int),(11:Int),(-(14:Int)),()))
 else bif (a0==(1:Int)) then (some ((16:Int),(8:Int),(-(126:Int)),()))
 else bif (a0==(2:Int)) then (some ((32:Int),(24:Int),(-(126:Int)),()))
 else some ((64:Int),(53:Int),(-(1022:Int)),())
theorem aHn (x:DenS KC):run (cf [] []) 9 131 Tryz.f131 KC Lu x=wW x.1:=by kernel_rfl
def OO (x:DenS KC):Option (DenS Lu):=wW x.1
def Hq:Sum:=Al KC Lu OO (DenS.dflt Lu)
theorem zN:Sound Tryz.prog G1 131 Hq:=sd (cf [] []) 131 Tryz.f131 trivial trivial KC Lu OO _ (fun _=>aHn ..)
abbrev kW:=An KC
abbrev mO:=Am KC Lu
variable (p387:kW) (f387:mO)
abbrev KD:Ac:=[(false,.int .i64),(false,.int .u64)]
abbrev Lv:Ac:=[(false,.int .u64)]
def Qy (p387:kW) (f387:mO) (a0:Aa (.int .i64)) (a1:Aa (.int .u64)):Option (DenS Lv) :=
 bif (p387 (a0,())) then (bif ((f387 (a0,())).1==(64:Int)) then (some (a1,()))
 else bif (decide ((0:Int)<=(f387 (a0,())).1)) then (some ((CK .u64 a1 (IntKind.wrap .u64 ((Bp .u64 (1:Int) (f387 (a0,())).1)-(1:Int)))),()))
 else none)
 else none
theorem aHo (x:DenS KD):run (cf [(131,⟨KC,Lu,p387,f387⟩)] []) 9 87 Tryz.f87 KD Lv x=Qy p387 f387 x.1 x.2.1:=by kernel_rfl
def OP (x:DenS KD):Option (DenS Lv):=Qy Hq.pre Hq.F x.1 x.2.1
def Mh:Sum:=Al KD Lv OP (DenS.dflt Lv)
theorem zO:Sound Tryz.prog G1 87 Mh:=sd (cf [(131,Hq)] []) 87 Tryz.f87 ⟨zN,trivial⟩ trivial KD Lv OP _ (fun _=>aHo ..)
abbrev kX:=An KD
abbrev mP:=Am KD Lv
variable (p388:kX) (f388:mP)
abbrev KE:Ac:=[(true,.pair (.int .i64) (.pair (.int .i64) (.pair (.int .u64) (.pair (.int .u64) (.pair (.int .u64) (.unit))))))]
abbrev Lw:Ac:=[(true,.pair (.int .i64) (.pair (.int .i64) (.pair (.int .u64) (.pair (.int .u64) (.pair (.int .u64) (.unit))))))]
def Yi (p385:kU) (f385:mM) (p386:kV) (f386:mN) (p388:kX) (f388:mP) (a0:Aa (.pair (.int .i64) (.pair (.int .i64) (.pair (.int .u64) (.pair (.int .u64) (.pair (.int .u64) (.unit))))))):Option (DenS Lw) :=
 bif (p385 (a0.1,())) then (bif (p386 (a0.2.1,())) then (bif (p388 ((f385 (a0.1,())).1,a0.2.2.1,())) then (bif (p388 ((f385 (a0.1,())).1,a0.2.2.2.1,())) then (bif (p388 ((f385 (a0.1,())).1,a0.2.2.2.2)) then (some (((f385 (a0.1,())).1,(f386 (a0.2.1,())).1,(f388 ((f385 (a0.1,())).1,a0.2.2.1,())).1,(f388 ((f385 (a0.1,())).1,a0.2.2.2.1,())).1,(f388 ((f385 (a0.1,())).1,a0.2.2.2.2))),()))
 else none)
 else none)
 else none)
 else none)
 else none
theorem aHp (x:DenS KE):run (cf [(85,⟨KA,Ls,p385,f385⟩),(86,⟨KB,Lt,p386,f386⟩),(87,⟨KD,Lv,p388,f388⟩)] []) 9 29 Tryz.f29 KE Lw x=Yi p385 f385 p386 f386 p388 f388 x.1:=by kernel_rfl
def RE (x:DenS KE):Option (DenS Lw):=Yi Mf.pre Mf.F Mg.pre Mg.F Mh.pre Mh.F x.1
def Mi:Sum:=Al KE Lw RE (DenS.dflt Lw)
theorem zP:Sound Tryz.prog G1 29 Mi:=sd (cf [(85,Mf),(86,Mg),(87,Mh)] []) 29 Tryz.f29 ⟨zL,zM,zO,trivial⟩ trivial KE Lw RE _ (fun _=>aHp ..)
abbrev ZF:=An KE
abbrev Z2:=Am KE Lw
variable (p389:ZF) (f389:Z2)
abbrev CY:Ac:=[(false,.int .i64)]
abbrev CZ:Ac:=[(true,.pair (.int .i64) (.pair (.int .i64) (.pair (.int .i64) (.pair (.int .i64) (.unit))))),(false,.int .i64)]
def YF (a0:Aa (.int .i64)):Option (DenS CZ) :=
 let e1_:=((0:Int),(0:Int),(0:Int),(0:Int),())
 bif ((decide (a0<(0:Int)))||(decide (a0>=(4:Int)))) then (some (e1_,(2:Int),()))
 else bif ((decide ((0:Int)<=a0))&&(decide (a0<((4:Nat):Int)))) then (some ((Vx.k_rows.getD (Int.toNat a0) e1_),(0:Int),()))
 else none
theorem r69 (x:DenS CY):run (cf [] []) 9 54 Tryz.f54 CY CZ x=YF x.1:=by kernel_rfl
def OS (x:DenS CY):Option (DenS CZ):=YF x.1
def AE:Sum:=Al CY CZ OS (DenS.dflt CZ)
theorem Ht:Sound Tryz.prog G1 54 AE:=sd (cf [] []) 54 Tryz.f54 trivial trivial CY CZ OS _ (fun _=>r69 ..)
abbrev Dl:=An CY
abbrev Dn:=Am CY CZ
variable (p69:Dl) (f69:Dn)
abbrev C3:Ac:=[(false,.int .i64),(false,.int .u64)]
abbrev C4:Ac:=[(false,.int .i64)]
def YE (p69:Dl) (f69:Dn) (a0:Aa (.int .i64)) (a1:Aa (.int .u64)):Option (DenS C4) :=
 bif (p69 (a0,())) then (bif ((f69 (a0,())).2.1 != (0:Int)) then (some (f69 (a0,())).2)
 else bif ((decide ((0:Int)<=(f69 (a0,())).1.1))||(!(decide ((f69 (a0,())).1.1<(64:Int))))) then (bif ((decide ((f69 (a0,())).1.1<(64:Int)))&&((AN .u64 a1 (f69 (a0,())).1.1) != (0:Int))) then (some ((4:Int),()))
 else some ((0:Int),()))
 else none)
 else none
theorem r66 (x:DenS C3):run (cf [(54,⟨CY,CZ,p69,f69⟩)] []) 9 59 Tryz.f59 C3 C4 x=YE p69 f69 x.1 x.2.1:=by kernel_rfl
def R0 (x:DenS C3):Option (DenS C4):=YE AE.pre AE.F x.1 x.2.1
def Aw:Sum:=Al C3 C4 R0 (DenS.dflt C4)
theorem Mv:Sound Tryz.prog G1 59 Aw:=sd (cf [(54,AE)] []) 59 Tryz.f59 ⟨Ht,trivial⟩ trivial C3 C4 R0 _ (fun _=>r66 ..)
abbrev Dk:=An C3
abbrev Dm:=Am C3 C4
variable (p66:Dk) (f66:Dm)
abbrev DO:Ac:=[(false,.int .i64)]
abbrev DP:Ac:=[(false,.int .u64)]
def YI (a0:Aa (.int .i64)):Option (DenS DP) :=
 bif (decide ((0:Int)<=a0)) then (some ((IntKind.wrap .u64 ((Bp .u64 (1:Int) a0)-(1:Int))),()))
 else none
theorem r91 (x:DenS DO):run (cf [] []) 9 112 Tryz.f112 DO DP x=YI x.1:=by kernel_rfl
def R5 (x:DenS DO):Option (DenS DP):=YI x.1
def Be:Sum:=Al DO DP R5 (DenS.dflt DP)
theorem IT:Sound Tryz.prog G1 112 Be:=sd (cf [] []) 112 Tryz.f112 trivial trivial DO DP R5 _ (fun _=>r91 ..)
abbrev Gq:=An DO
abbrev Gr:=Am DO DP
variable (p91:Gq) (f91:Gr)
abbrev G3:Ac:=[(true,.pair (.int .i64) (.pair (.int .i64) (.pair (.int .i64) (.pair (.int .i64) (.unit))))),(false,.int .u64)]
abbrev Hi:Ac:=[(false,.bool),(false,.int .u64),(false,.int .u64)]
def YH (p91:Gq) (f91:Gr) (a0:Aa (.pair (.int .i64) (.pair (.int .i64) (.pair (.int .i64) (.pair (.int .i64) (.unit)))))) (a1:Aa (.int .u64)):Option (DenS Hi) :=
 let e5_:=(IntKind.wrap .i64 (a0.2.1-(1:Int)))
 let e1_:=(e5_,())
 let e2_:=((IntKind.wrap .i64 (a0.1-a0.2.1)),())
 let e3_:=e5_
 let e4_:=(IntKind.wrap .i64 (a0.1-(1:Int)))
 bif (decide ((0:Int)<=e4_)) then (bif (decide ((0:Int)<=e3_)) then (bif (p91 e2_) then (bif (p91 e1_) then (some (((AN .u64 a1 e4_) != (0:Int)),(CK .u64 (AN .u64 a1 e3_) (f91 e2_).1),(CK .u64 a1 (f91 e1_).1),()))
 else none)
 else none)
 else none)
 else none
theorem r90 (x:DenS G3):run (cf [(112,⟨DO,DP,p91,f91⟩)] []) 9 111 Tryz.f111 G3 Hi x=YH p91 f91 x.1 x.2.1:=by kernel_rfl
def R4 (x:DenS G3):Option (DenS Hi):=YH Be.pre Be.F x.1 x.2.1
def C0:Sum:=Al G3 Hi R4 (DenS.dflt Hi)
theorem Zf:Sound Tryz.prog G1 111 C0:=sd (cf [(112,Be)] []) 111 Tryz.f111 ⟨IT,trivial⟩ trivial G3 Hi R4 _ (fun _=>r90 ..)
abbrev Sr:=An G3
abbrev SA:=Am G3 Hi
variable (p90:Sr) (f90:SA)
abbrev FO:Ac:=[(false,.int .i64),(false,.int .u64)]
abbrev F2:Ac:=[(false,.int .i64),(false,.int .i64)]
def Qz (p66:Dk) (f66:Dm) (p90:Sr) (f90:SA) (p91:Gq) (f91:Gr) (a0:Aa (.int .i64)) (a1:Aa (.int .u64)):Option (DenS F2) :=
 let e10_:=(Vx.k_rows.getD (Int.toNat a0) ((0:Int),(0:Int),(0:Int),(0:Int),()))
 let e9_:=(f90 (e10_,a1,()))
 let e8_:=((IntKind.wrap .i64 (e10_.1-e10_.2.1)),())
 let e1_:=(e9_.2.1==(f91 e8_).1)
 let e2_:=(p91 e8_)
 let e3_:=(IntKind.wrap .i64 (e10_.2.1-(2:Int)))
 let e4_:=(e9_.2.2.1==(0:Int))
 let e5_:=(e9_.2.1==(0:Int))
 let e6_:=e9_
 let e7_:=e10_
 bif (p66 (a0,a1,())) then (bif ((f66 (a0,a1,())).1 != (0:Int)) then (some ((0:Int),(f66 (a0,a1,()))))
 else bif ((decide ((0:Int)<=a0))&&(decide (a0<((4:Nat):Int)))) then (bif (p90 (e7_,a1,())) then (bif e2_ then (bif (e1_&&e4_) then (bif e6_.1 then (some ((IntKind.wrap .i64 ((11:Int)-(9:Int))),(0:Int),()))
 else some ((9:Int),(0:Int),()))
 else bif e2_ then (bif ((decide ((0:Int)<=e3_))||(!(decide (e6_.2.1=(f91 ((IntKind.wrap .i64 (e7_.1-e7_.2.1)),())).1)))) then (bif (e1_&&((AN .u64 e6_.2.2.1 e3_) != (0:Int))) then (some ((1:Int),(0:Int),()))
 else bif e2_ then (bif e1_ then (some ((0:Int),(0:Int),()))
 else bif (e5_&&e4_) then (bif e6_.1 then (some ((IntKind.wrap .i64 ((11:Int)-(6:Int))),(0:Int),()))
 else some ((6:Int),(0:Int),()))
 else bif e5_ then (bif e6_.1 then (some ((IntKind.wrap .i64 ((11:Int)-(7:Int))),(0:Int),()))
 else some ((7:Int),(0:Int),()))
 else bif e6_.1 then (some ((IntKind.wrap .i64 ((11:Int)-(8:Int))),(0:Int),()))
 else some ((8:Int),(0:Int),()))
 else none)
 else none)
 else none)
 else none)
 else none)
 else none)
 else none
theorem r65 (x:DenS FO):run (cf [(59,⟨C3,C4,p66,f66⟩),(111,⟨G3,Hi,p90,f90⟩),(112,⟨DO,DP,p91,f91⟩)] []) 9 55 Tryz.f55 FO F2 x=Qz p66 f66 p90 f90 p91 f91 x.1 x.2.1:=by kernel_rfl
def OR (x:DenS FO):Option (DenS F2):=Qz Aw.pre Aw.F C0.pre C0.F Be.pre Be.F x.1 x.2.1
def Cx:Sum:=Al FO F2 OR (DenS.dflt F2)
theorem UN:Sound Tryz.prog G1 55 Cx:=sd (cf [(59,Aw),(111,C0),(112,Be)] []) 55 Tryz.f55 ⟨Mv,Zf,IT,trivial⟩ trivial FO F2 OR _ (fun _=>r65 ..)
abbrev O3:=An FO
abbrev Pf:=Am FO F2
variable (p65:O3) (f65:Pf)
abbrev GP:Ac:=[(true,.pair (.int .i64) (.pair (.int .i64) (.pair (.int .i64) (.pair (.int .i64) (.unit)))))]
abbrev G7:Ac:=[(false,.int .u64)]
def wL (a0:Aa (.pair (.int .i64) (.pair (.int .i64) (.pair (.int .i64) (.pair (.int .i64) (.unit)))))):Option (DenS G7) :=
 some ((0:Int),())
theorem aGm (x:DenS GP):run (cf [] []) 9 104 Tryz.f104 GP G7 x=wL x.1:=by kernel_rfl
def iT (x:DenS GP):Option (DenS G7):=wL x.1
def Hp:Sum:=Al GP G7 iT (DenS.dflt G7)
theorem Y8:Sound Tryz.prog G1 104 Hp:=sd (cf [] []) 104 Tryz.f104 trivial trivial GP G7 iT _ (fun _=>aGm ..)
abbrev Vi:=An GP
abbrev Vp:=Am GP G7
variable (p116:Vi) (f116:Vp)
abbrev J9:Ac:=[(true,.pair (.int .i64) (.pair (.int .i64) (.pair (.int .i64) (.pair (.int .i64) (.unit)))))]
abbrev K1:Ac:=[(false,.int .u64)]
def wM (a0:Aa (.pair (.int .i64) (.pair (.int .i64) (.pair (.int .i64) (.pair (.int .i64) (.unit)))))):Option (DenS K1) :=
 let e1_:=(IntKind.wrap .i64 (a0.2.1-(2:Int)))
 bif (decide ((0:Int)<=e1_)) then (some ((Bp .u64 (1:Int) e1_),()))
 else none
theorem aGn (x:DenS J9):run (cf [] []) 9 113 Tryz.f113 J9 K1 x=wM x.1:=by kernel_rfl
def iU (x:DenS J9):Option (DenS K1):=wM x.1
def UF:Sum:=Al J9 K1 iU (DenS.dflt K1)
theorem x7:Sound Tryz.prog G1 113 UF:=sd (cf [] []) 113 Tryz.f113 trivial trivial J9 K1 iU _ (fun _=>aGn ..)
abbrev j6:=An J9
abbrev lN:=Am J9 K1
variable (p117:j6) (f117:lN)
abbrev FK:Ac:=[(true,.pair (.int .i64) (.pair (.int .i64) (.pair (.int .i64) (.pair (.int .i64) (.unit))))),(false,.bool),(false,.int .u64),(false,.int .u64)]
abbrev FV:Ac:=[(false,.int .u64)]
def wO (a0:Aa (.pair (.int .i64) (.pair (.int .i64) (.pair (.int .i64) (.pair (.int .i64) (.unit)))))) (a1:Aa (.bool)) (a2 a3:Aa (.int .u64)):Option (DenS FV) :=
 let e3_:=(IntKind.wrap .i64 (a0.2.1-(1:Int)))
 let e1_:=(Bz .u64 (Bp .u64 a2 e3_) a3)
 let e2_:=(IntKind.wrap .i64 (a0.1-(1:Int)))
 bif (decide ((0:Int)<=e3_)) then (bif a1 then (bif (decide ((0:Int)<=e2_)) then (some ((Bz .u64 e1_ (Bp .u64 (1:Int) e2_)),()))
 else none)
 else some (e1_,()))
 else none
theorem aGz (x:DenS FK):run (cf [] []) 9 149 Tryz.f149 FK FV x=wO x.1 x.2.1 x.2.2.1 x.2.2.2.1:=by kernel_rfl
def iX (x:DenS FK):Option (DenS FV):=wO x.1 x.2.1 x.2.2.1 x.2.2.2.1
def ET:Sum:=Al FK FV iX (DenS.dflt FV)
theorem UG:Sound Tryz.prog G1 149 ET:=sd (cf [] []) 149 Tryz.f149 trivial trivial FK FV iX _ (fun _=>aGz ..)
abbrev Sm:=An FK
abbrev Sv:=Am FK FV
variable (p140:Sm) (f140:Sv)
abbrev FQ:Ac:=[(false,.int .i64)]
abbrev F3:Ac:=[(false,.int .u64),(false,.int .i64)]
def wY (p116:Vi) (f116:Vp) (p117:j6) (f117:lN) (p69:Dl) (f69:Dn) (p91:Gq) (f91:Gr) (p140:Sm) (f140:Sv) (a0:Aa (.int .i64)):Option (DenS F3) :=
 let e2_:=((IntKind.wrap .i64 ((f69 (a0,())).1.1-(f69 (a0,())).1.2.1)),())
 let e1_:=((f69 (a0,())).1,false,(IntKind.wrap .u64 ((f91 e2_).1-(f116 ((f69 (a0,())).1,())).1)),(f117 ((f69 (a0,())).1,())))
 bif (p69 (a0,())) then (bif ((f69 (a0,())).2.1 != (0:Int)) then (some ((0:Int),(f69 (a0,())).2))
 else bif (p91 e2_) then (bif (p116 ((f69 (a0,())).1,())) then (bif (p117 ((f69 (a0,())).1,())) then (bif (p140 e1_) then (some ((f140 e1_).1,(0:Int),()))
 else none)
 else none)
 else none)
 else none)
 else none
theorem r70 (x:DenS FQ):run (cf [(104,⟨GP,G7,p116,f116⟩),(113,⟨J9,K1,p117,f117⟩),(54,⟨CY,CZ,p69,f69⟩),(112,⟨DO,DP,p91,f91⟩),(149,⟨FK,FV,p140,f140⟩)] []) 9 56 Tryz.f56 FQ F3 x=wY p116 f116 p117 f117 p69 f69 p91 f91 p140 f140 x.1:=by kernel_rfl
def R2 (x:DenS FQ):Option (DenS F3):=wY Hp.pre Hp.F UF.pre UF.F AE.pre AE.F Be.pre Be.F ET.pre ET.F x.1
def CJ:Sum:=Al FQ F3 R2 (DenS.dflt F3)
theorem UO:Sound Tryz.prog G1 56 CJ:=sd (cf [(104,Hp),(113,UF),(54,AE),(112,Be),(149,ET)] []) 56 Tryz.f56 ⟨Y8,x7,Ht,IT,UG,trivial⟩ trivial FQ F3 R2 _ (fun _=>r70 ..)
abbrev O4:=An FQ
abbrev Pg:=Am FQ F3
variable (p70:O4) (f70:Pg)
abbrev FS:Ac:=[(false,.int .i64),(false,.int .u64)]
abbrev F5:Ac:=[(false,.bool),(false,.int .u64),(false,.int .u64),(false,.int .i64)]
def YK (p66:Dk) (f66:Dm) (p90:Sr) (f90:SA) (a0:Aa (.int .i64)) (a1:Aa (.int .u64)):Option (DenS F5) :=
 let e2_:=((Vx.k_rows.getD (Int.toNat a0) ((0:Int),(0:Int),(0:Int),(0:Int),())),a1,())
 let e1_:=(f90 e2_)
 bif (p66 (a0,a1,())) then (bif ((f66 (a0,a1,())).1 != (0:Int)) then (some (false,(0:Int),(0:Int),(f66 (a0,a1,()))))
 else bif (bif (decide ((0:Int)<=a0)) then (decide (a0<((4:Nat):Int))) else false) then (bif (p90 e2_) then (some (e1_.1,e1_.2.1,e1_.2.2.1,(0:Int),()))
 else none)
 else none)
 else none
theorem r98 (x:DenS FS):run (cf [(59,⟨C3,C4,p66,f66⟩),(111,⟨G3,Hi,p90,f90⟩)] []) 9 119 Tryz.f119 FS F5 x=YK p66 f66 p90 f90 x.1 x.2.1:=by kernel_rfl
def R8 (x:DenS FS):Option (DenS F5):=YK Aw.pre Aw.F C0.pre C0.F x.1 x.2.1
def Cz:Sum:=Al FS F5 R8 (DenS.dflt F5)
theorem US:Sound Tryz.prog G1 119 Cz:=sd (cf [(59,Aw),(111,C0)] []) 119 Tryz.f119 ⟨Mv,Zf,trivial⟩ trivial FS F5 R8 _ (fun _=>r98 ..)
abbrev O5:=An FS
abbrev Ph:=Am FS F5
variable (p98:O5) (f98:Ph)
abbrev KT:Ac:=[(false,.int .i64),(true,.pair (.int .i64) (.pair (.int .i64) (.pair (.int .i64) (.pair (.int .i64) (.unit))))),(false,.int .u64)]
abbrev LJ:Ac:=[(true,.pair (.bool) (.pair (.int .u64) (.pair (.int .i64) (.unit))))]
def YG (p98:O5) (f98:Ph) (a0:Aa (.int .i64)) (a1:Aa (.pair (.int .i64) (.pair (.int .i64) (.pair (.int .i64) (.pair (.int .i64) (.unit)))))) (a2:Aa (.int .u64)):Option (DenS LJ) :=
 let e1_:=(IntKind.wrap .i64 ((IntKind.wrap .i64 (a1.2.2.1-a1.2.1))+(1:Int)))
 let e2_:=(IntKind.wrap .i64 (a1.2.1-(1:Int)))
 bif (p98 (a0,a2,())) then (bif (decide ((f98 (a0,a2,())).2.1>(0:Int))) then (bif (decide ((0:Int)<=e2_)) then (some (((f98 (a0,a2,())).1,(Bz .u64 (f98 (a0,a2,())).2.2.1 (Bp .u64 (1:Int) e2_)),(IntKind.wrap .i64 (e1_+(IntKind.wrap .i64 ((IntKind.wrap .i64 (f98 (a0,a2,())).2.1)-(1:Int))))),()),()))
 else none)
 else some (((f98 (a0,a2,())).1,(f98 (a0,a2,())).2.2.1,e1_,()),()))
 else none
theorem r72 (x:DenS KT):run (cf [(119,⟨FS,F5,p98,f98⟩)] []) 9 58 Tryz.f58 KT LJ x=YG p98 f98 x.1 x.2.1 x.2.2.1:=by kernel_rfl
def R3 (x:DenS KT):Option (DenS LJ):=YG Cz.pre Cz.F x.1 x.2.1 x.2.2.1
def Mx:Sum:=Al KT LJ R3 (DenS.dflt LJ)
theorem aAh:Sound Tryz.prog G1 58 Mx:=sd (cf [(119,Cz)] []) 58 Tryz.f58 ⟨US,trivial⟩ trivial KT LJ R3 _ (fun _=>r72 ..)
abbrev ZO:=An KT
abbrev aB:=Am KT LJ
variable (p72:ZO) (f72:aB)
abbrev GQ:Ac:=[(true,.pair (.int .u64) (.pair (.int .u64) (.unit))),(false,.int .i64)]
abbrev If:Ac:=[(true,.pair (.int .u64) (.pair (.int .u64) (.unit)))]
def Xw (a0:Aa (.pair (.int .u64) (.pair (.int .u64) (.unit)))) (a1:Aa (.int .i64)):Option (DenS If) :=
 let e1_:=(IntKind.wrap .i64 (a1-(64:Int)))
 let e2_:=(IntKind.wrap .i64 ((64:Int)-a1))
 bif (decide (a1<=(0:Int))) then (some ((a0.1,a0.2),()))
 else bif (decide (a1>=(128:Int))) then (some (((0:Int),(0:Int),()),()))
 else bif (decide (a1>=(64:Int))) then (bif (decide ((0:Int)<=e1_)) then (some (((Bp .u64 a0.2.1 e1_),(0:Int),()),()))
 else none)
 else bif (decide ((0:Int)<=a1)) then (bif (decide ((0:Int)<=e2_)) then (bif (decide ((0:Int)<=a1)) then (some (((Bz .u64 (Bp .u64 a0.1 a1) (AN .u64 a0.2.1 e2_)),(Bp .u64 a0.2.1 a1),()),()))
 else none)
 else none)
 else none
theorem aGs (x:DenS GQ):run (cf [] []) 9 114 Tryz.f114 GQ If x=Xw x.1 x.2.1:=by kernel_rfl
def Np (x:DenS GQ):Option (DenS If):=Xw x.1 x.2.1
def AJ:Sum:=Al GQ If Np (DenS.dflt If)
theorem x8:Sound Tryz.prog G1 114 AJ:=sd (cf [] []) 114 Tryz.f114 trivial trivial GQ If Np _ (fun _=>aGs ..)
abbrev Zs:=An GQ
abbrev ZP:=Am GQ If
variable (p119:Zs) (f119:ZP)
abbrev GR:Ac:=[(true,.pair (.int .u64) (.pair (.int .u64) (.unit))),(false,.int .i64)]
abbrev Ig:Ac:=[(true,.pair (.int .u64) (.pair (.int .u64) (.unit)))]
def Xx (a0:Aa (.pair (.int .u64) (.pair (.int .u64) (.unit)))) (a1:Aa (.int .i64)):Option (DenS Ig) :=
 let e1_:=(IntKind.wrap .i64 (a1-(64:Int)))
 let e2_:=(IntKind.wrap .i64 ((64:Int)-a1))
 bif (decide (a1<=(0:Int))) then (some ((a0.1,a0.2),()))
 else bif (decide (a1>=(128:Int))) then (some (((0:Int),(0:Int),()),()))
 else bif (decide (a1>=(64:Int))) then (bif (decide ((0:Int)<=e1_)) then (some (((0:Int),(AN .u64 a0.1 e1_),()),()))
 else none)
 else bif (decide ((0:Int)<=a1)) then (bif (decide ((0:Int)<=a1)) then (bif (decide ((0:Int)<=e2_)) then (some (((AN .u64 a0.1 a1),(Bz .u64 (AN .u64 a0.2.1 a1) (Bp .u64 a0.1 e2_)),()),()))
 else none)
 else none)
 else none
theorem aGt (x:DenS GR):run (cf [] []) 9 115 Tryz.f115 GR Ig x=Xx x.1 x.2.1:=by kernel_rfl
def OF (x:DenS GR):Option (DenS Ig):=Xx x.1 x.2.1
def AG:Sum:=Al GR Ig OF (DenS.dflt Ig)
theorem x9:Sound Tryz.prog G1 115 AG:=sd (cf [] []) 115 Tryz.f115 trivial trivial GR Ig OF _ (fun _=>aGt ..)
abbrev Zt:=An GR
abbrev ZQ:=Am GR Ig
variable (p120:Zt) (f120:ZQ)
abbrev Fb:Ac:=N9
abbrev FY:Ac:=Qw
def Az:Sum:=nA
theorem QS:Sound Tryz.prog G1 165 Az:=aBC Tryz.func165 (by kernel_rfl) (by kernel_rfl) (by kernel_rfl) (by kernel_rfl)
abbrev DA:=An Fb
abbrev DB:=Am Fb FY
variable (p155:DA) (f155:DB)
abbrev GS:Ac:=[(true,.pair (.int .u64) (.pair (.int .u64) (.unit))),(true,.pair (.int .u64) (.pair (.int .u64) (.unit)))]
abbrev Ih:Ac:=[(true,.pair (.int .u64) (.pair (.int .u64) (.unit))),(false,.int .u64)]
def Xy (p155:DA) (f155:DB) (a0 a1:Aa (.pair (.int .u64) (.pair (.int .u64) (.unit)))):Option (DenS Ih) :=
 let e2_:=(a0.1,a1.1,(f155 (a0.2.1,a1.2.1,(0:Int),())).2)
 let e1_:=(f155 e2_)
 bif (p155 (a0.2.1,a1.2.1,(0:Int),())) then (bif (p155 e2_) then (some ((e1_.1,(f155 (a0.2.1,a1.2.1,(0:Int),())).1,()),e1_.2))
 else none)
 else none
theorem aGu (x:DenS GS):run (cf [(165,⟨Fb,FY,p155,f155⟩)] []) 9 116 Tryz.f116 GS Ih x=Xy p155 f155 x.1 x.2.1:=by kernel_rfl
def Q1 (x:DenS GS):Option (DenS Ih):=Xy Az.pre Az.F x.1 x.2.1
def IS:Sum:=Al GS Ih Q1 (DenS.dflt Ih)
theorem yA:Sound Tryz.prog G1 116 IS:=sd (cf [(165,Az)] []) 116 Tryz.f116 ⟨QS,trivial⟩ trivial GS Ih Q1 _ (fun _=>aGu ..)
abbrev Zu:=An GS
abbrev ZR:=Am GS Ih
variable (p121:Zu) (f121:ZR)
abbrev GT:Ac:=[(true,.pair (.int .u64) (.pair (.int .u64) (.unit))),(true,.pair (.int .u64) (.pair (.int .u64) (.unit)))]
abbrev Ii:Ac:=[(false,.int .i64)]
def XA (a0 a1:Aa (.pair (.int .u64) (.pair (.int .u64) (.unit)))):Option (DenS Ii) :=
 bif ((a0.1==a1.1)&&(a0.2.1==a1.2.1)) then (some ((0:Int),()))
 else bif ((decide (a0.1<a1.1))||((a0.1==a1.1)&&(decide (a0.2.1<a1.2.1)))) then (some ((-(1:Int)),()))
 else some ((1:Int),())
theorem aGw (x:DenS GT):run (cf [] []) 9 117 Tryz.f117 GT Ii x=XA x.1 x.2.1:=by kernel_rfl
def Q4 (x:DenS GT):Option (DenS Ii):=XA x.1 x.2.1
def LU:Sum:=Al GT Ii Q4 (DenS.dflt Ii)
theorem yB:Sound Tryz.prog G1 117 LU:=sd (cf [] []) 117 Tryz.f117 trivial trivial GT Ii Q4 _ (fun _=>aGw ..)
abbrev Zv:=An GT
abbrev ZS:=Am GT Ii
variable (p123:Zv) (f123:ZS)
abbrev H4:Ac:=N9
abbrev K9:Ac:=Qw
def AR:Sum:=wE
theorem UI:Sound Tryz.prog G1 166 AR:=aI1 Tryz.func166 (by kernel_rfl) (by kernel_rfl) (by kernel_rfl) (by kernel_rfl)
abbrev EZ:=An H4
abbrev E0:=Am H4 K9
variable (p157:EZ) (f157:E0)
abbrev GU:Ac:=[(true,.pair (.int .u64) (.pair (.int .u64) (.unit))),(true,.pair (.int .u64) (.pair (.int .u64) (.unit)))]
abbrev Ij:Ac:=[(true,.pair (.int .u64) (.pair (.int .u64) (.unit))),(false,.int .u64)]
def XB (p157:EZ) (f157:E0) (a0 a1:Aa (.pair (.int .u64) (.pair (.int .u64) (.unit)))):Option (DenS Ij) :=
 let e2_:=(a0.1,a1.1,(f157 (a0.2.1,a1.2.1,(0:Int),())).2)
 let e1_:=(f157 e2_)
 bif (p157 (a0.2.1,a1.2.1,(0:Int),())) then (bif (p157 e2_) then (some ((e1_.1,(f157 (a0.2.1,a1.2.1,(0:Int),())).1,()),e1_.2))
 else none)
 else none
theorem aGx (x:DenS GU):run (cf [(166,⟨H4,K9,p157,f157⟩)] []) 9 118 Tryz.f118 GU Ij x=XB p157 f157 x.1 x.2.1:=by kernel_rfl
def Q5 (x:DenS GU):Option (DenS Ij):=XB AR.pre AR.F x.1 x.2.1
def Bn:Sum:=Al GU Ij Q5 (DenS.dflt Ij)
theorem yC:Sound Tryz.prog G1 118 Bn:=sd (cf [(166,AR)] []) 118 Tryz.f118 ⟨UI,trivial⟩ trivial GU Ij Q5 _ (fun _=>aGx ..)
abbrev Zw:=An GU
abbrev ZT:=Am GU Ij
variable (p124:Zw) (f124:ZT)
abbrev Kg:Ac:=[(true,.pair (.int .i64) (.pair (.int .i64) (.pair (.int .i64) (.pair (.int .i64) (.unit)))))]
abbrev K8:Ac:=[(false,.int .u64)]
def wP (p91:Gq) (f91:Gr) (a0:Aa (.pair (.int .i64) (.pair (.int .i64) (.pair (.int .i64) (.pair (.int .i64) (.unit)))))):Option (DenS K8) :=
 let e1_:=((IntKind.wrap .i64 (a0.1-a0.2.1)),())
 bif (p91 e1_) then (some (f91 e1_))
 else none
theorem aGL (x:DenS Kg):run (cf [(112,⟨DO,DP,p91,f91⟩)] []) 9 103 Tryz.f103 Kg K8 x=wP p91 f91 x.1:=by kernel_rfl
def i4 (x:DenS Kg):Option (DenS K8):=wP Be.pre Be.F x.1
def UH:Sum:=Al Kg K8 i4 (DenS.dflt K8)
theorem yJ:Sound Tryz.prog G1 103 UH:=sd (cf [(112,Be)] []) 103 Tryz.f103 ⟨IT,trivial⟩ trivial Kg K8 i4 _ (fun _=>aGL ..)
abbrev kD:=An Kg
abbrev lU:=Am Kg K8
variable (p154:kD) (f154:lU)
abbrev Eh:Ac:=[(false,.int .i64),(false,.bool)]
abbrev EK:Ac:=[(false,.int .u64),(false,.int .i64)]
def wN (p154:kD) (f154:lU) (p116:Vi) (f116:Vp) (p69:Dl) (f69:Dn) (p91:Gq) (f91:Gr) (p140:Sm) (f140:Sv) (a0:Aa (.int .i64)) (a1:Aa (.bool)):Option (DenS EK) :=
 let e2_:=((IntKind.wrap .i64 ((f69 (a0,())).1.1-(f69 (a0,())).1.2.1)),())
 let e1_:=((f69 (a0,())).1,a1,(IntKind.wrap .u64 ((f91 e2_).1-(f154 ((f69 (a0,())).1,())).1)),(f116 ((f69 (a0,())).1,())))
 bif (p69 (a0,())) then (bif ((f69 (a0,())).2.1 != (0:Int)) then (some ((0:Int),(f69 (a0,())).2))
 else bif (p91 e2_) then (bif (p154 ((f69 (a0,())).1,())) then (bif (p116 ((f69 (a0,())).1,())) then (bif (p140 e1_) then (some ((f140 e1_).1,(0:Int),()))
 else none)
 else none)
 else none)
 else none)
 else none
theorem aGr (x:DenS Eh):run (cf [(103,⟨Kg,K8,p154,f154⟩),(104,⟨GP,G7,p116,f116⟩),(54,⟨CY,CZ,p69,f69⟩),(112,⟨DO,DP,p91,f91⟩),(149,⟨FK,FV,p140,f140⟩)] []) 9 38 Tryz.f38 Eh EK x=wN p154 f154 p116 f116 p69 f69 p91 f91 p140 f140 x.1 x.2.1:=by kernel_rfl
def Q0 (x:DenS Eh):Option (DenS EK):=wN UH.pre UH.F Hp.pre Hp.F AE.pre AE.F Be.pre Be.F ET.pre ET.F x.1 x.2.1
def Bm:Sum:=Al Eh EK Q0 (DenS.dflt EK)
theorem QQ:Sound Tryz.prog G1 38 Bm:=sd (cf [(103,UH),(104,Hp),(54,AE),(112,Be),(149,ET)] []) 38 Tryz.f38 ⟨yJ,Y8,Ht,IT,UG,trivial⟩ trivial Eh EK Q0 _ (fun _=>aGr ..)
abbrev Jf:=An Eh
abbrev Jj:=Am Eh EK
variable (p118:Jf) (f118:Jj)
abbrev Kc:Ac:=[(false,.int .i64)]
abbrev K4:Ac:=[(false,.int .i64)]
def XI (a0:Aa (.int .i64)):Option (DenS K4) :=
 bif ((decide (a0<(0:Int)))||(decide (a0>(5:Int)))) then (some ((3:Int),()))
 else some ((0:Int),())
theorem aGF (x:DenS Kc):run (cf [] []) 9 167 Tryz.f167 Kc K4 x=XI x.1:=by kernel_rfl
def Ra (x:DenS Kc):Option (DenS K4):=XI x.1
def LV:Sum:=Al Kc K4 Ra (DenS.dflt K4)
theorem yF:Sound Tryz.prog G1 167 LV:=sd (cf [] []) 167 Tryz.f167 trivial trivial Kc K4 Ra _ (fun _=>aGF ..)
abbrev j9:=An Kc
abbrev lQ:=Am Kc K4
variable (p147:j9) (f147:lQ)
abbrev GM:Ac:=[(false,.int .i64),(false,.int .i64)]
abbrev G4:Ac:=[(true,.pair (.int .i64) (.pair (.int .i64) (.pair (.int .i64) (.pair (.int .i64) (.unit))))),(false,.int .i64)]
def Xp (p69:Dl) (f69:Dn) (p147:j9) (f147:lQ) (a0 a1:Aa (.int .i64)):Option (DenS G4) :=
 bif (p69 (a0,())) then (bif ((f69 (a0,())).2.1 != (0:Int)) then (some (f69 (a0,())))
 else bif (p147 (a1,())) then (some ((f69 (a0,())).1,(f147 (a1,()))))
 else none)
 else none
theorem aGh (x:DenS GM):run (cf [(54,⟨CY,CZ,p69,f69⟩),(167,⟨Kc,K4,p147,f147⟩)] []) 9 121 Tryz.f121 GM G4 x=Xp p69 f69 p147 f147 x.1 x.2.1:=by kernel_rfl
def QT (x:DenS GM):Option (DenS G4):=Xp AE.pre AE.F LV.pre LV.F x.1 x.2.1
def DR:Sum:=Al GM G4 QT (DenS.dflt G4)
theorem Y6:Sound Tryz.prog G1 121 DR:=sd (cf [(54,AE),(167,LV)] []) 121 Tryz.f121 ⟨Ht,yF,trivial⟩ trivial GM G4 QT _ (fun _=>aGh ..)
abbrev OU:=An GM
abbrev O6:=Am GM G4
variable (p105:OU) (f105:O6)
abbrev Bk:Ac:=[(false,.slice (.int .u64))]
abbrev Bl:Ac:=[(false,.slice (.int .u64))]
abbrev Gc:Pat:=⟨21,[(0,.one (.sl (.int .u64))),(3,.one (.v .i64))],[]⟩
abbrev Uo:List (Nat×Shape):=[]
abbrev I3:List (Nat×Pat):=[(0,⟨21,[(0,.one (.sl (.int .u64))),(3,.one (.v .i64))],[]⟩)]
abbrev IG:Option Pat:=none
variable (w173_2:Pat.D Gc->Option (Ak I3 IG))
def PK {R:Type} (L:Pat.D Gc->Option R) (e:Ak I3 IG->Option R) (x:Pat.D Gc):Option R :=
 let e1_:=(IntKind.wrap .i64 (x.1.2.1-(1:Int)))
 bif (((decide ((0:Int)<=e1_))&&(decide (e1_<(x.1.1.length:Int))))||(!(decide (x.1.2.1>(0:Int))))) then (bif ((decide (x.1.2.1>(0:Int)))&&((x.1.1.getD (Int.toNat e1_) (0:Int))==(0:Int))) then (((L ((x.1.1,e1_,()),()))))
 else (e (.inl (x.1,()))))
 else none
theorem aIq (d:Nat) (R:Type) (L:Pat.D Gc->Option R) (e:Ak I3 IG->Option R) (x:Pat.D Gc) :
  B7 (cf [] [(169,2,LoopSpec.of Gc Uo I3 IG w173_2)]) (d+2) 169 (BR Tryz.f169 2) Gc Uo I3 IG (R:=R) L e x=PK L e x:=by kernel_rfl
theorem sI:BG fun L e x=>PK L e x:=by intro _ _ _ _ _ _ _ h0 hL he _; unfold PK; repeat' (first | exact h0 | exact hL _ | exact he _ | apply Cu | (apply Cv h0; intro _) | (apply Cw <;> intro _))
def XQ (w173_2:Pat.D Gc->Option (Ak I3 IG)) (a0:Aa (.slice (.int .u64))):Option (DenS Bl) :=
 Vx.Bh (w173_2 ((a0,(a0.length:Int),()),())) fun y0 =>
 Vx.Bi y0 (fun y1 =>
 bif ((decide ((0:Int)<=y1.1.2.1))&&(decide (y1.1.2.1<=(y1.1.1.length:Int)))) then (some (((y1.1.1.take (Int.toNat y1.1.2.1)).drop (Int.toNat (0:Int))),()))
 else none) (fun z1 =>
 none)
theorem aGO (x:DenS Bk):run (cf [] [(169,2,LoopSpec.of Gc Uo I3 IG w173_2)]) 9 169 Tryz.f169 Bk Bl x=XQ w173_2 x.1:=by kernel_rfl
def U4:Gc.D->Option (Ak I3 IG):=Bo fun L=>PK L some
def Ns (x:DenS Bk):Option (DenS Bl):=XQ U4 x.1
def Ah:Sum:=Al Bk Bl Ns (DenS.dflt Bl)
theorem Dy:Sound Tryz.prog G1 169 Ah:=sd (cf [] [(169,2,LoopSpec.of Gc Uo I3 IG U4)]) 169 Tryz.f169 trivial ⟨rfl,fun d=>Ct (fun L e x=>PK L e x) (sI) (fun _ _ _ _=>aIq ..),trivial⟩ Bk Bl Ns _ (fun _=>aGO ..)
abbrev A2:=An Bk
abbrev A3:=Am Bk Bl
variable (p173:A2) (f173:A3)
abbrev FL:Ac:=[(false,.slice (.int .u64))]
abbrev FX:Ac:=[(false,.slice (.int .u64))]
def XH (p173:A2) (f173:A3) (a0:Aa (.slice (.int .u64))):Option (DenS FX) :=
 let e1_:=(List.replicate (Int.toNat ((f173 (a0,())).1.length:Int)) (0:Int))
 bif (p173 (a0,())) then (bif ((decide ((0:Int)<=((f173 (a0,())).1.length:Int)))&&(decide ((((f173 (a0,())).1.length:Int)*(8:Int))<=(140737488355328:Int)))) then (some ((((f173 (a0,())).1.take e1_.length)++(e1_.drop (f173 (a0,())).1.length)),()))
 else none)
 else none
theorem aGE (x:DenS FL):run (cf [(169,⟨Bk,Bl,p173,f173⟩)] []) 9 168 Tryz.f168 FL FX x=XH p173 f173 x.1:=by kernel_rfl
def Q9 (x:DenS FL):Option (DenS FX):=XH Ah.pre Ah.F x.1
def Cn:Sum:=Al FL FX Q9 (DenS.dflt FX)
theorem Za:Sound Tryz.prog G1 168 Cn:=sd (cf [(169,Ah)] []) 168 Tryz.f168 ⟨Dy,trivial⟩ trivial FL FX Q9 _ (fun _=>aGE ..)
abbrev Ny:=An FL
abbrev NB:=Am FL FX
variable (p146:Ny) (f146:NB)
abbrev FH:Ac:=[(false,.slice (.int .u64))]
abbrev FT:Ac:=[(false,.slice (.int .u64))]
def Xm (p146:Ny) (f146:NB) (a0:Aa (.slice (.int .u64))):Option (DenS FT) :=
 bif (p146 (a0,())) then (some (f146 (a0,())))
 else none
theorem aGe (x:DenS FH):run (cf [(168,⟨FL,FX,p146,f146⟩)] []) 9 122 Tryz.f122 FH FT x=Xm p146 f146 x.1:=by kernel_rfl
def OB (x:DenS FH):Option (DenS FT):=Xm Cn.pre Cn.F x.1
def CC:Sum:=Al FH FT OB (DenS.dflt FT)
theorem Y5:Sound Tryz.prog G1 122 CC:=sd (cf [(168,Cn)] []) 122 Tryz.f122 ⟨Za,trivial⟩ trivial FH FT OB _ (fun _=>aGe ..)
abbrev MA:=An FH
abbrev MC:=Am FH FT
variable (p102:MA) (f102:MC)
abbrev H5:Ac:=[(false,.int .u64)]
abbrev Hb:Ac:=[(false,.int .i64)]
def XU (a0:Aa (.int .u64)):Option (DenS Hb) :=
 let e10_:=(AN .u64 (AN .u64 a0 (32:Int)) (16:Int))
 let e1_:=(IntKind.wrap .u8 (AN .u64 e10_ (8:Int)))
 let e2_:=(IntKind.wrap .u8 e10_)
 let e3_:=(IntKind.wrap .u8 (AN .u64 (AN .u64 a0 (32:Int)) (8:Int)))
 let e4_:=(IntKind.wrap .u8 (AN .u64 (AN .u64 a0 (16:Int)) (8:Int)))
 let e5_:=(IntKind.wrap .u8 (AN .u64 a0 (32:Int)))
 let e6_:=(IntKind.wrap .u8 (AN .u64 a0 (16:Int)))
 let e7_:=(IntKind.wrap .u8 (AN .u64 a0 (8:Int)))
 let e8_:=(IntKind.wrap .i64 ((32:Int)+(16:Int)))
 let e9_:=(IntKind.wrap .i64 ((0:Int)+(16:Int)))
 bif (decide (a0>=(4294967296:Int))) then (bif (decide ((AN .u64 a0 (32:Int))>=(65536:Int))) then (bif (decide (e10_>=(256:Int))) then (bif ((decide ((0:Int)<=e1_))&&(decide (e1_<(256:Int)))) then (some ((IntKind.wrap .i64 ((IntKind.wrap .i64 (e8_+(8:Int)))+(IntKind.wrap .i64 ((UInt8.toNat (Vx.GD.getD (Int.toNat e1_) (0:UInt8))):Int)))),()))
 else none)
 else bif ((decide ((0:Int)<=e2_))&&(decide (e2_<(256:Int)))) then (some ((IntKind.wrap .i64 (e8_+(IntKind.wrap .i64 ((UInt8.toNat (Vx.GD.getD (Int.toNat e2_) (0:UInt8))):Int)))),()))
 else none)
 else bif (decide ((AN .u64 a0 (32:Int))>=(256:Int))) then (bif ((decide ((0:Int)<=e3_))&&(decide (e3_<(256:Int)))) then (some ((IntKind.wrap .i64 ((IntKind.wrap .i64 ((32:Int)+(8:Int)))+(IntKind.wrap .i64 ((UInt8.toNat (Vx.GD.getD (Int.toNat e3_) (0:UInt8))):Int)))),()))
 else none)
 else bif ((decide ((0:Int)<=e5_))&&(decide (e5_<(256:Int)))) then (some ((IntKind.wrap .i64 ((32:Int)+(IntKind.wrap .i64 ((UInt8.toNat (Vx.GD.getD (Int.toNat e5_) (0:UInt8))):Int)))),()))
 else none)
 else bif (decide (a0>=(65536:Int))) then (bif (decide ((AN .u64 a0 (16:Int))>=(256:Int))) then (bif ((decide ((0:Int)<=e4_))&&(decide (e4_<(256:Int)))) then (some ((IntKind.wrap .i64 ((IntKind.wrap .i64 (e9_+(8:Int)))+(IntKind.wrap .i64 ((UInt8.toNat (Vx.GD.getD (Int.toNat e4_) (0:UInt8))):Int)))),()))
 else none)
 else bif ((decide ((0:Int)<=e6_))&&(decide (e6_<(256:Int)))) then (some ((IntKind.wrap .i64 (e9_+(IntKind.wrap .i64 ((UInt8.toNat (Vx.GD.getD (Int.toNat e6_) (0:UInt8))):Int)))),()))
 else none)
 else bif (decide (a0>=(256:Int))) then (bif ((decide ((0:Int)<=e7_))&&(decide (e7_<(256:Int)))) then (some ((IntKind.wrap .i64 ((IntKind.wrap .i64 ((0:Int)+(8:Int)))+(IntKind.wrap .i64 ((UInt8.toNat (Vx.GD.getD (Int.toNat e7_) (0:UInt8))):Int)))),()))
 else none)
 else bif ((decide ((0:Int)<=(IntKind.wrap .u8 a0)))&&(decide ((IntKind.wrap .u8 a0)<(256:Int)))) then (some ((IntKind.wrap .i64 ((0:Int)+(IntKind.wrap .i64 ((UInt8.toNat (Vx.GD.getD (Int.toNat (IntKind.wrap .u8 a0)) (0:UInt8))):Int)))),()))
 else none
theorem aGT (x:DenS H5):run (cf [] []) 9 83 Tryz.f83 H5 Hb x=XU x.1:=by kernel_rfl
def Rf (x:DenS H5):Option (DenS Hb):=XU x.1
def EU:Sum:=Al H5 Hb Rf (DenS.dflt Hb)
theorem iI:Sound Tryz.prog G1 83 EU:=sd (cf [] []) 83 Tryz.f83 trivial trivial H5 Hb Rf _ (fun _=>aGT ..)
abbrev Vl:=An H5
abbrev Vs:=Am H5 Hb
variable (p178:Vl) (f178:Vs)
abbrev EI:Ac:=[(false,.slice (.int .u64))]
abbrev EL:Ac:=[(false,.int .i64)]
def XM (p173:A2) (f173:A3) (p178:Vl) (f178:Vs) (a0:Aa (.slice (.int .u64))):Option (DenS EL) :=
 let e3_:=(IntKind.wrap .i64 (((f173 (a0,())).1.length:Int)-(1:Int)))
 let e1_:=(((f173 (a0,())).1.getD (Int.toNat e3_) (0:Int)),())
 let e2_:=e3_
 bif (p173 (a0,())) then (bif (((f173 (a0,())).1.length:Int)==(0:Int)) then (some ((0:Int),()))
 else bif ((decide ((0:Int)<=e2_))&&(decide (e2_<((f173 (a0,())).1.length:Int)))) then (bif (p178 e1_) then (some ((IntKind.wrap .i64 ((IntKind.wrap .i64 ((64:Int)*e2_))+(f178 e1_).1)),()))
 else none)
 else none)
 else none
theorem aGJ (x:DenS EI):run (cf [(169,⟨Bk,Bl,p173,f173⟩),(83,⟨H5,Hb,p178,f178⟩)] []) 9 123 Tryz.f123 EI EL x=XM p173 f173 p178 f178 x.1:=by kernel_rfl
def OH (x:DenS EI):Option (DenS EL):=XM Ah.pre Ah.F EU.pre EU.F x.1
def BA:Sum:=Al EI EL OH (DenS.dflt EL)
theorem QR:Sound Tryz.prog G1 123 BA:=sd (cf [(169,Ah),(83,EU)] []) 123 Tryz.f123 ⟨Dy,iI,trivial⟩ trivial EI EL OH _ (fun _=>aGJ ..)
abbrev Jh:=An EI
abbrev Jl:=Am EI EL
variable (p151:Jh) (f151:Jl)
abbrev H3:Ac:=[(false,.int .i64),(false,.bool)]
abbrev In:Ac:=[(false,.int .u64),(false,.int .i64),(false,.int .i64)]
def XO (p118:Jf) (f118:Jj) (a0:Aa (.int .i64)) (a1:Aa (.bool)):Option (DenS In) :=
 bif (p118 (a0,a1,())) then (some ((f118 (a0,a1,())).1,(0:Int),(f118 (a0,a1,())).2))
 else none
theorem aGM (x:DenS H3):run (cf [(38,⟨Eh,EK,p118,f118⟩)] []) 9 124 Tryz.f124 H3 In x=XO p118 f118 x.1 x.2.1:=by kernel_rfl
def Re (x:DenS H3):Option (DenS In):=XO Bm.pre Bm.F x.1 x.2.1
def Gp:Sum:=Al H3 In Re (DenS.dflt In)
theorem iG:Sound Tryz.prog G1 124 Gp:=sd (cf [(38,Bm)] []) 124 Tryz.f124 ⟨QQ,trivial⟩ trivial H3 In Re _ (fun _=>aGM ..)
abbrev Vk:=An H3
abbrev Vr:=Am H3 In
variable (p156:Vk) (f156:Vr)
abbrev Kd:Ac:=[(true,.pair (.bool) (.pair (.slice (.int .u64)) (.pair (.int .i64) (.pair (.bool) (.unit)))))]
abbrev K5:Ac:=[(false,.int .i64)]
def XJ (p151:Jh) (f151:Jl) (a0:Aa (.pair (.bool) (.pair (.slice (.int .u64)) (.pair (.int .i64) (.pair (.bool) (.unit)))))):Option (DenS K5) :=
 bif (p151 (a0.2.1,())) then (some ((IntKind.wrap .i64 ((IntKind.wrap .i64 (a0.2.2.1+(f151 (a0.2.1,())).1))-(1:Int))),()))
 else none
theorem aGG (x:DenS Kd):run (cf [(123,⟨EI,EL,p151,f151⟩)] []) 9 170 Tryz.f170 Kd K5 x=XJ p151 f151 x.1:=by kernel_rfl
def Rb (x:DenS Kd):Option (DenS K5):=XJ BA.pre BA.F x.1
def Or:Sum:=Al Kd K5 Rb (DenS.dflt K5)
theorem yG:Sound Tryz.prog G1 170 Or:=sd (cf [(123,BA)] []) 170 Tryz.f170 ⟨QR,trivial⟩ trivial Kd K5 Rb _ (fun _=>aGG ..)
abbrev kA:=An Kd
abbrev lR:=Am Kd K5
variable (p148:kA) (f148:lR)
abbrev FI:Ac:=[(true,.slice (.int .u64))]
abbrev FU:Ac:=[(true,.slice (.int .u64))]
abbrev F7:Pat:=⟨21,[(0,.one (.own 0)),(3,.one (.v .i64))],[.arr (.int .u64)]⟩
abbrev Ui:List (Nat×Shape):=[]
abbrev IX:List (Nat×Pat):=[(0,⟨21,[(0,.one (.own 0)),(3,.one (.v .i64))],[.arr (.int .u64)]⟩)]
abbrev IA:Option Pat:=none
variable (w1173_2:Pat.D F7->Option (Ak IX IA))
def PE {R:Type} (L:Pat.D F7->Option R) (e:Ak IX IA->Option R) (x:Pat.D F7):Option R :=
 let e1_:=(IntKind.wrap .i64 (x.1.2.1-(1:Int)))
 bif (((decide ((0:Int)<=e1_))&&(decide (e1_<(x.2.1.length:Int))))||(!(decide (x.1.2.1>(0:Int))))) then (bif ((decide (x.1.2.1>(0:Int)))&&((x.2.1.getD (Int.toNat e1_) (0:Int))==(0:Int))) then (((L (((),e1_,()),x.2))))
 else (e (.inl (((),x.1.2),x.2))))
 else none
theorem aIk (d:Nat) (R:Type) (L:Pat.D F7->Option R) (e:Ak IX IA->Option R) (x:Pat.D F7) :
  B7 ({ cf [] [(169,2,LoopSpec.of F7 Ui IX IA w1173_2)] with keep:=true }) (d+2) 169 (BR Tryz.f169 2) F7 Ui IX IA (R:=R) L e x=PE L e x:=by kernel_rfl
theorem sB:BG fun L e x=>PE L e x:=by intro _ _ _ _ _ _ _ h0 hL he _; unfold PE; repeat' (first | exact h0 | exact hL _ | exact he _ | apply Cu | (apply Cv h0; intro _) | (apply Cw <;> intro _))
def Xu (w1173_2:Pat.D F7->Option (Ak IX IA)) (a0:Aa (.slice (.int .u64))):Option (DenS FU) :=
 Vx.Bh (w1173_2 (((),(a0.length:Int),()),a0,())) fun y0 =>
 Vx.Bi y0 (fun y1 =>
 bif ((decide ((0:Int)<=y1.1.2.1))&&(decide (y1.1.2.1<=(y1.2.1.length:Int)))) then (some ((y1.2.1.take (Int.toNat y1.1.2.1)),()))
 else none) (fun z1 =>
 none)
theorem aGp (x:DenS FI):run ({ cf [] [(169,2,LoopSpec.of F7 Ui IX IA w1173_2)] with keep:=true }) 9 169 Tryz.f169 FI FU x=Xu w1173_2 x.1:=by kernel_rfl
def U1:F7.D->Option (Ak IX IA):=Bo fun L=>PE L some
def QY (x:DenS FI):Option (DenS FU):=Xu U1 x.1
def Bw:Sum:=Al FI FU QY (DenS.dflt FU)
theorem iB:Sound Tryz.prog G1 169 Bw:=sd ({ cf [] [(169,2,LoopSpec.of F7 Ui IX IA U1)] with keep:=true }) 169 Tryz.f169 trivial ⟨rfl,fun d=>Ct (fun L e x=>PE L e x) (sB) (fun _ _ _ _=>aIk ..),trivial⟩ FI FU QY _ (fun _=>aGp ..)
abbrev MB:=An FI
abbrev MD:=Am FI FU
variable (p1173:MB) (f1173:MD)
abbrev Ka:Ac:=[(false,.slice (.int .u64)),(false,.int .i64)]
abbrev K2:Ac:=[(true,.slice (.int .u64))]
abbrev F6:Pat:=⟨66,[(25,.one (.v .i64)),(0,.one (.sl (.int .u64))),(5,.one (.v .i64)),(6,.one (.v .i64)),(26,.one (.v .i64)),(7,.one (.own 0))],[.arr (.int .u64)]⟩
abbrev Uh:List (Nat×Shape):=[]
abbrev IW:List (Nat×Pat):=[(0,⟨66,[(7,.one (.own 0))],[.arr (.int .u64)]⟩)]
abbrev Iz:Option Pat:=none
variable (w1171_7:Pat.D F6->Option (Ak IW Iz))
def PD (p1173:MB) (f1173:MD) (p173:A2) (f173:A3) {R:Type} (L:Pat.D F6->Option R) (e:Ak IW Iz->Option R) (x:Pat.D F6):Option R :=
 let e10_:=(IntKind.wrap .i64 (x.1.2.2.1+x.1.2.2.2.2.1))
 let e8_:=(x.2.1.set (Int.toNat x.1.2.2.2.2.1) (AN .u64 (x.1.2.1.getD (Int.toNat e10_) (0:Int)) x.1.2.2.2.1))
 let e1_:=((decide ((0:Int)<=x.1.2.2.2.2.1))&&(decide (x.1.2.2.2.2.1<(e8_.length:Int))))
 let e2_:=e8_
 let e9_:=(IntKind.wrap .i64 (e10_+(1:Int)))
 let e3_:=(decide (e9_<(x.1.2.1.length:Int)))
 let e4_:=(x.1.1,x.1.2.1,x.1.2.2.1,x.1.2.2.2.1,(IntKind.wrap .i64 (x.1.2.2.2.2.1+(1:Int))),(),())
 let e5_:=e9_
 let e6_:=e10_
 let e7_:=(IntKind.wrap .i64 ((64:Int)-x.1.2.2.2.1))
 bif (decide (x.1.2.2.2.2.1<x.1.1)) then (bif ((decide ((0:Int)<=e6_))&&(decide (e6_<(x.1.2.1.length:Int)))) then (bif (decide ((0:Int)<=x.1.2.2.2.1)) then (bif ((decide ((0:Int)<=x.1.2.2.2.2.1))&&(decide (x.1.2.2.2.2.1<(x.2.1.length:Int)))) then (bif e3_ then (bif e1_ then (bif ((decide ((0:Int)<=e5_))&&e3_) then (bif (decide ((0:Int)<=e7_)) then (bif e1_ then (((L (e4_,(e2_.set (Int.toNat x.1.2.2.2.2.1) (Bz .u64 (e2_.getD (Int.toNat x.1.2.2.2.2.1) (0:Int)) (Bp .u64 (x.1.2.1.getD (Int.toNat e5_) (0:Int)) e7_))),()))))
 else none)
 else none)
 else none)
 else none)
 else (L (e4_,e2_,())))
 else none)
 else none)
 else none)
 else (e (.inl (((),()),x.2)))
theorem aIj (d:Nat) (R:Type) (L:Pat.D F6->Option R) (e:Ak IW Iz->Option R) (x:Pat.D F6) :
  B7 ({ cf [(169,⟨FI,FU,p1173,f1173⟩),(169,⟨Bk,Bl,p173,f173⟩)] [(301,7,LoopSpec.of F6 Uh IW Iz w1171_7)] with keep:=true }) (d+2) 301 (BR Tryz.f301 7) F6 Uh IW Iz (R:=R) L e x=PD p1173 f1173 p173 f173 L e x:=by kernel_rfl
theorem sA (p1173:MB) (f1173:MD) (p173:A2) (f173:A3):BG fun L e x=>PD p1173 f1173 p173 f173 L e x:=by intro _ _ _ _ _ _ _ h0 hL he _; unfold PD; repeat' (first | exact h0 | exact hL _ | exact he _ | apply Cu | (apply Cv h0; intro _) | (apply Cw <;> intro _))
def Xt (p1173:MB) (f1173:MD) (p173:A2) (f173:A3) (w1171_7:Pat.D F6->Option (Ak IW Iz)) (a0:Aa (.slice (.int .u64))) (a1:Aa (.int .i64)):Option (DenS K2) :=
 let e3_:=(IntKind.wrap .i64 (((f173 (a0,())).1.length:Int)-(Cm .i64 a1 (64:Int))))
 let e1_:=(List.replicate (Int.toNat e3_) (0:Int))
 let e2_:=e3_
 bif (p173 (a0,())) then (bif (decide ((Cm .i64 a1 (64:Int))>=((f173 (a0,())).1.length:Int))) then (some ([],()))
 else bif ((decide ((0:Int)<=e2_))&&(decide ((e2_*(8:Int))<=(140737488355328:Int)))) then (Vx.Bh (w1171_7 (((e1_.length:Int),(f173 (a0,())).1,(Cm .i64 a1 (64:Int)),(Int.tmod a1 (64:Int)),(0:Int),(),()),e1_,())) fun y3 =>
 Vx.Bi y3 (fun y4 =>
 bif (p1173 y4.2) then (some (f1173 y4.2))
 else none) (fun z4 =>
 none))
 else none)
 else none
theorem aGo (x:DenS Ka):run ({ cf [(169,⟨FI,FU,p1173,f1173⟩),(169,⟨Bk,Bl,p173,f173⟩)] [(301,7,LoopSpec.of F6 Uh IW Iz w1171_7)] with keep:=true }) 9 301 Tryz.f301 Ka K2 x=Xt p1173 f1173 p173 f173 w1171_7 x.1 x.2.1:=by kernel_rfl
def U0:F6.D->Option (Ak IW Iz):=Bo fun L=>PD Bw.pre Bw.F Ah.pre Ah.F L some
def QX (x:DenS Ka):Option (DenS K2):=Xt Bw.pre Bw.F Ah.pre Ah.F U0 x.1 x.2.1
def LS:Sum:=Al Ka K2 QX (DenS.dflt K2)
theorem x5:Sound Tryz.prog G1 301 LS:=sd ({ cf [(169,Bw),(169,Ah)] [(301,7,LoopSpec.of F6 Uh IW Iz U0)] with keep:=true }) 301 Tryz.f301 ⟨iB,Dy,trivial⟩ ⟨rfl,fun d=>Ct (fun L e x=>PD Bw.pre Bw.F Ah.pre Ah.F L e x) (sA Bw.pre Bw.F Ah.pre Ah.F) (fun _ _ _ _=>aIj ..),trivial⟩ Ka K2 QX _ (fun _=>aGo ..)
abbrev j7:=An Ka
abbrev lO:=Am Ka K2
variable (p1171:j7) (f1171:lO)
abbrev FM:Ac:=[(false,.slice (.int .u64)),(false,.int .i64)]
abbrev FZ:Ac:=[(false,.slice (.int .u64))]
abbrev Gb:Pat:=⟨66,[(25,.one (.v .i64)),(0,.one (.sl (.int .u64))),(5,.one (.v .i64)),(6,.one (.v .i64)),(26,.one (.v .i64)),(7,.one (.own 0))],[.arr (.int .u64)]⟩
abbrev Un:List (Nat×Shape):=[]
abbrev I2:List (Nat×Pat):=[(0,⟨66,[(7,.one (.own 0))],[.arr (.int .u64)]⟩)]
abbrev IF:Option Pat:=none
variable (w171_7:Pat.D Gb->Option (Ak I2 IF))
def PJ (p173:A2) (f173:A3) {R:Type} (L:Pat.D Gb->Option R) (e:Ak I2 IF->Option R) (x:Pat.D Gb):Option R :=
 let e10_:=(IntKind.wrap .i64 (x.1.2.2.1+x.1.2.2.2.2.1))
 let e8_:=(x.2.1.set (Int.toNat x.1.2.2.2.2.1) (AN .u64 (x.1.2.1.getD (Int.toNat e10_) (0:Int)) x.1.2.2.2.1))
 let e1_:=((decide ((0:Int)<=x.1.2.2.2.2.1))&&(decide (x.1.2.2.2.2.1<(e8_.length:Int))))
 let e2_:=e8_
 let e9_:=(IntKind.wrap .i64 (e10_+(1:Int)))
 let e3_:=(decide (e9_<(x.1.2.1.length:Int)))
 let e4_:=(x.1.1,x.1.2.1,x.1.2.2.1,x.1.2.2.2.1,(IntKind.wrap .i64 (x.1.2.2.2.2.1+(1:Int))),(),())
 let e5_:=e9_
 let e6_:=e10_
 let e7_:=(IntKind.wrap .i64 ((64:Int)-x.1.2.2.2.1))
 bif (decide (x.1.2.2.2.2.1<x.1.1)) then (bif ((decide ((0:Int)<=e6_))&&(decide (e6_<(x.1.2.1.length:Int)))) then (bif (decide ((0:Int)<=x.1.2.2.2.1)) then (bif ((decide ((0:Int)<=x.1.2.2.2.2.1))&&(decide (x.1.2.2.2.2.1<(x.2.1.length:Int)))) then (bif e3_ then (bif e1_ then (bif ((decide ((0:Int)<=e5_))&&e3_) then (bif (decide ((0:Int)<=e7_)) then (bif e1_ then (((L (e4_,(e2_.set (Int.toNat x.1.2.2.2.2.1) (Bz .u64 (e2_.getD (Int.toNat x.1.2.2.2.2.1) (0:Int)) (Bp .u64 (x.1.2.1.getD (Int.toNat e5_) (0:Int)) e7_))),()))))
 else none)
 else none)
 else none)
 else none)
 else (L (e4_,e2_,())))
 else none)
 else none)
 else none)
 else (e (.inl (((),()),x.2)))
theorem aIp (d:Nat) (R:Type) (L:Pat.D Gb->Option R) (e:Ak I2 IF->Option R) (x:Pat.D Gb) :
  B7 (cf [(169,⟨Bk,Bl,p173,f173⟩)] [(301,7,LoopSpec.of Gb Un I2 IF w171_7)]) (d+2) 301 (BR Tryz.f301 7) Gb Un I2 IF (R:=R) L e x=PJ p173 f173 L e x:=by kernel_rfl
theorem sH (p173:A2) (f173:A3):BG fun L e x=>PJ p173 f173 L e x:=by intro _ _ _ _ _ _ _ h0 hL he _; unfold PJ; repeat' (first | exact h0 | exact hL _ | exact he _ | apply Cu | (apply Cv h0; intro _) | (apply Cw <;> intro _))
def XP (p173:A2) (f173:A3) (w171_7:Pat.D Gb->Option (Ak I2 IF)) (a0:Aa (.slice (.int .u64))) (a1:Aa (.int .i64)):Option (DenS FZ) :=
 let e3_:=(IntKind.wrap .i64 (((f173 (a0,())).1.length:Int)-(Cm .i64 a1 (64:Int))))
 let e1_:=(List.replicate (Int.toNat e3_) (0:Int))
 let e2_:=e3_
 bif (p173 (a0,())) then (bif (decide ((Cm .i64 a1 (64:Int))>=((f173 (a0,())).1.length:Int))) then (some ([],()))
 else bif ((decide ((0:Int)<=e2_))&&(decide ((e2_*(8:Int))<=(140737488355328:Int)))) then (Vx.Bh (w171_7 (((e1_.length:Int),(f173 (a0,())).1,(Cm .i64 a1 (64:Int)),(Int.tmod a1 (64:Int)),(0:Int),(),()),e1_,())) fun y3 =>
 Vx.Bi y3 (fun y4 =>
 bif (p173 y4.2) then (some (f173 y4.2))
 else none) (fun z4 =>
 none))
 else none)
 else none
theorem aGN (x:DenS FM):run (cf [(169,⟨Bk,Bl,p173,f173⟩)] [(301,7,LoopSpec.of Gb Un I2 IF w171_7)]) 9 301 Tryz.f301 FM FZ x=XP p173 f173 w171_7 x.1 x.2.1:=by kernel_rfl
def U3:Gb.D->Option (Ak I2 IF):=Bo fun L=>PJ Ah.pre Ah.F L some
def OI (x:DenS FM):Option (DenS FZ):=XP Ah.pre Ah.F U3 x.1 x.2.1
def Co:Sum:=Al FM FZ OI (DenS.dflt FZ)
theorem Zb:Sound Tryz.prog G1 301 Co:=sd (cf [(169,Ah)] [(301,7,LoopSpec.of Gb Un I2 IF U3)]) 301 Tryz.f301 ⟨Dy,trivial⟩ ⟨rfl,fun d=>Ct (fun L e x=>PJ Ah.pre Ah.F L e x) (sH Ah.pre Ah.F) (fun _ _ _ _=>aIp ..),trivial⟩ FM FZ OI _ (fun _=>aGN ..)
abbrev Nz:=An FM
abbrev NC:=Am FM FZ
variable (p171:Nz) (f171:NC)
abbrev Fd:Ac:=[(false,.int .u64)]
abbrev Fl:Ac:=[(false,.int .i64)]
def YJ (a0:Aa (.int .u64)):Option (DenS Fl) :=
 let e1_:=(AN .u64 (IntKind.wrap .u64 ((CK .u64 a0 (IntKind.wrap .u64 ((0:Int)-a0)))*(285870213051353865:Int))) (58:Int))
 bif (a0==(0:Int)) then (some ((64:Int),()))
 else bif (Vx.f0 ((decide ((0:Int)<=e1_))&&(decide (e1_<((64:Nat):Int))))) then (some ((IntKind.wrap .i64 (Vx.k_deb.getD (Int.toNat e1_) (0:Int))),()))
 else none
theorem r92 (x:DenS Fd):run (cf [] []) 9 127 Tryz.f127 Fd Fl x=YJ x.1:=by kernel_rfl
def R6 (x:DenS Fd):Option (DenS Fl):=YJ x.1
def Bu:Sum:=Al Fd Fl R6 (DenS.dflt Fl)
theorem Zg:Sound Tryz.prog G1 127 Bu:=sd (cf [] []) 127 Tryz.f127 trivial trivial Fd Fl R6 _ (fun _=>r92 ..)
abbrev Ji:=An Fd
abbrev Jm:=Am Fd Fl
variable (p92:Ji) (f92:Jm)
abbrev Kk:Ac:=[(false,.slice (.int .u64)),(false,.int .i64)]
abbrev Ld:Ac:=[(false,.bool)]
abbrev Ge:Pat:=⟨25,[(9,.one (.v .i64)),(8,.one (.sl (.int .u64))),(1,.one (.v .i64)),(10,.one (.v .i64))],[]⟩
abbrev Uq:List (Nat×Shape):=[]
abbrev I5:List (Nat×Pat):=[(0,⟨25,[],[]⟩)]
abbrev II:Option Pat:=(some ⟨25,[(4,.one (.bool))],[]⟩)
variable (w184_2:Pat.D Ge->Option (Ak I5 II))
def PL (p173:A2) (f173:A3) (p92:Ji) (f92:Jm) {R:Type} (L:Pat.D Ge->Option R) (e:Ak I5 II->Option R) (x:Pat.D Ge):Option R :=
 let e2_:=(x.1.2.1.getD (Int.toNat x.1.2.2.2.1) (0:Int))
 let e1_:=(e2_,())
 bif (decide (x.1.2.2.2.1<x.1.1)) then (bif ((decide ((0:Int)<=x.1.2.2.2.1))&&(decide (x.1.2.2.2.1<(x.1.2.1.length:Int)))) then (bif (e2_ != (0:Int)) then (bif (p92 e1_) then (((e (.inr (((decide ((IntKind.wrap .i64 ((IntKind.wrap .i64 ((64:Int)*x.1.2.2.2.1))+(f92 e1_).1))>=x.1.2.2.1)),()),())))))
 else none)
 else (L ((x.1.1,x.1.2.1,x.1.2.2.1,(IntKind.wrap .i64 (x.1.2.2.2.1+(1:Int))),()),())))
 else none)
 else (e (.inl ((),())))
theorem aIs (d:Nat) (R:Type) (L:Pat.D Ge->Option R) (e:Ak I5 II->Option R) (x:Pat.D Ge) :
  B7 (cf [(169,⟨Bk,Bl,p173,f173⟩),(127,⟨Fd,Fl,p92,f92⟩)] [(302,2,LoopSpec.of Ge Uq I5 II w184_2)]) (d+2) 302 (BR Tryz.f302 2) Ge Uq I5 II (R:=R) L e x=PL p173 f173 p92 f92 L e x:=by kernel_rfl
theorem sJ (p173:A2) (f173:A3) (p92:Ji) (f92:Jm):BG fun L e x=>PL p173 f173 p92 f92 L e x:=by intro _ _ _ _ _ _ _ h0 hL he _; unfold PL; repeat' (first | exact h0 | exact hL _ | exact he _ | apply Cu | (apply Cv h0; intro _) | (apply Cw <;> intro _))
def XV (p173:A2) (f173:A3) (p92:Ji) (f92:Jm) (w184_2:Pat.D Ge->Option (Ak I5 II)) (a0:Aa (.slice (.int .u64))) (a1:Aa (.int .i64)):Option (DenS Ld) :=
 bif (p173 (a0,())) then (Vx.Bh (w184_2 ((((f173 (a0,())).1.length:Int),(f173 (a0,())).1,a1,(0:Int),()),())) fun y1 =>
 Vx.Bi y1 (fun y2 =>
 some (true,())) (fun z2 =>
 some z2.1))
 else none
theorem aGU (x:DenS Kk):run (cf [(169,⟨Bk,Bl,p173,f173⟩),(127,⟨Fd,Fl,p92,f92⟩)] [(302,2,LoopSpec.of Ge Uq I5 II w184_2)]) 9 302 Tryz.f302 Kk Ld x=XV p173 f173 p92 f92 w184_2 x.1 x.2.1:=by kernel_rfl
def U5:Ge.D->Option (Ak I5 II):=Bo fun L=>PL Ah.pre Ah.F Bu.pre Bu.F L some
def Rg (x:DenS Kk):Option (DenS Ld):=XV Ah.pre Ah.F Bu.pre Bu.F U5 x.1 x.2.1
def LW:Sum:=Al Kk Ld Rg (DenS.dflt Ld)
theorem yN:Sound Tryz.prog G1 302 LW:=sd (cf [(169,Ah),(127,Bu)] [(302,2,LoopSpec.of Ge Uq I5 II U5)]) 302 Tryz.f302 ⟨Dy,Zg,trivial⟩ ⟨rfl,fun d=>Ct (fun L e x=>PL Ah.pre Ah.F Bu.pre Bu.F L e x) (sJ Ah.pre Ah.F Bu.pre Bu.F) (fun _ _ _ _=>aIs ..),trivial⟩ Kk Ld Rg _ (fun _=>aGU ..)
abbrev kH:=An Kk
abbrev lY:=Am Kk Ld
variable (p184:kH) (f184:lY)
abbrev Ki:Ac:=[(false,.slice (.int .u64)),(false,.int .i64)]
abbrev Lb:Ac:=[(false,.slice (.int .u64)),(false,.int .i64)]
def XR (p1171:j7) (f1171:lO) (p171:Nz) (f171:NC) (p184:kH) (f184:lY) (a0:Aa (.slice (.int .u64))) (a1:Aa (.int .i64)):Option (DenS Lb) :=
 let e1_:=(decide ((0:Int)<((f1171 (a0,a1,())).1.length:Int)))
 bif (decide (a1<(0:Int))) then (some ([],(7:Int),()))
 else bif (p1171 (a0,a1,())) then (bif (p184 (a0,a1,())) then (bif (!(f184 (a0,a1,())).1) then (bif (((f1171 (a0,a1,())).1.length:Int)==(0:Int)) then (some (((1:Int)::[]),(0:Int),()))
 else bif e1_ then (bif e1_ then (some (((f1171 (a0,a1,())).1.set (Int.toNat (0:Int)) (Bz .u64 ((f1171 (a0,a1,())).1.getD (Int.toNat (0:Int)) (0:Int)) (1:Int))),(0:Int),()))
 else none)
 else none)
 else some ((f1171 (a0,a1,())).1,(0:Int),()))
 else none)
 else none
theorem aGQ (x:DenS Ki):run (cf [(301,⟨Ka,K2,p1171,f1171⟩),(301,⟨FM,FZ,p171,f171⟩),(302,⟨Kk,Ld,p184,f184⟩)] []) 9 246 Tryz.f246 Ki Lb x=XR p1171 f1171 p171 f171 p184 f184 x.1 x.2.1:=by kernel_rfl
def OK (x:DenS Ki):Option (DenS Lb):=XR LS.pre LS.F Co.pre Co.F LW.pre LW.F x.1 x.2.1
def Ow:Sum:=Al Ki Lb OK (DenS.dflt Lb)
theorem yL:Sound Tryz.prog G1 246 Ow:=sd (cf [(301,LS),(301,Co),(302,LW)] []) 246 Tryz.f246 ⟨x5,Zb,yN,trivial⟩ trivial Ki Lb OK _ (fun _=>aGQ ..)
abbrev kF:=An Ki
abbrev lW:=Am Ki Lb
variable (p175:kF) (f175:lW)
abbrev GY:Ac:=[(false,.slice (.int .u64)),(false,.int .i64)]
abbrev Hc:Ac:=[(false,.slice (.int .u64))]
abbrev Gg:Pat:=⟨56,[(26,.one (.v .i64)),(25,.one (.sl (.int .u64))),(5,.one (.v .i64)),(6,.one (.v .i64)),(27,.one (.v .i64)),(7,.one (.own 0))],[.arr (.int .u64)]⟩
abbrev Us:List (Nat×Shape):=[]
abbrev I7:List (Nat×Pat):=[(0,⟨56,[(7,.one (.own 0))],[.arr (.int .u64)]⟩)]
abbrev IK:Option Pat:=none
variable (w186_7:Pat.D Gg->Option (Ak I7 IK))
def PN (p173:A2) (f173:A3) {R:Type} (L:Pat.D Gg->Option R) (e:Ak I7 IK->Option R) (x:Pat.D Gg):Option R :=
 let e6_:=(IntKind.wrap .i64 (x.1.2.2.1+x.1.2.2.2.2.1))
 let e5_:=(Int.toNat e6_)
 let e7_:=(x.1.2.1.getD (Int.toNat x.1.2.2.2.2.1) (0:Int))
 let e1_:=(x.2.1.set e5_ (Bz .u64 (x.2.1.getD e5_ (0:Int)) (Bp .u64 e7_ x.1.2.2.2.1)))
 let e2_:=((decide ((0:Int)<=e6_))&&(decide (e6_<(x.2.1.length:Int))))
 let e3_:=(IntKind.wrap .i64 (e6_+(1:Int)))
 let e4_:=(IntKind.wrap .i64 ((64:Int)-x.1.2.2.2.1))
 bif (decide (x.1.2.2.2.2.1<x.1.1)) then (bif ((decide ((0:Int)<=x.1.2.2.2.2.1))&&(decide (x.1.2.2.2.2.1<(x.1.2.1.length:Int)))) then (bif e2_ then (bif (decide ((0:Int)<=x.1.2.2.2.1)) then (bif e2_ then (bif (decide ((0:Int)<=e4_)) then (bif ((decide ((0:Int)<=e3_))&&(decide (e3_<(e1_.length:Int)))) then (((L ((x.1.1,x.1.2.1,x.1.2.2.1,x.1.2.2.2.1,(IntKind.wrap .i64 (x.1.2.2.2.2.1+(1:Int))),(),()),(e1_.set (Int.toNat e3_) (AN .u64 e7_ e4_)),()))))
 else none)
 else none)
 else none)
 else none)
 else none)
 else none)
 else (e (.inl (((),()),x.2)))
theorem aIu (d:Nat) (R:Type) (L:Pat.D Gg->Option R) (e:Ak I7 IK->Option R) (x:Pat.D Gg) :
  B7 (cf [(169,⟨Bk,Bl,p173,f173⟩)] [(250,7,LoopSpec.of Gg Us I7 IK w186_7)]) (d+2) 250 (BR Tryz.f250 7) Gg Us I7 IK (R:=R) L e x=PN p173 f173 L e x:=by kernel_rfl
theorem sL (p173:A2) (f173:A3):BG fun L e x=>PN p173 f173 L e x:=by intro _ _ _ _ _ _ _ h0 hL he _; unfold PN; repeat' (first | exact h0 | exact hL _ | exact he _ | apply Cu | (apply Cv h0; intro _) | (apply Cw <;> intro _))
def XX (p173:A2) (f173:A3) (w186_7:Pat.D Gg->Option (Ak I7 IK)) (a0:Aa (.slice (.int .u64))) (a1:Aa (.int .i64)):Option (DenS Hc) :=
 let e1_:=(IntKind.wrap .i64 ((IntKind.wrap .i64 ((Cm .i64 a1 (64:Int))+((f173 (a0,())).1.length:Int)))+(1:Int)))
 bif (p173 (a0,())) then (bif (((f173 (a0,())).1.length:Int)==(0:Int)) then (some ([],()))
 else bif ((decide ((0:Int)<=e1_))&&(decide ((e1_*(8:Int))<=(140737488355328:Int)))) then (Vx.Bh (w186_7 ((((f173 (a0,())).1.length:Int),(f173 (a0,())).1,(Cm .i64 a1 (64:Int)),(Int.tmod a1 (64:Int)),(0:Int),(),()),(List.replicate (Int.toNat e1_) (0:Int)),())) fun y3 =>
 Vx.Bi y3 (fun y4 =>
 bif (p173 y4.2) then (some (f173 y4.2))
 else none) (fun z4 =>
 none))
 else none)
 else none
theorem aGW (x:DenS GY):run (cf [(169,⟨Bk,Bl,p173,f173⟩)] [(250,7,LoopSpec.of Gg Us I7 IK w186_7)]) 9 250 Tryz.f250 GY Hc x=XX p173 f173 w186_7 x.1 x.2.1:=by kernel_rfl
def U7:Gg.D->Option (Ak I7 IK):=Bo fun L=>PN Ah.pre Ah.F L some
def Nv (x:DenS GY):Option (DenS Hc):=XX Ah.pre Ah.F U7 x.1 x.2.1
def CV:Sum:=Al GY Hc Nv (DenS.dflt Hc)
theorem iK:Sound Tryz.prog G1 250 CV:=sd (cf [(169,Ah)] [(250,7,LoopSpec.of Gg Us I7 IK U7)]) 250 Tryz.f250 ⟨Dy,trivial⟩ ⟨rfl,fun d=>Ct (fun L e x=>PN Ah.pre Ah.F L e x) (sL Ah.pre Ah.F) (fun _ _ _ _=>aIu ..),trivial⟩ GY Hc Nv _ (fun _=>aGW ..)
abbrev O0:=An GY
abbrev Pc:=Am GY Hc
variable (p186:O0) (f186:Pc)
abbrev H6:Ac:=[(false,.slice (.slice (.int .u64)))]
abbrev Io:Ac:=[(false,.bool)]
abbrev Gf:Pat:=⟨16,[(6,.one (.v .i64)),(5,.one (.sl (.slice (.int .u64)))),(7,.one (.v .i64))],[]⟩
abbrev Ur:List (Nat×Shape):=[]
abbrev I6:List (Nat×Pat):=[(0,⟨16,[],[]⟩)]
abbrev IJ:Option Pat:=(some ⟨16,[(2,.one (.bool))],[]⟩)
variable (w185_2:Pat.D Gf->Option (Ak I6 IJ))
def PM (p173:A2) (f173:A3) {R:Type} (L:Pat.D Gf->Option R) (e:Ak I6 IJ->Option R) (x:Pat.D Gf):Option R :=
 bif (decide (x.1.2.2.1<x.1.1)) then (bif ((decide ((0:Int)<=x.1.2.2.1))&&(decide (x.1.2.2.1<(x.1.2.1.length:Int)))) then (bif (p173 ((x.1.2.1.getD (Int.toNat x.1.2.2.1) []),())) then (bif (decide (((f173 ((x.1.2.1.getD (Int.toNat x.1.2.2.1) []),())).1.length:Int)>(1024:Int))) then (((e (.inr ((true,()),())))))
 else (L ((x.1.1,x.1.2.1,(IntKind.wrap .i64 (x.1.2.2.1+(1:Int))),()),())))
 else none)
 else none)
 else (e (.inl ((),())))
theorem aIt (d:Nat) (R:Type) (L:Pat.D Gf->Option R) (e:Ak I6 IJ->Option R) (x:Pat.D Gf) :
  B7 (cf [(169,⟨Bk,Bl,p173,f173⟩)] [(249,2,LoopSpec.of Gf Ur I6 IJ w185_2)]) (d+2) 249 (BR Tryz.f249 2) Gf Ur I6 IJ (R:=R) L e x=PM p173 f173 L e x:=by kernel_rfl
theorem sK (p173:A2) (f173:A3):BG fun L e x=>PM p173 f173 L e x:=by intro _ _ _ _ _ _ _ h0 hL he _; unfold PM; repeat' (first | exact h0 | exact hL _ | exact he _ | apply Cu | (apply Cv h0; intro _) | (apply Cw <;> intro _))
def XW (p173:A2) (f173:A3) (w185_2:Pat.D Gf->Option (Ak I6 IJ)) (a0:Aa (.slice (.slice (.int .u64)))):Option (DenS Io) :=
 Vx.Bh (w185_2 (((a0.length:Int),a0,(0:Int),()),())) fun y0 =>
 Vx.Bi y0 (fun y1 =>
 some (false,())) (fun z1 =>
 some z1.1)
theorem aGV (x:DenS H6):run (cf [(169,⟨Bk,Bl,p173,f173⟩)] [(249,2,LoopSpec.of Gf Ur I6 IJ w185_2)]) 9 249 Tryz.f249 H6 Io x=XW p173 f173 w185_2 x.1:=by kernel_rfl
def U6:Gf.D->Option (Ak I6 IJ):=Bo fun L=>PM Ah.pre Ah.F L some
def Mz (x:DenS H6):Option (DenS Io):=XW Ah.pre Ah.F U6 x.1
def EV:Sum:=Al H6 Io Mz (DenS.dflt Io)
theorem iJ:Sound Tryz.prog G1 249 EV:=sd (cf [(169,Ah)] [(249,2,LoopSpec.of Gf Ur I6 IJ U6)]) 249 Tryz.f249 ⟨Dy,trivial⟩ ⟨rfl,fun d=>Ct (fun L e x=>PM Ah.pre Ah.F L e x) (sK Ah.pre Ah.F) (fun _ _ _ _=>aIt ..),trivial⟩ H6 Io Mz _ (fun _=>aGV ..)
abbrev Vm:=An H6
abbrev Vt:=Am H6 Io
variable (p185:Vm) (f185:Vt)
abbrev GX:Ac:=[(false,.slice (.int .u64)),(false,.int .i64)]
abbrev Ha:Ac:=[(false,.slice (.int .u64)),(false,.int .i64)]
def XS (p186:O0) (f186:Pc) (p185:Vm) (f185:Vt) (a0:Aa (.slice (.int .u64))) (a1:Aa (.int .i64)):Option (DenS Ha) :=
 bif ((decide (a1<(0:Int)))||(decide (a1>(65536:Int)))) then (some ([],(7:Int),()))
 else bif (p185 ((a0::[]),())) then (bif (f185 ((a0::[]),())).1 then (some ([],(5:Int),()))
 else bif (p186 (a0,a1,())) then (bif (p185 (((f186 (a0,a1,())).1::[]),())) then (bif (f185 (((f186 (a0,a1,())).1::[]),())).1 then (some ([],(5:Int),()))
 else some ((f186 (a0,a1,())).1,(0:Int),()))
 else none)
 else none)
 else none
theorem aGR (x:DenS GX):run (cf [(250,⟨GY,Hc,p186,f186⟩),(249,⟨H6,Io,p185,f185⟩)] []) 9 174 Tryz.f174 GX Ha x=XS p186 f186 p185 f185 x.1 x.2.1:=by kernel_rfl
def Nt (x:DenS GX):Option (DenS Ha):=XS CV.pre CV.F EV.pre EV.F x.1 x.2.1
def C7:Sum:=Al GX Ha Nt (DenS.dflt Ha)
theorem iH:Sound Tryz.prog G1 174 C7:=sd (cf [(250,CV),(249,EV)] []) 174 Tryz.f174 ⟨iK,iJ,trivial⟩ trivial GX Ha Nt _ (fun _=>aGR ..)
abbrev OZ:=An GX
abbrev Pb:=Am GX Ha
variable (p176:OZ) (f176:Pb)
abbrev GV:Ac:=[(false,.slice (.int .u64)),(false,.int .i64)]
abbrev G9:Ac:=[(false,.slice (.int .u64)),(false,.int .i64)]
def XD (p171:Nz) (f171:NC) (a0:Aa (.slice (.int .u64))) (a1:Aa (.int .i64)):Option (DenS G9) :=
 bif (decide (a1<(0:Int))) then (some ([],(7:Int),()))
 else bif (p171 (a0,a1,())) then (some ((f171 (a0,a1,())).1,(0:Int),()))
 else none
theorem aGA (x:DenS GV):run (cf [(301,⟨FM,FZ,p171,f171⟩)] []) 9 247 Tryz.f247 GV G9 x=XD p171 f171 x.1 x.2.1:=by kernel_rfl
def My (x:DenS GV):Option (DenS G9):=XD Co.pre Co.F x.1 x.2.1
def C5:Sum:=Al GV G9 My (DenS.dflt G9)
theorem iD:Sound Tryz.prog G1 247 C5:=sd (cf [(301,Co)] []) 247 Tryz.f247 ⟨Zb,trivial⟩ trivial GV G9 My _ (fun _=>aGA ..)
abbrev OX:=An GV
abbrev O9:=Am GV G9
variable (p141:OX) (f141:O9)
abbrev Kj:Ac:=[(false,.int .i64),(false,.bool),(false,.bool),(false,.int .u64)]
abbrev Lc:Ac:=[(false,.bool)]
def XT (a0:Aa (.int .i64)) (a1 a2:Aa (.bool)) (a3:Aa (.int .u64)):Option (DenS Lc) :=
 bif (a0==(4:Int)) then (some ((!(!a1)),()))
 else bif (a0==(3:Int)) then (some ((!a1),()))
 else bif (a0==(0:Int)) then (bif (a3==(2:Int)) then (some (a2,()))
 else some ((decide (a3>=(2:Int))),()))
 else bif (a0==(1:Int)) then (some ((decide (a3>=(2:Int))),()))
 else bif (a0==(5:Int)) then (some ((!a2),()))
 else some (false,())
theorem aGS (x:DenS Kj):run (cf [] []) 9 248 Tryz.f248 Kj Lc x=XT x.1 x.2.1 x.2.2.1 x.2.2.2.1:=by kernel_rfl
def Nu (x:DenS Kj):Option (DenS Lc):=XT x.1 x.2.1 x.2.2.1 x.2.2.2.1
def Ox:Sum:=Al Kj Lc Nu (DenS.dflt Lc)
theorem yM:Sound Tryz.prog G1 248 Ox:=sd (cf [] []) 248 Tryz.f248 trivial trivial Kj Lc Nu _ (fun _=>aGS ..)
abbrev kG:=An Kj
abbrev lX:=Am Kj Lc
variable (p177:kG) (f177:lX)
abbrev GW:Ac:=[(false,.slice (.int .u64)),(false,.slice (.int .u64))]
abbrev FW:Ac:=[(false,.slice (.int .u64))]
abbrev F9:Pat:=⟨61,[(28,.one (.v .i64)),(1,.one (.sl (.int .u64))),(29,.one (.v .i64)),(0,.one (.sl (.int .u64))),(6,.one (.v .u64)),(5,.one (.own 0))],[.arr (.int .u64)]⟩
abbrev Ul:List (Nat×Shape):=[]
abbrev I0:List (Nat×Pat):=[(0,⟨61,[(0,.one (.sl (.int .u64))),(6,.one (.v .u64)),(5,.one (.own 0))],[.arr (.int .u64)]⟩)]
abbrev ID:Option Pat:=none
variable (w143_8:Pat.D F9->Option (Ak I0 ID))
def PH (p155:DA) (f155:DB) (p173:A2) (f173:A3) {R:Type} (L:Pat.D F9->Option R) (e:Ak I0 ID->Option R) (x:Pat.D F9):Option R :=
 let e8_:=(x.1.2.2.2.1.getD (Int.toNat x.1.2.2.1) (0:Int))
 let e7_:=((x.1.2.1.getD (Int.toNat x.1.2.2.1) (0:Int)),x.1.2.2.2.2.1,())
 let e1_:=(f155 (e8_,e7_))
 let e2_:=(f155 (e8_,(0:Int),x.1.2.2.2.2.1,()))
 let e3_:=((decide ((0:Int)<=x.1.2.2.1))&&(decide (x.1.2.2.1<(x.1.2.2.2.1.length:Int))))
 let e4_:=((decide ((0:Int)<=x.1.2.2.1))&&(decide (x.1.2.2.1<(x.2.1.length:Int))))
 let e5_:=(IntKind.wrap .i64 (x.1.2.2.1+(1:Int)))
 let e6_:=e8_
 bif (decide (x.1.2.2.1<x.1.1)) then (bif (decide (x.1.2.2.1<(x.1.2.1.length:Int))) then (bif ((decide ((0:Int)<=x.1.2.2.1))&&(decide (x.1.2.2.1<(x.1.2.1.length:Int)))) then (bif e3_ then (bif (p155 (e6_,e7_)) then (bif e4_ then (((L ((x.1.1,x.1.2.1,e5_,x.1.2.2.2.1,e1_.2.1,(),()),(x.2.1.set (Int.toNat x.1.2.2.1) e1_.1),()))))
 else none)
 else none)
 else none)
 else none)
 else bif e3_ then (bif (p155 (e6_,(0:Int),x.1.2.2.2.2.1,())) then (bif e4_ then (((L ((x.1.1,x.1.2.1,e5_,x.1.2.2.2.1,e2_.2.1,(),()),(x.2.1.set (Int.toNat x.1.2.2.1) e2_.1),()))))
 else none)
 else none)
 else none)
 else (e (.inl ((x.1.2.2.2.1,x.1.2.2.2.2.1,(),()),x.2)))
theorem aIn (d:Nat) (R:Type) (L:Pat.D F9->Option R) (e:Ak I0 ID->Option R) (x:Pat.D F9) :
  B7 (cf [(165,⟨Fb,FY,p155,f155⟩),(169,⟨Bk,Bl,p173,f173⟩)] [(176,8,LoopSpec.of F9 Ul I0 ID w143_8)]) (d+2) 176 (BR Tryz.f176 8) F9 Ul I0 ID (R:=R) L e x=PH p155 f155 p173 f173 L e x:=by kernel_rfl
theorem sE (p155:DA) (f155:DB) (p173:A2) (f173:A3):BG fun L e x=>PH p155 f155 p173 f173 L e x:=by intro _ _ _ _ _ _ _ h0 hL he _; unfold PH; repeat' (first | exact h0 | exact hL _ | exact he _ | apply Cu | (apply Cv h0; intro _) | (apply Cw <;> intro _))
def XE (p155:DA) (f155:DB) (p173:A2) (f173:A3) (w143_8:Pat.D F9->Option (Ak I0 ID)) (a0 a1:Aa (.slice (.int .u64))):Option (DenS FW) :=
 let e5_:=(IntKind.wrap .i64 (((f173 (a1,())).1.length:Int)+(1:Int)))
 let e1_:=(List.replicate (Int.toNat e5_) (0:Int))
 let e6_:=(IntKind.wrap .i64 (((f173 (a0,())).1.length:Int)+(1:Int)))
 let e2_:=(List.replicate (Int.toNat e6_) (0:Int))
 let e3_:=e5_
 let e4_:=e6_
 bif (p173 (a0,())) then (bif (p173 (a1,())) then (bif (decide (((f173 (a0,())).1.length:Int)<((f173 (a1,())).1.length:Int))) then (bif ((decide ((0:Int)<=e3_))&&(decide ((e3_*(8:Int))<=(140737488355328:Int)))) then (Vx.Bh (w143_8 ((((f173 (a1,())).1.length:Int),(f173 (a0,())).1,(0:Int),(f173 (a1,())).1,(0:Int),(),()),(((f173 (a1,())).1.take e1_.length)++(e1_.drop (f173 (a1,())).1.length)),())) fun y4 =>
 Vx.Bi y4 (fun y5 =>
 bif ((decide ((0:Int)<=(y5.1.1.length:Int)))&&(decide ((y5.1.1.length:Int)<(y5.2.1.length:Int)))) then (bif (p173 ((y5.2.1.set (Int.toNat (y5.1.1.length:Int)) y5.1.2.1),())) then (some (f173 ((y5.2.1.set (Int.toNat (y5.1.1.length:Int)) y5.1.2.1),())))
 else none)
 else none) (fun z5 =>
 none))
 else none)
 else bif ((decide ((0:Int)<=e4_))&&(decide ((e4_*(8:Int))<=(140737488355328:Int)))) then (Vx.Bh (w143_8 ((((f173 (a0,())).1.length:Int),(f173 (a1,())).1,(0:Int),(f173 (a0,())).1,(0:Int),(),()),(((f173 (a0,())).1.take e2_.length)++(e2_.drop (f173 (a0,())).1.length)),())) fun y4 =>
 Vx.Bi y4 (fun y5 =>
 bif ((decide ((0:Int)<=(y5.1.1.length:Int)))&&(decide ((y5.1.1.length:Int)<(y5.2.1.length:Int)))) then (bif (p173 ((y5.2.1.set (Int.toNat (y5.1.1.length:Int)) y5.1.2.1),())) then (some (f173 ((y5.2.1.set (Int.toNat (y5.1.1.length:Int)) y5.1.2.1),())))
 else none)
 else none) (fun z5 =>
 none))
 else none)
 else none)
 else none
theorem aGB (x:DenS GW):run (cf [(165,⟨Fb,FY,p155,f155⟩),(169,⟨Bk,Bl,p173,f173⟩)] [(176,8,LoopSpec.of F9 Ul I0 ID w143_8)]) 9 176 Tryz.f176 GW FW x=XE p155 f155 p173 f173 w143_8 x.1 x.2.1:=by kernel_rfl
def Se:F9.D->Option (Ak I0 ID):=Bo fun L=>PH Az.pre Az.F Ah.pre Ah.F L some
def Nq (x:DenS GW):Option (DenS FW):=XE Az.pre Az.F Ah.pre Ah.F Se x.1 x.2.1
def C6:Sum:=Al GW FW Nq (DenS.dflt FW)
theorem iE:Sound Tryz.prog G1 176 C6:=sd (cf [(165,Az),(169,Ah)] [(176,8,LoopSpec.of F9 Ul I0 ID Se)]) 176 Tryz.f176 ⟨QS,Dy,trivial⟩ ⟨rfl,fun d=>Ct (fun L e x=>PH Az.pre Az.F Ah.pre Ah.F L e x) (sE Az.pre Az.F Ah.pre Ah.F) (fun _ _ _ _=>aIn ..),trivial⟩ GW FW Nq _ (fun _=>aGB ..)
abbrev OY:=An GW
abbrev Pa:=Am GW FW
variable (p143:OY) (f143:Pa)
abbrev H2:Ac:=[(true,.pair (.bool) (.pair (.slice (.int .u64)) (.pair (.int .i64) (.pair (.bool) (.unit))))),(false,.int .i64),(false,.int .i64)]
abbrev Im:Ac:=[(false,.slice (.int .u64)),(false,.bool)]
def XL (p175:kF) (f175:lW) (p176:OZ) (f176:Pb) (p141:OX) (f141:O9) (p177:kG) (f177:lX) (p143:OY) (f143:Pa) (a0:Aa (.pair (.bool) (.pair (.slice (.int .u64)) (.pair (.int .i64) (.pair (.bool) (.unit)))))) (a1 a2:Aa (.int .i64)):Option (DenS Im) :=
 let e47_:=(IntKind.wrap .i64 (a2-a0.2.2.1))
 let e44_:=(f175 (a0.2.1,(IntKind.wrap .i64 (e47_-(2:Int))),()))
 let e42_:=(e44_.1,(2:Int),())
 let e40_:=(f141 e42_)
 let e38_:=(e40_.1.length:Int)
 let e34_:=(decide (e38_>(0:Int)))
 let e28_:=(e34_&&((CK .u64 (e40_.1.getD (Int.toNat (0:Int)) (0:Int)) (1:Int))==(1:Int)))
 let e32_:=(CK .u64 (e44_.1.getD (Int.toNat (0:Int)) (0:Int)) (3:Int))
 let e30_:=(Bz .u64 e32_ (1:Int))
 let e1_:=(a1,a0.1,e28_,e30_,())
 let e45_:=(f176 (a0.2.1,(IntKind.wrap .i64 ((2:Int)-e47_)),()))
 let e43_:=(e45_.1,(2:Int),())
 let e41_:=(f141 e43_)
 let e39_:=(e41_.1.length:Int)
 let e35_:=(decide (e39_>(0:Int)))
 let e29_:=(e35_&&((CK .u64 (e41_.1.getD (Int.toNat (0:Int)) (0:Int)) (1:Int))==(1:Int)))
 let e33_:=(CK .u64 (e45_.1.getD (Int.toNat (0:Int)) (0:Int)) (3:Int))
 let e31_:=(Bz .u64 e33_ (1:Int))
 let e2_:=(a1,a0.1,e29_,e31_,())
 let e3_:=(a1,a0.1,e28_,e32_,())
 let e4_:=(a1,a0.1,e29_,e33_,())
 let e46_:=((Bz .u64 (0:Int) (1:Int)),())
 let e5_:=(a1,a0.1,e28_,e46_)
 let e6_:=(a1,a0.1,e29_,e46_)
 let e7_:=((decide ((0:Int)<e38_))||(!e34_))
 let e8_:=((decide ((0:Int)<e39_))||(!e35_))
 let e9_:=((e30_ != (0:Int)),())
 let e10_:=((e31_ != (0:Int)),())
 let e11_:=e30_
 let e12_:=e31_
 let e13_:=((e32_ != (0:Int)),())
 let e14_:=((e33_ != (0:Int)),())
 let e15_:=e32_
 let e16_:=e33_
 let e36_:=(e40_.1,((1:Int)::[]),())
 let e17_:=(p143 e36_)
 let e18_:=(f143 e36_)
 let e37_:=(e41_.1,((1:Int)::[]),())
 let e19_:=(p143 e37_)
 let e20_:=(f143 e37_)
 let e21_:=e40_
 let e22_:=e41_
 let e23_:=(p141 e42_)
 let e24_:=(p141 e43_)
 let e25_:=(e44_.1.length:Int)
 let e26_:=(e45_.1.length:Int)
 let e27_:=e47_
 bif (decide (e27_>=(2:Int))) then (bif (p175 (a0.2.1,(IntKind.wrap .i64 (e27_-(2:Int))),())) then (bif (decide (e25_>(0:Int))) then (bif (decide ((0:Int)<e25_)) then (bif a0.2.2.2.1 then (bif e23_ then (bif e7_ then (bif ((p177 e1_)||(!(bif (e11_==(0:Int)) then false else true))) then (bif ((e11_ != (0:Int))&&(f177 e1_).1) then (bif e17_ then (some (e18_.1,e9_))
 else none)
 else some (e21_.1,e9_))
 else none)
 else none)
 else none)
 else bif e23_ then (bif e7_ then (bif ((p177 e3_)||(!(bif (e15_==(0:Int)) then false else true))) then (bif ((e15_ != (0:Int))&&(f177 e3_).1) then (bif e17_ then (some (e18_.1,e13_))
 else none)
 else some (e21_.1,e13_))
 else none)
 else none)
 else none)
 else none)
 else bif a0.2.2.2.1 then (bif e23_ then (bif e7_ then (bif ((p177 e5_)||false) then (bif (f177 e5_).1 then (bif e17_ then (some (e18_.1,true,()))
 else none)
 else some (e21_.1,true,()))
 else none)
 else none)
 else none)
 else bif e23_ then (bif e7_ then (bif ((p177 (a1,a0.1,((decide ((e21_.1.length:Int)>(0:Int)))&&((CK .u64 (e21_.1.getD (Int.toNat (0:Int)) (0:Int)) (1:Int))==(1:Int))),(0:Int),()))||true) then (some (e21_.1,false,()))
 else none)
 else none)
 else none)
 else none)
 else bif (p176 (a0.2.1,(IntKind.wrap .i64 ((2:Int)-e27_)),())) then (bif (decide (e26_>(0:Int))) then (bif (decide ((0:Int)<e26_)) then (bif a0.2.2.2.1 then (bif e24_ then (bif e8_ then (bif ((p177 e2_)||(!(bif (e12_==(0:Int)) then false else true))) then (bif ((e12_ != (0:Int))&&(f177 e2_).1) then (bif e19_ then (some (e20_.1,e10_))
 else none)
 else some (e22_.1,e10_))
 else none)
 else none)
 else none)
 else bif e24_ then (bif e8_ then (bif ((p177 e4_)||(!(bif (e16_==(0:Int)) then false else true))) then (bif ((e16_ != (0:Int))&&(f177 e4_).1) then (bif e19_ then (some (e20_.1,e14_))
 else none)
 else some (e22_.1,e14_))
 else none)
 else none)
 else none)
 else none)
 else bif a0.2.2.2.1 then (bif e24_ then (bif e8_ then (bif ((p177 e6_)||false) then (bif (f177 e6_).1 then (bif e19_ then (some (e20_.1,true,()))
 else none)
 else some (e22_.1,true,()))
 else none)
 else none)
 else none)
 else bif e24_ then (bif e8_ then (bif ((p177 (a1,a0.1,((decide ((e22_.1.length:Int)>(0:Int)))&&((CK .u64 (e22_.1.getD (Int.toNat (0:Int)) (0:Int)) (1:Int))==(1:Int))),(0:Int),()))||true) then (some (e22_.1,false,()))
 else none)
 else none)
 else none)
 else none
theorem aGI (x:DenS H2):run (cf [(246,⟨Ki,Lb,p175,f175⟩),(174,⟨GX,Ha,p176,f176⟩),(247,⟨GV,G9,p141,f141⟩),(248,⟨Kj,Lc,p177,f177⟩),(176,⟨GW,FW,p143,f143⟩)] []) 9 172 Tryz.f172 H2 Im x=XL p175 f175 p176 f176 p141 f141 p177 f177 p143 f143 x.1 x.2.1 x.2.2.1:=by kernel_rfl
def OG (x:DenS H2):Option (DenS Im):=XL Ow.pre Ow.F C7.pre C7.F C5.pre C5.F Ox.pre Ox.F C6.pre C6.F x.1 x.2.1 x.2.2.1
def Gn:Sum:=Al H2 Im OG (DenS.dflt Im)
theorem iF:Sound Tryz.prog G1 172 Gn:=sd (cf [(246,Ow),(174,C7),(247,C5),(248,Ox),(176,C6)] []) 172 Tryz.f172 ⟨yL,iH,iD,yM,iE,trivial⟩ trivial H2 Im OG _ (fun _=>aGI ..)
abbrev Zx:=An H2
abbrev ZU:=Am H2 Im
variable (p150:Zx) (f150:ZU)
abbrev FR:Ac:=[(false,.int .i64),(false,.bool)]
abbrev F4:Ac:=[(false,.int .u64),(false,.int .i64)]
def w7 (p116:Vi) (f116:Vp) (p69:Dl) (f69:Dn) (p91:Gq) (f91:Gr) (p140:Sm) (f140:Sv) (a0:Aa (.int .i64)) (a1:Aa (.bool)):Option (DenS F4) :=
 let e2_:=((IntKind.wrap .i64 ((f69 (a0,())).1.1-(f69 (a0,())).1.2.1)),())
 let e1_:=((f69 (a0,())).1,a1,(IntKind.wrap .u64 ((f91 e2_).1-(f116 ((f69 (a0,())).1,())).1)),(f116 ((f69 (a0,())).1,())))
 bif (p69 (a0,())) then (bif ((f69 (a0,())).2.1 != (0:Int)) then (some ((0:Int),(f69 (a0,())).2))
 else bif (p91 e2_) then (bif (p116 ((f69 (a0,())).1,())) then (bif (p116 ((f69 (a0,())).1,())) then (bif (p140 e1_) then (some ((f140 e1_).1,(0:Int),()))
 else none)
 else none)
 else none)
 else none)
 else none
theorem r97 (x:DenS FR):run (cf [(104,⟨GP,G7,p116,f116⟩),(54,⟨CY,CZ,p69,f69⟩),(112,⟨DO,DP,p91,f91⟩),(149,⟨FK,FV,p140,f140⟩)] []) 9 65 Tryz.f65 FR F4 x=w7 p116 f116 p69 f69 p91 f91 p140 f140 x.1 x.2.1:=by kernel_rfl
def R7 (x:DenS FR):Option (DenS F4):=w7 Hp.pre Hp.F AE.pre AE.F Be.pre Be.F ET.pre ET.F x.1 x.2.1
def Cy:Sum:=Al FR F4 R7 (DenS.dflt F4)
theorem UR:Sound Tryz.prog G1 65 Cy:=sd (cf [(104,Hp),(54,AE),(112,Be),(149,ET)] []) 65 Tryz.f65 ⟨Y8,Ht,IT,UG,trivial⟩ trivial FR F4 R7 _ (fun _=>r97 ..)
abbrev NA:=An FR
abbrev ND:=Am FR F4
variable (p97:NA) (f97:ND)
abbrev KU:Ac:=[(true,.pair (.int .i64) (.pair (.int .i64) (.pair (.int .i64) (.pair (.int .i64) (.unit)))))]
abbrev LL:Ac:=[(false,.int .u64)]
def w0 (a0:Aa (.pair (.int .i64) (.pair (.int .i64) (.pair (.int .i64) (.pair (.int .i64) (.unit)))))):Option (DenS LL) :=
 some ((1:Int),())
theorem r95 (x:DenS KU):run (cf [] []) 9 299 Tryz.f299 KU LL x=w0 x.1:=by kernel_rfl
def jQ (x:DenS KU):Option (DenS LL):=w0 x.1
def UP:Sum:=Al KU LL jQ (DenS.dflt LL)
theorem aAi:Sound Tryz.prog G1 299 UP:=sd (cf [] []) 299 Tryz.f299 trivial trivial KU LL jQ _ (fun _=>r95 ..)
abbrev lF:=An KU
abbrev mZ:=Am KU LL
variable (p95:lF) (f95:mZ)
abbrev KV:Ac:=[(true,.pair (.int .i64) (.pair (.int .i64) (.pair (.int .i64) (.pair (.int .i64) (.unit)))))]
abbrev LM:Ac:=[(false,.int .u64)]
def w6 (p91:Gq) (f91:Gr) (a0:Aa (.pair (.int .i64) (.pair (.int .i64) (.pair (.int .i64) (.pair (.int .i64) (.unit)))))):Option (DenS LM) :=
 let e1_:=((IntKind.wrap .i64 (a0.2.1-(1:Int))),())
 bif (p91 e1_) then (some (f91 e1_))
 else none
theorem r96 (x:DenS KV):run (cf [(112,⟨DO,DP,p91,f91⟩)] []) 9 300 Tryz.f300 KV LM x=w6 p91 f91 x.1:=by kernel_rfl
def jR (x:DenS KV):Option (DenS LM):=w6 Be.pre Be.F x.1
def UQ:Sum:=Al KV LM jR (DenS.dflt LM)
theorem aAj:Sound Tryz.prog G1 300 UQ:=sd (cf [(112,Be)] []) 300 Tryz.f300 ⟨IT,trivial⟩ trivial KV LM jR _ (fun _=>r96 ..)
abbrev lG:=An KV
abbrev m7:=Am KV LM
variable (p96:lG) (f96:m7)
abbrev KH:Ac:=[(false,.int .i64),(false,.bool)]
abbrev Ly:Ac:=[(false,.int .u64),(false,.int .i64)]
def wX (p95:lF) (f95:mZ) (p96:lG) (f96:m7) (p69:Dl) (f69:Dn) (p91:Gq) (f91:Gr) (p140:Sm) (f140:Sv) (a0:Aa (.int .i64)) (a1:Aa (.bool)):Option (DenS Ly) :=
 let e2_:=((IntKind.wrap .i64 ((f69 (a0,())).1.1-(f69 (a0,())).1.2.1)),())
 let e1_:=((f69 (a0,())).1,a1,(IntKind.wrap .u64 ((f91 e2_).1-(f95 ((f69 (a0,())).1,())).1)),(f96 ((f69 (a0,())).1,())))
 bif (p69 (a0,())) then (bif ((f69 (a0,())).2.1 != (0:Int)) then (some ((0:Int),(f69 (a0,())).2))
 else bif (p91 e2_) then (bif (p95 ((f69 (a0,())).1,())) then (bif (p96 ((f69 (a0,())).1,())) then (bif (p140 e1_) then (some ((f140 e1_).1,(0:Int),()))
 else none)
 else none)
 else none)
 else none)
 else none
theorem r43 (x:DenS KH):run (cf [(299,⟨KU,LL,p95,f95⟩),(300,⟨KV,LM,p96,f96⟩),(54,⟨CY,CZ,p69,f69⟩),(112,⟨DO,DP,p91,f91⟩),(149,⟨FK,FV,p140,f140⟩)] []) 9 245 Tryz.f245 KH Ly x=wX p95 f95 p96 f96 p69 f69 p91 f91 p140 f140 x.1 x.2.1:=by kernel_rfl
def RJ (x:DenS KH):Option (DenS Ly):=wX UP.pre UP.F UQ.pre UQ.F AE.pre AE.F Be.pre Be.F ET.pre ET.F x.1 x.2.1
def Hr:Sum:=Al KH Ly RJ (DenS.dflt Ly)
theorem zS:Sound Tryz.prog G1 245 Hr:=sd (cf [(299,UP),(300,UQ),(54,AE),(112,Be),(149,ET)] []) 245 Tryz.f245 ⟨aAi,aAj,Ht,IT,UG,trivial⟩ trivial KH Ly RJ _ (fun _=>r43 ..)
abbrev k8:=An KH
abbrev mS:=Am KH Ly
variable (p43:k8) (f43:mS)
abbrev Ke:Ac:=[(false,.int .i64),(false,.int .i64),(false,.bool)]
abbrev K6:Ac:=[(false,.int .u64)]
def XK (p97:NA) (f97:ND) (p43:k8) (f43:mS) (a0 a1:Aa (.int .i64)) (a2:Aa (.bool)):Option (DenS K6) :=
 bif ((((a1==(0:Int))||(a1==(1:Int)))||((a1==(3:Int))&&(!a2)))||((a1==(4:Int))&&a2)) then (bif (p97 (a0,a2,())) then (some ((f97 (a0,a2,())).1,()))
 else none)
 else bif (p43 (a0,a2,())) then (some ((f43 (a0,a2,())).1,()))
 else none
theorem aGH (x:DenS Ke):run (cf [(65,⟨FR,F4,p97,f97⟩),(245,⟨KH,Ly,p43,f43⟩)] []) 9 171 Tryz.f171 Ke K6 x=XK p97 f97 p43 f43 x.1 x.2.1 x.2.2.1:=by kernel_rfl
def Rc (x:DenS Ke):Option (DenS K6):=XK Cy.pre Cy.F Hr.pre Hr.F x.1 x.2.1 x.2.2.1
def Ot:Sum:=Al Ke K6 Rc (DenS.dflt K6)
theorem yH:Sound Tryz.prog G1 171 Ot:=sd (cf [(65,Cy),(245,Hr)] []) 171 Tryz.f171 ⟨UR,zS,trivial⟩ trivial Ke K6 Rc _ (fun _=>aGH ..)
abbrev kB:=An Ke
abbrev lS:=Am Ke K6
variable (p149:kB) (f149:lS)
abbrev Kf:Ac:=[(true,.pair (.bool) (.pair (.slice (.int .u64)) (.pair (.int .i64) (.pair (.bool) (.unit))))),(true,.pair (.int .i64) (.pair (.int .i64) (.pair (.int .i64) (.pair (.int .i64) (.unit))))),(false,.int .i64),(false,.int .i64)]
abbrev K7:Ac:=[(false,.bool)]
def XN (p150:Zx) (f150:ZU) (p151:Jh) (f151:Jl) (a0:Aa (.pair (.bool) (.pair (.slice (.int .u64)) (.pair (.int .i64) (.pair (.bool) (.unit)))))) (a1:Aa (.pair (.int .i64) (.pair (.int .i64) (.pair (.int .i64) (.pair (.int .i64) (.unit)))))) (a2 a3:Aa (.int .i64)):Option (DenS K7) :=
 let e3_:=(IntKind.wrap .i64 (a3-a1.2.1))
 let e1_:=((f150 ((a0.1,a0.2),a2,(IntKind.wrap .i64 (e3_+(1:Int))),())).1,())
 let e2_:=e3_
 bif (decide (a3>=a1.2.2.1)) then (some (false,()))
 else bif (p150 ((a0.1,a0.2),a2,(IntKind.wrap .i64 (e2_+(1:Int))),())) then (bif (p151 e1_) then (some ((decide ((IntKind.wrap .i64 (e2_+(f151 e1_).1))<a1.2.2.1)),()))
 else none)
 else none
theorem aGK (x:DenS Kf):run (cf [(172,⟨H2,Im,p150,f150⟩),(123,⟨EI,EL,p151,f151⟩)] []) 9 173 Tryz.f173 Kf K7 x=XN p150 f150 p151 f151 x.1 x.2.1 x.2.2.1 x.2.2.2.1:=by kernel_rfl
def Rd (x:DenS Kf):Option (DenS K7):=XN Gn.pre Gn.F BA.pre BA.F x.1 x.2.1 x.2.2.1 x.2.2.2.1
def Ou:Sum:=Al Kf K7 Rd (DenS.dflt K7)
theorem yI:Sound Tryz.prog G1 173 Ou:=sd (cf [(172,Gn),(123,BA)] []) 173 Tryz.f173 ⟨iF,QR,trivial⟩ trivial Kf K7 Rd _ (fun _=>aGK ..)
abbrev kC:=An Kf
abbrev lT:=Am Kf K7
variable (p152:kC) (f152:lT)
abbrev GN:Ac:=[(true,.pair (.bool) (.pair (.slice (.int .u64)) (.pair (.int .i64) (.pair (.bool) (.unit))))),(false,.int .i64),(true,.pair (.int .i64) (.pair (.int .i64) (.pair (.int .i64) (.pair (.int .i64) (.unit))))),(false,.int .i64)]
abbrev G5:Ac:=[(false,.int .u64),(false,.int .i64)]
def Xr (p148:kA) (f148:lR) (p150:Zx) (f150:ZU) (p151:Jh) (f151:Jl) (p149:kB) (f149:lS) (p152:kC) (f152:lT) (a0:Aa (.pair (.bool) (.pair (.slice (.int .u64)) (.pair (.int .i64) (.pair (.bool) (.unit)))))) (a1:Aa (.int .i64)) (a2:Aa (.pair (.int .i64) (.pair (.int .i64) (.pair (.int .i64) (.pair (.int .i64) (.unit)))))) (a3:Aa (.int .i64)):Option (DenS G5) :=
 let e18_:=(IntKind.wrap .i64 ((IntKind.wrap .i64 ((if (a2.2.2.1>(f148 ((a0.1,a0.2),())).1) then a2.2.2.1 else (f148 ((a0.1,a0.2),())).1)-a2.2.1))+(1:Int)))
 let e21_:=(IntKind.wrap .i64 (a2.2.1-(1:Int)))
 let e14_:=(Bp .u64 (IntKind.wrap .u64 (IntKind.wrap .i64 (e18_-(IntKind.wrap .i64 ((IntKind.wrap .i64 (a2.2.2.1-a2.2.1))+(1:Int)))))) e21_)
 let e17_:=((a0.1,a0.2),a3,e18_,())
 let e16_:=(f150 e17_)
 let e13_:=(IntKind.wrap .u64 (e14_+(e16_.1.getD (Int.toNat (0:Int)) (0:Int))))
 let e22_:=(IntKind.wrap .i64 (a2.1-(1:Int)))
 let e19_:=(Bp .u64 (1:Int) e22_)
 let e1_:=(Bz .u64 e13_ e19_)
 let e2_:=e13_
 let e3_:=(Bz .u64 e14_ e19_)
 let e15_:=(e16_.1,())
 let e4_:=(decide ((IntKind.wrap .i64 ((IntKind.wrap .i64 (e18_+(f151 e15_).1))-(1:Int)))>a2.2.2.2.1))
 let e5_:=e14_
 let e6_:=(e16_.1.length:Int)
 let e7_:=(p151 e15_)
 let e8_:=(!e16_.2.1)
 let e9_:=(decide ((0:Int)<=e22_))
 let e20_:=((a0.1,a0.2),(a2.1,a2.2),a3,(f148 ((a0.1,a0.2),())))
 let e10_:=(p152 e20_)
 let e11_:=(f152 e20_)
 let e12_:=((f149 (a1,a3,a0.1,())).1,(20:Int),())
 bif (p148 ((a0.1,a0.2),())) then (bif (decide ((f148 ((a0.1,a0.2),())).1>a2.2.2.2.1)) then (bif (p149 (a1,a3,a0.1,())) then (some e12_)
 else none)
 else bif (p150 e17_) then (bif (decide ((0:Int)<=e21_)) then (bif (decide (e6_>(0:Int))) then (bif (decide ((0:Int)<e6_)) then (bif e7_ then (bif e4_ then (bif (p149 (a1,a3,a0.1,())) then (some e12_)
 else none)
 else bif a0.1 then (bif e9_ then (bif e8_ then (some (e1_,(0:Int),()))
 else bif e10_ then (bif e11_.1 then (some (e1_,(24:Int),()))
 else some (e1_,(16:Int),()))
 else none)
 else none)
 else bif e8_ then (some (e2_,(0:Int),()))
 else bif e10_ then (bif e11_.1 then (some (e2_,(24:Int),()))
 else some (e2_,(16:Int),()))
 else none)
 else none)
 else none)
 else bif e7_ then (bif e4_ then (bif (p149 (a1,a3,a0.1,())) then (some e12_)
 else none)
 else bif a0.1 then (bif e9_ then (bif e8_ then (some (e3_,(0:Int),()))
 else bif e10_ then (bif e11_.1 then (some (e3_,(24:Int),()))
 else some (e3_,(16:Int),()))
 else none)
 else none)
 else bif e8_ then (some (e5_,(0:Int),()))
 else bif e10_ then (bif e11_.1 then (some (e5_,(24:Int),()))
 else some (e5_,(16:Int),()))
 else none)
 else none)
 else none)
 else none)
 else none
theorem aGj (x:DenS GN):run (cf [(170,⟨Kd,K5,p148,f148⟩),(172,⟨H2,Im,p150,f150⟩),(123,⟨EI,EL,p151,f151⟩),(171,⟨Ke,K6,p149,f149⟩),(173,⟨Kf,K7,p152,f152⟩)] []) 9 125 Tryz.f125 GN G5 x=Xr p148 f148 p150 f150 p151 f151 p149 f149 p152 f152 x.1 x.2.1 x.2.2.1 x.2.2.2.1:=by kernel_rfl
def QV (x:DenS GN):Option (DenS G5):=Xr Or.pre Or.F Gn.pre Gn.F BA.pre BA.F Ot.pre Ot.F Ou.pre Ou.F x.1 x.2.1 x.2.2.1 x.2.2.2.1
def DS:Sum:=Al GN G5 QV (DenS.dflt G5)
theorem Y7:Sound Tryz.prog G1 125 DS:=sd (cf [(170,Or),(172,Gn),(123,BA),(171,Ot),(173,Ou)] []) 125 Tryz.f125 ⟨yG,iF,QR,yH,yI,trivial⟩ trivial GN G5 QV _ (fun _=>aGj ..)
abbrev OV:=An GN
abbrev O7:=Am GN G5
variable (p107:OV) (f107:O7)
abbrev FJ:Ac:=[(false,.int .i64),(false,.int .i64),(false,.bool),(true,.pair (.int .u64) (.pair (.int .u64) (.unit))),(false,.int .i64),(false,.bool)]
abbrev G8:Ac:=[(false,.int .u64),(false,.int .i64),(false,.int .i64)]
def Xz (p105:OU) (f105:O6) (p102:MA) (f102:MC) (p151:Jh) (f151:Jl) (p156:Vk) (f156:Vr) (p107:OV) (f107:O7) (a0 a1:Aa (.int .i64)) (a2:Aa (.bool)) (a3:Aa (.pair (.int .u64) (.pair (.int .u64) (.unit)))) (a4:Aa (.int .i64)) (a5:Aa (.bool)):Option (DenS G8) :=
 let e2_:=((a2,(f102 ((a3.2.1::(a3.1::[])),())).1,a4,a5,()),a0,(f105 (a0,a1,())).1,a1,())
 let e1_:=(f107 e2_)
 bif (p105 (a0,a1,())) then (bif ((f105 (a0,a1,())).2.1 != (0:Int)) then (some ((0:Int),(0:Int),(f105 (a0,a1,())).2))
 else bif (p102 ((a3.2.1::(a3.1::[])),())) then (bif ((decide (a4<(-(40000:Int))))||(decide (a4>(40000:Int)))) then (some ((0:Int),(0:Int),(30:Int),()))
 else bif ((p151 (f102 ((a3.2.1::(a3.1::[])),())))||(!a5)) then (bif (a5&&(decide ((f151 (f102 ((a3.2.1::(a3.1::[])),()))).1<(IntKind.wrap .i64 ((f105 (a0,a1,())).1.2.1+(2:Int)))))) then (some ((0:Int),(0:Int),(7:Int),()))
 else bif (((f102 ((a3.2.1::(a3.1::[])),())).1.length:Int)==(0:Int)) then (bif (p156 (a0,a2,())) then (some (f156 (a0,a2,())))
 else none)
 else bif (p107 e2_) then (some (e1_.1,e1_.2.1,(0:Int),()))
 else none)
 else none)
 else none)
 else none
theorem aGv (x:DenS FJ):run (cf [(121,⟨GM,G4,p105,f105⟩),(122,⟨FH,FT,p102,f102⟩),(123,⟨EI,EL,p151,f151⟩),(124,⟨H3,In,p156,f156⟩),(125,⟨GN,G5,p107,f107⟩)] []) 9 66 Tryz.f66 FJ G8 x=Xz p105 f105 p102 f102 p151 f151 p156 f156 p107 f107 x.1 x.2.1 x.2.2.1 x.2.2.2.1 x.2.2.2.2.1 x.2.2.2.2.2.1:=by kernel_rfl
def Q2 (x:DenS FJ):Option (DenS G8):=Xz DR.pre DR.F CC.pre CC.F BA.pre BA.F Gp.pre Gp.F DS.pre DS.F x.1 x.2.1 x.2.2.1 x.2.2.2.1 x.2.2.2.2.1 x.2.2.2.2.2.1
def CU:Sum:=Al FJ G8 Q2 (DenS.dflt G8)
theorem iC:Sound Tryz.prog G1 66 CU:=sd (cf [(121,DR),(122,CC),(123,BA),(124,Gp),(125,DS)] []) 66 Tryz.f66 ⟨Y6,Y5,QR,iG,Y7,trivial⟩ trivial FJ G8 Q2 _ (fun _=>aGv ..)
abbrev Sk:=An FJ
abbrev Ss:=Am FJ G8
variable (p122:Sk) (f122:Ss)
end Vx
namespace Vx
open Go Go.Proofs
variable (p119:Zs) (f119:ZP) (p120:Zt) (f120:ZQ) (p121:Zu) (f121:ZR) (p123:Zv) (f123:ZS) (p124:Zw) (f124:ZT) (p118:Jf) (f118:Jj) (p122:Sk) (f122:Ss)
abbrev KS:Ac:=[(false,.int .i64),(false,.int .i64),(true,.pair (.bool) (.pair (.int .u64) (.pair (.int .i64) (.unit)))),(true,.pair (.bool) (.pair (.int .u64) (.pair (.int .i64) (.unit))))]
abbrev Hh:Ac:=[(false,.int .u64),(false,.int .i64),(false,.int .i64)]
def YN (p119:DenS GQ->Bool) (f119:DenS GQ->DenS If) (p120:DenS GR->Bool) (f120:DenS GR->DenS Ig) (p121:DenS GS->Bool) (f121:DenS GS->DenS Ih) (p123:DenS GT->Bool) (f123:DenS GT->DenS Ii) (p124:DenS GU->Bool) (f124:DenS GU->DenS Ij) (p118:DenS Eh->Bool) (f118:DenS Eh->DenS EK) (p122:DenS FJ->Bool) (f122:DenS FJ->DenS G8) (f m:Int) (nx:Bool) (X ex:Int) (ny:Bool) (Y ey:Int):Option (DenS Hh) :=
 bif (p119 (((0:Int),(X,())),((if ((70:Int)<(IntKind.wrap .i64 (ex-ey))) then (70:Int) else (IntKind.wrap .i64 (ex-ey))),()))) then
 (bif (p120 (((0:Int),(Y,())),((IntKind.wrap .i64 ((IntKind.wrap .i64 (ex-(if ((70:Int)<(IntKind.wrap .i64 (ex-ey))) then (70:Int) else (IntKind.wrap .i64 (ex-ey)))))-ey)),()))) then
 (bif (p119 ((f120 (((0:Int),(Y,())),((IntKind.wrap .i64 ((IntKind.wrap .i64 (ex-(if ((70:Int)<(IntKind.wrap .i64 (ex-ey))) then (70:Int) else (IntKind.wrap .i64 (ex-ey)))))-ey)),()))).1,((IntKind.wrap .i64 ((IntKind.wrap .i64 (ex-(if ((70:Int)<(IntKind.wrap .i64 (ex-ey))) then (70:Int) else (IntKind.wrap .i64 (ex-ey)))))-ey)),()))) then
 (bif (p120 (((0:Int),(Y,())),((IntKind.wrap .i64 ((IntKind.wrap .i64 (ex-(if ((70:Int)<(IntKind.wrap .i64 (ex-ey))) then (70:Int) else (IntKind.wrap .i64 (ex-ey)))))-ey)),()))) then
 (bif (nx==ny) then
 (bif (p121 ((f119 (((0:Int),(X,())),((if ((70:Int)<(IntKind.wrap .i64 (ex-ey))) then (70:Int) else (IntKind.wrap .i64 (ex-ey))),()))).1,(f120 (((0:Int),(Y,())),((IntKind.wrap .i64 ((IntKind.wrap .i64 (ex-(if ((70:Int)<(IntKind.wrap .i64 (ex-ey))) then (70:Int) else (IntKind.wrap .i64 (ex-ey)))))-ey)),()))))) then
 (bif (p122 (f,(m,(nx,((f121 ((f119 (((0:Int),(X,())),((if ((70:Int)<(IntKind.wrap .i64 (ex-ey))) then (70:Int) else (IntKind.wrap .i64 (ex-ey))),()))).1,(f120 (((0:Int),(Y,())),((IntKind.wrap .i64 ((IntKind.wrap .i64 (ex-(if ((70:Int)<(IntKind.wrap .i64 (ex-ey))) then (70:Int) else (IntKind.wrap .i64 (ex-ey)))))-ey)),()))))).1,((IntKind.wrap .i64 (ex-(if ((70:Int)<(IntKind.wrap .i64 (ex-ey))) then (70:Int) else (IntKind.wrap .i64 (ex-ey))))),(((!(((f119 ((f120 (((0:Int),(Y,())),((IntKind.wrap .i64 ((IntKind.wrap .i64 (ex-(if ((70:Int)<(IntKind.wrap .i64 (ex-ey))) then (70:Int) else (IntKind.wrap .i64 (ex-ey)))))-ey)),()))).1,((IntKind.wrap .i64 ((IntKind.wrap .i64 (ex-(if ((70:Int)<(IntKind.wrap .i64 (ex-ey))) then (70:Int) else (IntKind.wrap .i64 (ex-ey)))))-ey)),()))).1.1==(0:Int))&&((f119 ((f120 (((0:Int),(Y,())),((IntKind.wrap .i64 ((IntKind.wrap .i64 (ex-(if ((70:Int)<(IntKind.wrap .i64 (ex-ey))) then (70:Int) else (IntKind.wrap .i64 (ex-ey)))))-ey)),()))).1,((IntKind.wrap .i64 ((IntKind.wrap .i64 (ex-(if ((70:Int)<(IntKind.wrap .i64 (ex-ey))) then (70:Int) else (IntKind.wrap .i64 (ex-ey)))))-ey)),()))).1.2.1==Y)))||((decide ((IntKind.wrap .i64 ((IntKind.wrap .i64 (ex-(if ((70:Int)<(IntKind.wrap .i64 (ex-ey))) then (70:Int) else (IntKind.wrap .i64 (ex-ey)))))-ey))>(63:Int)))&&(Y != (0:Int)))),()))))))) then
 (some (f122 (f,(m,(nx,((f121 ((f119 (((0:Int),(X,())),((if ((70:Int)<(IntKind.wrap .i64 (ex-ey))) then (70:Int) else (IntKind.wrap .i64 (ex-ey))),()))).1,(f120 (((0:Int),(Y,())),((IntKind.wrap .i64 ((IntKind.wrap .i64 (ex-(if ((70:Int)<(IntKind.wrap .i64 (ex-ey))) then (70:Int) else (IntKind.wrap .i64 (ex-ey)))))-ey)),()))))).1,((IntKind.wrap .i64 (ex-(if ((70:Int)<(IntKind.wrap .i64 (ex-ey))) then (70:Int) else (IntKind.wrap .i64 (ex-ey))))),(((!(((f119 ((f120 (((0:Int),(Y,())),((IntKind.wrap .i64 ((IntKind.wrap .i64 (ex-(if ((70:Int)<(IntKind.wrap .i64 (ex-ey))) then (70:Int) else (IntKind.wrap .i64 (ex-ey)))))-ey)),()))).1,((IntKind.wrap .i64 ((IntKind.wrap .i64 (ex-(if ((70:Int)<(IntKind.wrap .i64 (ex-ey))) then (70:Int) else (IntKind.wrap .i64 (ex-ey)))))-ey)),()))).1.1==(0:Int))&&((f119 ((f120 (((0:Int),(Y,())),((IntKind.wrap .i64 ((IntKind.wrap .i64 (ex-(if ((70:Int)<(IntKind.wrap .i64 (ex-ey))) then (70:Int) else (IntKind.wrap .i64 (ex-ey)))))-ey)),()))).1,((IntKind.wrap .i64 ((IntKind.wrap .i64 (ex-(if ((70:Int)<(IntKind.wrap .i64 (ex-ey))) then (70:Int) else (IntKind.wrap .i64 (ex-ey)))))-ey)),()))).1.2.1==Y)))||((decide ((IntKind.wrap .i64 ((IntKind.wrap .i64 (ex-(if ((70:Int)<(IntKind.wrap .i64 (ex-ey))) then (70:Int) else (IntKind.wrap .i64 (ex-ey)))))-ey))>(63:Int)))&&(Y != (0:Int)))),()))))))))
 else none)
 else none)
 else bif (p123 ((f119 (((0:Int),(X,())),((if ((70:Int)<(IntKind.wrap .i64 (ex-ey))) then (70:Int) else (IntKind.wrap .i64 (ex-ey))),()))).1,(f120 (((0:Int),(Y,())),((IntKind.wrap .i64 ((IntKind.wrap .i64 (ex-(if ((70:Int)<(IntKind.wrap .i64 (ex-ey))) then (70:Int) else (IntKind.wrap .i64 (ex-ey)))))-ey)),()))))) then
 (bif (decide ((f123 ((f119 (((0:Int),(X,())),((if ((70:Int)<(IntKind.wrap .i64 (ex-ey))) then (70:Int) else (IntKind.wrap .i64 (ex-ey))),()))).1,(f120 (((0:Int),(Y,())),((IntKind.wrap .i64 ((IntKind.wrap .i64 (ex-(if ((70:Int)<(IntKind.wrap .i64 (ex-ey))) then (70:Int) else (IntKind.wrap .i64 (ex-ey)))))-ey)),()))))).1<(0:Int))) then
 (bif (p124 ((f120 (((0:Int),(Y,())),((IntKind.wrap .i64 ((IntKind.wrap .i64 (ex-(if ((70:Int)<(IntKind.wrap .i64 (ex-ey))) then (70:Int) else (IntKind.wrap .i64 (ex-ey)))))-ey)),()))).1,(f119 (((0:Int),(X,())),((if ((70:Int)<(IntKind.wrap .i64 (ex-ey))) then (70:Int) else (IntKind.wrap .i64 (ex-ey))),()))))) then
 (bif ((!(((f119 ((f120 (((0:Int),(Y,())),((IntKind.wrap .i64 ((IntKind.wrap .i64 (ex-(if ((70:Int)<(IntKind.wrap .i64 (ex-ey))) then (70:Int) else (IntKind.wrap .i64 (ex-ey)))))-ey)),()))).1,((IntKind.wrap .i64 ((IntKind.wrap .i64 (ex-(if ((70:Int)<(IntKind.wrap .i64 (ex-ey))) then (70:Int) else (IntKind.wrap .i64 (ex-ey)))))-ey)),()))).1.1==(0:Int))&&((f119 ((f120 (((0:Int),(Y,())),((IntKind.wrap .i64 ((IntKind.wrap .i64 (ex-(if ((70:Int)<(IntKind.wrap .i64 (ex-ey))) then (70:Int) else (IntKind.wrap .i64 (ex-ey)))))-ey)),()))).1,((IntKind.wrap .i64 ((IntKind.wrap .i64 (ex-(if ((70:Int)<(IntKind.wrap .i64 (ex-ey))) then (70:Int) else (IntKind.wrap .i64 (ex-ey)))))-ey)),()))).1.2.1==Y)))||((decide ((IntKind.wrap .i64 ((IntKind.wrap .i64 (ex-(if ((70:Int)<(IntKind.wrap .i64 (ex-ey))) then (70:Int) else (IntKind.wrap .i64 (ex-ey)))))-ey))>(63:Int)))&&(Y != (0:Int)))) then
 (bif (p124 ((f124 ((f120 (((0:Int),(Y,())),((IntKind.wrap .i64 ((IntKind.wrap .i64 (ex-(if ((70:Int)<(IntKind.wrap .i64 (ex-ey))) then (70:Int) else (IntKind.wrap .i64 (ex-ey)))))-ey)),()))).1,(f119 (((0:Int),(X,())),((if ((70:Int)<(IntKind.wrap .i64 (ex-ey))) then (70:Int) else (IntKind.wrap .i64 (ex-ey))),()))))).1,(((0:Int),((1:Int),())),()))) then
 (bif ((((f124 ((f124 ((f120 (((0:Int),(Y,())),((IntKind.wrap .i64 ((IntKind.wrap .i64 (ex-(if ((70:Int)<(IntKind.wrap .i64 (ex-ey))) then (70:Int) else (IntKind.wrap .i64 (ex-ey)))))-ey)),()))).1,(f119 (((0:Int),(X,())),((if ((70:Int)<(IntKind.wrap .i64 (ex-ey))) then (70:Int) else (IntKind.wrap .i64 (ex-ey))),()))))).1,(((0:Int),((1:Int),())),()))).1.1==(0:Int))&&((f124 ((f124 ((f120 (((0:Int),(Y,())),((IntKind.wrap .i64 ((IntKind.wrap .i64 (ex-(if ((70:Int)<(IntKind.wrap .i64 (ex-ey))) then (70:Int) else (IntKind.wrap .i64 (ex-ey)))))-ey)),()))).1,(f119 (((0:Int),(X,())),((if ((70:Int)<(IntKind.wrap .i64 (ex-ey))) then (70:Int) else (IntKind.wrap .i64 (ex-ey))),()))))).1,(((0:Int),((1:Int),())),()))).1.2.1==(0:Int)))&&(!((!(((f119 ((f120 (((0:Int),(Y,())),((IntKind.wrap .i64 ((IntKind.wrap .i64 (ex-(if ((70:Int)<(IntKind.wrap .i64 (ex-ey))) then (70:Int) else (IntKind.wrap .i64 (ex-ey)))))-ey)),()))).1,((IntKind.wrap .i64 ((IntKind.wrap .i64 (ex-(if ((70:Int)<(IntKind.wrap .i64 (ex-ey))) then (70:Int) else (IntKind.wrap .i64 (ex-ey)))))-ey)),()))).1.1==(0:Int))&&((f119 ((f120 (((0:Int),(Y,())),((IntKind.wrap .i64 ((IntKind.wrap .i64 (ex-(if ((70:Int)<(IntKind.wrap .i64 (ex-ey))) then (70:Int) else (IntKind.wrap .i64 (ex-ey)))))-ey)),()))).1,((IntKind.wrap .i64 ((IntKind.wrap .i64 (ex-(if ((70:Int)<(IntKind.wrap .i64 (ex-ey))) then (70:Int) else (IntKind.wrap .i64 (ex-ey)))))-ey)),()))).1.2.1==Y)))||((decide ((IntKind.wrap .i64 ((IntKind.wrap .i64 (ex-(if ((70:Int)<(IntKind.wrap .i64 (ex-ey))) then (70:Int) else (IntKind.wrap .i64 (ex-ey)))))-ey))>(63:Int)))&&(Y != (0:Int)))))) then
 (bif (p118 (f,((m==(4:Int)),()))) then
 (some ((f118 (f,((m==(4:Int)),()))).1,((0:Int),((0:Int),()))))
 else none)
 else bif (p122 (f,(m,(ny,((f124 ((f124 ((f120 (((0:Int),(Y,())),((IntKind.wrap .i64 ((IntKind.wrap .i64 (ex-(if ((70:Int)<(IntKind.wrap .i64 (ex-ey))) then (70:Int) else (IntKind.wrap .i64 (ex-ey)))))-ey)),()))).1,(f119 (((0:Int),(X,())),((if ((70:Int)<(IntKind.wrap .i64 (ex-ey))) then (70:Int) else (IntKind.wrap .i64 (ex-ey))),()))))).1,(((0:Int),((1:Int),())),()))).1,((IntKind.wrap .i64 (ex-(if ((70:Int)<(IntKind.wrap .i64 (ex-ey))) then (70:Int) else (IntKind.wrap .i64 (ex-ey))))),(((!(((f119 ((f120 (((0:Int),(Y,())),((IntKind.wrap .i64 ((IntKind.wrap .i64 (ex-(if ((70:Int)<(IntKind.wrap .i64 (ex-ey))) then (70:Int) else (IntKind.wrap .i64 (ex-ey)))))-ey)),()))).1,((IntKind.wrap .i64 ((IntKind.wrap .i64 (ex-(if ((70:Int)<(IntKind.wrap .i64 (ex-ey))) then (70:Int) else (IntKind.wrap .i64 (ex-ey)))))-ey)),()))).1.1==(0:Int))&&((f119 ((f120 (((0:Int),(Y,())),((IntKind.wrap .i64 ((IntKind.wrap .i64 (ex-(if ((70:Int)<(IntKind.wrap .i64 (ex-ey))) then (70:Int) else (IntKind.wrap .i64 (ex-ey)))))-ey)),()))).1,((IntKind.wrap .i64 ((IntKind.wrap .i64 (ex-(if ((70:Int)<(IntKind.wrap .i64 (ex-ey))) then (70:Int) else (IntKind.wrap .i64 (ex-ey)))))-ey)),()))).1.2.1==Y)))||((decide ((IntKind.wrap .i64 ((IntKind.wrap .i64 (ex-(if ((70:Int)<(IntKind.wrap .i64 (ex-ey))) then (70:Int) else (IntKind.wrap .i64 (ex-ey)))))-ey))>(63:Int)))&&(Y != (0:Int)))),()))))))) then
 (some (f122 (f,(m,(ny,((f124 ((f124 ((f120 (((0:Int),(Y,())),((IntKind.wrap .i64 ((IntKind.wrap .i64 (ex-(if ((70:Int)<(IntKind.wrap .i64 (ex-ey))) then (70:Int) else (IntKind.wrap .i64 (ex-ey)))))-ey)),()))).1,(f119 (((0:Int),(X,())),((if ((70:Int)<(IntKind.wrap .i64 (ex-ey))) then (70:Int) else (IntKind.wrap .i64 (ex-ey))),()))))).1,(((0:Int),((1:Int),())),()))).1,((IntKind.wrap .i64 (ex-(if ((70:Int)<(IntKind.wrap .i64 (ex-ey))) then (70:Int) else (IntKind.wrap .i64 (ex-ey))))),(((!(((f119 ((f120 (((0:Int),(Y,())),((IntKind.wrap .i64 ((IntKind.wrap .i64 (ex-(if ((70:Int)<(IntKind.wrap .i64 (ex-ey))) then (70:Int) else (IntKind.wrap .i64 (ex-ey)))))-ey)),()))).1,((IntKind.wrap .i64 ((IntKind.wrap .i64 (ex-(if ((70:Int)<(IntKind.wrap .i64 (ex-ey))) then (70:Int) else (IntKind.wrap .i64 (ex-ey)))))-ey)),()))).1.1==(0:Int))&&((f119 ((f120 (((0:Int),(Y,())),((IntKind.wrap .i64 ((IntKind.wrap .i64 (ex-(if ((70:Int)<(IntKind.wrap .i64 (ex-ey))) then (70:Int) else (IntKind.wrap .i64 (ex-ey)))))-ey)),()))).1,((IntKind.wrap .i64 ((IntKind.wrap .i64 (ex-(if ((70:Int)<(IntKind.wrap .i64 (ex-ey))) then (70:Int) else (IntKind.wrap .i64 (ex-ey)))))-ey)),()))).1.2.1==Y)))||((decide ((IntKind.wrap .i64 ((IntKind.wrap .i64 (ex-(if ((70:Int)<(IntKind.wrap .i64 (ex-ey))) then (70:Int) else (IntKind.wrap .i64 (ex-ey)))))-ey))>(63:Int)))&&(Y != (0:Int)))),()))))))))
 else none)
 else none)
 else bif ((((f124 ((f120 (((0:Int),(Y,())),((IntKind.wrap .i64 ((IntKind.wrap .i64 (ex-(if ((70:Int)<(IntKind.wrap .i64 (ex-ey))) then (70:Int) else (IntKind.wrap .i64 (ex-ey)))))-ey)),()))).1,(f119 (((0:Int),(X,())),((if ((70:Int)<(IntKind.wrap .i64 (ex-ey))) then (70:Int) else (IntKind.wrap .i64 (ex-ey))),()))))).1.1==(0:Int))&&((f124 ((f120 (((0:Int),(Y,())),((IntKind.wrap .i64 ((IntKind.wrap .i64 (ex-(if ((70:Int)<(IntKind.wrap .i64 (ex-ey))) then (70:Int) else (IntKind.wrap .i64 (ex-ey)))))-ey)),()))).1,(f119 (((0:Int),(X,())),((if ((70:Int)<(IntKind.wrap .i64 (ex-ey))) then (70:Int) else (IntKind.wrap .i64 (ex-ey))),()))))).1.2.1==(0:Int)))&&(!((!(((f119 ((f120 (((0:Int),(Y,())),((IntKind.wrap .i64 ((IntKind.wrap .i64 (ex-(if ((70:Int)<(IntKind.wrap .i64 (ex-ey))) then (70:Int) else (IntKind.wrap .i64 (ex-ey)))))-ey)),()))).1,((IntKind.wrap .i64 ((IntKind.wrap .i64 (ex-(if ((70:Int)<(IntKind.wrap .i64 (ex-ey))) then (70:Int) else (IntKind.wrap .i64 (ex-ey)))))-ey)),()))).1.1==(0:Int))&&((f119 ((f120 (((0:Int),(Y,())),((IntKind.wrap .i64 ((IntKind.wrap .i64 (ex-(if ((70:Int)<(IntKind.wrap .i64 (ex-ey))) then (70:Int) else (IntKind.wrap .i64 (ex-ey)))))-ey)),()))).1,((IntKind.wrap .i64 ((IntKind.wrap .i64 (ex-(if ((70:Int)<(IntKind.wrap .i64 (ex-ey))) then (70:Int) else (IntKind.wrap .i64 (ex-ey)))))-ey)),()))).1.2.1==Y)))||((decide ((IntKind.wrap .i64 ((IntKind.wrap .i64 (ex-(if ((70:Int)<(IntKind.wrap .i64 (ex-ey))) then (70:Int) else (IntKind.wrap .i64 (ex-ey)))))-ey))>(63:Int)))&&(Y != (0:Int)))))) then
 (bif (p118 (f,((m==(4:Int)),()))) then
 (some ((f118 (f,((m==(4:Int)),()))).1,((0:Int),((0:Int),()))))
 else none)
 else bif (p122 (f,(m,(ny,((f124 ((f120 (((0:Int),(Y,())),((IntKind.wrap .i64 ((IntKind.wrap .i64 (ex-(if ((70:Int)<(IntKind.wrap .i64 (ex-ey))) then (70:Int) else (IntKind.wrap .i64 (ex-ey)))))-ey)),()))).1,(f119 (((0:Int),(X,())),((if ((70:Int)<(IntKind.wrap .i64 (ex-ey))) then (70:Int) else (IntKind.wrap .i64 (ex-ey))),()))))).1,((IntKind.wrap .i64 (ex-(if ((70:Int)<(IntKind.wrap .i64 (ex-ey))) then (70:Int) else (IntKind.wrap .i64 (ex-ey))))),(((!(((f119 ((f120 (((0:Int),(Y,())),((IntKind.wrap .i64 ((IntKind.wrap .i64 (ex-(if ((70:Int)<(IntKind.wrap .i64 (ex-ey))) then (70:Int) else (IntKind.wrap .i64 (ex-ey)))))-ey)),()))).1,((IntKind.wrap .i64 ((IntKind.wrap .i64 (ex-(if ((70:Int)<(IntKind.wrap .i64 (ex-ey))) then (70:Int) else (IntKind.wrap .i64 (ex-ey)))))-ey)),()))).1.1==(0:Int))&&((f119 ((f120 (((0:Int),(Y,())),((IntKind.wrap .i64 ((IntKind.wrap .i64 (ex-(if ((70:Int)<(IntKind.wrap .i64 (ex-ey))) then (70:Int) else (IntKind.wrap .i64 (ex-ey)))))-ey)),()))).1,((IntKind.wrap .i64 ((IntKind.wrap .i64 (ex-(if ((70:Int)<(IntKind.wrap .i64 (ex-ey))) then (70:Int) else (IntKind.wrap .i64 (ex-ey)))))-ey)),()))).1.2.1==Y)))||((decide ((IntKind.wrap .i64 ((IntKind.wrap .i64 (ex-(if ((70:Int)<(IntKind.wrap .i64 (ex-ey))) then (70:Int) else (IntKind.wrap .i64 (ex-ey)))))-ey))>(63:Int)))&&(Y != (0:Int)))),()))))))) then
 (some (f122 (f,(m,(ny,((f124 ((f120 (((0:Int),(Y,())),((IntKind.wrap .i64 ((IntKind.wrap .i64 (ex-(if ((70:Int)<(IntKind.wrap .i64 (ex-ey))) then (70:Int) else (IntKind.wrap .i64 (ex-ey)))))-ey)),()))).1,(f119 (((0:Int),(X,())),((if ((70:Int)<(IntKind.wrap .i64 (ex-ey))) then (70:Int) else (IntKind.wrap .i64 (ex-ey))),()))))).1,((IntKind.wrap .i64 (ex-(if ((70:Int)<(IntKind.wrap .i64 (ex-ey))) then (70:Int) else (IntKind.wrap .i64 (ex-ey))))),(((!(((f119 ((f120 (((0:Int),(Y,())),((IntKind.wrap .i64 ((IntKind.wrap .i64 (ex-(if ((70:Int)<(IntKind.wrap .i64 (ex-ey))) then (70:Int) else (IntKind.wrap .i64 (ex-ey)))))-ey)),()))).1,((IntKind.wrap .i64 ((IntKind.wrap .i64 (ex-(if ((70:Int)<(IntKind.wrap .i64 (ex-ey))) then (70:Int) else (IntKind.wrap .i64 (ex-ey)))))-ey)),()))).1.1==(0:Int))&&((f119 ((f120 (((0:Int),(Y,())),((IntKind.wrap .i64 ((IntKind.wrap .i64 (ex-(if ((70:Int)<(IntKind.wrap .i64 (ex-ey))) then (70:Int) else (IntKind.wrap .i64 (ex-ey)))))-ey)),()))).1,((IntKind.wrap .i64 ((IntKind.wrap .i64 (ex-(if ((70:Int)<(IntKind.wrap .i64 (ex-ey))) then (70:Int) else (IntKind.wrap .i64 (ex-ey)))))-ey)),()))).1.2.1==Y)))||((decide ((IntKind.wrap .i64 ((IntKind.wrap .i64 (ex-(if ((70:Int)<(IntKind.wrap .i64 (ex-ey))) then (70:Int) else (IntKind.wrap .i64 (ex-ey)))))-ey))>(63:Int)))&&(Y != (0:Int)))),()))))))))
 else none)
 else none)
 else bif (p124 ((f119 (((0:Int),(X,())),((if ((70:Int)<(IntKind.wrap .i64 (ex-ey))) then (70:Int) else (IntKind.wrap .i64 (ex-ey))),()))).1,(f120 (((0:Int),(Y,())),((IntKind.wrap .i64 ((IntKind.wrap .i64 (ex-(if ((70:Int)<(IntKind.wrap .i64 (ex-ey))) then (70:Int) else (IntKind.wrap .i64 (ex-ey)))))-ey)),()))))) then
 (bif ((!(((f119 ((f120 (((0:Int),(Y,())),((IntKind.wrap .i64 ((IntKind.wrap .i64 (ex-(if ((70:Int)<(IntKind.wrap .i64 (ex-ey))) then (70:Int) else (IntKind.wrap .i64 (ex-ey)))))-ey)),()))).1,((IntKind.wrap .i64 ((IntKind.wrap .i64 (ex-(if ((70:Int)<(IntKind.wrap .i64 (ex-ey))) then (70:Int) else (IntKind.wrap .i64 (ex-ey)))))-ey)),()))).1.1==(0:Int))&&((f119 ((f120 (((0:Int),(Y,())),((IntKind.wrap .i64 ((IntKind.wrap .i64 (ex-(if ((70:Int)<(IntKind.wrap .i64 (ex-ey))) then (70:Int) else (IntKind.wrap .i64 (ex-ey)))))-ey)),()))).1,((IntKind.wrap .i64 ((IntKind.wrap .i64 (ex-(if ((70:Int)<(IntKind.wrap .i64 (ex-ey))) then (70:Int) else (IntKind.wrap .i64 (ex-ey)))))-ey)),()))).1.2.1==Y)))||((decide ((IntKind.wrap .i64 ((IntKind.wrap .i64 (ex-(if ((70:Int)<(IntKind.wrap .i64 (ex-ey))) then (70:Int) else (IntKind.wrap .i64 (ex-ey)))))-ey))>(63:Int)))&&(Y != (0:Int)))) then
 (bif (p124 ((f124 ((f119 (((0:Int),(X,())),((if ((70:Int)<(IntKind.wrap .i64 (ex-ey))) then (70:Int) else (IntKind.wrap .i64 (ex-ey))),()))).1,(f120 (((0:Int),(Y,())),((IntKind.wrap .i64 ((IntKind.wrap .i64 (ex-(if ((70:Int)<(IntKind.wrap .i64 (ex-ey))) then (70:Int) else (IntKind.wrap .i64 (ex-ey)))))-ey)),()))))).1,(((0:Int),((1:Int),())),()))) then
 (bif ((((f124 ((f124 ((f119 (((0:Int),(X,())),((if ((70:Int)<(IntKind.wrap .i64 (ex-ey))) then (70:Int) else (IntKind.wrap .i64 (ex-ey))),()))).1,(f120 (((0:Int),(Y,())),((IntKind.wrap .i64 ((IntKind.wrap .i64 (ex-(if ((70:Int)<(IntKind.wrap .i64 (ex-ey))) then (70:Int) else (IntKind.wrap .i64 (ex-ey)))))-ey)),()))))).1,(((0:Int),((1:Int),())),()))).1.1==(0:Int))&&((f124 ((f124 ((f119 (((0:Int),(X,())),((if ((70:Int)<(IntKind.wrap .i64 (ex-ey))) then (70:Int) else (IntKind.wrap .i64 (ex-ey))),()))).1,(f120 (((0:Int),(Y,())),((IntKind.wrap .i64 ((IntKind.wrap .i64 (ex-(if ((70:Int)<(IntKind.wrap .i64 (ex-ey))) then (70:Int) else (IntKind.wrap .i64 (ex-ey)))))-ey)),()))))).1,(((0:Int),((1:Int),())),()))).1.2.1==(0:Int)))&&(!((!(((f119 ((f120 (((0:Int),(Y,())),((IntKind.wrap .i64 ((IntKind.wrap .i64 (ex-(if ((70:Int)<(IntKind.wrap .i64 (ex-ey))) then (70:Int) else (IntKind.wrap .i64 (ex-ey)))))-ey)),()))).1,((IntKind.wrap .i64 ((IntKind.wrap .i64 (ex-(if ((70:Int)<(IntKind.wrap .i64 (ex-ey))) then (70:Int) else (IntKind.wrap .i64 (ex-ey)))))-ey)),()))).1.1==(0:Int))&&((f119 ((f120 (((0:Int),(Y,())),((IntKind.wrap .i64 ((IntKind.wrap .i64 (ex-(if ((70:Int)<(IntKind.wrap .i64 (ex-ey))) then (70:Int) else (IntKind.wrap .i64 (ex-ey)))))-ey)),()))).1,((IntKind.wrap .i64 ((IntKind.wrap .i64 (ex-(if ((70:Int)<(IntKind.wrap .i64 (ex-ey))) then (70:Int) else (IntKind.wrap .i64 (ex-ey)))))-ey)),()))).1.2.1==Y)))||((decide ((IntKind.wrap .i64 ((IntKind.wrap .i64 (ex-(if ((70:Int)<(IntKind.wrap .i64 (ex-ey))) then (70:Int) else (IntKind.wrap .i64 (ex-ey)))))-ey))>(63:Int)))&&(Y != (0:Int)))))) then
 (bif (p118 (f,((m==(4:Int)),()))) then
 (some ((f118 (f,((m==(4:Int)),()))).1,((0:Int),((0:Int),()))))
 else none)
 else bif (p122 (f,(m,(nx,((f124 ((f124 ((f119 (((0:Int),(X,())),((if ((70:Int)<(IntKind.wrap .i64 (ex-ey))) then (70:Int) else (IntKind.wrap .i64 (ex-ey))),()))).1,(f120 (((0:Int),(Y,())),((IntKind.wrap .i64 ((IntKind.wrap .i64 (ex-(if ((70:Int)<(IntKind.wrap .i64 (ex-ey))) then (70:Int) else (IntKind.wrap .i64 (ex-ey)))))-ey)),()))))).1,(((0:Int),((1:Int),())),()))).1,((IntKind.wrap .i64 (ex-(if ((70:Int)<(IntKind.wrap .i64 (ex-ey))) then (70:Int) else (IntKind.wrap .i64 (ex-ey))))),(((!(((f119 ((f120 (((0:Int),(Y,())),((IntKind.wrap .i64 ((IntKind.wrap .i64 (ex-(if ((70:Int)<(IntKind.wrap .i64 (ex-ey))) then (70:Int) else (IntKind.wrap .i64 (ex-ey)))))-ey)),()))).1,((IntKind.wrap .i64 ((IntKind.wrap .i64 (ex-(if ((70:Int)<(IntKind.wrap .i64 (ex-ey))) then (70:Int) else (IntKind.wrap .i64 (ex-ey)))))-ey)),()))).1.1==(0:Int))&&((f119 ((f120 (((0:Int),(Y,())),((IntKind.wrap .i64 ((IntKind.wrap .i64 (ex-(if ((70:Int)<(IntKind.wrap .i64 (ex-ey))) then (70:Int) else (IntKind.wrap .i64 (ex-ey)))))-ey)),()))).1,((IntKind.wrap .i64 ((IntKind.wrap .i64 (ex-(if ((70:Int)<(IntKind.wrap .i64 (ex-ey))) then (70:Int) else (IntKind.wrap .i64 (ex-ey)))))-ey)),()))).1.2.1==Y)))||((decide ((IntKind.wrap .i64 ((IntKind.wrap .i64 (ex-(if ((70:Int)<(IntKind.wrap .i64 (ex-ey))) then (70:Int) else (IntKind.wrap .i64 (ex-ey)))))-ey))>(63:Int)))&&(Y != (0:Int)))),()))))))) then
 (some (f122 (f,(m,(nx,((f124 ((f124 ((f119 (((0:Int),(X,())),((if ((70:Int)<(IntKind.wrap .i64 (ex-ey))) then (70:Int) else (IntKind.wrap .i64 (ex-ey))),()))).1,(f120 (((0:Int),(Y,())),((IntKind.wrap .i64 ((IntKind.wrap .i64 (ex-(if ((70:Int)<(IntKind.wrap .i64 (ex-ey))) then (70:Int) else (IntKind.wrap .i64 (ex-ey)))))-ey)),()))))).1,(((0:Int),((1:Int),())),()))).1,((IntKind.wrap .i64 (ex-(if ((70:Int)<(IntKind.wrap .i64 (ex-ey))) then (70:Int) else (IntKind.wrap .i64 (ex-ey))))),(((!(((f119 ((f120 (((0:Int),(Y,())),((IntKind.wrap .i64 ((IntKind.wrap .i64 (ex-(if ((70:Int)<(IntKind.wrap .i64 (ex-ey))) then (70:Int) else (IntKind.wrap .i64 (ex-ey)))))-ey)),()))).1,((IntKind.wrap .i64 ((IntKind.wrap .i64 (ex-(if ((70:Int)<(IntKind.wrap .i64 (ex-ey))) then (70:Int) else (IntKind.wrap .i64 (ex-ey)))))-ey)),()))).1.1==(0:Int))&&((f119 ((f120 (((0:Int),(Y,())),((IntKind.wrap .i64 ((IntKind.wrap .i64 (ex-(if ((70:Int)<(IntKind.wrap .i64 (ex-ey))) then (70:Int) else (IntKind.wrap .i64 (ex-ey)))))-ey)),()))).1,((IntKind.wrap .i64 ((IntKind.wrap .i64 (ex-(if ((70:Int)<(IntKind.wrap .i64 (ex-ey))) then (70:Int) else (IntKind.wrap .i64 (ex-ey)))))-ey)),()))).1.2.1==Y)))||((decide ((IntKind.wrap .i64 ((IntKind.wrap .i64 (ex-(if ((70:Int)<(IntKind.wrap .i64 (ex-ey))) then (70:Int) else (IntKind.wrap .i64 (ex-ey)))))-ey))>(63:Int)))&&(Y != (0:Int)))),()))))))))
 else none)
 else none)
 else bif ((((f124 ((f119 (((0:Int),(X,())),((if ((70:Int)<(IntKind.wrap .i64 (ex-ey))) then (70:Int) else (IntKind.wrap .i64 (ex-ey))),()))).1,(f120 (((0:Int),(Y,())),((IntKind.wrap .i64 ((IntKind.wrap .i64 (ex-(if ((70:Int)<(IntKind.wrap .i64 (ex-ey))) then (70:Int) else (IntKind.wrap .i64 (ex-ey)))))-ey)),()))))).1.1==(0:Int))&&((f124 ((f119 (((0:Int),(X,())),((if ((70:Int)<(IntKind.wrap .i64 (ex-ey))) then (70:Int) else (IntKind.wrap .i64 (ex-ey))),()))).1,(f120 (((0:Int),(Y,())),((IntKind.wrap .i64 ((IntKind.wrap .i64 (ex-(if ((70:Int)<(IntKind.wrap .i64 (ex-ey))) then (70:Int) else (IntKind.wrap .i64 (ex-ey)))))-ey)),()))))).1.2.1==(0:Int)))&&(!((!(((f119 ((f120 (((0:Int),(Y,())),((IntKind.wrap .i64 ((IntKind.wrap .i64 (ex-(if ((70:Int)<(IntKind.wrap .i64 (ex-ey))) then (70:Int) else (IntKind.wrap .i64 (ex-ey)))))-ey)),()))).1,((IntKind.wrap .i64 ((IntKind.wrap .i64 (ex-(if ((70:Int)<(IntKind.wrap .i64 (ex-ey))) then (70:Int) else (IntKind.wrap .i64 (ex-ey)))))-ey)),()))).1.1==(0:Int))&&((f119 ((f120 (((0:Int),(Y,())),((IntKind.wrap .i64 ((IntKind.wrap .i64 (ex-(if ((70:Int)<(IntKind.wrap .i64 (ex-ey))) then (70:Int) else (IntKind.wrap .i64 (ex-ey)))))-ey)),()))).1,((IntKind.wrap .i64 ((IntKind.wrap .i64 (ex-(if ((70:Int)<(IntKind.wrap .i64 (ex-ey))) then (70:Int) else (IntKind.wrap .i64 (ex-ey)))))-ey)),()))).1.2.1==Y)))||((decide ((IntKind.wrap .i64 ((IntKind.wrap .i64 (ex-(if ((70:Int)<(IntKind.wrap .i64 (ex-ey))) then (70:Int) else (IntKind.wrap .i64 (ex-ey)))))-ey))>(63:Int)))&&(Y != (0:Int)))))) then
 (bif (p118 (f,((m==(4:Int)),()))) then
 (some ((f118 (f,((m==(4:Int)),()))).1,((0:Int),((0:Int),()))))
 else none)
 else bif (p122 (f,(m,(nx,((f124 ((f119 (((0:Int),(X,())),((if ((70:Int)<(IntKind.wrap .i64 (ex-ey))) then (70:Int) else (IntKind.wrap .i64 (ex-ey))),()))).1,(f120 (((0:Int),(Y,())),((IntKind.wrap .i64 ((IntKind.wrap .i64 (ex-(if ((70:Int)<(IntKind.wrap .i64 (ex-ey))) then (70:Int) else (IntKind.wrap .i64 (ex-ey)))))-ey)),()))))).1,((IntKind.wrap .i64 (ex-(if ((70:Int)<(IntKind.wrap .i64 (ex-ey))) then (70:Int) else (IntKind.wrap .i64 (ex-ey))))),(((!(((f119 ((f120 (((0:Int),(Y,())),((IntKind.wrap .i64 ((IntKind.wrap .i64 (ex-(if ((70:Int)<(IntKind.wrap .i64 (ex-ey))) then (70:Int) else (IntKind.wrap .i64 (ex-ey)))))-ey)),()))).1,((IntKind.wrap .i64 ((IntKind.wrap .i64 (ex-(if ((70:Int)<(IntKind.wrap .i64 (ex-ey))) then (70:Int) else (IntKind.wrap .i64 (ex-ey)))))-ey)),()))).1.1==(0:Int))&&((f119 ((f120 (((0:Int),(Y,())),((IntKind.wrap .i64 ((IntKind.wrap .i64 (ex-(if ((70:Int)<(IntKind.wrap .i64 (ex-ey))) then (70:Int) else (IntKind.wrap .i64 (ex-ey)))))-ey)),()))).1,((IntKind.wrap .i64 ((IntKind.wrap .i64 (ex-(if ((70:Int)<(IntKind.wrap .i64 (ex-ey))) then (70:Int) else (IntKind.wrap .i64 (ex-ey)))))-ey)),()))).1.2.1==Y)))||((decide ((IntKind.wrap .i64 ((IntKind.wrap .i64 (ex-(if ((70:Int)<(IntKind.wrap .i64 (ex-ey))) then (70:Int) else (IntKind.wrap .i64 (ex-ey)))))-ey))>(63:Int)))&&(Y != (0:Int)))),()))))))) then
 (some (f122 (f,(m,(nx,((f124 ((f119 (((0:Int),(X,())),((if ((70:Int)<(IntKind.wrap .i64 (ex-ey))) then (70:Int) else (IntKind.wrap .i64 (ex-ey))),()))).1,(f120 (((0:Int),(Y,())),((IntKind.wrap .i64 ((IntKind.wrap .i64 (ex-(if ((70:Int)<(IntKind.wrap .i64 (ex-ey))) then (70:Int) else (IntKind.wrap .i64 (ex-ey)))))-ey)),()))))).1,((IntKind.wrap .i64 (ex-(if ((70:Int)<(IntKind.wrap .i64 (ex-ey))) then (70:Int) else (IntKind.wrap .i64 (ex-ey))))),(((!(((f119 ((f120 (((0:Int),(Y,())),((IntKind.wrap .i64 ((IntKind.wrap .i64 (ex-(if ((70:Int)<(IntKind.wrap .i64 (ex-ey))) then (70:Int) else (IntKind.wrap .i64 (ex-ey)))))-ey)),()))).1,((IntKind.wrap .i64 ((IntKind.wrap .i64 (ex-(if ((70:Int)<(IntKind.wrap .i64 (ex-ey))) then (70:Int) else (IntKind.wrap .i64 (ex-ey)))))-ey)),()))).1.1==(0:Int))&&((f119 ((f120 (((0:Int),(Y,())),((IntKind.wrap .i64 ((IntKind.wrap .i64 (ex-(if ((70:Int)<(IntKind.wrap .i64 (ex-ey))) then (70:Int) else (IntKind.wrap .i64 (ex-ey)))))-ey)),()))).1,((IntKind.wrap .i64 ((IntKind.wrap .i64 (ex-(if ((70:Int)<(IntKind.wrap .i64 (ex-ey))) then (70:Int) else (IntKind.wrap .i64 (ex-ey)))))-ey)),()))).1.2.1==Y)))||((decide ((IntKind.wrap .i64 ((IntKind.wrap .i64 (ex-(if ((70:Int)<(IntKind.wrap .i64 (ex-ey))) then (70:Int) else (IntKind.wrap .i64 (ex-ey)))))-ey))>(63:Int)))&&(Y != (0:Int)))),()))))))))
 else none)
 else none)
 else none)
 else none)
 else none)
 else none)
 else none
def wZ (p119:Zs) (f119:ZP) (p120:Zt) (f120:ZQ) (p121:Zu) (f121:ZR) (p123:Zv) (f123:ZS) (p124:Zw) (f124:ZT) (p118:Jf) (f118:Jj) (p122:Sk) (f122:Ss) (a0 a1:Aa (.int .i64)) (a2 a3:Aa (.pair (.bool) (.pair (.int .u64) (.pair (.int .i64) (.unit))))):Option (DenS Hh) :=
 bif (((a2.2.1==(0:Int))&&(a3.2.1==(0:Int)))&&(a2.1==a3.1)) then
 (bif (p118 (a0,a2.1,())) then (some ((f118 (a0,a2.1,())).1,(0:Int),(0:Int),())) else none)
 else bif ((a2.2.1==(0:Int))||((a3.2.1 != (0:Int))&&(decide (a2.2.2.1<a3.2.2.1)))) then
 (bif (a2.2.1==(0:Int)) then (YN p119 f119 p120 f120 p121 f121 p123 f123 p124 f124 p118 f118 p122 f122 a0 a1 a3.1 a3.2.1 a3.2.2.1 a2.1 a2.2.1 a3.2.2.1) else (YN p119 f119 p120 f120 p121 f121 p123 f123 p124 f124 p118 f118 p122 f122 a0 a1 a3.1 a3.2.1 a3.2.2.1 a2.1 a2.2.1 a2.2.2.1))
 else bif (a3.2.1==(0:Int)) then (YN p119 f119 p120 f120 p121 f121 p123 f123 p124 f124 p118 f118 p122 f122 a0 a1 a2.1 a2.2.1 a2.2.2.1 a3.1 a3.2.1 a2.2.2.1)
 else (YN p119 f119 p120 f120 p121 f121 p123 f123 p124 f124 p118 f118 p122 f122 a0 a1 a2.1 a2.2.1 a2.2.2.1 a3.1 a3.2.1 a3.2.2.1)
theorem r71 (x:DenS KS):run (cf [(114,⟨GQ,If,p119,f119⟩),(115,⟨GR,Ig,p120,f120⟩),(116,⟨GS,Ih,p121,f121⟩),(117,⟨GT,Ii,p123,f123⟩),(118,⟨GU,Ij,p124,f124⟩),(38,⟨Eh,EK,p118,f118⟩),(66,⟨FJ,G8,p122,f122⟩)] []) 9 57 Tryz.f57 KS Hh x=wZ p119 f119 p120 f120 p121 f121 p123 f123 p124 f124 p118 f118 p122 f122 x.1 x.2.1 x.2.2.1 x.2.2.2.1:=by kernel_rfl
def OT (x:DenS KS):Option (DenS Hh):=wZ AJ.pre AJ.F AG.pre AG.F IS.pre IS.F LU.pre LU.F Bn.pre Bn.F Bm.pre Bm.F CU.pre CU.F x.1 x.2.1 x.2.2.1 x.2.2.2.1
def Mw:Sum:=Al KS Hh OT (DenS.dflt Hh)
theorem aAg:Sound Tryz.prog G1 57 Mw:=sd (cf [(114,AJ),(115,AG),(116,IS),(117,LU),(118,Bn),(38,Bm),(66,CU)] []) 57 Tryz.f57 ⟨x8,x9,yA,yB,yC,QQ,iC,trivial⟩ trivial KS Hh OT _ (fun _=>r71 ..)
abbrev ZN:=An KS
abbrev aA:=Am KS Hh
variable (p71:ZN) (f71:aA)
end Vx
namespace Vx
open Go Go.Proofs
variable (p69:Dl) (f69:Dn) (p66:Dk) (f66:Dm) (p91:Gq) (f91:Gr) (p90:Sr) (f90:SA) (p65:O3) (f65:Pf) (p70:O4) (f70:Pg) (p98:O5) (f98:Ph) (p72:ZO) (f72:aB) (p155:DA) (f155:DB) (p157:EZ) (f157:E0) (p118:Jf) (f118:Jj) (p105:OU) (f105:O6) (p173:A2) (f173:A3) (p102:MA) (f102:MC) (p178:Vl) (f178:Vs) (p92:Ji) (f92:Jm) (p141:OX) (f141:O9) (p97:NA) (f97:ND) (p107:OV) (f107:O7) (p122:Sk) (f122:Ss) (p71:ZN) (f71:aA)
abbrev GZ:Ac:=[(false,.int .i64),(false,.int .i64),(false,.int .u64),(false,.int .u64)]
abbrev Hd:Ac:=[(false,.int .u64),(false,.int .i64),(false,.int .i64)]
def XZ (p69:Dl) (f69:Dn) (p65:O3) (f65:Pf) (p70:O4) (f70:Pg) (p72:ZO) (f72:aB) (p71:ZN) (f71:aA) (a0 a1:Aa (.int .i64)) (a2 a3:Aa (.int .u64)):Option (DenS Hd) :=
 let e1_:=(a0,a1,(f72 (a0,(f69 (a0,())).1,a2,())).1,(f72 (a0,(f69 (a0,())).1,a3,())))
 let e2_:=(((f65 (a0,a2,())).1==(2:Int))||((f65 (a0,a2,())).1==(9:Int)))
 let e3_:=(((f65 (a0,a3,())).1==(2:Int))||((f65 (a0,a3,())).1==(9:Int)))
 let e4_:=((f70 (a0,())).1,(1:Int),(0:Int),())
 bif (p69 (a0,())) then (bif ((f69 (a0,())).2.1 != (0:Int)) then (some ((0:Int),(0:Int),(f69 (a0,())).2))
 else bif ((decide (a1<(0:Int)))||(decide (a1>(5:Int)))) then (some ((0:Int),(0:Int),(3:Int),()))
 else bif (p65 (a0,a2,())) then (bif ((f65 (a0,a2,())).2.1 != (0:Int)) then (some ((0:Int),(0:Int),(f65 (a0,a2,())).2))
 else bif (p65 (a0,a3,())) then (bif ((f65 (a0,a3,())).2.1 != (0:Int)) then (some ((0:Int),(0:Int),(f65 (a0,a3,())).2))
 else bif (p70 (a0,())) then (bif (((f65 (a0,a2,())).1==(0:Int))||((f65 (a0,a3,())).1==(0:Int))) then (some e4_)
 else bif (((f65 (a0,a2,())).1==(1:Int))||((f65 (a0,a3,())).1==(1:Int))) then (some ((f70 (a0,())).1,(0:Int),(0:Int),()))
 else bif ((e2_&&e3_)&&((f65 (a0,a2,())).1 != (f65 (a0,a3,())).1)) then (some e4_)
 else bif e2_ then (some (a2,(0:Int),(0:Int),()))
 else bif e3_ then (some (a3,(0:Int),(0:Int),()))
 else bif (p72 (a0,(f69 (a0,())).1,a2,())) then (bif (p72 (a0,(f69 (a0,())).1,a3,())) then (bif (p71 e1_) then (some (f71 e1_))
 else none)
 else none)
 else none)
 else none)
 else none)
 else none)
 else none
theorem r27 (x:DenS GZ):run (cf [(54,⟨CY,CZ,p69,f69⟩),(55,⟨FO,F2,p65,f65⟩),(56,⟨FQ,F3,p70,f70⟩),(58,⟨KT,LJ,p72,f72⟩),(57,⟨KS,Hh,p71,f71⟩)] []) 9 15 Tryz.f15 GZ Hd x=XZ p69 f69 p65 f65 p70 f70 p72 f72 p71 f71 x.1 x.2.1 x.2.2.1 x.2.2.2.1:=by kernel_rfl
def Nw (x:DenS GZ):Option (DenS Hd):=XZ AE.pre AE.F Cx.pre Cx.F CJ.pre CJ.F Mx.pre Mx.F Mw.pre Mw.F x.1 x.2.1 x.2.2.1 x.2.2.2.1
def Dj:Sum:=Al GZ Hd Nw (DenS.dflt Hd)
theorem Zc:Sound Tryz.prog G1 15 Dj:=sd (cf [(54,AE),(55,Cx),(56,CJ),(58,Mx),(57,Mw)] []) 15 Tryz.f15 ⟨Ht,UN,UO,aAh,aAg,trivial⟩ trivial GZ Hd Nw _ (fun _=>r27 ..)
abbrev Sn:=An GZ
abbrev Sw:=Am GZ Hd
variable (p27:Sn) (f27:Sw)
abbrev Kz:Ac:=[]
abbrev Lr:Ac:=[(false,.bool)]
def Yg (p27:Sn) (f27:Sw):Option (DenS Lr) :=
 let e3_:=((0:Int),(0:Int),(15360:Int),(4096:Int),())
 let e1_:=(f27 e3_)
 let e4_:=((0:Int),(3:Int),(15360:Int),(4096:Int),())
 let e2_:=(f27 e4_)
 bif (p27 e3_) then (bif (p27 e4_) then (some (((((((e1_.2.2.1==(0:Int))&&(e2_.2.2.1==(0:Int)))&&(e1_.1==(15360:Int)))&&(e1_.2.1==(16:Int)))&&(e2_.1==(15361:Int)))&&(e2_.2.1==(16:Int))),()))
 else none)
 else none
theorem aHk (x:DenS Kz):run (cf [(15,⟨GZ,Hd,p27,f27⟩)] []) 9 30 Tryz.f30 Kz Lr x=Yg p27 f27:=by kernel_rfl
def RB (x:DenS Kz):Option (DenS Lr):=Yg Dj.pre Dj.F
def Me:Sum:=Al Kz Lr RB (DenS.dflt Lr)
theorem zK:Sound Tryz.prog G1 30 Me:=sd (cf [(15,Dj)] []) 30 Tryz.f30 ⟨Zc,trivial⟩ trivial Kz Lr RB _ (fun _=>aHk ..)
abbrev ZE:=An Kz
abbrev Z1:=Am Kz Lr
variable (p382:ZE) (f382:Z1)
abbrev KF:Ac:=[(false,.slice (.int .i64)),(false,.slice (.int .i64)),(false,.int .u64)]
abbrev Lx:Ac:=[(false,.int .i64)]
abbrev Fr:Pat:=⟨46,[(14,.one (.v .i64)),(13,.one (.sl (.int .i64))),(15,.one (.v .i64)),(1,.one (.sl (.int .i64))),(0,.one (.sl (.int .i64))),(2,.one (.v .u64))],[]⟩
abbrev QI:List (Nat×Shape):=[]
abbrev Hy:List (Nat×Pat):=[(0,⟨46,[(1,.one (.sl (.int .i64))),(0,.one (.sl (.int .i64))),(2,.one (.v .u64))],[]⟩)]
abbrev Hn:Option Pat:=(some ⟨46,[(6,.one (.v .i64))],[]⟩)
abbrev Fs:Pat:=⟨46,[(29,.one (.v .i64)),(28,.one (.sl (.int .i64))),(30,.one (.v .i64)),(0,.one (.sl (.int .i64))),(2,.one (.v .u64))],[]⟩
abbrev QJ:List (Nat×Shape):=[]
abbrev Hz:List (Nat×Pat):=[(2,⟨46,[(0,.one (.sl (.int .i64))),(2,.one (.v .u64))],[]⟩)]
abbrev Ho:Option Pat:=(some ⟨46,[(6,.one (.v .i64))],[]⟩)
variable (w391_2:Pat.D Fr->Option (Ak Hy Hn)) (w391_9:Pat.D Fs->Option (Ak Hz Ho))
def PZ (p69:Dl) (f69:Dn) (p66:Dk) (f66:Dm) {R:Type} (L:Pat.D Fs->Option R) (e:Ak Hz Ho->Option R) (x:Pat.D Fs):Option R :=
 let e1_:=(x.1.2.1.getD (Int.toNat x.1.2.2.1) (0:Int))
 bif (decide (x.1.2.2.1<x.1.1)) then (bif ((decide ((0:Int)<=x.1.2.2.1))&&(decide (x.1.2.2.1<(x.1.2.1.length:Int)))) then (bif ((decide (e1_<(0:Int)))||(decide (e1_>(5:Int)))) then (((e (.inr (((3:Int),()),())))))
 else (L ((x.1.1,x.1.2.1,(IntKind.wrap .i64 (x.1.2.2.1+(1:Int))),x.1.2.2.2),())))
 else none)
 else (e (.inl (x.1.2.2.2,())))
theorem aIG (d:Nat) (R:Type) (L:Pat.D Fs->Option R) (e:Ak Hz Ho->Option R) (x:Pat.D Fs) :
  B7 (cf [(54,⟨CY,CZ,p69,f69⟩),(59,⟨C3,C4,p66,f66⟩)] [(78,2,LoopSpec.of Fr QI Hy Hn w391_2),(78,9,LoopSpec.of Fs QJ Hz Ho w391_9)]) (d+2) 78 (BR Tryz.f78 9) Fs QJ Hz Ho (R:=R) L e x=PZ p69 f69 p66 f66 L e x:=by kernel_rfl
theorem sW (p69:Dl) (f69:Dn) (p66:Dk) (f66:Dm):BG fun L e x=>PZ p69 f69 p66 f66 L e x:=by intro _ _ _ _ _ _ _ h0 hL he _; unfold PZ; repeat' (first | exact h0 | exact hL _ | exact he _ | apply Cu | (apply Cv h0; intro _) | (apply Cw <;> intro _))
def PY (p69:Dl) (f69:Dn) (p66:Dk) (f66:Dm) {R:Type} (L:Pat.D Fr->Option R) (e:Ak Hy Hn->Option R) (x:Pat.D Fr):Option R :=
 let e2_:=((x.1.2.1.getD (Int.toNat x.1.2.2.1) (0:Int)),())
 let e1_:=(f69 e2_)
 bif (decide (x.1.2.2.1<x.1.1)) then (bif ((decide ((0:Int)<=x.1.2.2.1))&&(decide (x.1.2.2.1<(x.1.2.1.length:Int)))) then (bif (p69 e2_) then (bif (e1_.2.1 != (0:Int)) then (((e (.inr (e1_.2,())))))
 else (L ((x.1.1,x.1.2.1,(IntKind.wrap .i64 (x.1.2.2.1+(1:Int))),x.1.2.2.2),())))
 else none)
 else none)
 else (e (.inl (x.1.2.2.2,())))
theorem aIF (d:Nat) (R:Type) (L:Pat.D Fr->Option R) (e:Ak Hy Hn->Option R) (x:Pat.D Fr) :
  B7 (cf [(54,⟨CY,CZ,p69,f69⟩),(59,⟨C3,C4,p66,f66⟩)] [(78,2,LoopSpec.of Fr QI Hy Hn w391_2),(78,9,LoopSpec.of Fs QJ Hz Ho w391_9)]) (d+2) 78 (BR Tryz.f78 2) Fr QI Hy Hn (R:=R) L e x=PY p69 f69 p66 f66 L e x:=by kernel_rfl
theorem sV (p69:Dl) (f69:Dn) (p66:Dk) (f66:Dm):BG fun L e x=>PY p69 f69 p66 f66 L e x:=by intro _ _ _ _ _ _ _ h0 hL he _; unfold PY; repeat' (first | exact h0 | exact hL _ | exact he _ | apply Cu | (apply Cv h0; intro _) | (apply Cw <;> intro _))
def Yj (p69:Dl) (f69:Dn) (p66:Dk) (f66:Dm) (w391_2:Pat.D Fr->Option (Ak Hy Hn)) (w391_9:Pat.D Fs->Option (Ak Hz Ho)) (a0 a1:Aa (.slice (.int .i64))) (a2:Aa (.int .u64)):Option (DenS Lx) :=
 Vx.Bh (w391_2 (((a0.length:Int),a0,(0:Int),a1,a0,a2,()),())) fun y0 =>
 Vx.Bi y0 (fun y1 =>
 Vx.Bh (w391_9 (((y1.1.1.length:Int),y1.1.1,(0:Int),y1.1.2),())) fun y2 =>
 Vx.Bi y2 (fun y3 =>
 bif (decide ((0:Int)<(y3.1.1.length:Int))) then (bif (p66 ((y3.1.1.getD (Int.toNat (0:Int)) (0:Int)),y3.1.2)) then (some (f66 ((y3.1.1.getD (Int.toNat (0:Int)) (0:Int)),y3.1.2)))
 else none)
 else none) (fun z3 =>
 some z3.1)) (fun z1 =>
 some z1.1)
theorem aHq (x:DenS KF):run (cf [(54,⟨CY,CZ,p69,f69⟩),(59,⟨C3,C4,p66,f66⟩)] [(78,2,LoopSpec.of Fr QI Hy Hn w391_2),(78,9,LoopSpec.of Fs QJ Hz Ho w391_9)]) 9 78 Tryz.f78 KF Lx x=Yj p69 f69 p66 f66 w391_2 w391_9 x.1 x.2.1 x.2.2.1:=by kernel_rfl
def Sh:Fs.D->Option (Ak Hz Ho):=Bo fun L=>PZ AE.pre AE.F Aw.pre Aw.F L some
def Vf:Fr.D->Option (Ak Hy Hn):=Bo fun L=>PY AE.pre AE.F Aw.pre Aw.F L some
def RF (x:DenS KF):Option (DenS Lx):=Yj AE.pre AE.F Aw.pre Aw.F Vf Sh x.1 x.2.1 x.2.2.1
def Mj:Sum:=Al KF Lx RF (DenS.dflt Lx)
theorem zQ:Sound Tryz.prog G1 78 Mj:=sd (cf [(54,AE),(59,Aw)] [(78,2,LoopSpec.of Fr QI Hy Hn Vf),(78,9,LoopSpec.of Fs QJ Hz Ho Sh)]) 78 Tryz.f78 ⟨Ht,Mv,trivial⟩ ⟨rfl,fun d=>Ct (fun L e x=>PY AE.pre AE.F Aw.pre Aw.F L e x) (sV AE.pre AE.F Aw.pre Aw.F) (fun _ _ _ _=>aIF ..),⟨rfl,fun d=>Ct (fun L e x=>PZ AE.pre AE.F Aw.pre Aw.F L e x) (sW AE.pre AE.F Aw.pre Aw.F) (fun _ _ _ _=>aIG ..),trivial⟩⟩ KF Lx RF _ (fun _=>aHq ..)
abbrev kY:=An KF
abbrev mQ:=Am KF Lx
variable (p391:kY) (f391:mQ)
abbrev Ib:Ac:=[(false,.int .i64),(false,.int .u64)]
abbrev It:Ac:=[(true,.pair (.bool) (.pair (.slice (.int .u64)) (.pair (.int .i64) (.unit)))),(false,.int .i64)]
def Ym (p66:Dk) (f66:Dm) (p90:Sr) (f90:SA) (p91:Gq) (f91:Gr) (p92:Ji) (f92:Jm) (a0:Aa (.int .i64)) (a1:Aa (.int .u64)):Option (DenS It) :=
 let e10_:=(Vx.k_rows.getD (Int.toNat a0) ((0:Int),(0:Int),(0:Int),(0:Int),()))
 let e9_:=(f90 (e10_,a1,()))
 let e8_:=(Bz .u64 e9_.2.2.1 (Bp .u64 (1:Int) (IntKind.wrap .i64 (e10_.2.1-(1:Int)))))
 let e1_:=(f92 (e8_,()))
 let e2_:=e8_
 let e3_:=((IntKind.wrap .i64 (e10_.1-e10_.2.1)),())
 let e4_:=(f92 e9_.2.2)
 let e5_:=e9_
 let e6_:=e10_
 let e7_:=((false,[],(0:Int),()),(0:Int),())
 bif (p66 (a0,a1,())) then (bif ((f66 (a0,a1,())).1 != (0:Int)) then (some ((false,[],(0:Int),()),(f66 (a0,a1,()))))
 else bif (bif (decide ((0:Int)<=a0)) then (decide (a0<((4:Nat):Int))) else false) then (bif (p90 (e6_,a1,())) then (bif (p91 e3_) then (bif (e5_.2.1==(f91 e3_).1) then (some ((false,[],(0:Int),()),(40:Int),()))
 else bif (e5_.2.1==(0:Int)) then (bif (e5_.2.2.1==(0:Int)) then (some e7_)
 else bif (p92 e5_.2.2) then (bif (decide ((0:Int)<=e4_.1)) then (some ((e5_.1,((AN .u64 e5_.2.2.1 e4_.1)::[]),(IntKind.wrap .i64 ((IntKind.wrap .i64 ((IntKind.wrap .i64 ((IntKind.wrap .i64 ((IntKind.wrap .i64 ((IntKind.wrap .i64 (1:Int))-(1:Int)))+e6_.2.2.1))-e6_.2.1))+(1:Int)))+e4_.1)),()),(0:Int),()))
 else none)
 else none)
 else bif (decide ((0:Int)<=(IntKind.wrap .i64 (e6_.2.1-(1:Int))))) then (bif (e2_==(0:Int)) then (some e7_)
 else bif (p92 (e2_,())) then (bif (decide ((0:Int)<=e1_.1)) then (some ((e5_.1,((AN .u64 e2_ e1_.1)::[]),(IntKind.wrap .i64 ((IntKind.wrap .i64 ((IntKind.wrap .i64 ((IntKind.wrap .i64 ((IntKind.wrap .i64 ((IntKind.wrap .i64 e5_.2.1)-(1:Int)))+e6_.2.2.1))-e6_.2.1))+(1:Int)))+e1_.1)),()),(0:Int),()))
 else none)
 else none)
 else none)
 else none)
 else none)
 else none)
 else none
theorem r40 (x:DenS Ib):run (cf [(59,⟨C3,C4,p66,f66⟩),(111,⟨G3,Hi,p90,f90⟩),(112,⟨DO,DP,p91,f91⟩),(127,⟨Fd,Fl,p92,f92⟩)] []) 9 71 Tryz.f71 Ib It x=Ym p66 f66 p90 f90 p91 f91 p92 f92 x.1 x.2.1:=by kernel_rfl
def RI (x:DenS Ib):Option (DenS It):=Ym Aw.pre Aw.F C0.pre C0.F Be.pre Be.F Bu.pre Bu.F x.1 x.2.1
def EW:Sum:=Al Ib It RI (DenS.dflt It)
theorem iO:Sound Tryz.prog G1 71 EW:=sd (cf [(59,Aw),(111,C0),(112,Be),(127,Bu)] []) 71 Tryz.f71 ⟨Mv,Zf,IT,Zg,trivial⟩ trivial Ib It RI _ (fun _=>r40 ..)
abbrev Vo:=An Ib
abbrev Vv:=Am Ib It
variable (p40:Vo) (f40:Vv)
abbrev J5:Ac:=[(true,.pair (.bool) (.pair (.slice (.int .u64)) (.pair (.int .i64) (.unit))))]
abbrev KX:Ac:=[(false,.int .i64)]
def Xn (a0:Aa (.pair (.bool) (.pair (.slice (.int .u64)) (.pair (.int .i64) (.unit))))):Option (DenS KX) :=
 bif (decide ((a0.2.1.length:Int)>(1024:Int))) then (some ((5:Int),()))
 else bif ((decide (a0.2.2.1<(-(40000:Int))))||(decide (a0.2.2.1>(40000:Int)))) then (some ((30:Int),()))
 else some ((0:Int),())
theorem aGf (x:DenS J5):run (cf [] []) 9 253 Tryz.f253 J5 KX x=Xn x.1:=by kernel_rfl
def OC (x:DenS J5):Option (DenS KX):=Xn x.1
def LO:Sum:=Al J5 KX OC (DenS.dflt KX)
theorem xW:Sound Tryz.prog G1 253 LO:=sd (cf [] []) 253 Tryz.f253 trivial trivial J5 KX OC _ (fun _=>aGf ..)
abbrev j1:=An J5
abbrev lJ:=Am J5 KX
variable (p103:j1) (f103:lJ)
abbrev J4:Ac:=[(true,.pair (.bool) (.pair (.slice (.int .u64)) (.pair (.int .i64) (.unit))))]
abbrev KW:Ac:=[(true,.pair (.bool) (.pair (.slice (.int .u64)) (.pair (.int .i64) (.unit))))]
abbrev Fo:Pat:=⟨42,[(4,.one (.v .i64)),(3,.one (.sl (.int .u64))),(1,.one (.ptr 0 0)),(2,.one (.ptr 1 0))],[.raw [.bool,.sl (.int .u64),.v .i64],.raw [.bool,.sl (.int .u64),.v .i64]]⟩
abbrev Ug:List (Nat×Shape):=[]
abbrev IV:List (Nat×Pat):=[(0,⟨42,[(4,.one (.v .i64)),(3,.one (.sl (.int .u64))),(1,.one (.ptr 0 0)),(2,.one (.ptr 1 0))],[.raw [.bool,.sl (.int .u64),.v .i64],.raw [.bool,.sl (.int .u64),.v .i64]]⟩)]
abbrev Iy:Option Pat:=none
variable (w100_5:Pat.D Fo->Option (Ak IV Iy))
def PA (p102:MA) (f102:MC) (p92:Ji) (f92:Jm) (p141:OX) (f141:O9) {R:Type} (L:Pat.D Fo->Option R) (e:Ak IV Iy->Option R) (x:Pat.D Fo):Option R :=
 bif ((decide ((0:Int)<=(Cm .i64 x.1.1 (64:Int))))&&(decide ((Cm .i64 x.1.1 (64:Int))<(x.1.2.1.length:Int)))) then (bif ((x.1.2.1.getD (Int.toNat (Cm .i64 x.1.1 (64:Int))) (0:Int))==(0:Int)) then (((L (((IntKind.wrap .i64 (x.1.1+(64:Int))),x.1.2.1,(),(),()),x.2))))
 else (e (.inl ((x.1.1,x.1.2.1,(),(),()),x.2))))
 else none
theorem aIi (d:Nat) (R:Type) (L:Pat.D Fo->Option R) (e:Ak IV Iy->Option R) (x:Pat.D Fo) :
  B7 (cf [(122,⟨FH,FT,p102,f102⟩),(127,⟨Fd,Fl,p92,f92⟩),(247,⟨GV,G9,p141,f141⟩)] [(262,5,LoopSpec.of Fo Ug IV Iy w100_5)]) (d+2) 262 (BR Tryz.f262 5) Fo Ug IV Iy (R:=R) L e x=PA p102 f102 p92 f92 p141 f141 L e x:=by kernel_rfl
theorem r9 (p102:MA) (f102:MC) (p92:Ji) (f92:Jm) (p141:OX) (f141:O9):BG fun L e x=>PA p102 f102 p92 f92 p141 f141 L e x:=by intro _ _ _ _ _ _ _ h0 hL he _; unfold PA; repeat' (first | exact h0 | exact hL _ | exact he _ | apply Cu | (apply Cv h0; intro _) | (apply Cw <;> intro _))
def Xl (p102:MA) (f102:MC) (p92:Ji) (f92:Jm) (p141:OX) (f141:O9) (w100_5:Pat.D Fo->Option (Ak IV Iy)) (a0:Aa (.pair (.bool) (.pair (.slice (.int .u64)) (.pair (.int .i64) (.unit))))):Option (DenS KW) :=
 bif (p102 (a0.2.1,())) then (bif (((f102 (a0.2.1,())).1.length:Int)==(0:Int)) then (some ((false,[],(0:Int),()),()))
 else Vx.Bh (w100_5 (((0:Int),(f102 (a0.2.1,())).1,(),(),()),(a0.1,a0.2),(false,[],(0:Int),()),())) fun y2 =>
 Vx.Bi y2 (fun y3 =>
 bif ((decide ((0:Int)<=(Cm .i64 y3.1.1 (64:Int))))&&(decide ((Cm .i64 y3.1.1 (64:Int))<(y3.1.2.1.length:Int)))) then (bif (p92 ((y3.1.2.1.getD (Int.toNat (Cm .i64 y3.1.1 (64:Int))) (0:Int)),())) then (bif (p141 (y3.1.2.1,(IntKind.wrap .i64 (y3.1.1+(f92 ((y3.1.2.1.getD (Int.toNat (Cm .i64 y3.1.1 (64:Int))) (0:Int)),())).1)),())) then (some ((y3.2.1.1,(f141 (y3.1.2.1,(IntKind.wrap .i64 (y3.1.1+(f92 ((y3.1.2.1.getD (Int.toNat (Cm .i64 y3.1.1 (64:Int))) (0:Int)),())).1)),())).1,(IntKind.wrap .i64 (y3.2.1.2.2.1+(IntKind.wrap .i64 (y3.1.1+(f92 ((y3.1.2.1.getD (Int.toNat (Cm .i64 y3.1.1 (64:Int))) (0:Int)),())).1)))),()),()))
 else none)
 else none)
 else none) (fun z3 =>
 none))
 else none
theorem aGd (x:DenS J4):run (cf [(122,⟨FH,FT,p102,f102⟩),(127,⟨Fd,Fl,p92,f92⟩),(247,⟨GV,G9,p141,f141⟩)] [(262,5,LoopSpec.of Fo Ug IV Iy w100_5)]) 9 262 Tryz.f262 J4 KW x=Xl p102 f102 p92 f92 p141 f141 w100_5 x.1:=by kernel_rfl
def Sb:Fo.D->Option (Ak IV Iy):=Bo fun L=>PA CC.pre CC.F Bu.pre Bu.F C5.pre C5.F L some
def Nn (x:DenS J4):Option (DenS KW):=Xl CC.pre CC.F Bu.pre Bu.F C5.pre C5.F Sb x.1
def LN:Sum:=Al J4 KW Nn (DenS.dflt KW)
theorem xV:Sound Tryz.prog G1 262 LN:=sd (cf [(122,CC),(127,Bu),(247,C5)] [(262,5,LoopSpec.of Fo Ug IV Iy Sb)]) 262 Tryz.f262 ⟨Y5,Zg,iD,trivial⟩ ⟨rfl,fun d=>Ct (fun L e x=>PA CC.pre CC.F Bu.pre Bu.F C5.pre C5.F L e x) (r9 CC.pre CC.F Bu.pre Bu.F C5.pre C5.F) (fun _ _ _ _=>aIi ..),trivial⟩ J4 KW Nn _ (fun _=>aGd ..)
abbrev jY:=An J4
abbrev lH:=Am J4 KW
variable (p100:jY) (f100:lH)
abbrev J6:Ac:=[(true,.pair (.bool) (.pair (.slice (.int .u64)) (.pair (.int .i64) (.unit))))]
abbrev KY:Ac:=[(true,.pair (.bool) (.pair (.slice (.int .u64)) (.pair (.int .i64) (.unit)))),(false,.int .i64)]
def Xo (p100:jY) (f100:lH) (a0:Aa (.pair (.bool) (.pair (.slice (.int .u64)) (.pair (.int .i64) (.unit))))):Option (DenS KY) :=
 bif (p100 ((a0.1,a0.2),())) then (bif (decide (((f100 ((a0.1,a0.2),())).1.2.1.length:Int)>(1024:Int))) then (some ((false,[],(0:Int),()),(5:Int),()))
 else bif ((decide ((f100 ((a0.1,a0.2),())).1.2.2.1<(-(40000:Int))))||(decide ((f100 ((a0.1,a0.2),())).1.2.2.1>(40000:Int)))) then (some ((false,[],(0:Int),()),(30:Int),()))
 else some ((f100 ((a0.1,a0.2),())).1,(0:Int),()))
 else none
theorem aGg (x:DenS J6):run (cf [(262,⟨J4,KW,p100,f100⟩)] []) 9 254 Tryz.f254 J6 KY x=Xo p100 f100 x.1:=by kernel_rfl
def OD (x:DenS J6):Option (DenS KY):=Xo LN.pre LN.F x.1
def LP:Sum:=Al J6 KY OD (DenS.dflt KY)
theorem xX:Sound Tryz.prog G1 254 LP:=sd (cf [(262,LN)] []) 254 Tryz.f254 ⟨xV,trivial⟩ trivial J6 KY OD _ (fun _=>aGg ..)
abbrev j2:=An J6
abbrev lK:=Am J6 KY
variable (p104:j2) (f104:lK)
abbrev J7:Ac:=[(true,.pair (.bool) (.pair (.slice (.int .u64)) (.pair (.int .i64) (.unit))))]
abbrev KZ:Ac:=[(true,.pair (.bool) (.pair (.slice (.int .u64)) (.pair (.int .i64) (.unit)))),(false,.int .i64)]
def Xq (p103:j1) (f103:lJ) (p104:j2) (f104:lK) (a0:Aa (.pair (.bool) (.pair (.slice (.int .u64)) (.pair (.int .i64) (.unit))))):Option (DenS KZ) :=
 bif (p103 ((a0.1,a0.2),())) then (bif ((f103 ((a0.1,a0.2),())).1 != (0:Int)) then (some ((false,[],(0:Int),()),(f103 ((a0.1,a0.2),()))))
 else bif (p104 ((a0.1,a0.2),())) then (some (f104 ((a0.1,a0.2),())))
 else none)
 else none
theorem aGi (x:DenS J7):run (cf [(253,⟨J5,KX,p103,f103⟩),(254,⟨J6,KY,p104,f104⟩)] []) 9 179 Tryz.f179 J7 KZ x=Xq p103 f103 p104 f104 x.1:=by kernel_rfl
def QU (x:DenS J7):Option (DenS KZ):=Xq LO.pre LO.F LP.pre LP.F x.1
def LQ:Sum:=Al J7 KZ QU (DenS.dflt KZ)
theorem xY:Sound Tryz.prog G1 179 LQ:=sd (cf [(253,LO),(254,LP)] []) 179 Tryz.f179 ⟨xW,xX,trivial⟩ trivial J7 KZ QU _ (fun _=>aGi ..)
abbrev j3:=An J7
abbrev lL:=Am J7 KZ
variable (p106:j3) (f106:lL)
abbrev KQ:Ac:=[(false,.int .i64),(false,.int .i64),(true,.pair (.bool) (.pair (.slice (.int .u64)) (.pair (.int .i64) (.unit))))]
abbrev LH:Ac:=[(false,.int .u64),(false,.int .i64),(false,.int .i64)]
def YC (p105:OU) (f105:O6) (p106:j3) (f106:lL) (p107:OV) (f107:O7) (a0 a1:Aa (.int .i64)) (a2:Aa (.pair (.bool) (.pair (.slice (.int .u64)) (.pair (.int .i64) (.unit))))):Option (DenS LH) :=
 let e2_:=(((f106 ((a2.1,a2.2),())).1.1,(f106 ((a2.1,a2.2),())).1.2.1,(f106 ((a2.1,a2.2),())).1.2.2.1,false,()),a0,(f105 (a0,a1,())).1,a1,())
 let e1_:=(f107 e2_)
 bif (p105 (a0,a1,())) then (bif ((f105 (a0,a1,())).2.1 != (0:Int)) then (some ((0:Int),(0:Int),(f105 (a0,a1,())).2))
 else bif (p106 ((a2.1,a2.2),())) then (bif ((f106 ((a2.1,a2.2),())).2.1 != (0:Int)) then (some ((0:Int),(0:Int),(f106 ((a2.1,a2.2),())).2))
 else bif (((f106 ((a2.1,a2.2),())).1.2.1.length:Int)==(0:Int)) then (some ((0:Int),(0:Int),(0:Int),()))
 else bif (p107 e2_) then (some (e1_.1,e1_.2.1,(0:Int),()))
 else none)
 else none)
 else none
theorem r51 (x:DenS KQ):run (cf [(121,⟨GM,G4,p105,f105⟩),(179,⟨J7,KZ,p106,f106⟩),(125,⟨GN,G5,p107,f107⟩)] []) 9 130 Tryz.f130 KQ LH x=YC p105 f105 p106 f106 p107 f107 x.1 x.2.1 x.2.2.1:=by kernel_rfl
def OQ (x:DenS KQ):Option (DenS LH):=YC DR.pre DR.F LQ.pre LQ.F DS.pre DS.F x.1 x.2.1 x.2.2.1
def Mt:Sum:=Al KQ LH OQ (DenS.dflt LH)
theorem aAe:Sound Tryz.prog G1 130 Mt:=sd (cf [(121,DR),(179,LQ),(125,DS)] []) 130 Tryz.f130 ⟨Y6,xY,Y7,trivial⟩ trivial KQ LH OQ _ (fun _=>r51 ..)
abbrev lD:=An KQ
abbrev mX:=Am KQ LH
variable (p51:lD) (f51:mX)
abbrev KG:Ac:=[(false,.int .i64),(false,.int .i64),(false,.int .i64),(false,.int .u64)]
abbrev En:Ac:=[(false,.int .u64),(false,.int .i64)]
def Yk (p65:O3) (f65:Pf) (p98:O5) (f98:Ph) (p70:O4) (f70:Pg) (p97:NA) (f97:ND) (p118:Jf) (f118:Jj) (p40:Vo) (f40:Vv) (p51:lD) (f51:mX) (a0 a1 a2:Aa (.int .i64)) (a3:Aa (.int .u64)):Option (DenS En) :=
 let e5_:=(f51 (a1,a2,(f40 (a0,a3,())).1,()))
 let e1_:=(e5_.1,e5_.2.1,())
 let e2_:=((f118 (a1,(f98 (a0,a3,())).1,())).1,(0:Int),())
 let e3_:=((f97 (a1,(f98 (a0,a3,())).1,())).1,(0:Int),())
 let e4_:=(p51 (a1,a2,(f40 (a0,a3,())).1,()))
 let g6_:Option (DenS En):=bif (p97 (a1,(f98 (a0,a3,())).1,())) then (some e3_)
 else none
 let g5_:Option (DenS En):=bif (p118 (a1,(f98 (a0,a3,())).1,())) then (some e2_)
 else none
 let g4_:Option (DenS En):=bif (p40 (a0,a3,())) then (bif e4_ then (some e1_)
 else none)
 else none
 let g2_:Option (DenS En):=bif ((f65 (a0,a3,())).1==(6:Int)) then (bif ((f65 (a0,a3,())).1==(6:Int)) then (g5_)
 else g4_)
 else bif ((f65 (a0,a3,())).1==(5:Int)) then (g5_)
 else g4_
 let g1_:Option (DenS En):=bif ((f65 (a0,a3,())).1==(9:Int)) then (bif ((f65 (a0,a3,())).1==(9:Int)) then (g6_)
 else g2_)
 else bif ((f65 (a0,a3,())).1==(2:Int)) then (g6_)
 else g2_
 let g3_:Option (DenS En):=bif (p70 (a1,())) then (bif ((f65 (a0,a3,())).1==(0:Int)) then (some ((f70 (a1,())).1,(1:Int),()))
 else some ((f70 (a1,())).1,(0:Int),()))
 else none
 bif (p65 (a0,a3,())) then (bif (p98 (a0,a3,())) then (bif ((f65 (a0,a3,())).1==(0:Int)) then (bif ((f65 (a0,a3,())).1==(0:Int)) then (g3_)
 else g1_)
 else bif ((f65 (a0,a3,())).1==(1:Int)) then (g3_)
 else g1_)
 else none)
 else none
theorem aHr (x:DenS KG):run (cf [(55,⟨FO,F2,p65,f65⟩),(119,⟨FS,F5,p98,f98⟩),(56,⟨FQ,F3,p70,f70⟩),(65,⟨FR,F4,p97,f97⟩),(38,⟨Eh,EK,p118,f118⟩),(71,⟨Ib,It,p40,f40⟩),(130,⟨KQ,LH,p51,f51⟩)] []) 9 79 Tryz.f79 KG En x=Yk p65 f65 p98 f98 p70 f70 p97 f97 p118 f118 p40 f40 p51 f51 x.1 x.2.1 x.2.2.1 x.2.2.2.1:=by kernel_rfl
def RG (x:DenS KG):Option (DenS En):=Yk Cx.pre Cx.F Cz.pre Cz.F CJ.pre CJ.F Cy.pre Cy.F Bm.pre Bm.F EW.pre EW.F Mt.pre Mt.F x.1 x.2.1 x.2.2.1 x.2.2.2.1
def Mk:Sum:=Al KG En RG (DenS.dflt En)
theorem zR:Sound Tryz.prog G1 79 Mk:=sd (cf [(55,Cx),(119,Cz),(56,CJ),(65,Cy),(38,Bm),(71,EW),(130,Mt)] []) 79 Tryz.f79 ⟨UN,US,UO,UR,QQ,iO,aAe,trivial⟩ trivial KG En RG _ (fun _=>aHr ..)
abbrev kZ:=An KG
abbrev mR:=Am KG En
variable (p392:kZ) (f392:mR)
abbrev Ia:Ac:=[(false,.int .i64),(false,.int .i64),(false,.int .i64),(false,.int .u64)]
abbrev Is:Ac:=[(false,.int .u64),(false,.int .i64),(false,.int .i64)]
def Yl (p391:kY) (f391:mQ) (p392:kZ) (f392:mR) (a0 a1 a2:Aa (.int .i64)) (a3:Aa (.int .u64)):Option (DenS Is) :=
 let e1_:=(f391 ((a0::(a1::[])),(a2::[]),a3,()))
 bif (p391 ((a0::(a1::[])),(a2::[]),a3,())) then (bif (e1_.1 != (0:Int)) then (some ((0:Int),(0:Int),e1_))
 else bif (p392 (a0,a1,a2,a3,())) then (some ((f392 (a0,a1,a2,a3,())).1,(f392 (a0,a1,a2,a3,())).2.1,(0:Int),()))
 else none)
 else none
theorem aHs (x:DenS Ia):run (cf [(78,⟨KF,Lx,p391,f391⟩),(79,⟨KG,En,p392,f392⟩)] []) 9 23 Tryz.f23 Ia Is x=Yl p391 f391 p392 f392 x.1 x.2.1 x.2.2.1 x.2.2.2.1:=by kernel_rfl
def RH (x:DenS Ia):Option (DenS Is):=Yl Mj.pre Mj.F Mk.pre Mk.F x.1 x.2.1 x.2.2.1 x.2.2.2.1
def D8:Sum:=Al Ia Is RH (DenS.dflt Is)
theorem iN:Sound Tryz.prog G1 23 D8:=sd (cf [(78,Mj),(79,Mk)] []) 23 Tryz.f23 ⟨zQ,zR,trivial⟩ trivial Ia Is RH _ (fun _=>aHs ..)
abbrev ZG:=An Ia
abbrev Z3:=Am Ia Is
variable (p393:ZG) (f393:Z3)
abbrev UD:Ac:=[(false,.int .u64)]
abbrev Y4:Ac:=[(false,.flt .f64)]
def Nm:Sum:=cD .f64
theorem iL:Sound Tryz.prog G1 39 Nm:=qF (e:=Go.Extern.MathFloatBits.float64frombits) .f64 Tryz.func39 (by kernel_rfl) (by kernel_rfl) (by kernel_rfl) (by kernel_rfl) (fun _=>rfl)
abbrev Zz:=An UD
abbrev ZW:=Am UD Y4
variable (p301:Zz) (f301:ZW)
abbrev KI:Ac:=[(true,.pair (.int .i64) (.unit)),(false,.int .u64)]
abbrev Lz:Ac:=[(false,.flt .f64)]
def Yn (p393:ZG) (f393:Z3) (p301:Zz) (f301:ZW) (a0:Aa (.pair (.int .i64) (.unit))) (a1:Aa (.int .u64)):Option (DenS Lz) :=
 let e1_:=((f393 (a0.1,(3:Int),(0:Int),a1,())).1,())
 bif (p393 (a0.1,(3:Int),(0:Int),a1,())) then (bif (p301 e1_) then (some (f301 e1_))
 else none)
 else none
theorem aHv (x:DenS KI):run (cf [(23,⟨Ia,Is,p393,f393⟩),(39,⟨UD,Y4,p301,f301⟩)] []) 9 346 Tryz.f346 KI Lz x=Yn p393 f393 p301 f301 x.1 x.2.1:=by kernel_rfl
def RK (x:DenS KI):Option (DenS Lz):=Yn D8.pre D8.F Nm.pre Nm.F x.1 x.2.1
def Ml:Sum:=Al KI Lz RK (DenS.dflt Lz)
theorem zT:Sound Tryz.prog G1 346 Ml:=sd (cf [(23,D8),(39,Nm)] []) 346 Tryz.f346 ⟨iN,iL,trivial⟩ trivial KI Lz RK _ (fun _=>aHv ..)
abbrev k9:=An KI
abbrev mT:=Am KI Lz
variable (p445:k9) (f445:mT)
abbrev Ic:Ac:=[(false,.int .i64),(false,.flt .f64),(false,.flt .f64)]
abbrev Iu:Ac:=[(false,.flt .f64)]
def Yo (a0:Aa (.int .i64)) (a1 a2:Aa (.flt .f64)):Option (DenS Iu) :=
 bif (a0==(0:Int)) then (some ((Vx.BH Go.BinOp.add Go.FloatKind.f64 a1 a2),()))
 else bif (a0==(1:Int)) then (some ((Vx.BH Go.BinOp.sub Go.FloatKind.f64 a1 a2),()))
 else bif (a0==(2:Int)) then (some ((Vx.BH Go.BinOp.mul Go.FloatKind.f64 a1 a2),()))
 else some ((Vx.BH Go.BinOp.quo Go.FloatKind.f64 a1 a2),())
theorem aHw (x:DenS Ic):run (cf [] []) 9 348 Tryz.f348 Ic Iu x=Yo x.1 x.2.1 x.2.2.1:=by kernel_rfl
def RL (x:DenS Ic):Option (DenS Iu):=Yo x.1 x.2.1 x.2.2.1
def EX:Sum:=Al Ic Iu RL (DenS.dflt Iu)
theorem iP:Sound Tryz.prog G1 348 EX:=sd (cf [] []) 348 Tryz.f348 trivial trivial Ic Iu RL _ (fun _=>aHw ..)
abbrev ZH:=An Ic
abbrev Z4:=Am Ic Iu
variable (p446:ZH) (f446:Z4)
abbrev YZ:Ac:=[(false,.flt .f64)]
abbrev g9:Ac:=[(false,.int .u64)]
def UK:Sum:=aJ .f64
theorem yQ:Sound Tryz.prog G1 105 UK:=nU (e:=Go.Extern.MathFloatBits.float64bits) .f64 Tryz.func105 (by kernel_rfl) (by kernel_rfl) (by kernel_rfl) (by kernel_rfl) (fun _=>rfl)
abbrev kJ:=An YZ
abbrev mA:=Am YZ g9
variable (p306:kJ) (f306:mA)
abbrev Id:Ac:=[(false,.flt .f64)]
abbrev Iv:Ac:=[(false,.int .u64)]
def Yp (p306:kJ) (f306:mA) (a0:Aa (.flt .f64)):Option (DenS Iv) :=
 bif ((Vx.Dp Go.FloatKind.f64 a0 a0) != (some Ordering.eq)) then (some ((9221120237041090560:Int),()))
 else bif (p306 (a0,())) then (some (f306 (a0,())))
 else none
theorem aHx (x:DenS Id):run (cf [(105,⟨YZ,g9,p306,f306⟩)] []) 9 77 Tryz.f77 Id Iv x=Yp p306 f306 x.1:=by kernel_rfl
def RM (x:DenS Id):Option (DenS Iv):=Yp UK.pre UK.F x.1
def EY:Sum:=Al Id Iv RM (DenS.dflt Iv)
theorem iQ:Sound Tryz.prog G1 77 EY:=sd (cf [(105,UK)] []) 77 Tryz.f77 ⟨yQ,trivial⟩ trivial Id Iv RM _ (fun _=>aHx ..)
abbrev ZI:=An Id
abbrev Z5:=Am Id Iv
variable (p447:ZI) (f447:Z5)
abbrev KJ:Ac:=[(true,.pair (.int .i64) (.unit)),(false,.flt .f64)]
abbrev LA:Ac:=[(false,.int .u64)]
def Yq (p447:ZI) (f447:Z5) (p393:ZG) (f393:Z3) (a0:Aa (.pair (.int .i64) (.unit))) (a1:Aa (.flt .f64)):Option (DenS LA) :=
 let e1_:=((3:Int),a0.1,(0:Int),(f447 (a1,())))
 bif (p447 (a1,())) then (bif (p393 e1_) then (some ((f393 e1_).1,()))
 else none)
 else none
theorem aHy (x:DenS KJ):run (cf [(77,⟨Id,Iv,p447,f447⟩),(23,⟨Ia,Is,p393,f393⟩)] []) 9 345 Tryz.f345 KJ LA x=Yq p447 f447 p393 f393 x.1 x.2.1:=by kernel_rfl
def RN (x:DenS KJ):Option (DenS LA):=Yq EY.pre EY.F D8.pre D8.F x.1 x.2.1
def Mm:Sum:=Al KJ LA RN (DenS.dflt LA)
theorem zU:Sound Tryz.prog G1 345 Mm:=sd (cf [(77,EY),(23,D8)] []) 345 Tryz.f345 ⟨iQ,iN,trivial⟩ trivial KJ LA RN _ (fun _=>aHy ..)
abbrev lA:=An KJ
abbrev mU:=Am KJ LA
variable (p448:lA) (f448:mU)
abbrev Nd:Ac:=[(true,.pair (.int .i64) (.unit)),(false,.int .i64),(false,.int .u64),(false,.int .u64)]
abbrev Ni:Ac:=[(false,.int .u64)]
def Yr (p445:k9) (f445:mT) (p446:ZH) (f446:Z4) (p448:lA) (f448:mU) (a0:Aa (.pair (.int .i64) (.unit))) (a1:Aa (.int .i64)) (a2 a3:Aa (.int .u64)):Option (DenS Ni) :=
 let e2_:=(a1,(f445 ((a0.1,()),a2,())).1,(f445 ((a0.1,()),a3,())))
 let e1_:=((a0.1,()),(f446 e2_))
 bif (p445 ((a0.1,()),a2,())) then (bif (p445 ((a0.1,()),a3,())) then (bif (p446 e2_) then (bif (p448 e1_) then (some (f448 e1_))
 else none)
 else none)
 else none)
 else none
theorem aHz (x:DenS Nd):run (cf [(346,⟨KI,Lz,p445,f445⟩),(348,⟨Ic,Iu,p446,f446⟩),(345,⟨KJ,LA,p448,f448⟩)] []) 9 347 Tryz.f347 Nd Ni x=Yr p445 f445 p446 f446 p448 f448 x.1 x.2.1 x.2.2.1 x.2.2.2.1:=by kernel_rfl
def RO (x:DenS Nd):Option (DenS Ni):=Yr Ml.pre Ml.F EX.pre EX.F Mm.pre Mm.F x.1 x.2.1 x.2.2.1 x.2.2.2.1
def Oy:Sum:=Al Nd Ni RO (DenS.dflt Ni)
theorem zV:Sound Tryz.prog G1 347 Oy:=sd (cf [(346,Ml),(348,EX),(345,Mm)] []) 347 Tryz.f347 ⟨zT,iP,zU,trivial⟩ trivial Nd Ni RO _ (fun _=>aHz ..)
abbrev aBt:=An Nd
abbrev aBx:=Am Nd Ni
variable (p449:aBt) (f449:aBx)
abbrev YY:Ac:=[(false,.int .u32)]
abbrev gZ:Ac:=[(false,.flt .f32)]
def UJ:Sum:=cD .f32
theorem yP:Sound Tryz.prog G1 354 UJ:=qF (e:=Go.Extern.MathFloatBits.float32frombits) .f32 Tryz.func354 (by kernel_rfl) (by kernel_rfl) (by kernel_rfl) (by kernel_rfl) (fun _=>rfl)
abbrev kI:=An YY
abbrev lZ:=Am YY gZ
variable (p303:kI) (f303:lZ)
abbrev Y0:Ac:=[(false,.flt .f32)]
abbrev hZ:Ac:=[(false,.int .u32)]
def UL:Sum:=aJ .f32
theorem yR:Sound Tryz.prog G1 40 UL:=nU (e:=Go.Extern.MathFloatBits.float32bits) .f32 Tryz.func40 (by kernel_rfl) (by kernel_rfl) (by kernel_rfl) (by kernel_rfl) (fun _=>rfl)
abbrev kK:=An Y0
abbrev mB:=Am Y0 hZ
variable (p308:kK) (f308:mB)
abbrev KK:Ac:=[(false,.flt .f32)]
abbrev LB:Ac:=[(false,.int .u64)]
def Ys (p308:kK) (f308:mB) (a0:Aa (.flt .f32)):Option (DenS LB) :=
 bif ((Vx.Dp Go.FloatKind.f32 a0 a0) != (some Ordering.eq)) then (some ((2143289344:Int),()))
 else bif (p308 (a0,())) then (some ((IntKind.wrap .u64 (f308 (a0,())).1),()))
 else none
theorem aHA (x:DenS KK):run (cf [(40,⟨Y0,hZ,p308,f308⟩)] []) 9 353 Tryz.f353 KK LB x=Ys p308 f308 x.1:=by kernel_rfl
def RP (x:DenS KK):Option (DenS LB):=Ys UL.pre UL.F x.1
def Mn:Sum:=Al KK LB RP (DenS.dflt LB)
theorem zW:Sound Tryz.prog G1 353 Mn:=sd (cf [(40,UL)] []) 353 Tryz.f353 ⟨yR,trivial⟩ trivial KK LB RP _ (fun _=>aHA ..)
abbrev lB:=An KK
abbrev mV:=Am KK LB
variable (p450:lB) (f450:mV)
abbrev Nf:Ac:=[(true,.unit),(false,.int .i64),(false,.int .u64),(false,.int .u64)]
abbrev Nj:Ac:=[(false,.int .u64)]
def Yt (p303:kI) (f303:lZ) (p450:lB) (f450:mV) (a0:Aa (.unit)) (a1:Aa (.int .i64)) (a2 a3:Aa (.int .u64)):Option (DenS Nj) :=
 let e5_:=(f303 ((IntKind.wrap .u32 a2),()))
 let e6_:=(f303 ((IntKind.wrap .u32 a3),()))
 let e1_:=((Vx.BH Go.BinOp.add Go.FloatKind.f32 e5_.1 e6_.1),())
 let e2_:=((Vx.BH Go.BinOp.sub Go.FloatKind.f32 e5_.1 e6_.1),())
 let e3_:=((Vx.BH Go.BinOp.mul Go.FloatKind.f32 e5_.1 e6_.1),())
 let e4_:=((Vx.BH Go.BinOp.quo Go.FloatKind.f32 e5_.1 e6_.1),())
 bif (p303 ((IntKind.wrap .u32 a2),())) then (bif (p303 ((IntKind.wrap .u32 a3),())) then (bif (a1==(0:Int)) then (bif (p450 e1_) then (some (f450 e1_))
 else none)
 else bif (a1==(1:Int)) then (bif (p450 e2_) then (some (f450 e2_))
 else none)
 else bif (a1==(2:Int)) then (bif (p450 e3_) then (some (f450 e3_))
 else none)
 else bif (p450 e4_) then (some (f450 e4_))
 else none)
 else none)
 else none
theorem aHB (x:DenS Nf):run (cf [(354,⟨YY,gZ,p303,f303⟩),(353,⟨KK,LB,p450,f450⟩)] []) 9 352 Tryz.f352 Nf Nj x=Yt p303 f303 p450 f450 x.1 x.2.1 x.2.2.1 x.2.2.2.1:=by kernel_rfl
def RQ (x:DenS Nf):Option (DenS Nj):=Yt UJ.pre UJ.F Mn.pre Mn.F x.1 x.2.1 x.2.2.1 x.2.2.2.1
def Oz:Sum:=Al Nf Nj RQ (DenS.dflt Nj)
theorem zX:Sound Tryz.prog G1 352 Oz:=sd (cf [(354,UJ),(353,Mn)] []) 352 Tryz.f352 ⟨yP,zW,trivial⟩ trivial Nf Nj RQ _ (fun _=>aHB ..)
abbrev aBu:=An Nf
abbrev aBy:=Am Nf Nj
variable (p451:aBu) (f451:aBy)
abbrev Ng:Ac:=[(true,.unit),(false,.int .i64),(false,.int .u64),(false,.int .u64)]
abbrev Nk:Ac:=[(false,.int .u64)]
def Yu (p301:Zz) (f301:ZW) (p446:ZH) (f446:Z4) (p447:ZI) (f447:Z5) (a0:Aa (.unit)) (a1:Aa (.int .i64)) (a2 a3:Aa (.int .u64)):Option (DenS Nk) :=
 let e1_:=(f446 (a1,(f301 (a2,())).1,(f301 (a3,()))))
 bif (p301 (a2,())) then (bif (p301 (a3,())) then (bif (p446 (a1,(f301 (a2,())).1,(f301 (a3,())))) then (bif (p447 e1_) then (some (f447 e1_))
 else none)
 else none)
 else none)
 else none
theorem aHC (x:DenS Ng):run (cf [(39,⟨UD,Y4,p301,f301⟩),(348,⟨Ic,Iu,p446,f446⟩),(77,⟨Id,Iv,p447,f447⟩)] []) 9 358 Tryz.f358 Ng Nk x=Yu p301 f301 p446 f446 p447 f447 x.1 x.2.1 x.2.2.1 x.2.2.2.1:=by kernel_rfl
def RR (x:DenS Ng):Option (DenS Nk):=Yu Nm.pre Nm.F EX.pre EX.F EY.pre EY.F x.1 x.2.1 x.2.2.1 x.2.2.2.1
def OA:Sum:=Al Ng Nk RR (DenS.dflt Nk)
theorem zY:Sound Tryz.prog G1 358 OA:=sd (cf [(39,Nm),(348,EX),(77,EY)] []) 358 Tryz.f358 ⟨iL,iP,iQ,trivial⟩ trivial Ng Nk RR _ (fun _=>aHC ..)
abbrev aBv:=An Ng
abbrev aBz:=Am Ng Nk
variable (p452:aBv) (f452:aBz)
abbrev UC:Ac:=[(false,.int .i64),(false,.int .u64),(false,.int .u64)]
abbrev Y3:Ac:=[(false,.int .u64)]
def DQ:SumM:=Pr UC Y3 [(107,347,Oy),(113,352,Oz),(114,358,OA)]
theorem xU : QO Tryz.prog G1 "vernier/metal.work" DQ := oH ⟨⟨by kernel_rfl, zV⟩, ⟨⟨by kernel_rfl, zX⟩, ⟨⟨by kernel_rfl, zY⟩, trivial⟩⟩⟩
abbrev jZ:=Option (Nat×List Int)->An UC
abbrev lI:=Option (Nat×List Int)->Am UC Y3
variable (p100011:jZ) (f100011:lI)
abbrev KL:Ac:=[(false,.slice (.int .u64))]
abbrev LC:Ac:=[(false,.int .i64)]
abbrev Fe:LK:=.ref (.pair (.int .i64) (.pair .ifc .unit))
abbrev Gm:Pat:=⟨26,[(11,.one (.v .i64)),(10,.one (.sl (.int .u64))),(0,.one (.ptr 0 0)),(12,.one (.v .i64))],[.raw [.v .i64,.ifv]]⟩
abbrev Uz:List (Nat×Shape):=[]
abbrev Je:List (Nat×Pat):=[(0,⟨26,[],[.raw [.v .i64,.ifv]]⟩)]
abbrev IR:Option Pat:=(some ⟨26,[(4,.one (.v .i64))],[.raw [.v .i64,.ifv]]⟩)
variable (w453_4:Pat.D Gm->Option (Ak Je IR))
def P0 (p66:Dk) (f66:Dm) {R:Type} (L:Pat.D Gm->Option R) (e:Ak Je IR->Option R) (x:Pat.D Gm):Option R :=
 let e2_:=(x.2.1.1,(x.1.2.1.getD (Int.toNat x.1.2.2.2.1) (0:Int)),())
 let e1_:=(f66 e2_)
 bif (decide (x.1.2.2.2.1<x.1.1)) then (bif ((decide ((0:Int)<=x.1.2.2.2.1))&&(decide (x.1.2.2.2.1<(x.1.2.1.length:Int)))) then (bif (p66 e2_) then (bif (e1_.1 != (0:Int)) then (((e (.inr (e1_,x.2)))))
 else (L ((x.1.1,x.1.2.1,(),(IntKind.wrap .i64 (x.1.2.2.2.1+(1:Int))),()),x.2)))
 else none)
 else none)
 else (e (.inl ((),x.2)))
theorem aIH (d:Nat) (R:Type) (L:Pat.D Gm->Option R) (e:Ak Je IR->Option R) (x:Pat.D Gm) :
  B7 (cf [(59,⟨C3,C4,p66,f66⟩)] [(73,4,LoopSpec.of Gm Uz Je IR w453_4 1)]) (d+2) 73 (BR Tryz.f73 4) Gm Uz Je IR (R:=R) L e x 1=P0 p66 f66 L e x:=by kernel_rfl
theorem sX (p66:Dk) (f66:Dm):BG fun L e x=>P0 p66 f66 L e x:=by intro _ _ _ _ _ _ _ h0 hL he _; unfold P0; repeat' (first | exact h0 | exact hL _ | exact he _ | apply Cu | (apply Cv h0; intro _) | (apply Cw <;> intro _))
def Yv (p66:Dk) (f66:Dm) (w453_4:Pat.D Gm->Option (Ak Je IR)) (l0:LK.D (.ref (.pair (.int .i64) (.pair .ifc .unit)))) (a0:Aa (.slice (.int .u64))):Option (LK.B Fe×DenS LC) :=
 Vx.Bh (w453_4 (((a0.length:Int),a0,(),(0:Int),()),(l0.1,l0.2),())) fun y0 =>
 Vx.Bi y0 (fun y1 =>
 some (y1.2.1,(0:Int),())) (fun z1 =>
 some (z1.2.1,z1.1))
theorem aHD (x:LK.D Fe×DenS KL):ED (cf [(59,⟨C3,C4,p66,f66⟩)] [(73,4,LoopSpec.of Gm Uz Je IR w453_4 1)]) 9 73 Tryz.f73 Fe KL LC x=Yv p66 f66 w453_4 x.1 x.2.1:=by kernel_rfl
def Si:Gm.D->Option (Ak Je IR):=Bo fun L=>P0 Aw.pre Aw.F L some
def RS (x:LK.D Fe×DenS KL):Option (LK.B Fe×DenS LC):=Yv Aw.pre Aw.F Si x.1 x.2.1
def Mo:SumL:=EF Fe KL LC RS (LK.dflt Fe,DenS.dflt LC)
theorem zZ:SoundL Tryz.prog G1 73 Mo:=JU (cf [(59,Aw)] [(73,4,LoopSpec.of Gm Uz Je IR Si 1)]) 73 Tryz.f73 ⟨Mv,trivial⟩ ⟨rfl,fun d=>Ct (fun L e x=>P0 Aw.pre Aw.F L e x) (sX Aw.pre Aw.F) (fun _ _ _ _=>aIH ..),trivial⟩ Fe KL LC RS _ (fun _=>aHD ..)
abbrev lC:=LK.D Fe×DenS KL->Bool
abbrev mW:=LK.D Fe×DenS KL->LK.B Fe×DenS LC
variable (p453:lC) (f453:mW)
abbrev FN:Ac:=[(false,.int .i64),(false,.int .u64),(false,.int .u64)]
abbrev F0:Ac:=[(false,.int .u64),(false,.int .i64)]
abbrev D6:LK:=.ref (.pair (.int .i64) (.pair .ifc .unit))
def Yw (p453:lC) (f453:mW) (p100011:jZ) (f100011:lI) (l0:LK.D (.ref (.pair (.int .i64) (.pair .ifc .unit)))) (a0:Aa (.int .i64)) (a1 a2:Aa (.int .u64)):Option (LK.B D6×DenS F0) :=
 let e1_:=(f453 ((l0.1,l0.2),(a1::(a2::[])),()))
 bif (p453 ((l0.1,l0.2),(a1::(a2::[])),())) then (bif (e1_.2.1 != (0:Int)) then (some (e1_.1,(0:Int),e1_.2))
 else bif (p100011 e1_.1.2.1 (a0,a1,a2,())) then (some (e1_.1,(f100011 e1_.1.2.1 (a0,a1,a2,())).1,(0:Int),()))
 else none)
 else none
theorem aHE (x : LK.D D6 × DenS FN) : ED ({ cf [] [] with lsums := [(73, ⟨Fe, KL, LC, p453, f453⟩)], meths := [("vernier/metal.work", ⟨UC, Y3, p100011, f100011⟩)] }) 9 88 Tryz.f88 D6 FN F0 x = Yw p453 f453 p100011 f100011 x.1 x.2.1 x.2.2.1 x.2.2.2.1 := by kernel_rfl
def RT (x:LK.D D6×DenS FN):Option (LK.B D6×DenS F0):=Yw Mo.pre Mo.F DQ.pre DQ.F x.1 x.2.1 x.2.2.1 x.2.2.2.1
def CI:SumL:=EF D6 FN F0 RT (LK.dflt D6,DenS.dflt F0)
theorem UM : SoundL Tryz.prog G1 88 CI := JU ({ cf [] [] with lsums := [(73, Mo)], meths := [("vernier/metal.work", DQ)] }) 88 Tryz.f88 trivial trivial D6 FN F0 RT _ (fun _ => aHE ..) (hls := ⟨zZ, trivial⟩) (hms := ⟨xU, trivial⟩)
abbrev Sq:=LK.D D6×DenS FN->Bool
abbrev Sz:=LK.D D6×DenS FN->LK.B D6×DenS F0
variable (p454:Sq) (f454:Sz)
abbrev KM:Ac:=[(false,.int .u64),(false,.int .u64)]
abbrev LD:Ac:=[(false,.int .u64),(false,.int .i64)]
abbrev Ff:LK:=.ref (.pair (.int .i64) (.pair .ifc .unit))
def Yx (p454:Sq) (f454:Sz) (l0:LK.D (.ref (.pair (.int .i64) (.pair .ifc .unit)))) (a0 a1:Aa (.int .u64)):Option (LK.B Ff×DenS LD) :=
 bif (p454 ((l0.1,l0.2),(0:Int),a0,a1,())) then (some (f454 ((l0.1,l0.2),(0:Int),a0,a1,())))
 else none
theorem aHF (x:LK.D Ff×DenS KM):ED ({ cf [] [] with lsums:=[(88,⟨D6,FN,F0,p454,f454⟩)] }) 9 31 Tryz.f31 Ff KM LD x=Yx p454 f454 x.1 x.2.1 x.2.2.1:=by kernel_rfl
def RU (x:LK.D Ff×DenS KM):Option (LK.B Ff×DenS LD):=Yx CI.pre CI.F x.1 x.2.1 x.2.2.1
def Mp:SumL:=EF Ff KM LD RU (LK.dflt Ff,DenS.dflt LD)
theorem z7:SoundL Tryz.prog G1 31 Mp:=JU ({ cf [] [] with lsums:=[(88,CI)] }) 31 Tryz.f31 trivial trivial Ff KM LD RU _ (fun _=>aHF ..) (hls:=⟨UM,trivial⟩)
abbrev ZJ:=LK.D Ff×DenS KM->Bool
abbrev Z6:=LK.D Ff×DenS KM->LK.B Ff×DenS LD
variable (p455:ZJ) (f455:Z6)
abbrev KN:Ac:=[(false,.int .u64),(false,.int .u64)]
abbrev LE:Ac:=[(false,.int .u64),(false,.int .i64)]
abbrev Fg:LK:=.ref (.pair (.int .i64) (.pair .ifc .unit))
def Yy (p454:Sq) (f454:Sz) (l0:LK.D (.ref (.pair (.int .i64) (.pair .ifc .unit)))) (a0 a1:Aa (.int .u64)):Option (LK.B Fg×DenS LE) :=
 bif (p454 ((l0.1,l0.2),(1:Int),a0,a1,())) then (some (f454 ((l0.1,l0.2),(1:Int),a0,a1,())))
 else none
theorem aHG (x:LK.D Fg×DenS KN):ED ({ cf [] [] with lsums:=[(88,⟨D6,FN,F0,p454,f454⟩)] }) 9 32 Tryz.f32 Fg KN LE x=Yy p454 f454 x.1 x.2.1 x.2.2.1:=by kernel_rfl
def RV (x:LK.D Fg×DenS KN):Option (LK.B Fg×DenS LE):=Yy CI.pre CI.F x.1 x.2.1 x.2.2.1
def Mq:SumL:=EF Fg KN LE RV (LK.dflt Fg,DenS.dflt LE)
theorem aAa:SoundL Tryz.prog G1 32 Mq:=JU ({ cf [] [] with lsums:=[(88,CI)] }) 32 Tryz.f32 trivial trivial Fg KN LE RV _ (fun _=>aHG ..) (hls:=⟨UM,trivial⟩)
abbrev ZK:=LK.D Fg×DenS KN->Bool
abbrev Z7:=LK.D Fg×DenS KN->LK.B Fg×DenS LE
variable (p456:ZK) (f456:Z7)
abbrev KO:Ac:=[(false,.int .u64),(false,.int .u64)]
abbrev LF:Ac:=[(false,.int .u64),(false,.int .i64)]
abbrev Fh:LK:=.ref (.pair (.int .i64) (.pair .ifc .unit))
def Yz (p454:Sq) (f454:Sz) (l0:LK.D (.ref (.pair (.int .i64) (.pair .ifc .unit)))) (a0 a1:Aa (.int .u64)):Option (LK.B Fh×DenS LF) :=
 bif (p454 ((l0.1,l0.2),(2:Int),a0,a1,())) then (some (f454 ((l0.1,l0.2),(2:Int),a0,a1,())))
 else none
theorem aHH (x:LK.D Fh×DenS KO):ED ({ cf [] [] with lsums:=[(88,⟨D6,FN,F0,p454,f454⟩)] }) 9 33 Tryz.f33 Fh KO LF x=Yz p454 f454 x.1 x.2.1 x.2.2.1:=by kernel_rfl
def RW (x:LK.D Fh×DenS KO):Option (LK.B Fh×DenS LF):=Yz CI.pre CI.F x.1 x.2.1 x.2.2.1
def Mr:SumL:=EF Fh KO LF RW (LK.dflt Fh,DenS.dflt LF)
theorem aAb:SoundL Tryz.prog G1 33 Mr:=JU ({ cf [] [] with lsums:=[(88,CI)] }) 33 Tryz.f33 trivial trivial Fh KO LF RW _ (fun _=>aHH ..) (hls:=⟨UM,trivial⟩)
abbrev ZL:=LK.D Fh×DenS KO->Bool
abbrev Z8:=LK.D Fh×DenS KO->LK.B Fh×DenS LF
variable (p457:ZL) (f457:Z8)
abbrev KP:Ac:=[(false,.int .u64),(false,.int .u64)]
abbrev LG:Ac:=[(false,.int .u64),(false,.int .i64)]
abbrev Fi:LK:=.ref (.pair (.int .i64) (.pair .ifc .unit))
def YA (p454:Sq) (f454:Sz) (l0:LK.D (.ref (.pair (.int .i64) (.pair .ifc .unit)))) (a0 a1:Aa (.int .u64)):Option (LK.B Fi×DenS LG) :=
 bif (p454 ((l0.1,l0.2),(3:Int),a0,a1,())) then (some (f454 ((l0.1,l0.2),(3:Int),a0,a1,())))
 else none
theorem aHI (x:LK.D Fi×DenS KP):ED ({ cf [] [] with lsums:=[(88,⟨D6,FN,F0,p454,f454⟩)] }) 9 34 Tryz.f34 Fi KP LG x=YA p454 f454 x.1 x.2.1 x.2.2.1:=by kernel_rfl
def RX (x:LK.D Fi×DenS KP):Option (LK.B Fi×DenS LG):=YA CI.pre CI.F x.1 x.2.1 x.2.2.1
def Ms:SumL:=EF Fi KP LG RX (LK.dflt Fi,DenS.dflt LG)
theorem aAc:SoundL Tryz.prog G1 34 Ms:=JU ({ cf [] [] with lsums:=[(88,CI)] }) 34 Tryz.f34 trivial trivial Fi KP LG RX _ (fun _=>aHI ..) (hls:=⟨UM,trivial⟩)
abbrev ZM:=LK.D Fi×DenS KP->Bool
abbrev Z9:=LK.D Fi×DenS KP->LK.B Fi×DenS LG
variable (p458:ZM) (f458:Z9)
abbrev J8:Ac:=[(false,.int .i64)]
abbrev K0:Ac:=[(false,.int .u64)]
def wK (a0:Aa (.int .i64)):Option (DenS K0) :=
 let e1_:=(IntKind.wrap .i64 ((Vx.k_rows.getD (Int.toNat a0) ((0:Int),(0:Int),(0:Int),(0:Int),())).1-(1:Int)))
 bif ((decide ((0:Int)<=a0))&&(decide (a0<((4:Nat):Int)))) then (bif (decide ((0:Int)<=e1_)) then (some ((Bp .u64 (1:Int) e1_),()))
 else none)
 else none
theorem aGl (x:DenS J8):run (cf [] []) 9 120 Tryz.f120 J8 K0 x=wK x.1:=by kernel_rfl
def QW (x:DenS J8):Option (DenS K0):=wK x.1
def LR:Sum:=Al J8 K0 QW (DenS.dflt K0)
theorem xZ:Sound Tryz.prog G1 120 LR:=sd (cf [] []) 120 Tryz.f120 trivial trivial J8 K0 QW _ (fun _=>aGl ..)
abbrev j5:=An J8
abbrev lM:=Am J8 K0
variable (p115:j5) (f115:lM)
abbrev KR:Ac:=[(false,.int .i64),(false,.int .u64)]
abbrev LI:Ac:=[(false,.int .u64),(false,.int .i64)]
def YD (p66:Dk) (f66:Dm) (p115:j5) (f115:lM) (a0:Aa (.int .i64)) (a1:Aa (.int .u64)):Option (DenS LI) :=
 bif (p66 (a0,a1,())) then (bif ((f66 (a0,a1,())).1 != (0:Int)) then (some ((0:Int),(f66 (a0,a1,()))))
 else bif (p115 (a0,())) then (some ((YV .u64 a1 (f115 (a0,())).1),(0:Int),()))
 else none)
 else none
theorem r64 (x:DenS KR):run (cf [(59,⟨C3,C4,p66,f66⟩),(120,⟨J8,K0,p115,f115⟩)] []) 9 60 Tryz.f60 KR LI x=YD p66 f66 p115 f115 x.1 x.2.1:=by kernel_rfl
def RY (x:DenS KR):Option (DenS LI):=YD Aw.pre Aw.F LR.pre LR.F x.1 x.2.1
def Mu:Sum:=Al KR LI RY (DenS.dflt LI)
theorem aAf:Sound Tryz.prog G1 60 Mu:=sd (cf [(59,Aw),(120,LR)] []) 60 Tryz.f60 ⟨Mv,xZ,trivial⟩ trivial KR LI RY _ (fun _=>r64 ..)
abbrev lE:=An KR
abbrev mY:=Am KR LI
variable (p64:lE) (f64:mY)
abbrev Kl:Ac:=[(false,.int .i64),(false,.int .i64),(false,.int .u64),(false,.int .u64)]
abbrev Le:Ac:=[(false,.int .u64),(false,.int .i64),(false,.int .i64)]
def XY (p66:Dk) (f66:Dm) (p64:lE) (f64:mY) (p27:Sn) (f27:Sw) (a0 a1:Aa (.int .i64)) (a2 a3:Aa (.int .u64)):Option (DenS Le) :=
 let e1_:=(a0,a1,a2,(f64 (a0,a3,())).1,())
 bif (p66 (a0,a3,())) then (bif ((f66 (a0,a3,())).1==(0:Int)) then (bif (p64 (a0,a3,())) then (bif (p27 e1_) then (some (f27 e1_))
 else none)
 else none)
 else bif (p27 (a0,a1,a2,a3,())) then (some (f27 (a0,a1,a2,a3,())))
 else none)
 else none
theorem r25 (x:DenS Kl):run (cf [(59,⟨C3,C4,p66,f66⟩),(60,⟨KR,LI,p64,f64⟩),(15,⟨GZ,Hd,p27,f27⟩)] []) 9 16 Tryz.f16 Kl Le x=XY p66 f66 p64 f64 p27 f27 x.1 x.2.1 x.2.2.1 x.2.2.2.1:=by kernel_rfl
def Rh (x:DenS Kl):Option (DenS Le):=XY Aw.pre Aw.F Mu.pre Mu.F Dj.pre Dj.F x.1 x.2.1 x.2.2.1 x.2.2.2.1
def LX:Sum:=Al Kl Le Rh (DenS.dflt Le)
theorem yO:Sound Tryz.prog G1 16 LX:=sd (cf [(59,Aw),(60,Mu),(15,Dj)] []) 16 Tryz.f16 ⟨Mv,aAf,Zc,trivial⟩ trivial Kl Le Rh _ (fun _=>r25 ..)
abbrev Zy:=An Kl
abbrev ZV:=Am Kl Le
variable (p25:Zy) (f25:ZV)
abbrev Ko:Ac:=[(false,.int .i64),(true,.pair (.int .i64) (.pair (.int .i64) (.pair (.int .i64) (.pair (.int .i64) (.unit))))),(false,.int .u64)]
abbrev Lh:Ac:=[(true,.pair (.int .i64) (.pair (.bool) (.pair (.int .u64) (.pair (.int .i64) (.unit))))),(false,.int .i64)]
def Qx (p65:O3) (f65:Pf) (p98:O5) (f98:Ph) (a0:Aa (.int .i64)) (a1:Aa (.pair (.int .i64) (.pair (.int .i64) (.pair (.int .i64) (.pair (.int .i64) (.unit)))))) (a2:Aa (.int .u64)):Option (DenS Lh) :=
 let e1_:=(IntKind.wrap .i64 (a1.2.1-(1:Int)))
 bif (p65 (a0,a2,())) then (bif ((f65 (a0,a2,())).2.1 != (0:Int)) then (some (((0:Int),false,(0:Int),(0:Int),()),(f65 (a0,a2,())).2))
 else bif (p98 (a0,a2,())) then (bif ((f98 (a0,a2,())).2.1==(0:Int)) then (some (((f65 (a0,a2,())).1,(f98 (a0,a2,())).1,(f98 (a0,a2,())).2.2.1,(IntKind.wrap .i64 ((IntKind.wrap .i64 ((IntKind.wrap .i64 ((IntKind.wrap .i64 ((IntKind.wrap .i64 (1:Int))-(1:Int)))+a1.2.2.1))-a1.2.1))+(1:Int))),()),(0:Int),()))
 else bif (decide ((0:Int)<=e1_)) then (some (((f65 (a0,a2,())).1,(f98 (a0,a2,())).1,(Bz .u64 (f98 (a0,a2,())).2.2.1 (Bp .u64 (1:Int) e1_)),(IntKind.wrap .i64 ((IntKind.wrap .i64 ((IntKind.wrap .i64 ((IntKind.wrap .i64 ((IntKind.wrap .i64 (f98 (a0,a2,())).2.1)-(1:Int)))+a1.2.2.1))-a1.2.1))+(1:Int))),()),(0:Int),()))
 else none)
 else none)
 else none
theorem aG9 (x:DenS Ko):run (cf [(55,⟨FO,F2,p65,f65⟩),(119,⟨FS,F5,p98,f98⟩)] []) 9 61 Tryz.f61 Ko Lh x=Qx p65 f65 p98 f98 x.1 x.2.1 x.2.2.1:=by kernel_rfl
def OM (x:DenS Ko):Option (DenS Lh):=Qx Cx.pre Cx.F Cz.pre Cz.F x.1 x.2.1 x.2.2.1
def L3:Sum:=Al Ko Lh OM (DenS.dflt Lh)
theorem yZ:Sound Tryz.prog G1 61 L3:=sd (cf [(55,Cx),(119,Cz)] []) 61 Tryz.f61 ⟨UN,US,trivial⟩ trivial Ko Lh OM _ (fun _=>aG9 ..)
abbrev kN:=An Ko
abbrev mE:=Am Ko Lh
variable (p350:kN) (f350:mE)
abbrev Kp:Ac:=[(true,.pair (.int .i64) (.pair (.bool) (.pair (.int .u64) (.pair (.int .i64) (.unit)))))]
abbrev Li:Ac:=[(false,.bool)]
def wS (a0:Aa (.pair (.int .i64) (.pair (.bool) (.pair (.int .u64) (.pair (.int .i64) (.unit)))))):Option (DenS Li) :=
 some (((a0.1==(1:Int))||(a0.1==(0:Int))),())
theorem aHa (x:DenS Kp):run (cf [] []) 9 62 Tryz.f62 Kp Li x=wS x.1:=by kernel_rfl
def Rs (x:DenS Kp):Option (DenS Li):=wS x.1
def L4:Sum:=Al Kp Li Rs (DenS.dflt Li)
theorem zA:Sound Tryz.prog G1 62 L4:=sd (cf [] []) 62 Tryz.f62 trivial trivial Kp Li Rs _ (fun _=>aHa ..)
abbrev kO:=An Kp
abbrev mG:=Am Kp Li
variable (p351:kO) (f351:mG)
abbrev Kq:Ac:=[(true,.pair (.int .i64) (.pair (.bool) (.pair (.int .u64) (.pair (.int .i64) (.unit)))))]
abbrev Lj:Ac:=[(false,.bool)]
def wT (a0:Aa (.pair (.int .i64) (.pair (.bool) (.pair (.int .u64) (.pair (.int .i64) (.unit)))))):Option (DenS Lj) :=
 some (((a0.1==(2:Int))||(a0.1==(9:Int))),())
theorem aHb (x:DenS Kq):run (cf [] []) 9 63 Tryz.f63 Kq Lj x=wT x.1:=by kernel_rfl
def Rt (x:DenS Kq):Option (DenS Lj):=wT x.1
def L5:Sum:=Al Kq Lj Rt (DenS.dflt Lj)
theorem zB:Sound Tryz.prog G1 63 L5:=sd (cf [] []) 63 Tryz.f63 trivial trivial Kq Lj Rt _ (fun _=>aHb ..)
abbrev kP:=An Kq
abbrev mH:=Am Kq Lj
variable (p352:kP) (f352:mH)
abbrev Kr:Ac:=[(true,.pair (.int .i64) (.pair (.bool) (.pair (.int .u64) (.pair (.int .i64) (.unit)))))]
abbrev Lk:Ac:=[(false,.bool)]
def wU (a0:Aa (.pair (.int .i64) (.pair (.bool) (.pair (.int .u64) (.pair (.int .i64) (.unit)))))):Option (DenS Lk) :=
 some (((a0.1==(5:Int))||(a0.1==(6:Int))),())
theorem aHc (x:DenS Kr):run (cf [] []) 9 64 Tryz.f64 Kr Lk x=wU x.1:=by kernel_rfl
def Ru (x:DenS Kr):Option (DenS Lk):=wU x.1
def L6:Sum:=Al Kr Lk Ru (DenS.dflt Lk)
theorem zC:Sound Tryz.prog G1 64 L6:=sd (cf [] []) 64 Tryz.f64 trivial trivial Kr Lk Ru _ (fun _=>aHc ..)
abbrev kQ:=An Kr
abbrev mI:=Am Kr Lk
variable (p353:kQ) (f353:mI)
abbrev EJ:Ac:=[(false,.int .u64),(false,.int .u64)]
abbrev EM:Ac:=[(false,.int .u64),(false,.int .u64)]
def X0 (a0 a1:Aa (.int .u64)):Option (DenS EM) :=
 let e2_:=(CK .u64 a1 (4294967295:Int))
 let e3_:=(CK .u64 a0 (4294967295:Int))
 let e1_:=(IntKind.wrap .u64 ((IntKind.wrap .u64 ((AN .u64 a0 (32:Int))*e2_))+(AN .u64 (IntKind.wrap .u64 (e3_*e2_)) (32:Int))))
 some ((IntKind.wrap .u64 ((IntKind.wrap .u64 ((IntKind.wrap .u64 ((AN .u64 a0 (32:Int))*(AN .u64 a1 (32:Int))))+(AN .u64 e1_ (32:Int))))+(AN .u64 (IntKind.wrap .u64 ((CK .u64 e1_ (4294967295:Int))+(IntKind.wrap .u64 (e3_*(AN .u64 a1 (32:Int)))))) (32:Int)))),(IntKind.wrap .u64 (a0*a1)),())
theorem aGZ (x:DenS EJ):run (cf [] []) 9 126 Tryz.f126 EJ EM x=X0 x.1 x.2.1:=by kernel_rfl
def Rj (x:DenS EJ):Option (DenS EM):=X0 x.1 x.2.1
def A9:Sum:=Al EJ EM Rj (DenS.dflt EM)
theorem Zd:Sound Tryz.prog G1 126 A9:=sd (cf [] []) 126 Tryz.f126 trivial trivial EJ EM Rj _ (fun _=>aGZ ..)
abbrev HA:=An EJ
abbrev HC:=Am EJ EM
variable (p315:HA) (f315:HC)
abbrev Km:Ac:=[(false,.int .u64),(false,.int .u64)]
abbrev Lf:Ac:=[(true,.pair (.int .u64) (.pair (.int .u64) (.unit)))]
def X1 (p315:HA) (f315:HC) (a0 a1:Aa (.int .u64)):Option (DenS Lf) :=
 bif (p315 (a0,a1,())) then (some ((f315 (a0,a1,())),()))
 else none
theorem aG0 (x:DenS Km):run (cf [(126,⟨EJ,EM,p315,f315⟩)] []) 9 67 Tryz.f67 Km Lf x=X1 p315 f315 x.1 x.2.1:=by kernel_rfl
def Rk (x:DenS Km):Option (DenS Lf):=X1 A9.pre A9.F x.1 x.2.1
def LY:Sum:=Al Km Lf Rk (DenS.dflt Lf)
theorem yS:Sound Tryz.prog G1 67 LY:=sd (cf [(126,A9)] []) 67 Tryz.f67 ⟨Zd,trivial⟩ trivial Km Lf Rk _ (fun _=>aG0 ..)
abbrev kL:=An Km
abbrev mC:=Am Km Lf
variable (p316:kL) (f316:mC)
abbrev Ks:Ac:=[(false,.int .i64),(false,.int .i64),(false,.int .u64),(false,.int .u64)]
abbrev Ll:Ac:=[(false,.int .u64),(false,.int .i64),(false,.int .i64)]
def X9 (p69:Dl) (f69:Dn) (p350:kN) (f350:mE) (p351:kO) (f351:mG) (p70:O4) (f70:Pg) (p352:kP) (f352:mH) (p97:NA) (f97:ND) (p353:kQ) (f353:mI) (p118:Jf) (f118:Jj) (p316:kL) (f316:mC) (p122:Sk) (f122:Ss) (a0 a1:Aa (.int .i64)) (a2 a3:Aa (.int .u64)):Option (DenS Ll) :=
 let e18_:=(!((f350 (a0,(f69 (a0,())).1,a2,())).1.2.1==(f350 (a0,(f69 (a0,())).1,a3,())).1.2.1))
 let e17_:=((f350 (a0,(f69 (a0,())).1,a2,())).1.2.2.1,(f350 (a0,(f69 (a0,())).1,a3,())).1.2.2.1,())
 let e1_:=(a0,a1,e18_,(f316 e17_).1,(IntKind.wrap .i64 ((f350 (a0,(f69 (a0,())).1,a2,())).1.2.2.2.1+(f350 (a0,(f69 (a0,())).1,a3,())).1.2.2.2.1)),false,())
 let e20_:=((f350 (a0,(f69 (a0,())).1,a2,())).1,())
 let e19_:=(f352 e20_)
 let e21_:=((f350 (a0,(f69 (a0,())).1,a3,())).1,())
 let e2_:=(e19_.1&&(f353 e21_).1)
 let e16_:=(a0,e18_,())
 let e3_:=(f118 e16_)
 let e4_:=(f97 e16_)
 let e5_:=e16_
 let e6_:=(f353 e20_)
 let e7_:=e19_
 let e8_:=(f351 e20_)
 let e9_:=(p352 e20_)
 let e10_:=(p353 e21_)
 let e11_:=(p353 e20_)
 let e12_:=(p352 e21_)
 let e13_:=(f352 e21_)
 let e14_:=e21_
 let e15_:=((f70 (a0,())).1,(1:Int),(f70 (a0,())).2)
 bif (p69 (a0,())) then (bif ((f69 (a0,())).2.1 != (0:Int)) then (some ((0:Int),(0:Int),(f69 (a0,())).2))
 else bif ((decide (a1<(0:Int)))||(decide (a1>(5:Int)))) then (some ((0:Int),(0:Int),(3:Int),()))
 else bif (p350 (a0,(f69 (a0,())).1,a2,())) then (bif ((f350 (a0,(f69 (a0,())).1,a2,())).2.1 != (0:Int)) then (some ((0:Int),(0:Int),(f350 (a0,(f69 (a0,())).1,a2,())).2))
 else bif (p350 (a0,(f69 (a0,())).1,a3,())) then (bif ((f350 (a0,(f69 (a0,())).1,a3,())).2.1 != (0:Int)) then (some ((0:Int),(0:Int),(f350 (a0,(f69 (a0,())).1,a3,())).2))
 else bif (p351 e20_) then (bif ((p351 e14_)||(!(bif e8_.1 then false else true))) then (bif (e8_.1||(f351 e14_).1) then (bif (((f350 (a0,(f69 (a0,())).1,a2,())).1.1==(0:Int))||((f350 (a0,(f69 (a0,())).1,a3,())).1.1==(0:Int))) then (bif (p70 (a0,())) then (some e15_)
 else none)
 else bif (p70 (a0,())) then (some ((f70 (a0,())).1,(0:Int),(f70 (a0,())).2))
 else none)
 else bif e9_ then (bif (e10_||(!e7_.1)) then (bif (e11_||(!(bif e2_ then false else true))) then (bif (e12_||(!((bif e2_ then false else true)&&e6_.1))) then (bif (e2_||(e6_.1&&e13_.1)) then (bif (p70 (a0,())) then (some e15_)
 else none)
 else bif e9_ then (bif (e12_||(!(bif e7_.1 then false else true))) then (bif (e7_.1||e13_.1) then (bif (p97 e5_) then (some (e4_.1,(0:Int),e4_.2))
 else none)
 else bif e11_ then (bif (e10_||(!(bif e6_.1 then false else true))) then (bif (e6_.1||(f353 e14_).1) then (bif (p118 e5_) then (some (e3_.1,(0:Int),e3_.2))
 else none)
 else bif (p316 e17_) then (bif (p122 e1_) then (some (f122 e1_))
 else none)
 else none)
 else none)
 else none)
 else none)
 else none)
 else none)
 else none)
 else none)
 else none)
 else none)
 else none)
 else none)
 else none)
 else none
theorem aHd (x:DenS Ks):run (cf [(54,⟨CY,CZ,p69,f69⟩),(61,⟨Ko,Lh,p350,f350⟩),(62,⟨Kp,Li,p351,f351⟩),(56,⟨FQ,F3,p70,f70⟩),(63,⟨Kq,Lj,p352,f352⟩),(65,⟨FR,F4,p97,f97⟩),(64,⟨Kr,Lk,p353,f353⟩),(38,⟨Eh,EK,p118,f118⟩),(67,⟨Km,Lf,p316,f316⟩),(66,⟨FJ,G8,p122,f122⟩)] []) 9 17 Tryz.f17 Ks Ll x=X9 p69 f69 p350 f350 p351 f351 p70 f70 p352 f352 p97 f97 p353 f353 p118 f118 p316 f316 p122 f122 x.1 x.2.1 x.2.2.1 x.2.2.2.1:=by kernel_rfl
def Rv (x:DenS Ks):Option (DenS Ll):=X9 AE.pre AE.F L3.pre L3.F L4.pre L4.F CJ.pre CJ.F L5.pre L5.F Cy.pre Cy.F L6.pre L6.F Bm.pre Bm.F LY.pre LY.F CU.pre CU.F x.1 x.2.1 x.2.2.1 x.2.2.2.1
def L7:Sum:=Al Ks Ll Rv (DenS.dflt Ll)
theorem zD:Sound Tryz.prog G1 17 L7:=sd (cf [(54,AE),(61,L3),(62,L4),(56,CJ),(63,L5),(65,Cy),(64,L6),(38,Bm),(67,LY),(66,CU)] []) 17 Tryz.f17 ⟨Ht,yZ,zA,UO,zB,UR,zC,QQ,yS,iC,trivial⟩ trivial Ks Ll Rv _ (fun _=>aHd ..)
abbrev ZA:=An Ks
abbrev ZX:=Am Ks Ll
variable (p354:ZA) (f354:ZX)
abbrev Kt:Ac:=[(false,.int .i64),(false,.int .i64),(false,.slice (.int .u64))]
abbrev Lm:Ac:=[(false,.int .i64)]
abbrev Gk:Pat:=⟨39,[(27,.one (.v .i64)),(26,.one (.sl (.int .u64))),(0,.one (.v .i64)),(28,.one (.v .i64))],[]⟩
abbrev Ux:List (Nat×Shape):=[]
abbrev Jc:List (Nat×Pat):=[(0,⟨39,[],[]⟩)]
abbrev IP:Option Pat:=(some ⟨39,[(6,.one (.v .i64))],[]⟩)
variable (w376_7:Pat.D Gk->Option (Ak Jc IP))
def PW (p69:Dl) (f69:Dn) (p66:Dk) (f66:Dm) {R:Type} (L:Pat.D Gk->Option R) (e:Ak Jc IP->Option R) (x:Pat.D Gk):Option R :=
 let e2_:=(x.1.2.2.1,(x.1.2.1.getD (Int.toNat x.1.2.2.2.1) (0:Int)),())
 let e1_:=(f66 e2_)
 bif (decide (x.1.2.2.2.1<x.1.1)) then (bif ((decide ((0:Int)<=x.1.2.2.2.1))&&(decide (x.1.2.2.2.1<(x.1.2.1.length:Int)))) then (bif (p66 e2_) then (bif (e1_.1 != (0:Int)) then (((e (.inr (e1_,())))))
 else (L ((x.1.1,x.1.2.1,x.1.2.2.1,(IntKind.wrap .i64 (x.1.2.2.2.1+(1:Int))),()),())))
 else none)
 else none)
 else (e (.inl ((),())))
theorem aID (d:Nat) (R:Type) (L:Pat.D Gk->Option R) (e:Ak Jc IP->Option R) (x:Pat.D Gk) :
  B7 (cf [(54,⟨CY,CZ,p69,f69⟩),(59,⟨C3,C4,p66,f66⟩)] [(68,7,LoopSpec.of Gk Ux Jc IP w376_7)]) (d+2) 68 (BR Tryz.f68 7) Gk Ux Jc IP (R:=R) L e x=PW p69 f69 p66 f66 L e x:=by kernel_rfl
theorem sT (p69:Dl) (f69:Dn) (p66:Dk) (f66:Dm):BG fun L e x=>PW p69 f69 p66 f66 L e x:=by intro _ _ _ _ _ _ _ h0 hL he _; unfold PW; repeat' (first | exact h0 | exact hL _ | exact he _ | apply Cu | (apply Cv h0; intro _) | (apply Cw <;> intro _))
def Ya (p69:Dl) (f69:Dn) (p66:Dk) (f66:Dm) (w376_7:Pat.D Gk->Option (Ak Jc IP)) (a0 a1:Aa (.int .i64)) (a2:Aa (.slice (.int .u64))):Option (DenS Lm) :=
 bif (p69 (a0,())) then (bif ((f69 (a0,())).2.1 != (0:Int)) then (some (f69 (a0,())).2)
 else bif ((decide (a1<(0:Int)))||(decide (a1>(5:Int)))) then (some ((3:Int),()))
 else Vx.Bh (w376_7 (((a2.length:Int),a2,a0,(0:Int),()),())) fun y3 =>
 Vx.Bi y3 (fun y4 =>
 some ((0:Int),())) (fun z4 =>
 some z4.1))
 else none
theorem aHe (x:DenS Kt):run (cf [(54,⟨CY,CZ,p69,f69⟩),(59,⟨C3,C4,p66,f66⟩)] [(68,7,LoopSpec.of Gk Ux Jc IP w376_7)]) 9 68 Tryz.f68 Kt Lm x=Ya p69 f69 p66 f66 w376_7 x.1 x.2.1 x.2.2.1:=by kernel_rfl
def Vd:Gk.D->Option (Ak Jc IP):=Bo fun L=>PW AE.pre AE.F Aw.pre Aw.F L some
def ON (x:DenS Kt):Option (DenS Lm):=Ya AE.pre AE.F Aw.pre Aw.F Vd x.1 x.2.1 x.2.2.1
def L8:Sum:=Al Kt Lm ON (DenS.dflt Lm)
theorem zE:Sound Tryz.prog G1 68 L8:=sd (cf [(54,AE),(59,Aw)] [(68,7,LoopSpec.of Gk Ux Jc IP Vd)]) 68 Tryz.f68 ⟨Ht,Mv,trivial⟩ ⟨rfl,fun d=>Ct (fun L e x=>PW AE.pre AE.F Aw.pre Aw.F L e x) (sT AE.pre AE.F Aw.pre Aw.F) (fun _ _ _ _=>aID ..),trivial⟩ Kt Lm ON _ (fun _=>aHe ..)
abbrev ZB:=An Kt
abbrev ZY:=Am Kt Lm
variable (p376:ZB) (f376:ZY)
abbrev Ku:Ac:=[(false,.int .i64),(false,.int .u64)]
abbrev Ln:Ac:=[(true,.pair (.bool) (.pair (.bool) (.pair (.bool) (.pair (.bool) (.pair (.bool) (.unit))))))]
def Yb (p65:O3) (f65:Pf) (p98:O5) (f98:Ph) (a0:Aa (.int .i64)) (a1:Aa (.int .u64)):Option (DenS Ln) :=
 bif (p65 (a0,a1,())) then (bif (p98 (a0,a1,())) then (some (((((f65 (a0,a1,())).1==(1:Int))||((f65 (a0,a1,())).1==(0:Int))),((f65 (a0,a1,())).1==(0:Int)),(((f65 (a0,a1,())).1==(9:Int))||((f65 (a0,a1,())).1==(2:Int))),(((f65 (a0,a1,())).1==(6:Int))||((f65 (a0,a1,())).1==(5:Int))),(f98 (a0,a1,())).1,()),()))
 else none)
 else none
theorem aHf (x:DenS Ku):run (cf [(55,⟨FO,F2,p65,f65⟩),(119,⟨FS,F5,p98,f98⟩)] []) 9 69 Tryz.f69 Ku Ln x=Yb p65 f65 p98 f98 x.1 x.2.1:=by kernel_rfl
def Rw (x:DenS Ku):Option (DenS Ln):=Yb Cx.pre Cx.F Cz.pre Cz.F x.1 x.2.1
def L9:Sum:=Al Ku Ln Rw (DenS.dflt Ln)
theorem zF:Sound Tryz.prog G1 69 L9:=sd (cf [(55,Cx),(119,Cz)] []) 69 Tryz.f69 ⟨UN,US,trivial⟩ trivial Ku Ln Rw _ (fun _=>aHf ..)
abbrev ZC:=An Ku
abbrev ZZ:=Am Ku Ln
variable (p377:ZC) (f377:ZZ)
abbrev Kv:Ac:=[(false,.int .i64),(false,.int .i64)]
abbrev Lo:Ac:=[(false,.int .u64),(false,.int .i64),(false,.int .i64)]
def Yc (p70:O4) (f70:Pg) (a0 a1:Aa (.int .i64)):Option (DenS Lo) :=
 bif (p70 (a0,())) then (some ((f70 (a0,())).1,a1,(f70 (a0,())).2))
 else none
theorem aHg (x:DenS Kv):run (cf [(56,⟨FQ,F3,p70,f70⟩)] []) 9 70 Tryz.f70 Kv Lo x=Yc p70 f70 x.1 x.2.1:=by kernel_rfl
def Rx (x:DenS Kv):Option (DenS Lo):=Yc CJ.pre CJ.F x.1 x.2.1
def Ma:Sum:=Al Kv Lo Rx (DenS.dflt Lo)
theorem zG:Sound Tryz.prog G1 70 Ma:=sd (cf [(56,CJ)] []) 70 Tryz.f70 ⟨UO,trivial⟩ trivial Kv Lo Rx _ (fun _=>aHg ..)
abbrev ZD:=An Kv
abbrev Z0:=Am Kv Lo
variable (p378:ZD) (f378:Z0)
abbrev GO:Ac:=[(false,.slice (.int .u64))]
abbrev G6:Ac:=[(true,.slice (.int .u64))]
def Xs (p173:A2) (f173:A3) (a0:Aa (.slice (.int .u64))):Option (DenS G6) :=
 let e1_:=(List.replicate (Int.toNat ((f173 (a0,())).1.length:Int)) (0:Int))
 bif (p173 (a0,())) then (bif ((decide ((0:Int)<=((f173 (a0,())).1.length:Int)))&&(decide ((((f173 (a0,())).1.length:Int)*(8:Int))<=(140737488355328:Int)))) then (some ((((f173 (a0,())).1.take e1_.length)++(e1_.drop (f173 (a0,())).1.length)),()))
 else none)
 else none
theorem aGk (x:DenS GO):run ({ cf [(169,⟨Bk,Bl,p173,f173⟩)] [] with keep:=true }) 9 168 Tryz.f168 GO G6 x=Xs p173 f173 x.1:=by kernel_rfl
def No (x:DenS GO):Option (DenS G6):=Xs Ah.pre Ah.F x.1
def CT:Sum:=Al GO G6 No (DenS.dflt G6)
theorem iA:Sound Tryz.prog G1 168 CT:=sd ({ cf [(169,Ah)] [] with keep:=true }) 168 Tryz.f168 ⟨Dy,trivial⟩ trivial GO G6 No _ (fun _=>aGk ..)
abbrev OW:=An GO
abbrev O8:=Am GO G6
variable (p1146:OW) (f1146:O8)
abbrev Fc:Ac:=[(false,.int .u64)]
abbrev Fk:Ac:=[(false,.int .i64)]
def X2 (p178:Vl) (f178:Vs) (a0:Aa (.int .u64)):Option (DenS Fk) :=
 bif (p178 (a0,())) then (some ((IntKind.wrap .i64 ((64:Int)-(f178 (a0,())).1)),()))
 else none
theorem aG1 (x:DenS Fc):run (cf [(83,⟨H5,Hb,p178,f178⟩)] []) 9 304 Tryz.f304 Fc Fk x=X2 p178 f178 x.1:=by kernel_rfl
def Rl (x:DenS Fc):Option (DenS Fk):=X2 EU.pre EU.F x.1
def Bg:Sum:=Al Fc Fk Rl (DenS.dflt Fk)
theorem iM:Sound Tryz.prog G1 304 Bg:=sd (cf [(83,EU)] []) 304 Tryz.f304 ⟨iI,trivial⟩ trivial Fc Fk Rl _ (fun _=>aG1 ..)
abbrev HB:=An Fc
abbrev HD:=Am Fc Fk
variable (p327:HB) (f327:HD)
abbrev Ei:Ac:=[(false,.int .u64),(false,.int .u64),(false,.int .u64)]
abbrev Em:Ac:=[(false,.int .u64),(false,.int .u64)]
abbrev Fp:Pat:=⟨135,[(16,.one (.v .u64)),(11,.one (.v .u64)),(13,.one (.v .u64)),(10,.one (.v .u64)),(9,.one (.v .u64)),(15,.one (.v .u64)),(14,.one (.v .u64)),(2,.one (.v .u64)),(8,.one (.v .u64))],[]⟩
abbrev QE:List (Nat×Shape):=[]
abbrev Hu:List (Nat×Pat):=[(0,⟨135,[(11,.one (.v .u64)),(13,.one (.v .u64)),(10,.one (.v .u64)),(9,.one (.v .u64)),(15,.one (.v .u64)),(14,.one (.v .u64)),(2,.one (.v .u64)),(8,.one (.v .u64))],[]⟩)]
abbrev Hj:Option Pat:=none
abbrev Fq:Pat:=⟨135,[(10,.one (.v .u64)),(16,.one (.v .u64)),(9,.one (.v .u64)),(15,.one (.v .u64)),(17,.one (.v .u64)),(14,.one (.v .u64)),(18,.one (.v .u64)),(2,.one (.v .u64)),(8,.one (.v .u64))],[]⟩
abbrev QF:List (Nat×Shape):=[]
abbrev Hv:List (Nat×Pat):=[(2,⟨135,[(15,.one (.v .u64)),(17,.one (.v .u64)),(14,.one (.v .u64)),(18,.one (.v .u64)),(2,.one (.v .u64)),(8,.one (.v .u64))],[]⟩)]
abbrev Hk:Option Pat:=none
variable (w328_17:Pat.D Fp->Option (Ak Hu Hj)) (w328_24:Pat.D Fq->Option (Ak Hv Hk))
def PP (p327:HB) (f327:HD) {R:Type} (L:Pat.D Fq->Option R) (e:Ak Hv Hk->Option R) (x:Pat.D Fq):Option R :=
 let e1_:=(x.1.2.2.2.1,x.1.2.2.2.2.1,x.1.2.2.2.2.2.1,(IntKind.wrap .u64 (x.1.2.2.2.2.2.2.1-(1:Int))),x.1.2.2.2.2.2.2.2)
 let e2_:=(IntKind.wrap .u64 (x.1.2.1+x.1.2.2.1))
 bif ((decide (x.1.2.2.2.2.2.2.1>=(4294967296:Int)))||(decide ((IntKind.wrap .u64 (x.1.2.2.2.2.2.2.1*x.1.1))>(IntKind.wrap .u64 ((IntKind.wrap .u64 ((4294967296:Int)*x.1.2.1))+x.1.2.2.2.2.2.1))))) then (bif (decide (e2_>=(4294967296:Int))) then (((e (.inl (e1_,())))))
 else (L ((x.1.1,e2_,x.1.2.2.1,e1_),())))
 else (e (.inl (x.1.2.2.2,())))
theorem aIw (d:Nat) (R:Type) (L:Pat.D Fq->Option R) (e:Ak Hv Hk->Option R) (x:Pat.D Fq) :
  B7 (cf [(304,⟨Fc,Fk,p327,f327⟩)] [(264,17,LoopSpec.of Fp QE Hu Hj w328_17),(264,24,LoopSpec.of Fq QF Hv Hk w328_24)]) (d+2) 264 (BR Tryz.f264 24) Fq QF Hv Hk (R:=R) L e x=PP p327 f327 L e x:=by kernel_rfl
theorem sN (p327:HB) (f327:HD):BG fun L e x=>PP p327 f327 L e x:=by intro _ _ _ _ _ _ _ h0 hL he _; unfold PP; repeat' (first | exact h0 | exact hL _ | exact he _ | apply Cu | (apply Cv h0; intro _) | (apply Cw <;> intro _))
def PO (p327:HB) (f327:HD) {R:Type} (L:Pat.D Fp->Option R) (e:Ak Hu Hj->Option R) (x:Pat.D Fp):Option R :=
 let e1_:=(x.1.2.1,x.1.2.2.1,x.1.2.2.2.1,x.1.2.2.2.2.1,(IntKind.wrap .u64 (x.1.2.2.2.2.2.1-(1:Int))),x.1.2.2.2.2.2.2)
 let e2_:=(IntKind.wrap .u64 (x.1.1+x.1.2.2.2.2.1))
 bif ((decide (x.1.2.2.2.2.2.1>=(4294967296:Int)))||(decide ((IntKind.wrap .u64 (x.1.2.2.2.2.2.1*x.1.2.2.2.1))>(IntKind.wrap .u64 ((IntKind.wrap .u64 ((4294967296:Int)*x.1.1))+x.1.2.2.1))))) then (bif (decide (e2_>=(4294967296:Int))) then (((e (.inl (e1_,())))))
 else (L ((e2_,e1_),())))
 else (e (.inl (x.1.2,())))
theorem aIv (d:Nat) (R:Type) (L:Pat.D Fp->Option R) (e:Ak Hu Hj->Option R) (x:Pat.D Fp) :
  B7 (cf [(304,⟨Fc,Fk,p327,f327⟩)] [(264,17,LoopSpec.of Fp QE Hu Hj w328_17),(264,24,LoopSpec.of Fq QF Hv Hk w328_24)]) (d+2) 264 (BR Tryz.f264 17) Fp QE Hu Hj (R:=R) L e x=PO p327 f327 L e x:=by kernel_rfl
theorem sM (p327:HB) (f327:HD):BG fun L e x=>PO p327 f327 L e x:=by intro _ _ _ _ _ _ _ h0 hL he _; unfold PO; repeat' (first | exact h0 | exact hL _ | exact he _ | apply Cu | (apply Cv h0; intro _) | (apply Cw <;> intro _))
def X3 (p327:HB) (f327:HD) (w328_17:Pat.D Fp->Option (Ak Hu Hj)) (w328_24:Pat.D Fq->Option (Ak Hv Hk)) (a0 a1 a2:Aa (.int .u64)):Option (DenS Em) :=
 let e9_:=(IntKind.wrap .u64 (f327 (a2,())).1)
 let e6_:=(Bz .u64 (Bp .u64 a0 e9_) (AN .u64 a1 (IntKind.wrap .u64 ((64:Int)-e9_))))
 let e8_:=(Bp .u64 a2 e9_)
 let e7_:=(AN .u64 e8_ (32:Int))
 let e1_:=(Cm .u64 e6_ e7_)
 let e2_:=e6_
 let e3_:=e7_
 let e4_:=(Bp .u64 a1 e9_)
 let e5_:=e8_
 bif (a2==(0:Int)) then ((none))
 else bif (decide (a2<=a0)) then ((none))
 else bif (a0==(0:Int)) then (bif (a2 != (0:Int)) then (bif (a2 != (0:Int)) then (some ((Cm .u64 a1 a2),(Int.tmod a1 a2),()))
 else none)
 else none)
 else bif (p327 (a2,())) then (bif (e3_ != (0:Int)) then (Vx.Bh (w328_17 (((IntKind.wrap .u64 (e2_-(IntKind.wrap .u64 (e1_*e3_)))),e2_,(AN .u64 e4_ (32:Int)),(CK .u64 e5_ (4294967295:Int)),e3_,e1_,(CK .u64 e4_ (4294967295:Int)),e5_,e9_,()),())) fun y5 =>
 Vx.Bi y5 (fun y6 =>
 bif (y6.1.2.2.2.1 != (0:Int)) then (Vx.Bh (w328_24 ((y6.1.2.2.1,(IntKind.wrap .u64 ((IntKind.wrap .u64 ((IntKind.wrap .u64 ((IntKind.wrap .u64 (y6.1.1*(4294967296:Int)))+y6.1.2.1))-(IntKind.wrap .u64 (y6.1.2.2.2.2.1*y6.1.2.2.2.2.2.2.1))))-(IntKind.wrap .u64 ((Cm .u64 (IntKind.wrap .u64 ((IntKind.wrap .u64 ((IntKind.wrap .u64 (y6.1.1*(4294967296:Int)))+y6.1.2.1))-(IntKind.wrap .u64 (y6.1.2.2.2.2.1*y6.1.2.2.2.2.2.2.1)))) y6.1.2.2.2.1)*y6.1.2.2.2.1)))),y6.1.2.2.2.1,y6.1.2.2.2.2.1,(IntKind.wrap .u64 ((IntKind.wrap .u64 ((IntKind.wrap .u64 (y6.1.1*(4294967296:Int)))+y6.1.2.1))-(IntKind.wrap .u64 (y6.1.2.2.2.2.1*y6.1.2.2.2.2.2.2.1)))),y6.1.2.2.2.2.2.1,(Cm .u64 (IntKind.wrap .u64 ((IntKind.wrap .u64 ((IntKind.wrap .u64 (y6.1.1*(4294967296:Int)))+y6.1.2.1))-(IntKind.wrap .u64 (y6.1.2.2.2.2.1*y6.1.2.2.2.2.2.2.1)))) y6.1.2.2.2.1),y6.1.2.2.2.2.2.2),())) fun y8 =>
 Vx.Bi y8 (fun y9 =>
 some ((IntKind.wrap .u64 ((IntKind.wrap .u64 (y9.1.1*(4294967296:Int)))+y9.1.2.2.2.1)),(AN .u64 (IntKind.wrap .u64 ((IntKind.wrap .u64 ((IntKind.wrap .u64 (y9.1.2.1*(4294967296:Int)))+y9.1.2.2.1))-(IntKind.wrap .u64 (y9.1.2.2.2.1*y9.1.2.2.2.2.1)))) y9.1.2.2.2.2.2.1),())) (fun z9 =>
 none))
 else none) (fun z6 =>
 none))
 else none)
 else none
theorem aG2 (x:DenS Ei):run (cf [(304,⟨Fc,Fk,p327,f327⟩)] [(264,17,LoopSpec.of Fp QE Hu Hj w328_17),(264,24,LoopSpec.of Fq QF Hv Hk w328_24)]) 9 264 Tryz.f264 Ei Em x=X3 p327 f327 w328_17 w328_24 x.1 x.2.1 x.2.2.1:=by kernel_rfl
def U9:Fq.D->Option (Ak Hv Hk):=Bo fun L=>PP Bg.pre Bg.F L some
def U8:Fp.D->Option (Ak Hu Hj):=Bo fun L=>PO Bg.pre Bg.F L some
def Rm (x:DenS Ei):Option (DenS Em):=X3 Bg.pre Bg.F U8 U9 x.1 x.2.1 x.2.2.1
def AV:Sum:=Al Ei Em Rm (DenS.dflt Em)
theorem Ze:Sound Tryz.prog G1 264 AV:=sd (cf [(304,Bg)] [(264,17,LoopSpec.of Fp QE Hu Hj U8),(264,24,LoopSpec.of Fq QF Hv Hk U9)]) 264 Tryz.f264 ⟨iM,trivial⟩ ⟨rfl,fun d=>Ct (fun L e x=>PO Bg.pre Bg.F L e x) (sM Bg.pre Bg.F) (fun _ _ _ _=>aIv ..),⟨rfl,fun d=>Ct (fun L e x=>PP Bg.pre Bg.F L e x) (sN Bg.pre Bg.F) (fun _ _ _ _=>aIw ..),trivial⟩⟩ Ei Em Rm _ (fun _=>aG2 ..)
abbrev Ft:=An Ei
abbrev Fu:=Am Ei Em
variable (p328:Ft) (f328:Fu)
abbrev H0:Ac:=[(true,.slice (.int .u64)),(false,.int .u64)]
abbrev Ik:Ac:=[(false,.slice (.int .u64)),(false,.int .u64)]
abbrev EO:Pat:=⟨31,[(1,.one (.v .u64)),(7,.one (.v .i64)),(0,.one (.own 0)),(6,.one (.v .u64))],[.arr (.int .u64)]⟩
abbrev Uk:List (Nat×Shape):=[]
abbrev IZ:List (Nat×Pat):=[(0,⟨31,[(0,.one (.own 0)),(6,.one (.v .u64))],[.arr (.int .u64)]⟩)]
abbrev IC:Option Pat:=none
variable (w1329_3:Pat.D EO->Option (Ak IZ IC))
def PG (p328:Ft) (f328:Fu) (p173:A2) (f173:A3) {R:Type} (L:Pat.D EO->Option R) (e:Ak IZ IC->Option R) (x:Pat.D EO):Option R :=
 let e3_:=(x.1.2.2.2.1,(x.2.1.getD (Int.toNat x.1.2.1) (0:Int)),x.1.1,())
 let e1_:=(f328 e3_)
 let e2_:=((decide ((0:Int)<=x.1.2.1))&&(decide (x.1.2.1<(x.2.1.length:Int))))
 bif (decide (x.1.2.1>=(0:Int))) then (bif e2_ then (bif (p328 e3_) then (bif e2_ then (((L ((x.1.1,(IntKind.wrap .i64 (x.1.2.1-(1:Int))),(),e1_.2),(x.2.1.set (Int.toNat x.1.2.1) e1_.1),()))))
 else none)
 else none)
 else none)
 else (e (.inl (((),x.1.2.2.2),x.2)))
theorem aIm (d:Nat) (R:Type) (L:Pat.D EO->Option R) (e:Ak IZ IC->Option R) (x:Pat.D EO) :
  B7 ({ cf [(264,⟨Ei,Em,p328,f328⟩),(169,⟨Bk,Bl,p173,f173⟩)] [(303,3,LoopSpec.of EO Uk IZ IC w1329_3)] with keep:=true }) (d+2) 303 (BR Tryz.f303 3) EO Uk IZ IC (R:=R) L e x=PG p328 f328 p173 f173 L e x:=by kernel_rfl
theorem sD (p328:Ft) (f328:Fu) (p173:A2) (f173:A3):BG fun L e x=>PG p328 f328 p173 f173 L e x:=by intro _ _ _ _ _ _ _ h0 hL he _; unfold PG; repeat' (first | exact h0 | exact hL _ | exact he _ | apply Cu | (apply Cv h0; intro _) | (apply Cw <;> intro _))
def XC (p328:Ft) (f328:Fu) (p173:A2) (f173:A3) (w1329_3:Pat.D EO->Option (Ak IZ IC)) (a0:Aa (.slice (.int .u64))) (a1:Aa (.int .u64)):Option (DenS Ik) :=
 Vx.Bh (w1329_3 ((a1,(IntKind.wrap .i64 ((a0.length:Int)-(1:Int))),(),(0:Int),()),a0,())) fun y0 =>
 Vx.Bi y0 (fun y1 =>
 bif (p173 y1.2) then (some ((f173 y1.2).1,y1.1.2))
 else none) (fun z1 =>
 none)
theorem aGy (x:DenS H0):run ({ cf [(264,⟨Ei,Em,p328,f328⟩),(169,⟨Bk,Bl,p173,f173⟩)] [(303,3,LoopSpec.of EO Uk IZ IC w1329_3)] with keep:=true }) 9 303 Tryz.f303 H0 Ik x=XC p328 f328 p173 f173 w1329_3 x.1 x.2.1:=by kernel_rfl
def Sd:EO.D->Option (Ak IZ IC):=Bo fun L=>PG AV.pre AV.F Ah.pre Ah.F L some
def Q6 (x:DenS H0):Option (DenS Ik):=XC AV.pre AV.F Ah.pre Ah.F Sd x.1 x.2.1
def DT:Sum:=Al H0 Ik Q6 (DenS.dflt Ik)
theorem yD:Sound Tryz.prog G1 303 DT:=sd ({ cf [(264,AV),(169,Ah)] [(303,3,LoopSpec.of EO Uk IZ IC Sd)] with keep:=true }) 303 Tryz.f303 ⟨Ze,Dy,trivial⟩ ⟨rfl,fun d=>Ct (fun L e x=>PG AV.pre AV.F Ah.pre Ah.F L e x) (sD AV.pre AV.F Ah.pre Ah.F) (fun _ _ _ _=>aIm ..),trivial⟩ H0 Ik Q6 _ (fun _=>aGy ..)
abbrev Sl:=An H0
abbrev Su:=Am H0 Ik
variable (p1329:Sl) (f1329:Su)
abbrev Fa:Ac:=[(false,.slice (.int .u64)),(false,.slice (.int .u64))]
abbrev Fj:Ac:=[(false,.int .i64)]
abbrev Ga:Pat:=⟨49,[(0,.one (.sl (.int .u64))),(1,.one (.sl (.int .u64))),(5,.one (.v .i64))],[]⟩
abbrev Um:List (Nat×Shape):=[]
abbrev I1:List (Nat×Pat):=[(1,⟨49,[],[]⟩)]
abbrev IE:Option Pat:=(some ⟨49,[(4,.one (.v .i64))],[]⟩)
variable (w144_7:Pat.D Ga->Option (Ak I1 IE))
def PI (p173:A2) (f173:A3) {R:Type} (L:Pat.D Ga->Option R) (e:Ak I1 IE->Option R) (x:Pat.D Ga):Option R :=
 let e1_:=((decide ((0:Int)<=x.1.2.2.1))&&(decide (x.1.2.2.1<(x.1.2.1.length:Int))))
 let e2_:=((decide ((0:Int)<=x.1.2.2.1))&&(decide (x.1.2.2.1<(x.1.1.length:Int))))
 let e3_:=(x.1.2.1.getD (Int.toNat x.1.2.2.1) (0:Int))
 bif (decide (x.1.2.2.1>=(0:Int))) then (bif e2_ then (bif e1_ then (bif (decide ((x.1.1.getD (Int.toNat x.1.2.2.1) (0:Int))<e3_)) then (((e (.inr (((-(1:Int)),()),())))))
 else bif e2_ then (bif e1_ then (bif (decide ((x.1.1.getD (Int.toNat x.1.2.2.1) (0:Int))>e3_)) then (((e (.inr (((1:Int),()),())))))
 else (L ((x.1.1,x.1.2.1,(IntKind.wrap .i64 (x.1.2.2.1-(1:Int))),()),())))
 else none)
 else none)
 else none)
 else none)
 else (e (.inl ((),())))
theorem aIo (d:Nat) (R:Type) (L:Pat.D Ga->Option R) (e:Ak I1 IE->Option R) (x:Pat.D Ga) :
  B7 (cf [(169,⟨Bk,Bl,p173,f173⟩)] [(177,7,LoopSpec.of Ga Um I1 IE w144_7)]) (d+2) 177 (BR Tryz.f177 7) Ga Um I1 IE (R:=R) L e x=PI p173 f173 L e x:=by kernel_rfl
theorem sG (p173:A2) (f173:A3):BG fun L e x=>PI p173 f173 L e x:=by intro _ _ _ _ _ _ _ h0 hL he _; unfold PI; repeat' (first | exact h0 | exact hL _ | exact he _ | apply Cu | (apply Cv h0; intro _) | (apply Cw <;> intro _))
def XF (p173:A2) (f173:A3) (w144_7:Pat.D Ga->Option (Ak I1 IE)) (a0 a1:Aa (.slice (.int .u64))):Option (DenS Fj) :=
 bif (p173 (a0,())) then (bif (p173 (a1,())) then (bif (decide (((f173 (a0,())).1.length:Int)<((f173 (a1,())).1.length:Int))) then (some ((-(1:Int)),()))
 else bif (decide (((f173 (a0,())).1.length:Int)>((f173 (a1,())).1.length:Int))) then (some ((1:Int),()))
 else Vx.Bh (w144_7 (((f173 (a0,())).1,(f173 (a1,())).1,(IntKind.wrap .i64 (((f173 (a0,())).1.length:Int)-(1:Int))),()),())) fun y4 =>
 Vx.Bi y4 (fun y5 =>
 some ((0:Int),())) (fun z5 =>
 some z5.1))
 else none)
 else none
theorem aGC (x:DenS Fa):run (cf [(169,⟨Bk,Bl,p173,f173⟩)] [(177,7,LoopSpec.of Ga Um I1 IE w144_7)]) 9 177 Tryz.f177 Fa Fj x=XF p173 f173 w144_7 x.1 x.2.1:=by kernel_rfl
def U2:Ga.D->Option (Ak I1 IE):=Bo fun L=>PI Ah.pre Ah.F L some
def Q7 (x:DenS Fa):Option (DenS Fj):=XF Ah.pre Ah.F U2 x.1 x.2.1
def Bt:Sum:=Al Fa Fj Q7 (DenS.dflt Fj)
theorem Y9:Sound Tryz.prog G1 177 Bt:=sd (cf [(169,Ah)] [(177,7,LoopSpec.of Ga Um I1 IE U2)]) 177 Tryz.f177 ⟨Dy,trivial⟩ ⟨rfl,fun d=>Ct (fun L e x=>PI Ah.pre Ah.F L e x) (sG Ah.pre Ah.F) (fun _ _ _ _=>aIo ..),trivial⟩ Fa Fj Q7 _ (fun _=>aGC ..)
abbrev Jg:=An Fa
abbrev Jk:=Am Fa Fj
variable (p144:Jg) (f144:Jk)
abbrev H7:Ac:=[(false,.slice (.int .u64)),(false,.int .u64)]
abbrev Ip:Ac:=[(false,.slice (.int .u64)),(false,.int .u64)]
abbrev Gh:Pat:=⟨31,[(1,.one (.v .u64)),(7,.one (.v .i64)),(0,.one (.sl (.int .u64))),(6,.one (.v .u64))],[]⟩
abbrev Ut:List (Nat×Shape):=[]
abbrev I8:List (Nat×Pat):=[(0,⟨31,[(0,.one (.sl (.int .u64))),(6,.one (.v .u64))],[]⟩)]
abbrev IL:Option Pat:=none
variable (w329_3:Pat.D Gh->Option (Ak I8 IL))
def Tk (p328:Ft) (f328:Fu) (p173:A2) (f173:A3) {R:Type} (L:Pat.D Gh->Option R) (e:Ak I8 IL->Option R) (x:Pat.D Gh):Option R :=
 let e1_:=((decide ((0:Int)<=x.1.2.1))&&(decide (x.1.2.1<(x.1.2.2.1.length:Int))))
 bif (decide (x.1.2.1>=(0:Int))) then (bif e1_ then (bif (p328 (x.1.2.2.2.1,(x.1.2.2.1.getD (Int.toNat x.1.2.1) (0:Int)),x.1.1,())) then (bif e1_ then ((none))
 else none)
 else none)
 else none)
 else (e (.inl (x.1.2.2,())))
theorem aIx (d:Nat) (R:Type) (L:Pat.D Gh->Option R) (e:Ak I8 IL->Option R) (x:Pat.D Gh) :
  B7 (cf [(264,⟨Ei,Em,p328,f328⟩),(169,⟨Bk,Bl,p173,f173⟩)] [(303,3,LoopSpec.of Gh Ut I8 IL w329_3)]) (d+2) 303 (BR Tryz.f303 3) Gh Ut I8 IL (R:=R) L e x=Tk p328 f328 p173 f173 L e x:=by kernel_rfl
theorem aD7 (p328:Ft) (f328:Fu) (p173:A2) (f173:A3):BG fun L e x=>Tk p328 f328 p173 f173 L e x:=by intro _ _ _ _ _ _ _ h0 hL he _; unfold Tk; repeat' (first | exact h0 | exact hL _ | exact he _ | apply Cu | (apply Cv h0; intro _) | (apply Cw <;> intro _))
def wR (p328:Ft) (f328:Fu) (p173:A2) (f173:A3) (w329_3:Pat.D Gh->Option (Ak I8 IL)) (a0:Aa (.slice (.int .u64))) (a1:Aa (.int .u64)):Option (DenS Ip) :=
 Vx.Bh (w329_3 ((a1,(IntKind.wrap .i64 ((a0.length:Int)-(1:Int))),a0,(0:Int),()),())) fun y0 =>
 Vx.Bi y0 (fun y1 =>
 bif (p173 (y1.1.1,())) then (some ((f173 (y1.1.1,())).1,y1.1.2))
 else none) (fun z1 =>
 none)
theorem aG3 (x:DenS H7):run (cf [(264,⟨Ei,Em,p328,f328⟩),(169,⟨Bk,Bl,p173,f173⟩)] [(303,3,LoopSpec.of Gh Ut I8 IL w329_3)]) 9 303 Tryz.f303 H7 Ip x=wR p328 f328 p173 f173 w329_3 x.1 x.2.1:=by kernel_rfl
def jT:Gh.D->Option (Ak I8 IL):=Bo fun L=>Tk AV.pre AV.F Ah.pre Ah.F L some
def jG (x:DenS H7):Option (DenS Ip):=wR AV.pre AV.F Ah.pre Ah.F jT x.1 x.2.1
def Eo:Sum:=Al H7 Ip jG (DenS.dflt Ip)
theorem yT:Sound Tryz.prog G1 303 Eo:=sd (cf [(264,AV),(169,Ah)] [(303,3,LoopSpec.of Gh Ut I8 IL jT)]) 303 Tryz.f303 ⟨Ze,Dy,trivial⟩ ⟨rfl,fun d=>Ct (fun L e x=>Tk AV.pre AV.F Ah.pre Ah.F L e x) (aD7 AV.pre AV.F Ah.pre Ah.F) (fun _ _ _ _=>aIx ..),trivial⟩ H7 Ip jG _ (fun _=>aG3 ..)
abbrev So:=An H7
abbrev Sx:=Am H7 Ip
variable (p329:So) (f329:Sx)
abbrev G0:Ac:=[(false,.slice (.int .u64)),(false,.int .u64)]
abbrev He:Ac:=[(false,.bool)]
abbrev Ej:LK:=.win (.int .u64)
abbrev Gi:Pat:=⟨68,[(16,.one (.v .i64)),(15,.one (.sl (.int .u64))),(2,.one (.v .u64)),(17,.one (.v .i64)),(1,.one (.sl (.int .u64))),(0,.one (.sub 0)),(7,.one (.v .u64)),(8,.one (.v .u64))],[.arr (.int .u64)]⟩
abbrev Uu:List (Nat×Shape):=[]
abbrev I9:List (Nat×Pat):=[(0,⟨68,[(1,.one (.sl (.int .u64))),(0,.one (.sub 0)),(7,.one (.v .u64)),(8,.one (.v .u64))],[.arr (.int .u64)]⟩)]
abbrev IM:Option Pat:=none
variable (w330_3:Pat.D Gi->Option (Ak I9 IM))
def PQ (p315:HA) (f315:HC) (p155:DA) (f155:DB) (p157:EZ) (f157:E0) {R:Type} (L:Pat.D Gi->Option R) (e:Ak I9 IM->Option R) (x:Pat.D Gi):Option R :=
 let e7_:=(x.2.1.getD (x.1.2.2.2.2.2.1.1+(Int.toNat x.1.2.2.2.1)) (0:Int))
 let e8_:=(x.1.2.2.1,(x.1.2.1.getD (Int.toNat x.1.2.2.2.1) (0:Int)),())
 let e6_:=(f315 e8_)
 let e5_:=(f155 (e6_.2.1,x.1.2.2.2.2.2.2.1,(0:Int),()))
 let e1_:=(f157 (e7_,e5_.1,x.1.2.2.2.2.2.2.2))
 let e2_:=e5_
 let e3_:=((decide ((0:Int)<=x.1.2.2.2.1))&&(decide (x.1.2.2.2.1<(x.1.2.2.2.2.2.1.2:Int))))
 let e4_:=e6_
 bif (decide (x.1.2.2.2.1<x.1.1)) then (bif ((decide ((0:Int)<=x.1.2.2.2.1))&&(decide (x.1.2.2.2.1<(x.1.2.1.length:Int)))) then (bif (p315 e8_) then (bif (p155 (e4_.2.1,x.1.2.2.2.2.2.2.1,(0:Int),())) then (bif e3_ then (bif (p157 (e7_,e2_.1,x.1.2.2.2.2.2.2.2)) then (bif e3_ then (((L ((x.1.1,x.1.2.1,x.1.2.2.1,(IntKind.wrap .i64 (x.1.2.2.2.1+(1:Int))),x.1.2.2.2.2.1,x.1.2.2.2.2.2.1,(IntKind.wrap .u64 (e4_.1+e2_.2.1)),e1_.2),(x.2.1.set (x.1.2.2.2.2.2.1.1+(Int.toNat x.1.2.2.2.1)) e1_.1),()))))
 else none)
 else none)
 else none)
 else none)
 else none)
 else none)
 else (e (.inl (x.1.2.2.2.2,x.2)))
theorem aIy (d:Nat) (R:Type) (L:Pat.D Gi->Option R) (e:Ak I9 IM->Option R) (x:Pat.D Gi) :
  B7 (cf [(126,⟨EJ,EM,p315,f315⟩),(165,⟨Fb,FY,p155,f155⟩),(166,⟨H4,K9,p157,f157⟩)] [(324,3,LoopSpec.of Gi Uu I9 IM w330_3 1)]) (d+2) 324 (BR Tryz.f324 3) Gi Uu I9 IM (R:=R) L e x 1=PQ p315 f315 p155 f155 p157 f157 L e x:=by kernel_rfl
theorem sO (p315:HA) (f315:HC) (p155:DA) (f155:DB) (p157:EZ) (f157:E0):BG fun L e x=>PQ p315 f315 p155 f155 p157 f157 L e x:=by intro _ _ _ _ _ _ _ h0 hL he _; unfold PQ; repeat' (first | exact h0 | exact hL _ | exact he _ | apply Cu | (apply Cv h0; intro _) | (apply Cw <;> intro _))
def X4 (p315:HA) (f315:HC) (p155:DA) (f155:DB) (p157:EZ) (f157:E0) (w330_3:Pat.D Gi->Option (Ak I9 IM)) (l0:LK.D (.win (.int .u64))) (a0:Aa (.slice (.int .u64))) (a1:Aa (.int .u64)):Option (LK.B Ej×DenS He) :=
 Vx.Bh (w330_3 (((a0.length:Int),a0,a1,(0:Int),a0,l0.2,(0:Int),(0:Int),()),l0.1,())) fun y0 =>
 Vx.Bi y0 (fun y1 =>
 bif ((decide ((0:Int)<=(y1.1.1.length:Int)))&&(decide ((y1.1.1.length:Int)<(y1.1.2.1.2:Int)))) then (bif (p157 ((y1.2.1.getD (y1.1.2.1.1+(Int.toNat (y1.1.1.length:Int))) (0:Int)),y1.1.2.2)) then (bif ((decide ((0:Int)<=(y1.1.1.length:Int)))&&(decide ((y1.1.1.length:Int)<(y1.1.2.1.2:Int)))) then (some ((y1.2.1.set (y1.1.2.1.1+(Int.toNat (y1.1.1.length:Int))) (f157 ((y1.2.1.getD (y1.1.2.1.1+(Int.toNat (y1.1.1.length:Int))) (0:Int)),y1.1.2.2)).1),((f157 ((y1.2.1.getD (y1.1.2.1.1+(Int.toNat (y1.1.1.length:Int))) (0:Int)),y1.1.2.2)).2.1 != (0:Int)),()))
 else none)
 else none)
 else none) (fun z1 =>
 none)
theorem aG4 (x:LK.D Ej×DenS G0):ED (cf [(126,⟨EJ,EM,p315,f315⟩),(165,⟨Fb,FY,p155,f155⟩),(166,⟨H4,K9,p157,f157⟩)] [(324,3,LoopSpec.of Gi Uu I9 IM w330_3 1)]) 9 324 Tryz.f324 Ej G0 He x=X4 p315 f315 p155 f155 p157 f157 w330_3 x.1 x.2.1 x.2.2.1:=by kernel_rfl
def Va:Gi.D->Option (Ak I9 IM):=Bo fun L=>PQ A9.pre A9.F Az.pre Az.F AR.pre AR.F L some
def Rn (x:LK.D Ej×DenS G0):Option (LK.B Ej×DenS He):=X4 A9.pre A9.F Az.pre Az.F AR.pre AR.F Va x.1 x.2.1 x.2.2.1
def BQ:SumL:=EF Ej G0 He Rn (LK.dflt Ej,DenS.dflt He)
theorem yU:SoundL Tryz.prog G1 324 BQ:=JU (cf [(126,A9),(165,Az),(166,AR)] [(324,3,LoopSpec.of Gi Uu I9 IM Va 1)]) 324 Tryz.f324 ⟨Zd,QS,UI,trivial⟩ ⟨rfl,fun d=>Ct (fun L e x=>PQ A9.pre A9.F Az.pre Az.F AR.pre AR.F L e x) (sO A9.pre A9.F Az.pre Az.F AR.pre AR.F) (fun _ _ _ _=>aIy ..),trivial⟩ Ej G0 He Rn _ (fun _=>aG4 ..)
abbrev O1:=LK.D Ej×DenS G0->Bool
abbrev Pd:=LK.D Ej×DenS G0->LK.B Ej×DenS He
variable (p330:O1) (f330:Pd)
abbrev G2:Ac:=[(false,.slice (.int .u64))]
abbrev Hf:Ac:=[(false,.bool)]
abbrev Ek:LK:=.win (.int .u64)
abbrev Gj:Pat:=⟨46,[(10,.one (.v .i64)),(9,.one (.sl (.int .u64))),(11,.one (.v .i64)),(1,.one (.sl (.int .u64))),(0,.one (.sub 0)),(5,.one (.v .u64))],[.arr (.int .u64)]⟩
abbrev Uv:List (Nat×Shape):=[]
abbrev Ja:List (Nat×Pat):=[(0,⟨46,[(1,.one (.sl (.int .u64))),(0,.one (.sub 0)),(5,.one (.v .u64))],[.arr (.int .u64)]⟩)]
abbrev IN:Option Pat:=none
variable (w331_3:Pat.D Gj->Option (Ak Ja IN))
def PR (p155:DA) (f155:DB) {R:Type} (L:Pat.D Gj->Option R) (e:Ak Ja IN->Option R) (x:Pat.D Gj):Option R :=
 let e3_:=((x.2.1.getD (x.1.2.2.2.2.1.1+(Int.toNat x.1.2.2.1)) (0:Int)),(x.1.2.1.getD (Int.toNat x.1.2.2.1) (0:Int)),x.1.2.2.2.2.2)
 let e1_:=(f155 e3_)
 let e2_:=((decide ((0:Int)<=x.1.2.2.1))&&(decide (x.1.2.2.1<(x.1.2.2.2.2.1.2:Int))))
 bif (decide (x.1.2.2.1<x.1.1)) then (bif ((decide ((0:Int)<=x.1.2.2.1))&&(decide (x.1.2.2.1<(x.1.2.1.length:Int)))) then (bif e2_ then (bif (p155 e3_) then (bif e2_ then (((L ((x.1.1,x.1.2.1,(IntKind.wrap .i64 (x.1.2.2.1+(1:Int))),x.1.2.2.2.1,x.1.2.2.2.2.1,e1_.2),(x.2.1.set (x.1.2.2.2.2.1.1+(Int.toNat x.1.2.2.1)) e1_.1),()))))
 else none)
 else none)
 else none)
 else none)
 else (e (.inl (x.1.2.2.2,x.2)))
theorem aIz (d:Nat) (R:Type) (L:Pat.D Gj->Option R) (e:Ak Ja IN->Option R) (x:Pat.D Gj) :
  B7 (cf [(165,⟨Fb,FY,p155,f155⟩)] [(325,3,LoopSpec.of Gj Uv Ja IN w331_3 1)]) (d+2) 325 (BR Tryz.f325 3) Gj Uv Ja IN (R:=R) L e x 1=PR p155 f155 L e x:=by kernel_rfl
theorem sP (p155:DA) (f155:DB):BG fun L e x=>PR p155 f155 L e x:=by intro _ _ _ _ _ _ _ h0 hL he _; unfold PR; repeat' (first | exact h0 | exact hL _ | exact he _ | apply Cu | (apply Cv h0; intro _) | (apply Cw <;> intro _))
def X5 (p155:DA) (f155:DB) (w331_3:Pat.D Gj->Option (Ak Ja IN)) (l0:LK.D (.win (.int .u64))) (a0:Aa (.slice (.int .u64))):Option (LK.B Ek×DenS Hf) :=
 Vx.Bh (w331_3 (((a0.length:Int),a0,(0:Int),a0,l0.2,(0:Int),()),l0.1,())) fun y0 =>
 Vx.Bi y0 (fun y1 =>
 bif ((decide ((0:Int)<=(y1.1.1.length:Int)))&&(decide ((y1.1.1.length:Int)<(y1.1.2.1.2:Int)))) then (bif (p155 ((y1.2.1.getD (y1.1.2.1.1+(Int.toNat (y1.1.1.length:Int))) (0:Int)),(0:Int),y1.1.2.2)) then (bif ((decide ((0:Int)<=(y1.1.1.length:Int)))&&(decide ((y1.1.1.length:Int)<(y1.1.2.1.2:Int)))) then (some ((y1.2.1.set (y1.1.2.1.1+(Int.toNat (y1.1.1.length:Int))) (f155 ((y1.2.1.getD (y1.1.2.1.1+(Int.toNat (y1.1.1.length:Int))) (0:Int)),(0:Int),y1.1.2.2)).1),((f155 ((y1.2.1.getD (y1.1.2.1.1+(Int.toNat (y1.1.1.length:Int))) (0:Int)),(0:Int),y1.1.2.2)).2.1 != (0:Int)),()))
 else none)
 else none)
 else none) (fun z1 =>
 none)
theorem aG5 (x:LK.D Ek×DenS G2):ED (cf [(165,⟨Fb,FY,p155,f155⟩)] [(325,3,LoopSpec.of Gj Uv Ja IN w331_3 1)]) 9 325 Tryz.f325 Ek G2 Hf x=X5 p155 f155 w331_3 x.1 x.2.1:=by kernel_rfl
def Vb:Gj.D->Option (Ak Ja IN):=Bo fun L=>PR Az.pre Az.F L some
def Ro (x:LK.D Ek×DenS G2):Option (LK.B Ek×DenS Hf):=X5 Az.pre Az.F Vb x.1 x.2.1
def CD:SumL:=EF Ek G2 Hf Ro (LK.dflt Ek,DenS.dflt Hf)
theorem yV:SoundL Tryz.prog G1 325 CD:=JU (cf [(165,Az)] [(325,3,LoopSpec.of Gj Uv Ja IN Vb 1)]) 325 Tryz.f325 ⟨QS,trivial⟩ ⟨rfl,fun d=>Ct (fun L e x=>PR Az.pre Az.F L e x) (sP Az.pre Az.F) (fun _ _ _ _=>aIz ..),trivial⟩ Ek G2 Hf Ro _ (fun _=>aG5 ..)
abbrev O2:=LK.D Ek×DenS G2->Bool
abbrev Pe:=LK.D Ek×DenS G2->LK.B Ek×DenS Hf
variable (p331:O2) (f331:Pe)
abbrev H8:Ac:=[(false,.slice (.int .u64))]
abbrev Hg:Ac:=[(false,.int .u64)]
abbrev El:LK:=.win (.int .u64)
abbrev EQ:Pat:=⟨92,[(6,.one (.v .u64)),(7,.one (.v .u64)),(5,.one (.v .i64)),(0,.one (.sub 0)),(1,.one (.sl (.int .u64)))],[.arr (.int .u64)]⟩
abbrev QH:List (Nat×Shape):=[]
abbrev Hx:List (Nat×Pat):=[(0,⟨92,[(0,.one (.sub 0)),(1,.one (.sl (.int .u64))),(6,.one (.v .u64))],[.arr (.int .u64)]⟩)]
abbrev Hm:Option Pat:=none
abbrev EP:Pat:=⟨92,[(6,.one (.v .u64)),(0,.one (.sub 0)),(1,.one (.sl (.int .u64)))],[.arr (.int .u64)]⟩
abbrev QG:List (Nat×Shape):=[]
abbrev Hw:List (Nat×Pat):=[(2,⟨92,[(6,.one (.v .u64))],[.arr (.int .u64)]⟩)]
abbrev Hl:Option Pat:=none
variable (w332_6:Pat.D EQ->Option (Ak Hx Hm)) (w332_13:Pat.D EP->Option (Ak Hw Hl))
def PS (p328:Ft) (f328:Fu) (p315:HA) (f315:HC) (p155:DA) (f155:DB) (p330:O1) (f330:Pd) (p331:O2) (f331:Pe) {R:Type} (L:Pat.D EP->Option R) (e:Ak Hw Hl->Option R) (x:Pat.D EP):Option R :=
 let e1_:=(IntKind.wrap .u64 (x.1.1-(1:Int)))
 bif (p331 ((x.2.1,x.1.2.1),x.1.2.2)) then (bif (f331 ((x.2.1,x.1.2.1),x.1.2.2)).2.1 then (((e (.inl ((e1_,()),(f331 ((x.2.1,x.1.2.1),x.1.2.2)).1,())))))
 else (L ((e1_,x.1.2),(f331 ((x.2.1,x.1.2.1),x.1.2.2)).1,())))
 else none
theorem aIA (d:Nat) (R:Type) (L:Pat.D EP->Option R) (e:Ak Hw Hl->Option R) (x:Pat.D EP) :
  B7 ({ cf [(264,⟨Ei,Em,p328,f328⟩),(126,⟨EJ,EM,p315,f315⟩),(165,⟨Fb,FY,p155,f155⟩)] [(305,6,LoopSpec.of EQ QH Hx Hm w332_6 1),(305,13,LoopSpec.of EP QG Hw Hl w332_13 1)] with lsums:=[(324,⟨Ej,G0,He,p330,f330⟩),(325,⟨Ek,G2,Hf,p331,f331⟩)] }) (d+2) 305 (BR Tryz.f305 13) EP QG Hw Hl (R:=R) L e x 1=PS p328 f328 p315 f315 p155 f155 p330 f330 p331 f331 L e x:=by kernel_rfl
theorem sQ (p328:Ft) (f328:Fu) (p315:HA) (f315:HC) (p155:DA) (f155:DB) (p330:O1) (f330:Pd) (p331:O2) (f331:Pe):BG fun L e x=>PS p328 f328 p315 f315 p155 f155 p330 f330 p331 f331 L e x:=by intro _ _ _ _ _ _ _ h0 hL he _; unfold PS; repeat' (first | exact h0 | exact hL _ | exact he _ | apply Cu | (apply Cv h0; intro _) | (apply Cw <;> intro _))
def PT (p328:Ft) (f328:Fu) (p315:HA) (f315:HC) (p155:DA) (f155:DB) (p330:O1) (f330:Pd) (p331:O2) (f331:Pe) {R:Type} (L:Pat.D EQ->Option R) (e:Ak Hx Hm->Option R) (x:Pat.D EQ):Option R :=
 let e11_:=(IntKind.wrap .i64 (x.1.2.2.1-(2:Int)))
 let e10_:=(Int.toNat e11_)
 let e9_:=(f315 (x.1.1,(x.1.2.2.2.2.1.getD e10_ (0:Int)),()))
 let e1_:=(decide (e9_.1<x.1.2.1))
 let e12_:=(IntKind.wrap .i64 (x.1.2.2.1-(1:Int)))
 let e2_:=(f155 (x.1.2.1,(x.1.2.2.2.2.1.getD (Int.toNat e12_) (0:Int)),(0:Int),()))
 let e3_:=e9_
 let e4_:=(decide ((0:Int)<=e11_))
 let e5_:=e10_
 let e6_:=e12_
 let e7_:=e11_
 let e8_:=(IntKind.wrap .u64 (x.1.1-(1:Int)))
 bif (e4_&&(decide (e7_<(x.1.2.2.2.2.1.length:Int)))) then (bif (p315 (x.1.1,(x.1.2.2.2.2.1.getD e5_ (0:Int)),())) then (bif ((e4_&&(decide (e7_<(x.1.2.2.2.1.2:Int))))||(!((bif e1_ then false else true)&&(decide (e3_.1=x.1.2.1))))) then (bif (e1_||((e3_.1==x.1.2.1)&&(decide (e3_.2.1<=(x.2.1.getD (x.1.2.2.2.1.1+e5_) (0:Int)))))) then (((e (.inl ((x.1.2.2.2.1,x.1.2.2.2.2.1,x.1.1,()),x.2)))))
 else bif ((decide ((0:Int)<=e6_))&&(decide (e6_<(x.1.2.2.2.2.1.length:Int)))) then (bif (p155 (x.1.2.1,(x.1.2.2.2.2.1.getD (Int.toNat e6_) (0:Int)),(0:Int),())) then (bif (e2_.2.1 != (0:Int)) then (((e (.inl ((x.1.2.2.2.1,x.1.2.2.2.2.1,e8_,()),x.2)))))
 else (L ((e8_,e2_.1,x.1.2.2),x.2)))
 else none)
 else none)
 else none)
 else none)
 else none
theorem aIB (d:Nat) (R:Type) (L:Pat.D EQ->Option R) (e:Ak Hx Hm->Option R) (x:Pat.D EQ) :
  B7 ({ cf [(264,⟨Ei,Em,p328,f328⟩),(126,⟨EJ,EM,p315,f315⟩),(165,⟨Fb,FY,p155,f155⟩)] [(305,6,LoopSpec.of EQ QH Hx Hm w332_6 1),(305,13,LoopSpec.of EP QG Hw Hl w332_13 1)] with lsums:=[(324,⟨Ej,G0,He,p330,f330⟩),(325,⟨Ek,G2,Hf,p331,f331⟩)] }) (d+2) 305 (BR Tryz.f305 6) EQ QH Hx Hm (R:=R) L e x 1=PT p328 f328 p315 f315 p155 f155 p330 f330 p331 f331 L e x:=by kernel_rfl
theorem sR (p328:Ft) (f328:Fu) (p315:HA) (f315:HC) (p155:DA) (f155:DB) (p330:O1) (f330:Pd) (p331:O2) (f331:Pe):BG fun L e x=>PT p328 f328 p315 f315 p155 f155 p330 f330 p331 f331 L e x:=by intro _ _ _ _ _ _ _ h0 hL he _; unfold PT; repeat' (first | exact h0 | exact hL _ | exact he _ | apply Cu | (apply Cv h0; intro _) | (apply Cw <;> intro _))
def X6 (p328:Ft) (f328:Fu) (p315:HA) (f315:HC) (p155:DA) (f155:DB) (p330:O1) (f330:Pd) (p331:O2) (f331:Pe) (w332_6:Pat.D EQ->Option (Ak Hx Hm)) (w332_13:Pat.D EP->Option (Ak Hw Hl)) (l0:LK.D (.win (.int .u64))) (a0:Aa (.slice (.int .u64))):Option (LK.B El×DenS Hg) :=
 let e11_:=(l0.1.getD (l0.2.1+(Int.toNat (a0.length:Int))) (0:Int))
 let e10_:=(IntKind.wrap .i64 ((a0.length:Int)-(1:Int)))
 let e9_:=(Int.toNat e10_)
 let e8_:=(a0.getD e9_ (0:Int))
 let e1_:=(f328 (e11_,(l0.1.getD (l0.2.1+e9_) (0:Int)),e8_,()))
 let e2_:=((decide ((0:Int)<=e10_))&&(decide (e10_<(a0.length:Int))))
 let e3_:=e8_
 let e4_:=((decide ((0:Int)<=(a0.length:Int)))&&(decide ((a0.length:Int)<(l0.2.2:Int))))
 let e5_:=e10_
 let e12_:=((l0.1,l0.2),a0,(18446744073709551615:Int),())
 let e6_:=(f330 e12_)
 let e7_:=e11_
 bif e4_ then (bif e2_ then (bif (decide (e7_<e3_)) then (bif e4_ then (bif ((decide ((0:Int)<=e5_))&&(decide (e5_<(l0.2.2:Int)))) then (bif e2_ then (bif (p328 (e7_,(l0.1.getD (l0.2.1+(Int.toNat e5_)) (0:Int)),e3_,())) then (Vx.Bh (w332_6 ((e1_.1,e1_.2.1,(a0.length:Int),l0.2,a0,()),l0.1,())) fun y7 =>
 Vx.Bi y7 (fun y8 =>
 bif (p330 ((y8.2.1,y8.1.1),y8.1.2)) then (bif (f330 ((y8.2.1,y8.1.1),y8.1.2)).2.1 then (Vx.Bh (w332_13 ((y8.1.2.2.1,y8.1.1,y8.1.2.1,()),(f330 ((y8.2.1,y8.1.1),y8.1.2)).1,())) fun y11 =>
 Vx.Bi y11 (fun y12 =>
 some (y12.2.1,y12.1)) (fun z12 =>
 none))
 else some ((f330 ((y8.2.1,y8.1.1),y8.1.2)).1,y8.1.2.2))
 else none) (fun z8 =>
 none))
 else none)
 else none)
 else none)
 else none)
 else bif (p330 e12_) then (bif e6_.2.1 then (Vx.Bh (w332_13 (((18446744073709551615:Int),l0.2,a0,()),e6_.1,())) fun y5 =>
 Vx.Bi y5 (fun y6 =>
 some (y6.2.1,y6.1)) (fun z6 =>
 none))
 else some (e6_.1,(18446744073709551615:Int),()))
 else none)
 else none)
 else none
theorem aG6 (x:LK.D El×DenS H8):ED ({ cf [(264,⟨Ei,Em,p328,f328⟩),(126,⟨EJ,EM,p315,f315⟩),(165,⟨Fb,FY,p155,f155⟩)] [(305,6,LoopSpec.of EQ QH Hx Hm w332_6 1),(305,13,LoopSpec.of EP QG Hw Hl w332_13 1)] with lsums:=[(324,⟨Ej,G0,He,p330,f330⟩),(325,⟨Ek,G2,Hf,p331,f331⟩)] }) 9 305 Tryz.f305 El H8 Hg x=X6 p328 f328 p315 f315 p155 f155 p330 f330 p331 f331 w332_6 w332_13 x.1 x.2.1:=by kernel_rfl
def Sf:EP.D->Option (Ak Hw Hl):=Bo fun L=>PS AV.pre AV.F A9.pre A9.F Az.pre Az.F BQ.pre BQ.F CD.pre CD.F L some
def Vc:EQ.D->Option (Ak Hx Hm):=Bo fun L=>PT AV.pre AV.F A9.pre A9.F Az.pre Az.F BQ.pre BQ.F CD.pre CD.F L some
def Rp (x:LK.D El×DenS H8):Option (LK.B El×DenS Hg):=X6 AV.pre AV.F A9.pre A9.F Az.pre Az.F BQ.pre BQ.F CD.pre CD.F Vc Sf x.1 x.2.1
def DV:SumL:=EF El H8 Hg Rp (LK.dflt El,DenS.dflt Hg)
theorem yW:SoundL Tryz.prog G1 305 DV:=JU ({ cf [(264,AV),(126,A9),(165,Az)] [(305,6,LoopSpec.of EQ QH Hx Hm Vc 1),(305,13,LoopSpec.of EP QG Hw Hl Sf 1)] with lsums:=[(324,BQ),(325,CD)] }) 305 Tryz.f305 ⟨Ze,Zd,QS,trivial⟩ ⟨rfl,fun d=>Ct (fun L e x=>PT AV.pre AV.F A9.pre A9.F Az.pre Az.F BQ.pre BQ.F CD.pre CD.F L e x) (sR AV.pre AV.F A9.pre A9.F Az.pre Az.F BQ.pre BQ.F CD.pre CD.F) (fun _ _ _ _=>aIB ..),⟨rfl,fun d=>Ct (fun L e x=>PS AV.pre AV.F A9.pre A9.F Az.pre Az.F BQ.pre BQ.F CD.pre CD.F L e x) (sQ AV.pre AV.F A9.pre A9.F Az.pre Az.F BQ.pre BQ.F CD.pre CD.F) (fun _ _ _ _=>aIA ..),trivial⟩⟩ El H8 Hg Rp _ (fun _=>aG6 ..) (hls:=⟨yU,yV,trivial⟩)
abbrev Sp:=LK.D El×DenS H8->Bool
abbrev Sy:=LK.D El×DenS H8->LK.B El×DenS Hg
variable (p332:Sp) (f332:Sy)
end Vx
end
