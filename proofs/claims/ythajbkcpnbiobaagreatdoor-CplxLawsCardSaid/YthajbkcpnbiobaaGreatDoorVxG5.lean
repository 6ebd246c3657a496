/- Part 5 of the proof. What is proved: symbolic execution of the functions, proved sound; what each function of the program computes, and that every run ends with it; what these functions compute, in plain numbers. Conditions: each theorem bears its own. -/
import Derived.Test.YthajbkcpnbiobaaGreatDoorVxG4
set_option linter.all false
set_option exponentiation.threshold 1000000
noncomputable section
open Go.IntKind renaming wrap->aa
open Int renaming tmod->iu,toNat->ai
open List renaming replicate->ar
namespace Vx
open Go Go.Proofs
variable (p69:BF)(f69:BG)(p66:B2)(f66:B3)(p65:DE)(f65:DF)(p70:Dp)(f70:Dq)(p98:Kd)(f98:Kj)(p119:Ze)(f119:Zr)(p155:C6)(f155:C7)(p123:Th)(f123:Tn)(p118:G5)(f118:G8)(p105:U5)(f105:Vf)(p173:AZ)(f173:A1)(p102:G4)(f102:G7)(p178:Ik)(f178:Im)(p92:Kb)(f92:Kh)(p185:J9)(f185:Kf)(p141:RX)(f141:R0)(p143:Gg)(f143:Gj)(p97:Kc)(f97:Ki)(p107:U6)(f107:Vg)(p122:Gf)(f122:Gi)(p115:Zd)(f115:Zq)(p64:Vd)(f64:Vn)(p315:EK)(f315:EM)(p316:U8)(f316:Vi)(p40:RY)(f40:R1)(p144:E2)(f144:E3)(p145:U7)(f145:Vh)(p311:Zg)(f311:Zt)(p312:sM)(f312:tV)(p313:Zh)(f313:Zu)(p314:sN)(f314:tW)
abbrev N4:Aa:=[(true,.pair (.int .u64) (.pair (.int .u64) (.unit)))]
abbrev PU:Aa:=[(false,.int .u64),(false,.bool)]
abbrev H0:Pat:=⟨28,[(6,.one (.v .i64)),(2,.one (.v .u64)),(1,.one (.ptr 0 0))],[.raw [.v .u64,.v .u64]]⟩
abbrev dD:List (Nat×Shape):=[]
abbrev MO:List (Nat×Pat):=[(0,⟨28,[(2,.one (.v .u64)),(1,.one (.ptr 0 0))],[.raw [.v .u64,.v .u64]]⟩)]
abbrev Ma:Option Pat:=none
variable (w317_2:Pat.D H0->Option (Ah MO Ma))
def aE(p123:Th)(f123:Tn)(p316:U8)(f316:Vi){R:Type}(L:Pat.D H0->Option R)(e:Ah MO Ma->Option R)(x:Pat.D H0):Option R:=let e5_:=(aa .i64 ((63:Int)-x.1.1));let e4_:=(Aq .u64 x.1.2.1 (AQ .u64 (1:Int) e5_));let e1_:=((f316 (e4_,e4_,())).1,x.2);let e2_:=e4_;let e3_:=(aa .i64 (x.1.1+(1:Int)));bif(decide (x.1.1<(64:Int)))then(bif(decide ((0:Int)<=e5_))then(bif(p316 (e2_,e2_,()))then(bif(p123 e1_)then(bif(decide ((f123 e1_).1<=(0:Int)))then(((L ((e3_,e2_,(),()),x.2))))else(L ((e3_,x.1.2.1,(),()),x.2)))else none)else none)else none)else(e (.inl ((x.1.2.1,(),()),x.2)))
theorem bCP(d:Nat)(R:Type)(L:Pat.D H0->Option R)(e:Ah MO Ma->Option R)(x:Pat.D H0):
  BC (cf [(236,⟨Gx,HG,p123,f123⟩),(199,⟨I2,Jo,p316,f316⟩)] [(207,2,LoopSpec.of H0 dD MO Ma w317_2)]) (d+2) 207 (Bw Tryz.f207 2) H0 dD MO Ma (R:=R) L e x=aE p123 f123 p316 f316 L e x:=by kernel_rfl
theorem aWU(p123:Th)(f123:Tn)(p316:U8)(f316:Vi):Bq fun L e x=>aE p123 f123 p316 f316 L e x:=by intro _ _ _ _ _ _ _ h0 hL he _;unfold aE;repeat' (first|exact h0|exact hL _|exact he _|apply BM|(apply BN h0;intro _)|(apply BO<;>intro _))
def aML(p123:Th)(f123:Tn)(p316:U8)(f316:Vi)(w317_2:Pat.D H0->Option (Ah MO Ma))(a0:Ab (.pair (.int .u64) (.pair (.int .u64) (.unit)))):Option (DenS PU):=
 Vx.A3 (w317_2 (((0:Int),(0:Int),(),()),(a0.1,a0.2),())) fun y0=>
 Vx.A2 y0 (fun y1=>
 bif(p316 (y1.1.1,y1.1.1,()))then(some (y1.1.1,(((f316 (y1.1.1,y1.1.1,())).1.1==y1.2.1.1)&&((f316 (y1.1.1,y1.1.1,())).1.2.1==y1.2.1.2.1)),()))
 else none) (fun z1=>
 none)
theorem aZ1(x:DenS N4):run (cf [(236,⟨Gx,HG,p123,f123⟩),(199,⟨I2,Jo,p316,f316⟩)] [(207,2,LoopSpec.of H0 dD MO Ma w317_2)]) 9 207 Tryz.f207 N4 PU x=aML p123 f123 p316 f316 w317_2 x.1:=by kernel_rfl
def aDP:H0.D->Option (Ah MO Ma):=Bf fun L=>aE Ef.pre Ef.F Eg.pre Eg.F L some
def aCx(x:DenS N4):Option (DenS PU):=aML Ef.pre Ef.F Eg.pre Eg.F aDP x.1
def eP:Sum:=Aj N4 PU aCx (DenS.dflt PU)
theorem aQg:Sound Tryz.prog G1 207 eP:=sd (cf [(236,Ef),(199,Eg)] [(207,2,LoopSpec.of H0 dD MO Ma aDP)]) 207 Tryz.f207 ⟨aBl,aBu,trivial⟩ ⟨rfl,fun d=>BL (fun L e x=>aE Ef.pre Ef.F Eg.pre Eg.F L e x) (aWU Ef.pre Ef.F Eg.pre Eg.F) (fun _ _ _ _=>bCP ..),trivial⟩ N4 PU aCx _ (fun _=>aZ1 ..)
abbrev aEv:=Ae N4
abbrev aGf:=Ad N4 PU
variable (p317:aEv)(f317:aGf)
abbrev N5:Aa:=[(false,.int .i64),(false,.int .i64),(false,.int .u64)]
abbrev PW:Aa:=[(false,.int .u64),(false,.int .i64),(false,.int .i64)]
def aMM(p311:Zg)(f311:Zt)(p65:DE)(f65:DF)(p312:sM)(f312:tV)(p313:Zh)(f313:Zu)(p314:sN)(f314:tW)(p119:Ze)(f119:Zr)(p317:aEv)(f317:aGf)(p122:Gf)(f122:Gi)(a0 a1:Ab (.int .i64))(a2:Ab (.int .u64)):Option (DenS PW):=let e16_:=(a0,(f311 (a0,a1,(a2::[]),())).1,a2,());let e15_:=(f313 e16_);let e14_:=((0:Int),e15_.1,());let e13_:=(e14_,());let e12_:=(aa .i64 ((126:Int)-(f314 e13_).1));let e11_:=(aa .i64 (e12_+(1:Int)));let e8_:=(e14_,e11_,());let e7_:=(f317 (f119 e8_));let e1_:=(a0,a1,false,((0:Int),e7_.1,()),(BK .i64 (aa .i64 (e15_.2.1-e11_)) (2:Int)),(!e7_.2.1),());let e10_:=(e14_,e12_,());let e9_:=(f317 (f119 e10_));let e2_:=(a0,a1,false,((0:Int),e9_.1,()),(BK .i64 (aa .i64 (e15_.2.1-e12_)) (2:Int)),(!e9_.2.1),());let e3_:=e8_;let e4_:=e10_;let e5_:=e13_;let e6_:=e16_;bif(p311 (a0,a1,(a2::[]),()))then(bif((f311 (a0,a1,(a2::[]),())).2.1 !=(0:Int))then(some ((0:Int),(0:Int),(f311 (a0,a1,(a2::[]),())).2))else bif(p65 (a0,a2,()))then(bif(p312 (a0,(f65 (a0,a2,())).1,()))then(bif(f312 (a0,(f65 (a0,a2,())).1,())).2.2.1 then(some ((f312 (a0,(f65 (a0,a2,())).1,())).1,(f312 (a0,(f65 (a0,a2,())).1,())).2.1,(0:Int),()))else bif((((f65 (a0,a2,())).1==(9:Int))||((f65 (a0,a2,())).1==(6:Int)))||((f65 (a0,a2,())).1==(5:Int)))then(some (a2,(0:Int),(0:Int),()))else bif(p313 e6_)then(bif(p314 e5_)then(bif((iu (aa .i64 ((f313 e6_).2.1-(aa .i64 ((126:Int)-(f314 e5_).1)))) (2:Int))!=(0:Int))then(bif(p119 e3_)then(bif(p317 (f119 e3_))then(bif(p122 e1_)then(some (f122 e1_))else none)else none)else none)else bif(p119 e4_)then(bif(p317 (f119 e4_))then(bif(p122 e2_)then(some (f122 e2_))else none)else none)else none)else none)else none)else none)else none)else none
theorem aZ2(x:DenS N5):run (cf [(58,⟨KV,Lp,p311,f311⟩),(59,⟨Dy,Dz,p65,f65⟩),(205,⟨N2,PS,p312,f312⟩),(63,⟨KW,Lq,p313,f313⟩),(206,⟨N3,PT,p314,f314⟩),(208,⟨Hz,Jm,p119,f119⟩),(207,⟨N4,PU,p317,f317⟩),(104,⟨Et,EZ,p122,f122⟩)] []) 9 163 Tryz.f163 N5 PW x=aMM p311 f311 p65 f65 p312 f312 p313 f313 p314 f314 p119 f119 p317 f317 p122 f122 x.1 x.2.1 x.2.2.1:=by kernel_rfl
def aCy(x:DenS N5):Option (DenS PW):=aMM Ie.pre Ie.F AW.pre AW.F eM.pre eM.F If.pre If.F eN.pre eN.F AJ.pre AJ.F eP.pre eP.F Bv.pre Bv.F x.1 x.2.1 x.2.2.1
def eQ:Sum:=Aj N5 PW aCy (DenS.dflt PW)
theorem aQh:Sound Tryz.prog G1 163 eQ:=sd (cf [(58,Ie),(59,AW),(205,eM),(63,If),(206,eN),(208,AJ),(207,eP),(104,Bv)] []) 163 Tryz.f163 ⟨aBs,G0,aQe,aBt,aQf,aBk,aQg,SX,trivial⟩ trivial N5 PW aCy _ (fun _=>aZ2 ..)
abbrev aEw:=Ae N5
abbrev aGg:=Ad N5 PW
variable (p318:aEw)(f318:aGg)
abbrev Ow:Aa:=[(true,.pair (.int .i64) (.pair (.int .i64) (.pair (.int .u64) (.pair (.int .u64) (.pair (.int .u64) (.unit))))))]
abbrev Qf:Aa:=[(false,.int .u64),(false,.int .i64),(false,.int .i64)]
def aMW(p318:aEw)(f318:aGg)(a0:Ab (.pair (.int .i64) (.pair (.int .i64) (.pair (.int .u64) (.pair (.int .u64) (.pair (.int .u64) (.unit))))))):Option (DenS Qf):=bif(p318 (a0.2.1,a0.1,a0.2.2.1,()))then(some (f318 (a0.2.1,a0.1,a0.2.2.1,())))else none
theorem bAB(x:DenS Ow):run (cf [(163,⟨N5,PW,p318,f318⟩)] []) 9 162 Tryz.f162 Ow Qf x=aMW p318 f318 x.1:=by kernel_rfl
def aCN(x:DenS Ow):Option (DenS Qf):=aMW eQ.pre eQ.F x.1
def Xs:Sum:=Aj Ow Qf aCN (DenS.dflt Qf)
theorem aBD:Sound Tryz.prog G1 162 Xs:=sd (cf [(163,eQ)] []) 162 Tryz.f162 ⟨aQh,trivial⟩ trivial Ow Qf aCN _ (fun _=>bAB ..)
abbrev sS:=Ae Ow
abbrev t5:=Ad Ow Qf
variable (p396:sS)(f396:t5)
abbrev Ox:Aa:=[(false,.int .i64),(false,.int .i64),(false,.slice (.int .u64))]
abbrev Qg:Aa:=[(false,.int .i64)]
abbrev H6:Pat:=⟨39,[(27,.one (.v .i64)),(26,.one (.sl (.int .u64))),(0,.one (.v .i64)),(28,.one (.v .i64))],[]⟩
abbrev dL:List (Nat×Shape):=[]
abbrev MW:List (Nat×Pat):=[(0,⟨39,[],[]⟩)]
abbrev Mi:Option Pat:=(some ⟨39,[(6,.one (.v .i64))],[]⟩)
variable (w397_7:Pat.D H6->Option (Ah MW Mi))
def aI(p69:BF)(f69:BG)(p66:B2)(f66:B3){R:Type}(L:Pat.D H6->Option R)(e:Ah MW Mi->Option R)(x:Pat.D H6):Option R:=let e2_:=(x.1.2.2.1,(x.1.2.1.getD (ai x.1.2.2.2.1) (0:Int)),());let e1_:=(f66 e2_);bif(decide (x.1.2.2.2.1<x.1.1))then(bif((decide ((0:Int)<=x.1.2.2.2.1))&&(decide (x.1.2.2.2.1<(x.1.2.1.length:Int))))then(bif(p66 e2_)then(bif(e1_.1 !=(0:Int))then(((e (.inr (e1_,())))))else(L ((x.1.1,x.1.2.1,x.1.2.2.1,(aa .i64 (x.1.2.2.2.1+(1:Int))),()),())))else none)else none)else(e (.inl ((),())))
theorem bC5(d:Nat)(R:Type)(L:Pat.D H6->Option R)(e:Ah MW Mi->Option R)(x:Pat.D H6):
  BC (cf [(71,⟨BU,BV,p69,f69⟩),(85,⟨CA,CB,p66,f66⟩)] [(209,7,LoopSpec.of H6 dL MW Mi w397_7)]) (d+2) 209 (Bw Tryz.f209 7) H6 dL MW Mi (R:=R) L e x=aI p69 f69 p66 f66 L e x:=by kernel_rfl
theorem aWY(p69:BF)(f69:BG)(p66:B2)(f66:B3):Bq fun L e x=>aI p69 f69 p66 f66 L e x:=by intro _ _ _ _ _ _ _ h0 hL he _;unfold aI;repeat' (first|exact h0|exact hL _|exact he _|apply BM|(apply BN h0;intro _)|(apply BO<;>intro _))
def aMX(p69:BF)(f69:BG)(p66:B2)(f66:B3)(w397_7:Pat.D H6->Option (Ah MW Mi))(a0 a1:Ab (.int .i64))(a2:Ab (.slice (.int .u64))):Option (DenS Qg):=
 bif(p69 (a0,()))then(bif((f69 (a0,())).2.1 !=(0:Int))then(some (f69 (a0,())).2)
 else bif((decide (a1<(0:Int)))||(decide (a1>(5:Int))))then(some ((3:Int),()))
 else Vx.A3 (w397_7 (((a2.length:Int),a2,a0,(0:Int),()),())) fun y3=>
 Vx.A2 y3 (fun y4=>
 some ((0:Int),())) (fun z4=>
 some z4.1))
 else none
theorem bAC(x:DenS Ox):run (cf [(71,⟨BU,BV,p69,f69⟩),(85,⟨CA,CB,p66,f66⟩)] [(209,7,LoopSpec.of H6 dL MW Mi w397_7)]) 9 209 Tryz.f209 Ox Qg x=aMX p69 f69 p66 f66 w397_7 x.1 x.2.1 x.2.2.1:=by kernel_rfl
def aDT:H6.D->Option (Ah MW Mi):=Bf fun L=>aI Ao.pre Ao.F Ar.pre Ar.F L some
def aCO(x:DenS Ox):Option (DenS Qg):=aMX Ao.pre Ao.F Ar.pre Ar.F aDT x.1 x.2.1 x.2.2.1
def eZ:Sum:=Aj Ox Qg aCO (DenS.dflt Qg)
theorem aQG:Sound Tryz.prog G1 209 eZ:=sd (cf [(71,Ao),(85,Ar)] [(209,7,LoopSpec.of H6 dL MW Mi aDT)]) 209 Tryz.f209 ⟨Do,Fu,trivial⟩ ⟨rfl,fun d=>BL (fun L e x=>aI Ao.pre Ao.F Ar.pre Ar.F L e x) (aWY Ao.pre Ao.F Ar.pre Ar.F) (fun _ _ _ _=>bC5 ..),trivial⟩ Ox Qg aCO _ (fun _=>bAC ..)
abbrev aEQ:=Ae Ox
abbrev aGA:=Ad Ox Qg
variable (p397:aEQ)(f397:aGA)
abbrev K3:Aa:=[(false,.int .i64),(false,.int .u64)]
abbrev Ly:Aa:=[(true,.pair (.bool) (.pair (.bool) (.pair (.bool) (.pair (.bool) (.pair (.bool) (.pair (.pair (.bool) (.pair (.slice (.int .u64)) (.pair (.int .i64) (.unit)))) (.unit)))))))]
def aMY(p65:DE)(f65:DF)(p98:Kd)(f98:Kj)(p40:RY)(f40:R1)(a0:Ab (.int .i64))(a1:Ab (.int .u64)):Option (DenS Ly):=let e1_:=(((f65 (a0,a1,())).1==(2:Int))||((f65 (a0,a1,())).1==(9:Int)));bif(p65 (a0,a1,()))then(bif(p98 (a0,a1,()))then(bif((!(decide ((f65 (a0,a1,())).1<=(1:Int))))&&(!e1_))then(bif(p40 (a0,a1,()))then(some (((decide ((f65 (a0,a1,())).1<=(1:Int))),((f65 (a0,a1,())).1==(0:Int)),false,e1_,(f98 (a0,a1,())).1,(f40 (a0,a1,())).1,()),()))else none)else some (((decide ((f65 (a0,a1,())).1<=(1:Int))),((f65 (a0,a1,())).1==(0:Int)),false,e1_,(f98 (a0,a1,())).1,(false,[],(0:Int),()),()),()))else none)else none
theorem bAD(x:DenS K3):run (cf [(59,⟨Dy,Dz,p65,f65⟩),(91,⟨E9,Fk,p98,f98⟩),(203,⟨GC,GO,p40,f40⟩)] []) 9 212 Tryz.f212 K3 Ly x=aMY p65 f65 p98 f98 p40 f40 x.1 x.2.1:=by kernel_rfl
def aCP(x:DenS K3):Option (DenS Ly):=aMY AW.pre AW.F B1.pre B1.F DC.pre DC.F x.1 x.2.1
def SZ:Sum:=Aj K3 Ly aCP (DenS.dflt Ly)
theorem aBE:Sound Tryz.prog G1 212 SZ:=sd (cf [(59,AW),(91,B1),(203,DC)] []) 212 Tryz.f212 ⟨G0,S6,Xw,trivial⟩ trivial K3 Ly aCP _ (fun _=>bAD ..)
abbrev sT:=Ae K3
abbrev t6:=Ad K3 Ly
variable (p398:sT)(f398:t6)
abbrev K9:Aa:=[(true,.pair (.bool) (.pair (.slice (.int .u64)) (.pair (.int .i64) (.unit))))]
abbrev LG:Aa:=[(false,.int .i64)]
def t47(p102:G4)(f102:G7)(a0:Ab (.pair (.bool) (.pair (.slice (.int .u64)) (.pair (.int .i64) (.unit))))):Option (DenS LG):=bif(p102 (a0.2.1,()))then(bif(((f102 (a0.2.1,())).1.length:Int)==(0:Int))then(some ((0:Int),()))else bif a0.1 then(some ((-(1:Int)),()))else some ((1:Int),()))else none
theorem r47(x:DenS K9):run (cf [(122,⟨E7,Fg,p102,f102⟩)] []) 9 240 Tryz.f240 K9 LG x=t47 p102 f102 x.1:=by kernel_rfl
def T47(x:DenS K9):Option (DenS LG):=t47 Cc.pre Cc.F x.1
def S5:Sum:=Aj K9 LG T47 (DenS.dflt LG)
theorem aBX:Sound Tryz.prog G1 240 S5:=sd (cf [(122,Cc)] []) 240 Tryz.f240 ⟨Xk,trivial⟩ trivial K9 LG T47 _ (fun _=>r47 ..)
abbrev tJ:=Ae K9
abbrev uM:=Ad K9 LG
variable (p47:tJ)(f47:uM)
abbrev KN:Aa:=[(true,.pair (.bool) (.pair (.slice (.int .u64)) (.pair (.int .i64) (.unit))))]
abbrev Lf:Aa:=[(false,.int .i64)]
def aMu(a0:Ab (.pair (.bool) (.pair (.slice (.int .u64)) (.pair (.int .i64) (.unit))))):Option (DenS Lf):=bif(decide ((a0.2.1.length:Int)>(1024:Int)))then(some ((5:Int),()))else bif((decide (a0.2.2.1<(-(40000:Int))))||(decide (a0.2.2.1>(40000:Int))))then(some ((30:Int),()))else some ((0:Int),())
theorem aY3(x:DenS KN):run (cf [] []) 9 253 Tryz.f253 KN Lf x=aMu x.1:=by kernel_rfl
def aB5(x:DenS KN):Option (DenS Lf):=aMu x.1
def SU:Sum:=Aj KN Lf aB5 (DenS.dflt Lf)
theorem aBh:Sound Tryz.prog G1 253 SU:=sd (cf [] []) 253 Tryz.f253 trivial trivial KN Lf aB5 _ (fun _=>aY3 ..)
abbrev sG:=Ae KN
abbrev tP:=Ad KN Lf
variable (p103:sG)(f103:tP)
abbrev Ld:Aa:=[(true,.pair (.bool) (.pair (.slice (.int .u64)) (.pair (.int .i64) (.unit)))),(true,.pair (.bool) (.pair (.slice (.int .u64)) (.pair (.int .i64) (.unit))))]
abbrev LL:Aa:=[(false,.int .i64)]
def t99(p103:sG)(f103:tP)(a0 a1:Ab (.pair (.bool) (.pair (.slice (.int .u64)) (.pair (.int .i64) (.unit))))):Option (DenS LL):=bif(p103 ((a0.1,a0.2),()))then(bif((f103 ((a0.1,a0.2),())).1 !=(0:Int))then(some (f103 ((a0.1,a0.2),())))else bif(p103 ((a1.1,a1.2),()))then(some (f103 ((a1.1,a1.2),())))else none)else none
theorem r99(x:DenS Ld):run (cf [(253,⟨KN,Lf,p103,f103⟩)] []) 9 249 Tryz.f249 Ld LL x=t99 p103 f103 x.1 x.2.1:=by kernel_rfl
def T99(x:DenS Ld):Option (DenS LL):=t99 SU.pre SU.F x.1 x.2.1
def S7:Sum:=Aj Ld LL T99 (DenS.dflt LL)
theorem aBZ:Sound Tryz.prog G1 249 S7:=sd (cf [(253,SU)] []) 249 Tryz.f249 ⟨aBh,trivial⟩ trivial Ld LL T99 _ (fun _=>r99 ..)
abbrev tO:=Ae Ld
abbrev uR:=Ad Ld LL
variable (p99:tO)(f99:uR)
abbrev Hx:Aa:=[(true,.pair (.bool) (.pair (.slice (.int .u64)) (.pair (.int .i64) (.unit))))]
abbrev HE:Aa:=[(true,.pair (.bool) (.pair (.slice (.int .u64)) (.pair (.int .i64) (.unit))))]
abbrev HL:Pat:=⟨42,[(4,.one (.v .i64)),(3,.one (.sl (.int .u64))),(1,.one (.ptr 0 0)),(2,.one (.ptr 1 0))],[.raw [.bool,.sl (.int .u64),.v .i64],.raw [.bool,.sl (.int .u64),.v .i64]]⟩
abbrev cK:List (Nat×Shape):=[]
abbrev Mx:List (Nat×Pat):=[(0,⟨42,[(4,.one (.v .i64)),(3,.one (.sl (.int .u64))),(1,.one (.ptr 0 0)),(2,.one (.ptr 1 0))],[.raw [.bool,.sl (.int .u64),.v .i64],.raw [.bool,.sl (.int .u64),.v .i64]]⟩)]
abbrev LP:Option Pat:=none
variable (w100_5:Pat.D HL->Option (Ah Mx LP))
def aB(p102:G4)(f102:G7)(p92:Kb)(f92:Kh)(p141:RX)(f141:R0){R:Type}(L:Pat.D HL->Option R)(e:Ah Mx LP->Option R)(x:Pat.D HL):Option R:=bif((decide ((0:Int)<=(BK .i64 x.1.1 (64:Int))))&&(decide ((BK .i64 x.1.1 (64:Int))<(x.1.2.1.length:Int))))then(bif((x.1.2.1.getD (ai (BK .i64 x.1.1 (64:Int))) (0:Int))==(0:Int))then(((L (((aa .i64 (x.1.1+(64:Int))),x.1.2.1,(),(),()),x.2))))else(e (.inl ((x.1.1,x.1.2.1,(),(),()),x.2))))else none
theorem bCy(d:Nat)(R:Type)(L:Pat.D HL->Option R)(e:Ah Mx LP->Option R)(x:Pat.D HL):
  BC (cf [(122,⟨E7,Fg,p102,f102⟩),(191,⟨GF,GR,p92,f92⟩),(103,⟨HA,HH,p141,f141⟩)] [(252,5,LoopSpec.of HL cK Mx LP w100_5)]) (d+2) 252 (Bw Tryz.f252 5) HL cK Mx LP (R:=R) L e x=aB p102 f102 p92 f92 p141 f141 L e x:=by kernel_rfl
theorem aWR(p102:G4)(f102:G7)(p92:Kb)(f92:Kh)(p141:RX)(f141:R0):Bq fun L e x=>aB p102 f102 p92 f92 p141 f141 L e x:=by intro _ _ _ _ _ _ _ h0 hL he _;unfold aB;repeat' (first|exact h0|exact hL _|exact he _|apply BM|(apply BN h0;intro _)|(apply BO<;>intro _))
def aMs(p102:G4)(f102:G7)(p92:Kb)(f92:Kh)(p141:RX)(f141:R0)(w100_5:Pat.D HL->Option (Ah Mx LP))(a0:Ab (.pair (.bool) (.pair (.slice (.int .u64)) (.pair (.int .i64) (.unit))))):Option (DenS HE):=
 bif(p102 (a0.2.1,()))then(bif(((f102 (a0.2.1,())).1.length:Int)==(0:Int))then(some ((false,[],(0:Int),()),()))
 else Vx.A3 (w100_5 (((0:Int),(f102 (a0.2.1,())).1,(),(),()),(a0.1,a0.2),(false,[],(0:Int),()),())) fun y2=>
 Vx.A2 y2 (fun y3=>
 bif((decide ((0:Int)<=(BK .i64 y3.1.1 (64:Int))))&&(decide ((BK .i64 y3.1.1 (64:Int))<(y3.1.2.1.length:Int))))then(bif(p92 ((y3.1.2.1.getD (ai (BK .i64 y3.1.1 (64:Int))) (0:Int)),()))then(bif(p141 (y3.1.2.1,(aa .i64 (y3.1.1+(f92 ((y3.1.2.1.getD (ai (BK .i64 y3.1.1 (64:Int))) (0:Int)),())).1)),()))then(some ((y3.2.1.1,(f141 (y3.1.2.1,(aa .i64 (y3.1.1+(f92 ((y3.1.2.1.getD (ai (BK .i64 y3.1.1 (64:Int))) (0:Int)),())).1)),())).1,(aa .i64 (y3.2.1.2.2.1+(aa .i64 (y3.1.1+(f92 ((y3.1.2.1.getD (ai (BK .i64 y3.1.1 (64:Int))) (0:Int)),())).1)))),()),()))
 else none)
 else none)
 else none) (fun z3=>
 none))
 else none
theorem aY0(x:DenS Hx):run (cf [(122,⟨E7,Fg,p102,f102⟩),(191,⟨GF,GR,p92,f92⟩),(103,⟨HA,HH,p141,f141⟩)] [(252,5,LoopSpec.of HL cK Mx LP w100_5)]) 9 252 Tryz.f252 Hx HE x=aMs p102 f102 p92 f92 p141 f141 w100_5 x.1:=by kernel_rfl
def aDM:HL.D->Option (Ah Mx LP):=Bf fun L=>aB Cc.pre Cc.F Cv.pre Cv.F DB.pre DB.F L some
def aB1(x:DenS Hx):Option (DenS HE):=aMs Cc.pre Cc.F Cv.pre Cv.F DB.pre DB.F aDM x.1
def F3:Sum:=Aj Hx HE aB1 (DenS.dflt HE)
theorem d0:Sound Tryz.prog G1 252 F3:=sd (cf [(122,Cc),(191,Cv),(103,DB)] [(252,5,LoopSpec.of HL cK Mx LP aDM)]) 252 Tryz.f252 ⟨Xk,rV,rF,trivial⟩ ⟨rfl,fun d=>BL (fun L e x=>aB Cc.pre Cc.F Cv.pre Cv.F DB.pre DB.F L e x) (aWR Cc.pre Cc.F Cv.pre Cv.F DB.pre DB.F) (fun _ _ _ _=>bCy ..),trivial⟩ Hx HE aB1 _ (fun _=>aY0 ..)
abbrev Zb:=Ae Hx
abbrev Zo:=Ad Hx HE
variable (p100:Zb)(f100:Zo)
abbrev I3:Aa:=[(false,.slice (.int .u64)),(false,.slice (.int .u64))]
abbrev Jp:Aa:=[(false,.slice (.int .u64))]
abbrev Fl:Pat:=⟨84,[(25,.one (.v .i64)),(24,.one (.sl (.int .u64))),(1,.one (.sl (.int .u64))),(26,.one (.v .i64)),(5,.one (.own 0))],[.arr (.int .u64)]⟩
abbrev W9:List (Nat×Shape):=[]
abbrev J1:List (Nat×Pat):=[(0,⟨84,[(5,.one (.own 0))],[.arr (.int .u64)]⟩)]
abbrev JH:Option Pat:=none
abbrev Fo:Pat:=⟨84,[(32,.one (.v .i64)),(31,.one (.sl (.int .u64))),(7,.one (.v .u64)),(33,.one (.v .i64)),(6,.one (.v .i64)),(8,.one (.v .u64)),(26,.one (.v .i64)),(25,.one (.v .i64)),(24,.one (.sl (.int .u64))),(1,.one (.sl (.int .u64))),(5,.one (.own 0))],[.arr (.int .u64)]⟩
abbrev Xa:List (Nat×Shape):=[]
abbrev G3:List (Nat×Pat):=[(2,⟨84,[(6,.one (.v .i64)),(8,.one (.v .u64)),(26,.one (.v .i64)),(25,.one (.v .i64)),(24,.one (.sl (.int .u64))),(1,.one (.sl (.int .u64))),(5,.one (.own 0))],[.arr (.int .u64)]⟩)]
abbrev GZ:Option Pat:=none
variable (w324_4:Pat.D Fl->Option (Ah J1 JH))(w324_8:Pat.D Fo->Option (Ah G3 GZ))
def V6(p315:EK)(f315:EM)(p155:C6)(f155:C7)(p173:AZ)(f173:A1){R:Type}(L:Pat.D Fo->Option R)(e:Ah G3 GZ->Option R)(x:Pat.D Fo):Option R:=let e10_:=(x.1.2.2.1,(x.1.2.1.getD (ai x.1.2.2.2.1) (0:Int)),());let e8_:=(f315 e10_);let e11_:=(aa .i64 (x.1.2.2.2.2.1+x.1.2.2.2.1));let e9_:=(ai e11_);let e7_:=(f155 (e8_.2.1,(x.2.1.getD e9_ (0:Int)),(0:Int),()));let e1_:=(f155 (e7_.1,x.1.2.2.2.2.2.1,(0:Int),()));let e2_:=e7_;let e3_:=((decide ((0:Int)<=e11_))&&(decide (e11_<(x.2.1.length:Int))));let e4_:=(x.1.2.2.2.2.2.2.1,x.1.2.2.2.2.2.2.2.1,x.1.2.2.2.2.2.2.2.2.1,x.1.2.2.2.2.2.2.2.2.2.1,(),());let e5_:=e8_;let e6_:=e9_;bif(decide (x.1.2.2.2.1<x.1.1))then(bif((decide ((0:Int)<=x.1.2.2.2.1))&&(decide (x.1.2.2.2.1<(x.1.2.1.length:Int))))then(bif(p315 e10_)then(bif e3_ then(bif(p155 (e5_.2.1,(x.2.1.getD e6_ (0:Int)),(0:Int),()))then(bif(p155 (e2_.1,x.1.2.2.2.2.2.1,(0:Int),()))then(bif e3_ then(((L ((x.1.1,x.1.2.1,x.1.2.2.1,(aa .i64 (x.1.2.2.2.1+(1:Int))),x.1.2.2.2.2.1,(aa .u64 ((aa .u64 (e5_.1+e2_.2.1))+e1_.2.1)),e4_),(x.2.1.set e6_ e1_.1),()))))else none)else none)else none)else none)else none)else none)else(e (.inl ((x.1.2.2.2.2.1,x.1.2.2.2.2.2.1,e4_),x.2)))
theorem bCR(d:Nat)(R:Type)(L:Pat.D Fo->Option R)(e:Ah G3 GZ->Option R)(x:Pat.D Fo):
  BC (cf [(120,⟨Ex,EC,p315,f315⟩),(94,⟨EW,Fh,p155,f155⟩),(93,⟨Bz,BA,p173,f173⟩)] [(102,4,LoopSpec.of Fl W9 J1 JH w324_4),(102,8,LoopSpec.of Fo Xa G3 GZ w324_8)]) (d+2) 102 (Bw Tryz.f102 8) Fo Xa G3 GZ (R:=R) L e x=V6 p315 f315 p155 f155 p173 f173 L e x:=by kernel_rfl
theorem aKj(p315:EK)(f315:EM)(p155:C6)(f155:C7)(p173:AZ)(f173:A1):Bq fun L e x=>V6 p315 f315 p155 f155 p173 f173 L e x:=by intro _ _ _ _ _ _ _ h0 hL he _;unfold V6;repeat' (first|exact h0|exact hL _|exact he _|apply BM|(apply BN h0;intro _)|(apply BO<;>intro _))
def V5(p315:EK)(f315:EM)(p155:C6)(f155:C7)(p173:AZ)(f173:A1)(w324_8:Pat.D Fo->Option (Ah G3 GZ)){R:Type}(L:Pat.D Fl->Option R)(e:Ah J1 JH->Option R)(x:Pat.D Fl):Option R:=
 bif(decide (x.1.2.2.2.1<x.1.1))then(bif((decide ((0:Int)<=x.1.2.2.2.1))&&(decide (x.1.2.2.2.1<(x.1.2.1.length:Int))))then(Vx.A3 (w324_8 (((x.1.2.2.1.length:Int),x.1.2.2.1,(x.1.2.1.getD (ai x.1.2.2.2.1) (0:Int)),(0:Int),x.1.2.2.2.1,(0:Int),x.1.2.2.2.1,x.1.1,x.1.2.1,x.1.2.2.1,(),()),x.2)) fun y2=>
 Vx.A2 y2 (fun y3=>
 bif((decide ((0:Int)<=(aa .i64 (y3.1.1+(y3.1.2.2.2.2.2.1.length:Int)))))&&(decide ((aa .i64 (y3.1.1+(y3.1.2.2.2.2.2.1.length:Int)))<(y3.2.1.length:Int))))then(((L ((y3.1.2.2.2.1,y3.1.2.2.2.2.1,y3.1.2.2.2.2.2.1,(aa .i64 (y3.1.2.2.1+(1:Int))),(),()),(y3.2.1.set (ai (aa .i64 (y3.1.1+(y3.1.2.2.2.2.2.1.length:Int)))) y3.1.2.1),()))))
 else none) (fun z3=>
 none))
 else none)
 else(e (.inl (((),()),x.2)))
theorem bCQ(d:Nat)(R:Type)(L:Pat.D Fl->Option R)(e:Ah J1 JH->Option R)(x:Pat.D Fl):
  BC (cf [(120,⟨Ex,EC,p315,f315⟩),(94,⟨EW,Fh,p155,f155⟩),(93,⟨Bz,BA,p173,f173⟩)] [(102,4,LoopSpec.of Fl W9 J1 JH w324_4),(102,8,LoopSpec.of Fo Xa G3 GZ w324_8)]) (d+2) 102 (Bw Tryz.f102 4) Fl W9 J1 JH (R:=R) L e x=V5 p315 f315 p155 f155 p173 f173 w324_8 L e x:=by kernel_rfl
theorem aKi(p315:EK)(f315:EM)(p155:C6)(f155:C7)(p173:AZ)(f173:A1)(w324_8:Pat.D Fo->Option (Ah G3 GZ)):Bq fun L e x=>V5 p315 f315 p155 f155 p173 f173 w324_8 L e x:=by intro _ _ _ _ _ _ _ h0 hL he _;unfold V5;repeat' (first|exact h0|exact hL _|exact he _|apply BM|(apply BN h0;intro _)|(apply BO<;>intro _))
def n0(p315:EK)(f315:EM)(p155:C6)(f155:C7)(p173:AZ)(f173:A1)(w324_4:Pat.D Fl->Option (Ah J1 JH))(w324_8:Pat.D Fo->Option (Ah G3 GZ))(a0 a1:Ab (.slice (.int .u64))):Option (DenS Jp):=
 let e1_:=(aa .i64 (((f173 (a0,())).1.length:Int)+((f173 (a1,())).1.length:Int)))
 bif(p173 (a0,()))then(bif(p173 (a1,()))then(bif((decide ((0:Int)<=e1_))&&(decide ((e1_*(8:Int))<=(140737488355328:Int))))then(Vx.A3 (w324_4 ((((f173 (a0,())).1.length:Int),(f173 (a0,())).1,(f173 (a1,())).1,(0:Int),(),()),(ar (ai e1_) (0:Int)),())) fun y3=>
 Vx.A2 y3 (fun y4=>
 bif(p173 y4.2)then(some (f173 y4.2))
 else none) (fun z4=>
 none))
 else none)
 else none)
 else none
theorem aZ5(x:DenS I3):run (cf [(120,⟨Ex,EC,p315,f315⟩),(94,⟨EW,Fh,p155,f155⟩),(93,⟨Bz,BA,p173,f173⟩)] [(102,4,LoopSpec.of Fl W9 J1 JH w324_4),(102,8,LoopSpec.of Fo Xa G3 GZ w324_8)]) 9 102 Tryz.f102 I3 Jp x=n0 p315 f315 p155 f155 p173 f173 w324_4 w324_8 x.1 x.2.1:=by kernel_rfl
def RV:Fo.D->Option (Ah G3 GZ):=Bf fun L=>V6 AN.pre AN.F Az.pre Az.F Ag.pre Ag.F L some
def Y6:Fl.D->Option (Ah J1 JH):=Bf fun L=>V5 AN.pre AN.F Az.pre Az.F Ag.pre Ag.F RV L some
def Yd(x:DenS I3):Option (DenS Jp):=n0 AN.pre AN.F Az.pre Az.F Ag.pre Ag.F Y6 RV x.1 x.2.1
def Dl:Sum:=Aj I3 Jp Yd (DenS.dflt Jp)
theorem aBv:Sound Tryz.prog G1 102 Dl:=sd (cf [(120,AN),(94,Az),(93,Ag)] [(102,4,LoopSpec.of Fl W9 J1 JH Y6),(102,8,LoopSpec.of Fo Xa G3 GZ RV)]) 102 Tryz.f102 ⟨eO,UA,DO,trivial⟩ ⟨rfl,fun d=>BL (fun L e x=>V5 AN.pre AN.F Az.pre Az.F Ag.pre Ag.F RV L e x) (aKi AN.pre AN.F Az.pre Az.F Ag.pre Ag.F RV) (fun _ _ _ _=>bCQ ..),⟨rfl,fun d=>BL (fun L e x=>V6 AN.pre AN.F Az.pre Az.F Ag.pre Ag.F L e x) (aKj AN.pre AN.F Az.pre Az.F Ag.pre Ag.F) (fun _ _ _ _=>bCR ..),trivial⟩⟩ I3 Jp Yd _ (fun _=>aZ5 ..)
abbrev U9:=Ae I3
abbrev Vj:=Ad I3 Jp
variable (p324:U9)(f324:Vj)
abbrev KY:Aa:=[(false,.slice (.int .u64)),(false,.slice (.int .u64))]
abbrev Ls:Aa:=[(false,.slice (.int .u64)),(false,.int .i64)]
def n4(p324:U9)(f324:Vj)(p185:J9)(f185:Kf)(a0 a1:Ab (.slice (.int .u64))):Option (DenS Ls):=bif(p185 ((a0::(a1::[])),()))then(bif(f185 ((a0::(a1::[])),())).1 then(some ([],(5:Int),()))else bif(p324 (a0,a1,()))then(bif(p185 (((f324 (a0,a1,())).1::[]),()))then(bif(f185 (((f324 (a0,a1,())).1::[]),())).1 then(some ([],(5:Int),()))else some ((f324 (a0,a1,())).1,(0:Int),()))else none)else none)else none
theorem aZ6(x:DenS KY):run (cf [(102,⟨I3,Jp,p324,f324⟩),(96,⟨Gz,GL,p185,f185⟩)] []) 9 95 Tryz.f95 KY Ls x=n4 p324 f324 p185 f185 x.1 x.2.1:=by kernel_rfl
def Ye(x:DenS KY):Option (DenS Ls):=n4 Dl.pre Dl.F Cp.pre Cp.F x.1 x.2.1
def F5:Sum:=Aj KY Ls Ye (DenS.dflt Ls)
theorem aBw:Sound Tryz.prog G1 95 F5:=sd (cf [(102,Dl),(96,Cp)] []) 95 Tryz.f95 ⟨aBv,eK,trivial⟩ trivial KY Ls Ye _ (fun _=>aZ6 ..)
abbrev iD:=Ae KY
abbrev iV:=Ad KY Ls
variable (p325:iD)(f325:iV)
abbrev IS:Aa:=[(true,.pair (.bool) (.pair (.slice (.int .u64)) (.pair (.int .i64) (.unit))))]
abbrev Jg:Aa:=[(true,.pair (.bool) (.pair (.slice (.int .u64)) (.pair (.int .i64) (.unit)))),(false,.int .i64)]
def aMv(p100:Zb)(f100:Zo)(a0:Ab (.pair (.bool) (.pair (.slice (.int .u64)) (.pair (.int .i64) (.unit))))):Option (DenS Jg):=bif(p100 ((a0.1,a0.2),()))then(bif(decide (((f100 ((a0.1,a0.2),())).1.2.1.length:Int)>(1024:Int)))then(some ((false,[],(0:Int),()),(5:Int),()))else bif((decide ((f100 ((a0.1,a0.2),())).1.2.2.1<(-(40000:Int))))||(decide ((f100 ((a0.1,a0.2),())).1.2.2.1>(40000:Int))))then(some ((false,[],(0:Int),()),(30:Int),()))else some ((f100 ((a0.1,a0.2),())).1,(0:Int),()))else none
theorem aY4(x:DenS IS):run (cf [(252,⟨Hx,HE,p100,f100⟩)] []) 9 250 Tryz.f250 IS Jg x=aMv p100 f100 x.1:=by kernel_rfl
def aB6(x:DenS IS):Option (DenS Jg):=aMv F3.pre F3.F x.1
def JP:Sum:=Aj IS Jg aB6 (DenS.dflt Jg)
theorem qZ:Sound Tryz.prog G1 250 JP:=sd (cf [(252,F3)] []) 250 Tryz.f250 ⟨d0,trivial⟩ trivial IS Jg aB6 _ (fun _=>aY4 ..)
abbrev g9:=Ae IS
abbrev iO:=Ad IS Jg
variable (p104:g9)(f104:iO)
abbrev Og:Aa:=[(true,.pair (.bool) (.pair (.slice (.int .u64)) (.pair (.int .i64) (.unit)))),(true,.pair (.bool) (.pair (.slice (.int .u64)) (.pair (.int .i64) (.unit))))]
abbrev P7:Aa:=[(true,.pair (.bool) (.pair (.slice (.int .u64)) (.pair (.int .i64) (.unit)))),(false,.int .i64)]
def aMR(p99:tO)(f99:uR)(p100:Zb)(f100:Zo)(p325:iD)(f325:iV)(p104:g9)(f104:iO)(a0 a1:Ab (.pair (.bool) (.pair (.slice (.int .u64)) (.pair (.int .i64) (.unit))))):Option (DenS P7):=let e4_:=((f100 ((a0.1,a0.2),())).1.2.1,(f100 ((a1.1,a1.2),())).1.2.1,());let e3_:=(f325 e4_);let e1_:=(((!((f100 ((a0.1,a0.2),())).1.1==(f100 ((a1.1,a1.2),())).1.1)),e3_.1,(aa .i64 ((f100 ((a0.1,a0.2),())).1.2.2.1+(f100 ((a1.1,a1.2),())).1.2.2.1)),()),());let e2_:=e3_;bif(p99 ((a0.1,a0.2),(a1.1,a1.2),()))then(bif((f99 ((a0.1,a0.2),(a1.1,a1.2),())).1 !=(0:Int))then(some ((false,[],(0:Int),()),(f99 ((a0.1,a0.2),(a1.1,a1.2),()))))else bif(p100 ((a0.1,a0.2),()))then(bif(p100 ((a1.1,a1.2),()))then(bif(p325 e4_)then(bif(e2_.2.1 !=(0:Int))then(some ((false,[],(0:Int),()),e2_.2))else bif(p104 e1_)then(some (f104 e1_))else none)else none)else none)else none)else none
theorem bAp(x:DenS Og):run (cf [(249,⟨Ld,LL,p99,f99⟩),(252,⟨Hx,HE,p100,f100⟩),(95,⟨KY,Ls,p325,f325⟩),(250,⟨IS,Jg,p104,f104⟩)] []) 9 241 Tryz.f241 Og P7 x=aMR p99 f99 p100 f100 p325 f325 p104 f104 x.1 x.2.1:=by kernel_rfl
def aCG(x:DenS Og):Option (DenS P7):=aMR S7.pre S7.F F3.pre F3.F F5.pre F5.F JP.pre JP.F x.1 x.2.1
def eU:Sum:=Aj Og P7 aCG (DenS.dflt P7)
theorem aQw:Sound Tryz.prog G1 241 eU:=sd (cf [(249,S7),(252,F3),(95,F5),(250,JP)] []) 241 Tryz.f241 ⟨aBZ,d0,aBw,qZ,trivial⟩ trivial Og P7 aCG _ (fun _=>bAp ..)
abbrev aEG:=Ae Og
abbrev aGq:=Ad Og P7
variable (p360:aEG)(f360:aGq)
abbrev Oy:Aa:=[(false,.int .i64),(false,.int .u64),(false,.int .u64)]
abbrev Qh:Aa:=[(true,.pair (.bool) (.pair (.bool) (.pair (.bool) (.pair (.bool) (.pair (.bool) (.pair (.pair (.bool) (.pair (.slice (.int .u64)) (.pair (.int .i64) (.unit)))) (.unit)))))))]
def aMZ(p398:sT)(f398:t6)(p47:tJ)(f47:uM)(p360:aEG)(f360:aGq)(a0:Ab (.int .i64))(a1 a2:Ab (.int .u64)):Option (DenS Qh):=let e7_:=(((f398 (a0,a1,())).1.2.2.2.1&&(!(f398 (a0,a2,())).1.2.2.2.1))&&((f47 (f398 (a0,a2,())).1.2.2.2.2.2).1==(0:Int)));let e1_:=(e7_||(((f398 (a0,a2,())).1.2.2.2.1&&(!(f398 (a0,a1,())).1.2.2.2.1))&&((f47 (f398 (a0,a1,())).1.2.2.2.2.2).1==(0:Int))));let e8_:=(!((f398 (a0,a1,())).1.2.2.2.2.1==(f398 (a0,a2,())).1.2.2.2.2.1));let e2_:=(e8_,(false,[],(0:Int),()),());let e3_:=((f398 (a0,a1,())).1.2.2.2.2.2.1,(f398 (a0,a2,())).1.2.2.2.2.2);let e4_:=((f398 (a0,a1,())).1.2.2.2.1||(f398 (a0,a2,())).1.2.2.2.1);let e5_:=((f398 (a0,a1,())).1.2.1||(f398 (a0,a2,())).1.2.1);let e6_:=((f398 (a0,a1,())).1.1||(f398 (a0,a2,())).1.1);bif(p398 (a0,a1,()))then(bif(p398 (a0,a2,()))then(bif e6_ then(some ((e6_,e5_,false,false,e2_),()))else bif((p47 (f398 (a0,a2,())).1.2.2.2.2.2)||(!(bif(f398 (a0,a1,())).1.2.2.2.1 then(!(f398 (a0,a2,())).1.2.2.2.1)else false)))then(bif((p47 (f398 (a0,a1,())).1.2.2.2.2.2)||(!((bif e7_ then false else true)&&(bif(f398 (a0,a2,())).1.2.2.2.1 then(!(f398 (a0,a1,())).1.2.2.2.1)else false))))then(bif(!e4_)then(bif(p360 e3_)then(some ((e6_,e5_,e1_,e4_,e8_,(f360 e3_).1,()),()))else none)else some ((e6_,e5_,e1_,e4_,e2_),()))else none)else none)else none)else none
theorem bAE(x:DenS Oy):run (cf [(212,⟨K3,Ly,p398,f398⟩),(240,⟨K9,LG,p47,f47⟩),(241,⟨Og,P7,p360,f360⟩)] []) 9 211 Tryz.f211 Oy Qh x=aMZ p398 f398 p47 f47 p360 f360 x.1 x.2.1 x.2.2.1:=by kernel_rfl
def aCQ(x:DenS Oy):Option (DenS Qh):=aMZ SZ.pre SZ.F S5.pre S5.F eU.pre eU.F x.1 x.2.1 x.2.2.1
def fA:Sum:=Aj Oy Qh aCQ (DenS.dflt Qh)
theorem aQH:Sound Tryz.prog G1 211 fA:=sd (cf [(212,SZ),(240,S5),(241,eU)] []) 211 Tryz.f211 ⟨aBE,aBX,aQw,trivial⟩ trivial Oy Qh aCQ _ (fun _=>bAE ..)
abbrev aER:=Ae Oy
abbrev aGB:=Ad Oy Qh
variable (p399:aER)(f399:aGB)
abbrev NU:Aa:=[(false,.slice (.int .u64)),(false,.int .i64)]
abbrev PK:Aa:=[(false,.slice (.int .u64))]
abbrev HU:Pat:=⟨57,[(25,.one (.v .i64)),(24,.one (.sl (.int .u64))),(5,.one (.v .i64)),(6,.one (.v .u64)),(26,.one (.v .i64)),(7,.one (.own 0))],[.arr (.int .u64)]⟩
abbrev cW:List (Nat×Shape):=[]
abbrev MH:List (Nat×Pat):=[(0,⟨57,[(7,.one (.own 0))],[.arr (.int .u64)]⟩)]
abbrev L3:Option Pat:=none
variable (w172_6:Pat.D HU->Option (Ah MH L3))
def aC(p102:G4)(f102:G7){R:Type}(L:Pat.D HU->Option R)(e:Ah MH L3->Option R)(x:Pat.D HU):Option R:=let e6_:=(aa .i64 (x.1.2.2.1+x.1.2.2.2.2.1));let e5_:=(ai e6_);let e7_:=(x.1.2.1.getD (ai x.1.2.2.2.2.1) (0:Int));let e1_:=(x.2.1.set e5_ (Aq .u64 (x.2.1.getD e5_ (0:Int)) (AQ .u64 e7_ x.1.2.2.2.1)));let e2_:=((decide ((0:Int)<=e6_))&&(decide (e6_<(x.2.1.length:Int))));let e3_:=(x.1.1,x.1.2.1,x.1.2.2.1,x.1.2.2.2.1,(aa .i64 (x.1.2.2.2.2.1+(1:Int))),(),());let e4_:=(aa .i64 (e6_+(1:Int)));bif(decide (x.1.2.2.2.2.1<x.1.1))then(bif((decide ((0:Int)<=x.1.2.2.2.2.1))&&(decide (x.1.2.2.2.2.1<(x.1.2.1.length:Int))))then(bif e2_ then(bif e2_ then(bif(decide (x.1.2.2.2.1>(0:Int)))then(bif((decide ((0:Int)<=e4_))&&(decide (e4_<(e1_.length:Int))))then(((L (e3_,(e1_.set (ai e4_) (AE .u64 e7_ (aa .u64 ((64:Int)-x.1.2.2.2.1)))),()))))else none)else(L (e3_,e1_,())))else none)else none)else none)else(e (.inl (((),()),x.2)))
theorem bCI(d:Nat)(R:Type)(L:Pat.D HU->Option R)(e:Ah MH L3->Option R)(x:Pat.D HU):
  BC (cf [(122,⟨E7,Fg,p102,f102⟩)] [(256,6,LoopSpec.of HU cW MH L3 w172_6)]) (d+2) 256 (Bw Tryz.f256 6) HU cW MH L3 (R:=R) L e x=aC p102 f102 L e x:=by kernel_rfl
theorem aWS(p102:G4)(f102:G7):Bq fun L e x=>aC p102 f102 L e x:=by intro _ _ _ _ _ _ _ h0 hL he _;unfold aC;repeat' (first|exact h0|exact hL _|exact he _|apply BM|(apply BN h0;intro _)|(apply BO<;>intro _))
def aMF(p102:G4)(f102:G7)(w172_6:Pat.D HU->Option (Ah MH L3))(a0:Ab (.slice (.int .u64)))(a1:Ab (.int .i64)):Option (DenS PK):=
 let e1_:=(aa .i64 ((aa .i64 ((BK .i64 a1 (64:Int))+(a0.length:Int)))+(1:Int)))
 bif((a0.length:Int)==(0:Int))then(some ([],()))
 else bif((decide ((0:Int)<=e1_))&&(decide ((e1_*(8:Int))<=(140737488355328:Int))))then(Vx.A3 (w172_6 (((a0.length:Int),a0,(BK .i64 a1 (64:Int)),(aa .u64 (iu a1 (64:Int))),(0:Int),(),()),(ar (ai e1_) (0:Int)),())) fun y2=>
 Vx.A2 y2 (fun y3=>
 bif(p102 y3.2)then(some (f102 y3.2))
 else none) (fun z3=>
 none))
 else none
theorem aZH(x:DenS NU):run (cf [(122,⟨E7,Fg,p102,f102⟩)] [(256,6,LoopSpec.of HU cW MH L3 w172_6)]) 9 256 Tryz.f256 NU PK x=aMF p102 f102 w172_6 x.1 x.2.1:=by kernel_rfl
def aDN:HU.D->Option (Ah MH L3):=Bf fun L=>aC Cc.pre Cc.F L some
def aCn(x:DenS NU):Option (DenS PK):=aMF Cc.pre Cc.F aDN x.1 x.2.1
def eJ:Sum:=Aj NU PK aCn (DenS.dflt PK)
theorem aP9:Sound Tryz.prog G1 256 eJ:=sd (cf [(122,Cc)] [(256,6,LoopSpec.of HU cW MH L3 aDN)]) 256 Tryz.f256 ⟨Xk,trivial⟩ ⟨rfl,fun d=>BL (fun L e x=>aC Cc.pre Cc.F L e x) (aWS Cc.pre Cc.F) (fun _ _ _ _=>bCI ..),trivial⟩ NU PK aCn _ (fun _=>aZH ..)
abbrev aEm:=Ae NU
abbrev aF6:=Ad NU PK
variable (p172:aEm)(f172:aF6)
abbrev NO:Aa:=[(true,.pair (.bool) (.pair (.slice (.int .u64)) (.pair (.int .i64) (.unit)))),(true,.pair (.bool) (.pair (.slice (.int .u64)) (.pair (.int .i64) (.unit))))]
abbrev PD:Aa:=[(false,.slice (.int .u64)),(false,.slice (.int .u64)),(false,.int .i64)]
def aMD(p172:aEm)(f172:aF6)(a0 a1:Ab (.pair (.bool) (.pair (.slice (.int .u64)) (.pair (.int .i64) (.unit))))):Option (DenS PD):=let e3_:=(if(a1.2.2.1<a0.2.2.1)then a1.2.2.1 else a0.2.2.1);let e1_:=(a0.2.1,(aa .i64 (a0.2.2.1-e3_)),());let e2_:=(a1.2.1,(aa .i64 (a1.2.2.1-e3_)),());bif(p172 e1_)then(bif(p172 e2_)then(some ((f172 e1_).1,(f172 e2_).1,e3_,()))else none)else none
theorem aZs(x:DenS NO):run (cf [(256,⟨NU,PK,p172,f172⟩)] []) 9 255 Tryz.f255 NO PD x=aMD p172 f172 x.1 x.2.1:=by kernel_rfl
def aCj(x:DenS NO):Option (DenS PD):=aMD eJ.pre eJ.F x.1 x.2.1
def eE:Sum:=Aj NO PD aCj (DenS.dflt PD)
theorem aP1:Sound Tryz.prog G1 255 eE:=sd (cf [(256,eJ)] []) 255 Tryz.f255 ⟨aP9,trivial⟩ trivial NO PD aCj _ (fun _=>aZs ..)
abbrev aEg:=Ae NO
abbrev aF0:=Ad NO PD
variable (p142:aEg)(f142:aF0)
abbrev NH:Aa:=[(true,.pair (.bool) (.pair (.slice (.int .u64)) (.pair (.int .i64) (.unit)))),(true,.pair (.bool) (.pair (.slice (.int .u64)) (.pair (.int .i64) (.unit))))]
abbrev Pu:Aa:=[(true,.pair (.bool) (.pair (.slice (.int .u64)) (.pair (.int .i64) (.unit))))]
def aMt(p142:aEg)(f142:aF0)(p143:Gg)(f143:Gj)(p144:E2)(f144:E3)(p145:U7)(f145:Vh)(p100:Zb)(f100:Zo)(a0 a1:Ab (.pair (.bool) (.pair (.slice (.int .u64)) (.pair (.int .i64) (.unit))))):Option (DenS Pu):=let e5_:=((f142 ((a0.1,a0.2),(a1.1,a1.2),())).1,(f142 ((a0.1,a0.2),(a1.1,a1.2),())).2.1,());let e1_:=((a0.1,(f143 e5_).1,(f142 ((a0.1,a0.2),(a1.1,a1.2),())).2.2),());let e6_:=((f142 ((a0.1,a0.2),(a1.1,a1.2),())).2.1,(f142 ((a0.1,a0.2),(a1.1,a1.2),())).1,());let e2_:=((a1.1,(f145 e6_).1,(f142 ((a0.1,a0.2),(a1.1,a1.2),())).2.2),());let e3_:=((a0.1,(f145 e5_).1,(f142 ((a0.1,a0.2),(a1.1,a1.2),())).2.2),());let e4_:=e5_;bif((a0.2.1.length:Int)==(0:Int))then(some ((a1.1,a1.2),()))else bif((a1.2.1.length:Int)==(0:Int))then(some ((a0.1,a0.2),()))else bif(p142 ((a0.1,a0.2),(a1.1,a1.2),()))then(bif(a0.1==a1.1)then(bif(p143 e4_)then(bif(p100 e1_)then(some (f100 e1_))else none)else none)else bif(p144 e4_)then(bif(decide ((f144 e4_).1<(0:Int)))then(bif(p145 e6_)then(bif(p100 e2_)then(some (f100 e2_))else none)else none)else bif(p145 e4_)then(bif(p100 e3_)then(some (f100 e3_))else none)else none)else none)else none
theorem aY1(x:DenS NH):run (cf [(255,⟨NO,PD,p142,f142⟩),(65,⟨E8,E0,p143,f143⟩),(101,⟨Eu,EA,p144,f144⟩),(248,⟨I1,Jn,p145,f145⟩),(252,⟨Hx,HE,p100,f100⟩)] []) 9 251 Tryz.f251 NH Pu x=aMt p142 f142 p143 f143 p144 f144 p145 f145 p100 f100 x.1 x.2.1:=by kernel_rfl
def aB2(x:DenS NH):Option (DenS Pu):=aMt eE.pre eE.F BE.pre BE.F AU.pre AU.F DN.pre DN.F F3.pre F3.F x.1 x.2.1
def eA:Sum:=Aj NH Pu aB2 (DenS.dflt Pu)
theorem aPR:Sound Tryz.prog G1 251 eA:=sd (cf [(255,eE),(65,BE),(101,AU),(248,DN),(252,F3)] []) 251 Tryz.f251 ⟨aP1,Xm,Uw,aBm,d0,trivial⟩ trivial NH Pu aB2 _ (fun _=>aY1 ..)
abbrev aD6:=Ae NH
abbrev aFQ:=Ad NH Pu
variable (p101:aD6)(f101:aFQ)
abbrev Pg:Aa:=[(true,.pair (.bool) (.pair (.slice (.int .u64)) (.pair (.int .i64) (.unit)))),(true,.pair (.bool) (.pair (.slice (.int .u64)) (.pair (.int .i64) (.unit))))]
abbrev QW:Aa:=[(true,.pair (.bool) (.pair (.slice (.int .u64)) (.pair (.int .i64) (.unit)))),(false,.int .i64)]
def t49(p99:tO)(f99:uR)(p100:Zb)(f100:Zo)(p101:aD6)(f101:aFQ)(p104:g9)(f104:iO)(a0 a1:Ab (.pair (.bool) (.pair (.slice (.int .u64)) (.pair (.int .i64) (.unit))))):Option (DenS QW):=let e2_:=((f100 ((a0.1,a0.2),())).1,(f100 ((a1.1,a1.2),())));let e1_:=(f101 e2_);bif(p99 ((a0.1,a0.2),(a1.1,a1.2),()))then(bif((f99 ((a0.1,a0.2),(a1.1,a1.2),())).1 !=(0:Int))then(some ((false,[],(0:Int),()),(f99 ((a0.1,a0.2),(a1.1,a1.2),()))))else bif(p100 ((a0.1,a0.2),()))then(bif(p100 ((a1.1,a1.2),()))then(bif(p101 e2_)then(bif(p104 e1_)then(some (f104 e1_))else none)else none)else none)else none)else none
theorem r49(x:DenS Pg):run (cf [(249,⟨Ld,LL,p99,f99⟩),(252,⟨Hx,HE,p100,f100⟩),(251,⟨NH,Pu,p101,f101⟩),(250,⟨IS,Jg,p104,f104⟩)] []) 9 239 Tryz.f239 Pg QW x=t49 p99 f99 p100 f100 p101 f101 p104 f104 x.1 x.2.1:=by kernel_rfl
def T49(x:DenS Pg):Option (DenS QW):=t49 S7.pre S7.F F3.pre F3.F eA.pre eA.F JP.pre JP.F x.1 x.2.1
def fS:Sum:=Aj Pg QW T49 (DenS.dflt QW)
theorem aRa:Sound Tryz.prog G1 239 fS:=sd (cf [(249,S7),(252,F3),(251,eA),(250,JP)] []) 239 Tryz.f239 ⟨aBZ,d0,aPR,qZ,trivial⟩ trivial Pg QW T49 _ (fun _=>r49 ..)
abbrev Y49:=Ae Pg
abbrev Z49:=Ad Pg QW
variable (p49:Y49)(f49:Z49)
abbrev NI:Aa:=[(true,.pair (.bool) (.pair (.slice (.int .u64)) (.pair (.int .i64) (.unit))))]
abbrev Pv:Aa:=[(true,.pair (.bool) (.pair (.slice (.int .u64)) (.pair (.int .i64) (.unit)))),(false,.int .i64)]
def aMw(p103:sG)(f103:tP)(p104:g9)(f104:iO)(a0:Ab (.pair (.bool) (.pair (.slice (.int .u64)) (.pair (.int .i64) (.unit))))):Option (DenS Pv):=bif(p103 ((a0.1,a0.2),()))then(bif((f103 ((a0.1,a0.2),())).1 !=(0:Int))then(some ((false,[],(0:Int),()),(f103 ((a0.1,a0.2),()))))else bif(p104 ((a0.1,a0.2),()))then(some (f104 ((a0.1,a0.2),())))else none)else none
theorem aY6(x:DenS NI):run (cf [(253,⟨KN,Lf,p103,f103⟩),(250,⟨IS,Jg,p104,f104⟩)] []) 9 246 Tryz.f246 NI Pv x=aMw p103 f103 p104 f104 x.1:=by kernel_rfl
def aB8(x:DenS NI):Option (DenS Pv):=aMw SU.pre SU.F JP.pre JP.F x.1
def eB:Sum:=Aj NI Pv aB8 (DenS.dflt Pv)
theorem aPS:Sound Tryz.prog G1 246 eB:=sd (cf [(253,SU),(250,JP)] []) 246 Tryz.f246 ⟨aBh,qZ,trivial⟩ trivial NI Pv aB8 _ (fun _=>aY6 ..)
abbrev aD7:=Ae NI
abbrev aFR:=Ad NI Pv
variable (p106:aD7)(f106:aFR)
abbrev Ja:Aa:=[(false,.int .i64),(false,.int .i64),(true,.pair (.bool) (.pair (.slice (.int .u64)) (.pair (.int .i64) (.unit))))]
abbrev JA:Aa:=[(false,.int .u64),(false,.int .i64),(false,.int .i64)]
def t51(p105:U5)(f105:Vf)(p106:aD7)(f106:aFR)(p107:U6)(f107:Vg)(a0 a1:Ab (.int .i64))(a2:Ab (.pair (.bool) (.pair (.slice (.int .u64)) (.pair (.int .i64) (.unit))))):Option (DenS JA):=let e2_:=(((f106 ((a2.1,a2.2),())).1.1,(f106 ((a2.1,a2.2),())).1.2.1,(f106 ((a2.1,a2.2),())).1.2.2.1,false,()),a0,(f105 (a0,a1,())).1,a1,());let e1_:=(f107 e2_);bif(p105 (a0,a1,()))then(bif((f105 (a0,a1,())).2.1 !=(0:Int))then(some ((0:Int),(0:Int),(f105 (a0,a1,())).2))else bif(p106 ((a2.1,a2.2),()))then(bif((f106 ((a2.1,a2.2),())).2.1 !=(0:Int))then(some ((0:Int),(0:Int),(f106 ((a2.1,a2.2),())).2))else bif(((f106 ((a2.1,a2.2),())).1.2.1.length:Int)==(0:Int))then(some ((0:Int),(0:Int),(0:Int),()))else bif(p107 e2_)then(some (e1_.1,e1_.2.1,(0:Int),()))else none)else none)else none
theorem r51(x:DenS Ja):run (cf [(121,⟨IT,Jh,p105,f105⟩),(246,⟨NI,Pv,p106,f106⟩),(124,⟨IU,Ji,p107,f107⟩)] []) 9 231 Tryz.f231 Ja JA x=t51 p105 f105 p106 f106 p107 f107 x.1 x.2.1 x.2.2.1:=by kernel_rfl
def T51(x:DenS Ja):Option (DenS JA):=t51 Fp.pre Fp.F eB.pre eB.F Fq.pre Fq.F x.1 x.2.1 x.2.2.1
def JU:Sum:=Aj Ja JA T51 (DenS.dflt JA)
theorem rQ:Sound Tryz.prog G1 231 JU:=sd (cf [(121,Fp),(246,eB),(124,Fq)] []) 231 Tryz.f231 ⟨rA,aPS,rB,trivial⟩ trivial Ja JA T51 _ (fun _=>r51 ..)
abbrev iL:=Ae Ja
abbrev i5:=Ad Ja JA
variable (p51:iL)(f51:i5)
abbrev Oz:Aa:=[(false,.int .i64),(false,.int .i64),(true,.pair (.bool) (.pair (.bool) (.pair (.bool) (.pair (.bool) (.pair (.bool) (.pair (.pair (.bool) (.pair (.slice (.int .u64)) (.pair (.int .i64) (.unit)))) (.unit))))))),(true,.pair (.bool) (.pair (.bool) (.pair (.bool) (.pair (.bool) (.pair (.bool) (.pair (.pair (.bool) (.pair (.slice (.int .u64)) (.pair (.int .i64) (.unit)))) (.unit)))))))]
abbrev Qi:Aa:=[(false,.int .u64),(false,.int .i64),(false,.int .i64)]
def aM0(p70:Dp)(f70:Dq)(p97:Kc)(f97:Ki)(p49:Y49)(f49:Z49)(p47:tJ)(f47:uM)(p118:G5)(f118:G8)(p51:iL)(f51:i5)(a0 a1:Ab (.int .i64))(a2:Ab (.pair (.bool) (.pair (.bool) (.pair (.bool) (.pair (.bool) (.pair (.bool) (.pair (.pair (.bool) (.pair (.slice (.int .u64)) (.pair (.int .i64) (.unit)))) (.unit))))))))(a3:Ab (.pair (.bool) (.pair (.bool) (.pair (.bool) (.pair (.bool) (.pair (.bool) (.pair (.pair (.bool) (.pair (.slice (.int .u64)) (.pair (.int .i64) (.unit)))) (.unit)))))))):Option (DenS Qi):=let e1_:=(a0,a1,(f49 (a2.2.2.2.2.2.1,a3.2.2.2.2.2)).1,());let e2_:=((f70 (a0,())).1,(1:Int),(0:Int),());bif(p70 (a0,()))then(bif(((a2.2.1||a3.2.1)||a2.2.2.1)||a3.2.2.1)then(some e2_)else bif(a2.1||a3.1)then(some ((f70 (a0,())).1,(0:Int),(0:Int),()))else bif((a2.2.2.2.1&&a3.2.2.2.1)&&(!(a2.2.2.2.2.1==a3.2.2.2.2.1)))then(some e2_)else bif a2.2.2.2.1 then(bif(p97 (a0,a2.2.2.2.2.1,()))then(some ((f97 (a0,a2.2.2.2.2.1,())).1,(0:Int),(0:Int),()))else none)else bif a3.2.2.2.1 then(bif(p97 (a0,a3.2.2.2.2.1,()))then(some ((f97 (a0,a3.2.2.2.2.1,())).1,(0:Int),(0:Int),()))else none)else bif(p49 (a2.2.2.2.2.2.1,a3.2.2.2.2.2))then(bif((f49 (a2.2.2.2.2.2.1,a3.2.2.2.2.2)).2.1 !=(0:Int))then(some ((0:Int),(0:Int),(f49 (a2.2.2.2.2.2.1,a3.2.2.2.2.2)).2))else bif(p47 ((f49 (a2.2.2.2.2.2.1,a3.2.2.2.2.2)).1,()))then(bif((f47 ((f49 (a2.2.2.2.2.2.1,a3.2.2.2.2.2)).1,())).1==(0:Int))then(bif(p47 a2.2.2.2.2.2)then(bif((p47 a3.2.2.2.2.2)||(!(decide ((f47 a2.2.2.2.2.2).1=(0:Int)))))then(bif((((f47 a2.2.2.2.2.2).1==(0:Int))&&((f47 a3.2.2.2.2.2).1==(0:Int)))&&(a2.2.2.2.2.1==a3.2.2.2.2.1))then(bif(p118 (a0,a2.2.2.2.2.1,()))then(some ((f118 (a0,a2.2.2.2.2.1,())).1,(0:Int),(0:Int),()))else none)else bif(p118 (a0,(a1==(4:Int)),()))then(some ((f118 (a0,(a1==(4:Int)),())).1,(0:Int),(0:Int),()))else none)else none)else none)else bif(p51 e1_)then(some (f51 e1_))else none)else none)else none)else none
theorem bAG(x:DenS Oz):run (cf [(61,⟨Di,Dj,p70,f70⟩),(62,⟨FQ,FV,p97,f97⟩),(239,⟨Pg,QW,p49,f49⟩),(240,⟨K9,LG,p47,f47⟩),(64,⟨Es,EY,p118,f118⟩),(231,⟨Ja,JA,p51,f51⟩)] []) 9 210 Tryz.f210 Oz Qi x=aM0 p70 f70 p97 f97 p49 f49 p47 f47 p118 f118 p51 f51 x.1 x.2.1 x.2.2.1 x.2.2.2.1:=by kernel_rfl
def aCR(x:DenS Oz):Option (DenS Qi):=aM0 AS.pre AS.F Cq.pre Cq.F fS.pre fS.F S5.pre S5.F Bu.pre Bu.F JU.pre JU.F x.1 x.2.1 x.2.2.1 x.2.2.2.1
def fB:Sum:=Aj Oz Qi aCR (DenS.dflt Qi)
theorem aQI:Sound Tryz.prog G1 210 fB:=sd (cf [(61,AS),(62,Cq),(239,fS),(240,S5),(64,Bu),(231,JU)] []) 210 Tryz.f210 ⟨Gd,UE,aRa,aBX,SW,rQ,trivial⟩ trivial Oz Qi aCR _ (fun _=>bAG ..)
abbrev aES:=Ae Oz
abbrev aGC:=Ad Oz Qi
variable (p400:aES)(f400:aGC)
abbrev OA:Aa:=[(false,.int .i64),(false,.int .i64),(false,.int .u64),(false,.int .u64),(false,.int .u64)]
abbrev Qj:Aa:=[(false,.int .u64),(false,.int .i64),(false,.int .i64)]
def aM1(p397:aEQ)(f397:aGA)(p399:aER)(f399:aGB)(p398:sT)(f398:t6)(p400:aES)(f400:aGC)(a0 a1:Ab (.int .i64))(a2 a3 a4:Ab (.int .u64)):Option (DenS Qj):=let e1_:=(a0,a1,(f399 (a0,a2,a3,())).1,(f398 (a0,a4,())));let e2_:=(f397 (a0,a1,(a2::(a3::(a4::[]))),()));bif(p397 (a0,a1,(a2::(a3::(a4::[]))),()))then(bif(e2_.1 !=(0:Int))then(some ((0:Int),(0:Int),e2_))else bif(p399 (a0,a2,a3,()))then(bif(p398 (a0,a4,()))then(bif(p400 e1_)then(some (f400 e1_))else none)else none)else none)else none
theorem bAH(x:DenS OA):run (cf [(209,⟨Ox,Qg,p397,f397⟩),(211,⟨Oy,Qh,p399,f399⟩),(212,⟨K3,Ly,p398,f398⟩),(210,⟨Oz,Qi,p400,f400⟩)] []) 9 165 Tryz.f165 OA Qj x=aM1 p397 f397 p399 f399 p398 f398 p400 f400 x.1 x.2.1 x.2.2.1 x.2.2.2.1 x.2.2.2.2.1:=by kernel_rfl
def aCS(x:DenS OA):Option (DenS Qj):=aM1 eZ.pre eZ.F fA.pre fA.F SZ.pre SZ.F fB.pre fB.F x.1 x.2.1 x.2.2.1 x.2.2.2.1 x.2.2.2.2.1
def fC:Sum:=Aj OA Qj aCS (DenS.dflt Qj)
theorem aQJ:Sound Tryz.prog G1 165 fC:=sd (cf [(209,eZ),(211,fA),(212,SZ),(210,fB)] []) 165 Tryz.f165 ⟨aQG,aQH,aBE,aQI,trivial⟩ trivial OA Qj aCS _ (fun _=>bAH ..)
abbrev aET:=Ae OA
abbrev aGD:=Ad OA Qj
variable (p401:aET)(f401:aGD)
abbrev OB:Aa:=[(true,.pair (.int .i64) (.pair (.int .i64) (.pair (.int .u64) (.pair (.int .u64) (.pair (.int .u64) (.unit))))))]
abbrev Qk:Aa:=[(false,.int .u64),(false,.int .i64),(false,.int .i64)]
def aM2(p401:aET)(f401:aGD)(a0:Ab (.pair (.int .i64) (.pair (.int .i64) (.pair (.int .u64) (.pair (.int .u64) (.pair (.int .u64) (.unit))))))):Option (DenS Qk):=bif(p401 (a0.2.1,a0.1,a0.2.2))then(some (f401 (a0.2.1,a0.1,a0.2.2)))else none
theorem bAI(x:DenS OB):run (cf [(165,⟨OA,Qj,p401,f401⟩)] []) 9 164 Tryz.f164 OB Qk x=aM2 p401 f401 x.1:=by kernel_rfl
def aCT(x:DenS OB):Option (DenS Qk):=aM2 fC.pre fC.F x.1
def Xt:Sum:=Aj OB Qk aCT (DenS.dflt Qk)
theorem aBF:Sound Tryz.prog G1 164 Xt:=sd (cf [(165,fC)] []) 164 Tryz.f164 ⟨aQJ,trivial⟩ trivial OB Qk aCT _ (fun _=>bAI ..)
abbrev sU:=Ae OB
abbrev t7:=Ad OB Qk
variable (p402:sU)(f402:t7)
abbrev I7:Aa:=[(false,.int .i64),(false,.int .i64)]
abbrev Jv:Aa:=[(false,.int .i64)]
def aM3(p69:BF)(f69:BG)(a0 a1:Ab (.int .i64)):Option (DenS Jv):=bif(p69 (a0,()))then(bif((f69 (a0,())).2.1 !=(0:Int))then(some (f69 (a0,())).2)else bif((decide (a1<(0:Int)))||(decide (a1>(5:Int))))then(some ((3:Int),()))else some ((0:Int),()))else none
theorem bAJ(x:DenS I7):run (cf [(71,⟨BU,BV,p69,f69⟩)] []) 9 215 Tryz.f215 I7 Jv x=aM3 p69 f69 x.1 x.2.1:=by kernel_rfl
def aCU(x:DenS I7):Option (DenS Jv):=aM3 Ao.pre Ao.F x.1 x.2.1
def JS:Sum:=Aj I7 Jv aCU (DenS.dflt Jv)
theorem rJ:Sound Tryz.prog G1 215 JS:=sd (cf [(71,Ao)] []) 215 Tryz.f215 ⟨Do,trivial⟩ trivial I7 Jv aCU _ (fun _=>bAJ ..)
abbrev iH:=Ae I7
abbrev iZ:=Ad I7 Jv
variable (p403:iH)(f403:iZ)
abbrev K4:Aa:=[(false,.int .i64),(false,.int .u64)]
abbrev Lz:Aa:=[(true,.pair (.bool) (.pair (.int .u64) (.pair (.int .i64) (.unit))))]
def aM4(p69:BF)(f69:BG)(p98:Kd)(f98:Kj)(a0:Ab (.int .i64))(a1:Ab (.int .u64)):Option (DenS Lz):=let e1_:=(aa .i64 ((aa .i64 ((f69 (a0,())).1.2.2.1-(f69 (a0,())).1.2.1))+(1:Int)));let e2_:=(aa .i64 ((f69 (a0,())).1.2.1-(1:Int)));bif(p69 (a0,()))then(bif(p98 (a0,a1,()))then(bif(decide ((f98 (a0,a1,())).2.1>(0:Int)))then(bif(decide ((0:Int)<=e2_))then(some (((f98 (a0,a1,())).1,(Aq .u64 (f98 (a0,a1,())).2.2.1 (AQ .u64 (1:Int) e2_)),(aa .i64 (e1_+(aa .i64 ((aa .i64 (f98 (a0,a1,())).2.1)-(1:Int))))),()),()))else none)else some (((f98 (a0,a1,())).1,(f98 (a0,a1,())).2.2.1,e1_,()),()))else none)else none
theorem bAK(x:DenS K4):run (cf [(71,⟨BU,BV,p69,f69⟩),(91,⟨E9,Fk,p98,f98⟩)] []) 9 216 Tryz.f216 K4 Lz x=aM4 p69 f69 p98 f98 x.1 x.2.1:=by kernel_rfl
def aCV(x:DenS K4):Option (DenS Lz):=aM4 Ao.pre Ao.F B1.pre B1.F x.1 x.2.1
def S2:Sum:=Aj K4 Lz aCV (DenS.dflt Lz)
theorem aBG:Sound Tryz.prog G1 216 S2:=sd (cf [(71,Ao),(91,B1)] []) 216 Tryz.f216 ⟨Do,S6,trivial⟩ trivial K4 Lz aCV _ (fun _=>bAK ..)
abbrev sV:=Ae K4
abbrev t8:=Ad K4 Lz
variable (p404:sV)(f404:t8)
abbrev K5:Aa:=[(false,.int .i64),(true,.pair (.bool) (.pair (.int .u64) (.pair (.int .i64) (.unit))))]
abbrev LA:Aa:=[(false,.int .u64),(false,.bool)]
def aM5(a0:Ab (.int .i64))(a1:Ab (.pair (.bool) (.pair (.int .u64) (.pair (.int .i64) (.unit))))):Option (DenS LA):=let e10_:=(aa .i64 ((0:Int)-a1.2.2.1));let e9_:=(if((63:Int)<e10_)then(63:Int)else e10_);let e8_:=(AE .u64 a1.2.1 e9_);let e1_:=(aa .u64 (a1.2.1-(AQ .u64 e8_ e9_)));let e2_:=((aa .u64 (e8_+(1:Int))),true,());let e3_:=(AQ .u64 (1:Int) (aa .i64 (e9_-(1:Int))));let e4_:=(iu e8_ (2:Int));let e5_:=(e8_,true,());let e6_:=(decide ((0:Int)<=e9_));let e7_:=e9_;bif e6_ then(bif e6_ then(bif(e1_==(0:Int))then(some ((AE .u64 a1.2.1 e7_),false,()))else bif(decide ((0:Int)<=(aa .i64 (e7_-(1:Int)))))then(bif(a0==(0:Int))then(bif((decide (e1_>e3_))||((e1_==e3_)&&(e4_==(1:Int))))then(some e2_)else some e5_)else bif(a0==(1:Int))then(bif(decide (e1_>=e3_))then(some e2_)else some e5_)else bif(a0==(3:Int))then(bif(!a1.1)then(some e2_)else some e5_)else bif(a0==(4:Int))then(bif a1.1 then(some e2_)else some e5_)else bif(a0==(5:Int))then(bif(e4_==(0:Int))then(some e2_)else some e5_)else some e5_)else none)else none)else none
theorem bAL(x:DenS K5):run (cf [] []) 9 217 Tryz.f217 K5 LA x=aM5 x.1 x.2.1:=by kernel_rfl
def aCW(x:DenS K5):Option (DenS LA):=aM5 x.1 x.2.1
def S3:Sum:=Aj K5 LA aCW (DenS.dflt LA)
theorem aBH:Sound Tryz.prog G1 217 S3:=sd (cf [] []) 217 Tryz.f217 trivial trivial K5 LA aCW _ (fun _=>bAL ..)
abbrev sW:=Ae K5
abbrev t9:=Ad K5 LA
variable (p405:sW)(f405:t9)
abbrev OC:Aa:=[(false,.int .i64),(false,.int .i64),(false,.int .u64),(false,.bool)]
abbrev LB:Aa:=[(false,.int .u64),(false,.int .i64),(false,.int .i64)]
def aM6(p403:iH)(f403:iZ)(p65:DE)(f65:DF)(p70:Dp)(f70:Dq)(p404:sV)(f404:t8)(p405:sW)(f405:t9)(p122:Gf)(f122:Gi)(a0 a1:Ab (.int .i64))(a2:Ab (.int .u64))(a3:Ab (.bool)):Option (DenS LB):=let e7_:=(a0,a1,(f404 (a0,a2,())).1.1,((0:Int),(f405 (a1,(f404 (a0,a2,())))).1,()),(0:Int),false,());let e6_:=(f122 e7_);let e1_:=(e6_.1,(16:Int),e6_.2.2);let e2_:=(e6_.1,(0:Int),e6_.2.2);let e3_:=(p122 e7_);let e4_:=(decide ((f404 (a0,a2,())).1.2.2.1>=(0:Int)));let e5_:=((f405 (a1,(f404 (a0,a2,())))).2.1&&a3);let g1_:Option (DenS LB):=bif(p404 (a0,a2,()))then(bif e4_ then(some (a2,(0:Int),(0:Int),()))else bif(p405 (a1,(f404 (a0,a2,()))))then(bif e5_ then(bif e3_ then(some e1_)else none)else bif e3_ then(some e2_)else none)else none)else none;bif(p403 (a0,a1,()))then(bif((f403 (a0,a1,())).1 !=(0:Int))then(some ((0:Int),(0:Int),(f403 (a0,a1,()))))else bif(p65 (a0,a2,()))then(bif((f65 (a0,a2,())).2.1 !=(0:Int))then(some ((0:Int),(0:Int),(f65 (a0,a2,())).2))else bif(p70 (a0,()))then(bif((f65 (a0,a2,())).1==(0:Int))then(some ((f70 (a0,())).1,(1:Int),(0:Int),()))else bif((f65 (a0,a2,())).1==(1:Int))then(some ((f70 (a0,())).1,(0:Int),(0:Int),()))else bif((f65 (a0,a2,())).1==(2:Int))then(bif((f65 (a0,a2,())).1==(2:Int))then(some (a2,(0:Int),(0:Int),()))else g1_)else bif((f65 (a0,a2,())).1==(9:Int))then(bif((f65 (a0,a2,())).1==(9:Int))then(some (a2,(0:Int),(0:Int),()))else g1_)else bif((f65 (a0,a2,())).1==(5:Int))then(bif((f65 (a0,a2,())).1==(5:Int))then(some (a2,(0:Int),(0:Int),()))else g1_)else bif((f65 (a0,a2,())).1==(6:Int))then(some (a2,(0:Int),(0:Int),()))else g1_)else none)else none)else none
theorem bAM(x:DenS OC):run (cf [(215,⟨I7,Jv,p403,f403⟩),(59,⟨Dy,Dz,p65,f65⟩),(61,⟨Di,Dj,p70,f70⟩),(216,⟨K4,Lz,p404,f404⟩),(217,⟨K5,LA,p405,f405⟩),(104,⟨Et,EZ,p122,f122⟩)] []) 9 170 Tryz.f170 OC LB x=aM6 p403 f403 p65 f65 p70 f70 p404 f404 p405 f405 p122 f122 x.1 x.2.1 x.2.2.1 x.2.2.2.1:=by kernel_rfl
def aCX(x:DenS OC):Option (DenS LB):=aM6 JS.pre JS.F AW.pre AW.F AS.pre AS.F S2.pre S2.F S3.pre S3.F Bv.pre Bv.F x.1 x.2.1 x.2.2.1 x.2.2.2.1
def fD:Sum:=Aj OC LB aCX (DenS.dflt LB)
theorem aQK:Sound Tryz.prog G1 170 fD:=sd (cf [(215,JS),(59,AW),(61,AS),(216,S2),(217,S3),(104,Bv)] []) 170 Tryz.f170 ⟨rJ,G0,Gd,aBG,aBH,SX,trivial⟩ trivial OC LB aCX _ (fun _=>bAM ..)
abbrev aEU:=Ae OC
abbrev aGE:=Ad OC LB
variable (p406:aEU)(f406:aGE)
abbrev OD:Aa:=[(true,.pair (.int .i64) (.pair (.int .i64) (.pair (.int .u64) (.pair (.int .u64) (.pair (.int .u64) (.unit))))))]
abbrev Ql:Aa:=[(false,.int .u64),(false,.int .i64),(false,.int .i64)]
def aM7(p406:aEU)(f406:aGE)(a0:Ab (.pair (.int .i64) (.pair (.int .i64) (.pair (.int .u64) (.pair (.int .u64) (.pair (.int .u64) (.unit))))))):Option (DenS Ql):=bif(p406 (a0.2.1,a0.1,a0.2.2.1,true,()))then(some (f406 (a0.2.1,a0.1,a0.2.2.1,true,())))else none
theorem bAN(x:DenS OD):run (cf [(170,⟨OC,LB,p406,f406⟩)] []) 9 169 Tryz.f169 OD Ql x=aM7 p406 f406 x.1:=by kernel_rfl
def aCY(x:DenS OD):Option (DenS Ql):=aM7 fD.pre fD.F x.1
def Xu:Sum:=Aj OD Ql aCY (DenS.dflt Ql)
theorem aBI:Sound Tryz.prog G1 169 Xu:=sd (cf [(170,fD)] []) 169 Tryz.f169 ⟨aQK,trivial⟩ trivial OD Ql aCY _ (fun _=>bAN ..)
abbrev sX:=Ae OD
abbrev uA:=Ad OD Ql
variable (p407:sX)(f407:uA)
abbrev Oq:Aa:=[(false,.slice (.int .i64)),(false,.slice (.int .i64)),(false,.int .u64)]
abbrev Qd:Aa:=[(false,.int .i64)]
abbrev GX:Pat:=⟨46,[(14,.one (.v .i64)),(13,.one (.sl (.int .i64))),(15,.one (.v .i64)),(1,.one (.sl (.int .i64))),(0,.one (.sl (.int .i64))),(2,.one (.v .u64))],[]⟩
abbrev Xf:List (Nat×Shape):=[]
abbrev J6:List (Nat×Pat):=[(0,⟨46,[(1,.one (.sl (.int .i64))),(0,.one (.sl (.int .i64))),(2,.one (.v .u64))],[]⟩)]
abbrev JM:Option Pat:=(some ⟨46,[(6,.one (.v .i64))],[]⟩)
abbrev GY:Pat:=⟨46,[(29,.one (.v .i64)),(28,.one (.sl (.int .i64))),(30,.one (.v .i64)),(0,.one (.sl (.int .i64))),(2,.one (.v .u64))],[]⟩
abbrev Xg:List (Nat×Shape):=[]
abbrev J7:List (Nat×Pat):=[(2,⟨46,[(0,.one (.sl (.int .i64))),(2,.one (.v .u64))],[]⟩)]
abbrev JN:Option Pat:=(some ⟨46,[(6,.one (.v .i64))],[]⟩)
variable (w391_2:Pat.D GX->Option (Ah J6 JM))(w391_9:Pat.D GY->Option (Ah J7 JN))
def aH(p69:BF)(f69:BG)(p66:B2)(f66:B3){R:Type}(L:Pat.D GY->Option R)(e:Ah J7 JN->Option R)(x:Pat.D GY):Option R:=let e1_:=(x.1.2.1.getD (ai x.1.2.2.1) (0:Int));bif(decide (x.1.2.2.1<x.1.1))then(bif((decide ((0:Int)<=x.1.2.2.1))&&(decide (x.1.2.2.1<(x.1.2.1.length:Int))))then(bif((decide (e1_<(0:Int)))||(decide (e1_>(5:Int))))then(((e (.inr (((3:Int),()),())))))else(L ((x.1.1,x.1.2.1,(aa .i64 (x.1.2.2.1+(1:Int))),x.1.2.2.2),())))else none)else(e (.inl (x.1.2.2.2,())))
theorem bC4(d:Nat)(R:Type)(L:Pat.D GY->Option R)(e:Ah J7 JN->Option R)(x:Pat.D GY):
  BC (cf [(71,⟨BU,BV,p69,f69⟩),(85,⟨CA,CB,p66,f66⟩)] [(218,2,LoopSpec.of GX Xf J6 JM w391_2),(218,9,LoopSpec.of GY Xg J7 JN w391_9)]) (d+2) 218 (Bw Tryz.f218 9) GY Xg J7 JN (R:=R) L e x=aH p69 f69 p66 f66 L e x:=by kernel_rfl
theorem aWX(p69:BF)(f69:BG)(p66:B2)(f66:B3):Bq fun L e x=>aH p69 f69 p66 f66 L e x:=by intro _ _ _ _ _ _ _ h0 hL he _;unfold aH;repeat' (first|exact h0|exact hL _|exact he _|apply BM|(apply BN h0;intro _)|(apply BO<;>intro _))
def aG(p69:BF)(f69:BG)(p66:B2)(f66:B3){R:Type}(L:Pat.D GX->Option R)(e:Ah J6 JM->Option R)(x:Pat.D GX):Option R:=let e2_:=((x.1.2.1.getD (ai x.1.2.2.1) (0:Int)),());let e1_:=(f69 e2_);bif(decide (x.1.2.2.1<x.1.1))then(bif((decide ((0:Int)<=x.1.2.2.1))&&(decide (x.1.2.2.1<(x.1.2.1.length:Int))))then(bif(p69 e2_)then(bif(e1_.2.1 !=(0:Int))then(((e (.inr (e1_.2,())))))else(L ((x.1.1,x.1.2.1,(aa .i64 (x.1.2.2.1+(1:Int))),x.1.2.2.2),())))else none)else none)else(e (.inl (x.1.2.2.2,())))
theorem bC3(d:Nat)(R:Type)(L:Pat.D GX->Option R)(e:Ah J6 JM->Option R)(x:Pat.D GX):
  BC (cf [(71,⟨BU,BV,p69,f69⟩),(85,⟨CA,CB,p66,f66⟩)] [(218,2,LoopSpec.of GX Xf J6 JM w391_2),(218,9,LoopSpec.of GY Xg J7 JN w391_9)]) (d+2) 218 (Bw Tryz.f218 2) GX Xf J6 JM (R:=R) L e x=aG p69 f69 p66 f66 L e x:=by kernel_rfl
theorem aWW(p69:BF)(f69:BG)(p66:B2)(f66:B3):Bq fun L e x=>aG p69 f69 p66 f66 L e x:=by intro _ _ _ _ _ _ _ h0 hL he _;unfold aG;repeat' (first|exact h0|exact hL _|exact he _|apply BM|(apply BN h0;intro _)|(apply BO<;>intro _))
def aMT(p69:BF)(f69:BG)(p66:B2)(f66:B3)(w391_2:Pat.D GX->Option (Ah J6 JM))(w391_9:Pat.D GY->Option (Ah J7 JN))(a0 a1:Ab (.slice (.int .i64)))(a2:Ab (.int .u64)):Option (DenS Qd):=
 Vx.A3 (w391_2 (((a0.length:Int),a0,(0:Int),a1,a0,a2,()),())) fun y0=>
 Vx.A2 y0 (fun y1=>
 Vx.A3 (w391_9 (((y1.1.1.length:Int),y1.1.1,(0:Int),y1.1.2),())) fun y2=>
 Vx.A2 y2 (fun y3=>
 bif(decide ((0:Int)<(y3.1.1.length:Int)))then(bif(p66 ((y3.1.1.getD (ai (0:Int)) (0:Int)),y3.1.2))then(some (f66 ((y3.1.1.getD (ai (0:Int)) (0:Int)),y3.1.2)))
 else none)
 else none) (fun z3=>
 some z3.1)) (fun z1=>
 some z1.1)
theorem bAx(x:DenS Oq):run (cf [(71,⟨BU,BV,p69,f69⟩),(85,⟨CA,CB,p66,f66⟩)] [(218,2,LoopSpec.of GX Xf J6 JM w391_2),(218,9,LoopSpec.of GY Xg J7 JN w391_9)]) 9 218 Tryz.f218 Oq Qd x=aMT p69 f69 p66 f66 w391_2 w391_9 x.1 x.2.1 x.2.2.1:=by kernel_rfl
def aDS:GY.D->Option (Ah J7 JN):=Bf fun L=>aH Ao.pre Ao.F Ar.pre Ar.F L some
def aDR:GX.D->Option (Ah J6 JM):=Bf fun L=>aG Ao.pre Ao.F Ar.pre Ar.F L some
def aCK(x:DenS Oq):Option (DenS Qd):=aMT Ao.pre Ao.F Ar.pre Ar.F aDR aDS x.1 x.2.1 x.2.2.1
def eW:Sum:=Aj Oq Qd aCK (DenS.dflt Qd)
theorem aQD:Sound Tryz.prog G1 218 eW:=sd (cf [(71,Ao),(85,Ar)] [(218,2,LoopSpec.of GX Xf J6 JM aDR),(218,9,LoopSpec.of GY Xg J7 JN aDS)]) 218 Tryz.f218 ⟨Do,Fu,trivial⟩ ⟨rfl,fun d=>BL (fun L e x=>aG Ao.pre Ao.F Ar.pre Ar.F L e x) (aWW Ao.pre Ao.F Ar.pre Ar.F) (fun _ _ _ _=>bC3 ..),⟨rfl,fun d=>BL (fun L e x=>aH Ao.pre Ao.F Ar.pre Ar.F L e x) (aWX Ao.pre Ao.F Ar.pre Ar.F) (fun _ _ _ _=>bC4 ..),trivial⟩⟩ Oq Qd aCK _ (fun _=>bAx ..)
abbrev aEN:=Ae Oq
abbrev aGx:=Ad Oq Qd
variable (p391:aEN)(f391:aGx)
abbrev Ot:Aa:=[(false,.int .i64),(false,.int .i64),(false,.int .i64),(false,.int .u64)]
abbrev Fj:Aa:=[(false,.int .u64),(false,.int .i64)]
def aMU(p65:DE)(f65:DF)(p98:Kd)(f98:Kj)(p70:Dp)(f70:Dq)(p97:Kc)(f97:Ki)(p118:G5)(f118:G8)(p40:RY)(f40:R1)(p51:iL)(f51:i5)(a0 a1 a2:Ab (.int .i64))(a3:Ab (.int .u64)):Option (DenS Fj):=let e5_:=(f51 (a1,a2,(f40 (a0,a3,())).1,()));let e1_:=(e5_.1,e5_.2.1,());let e2_:=((f118 (a1,(f98 (a0,a3,())).1,())).1,(0:Int),());let e3_:=((f97 (a1,(f98 (a0,a3,())).1,())).1,(0:Int),());let e4_:=(p51 (a1,a2,(f40 (a0,a3,())).1,()));let g6_:Option (DenS Fj):=bif(p97 (a1,(f98 (a0,a3,())).1,()))then(some e3_)else none;let g5_:Option (DenS Fj):=bif(p118 (a1,(f98 (a0,a3,())).1,()))then(some e2_)else none;let g4_:Option (DenS Fj):=bif(p40 (a0,a3,()))then(bif e4_ then(some e1_)else none)else none;let g2_:Option (DenS Fj):=bif((f65 (a0,a3,())).1==(6:Int))then(bif((f65 (a0,a3,())).1==(6:Int))then(g5_)else g4_)else bif((f65 (a0,a3,())).1==(5:Int))then(g5_)else g4_;let g1_:Option (DenS Fj):=bif((f65 (a0,a3,())).1==(9:Int))then(bif((f65 (a0,a3,())).1==(9:Int))then(g6_)else g2_)else bif((f65 (a0,a3,())).1==(2:Int))then(g6_)else g2_;let g3_:Option (DenS Fj):=bif(p70 (a1,()))then(bif((f65 (a0,a3,())).1==(0:Int))then(some ((f70 (a1,())).1,(1:Int),()))else some ((f70 (a1,())).1,(0:Int),()))else none;bif(p65 (a0,a3,()))then(bif(p98 (a0,a3,()))then(bif((f65 (a0,a3,())).1==(0:Int))then(bif((f65 (a0,a3,())).1==(0:Int))then(g3_)else g1_)else bif((f65 (a0,a3,())).1==(1:Int))then(g3_)else g1_)else none)else none
theorem bAy(x:DenS Ot):run (cf [(59,⟨Dy,Dz,p65,f65⟩),(91,⟨E9,Fk,p98,f98⟩),(61,⟨Di,Dj,p70,f70⟩),(62,⟨FQ,FV,p97,f97⟩),(64,⟨Es,EY,p118,f118⟩),(203,⟨GC,GO,p40,f40⟩),(231,⟨Ja,JA,p51,f51⟩)] []) 9 219 Tryz.f219 Ot Fj x=aMU p65 f65 p98 f98 p70 f70 p97 f97 p118 f118 p40 f40 p51 f51 x.1 x.2.1 x.2.2.1 x.2.2.2.1:=by kernel_rfl
def aCL(x:DenS Ot):Option (DenS Fj):=aMU AW.pre AW.F B1.pre B1.F AS.pre AS.F Cq.pre Cq.F Bu.pre Bu.F DC.pre DC.F JU.pre JU.F x.1 x.2.1 x.2.2.1 x.2.2.2.1
def eX:Sum:=Aj Ot Fj aCL (DenS.dflt Fj)
theorem aQE:Sound Tryz.prog G1 219 eX:=sd (cf [(59,AW),(91,B1),(61,AS),(62,Cq),(64,Bu),(203,DC),(231,JU)] []) 219 Tryz.f219 ⟨G0,S6,Gd,UE,SW,Xw,rQ,trivial⟩ trivial Ot Fj aCL _ (fun _=>bAy ..)
abbrev aEO:=Ae Ot
abbrev aGy:=Ad Ot Fj
variable (p392:aEO)(f392:aGy)
abbrev Ou:Aa:=[(false,.int .i64),(false,.int .i64),(false,.int .i64),(false,.int .u64)]
abbrev Qe:Aa:=[(false,.int .u64),(false,.int .i64),(false,.int .i64)]
def aMV(p391:aEN)(f391:aGx)(p392:aEO)(f392:aGy)(a0 a1 a2:Ab (.int .i64))(a3:Ab (.int .u64)):Option (DenS Qe):=let e1_:=(f391 ((a0::(a1::[])),(a2::[]),a3,()));bif(p391 ((a0::(a1::[])),(a2::[]),a3,()))then(bif(e1_.1 !=(0:Int))then(some ((0:Int),(0:Int),e1_))else bif(p392 (a0,a1,a2,a3,()))then(some ((f392 (a0,a1,a2,a3,())).1,(f392 (a0,a1,a2,a3,())).2.1,(0:Int),()))else none)else none
theorem bAz(x:DenS Ou):run (cf [(218,⟨Oq,Qd,p391,f391⟩),(219,⟨Ot,Fj,p392,f392⟩)] []) 9 172 Tryz.f172 Ou Qe x=aMV p391 f391 p392 f392 x.1 x.2.1 x.2.2.1 x.2.2.2.1:=by kernel_rfl
def aCM(x:DenS Ou):Option (DenS Qe):=aMV eW.pre eW.F eX.pre eX.F x.1 x.2.1 x.2.2.1 x.2.2.2.1
def eY:Sum:=Aj Ou Qe aCM (DenS.dflt Qe)
theorem aQF:Sound Tryz.prog G1 172 eY:=sd (cf [(218,eW),(219,eX)] []) 172 Tryz.f172 ⟨aQD,aQE,trivial⟩ trivial Ou Qe aCM _ (fun _=>bAz ..)
abbrev aEP:=Ae Ou
abbrev aGz:=Ad Ou Qe
variable (p393:aEP)(f393:aGz)
abbrev OE:Aa:=[(true,.pair (.int .i64) (.pair (.int .i64) (.pair (.int .u64) (.pair (.int .u64) (.pair (.int .u64) (.unit))))))]
abbrev Qm:Aa:=[(false,.int .u64),(false,.int .i64),(false,.int .i64)]
def aM8(p393:aEP)(f393:aGz)(a0:Ab (.pair (.int .i64) (.pair (.int .i64) (.pair (.int .u64) (.pair (.int .u64) (.pair (.int .u64) (.unit))))))):Option (DenS Qm):=let e1_:=(a0.2.1,(aa .i64 a0.2.2.2.2.1),a0.1,a0.2.2.1,());bif(p393 e1_)then(some (f393 e1_))else none
theorem bAO(x:DenS OE):run (cf [(172,⟨Ou,Qe,p393,f393⟩)] []) 9 171 Tryz.f171 OE Qm x=aM8 p393 f393 x.1:=by kernel_rfl
def aCZ(x:DenS OE):Option (DenS Qm):=aM8 eY.pre eY.F x.1
def Xv:Sum:=Aj OE Qm aCZ (DenS.dflt Qm)
theorem aBJ:Sound Tryz.prog G1 171 Xv:=sd (cf [(172,eY)] []) 171 Tryz.f171 ⟨aQF,trivial⟩ trivial OE Qm aCZ _ (fun _=>bAO ..)
abbrev sY:=Ae OE
abbrev uB:=Ad OE Qm
variable (p408:sY)(f408:uB)
abbrev OF:Aa:=[(true,.pair (.int .u64) (.pair (.int .u64) (.unit))),(false,.bool)]
abbrev Qn:Aa:=[(false,.int .u64)]
def aM9(a0:Ab (.pair (.int .u64) (.pair (.int .u64) (.unit))))(a1:Ab (.bool)):Option (DenS Qn):=bif a1 then(some ((aa .u64 ((0:Int)-a0.1)),()))else some a0.2
theorem bAP(x:DenS OF):run (cf [] []) 9 220 Tryz.f220 OF Qn x=aM9 x.1 x.2.1:=by kernel_rfl
def aC0(x:DenS OF):Option (DenS Qn):=aM9 x.1 x.2.1
def fE:Sum:=Aj OF Qn aC0 (DenS.dflt Qn)
theorem aQL:Sound Tryz.prog G1 220 fE:=sd (cf [] []) 220 Tryz.f220 trivial trivial OF Qn aC0 _ (fun _=>bAP ..)
abbrev aEV:=Ae OF
abbrev aGF:=Ad OF Qn
variable (p409:aEV)(f409:aGF)
abbrev OH:Aa:=[(false,.int .i64),(false,.int .i64),(false,.int .i64),(false,.int .u64)]
abbrev LC:Aa:=[(false,.int .u64),(false,.int .i64),(false,.int .i64)]
def aNb(p403:iH)(f403:iZ)(p65:DE)(f65:DF)(p404:sV)(f404:t8)(p405:sW)(f405:t9)(p178:Ik)(f178:Im)(p409:aEV)(f409:aGF)(a0 a1 a2:Ab (.int .i64))(a3:Ab (.int .u64)):Option (DenS LC):=let e18_:=(AQ .u64 (f404 (a0,a3,())).1.2.1 (f404 (a0,a3,())).1.2.2.1);let e19_:=(Vx.k_kinds.getD (ai a2) ((0:Int),(0:Int),()));let e1_:=(((!(f404 (a0,a3,())).1.1)&&(decide (e18_>e19_.2.1)))||((f404 (a0,a3,())).1.1&&(decide (e18_>e19_.1))));let e2_:=(((!(f404 (a0,a3,())).1.1)&&(decide ((f405 (a1,(f404 (a0,a3,())))).1>e19_.2.1)))||((f404 (a0,a3,())).1.1&&(decide ((f405 (a1,(f404 (a0,a3,())))).1>e19_.1))));let e3_:=((aa .u64 ((0:Int)-e18_)),(0:Int),(0:Int),());let e4_:=((aa .u64 ((0:Int)-e19_.1)),(1:Int),(0:Int),());let e16_:=(e19_,(f404 (a0,a3,())).1.1,());let e5_:=((f409 e16_).1,(1:Int),(0:Int),());let e6_:=(decide ((aa .i64 ((f178 ((f404 (a0,a3,())).1.2.1,())).1+(f404 (a0,a3,())).1.2.2.1))>(64:Int)));let e17_:=(aa .u64 ((0:Int)-(f405 (a1,(f404 (a0,a3,())))).1));let e7_:=(e17_,(16:Int),(0:Int),());let e8_:=(e17_,(0:Int),(0:Int),());let e9_:=(e18_,(0:Int),(0:Int),());let e10_:=(p409 e16_);let e11_:=(e19_.2.1,(1:Int),(0:Int),());let e12_:=((f405 (a1,(f404 (a0,a3,())))).1,(16:Int),(0:Int),());let e13_:=((f405 (a1,(f404 (a0,a3,())))).1,(0:Int),(0:Int),());let e14_:=(decide ((f404 (a0,a3,())).1.2.2.1<(0:Int)));let e15_:=(decide ((0:Int)<=(f404 (a0,a3,())).1.2.2.1));let g1_:Option (DenS LC):=bif((f65 (a0,a3,())).1==(2:Int))then(some e4_)else bif(p404 (a0,a3,()))then(bif e14_ then(bif(p405 (a1,(f404 (a0,a3,()))))then(bif e2_ then(bif e10_ then(some e5_)else none)else bif(f404 (a0,a3,())).1.1 then(bif(f405 (a1,(f404 (a0,a3,())))).2.1 then(some e7_)else some e8_)else bif(f405 (a1,(f404 (a0,a3,())))).2.1 then(some e12_)else some e13_)else none)else bif(p178 ((f404 (a0,a3,())).1.2.1,()))then(bif e6_ then(bif e10_ then(some e5_)else none)else bif e15_ then(bif e1_ then(bif e10_ then(some e5_)else none)else bif(f404 (a0,a3,())).1.1 then(some e3_)else some e9_)else none)else none)else none;bif(p403 (a0,a1,()))then(bif((f403 (a0,a1,())).1 !=(0:Int))then(some ((0:Int),(0:Int),(f403 (a0,a1,()))))else bif((decide (a2<(0:Int)))||(decide (a2>(3:Int))))then(some ((0:Int),(0:Int),(9:Int),()))else bif(p65 (a0,a3,()))then(bif((f65 (a0,a3,())).2.1 !=(0:Int))then(some ((0:Int),(0:Int),(f65 (a0,a3,())).2))else bif(bif(decide ((0:Int)<=a2))then(decide (a2<((4:Nat):Int)))else false)then(bif((f65 (a0,a3,())).1==(0:Int))then(bif((f65 (a0,a3,())).1==(0:Int))then(some e11_)else g1_)else bif((f65 (a0,a3,())).1==(1:Int))then(bif((f65 (a0,a3,())).1==(1:Int))then(some e11_)else g1_)else bif((f65 (a0,a3,())).1==(9:Int))then(some e11_)else g1_)else none)else none)else none
theorem bAR(x:DenS OH):run (cf [(215,⟨I7,Jv,p403,f403⟩),(59,⟨Dy,Dz,p65,f65⟩),(216,⟨K4,Lz,p404,f404⟩),(217,⟨K5,LA,p405,f405⟩),(115,⟨FO,Fi,p178,f178⟩),(220,⟨OF,Qn,p409,f409⟩)] []) 9 174 Tryz.f174 OH LC x=aNb p403 f403 p65 f65 p404 f404 p405 f405 p178 f178 p409 f409 x.1 x.2.1 x.2.2.1 x.2.2.2.1:=by kernel_rfl
def aC3(x:DenS OH):Option (DenS LC):=aNb JS.pre JS.F AW.pre AW.F S2.pre S2.F S3.pre S3.F CE.pre CE.F fE.pre fE.F x.1 x.2.1 x.2.2.1 x.2.2.2.1
def fG:Sum:=Aj OH LC aC3 (DenS.dflt LC)
theorem aQM:Sound Tryz.prog G1 174 fG:=sd (cf [(215,JS),(59,AW),(216,S2),(217,S3),(115,CE),(220,fE)] []) 174 Tryz.f174 ⟨rJ,G0,aBG,aBH,Xo,aQL,trivial⟩ trivial OH LC aC3 _ (fun _=>bAR ..)
abbrev aEX:=Ae OH
abbrev aGH:=Ad OH LC
variable (p410:aEX)(f410:aGH)
abbrev OI:Aa:=[(true,.pair (.int .i64) (.pair (.int .i64) (.pair (.int .u64) (.pair (.int .u64) (.pair (.int .u64) (.unit))))))]
abbrev Qp:Aa:=[(false,.int .u64),(false,.int .i64),(false,.int .i64)]
def aNc(p410:aEX)(f410:aGH)(a0:Ab (.pair (.int .i64) (.pair (.int .i64) (.pair (.int .u64) (.pair (.int .u64) (.pair (.int .u64) (.unit))))))):Option (DenS Qp):=let e1_:=(a0.2.1,a0.1,(aa .i64 a0.2.2.2.2.1),a0.2.2.1,());bif(p410 e1_)then(some (f410 e1_))else none
theorem bAS(x:DenS OI):run (cf [(174,⟨OH,LC,p410,f410⟩)] []) 9 173 Tryz.f173 OI Qp x=aNc p410 f410 x.1:=by kernel_rfl
def aC4(x:DenS OI):Option (DenS Qp):=aNc fG.pre fG.F x.1
def Xx:Sum:=Aj OI Qp aC4 (DenS.dflt Qp)
theorem aBK:Sound Tryz.prog G1 173 Xx:=sd (cf [(174,fG)] []) 173 Tryz.f173 ⟨aQM,trivial⟩ trivial OI Qp aC4 _ (fun _=>bAS ..)
abbrev sZ:=Ae OI
abbrev uC:=Ad OI Qp
variable (p411:sZ)(f411:uC)
abbrev OJ:Aa:=[(false,.int .i64),(false,.int .i64),(false,.int .i64),(false,.int .u64)]
abbrev Qq:Aa:=[(false,.int .u64),(false,.int .i64),(false,.int .i64)]
def aNd(p403:iH)(f403:iZ)(p122:Gf)(f122:Gi)(a0 a1 a2:Ab (.int .i64))(a3:Ab (.int .u64)):Option (DenS Qq):=let e8_:=(Vx.k_kinds.getD (ai a2) ((0:Int),(0:Int),()));let e7_:=((decide (e8_.1>(0:Int)))&&((AE .u64 a3 (63:Int))==(1:Int)));let e9_:=(aa .u64 ((0:Int)-a3));let e1_:=(a0,a1,e7_,((0:Int),e9_,()),(0:Int),false,());let e2_:=(a0,a1,e7_,((0:Int),a3,()),(0:Int),false,());let e3_:=(!e7_);let e4_:=e7_;let e5_:=e8_;let e6_:=e9_;bif(p403 (a0,a1,()))then(bif((f403 (a0,a1,())).1 !=(0:Int))then(some ((0:Int),(0:Int),(f403 (a0,a1,()))))else bif((decide (a2<(0:Int)))||(decide (a2>(3:Int))))then(some ((0:Int),(0:Int),(9:Int),()))else bif(bif(decide ((0:Int)<=a2))then(decide (a2<((4:Nat):Int)))else false)then(bif e4_ then(bif((e3_&&(decide (e6_>e5_.2.1)))||(e4_&&(decide (e6_>e5_.1))))then(some ((0:Int),(0:Int),(7:Int),()))else bif(p122 e1_)then(some (f122 e1_))else none)else bif((e3_&&(decide (a3>e5_.2.1)))||(e4_&&(decide (a3>e5_.1))))then(some ((0:Int),(0:Int),(7:Int),()))else bif(p122 e2_)then(some (f122 e2_))else none)else none)else none
theorem bAT(x:DenS OJ):run (cf [(215,⟨I7,Jv,p403,f403⟩),(104,⟨Et,EZ,p122,f122⟩)] []) 9 176 Tryz.f176 OJ Qq x=aNd p403 f403 p122 f122 x.1 x.2.1 x.2.2.1 x.2.2.2.1:=by kernel_rfl
def aC5(x:DenS OJ):Option (DenS Qq):=aNd JS.pre JS.F Bv.pre Bv.F x.1 x.2.1 x.2.2.1 x.2.2.2.1
def fH:Sum:=Aj OJ Qq aC5 (DenS.dflt Qq)
theorem aQN:Sound Tryz.prog G1 176 fH:=sd (cf [(215,JS),(104,Bv)] []) 176 Tryz.f176 ⟨rJ,SX,trivial⟩ trivial OJ Qq aC5 _ (fun _=>bAT ..)
abbrev aEY:=Ae OJ
abbrev aGI:=Ad OJ Qq
variable (p412:aEY)(f412:aGI)
abbrev OK:Aa:=[(true,.pair (.int .i64) (.pair (.int .i64) (.pair (.int .u64) (.pair (.int .u64) (.pair (.int .u64) (.unit))))))]
abbrev Qr:Aa:=[(false,.int .u64),(false,.int .i64),(false,.int .i64)]
def aNe(p412:aEY)(f412:aGI)(a0:Ab (.pair (.int .i64) (.pair (.int .i64) (.pair (.int .u64) (.pair (.int .u64) (.pair (.int .u64) (.unit))))))):Option (DenS Qr):=let e1_:=(a0.2.1,a0.1,(aa .i64 a0.2.2.2.2.1),a0.2.2.1,());bif(p412 e1_)then(some (f412 e1_))else none
theorem bAU(x:DenS OK):run (cf [(176,⟨OJ,Qq,p412,f412⟩)] []) 9 175 Tryz.f175 OK Qr x=aNe p412 f412 x.1:=by kernel_rfl
def aC6(x:DenS OK):Option (DenS Qr):=aNe fH.pre fH.F x.1
def Xy:Sum:=Aj OK Qr aC6 (DenS.dflt Qr)
theorem aBL:Sound Tryz.prog G1 175 Xy:=sd (cf [(176,fH)] []) 175 Tryz.f175 ⟨aQN,trivial⟩ trivial OK Qr aC6 _ (fun _=>bAU ..)
abbrev tA:=Ae OK
abbrev uD:=Ad OK Qr
variable (p413:tA)(f413:uD)
abbrev KO:Aa:=[(false,.int .i64),(false,.int .u64)]
abbrev Lg:Aa:=[(false,.int .u64),(false,.int .i64)]
def aMx(p66:B2)(f66:B3)(p115:Zd)(f115:Zq)(a0:Ab (.int .i64))(a1:Ab (.int .u64)):Option (DenS Lg):=bif(p66 (a0,a1,()))then(bif((f66 (a0,a1,())).1 !=(0:Int))then(some ((0:Int),(f66 (a0,a1,()))))else bif(p115 (a0,()))then(some ((ZJ .u64 a1 (f115 (a0,())).1),(0:Int),()))else none)else none
theorem aY8(x:DenS KO):run (cf [(85,⟨CA,CB,p66,f66⟩),(233,⟨IW,Jk,p115,f115⟩)] []) 9 188 Tryz.f188 KO Lg x=aMx p66 f66 p115 f115 x.1 x.2.1:=by kernel_rfl
def aCa(x:DenS KO):Option (DenS Lg):=aMx Ar.pre Ar.F Fr.pre Fr.F x.1 x.2.1
def JQ:Sum:=Aj KO Lg aCa (DenS.dflt Lg)
theorem rC:Sound Tryz.prog G1 188 JQ:=sd (cf [(85,Ar),(233,Fr)] []) 188 Tryz.f188 ⟨Fu,rD,trivial⟩ trivial KO Lg aCa _ (fun _=>aY8 ..)
abbrev hJ:=Ae KO
abbrev iP:=Ad KO Lg
variable (p112:hJ)(f112:iP)
abbrev Je:Aa:=[(false,.int .i64),(false,.int .u64)]
abbrev JF:Aa:=[(true,.pair (.int .i64) (.pair (.int .i64) (.unit))),(false,.int .i64)]
def t82(p65:DE)(f65:DF)(p112:hJ)(f112:iP)(a0:Ab (.int .i64))(a1:Ab (.int .u64)):Option (DenS JF):=let e1_:=(aa .i64 (f112 (a0,a1,())).1);bif(p65 (a0,a1,()))then(bif((f65 (a0,a1,())).2.1 !=(0:Int))then(some (((0:Int),(0:Int),()),(f65 (a0,a1,())).2))else bif(p112 (a0,a1,()))then(bif((f112 (a0,a1,())).1 !=a1)then(some (((f65 (a0,a1,())).1,(aa .i64 ((0:Int)-e1_)),()),(0:Int),()))else some (((f65 (a0,a1,())).1,e1_,()),(0:Int),()))else none)else none
theorem r82(x:DenS Je):run (cf [(59,⟨Dy,Dz,p65,f65⟩),(188,⟨KO,Lg,p112,f112⟩)] []) 9 228 Tryz.f228 Je JF x=t82 p65 f65 p112 f112 x.1 x.2.1:=by kernel_rfl
def T82(x:DenS Je):Option (DenS JF):=t82 AW.pre AW.F JQ.pre JQ.F x.1 x.2.1
def JW:Sum:=Aj Je JF T82 (DenS.dflt JF)
theorem rT:Sound Tryz.prog G1 228 JW:=sd (cf [(59,AW),(188,JQ)] []) 228 Tryz.f228 ⟨G0,rC,trivial⟩ trivial Je JF T82 _ (fun _=>r82 ..)
abbrev Zm:=Ae Je
abbrev Zz:=Ad Je JF
variable (p82:Zm)(f82:Zz)
abbrev GD:Aa:=[(true,.pair (.int .i64) (.pair (.int .i64) (.unit)))]
abbrev GP:Aa:=[(false,.bool)]
def t53(a0:Ab (.pair (.int .i64) (.pair (.int .i64) (.unit)))):Option (DenS GP):=some (((a0.1==(1:Int))||(a0.1==(0:Int))),())
theorem r53(x:DenS GD):run (cf [] []) 9 229 Tryz.f229 GD GP x=t53 x.1:=by kernel_rfl
def T53(x:DenS GD):Option (DenS GP):=t53 x.1
def EH:Sum:=Aj GD GP T53 (DenS.dflt GP)
theorem XF:Sound Tryz.prog G1 229 EH:=sd (cf [] []) 229 Tryz.f229 trivial trivial GD GP T53 _ (fun _=>r53 ..)
abbrev Tk:=Ae GD
abbrev Tq:=Ad GD GP
variable (p53:Tk)(f53:Tq)
abbrev GE:Aa:=[(true,.pair (.int .i64) (.pair (.int .i64) (.unit))),(true,.pair (.int .i64) (.pair (.int .i64) (.unit)))]
abbrev GQ:Aa:=[(false,.int .i64)]
def t54(a0 a1:Ab (.pair (.int .i64) (.pair (.int .i64) (.unit)))):Option (DenS GQ):=bif((a0.1==(0:Int))||(a1.1==(0:Int)))then(some ((1:Int),()))else some ((0:Int),())
theorem r54(x:DenS GE):run (cf [] []) 9 230 Tryz.f230 GE GQ x=t54 x.1 x.2.1:=by kernel_rfl
def T54(x:DenS GE):Option (DenS GQ):=t54 x.1 x.2.1
def EI:Sum:=Aj GE GQ T54 (DenS.dflt GQ)
theorem XG:Sound Tryz.prog G1 230 EI:=sd (cf [] []) 230 Tryz.f230 trivial trivial GE GQ T54 _ (fun _=>r54 ..)
abbrev Tl:=Ae GE
abbrev Tr:=Ad GE GQ
variable (p54:Tl)(f54:Tr)
abbrev Pr:Aa:=[(false,.int .i64),(false,.int .u64),(false,.int .i64)]
abbrev Q7:Aa:=[(false,.int .u64),(false,.int .i64),(false,.int .i64)]
def t93(p82:Zm)(f82:Zz)(p53:Tk)(f53:Tq)(p70:Dp)(f70:Dq)(p54:Tl)(f54:Tr)(p64:Vd)(f64:Vn)(a0:Ab (.int .i64))(a1:Ab (.int .u64))(a2:Ab (.int .i64)):Option (DenS Q7):=let e4_:=(aa .i64 ((f82 (a0,a1,())).1.2.1+a2));let e1_:=(f64 (a0,(aa .u64 (aa .i64 ((0:Int)-e4_))),()));let e2_:=e4_;let e3_:=((f82 (a0,a1,())).1,(f82 (a0,a1,())).1,());bif(p82 (a0,a1,()))then(bif((f82 (a0,a1,())).2.1 !=(0:Int))then(some ((0:Int),(0:Int),(f82 (a0,a1,())).2))else bif(p53 ((f82 (a0,a1,())).1,()))then(bif(f53 ((f82 (a0,a1,())).1,())).1 then(bif(p70 (a0,()))then(bif(p54 e3_)then(some ((f70 (a0,())).1,(f54 e3_).1,(0:Int),()))else none)else none)else bif((((f82 (a0,a1,())).1.1==(9:Int))&&(decide (a2>(0:Int))))||(((f82 (a0,a1,())).1.1==(2:Int))&&(decide (a2<(0:Int)))))then(some (a1,(0:Int),(0:Int),()))else bif((decide (e2_>(0:Int)))||((e2_==(0:Int))&&(decide (a2<(0:Int)))))then(some ((aa .u64 e2_),(0:Int),(0:Int),()))else bif(p64 (a0,(aa .u64 (aa .i64 ((0:Int)-e2_))),()))then(some (e1_.1,(0:Int),e1_.2))else none)else none)else none
theorem r93(x:DenS Pr):run (cf [(228,⟨Je,JF,p82,f82⟩),(229,⟨GD,GP,p53,f53⟩),(61,⟨Di,Dj,p70,f70⟩),(230,⟨GE,GQ,p54,f54⟩),(187,⟨Jc,JC,p64,f64⟩)] []) 9 227 Tryz.f227 Pr Q7 x=t93 p82 f82 p53 f53 p70 f70 p54 f54 p64 f64 x.1 x.2.1 x.2.2.1:=by kernel_rfl
def T93(x:DenS Pr):Option (DenS Q7):=t93 JW.pre JW.F EH.pre EH.F AS.pre AS.F EI.pre EI.F E1.pre E1.F x.1 x.2.1 x.2.2.1
def f0:Sum:=Aj Pr Q7 T93 (DenS.dflt Q7)
theorem aRm:Sound Tryz.prog G1 227 f0:=sd (cf [(228,JW),(229,EH),(61,AS),(230,EI),(187,E1)] []) 227 Tryz.f227 ⟨rT,XF,Gd,XG,fY,trivial⟩ trivial Pr Q7 T93 _ (fun _=>r93 ..)
abbrev Y93:=Ae Pr
abbrev Z93:=Ad Pr Q7
variable (p93:Y93)(f93:Z93)
abbrev OG:Aa:=[(false,.int .i64),(false,.int .u64)]
abbrev Qo:Aa:=[(false,.int .u64),(false,.int .i64),(false,.int .i64)]
def t41(p93:Y93)(f93:Z93)(a0:Ab (.int .i64))(a1:Ab (.int .u64)):Option (DenS Qo):=bif(p93 (a0,a1,(1:Int),()))then(some (f93 (a0,a1,(1:Int),())))else none
theorem r41(x:DenS OG):run (cf [(227,⟨Pr,Q7,p93,f93⟩)] []) 9 182 Tryz.f182 OG Qo x=t41 p93 f93 x.1 x.2.1:=by kernel_rfl
def T41(x:DenS OG):Option (DenS Qo):=t41 f0.pre f0.F x.1 x.2.1
def fF:Sum:=Aj OG Qo T41 (DenS.dflt Qo)
theorem aQQ:Sound Tryz.prog G1 182 fF:=sd (cf [(227,f0)] []) 182 Tryz.f182 ⟨aRm,trivial⟩ trivial OG Qo T41 _ (fun _=>r41 ..)
abbrev Y41:=Ae OG
abbrev Z41:=Ad OG Qo
variable (p41:Y41)(f41:Z41)
abbrev OL:Aa:=[(true,.pair (.int .i64) (.pair (.int .i64) (.pair (.int .u64) (.pair (.int .u64) (.pair (.int .u64) (.unit))))))]
abbrev Qs:Aa:=[(false,.int .u64),(false,.int .i64),(false,.int .i64)]
def aNf(p41:Y41)(f41:Z41)(a0:Ab (.pair (.int .i64) (.pair (.int .i64) (.pair (.int .u64) (.pair (.int .u64) (.pair (.int .u64) (.unit))))))):Option (DenS Qs):=bif(p41 (a0.2.1,a0.2.2.1,()))then(some (f41 (a0.2.1,a0.2.2.1,())))else none
theorem bAV(x:DenS OL):run (cf [(182,⟨OG,Qo,p41,f41⟩)] []) 9 181 Tryz.f181 OL Qs x=aNf p41 f41 x.1:=by kernel_rfl
def aC7(x:DenS OL):Option (DenS Qs):=aNf fF.pre fF.F x.1
def Xz:Sum:=Aj OL Qs aC7 (DenS.dflt Qs)
theorem aBM:Sound Tryz.prog G1 181 Xz:=sd (cf [(182,fF)] []) 181 Tryz.f181 ⟨aQQ,trivial⟩ trivial OL Qs aC7 _ (fun _=>bAV ..)
abbrev tB:=Ae OL
abbrev uE:=Ad OL Qs
variable (p414:tB)(f414:uE)
abbrev Om:Aa:=[(false,.int .i64),(false,.int .i64),(false,.int .u64),(false,.int .i64)]
abbrev Lv:Aa:=[(false,.int .u64),(false,.int .i64),(false,.int .i64)]
def t38(p69:BF)(f69:BG)(p82:Zm)(f82:Zz)(p53:Tk)(f53:Tq)(p70:Dp)(f70:Dq)(p54:Tl)(f54:Tr)(p40:RY)(f40:R1)(p51:iL)(f51:i5)(a0 a1:Ab (.int .i64))(a2:Ab (.int .u64))(a3:Ab (.int .i64)):Option (DenS Lv):=let e3_:=(if((10000:Int)<a3)then(10000:Int)else a3);let e1_:=(a0,a1,((f40 (a0,a2,())).1.1,(f40 (a0,a2,())).1.2.1,(aa .i64 ((f40 (a0,a2,())).1.2.2.1+(if(e3_>(-(10000:Int)))then e3_ else(-(10000:Int))))),()),());let e2_:=((f82 (a0,a2,())).1,(f82 (a0,a2,())).1,());bif(p69 (a0,()))then(bif((f69 (a0,())).2.1 !=(0:Int))then(some ((0:Int),(0:Int),(f69 (a0,())).2))else bif((decide (a1<(0:Int)))||(decide (a1>(5:Int))))then(some ((0:Int),(0:Int),(3:Int),()))else bif(p82 (a0,a2,()))then(bif((f82 (a0,a2,())).2.1 !=(0:Int))then(some ((0:Int),(0:Int),(f82 (a0,a2,())).2))else bif(p53 ((f82 (a0,a2,())).1,()))then(bif(f53 ((f82 (a0,a2,())).1,())).1 then(bif(p70 (a0,()))then(bif(p54 e2_)then(some ((f70 (a0,())).1,(f54 e2_).1,(0:Int),()))else none)else none)else bif(p40 (a0,a2,()))then(bif(((f40 (a0,a2,())).2.1 !=(0:Int))||((f82 (a0,a2,())).1.2.1==(0:Int)))then(some (a2,(0:Int),(0:Int),()))else bif(p51 e1_)then(some (f51 e1_))else none)else none)else none)else none)else none
theorem r38(x:DenS Om):run (cf [(71,⟨BU,BV,p69,f69⟩),(228,⟨Je,JF,p82,f82⟩),(229,⟨GD,GP,p53,f53⟩),(61,⟨Di,Dj,p70,f70⟩),(230,⟨GE,GQ,p54,f54⟩),(203,⟨GC,GO,p40,f40⟩),(231,⟨Ja,JA,p51,f51⟩)] []) 9 184 Tryz.f184 Om Lv x=t38 p69 f69 p82 f82 p53 f53 p70 f70 p54 f54 p40 f40 p51 f51 x.1 x.2.1 x.2.2.1 x.2.2.2.1:=by kernel_rfl
def T38(x:DenS Om):Option (DenS Lv):=t38 Ao.pre Ao.F JW.pre JW.F EH.pre EH.F AS.pre AS.F EI.pre EI.F DC.pre DC.F JU.pre JU.F x.1 x.2.1 x.2.2.1 x.2.2.2.1
def eV:Sum:=Aj Om Lv T38 (DenS.dflt Lv)
theorem aQC:Sound Tryz.prog G1 184 eV:=sd (cf [(71,Ao),(228,JW),(229,EH),(61,AS),(230,EI),(203,DC),(231,JU)] []) 184 Tryz.f184 ⟨Do,rT,XF,Gd,XG,Xw,rQ,trivial⟩ trivial Om Lv T38 _ (fun _=>r38 ..)
abbrev Y38:=Ae Om
abbrev Z38:=Ad Om Lv
variable (p38:Y38)(f38:Z38)
abbrev OM:Aa:=[(true,.pair (.int .i64) (.pair (.int .i64) (.pair (.int .u64) (.pair (.int .u64) (.pair (.int .u64) (.unit))))))]
abbrev Qt:Aa:=[(false,.int .u64),(false,.int .i64),(false,.int .i64)]
def aNg(p38:Y38)(f38:Z38)(a0:Ab (.pair (.int .i64) (.pair (.int .i64) (.pair (.int .u64) (.pair (.int .u64) (.pair (.int .u64) (.unit))))))):Option (DenS Qt):=let e1_:=(a0.2.1,a0.1,a0.2.2.1,(aa .i64 a0.2.2.2.1),());bif(p38 e1_)then(some (f38 e1_))else none
theorem bAW(x:DenS OM):run (cf [(184,⟨Om,Lv,p38,f38⟩)] []) 9 183 Tryz.f183 OM Qt x=aNg p38 f38 x.1:=by kernel_rfl
def aC8(x:DenS OM):Option (DenS Qt):=aNg eV.pre eV.F x.1
def XA:Sum:=Aj OM Qt aC8 (DenS.dflt Qt)
theorem aBN:Sound Tryz.prog G1 183 XA:=sd (cf [(184,eV)] []) 183 Tryz.f183 ⟨aQC,trivial⟩ trivial OM Qt aC8 _ (fun _=>bAW ..)
abbrev tC:=Ae OM
abbrev uF:=Ad OM Qt
variable (p415:tC)(f415:uF)
abbrev ON:Aa:=[(true,.pair (.int .i64) (.pair (.int .i64) (.pair (.int .u64) (.pair (.int .u64) (.pair (.int .u64) (.unit))))))]
abbrev Qu:Aa:=[(false,.int .u64),(false,.int .i64),(false,.int .i64)]
def aNh(p65:DE)(f65:DF)(a0:Ab (.pair (.int .i64) (.pair (.int .i64) (.pair (.int .u64) (.pair (.int .u64) (.pair (.int .u64) (.unit))))))):Option (DenS Qu):=bif(p65 (a0.2.1,a0.2.2.1,()))then(some ((aa .u64 (f65 (a0.2.1,a0.2.2.1,())).1),(0:Int),(f65 (a0.2.1,a0.2.2.1,())).2))else none
theorem bAX(x:DenS ON):run (cf [(59,⟨Dy,Dz,p65,f65⟩)] []) 9 185 Tryz.f185 ON Qu x=aNh p65 f65 x.1:=by kernel_rfl
def aC9(x:DenS ON):Option (DenS Qu):=aNh AW.pre AW.F x.1
def XB:Sum:=Aj ON Qu aC9 (DenS.dflt Qu)
theorem aBO:Sound Tryz.prog G1 185 XB:=sd (cf [(59,AW)] []) 185 Tryz.f185 ⟨G0,trivial⟩ trivial ON Qu aC9 _ (fun _=>bAX ..)
abbrev tD:=Ae ON
abbrev uG:=Ad ON Qu
variable (p416:tD)(f416:uG)
abbrev OO:Aa:=[(false,.int .i64),(false,.int .u64),(false,.int .u64)]
abbrev Qv:Aa:=[(false,.int .u64),(false,.int .i64)]
def aNi(p66:B2)(f66:B3)(p115:Zd)(f115:Zq)(a0:Ab (.int .i64))(a1 a2:Ab (.int .u64)):Option (DenS Qv):=bif(p66 (a0,a1,()))then(bif((f66 (a0,a1,())).1 !=(0:Int))then(some ((0:Int),(f66 (a0,a1,()))))else bif(p66 (a0,a2,()))then(bif((f66 (a0,a2,())).1 !=(0:Int))then(some ((0:Int),(f66 (a0,a2,()))))else bif(p115 (a0,()))then(bif(p115 (a0,()))then(some ((Aq .u64 (ZJ .u64 a1 (f115 (a0,())).1) (Bs .u64 a2 (f115 (a0,())).1)),(0:Int),()))else none)else none)else none)else none
theorem bAY(x:DenS OO):run (cf [(85,⟨CA,CB,p66,f66⟩),(233,⟨IW,Jk,p115,f115⟩)] []) 9 190 Tryz.f190 OO Qv x=aNi p66 f66 p115 f115 x.1 x.2.1 x.2.2.1:=by kernel_rfl
def aDa(x:DenS OO):Option (DenS Qv):=aNi Ar.pre Ar.F Fr.pre Fr.F x.1 x.2.1 x.2.2.1
def fI:Sum:=Aj OO Qv aDa (DenS.dflt Qv)
theorem aQO:Sound Tryz.prog G1 190 fI:=sd (cf [(85,Ar),(233,Fr)] []) 190 Tryz.f190 ⟨Fu,rD,trivial⟩ trivial OO Qv aDa _ (fun _=>bAY ..)
abbrev aEZ:=Ae OO
abbrev aGJ:=Ad OO Qv
variable (p417:aEZ)(f417:aGJ)
abbrev OP:Aa:=[(true,.pair (.int .i64) (.pair (.int .i64) (.pair (.int .u64) (.pair (.int .u64) (.pair (.int .u64) (.unit))))))]
abbrev Qw:Aa:=[(false,.int .u64),(false,.int .i64),(false,.int .i64)]
def aNj(p417:aEZ)(f417:aGJ)(a0:Ab (.pair (.int .i64) (.pair (.int .i64) (.pair (.int .u64) (.pair (.int .u64) (.pair (.int .u64) (.unit))))))):Option (DenS Qw):=bif(p417 (a0.2.1,a0.2.2.1,a0.2.2.2.1,()))then(some ((f417 (a0.2.1,a0.2.2.1,a0.2.2.2.1,())).1,(0:Int),(f417 (a0.2.1,a0.2.2.1,a0.2.2.2.1,())).2))else none
theorem bAZ(x:DenS OP):run (cf [(190,⟨OO,Qv,p417,f417⟩)] []) 9 189 Tryz.f189 OP Qw x=aNj p417 f417 x.1:=by kernel_rfl
def aDb(x:DenS OP):Option (DenS Qw):=aNj fI.pre fI.F x.1
def XC:Sum:=Aj OP Qw aDb (DenS.dflt Qw)
theorem aBP:Sound Tryz.prog G1 189 XC:=sd (cf [(190,fI)] []) 189 Tryz.f189 ⟨aQO,trivial⟩ trivial OP Qw aDb _ (fun _=>bAZ ..)
abbrev tE:=Ae OP
abbrev uH:=Ad OP Qw
variable (p418:tE)(f418:uH)
end Vx
namespace Vx
open Go Go.Proofs
variable (p69:BF)(f69:BG)(p66:B2)(f66:B3)(p65:DE)(f65:DF)(p70:Dp)(f70:Dq)(p178:Ik)(f178:Im)(p122:Gf)(f122:Gi)(p27:iB)(f27:iT)(p64:Vd)(f64:Vn)(p25:sL)(f25:tU)(p354:sP)(f354:tY)(p40:RY)(f40:R1)(p328:EL)(f328:EN)(p381:sQ)(f381:tZ)(p395:sR)(f395:t0)(p396:sS)(f396:t5)(p402:sU)(f402:t7)(p407:sX)(f407:uA)(p408:sY)(f408:uB)(p411:sZ)(f411:uC)(p413:tA)(f413:uD)(p112:hJ)(f112:iP)(p82:Zm)(f82:Zz)(p53:Tk)(f53:Tq)(p54:Tl)(f54:Tr)(p414:tB)(f414:uE)(p415:tC)(f415:uF)(p416:tD)(f416:uG)(p418:tE)(f418:uH)
abbrev OQ:Aa:=[(false,.int .i64),(false,.int .u64),(false,.int .u64)]
abbrev Qx:Aa:=[(false,.int .u64),(false,.int .i64),(false,.bool),(false,.int .i64)]
abbrev H7:Pat:=⟨109,[(32,.one (.v .i64)),(31,.one (.sl (.int .u64))),(33,.one (.v .i64)),(2,.one (.v .u64)),(0,.one (.v .i64)),(1,.one (.v .u64))],[]⟩
abbrev dM:List (Nat×Shape):=[]
abbrev MX:List (Nat×Pat):=[(0,⟨109,[(2,.one (.v .u64)),(0,.one (.v .i64)),(1,.one (.v .u64))],[]⟩)]
abbrev Mj:Option Pat:=(some ⟨109,[(6,.one (.v .u64)),(7,.one (.v .i64)),(8,.one (.bool)),(9,.one (.v .i64))],[]⟩)
variable (w419_5:Pat.D H7->Option (Ah MX Mj))
def aJ(p69:BF)(f69:BG)(p66:B2)(f66:B3)(p65:DE)(f65:DF)(p70:Dp)(f70:Dq){R:Type}(L:Pat.D H7->Option R)(e:Ah MX Mj->Option R)(x:Pat.D H7):Option R:=let e2_:=(x.1.2.2.2.2.1,(x.1.2.1.getD (ai x.1.2.2.1) (0:Int)),());let e1_:=(f66 e2_);bif(decide (x.1.2.2.1<x.1.1))then(bif((decide ((0:Int)<=x.1.2.2.1))&&(decide (x.1.2.2.1<(x.1.2.1.length:Int))))then(bif(p66 e2_)then(bif(e1_.1 !=(0:Int))then(((e (.inr (((0:Int),(0:Int),true,e1_),())))))else(L ((x.1.1,x.1.2.1,(aa .i64 (x.1.2.2.1+(1:Int))),x.1.2.2.2),())))else none)else none)else(e (.inl (x.1.2.2.2,())))
theorem bC6(d:Nat)(R:Type)(L:Pat.D H7->Option R)(e:Ah MX Mj->Option R)(x:Pat.D H7):
  BC (cf [(71,⟨BU,BV,p69,f69⟩),(85,⟨CA,CB,p66,f66⟩),(59,⟨Dy,Dz,p65,f65⟩),(61,⟨Di,Dj,p70,f70⟩)] [(242,5,LoopSpec.of H7 dM MX Mj w419_5)]) (d+2) 242 (Bw Tryz.f242 5) H7 dM MX Mj (R:=R) L e x=aJ p69 f69 p66 f66 p65 f65 p70 f70 L e x:=by kernel_rfl
theorem aWZ(p69:BF)(f69:BG)(p66:B2)(f66:B3)(p65:DE)(f65:DF)(p70:Dp)(f70:Dq):Bq fun L e x=>aJ p69 f69 p66 f66 p65 f65 p70 f70 L e x:=by intro _ _ _ _ _ _ _ h0 hL he _;unfold aJ;repeat' (first|exact h0|exact hL _|exact he _|apply BM|(apply BN h0;intro _)|(apply BO<;>intro _))
def aNk(p69:BF)(f69:BG)(p66:B2)(f66:B3)(p65:DE)(f65:DF)(p70:Dp)(f70:Dq)(w419_5:Pat.D H7->Option (Ah MX Mj))(a0:Ab (.int .i64))(a1 a2:Ab (.int .u64)):Option (DenS Qx):=
 bif(p69 (a0,()))then(bif((f69 (a0,())).2.1 !=(0:Int))then(some ((0:Int),(0:Int),true,(f69 (a0,())).2))
 else Vx.A3 (w419_5 ((((a1::(a2::[])).length:Int),(a1::(a2::[])),(0:Int),a2,a0,a1,()),())) fun y2=>
 Vx.A2 y2 (fun y3=>
 bif(p65 y3.1.2)then(bif(p65 (y3.1.2.1,y3.1.1,()))then(bif(p70 (y3.1.2.1,()))then(bif(((f65 y3.1.2).1==(0:Int))||((f65 (y3.1.2.1,y3.1.1,())).1==(0:Int)))then(some ((f70 (y3.1.2.1,())).1,(1:Int),true,(0:Int),()))
 else bif(((f65 y3.1.2).1==(1:Int))||((f65 (y3.1.2.1,y3.1.1,())).1==(1:Int)))then(some ((f70 (y3.1.2.1,())).1,(0:Int),true,(0:Int),()))
 else bif(((((f65 y3.1.2).1==(9:Int))||((f65 y3.1.2).1==(2:Int)))||((f65 (y3.1.2.1,y3.1.1,())).1==(6:Int)))||((f65 (y3.1.2.1,y3.1.1,())).1==(5:Int)))then(some ((f70 (y3.1.2.1,())).1,(1:Int),true,(0:Int),()))
 else bif(((((f65 (y3.1.2.1,y3.1.1,())).1==(9:Int))||((f65 (y3.1.2.1,y3.1.1,())).1==(2:Int)))||((f65 y3.1.2).1==(6:Int)))||((f65 y3.1.2).1==(5:Int)))then(some (y3.1.2.2.1,(0:Int),true,(0:Int),()))
 else some ((0:Int),(0:Int),false,(0:Int),()))
 else none)
 else none)
 else none) (fun z3=>
 some z3.1))
 else none
theorem bA0(x:DenS OQ):run (cf [(71,⟨BU,BV,p69,f69⟩),(85,⟨CA,CB,p66,f66⟩),(59,⟨Dy,Dz,p65,f65⟩),(61,⟨Di,Dj,p70,f70⟩)] [(242,5,LoopSpec.of H7 dM MX Mj w419_5)]) 9 242 Tryz.f242 OQ Qx x=aNk p69 f69 p66 f66 p65 f65 p70 f70 w419_5 x.1 x.2.1 x.2.2.1:=by kernel_rfl
def aDU:H7.D->Option (Ah MX Mj):=Bf fun L=>aJ Ao.pre Ao.F Ar.pre Ar.F AW.pre AW.F AS.pre AS.F L some
def aDc(x:DenS OQ):Option (DenS Qx):=aNk Ao.pre Ao.F Ar.pre Ar.F AW.pre AW.F AS.pre AS.F aDU x.1 x.2.1 x.2.2.1
def fJ:Sum:=Aj OQ Qx aDc (DenS.dflt Qx)
theorem aQP:Sound Tryz.prog G1 242 fJ:=sd (cf [(71,Ao),(85,Ar),(59,AW),(61,AS)] [(242,5,LoopSpec.of H7 dM MX Mj aDU)]) 242 Tryz.f242 ⟨Do,Fu,G0,Gd,trivial⟩ ⟨rfl,fun d=>BL (fun L e x=>aJ Ao.pre Ao.F Ar.pre Ar.F AW.pre AW.F AS.pre AS.F L e x) (aWZ Ao.pre Ao.F Ar.pre Ar.F AW.pre AW.F AS.pre AS.F) (fun _ _ _ _=>bC6 ..),trivial⟩ OQ Qx aDc _ (fun _=>bA0 ..)
abbrev aE0:=Ae OQ
abbrev aGK:=Ad OQ Qx
variable (p419:aE0)(f419:aGK)
abbrev OR:Aa:=[(true,.pair (.bool) (.pair (.slice (.int .u64)) (.pair (.int .i64) (.unit)))),(true,.pair (.bool) (.pair (.slice (.int .u64)) (.pair (.int .i64) (.unit))))]
abbrev Qy:Aa:=[(true,.pair (.int .u64) (.pair (.int .u64) (.pair (.int .i64) (.pair (.int .u64) (.unit)))))]
abbrev H8:Pat:=⟨104,[(6,.one (.v .u64)),(9,.one (.v .i64)),(8,.one (.ptr 3 0)),(4,.one (.ptr 2 0))],[.gone,.gone,.raw [.v .u64,.v .u64,.v .i64,.v .u64],.raw [.v .u64,.v .u64,.v .i64,.v .u64]]⟩
abbrev dN:List (Nat×Shape):=[]
abbrev MY:List (Nat×Pat):=[(0,⟨104,[(8,.one (.ptr 3 0)),(4,.one (.ptr 2 0))],[.gone,.gone,.raw [.v .u64,.v .u64,.v .i64,.v .u64],.raw [.v .u64,.v .u64,.v .i64,.v .u64]]⟩)]
abbrev Mk:Option Pat:=none
variable (w420_10:Pat.D H8->Option (Ah MY Mk))
def aK(p178:Ik)(f178:Im)(p328:EL)(f328:EN){R:Type}(L:Pat.D H8->Option R)(e:Ah MY Mk->Option R)(x:Pat.D H8):Option R:=let e6_:=(if((64:Int)<x.1.2.1)then(64:Int)else x.1.2.1);let e5_:=(aa .i64 ((64:Int)-e6_));let e1_:=(f328 ((AE .u64 x.2.2.2.2.1.1 e5_),(AQ .u64 x.2.2.2.2.1.1 e6_),x.1.1,()));let e2_:=e5_;let e3_:=(decide ((0:Int)<=e6_));let e4_:=e6_;bif(decide (x.1.2.1>(0:Int)))then(bif(decide ((0:Int)<=e2_))then(bif e3_ then(bif(p328 ((AE .u64 x.2.2.2.2.1.1 e2_),(AQ .u64 x.2.2.2.2.1.1 e4_),x.1.1,()))then(bif e3_ then(((L ((x.1.1,(aa .i64 (x.1.2.1-e4_)),(),(),()),(),(),x.2.2.2.1,(e1_.2.1,x.2.2.2.2.1.2.1,x.2.2.2.2.1.2.2.1,(aa .u64 ((AQ .u64 x.2.2.2.2.1.2.2.2.1 e4_)+e1_.1)),()),()))))else none)else none)else none)else none)else(e (.inl (((),(),()),(),(),x.2.2.2)))
theorem bC7(d:Nat)(R:Type)(L:Pat.D H8->Option R)(e:Ah MY Mk->Option R)(x:Pat.D H8):
  BC (cf [(115,⟨FO,Fi,p178,f178⟩),(136,⟨Ey,ED,p328,f328⟩)] [(243,10,LoopSpec.of H8 dN MY Mk w420_10)]) (d+2) 243 (Bw Tryz.f243 10) H8 dN MY Mk (R:=R) L e x=aK p178 f178 p328 f328 L e x:=by kernel_rfl
theorem aW0(p178:Ik)(f178:Im)(p328:EL)(f328:EN):Bq fun L e x=>aK p178 f178 p328 f328 L e x:=by intro _ _ _ _ _ _ _ h0 hL he _;unfold aK;repeat' (first|exact h0|exact hL _|exact he _|apply BM|(apply BN h0;intro _)|(apply BO<;>intro _))
def aNl(p178:Ik)(f178:Im)(p328:EL)(f328:EN)(w420_10:Pat.D H8->Option (Ah MY Mk))(a0 a1:Ab (.pair (.bool) (.pair (.slice (.int .u64)) (.pair (.int .i64) (.unit))))):Option (DenS Qy):=
 let e8_:=(aa .i64 (a1.2.2.1-a0.2.2.1))
 let e7_:=(AQ .u64 (a1.2.1.getD (ai (0:Int)) (0:Int)) e8_)
 let e1_:=(e7_ !=(0:Int))
 let e2_:=e7_
 let e3_:=((a1.2.1.getD (ai (0:Int)) (0:Int))!=(0:Int))
 let e4_:=e8_
 let e5_:=((a1.2.1.getD (ai (0:Int)) (0:Int)),())
 let e6_:=((a0.2.1.getD (ai (0:Int)) (0:Int)),())
 bif(decide ((0:Int)<(a0.2.1.length:Int)))then(bif(decide ((0:Int)<(a1.2.1.length:Int)))then(bif(decide (a1.2.2.1>a0.2.2.1))then(bif(p178 e5_)then(bif(p178 e6_)then(bif(decide ((aa .i64 ((f178 e5_).1+e4_))>(aa .i64 ((f178 e6_).1+(1:Int)))))then(some (((a0.2.1.getD (ai (0:Int)) (0:Int)),(0:Int),a0.2.2.1,(0:Int),()),()))
 else bif(decide ((0:Int)<=e4_))then(bif e1_ then(bif e1_ then(some (((iu (a0.2.1.getD (ai (0:Int)) (0:Int)) e2_),e2_,a0.2.2.1,(BK .u64 (a0.2.1.getD (ai (0:Int)) (0:Int)) e2_),()),()))
 else none)
 else none)
 else none)
 else none)
 else none)
 else bif e3_ then(bif e3_ then(Vx.A3 (w420_10 (((a1.2.1.getD (ai (0:Int)) (0:Int)),(aa .i64 (a0.2.2.1-a1.2.2.1)),(),(),()),(),(),((0:Int),(0:Int),(0:Int),(0:Int),()),((iu (a0.2.1.getD (ai (0:Int)) (0:Int)) (a1.2.1.getD (ai (0:Int)) (0:Int))),(a1.2.1.getD (ai (0:Int)) (0:Int)),a1.2.2.1,(BK .u64 (a0.2.1.getD (ai (0:Int)) (0:Int)) (a1.2.1.getD (ai (0:Int)) (0:Int))),()),())) fun y5=>
 Vx.A2 y5 (fun y6=>
 some y6.2.2.2.2) (fun z6=>
 none))
 else none)
 else none)
 else none)
 else none
theorem bA1(x:DenS OR):run (cf [(115,⟨FO,Fi,p178,f178⟩),(136,⟨Ey,ED,p328,f328⟩)] [(243,10,LoopSpec.of H8 dN MY Mk w420_10)]) 9 243 Tryz.f243 OR Qy x=aNl p178 f178 p328 f328 w420_10 x.1 x.2.1:=by kernel_rfl
def aDV:H8.D->Option (Ah MY Mk):=Bf fun L=>aK CE.pre CE.F AV.pre AV.F L some
def aDd(x:DenS OR):Option (DenS Qy):=aNl CE.pre CE.F AV.pre AV.F aDV x.1 x.2.1
def fK:Sum:=Aj OR Qy aDd (DenS.dflt Qy)
theorem aQR:Sound Tryz.prog G1 243 fK:=sd (cf [(115,CE),(136,AV)] [(243,10,LoopSpec.of H8 dN MY Mk aDV)]) 243 Tryz.f243 ⟨Xo,eR,trivial⟩ ⟨rfl,fun d=>BL (fun L e x=>aK CE.pre CE.F AV.pre AV.F L e x) (aW0 CE.pre CE.F AV.pre AV.F) (fun _ _ _ _=>bC7 ..),trivial⟩ OR Qy aDd _ (fun _=>bA1 ..)
abbrev aE1:=Ae OR
abbrev aGL:=Ad OR Qy
variable (p420:aE1)(f420:aGL)
abbrev K6:Aa:=[(false,.int .i64),(false,.int .u64),(false,.int .u64),(false,.bool)]
abbrev Jw:Aa:=[(false,.int .u64),(false,.int .i64),(false,.int .i64),(false,.int .i64)]
def aNm(p419:aE0)(f419:aGK)(p40:RY)(f40:R1)(p420:aE1)(f420:aGL)(p122:Gf)(f122:Gi)(a0:Ab (.int .i64))(a1 a2:Ab (.int .u64))(a3:Ab (.bool)):Option (DenS Jw):=let e24_:=((f40 (a0,a1,())).1,(f40 (a0,a2,())).1,());let e23_:=(f420 e24_);let e20_:=(aa .u64 (e23_.1.2.1-e23_.1.1));let e22_:=(e23_.1.2.2.1,false,());let e14_:=(((0:Int),e20_,()),e22_);let e13_:=(a0,(2:Int),(f40 (a0,a1,())).1.1,e14_);let e12_:=(f122 e13_);let e1_:=(e12_.1,(aa .i64 (Bs .u64 (aa .u64 (e23_.1.2.2.2.1+(1:Int))) (7:Int))),(0:Int),e12_.2.2);let e19_:=(((0:Int),e23_.1.1,()),e22_);let e17_:=(a0,(2:Int),(!(f40 (a0,a1,())).1.1),e19_);let e15_:=(f122 e17_);let e21_:=(aa .i64 (Bs .u64 e23_.1.2.2.2.1 (7:Int)));let e2_:=(e15_.1,e21_,(0:Int),e15_.2.2);let e18_:=(a0,(2:Int),(f40 (a0,a1,())).1.1,e19_);let e16_:=(f122 e18_);let e3_:=(e16_.1,e21_,(0:Int),e16_.2.2);let e4_:=(f122 (a0,(2:Int),(!(f40 (a0,a1,())).1.1),e14_));let e5_:=(p122 e13_);let e6_:=(p122 e17_);let e7_:=(p122 e18_);let e8_:=(e20_==(0:Int));let e9_:=(aa .u64 ((2:Int)*e23_.1.1));let e10_:=(e23_.1.1==(0:Int));let e11_:=e23_;let g1_:Option (DenS Jw):=bif(a3&&false)then(bif e10_ then(bif e7_ then(some e3_)else none)else bif e6_ then(some e2_)else none)else bif e10_ then(bif e7_ then(some e3_)else none)else bif e7_ then(some e3_)else none;bif(p419 (a0,a1,a2,()))then(bif(f419 (a0,a1,a2,())).2.2.1 then(some ((f419 (a0,a1,a2,())).1,(0:Int),(f419 (a0,a1,a2,())).2.1,(f419 (a0,a1,a2,())).2.2.2))else bif(p40 (a0,a1,()))then(bif(p40 (a0,a2,()))then(bif(p420 e24_)then(bif a3 then(bif(((e11_.1.2.1==(0:Int))||(decide (e9_<e11_.1.2.1)))||((e9_==e11_.1.2.1)&&((Bs .u64 e11_.1.2.2.2.1 (1:Int))==(0:Int))))then(g1_)else bif(a3&&true)then(bif e8_ then(bif e5_ then(some e1_)else none)else bif(p122 (a0,(2:Int),(!(f40 (a0,a1,())).1.1),((0:Int),(aa .u64 (e11_.1.2.1-e11_.1.1)),()),e11_.1.2.2.1,false,()))then(some (e4_.1,(aa .i64 (Bs .u64 (aa .u64 (e11_.1.2.2.2.1+(1:Int))) (7:Int))),(0:Int),e4_.2.2))else none)else bif e8_ then(bif e5_ then(some e1_)else none)else bif e5_ then(some e1_)else none)else g1_)else none)else none)else none)else none
theorem bA2(x:DenS K6):run (cf [(242,⟨OQ,Qx,p419,f419⟩),(203,⟨GC,GO,p40,f40⟩),(243,⟨OR,Qy,p420,f420⟩),(104,⟨Et,EZ,p122,f122⟩)] []) 9 214 Tryz.f214 K6 Jw x=aNm p419 f419 p40 f40 p420 f420 p122 f122 x.1 x.2.1 x.2.2.1 x.2.2.2.1:=by kernel_rfl
def aDe(x:DenS K6):Option (DenS Jw):=aNm fJ.pre fJ.F DC.pre DC.F fK.pre fK.F Bv.pre Bv.F x.1 x.2.1 x.2.2.1 x.2.2.2.1
def S4:Sum:=Aj K6 Jw aDe (DenS.dflt Jw)
theorem aBQ:Sound Tryz.prog G1 214 S4:=sd (cf [(242,fJ),(203,DC),(243,fK),(104,Bv)] []) 214 Tryz.f214 ⟨aQP,Xw,aQR,SX,trivial⟩ trivial K6 Jw aDe _ (fun _=>bA2 ..)
abbrev tF:=Ae K6
abbrev uI:=Ad K6 Jw
variable (p421:tF)(f421:uI)
abbrev OS:Aa:=[(false,.int .i64),(false,.int .u64),(false,.int .u64)]
abbrev Qz:Aa:=[(false,.int .u64),(false,.int .i64),(false,.int .i64),(false,.int .i64)]
def aNn(p421:tF)(f421:uI)(a0:Ab (.int .i64))(a1 a2:Ab (.int .u64)):Option (DenS Qz):=bif(p421 (a0,a1,a2,true,()))then(some (f421 (a0,a1,a2,true,())))else none
theorem bA3(x:DenS OS):run (cf [(214,⟨K6,Jw,p421,f421⟩)] []) 9 167 Tryz.f167 OS Qz x=aNn p421 f421 x.1 x.2.1 x.2.2.1:=by kernel_rfl
def aDf(x:DenS OS):Option (DenS Qz):=aNn S4.pre S4.F x.1 x.2.1 x.2.2.1
def XD:Sum:=Aj OS Qz aDf (DenS.dflt Qz)
theorem aBR:Sound Tryz.prog G1 167 XD:=sd (cf [(214,S4)] []) 167 Tryz.f167 ⟨aBQ,trivial⟩ trivial OS Qz aDf _ (fun _=>bA3 ..)
abbrev aE2:=Ae OS
abbrev aGM:=Ad OS Qz
variable (p422:aE2)(f422:aGM)
abbrev OT:Aa:=[(false,.int .i64),(false,.int .u64),(false,.int .u64)]
abbrev QA:Aa:=[(false,.int .u64),(false,.int .i64),(false,.int .i64),(false,.int .i64)]
def aNo(p421:tF)(f421:uI)(a0:Ab (.int .i64))(a1 a2:Ab (.int .u64)):Option (DenS QA):=bif(p421 (a0,a1,a2,false,()))then(some (f421 (a0,a1,a2,false,())))else none
theorem bA4(x:DenS OT):run (cf [(214,⟨K6,Jw,p421,f421⟩)] []) 9 168 Tryz.f168 OT QA x=aNo p421 f421 x.1 x.2.1 x.2.2.1:=by kernel_rfl
def aDg(x:DenS OT):Option (DenS QA):=aNo S4.pre S4.F x.1 x.2.1 x.2.2.1
def XE:Sum:=Aj OT QA aDg (DenS.dflt QA)
theorem aBS:Sound Tryz.prog G1 168 XE:=sd (cf [(214,S4)] []) 168 Tryz.f168 ⟨aBQ,trivial⟩ trivial OT QA aDg _ (fun _=>bA4 ..)
abbrev aE3:=Ae OT
abbrev aGN:=Ad OT QA
variable (p423:aE3)(f423:aGN)
abbrev dU:Aa:=[(false,.int .i64),(false,.int .u64),(false,.int .u64)]
abbrev qW:Aa:=[(false,.int .u64),(false,.int .i64),(false,.int .i64),(false,.int .i64)]
def dY:SumF:=Kq dU qW [(167,[],XD),(168,[],XE)]
theorem aPP:KM Tryz.prog G1 dY:=Vy ⟨DH aBR,⟨DH aBS,trivial⟩⟩
abbrev aD4:=Option (Nat×List Nat)->Ae dU
abbrev aFO:=Option (Nat×List Nat)->Ad dU qW
variable (p100004:aD4)(f100004:aFO)
abbrev OU:Aa:=[(true,.pair (.int .i64) (.pair (.int .i64) (.pair (.int .u64) (.pair (.int .u64) (.pair (.int .u64) .unit))))),(false,.box (.pfn))]
abbrev QB:Aa:=[(false,.int .u64),(false,.int .i64),(false,.int .i64)]
def aNp(p100004:aD4)(f100004:aFO)(a0:Ab (.pair (.int .i64) (.pair (.int .i64) (.pair (.int .u64) (.pair (.int .u64) (.pair (.int .u64) .unit))))))(a1:Ab (.box (.pfn))):Option (DenS QB):=let e1_:=(f100004 (some (a1,[])) (a0.2.1,a0.2.2.1,a0.2.2.2.1,()));bif(p100004 (some (a1,[])) (a0.2.1,a0.2.2.1,a0.2.2.2.1,()))then(some (e1_.1,e1_.2.2))else none
theorem bA5(x:DenS OU):run ({cf [] []with fns:=[(246,⟨dU,qW,p100004,f100004⟩)] }) 9 213 Tryz.f213 OU QB x=aNp p100004 f100004 x.1 x.2.1:=by kernel_rfl
def aDh(x:DenS OU):Option (DenS QB):=aNp dY.pre dY.F x.1 x.2.1
def Ru:Sum:=Aj OU QB aDh (DenS.dflt QB)
theorem rK:Sound Tryz.prog G1 213 Ru:=sd ({cf [] []with fns:=[(246,dY)] }) 213 Tryz.f213 trivial trivial OU QB aDh _ (fun _=>bA5 ..) (hfs:=⟨aPP,trivial⟩)
abbrev aE4:=Ae OU
abbrev aGO:=Ad OU QB
variable (p424:aE4)(f424:aGO)
abbrev Pl:Aa:=[(false,.int .i64),(false,.int .i64)]
abbrev Q2:Aa:=[(false,.bool)]
def t61(a0 a1:Ab (.int .i64)):Option (DenS Q2):=some ((decide (a1<a0)),())
theorem r61(x:DenS Pl):run (cf [] []) 9 223 Tryz.f223 Pl Q2 x=t61 x.1 x.2.1:=by kernel_rfl
def T61(x:DenS Pl):Option (DenS Q2):=t61 x.1 x.2.1
def fU:Sum:=Aj Pl Q2 T61 (DenS.dflt Q2)
theorem aRg:Sound Tryz.prog G1 223 fU:=sd (cf [] []) 223 Tryz.f223 trivial trivial Pl Q2 T61 _ (fun _=>r61 ..)
abbrev Y61:=Ae Pl
abbrev Z61:=Ad Pl Q2
variable (p61:Y61)(f61:Z61)
abbrev Jb:Aa:=[(false,.int .i64),(false,.int .u64),(false,.int .u64)]
abbrev JB:Aa:=[(true,.pair (.int .i64) (.pair (.int .i64) (.unit))),(true,.pair (.int .i64) (.pair (.int .i64) (.unit))),(false,.int .i64)]
def t52(p82:Zm)(f82:Zz)(a0:Ab (.int .i64))(a1 a2:Ab (.int .u64)):Option (DenS JB):=bif(p82 (a0,a1,()))then(bif((f82 (a0,a1,())).2.1 !=(0:Int))then(some ((f82 (a0,a1,())).1,((0:Int),(0:Int),()),(f82 (a0,a1,())).2))else bif(p82 (a0,a2,()))then(some ((f82 (a0,a1,())).1,(f82 (a0,a2,()))))else none)else none
theorem r52(x:DenS Jb):run (cf [(228,⟨Je,JF,p82,f82⟩)] []) 9 245 Tryz.f245 Jb JB x=t52 p82 f82 x.1 x.2.1 x.2.2.1:=by kernel_rfl
def T52(x:DenS Jb):Option (DenS JB):=t52 JW.pre JW.F x.1 x.2.1 x.2.2.1
def JV:Sum:=Aj Jb JB T52 (DenS.dflt JB)
theorem rR:Sound Tryz.prog G1 245 JV:=sd (cf [(228,JW)] []) 245 Tryz.f245 ⟨rT,trivial⟩ trivial Jb JB T52 _ (fun _=>r52 ..)
abbrev iM:=Ae Jb
abbrev i6:=Ad Jb JB
variable (p52:iM)(f52:i6)
abbrev NZ:Aa:=[(false,.int .i64),(false,.int .u64),(false,.int .u64)]
abbrev PP:Aa:=[(false,.int .u64),(false,.int .i64),(false,.int .i64)]
def t19(p61:Y61)(f61:Z61)(p52:iM)(f52:i6)(p54:Tl)(f54:Tr)(p70:Dp)(f70:Dq)(p53:Tk)(f53:Tq)(a0:Ab (.int .i64))(a1 a2:Ab (.int .u64)):Option (DenS PP):=let e3_:=((f52 (a0,a1,a2,())).1,(f52 (a0,a1,a2,())).2.1,());let e1_:=((f54 e3_).1,(0:Int),());let e2_:=((f52 (a0,a1,a2,())).1.2.1,(f52 (a0,a1,a2,())).2.1.2);bif(p52 (a0,a1,a2,()))then(bif((f52 (a0,a1,a2,())).2.2.1 !=(0:Int))then(some ((0:Int),(0:Int),(f52 (a0,a1,a2,())).2.2))else bif(p54 e3_)then(bif(p53 ((f52 (a0,a1,a2,())).1,()))then(bif((p53 ((f52 (a0,a1,a2,())).2.1,()))||(!(f53 ((f52 (a0,a1,a2,())).1,())).1))then(bif((f53 ((f52 (a0,a1,a2,())).1,())).1&&(f53 ((f52 (a0,a1,a2,())).2.1,())).1)then(bif(p70 (a0,()))then(some ((f70 (a0,())).1,e1_))else none)else bif(p53 ((f52 (a0,a1,a2,())).1,()))then(bif((p53 ((f52 (a0,a1,a2,())).2.1,()))||(!(bif(f53 ((f52 (a0,a1,a2,())).1,())).1 then false else true)))then(bif((p61 e2_)||(!((bif(f53 ((f52 (a0,a1,a2,())).1,())).1 then false else true)&&(bif(f53 ((f52 (a0,a1,a2,())).2.1,())).1 then false else true))))then(bif((f53 ((f52 (a0,a1,a2,())).1,())).1||((!(f53 ((f52 (a0,a1,a2,())).2.1,())).1)&&((f61 e2_).1||(((f52 (a0,a1,a2,())).1.2.1==(0:Int))&&((f52 (a0,a1,a2,())).2.1.1==(5:Int))))))then(some (a2,e1_))else some (a1,e1_))else none)else none)else none)else none)else none)else none)else none
theorem r19(x:DenS NZ):run (cf [(223,⟨Pl,Q2,p61,f61⟩),(245,⟨Jb,JB,p52,f52⟩),(230,⟨GE,GQ,p54,f54⟩),(61,⟨Di,Dj,p70,f70⟩),(229,⟨GD,GP,p53,f53⟩)] []) 9 178 Tryz.f178 NZ PP x=t19 p61 f61 p52 f52 p54 f54 p70 f70 p53 f53 x.1 x.2.1 x.2.2.1:=by kernel_rfl
def T19(x:DenS NZ):Option (DenS PP):=t19 fU.pre fU.F JV.pre JV.F EI.pre EI.F AS.pre AS.F EH.pre EH.F x.1 x.2.1 x.2.2.1
def Xp:Sum:=Aj NZ PP T19 (DenS.dflt PP)
theorem aBp:Sound Tryz.prog G1 178 Xp:=sd (cf [(223,fU),(245,JV),(230,EI),(61,AS),(229,EH)] []) 178 Tryz.f178 ⟨aRg,rR,XG,Gd,XF,trivial⟩ trivial NZ PP T19 _ (fun _=>r19 ..)
abbrev Y19:=Ae NZ
abbrev Z19:=Ad NZ PP
variable (p19:Y19)(f19:Z19)
abbrev Pm:Aa:=[(false,.int .i64),(false,.int .i64)]
abbrev Q3:Aa:=[(false,.bool)]
def t63(a0 a1:Ab (.int .i64)):Option (DenS Q3):=some ((decide (a1>a0)),())
theorem r63(x:DenS Pm):run (cf [] []) 9 224 Tryz.f224 Pm Q3 x=t63 x.1 x.2.1:=by kernel_rfl
def T63(x:DenS Pm):Option (DenS Q3):=t63 x.1 x.2.1
def fV:Sum:=Aj Pm Q3 T63 (DenS.dflt Q3)
theorem aRh:Sound Tryz.prog G1 224 fV:=sd (cf [] []) 224 Tryz.f224 trivial trivial Pm Q3 T63 _ (fun _=>r63 ..)
abbrev Y63:=Ae Pm
abbrev Z63:=Ad Pm Q3
variable (p63:Y63)(f63:Z63)
abbrev N0:Aa:=[(false,.int .i64),(false,.int .u64),(false,.int .u64)]
abbrev PQ:Aa:=[(false,.int .u64),(false,.int .i64),(false,.int .i64)]
def t21(p63:Y63)(f63:Z63)(p52:iM)(f52:i6)(p54:Tl)(f54:Tr)(p70:Dp)(f70:Dq)(p53:Tk)(f53:Tq)(a0:Ab (.int .i64))(a1 a2:Ab (.int .u64)):Option (DenS PQ):=let e3_:=((f52 (a0,a1,a2,())).1,(f52 (a0,a1,a2,())).2.1,());let e1_:=((f54 e3_).1,(0:Int),());let e2_:=((f52 (a0,a1,a2,())).1.2.1,(f52 (a0,a1,a2,())).2.1.2);bif(p52 (a0,a1,a2,()))then(bif((f52 (a0,a1,a2,())).2.2.1 !=(0:Int))then(some ((0:Int),(0:Int),(f52 (a0,a1,a2,())).2.2))else bif(p54 e3_)then(bif(p53 ((f52 (a0,a1,a2,())).1,()))then(bif((p53 ((f52 (a0,a1,a2,())).2.1,()))||(!(f53 ((f52 (a0,a1,a2,())).1,())).1))then(bif((f53 ((f52 (a0,a1,a2,())).1,())).1&&(f53 ((f52 (a0,a1,a2,())).2.1,())).1)then(bif(p70 (a0,()))then(some ((f70 (a0,())).1,e1_))else none)else bif(p53 ((f52 (a0,a1,a2,())).1,()))then(bif((p53 ((f52 (a0,a1,a2,())).2.1,()))||(!(bif(f53 ((f52 (a0,a1,a2,())).1,())).1 then false else true)))then(bif((p63 e2_)||(!((bif(f53 ((f52 (a0,a1,a2,())).1,())).1 then false else true)&&(bif(f53 ((f52 (a0,a1,a2,())).2.1,())).1 then false else true))))then(bif((f53 ((f52 (a0,a1,a2,())).1,())).1||((!(f53 ((f52 (a0,a1,a2,())).2.1,())).1)&&((f63 e2_).1||(((f52 (a0,a1,a2,())).1.2.1==(0:Int))&&((f52 (a0,a1,a2,())).2.1.1==(6:Int))))))then(some (a2,e1_))else some (a1,e1_))else none)else none)else none)else none)else none)else none)else none
theorem r21(x:DenS N0):run (cf [(224,⟨Pm,Q3,p63,f63⟩),(245,⟨Jb,JB,p52,f52⟩),(230,⟨GE,GQ,p54,f54⟩),(61,⟨Di,Dj,p70,f70⟩),(229,⟨GD,GP,p53,f53⟩)] []) 9 179 Tryz.f179 N0 PQ x=t21 p63 f63 p52 f52 p54 f54 p70 f70 p53 f53 x.1 x.2.1 x.2.2.1:=by kernel_rfl
def T21(x:DenS N0):Option (DenS PQ):=t21 fV.pre fV.F JV.pre JV.F EI.pre EI.F AS.pre AS.F EH.pre EH.F x.1 x.2.1 x.2.2.1
def Xq:Sum:=Aj N0 PQ T21 (DenS.dflt PQ)
theorem aBq:Sound Tryz.prog G1 179 Xq:=sd (cf [(224,fV),(245,JV),(230,EI),(61,AS),(229,EH)] []) 179 Tryz.f179 ⟨aRh,rR,XG,Gd,XF,trivial⟩ trivial N0 PQ T21 _ (fun _=>r21 ..)
abbrev Y21:=Ae N0
abbrev Z21:=Ad N0 PQ
variable (p21:Y21)(f21:Z21)
abbrev dT:Aa:=[(false,.int .i64),(false,.int .u64),(false,.int .u64)]
abbrev qV:Aa:=[(false,.int .u64),(false,.int .i64),(false,.int .i64)]
def dX:SumF:=Kq dT qV [(178,[],Xp),(179,[],Xq)]
theorem aPO:KM Tryz.prog G1 dX:=Vy ⟨DH aBp,⟨DH aBq,trivial⟩⟩
abbrev aD3:=Option (Nat×List Nat)->Ae dT
abbrev aFN:=Option (Nat×List Nat)->Ad dT qV
variable (p100003:aD3)(f100003:aFN)
abbrev OV:Aa:=[(true,.pair (.int .i64) (.pair (.int .i64) (.pair (.int .u64) (.pair (.int .u64) (.pair (.int .u64) .unit))))),(false,.box (.pfn))]
abbrev QC:Aa:=[(false,.int .u64),(false,.int .i64),(false,.int .i64)]
def aNq(p100003:aD3)(f100003:aFN)(a0:Ab (.pair (.int .i64) (.pair (.int .i64) (.pair (.int .u64) (.pair (.int .u64) (.pair (.int .u64) .unit))))))(a1:Ab (.box (.pfn))):Option (DenS QC):=bif(p100003 (some (a1,[])) (a0.2.1,a0.2.2.1,a0.2.2.2.1,()))then(some (f100003 (some (a1,[])) (a0.2.1,a0.2.2.1,a0.2.2.2.1,())))else none
theorem bA6(x:DenS OV):run ({cf [] []with fns:=[(57,⟨dT,qV,p100003,f100003⟩)] }) 9 221 Tryz.f221 OV QC x=aNq p100003 f100003 x.1 x.2.1:=by kernel_rfl
def aDi(x:DenS OV):Option (DenS QC):=aNq dX.pre dX.F x.1 x.2.1
def Rw:Sum:=Aj OV QC aDi (DenS.dflt QC)
theorem rL:Sound Tryz.prog G1 221 Rw:=sd ({cf [] []with fns:=[(57,dX)] }) 221 Tryz.f221 trivial trivial OV QC aDi _ (fun _=>bA6 ..) (hfs:=⟨aPO,trivial⟩)
abbrev aE5:=Ae OV
abbrev aGP:=Ad OV QC
variable (p425:aE5)(f425:aGP)
abbrev NN:Aa:=[(false,.int .i64),(false,.int .u64),(false,.int .u64),(false,.bool)]
abbrev PA:Aa:=[(false,.int .i64),(false,.int .i64),(false,.int .i64)]
def t14(p52:iM)(f52:i6)(p53:Tk)(f53:Tq)(p54:Tl)(f54:Tr)(a0:Ab (.int .i64))(a1 a2:Ab (.int .u64))(a3:Ab (.bool)):Option (DenS PA):=let e1_:=((f52 (a0,a1,a2,())).1,(f52 (a0,a1,a2,())).2.1,());bif(p52 (a0,a1,a2,()))then(bif((f52 (a0,a1,a2,())).2.2.1 !=(0:Int))then(some ((0:Int),(0:Int),(f52 (a0,a1,a2,())).2.2))else bif(p53 ((f52 (a0,a1,a2,())).1,()))then(bif((p53 ((f52 (a0,a1,a2,())).2.1,()))||(!(bif(f53 ((f52 (a0,a1,a2,())).1,())).1 then false else true)))then(bif((f53 ((f52 (a0,a1,a2,())).1,())).1||(f53 ((f52 (a0,a1,a2,())).2.1,())).1)then(bif(p54 e1_)then(bif a3 then(some ((3:Int),(1:Int),(0:Int),()))else some ((3:Int),(f54 e1_).1,(0:Int),()))else none)else bif(decide ((f52 (a0,a1,a2,())).1.2.1<(f52 (a0,a1,a2,())).2.1.2.1))then(some ((0:Int),(0:Int),(0:Int),()))else bif(decide ((f52 (a0,a1,a2,())).1.2.1>(f52 (a0,a1,a2,())).2.1.2.1))then(some ((2:Int),(0:Int),(0:Int),()))else some ((1:Int),(0:Int),(0:Int),()))else none)else none)else none
theorem r14(x:DenS NN):run (cf [(245,⟨Jb,JB,p52,f52⟩),(229,⟨GD,GP,p53,f53⟩),(230,⟨GE,GQ,p54,f54⟩)] []) 9 226 Tryz.f226 NN PA x=t14 p52 f52 p53 f53 p54 f54 x.1 x.2.1 x.2.2.1 x.2.2.2.1:=by kernel_rfl
def T14(x:DenS NN):Option (DenS PA):=t14 JV.pre JV.F EH.pre EH.F EI.pre EI.F x.1 x.2.1 x.2.2.1 x.2.2.2.1
def eD:Sum:=Aj NN PA T14 (DenS.dflt PA)
theorem aP5:Sound Tryz.prog G1 226 eD:=sd (cf [(245,JV),(229,EH),(230,EI)] []) 226 Tryz.f226 ⟨rR,XF,XG,trivial⟩ trivial NN PA T14 _ (fun _=>r14 ..)
abbrev Y14:=Ae NN
abbrev Z14:=Ad NN PA
variable (p14:Y14)(f14:Z14)
abbrev OW:Aa:=[(true,.pair (.int .i64) (.pair (.int .i64) (.pair (.int .u64) (.pair (.int .u64) (.pair (.int .u64) .unit))))),(false,.box (.bool))]
abbrev QD:Aa:=[(false,.int .u64),(false,.int .i64),(false,.int .i64)]
def aNr(p14:Y14)(f14:Z14)(a0:Ab (.pair (.int .i64) (.pair (.int .i64) (.pair (.int .u64) (.pair (.int .u64) (.pair (.int .u64) .unit))))))(a1:Ab (.box (.bool))):Option (DenS QD):=let e1_:=(f14 (a0.2.1,a0.2.2.1,a0.2.2.2.1,a1,()));bif(p14 (a0.2.1,a0.2.2.1,a0.2.2.2.1,a1,()))then(some ((aa .u64 e1_.1),e1_.2))else none
theorem bA7(x:DenS OW):run (cf [(226,⟨NN,PA,p14,f14⟩)] []) 9 225 Tryz.f225 OW QD x=aNr p14 f14 x.1 x.2.1:=by kernel_rfl
def aDj(x:DenS OW):Option (DenS QD):=aNr eD.pre eD.F x.1 x.2.1
def Rx:Sum:=Aj OW QD aDj (DenS.dflt QD)
theorem rM:Sound Tryz.prog G1 225 Rx:=sd (cf [(226,eD)] []) 225 Tryz.f225 ⟨aP5,trivial⟩ trivial OW QD aDj _ (fun _=>bA7 ..)
abbrev aE6:=Ae OW
abbrev aGQ:=Ad OW QD
variable (p426:aE6)(f426:aGQ)
abbrev dV:Aa:=[(false,.int .i64),(false,.int .u64)]
abbrev qX:Aa:=[(false,.int .u64),(false,.int .i64)]
def dZ:SumF:=Kq dV qX [(187,[],E1),(188,[],JQ)]
theorem aPQ:KM Tryz.prog G1 dZ:=Vy ⟨DH fY,⟨DH rC,trivial⟩⟩
abbrev aD5:=Option (Nat×List Nat)->Ae dV
abbrev aFP:=Option (Nat×List Nat)->Ad dV qX
variable (p100005:aD5)(f100005:aFP)
abbrev OX:Aa:=[(true,.pair (.int .i64) (.pair (.int .i64) (.pair (.int .u64) (.pair (.int .u64) (.pair (.int .u64) .unit))))),(false,.box (.pfn))]
abbrev QE:Aa:=[(false,.int .u64),(false,.int .i64),(false,.int .i64)]
def aNs(p100005:aD5)(f100005:aFP)(a0:Ab (.pair (.int .i64) (.pair (.int .i64) (.pair (.int .u64) (.pair (.int .u64) (.pair (.int .u64) .unit))))))(a1:Ab (.box (.pfn))):Option (DenS QE):=let e1_:=(f100005 (some (a1,[])) (a0.2.1,a0.2.2.1,()));bif(p100005 (some (a1,[])) (a0.2.1,a0.2.2.1,()))then(some (e1_.1,(0:Int),e1_.2))else none
theorem bA8(x:DenS OX):run ({cf [] []with fns:=[(64,⟨dV,qX,p100005,f100005⟩)] }) 9 232 Tryz.f232 OX QE x=aNs p100005 f100005 x.1 x.2.1:=by kernel_rfl
def aDk(x:DenS OX):Option (DenS QE):=aNs dZ.pre dZ.F x.1 x.2.1
def Ry:Sum:=Aj OX QE aDk (DenS.dflt QE)
theorem rN:Sound Tryz.prog G1 232 Ry:=sd ({cf [] []with fns:=[(64,dZ)] }) 232 Tryz.f232 trivial trivial OX QE aDk _ (fun _=>bA8 ..) (hfs:=⟨aPQ,trivial⟩)
abbrev aE7:=Ae OX
abbrev aGR:=Ad OX QE
variable (p427:aE7)(f427:aGR)
abbrev Er:Aa:=[(true,.pair (.int .i64) (.pair (.int .i64) (.pair (.int .u64) (.pair (.int .u64) (.pair (.int .u64) .unit)))))]
abbrev D1:Aa:=[(false,.int .u64),(false,.int .i64),(false,.int .i64)]
def JO:SumF:=Kq Er D1 [(192,[160],IR Er D1 Dd.pre Dd.F 158),(192,[161],IR Er D1 Dd.pre Dd.F 159),(192,[162],IR Er D1 Dd.pre Dd.F 160),(192,[163],IR Er D1 Dd.pre Dd.F 161),(162,[],Xs),(164,[],Xt),(169,[],Xu),(171,[],Xv),(173,[],Xx),(175,[],Xy),(181,[],Xz),(183,[],XA),(185,[],XB),(189,[],XC),(213,[169],IR Er D1 Ru.pre Ru.F 167),(213,[170],IR Er D1 Ru.pre Ru.F 168),(221,[180],IR Er D1 Rw.pre Rw.F 178),(221,[181],IR Er D1 Rw.pre Rw.F 179),(225,[0],aAf Er D1 Rx.pre Rx.F false),(225,[1],aAf Er D1 Rx.pre Rx.F true),(232,[189],IR Er D1 Ry.pre Ry.F 187),(232,[190],IR Er D1 Ry.pre Ry.F 188)]
theorem aPM:KM Tryz.prog G1 JO:=Vy ⟨Kx Xr 158,⟨Kx Xr 159,⟨Kx Xr 160,⟨Kx Xr 161,⟨DH aBD,⟨DH aBF,⟨DH aBI,⟨DH aBJ,⟨DH aBK,⟨DH aBL,⟨DH aBM,⟨DH aBN,⟨DH aBO,⟨DH aBP,⟨Kx rK 167,⟨Kx rK 168,⟨Kx rL 178,⟨Kx rL 179,⟨aIS rM false,⟨aIS rM true,⟨Kx rN 187,⟨Kx rN 188,trivial⟩⟩⟩⟩⟩⟩⟩⟩⟩⟩⟩⟩⟩⟩⟩⟩⟩⟩⟩⟩⟩⟩
abbrev aD1:=Option (Nat×List Nat)->Ae Er
abbrev aFL:=Option (Nat×List Nat)->Ad Er D1
variable (p100001:aD1)(f100001:aFL)
abbrev OY:Aa:=[(false,.int .i64)]
abbrev QF:Aa:=[(false,.bool)]
def aNt(a0:Ab (.int .i64)):Option (DenS QF):=some (((ZJ .i64 a0 (31:Int))==(0:Int)),())
theorem bA9(x:DenS OY):run (cf [] []) 9 152 Tryz.f152 OY QF x=aNt x.1:=by kernel_rfl
def UV(x:DenS OY):Option (DenS QF):=aNt x.1
def Rz:Sum:=Aj OY QF UV (DenS.dflt QF)
theorem aQS:Sound Tryz.prog G1 152 Rz:=sd (cf [] []) 152 Tryz.f152 trivial trivial OY QF UV _ (fun _=>bA9 ..)
abbrev aE8:=Ae OY
abbrev aGS:=Ad OY QF
variable (p428:aE8)(f428:aGS)
abbrev OZ:Aa:=[(true,.pair (.int .i64) (.pair (.int .i64) (.pair (.int .i64) (.unit))))]
abbrev QG:Aa:=[(false,.int .i64)]
def oP(p428:aE8)(f428:aGS)(a0:Ab (.pair (.int .i64) (.pair (.int .i64) (.pair (.int .i64) (.unit))))):Option (DenS QG):=bif((decide (a0.1<(0:Int)))||(decide (a0.1>(5:Int))))then(some ((3:Int),()))else bif(p428 (a0.2.1,()))then(bif((p428 a0.2.2)||(!(bif(!(f428 (a0.2.1,())).1)then false else true)))then(bif((!(f428 (a0.2.1,())).1)||(!(f428 a0.2.2).1))then(some ((7:Int),()))else some ((0:Int),()))else none)else none
theorem bBa(x:DenS OZ):run (cf [(152,⟨OY,QF,p428,f428⟩)] []) 9 144 Tryz.f144 OZ QG x=oP p428 f428 x.1:=by kernel_rfl
def UW(x:DenS OZ):Option (DenS QG):=oP Rz.pre Rz.F x.1
def RA:Sum:=Aj OZ QG UW (DenS.dflt QG)
theorem aQT:Sound Tryz.prog G1 144 RA:=sd (cf [(152,Rz)] []) 144 Tryz.f144 ⟨aQS,trivial⟩ trivial OZ QG UW _ (fun _=>bBa ..)
abbrev aE9:=Ae OZ
abbrev aGT:=Ad OZ QG
variable (p429:aE9)(f429:aGT)
abbrev O1:Aa:=[(false,.pfn)]
abbrev QI:Aa:=[(true,.pair (.int .i64) (.pair .fn .unit))]
def aNv(p395:sR)(f395:t0)(a0:Ab (.pfn)):Option (DenS QI):=some (((2:Int),(some ((192:Nat),((a0+(2:Nat))::[]))),()),())
theorem bBc(x:DenS O1):run (cf [(192,⟨Ov,Lx,p395,f395⟩)] []) 9 157 Tryz.f157 O1 QI x=aNv p395 f395 x.1:=by kernel_rfl
def aDm(x:DenS O1):Option (DenS QI):=aNv Dd.pre Dd.F x.1
def fL:Sum:=Aj O1 QI aDm (DenS.dflt QI)
theorem aQU:Sound Tryz.prog G1 157 fL:=sd (cf [(192,Dd)] []) 157 Tryz.f157 ⟨Xr,trivial⟩ trivial O1 QI aDm _ (fun _=>bBc ..)
abbrev aFb:=Ae O1
abbrev aGV:=Ad O1 QI
variable (p430:aFb)(f430:aGV)
abbrev O2:Aa:=[(false,.pfn)]
abbrev QJ:Aa:=[(true,.pair (.int .i64) (.pair .fn .unit))]
def aNw(p424:aE4)(f424:aGO)(a0:Ab (.pfn)):Option (DenS QJ):=some (((2:Int),(some ((213:Nat),((a0+(2:Nat))::[]))),()),())
theorem bBd(x:DenS O2):run (cf [(213,⟨OU,QB,p424,f424⟩)] []) 9 166 Tryz.f166 O2 QJ x=aNw p424 f424 x.1:=by kernel_rfl
def aDn(x:DenS O2):Option (DenS QJ):=aNw Ru.pre Ru.F x.1
def fM:Sum:=Aj O2 QJ aDn (DenS.dflt QJ)
theorem aQV:Sound Tryz.prog G1 166 fM:=sd (cf [(213,Ru)] []) 166 Tryz.f166 ⟨rK,trivial⟩ trivial O2 QJ aDn _ (fun _=>bBd ..)
abbrev aFc:=Ae O2
abbrev aGW:=Ad O2 QJ
variable (p431:aFc)(f431:aGW)
abbrev O3:Aa:=[(false,.pfn)]
abbrev QK:Aa:=[(true,.pair (.int .i64) (.pair .fn .unit))]
def aNx(p425:aE5)(f425:aGP)(a0:Ab (.pfn)):Option (DenS QK):=some (((2:Int),(some ((221:Nat),((a0+(2:Nat))::[]))),()),())
theorem bBe(x:DenS O3):run (cf [(221,⟨OV,QC,p425,f425⟩)] []) 9 177 Tryz.f177 O3 QK x=aNx p425 f425 x.1:=by kernel_rfl
def aDo(x:DenS O3):Option (DenS QK):=aNx Rw.pre Rw.F x.1
def fN:Sum:=Aj O3 QK aDo (DenS.dflt QK)
theorem aQW:Sound Tryz.prog G1 177 fN:=sd (cf [(221,Rw)] []) 177 Tryz.f177 ⟨rL,trivial⟩ trivial O3 QK aDo _ (fun _=>bBe ..)
abbrev aFd:=Ae O3
abbrev aGX:=Ad O3 QK
variable (p432:aFd)(f432:aGX)
abbrev O4:Aa:=[(false,.bool)]
abbrev QL:Aa:=[(true,.pair (.int .i64) (.pair .fn .unit))]
def aNy(p426:aE6)(f426:aGQ)(a0:Ab (.bool)):Option (DenS QL):=some (((2:Int),(some ((225:Nat),((bif a0 then(1:Nat)else(0:Nat))::[]))),()),())
theorem bBf(x:DenS O4):run (cf [(225,⟨OW,QD,p426,f426⟩)] []) 9 180 Tryz.f180 O4 QL x=aNy p426 f426 x.1:=by kernel_rfl
def aDp(x:DenS O4):Option (DenS QL):=aNy Rx.pre Rx.F x.1
def fO:Sum:=Aj O4 QL aDp (DenS.dflt QL)
theorem aQX:Sound Tryz.prog G1 180 fO:=sd (cf [(225,Rx)] []) 180 Tryz.f180 ⟨rM,trivial⟩ trivial O4 QL aDp _ (fun _=>bBf ..)
abbrev aFe:=Ae O4
abbrev aGY:=Ad O4 QL
variable (p433:aFe)(f433:aGY)
abbrev O5:Aa:=[(false,.pfn)]
abbrev QM:Aa:=[(true,.pair (.int .i64) (.pair .fn .unit))]
def aNz(p427:aE7)(f427:aGR)(a0:Ab (.pfn)):Option (DenS QM):=some (((1:Int),(some ((232:Nat),((a0+(2:Nat))::[]))),()),())
theorem bBg(x:DenS O5):run (cf [(232,⟨OX,QE,p427,f427⟩)] []) 9 186 Tryz.f186 O5 QM x=aNz p427 f427 x.1:=by kernel_rfl
def aDq(x:DenS O5):Option (DenS QM):=aNz Ry.pre Ry.F x.1
def fQ:Sum:=Aj O5 QM aDq (DenS.dflt QM)
theorem aQY:Sound Tryz.prog G1 186 fQ:=sd (cf [(232,Ry)] []) 186 Tryz.f186 ⟨rN,trivial⟩ trivial O5 QM aDq _ (fun _=>bBg ..)
abbrev aFf:=Ae O5
abbrev aGZ:=Ad O5 QM
variable (p434:aFf)(f434:aGZ)
abbrev O6:Aa:=[]
abbrev QN:Aa:=[(false,.slice (.pair (.int .i64) (.pair .fn .unit)))]
def aNA(p27:iB)(f27:iT)(p25:sL)(f25:tU)(p354:sP)(f354:tY)(p381:sQ)(f381:tZ)(p430:aFb)(f430:aGV)(p396:sS)(f396:t5)(p402:sU)(f402:t7)(p422:aE2)(f422:aGM)(p423:aE3)(f423:aGN)(p431:aFc)(f431:aGW)(p407:sX)(f407:uA)(p408:sY)(f408:uB)(p411:sZ)(f411:uC)(p413:tA)(f413:uD)(p19:Y19)(f19:Z19)(p21:Y21)(f21:Z21)(p432:aFd)(f432:aGX)(p433:aFe)(f433:aGY)(p414:tB)(f414:uE)(p415:tC)(f415:uF)(p416:tD)(f416:uG)(p64:Vd)(f64:Vn)(p112:hJ)(f112:iP)(p434:aFf)(f434:aGZ)(p418:tE)(f418:uH):Option (DenS QN):=bif(p430 ((158:Nat),()))then(bif(p430 ((159:Nat),()))then(bif(p430 ((160:Nat),()))then(bif(p430 ((161:Nat),()))then(bif(p431 ((167:Nat),()))then(bif(p431 ((168:Nat),()))then(bif(p432 ((178:Nat),()))then(bif(p432 ((179:Nat),()))then(bif(p433 (false,()))then(bif(p433 (true,()))then(bif(p434 ((187:Nat),()))then(bif(p434 ((188:Nat),()))then(some ((((0:Int),none,())::((f430 ((158:Nat),())).1::((f430 ((159:Nat),())).1::((f430 ((160:Nat),())).1::((f430 ((161:Nat),())).1::(((1:Int),(some ((162:Nat),[])),())::(((3:Int),(some ((164:Nat),[])),())::((f431 ((167:Nat),())).1::((f431 ((168:Nat),())).1::(((1:Int),(some ((169:Nat),[])),())::(((1:Int),(some ((171:Nat),[])),())::(((1:Int),(some ((173:Nat),[])),())::(((0:Int),(some ((175:Nat),[])),())::((f432 ((178:Nat),())).1::((f432 ((179:Nat),())).1::((f433 (false,())).1::((f433 (true,())).1::(((1:Int),(some ((181:Nat),[])),())::(((1:Int),(some ((183:Nat),[])),())::(((1:Int),(some ((185:Nat),[])),())::((f434 ((187:Nat),())).1::((f434 ((188:Nat),())).1::(((2:Int),(some ((189:Nat),[])),())::[]))))))))))))))))))))))),()))else none)else none)else none)else none)else none)else none)else none)else none)else none)else none)else none)else none
theorem bBh(x:DenS O6):run (cf [(158,⟨KU,Lo,p27,f27⟩),(159,⟨N1,PR,p25,f25⟩),(160,⟨Of,P6,p354,f354⟩),(161,⟨Oo,Lw,p381,f381⟩),(157,⟨O1,QI,p430,f430⟩),(162,⟨Ow,Qf,p396,f396⟩),(164,⟨OB,Qk,p402,f402⟩),(167,⟨OS,Qz,p422,f422⟩),(168,⟨OT,QA,p423,f423⟩),(166,⟨O2,QJ,p431,f431⟩),(169,⟨OD,Ql,p407,f407⟩),(171,⟨OE,Qm,p408,f408⟩),(173,⟨OI,Qp,p411,f411⟩),(175,⟨OK,Qr,p413,f413⟩),(178,⟨NZ,PP,p19,f19⟩),(179,⟨N0,PQ,p21,f21⟩),(177,⟨O3,QK,p432,f432⟩),(180,⟨O4,QL,p433,f433⟩),(181,⟨OL,Qs,p414,f414⟩),(183,⟨OM,Qt,p415,f415⟩),(185,⟨ON,Qu,p416,f416⟩),(187,⟨Jc,JC,p64,f64⟩),(188,⟨KO,Lg,p112,f112⟩),(186,⟨O5,QM,p434,f434⟩),(189,⟨OP,Qw,p418,f418⟩)] []) 9 153 Tryz.f153 O6 QN x=aNA p27 f27 p25 f25 p354 f354 p381 f381 p430 f430 p396 f396 p402 f402 p422 f422 p423 f423 p431 f431 p407 f407 p408 f408 p411 f411 p413 f413 p19 f19 p21 f21 p432 f432 p433 f433 p414 f414 p415 f415 p416 f416 p64 f64 p112 f112 p434 f434 p418 f418:=by kernel_rfl
def aDr(x:DenS O6):Option (DenS QN):=aNA Fs.pre Fs.F Mo.pre Mo.F Mp.pre Mp.F Mq.pre Mq.F fL.pre fL.F Xs.pre Xs.F Xt.pre Xt.F XD.pre XD.F XE.pre XE.F fM.pre fM.F Xu.pre Xu.F Xv.pre Xv.F Xx.pre Xx.F Xy.pre Xy.F Xp.pre Xp.F Xq.pre Xq.F fN.pre fN.F fO.pre fO.F Xz.pre Xz.F XA.pre XA.F XB.pre XB.F E1.pre E1.F JQ.pre JQ.F fQ.pre fQ.F XC.pre XC.F
def F7:Sum:=Aj O6 QN aDr (DenS.dflt QN)
theorem aQZ:Sound Tryz.prog G1 153 F7:=sd (cf [(158,Fs),(159,Mo),(160,Mp),(161,Mq),(157,fL),(162,Xs),(164,Xt),(167,XD),(168,XE),(166,fM),(169,Xu),(171,Xv),(173,Xx),(175,Xy),(178,Xp),(179,Xq),(177,fN),(180,fO),(181,Xz),(183,XA),(185,XB),(187,E1),(188,JQ),(186,fQ),(189,XC)] []) 153 Tryz.f153 ⟨rI,aBr,aBB,aBC,aQU,aBD,aBF,aBR,aBS,aQV,aBI,aBJ,aBK,aBL,aBp,aBq,aQW,aQX,aBM,aBN,aBO,fY,rC,aQY,aBP,trivial⟩ trivial O6 QN aDr _ (fun _=>bBh ..)
abbrev aFg:=Ae O6
abbrev aG0:=Ad O6 QN
variable (p435:aFg)(f435:aG0)
abbrev O7:Aa:=[(false,.int .i64)]
abbrev QO:Aa:=[(true,.pair (.int .i64) (.pair .fn .unit)),(false,.int .i64)]
def WZ(p435:aFg)(f435:aG0)(a0:Ab (.int .i64)):Option (DenS QO):=bif(p435 ())then(bif((decide (a0<(1:Int)))||(decide (a0>=((f435 ()).1.length:Int))))then(some (((0:Int),none,()),(190:Int),()))else bif((decide ((0:Int)<=a0))&&(decide (a0<((f435 ()).1.length:Int))))then(some (((f435 ()).1.getD (ai a0) ((0:Int),none,())),(0:Int),()))else none)else none
theorem bBi(x:DenS O7):run (cf [(153,⟨O6,QN,p435,f435⟩)] []) 9 145 Tryz.f145 O7 QO x=WZ p435 f435 x.1:=by kernel_rfl
def Mv(x:DenS O7):Option (DenS QO):=WZ F7.pre F7.F x.1
def Mr:Sum:=Aj O7 QO Mv (DenS.dflt QO)
theorem aQ0:Sound Tryz.prog G1 145 Mr:=sd (cf [(153,F7)] []) 145 Tryz.f145 ⟨aQZ,trivial⟩ trivial O7 QO Mv _ (fun _=>bBi ..)
abbrev aFh:=Ae O7
abbrev aG1:=Ad O7 QO
variable (p436:aFh)(f436:aG1)
abbrev O8:Aa:=[(false,.int .i64),(true,.pair (.int .i64) (.pair .fn .unit)),(true,.pair (.int .i64) (.pair (.int .i64) (.pair (.int .u64) (.pair (.int .u64) (.pair (.int .u64) .unit)))))]
abbrev Jx:Aa:=[(false,.int .i64)]
abbrev H9:Pat:=⟨84,[(43,.one (.v .i64)),(42,.one (.sl (.int .u64))),(44,.one (.v .i64)),(0,.one (.v .i64)),(5,.one (.ptr 1 0))],[.gone,.raw [.v .i64,.v .i64,.v .u64,.v .u64,.v .u64]]⟩
abbrev dO:List (Nat×Shape):=[]
abbrev MZ:List (Nat×Pat):=[(1,⟨84,[(0,.one (.v .i64)),(5,.one (.ptr 1 0))],[.gone,.raw [.v .i64,.v .i64,.v .u64,.v .u64,.v .u64]]⟩)]
abbrev Ml:Option Pat:=(some ⟨84,[(6,.one (.v .i64))],[]⟩)
variable (w437_13:Pat.D H9->Option (Ah MZ Ml))
def Wj(p69:BF)(f69:BG)(p66:B2)(f66:B3){R:Type}(L:Pat.D H9->Option R)(e:Ah MZ Ml->Option R)(x:Pat.D H9):Option R:=let e2_:=(x.2.2.1.2.1,(x.1.2.1.getD (ai x.1.2.2.1) (0:Int)),());let e1_:=(f66 e2_);bif(decide (x.1.2.2.1<x.1.1))then(bif((decide ((0:Int)<=x.1.2.2.1))&&(decide (x.1.2.2.1<(x.1.2.1.length:Int))))then(bif(p66 e2_)then(bif(e1_.1 !=(0:Int))then(((e (.inr (e1_,())))))else(L ((x.1.1,x.1.2.1,(aa .i64 (x.1.2.2.1+(1:Int))),x.1.2.2.2.1,(),()),(),x.2.2)))else none)else none)else(e (.inl ((x.1.2.2.2.1,(),()),(),x.2.2)))
theorem bC8(d:Nat)(R:Type)(L:Pat.D H9->Option R)(e:Ah MZ Ml->Option R)(x:Pat.D H9):
  BC (cf [(71,⟨BU,BV,p69,f69⟩),(85,⟨CA,CB,p66,f66⟩)] [(146,13,LoopSpec.of H9 dO MZ Ml w437_13)]) (d+2) 146 (Bw Tryz.f146 13) H9 dO MZ Ml (R:=R) L e x=Wj p69 f69 p66 f66 L e x:=by kernel_rfl
theorem aKu(p69:BF)(f69:BG)(p66:B2)(f66:B3):Bq fun L e x=>Wj p69 f69 p66 f66 L e x:=by intro _ _ _ _ _ _ _ h0 hL he _;unfold Wj;repeat' (first|exact h0|exact hL _|exact he _|apply BM|(apply BN h0;intro _)|(apply BO<;>intro _))
def oQ(p69:BF)(f69:BG)(p66:B2)(f66:B3)(w437_13:Pat.D H9->Option (Ah MZ Ml))(a0:Ab (.int .i64))(a1:Ab (.pair (.int .i64) (.pair .fn .unit)))(a2:Ab (.pair (.int .i64) (.pair (.int .i64) (.pair (.int .u64) (.pair (.int .u64) (.pair (.int .u64) .unit)))))):Option (DenS Jx):=
 let e4_:=(a2.2.2.1::(a2.2.2.2.1::(a2.2.2.2.2.1::[])))
 let e3_:=((e4_.take (ai a1.1)).drop (ai (0:Int)))
 let e1_:=(w437_13 (((e3_.length:Int),e3_,(0:Int),a0,(),()),(),(a2.1,a2.2),()))
 let e2_:=((decide ((0:Int)<=a1.1))&&(decide (a1.1<=(e4_.length:Int))))
 let g1_:Option (DenS Jx):=bif(decide (a2.2.2.2.2.1>(3:Int)))then(some ((9:Int),()))
 else bif e2_ then(Vx.A3 e1_ fun y7=>
 Vx.A2 y7 (fun y8=>
 bif(y8.1.1==(12:Int))then(bif((((aa .i64 y8.2.2.1.2.2.2.2.1)==(0:Int))&&((aa .u64 (aa .i64 (aa .i32 y8.2.2.1.2.2.1)))!=y8.2.2.1.2.2.1))||(((aa .i64 y8.2.2.1.2.2.2.2.1)==(2:Int))&&((AE .u64 y8.2.2.1.2.2.1 (32:Int))!=(0:Int))))then(some ((4:Int),()))
 else some ((0:Int),()))
 else some ((0:Int),())) (fun z8=>
 some z8.1))
 else none
 let g2_:Option (DenS Jx):=bif e2_ then(Vx.A3 e1_ fun y6=>
 Vx.A2 y6 (fun y7=>
 bif(y7.1.1==(12:Int))then(bif((((aa .i64 y7.2.2.1.2.2.2.2.1)==(0:Int))&&((aa .u64 (aa .i64 (aa .i32 y7.2.2.1.2.2.1)))!=y7.2.2.1.2.2.1))||(((aa .i64 y7.2.2.1.2.2.2.2.1)==(2:Int))&&((AE .u64 y7.2.2.1.2.2.1 (32:Int))!=(0:Int))))then(some ((4:Int),()))
 else some ((0:Int),()))
 else some ((0:Int),())) (fun z7=>
 some z7.1))
 else none
 bif(p69 (a2.2.1,()))then(bif((f69 (a2.2.1,())).2.1 !=(0:Int))then(some (f69 (a2.2.1,())).2)
 else bif(a0==(10:Int))then(bif(decide (a2.2.2.2.2.1>(3:Int)))then(some ((2:Int),()))
 else bif e2_ then(Vx.A3 e1_ fun y5=>
 Vx.A2 y5 (fun y6=>
 bif(y6.1.1==(12:Int))then(bif((((aa .i64 y6.2.2.1.2.2.2.2.1)==(0:Int))&&((aa .u64 (aa .i64 (aa .i32 y6.2.2.1.2.2.1)))!=y6.2.2.1.2.2.1))||(((aa .i64 y6.2.2.1.2.2.2.2.1)==(2:Int))&&((AE .u64 y6.2.2.1.2.2.1 (32:Int))!=(0:Int))))then(some ((4:Int),()))
 else some ((0:Int),()))
 else some ((0:Int),())) (fun z6=>
 some z6.1))
 else none)
 else bif(a0==(11:Int))then(bif(a0==(11:Int))then(g1_)
 else g2_)
 else bif(a0==(12:Int))then(g1_)
 else g2_)
 else none
theorem bBj(x:DenS O8):run (cf [(71,⟨BU,BV,p69,f69⟩),(85,⟨CA,CB,p66,f66⟩)] [(146,13,LoopSpec.of H9 dO MZ Ml w437_13)]) 9 146 Tryz.f146 O8 Jx x=oQ p69 f69 p66 f66 w437_13 x.1 x.2.1 x.2.2.1:=by kernel_rfl
def gZ:H9.D->Option (Ah MZ Ml):=Bf fun L=>Wj Ao.pre Ao.F Ar.pre Ar.F L some
def Yy(x:DenS O8):Option (DenS Jx):=oQ Ao.pre Ao.F Ar.pre Ar.F gZ x.1 x.2.1 x.2.2.1
def RB:Sum:=Aj O8 Jx Yy (DenS.dflt Jx)
theorem aQ1:Sound Tryz.prog G1 146 RB:=sd (cf [(71,Ao),(85,Ar)] [(146,13,LoopSpec.of H9 dO MZ Ml gZ)]) 146 Tryz.f146 ⟨Do,Fu,trivial⟩ ⟨rfl,fun d=>BL (fun L e x=>Wj Ao.pre Ao.F Ar.pre Ar.F L e x) (aKu Ao.pre Ao.F Ar.pre Ar.F) (fun _ _ _ _=>bC8 ..),trivial⟩ O8 Jx Yy _ (fun _=>bBj ..)
abbrev aFi:=Ae O8
abbrev aG2:=Ad O8 Jx
variable (p437:aFi)(f437:aG2)
abbrev O9:Aa:=[(true,.pair (.int .i64) (.pair (.int .i64) (.pair (.int .i64) (.unit)))),(false,.int .i64),(false,.int .i64),(false,.int .u64),(false,.int .u64),(false,.int .u64)]
abbrev QP:Aa:=[(true,.pair (.int .u64) (.pair (.int .i64) (.pair (.int .i64) (.pair (.pair (.int .i64) (.pair (.int .i64) (.pair (.int .i64) (.unit)))) (.unit))))),(false,.int .i64)]
def oR(p429:aE9)(f429:aGT)(p436:aFh)(f436:aG1)(p437:aFi)(f437:aG2)(p100001:aD1)(f100001:aFL)(a0:Ab (.pair (.int .i64) (.pair (.int .i64) (.pair (.int .i64) (.unit)))))(a1 a2:Ab (.int .i64))(a3 a4 a5:Ab (.int .u64)):Option (DenS QP):=let e5_:=(f100001 (f436 (a1,())).1.2.1 ((a0.1,a2,a3,a4,a5,()),()));let e1_:=(Bs .i64 e5_.2.1 a0.2.2.1);let e2_:=((0:Int),(0:Int),(0:Int),((0:Int),(0:Int),(0:Int),()),());let e6_:=(a1,(f436 (a1,())).1,(a0.1,a2,a3,a4,a5,()),());let e3_:=(f437 e6_);let e4_:=e5_;bif(p429 ((a0.1,a0.2),()))then(bif((f429 ((a0.1,a0.2),())).1 !=(0:Int))then(some (e2_,(f429 ((a0.1,a0.2),()))))else bif(p436 (a1,()))then(bif((f436 (a1,())).2.1 !=(0:Int))then(some (e2_,(f436 (a1,())).2))else bif(p437 e6_)then(bif(e3_.1 !=(0:Int))then(some (e2_,e3_))else bif(p100001 (f436 (a1,())).1.2.1 ((a0.1,a2,a3,a4,a5,()),()))then(bif(e4_.2.2.1 !=(0:Int))then(some (e2_,e4_.2.2))else bif(e1_ !=(0:Int))then(some (((0:Int),e4_.2.1,(Bs .i64 e1_ (aa .i64 ((0:Int)-e1_))),(a0.1,a0.2),()),(0:Int),()))else some ((e4_.1,e4_.2.1,(0:Int),(a0.1,(Aq .i64 a0.2.1 e4_.2.1),a0.2.2),()),(0:Int),()))else none)else none)else none)else none
theorem bBk(x:DenS O9):run ({cf [(144,⟨OZ,QG,p429,f429⟩),(145,⟨O7,QO,p436,f436⟩),(146,⟨O8,Jx,p437,f437⟩)] []with fns:=[(57,⟨Er,D1,p100001,f100001⟩)] }) 9 125 Tryz.f125 O9 QP x=oR p429 f429 p436 f436 p437 f437 p100001 f100001 x.1 x.2.1 x.2.2.1 x.2.2.2.1 x.2.2.2.2.1 x.2.2.2.2.2.1:=by kernel_rfl
def RT(x:DenS O9):Option (DenS QP):=oR RA.pre RA.F Mr.pre Mr.F RB.pre RB.F JO.pre JO.F x.1 x.2.1 x.2.2.1 x.2.2.2.1 x.2.2.2.2.1 x.2.2.2.2.2.1
def RC:Sum:=Aj O9 QP RT (DenS.dflt QP)
theorem aQ2:Sound Tryz.prog G1 125 RC:=sd ({cf [(144,RA),(145,Mr),(146,RB)] []with fns:=[(57,JO)] }) 125 Tryz.f125 ⟨aQT,aQ0,aQ1,trivial⟩ trivial O9 QP RT _ (fun _=>bBk ..) (hfs:=⟨aPM,trivial⟩)
abbrev aFj:=Ae O9
abbrev aG3:=Ad O9 QP
variable (p438:aFj)(f438:aG3)
abbrev HC:Aa:=[(false,.int .i64),(false,.int .u64),(false,.int .u64)]
abbrev HJ:Aa:=[(false,.int .u64)]
abbrev EX:LK:=.ref (.pair (.int .i64) (.pair (.int .i64) (.pair (.int .i64) .unit)))
def oS(p438:aFj)(f438:aG3)(l0:LK.D (.ref (.pair (.int .i64) (.pair (.int .i64) (.pair (.int .i64) .unit)))))(a0:Ab (.int .i64))(a1 a2:Ab (.int .u64)):Option (LK.B EX×DenS HJ):=let e2_:=((l0.2.1,(0:Int),(0:Int),()),a0,l0.1,a1,a2,(0:Int),());let e1_:=(f438 e2_);bif(p438 e2_)then(some ((l0.1,l0.2.1,(Aq .i64 l0.2.2.1 e1_.1.2.1),()),e1_.1.1,()))else none
theorem bBl(x:LK.D EX×DenS HC):Em (cf [(125,⟨O9,QP,p438,f438⟩)] []) 9 106 Tryz.f106 EX HC HJ x=oS p438 f438 x.1 x.2.1 x.2.2.1 x.2.2.2.1:=by kernel_rfl
def Yz(x:LK.D EX×DenS HC):Option (LK.B EX×DenS HJ):=oS RC.pre RC.F x.1 x.2.1 x.2.2.1 x.2.2.2.1
def C5:SumL:=Eo EX HC HJ Yz (LK.dflt EX,DenS.dflt HJ)
theorem fR:SoundL Tryz.prog G1 106 C5:=Hq (cf [(125,RC)] []) 106 Tryz.f106 ⟨aQ2,trivial⟩ trivial EX HC HJ Yz _ (fun _=>bBl ..)
abbrev Zi:=LK.D EX×DenS HC->Bool
abbrev Zv:=LK.D EX×DenS HC->LK.B EX×DenS HJ
variable (p464:Zi)(f464:Zv)
abbrev K7:Aa:=[(false,.int .u64),(false,.int .u64)]
abbrev LD:Aa:=[(false,.int .u64)]
abbrev FR:LK:=.ref (.pair (.int .i64) (.pair (.int .i64) (.pair (.int .i64) .unit)))
def oT(p464:Zi)(f464:Zv)(l0:LK.D (.ref (.pair (.int .i64) (.pair (.int .i64) (.pair (.int .i64) .unit)))))(a0 a1:Ab (.int .u64)):Option (LK.B FR×DenS LD):=bif(p464 ((l0.1,l0.2),(3:Int),a0,a1,()))then(some (f464 ((l0.1,l0.2),(3:Int),a0,a1,())))else none
theorem bBm(x:LK.D FR×DenS K7):Em ({cf [] []with lsums:=[(106,⟨EX,HC,HJ,p464,f464⟩)] }) 9 79 Tryz.f79 FR K7 LD x=oT p464 f464 x.1 x.2.1 x.2.2.1:=by kernel_rfl
def YA(x:LK.D FR×DenS K7):Option (LK.B FR×DenS LD):=oT C5.pre C5.F x.1 x.2.1 x.2.2.1
def F8:SumL:=Eo FR K7 LD YA (LK.dflt FR,DenS.dflt LD)
theorem aBT:SoundL Tryz.prog G1 79 F8:=Hq ({cf [] []with lsums:=[(106,C5)] }) 79 Tryz.f79 trivial trivial FR K7 LD YA _ (fun _=>bBm ..) (hls:=⟨fR,trivial⟩)
abbrev tG:=LK.D FR×DenS K7->Bool
abbrev uJ:=LK.D FR×DenS K7->LK.B FR×DenS LD
variable (p465:tG)(f465:uJ)
abbrev K8:Aa:=[(false,.int .u64),(false,.int .u64)]
abbrev LF:Aa:=[(false,.int .u64)]
abbrev FS:LK:=.ref (.pair (.int .i64) (.pair (.int .i64) (.pair (.int .i64) .unit)))
def oU(p464:Zi)(f464:Zv)(l0:LK.D (.ref (.pair (.int .i64) (.pair (.int .i64) (.pair (.int .i64) .unit)))))(a0 a1:Ab (.int .u64)):Option (LK.B FS×DenS LF):=bif(p464 ((l0.1,l0.2),(2:Int),a0,a1,()))then(some (f464 ((l0.1,l0.2),(2:Int),a0,a1,())))else none
theorem bBn(x:LK.D FS×DenS K8):Em ({cf [] []with lsums:=[(106,⟨EX,HC,HJ,p464,f464⟩)] }) 9 80 Tryz.f80 FS K8 LF x=oU p464 f464 x.1 x.2.1 x.2.2.1:=by kernel_rfl
def YB(x:LK.D FS×DenS K8):Option (LK.B FS×DenS LF):=oU C5.pre C5.F x.1 x.2.1 x.2.2.1
def F9:SumL:=Eo FS K8 LF YB (LK.dflt FS,DenS.dflt LF)
theorem aBU:SoundL Tryz.prog G1 80 F9:=Hq ({cf [] []with lsums:=[(106,C5)] }) 80 Tryz.f80 trivial trivial FS K8 LF YB _ (fun _=>bBn ..) (hls:=⟨fR,trivial⟩)
abbrev tH:=LK.D FS×DenS K8->Bool
abbrev uK:=LK.D FS×DenS K8->LK.B FS×DenS LF
variable (p466:tH)(f466:uK)
abbrev I8:Aa:=[(false,.int .u64),(false,.int .u64)]
abbrev Jy:Aa:=[(false,.int .u64)]
abbrev Fe:LK:=.ref (.pair (.int .i64) (.pair (.int .i64) (.pair (.int .i64) .unit)))
def oV(p464:Zi)(f464:Zv)(l0:LK.D (.ref (.pair (.int .i64) (.pair (.int .i64) (.pair (.int .i64) .unit)))))(a0 a1:Ab (.int .u64)):Option (LK.B Fe×DenS Jy):=bif(p464 ((l0.1,l0.2),(1:Int),a0,a1,()))then(some (f464 ((l0.1,l0.2),(1:Int),a0,a1,())))else none
theorem bBo(x:LK.D Fe×DenS I8):Em ({cf [] []with lsums:=[(106,⟨EX,HC,HJ,p464,f464⟩)] }) 9 76 Tryz.f76 Fe I8 Jy x=oV p464 f464 x.1 x.2.1 x.2.2.1:=by kernel_rfl
def YC(x:LK.D Fe×DenS I8):Option (LK.B Fe×DenS Jy):=oV C5.pre C5.F x.1 x.2.1 x.2.2.1
def D4:SumL:=Eo Fe I8 Jy YC (LK.dflt Fe,DenS.dflt Jy)
theorem rO:SoundL Tryz.prog G1 76 D4:=Hq ({cf [] []with lsums:=[(106,C5)] }) 76 Tryz.f76 trivial trivial Fe I8 Jy YC _ (fun _=>bBo ..) (hls:=⟨fR,trivial⟩)
abbrev iI:=LK.D Fe×DenS I8->Bool
abbrev i0:=LK.D Fe×DenS I8->LK.B Fe×DenS Jy
variable (p467:iI)(f467:i0)
abbrev Pa:Aa:=[(true,.pair (.int .u64) (.pair (.int .u64) (.unit))),(true,.pair (.int .u64) (.pair (.int .u64) (.unit)))]
abbrev QQ:Aa:=[(true,.pair (.int .u64) (.pair (.int .u64) (.unit)))]
abbrev GG:LK:=.ref (.pair (.int .i64) (.pair (.int .i64) (.pair (.int .i64) .unit)))
def oW(p465:tG)(f465:uJ)(p466:tH)(f466:uK)(p467:iI)(f467:i0)(l0:LK.D (.ref (.pair (.int .i64) (.pair (.int .i64) (.pair (.int .i64) .unit)))))(a0 a1:Ab (.pair (.int .u64) (.pair (.int .u64) (.unit)))):Option (LK.B GG×DenS QQ):=let e10_:=((f465 ((l0.1,l0.2),a0.1,a1.1,())).1,a0.2.1,a1.2);let e9_:=(f465 e10_);let e8_:=(f465 (e9_.1,a0.1,a1.2));let e7_:=(f465 (e8_.1,a0.2.1,a1.1,()));let e6_:=(f466 (e7_.1,(f465 ((l0.1,l0.2),a0.1,a1.1,())).2.1,e9_.2));let e1_:=(f467 (e6_.1,e8_.2.1,e7_.2));let e2_:=e6_;let e3_:=e7_;let e4_:=e8_;let e5_:=e9_;bif(p465 ((l0.1,l0.2),a0.1,a1.1,()))then(bif(p465 e10_)then(bif(p465 (e5_.1,a0.1,a1.2))then(bif(p465 (e4_.1,a0.2.1,a1.1,()))then(bif(p466 (e3_.1,(f465 ((l0.1,l0.2),a0.1,a1.1,())).2.1,e5_.2))then(bif(p467 (e2_.1,e4_.2.1,e3_.2))then(some (e1_.1,(e2_.2.1,e1_.2),()))else none)else none)else none)else none)else none)else none
theorem bBp(x:LK.D GG×DenS Pa):Em ({cf [] []with lsums:=[(79,⟨FR,K7,LD,p465,f465⟩),(80,⟨FS,K8,LF,p466,f466⟩),(76,⟨Fe,I8,Jy,p467,f467⟩)] }) 9 42 Tryz.f42 GG Pa QQ x=oW p465 f465 p466 f466 p467 f467 x.1 x.2.1 x.2.2.1:=by kernel_rfl
def YE(x:LK.D GG×DenS Pa):Option (LK.B GG×DenS QQ):=oW F8.pre F8.F F9.pre F9.F D4.pre D4.F x.1 x.2.1 x.2.2.1
def RD:SumL:=Eo GG Pa QQ YE (LK.dflt GG,DenS.dflt QQ)
theorem aQ4:SoundL Tryz.prog G1 42 RD:=Hq ({cf [] []with lsums:=[(79,F8),(80,F9),(76,D4)] }) 42 Tryz.f42 trivial trivial GG Pa QQ YE _ (fun _=>bBp ..) (hls:=⟨aBT,aBU,rO,trivial⟩)
abbrev tI:=LK.D GG×DenS Pa->Bool
abbrev uL:=LK.D GG×DenS Pa->LK.B GG×DenS QQ
variable (p468:tI)(f468:uL)
abbrev I9:Aa:=[(false,.slice (.pair (.int .u64) (.pair (.int .u64) (.unit))))]
abbrev Jz:Aa:=[(false,.int .i64)]
abbrev Ff:LK:=.ref (.pair (.int .i64) (.pair (.int .i64) (.pair (.int .i64) .unit)))
abbrev Ia:Pat:=⟨32,[(8,.one (.v .i64)),(7,.one (.sl (.pair (.int .u64) (.pair (.int .u64) (.unit))))),(0,.one (.ptr 0 0)),(9,.one (.v .i64))],[.raw [.v .i64,.v .i64,.v .i64]]⟩
abbrev dP:List (Nat×Shape):=[]
abbrev M0:List (Nat×Pat):=[(0,⟨32,[],[.raw [.v .i64,.v .i64,.v .i64]]⟩)]
abbrev Mm:Option Pat:=(some ⟨32,[(4,.one (.v .i64))],[.raw [.v .i64,.v .i64,.v .i64]]⟩)
variable (w469_2:Pat.D Ia->Option (Ah M0 Mm))
def Wk(p66:B2)(f66:B3){R:Type}(L:Pat.D Ia->Option R)(e:Ah M0 Mm->Option R)(x:Pat.D Ia):Option R:=let e4_:=(x.1.2.1.getD (ai x.1.2.2.2.1) ((0:Int),(0:Int),()));let e3_:=(x.2.1.1,e4_.1,());let e1_:=((f66 e3_).1 !=(0:Int));let e2_:=(x.2.1.1,e4_.2);bif(decide (x.1.2.2.2.1<x.1.1))then(bif((decide ((0:Int)<=x.1.2.2.2.1))&&(decide (x.1.2.2.2.1<(x.1.2.1.length:Int))))then(bif(p66 e3_)then(bif((p66 e2_)||(!(bif e1_ then false else true)))then(bif(e1_||((f66 e2_).1 !=(0:Int)))then(((e (.inr (((4:Int),()),x.2)))))else(L ((x.1.1,x.1.2.1,(),(aa .i64 (x.1.2.2.2.1+(1:Int))),()),x.2)))else none)else none)else none)else(e (.inl ((),x.2)))
theorem bC9(d:Nat)(R:Type)(L:Pat.D Ia->Option R)(e:Ah M0 Mm->Option R)(x:Pat.D Ia):
  BC (cf [(85,⟨CA,CB,p66,f66⟩)] [(53,2,LoopSpec.of Ia dP M0 Mm w469_2 1)]) (d+2) 53 (Bw Tryz.f53 2) Ia dP M0 Mm (R:=R) L e x 1=Wk p66 f66 L e x:=by kernel_rfl
theorem aKv(p66:B2)(f66:B3):Bq fun L e x=>Wk p66 f66 L e x:=by intro _ _ _ _ _ _ _ h0 hL he _;unfold Wk;repeat' (first|exact h0|exact hL _|exact he _|apply BM|(apply BN h0;intro _)|(apply BO<;>intro _))
def oX(p66:B2)(f66:B3)(w469_2:Pat.D Ia->Option (Ah M0 Mm))(l0:LK.D (.ref (.pair (.int .i64) (.pair (.int .i64) (.pair (.int .i64) .unit)))))(a0:Ab (.slice (.pair (.int .u64) (.pair (.int .u64) (.unit))))):Option (LK.B Ff×DenS Jz):=
 Vx.A3 (w469_2 (((a0.length:Int),a0,(),(0:Int),()),(l0.1,l0.2),())) fun y0=>
 Vx.A2 y0 (fun y1=>
 some (y1.2.1,(0:Int),())) (fun z1=>
 some (z1.2.1,z1.1))
theorem bBq(x:LK.D Ff×DenS I9):Em (cf [(85,⟨CA,CB,p66,f66⟩)] [(53,2,LoopSpec.of Ia dP M0 Mm w469_2 1)]) 9 53 Tryz.f53 Ff I9 Jz x=oX p66 f66 w469_2 x.1 x.2.1:=by kernel_rfl
def Y9:Ia.D->Option (Ah M0 Mm):=Bf fun L=>Wk Ar.pre Ar.F L some
def RU(x:LK.D Ff×DenS I9):Option (LK.B Ff×DenS Jz):=oX Ar.pre Ar.F Y9 x.1 x.2.1
def D5:SumL:=Eo Ff I9 Jz RU (LK.dflt Ff,DenS.dflt Jz)
theorem rP:SoundL Tryz.prog G1 53 D5:=Hq (cf [(85,Ar)] [(53,2,LoopSpec.of Ia dP M0 Mm Y9 1)]) 53 Tryz.f53 ⟨Fu,trivial⟩ ⟨rfl,fun d=>BL (fun L e x=>Wk Ar.pre Ar.F L e x) (aKv Ar.pre Ar.F) (fun _ _ _ _=>bC9 ..),trivial⟩ Ff I9 Jz RU _ (fun _=>bBq ..)
abbrev Zj:=LK.D Ff×DenS I9->Bool
abbrev Zw:=LK.D Ff×DenS I9->LK.B Ff×DenS Jz
variable (p469:Zj)(f469:Zw)
abbrev La:Aa:=[(false,.int .i64),(false,.int .i64),(true,.pair (.int .u64) (.pair (.int .u64) (.unit))),(true,.pair (.int .u64) (.pair (.int .u64) (.unit)))]
abbrev LH:Aa:=[(true,.pair (.int .u64) (.pair (.int .u64) (.unit))),(false,.int .i64),(false,.int .i64)]
def oY(p468:tI)(f468:uL)(p69:BF)(f69:BG)(p469:Zj)(f469:Zw)(a0 a1:Ab (.int .i64))(a2 a3:Ab (.pair (.int .u64) (.pair (.int .u64) (.unit)))):Option (DenS LH):=let e4_:=((a0,a1,(0:Int),()),((a2.1,a2.2)::((a3.1,a3.2)::[])),());let e3_:=(f469 e4_);let e1_:=(f468 (e3_.1,(a2.1,a2.2),(a3.1,a3.2),()));let e2_:=e3_;bif(p69 (a0,()))then(bif((f69 (a0,())).2.1 !=(0:Int))then(bif((f69 (a0,())).2.1 !=(0:Int))then(some (((0:Int),(0:Int),()),(0:Int),(f69 (a0,())).2))else none)else bif((decide (a1<(0:Int)))||(decide (a1>(5:Int))))then(some (((0:Int),(0:Int),()),(0:Int),(3:Int),()))else bif(p469 e4_)then(bif(e2_.2.1 !=(0:Int))then(some (((0:Int),(0:Int),()),(0:Int),e2_.2))else bif(p468 (e2_.1,(a2.1,a2.2),(a3.1,a3.2),()))then(some (e1_.2.1,e1_.1.2.2.1,(0:Int),()))else none)else none)else none
theorem bBs(x:DenS La):run ({cf [(71,⟨BU,BV,p69,f69⟩)] []with lsums:=[(42,⟨GG,Pa,QQ,p468,f468⟩),(53,⟨Ff,I9,Jz,p469,f469⟩)] }) 9 13 Tryz.f13 La LH x=oY p468 f468 p69 f69 p469 f469 x.1 x.2.1 x.2.2.1 x.2.2.2.1:=by kernel_rfl
def G2(x:DenS La):Option (DenS LH):=oY RD.pre RD.F Ao.pre Ao.F D5.pre D5.F x.1 x.2.1 x.2.2.1 x.2.2.2.1
def Ga:Sum:=Aj La LH G2 (DenS.dflt LH)
theorem aBV:Sound Tryz.prog G1 13 Ga:=sd ({cf [(71,Ao)] []with lsums:=[(42,RD),(53,D5)] }) 13 Tryz.f13 ⟨Do,trivial⟩ trivial La LH G2 _ (fun _=>bBs ..) (hls:=⟨aQ4,rP,trivial⟩)
abbrev Zk:=Ae La
abbrev Zx:=Ad La LH
variable (p470:Zk)(f470:Zx)
abbrev Pb:Aa:=[(false,.int .u64),(false,.int .u64)]
abbrev QR:Aa:=[(false,.int .u64)]
abbrev GH:LK:=.ref (.pair (.int .i64) (.pair (.int .i64) (.pair (.int .i64) .unit)))
def oZ(p464:Zi)(f464:Zv)(l0:LK.D (.ref (.pair (.int .i64) (.pair (.int .i64) (.pair (.int .i64) .unit)))))(a0 a1:Ab (.int .u64)):Option (LK.B GH×DenS QR):=bif(p464 ((l0.1,l0.2),(4:Int),a0,a1,()))then(some (f464 ((l0.1,l0.2),(4:Int),a0,a1,())))else none
theorem bBt(x:LK.D GH×DenS Pb):Em ({cf [] []with lsums:=[(106,⟨EX,HC,HJ,p464,f464⟩)] }) 9 83 Tryz.f83 GH Pb QR x=oZ p464 f464 x.1 x.2.1 x.2.2.1:=by kernel_rfl
def YG(x:LK.D GH×DenS Pb):Option (LK.B GH×DenS QR):=oZ C5.pre C5.F x.1 x.2.1 x.2.2.1
def RE:SumL:=Eo GH Pb QR YG (LK.dflt GH,DenS.dflt QR)
theorem aQ5:SoundL Tryz.prog G1 83 RE:=Hq ({cf [] []with lsums:=[(106,C5)] }) 83 Tryz.f83 trivial trivial GH Pb QR YG _ (fun _=>bBt ..) (hls:=⟨fR,trivial⟩)
abbrev aFk:=LK.D GH×DenS Pb->Bool
abbrev aG4:=LK.D GH×DenS Pb->LK.B GH×DenS QR
variable (p471:aFk)(f471:aG4)
abbrev Pc:Aa:=[(true,.pair (.int .u64) (.pair (.int .u64) (.unit))),(true,.pair (.int .u64) (.pair (.int .u64) (.unit)))]
abbrev QS:Aa:=[(true,.pair (.int .u64) (.pair (.int .u64) (.unit)))]
abbrev GI:LK:=.ref (.pair (.int .i64) (.pair (.int .i64) (.pair (.int .i64) .unit)))
def o0(p467:iI)(f467:i0)(p465:tG)(f465:uJ)(p466:tH)(f466:uK)(p471:aFk)(f471:aG4)(l0:LK.D (.ref (.pair (.int .i64) (.pair (.int .i64) (.pair (.int .i64) .unit)))))(a0 a1:Ab (.pair (.int .u64) (.pair (.int .u64) (.unit)))):Option (LK.B GI×DenS QS):=let c1_:=(f465 ((l0.1,l0.2),a1.1,a1.1,()));let c2_:=(f465 (c1_.1,a1.2.1,a1.2));let c3_:=(f467 (c2_.1,c1_.2.1,c2_.2));let c4_:=(f465 (c3_.1,a0.1,a1.1,()));let c5_:=(f465 (c4_.1,a0.2.1,a1.2));let c6_:=(f467 (c5_.1,c4_.2.1,c5_.2));let c7_:=(f465 (c6_.1,a0.2.1,a1.1,()));let c8_:=(f465 (c7_.1,a0.1,a1.2));let c9_:=(f466 (c8_.1,c7_.2.1,c8_.2));let c10_:=(f471 (c9_.1,c6_.2.1,c3_.2));let c11_:=(f471 (c10_.1,c9_.2.1,c3_.2));bif(p465 ((l0.1,l0.2),a1.1,a1.1,()))then(bif(p465 (c1_.1,a1.2.1,a1.2))then(bif(p467 (c2_.1,c1_.2.1,c2_.2))then(bif(p465 (c3_.1,a0.1,a1.1,()))then(bif(p465 (c4_.1,a0.2.1,a1.2))then(bif(p467 (c5_.1,c4_.2.1,c5_.2))then(bif(p465 (c6_.1,a0.2.1,a1.1,()))then(bif(p465 (c7_.1,a0.1,a1.2))then(bif(p466 (c8_.1,c7_.2.1,c8_.2))then(bif(p471 (c9_.1,c6_.2.1,c3_.2))then(bif(p471 (c10_.1,c9_.2.1,c3_.2))then(some (c11_.1,(c10_.2.1,c11_.2),()))else none)else none)else none)else none)else none)else none)else none)else none)else none)else none)else none
theorem bBu(x:LK.D GI×DenS Pc):Em ({cf [] []with lsums:=[(76,⟨Fe,I8,Jy,p467,f467⟩),(79,⟨FR,K7,LD,p465,f465⟩),(80,⟨FS,K8,LF,p466,f466⟩),(83,⟨GH,Pb,QR,p471,f471⟩)] }) 9 45 Tryz.f45 GI Pc QS x=o0 p467 f467 p465 f465 p466 f466 p471 f471 x.1 x.2.1 x.2.2.1:=by kernel_rfl
def YH(x:LK.D GI×DenS Pc):Option (LK.B GI×DenS QS):=o0 D4.pre D4.F F8.pre F8.F F9.pre F9.F RE.pre RE.F x.1 x.2.1 x.2.2.1
def RF:SumL:=Eo GI Pc QS YH (LK.dflt GI,DenS.dflt QS)
theorem aQ6:SoundL Tryz.prog G1 45 RF:=Hq ({cf [] []with lsums:=[(76,D4),(79,F8),(80,F9),(83,RE)] }) 45 Tryz.f45 trivial trivial GI Pc QS YH _ (fun _=>bBu ..) (hls:=⟨rO,aBT,aBU,aQ5,trivial⟩)
abbrev aFl:=LK.D GI×DenS Pc->Bool
abbrev aG5:=LK.D GI×DenS Pc->LK.B GI×DenS QS
variable (p472:aFl)(f472:aG5)
abbrev Lb:Aa:=[(false,.int .i64),(false,.int .i64),(true,.pair (.int .u64) (.pair (.int .u64) (.unit))),(true,.pair (.int .u64) (.pair (.int .u64) (.unit)))]
abbrev LI:Aa:=[(true,.pair (.int .u64) (.pair (.int .u64) (.unit))),(false,.int .i64),(false,.int .i64)]
def o9(p472:aFl)(f472:aG5)(p69:BF)(f69:BG)(p469:Zj)(f469:Zw)(a0 a1:Ab (.int .i64))(a2 a3:Ab (.pair (.int .u64) (.pair (.int .u64) (.unit)))):Option (DenS LI):=let e4_:=((a0,a1,(0:Int),()),((a2.1,a2.2)::((a3.1,a3.2)::[])),());let e3_:=(f469 e4_);let e1_:=(f472 (e3_.1,(a2.1,a2.2),(a3.1,a3.2),()));let e2_:=e3_;bif(p69 (a0,()))then(bif((f69 (a0,())).2.1 !=(0:Int))then(bif((f69 (a0,())).2.1 !=(0:Int))then(some (((0:Int),(0:Int),()),(0:Int),(f69 (a0,())).2))else none)else bif((decide (a1<(0:Int)))||(decide (a1>(5:Int))))then(some (((0:Int),(0:Int),()),(0:Int),(3:Int),()))else bif(p469 e4_)then(bif(e2_.2.1 !=(0:Int))then(some (((0:Int),(0:Int),()),(0:Int),e2_.2))else bif(p472 (e2_.1,(a2.1,a2.2),(a3.1,a3.2),()))then(some (e1_.2.1,e1_.1.2.2.1,(0:Int),()))else none)else none)else none
theorem bBv(x:DenS Lb):run ({cf [(71,⟨BU,BV,p69,f69⟩)] []with lsums:=[(45,⟨GI,Pc,QS,p472,f472⟩),(53,⟨Ff,I9,Jz,p469,f469⟩)] }) 9 15 Tryz.f15 Lb LI x=o9 p472 f472 p69 f69 p469 f469 x.1 x.2.1 x.2.2.1 x.2.2.2.1:=by kernel_rfl
def Mw(x:DenS Lb):Option (DenS LI):=o9 RF.pre RF.F Ao.pre Ao.F D5.pre D5.F x.1 x.2.1 x.2.2.1 x.2.2.2.1
def Gb:Sum:=Aj Lb LI Mw (DenS.dflt LI)
theorem aBW:Sound Tryz.prog G1 15 Gb:=sd ({cf [(71,Ao)] []with lsums:=[(45,RF),(53,D5)] }) 15 Tryz.f15 ⟨Do,trivial⟩ trivial Lb LI Mw _ (fun _=>bBv ..) (hls:=⟨aQ6,rP,trivial⟩)
abbrev Zl:=Ae Lb
abbrev Zy:=Ad Lb LI
variable (p473:Zl)(f473:Zy)
abbrev Pd:Aa:=[]
abbrev QT:Aa:=[(false,.bool)]
def pB(p470:Zk)(f470:Zx)(p473:Zl)(f473:Zy):Option (DenS QT):=let e5_:=((1065353216:Int),(1073741824:Int),());let e1_:=(f470 ((2:Int),(0:Int),e5_,e5_,()));let e4_:=(((1065353216:Int),(1065353216:Int),()),());let e2_:=(f473 ((2:Int),(0:Int),e5_,e4_));let e3_:=e5_;bif(p470 ((2:Int),(0:Int),e3_,e3_,()))then(bif(p473 ((2:Int),(0:Int),e3_,e4_))then(bif((((e1_.2.2.1 !=(0:Int))||(e2_.2.2.1 !=(0:Int)))||(e1_.2.1 !=(0:Int)))||(e2_.2.1 !=(0:Int)))then(some (false,()))else some (((((e1_.1.1==(3225419776:Int))&&(e1_.1.2.1==(1082130432:Int)))&&(e2_.1.1==(1069547520:Int)))&&(e2_.1.2.1==(1056964608:Int))),()))else none)else none
theorem bBw(x:DenS Pd):run (cf [(13,⟨La,LH,p470,f470⟩),(15,⟨Lb,LI,p473,f473⟩)] []) 9 9 Tryz.f9 Pd QT x=pB p470 f470 p473 f473:=by kernel_rfl
def YI(x:DenS Pd):Option (DenS QT):=pB Ga.pre Ga.F Gb.pre Gb.F
def RG:Sum:=Aj Pd QT YI (DenS.dflt QT)
theorem aQ7:Sound Tryz.prog G1 9 RG:=sd (cf [(13,Ga),(15,Gb)] []) 9 Tryz.f9 ⟨aBV,aBW,trivial⟩ trivial Pd QT YI _ (fun _=>bBw ..)
abbrev iJ:=Ae Pd
abbrev i3:=Ad Pd QT
variable (p474:iJ)(f474:i3)
abbrev Pe:Aa:=[(true,.pair (.int .u64) (.pair (.int .u64) (.unit))),(true,.pair (.int .u64) (.pair (.int .u64) (.unit)))]
abbrev QU:Aa:=[(true,.pair (.int .u64) (.pair (.int .u64) (.unit)))]
abbrev GJ:LK:=.ref (.pair (.int .i64) (.pair (.int .i64) (.pair (.int .i64) .unit)))
def pC(p467:iI)(f467:i0)(l0:LK.D (.ref (.pair (.int .i64) (.pair (.int .i64) (.pair (.int .i64) .unit)))))(a0 a1:Ab (.pair (.int .u64) (.pair (.int .u64) (.unit)))):Option (LK.B GJ×DenS QU):=let e2_:=((f467 ((l0.1,l0.2),a0.1,a1.1,())).1,a0.2.1,a1.2);let e1_:=(f467 e2_);bif(p467 ((l0.1,l0.2),a0.1,a1.1,()))then(bif(p467 e2_)then(some (e1_.1,((f467 ((l0.1,l0.2),a0.1,a1.1,())).2.1,e1_.2),()))else none)else none
theorem bBx(x:LK.D GJ×DenS Pe):Em ({cf [] []with lsums:=[(76,⟨Fe,I8,Jy,p467,f467⟩)] }) 9 38 Tryz.f38 GJ Pe QU x=pC p467 f467 x.1 x.2.1 x.2.2.1:=by kernel_rfl
def YJ(x:LK.D GJ×DenS Pe):Option (LK.B GJ×DenS QU):=pC D4.pre D4.F x.1 x.2.1 x.2.2.1
def RH:SumL:=Eo GJ Pe QU YJ (LK.dflt GJ,DenS.dflt QU)
theorem aQ8:SoundL Tryz.prog G1 38 RH:=Hq ({cf [] []with lsums:=[(76,D4)] }) 38 Tryz.f38 trivial trivial GJ Pe QU YJ _ (fun _=>bBx ..) (hls:=⟨rO,trivial⟩)
abbrev tK:=LK.D GJ×DenS Pe->Bool
abbrev uN:=LK.D GJ×DenS Pe->LK.B GJ×DenS QU
variable (p475:tK)(f475:uN)
abbrev Pf:Aa:=[(false,.int .i64),(false,.int .i64),(true,.pair (.int .u64) (.pair (.int .u64) (.unit))),(true,.pair (.int .u64) (.pair (.int .u64) (.unit)))]
abbrev QV:Aa:=[(true,.pair (.int .u64) (.pair (.int .u64) (.unit))),(false,.int .i64),(false,.int .i64)]
def pD(p475:tK)(f475:uN)(p69:BF)(f69:BG)(p469:Zj)(f469:Zw)(a0 a1:Ab (.int .i64))(a2 a3:Ab (.pair (.int .u64) (.pair (.int .u64) (.unit)))):Option (DenS QV):=let e4_:=((a0,a1,(0:Int),()),((a2.1,a2.2)::((a3.1,a3.2)::[])),());let e3_:=(f469 e4_);let e1_:=(f475 (e3_.1,(a2.1,a2.2),(a3.1,a3.2),()));let e2_:=e3_;bif(p69 (a0,()))then(bif((f69 (a0,())).2.1 !=(0:Int))then(bif((f69 (a0,())).2.1 !=(0:Int))then(some (((0:Int),(0:Int),()),(0:Int),(f69 (a0,())).2))else none)else bif((decide (a1<(0:Int)))||(decide (a1>(5:Int))))then(some (((0:Int),(0:Int),()),(0:Int),(3:Int),()))else bif(p469 e4_)then(bif(e2_.2.1 !=(0:Int))then(some (((0:Int),(0:Int),()),(0:Int),e2_.2))else bif(p475 (e2_.1,(a2.1,a2.2),(a3.1,a3.2),()))then(some (e1_.2.1,e1_.1.2.2.1,(0:Int),()))else none)else none)else none
theorem bBy(x:DenS Pf):run ({cf [(71,⟨BU,BV,p69,f69⟩)] []with lsums:=[(38,⟨GJ,Pe,QU,p475,f475⟩),(53,⟨Ff,I9,Jz,p469,f469⟩)] }) 9 10 Tryz.f10 Pf QV x=pD p475 f475 p69 f69 p469 f469 x.1 x.2.1 x.2.2.1 x.2.2.2.1:=by kernel_rfl
def Tg(x:DenS Pf):Option (DenS QV):=pD RH.pre RH.F Ao.pre Ao.F D5.pre D5.F x.1 x.2.1 x.2.2.1 x.2.2.2.1
def RI:Sum:=Aj Pf QV Tg (DenS.dflt QV)
theorem aQ9:Sound Tryz.prog G1 10 RI:=sd ({cf [(71,Ao)] []with lsums:=[(38,RH),(53,D5)] }) 10 Tryz.f10 ⟨Do,trivial⟩ trivial Pf QV Tg _ (fun _=>bBy ..) (hls:=⟨aQ8,rP,trivial⟩)
abbrev iK:=Ae Pf
abbrev i4:=Ad Pf QV
variable (p476:iK)(f476:i4)
abbrev HD:Aa:=[(false,.int .i64)]
abbrev HK:Aa:=[(false,.int .i64),(false,.int .i64),(false,.int .i64)]
def t67(a0:Ab (.int .i64)):Option (DenS HK):=bif(a0==(0:Int))then(some ((16:Int),(11:Int),(-(14:Int)),()))else bif(a0==(1:Int))then(some ((16:Int),(8:Int),(-(126:Int)),()))else bif(a0==(2:Int))then(some ((32:Int),(24:Int),(-(126:Int)),()))else bif(a0==(3:Int))then(some ((64:Int),(53:Int),(-(1022:Int)),()))else some ((0:Int),(0:Int),(0:Int),())
theorem r67(x:DenS HD):run (cf [] []) 9 31 Tryz.f31 HD HK x=t67 x.1:=by kernel_rfl
def YR(x:DenS HD):Option (DenS HK):=t67 x.1
def Dn:Sum:=Aj HD HK YR (DenS.dflt HK)
theorem fZ:Sound Tryz.prog G1 31 Dn:=sd (cf [] []) 31 Tryz.f31 trivial trivial HD HK YR _ (fun _=>r67 ..)
abbrev Tm:=Ae HD
abbrev Tt:=Ad HD HK
variable (p67:Tm)(f67:Tt)
abbrev I73:Aa:=[(false,.int .i64),(false,.int .i64)]
abbrev O73:Aa:=[(false,.int .i64)]
abbrev Y73:=Ae I73
abbrev Z73:=Ad I73 O73
variable (p73:Y73)(f73:Z73)
abbrev I68:Aa:=[(false,.int .i64),(false,.int .u64)]
abbrev O68:Aa:=[(false,.bool)]
abbrev Y68:=Ae I68
abbrev Z68:=Ad I68 O68
variable (p68:Y68)(f68:Z68)
abbrev aAC:Aa:=[(false,.int .i64),(false,.int .i64),(false,.slice (.pair (.int .u64) (.pair (.int .u64) (.unit))))]
abbrev aOw:Aa:=[(false,.int .i64)]
abbrev aPh:Pat:=⟨39,[(0,.one (.v .i64)),(2,.one (.sl (.pair (.int .u64) (.pair (.int .u64) (.unit))))),(8,.one (.v .i64))],[]⟩
abbrev aSP:List (Nat×Pat):=[(0,⟨39,[],[]⟩)]
abbrev aPz:Option Pat:=(some ⟨39,[(6,.one (.v .i64))],[]⟩)
variable (w477_5:Pat.D aPh->Option (Ah aSP aPz))
abbrev aFm:=Ae aAC
abbrev aG6:=Ad aAC aOw
variable (p477:aFm)(f477:aG6)
abbrev KT:Aa:=[(false,.slice (.int .u64))]
abbrev Ln:Aa:=[(false,.slice (.int .u64))]
abbrev HS:Pat:=⟨21,[(0,.one (.sl (.int .u64))),(3,.one (.v .i64))],[]⟩
abbrev cU:List (Nat×Shape):=[]
abbrev MF:List (Nat×Pat):=[(0,⟨21,[(0,.one (.sl (.int .u64))),(3,.one (.v .i64))],[]⟩)]
abbrev LY:Option Pat:=none
variable (w158_2:Pat.D HS->Option (Ah MF LY))
def VY{R:Type}(L:Pat.D HS->Option R)(e:Ah MF LY->Option R)(x:Pat.D HS):Option R:=let e1_:=(aa .i64 (x.1.2.1-(1:Int)));bif(((decide ((0:Int)<=e1_))&&(decide (e1_<(x.1.1.length:Int))))||(!(decide (x.1.2.1>(0:Int)))))then(bif((decide (x.1.2.1>(0:Int)))&&((x.1.1.getD (ai e1_) (0:Int))==(0:Int)))then(((L ((x.1.1,e1_,()),()))))else(e (.inl (x.1,()))))else none
theorem bCG(d:Nat)(R:Type)(L:Pat.D HS->Option R)(e:Ah MF LY->Option R)(x:Pat.D HS):
  BC (cf [] [(105,2,LoopSpec.of HS cU MF LY w158_2)]) (d+2) 105 (Bw Tryz.f105 2) HS cU MF LY (R:=R) L e x=VY L e x:=by kernel_rfl
theorem aKb:Bq fun L e x=>VY L e x:=by intro _ _ _ _ _ _ _ h0 hL he _;unfold VY;repeat' (first|exact h0|exact hL _|exact he _|apply BM|(apply BN h0;intro _)|(apply BO<;>intro _))
def nK(w158_2:Pat.D HS->Option (Ah MF LY))(a0:Ab (.slice (.int .u64))):Option (DenS Ln):=
 Vx.A3 (w158_2 ((a0,(a0.length:Int),()),())) fun y0=>
 Vx.A2 y0 (fun y1=>
 bif((decide ((0:Int)<=y1.1.2.1))&&(decide (y1.1.2.1<=(y1.1.1.length:Int))))then(some (((y1.1.1.take (ai y1.1.2.1)).drop (ai (0:Int))),()))
 else none) (fun z1=>
 none)
theorem aZF(x:DenS KT):run (cf [] [(105,2,LoopSpec.of HS cU MF LY w158_2)]) 9 105 Tryz.f105 KT Ln x=nK w158_2 x.1:=by kernel_rfl
def gL:HS.D->Option (Ah MF LY):=Bf fun L=>VY L some
def UL(x:DenS KT):Option (DenS Ln):=nK gL x.1
def D3:Sum:=Aj KT Ln UL (DenS.dflt Ln)
theorem aP8:Sound Tryz.prog G1 105 D3:=sd (cf [] [(105,2,LoopSpec.of HS cU MF LY gL)]) 105 Tryz.f105 trivial ⟨rfl,fun d=>BL (fun L e x=>VY L e x) (aKb) (fun _ _ _ _=>bCG ..),trivial⟩ KT Ln UL _ (fun _=>aZF ..)
abbrev Zf:=Ae KT
abbrev Zs:=Ad KT Ln
variable (p158:Zf)(f158:Zs)
abbrev NM:Aa:=[(false,.slice (.int .u64))]
abbrev Pz:Aa:=[(false,.slice (.int .u64))]
abbrev HP:Pat:=⟨30,[(0,.one (.sl (.int .u64))),(4,.one (.v .i64)),(3,.one (.own 0))],[.acc (.int .u64)]⟩
abbrev cO:List (Nat×Shape):=[]
abbrev MB:List (Nat×Pat):=[(0,⟨30,[(3,.one (.own 0))],[.acc (.int .u64)]⟩)]
abbrev LU:Option Pat:=none
variable (w125_3:Pat.D HP->Option (Ah MB LU))
def VT(p158:Zf)(f158:Zs){R:Type}(L:Pat.D HP->Option R)(e:Ah MB LU->Option R)(x:Pat.D HP):Option R:=let e1_:=((iu (x.1.1.getD (ai x.1.2.1) (0:Int)) (4294967296:Int))::((BK .u64 (x.1.1.getD (ai x.1.2.1) (0:Int)) (4294967296:Int))::[]));let e2_:=((decide ((0:Int)<=x.1.2.1))&&(decide (x.1.2.1<(x.1.1.length:Int))));bif(decide (x.1.2.1<(x.1.1.length:Int)))then(bif e2_ then(bif e2_ then(bif(((Vx.WQ (x.2.1.length+e1_.length) 8)&&true)&&true)then(((L ((x.1.1,(aa .i64 (x.1.2.1+(1:Int))),(),()),(x.2.1++e1_),()))))else none)else none)else none)else(e (.inl (((),()),x.2)))
theorem bCC(d:Nat)(R:Type)(L:Pat.D HP->Option R)(e:Ah MB LU->Option R)(x:Pat.D HP):
  BC (cf [(105,⟨KT,Ln,p158,f158⟩)] [(74,3,LoopSpec.of HP cO MB LU w125_3)]) (d+2) 74 (Bw Tryz.f74 3) HP cO MB LU (R:=R) L e x=VT p158 f158 L e x:=by kernel_rfl
theorem aJ7(p158:Zf)(f158:Zs):Bq fun L e x=>VT p158 f158 L e x:=by intro _ _ _ _ _ _ _ h0 hL he _;unfold VT;repeat' (first|exact h0|exact hL _|exact he _|apply BM|(apply BN h0;intro _)|(apply BO<;>intro _))
def mX(p158:Zf)(f158:Zs)(w125_3:Pat.D HP->Option (Ah MB LU))(a0:Ab (.slice (.int .u64))):Option (DenS Pz):=
 let e1_:=(aa .i64 ((2:Int)*(a0.length:Int)))
 bif((decide ((0:Int)<=e1_))&&(decide ((e1_*(8:Int))<=(140737488355328:Int))))then(Vx.A3 (w125_3 ((a0,(0:Int),(),()),(ar (ai (0:Int)) (0:Int)),())) fun y1=>
 Vx.A2 y1 (fun y2=>
 bif(p158 y2.2)then(some (f158 y2.2))
 else none) (fun z2=>
 none))
 else none
theorem aZn(x:DenS NM):run (cf [(105,⟨KT,Ln,p158,f158⟩)] [(74,3,LoopSpec.of HP cO MB LU w125_3)]) 9 74 Tryz.f74 NM Pz x=mX p158 f158 w125_3 x.1:=by kernel_rfl
def gJ:HP.D->Option (Ah MB LU):=Bf fun L=>VT D3.pre D3.F L some
def UH(x:DenS NM):Option (DenS Pz):=mX D3.pre D3.F gJ x.1
def Rd:Sum:=Aj NM Pz UH (DenS.dflt Pz)
theorem aPZ:Sound Tryz.prog G1 74 Rd:=sd (cf [(105,D3)] [(74,3,LoopSpec.of HP cO MB LU gJ)]) 74 Tryz.f74 ⟨aP8,trivial⟩ ⟨rfl,fun d=>BL (fun L e x=>VT D3.pre D3.F L e x) (aJ7 D3.pre D3.F) (fun _ _ _ _=>bCC ..),trivial⟩ NM Pz UH _ (fun _=>aZn ..)
abbrev aEb:=Ae NM
abbrev aFV:=Ad NM Pz
variable (p125:aEb)(f125:aFV)
abbrev Jd:Aa:=[(false,.int .i64),(false,.int .u64)]
abbrev JE:Aa:=[(true,.pair (.bool) (.pair (.bool) (.pair (.bool) (.pair (.bool) (.pair (.pair (.bool) (.pair (.slice (.int .u64)) (.pair (.int .i64) (.unit)))) (.unit))))))]
def pP(p67:Tm)(f67:Tt)(p125:aEb)(f125:aFV)(a0:Ab (.int .i64))(a1:Ab (.int .u64)):Option (DenS JE):=let e11_:=(aa .u64 (aa .i64 ((f67 (a0,())).2.1-(1:Int))));let e9_:=(AQ .u64 (1:Int) e11_);let e8_:=(Bs .u64 a1 (aa .u64 (e9_-(1:Int))));let e1_:=(((aa .u64 (e8_+e9_))::[]),());let e10_:=(aa .u64 (aa .i64 ((f67 (a0,())).1-(f67 (a0,())).2.1)));let e2_:=(aa .i64 (Bs .u64 (AE .u64 a1 e11_) (aa .u64 ((AQ .u64 (1:Int) e10_)-(1:Int)))));let e3_:=(e8_ !=(0:Int));let e4_:=((e8_::[]),());let e5_:=e8_;let e6_:=((Bs .u64 (AE .u64 a1 (aa .u64 (aa .i64 ((f67 (a0,())).1-(1:Int))))) (1:Int))==(1:Int));let e7_:=(aa .i64 ((aa .i64 ((f67 (a0,())).2.2.1-(f67 (a0,())).2.1))+(1:Int)));bif(p67 (a0,()))then(bif(e2_==(aa .i64 ((AQ .i64 (1:Int) e10_)-(1:Int))))then(some ((e3_,(e3_&&((AE .u64 e5_ (aa .u64 (aa .i64 ((f67 (a0,())).2.1-(2:Int)))))==(0:Int))),(e5_==(0:Int)),e6_,(false,[],(0:Int),()),()),()))else bif(decide (e2_>(0:Int)))then(bif(p125 e1_)then(some ((false,false,false,e6_,(e6_,(f125 e1_).1,(aa .i64 (e7_+(aa .i64 (e2_-(1:Int))))),()),()),()))else none)else bif(p125 e4_)then(some ((false,false,false,e6_,(e6_,(f125 e4_).1,e7_,()),()),()))else none)else none
theorem r74(x:DenS Jd):run (cf [(31,⟨HD,HK,p67,f67⟩),(74,⟨NM,Pz,p125,f125⟩)] []) 9 33 Tryz.f33 Jd JE x=pP p67 f67 p125 f125 x.1 x.2.1:=by kernel_rfl
def U1(x:DenS Jd):Option (DenS JE):=pP Dn.pre Dn.F Rd.pre Rd.F x.1 x.2.1
def D6:Sum:=Aj Jd JE U1 (DenS.dflt JE)
theorem rS:Sound Tryz.prog G1 33 D6:=sd (cf [(31,Dn),(74,Rd)] []) 33 Tryz.f33 ⟨fZ,aPZ,trivial⟩ trivial Jd JE U1 _ (fun _=>r74 ..)
abbrev Ve:=Ae Jd
abbrev Vo:=Ad Jd JE
variable (p74:Ve)(f74:Vo)
abbrev I75:Aa:=[(false,.int .i64)]
abbrev O75:Aa:=[(false,.int .u64)]
abbrev Y75:=Ae I75
abbrev Z75:=Ad I75 O75
variable (p75:Y75)(f75:Z75)
abbrev Pp:Aa:=[(true,.pair (.bool) (.pair (.bool) (.pair (.bool) (.pair (.bool) (.pair (.pair (.bool) (.pair (.slice (.int .u64)) (.pair (.int .i64) (.unit)))) (.unit))))))]
abbrev Q5:Aa:=[(false,.bool)]
def W1(a0:Ab (.pair (.bool) (.pair (.bool) (.pair (.bool) (.pair (.bool) (.pair (.pair (.bool) (.pair (.slice (.int .u64)) (.pair (.int .i64) (.unit)))) (.unit))))))):Option (DenS Q5):=some ((((!a0.1)&&(!a0.2.2.1))&&((a0.2.2.2.2.1.2.1.length:Int)==(0:Int))),())
theorem r76(x:DenS Pp):run (cf [] []) 9 75 Tryz.f75 Pp Q5 x=W1 x.1:=by kernel_rfl
def U2(x:DenS Pp):Option (DenS Q5):=W1 x.1
def RP:Sum:=Aj Pp Q5 U2 (DenS.dflt Q5)
theorem aRk:Sound Tryz.prog G1 75 RP:=sd (cf [] []) 75 Tryz.f75 trivial trivial Pp Q5 U2 _ (fun _=>r76 ..)
abbrev iN:=Ae Pp
abbrev i7:=Ad Pp Q5
variable (p76:iN)(f76:i7)
abbrev aAn:Aa:=[(false,.slice (.int .u64)),(false,.int .i64)]
abbrev aOh:Aa:=[(false,.slice (.int .u64))]
abbrev aPa:Pat:=⟨49,[(0,.one (.sl (.int .u64))),(6,.one (.v .u64)),(8,.one (.v .i64)),(5,.one (.own 0)),(7,.one (.v .u64))],[.acc (.int .u64)]⟩
abbrev aSI:List (Nat×Pat):=[(0,⟨49,[(5,.one (.own 0)),(7,.one (.v .u64))],[.acc (.int .u64)]⟩)]
abbrev aPs:Option Pat:=none
variable (w127_5:Pat.D aPa->Option (Ah aSI aPs))
abbrev aEc:=Ae aAn
abbrev aFW:=Ad aAn aOh
variable (p127:aEc)(f127:aFW)
abbrev aAo:Aa:=[(false,.slice (.int .u64)),(false,.slice (.int .u64))]
abbrev aOi:Aa:=[(false,.slice (.int .u64))]
abbrev aPb:Pat:=⟨56,[(5,.one (.v .i64)),(0,.one (.sl (.int .u64))),(1,.one (.sl (.int .u64))),(8,.one (.v .i64)),(6,.one (.own 0)),(7,.one (.v .u64))],[.acc (.int .u64)]⟩
abbrev aSJ:List (Nat×Pat):=[(0,⟨56,[(6,.one (.own 0)),(7,.one (.v .u64))],[.acc (.int .u64)]⟩)]
abbrev aPt:Option Pat:=none
variable (w128_5:Pat.D aPb->Option (Ah aSJ aPt))
abbrev aEd:=Ae aAo
abbrev aFX:=Ad aAo aOi
variable (p128:aEd)(f128:aFX)
abbrev aAp:Aa:=[(false,.slice (.int .u64)),(false,.slice (.int .u64))]
abbrev aOj:Aa:=[(false,.int .i64)]
abbrev aPc:Pat:=⟨41,[(0,.one (.sl (.int .u64))),(1,.one (.sl (.int .u64))),(5,.one (.v .i64))],[]⟩
abbrev aSK:List (Nat×Pat):=[(0,⟨41,[],[]⟩)]
abbrev aPu:Option Pat:=(some ⟨41,[(4,.one (.v .i64))],[]⟩)
variable (w129_6:Pat.D aPc->Option (Ah aSK aPu))
abbrev aEe:=Ae aAp
abbrev aFY:=Ad aAp aOj
variable (p129:aEe)(f129:aFY)
end Vx
namespace Vx
open Go Go.Proofs
variable (p65:DE)(f65:DF)(p70:Dp)(f70:Dq)(p470:Zk)(f470:Zx)(p473:Zl)(f473:Zy)(p474:iJ)(f474:i3)(p476:iK)(f476:i4)(p67:Tm)(f67:Tt)(p73:Y73)(f73:Z73)(p68:Y68)(f68:Z68)(p477:aFm)(f477:aG6)(p158:Zf)(f158:Zs)(p74:Ve)(f74:Vo)(p75:Y75)(f75:Z75)(p76:iN)(f76:i7)(p127:aEc)(f127:aFW)(p128:aEd)(f128:aFX)(p129:aEe)(f129:aFY)
abbrev aAq:Aa:=[(false,.slice (.int .u64)),(false,.slice (.int .u64))]
abbrev aOk:Aa:=[(false,.slice (.int .u64))]
abbrev aPd:Pat:=⟨47,[(6,.one (.v .u64)),(1,.one (.sl (.int .u64))),(0,.one (.sl (.int .u64))),(7,.one (.v .i64)),(5,.one (.own 0))],[.arr (.int .u64)]⟩
abbrev aSL:List (Nat×Pat):=[(0,⟨47,[(5,.one (.own 0))],[.arr (.int .u64)]⟩)]
abbrev aPv:Option Pat:=none
variable (w130_4:Pat.D aPd->Option (Ah aSL aPv))
abbrev aS1:=Ae aAq
abbrev aTD:=Ad aAq aOk
variable (p130:aS1)(f130:aTD)
abbrev I78:Aa:=[(true,.pair (.bool) (.pair (.slice (.int .u64)) (.pair (.int .i64) (.unit)))),(true,.pair (.bool) (.pair (.slice (.int .u64)) (.pair (.int .i64) (.unit))))]
abbrev O78:Aa:=[(true,.pair (.bool) (.pair (.slice (.int .u64)) (.pair (.int .i64) (.unit))))]
abbrev Y78:=Ae I78
abbrev Z78:=Ad I78 O78
variable (p78:Y78)(f78:Z78)
abbrev Pq:Aa:=[(false,.int .i64),(false,.bool)]
abbrev Q6:Aa:=[(false,.int .u64)]
def t81(p67:Tm)(f67:Tt)(a0:Ab (.int .i64))(a1:Ab (.bool)):Option (DenS Q6):=bif(p67 (a0,()))then(bif a1 then(some ((AQ .u64 (1:Int) (aa .u64 (aa .i64 ((f67 (a0,())).1-(1:Int))))),()))else some ((0:Int),()))else none
theorem r81(x:DenS Pq):run (cf [(31,⟨HD,HK,p67,f67⟩)] []) 9 70 Tryz.f70 Pq Q6 x=t81 p67 f67 x.1 x.2.1:=by kernel_rfl
def YV(x:DenS Pq):Option (DenS Q6):=t81 Dn.pre Dn.F x.1 x.2.1
def RQ:Sum:=Aj Pq Q6 YV (DenS.dflt Q6)
theorem aRl:Sound Tryz.prog G1 70 RQ:=sd (cf [(31,Dn)] []) 70 Tryz.f70 ⟨fZ,trivial⟩ trivial Pq Q6 YV _ (fun _=>r81 ..)
abbrev Y81:=Ae Pq
abbrev Z81:=Ad Pq Q6
variable (p81:Y81)(f81:Z81)
abbrev I37:Aa:=[(false,.int .i64),(false,.bool)]
abbrev O37:Aa:=[(false,.int .u64)]
abbrev Y37:=Ae I37
abbrev Z37:=Ad I37 O37
variable (p37:Y37)(f37:Z37)
abbrev aAv:Aa:=[(false,.int .i64),(false,.bool)]
abbrev aOp:Aa:=[(false,.int .u64)]
abbrev aS6:=Ae aAv
abbrev aTI:=Ad aAv aOp
variable (p179:aS6)(f179:aTI)
abbrev aAs:Aa:=[(false,.int .i64),(false,.int .i64),(false,.bool)]
abbrev aOm:Aa:=[(false,.int .u64)]
abbrev aS3:=Ae aAs
abbrev aTF:=Ad aAs aOm
variable (p160:aS3)(f160:aTF)
abbrev aAu:Aa:=[(false,.slice (.int .u64))]
abbrev aOo:Aa:=[(false,.slice (.int .u64))]
abbrev aPf:Pat:=⟨41,[(0,.one (.sl (.int .u64))),(4,.one (.v .i64)),(3,.one (.own 0))],[.arr (.int .u64)]⟩
abbrev aSN:List (Nat×Pat):=[(0,⟨41,[(3,.one (.own 0))],[.arr (.int .u64)]⟩)]
abbrev aPx:Option Pat:=none
variable (w162_3:Pat.D aPf->Option (Ah aSN aPx))
abbrev aS5:=Ae aAu
abbrev aTH:=Ad aAu aOo
variable (p162:aS5)(f162:aTH)
abbrev aAw:Aa:=[(false,.slice (.int .u64)),(false,.int .i64)]
abbrev aOq:Aa:=[(false,.slice (.int .u64))]
abbrev aPg:Pat:=⟨47,[(0,.one (.sl (.int .u64))),(6,.one (.v .u64)),(7,.one (.v .i64)),(5,.one (.own 0))],[.acc (.int .u64)]⟩
abbrev aSO:List (Nat×Pat):=[(0,⟨47,[(5,.one (.own 0))],[.acc (.int .u64)]⟩)]
abbrev aPy:Option Pat:=none
variable (w180_4:Pat.D aPg->Option (Ah aSO aPy))
abbrev aS7:=Ae aAw
abbrev aTJ:=Ad aAw aOq
variable (p180:aS7)(f180:aTJ)
abbrev aAt:Aa:=[(false,.int .i64),(true,.pair (.bool) (.pair (.slice (.int .u64)) (.pair (.int .i64) (.unit)))),(false,.int .i64)]
abbrev aOn:Aa:=[(false,.slice (.int .u64)),(false,.bool)]
abbrev aS4:=Ae aAt
abbrev aTG:=Ad aAt aOn
variable (p161:aS4)(f161:aTG)
abbrev aAr:Aa:=[(false,.slice (.int .u64))]
abbrev aOl:Aa:=[(false,.int .i64)]
abbrev aPe:Pat:=⟨27,[(4,.one (.v .u64)),(3,.one (.v .i64))],[]⟩
abbrev aSM:List (Nat×Pat):=[(0,⟨27,[(3,.one (.v .i64))],[]⟩)]
abbrev aPw:Option Pat:=none
variable (w159_6:Pat.D aPe->Option (Ah aSM aPw))
abbrev aS2:=Ae aAr
abbrev aTE:=Ad aAr aOl
variable (p159:aS2)(f159:aTE)
abbrev aAm:Aa:=[(false,.int .i64),(false,.int .i64),(true,.pair (.bool) (.pair (.slice (.int .u64)) (.pair (.int .i64) (.unit))))]
abbrev aOg:Aa:=[(false,.int .u64),(false,.int .i64)]
abbrev aS0:=Ae aAm
abbrev aTC:=Ad aAm aOg
variable (p126:aS0)(f126:aTC)
abbrev I77:Aa:=[(false,.int .i64),(false,.int .i64),(true,.pair (.bool) (.pair (.slice (.int .u64)) (.pair (.int .i64) (.unit)))),(false,.bool)]
abbrev O77:Aa:=[(false,.int .u64),(false,.int .i64)]
abbrev Y77:=Ae I77
abbrev Z77:=Ad I77 O77
variable (p77:Y77)(f77:Z77)
abbrev I28:Aa:=[(false,.int .i64),(false,.int .i64),(false,.int .u64),(false,.int .u64)]
abbrev O28:Aa:=[(false,.int .u64),(false,.int .i64),(false,.int .i64)]
abbrev Y28:=Ae I28
abbrev Z28:=Ad I28 O28
variable (p28:Y28)(f28:Z28)
abbrev aAD:Aa:=[(false,.int .u64),(false,.int .u64)]
abbrev aOx:Aa:=[(false,.int .u64)]
abbrev qJ:LK:=.ref (.pair (.int .i64) (.pair (.int .i64) (.pair (.int .i64) .unit)))
abbrev aTb:=LK.D qJ×DenS aAD->Bool
abbrev aTN:=LK.D qJ×DenS aAD->LK.B qJ×DenS aOx
variable (p478:aTb)(f478:aTN)
abbrev aAE:Aa:=[(true,.pair (.int .u64) (.pair (.int .u64) (.unit))),(true,.pair (.int .u64) (.pair (.int .u64) (.unit)))]
abbrev aOy:Aa:=[(true,.pair (.int .u64) (.pair (.int .u64) (.unit)))]
abbrev qK:LK:=.ref (.pair (.int .i64) (.pair (.int .i64) (.pair (.int .i64) .unit)))
abbrev aTc:=LK.D qK×DenS aAE->Bool
abbrev aTO:=LK.D qK×DenS aAE->LK.B qK×DenS aOy
variable (p479:aTc)(f479:aTO)
abbrev aAF:Aa:=[(false,.int .i64),(false,.int .i64),(true,.pair (.int .u64) (.pair (.int .u64) (.unit))),(true,.pair (.int .u64) (.pair (.int .u64) (.unit)))]
abbrev aOz:Aa:=[(true,.pair (.int .u64) (.pair (.int .u64) (.unit))),(false,.int .i64),(false,.int .i64)]
abbrev aTd:=Ae aAF
abbrev aTP:=Ad aAF aOz
variable (p480:aTd)(f480:aTP)
abbrev aAG:Aa:=[(false,.slice (.int .u64)),(false,.slice (.int .u64))]
abbrev aOA:Aa:=[(false,.slice (.int .u64))]
abbrev aPi:Pat:=⟨67,[(0,.one (.sl (.int .u64))),(1,.one (.sl (.int .u64))),(6,.one (.v .i64)),(5,.one (.own 0))],[.arr (.int .u64)]⟩
abbrev aSQ:List (Nat×Pat):=[(0,⟨67,[(5,.one (.own 0))],[.arr (.int .u64)]⟩)]
abbrev aPA:Option Pat:=none
abbrev aPj:Pat:=⟨67,[(8,.one (.v .i64)),(7,.one (.v .u64)),(6,.one (.v .i64)),(0,.one (.sl (.int .u64))),(1,.one (.sl (.int .u64))),(5,.one (.own 0))],[.arr (.int .u64)]⟩
abbrev aSR:List (Nat×Pat):=[(2,⟨67,[(7,.one (.v .u64)),(6,.one (.v .i64)),(0,.one (.sl (.int .u64))),(1,.one (.sl (.int .u64))),(5,.one (.own 0))],[.arr (.int .u64)]⟩)]
abbrev aPB:Option Pat:=none
variable (w481_3:Pat.D aPi->Option (Ah aSQ aPA))(w481_7:Pat.D aPj->Option (Ah aSR aPB))
abbrev aTe:=Ae aAG
abbrev aTQ:=Ad aAG aOA
variable (p481:aTe)(f481:aTQ)
abbrev aAH:Aa:=[(true,.pair (.bool) (.pair (.bool) (.pair (.bool) (.pair (.bool) (.pair (.pair (.bool) (.pair (.slice (.int .u64)) (.pair (.int .i64) (.unit)))) (.unit)))))),(true,.pair (.bool) (.pair (.bool) (.pair (.bool) (.pair (.bool) (.pair (.pair (.bool) (.pair (.slice (.int .u64)) (.pair (.int .i64) (.unit)))) (.unit))))))]
abbrev aOB:Aa:=[(true,.pair (.bool) (.pair (.bool) (.pair (.bool) (.pair (.bool) (.pair (.bool) (.pair (.pair (.bool) (.pair (.slice (.int .u64)) (.pair (.int .i64) (.unit)))) (.unit)))))))]
abbrev aTf:=Ae aAH
abbrev aTR:=Ad aAH aOB
variable (p482:aTf)(f482:aTR)
abbrev aAI:Aa:=[(false,.int .u64),(false,.int .u64)]
abbrev aOC:Aa:=[(false,.int .u64)]
abbrev qL:LK:=.ref (.pair (.int .i64) (.pair (.int .i64) (.pair (.int .i64) .unit)))
abbrev aTg:=LK.D qL×DenS aAI->Bool
abbrev aTS:=LK.D qL×DenS aAI->LK.B qL×DenS aOC
variable (p483:aTg)(f483:aTS)
abbrev KX:Aa:=[(false,.int .i64),(false,.int .u64)]
abbrev Lr:Aa:=[(false,.int .u64)]
def nZ(p81:Y81)(f81:Z81)(a0:Ab (.int .i64))(a1:Ab (.int .u64)):Option (DenS Lr):=bif(p81 (a0,true,()))then(some ((cF .u64 a1 (f81 (a0,true,())).1),()))else none
theorem r32(x:DenS KX):run (cf [(70,⟨Pq,Q6,p81,f81⟩)] []) 9 29 Tryz.f29 KX Lr x=nZ p81 f81 x.1 x.2.1:=by kernel_rfl
def Tf(x:DenS KX):Option (DenS Lr):=nZ RQ.pre RQ.F x.1 x.2.1
def F4:Sum:=Aj KX Lr Tf (DenS.dflt Lr)
theorem aBy:Sound Tryz.prog G1 29 F4:=sd (cf [(70,RQ)] []) 29 Tryz.f29 ⟨aRl,trivial⟩ trivial KX Lr Tf _ (fun _=>r32 ..)
abbrev iC:=Ae KX
abbrev iU:=Ad KX Lr
variable (p32:iC)(f32:iU)
abbrev I26:Aa:=[(false,.int .i64),(false,.int .i64),(false,.int .u64),(false,.int .u64)]
abbrev O26:Aa:=[(false,.int .u64),(false,.int .i64),(false,.int .i64)]
abbrev Y26:=Ae I26
abbrev Z26:=Ad I26 O26
variable (p26:Y26)(f26:Z26)
abbrev aAJ:Aa:=[(false,.int .u64),(false,.int .u64)]
abbrev aOD:Aa:=[(false,.int .u64)]
abbrev qM:LK:=.ref (.pair (.int .i64) (.pair (.int .i64) (.pair (.int .i64) .unit)))
abbrev aTh:=LK.D qM×DenS aAJ->Bool
abbrev aTT:=LK.D qM×DenS aAJ->LK.B qM×DenS aOD
variable (p484:aTh)(f484:aTT)
abbrev aAK:Aa:=[(true,.pair (.int .u64) (.pair (.int .u64) (.unit))),(true,.pair (.int .u64) (.pair (.int .u64) (.unit)))]
abbrev aOE:Aa:=[(true,.pair (.int .u64) (.pair (.int .u64) (.unit)))]
abbrev qN:LK:=.ref (.pair (.int .i64) (.pair (.int .i64) (.pair (.int .i64) .unit)))
abbrev aTi:=LK.D qN×DenS aAK->Bool
abbrev aTU:=LK.D qN×DenS aAK->LK.B qN×DenS aOE
variable (p485:aTi)(f485:aTU)
abbrev aAL:Aa:=[(false,.int .i64),(false,.int .i64),(true,.pair (.int .u64) (.pair (.int .u64) (.unit))),(true,.pair (.int .u64) (.pair (.int .u64) (.unit)))]
abbrev aOF:Aa:=[(true,.pair (.int .u64) (.pair (.int .u64) (.unit))),(false,.int .i64),(false,.int .i64)]
abbrev aTj:=Ae aAL
abbrev aTV:=Ad aAL aOF
variable (p486:aTj)(f486:aTV)
abbrev aAM:Aa:=[(true,.pair (.int .u64) (.pair (.int .u64) (.unit)))]
abbrev aOG:Aa:=[(true,.pair (.int .u64) (.pair (.int .u64) (.unit)))]
abbrev aFn:=Ae aAM
abbrev aG7:=Ad aAM aOG
variable (p487:aFn)(f487:aG7)
abbrev aAN:Aa:=[(true,.pair (.bool) (.pair (.slice (.int .u64)) (.pair (.int .i64) (.unit)))),(true,.pair (.bool) (.pair (.slice (.int .u64)) (.pair (.int .i64) (.unit)))),(false,.bool)]
abbrev aOH:Aa:=[(true,.pair (.bool) (.pair (.slice (.int .u64)) (.pair (.int .i64) (.unit))))]
abbrev aPk:Pat:=⟨59,[(9,.one (.v .i64)),(8,.one (.sl (.int .u64))),(7,.one (.sl (.int .u64))),(2,.one (.bool)),(3,.one (.ptr 0 0)),(4,.one (.ptr 1 0)),(6,.one (.ptr 2 0))],[.raw [.bool,.sl (.int .u64),.v .i64],.raw [.bool,.sl (.int .u64),.v .i64],.raw [.bool,.sl (.int .u64),.v .i64]]⟩
abbrev aSS:List (Nat×Pat):=[(0,⟨59,[(8,.one (.sl (.int .u64))),(7,.one (.sl (.int .u64))),(2,.one (.bool)),(3,.one (.ptr 0 0)),(4,.one (.ptr 1 0)),(6,.one (.ptr 2 0))],[.raw [.bool,.sl (.int .u64),.v .i64],.raw [.bool,.sl (.int .u64),.v .i64],.raw [.bool,.sl (.int .u64),.v .i64]]⟩)]
abbrev aPC:Option Pat:=none
variable (w488_4:Pat.D aPk->Option (Ah aSS aPC))
abbrev aTk:=Ae aAN
abbrev aTW:=Ad aAN aOH
variable (p488:aTk)(f488:aTW)
abbrev aAO:Aa:=[(false,.int .u64),(false,.int .u64)]
abbrev aOI:Aa:=[(false,.int .u64)]
abbrev qO:LK:=.ref (.pair (.int .i64) (.pair (.int .i64) (.pair (.int .i64) .unit)))
abbrev aTl:=LK.D qO×DenS aAO->Bool
abbrev aTX:=LK.D qO×DenS aAO->LK.B qO×DenS aOI
variable (p489:aTl)(f489:aTX)
abbrev aAP:Aa:=[(true,.pair (.int .u64) (.pair (.int .u64) (.unit))),(true,.pair (.int .u64) (.pair (.int .u64) (.unit)))]
abbrev aOJ:Aa:=[(true,.pair (.int .u64) (.pair (.int .u64) (.unit)))]
abbrev qP:LK:=.ref (.pair (.int .i64) (.pair (.int .i64) (.pair (.int .i64) .unit)))
abbrev aTm:=LK.D qP×DenS aAP->Bool
abbrev aTY:=LK.D qP×DenS aAP->LK.B qP×DenS aOJ
variable (p490:aTm)(f490:aTY)
abbrev aAQ:Aa:=[(false,.int .i64),(false,.int .i64),(true,.pair (.int .u64) (.pair (.int .u64) (.unit))),(true,.pair (.int .u64) (.pair (.int .u64) (.unit)))]
abbrev aOK:Aa:=[(true,.pair (.int .u64) (.pair (.int .u64) (.unit))),(false,.int .i64),(false,.int .i64)]
abbrev aTn:=Ae aAQ
abbrev aTZ:=Ad aAQ aOK
variable (p491:aTn)(f491:aTZ)
abbrev aAR:Aa:=[(true,.pair (.int .u64) (.pair (.int .u64) (.unit))),(true,.pair (.int .u64) (.pair (.int .u64) (.unit)))]
abbrev aOL:Aa:=[(false,.bool)]
abbrev aFp:=Ae aAR
abbrev aG9:=Ad aAR aOL
variable (p492:aFp)(f492:aG9)
abbrev aAS:Aa:=[(false,.slice (.pair (.int .i64) (.pair (.int .i64) (.pair (.int .i64) (.pair (.pair (.int .u64) (.pair (.int .u64) (.unit))) (.pair (.pair (.int .u64) (.pair (.int .u64) (.unit))) (.unit)))))))]
abbrev aOM:Aa:=[(false,.bool)]
abbrev aPl:Pat:=⟨129,[(0,.one (.sl (.pair (.int .i64) (.pair (.int .i64) (.pair (.int .i64) (.pair (.pair (.int .u64) (.pair (.int .u64) (.unit))) (.pair (.pair (.int .u64) (.pair (.int .u64) (.unit))) (.unit)))))))),(3,.one (.v .i64))],[]⟩
abbrev aST:List (Nat×Pat):=[(0,⟨129,[],[]⟩)]
abbrev aPD:Option Pat:=(some ⟨129,[(2,.one (.bool))],[]⟩)
variable (w493_4:Pat.D aPl->Option (Ah aST aPD))
abbrev aTo:=Ae aAS
abbrev aT0:=Ad aAS aOM
variable (p493:aTo)(f493:aT0)
abbrev aAz:Aa:=[(false,.int .u64)]
abbrev aOt:Aa:=[(false,.flt .f64)]
abbrev aEt:=Ae aAz
abbrev aGd:=Ad aAz aOt
variable (p301:aEt)(f301:aGd)
abbrev aAT:Aa:=[(true,.pair (.int .u64) (.pair (.int .u64) (.unit)))]
abbrev aON:Aa:=[(false,.cx .f64)]
abbrev aFq:=Ae aAT
abbrev aHa:=Ad aAT aON
variable (p494:aFq)(f494:aHa)
abbrev aAA:Aa:=[(false,.flt .f64)]
abbrev aOu:Aa:=[(false,.int .u64)]
abbrev aEu:=Ae aAA
abbrev aGe:=Ad aAA aOu
variable (p306:aEu)(f306:aGe)
abbrev aAU:Aa:=[(false,.flt .f64)]
abbrev aOO:Aa:=[(false,.int .u64)]
abbrev aTp:=Ae aAU
abbrev aT1:=Ad aAU aOO
variable (p495:aTp)(f495:aT1)
abbrev aAV:Aa:=[(false,.cx .f64)]
abbrev aOP:Aa:=[(true,.pair (.int .u64) (.pair (.int .u64) (.unit)))]
abbrev aFr:=Ae aAV
abbrev aHb:=Ad aAV aOP
variable (p496:aFr)(f496:aHb)
abbrev aAW:Aa:=[(true,.pair (.int .u64) (.pair (.int .u64) (.unit))),(true,.pair (.int .u64) (.pair (.int .u64) (.unit)))]
abbrev aOQ:Aa:=[(true,.pair (.int .u64) (.pair (.int .u64) (.unit)))]
abbrev aFs:=Ae aAW
abbrev aHc:=Ad aAW aOQ
variable (p497:aFs)(f497:aHc)
abbrev aAX:Aa:=[(false,.cx .f64),(false,.cx .f64)]
abbrev aOR:Aa:=[(false,.cx .f64)]
abbrev aFt:=Ae aAX
abbrev aHd:=Ad aAX aOR
variable (p498:aFt)(f498:aHd)
abbrev aAY:Aa:=[(true,.pair (.int .u64) (.pair (.int .u64) (.unit))),(true,.pair (.int .u64) (.pair (.int .u64) (.unit)))]
abbrev aOS:Aa:=[(true,.pair (.int .u64) (.pair (.int .u64) (.unit)))]
abbrev aFu:=Ae aAY
abbrev aHe:=Ad aAY aOS
variable (p499:aFu)(f499:aHe)
abbrev aAZ:Aa:=[(true,.pair (.int .u64) (.pair (.int .u64) (.unit))),(true,.pair (.int .u64) (.pair (.int .u64) (.unit)))]
abbrev aOT:Aa:=[(true,.pair (.int .u64) (.pair (.int .u64) (.unit)))]
abbrev aFv:=Ae aAZ
abbrev aHf:=Ad aAZ aOT
variable (p500:aFv)(f500:aHf)
abbrev aA0:Aa:=[(false,.flt .f64)]
abbrev aOU:Aa:=[(false,.int .u64)]
abbrev aTq:=Ae aA0
abbrev aT2:=Ad aA0 aOU
variable (p501:aTq)(f501:aT2)
abbrev aA1:Aa:=[(true,.pair (.int .u64) (.pair (.int .u64) (.unit))),(true,.pair (.int .u64) (.pair (.int .u64) (.unit)))]
abbrev aOV:Aa:=[(false,.bool)]
abbrev aTr:=Ae aA1
abbrev aT3:=Ad aA1 aOV
variable (p502:aTr)(f502:aT3)
abbrev aA2:Aa:=[(true,.pair (.int .u64) (.pair (.int .u64) (.unit))),(true,.pair (.int .u64) (.pair (.int .u64) (.unit)))]
abbrev aOW:Aa:=[(false,.bool)]
abbrev aTs:=Ae aA2
abbrev aT4:=Ad aA2 aOW
variable (p503:aTs)(f503:aT4)
abbrev aA3:Aa:=[(false,.int .i64),(false,.int .u64)]
abbrev aOX:Aa:=[(false,.int .u64)]
abbrev aTt:=Ae aA3
abbrev aT5:=Ad aA3 aOX
variable (p504:aTt)(f504:aT5)
abbrev aA4:Aa:=[(false,.int .i64),(false,.int .i64),(false,.slice (.pair (.int .u64) (.pair (.int .u64) (.unit)))),(true,.pair (.int .u64) (.pair (.int .u64) (.unit)))]
abbrev aOY:Aa:=[(true,.pair (.int .u64) (.pair (.int .u64) (.unit))),(false,.int .i64),(false,.int .i64)]
abbrev aPm:Pat:=⟨79,[(7,.one (.ptr 0 0)),(2,.one (.sl (.pair (.int .u64) (.pair (.int .u64) (.unit))))),(14,.one (.v .i64)),(0,.one (.v .i64)),(13,.one (.ptr 3 0)),(12,.one (.ptr 2 0)),(8,.one (.ptr 1 0))],[.raw [.v .u64,.v .u64],.raw [.v .u64,.v .u64],.raw [.v .i64,.v .i64,.v .i64],.raw [.v .u64,.v .u64]]⟩
abbrev aSU:List (Nat×Pat):=[(0,⟨79,[(0,.one (.v .i64)),(13,.one (.ptr 3 0)),(12,.one (.ptr 2 0)),(8,.one (.ptr 1 0))],[.gone,.raw [.v .u64,.v .u64],.raw [.v .i64,.v .i64,.v .i64],.raw [.v .u64,.v .u64]]⟩)]
abbrev aPE:Option Pat:=none
variable (w505_14:Pat.D aPm->Option (Ah aSU aPE))
abbrev aFw:=Ae aA4
abbrev aHg:=Ad aA4 aOY
variable (p505:aFw)(f505:aHg)
abbrev aA5:Aa:=[(false,.int .u64)]
abbrev aOZ:Aa:=[(false,.int .u64)]
abbrev qQ:LK:=.ref (.pair (.int .i64) (.pair (.int .i64) (.pair (.int .i64) .unit)))
abbrev aFx:=LK.D qQ×DenS aA5->Bool
abbrev aHh:=LK.D qQ×DenS aA5->LK.B qQ×DenS aOZ
variable (p506:aFx)(f506:aHh)
end Vx
namespace Vx
open Go Go.Proofs
variable (p69:BF)(f69:BG)(p91:Gh)(f91:Gk)(p65:DE)(f65:DF)(p140:Ti)(f140:To)(p70:Dp)(f70:Dq)(p118:G5)(f118:G8)(p173:AZ)(f173:A1)(p151:Fv)(f151:Fw)(p171:Ij)(f171:Il)(p186:Ka)(f186:Kg)(p185:J9)(f185:Kf)(p176:J8)(f176:Ke)(p141:RX)(f141:R0)(p143:Gg)(f143:Gj)(p97:Kc)(f97:Ki)(p122:Gf)(f122:Gi)(p144:E2)(f144:E3)(p333:Vc)(f333:Vm)(p311:Zg)(f311:Zt)(p313:Zh)(f313:Zu)(p324:U9)(f324:Vj)(p325:iD)(f325:iV)(p468:tI)(f468:uL)(p469:Zj)(f469:Zw)(p470:Zk)(f470:Zx)(p473:Zl)(f473:Zy)(p474:iJ)(f474:i3)(p475:tK)(f475:uN)(p476:iK)(f476:i4)(p67:Tm)(f67:Tt)(p74:Ve)(f74:Vo)(p76:iN)(f76:i7)(p32:iC)(f32:iU)(p487:aFn)(f487:aG7)(p492:aFp)(f492:aG9)(p301:aEt)(f301:aGd)(p494:aFq)(f494:aHa)(p306:aEu)(f306:aGe)(p496:aFr)(f496:aHb)(p497:aFs)(f497:aHc)(p498:aFt)(f498:aHd)(p499:aFu)(f499:aHe)(p500:aFv)(f500:aHf)(p505:aFw)(f505:aHg)(p506:aFx)(f506:aHh)
abbrev aA6:Aa:=[(false,.int .i64),(false,.int .i64),(false,.slice (.pair (.int .u64) (.pair (.int .u64) (.unit)))),(true,.pair (.int .u64) (.pair (.int .u64) (.unit)))]
abbrev aO0:Aa:=[(true,.pair (.int .u64) (.pair (.int .u64) (.unit))),(false,.int .i64),(false,.int .i64)]
abbrev aPn:Pat:=⟨77,[(51,.one (.v .i64)),(50,.one (.sl (.pair (.int .u64) (.pair (.int .u64) (.unit))))),(7,.one (.ptr 0 0)),(52,.one (.v .i64)),(13,.one (.ptr 4 0)),(11,.one (.ptr 3 0)),(8,.one (.ptr 1 0))],[.raw [.v .u64,.v .u64],.raw [.v .u64,.v .u64],.gone,.raw [.v .i64,.v .i64,.v .i64],.raw [.v .u64,.v .u64]]⟩
abbrev aSV:List (Nat×Pat):=[(0,⟨77,[(13,.one (.ptr 4 0)),(11,.one (.ptr 3 0)),(8,.one (.ptr 1 0))],[.gone,.raw [.v .u64,.v .u64],.gone,.raw [.v .i64,.v .i64,.v .i64],.raw [.v .u64,.v .u64]]⟩)]
abbrev aPF:Option Pat:=none
variable (w507_12:Pat.D aPn->Option (Ah aSV aPF))
abbrev aTu:=Ae aA6
abbrev aT6:=Ad aA6 aO0
variable (p507:aTu)(f507:aT6)
abbrev aA7:Aa:=[(false,.slice (.pair (.int .u64) (.pair (.int .u64) (.unit)))),(true,.pair (.int .u64) (.pair (.int .u64) (.unit)))]
abbrev aO1:Aa:=[(true,.pair (.int .u64) (.pair (.int .u64) (.unit))),(false,.int .i64)]
abbrev aPo:Pat:=⟨40,[(26,.one (.v .i64)),(25,.one (.sl (.pair (.int .u64) (.pair (.int .u64) (.unit))))),(7,.one (.cx .f64)),(27,.one (.v .i64)),(6,.one (.cx .f64)),(4,.one (.ptr 1 0))],[.gone,.raw [.v .u64,.v .u64]]⟩
abbrev aSW:List (Nat×Pat):=[(0,⟨40,[(6,.one (.cx .f64)),(4,.one (.ptr 1 0))],[.gone,.raw [.v .u64,.v .u64]]⟩)]
abbrev aPG:Option Pat:=none
variable (w508_7:Pat.D aPo->Option (Ah aSW aPG))
abbrev aTv:=Ae aA7
abbrev aT7:=Ad aA7 aO1
variable (p508:aTv)(f508:aT7)
abbrev aA8:Aa:=[(false,.int .i64),(false,.int .i64),(false,.slice (.pair (.int .u64) (.pair (.int .u64) (.unit)))),(true,.pair (.int .u64) (.pair (.int .u64) (.unit)))]
abbrev aO2:Aa:=[(false,.bool)]
abbrev aPp:Pat:=⟨224,[(13,.one (.v .i64)),(12,.one (.own 3)),(11,.one (.sl (.pair (.int .u64) (.pair (.int .u64) (.unit))))),(2,.one (.sl (.pair (.int .u64) (.pair (.int .u64) (.unit))))),(10,.one (.ptr 2 0)),(0,.one (.v .i64)),(1,.one (.v .i64)),(9,.one (.sl (.pair (.int .u64) (.pair (.int .u64) (.unit))))),(7,.one (.ptr 0 0))],[.raw [.v .u64,.v .u64],.gone,.raw [.v .u64,.v .u64],.acc (.pair (.int .u64) (.pair (.int .u64) (.unit)))]⟩
abbrev aSX:List (Nat×Pat):=[(0,⟨224,[(12,.one (.own 3)),(11,.one (.sl (.pair (.int .u64) (.pair (.int .u64) (.unit))))),(2,.one (.sl (.pair (.int .u64) (.pair (.int .u64) (.unit))))),(10,.one (.ptr 2 0)),(0,.one (.v .i64)),(1,.one (.v .i64)),(9,.one (.sl (.pair (.int .u64) (.pair (.int .u64) (.unit))))),(7,.one (.ptr 0 0))],[.raw [.v .u64,.v .u64],.gone,.raw [.v .u64,.v .u64],.acc (.pair (.int .u64) (.pair (.int .u64) (.unit)))]⟩)]
abbrev aPH:Option Pat:=none
abbrev aPq:Pat:=⟨224,[(20,.one (.v .i64)),(11,.one (.sl (.pair (.int .u64) (.pair (.int .u64) (.unit))))),(2,.one (.sl (.pair (.int .u64) (.pair (.int .u64) (.unit))))),(10,.one (.ptr 2 0)),(0,.one (.v .i64)),(1,.one (.v .i64)),(9,.one (.sl (.pair (.int .u64) (.pair (.int .u64) (.unit))))),(7,.one (.ptr 0 0)),(14,.one (.ptr 4 0))],[.raw [.v .u64,.v .u64],.gone,.raw [.v .u64,.v .u64],.gone,.raw [.v .u64,.v .u64]]⟩
abbrev aSY:List (Nat×Pat):=[(2,⟨224,[(11,.one (.sl (.pair (.int .u64) (.pair (.int .u64) (.unit))))),(2,.one (.sl (.pair (.int .u64) (.pair (.int .u64) (.unit))))),(10,.one (.ptr 2 0)),(0,.one (.v .i64)),(1,.one (.v .i64)),(9,.one (.sl (.pair (.int .u64) (.pair (.int .u64) (.unit))))),(7,.one (.ptr 0 0)),(14,.one (.ptr 4 0))],[.raw [.v .u64,.v .u64],.gone,.raw [.v .u64,.v .u64],.gone,.raw [.v .u64,.v .u64]]⟩)]
abbrev aPI:Option Pat:=(some ⟨224,[(8,.one (.bool))],[]⟩)
abbrev aPr:Pat:=⟨224,[(21,.one (.v .i64)),(0,.one (.v .i64)),(1,.one (.v .i64)),(9,.one (.sl (.pair (.int .u64) (.pair (.int .u64) (.unit))))),(7,.one (.ptr 0 0)),(14,.one (.ptr 4 0))],[.raw [.v .u64,.v .u64],.gone,.gone,.gone,.raw [.v .u64,.v .u64]]⟩
abbrev aSZ:List (Nat×Pat):=[(4,⟨224,[(0,.one (.v .i64)),(1,.one (.v .i64)),(9,.one (.sl (.pair (.int .u64) (.pair (.int .u64) (.unit))))),(7,.one (.ptr 0 0)),(14,.one (.ptr 4 0))],[.raw [.v .u64,.v .u64],.gone,.gone,.gone,.raw [.v .u64,.v .u64]]⟩)]
abbrev aPJ:Option Pat:=none
variable (w509_10:Pat.D aPp->Option (Ah aSX aPH))(w509_22:Pat.D aPq->Option (Ah aSY aPI))(w509_29:Pat.D aPr->Option (Ah aSZ aPJ))
abbrev aTw:=Ae aA8
abbrev aT8:=Ad aA8 aO2
variable (p509:aTw)(f509:aT8)
abbrev Ph:Aa:=[(false,.int .i64),(false,.int .i64)]
abbrev QX:Aa:=[(false,.int .i64)]
def pE(a0 a1:Ab (.int .i64)):Option (DenS QX):=bif(a1 !=(0:Int))then(bif(a1 !=(0:Int))then(some ((iu (aa .i64 ((iu a0 a1)+a1)) a1),()))else none)else none
theorem bBB(x:DenS Ph):run (cf [] []) 9 57 Tryz.f57 Ph QX x=pE x.1 x.2.1:=by kernel_rfl
def YK(x:DenS Ph):Option (DenS QX):=pE x.1 x.2.1
def RJ:Sum:=Aj Ph QX YK (DenS.dflt QX)
theorem aRb:Sound Tryz.prog G1 57 RJ:=sd (cf [] []) 57 Tryz.f57 trivial trivial Ph QX YK _ (fun _=>bBB ..)
abbrev aFy:=Ae Ph
abbrev aHi:=Ad Ph QX
variable (p510:aFy)(f510:aHi)
abbrev Pi:Aa:=[(true,.pair (.int .i64) (.pair (.int .i64) (.pair (.pair (.int .u64) (.pair (.int .u64) (.unit))) (.pair (.pair (.int .u64) (.pair (.int .u64) (.unit))) (.unit)))))]
abbrev QY:Aa:=[(true,.pair (.int .i64) (.pair (.int .i64) (.pair (.pair (.int .u64) (.pair (.int .u64) (.unit))) (.pair (.pair (.int .u64) (.pair (.int .u64) (.unit))) (.unit)))))]
def pF(p510:aFy)(f510:aHi)(p67:Tm)(f67:Tt)(a0:Ab (.pair (.int .i64) (.pair (.int .i64) (.pair (.pair (.int .u64) (.pair (.int .u64) (.unit))) (.pair (.pair (.int .u64) (.pair (.int .u64) (.unit))) (.unit)))))):Option (DenS QY):=let e1_:=(aa .u64 (aa .i64 ((64:Int)-(f67 (f510 (a0.1,(4:Int),()))).1)));bif(p510 (a0.1,(4:Int),()))then(bif(p510 (a0.2.1,(6:Int),()))then(bif(p67 (f510 (a0.1,(4:Int),())))then(some (((f510 (a0.1,(4:Int),())).1,(f510 (a0.2.1,(6:Int),())).1,((AE .u64 (AQ .u64 a0.2.2.1.1 e1_) e1_),(AE .u64 (AQ .u64 a0.2.2.1.2.1 e1_) e1_),()),((AE .u64 (AQ .u64 a0.2.2.2.1.1 e1_) e1_),(AE .u64 (AQ .u64 a0.2.2.2.1.2.1 e1_) e1_),()),()),()))else none)else none)else none
theorem bBC(x:DenS Pi):run (cf [(57,⟨Ph,QX,p510,f510⟩),(31,⟨HD,HK,p67,f67⟩)] []) 9 26 Tryz.f26 Pi QY x=pF p510 f510 p67 f67 x.1:=by kernel_rfl
def YL(x:DenS Pi):Option (DenS QY):=pF RJ.pre RJ.F Dn.pre Dn.F x.1
def RK:Sum:=Aj Pi QY YL (DenS.dflt QY)
theorem aRc:Sound Tryz.prog G1 26 RK:=sd (cf [(57,RJ),(31,Dn)] []) 26 Tryz.f26 ⟨aRb,fZ,trivial⟩ trivial Pi QY YL _ (fun _=>bBC ..)
abbrev aFz:=Ae Pi
abbrev aHj:=Ad Pi QY
variable (p511:aFz)(f511:aHj)
abbrev N6:Aa:=[(false,.int .i64)]
abbrev PX:Aa:=[(false,.bool)]
def cC(a0:Ab (.int .i64)):Option (DenS PX):=some (((a0==(2:Int))||(a0==(9:Int))),())
theorem aZ4(x:DenS N6):run (cf [] []) 9 60 Tryz.f60 N6 PX x=cC x.1:=by kernel_rfl
def Yc(x:DenS N6):Option (DenS PX):=cC x.1
def Rg:Sum:=Aj N6 PX Yc (DenS.dflt PX)
theorem aQi:Sound Tryz.prog G1 60 Rg:=sd (cf [] []) 60 Tryz.f60 trivial trivial N6 PX Yc _ (fun _=>aZ4 ..)
abbrev aEx:=Ae N6
abbrev aGh:=Ad N6 PX
variable (p323:aEx)(f323:aGh)
abbrev N7:Aa:=[(false,.int .u64),(false,.int .i64)]
abbrev PY:Aa:=[(false,.slice (.int .u64))]
def cD(p325:iD)(f325:iV)(p176:J8)(f176:Ke)(a0:Ab (.int .u64))(a1:Ab (.int .i64)):Option (DenS PY):=let e1_:=((f325 ((a0::[]),(a0::[]),())).1,(aa .i64 ((2:Int)*a1)),());bif(a0==(0:Int))then(some ([],()))else bif(p325 ((a0::[]),(a0::[]),()))then(bif(p176 e1_)then(some ((f176 e1_).1,()))else none)else none
theorem aZ7(x:DenS N7):run (cf [(95,⟨KY,Ls,p325,f325⟩),(67,⟨FN,FU,p176,f176⟩)] []) 9 66 Tryz.f66 N7 PY x=cD p325 f325 p176 f176 x.1 x.2.1:=by kernel_rfl
def JZ(x:DenS N7):Option (DenS PY):=cD F5.pre F5.F BS.pre BS.F x.1 x.2.1
def Rh:Sum:=Aj N7 PY JZ (DenS.dflt PY)
theorem aQj:Sound Tryz.prog G1 66 Rh:=sd (cf [(95,F5),(67,BS)] []) 66 Tryz.f66 ⟨aBw,Xn,trivial⟩ trivial N7 PY JZ _ (fun _=>aZ7 ..)
abbrev aEy:=Ae N7
abbrev aGi:=Ad N7 PY
variable (p326:aEy)(f326:aGi)
abbrev N8:Aa:=[(false,.slice (.int .u64))]
abbrev PZ:Aa:=[(false,.slice (.int .u64)),(false,.bool),(false,.int .i64)]
abbrev GW:Pat:=⟨45,[(5,.one (.sl (.int .u64))),(0,.one (.sl (.int .u64)))],[]⟩
abbrev dI:List (Nat×Shape):=[]
abbrev MT:List (Nat×Pat):=[(0,⟨45,[(5,.one (.sl (.int .u64))),(0,.one (.sl (.int .u64)))],[]⟩)]
abbrev Mf:Option Pat:=none
variable (w334_7:Pat.D GW->Option (Ah MT Mf))
def Wf(p185:J9)(f185:Kf)(p173:AZ)(f173:A1)(p151:Fv)(f151:Fw)(p186:Ka)(f186:Kg)(p333:Vc)(f333:Vm)(p143:Gg)(f143:Gj)(p171:Ij)(f171:Il)(p324:U9)(f324:Vj)(p144:E2)(f144:E3){R:Type}(L:Pat.D GW->Option R)(e:Ah MT Mf->Option R)(x:Pat.D GW):Option R:=let e4_:=(x.1.1,(f333 (x.1.2.1,x.1.1,())).1,());let e3_:=((f143 e4_).1,(1:Int),());let e1_:=((f171 e3_).1,x.1.1,());let e2_:=e3_;bif(p333 (x.1.2.1,x.1.1,()))then(bif(p143 e4_)then(bif(p171 e2_)then(bif(p144 e1_)then(bif(decide ((f144 e1_).1>=(0:Int)))then(((e (.inl (x.1,())))))else(L (((f171 e2_).1,x.1.2),())))else none)else none)else none)else none
theorem bC0(d:Nat)(R:Type)(L:Pat.D GW->Option R)(e:Ah MT Mf->Option R)(x:Pat.D GW):
  BC (cf [(96,⟨Gz,GL,p185,f185⟩),(93,⟨Bz,BA,p173,f173⟩),(98,⟨Ew,EB,p151,f151⟩),(97,⟨GA,GM,p186,f186⟩),(99,⟨I6,Jt,p333,f333⟩),(65,⟨E8,E0,p143,f143⟩),(100,⟨FM,FT,p171,f171⟩),(102,⟨I3,Jp,p324,f324⟩),(101,⟨Eu,EA,p144,f144⟩)] [(68,7,LoopSpec.of GW dI MT Mf w334_7)]) (d+2) 68 (Bw Tryz.f68 7) GW dI MT Mf (R:=R) L e x=Wf p185 f185 p173 f173 p151 f151 p186 f186 p333 f333 p143 f143 p171 f171 p324 f324 p144 f144 L e x:=by kernel_rfl
theorem aKr(p185:J9)(f185:Kf)(p173:AZ)(f173:A1)(p151:Fv)(f151:Fw)(p186:Ka)(f186:Kg)(p333:Vc)(f333:Vm)(p143:Gg)(f143:Gj)(p171:Ij)(f171:Il)(p324:U9)(f324:Vj)(p144:E2)(f144:E3):Bq fun L e x=>Wf p185 f185 p173 f173 p151 f151 p186 f186 p333 f333 p143 f143 p171 f171 p324 f324 p144 f144 L e x:=by intro _ _ _ _ _ _ _ h0 hL he _;unfold Wf;repeat' (first|exact h0|exact hL _|exact he _|apply BM|(apply BN h0;intro _)|(apply BO<;>intro _))
def oB(p185:J9)(f185:Kf)(p173:AZ)(f173:A1)(p151:Fv)(f151:Fw)(p186:Ka)(f186:Kg)(p333:Vc)(f333:Vm)(p143:Gg)(f143:Gj)(p171:Ij)(f171:Il)(p324:U9)(f324:Vj)(p144:E2)(f144:E3)(w334_7:Pat.D GW->Option (Ah MT Mf))(a0:Ab (.slice (.int .u64))):Option (DenS PZ):=
 let e1_:=(((1:Int)::[]),(BK .i64 (aa .i64 ((f151 (f173 (a0,()))).1+(1:Int))) (2:Int)),())
 bif(p185 ((a0::[]),()))then(bif(f185 ((a0::[]),())).1 then(some ([],false,(5:Int),()))
 else bif(p173 (a0,()))then(bif(((f173 (a0,())).1.length:Int)==(0:Int))then(some ([],true,(0:Int),()))
 else bif(p151 (f173 (a0,())))then(bif(p186 e1_)then(Vx.A3 (w334_7 (((f186 e1_).1,(f173 (a0,()))),())) fun y6=>
 Vx.A2 y6 (fun y7=>
 bif(p324 (y7.1.1,y7.1.1,()))then(bif(p144 ((f324 (y7.1.1,y7.1.1,())).1,y7.1.2))then(some (y7.1.1,((f144 ((f324 (y7.1.1,y7.1.1,())).1,y7.1.2)).1==(0:Int)),(0:Int),()))
 else none)
 else none) (fun z7=>
 none))
 else none)
 else none)
 else none)
 else none
theorem bAf(x:DenS N8):run (cf [(96,⟨Gz,GL,p185,f185⟩),(93,⟨Bz,BA,p173,f173⟩),(98,⟨Ew,EB,p151,f151⟩),(97,⟨GA,GM,p186,f186⟩),(99,⟨I6,Jt,p333,f333⟩),(65,⟨E8,E0,p143,f143⟩),(100,⟨FM,FT,p171,f171⟩),(102,⟨I3,Jp,p324,f324⟩),(101,⟨Eu,EA,p144,f144⟩)] [(68,7,LoopSpec.of GW dI MT Mf w334_7)]) 9 68 Tryz.f68 N8 PZ x=oB p185 f185 p173 f173 p151 f151 p186 f186 p333 f333 p143 f143 p171 f171 p324 f324 p144 f144 w334_7 x.1:=by kernel_rfl
def gW:GW.D->Option (Ah MT Mf):=Bf fun L=>Wf Cp.pre Cp.F Ag.pre Ag.F A8.pre A8.F B0.pre B0.F Dm.pre Dm.F BE.pre BE.F BI.pre BI.F Dl.pre Dl.F AU.pre AU.F L some
def UP(x:DenS N8):Option (DenS PZ):=oB Cp.pre Cp.F Ag.pre Ag.F A8.pre A8.F B0.pre B0.F Dm.pre Dm.F BE.pre BE.F BI.pre BI.F Dl.pre Dl.F AU.pre AU.F gW x.1
def Ri:Sum:=Aj N8 PZ UP (DenS.dflt PZ)
theorem aQo:Sound Tryz.prog G1 68 Ri:=sd (cf [(96,Cp),(93,Ag),(98,A8),(97,B0),(99,Dm),(65,BE),(100,BI),(102,Dl),(101,AU)] [(68,7,LoopSpec.of GW dI MT Mf gW)]) 68 Tryz.f68 ⟨eK,DO,SY,rH,aBz,Xm,eI,aBv,Uw,trivial⟩ ⟨rfl,fun d=>BL (fun L e x=>Wf Cp.pre Cp.F Ag.pre Ag.F A8.pre A8.F B0.pre B0.F Dm.pre Dm.F BE.pre BE.F BI.pre BI.F Dl.pre Dl.F AU.pre AU.F L e x) (aKr Cp.pre Cp.F Ag.pre Ag.F A8.pre A8.F B0.pre B0.F Dm.pre Dm.F BE.pre BE.F BI.pre BI.F Dl.pre Dl.F AU.pre AU.F) (fun _ _ _ _=>bC0 ..),trivial⟩ N8 PZ UP _ (fun _=>bAf ..)
abbrev aEz:=Ae N8
abbrev aGj:=Ad N8 PZ
variable (p334:aEz)(f334:aGj)
abbrev N9:Aa:=[(false,.int .i64),(false,.int .i64),(false,.slice (.int .u64)),(false,.int .i64),(false,.bool)]
abbrev P0:Aa:=[(false,.int .u64),(false,.int .i64),(false,.int .i64)]
def oC(p151:Fv)(f151:Fw)(p141:RX)(f141:R0)(p176:J8)(f176:Ke)(p144:E2)(f144:E3)(p122:Gf)(f122:Gi)(a0 a1:Ab (.int .i64))(a2:Ab (.slice (.int .u64)))(a3:Ab (.int .i64))(a4:Ab (.bool)):Option (DenS P0):=let e13_:=(((0:Int)::((0:Int)::[])).take (0:Nat));let e12_:=(aa .i64 ((f151 (a2,())).1-(128:Int)));let e11_:=(e12_,());let e10_:=(f141 (a2,e11_));let e7_:=((e13_++(e10_.1.take ((0:Int)::((0:Int)::[])).length))++(((0:Int)::((0:Int)::[])).drop ((0:Nat)+(min e10_.1.length ((0:Int)::((0:Int)::[])).length))));let e9_:=(e10_.1,e11_);let e1_:=(a0,a1,false,((e7_.getD (ai (1:Int)) (0:Int)),(e7_.getD (ai (0:Int)) (0:Int)),()),(aa .i64 (a3+e12_)),(a4||((f144 ((f176 e9_).1,a2,())).1 !=(0:Int))),());let e8_:=((e13_++(a2.take ((0:Int)::((0:Int)::[])).length))++(((0:Int)::((0:Int)::[])).drop ((0:Nat)+(min a2.length ((0:Int)::((0:Int)::[])).length))));let e2_:=(a0,a1,false,((e8_.getD (ai (1:Int)) (0:Int)),(e8_.getD (ai (0:Int)) (0:Int)),()),a3,a4,());let e3_:=(e7_.length:Int);let e4_:=(e8_.length:Int);let e5_:=e9_;let e6_:=e12_;bif(p151 (a2,()))then(bif(decide (e6_>(0:Int)))then(bif(p141 (a2,e6_,()))then(bif(p176 e5_)then(bif((p144 ((f176 e5_).1,a2,()))||(!(bif a4 then false else true)))then(bif(decide ((1:Int)<e3_))then(bif(decide ((0:Int)<e3_))then(bif(p122 e1_)then(some (f122 e1_))else none)else none)else none)else none)else none)else none)else bif(decide ((1:Int)<e4_))then(bif(decide ((0:Int)<e4_))then(bif(p122 e2_)then(some (f122 e2_))else none)else none)else none)else none
theorem bAg(x:DenS N9):run (cf [(98,⟨Ew,EB,p151,f151⟩),(103,⟨HA,HH,p141,f141⟩),(67,⟨FN,FU,p176,f176⟩),(101,⟨Eu,EA,p144,f144⟩),(104,⟨Et,EZ,p122,f122⟩)] []) 9 69 Tryz.f69 N9 P0 x=oC p151 f151 p141 f141 p176 f176 p144 f144 p122 f122 x.1 x.2.1 x.2.2.1 x.2.2.2.1 x.2.2.2.2.1:=by kernel_rfl
def UQ(x:DenS N9):Option (DenS P0):=oC A8.pre A8.F DB.pre DB.F BS.pre BS.F AU.pre AU.F Bv.pre Bv.F x.1 x.2.1 x.2.2.1 x.2.2.2.1 x.2.2.2.2.1
def Rj:Sum:=Aj N9 P0 UQ (DenS.dflt P0)
theorem aQp:Sound Tryz.prog G1 69 Rj:=sd (cf [(98,A8),(103,DB),(67,BS),(101,AU),(104,Bv)] []) 69 Tryz.f69 ⟨SY,rF,Xn,Uw,SX,trivial⟩ trivial N9 P0 UQ _ (fun _=>bAg ..)
abbrev aEA:=Ae N9
abbrev aGk:=Ad N9 P0
variable (p335:aEA)(f335:aGk)
abbrev K1:Aa:=[(false,.int .i64),(false,.int .i64),(false,.int .u64),(false,.int .u64)]
abbrev Ju:Aa:=[(false,.int .u64),(false,.int .i64),(false,.int .i64)]
def oD(p311:Zg)(f311:Zt)(p65:DE)(f65:DF)(p323:aEx)(f323:aGh)(p97:Kc)(f97:Ki)(p70:Dp)(f70:Dq)(p313:Zh)(f313:Zu)(p118:G5)(f118:G8)(p326:aEy)(f326:aGi)(p143:Gg)(f143:Gj)(p176:J8)(f176:Ke)(p334:aEz)(f334:aGj)(p335:aEA)(f335:aGk)(a0 a1:Ab (.int .i64))(a2 a3:Ab (.int .u64)):Option (DenS Ju):=let e37_:=(a0,(f311 (a0,a1,(a2::(a3::[])),())).1,a2,());let e35_:=(f313 e37_);let e36_:=(a0,(f311 (a0,a1,(a2::(a3::[])),())).1,a3,());let e34_:=(f313 e36_);let e29_:=(if(e34_.2.1<e35_.2.1)then e34_.2.1 else e35_.2.1);let e27_:=(e35_.1,(aa .i64 (e35_.2.1-e29_)),());let e28_:=(e34_.1,(aa .i64 (e34_.2.1-e29_)),());let e20_:=((f143 ((f326 e27_).1,(f326 e28_))).1,(128:Int),());let e19_:=(f334 ((f176 e20_).1,()));let e1_:=(a0,a1,e19_.1,(aa .i64 (e29_-(64:Int))),(!e19_.2.1),());let e30_:=(e35_.1,(aa .i64 (e35_.2.1-e35_.2.1)),());let e31_:=(e34_.1,(aa .i64 (e34_.2.1-e35_.2.1)),());let e26_:=((f326 e30_).1,(f326 e31_));let e24_:=((f143 e26_).1,(128:Int),());let e23_:=((f176 e24_).1,());let e22_:=(f334 e23_);let e18_:=(a0,a1,e22_.1,(aa .i64 (e35_.2.1-(64:Int))),(!e22_.2.1),());let e2_:=(p335 e18_);let e3_:=(f335 e18_);let e32_:=(e35_.1,(aa .i64 (e35_.2.1-e34_.2.1)),());let e33_:=(e34_.1,(aa .i64 (e34_.2.1-e34_.2.1)),());let e25_:=((f143 ((f326 e32_).1,(f326 e33_))).1,(128:Int),());let e21_:=(f334 ((f176 e25_).1,()));let e4_:=(a0,a1,e21_.1,(aa .i64 (e34_.2.1-(64:Int))),(!e21_.2.1),());let e5_:=e20_;let e6_:=(p334 e23_);let e7_:=(p176 e24_);let e8_:=e25_;let e9_:=(p143 e26_);let e10_:=e27_;let e11_:=e28_;let e12_:=(p326 e30_);let e13_:=(p326 e31_);let e14_:=e32_;let e15_:=e33_;let e16_:=(e34_.1==(0:Int));let e17_:=(e35_.1==(0:Int));let g1_:Option (DenS Ju):=bif e12_ then(bif e13_ then(bif e9_ then(bif e7_ then(bif e6_ then(bif e2_ then(some e3_)else none)else none)else none)else none)else none)else none;bif(p311 (a0,a1,(a2::(a3::[])),()))then(bif((f311 (a0,a1,(a2::(a3::[])),())).2.1 !=(0:Int))then(some ((0:Int),(0:Int),(f311 (a0,a1,(a2::(a3::[])),())).2))else bif(p65 (a0,a2,()))then(bif(p65 (a0,a3,()))then(bif(((f65 (a0,a2,())).1==(0:Int))||((f65 (a0,a3,())).1==(0:Int)))then(bif(p70 (a0,()))then(some ((f70 (a0,())).1,(1:Int),(f70 (a0,())).2))else none)else bif(p323 ((f65 (a0,a2,())).1,()))then(bif((p323 ((f65 (a0,a3,())).1,()))||(!(bif(f323 ((f65 (a0,a2,())).1,())).1 then false else true)))then(bif((f323 ((f65 (a0,a2,())).1,())).1||(f323 ((f65 (a0,a3,())).1,())).1)then(bif(p97 (a0,false,()))then(some ((f97 (a0,false,())).1,(0:Int),(f97 (a0,false,())).2))else none)else bif(((f65 (a0,a2,())).1==(1:Int))||((f65 (a0,a3,())).1==(1:Int)))then(bif(p70 (a0,()))then(some ((f70 (a0,())).1,(0:Int),(f70 (a0,())).2))else none)else bif(p313 e37_)then(bif(p313 e36_)then(bif(e17_&&e16_)then(bif(p118 (a0,false,()))then(some ((f118 (a0,false,())).1,(0:Int),(f118 (a0,false,())).2))else none)else bif e17_ then(bif e16_ then(g1_)else bif(p326 e14_)then(bif(p326 e15_)then(bif(p143 ((f326 e14_).1,(f326 e15_)))then(bif(p176 e8_)then(bif(p334 ((f176 e8_).1,()))then(bif(p335 e4_)then(some (f335 e4_))else none)else none)else none)else none)else none)else none)else bif e16_ then(g1_)else bif(p326 e10_)then(bif(p326 e11_)then(bif(p143 ((f326 e10_).1,(f326 e11_)))then(bif(p176 e5_)then(bif(p334 ((f176 e5_).1,()))then(bif(p335 e1_)then(some (f335 e1_))else none)else none)else none)else none)else none)else none)else none)else none)else none)else none)else none)else none)else none
theorem bAh(x:DenS K1):run (cf [(58,⟨KV,Lp,p311,f311⟩),(59,⟨Dy,Dz,p65,f65⟩),(60,⟨N6,PX,p323,f323⟩),(62,⟨FQ,FV,p97,f97⟩),(61,⟨Di,Dj,p70,f70⟩),(63,⟨KW,Lq,p313,f313⟩),(64,⟨Es,EY,p118,f118⟩),(66,⟨N7,PY,p326,f326⟩),(65,⟨E8,E0,p143,f143⟩),(67,⟨FN,FU,p176,f176⟩),(68,⟨N8,PZ,p334,f334⟩),(69,⟨N9,P0,p335,f335⟩)] []) 9 28 Tryz.f28 K1 Ju x=oD p311 f311 p65 f65 p323 f323 p97 f97 p70 f70 p313 f313 p118 f118 p326 f326 p143 f143 p176 f176 p334 f334 p335 f335 x.1 x.2.1 x.2.2.1 x.2.2.2.1:=by kernel_rfl
def UR(x:DenS K1):Option (DenS Ju):=oD Ie.pre Ie.F AW.pre AW.F Rg.pre Rg.F Cq.pre Cq.F AS.pre AS.F If.pre If.F Bu.pre Bu.F Rh.pre Rh.F BE.pre BE.F BS.pre BS.F Ri.pre Ri.F Rj.pre Rj.F x.1 x.2.1 x.2.2.1 x.2.2.2.1
def F6:Sum:=Aj K1 Ju UR (DenS.dflt Ju)
theorem aBA:Sound Tryz.prog G1 28 F6:=sd (cf [(58,Ie),(59,AW),(60,Rg),(62,Cq),(61,AS),(63,If),(64,Bu),(66,Rh),(65,BE),(67,BS),(68,Ri),(69,Rj)] []) 28 Tryz.f28 ⟨aBs,G0,aQi,UE,Gd,aBt,SW,aQj,Xm,Xn,aQo,aQp,trivial⟩ trivial K1 Ju UR _ (fun _=>bAh ..)
abbrev sO:=Ae K1
abbrev tX:=Ad K1 Ju
variable (p336:sO)(f336:tX)
abbrev Pj:Aa:=[(false,.int .i64),(false,.int .i64),(true,.pair (.int .u64) (.pair (.int .u64) (.unit)))]
abbrev QZ:Aa:=[(false,.int .u64),(false,.int .i64),(false,.int .i64)]
def pG(p336:sO)(f336:tX)(a0 a1:Ab (.int .i64))(a2:Ab (.pair (.int .u64) (.pair (.int .u64) (.unit)))):Option (DenS QZ):=bif(p336 (a0,a1,a2.1,a2.2))then(some (f336 (a0,a1,a2.1,a2.2)))else none
theorem bBD(x:DenS Pj):run (cf [(28,⟨K1,Ju,p336,f336⟩)] []) 9 27 Tryz.f27 Pj QZ x=pG p336 f336 x.1 x.2.1 x.2.2.1:=by kernel_rfl
def YM(x:DenS Pj):Option (DenS QZ):=pG F6.pre F6.F x.1 x.2.1 x.2.2.1
def RL:Sum:=Aj Pj QZ YM (DenS.dflt QZ)
theorem aRd:Sound Tryz.prog G1 27 RL:=sd (cf [(28,F6)] []) 27 Tryz.f27 ⟨aBA,trivial⟩ trivial Pj QZ YM _ (fun _=>bBD ..)
abbrev aFA:=Ae Pj
abbrev aHk:=Ad Pj QZ
variable (p512:aFA)(f512:aHk)
abbrev Lc:Aa:=[(false,.int .i64),(false,.int .u64),(false,.int .u64)]
abbrev LJ:Aa:=[(false,.bool)]
def pI(p74:Ve)(f74:Vo)(p76:iN)(f76:i7)(a0:Ab (.int .i64))(a1 a2:Ab (.int .u64)):Option (DenS LJ):=let e1_:=(!((bif(a1==a2)then false else true)&&(f76 (f74 (a0,a1,()))).1));bif((p74 (a0,a1,()))||(!(bif(a1==a2)then false else true)))then(bif((p76 (f74 (a0,a1,())))||(!(bif(a1==a2)then false else true)))then(bif((p74 (a0,a2,()))||e1_)then(bif((p76 (f74 (a0,a2,())))||e1_)then(some (((a1==a2)||((f76 (f74 (a0,a1,()))).1&&(f76 (f74 (a0,a2,()))).1)),()))else none)else none)else none)else none
theorem bBE(x:DenS Lc):run (cf [(33,⟨Jd,JE,p74,f74⟩),(75,⟨Pp,Q5,p76,f76⟩)] []) 9 34 Tryz.f34 Lc LJ x=pI p74 f74 p76 f76 x.1 x.2.1 x.2.2.1:=by kernel_rfl
def YN(x:DenS Lc):Option (DenS LJ):=pI D6.pre D6.F RP.pre RP.F x.1 x.2.1 x.2.2.1
def Gc:Sum:=Aj Lc LJ YN (DenS.dflt LJ)
theorem aBY:Sound Tryz.prog G1 34 Gc:=sd (cf [(33,D6),(75,RP)] []) 34 Tryz.f34 ⟨rS,aRk,trivial⟩ trivial Lc LJ YN _ (fun _=>bBE ..)
abbrev tL:=Ae Lc
abbrev uO:=Ad Lc LJ
variable (p513:tL)(f513:uO)
abbrev Pk:Aa:=[(false,.int .i64),(true,.pair (.int .u64) (.pair (.int .u64) (.unit))),(true,.pair (.int .u64) (.pair (.int .u64) (.unit)))]
abbrev Q0:Aa:=[(false,.bool)]
def pJ(p74:Ve)(f74:Vo)(p32:iC)(f32:iU)(p513:tL)(f513:uO)(a0:Ab (.int .i64))(a1 a2:Ab (.pair (.int .u64) (.pair (.int .u64) (.unit)))):Option (DenS Q0):=bif(p74 (a0,a1.2))then(bif(f74 (a0,a1.2)).1.1 then(bif(p513 (a0,a1.1,a2.1,()))then(bif((p74 (a0,a2.2))||(!(f513 (a0,a1.1,a2.1,())).1))then(some (((f513 (a0,a1.1,a2.1,())).1&&(f74 (a0,a2.2)).1.1),()))else none)else none)else bif(p513 (a0,a1.1,a2.1,()))then(bif((p32 (a0,a2.2))||(!(f513 (a0,a1.1,a2.1,())).1))then(bif((p513 (a0,a1.2.1,(f32 (a0,a2.2))))||(!(f513 (a0,a1.1,a2.1,())).1))then(some (((f513 (a0,a1.1,a2.1,())).1&&(f513 (a0,a1.2.1,(f32 (a0,a2.2)))).1),()))else none)else none)else none)else none
theorem bBF(x:DenS Pk):run (cf [(33,⟨Jd,JE,p74,f74⟩),(29,⟨KX,Lr,p32,f32⟩),(34,⟨Lc,LJ,p513,f513⟩)] []) 9 30 Tryz.f30 Pk Q0 x=pJ p74 f74 p32 f32 p513 f513 x.1 x.2.1 x.2.2.1:=by kernel_rfl
def YO(x:DenS Pk):Option (DenS Q0):=pJ D6.pre D6.F F4.pre F4.F Gc.pre Gc.F x.1 x.2.1 x.2.2.1
def RM:Sum:=Aj Pk Q0 YO (DenS.dflt Q0)
theorem aRe:Sound Tryz.prog G1 30 RM:=sd (cf [(33,D6),(29,F4),(34,Gc)] []) 30 Tryz.f30 ⟨rS,aBy,aBY,trivial⟩ trivial Pk Q0 YO _ (fun _=>bBF ..)
abbrev aFB:=Ae Pk
abbrev aHl:=Ad Pk Q0
variable (p514:aFB)(f514:aHl)
abbrev Oa:Aa:=[(false,.int .i64),(false,.bool),(false,.int .u64),(false,.int .u64)]
abbrev P1:Aa:=[(false,.int .u64),(false,.int .i64)]
def oF(p69:BF)(f69:BG)(p91:Gh)(f91:Gk)(p140:Ti)(f140:To)(a0:Ab (.int .i64))(a1:Ab (.bool))(a2 a3:Ab (.int .u64)):Option (DenS P1):=let e3_:=((aa .i64 ((f69 (a0,())).1.1-(f69 (a0,())).1.2.1)),());let e1_:=(decide (a2>(f91 e3_).1));let e2_:=((aa .i64 ((f69 (a0,())).1.2.1-(1:Int))),());bif(p69 (a0,()))then(bif((f69 (a0,())).2.1 !=(0:Int))then(some ((0:Int),(f69 (a0,())).2))else bif(p91 e3_)then(bif((p91 e2_)||(!(bif e1_ then false else true)))then(bif(e1_||(decide (a3>(f91 e2_).1)))then(some ((0:Int),(7:Int),()))else bif(p140 ((f69 (a0,())).1,a1,a2,a3,()))then(some ((f140 ((f69 (a0,())).1,a1,a2,a3,())).1,(0:Int),()))else none)else none)else none)else none
theorem bAj(x:DenS Oa):run (cf [(71,⟨BU,BV,p69,f69⟩),(72,⟨Ed,Ee,p91,f91⟩),(73,⟨Gy,GK,p140,f140⟩)] []) 9 32 Tryz.f32 Oa P1 x=oF p69 f69 p91 f91 p140 f140 x.1 x.2.1 x.2.2.1 x.2.2.2.1:=by kernel_rfl
def US(x:DenS Oa):Option (DenS P1):=oF Ao.pre Ao.F Br.pre Br.F DA.pre DA.F x.1 x.2.1 x.2.2.1 x.2.2.2.1
def Rk:Sum:=Aj Oa P1 US (DenS.dflt P1)
theorem aQr:Sound Tryz.prog G1 32 Rk:=sd (cf [(71,Ao),(72,Br),(73,DA)] []) 32 Tryz.f32 ⟨Do,JX,Xl,trivial⟩ trivial Oa P1 US _ (fun _=>bAj ..)
abbrev aEB:=Ae Oa
abbrev aGl:=Ad Oa P1
variable (p349:aEB)(f349:aGl)
abbrev I515:Aa:=[(true,.pair (.int .i64) (.pair (.int .i64) (.pair (.pair (.int .u64) (.pair (.int .u64) (.unit))) (.pair (.pair (.int .u64) (.pair (.int .u64) (.unit))) (.unit)))))]
abbrev Q1:Aa:=[(false,.bool)]
def pK(p474:iJ)(f474:i3)(p511:aFz)(f511:aHj)(p476:iK)(f476:i4)(p512:aFA)(f512:aHk)(p336:sO)(f336:tX)(p32:iC)(f32:iU)(p473:Zl)(f473:Zy)(p514:aFB)(f514:aHl)(p67:Tm)(f67:Tt)(p349:aEB)(f349:aGl)(p74:Ve)(f74:Vo)(p470:Zk)(f470:Zx)(p513:tL)(f513:uO)(a0:Ab (.pair (.int .i64) (.pair (.int .i64) (.pair (.pair (.int .u64) (.pair (.int .u64) (.unit))) (.pair (.pair (.int .u64) (.pair (.int .u64) (.unit))) (.unit)))))):Option (DenS Q1):=let c1_:=(f511 ((a0.1,a0.2),()));let c2_:=(f67 (c1_.1.1,()));let c3_:=(f349 (c1_.1.1,false,(aa .u64 (aa .i64 ((1:Int)-c2_.2.2.1))),(0:Int),()));let c4_:=(f470 (c1_.1.1,c1_.1.2.1,c1_.1.2.2.1,(c3_.1,(0:Int),()),()));let c5_:=(f513 (c1_.1.1,c4_.1.1,c1_.1.2.2.1.1,()));let c6_:=(f513 (c1_.1.1,c4_.1.2.1,c1_.1.2.2.1.2));let c7_:=(f74 (c1_.1.1,c1_.1.2.2.1.1,()));let c8_:=(f74 (c1_.1.1,c1_.1.2.2.1.2));let c9_:=(f32 (c1_.1.1,c1_.1.2.2.1.2));let c10_:=(f32 (c1_.1.1,c1_.1.2.2.2.1.2));let c11_:=(f470 (c1_.1.1,c1_.1.2.1,(c1_.1.2.2.1.1,c9_),(c1_.1.2.2.2.1.1,c10_),()));let c12_:=(f470 c1_.1);let c13_:=(f473 c1_.1);let c14_:=(f473 (c1_.1.1,c1_.1.2.1,(c1_.1.2.2.1.1,c9_),(c1_.1.2.2.2.1.1,c10_),()));let c15_:=(f514 (c1_.1.1,c11_.1,c12_.1,()));let c16_:=(f514 (c1_.1.1,c13_.1,c14_.1,()));let c17_:=(f512 (c1_.1.1,c1_.1.2.1,c1_.1.2.2.1,()));let c18_:=(f336 (c1_.1.1,c1_.1.2.1,c1_.1.2.2.1));let c19_:=(f470 (c1_.1.1,c1_.1.2.1,c1_.1.2.2.2.1,c1_.1.2.2.1,()));let c20_:=(f476 c1_.1);let c21_:=(f476 (c1_.1.1,c1_.1.2.1,c1_.1.2.2.2.1,c1_.1.2.2.1,()));let c22_:=(f474 ());let g1_:Option (DenS Q1):=bif(p67 (c1_.1.1,()))then(bif(p349 (c1_.1.1,false,(aa .u64 (aa .i64 ((1:Int)-c2_.2.2.1))),(0:Int),()))then(bif((c3_.2.1 !=(0:Int))||(c2_.2.1==(0:Int)))then(some (false,()))else bif(p74 (c1_.1.1,c1_.1.2.2.1.1,()))then(bif(p74 (c1_.1.1,c1_.1.2.2.1.2))then(bif(((c7_.1.1||c7_.1.2.2.1)||c8_.1.1)||c8_.1.2.2.1)then(some (true,()))else bif(p470 (c1_.1.1,c1_.1.2.1,c1_.1.2.2.1,(c3_.1,(0:Int),()),()))then(bif((p513 (c1_.1.1,c4_.1.1,c1_.1.2.2.1.1,()))||(!(bif(c4_.2.2.1==(0:Int))then(c4_.2.1==(0:Int))else false)))then(bif((p513 (c1_.1.1,c4_.1.2.1,c1_.1.2.2.1.2))||(!(bif((c4_.2.2.1==(0:Int))&&(c4_.2.1==(0:Int)))then c5_.1 else false)))then(some (((((c4_.2.2.1==(0:Int))&&(c4_.2.1==(0:Int)))&&c5_.1)&&c6_.1),()))else none)else none)else none)else none)else none)else none)else none;bif(p474 ())then(bif(!c22_.1)then(some (false,()))else bif(p511 ((a0.1,a0.2),()))then(bif(p476 c1_.1)then(bif(p476 (c1_.1.1,c1_.1.2.1,c1_.1.2.2.2.1,c1_.1.2.2.1,()))then(bif((((c20_.2.2.1 !=(0:Int))||(c21_.2.2.1 !=(0:Int)))||(!((c20_.1.1==c21_.1.1)&&(c20_.1.2.1==c21_.1.2.1))))||(c20_.2.1 !=c21_.2.1))then(some (false,()))else bif(p470 c1_.1)then(bif(p470 (c1_.1.1,c1_.1.2.1,c1_.1.2.2.2.1,c1_.1.2.2.1,()))then(bif((((c12_.2.2.1 !=(0:Int))||(c19_.2.2.1 !=(0:Int)))||(!((c12_.1.1==c19_.1.1)&&(c12_.1.2.1==c19_.1.2.1))))||(c12_.2.1 !=c19_.2.1))then(some (false,()))else bif(p512 (c1_.1.1,c1_.1.2.1,c1_.1.2.2.1,()))then(bif(p336 (c1_.1.1,c1_.1.2.1,c1_.1.2.2.1))then(bif((((c17_.2.2.1 !=(0:Int))||(c18_.2.2.1 !=(0:Int)))||(c17_.1 !=c18_.1))||(c17_.2.1 !=c18_.2.1))then(some (false,()))else bif(p32 (c1_.1.1,c1_.1.2.2.1.2))then(bif(p32 (c1_.1.1,c1_.1.2.2.2.1.2))then(bif((c1_.1.2.1 !=(3:Int))&&(c1_.1.2.1 !=(4:Int)))then(bif(p470 (c1_.1.1,c1_.1.2.1,(c1_.1.2.2.1.1,c9_),(c1_.1.2.2.2.1.1,c10_),()))then(bif(p473 c1_.1)then(bif(p473 (c1_.1.1,c1_.1.2.1,(c1_.1.2.2.1.1,c9_),(c1_.1.2.2.2.1.1,c10_),()))then(bif((p514 (c1_.1.1,c11_.1,c12_.1,()))||(!(bif(((c11_.2.2.1 !=(0:Int))||(c13_.2.2.1 !=(0:Int)))||(c14_.2.2.1 !=(0:Int)))then false else true)))then(bif((p514 (c1_.1.1,c13_.1,c14_.1,()))||(!(bif((((c11_.2.2.1 !=(0:Int))||(c13_.2.2.1 !=(0:Int)))||(c14_.2.2.1 !=(0:Int)))||(!c15_.1))then false else true)))then(bif((((((c11_.2.2.1 !=(0:Int))||(c13_.2.2.1 !=(0:Int)))||(c14_.2.2.1 !=(0:Int)))||(!c15_.1))||(!c16_.1))||(c14_.2.1 !=c13_.2.1))then(some (false,()))else bif(p470 c1_.1)then(bif(c11_.2.1 !=c12_.2.1)then(some (false,()))else g1_)else none)else none)else none)else none)else none)else none)else g1_)else none)else none)else none)else none)else none)else none)else none)else none)else none)else none
theorem bBG(x:DenS I515):run (cf [(9,⟨Pd,QT,p474,f474⟩),(26,⟨Pi,QY,p511,f511⟩),(10,⟨Pf,QV,p476,f476⟩),(27,⟨Pj,QZ,p512,f512⟩),(28,⟨K1,Ju,p336,f336⟩),(29,⟨KX,Lr,p32,f32⟩),(15,⟨Lb,LI,p473,f473⟩),(30,⟨Pk,Q0,p514,f514⟩),(31,⟨HD,HK,p67,f67⟩),(32,⟨Oa,P1,p349,f349⟩),(33,⟨Jd,JE,p74,f74⟩),(13,⟨La,LH,p470,f470⟩),(34,⟨Lc,LJ,p513,f513⟩)] []) 9 7 Tryz.f7 I515 Q1 x=pK p474 f474 p511 f511 p476 f476 p512 f512 p336 f336 p32 f32 p473 f473 p514 f514 p67 f67 p349 f349 p74 f74 p470 f470 p513 f513 x.1:=by kernel_rfl
def T515(x:DenS I515):Option (DenS Q1):=pK RG.pre RG.F RK.pre RK.F RI.pre RI.F RL.pre RL.F F6.pre F6.F F4.pre F4.F Gb.pre Gb.F RM.pre RM.F Dn.pre Dn.F Rk.pre Rk.F D6.pre D6.F Ga.pre Ga.F Gc.pre Gc.F x.1
def aRf:Sum:=Aj I515 Q1 T515 (DenS.dflt Q1)
theorem S515_sound:Sound Tryz.prog G1 7 aRf:=sd (cf [(9,RG),(26,RK),(10,RI),(27,RL),(28,F6),(29,F4),(15,Gb),(30,RM),(31,Dn),(32,Rk),(33,D6),(13,Ga),(34,Gc)] []) 7 Tryz.f7 ⟨aQ7,aRc,aQ9,aRd,aBA,aBy,aBW,aRe,fZ,aQr,rS,aBV,aBY,trivial⟩ trivial I515 Q1 T515 _ (fun _=>bBG ..)
abbrev aTx:=Ae I515
abbrev aT9:=Ad I515 Q1
variable (p515:aTx)(f515:aT9)
abbrev aA9:Aa:=[(false,.flt .f64)]
abbrev aO3:Aa:=[(false,.int .u64)]
abbrev aTy:=Ae aA9
abbrev aUa:=Ad aA9 aO3
variable (p516:aTy)(f516:aUa)
abbrev aBa:Aa:=[(true,.pair (.int .u64) (.pair (.int .u64) (.pair (.int .u64) (.pair (.int .u64) (.unit)))))]
abbrev aO4:Aa:=[(false,.bool)]
abbrev aTz:=Ae aBa
abbrev aUb:=Ad aBa aO4
variable (p517:aTz)(f517:aUb)
end Vx
end
