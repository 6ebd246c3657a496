/- Part 5 of the proof. What is proved: symbolic execution of the functions, proved sound; what each function of the program computes, and that every run ends with it; what these functions compute, in plain numbers. Conditions: each theorem bears its own. -/
import Derived.Test.YthajbkcpnbiobaaGreatDoorVxG4
set_option linter.all false
set_option exponentiation.threshold 1000000
noncomputable section
open Go.IntKind renaming wrap->aa
open Int renaming tmod->gm,toNat->ag
open List renaming replicate->aq
namespace Vx
open Go Go.Proofs
variable (p69:BY)(f69:BZ)(p66:Cd)(f66:Ce)(p65:D8)(f65:D9)(p70:DG)(f70:DH)(p98:Lk)(f98:Ln)(p119:gR)(f119:iE)(p155:Dg)(f155:Di)(p123:VN)(f123:V0)(p118:I0)(f118:I4)(p105:XV)(f105:X7)(p173:Bz)(f173:BA)(p102:Hr)(f102:Hw)(p178:I2)(f178:I6)(p92:Lj)(f92:Lm)(p185:VU)(f185:V7)(p141:VR)(f141:V4)(p143:OB)(f143:OE)(p97:OD)(f97:OG)(p107:XW)(f107:X8)(p122:Ht)(f122:Hx)(p115:gQ)(f115:iD)(p64:X3)(f64:Yf)(p315:E3)(f315:E5)(p316:X0)(f316:Yc)(p40:UG)(f40:UJ)(p144:I1)(f144:I5)(p145:XZ)(f145:Yb)(p311:rM)(f311:sB)(p312:aBL)(f312:aCB)(p313:rN)(f313:sC)(p314:aBM)(f314:aCC)
abbrev PY:Aa:=[(true,Zj)]
abbrev R1:Aa:=[(false,Zb),(false,.bool)]
abbrev IH:Pat:=⟨28,[(6,.one (.v .i64)),(2,.one (.v .u64)),(1,.one (.ptr 0 0))],[.raw [.v .u64,.v .u64]]⟩
abbrev m8:List (Nat×Shape):=[]
abbrev Oj:List (Nat×Pat):=[(0,⟨28,[(2,.one (.v .u64)),(1,.one (.ptr 0 0))],[.raw [.v .u64,.v .u64]]⟩)]
abbrev Nw:Option Pat:=none
variable (w317_2:Pat.D IH->Option (Ad Oj Nw))
def j7(p123:VN)(f123:V0)(p316:X0)(f316:Yc){R:Type}(L:Pat.D IH->Option R)(e:Ad Oj Nw->Option R)(x:Pat.D IH):Option R:=let e5_:=(aa .i64 ((63:Int)-x.1.1));let e4_:=(Ak .u64 x.1.2.1 (Bj .u64 (1:Int) e5_));let e1_:=((f316 (e4_,e4_,())).1,x.2);let e2_:=e4_;let e3_:=(aa .i64 (x.1.1+(1:Int)));bif(decide (x.1.1<(64:Int)))then(bif(decide ((0:Int)<=e5_))then(bif(p316 (e2_,e2_,()))then(bif(p123 e1_)then(bif(decide ((f123 e1_).1<=(0:Int)))then(((L ((e3_,e2_,(),()),x.2))))else(L ((e3_,x.1.2.1,(),()),x.2)))else none)else none)else none)else(e (.inl ((x.1.2.1,(),()),x.2)))
theorem bIv(d:Nat)(R:Type)(L:Pat.D IH->Option R)(e:Ad Oj Nw->Option R)(x:Pat.D IH):
  Bv (cf [(236,⟨GU,H8,p123,f123⟩),(199,⟨JW,Ks,p316,f316⟩)] [(207,2,LoopSpec.of IH m8 Oj Nw w317_2)]) (d+2) 207 (Bu Tryz.f207 2) IH m8 Oj Nw (R:=R) L e x=j7 p123 f123 p316 f316 L e x:=by kernel_rfl
theorem bBv(p123:VN)(f123:V0)(p316:X0)(f316:Yc):Bt fun L e x=>j7 p123 f123 p316 f316 L e x:=by intro _ _ _ _ _ _ _ h0 hL he _;unfold j7;repeat' (first|exact h0|exact hL _|exact he _|apply BJ|(apply BK h0;intro _)|(apply BL<;>intro _))
def aRZ(p123:VN)(f123:V0)(p316:X0)(f316:Yc)(w317_2:Pat.D IH->Option (Ad Oj Nw))(a0:Ab Zj):Option (DenS R1):=
 Vx.Bi (w317_2 (((0:Int),(0:Int),(),()),(a0.1,a0.2),())) fun y0=>
 Vx.Bg y0 (fun y1=>
 bif(p316 (y1.1.1,y1.1.1,()))then(some (y1.1.1,(((f316 (y1.1.1,y1.1.1,())).1.1==y1.2.1.1)&&((f316 (y1.1.1,y1.1.1,())).1.2.1==y1.2.1.2.1)),()))
 else none) (fun z1=>
 none)
theorem bFh(x:DenS PY):run (cf [(236,⟨GU,H8,p123,f123⟩),(199,⟨JW,Ks,p316,f316⟩)] [(207,2,LoopSpec.of IH m8 Oj Nw w317_2)]) 9 207 Tryz.f207 PY R1 x=aRZ p123 f123 p316 f316 w317_2 x.1:=by kernel_rfl
def aJk:IH.D->Option (Ad Oj Nw):=Bn fun L=>j7 EF.pre EF.F EG.pre EG.F L some
def aHV(x:DenS PY):Option (DenS R1):=aRZ EF.pre EF.F EG.pre EG.F aJk x.1
def oJ:Sum:=Aj PY R1 aHV (DenS.dflt R1)
theorem aUR:Sound Tryz.prog G1 207 oJ:=sd (cf [(236,EF),(199,EG)] [(207,2,LoopSpec.of IH m8 Oj Nw aJk)]) 207 Tryz.f207 ⟨aGy,aGL,trivial⟩ ⟨rfl,fun d=>BI (fun L e x=>j7 EF.pre EF.F EG.pre EG.F L e x) (bBv EF.pre EF.F EG.pre EG.F) (fun _ _ _ _=>bIv ..),trivial⟩ PY R1 aHV _ (fun _=>bFh ..)
abbrev aJ0:=Ag PY
abbrev aLz:=Af PY R1
variable (p317:aJ0)(f317:aLz)
abbrev PZ:Aa:=[(false,Za),(false,Za),(false,Zb)]
abbrev R2:Aa:=[(false,Zb),(false,Za),(false,Za)]
def aR0(p311:rM)(f311:sB)(p65:D8)(f65:D9)(p312:aBL)(f312:aCB)(p313:rN)(f313:sC)(p314:aBM)(f314:aCC)(p119:gR)(f119:iE)(p317:aJ0)(f317:aLz)(p122:Ht)(f122:Hx)(a0 a1:Ab Za)(a2:Ab Zb):Option (DenS R2):=let e16_:=(a0,(f311 (a0,a1,(a2::[]),())).1,a2,());let e15_:=(f313 e16_);let e14_:=((0:Int),e15_.1,());let e13_:=(e14_,());let e12_:=(aa .i64 ((126:Int)-(f314 e13_).1));let e11_:=(aa .i64 (e12_+(1:Int)));let e8_:=(e14_,e11_,());let e7_:=(f317 (f119 e8_));let e1_:=(a0,a1,false,((0:Int),e7_.1,()),(Bl .i64 (aa .i64 (e15_.2.1-e11_)) (2:Int)),(!e7_.2.1),());let e10_:=(e14_,e12_,());let e9_:=(f317 (f119 e10_));let e2_:=(a0,a1,false,((0:Int),e9_.1,()),(Bl .i64 (aa .i64 (e15_.2.1-e12_)) (2:Int)),(!e9_.2.1),());let e3_:=e8_;let e4_:=e10_;let e5_:=e13_;let e6_:=e16_;bif(p311 (a0,a1,(a2::[]),()))then(bif((f311 (a0,a1,(a2::[]),())).2.1 !=(0:Int))then(some ((0:Int),(0:Int),(f311 (a0,a1,(a2::[]),())).2))else bif(p65 (a0,a2,()))then(bif(p312 (a0,(f65 (a0,a2,())).1,()))then(bif(f312 (a0,(f65 (a0,a2,())).1,())).2.2.1 then(some ((f312 (a0,(f65 (a0,a2,())).1,())).1,(f312 (a0,(f65 (a0,a2,())).1,())).2.1,(0:Int),()))else bif((((f65 (a0,a2,())).1==(9:Int))||((f65 (a0,a2,())).1==(6:Int)))||((f65 (a0,a2,())).1==(5:Int)))then(some (a2,(0:Int),(0:Int),()))else bif(p313 e6_)then(bif(p314 e5_)then(bif((gm (aa .i64 ((f313 e6_).2.1-(aa .i64 ((126:Int)-(f314 e5_).1)))) (2:Int))!=(0:Int))then(bif(p119 e3_)then(bif(p317 (f119 e3_))then(bif(p122 e1_)then(some (f122 e1_))else none)else none)else none)else bif(p119 e4_)then(bif(p317 (f119 e4_))then(bif(p122 e2_)then(some (f122 e2_))else none)else none)else none)else none)else none)else none)else none)else none
theorem bFi(x:DenS PZ):run (cf [(58,⟨PT,RX,p311,f311⟩),(59,⟨D2,D3,p65,f65⟩),(205,⟨PU,RY,p312,f312⟩),(63,⟨PW,RZ,p313,f313⟩),(206,⟨PX,R0,p314,f314⟩),(208,⟨HU,Kk,p119,f119⟩),(207,⟨PY,R1,p317,f317⟩),(104,⟨Fh,FG,p122,f122⟩)] []) 9 163 Tryz.f163 PZ R2 x=aR0 p311 f311 p65 f65 p312 f312 p313 f313 p314 f314 p119 f119 p317 f317 p122 f122 x.1 x.2.1 x.2.2.1:=by kernel_rfl
def aHW(x:DenS PZ):Option (DenS R2):=aR0 oE.pre oE.F By.pre By.F oF.pre oF.F oG.pre oG.F oH.pre oH.F AS.pre AS.F oJ.pre oJ.F Ch.pre Ch.F x.1 x.2.1 x.2.2.1
def oK:Sum:=Aj PZ R2 aHW (DenS.dflt R2)
theorem aUS:Sound Tryz.prog G1 163 oK:=sd (cf [(58,oE),(59,By),(205,oF),(63,oG),(206,oH),(208,AS),(207,oJ),(104,Ch)] []) 163 Tryz.f163 ⟨aUN,IX,aUO,aUP,aUQ,aGx,aUR,Xk,trivial⟩ trivial PZ R2 aHW _ (fun _=>bFi ..)
abbrev aJ1:=Ag PZ
abbrev aLA:=Af PZ R2
variable (p318:aJ1)(f318:aLA)
abbrev Qm:Aa:=[(true,Zz)]
abbrev Sl:Aa:=[(false,Zb),(false,Za),(false,Za)]
def aSd(p318:aJ1)(f318:aLA)(a0:Ab Zz):Option (DenS Sl):=bif(p318 (a0.2.1,a0.1,a0.2.2.1,()))then(some (f318 (a0.2.1,a0.1,a0.2.2.1,())))else none
theorem bFM(x:DenS Qm):run (cf [(163,⟨PZ,R2,p318,f318⟩)] []) 9 162 Tryz.f162 Qm Sl x=aSd p318 f318 x.1:=by kernel_rfl
def aIc(x:DenS Qm):Option (DenS Sl):=aSd oK.pre oK.F x.1
def bJ:Sum:=Aj Qm Sl aIc (DenS.dflt Sl)
theorem aGQ:Sound Tryz.prog G1 162 bJ:=sd (cf [(163,oK)] []) 162 Tryz.f162 ⟨aUS,trivial⟩ trivial Qm Sl aIc _ (fun _=>bFM ..)
abbrev aBV:=Ag Qm
abbrev aCL:=Af Qm Sl
variable (p396:aBV)(f396:aCL)
abbrev Qn:Aa:=[(false,Za),(false,Za),(false,Ze)]
abbrev Sm:Aa:=[(false,Za)]
abbrev IN:Pat:=⟨39,[(27,.one (.v .i64)),(26,.one (.sl Zb)),(0,.one (.v .i64)),(28,.one (.v .i64))],[]⟩
abbrev nF:List (Nat×Shape):=[]
abbrev Ou:List (Nat×Pat):=[(0,⟨39,[],[]⟩)]
abbrev ND:Option Pat:=(some ⟨39,[(6,.one (.v .i64))],[]⟩)
variable (w397_7:Pat.D IN->Option (Ad Ou ND))
def kD(p69:BY)(f69:BZ)(p66:Cd)(f66:Ce){R:Type}(L:Pat.D IN->Option R)(e:Ad Ou ND->Option R)(x:Pat.D IN):Option R:=let e2_:=(x.1.2.2.1,(x.1.2.1.getD (ag x.1.2.2.2.1) (0:Int)),());let e1_:=(f66 e2_);bif(decide (x.1.2.2.2.1<x.1.1))then(bif((decide ((0:Int)<=x.1.2.2.2.1))&&(decide (x.1.2.2.2.1<(x.1.2.1.length:Int))))then(bif(p66 e2_)then(bif(e1_.1 !=(0:Int))then(((e (.inr (e1_,())))))else(L ((x.1.1,x.1.2.1,x.1.2.2.1,(aa .i64 (x.1.2.2.2.1+(1:Int))),()),())))else none)else none)else(e (.inl ((),())))
theorem bIK(d:Nat)(R:Type)(L:Pat.D IN->Option R)(e:Ad Ou ND->Option R)(x:Pat.D IN):
  Bv (cf [(71,⟨Cb,Cc,p69,f69⟩),(85,⟨Cx,Cy,p66,f66⟩)] [(209,7,LoopSpec.of IN nF Ou ND w397_7)]) (d+2) 209 (Bu Tryz.f209 7) IN nF Ou ND (R:=R) L e x=kD p69 f69 p66 f66 L e x:=by kernel_rfl
theorem bBB(p69:BY)(f69:BZ)(p66:Cd)(f66:Ce):Bt fun L e x=>kD p69 f69 p66 f66 L e x:=by intro _ _ _ _ _ _ _ h0 hL he _;unfold kD;repeat' (first|exact h0|exact hL _|exact he _|apply BJ|(apply BK h0;intro _)|(apply BL<;>intro _))
def aSe(p69:BY)(f69:BZ)(p66:Cd)(f66:Ce)(w397_7:Pat.D IN->Option (Ad Ou ND))(a0 a1:Ab Za)(a2:Ab Ze):Option (DenS Sm):=
 bif(p69 (a0,()))then(bif((f69 (a0,())).2.1 !=(0:Int))then(some (f69 (a0,())).2)
 else bif((decide (a1<(0:Int)))||(decide (a1>(5:Int))))then(some ((3:Int),()))
 else Vx.Bi (w397_7 (((a2.length:Int),a2,a0,(0:Int),()),())) fun y3=>
 Vx.Bg y3 (fun y4=>
 some ((0:Int),())) (fun z4=>
 some z4.1))
 else none
theorem bFN(x:DenS Qn):run (cf [(71,⟨Cb,Cc,p69,f69⟩),(85,⟨Cx,Cy,p66,f66⟩)] [(209,7,LoopSpec.of IN nF Ou ND w397_7)]) 9 209 Tryz.f209 Qn Sm x=aSe p69 f69 p66 f66 w397_7 x.1 x.2.1 x.2.2.1:=by kernel_rfl
def aJp:IN.D->Option (Ad Ou ND):=Bn fun L=>kD As.pre As.F Aw.pre Aw.F L some
def aId(x:DenS Qn):Option (DenS Sm):=aSe As.pre As.F Aw.pre Aw.F aJp x.1 x.2.1 x.2.2.1
def oT:Sum:=Aj Qn Sm aId (DenS.dflt Sm)
theorem aVg:Sound Tryz.prog G1 209 oT:=sd (cf [(71,As),(85,Aw)] [(209,7,LoopSpec.of IN nF Ou ND aJp)]) 209 Tryz.f209 ⟨DQ,FT,trivial⟩ ⟨rfl,fun d=>BI (fun L e x=>kD As.pre As.F Aw.pre Aw.F L e x) (bBB As.pre As.F Aw.pre Aw.F) (fun _ _ _ _=>bIK ..),trivial⟩ Qn Sm aId _ (fun _=>bFN ..)
abbrev aKg:=Ag Qn
abbrev aLP:=Af Qn Sm
variable (p397:aKg)(f397:aLP)
abbrev Mh:Aa:=[(false,Za),(false,Zb)]
abbrev MO:Aa:=[(true,ZF)]
def aSf(p65:D8)(f65:D9)(p98:Lk)(f98:Ln)(p40:UG)(f40:UJ)(a0:Ab Za)(a1:Ab Zb):Option (DenS MO):=let e1_:=(((f65 (a0,a1,())).1==(2:Int))||((f65 (a0,a1,())).1==(9:Int)));bif(p65 (a0,a1,()))then(bif(p98 (a0,a1,()))then(bif((!(decide ((f65 (a0,a1,())).1<=(1:Int))))&&(!e1_))then(bif(p40 (a0,a1,()))then(some (((decide ((f65 (a0,a1,())).1<=(1:Int))),((f65 (a0,a1,())).1==(0:Int)),false,e1_,(f98 (a0,a1,())).1,(f40 (a0,a1,())).1,()),()))else none)else some (((decide ((f65 (a0,a1,())).1<=(1:Int))),((f65 (a0,a1,())).1==(0:Int)),false,e1_,(f98 (a0,a1,())).1,(false,[],(0:Int),()),()),()))else none)else none
theorem bFO(x:DenS Mh):run (cf [(59,⟨D2,D3,p65,f65⟩),(91,⟨Fx,FK,p98,f98⟩),(203,⟨GW,Hc,p40,f40⟩)] []) 9 212 Tryz.f212 Mh MO x=aSf p65 f65 p98 f98 p40 f40 x.1 x.2.1:=by kernel_rfl
def aIe(x:DenS Mh):Option (DenS MO):=aSf By.pre By.F Ck.pre Ck.F DP.pre DP.F x.1 x.2.1
def Vs:Sum:=Aj Mh MO aIe (DenS.dflt MO)
theorem aGR:Sound Tryz.prog G1 212 Vs:=sd (cf [(59,By),(91,Ck),(203,DP)] []) 212 Tryz.f212 ⟨IX,Vy,bN,trivial⟩ trivial Mh MO aIe _ (fun _=>bFO ..)
abbrev aBW:=Ag Mh
abbrev aCM:=Af Mh MO
variable (p398:aBW)(f398:aCM)
abbrev Mn:Aa:=[(true,Zs)]
abbrev MV:Aa:=[(false,Za)]
def t47(p102:Hr)(f102:Hw)(a0:Ab Zs):Option (DenS MV):=bif(p102 (a0.2.1,()))then(bif(((f102 (a0.2.1,())).1.length:Int)==(0:Int))then(some ((0:Int),()))else bif a0.1 then(some ((-(1:Int)),()))else some ((1:Int),()))else none
theorem r47(x:DenS Mn):run (cf [(122,⟨Fw,FE,p102,f102⟩)] []) 9 240 Tryz.f240 Mn MV x=t47 p102 f102 x.1:=by kernel_rfl
def T47(x:DenS Mn):Option (DenS MV):=t47 Ci.pre Ci.F x.1
def Vw:Sum:=Aj Mn MV T47 (DenS.dflt MV)
theorem aHa:Sound Tryz.prog G1 240 Vw:=sd (cf [(122,Ci)] []) 240 Tryz.f240 ⟨bD,trivial⟩ trivial Mn MV T47 _ (fun _=>r47 ..)
abbrev Y47:=Ag Mn
abbrev Z47:=Af Mn MV
variable (p47:Y47)(f47:Z47)
abbrev L4:Aa:=[(true,Zs)]
abbrev Mx:Aa:=[(false,Za)]
def aRE(a0:Ab Zs):Option (DenS Mx):=bif(decide ((a0.2.1.length:Int)>(1024:Int)))then(some ((5:Int),()))else bif((decide (a0.2.2.1<(-(40000:Int))))||(decide (a0.2.2.1>(40000:Int))))then(some ((30:Int),()))else some ((0:Int),())
theorem bD6(x:DenS L4):run (cf [] []) 9 253 Tryz.f253 L4 Mx x=aRE x.1:=by kernel_rfl
def aHn(x:DenS L4):Option (DenS Mx):=aRE x.1
def Vq:Sum:=Aj L4 Mx aHn (DenS.dflt Mx)
theorem aGu:Sound Tryz.prog G1 253 Vq:=sd (cf [] []) 253 Tryz.f253 trivial trivial L4 Mx aHn _ (fun _=>bD6 ..)
abbrev aBB:=Ag L4
abbrev aCr:=Af L4 Mx
variable (p103:aBB)(f103:aCr)
abbrev Mv:Aa:=[(true,Zs),(true,Zs)]
abbrev M3:Aa:=[(false,Za)]
def t99(p103:aBB)(f103:aCr)(a0 a1:Ab Zs):Option (DenS M3):=bif(p103 ((a0.1,a0.2),()))then(bif((f103 ((a0.1,a0.2),())).1 !=(0:Int))then(some (f103 ((a0.1,a0.2),())))else bif(p103 ((a1.1,a1.2),()))then(some (f103 ((a1.1,a1.2),())))else none)else none
theorem r99(x:DenS Mv):run (cf [(253,⟨L4,Mx,p103,f103⟩)] []) 9 249 Tryz.f249 Mv M3 x=t99 p103 f103 x.1 x.2.1:=by kernel_rfl
def T99(x:DenS Mv):Option (DenS M3):=t99 Vq.pre Vq.F x.1 x.2.1
def Vz:Sum:=Aj Mv M3 T99 (DenS.dflt M3)
theorem aHh:Sound Tryz.prog G1 249 Vz:=sd (cf [(253,Vq)] []) 249 Tryz.f249 ⟨aGu,trivial⟩ trivial Mv M3 T99 _ (fun _=>r99 ..)
abbrev Y99:=Ag Mv
abbrev Z99:=Af Mv M3
variable (p99:Y99)(f99:Z99)
abbrev HS:Aa:=[(true,Zs)]
abbrev H6:Aa:=[(true,Zs)]
abbrev Ik:Pat:=⟨42,[(4,.one (.v .i64)),(3,.one (.sl Zb)),(1,.one (.ptr 0 0)),(2,.one (.ptr 1 0))],[.raw [.bool,.sl Zb,.v .i64],.raw [.bool,.sl Zb,.v .i64]]⟩
abbrev mB:List (Nat×Shape):=[]
abbrev NU:List (Nat×Pat):=[(0,⟨42,[(4,.one (.v .i64)),(3,.one (.sl Zb)),(1,.one (.ptr 0 0)),(2,.one (.ptr 1 0))],[.raw [.bool,.sl Zb,.v .i64],.raw [.bool,.sl Zb,.v .i64]]⟩)]
abbrev M7:Option Pat:=none
variable (w100_5:Pat.D Ik->Option (Ad NU M7))
def j2(p102:Hr)(f102:Hw)(p92:Lj)(f92:Lm)(p141:VR)(f141:V4){R:Type}(L:Pat.D Ik->Option R)(e:Ad NU M7->Option R)(x:Pat.D Ik):Option R:=bif((decide ((0:Int)<=(Bl .i64 x.1.1 (64:Int))))&&(decide ((Bl .i64 x.1.1 (64:Int))<(x.1.2.1.length:Int))))then(bif((x.1.2.1.getD (ag (Bl .i64 x.1.1 (64:Int))) (0:Int))==(0:Int))then(((L (((aa .i64 (x.1.1+(64:Int))),x.1.2.1,(),(),()),x.2))))else(e (.inl ((x.1.1,x.1.2.1,(),(),()),x.2))))else none
theorem bH7(d:Nat)(R:Type)(L:Pat.D Ik->Option R)(e:Ad NU M7->Option R)(x:Pat.D Ik):
  Bv (cf [(122,⟨Fw,FE,p102,f102⟩),(191,⟨GZ,Hf,p92,f92⟩),(103,⟨JP,Kl,p141,f141⟩)] [(252,5,LoopSpec.of Ik mB NU M7 w100_5)]) (d+2) 252 (Bu Tryz.f252 5) Ik mB NU M7 (R:=R) L e x=j2 p102 f102 p92 f92 p141 f141 L e x:=by kernel_rfl
theorem bBr(p102:Hr)(f102:Hw)(p92:Lj)(f92:Lm)(p141:VR)(f141:V4):Bt fun L e x=>j2 p102 f102 p92 f92 p141 f141 L e x:=by intro _ _ _ _ _ _ _ h0 hL he _;unfold j2;repeat' (first|exact h0|exact hL _|exact he _|apply BJ|(apply BK h0;intro _)|(apply BL<;>intro _))
def aRC(p102:Hr)(f102:Hw)(p92:Lj)(f92:Lm)(p141:VR)(f141:V4)(w100_5:Pat.D Ik->Option (Ad NU M7))(a0:Ab Zs):Option (DenS H6):=
 bif(p102 (a0.2.1,()))then(bif(((f102 (a0.2.1,())).1.length:Int)==(0:Int))then(some ((false,[],(0:Int),()),()))
 else Vx.Bi (w100_5 (((0:Int),(f102 (a0.2.1,())).1,(),(),()),(a0.1,a0.2),(false,[],(0:Int),()),())) fun y2=>
 Vx.Bg y2 (fun y3=>
 bif((decide ((0:Int)<=(Bl .i64 y3.1.1 (64:Int))))&&(decide ((Bl .i64 y3.1.1 (64:Int))<(y3.1.2.1.length:Int))))then(bif(p92 ((y3.1.2.1.getD (ag (Bl .i64 y3.1.1 (64:Int))) (0:Int)),()))then(bif(p141 (y3.1.2.1,(aa .i64 (y3.1.1+(f92 ((y3.1.2.1.getD (ag (Bl .i64 y3.1.1 (64:Int))) (0:Int)),())).1)),()))then(some ((y3.2.1.1,(f141 (y3.1.2.1,(aa .i64 (y3.1.1+(f92 ((y3.1.2.1.getD (ag (Bl .i64 y3.1.1 (64:Int))) (0:Int)),())).1)),())).1,(aa .i64 (y3.2.1.2.2.1+(aa .i64 (y3.1.1+(f92 ((y3.1.2.1.getD (ag (Bl .i64 y3.1.1 (64:Int))) (0:Int)),())).1)))),()),()))
 else none)
 else none)
 else none) (fun z3=>
 none))
 else none
theorem bD3(x:DenS HS):run (cf [(122,⟨Fw,FE,p102,f102⟩),(191,⟨GZ,Hf,p92,f92⟩),(103,⟨JP,Kl,p141,f141⟩)] [(252,5,LoopSpec.of Ik mB NU M7 w100_5)]) 9 252 Tryz.f252 HS H6 x=aRC p102 f102 p92 f92 p141 f141 w100_5 x.1:=by kernel_rfl
def aJg:Ik.D->Option (Ad NU M7):=Bn fun L=>j2 Ci.pre Ci.F Cu.pre Cu.F Fo.pre Fo.F L some
def aHj(x:DenS HS):Option (DenS H6):=aRC Ci.pre Ci.F Cu.pre Cu.F Fo.pre Fo.F aJg x.1
def Gv:Sum:=Aj HS H6 aHj (DenS.dflt H6)
theorem nZ:Sound Tryz.prog G1 252 Gv:=sd (cf [(122,Ci),(191,Cu),(103,Fo)] [(252,5,LoopSpec.of Ik mB NU M7 aJg)]) 252 Tryz.f252 ⟨bD,aBg,aGA,trivial⟩ ⟨rfl,fun d=>BI (fun L e x=>j2 Ci.pre Ci.F Cu.pre Cu.F Fo.pre Fo.F L e x) (bBr Ci.pre Ci.F Cu.pre Cu.F Fo.pre Fo.F) (fun _ _ _ _=>bH7 ..),trivial⟩ HS H6 aHj _ (fun _=>bD3 ..)
abbrev gO:=Ag HS
abbrev iB:=Af HS H6
variable (p100:gO)(f100:iB)
abbrev P1:Aa:=[(false,Ze),(false,Ze)]
abbrev R4:Aa:=[(false,Ze)]
abbrev Hi:Pat:=⟨84,[(25,.one (.v .i64)),(24,.one (.sl Zb)),(1,.one (.sl Zb)),(26,.one (.v .i64)),(5,.one (.own 0))],[.arr Zb]⟩
abbrev aQ:List (Nat×Shape):=[]
abbrev La:List (Nat×Pat):=[(0,⟨84,[(5,.one (.own 0))],[.arr Zb]⟩)]
abbrev KO:Option Pat:=none
abbrev FL:Pat:=⟨84,[(32,.one (.v .i64)),(31,.one (.sl Zb)),(7,.one (.v .u64)),(33,.one (.v .i64)),(6,.one (.v .i64)),(8,.one (.v .u64)),(26,.one (.v .i64)),(25,.one (.v .i64)),(24,.one (.sl Zb)),(1,.one (.sl Zb)),(5,.one (.own 0))],[.arr Zb]⟩
abbrev aR:List (Nat×Shape):=[]
abbrev Hp:List (Nat×Pat):=[(2,⟨84,[(6,.one (.v .i64)),(8,.one (.v .u64)),(26,.one (.v .i64)),(25,.one (.v .i64)),(24,.one (.sl Zb)),(1,.one (.sl Zb)),(5,.one (.own 0))],[.arr Zb]⟩)]
abbrev Hn:Option Pat:=none
variable (w324_4:Pat.D Hi->Option (Ad La KO))(w324_8:Pat.D FL->Option (Ad Hp Hn))
def j9(p315:E3)(f315:E5)(p155:Dg)(f155:Di)(p173:Bz)(f173:BA){R:Type}(L:Pat.D FL->Option R)(e:Ad Hp Hn->Option R)(x:Pat.D FL):Option R:=let e10_:=(x.1.2.2.1,(x.1.2.1.getD (ag x.1.2.2.2.1) (0:Int)),());let e8_:=(f315 e10_);let e11_:=(aa .i64 (x.1.2.2.2.2.1+x.1.2.2.2.1));let e9_:=(ag e11_);let e7_:=(f155 (e8_.2.1,(x.2.1.getD e9_ (0:Int)),(0:Int),()));let e1_:=(f155 (e7_.1,x.1.2.2.2.2.2.1,(0:Int),()));let e2_:=e7_;let e3_:=((decide ((0:Int)<=e11_))&&(decide (e11_<(x.2.1.length:Int))));let e4_:=(x.1.2.2.2.2.2.2.1,x.1.2.2.2.2.2.2.2.1,x.1.2.2.2.2.2.2.2.2.1,x.1.2.2.2.2.2.2.2.2.2.1,(),());let e5_:=e8_;let e6_:=e9_;bif(decide (x.1.2.2.2.1<x.1.1))then(bif((decide ((0:Int)<=x.1.2.2.2.1))&&(decide (x.1.2.2.2.1<(x.1.2.1.length:Int))))then(bif(p315 e10_)then(bif e3_ then(bif(p155 (e5_.2.1,(x.2.1.getD e6_ (0:Int)),(0:Int),()))then(bif(p155 (e2_.1,x.1.2.2.2.2.2.1,(0:Int),()))then(bif e3_ then(((L ((x.1.1,x.1.2.1,x.1.2.2.1,(aa .i64 (x.1.2.2.2.1+(1:Int))),x.1.2.2.2.2.1,(aa .u64 ((aa .u64 (e5_.1+e2_.2.1))+e1_.2.1)),e4_),(x.2.1.set e6_ e1_.1),()))))else none)else none)else none)else none)else none)else none)else(e (.inl ((x.1.2.2.2.2.1,x.1.2.2.2.2.2.1,e4_),x.2)))
theorem bIx(d:Nat)(R:Type)(L:Pat.D FL->Option R)(e:Ad Hp Hn->Option R)(x:Pat.D FL):
  Bv (cf [(120,⟨EQ,EU,p315,f315⟩),(94,⟨Fi,FH,p155,f155⟩),(93,⟨BW,BX,p173,f173⟩)] [(102,4,LoopSpec.of Hi aQ La KO w324_4),(102,8,LoopSpec.of FL aR Hp Hn w324_8)]) (d+2) 102 (Bu Tryz.f102 8) FL aR Hp Hn (R:=R) L e x=j9 p315 f315 p155 f155 p173 f173 L e x:=by kernel_rfl
theorem bBx(p315:E3)(f315:E5)(p155:Dg)(f155:Di)(p173:Bz)(f173:BA):Bt fun L e x=>j9 p315 f315 p155 f155 p173 f173 L e x:=by intro _ _ _ _ _ _ _ h0 hL he _;unfold j9;repeat' (first|exact h0|exact hL _|exact he _|apply BJ|(apply BK h0;intro _)|(apply BL<;>intro _))
def j8(p315:E3)(f315:E5)(p155:Dg)(f155:Di)(p173:Bz)(f173:BA)(w324_8:Pat.D FL->Option (Ad Hp Hn)){R:Type}(L:Pat.D Hi->Option R)(e:Ad La KO->Option R)(x:Pat.D Hi):Option R:=
 bif(decide (x.1.2.2.2.1<x.1.1))then(bif((decide ((0:Int)<=x.1.2.2.2.1))&&(decide (x.1.2.2.2.1<(x.1.2.1.length:Int))))then(Vx.Bi (w324_8 (((x.1.2.2.1.length:Int),x.1.2.2.1,(x.1.2.1.getD (ag x.1.2.2.2.1) (0:Int)),(0:Int),x.1.2.2.2.1,(0:Int),x.1.2.2.2.1,x.1.1,x.1.2.1,x.1.2.2.1,(),()),x.2)) fun y2=>
 Vx.Bg y2 (fun y3=>
 bif((decide ((0:Int)<=(aa .i64 (y3.1.1+(y3.1.2.2.2.2.2.1.length:Int)))))&&(decide ((aa .i64 (y3.1.1+(y3.1.2.2.2.2.2.1.length:Int)))<(y3.2.1.length:Int))))then(((L ((y3.1.2.2.2.1,y3.1.2.2.2.2.1,y3.1.2.2.2.2.2.1,(aa .i64 (y3.1.2.2.1+(1:Int))),(),()),(y3.2.1.set (ag (aa .i64 (y3.1.1+(y3.1.2.2.2.2.2.1.length:Int)))) y3.1.2.1),()))))
 else none) (fun z3=>
 none))
 else none)
 else(e (.inl (((),()),x.2)))
theorem bIw(d:Nat)(R:Type)(L:Pat.D Hi->Option R)(e:Ad La KO->Option R)(x:Pat.D Hi):
  Bv (cf [(120,⟨EQ,EU,p315,f315⟩),(94,⟨Fi,FH,p155,f155⟩),(93,⟨BW,BX,p173,f173⟩)] [(102,4,LoopSpec.of Hi aQ La KO w324_4),(102,8,LoopSpec.of FL aR Hp Hn w324_8)]) (d+2) 102 (Bu Tryz.f102 4) Hi aQ La KO (R:=R) L e x=j8 p315 f315 p155 f155 p173 f173 w324_8 L e x:=by kernel_rfl
theorem bBw(p315:E3)(f315:E5)(p155:Dg)(f155:Di)(p173:Bz)(f173:BA)(w324_8:Pat.D FL->Option (Ad Hp Hn)):Bt fun L e x=>j8 p315 f315 p155 f155 p173 f173 w324_8 L e x:=by intro _ _ _ _ _ _ _ h0 hL he _;unfold j8;repeat' (first|exact h0|exact hL _|exact he _|apply BJ|(apply BK h0;intro _)|(apply BL<;>intro _))
def aR1(p315:E3)(f315:E5)(p155:Dg)(f155:Di)(p173:Bz)(f173:BA)(w324_4:Pat.D Hi->Option (Ad La KO))(w324_8:Pat.D FL->Option (Ad Hp Hn))(a0 a1:Ab Ze):Option (DenS R4):=
 let e1_:=(aa .i64 (((f173 (a0,())).1.length:Int)+((f173 (a1,())).1.length:Int)))
 bif(p173 (a0,()))then(bif(p173 (a1,()))then(bif((decide ((0:Int)<=e1_))&&(decide ((e1_*(8:Int))<=(140737488355328:Int))))then(Vx.Bi (w324_4 ((((f173 (a0,())).1.length:Int),(f173 (a0,())).1,(f173 (a1,())).1,(0:Int),(),()),(aq (ag e1_) (0:Int)),())) fun y3=>
 Vx.Bg y3 (fun y4=>
 bif(p173 y4.2)then(some (f173 y4.2))
 else none) (fun z4=>
 none))
 else none)
 else none)
 else none
theorem bFk(x:DenS P1):run (cf [(120,⟨EQ,EU,p315,f315⟩),(94,⟨Fi,FH,p155,f155⟩),(93,⟨BW,BX,p173,f173⟩)] [(102,4,LoopSpec.of Hi aQ La KO w324_4),(102,8,LoopSpec.of FL aR Hp Hn w324_8)]) 9 102 Tryz.f102 P1 R4 x=aR1 p315 f315 p155 f155 p173 f173 w324_4 w324_8 x.1 x.2.1:=by kernel_rfl
def gJ:FL.D->Option (Ad Hp Hn):=Bn fun L=>j9 Bo.pre Bo.F AC.pre AC.F Am.pre Am.F L some
def aJl:Hi.D->Option (Ad La KO):=Bn fun L=>j8 Bo.pre Bo.F AC.pre AC.F Am.pre Am.F gJ L some
def aHX(x:DenS P1):Option (DenS R4):=aR1 Bo.pre Bo.F AC.pre AC.F Am.pre Am.F aJl gJ x.1 x.2.1
def oL:Sum:=Aj P1 R4 aHX (DenS.dflt R4)
theorem aUT:Sound Tryz.prog G1 102 oL:=sd (cf [(120,Bo),(94,AC),(93,Am)] [(102,4,LoopSpec.of Hi aQ La KO aJl),(102,8,LoopSpec.of FL aR Hp Hn gJ)]) 102 Tryz.f102 ⟨oI,Xo,Ep,trivial⟩ ⟨rfl,fun d=>BI (fun L e x=>j8 Bo.pre Bo.F AC.pre AC.F Am.pre Am.F gJ L e x) (bBw Bo.pre Bo.F AC.pre AC.F Am.pre Am.F gJ) (fun _ _ _ _=>bIw ..),⟨rfl,fun d=>BI (fun L e x=>j9 Bo.pre Bo.F AC.pre AC.F Am.pre Am.F L e x) (bBx Bo.pre Bo.F AC.pre AC.F Am.pre Am.F) (fun _ _ _ _=>bIx ..),trivial⟩⟩ P1 R4 aHX _ (fun _=>bFk ..)
abbrev aBO:=Ag P1
abbrev aCE:=Af P1 R4
variable (p324:aBO)(f324:aCE)
abbrev P3:Aa:=[(false,Ze),(false,Ze)]
abbrev R6:Aa:=[(false,Ze),(false,Za)]
def aR2(p324:aBO)(f324:aCE)(p185:VU)(f185:V7)(a0 a1:Ab Ze):Option (DenS R6):=bif(p185 ((a0::(a1::[])),()))then(bif(f185 ((a0::(a1::[])),())).1 then(some ([],(5:Int),()))else bif(p324 (a0,a1,()))then(bif(p185 (((f324 (a0,a1,())).1::[]),()))then(bif(f185 (((f324 (a0,a1,())).1::[]),())).1 then(some ([],(5:Int),()))else some ((f324 (a0,a1,())).1,(0:Int),()))else none)else none)else none
theorem bFl(x:DenS P3):run (cf [(102,⟨P1,R4,p324,f324⟩),(96,⟨JU,Kq,p185,f185⟩)] []) 9 95 Tryz.f95 P3 R6 x=aR2 p324 f324 p185 f185 x.1 x.2.1:=by kernel_rfl
def aHY(x:DenS P3):Option (DenS R6):=aR2 oL.pre oL.F EY.pre EY.F x.1 x.2.1
def oM:Sum:=Aj P3 R6 aHY (DenS.dflt R6)
theorem aUU:Sound Tryz.prog G1 95 oM:=sd (cf [(102,oL),(96,EY)] []) 95 Tryz.f95 ⟨aUT,aAW,trivial⟩ trivial P3 R6 aHY _ (fun _=>bFl ..)
abbrev aBP:=Ag P3
abbrev aCF:=Af P3 R6
variable (p325:aBP)(f325:aCF)
abbrev JG:Aa:=[(true,Zs)]
abbrev Ke:Aa:=[(true,Zs),(false,Za)]
def aRF(p100:gO)(f100:iB)(a0:Ab Zs):Option (DenS Ke):=bif(p100 ((a0.1,a0.2),()))then(bif(decide (((f100 ((a0.1,a0.2),())).1.2.1.length:Int)>(1024:Int)))then(some ((false,[],(0:Int),()),(5:Int),()))else bif((decide ((f100 ((a0.1,a0.2),())).1.2.2.1<(-(40000:Int))))||(decide ((f100 ((a0.1,a0.2),())).1.2.2.1>(40000:Int))))then(some ((false,[],(0:Int),()),(30:Int),()))else some ((f100 ((a0.1,a0.2),())).1,(0:Int),()))else none
theorem bD7(x:DenS JG):run (cf [(252,⟨HS,H6,p100,f100⟩)] []) 9 250 Tryz.f250 JG Ke x=aRF p100 f100 x.1:=by kernel_rfl
def aHo(x:DenS JG):Option (DenS Ke):=aRF Gv.pre Gv.F x.1
def KY:Sum:=Aj JG Ke aHo (DenS.dflt Ke)
theorem aAI:Sound Tryz.prog G1 250 KY:=sd (cf [(252,Gv)] []) 250 Tryz.f250 ⟨nZ,trivial⟩ trivial JG Ke aHo _ (fun _=>bD7 ..)
abbrev rF:=Ag JG
abbrev rZ:=Af JG Ke
variable (p104:rF)(f104:rZ)
abbrev Qa:Aa:=[(true,Zs),(true,Zs)]
abbrev Sd:Aa:=[(true,Zs),(false,Za)]
def aR7(p99:Y99)(f99:Z99)(p100:gO)(f100:iB)(p325:aBP)(f325:aCF)(p104:rF)(f104:rZ)(a0 a1:Ab Zs):Option (DenS Sd):=let e4_:=((f100 ((a0.1,a0.2),())).1.2.1,(f100 ((a1.1,a1.2),())).1.2.1,());let e3_:=(f325 e4_);let e1_:=(((!((f100 ((a0.1,a0.2),())).1.1==(f100 ((a1.1,a1.2),())).1.1)),e3_.1,(aa .i64 ((f100 ((a0.1,a0.2),())).1.2.2.1+(f100 ((a1.1,a1.2),())).1.2.2.1)),()),());let e2_:=e3_;bif(p99 ((a0.1,a0.2),(a1.1,a1.2),()))then(bif((f99 ((a0.1,a0.2),(a1.1,a1.2),())).1 !=(0:Int))then(some ((false,[],(0:Int),()),(f99 ((a0.1,a0.2),(a1.1,a1.2),()))))else bif(p100 ((a0.1,a0.2),()))then(bif(p100 ((a1.1,a1.2),()))then(bif(p325 e4_)then(bif(e2_.2.1 !=(0:Int))then(some ((false,[],(0:Int),()),e2_.2))else bif(p104 e1_)then(some (f104 e1_))else none)else none)else none)else none)else none
theorem bFz(x:DenS Qa):run (cf [(249,⟨Mv,M3,p99,f99⟩),(252,⟨HS,H6,p100,f100⟩),(95,⟨P3,R6,p325,f325⟩),(250,⟨JG,Ke,p104,f104⟩)] []) 9 241 Tryz.f241 Qa Sd x=aR7 p99 f99 p100 f100 p325 f325 p104 f104 x.1 x.2.1:=by kernel_rfl
def aH4(x:DenS Qa):Option (DenS Sd):=aR7 Vz.pre Vz.F Gv.pre Gv.F oM.pre oM.F KY.pre KY.F x.1 x.2.1
def oO:Sum:=Aj Qa Sd aH4 (DenS.dflt Sd)
theorem aU6:Sound Tryz.prog G1 241 oO:=sd (cf [(249,Vz),(252,Gv),(95,oM),(250,KY)] []) 241 Tryz.f241 ⟨aHh,nZ,aUU,aAI,trivial⟩ trivial Qa Sd aH4 _ (fun _=>bFz ..)
abbrev aJ6:=Ag Qa
abbrev aLF:=Af Qa Sd
variable (p360:aJ6)(f360:aLF)
abbrev Qo:Aa:=[(false,Za),(false,Zb),(false,Zb)]
abbrev Sn:Aa:=[(true,ZF)]
def aSg(p398:aBW)(f398:aCM)(p47:Y47)(f47:Z47)(p360:aJ6)(f360:aLF)(a0:Ab Za)(a1 a2:Ab Zb):Option (DenS Sn):=let e7_:=(((f398 (a0,a1,())).1.2.2.2.1&&(!(f398 (a0,a2,())).1.2.2.2.1))&&((f47 (f398 (a0,a2,())).1.2.2.2.2.2).1==(0:Int)));let e1_:=(e7_||(((f398 (a0,a2,())).1.2.2.2.1&&(!(f398 (a0,a1,())).1.2.2.2.1))&&((f47 (f398 (a0,a1,())).1.2.2.2.2.2).1==(0:Int))));let e8_:=(!((f398 (a0,a1,())).1.2.2.2.2.1==(f398 (a0,a2,())).1.2.2.2.2.1));let e2_:=(e8_,(false,[],(0:Int),()),());let e3_:=((f398 (a0,a1,())).1.2.2.2.2.2.1,(f398 (a0,a2,())).1.2.2.2.2.2);let e4_:=((f398 (a0,a1,())).1.2.2.2.1||(f398 (a0,a2,())).1.2.2.2.1);let e5_:=((f398 (a0,a1,())).1.2.1||(f398 (a0,a2,())).1.2.1);let e6_:=((f398 (a0,a1,())).1.1||(f398 (a0,a2,())).1.1);bif(p398 (a0,a1,()))then(bif(p398 (a0,a2,()))then(bif e6_ then(some ((e6_,e5_,false,false,e2_),()))else bif((p47 (f398 (a0,a2,())).1.2.2.2.2.2)||(!(bif(f398 (a0,a1,())).1.2.2.2.1 then(!(f398 (a0,a2,())).1.2.2.2.1)else false)))then(bif((p47 (f398 (a0,a1,())).1.2.2.2.2.2)||(!((bif e7_ then false else true)&&(bif(f398 (a0,a2,())).1.2.2.2.1 then(!(f398 (a0,a1,())).1.2.2.2.1)else false))))then(bif(!e4_)then(bif(p360 e3_)then(some ((e6_,e5_,e1_,e4_,e8_,(f360 e3_).1,()),()))else none)else some ((e6_,e5_,e1_,e4_,e2_),()))else none)else none)else none)else none
theorem bFP(x:DenS Qo):run (cf [(212,⟨Mh,MO,p398,f398⟩),(240,⟨Mn,MV,p47,f47⟩),(241,⟨Qa,Sd,p360,f360⟩)] []) 9 211 Tryz.f211 Qo Sn x=aSg p398 f398 p47 f47 p360 f360 x.1 x.2.1 x.2.2.1:=by kernel_rfl
def aIf(x:DenS Qo):Option (DenS Sn):=aSg Vs.pre Vs.F Vw.pre Vw.F oO.pre oO.F x.1 x.2.1 x.2.2.1
def oU:Sum:=Aj Qo Sn aIf (DenS.dflt Sn)
theorem aVh:Sound Tryz.prog G1 211 oU:=sd (cf [(212,Vs),(240,Vw),(241,oO)] []) 211 Tryz.f211 ⟨aGR,aHa,aU6,trivial⟩ trivial Qo Sn aIf _ (fun _=>bFP ..)
abbrev aKh:=Ag Qo
abbrev aLQ:=Af Qo Sn
variable (p399:aKh)(f399:aLQ)
abbrev PJ:Aa:=[(false,Ze),(false,Za)]
abbrev RN:Aa:=[(false,Ze)]
abbrev Iz:Pat:=⟨57,[(25,.one (.v .i64)),(24,.one (.sl Zb)),(5,.one (.v .i64)),(6,.one (.v .u64)),(26,.one (.v .i64)),(7,.one (.own 0))],[.arr Zb]⟩
abbrev mS:List (Nat×Shape):=[]
abbrev Ob:List (Nat×Pat):=[(0,⟨57,[(7,.one (.own 0))],[.arr Zb]⟩)]
abbrev No:Option Pat:=none
variable (w172_6:Pat.D Iz->Option (Ad Ob No))
def j3(p102:Hr)(f102:Hw){R:Type}(L:Pat.D Iz->Option R)(e:Ad Ob No->Option R)(x:Pat.D Iz):Option R:=let e6_:=(aa .i64 (x.1.2.2.1+x.1.2.2.2.2.1));let e5_:=(ag e6_);let e7_:=(x.1.2.1.getD (ag x.1.2.2.2.2.1) (0:Int));let e1_:=(x.2.1.set e5_ (Ak .u64 (x.2.1.getD e5_ (0:Int)) (Bj .u64 e7_ x.1.2.2.2.1)));let e2_:=((decide ((0:Int)<=e6_))&&(decide (e6_<(x.2.1.length:Int))));let e3_:=(x.1.1,x.1.2.1,x.1.2.2.1,x.1.2.2.2.1,(aa .i64 (x.1.2.2.2.2.1+(1:Int))),(),());let e4_:=(aa .i64 (e6_+(1:Int)));bif(decide (x.1.2.2.2.2.1<x.1.1))then(bif((decide ((0:Int)<=x.1.2.2.2.2.1))&&(decide (x.1.2.2.2.2.1<(x.1.2.1.length:Int))))then(bif e2_ then(bif e2_ then(bif(decide (x.1.2.2.2.1>(0:Int)))then(bif((decide ((0:Int)<=e4_))&&(decide (e4_<(e1_.length:Int))))then(((L (e3_,(e1_.set (ag e4_) (AQ .u64 e7_ (aa .u64 ((64:Int)-x.1.2.2.2.1)))),()))))else none)else(L (e3_,e1_,())))else none)else none)else none)else(e (.inl (((),()),x.2)))
theorem bIn(d:Nat)(R:Type)(L:Pat.D Iz->Option R)(e:Ad Ob No->Option R)(x:Pat.D Iz):
  Bv (cf [(122,⟨Fw,FE,p102,f102⟩)] [(256,6,LoopSpec.of Iz mS Ob No w172_6)]) (d+2) 256 (Bu Tryz.f256 6) Iz mS Ob No (R:=R) L e x=j3 p102 f102 L e x:=by kernel_rfl
theorem bBs(p102:Hr)(f102:Hw):Bt fun L e x=>j3 p102 f102 L e x:=by intro _ _ _ _ _ _ _ h0 hL he _;unfold j3;repeat' (first|exact h0|exact hL _|exact he _|apply BJ|(apply BK h0;intro _)|(apply BL<;>intro _))
def aRQ(p102:Hr)(f102:Hw)(w172_6:Pat.D Iz->Option (Ad Ob No))(a0:Ab Ze)(a1:Ab Za):Option (DenS RN):=
 let e1_:=(aa .i64 ((aa .i64 ((Bl .i64 a1 (64:Int))+(a0.length:Int)))+(1:Int)))
 bif((a0.length:Int)==(0:Int))then(some ([],()))
 else bif((decide ((0:Int)<=e1_))&&(decide ((e1_*(8:Int))<=(140737488355328:Int))))then(Vx.Bi (w172_6 (((a0.length:Int),a0,(Bl .i64 a1 (64:Int)),(aa .u64 (gm a1 (64:Int))),(0:Int),(),()),(aq (ag e1_) (0:Int)),())) fun y2=>
 Vx.Bg y2 (fun y3=>
 bif(p102 y3.2)then(some (f102 y3.2))
 else none) (fun z3=>
 none))
 else none
theorem bET(x:DenS PJ):run (cf [(122,⟨Fw,FE,p102,f102⟩)] [(256,6,LoopSpec.of Iz mS Ob No w172_6)]) 9 256 Tryz.f256 PJ RN x=aRQ p102 f102 w172_6 x.1 x.2.1:=by kernel_rfl
def aJh:Iz.D->Option (Ad Ob No):=Bn fun L=>j3 Ci.pre Ci.F L some
def aHJ(x:DenS PJ):Option (DenS RN):=aRQ Ci.pre Ci.F aJh x.1 x.2.1
def oC:Sum:=Aj PJ RN aHJ (DenS.dflt RN)
theorem aUE:Sound Tryz.prog G1 256 oC:=sd (cf [(122,Ci)] [(256,6,LoopSpec.of Iz mS Ob No aJh)]) 256 Tryz.f256 ⟨bD,trivial⟩ ⟨rfl,fun d=>BI (fun L e x=>j3 Ci.pre Ci.F L e x) (bBs Ci.pre Ci.F) (fun _ _ _ _=>bIn ..),trivial⟩ PJ RN aHJ _ (fun _=>bET ..)
abbrev aJR:=Ag PJ
abbrev aLq:=Af PJ RN
variable (p172:aJR)(f172:aLq)
abbrev Py:Aa:=[(true,Zs),(true,Zs)]
abbrev RC:Aa:=[(false,Ze),(false,Ze),(false,Za)]
def aRO(p172:aJR)(f172:aLq)(a0 a1:Ab Zs):Option (DenS RC):=let e3_:=(if(a1.2.2.1<a0.2.2.1)then a1.2.2.1 else a0.2.2.1);let e1_:=(a0.2.1,(aa .i64 (a0.2.2.1-e3_)),());let e2_:=(a1.2.1,(aa .i64 (a1.2.2.1-e3_)),());bif(p172 e1_)then(bif(p172 e2_)then(some ((f172 e1_).1,(f172 e2_).1,e3_,()))else none)else none
theorem bEA(x:DenS Py):run (cf [(256,⟨PJ,RN,p172,f172⟩)] []) 9 255 Tryz.f255 Py RC x=aRO p172 f172 x.1 x.2.1:=by kernel_rfl
def aHC(x:DenS Py):Option (DenS RC):=aRO oC.pre oC.F x.1 x.2.1
def n8:Sum:=Aj Py RC aHC (DenS.dflt RC)
theorem aUu:Sound Tryz.prog G1 255 n8:=sd (cf [(256,oC)] []) 255 Tryz.f255 ⟨aUE,trivial⟩ trivial Py RC aHC _ (fun _=>bEA ..)
abbrev aJI:=Ag Py
abbrev aLh:=Af Py RC
variable (p142:aJI)(f142:aLh)
abbrev Pr:Aa:=[(true,Zs),(true,Zs)]
abbrev Rv:Aa:=[(true,Zs)]
def aRD(p142:aJI)(f142:aLh)(p143:OB)(f143:OE)(p144:I1)(f144:I5)(p145:XZ)(f145:Yb)(p100:gO)(f100:iB)(a0 a1:Ab Zs):Option (DenS Rv):=let e5_:=((f142 ((a0.1,a0.2),(a1.1,a1.2),())).1,(f142 ((a0.1,a0.2),(a1.1,a1.2),())).2.1,());let e1_:=((a0.1,(f143 e5_).1,(f142 ((a0.1,a0.2),(a1.1,a1.2),())).2.2),());let e6_:=((f142 ((a0.1,a0.2),(a1.1,a1.2),())).2.1,(f142 ((a0.1,a0.2),(a1.1,a1.2),())).1,());let e2_:=((a1.1,(f145 e6_).1,(f142 ((a0.1,a0.2),(a1.1,a1.2),())).2.2),());let e3_:=((a0.1,(f145 e5_).1,(f142 ((a0.1,a0.2),(a1.1,a1.2),())).2.2),());let e4_:=e5_;bif((a0.2.1.length:Int)==(0:Int))then(some ((a1.1,a1.2),()))else bif((a1.2.1.length:Int)==(0:Int))then(some ((a0.1,a0.2),()))else bif(p142 ((a0.1,a0.2),(a1.1,a1.2),()))then(bif(a0.1==a1.1)then(bif(p143 e4_)then(bif(p100 e1_)then(some (f100 e1_))else none)else none)else bif(p144 e4_)then(bif(decide ((f144 e4_).1<(0:Int)))then(bif(p145 e6_)then(bif(p100 e2_)then(some (f100 e2_))else none)else none)else bif(p145 e4_)then(bif(p100 e3_)then(some (f100 e3_))else none)else none)else none)else none
theorem bD4(x:DenS Pr):run (cf [(255,⟨Py,RC,p142,f142⟩),(65,⟨H0,Ha,p143,f143⟩),(101,⟨Ge,Gl,p144,f144⟩),(248,⟨JQ,Km,p145,f145⟩),(252,⟨HS,H6,p100,f100⟩)] []) 9 251 Tryz.f251 Pr Rv x=aRD p142 f142 p143 f143 p144 f144 p145 f145 p100 f100 x.1 x.2.1:=by kernel_rfl
def aHk(x:DenS Pr):Option (DenS Rv):=aRD n8.pre n8.F Dr.pre Dr.F B5.pre B5.F D5.pre D5.F Gv.pre Gv.F x.1 x.2.1
def n0:Sum:=Aj Pr Rv aHk (DenS.dflt Rv)
theorem aUk:Sound Tryz.prog G1 251 n0:=sd (cf [(255,n8),(65,Dr),(101,B5),(248,D5),(252,Gv)] []) 251 Tryz.f251 ⟨aUu,aAS,n9,aGB,nZ,trivial⟩ trivial Pr Rv aHk _ (fun _=>bD4 ..)
abbrev aJB:=Ag Pr
abbrev aLa:=Af Pr Rv
variable (p101:aJB)(f101:aLa)
abbrev Rf:Aa:=[(true,Zs),(true,Zs)]
abbrev Ti:Aa:=[(true,Zs),(false,Za)]
def t49(p99:Y99)(f99:Z99)(p100:gO)(f100:iB)(p101:aJB)(f101:aLa)(p104:rF)(f104:rZ)(a0 a1:Ab Zs):Option (DenS Ti):=let e2_:=((f100 ((a0.1,a0.2),())).1,(f100 ((a1.1,a1.2),())));let e1_:=(f101 e2_);bif(p99 ((a0.1,a0.2),(a1.1,a1.2),()))then(bif((f99 ((a0.1,a0.2),(a1.1,a1.2),())).1 !=(0:Int))then(some ((false,[],(0:Int),()),(f99 ((a0.1,a0.2),(a1.1,a1.2),()))))else bif(p100 ((a0.1,a0.2),()))then(bif(p100 ((a1.1,a1.2),()))then(bif(p101 e2_)then(bif(p104 e1_)then(some (f104 e1_))else none)else none)else none)else none)else none
theorem r49(x:DenS Rf):run (cf [(249,⟨Mv,M3,p99,f99⟩),(252,⟨HS,H6,p100,f100⟩),(251,⟨Pr,Rv,p101,f101⟩),(250,⟨JG,Ke,p104,f104⟩)] []) 9 239 Tryz.f239 Rf Ti x=t49 p99 f99 p100 f100 p101 f101 p104 f104 x.1 x.2.1:=by kernel_rfl
def T49(x:DenS Rf):Option (DenS Ti):=t49 Vz.pre Vz.F Gv.pre Gv.F n0.pre n0.F KY.pre KY.F x.1 x.2.1
def pJ:Sum:=Aj Rf Ti T49 (DenS.dflt Ti)
theorem aVZ:Sound Tryz.prog G1 239 pJ:=sd (cf [(249,Vz),(252,Gv),(251,n0),(250,KY)] []) 239 Tryz.f239 ⟨aHh,nZ,aUk,aAI,trivial⟩ trivial Rf Ti T49 _ (fun _=>r49 ..)
abbrev Y49:=Ag Rf
abbrev Z49:=Af Rf Ti
variable (p49:Y49)(f49:Z49)
abbrev Ps:Aa:=[(true,Zs)]
abbrev Rw:Aa:=[(true,Zs),(false,Za)]
def aRG(p103:aBB)(f103:aCr)(p104:rF)(f104:rZ)(a0:Ab Zs):Option (DenS Rw):=bif(p103 ((a0.1,a0.2),()))then(bif((f103 ((a0.1,a0.2),())).1 !=(0:Int))then(some ((false,[],(0:Int),()),(f103 ((a0.1,a0.2),()))))else bif(p104 ((a0.1,a0.2),()))then(some (f104 ((a0.1,a0.2),())))else none)else none
theorem bD9(x:DenS Ps):run (cf [(253,⟨L4,Mx,p103,f103⟩),(250,⟨JG,Ke,p104,f104⟩)] []) 9 246 Tryz.f246 Ps Rw x=aRG p103 f103 p104 f104 x.1:=by kernel_rfl
def aHq(x:DenS Ps):Option (DenS Rw):=aRG Vq.pre Vq.F KY.pre KY.F x.1
def n4:Sum:=Aj Ps Rw aHq (DenS.dflt Rw)
theorem aUl:Sound Tryz.prog G1 246 n4:=sd (cf [(253,Vq),(250,KY)] []) 246 Tryz.f246 ⟨aGu,aAI,trivial⟩ trivial Ps Rw aHq _ (fun _=>bD9 ..)
abbrev aJC:=Ag Ps
abbrev aLb:=Af Ps Rw
variable (p106:aJC)(f106:aLb)
abbrev J5:Aa:=[(false,Za),(false,Za),(true,Zs)]
abbrev KE:Aa:=[(false,Zb),(false,Za),(false,Za)]
def t51(p105:XV)(f105:X7)(p106:aJC)(f106:aLb)(p107:XW)(f107:X8)(a0 a1:Ab Za)(a2:Ab Zs):Option (DenS KE):=let e2_:=(((f106 ((a2.1,a2.2),())).1.1,(f106 ((a2.1,a2.2),())).1.2.1,(f106 ((a2.1,a2.2),())).1.2.2.1,false,()),a0,(f105 (a0,a1,())).1,a1,());let e1_:=(f107 e2_);bif(p105 (a0,a1,()))then(bif((f105 (a0,a1,())).2.1 !=(0:Int))then(some ((0:Int),(0:Int),(f105 (a0,a1,())).2))else bif(p106 ((a2.1,a2.2),()))then(bif((f106 ((a2.1,a2.2),())).2.1 !=(0:Int))then(some ((0:Int),(0:Int),(f106 ((a2.1,a2.2),())).2))else bif(((f106 ((a2.1,a2.2),())).1.2.1.length:Int)==(0:Int))then(some ((0:Int),(0:Int),(0:Int),()))else bif(p107 e2_)then(some (e1_.1,e1_.2.1,(0:Int),()))else none)else none)else none
theorem r51(x:DenS J5):run (cf [(121,⟨JH,Kf,p105,f105⟩),(246,⟨Ps,Rw,p106,f106⟩),(124,⟨JI,Kg,p107,f107⟩)] []) 9 231 Tryz.f231 J5 KE x=t51 p105 f105 p106 f106 p107 f107 x.1 x.2.1 x.2.2.1:=by kernel_rfl
def T51(x:DenS J5):Option (DenS KE):=t51 FN.pre FN.F n4.pre n4.F FO.pre FO.F x.1 x.2.1 x.2.2.1
def K3:Sum:=Aj J5 KE T51 (DenS.dflt KE)
theorem aA8:Sound Tryz.prog G1 231 K3:=sd (cf [(121,FN),(246,n4),(124,FO)] []) 231 Tryz.f231 ⟨aAJ,aUl,aAK,trivial⟩ trivial J5 KE T51 _ (fun _=>r51 ..)
abbrev rX:=Ag J5
abbrev sN:=Af J5 KE
variable (p51:rX)(f51:sN)
abbrev Qp:Aa:=[(false,Za),(false,Za),(true,ZF),(true,ZF)]
abbrev So:Aa:=[(false,Zb),(false,Za),(false,Za)]
def aSh(p70:DG)(f70:DH)(p97:OD)(f97:OG)(p49:Y49)(f49:Z49)(p47:Y47)(f47:Z47)(p118:I0)(f118:I4)(p51:rX)(f51:sN)(a0 a1:Ab Za)(a2:Ab ZF)(a3:Ab ZF):Option (DenS So):=let e1_:=(a0,a1,(f49 (a2.2.2.2.2.2.1,a3.2.2.2.2.2)).1,());let e2_:=((f70 (a0,())).1,(1:Int),(0:Int),());bif(p70 (a0,()))then(bif(((a2.2.1||a3.2.1)||a2.2.2.1)||a3.2.2.1)then(some e2_)else bif(a2.1||a3.1)then(some ((f70 (a0,())).1,(0:Int),(0:Int),()))else bif((a2.2.2.2.1&&a3.2.2.2.1)&&(!(a2.2.2.2.2.1==a3.2.2.2.2.1)))then(some e2_)else bif a2.2.2.2.1 then(bif(p97 (a0,a2.2.2.2.2.1,()))then(some ((f97 (a0,a2.2.2.2.2.1,())).1,(0:Int),(0:Int),()))else none)else bif a3.2.2.2.1 then(bif(p97 (a0,a3.2.2.2.2.1,()))then(some ((f97 (a0,a3.2.2.2.2.1,())).1,(0:Int),(0:Int),()))else none)else bif(p49 (a2.2.2.2.2.2.1,a3.2.2.2.2.2))then(bif((f49 (a2.2.2.2.2.2.1,a3.2.2.2.2.2)).2.1 !=(0:Int))then(some ((0:Int),(0:Int),(f49 (a2.2.2.2.2.2.1,a3.2.2.2.2.2)).2))else bif(p47 ((f49 (a2.2.2.2.2.2.1,a3.2.2.2.2.2)).1,()))then(bif((f47 ((f49 (a2.2.2.2.2.2.1,a3.2.2.2.2.2)).1,())).1==(0:Int))then(bif(p47 a2.2.2.2.2.2)then(bif((p47 a3.2.2.2.2.2)||(!(decide ((f47 a2.2.2.2.2.2).1=(0:Int)))))then(bif((((f47 a2.2.2.2.2.2).1==(0:Int))&&((f47 a3.2.2.2.2.2).1==(0:Int)))&&(a2.2.2.2.2.1==a3.2.2.2.2.1))then(bif(p118 (a0,a2.2.2.2.2.1,()))then(some ((f118 (a0,a2.2.2.2.2.1,())).1,(0:Int),(0:Int),()))else none)else bif(p118 (a0,(a1==(4:Int)),()))then(some ((f118 (a0,(a1==(4:Int)),())).1,(0:Int),(0:Int),()))else none)else none)else none)else bif(p51 e1_)then(some (f51 e1_))else none)else none)else none)else none
theorem bFR(x:DenS Qp):run (cf [(61,⟨DA,DB,p70,f70⟩),(62,⟨G0,Hg,p97,f97⟩),(239,⟨Rf,Ti,p49,f49⟩),(240,⟨Mn,MV,p47,f47⟩),(64,⟨Fg,FF,p118,f118⟩),(231,⟨J5,KE,p51,f51⟩)] []) 9 210 Tryz.f210 Qp So x=aSh p70 f70 p97 f97 p49 f49 p47 f47 p118 f118 p51 f51 x.1 x.2.1 x.2.2.1 x.2.2.2.1:=by kernel_rfl
def aIg(x:DenS Qp):Option (DenS So):=aSh Bp.pre Bp.F CR.pre CR.F pJ.pre pJ.F Vw.pre Vw.F B4.pre B4.F K3.pre K3.F x.1 x.2.1 x.2.2.1 x.2.2.2.1
def oV:Sum:=Aj Qp So aIg (DenS.dflt So)
theorem aVi:Sound Tryz.prog G1 210 oV:=sd (cf [(61,Bp),(62,CR),(239,pJ),(240,Vw),(64,B4),(231,K3)] []) 210 Tryz.f210 ⟨GJ,bZ,aVZ,aHa,Xj,aA8,trivial⟩ trivial Qp So aIg _ (fun _=>bFR ..)
abbrev aKi:=Ag Qp
abbrev aLR:=Af Qp So
variable (p400:aKi)(f400:aLR)
abbrev Qq:Aa:=[(false,Za),(false,Za),(false,Zb),(false,Zb),(false,Zb)]
abbrev Sp:Aa:=[(false,Zb),(false,Za),(false,Za)]
def aSi(p397:aKg)(f397:aLP)(p399:aKh)(f399:aLQ)(p398:aBW)(f398:aCM)(p400:aKi)(f400:aLR)(a0 a1:Ab Za)(a2 a3 a4:Ab Zb):Option (DenS Sp):=let e1_:=(a0,a1,(f399 (a0,a2,a3,())).1,(f398 (a0,a4,())));let e2_:=(f397 (a0,a1,(a2::(a3::(a4::[]))),()));bif(p397 (a0,a1,(a2::(a3::(a4::[]))),()))then(bif(e2_.1 !=(0:Int))then(some ((0:Int),(0:Int),e2_))else bif(p399 (a0,a2,a3,()))then(bif(p398 (a0,a4,()))then(bif(p400 e1_)then(some (f400 e1_))else none)else none)else none)else none
theorem bFS(x:DenS Qq):run (cf [(209,⟨Qn,Sm,p397,f397⟩),(211,⟨Qo,Sn,p399,f399⟩),(212,⟨Mh,MO,p398,f398⟩),(210,⟨Qp,So,p400,f400⟩)] []) 9 165 Tryz.f165 Qq Sp x=aSi p397 f397 p399 f399 p398 f398 p400 f400 x.1 x.2.1 x.2.2.1 x.2.2.2.1 x.2.2.2.2.1:=by kernel_rfl
def aIh(x:DenS Qq):Option (DenS Sp):=aSi oT.pre oT.F oU.pre oU.F Vs.pre Vs.F oV.pre oV.F x.1 x.2.1 x.2.2.1 x.2.2.2.1 x.2.2.2.2.1
def oW:Sum:=Aj Qq Sp aIh (DenS.dflt Sp)
theorem aVj:Sound Tryz.prog G1 165 oW:=sd (cf [(209,oT),(211,oU),(212,Vs),(210,oV)] []) 165 Tryz.f165 ⟨aVg,aVh,aGR,aVi,trivial⟩ trivial Qq Sp aIh _ (fun _=>bFS ..)
abbrev aKj:=Ag Qq
abbrev aLS:=Af Qq Sp
variable (p401:aKj)(f401:aLS)
abbrev Qr:Aa:=[(true,Zz)]
abbrev Sq:Aa:=[(false,Zb),(false,Za),(false,Za)]
def aSj(p401:aKj)(f401:aLS)(a0:Ab Zz):Option (DenS Sq):=bif(p401 (a0.2.1,a0.1,a0.2.2))then(some (f401 (a0.2.1,a0.1,a0.2.2)))else none
theorem bFT(x:DenS Qr):run (cf [(165,⟨Qq,Sp,p401,f401⟩)] []) 9 164 Tryz.f164 Qr Sq x=aSj p401 f401 x.1:=by kernel_rfl
def aIi(x:DenS Qr):Option (DenS Sq):=aSj oW.pre oW.F x.1
def bK:Sum:=Aj Qr Sq aIi (DenS.dflt Sq)
theorem aGS:Sound Tryz.prog G1 164 bK:=sd (cf [(165,oW)] []) 164 Tryz.f164 ⟨aVj,trivial⟩ trivial Qr Sq aIi _ (fun _=>bFT ..)
abbrev aBX:=Ag Qr
abbrev aCN:=Af Qr Sq
variable (p402:aBX)(f402:aCN)
abbrev JZ:Aa:=[(false,Za),(false,Za)]
abbrev Kw:Aa:=[(false,Za)]
def aSk(p69:BY)(f69:BZ)(a0 a1:Ab Za):Option (DenS Kw):=bif(p69 (a0,()))then(bif((f69 (a0,())).2.1 !=(0:Int))then(some (f69 (a0,())).2)else bif((decide (a1<(0:Int)))||(decide (a1>(5:Int))))then(some ((3:Int),()))else some ((0:Int),()))else none
theorem bFU(x:DenS JZ):run (cf [(71,⟨Cb,Cc,p69,f69⟩)] []) 9 215 Tryz.f215 JZ Kw x=aSk p69 f69 x.1 x.2.1:=by kernel_rfl
def aIj(x:DenS JZ):Option (DenS Kw):=aSk As.pre As.F x.1 x.2.1
def K1:Sum:=Aj JZ Kw aIj (DenS.dflt Kw)
theorem aAY:Sound Tryz.prog G1 215 K1:=sd (cf [(71,As)] []) 215 Tryz.f215 ⟨DQ,trivial⟩ trivial JZ Kw aIj _ (fun _=>bFU ..)
abbrev rR:=Ag JZ
abbrev sH:=Af JZ Kw
variable (p403:rR)(f403:sH)
abbrev Mi:Aa:=[(false,Za),(false,Zb)]
abbrev MP:Aa:=[(true,Zn)]
def aSl(p69:BY)(f69:BZ)(p98:Lk)(f98:Ln)(a0:Ab Za)(a1:Ab Zb):Option (DenS MP):=let e1_:=(aa .i64 ((aa .i64 ((f69 (a0,())).1.2.2.1-(f69 (a0,())).1.2.1))+(1:Int)));let e2_:=(aa .i64 ((f69 (a0,())).1.2.1-(1:Int)));bif(p69 (a0,()))then(bif(p98 (a0,a1,()))then(bif(decide ((f98 (a0,a1,())).2.1>(0:Int)))then(bif(decide ((0:Int)<=e2_))then(some (((f98 (a0,a1,())).1,(Ak .u64 (f98 (a0,a1,())).2.2.1 (Bj .u64 (1:Int) e2_)),(aa .i64 (e1_+(aa .i64 ((aa .i64 (f98 (a0,a1,())).2.1)-(1:Int))))),()),()))else none)else some (((f98 (a0,a1,())).1,(f98 (a0,a1,())).2.2.1,e1_,()),()))else none)else none
theorem bFV(x:DenS Mi):run (cf [(71,⟨Cb,Cc,p69,f69⟩),(91,⟨Fx,FK,p98,f98⟩)] []) 9 216 Tryz.f216 Mi MP x=aSl p69 f69 p98 f98 x.1 x.2.1:=by kernel_rfl
def aIk(x:DenS Mi):Option (DenS MP):=aSl As.pre As.F Ck.pre Ck.F x.1 x.2.1
def Vt:Sum:=Aj Mi MP aIk (DenS.dflt MP)
theorem aGT:Sound Tryz.prog G1 216 Vt:=sd (cf [(71,As),(91,Ck)] []) 216 Tryz.f216 ⟨DQ,Vy,trivial⟩ trivial Mi MP aIk _ (fun _=>bFV ..)
abbrev aBY:=Ag Mi
abbrev aCO:=Af Mi MP
variable (p404:aBY)(f404:aCO)
abbrev Mj:Aa:=[(false,Za),(true,Zn)]
abbrev MQ:Aa:=[(false,Zb),(false,.bool)]
def aSm(a0:Ab Za)(a1:Ab Zn):Option (DenS MQ):=let e10_:=(aa .i64 ((0:Int)-a1.2.2.1));let e9_:=(if((63:Int)<e10_)then(63:Int)else e10_);let e8_:=(AQ .u64 a1.2.1 e9_);let e1_:=(aa .u64 (a1.2.1-(Bj .u64 e8_ e9_)));let e2_:=((aa .u64 (e8_+(1:Int))),true,());let e3_:=(Bj .u64 (1:Int) (aa .i64 (e9_-(1:Int))));let e4_:=(gm e8_ (2:Int));let e5_:=(e8_,true,());let e6_:=(decide ((0:Int)<=e9_));let e7_:=e9_;bif e6_ then(bif e6_ then(bif(e1_==(0:Int))then(some ((AQ .u64 a1.2.1 e7_),false,()))else bif(decide ((0:Int)<=(aa .i64 (e7_-(1:Int)))))then(bif(a0==(0:Int))then(bif((decide (e1_>e3_))||((e1_==e3_)&&(e4_==(1:Int))))then(some e2_)else some e5_)else bif(a0==(1:Int))then(bif(decide (e1_>=e3_))then(some e2_)else some e5_)else bif(a0==(3:Int))then(bif(!a1.1)then(some e2_)else some e5_)else bif(a0==(4:Int))then(bif a1.1 then(some e2_)else some e5_)else bif(a0==(5:Int))then(bif(e4_==(0:Int))then(some e2_)else some e5_)else some e5_)else none)else none)else none
theorem bFW(x:DenS Mj):run (cf [] []) 9 217 Tryz.f217 Mj MQ x=aSm x.1 x.2.1:=by kernel_rfl
def aIl(x:DenS Mj):Option (DenS MQ):=aSm x.1 x.2.1
def Vu:Sum:=Aj Mj MQ aIl (DenS.dflt MQ)
theorem aGU:Sound Tryz.prog G1 217 Vu:=sd (cf [] []) 217 Tryz.f217 trivial trivial Mj MQ aIl _ (fun _=>bFW ..)
abbrev aBZ:=Ag Mj
abbrev aCP:=Af Mj MQ
variable (p405:aBZ)(f405:aCP)
abbrev Qs:Aa:=[(false,Za),(false,Za),(false,Zb),(false,.bool)]
abbrev MR:Aa:=[(false,Zb),(false,Za),(false,Za)]
def aSn(p403:rR)(f403:sH)(p65:D8)(f65:D9)(p70:DG)(f70:DH)(p404:aBY)(f404:aCO)(p405:aBZ)(f405:aCP)(p122:Ht)(f122:Hx)(a0 a1:Ab Za)(a2:Ab Zb)(a3:Ab (.bool)):Option (DenS MR):=let e7_:=(a0,a1,(f404 (a0,a2,())).1.1,((0:Int),(f405 (a1,(f404 (a0,a2,())))).1,()),(0:Int),false,());let e6_:=(f122 e7_);let e1_:=(e6_.1,(16:Int),e6_.2.2);let e2_:=(e6_.1,(0:Int),e6_.2.2);let e3_:=(p122 e7_);let e4_:=(decide ((f404 (a0,a2,())).1.2.2.1>=(0:Int)));let e5_:=((f405 (a1,(f404 (a0,a2,())))).2.1&&a3);let g1_:Option (DenS MR):=bif(p404 (a0,a2,()))then(bif e4_ then(some (a2,(0:Int),(0:Int),()))else bif(p405 (a1,(f404 (a0,a2,()))))then(bif e5_ then(bif e3_ then(some e1_)else none)else bif e3_ then(some e2_)else none)else none)else none;bif(p403 (a0,a1,()))then(bif((f403 (a0,a1,())).1 !=(0:Int))then(some ((0:Int),(0:Int),(f403 (a0,a1,()))))else bif(p65 (a0,a2,()))then(bif((f65 (a0,a2,())).2.1 !=(0:Int))then(some ((0:Int),(0:Int),(f65 (a0,a2,())).2))else bif(p70 (a0,()))then(bif((f65 (a0,a2,())).1==(0:Int))then(some ((f70 (a0,())).1,(1:Int),(0:Int),()))else bif((f65 (a0,a2,())).1==(1:Int))then(some ((f70 (a0,())).1,(0:Int),(0:Int),()))else bif((f65 (a0,a2,())).1==(2:Int))then(bif((f65 (a0,a2,())).1==(2:Int))then(some (a2,(0:Int),(0:Int),()))else g1_)else bif((f65 (a0,a2,())).1==(9:Int))then(bif((f65 (a0,a2,())).1==(9:Int))then(some (a2,(0:Int),(0:Int),()))else g1_)else bif((f65 (a0,a2,())).1==(5:Int))then(bif((f65 (a0,a2,())).1==(5:Int))then(some (a2,(0:Int),(0:Int),()))else g1_)else bif((f65 (a0,a2,())).1==(6:Int))then(some (a2,(0:Int),(0:Int),()))else g1_)else none)else none)else none
theorem bFX(x:DenS Qs):run (cf [(215,⟨JZ,Kw,p403,f403⟩),(59,⟨D2,D3,p65,f65⟩),(61,⟨DA,DB,p70,f70⟩),(216,⟨Mi,MP,p404,f404⟩),(217,⟨Mj,MQ,p405,f405⟩),(104,⟨Fh,FG,p122,f122⟩)] []) 9 170 Tryz.f170 Qs MR x=aSn p403 f403 p65 f65 p70 f70 p404 f404 p405 f405 p122 f122 x.1 x.2.1 x.2.2.1 x.2.2.2.1:=by kernel_rfl
def aIm(x:DenS Qs):Option (DenS MR):=aSn K1.pre K1.F By.pre By.F Bp.pre Bp.F Vt.pre Vt.F Vu.pre Vu.F Ch.pre Ch.F x.1 x.2.1 x.2.2.1 x.2.2.2.1
def oX:Sum:=Aj Qs MR aIm (DenS.dflt MR)
theorem aVk:Sound Tryz.prog G1 170 oX:=sd (cf [(215,K1),(59,By),(61,Bp),(216,Vt),(217,Vu),(104,Ch)] []) 170 Tryz.f170 ⟨aAY,IX,GJ,aGT,aGU,Xk,trivial⟩ trivial Qs MR aIm _ (fun _=>bFX ..)
abbrev aKk:=Ag Qs
abbrev aLT:=Af Qs MR
variable (p406:aKk)(f406:aLT)
abbrev Qt:Aa:=[(true,Zz)]
abbrev Sr:Aa:=[(false,Zb),(false,Za),(false,Za)]
def aSo(p406:aKk)(f406:aLT)(a0:Ab Zz):Option (DenS Sr):=bif(p406 (a0.2.1,a0.1,a0.2.2.1,true,()))then(some (f406 (a0.2.1,a0.1,a0.2.2.1,true,())))else none
theorem bFY(x:DenS Qt):run (cf [(170,⟨Qs,MR,p406,f406⟩)] []) 9 169 Tryz.f169 Qt Sr x=aSo p406 f406 x.1:=by kernel_rfl
def aIn(x:DenS Qt):Option (DenS Sr):=aSo oX.pre oX.F x.1
def bL:Sum:=Aj Qt Sr aIn (DenS.dflt Sr)
theorem aGV:Sound Tryz.prog G1 169 bL:=sd (cf [(170,oX)] []) 169 Tryz.f169 ⟨aVk,trivial⟩ trivial Qt Sr aIn _ (fun _=>bFY ..)
abbrev aB0:=Ag Qt
abbrev aCQ:=Af Qt Sr
variable (p407:aB0)(f407:aCQ)
abbrev Qi:Aa:=[(false,.slice Za),(false,.slice Za),(false,Zb)]
abbrev Sj:Aa:=[(false,Za)]
abbrev Hl:Pat:=⟨46,[(14,.one (.v .i64)),(13,.one (.sl Za)),(15,.one (.v .i64)),(1,.one (.sl Za)),(0,.one (.sl Za)),(2,.one (.v .u64))],[]⟩
abbrev aW:List (Nat×Shape):=[]
abbrev Lf:List (Nat×Pat):=[(0,⟨46,[(1,.one (.sl Za)),(0,.one (.sl Za)),(2,.one (.v .u64))],[]⟩)]
abbrev KT:Option Pat:=(some ⟨46,[(6,.one (.v .i64))],[]⟩)
abbrev Hm:Pat:=⟨46,[(29,.one (.v .i64)),(28,.one (.sl Za)),(30,.one (.v .i64)),(0,.one (.sl Za)),(2,.one (.v .u64))],[]⟩
abbrev aX:List (Nat×Shape):=[]
abbrev Lg:List (Nat×Pat):=[(2,⟨46,[(0,.one (.sl Za)),(2,.one (.v .u64))],[]⟩)]
abbrev KU:Option Pat:=(some ⟨46,[(6,.one (.v .i64))],[]⟩)
variable (w391_2:Pat.D Hl->Option (Ad Lf KT))(w391_9:Pat.D Hm->Option (Ad Lg KU))
def kC(p69:BY)(f69:BZ)(p66:Cd)(f66:Ce){R:Type}(L:Pat.D Hm->Option R)(e:Ad Lg KU->Option R)(x:Pat.D Hm):Option R:=let e1_:=(x.1.2.1.getD (ag x.1.2.2.1) (0:Int));bif(decide (x.1.2.2.1<x.1.1))then(bif((decide ((0:Int)<=x.1.2.2.1))&&(decide (x.1.2.2.1<(x.1.2.1.length:Int))))then(bif((decide (e1_<(0:Int)))||(decide (e1_>(5:Int))))then(((e (.inr (((3:Int),()),())))))else(L ((x.1.1,x.1.2.1,(aa .i64 (x.1.2.2.1+(1:Int))),x.1.2.2.2),())))else none)else(e (.inl (x.1.2.2.2,())))
theorem bIJ(d:Nat)(R:Type)(L:Pat.D Hm->Option R)(e:Ad Lg KU->Option R)(x:Pat.D Hm):
  Bv (cf [(71,⟨Cb,Cc,p69,f69⟩),(85,⟨Cx,Cy,p66,f66⟩)] [(218,2,LoopSpec.of Hl aW Lf KT w391_2),(218,9,LoopSpec.of Hm aX Lg KU w391_9)]) (d+2) 218 (Bu Tryz.f218 9) Hm aX Lg KU (R:=R) L e x=kC p69 f69 p66 f66 L e x:=by kernel_rfl
theorem bBA(p69:BY)(f69:BZ)(p66:Cd)(f66:Ce):Bt fun L e x=>kC p69 f69 p66 f66 L e x:=by intro _ _ _ _ _ _ _ h0 hL he _;unfold kC;repeat' (first|exact h0|exact hL _|exact he _|apply BJ|(apply BK h0;intro _)|(apply BL<;>intro _))
def kB(p69:BY)(f69:BZ)(p66:Cd)(f66:Ce){R:Type}(L:Pat.D Hl->Option R)(e:Ad Lf KT->Option R)(x:Pat.D Hl):Option R:=let e2_:=((x.1.2.1.getD (ag x.1.2.2.1) (0:Int)),());let e1_:=(f69 e2_);bif(decide (x.1.2.2.1<x.1.1))then(bif((decide ((0:Int)<=x.1.2.2.1))&&(decide (x.1.2.2.1<(x.1.2.1.length:Int))))then(bif(p69 e2_)then(bif(e1_.2.1 !=(0:Int))then(((e (.inr (e1_.2,())))))else(L ((x.1.1,x.1.2.1,(aa .i64 (x.1.2.2.1+(1:Int))),x.1.2.2.2),())))else none)else none)else(e (.inl (x.1.2.2.2,())))
theorem bII(d:Nat)(R:Type)(L:Pat.D Hl->Option R)(e:Ad Lf KT->Option R)(x:Pat.D Hl):
  Bv (cf [(71,⟨Cb,Cc,p69,f69⟩),(85,⟨Cx,Cy,p66,f66⟩)] [(218,2,LoopSpec.of Hl aW Lf KT w391_2),(218,9,LoopSpec.of Hm aX Lg KU w391_9)]) (d+2) 218 (Bu Tryz.f218 2) Hl aW Lf KT (R:=R) L e x=kB p69 f69 p66 f66 L e x:=by kernel_rfl
theorem bBz(p69:BY)(f69:BZ)(p66:Cd)(f66:Ce):Bt fun L e x=>kB p69 f69 p66 f66 L e x:=by intro _ _ _ _ _ _ _ h0 hL he _;unfold kB;repeat' (first|exact h0|exact hL _|exact he _|apply BJ|(apply BK h0;intro _)|(apply BL<;>intro _))
def aSa(p69:BY)(f69:BZ)(p66:Cd)(f66:Ce)(w391_2:Pat.D Hl->Option (Ad Lf KT))(w391_9:Pat.D Hm->Option (Ad Lg KU))(a0 a1:Ab (.slice Za))(a2:Ab Zb):Option (DenS Sj):=
 Vx.Bi (w391_2 (((a0.length:Int),a0,(0:Int),a1,a0,a2,()),())) fun y0=>
 Vx.Bg y0 (fun y1=>
 Vx.Bi (w391_9 (((y1.1.1.length:Int),y1.1.1,(0:Int),y1.1.2),())) fun y2=>
 Vx.Bg y2 (fun y3=>
 bif(decide ((0:Int)<(y3.1.1.length:Int)))then(bif(p66 ((y3.1.1.getD (ag (0:Int)) (0:Int)),y3.1.2))then(some (f66 ((y3.1.1.getD (ag (0:Int)) (0:Int)),y3.1.2)))
 else none)
 else none) (fun z3=>
 some z3.1)) (fun z1=>
 some z1.1)
theorem bFI(x:DenS Qi):run (cf [(71,⟨Cb,Cc,p69,f69⟩),(85,⟨Cx,Cy,p66,f66⟩)] [(218,2,LoopSpec.of Hl aW Lf KT w391_2),(218,9,LoopSpec.of Hm aX Lg KU w391_9)]) 9 218 Tryz.f218 Qi Sj x=aSa p69 f69 p66 f66 w391_2 w391_9 x.1 x.2.1 x.2.2.1:=by kernel_rfl
def aJo:Hm.D->Option (Ad Lg KU):=Bn fun L=>kC As.pre As.F Aw.pre Aw.F L some
def aJn:Hl.D->Option (Ad Lf KT):=Bn fun L=>kB As.pre As.F Aw.pre Aw.F L some
def aH9(x:DenS Qi):Option (DenS Sj):=aSa As.pre As.F Aw.pre Aw.F aJn aJo x.1 x.2.1 x.2.2.1
def oQ:Sum:=Aj Qi Sj aH9 (DenS.dflt Sj)
theorem aVd:Sound Tryz.prog G1 218 oQ:=sd (cf [(71,As),(85,Aw)] [(218,2,LoopSpec.of Hl aW Lf KT aJn),(218,9,LoopSpec.of Hm aX Lg KU aJo)]) 218 Tryz.f218 ⟨DQ,FT,trivial⟩ ⟨rfl,fun d=>BI (fun L e x=>kB As.pre As.F Aw.pre Aw.F L e x) (bBz As.pre As.F Aw.pre Aw.F) (fun _ _ _ _=>bII ..),⟨rfl,fun d=>BI (fun L e x=>kC As.pre As.F Aw.pre Aw.F L e x) (bBA As.pre As.F Aw.pre Aw.F) (fun _ _ _ _=>bIJ ..),trivial⟩⟩ Qi Sj aH9 _ (fun _=>bFI ..)
abbrev aKd:=Ag Qi
abbrev aLM:=Af Qi Sj
variable (p391:aKd)(f391:aLM)
abbrev Qj:Aa:=[(false,Za),(false,Za),(false,Za),(false,Zb)]
abbrev FJ:Aa:=[(false,Zb),(false,Za)]
def aSb(p65:D8)(f65:D9)(p98:Lk)(f98:Ln)(p70:DG)(f70:DH)(p97:OD)(f97:OG)(p118:I0)(f118:I4)(p40:UG)(f40:UJ)(p51:rX)(f51:sN)(a0 a1 a2:Ab Za)(a3:Ab Zb):Option (DenS FJ):=let e5_:=(f51 (a1,a2,(f40 (a0,a3,())).1,()));let e1_:=(e5_.1,e5_.2.1,());let e2_:=((f118 (a1,(f98 (a0,a3,())).1,())).1,(0:Int),());let e3_:=((f97 (a1,(f98 (a0,a3,())).1,())).1,(0:Int),());let e4_:=(p51 (a1,a2,(f40 (a0,a3,())).1,()));let g6_:Option (DenS FJ):=bif(p97 (a1,(f98 (a0,a3,())).1,()))then(some e3_)else none;let g5_:Option (DenS FJ):=bif(p118 (a1,(f98 (a0,a3,())).1,()))then(some e2_)else none;let g4_:Option (DenS FJ):=bif(p40 (a0,a3,()))then(bif e4_ then(some e1_)else none)else none;let g2_:Option (DenS FJ):=bif((f65 (a0,a3,())).1==(6:Int))then(bif((f65 (a0,a3,())).1==(6:Int))then(g5_)else g4_)else bif((f65 (a0,a3,())).1==(5:Int))then(g5_)else g4_;let g1_:Option (DenS FJ):=bif((f65 (a0,a3,())).1==(9:Int))then(bif((f65 (a0,a3,())).1==(9:Int))then(g6_)else g2_)else bif((f65 (a0,a3,())).1==(2:Int))then(g6_)else g2_;let g3_:Option (DenS FJ):=bif(p70 (a1,()))then(bif((f65 (a0,a3,())).1==(0:Int))then(some ((f70 (a1,())).1,(1:Int),()))else some ((f70 (a1,())).1,(0:Int),()))else none;bif(p65 (a0,a3,()))then(bif(p98 (a0,a3,()))then(bif((f65 (a0,a3,())).1==(0:Int))then(bif((f65 (a0,a3,())).1==(0:Int))then(g3_)else g1_)else bif((f65 (a0,a3,())).1==(1:Int))then(g3_)else g1_)else none)else none
theorem bFJ(x:DenS Qj):run (cf [(59,⟨D2,D3,p65,f65⟩),(91,⟨Fx,FK,p98,f98⟩),(61,⟨DA,DB,p70,f70⟩),(62,⟨G0,Hg,p97,f97⟩),(64,⟨Fg,FF,p118,f118⟩),(203,⟨GW,Hc,p40,f40⟩),(231,⟨J5,KE,p51,f51⟩)] []) 9 219 Tryz.f219 Qj FJ x=aSb p65 f65 p98 f98 p70 f70 p97 f97 p118 f118 p40 f40 p51 f51 x.1 x.2.1 x.2.2.1 x.2.2.2.1:=by kernel_rfl
def aIa(x:DenS Qj):Option (DenS FJ):=aSb By.pre By.F Ck.pre Ck.F Bp.pre Bp.F CR.pre CR.F B4.pre B4.F DP.pre DP.F K3.pre K3.F x.1 x.2.1 x.2.2.1 x.2.2.2.1
def oR:Sum:=Aj Qj FJ aIa (DenS.dflt FJ)
theorem aVe:Sound Tryz.prog G1 219 oR:=sd (cf [(59,By),(91,Ck),(61,Bp),(62,CR),(64,B4),(203,DP),(231,K3)] []) 219 Tryz.f219 ⟨IX,Vy,GJ,bZ,Xj,bN,aA8,trivial⟩ trivial Qj FJ aIa _ (fun _=>bFJ ..)
abbrev aKe:=Ag Qj
abbrev aLN:=Af Qj FJ
variable (p392:aKe)(f392:aLN)
abbrev Qk:Aa:=[(false,Za),(false,Za),(false,Za),(false,Zb)]
abbrev Sk:Aa:=[(false,Zb),(false,Za),(false,Za)]
def aSc(p391:aKd)(f391:aLM)(p392:aKe)(f392:aLN)(a0 a1 a2:Ab Za)(a3:Ab Zb):Option (DenS Sk):=let e1_:=(f391 ((a0::(a1::[])),(a2::[]),a3,()));bif(p391 ((a0::(a1::[])),(a2::[]),a3,()))then(bif(e1_.1 !=(0:Int))then(some ((0:Int),(0:Int),e1_))else bif(p392 (a0,a1,a2,a3,()))then(some ((f392 (a0,a1,a2,a3,())).1,(f392 (a0,a1,a2,a3,())).2.1,(0:Int),()))else none)else none
theorem bFK(x:DenS Qk):run (cf [(218,⟨Qi,Sj,p391,f391⟩),(219,⟨Qj,FJ,p392,f392⟩)] []) 9 172 Tryz.f172 Qk Sk x=aSc p391 f391 p392 f392 x.1 x.2.1 x.2.2.1 x.2.2.2.1:=by kernel_rfl
def aIb(x:DenS Qk):Option (DenS Sk):=aSc oQ.pre oQ.F oR.pre oR.F x.1 x.2.1 x.2.2.1 x.2.2.2.1
def oS:Sum:=Aj Qk Sk aIb (DenS.dflt Sk)
theorem aVf:Sound Tryz.prog G1 172 oS:=sd (cf [(218,oQ),(219,oR)] []) 172 Tryz.f172 ⟨aVd,aVe,trivial⟩ trivial Qk Sk aIb _ (fun _=>bFK ..)
abbrev aKf:=Ag Qk
abbrev aLO:=Af Qk Sk
variable (p393:aKf)(f393:aLO)
abbrev Qu:Aa:=[(true,Zz)]
abbrev Ss:Aa:=[(false,Zb),(false,Za),(false,Za)]
def aSp(p393:aKf)(f393:aLO)(a0:Ab Zz):Option (DenS Ss):=let e1_:=(a0.2.1,(aa .i64 a0.2.2.2.2.1),a0.1,a0.2.2.1,());bif(p393 e1_)then(some (f393 e1_))else none
theorem bFZ(x:DenS Qu):run (cf [(172,⟨Qk,Sk,p393,f393⟩)] []) 9 171 Tryz.f171 Qu Ss x=aSp p393 f393 x.1:=by kernel_rfl
def aIo(x:DenS Qu):Option (DenS Ss):=aSp oS.pre oS.F x.1
def bM:Sum:=Aj Qu Ss aIo (DenS.dflt Ss)
theorem aGW:Sound Tryz.prog G1 171 bM:=sd (cf [(172,oS)] []) 171 Tryz.f171 ⟨aVf,trivial⟩ trivial Qu Ss aIo _ (fun _=>bFZ ..)
abbrev aB1:=Ag Qu
abbrev aCR:=Af Qu Ss
variable (p408:aB1)(f408:aCR)
abbrev Qv:Aa:=[(true,Zj),(false,.bool)]
abbrev Su:Aa:=[(false,Zb)]
def aSq(a0:Ab Zj)(a1:Ab (.bool)):Option (DenS Su):=bif a1 then(some ((aa .u64 ((0:Int)-a0.1)),()))else some a0.2
theorem bF0(x:DenS Qv):run (cf [] []) 9 220 Tryz.f220 Qv Su x=aSq x.1 x.2.1:=by kernel_rfl
def aIp(x:DenS Qv):Option (DenS Su):=aSq x.1 x.2.1
def oY:Sum:=Aj Qv Su aIp (DenS.dflt Su)
theorem aVl:Sound Tryz.prog G1 220 oY:=sd (cf [] []) 220 Tryz.f220 trivial trivial Qv Su aIp _ (fun _=>bF0 ..)
abbrev aKl:=Ag Qv
abbrev aLU:=Af Qv Su
variable (p409:aKl)(f409:aLU)
abbrev Qx:Aa:=[(false,Za),(false,Za),(false,Za),(false,Zb)]
abbrev MS:Aa:=[(false,Zb),(false,Za),(false,Za)]
def aSs(p403:rR)(f403:sH)(p65:D8)(f65:D9)(p404:aBY)(f404:aCO)(p405:aBZ)(f405:aCP)(p178:I2)(f178:I6)(p409:aKl)(f409:aLU)(a0 a1 a2:Ab Za)(a3:Ab Zb):Option (DenS MS):=let e18_:=(Bj .u64 (f404 (a0,a3,())).1.2.1 (f404 (a0,a3,())).1.2.2.1);let e19_:=(Vx.k_kinds.getD (ag a2) ((0:Int),(0:Int),()));let e1_:=(((!(f404 (a0,a3,())).1.1)&&(decide (e18_>e19_.2.1)))||((f404 (a0,a3,())).1.1&&(decide (e18_>e19_.1))));let e2_:=(((!(f404 (a0,a3,())).1.1)&&(decide ((f405 (a1,(f404 (a0,a3,())))).1>e19_.2.1)))||((f404 (a0,a3,())).1.1&&(decide ((f405 (a1,(f404 (a0,a3,())))).1>e19_.1))));let e3_:=((aa .u64 ((0:Int)-e18_)),(0:Int),(0:Int),());let e4_:=((aa .u64 ((0:Int)-e19_.1)),(1:Int),(0:Int),());let e16_:=(e19_,(f404 (a0,a3,())).1.1,());let e5_:=((f409 e16_).1,(1:Int),(0:Int),());let e6_:=(decide ((aa .i64 ((f178 ((f404 (a0,a3,())).1.2.1,())).1+(f404 (a0,a3,())).1.2.2.1))>(64:Int)));let e17_:=(aa .u64 ((0:Int)-(f405 (a1,(f404 (a0,a3,())))).1));let e7_:=(e17_,(16:Int),(0:Int),());let e8_:=(e17_,(0:Int),(0:Int),());let e9_:=(e18_,(0:Int),(0:Int),());let e10_:=(p409 e16_);let e11_:=(e19_.2.1,(1:Int),(0:Int),());let e12_:=((f405 (a1,(f404 (a0,a3,())))).1,(16:Int),(0:Int),());let e13_:=((f405 (a1,(f404 (a0,a3,())))).1,(0:Int),(0:Int),());let e14_:=(decide ((f404 (a0,a3,())).1.2.2.1<(0:Int)));let e15_:=(decide ((0:Int)<=(f404 (a0,a3,())).1.2.2.1));let g1_:Option (DenS MS):=bif((f65 (a0,a3,())).1==(2:Int))then(some e4_)else bif(p404 (a0,a3,()))then(bif e14_ then(bif(p405 (a1,(f404 (a0,a3,()))))then(bif e2_ then(bif e10_ then(some e5_)else none)else bif(f404 (a0,a3,())).1.1 then(bif(f405 (a1,(f404 (a0,a3,())))).2.1 then(some e7_)else some e8_)else bif(f405 (a1,(f404 (a0,a3,())))).2.1 then(some e12_)else some e13_)else none)else bif(p178 ((f404 (a0,a3,())).1.2.1,()))then(bif e6_ then(bif e10_ then(some e5_)else none)else bif e15_ then(bif e1_ then(bif e10_ then(some e5_)else none)else bif(f404 (a0,a3,())).1.1 then(some e3_)else some e9_)else none)else none)else none;bif(p403 (a0,a1,()))then(bif((f403 (a0,a1,())).1 !=(0:Int))then(some ((0:Int),(0:Int),(f403 (a0,a1,()))))else bif((decide (a2<(0:Int)))||(decide (a2>(3:Int))))then(some ((0:Int),(0:Int),(9:Int),()))else bif(p65 (a0,a3,()))then(bif((f65 (a0,a3,())).2.1 !=(0:Int))then(some ((0:Int),(0:Int),(f65 (a0,a3,())).2))else bif(bif(decide ((0:Int)<=a2))then(decide (a2<((4:Nat):Int)))else false)then(bif((f65 (a0,a3,())).1==(0:Int))then(bif((f65 (a0,a3,())).1==(0:Int))then(some e11_)else g1_)else bif((f65 (a0,a3,())).1==(1:Int))then(bif((f65 (a0,a3,())).1==(1:Int))then(some e11_)else g1_)else bif((f65 (a0,a3,())).1==(9:Int))then(some e11_)else g1_)else none)else none)else none
theorem bF2(x:DenS Qx):run (cf [(215,⟨JZ,Kw,p403,f403⟩),(59,⟨D2,D3,p65,f65⟩),(216,⟨Mi,MP,p404,f404⟩),(217,⟨Mj,MQ,p405,f405⟩),(115,⟨Gg,FI,p178,f178⟩),(220,⟨Qv,Su,p409,f409⟩)] []) 9 174 Tryz.f174 Qx MS x=aSs p403 f403 p65 f65 p404 f404 p405 f405 p178 f178 p409 f409 x.1 x.2.1 x.2.2.1 x.2.2.2.1:=by kernel_rfl
def aIs(x:DenS Qx):Option (DenS MS):=aSs K1.pre K1.F By.pre By.F Vt.pre Vt.F Vu.pre Vu.F CB.pre CB.F oY.pre oY.F x.1 x.2.1 x.2.2.1 x.2.2.2.1
def o0:Sum:=Aj Qx MS aIs (DenS.dflt MS)
theorem aVm:Sound Tryz.prog G1 174 o0:=sd (cf [(215,K1),(59,By),(216,Vt),(217,Vu),(115,CB),(220,oY)] []) 174 Tryz.f174 ⟨aAY,IX,aGT,aGU,bF,aVl,trivial⟩ trivial Qx MS aIs _ (fun _=>bF2 ..)
abbrev aKn:=Ag Qx
abbrev aLW:=Af Qx MS
variable (p410:aKn)(f410:aLW)
abbrev Qy:Aa:=[(true,Zz)]
abbrev Sw:Aa:=[(false,Zb),(false,Za),(false,Za)]
def aSt(p410:aKn)(f410:aLW)(a0:Ab Zz):Option (DenS Sw):=let e1_:=(a0.2.1,a0.1,(aa .i64 a0.2.2.2.2.1),a0.2.2.1,());bif(p410 e1_)then(some (f410 e1_))else none
theorem bF3(x:DenS Qy):run (cf [(174,⟨Qx,MS,p410,f410⟩)] []) 9 173 Tryz.f173 Qy Sw x=aSt p410 f410 x.1:=by kernel_rfl
def aIt(x:DenS Qy):Option (DenS Sw):=aSt o0.pre o0.F x.1
def bO:Sum:=Aj Qy Sw aIt (DenS.dflt Sw)
theorem aGX:Sound Tryz.prog G1 173 bO:=sd (cf [(174,o0)] []) 173 Tryz.f173 ⟨aVm,trivial⟩ trivial Qy Sw aIt _ (fun _=>bF3 ..)
abbrev aB2:=Ag Qy
abbrev aCS:=Af Qy Sw
variable (p411:aB2)(f411:aCS)
abbrev Qz:Aa:=[(false,Za),(false,Za),(false,Za),(false,Zb)]
abbrev Sx:Aa:=[(false,Zb),(false,Za),(false,Za)]
def aSu(p403:rR)(f403:sH)(p122:Ht)(f122:Hx)(a0 a1 a2:Ab Za)(a3:Ab Zb):Option (DenS Sx):=let e8_:=(Vx.k_kinds.getD (ag a2) ((0:Int),(0:Int),()));let e7_:=((decide (e8_.1>(0:Int)))&&((AQ .u64 a3 (63:Int))==(1:Int)));let e9_:=(aa .u64 ((0:Int)-a3));let e1_:=(a0,a1,e7_,((0:Int),e9_,()),(0:Int),false,());let e2_:=(a0,a1,e7_,((0:Int),a3,()),(0:Int),false,());let e3_:=(!e7_);let e4_:=e7_;let e5_:=e8_;let e6_:=e9_;bif(p403 (a0,a1,()))then(bif((f403 (a0,a1,())).1 !=(0:Int))then(some ((0:Int),(0:Int),(f403 (a0,a1,()))))else bif((decide (a2<(0:Int)))||(decide (a2>(3:Int))))then(some ((0:Int),(0:Int),(9:Int),()))else bif(bif(decide ((0:Int)<=a2))then(decide (a2<((4:Nat):Int)))else false)then(bif e4_ then(bif((e3_&&(decide (e6_>e5_.2.1)))||(e4_&&(decide (e6_>e5_.1))))then(some ((0:Int),(0:Int),(7:Int),()))else bif(p122 e1_)then(some (f122 e1_))else none)else bif((e3_&&(decide (a3>e5_.2.1)))||(e4_&&(decide (a3>e5_.1))))then(some ((0:Int),(0:Int),(7:Int),()))else bif(p122 e2_)then(some (f122 e2_))else none)else none)else none
theorem bF4(x:DenS Qz):run (cf [(215,⟨JZ,Kw,p403,f403⟩),(104,⟨Fh,FG,p122,f122⟩)] []) 9 176 Tryz.f176 Qz Sx x=aSu p403 f403 p122 f122 x.1 x.2.1 x.2.2.1 x.2.2.2.1:=by kernel_rfl
def aIu(x:DenS Qz):Option (DenS Sx):=aSu K1.pre K1.F Ch.pre Ch.F x.1 x.2.1 x.2.2.1 x.2.2.2.1
def o7:Sum:=Aj Qz Sx aIu (DenS.dflt Sx)
theorem aVn:Sound Tryz.prog G1 176 o7:=sd (cf [(215,K1),(104,Ch)] []) 176 Tryz.f176 ⟨aAY,Xk,trivial⟩ trivial Qz Sx aIu _ (fun _=>bF4 ..)
abbrev aKo:=Ag Qz
abbrev aLX:=Af Qz Sx
variable (p412:aKo)(f412:aLX)
abbrev QA:Aa:=[(true,Zz)]
abbrev Sy:Aa:=[(false,Zb),(false,Za),(false,Za)]
def aSv(p412:aKo)(f412:aLX)(a0:Ab Zz):Option (DenS Sy):=let e1_:=(a0.2.1,a0.1,(aa .i64 a0.2.2.2.2.1),a0.2.2.1,());bif(p412 e1_)then(some (f412 e1_))else none
theorem bF5(x:DenS QA):run (cf [(176,⟨Qz,Sx,p412,f412⟩)] []) 9 175 Tryz.f175 QA Sy x=aSv p412 f412 x.1:=by kernel_rfl
def aIv(x:DenS QA):Option (DenS Sy):=aSv o7.pre o7.F x.1
def bP:Sum:=Aj QA Sy aIv (DenS.dflt Sy)
theorem aGY:Sound Tryz.prog G1 175 bP:=sd (cf [(176,o7)] []) 175 Tryz.f175 ⟨aVn,trivial⟩ trivial QA Sy aIv _ (fun _=>bF5 ..)
abbrev aB3:=Ag QA
abbrev aCT:=Af QA Sy
variable (p413:aB3)(f413:aCT)
abbrev L5:Aa:=[(false,Za),(false,Zb)]
abbrev My:Aa:=[(false,Zb),(false,Za)]
def aRH(p66:Cd)(f66:Ce)(p115:gQ)(f115:iD)(a0:Ab Za)(a1:Ab Zb):Option (DenS My):=bif(p66 (a0,a1,()))then(bif((f66 (a0,a1,())).1 !=(0:Int))then(some ((0:Int),(f66 (a0,a1,()))))else bif(p115 (a0,()))then(some ((iZ .u64 a1 (f115 (a0,())).1),(0:Int),()))else none)else none
theorem bEb(x:DenS L5):run (cf [(85,⟨Cx,Cy,p66,f66⟩),(233,⟨JK,Ki,p115,f115⟩)] []) 9 188 Tryz.f188 L5 My x=aRH p66 f66 p115 f115 x.1 x.2.1:=by kernel_rfl
def aHs(x:DenS L5):Option (DenS My):=aRH Aw.pre Aw.F FQ.pre FQ.F x.1 x.2.1
def KZ:Sum:=Aj L5 My aHs (DenS.dflt My)
theorem aAL:Sound Tryz.prog G1 188 KZ:=sd (cf [(85,Aw),(233,FQ)] []) 188 Tryz.f188 ⟨FT,aAM,trivial⟩ trivial L5 My aHs _ (fun _=>bEb ..)
abbrev rG:=Ag L5
abbrev r5:=Af L5 My
variable (p112:rG)(f112:r5)
abbrev Kc:Aa:=[(false,Za),(false,Zb)]
abbrev KM:Aa:=[(true,Zi),(false,Za)]
def t82(p65:D8)(f65:D9)(p112:rG)(f112:r5)(a0:Ab Za)(a1:Ab Zb):Option (DenS KM):=let e1_:=(aa .i64 (f112 (a0,a1,())).1);bif(p65 (a0,a1,()))then(bif((f65 (a0,a1,())).2.1 !=(0:Int))then(some (((0:Int),(0:Int),()),(f65 (a0,a1,())).2))else bif(p112 (a0,a1,()))then(bif((f112 (a0,a1,())).1 !=a1)then(some (((f65 (a0,a1,())).1,(aa .i64 ((0:Int)-e1_)),()),(0:Int),()))else some (((f65 (a0,a1,())).1,e1_,()),(0:Int),()))else none)else none
theorem r82(x:DenS Kc):run (cf [(59,⟨D2,D3,p65,f65⟩),(188,⟨L5,My,p112,f112⟩)] []) 9 228 Tryz.f228 Kc KM x=t82 p65 f65 p112 f112 x.1 x.2.1:=by kernel_rfl
def T82(x:DenS Kc):Option (DenS KM):=t82 By.pre By.F KZ.pre KZ.F x.1 x.2.1
def K5:Sum:=Aj Kc KM T82 (DenS.dflt KM)
theorem aBe:Sound Tryz.prog G1 228 K5:=sd (cf [(59,By),(188,KZ)] []) 228 Tryz.f228 ⟨IX,aAL,trivial⟩ trivial Kc KM T82 _ (fun _=>r82 ..)
abbrev hZ:=Ag Kc
abbrev iO:=Af Kc KM
variable (p82:hZ)(f82:iO)
abbrev GX:Aa:=[(true,Zi)]
abbrev Hd:Aa:=[(false,.bool)]
def t53(a0:Ab Zi):Option (DenS Hd):=some (((a0.1==(1:Int))||(a0.1==(0:Int))),())
theorem r53(x:DenS GX):run (cf [] []) 9 229 Tryz.f229 GX Hd x=t53 x.1:=by kernel_rfl
def T53(x:DenS GX):Option (DenS Hd):=t53 x.1
def E1:Sum:=Aj GX Hd T53 (DenS.dflt Hd)
theorem bW:Sound Tryz.prog G1 229 E1:=sd (cf [] []) 229 Tryz.f229 trivial trivial GX Hd T53 _ (fun _=>r53 ..)
abbrev VX:=Ag GX
abbrev V9:=Af GX Hd
variable (p53:VX)(f53:V9)
abbrev GY:Aa:=[(true,Zi),(true,Zi)]
abbrev He:Aa:=[(false,Za)]
def t54(a0 a1:Ab Zi):Option (DenS He):=bif((a0.1==(0:Int))||(a1.1==(0:Int)))then(some ((1:Int),()))else some ((0:Int),())
theorem r54(x:DenS GY):run (cf [] []) 9 230 Tryz.f230 GY He x=t54 x.1 x.2.1:=by kernel_rfl
def T54(x:DenS GY):Option (DenS He):=t54 x.1 x.2.1
def E2:Sum:=Aj GY He T54 (DenS.dflt He)
theorem bY:Sound Tryz.prog G1 230 E2:=sd (cf [] []) 230 Tryz.f230 trivial trivial GY He T54 _ (fun _=>r54 ..)
abbrev VY:=Ag GY
abbrev Wa:=Af GY He
variable (p54:VY)(f54:Wa)
abbrev Rs:Aa:=[(false,Za),(false,Zb),(false,Za)]
abbrev Tv:Aa:=[(false,Zb),(false,Za),(false,Za)]
def t93(p82:hZ)(f82:iO)(p53:VX)(f53:V9)(p70:DG)(f70:DH)(p54:VY)(f54:Wa)(p64:X3)(f64:Yf)(a0:Ab Za)(a1:Ab Zb)(a2:Ab Za):Option (DenS Tv):=let e4_:=(aa .i64 ((f82 (a0,a1,())).1.2.1+a2));let e1_:=(f64 (a0,(aa .u64 (aa .i64 ((0:Int)-e4_))),()));let e2_:=e4_;let e3_:=((f82 (a0,a1,())).1,(f82 (a0,a1,())).1,());bif(p82 (a0,a1,()))then(bif((f82 (a0,a1,())).2.1 !=(0:Int))then(some ((0:Int),(0:Int),(f82 (a0,a1,())).2))else bif(p53 ((f82 (a0,a1,())).1,()))then(bif(f53 ((f82 (a0,a1,())).1,())).1 then(bif(p70 (a0,()))then(bif(p54 e3_)then(some ((f70 (a0,())).1,(f54 e3_).1,(0:Int),()))else none)else none)else bif((((f82 (a0,a1,())).1.1==(9:Int))&&(decide (a2>(0:Int))))||(((f82 (a0,a1,())).1.1==(2:Int))&&(decide (a2<(0:Int)))))then(some (a1,(0:Int),(0:Int),()))else bif((decide (e2_>(0:Int)))||((e2_==(0:Int))&&(decide (a2<(0:Int)))))then(some ((aa .u64 e2_),(0:Int),(0:Int),()))else bif(p64 (a0,(aa .u64 (aa .i64 ((0:Int)-e2_))),()))then(some (e1_.1,(0:Int),e1_.2))else none)else none)else none
theorem r93(x:DenS Rs):run (cf [(228,⟨Kc,KM,p82,f82⟩),(229,⟨GX,Hd,p53,f53⟩),(61,⟨DA,DB,p70,f70⟩),(230,⟨GY,He,p54,f54⟩),(187,⟨J7,KG,p64,f64⟩)] []) 9 227 Tryz.f227 Rs Tv x=t93 p82 f82 p53 f53 p70 f70 p54 f54 p64 f64 x.1 x.2.1 x.2.2.1:=by kernel_rfl
def T93(x:DenS Rs):Option (DenS Tv):=t93 K5.pre K5.F E1.pre E1.F Bp.pre Bp.F E2.pre E2.F Fp.pre Fp.F x.1 x.2.1 x.2.2.1
def pO:Sum:=Aj Rs Tv T93 (DenS.dflt Tv)
theorem aV7:Sound Tryz.prog G1 227 pO:=sd (cf [(228,K5),(229,E1),(61,Bp),(230,E2),(187,Fp)] []) 227 Tryz.f227 ⟨aBe,bW,GJ,bY,pM,trivial⟩ trivial Rs Tv T93 _ (fun _=>r93 ..)
abbrev Y93:=Ag Rs
abbrev Z93:=Af Rs Tv
variable (p93:Y93)(f93:Z93)
abbrev Qw:Aa:=[(false,Za),(false,Zb)]
abbrev Sv:Aa:=[(false,Zb),(false,Za),(false,Za)]
def t41(p93:Y93)(f93:Z93)(a0:Ab Za)(a1:Ab Zb):Option (DenS Sv):=bif(p93 (a0,a1,(1:Int),()))then(some (f93 (a0,a1,(1:Int),())))else none
theorem r41(x:DenS Qw):run (cf [(227,⟨Rs,Tv,p93,f93⟩)] []) 9 182 Tryz.f182 Qw Sv x=t41 p93 f93 x.1 x.2.1:=by kernel_rfl
def T41(x:DenS Qw):Option (DenS Sv):=t41 pO.pre pO.F x.1 x.2.1
def oZ:Sum:=Aj Qw Sv T41 (DenS.dflt Sv)
theorem aVq:Sound Tryz.prog G1 182 oZ:=sd (cf [(227,pO)] []) 182 Tryz.f182 ⟨aV7,trivial⟩ trivial Qw Sv T41 _ (fun _=>r41 ..)
abbrev Y41:=Ag Qw
abbrev Z41:=Af Qw Sv
variable (p41:Y41)(f41:Z41)
abbrev QB:Aa:=[(true,Zz)]
abbrev Sz:Aa:=[(false,Zb),(false,Za),(false,Za)]
def aSw(p41:Y41)(f41:Z41)(a0:Ab Zz):Option (DenS Sz):=bif(p41 (a0.2.1,a0.2.2.1,()))then(some (f41 (a0.2.1,a0.2.2.1,())))else none
theorem bF6(x:DenS QB):run (cf [(182,⟨Qw,Sv,p41,f41⟩)] []) 9 181 Tryz.f181 QB Sz x=aSw p41 f41 x.1:=by kernel_rfl
def aIw(x:DenS QB):Option (DenS Sz):=aSw oZ.pre oZ.F x.1
def bQ:Sum:=Aj QB Sz aIw (DenS.dflt Sz)
theorem aGZ:Sound Tryz.prog G1 181 bQ:=sd (cf [(182,oZ)] []) 181 Tryz.f181 ⟨aVq,trivial⟩ trivial QB Sz aIw _ (fun _=>bF6 ..)
abbrev aB4:=Ag QB
abbrev aCU:=Af QB Sz
variable (p414:aB4)(f414:aCU)
abbrev Qf:Aa:=[(false,Za),(false,Za),(false,Zb),(false,Za)]
abbrev ML:Aa:=[(false,Zb),(false,Za),(false,Za)]
def t38(p69:BY)(f69:BZ)(p82:hZ)(f82:iO)(p53:VX)(f53:V9)(p70:DG)(f70:DH)(p54:VY)(f54:Wa)(p40:UG)(f40:UJ)(p51:rX)(f51:sN)(a0 a1:Ab Za)(a2:Ab Zb)(a3:Ab Za):Option (DenS ML):=let e3_:=(if((10000:Int)<a3)then(10000:Int)else a3);let e1_:=(a0,a1,((f40 (a0,a2,())).1.1,(f40 (a0,a2,())).1.2.1,(aa .i64 ((f40 (a0,a2,())).1.2.2.1+(if(e3_>(-(10000:Int)))then e3_ else(-(10000:Int))))),()),());let e2_:=((f82 (a0,a2,())).1,(f82 (a0,a2,())).1,());bif(p69 (a0,()))then(bif((f69 (a0,())).2.1 !=(0:Int))then(some ((0:Int),(0:Int),(f69 (a0,())).2))else bif((decide (a1<(0:Int)))||(decide (a1>(5:Int))))then(some ((0:Int),(0:Int),(3:Int),()))else bif(p82 (a0,a2,()))then(bif((f82 (a0,a2,())).2.1 !=(0:Int))then(some ((0:Int),(0:Int),(f82 (a0,a2,())).2))else bif(p53 ((f82 (a0,a2,())).1,()))then(bif(f53 ((f82 (a0,a2,())).1,())).1 then(bif(p70 (a0,()))then(bif(p54 e2_)then(some ((f70 (a0,())).1,(f54 e2_).1,(0:Int),()))else none)else none)else bif(p40 (a0,a2,()))then(bif(((f40 (a0,a2,())).2.1 !=(0:Int))||((f82 (a0,a2,())).1.2.1==(0:Int)))then(some (a2,(0:Int),(0:Int),()))else bif(p51 e1_)then(some (f51 e1_))else none)else none)else none)else none)else none
theorem r38(x:DenS Qf):run (cf [(71,⟨Cb,Cc,p69,f69⟩),(228,⟨Kc,KM,p82,f82⟩),(229,⟨GX,Hd,p53,f53⟩),(61,⟨DA,DB,p70,f70⟩),(230,⟨GY,He,p54,f54⟩),(203,⟨GW,Hc,p40,f40⟩),(231,⟨J5,KE,p51,f51⟩)] []) 9 184 Tryz.f184 Qf ML x=t38 p69 f69 p82 f82 p53 f53 p70 f70 p54 f54 p40 f40 p51 f51 x.1 x.2.1 x.2.2.1 x.2.2.2.1:=by kernel_rfl
def T38(x:DenS Qf):Option (DenS ML):=t38 As.pre As.F K5.pre K5.F E1.pre E1.F Bp.pre Bp.F E2.pre E2.F DP.pre DP.F K3.pre K3.F x.1 x.2.1 x.2.2.1 x.2.2.2.1
def oP:Sum:=Aj Qf ML T38 (DenS.dflt ML)
theorem aVc:Sound Tryz.prog G1 184 oP:=sd (cf [(71,As),(228,K5),(229,E1),(61,Bp),(230,E2),(203,DP),(231,K3)] []) 184 Tryz.f184 ⟨DQ,aBe,bW,GJ,bY,bN,aA8,trivial⟩ trivial Qf ML T38 _ (fun _=>r38 ..)
abbrev Y38:=Ag Qf
abbrev Z38:=Af Qf ML
variable (p38:Y38)(f38:Z38)
abbrev QC:Aa:=[(true,Zz)]
abbrev SA:Aa:=[(false,Zb),(false,Za),(false,Za)]
def aSx(p38:Y38)(f38:Z38)(a0:Ab Zz):Option (DenS SA):=let e1_:=(a0.2.1,a0.1,a0.2.2.1,(aa .i64 a0.2.2.2.1),());bif(p38 e1_)then(some (f38 e1_))else none
theorem bF7(x:DenS QC):run (cf [(184,⟨Qf,ML,p38,f38⟩)] []) 9 183 Tryz.f183 QC SA x=aSx p38 f38 x.1:=by kernel_rfl
def aIx(x:DenS QC):Option (DenS SA):=aSx oP.pre oP.F x.1
def bR:Sum:=Aj QC SA aIx (DenS.dflt SA)
theorem aG0:Sound Tryz.prog G1 183 bR:=sd (cf [(184,oP)] []) 183 Tryz.f183 ⟨aVc,trivial⟩ trivial QC SA aIx _ (fun _=>bF7 ..)
abbrev aB5:=Ag QC
abbrev aCV:=Af QC SA
variable (p415:aB5)(f415:aCV)
abbrev QD:Aa:=[(true,Zz)]
abbrev SD:Aa:=[(false,Zb),(false,Za),(false,Za)]
def aSy(p65:D8)(f65:D9)(a0:Ab Zz):Option (DenS SD):=bif(p65 (a0.2.1,a0.2.2.1,()))then(some ((aa .u64 (f65 (a0.2.1,a0.2.2.1,())).1),(0:Int),(f65 (a0.2.1,a0.2.2.1,())).2))else none
theorem bF8(x:DenS QD):run (cf [(59,⟨D2,D3,p65,f65⟩)] []) 9 185 Tryz.f185 QD SD x=aSy p65 f65 x.1:=by kernel_rfl
def aIy(x:DenS QD):Option (DenS SD):=aSy By.pre By.F x.1
def bS:Sum:=Aj QD SD aIy (DenS.dflt SD)
theorem aG1:Sound Tryz.prog G1 185 bS:=sd (cf [(59,By)] []) 185 Tryz.f185 ⟨IX,trivial⟩ trivial QD SD aIy _ (fun _=>bF8 ..)
abbrev aB6:=Ag QD
abbrev aCW:=Af QD SD
variable (p416:aB6)(f416:aCW)
abbrev QE:Aa:=[(false,Za),(false,Zb),(false,Zb)]
abbrev SE:Aa:=[(false,Zb),(false,Za)]
def aSz(p66:Cd)(f66:Ce)(p115:gQ)(f115:iD)(a0:Ab Za)(a1 a2:Ab Zb):Option (DenS SE):=bif(p66 (a0,a1,()))then(bif((f66 (a0,a1,())).1 !=(0:Int))then(some ((0:Int),(f66 (a0,a1,()))))else bif(p66 (a0,a2,()))then(bif((f66 (a0,a2,())).1 !=(0:Int))then(some ((0:Int),(f66 (a0,a2,()))))else bif(p115 (a0,()))then(bif(p115 (a0,()))then(some ((Ak .u64 (iZ .u64 a1 (f115 (a0,())).1) (BS .u64 a2 (f115 (a0,())).1)),(0:Int),()))else none)else none)else none)else none
theorem bF9(x:DenS QE):run (cf [(85,⟨Cx,Cy,p66,f66⟩),(233,⟨JK,Ki,p115,f115⟩)] []) 9 190 Tryz.f190 QE SE x=aSz p66 f66 p115 f115 x.1 x.2.1 x.2.2.1:=by kernel_rfl
def aIz(x:DenS QE):Option (DenS SE):=aSz Aw.pre Aw.F FQ.pre FQ.F x.1 x.2.1 x.2.2.1
def o8:Sum:=Aj QE SE aIz (DenS.dflt SE)
theorem aVo:Sound Tryz.prog G1 190 o8:=sd (cf [(85,Aw),(233,FQ)] []) 190 Tryz.f190 ⟨FT,aAM,trivial⟩ trivial QE SE aIz _ (fun _=>bF9 ..)
abbrev aKp:=Ag QE
abbrev aLY:=Af QE SE
variable (p417:aKp)(f417:aLY)
abbrev QF:Aa:=[(true,Zz)]
abbrev SF:Aa:=[(false,Zb),(false,Za),(false,Za)]
def aSA(p417:aKp)(f417:aLY)(a0:Ab Zz):Option (DenS SF):=bif(p417 (a0.2.1,a0.2.2.1,a0.2.2.2.1,()))then(some ((f417 (a0.2.1,a0.2.2.1,a0.2.2.2.1,())).1,(0:Int),(f417 (a0.2.1,a0.2.2.1,a0.2.2.2.1,())).2))else none
theorem bGa(x:DenS QF):run (cf [(190,⟨QE,SE,p417,f417⟩)] []) 9 189 Tryz.f189 QF SF x=aSA p417 f417 x.1:=by kernel_rfl
def aIA(x:DenS QF):Option (DenS SF):=aSA o8.pre o8.F x.1
def bT:Sum:=Aj QF SF aIA (DenS.dflt SF)
theorem aG2:Sound Tryz.prog G1 189 bT:=sd (cf [(190,o8)] []) 189 Tryz.f189 ⟨aVo,trivial⟩ trivial QF SF aIA _ (fun _=>bGa ..)
abbrev aB7:=Ag QF
abbrev aCX:=Af QF SF
variable (p418:aB7)(f418:aCX)
end Vx
namespace Vx
open Go Go.Proofs
variable (p69:BY)(f69:BZ)(p66:Cd)(f66:Ce)(p65:D8)(f65:D9)(p70:DG)(f70:DH)(p178:I2)(f178:I6)(p122:Ht)(f122:Hx)(p27:rL)(f27:sA)(p64:X3)(f64:Yf)(p25:Y25)(f25:Z25)(p354:aBR)(f354:aCH)(p40:UG)(f40:UJ)(p328:E4)(f328:E6)(p381:aBT)(f381:aCJ)(p395:aBU)(f395:aCK)(p396:aBV)(f396:aCL)(p402:aBX)(f402:aCN)(p407:aB0)(f407:aCQ)(p408:aB1)(f408:aCR)(p411:aB2)(f411:aCS)(p413:aB3)(f413:aCT)(p112:rG)(f112:r5)(p82:hZ)(f82:iO)(p53:VX)(f53:V9)(p54:VY)(f54:Wa)(p414:aB4)(f414:aCU)(p415:aB5)(f415:aCV)(p416:aB6)(f416:aCW)(p418:aB7)(f418:aCX)
abbrev QG:Aa:=[(false,Za),(false,Zb),(false,Zb)]
abbrev SG:Aa:=[(false,Zb),(false,Za),(false,.bool),(false,Za)]
abbrev IP:Pat:=⟨109,[(32,.one (.v .i64)),(31,.one (.sl Zb)),(33,.one (.v .i64)),(2,.one (.v .u64)),(0,.one (.v .i64)),(1,.one (.v .u64))],[]⟩
abbrev nG:List (Nat×Shape):=[]
abbrev Ov:List (Nat×Pat):=[(0,⟨109,[(2,.one (.v .u64)),(0,.one (.v .i64)),(1,.one (.v .u64))],[]⟩)]
abbrev NE:Option Pat:=(some ⟨109,[(6,.one (.v .u64)),(7,.one (.v .i64)),(8,.one (.bool)),(9,.one (.v .i64))],[]⟩)
variable (w419_5:Pat.D IP->Option (Ad Ov NE))
def kE(p69:BY)(f69:BZ)(p66:Cd)(f66:Ce)(p65:D8)(f65:D9)(p70:DG)(f70:DH){R:Type}(L:Pat.D IP->Option R)(e:Ad Ov NE->Option R)(x:Pat.D IP):Option R:=let e2_:=(x.1.2.2.2.2.1,(x.1.2.1.getD (ag x.1.2.2.1) (0:Int)),());let e1_:=(f66 e2_);bif(decide (x.1.2.2.1<x.1.1))then(bif((decide ((0:Int)<=x.1.2.2.1))&&(decide (x.1.2.2.1<(x.1.2.1.length:Int))))then(bif(p66 e2_)then(bif(e1_.1 !=(0:Int))then(((e (.inr (((0:Int),(0:Int),true,e1_),())))))else(L ((x.1.1,x.1.2.1,(aa .i64 (x.1.2.2.1+(1:Int))),x.1.2.2.2),())))else none)else none)else(e (.inl (x.1.2.2.2,())))
theorem bIL(d:Nat)(R:Type)(L:Pat.D IP->Option R)(e:Ad Ov NE->Option R)(x:Pat.D IP):
  Bv (cf [(71,⟨Cb,Cc,p69,f69⟩),(85,⟨Cx,Cy,p66,f66⟩),(59,⟨D2,D3,p65,f65⟩),(61,⟨DA,DB,p70,f70⟩)] [(242,5,LoopSpec.of IP nG Ov NE w419_5)]) (d+2) 242 (Bu Tryz.f242 5) IP nG Ov NE (R:=R) L e x=kE p69 f69 p66 f66 p65 f65 p70 f70 L e x:=by kernel_rfl
theorem bBC(p69:BY)(f69:BZ)(p66:Cd)(f66:Ce)(p65:D8)(f65:D9)(p70:DG)(f70:DH):Bt fun L e x=>kE p69 f69 p66 f66 p65 f65 p70 f70 L e x:=by intro _ _ _ _ _ _ _ h0 hL he _;unfold kE;repeat' (first|exact h0|exact hL _|exact he _|apply BJ|(apply BK h0;intro _)|(apply BL<;>intro _))
def aSB(p69:BY)(f69:BZ)(p66:Cd)(f66:Ce)(p65:D8)(f65:D9)(p70:DG)(f70:DH)(w419_5:Pat.D IP->Option (Ad Ov NE))(a0:Ab Za)(a1 a2:Ab Zb):Option (DenS SG):=
 bif(p69 (a0,()))then(bif((f69 (a0,())).2.1 !=(0:Int))then(some ((0:Int),(0:Int),true,(f69 (a0,())).2))
 else Vx.Bi (w419_5 ((((a1::(a2::[])).length:Int),(a1::(a2::[])),(0:Int),a2,a0,a1,()),())) fun y2=>
 Vx.Bg y2 (fun y3=>
 bif(p65 y3.1.2)then(bif(p65 (y3.1.2.1,y3.1.1,()))then(bif(p70 (y3.1.2.1,()))then(bif(((f65 y3.1.2).1==(0:Int))||((f65 (y3.1.2.1,y3.1.1,())).1==(0:Int)))then(some ((f70 (y3.1.2.1,())).1,(1:Int),true,(0:Int),()))
 else bif(((f65 y3.1.2).1==(1:Int))||((f65 (y3.1.2.1,y3.1.1,())).1==(1:Int)))then(some ((f70 (y3.1.2.1,())).1,(0:Int),true,(0:Int),()))
 else bif(((((f65 y3.1.2).1==(9:Int))||((f65 y3.1.2).1==(2:Int)))||((f65 (y3.1.2.1,y3.1.1,())).1==(6:Int)))||((f65 (y3.1.2.1,y3.1.1,())).1==(5:Int)))then(some ((f70 (y3.1.2.1,())).1,(1:Int),true,(0:Int),()))
 else bif(((((f65 (y3.1.2.1,y3.1.1,())).1==(9:Int))||((f65 (y3.1.2.1,y3.1.1,())).1==(2:Int)))||((f65 y3.1.2).1==(6:Int)))||((f65 y3.1.2).1==(5:Int)))then(some (y3.1.2.2.1,(0:Int),true,(0:Int),()))
 else some ((0:Int),(0:Int),false,(0:Int),()))
 else none)
 else none)
 else none) (fun z3=>
 some z3.1))
 else none
theorem bGb(x:DenS QG):run (cf [(71,⟨Cb,Cc,p69,f69⟩),(85,⟨Cx,Cy,p66,f66⟩),(59,⟨D2,D3,p65,f65⟩),(61,⟨DA,DB,p70,f70⟩)] [(242,5,LoopSpec.of IP nG Ov NE w419_5)]) 9 242 Tryz.f242 QG SG x=aSB p69 f69 p66 f66 p65 f65 p70 f70 w419_5 x.1 x.2.1 x.2.2.1:=by kernel_rfl
def aJq:IP.D->Option (Ad Ov NE):=Bn fun L=>kE As.pre As.F Aw.pre Aw.F By.pre By.F Bp.pre Bp.F L some
def aIB(x:DenS QG):Option (DenS SG):=aSB As.pre As.F Aw.pre Aw.F By.pre By.F Bp.pre Bp.F aJq x.1 x.2.1 x.2.2.1
def o9:Sum:=Aj QG SG aIB (DenS.dflt SG)
theorem aVp:Sound Tryz.prog G1 242 o9:=sd (cf [(71,As),(85,Aw),(59,By),(61,Bp)] [(242,5,LoopSpec.of IP nG Ov NE aJq)]) 242 Tryz.f242 ⟨DQ,FT,IX,GJ,trivial⟩ ⟨rfl,fun d=>BI (fun L e x=>kE As.pre As.F Aw.pre Aw.F By.pre By.F Bp.pre Bp.F L e x) (bBC As.pre As.F Aw.pre Aw.F By.pre By.F Bp.pre Bp.F) (fun _ _ _ _=>bIL ..),trivial⟩ QG SG aIB _ (fun _=>bGb ..)
abbrev aKq:=Ag QG
abbrev aLZ:=Af QG SG
variable (p419:aKq)(f419:aLZ)
abbrev QH:Aa:=[(true,Zs),(true,Zs)]
abbrev SH:Aa:=[(true,.pair Zb (.pair Zb (.pair Za Zg)))]
abbrev IQ:Pat:=⟨104,[(6,.one (.v .u64)),(9,.one (.v .i64)),(8,.one (.ptr 3 0)),(4,.one (.ptr 2 0))],[.gone,.gone,.raw [.v .u64,.v .u64,.v .i64,.v .u64],.raw [.v .u64,.v .u64,.v .i64,.v .u64]]⟩
abbrev nH:List (Nat×Shape):=[]
abbrev Ow:List (Nat×Pat):=[(0,⟨104,[(8,.one (.ptr 3 0)),(4,.one (.ptr 2 0))],[.gone,.gone,.raw [.v .u64,.v .u64,.v .i64,.v .u64],.raw [.v .u64,.v .u64,.v .i64,.v .u64]]⟩)]
abbrev NF:Option Pat:=none
variable (w420_10:Pat.D IQ->Option (Ad Ow NF))
def kF(p178:I2)(f178:I6)(p328:E4)(f328:E6){R:Type}(L:Pat.D IQ->Option R)(e:Ad Ow NF->Option R)(x:Pat.D IQ):Option R:=let e6_:=(if((64:Int)<x.1.2.1)then(64:Int)else x.1.2.1);let e5_:=(aa .i64 ((64:Int)-e6_));let e1_:=(f328 ((AQ .u64 x.2.2.2.2.1.1 e5_),(Bj .u64 x.2.2.2.2.1.1 e6_),x.1.1,()));let e2_:=e5_;let e3_:=(decide ((0:Int)<=e6_));let e4_:=e6_;bif(decide (x.1.2.1>(0:Int)))then(bif(decide ((0:Int)<=e2_))then(bif e3_ then(bif(p328 ((AQ .u64 x.2.2.2.2.1.1 e2_),(Bj .u64 x.2.2.2.2.1.1 e4_),x.1.1,()))then(bif e3_ then(((L ((x.1.1,(aa .i64 (x.1.2.1-e4_)),(),(),()),(),(),x.2.2.2.1,(e1_.2.1,x.2.2.2.2.1.2.1,x.2.2.2.2.1.2.2.1,(aa .u64 ((Bj .u64 x.2.2.2.2.1.2.2.2.1 e4_)+e1_.1)),()),()))))else none)else none)else none)else none)else(e (.inl (((),(),()),(),(),x.2.2.2)))
theorem bIM(d:Nat)(R:Type)(L:Pat.D IQ->Option R)(e:Ad Ow NF->Option R)(x:Pat.D IQ):
  Bv (cf [(115,⟨Gg,FI,p178,f178⟩),(136,⟨ER,EV,p328,f328⟩)] [(243,10,LoopSpec.of IQ nH Ow NF w420_10)]) (d+2) 243 (Bu Tryz.f243 10) IQ nH Ow NF (R:=R) L e x=kF p178 f178 p328 f328 L e x:=by kernel_rfl
theorem bBD(p178:I2)(f178:I6)(p328:E4)(f328:E6):Bt fun L e x=>kF p178 f178 p328 f328 L e x:=by intro _ _ _ _ _ _ _ h0 hL he _;unfold kF;repeat' (first|exact h0|exact hL _|exact he _|apply BJ|(apply BK h0;intro _)|(apply BL<;>intro _))
def aSC(p178:I2)(f178:I6)(p328:E4)(f328:E6)(w420_10:Pat.D IQ->Option (Ad Ow NF))(a0 a1:Ab Zs):Option (DenS SH):=
 let e8_:=(aa .i64 (a1.2.2.1-a0.2.2.1))
 let e7_:=(Bj .u64 (a1.2.1.getD (ag (0:Int)) (0:Int)) e8_)
 let e1_:=(e7_ !=(0:Int))
 let e2_:=e7_
 let e3_:=((a1.2.1.getD (ag (0:Int)) (0:Int))!=(0:Int))
 let e4_:=e8_
 let e5_:=((a1.2.1.getD (ag (0:Int)) (0:Int)),())
 let e6_:=((a0.2.1.getD (ag (0:Int)) (0:Int)),())
 bif(decide ((0:Int)<(a0.2.1.length:Int)))then(bif(decide ((0:Int)<(a1.2.1.length:Int)))then(bif(decide (a1.2.2.1>a0.2.2.1))then(bif(p178 e5_)then(bif(p178 e6_)then(bif(decide ((aa .i64 ((f178 e5_).1+e4_))>(aa .i64 ((f178 e6_).1+(1:Int)))))then(some (((a0.2.1.getD (ag (0:Int)) (0:Int)),(0:Int),a0.2.2.1,(0:Int),()),()))
 else bif(decide ((0:Int)<=e4_))then(bif e1_ then(bif e1_ then(some (((gm (a0.2.1.getD (ag (0:Int)) (0:Int)) e2_),e2_,a0.2.2.1,(Bl .u64 (a0.2.1.getD (ag (0:Int)) (0:Int)) e2_),()),()))
 else none)
 else none)
 else none)
 else none)
 else none)
 else bif e3_ then(bif e3_ then(Vx.Bi (w420_10 (((a1.2.1.getD (ag (0:Int)) (0:Int)),(aa .i64 (a0.2.2.1-a1.2.2.1)),(),(),()),(),(),((0:Int),(0:Int),(0:Int),(0:Int),()),((gm (a0.2.1.getD (ag (0:Int)) (0:Int)) (a1.2.1.getD (ag (0:Int)) (0:Int))),(a1.2.1.getD (ag (0:Int)) (0:Int)),a1.2.2.1,(Bl .u64 (a0.2.1.getD (ag (0:Int)) (0:Int)) (a1.2.1.getD (ag (0:Int)) (0:Int))),()),())) fun y5=>
 Vx.Bg y5 (fun y6=>
 some y6.2.2.2.2) (fun z6=>
 none))
 else none)
 else none)
 else none)
 else none
theorem bGc(x:DenS QH):run (cf [(115,⟨Gg,FI,p178,f178⟩),(136,⟨ER,EV,p328,f328⟩)] [(243,10,LoopSpec.of IQ nH Ow NF w420_10)]) 9 243 Tryz.f243 QH SH x=aSC p178 f178 p328 f328 w420_10 x.1 x.2.1:=by kernel_rfl
def aJr:IQ.D->Option (Ad Ow NF):=Bn fun L=>kF CB.pre CB.F Bq.pre Bq.F L some
def aIC(x:DenS QH):Option (DenS SH):=aSC CB.pre CB.F Bq.pre Bq.F aJr x.1 x.2.1
def pC:Sum:=Aj QH SH aIC (DenS.dflt SH)
theorem aVr:Sound Tryz.prog G1 243 pC:=sd (cf [(115,CB),(136,Bq)] [(243,10,LoopSpec.of IQ nH Ow NF aJr)]) 243 Tryz.f243 ⟨bF,oN,trivial⟩ ⟨rfl,fun d=>BI (fun L e x=>kF CB.pre CB.F Bq.pre Bq.F L e x) (bBD CB.pre CB.F Bq.pre Bq.F) (fun _ _ _ _=>bIM ..),trivial⟩ QH SH aIC _ (fun _=>bGc ..)
abbrev aKr:=Ag QH
abbrev aL0:=Af QH SH
variable (p420:aKr)(f420:aL0)
abbrev Mk:Aa:=[(false,Za),(false,Zb),(false,Zb),(false,.bool)]
abbrev Kx:Aa:=[(false,Zb),(false,Za),(false,Za),(false,Za)]
def aSD(p419:aKq)(f419:aLZ)(p40:UG)(f40:UJ)(p420:aKr)(f420:aL0)(p122:Ht)(f122:Hx)(a0:Ab Za)(a1 a2:Ab Zb)(a3:Ab (.bool)):Option (DenS Kx):=let e24_:=((f40 (a0,a1,())).1,(f40 (a0,a2,())).1,());let e23_:=(f420 e24_);let e20_:=(aa .u64 (e23_.1.2.1-e23_.1.1));let e22_:=(e23_.1.2.2.1,false,());let e14_:=(((0:Int),e20_,()),e22_);let e13_:=(a0,(2:Int),(f40 (a0,a1,())).1.1,e14_);let e12_:=(f122 e13_);let e1_:=(e12_.1,(aa .i64 (BS .u64 (aa .u64 (e23_.1.2.2.2.1+(1:Int))) (7:Int))),(0:Int),e12_.2.2);let e19_:=(((0:Int),e23_.1.1,()),e22_);let e17_:=(a0,(2:Int),(!(f40 (a0,a1,())).1.1),e19_);let e15_:=(f122 e17_);let e21_:=(aa .i64 (BS .u64 e23_.1.2.2.2.1 (7:Int)));let e2_:=(e15_.1,e21_,(0:Int),e15_.2.2);let e18_:=(a0,(2:Int),(f40 (a0,a1,())).1.1,e19_);let e16_:=(f122 e18_);let e3_:=(e16_.1,e21_,(0:Int),e16_.2.2);let e4_:=(f122 (a0,(2:Int),(!(f40 (a0,a1,())).1.1),e14_));let e5_:=(p122 e13_);let e6_:=(p122 e17_);let e7_:=(p122 e18_);let e8_:=(e20_==(0:Int));let e9_:=(aa .u64 ((2:Int)*e23_.1.1));let e10_:=(e23_.1.1==(0:Int));let e11_:=e23_;let g1_:Option (DenS Kx):=bif(a3&&false)then(bif e10_ then(bif e7_ then(some e3_)else none)else bif e6_ then(some e2_)else none)else bif e10_ then(bif e7_ then(some e3_)else none)else bif e7_ then(some e3_)else none;bif(p419 (a0,a1,a2,()))then(bif(f419 (a0,a1,a2,())).2.2.1 then(some ((f419 (a0,a1,a2,())).1,(0:Int),(f419 (a0,a1,a2,())).2.1,(f419 (a0,a1,a2,())).2.2.2))else bif(p40 (a0,a1,()))then(bif(p40 (a0,a2,()))then(bif(p420 e24_)then(bif a3 then(bif(((e11_.1.2.1==(0:Int))||(decide (e9_<e11_.1.2.1)))||((e9_==e11_.1.2.1)&&((BS .u64 e11_.1.2.2.2.1 (1:Int))==(0:Int))))then(g1_)else bif(a3&&true)then(bif e8_ then(bif e5_ then(some e1_)else none)else bif(p122 (a0,(2:Int),(!(f40 (a0,a1,())).1.1),((0:Int),(aa .u64 (e11_.1.2.1-e11_.1.1)),()),e11_.1.2.2.1,false,()))then(some (e4_.1,(aa .i64 (BS .u64 (aa .u64 (e11_.1.2.2.2.1+(1:Int))) (7:Int))),(0:Int),e4_.2.2))else none)else bif e8_ then(bif e5_ then(some e1_)else none)else bif e5_ then(some e1_)else none)else g1_)else none)else none)else none)else none
theorem bGd(x:DenS Mk):run (cf [(242,⟨QG,SG,p419,f419⟩),(203,⟨GW,Hc,p40,f40⟩),(243,⟨QH,SH,p420,f420⟩),(104,⟨Fh,FG,p122,f122⟩)] []) 9 214 Tryz.f214 Mk Kx x=aSD p419 f419 p40 f40 p420 f420 p122 f122 x.1 x.2.1 x.2.2.1 x.2.2.2.1:=by kernel_rfl
def aID(x:DenS Mk):Option (DenS Kx):=aSD o9.pre o9.F DP.pre DP.F pC.pre pC.F Ch.pre Ch.F x.1 x.2.1 x.2.2.1 x.2.2.2.1
def Vv:Sum:=Aj Mk Kx aID (DenS.dflt Kx)
theorem aG3:Sound Tryz.prog G1 214 Vv:=sd (cf [(242,o9),(203,DP),(243,pC),(104,Ch)] []) 214 Tryz.f214 ⟨aVp,bN,aVr,Xk,trivial⟩ trivial Mk Kx aID _ (fun _=>bGd ..)
abbrev aB8:=Ag Mk
abbrev aCY:=Af Mk Kx
variable (p421:aB8)(f421:aCY)
abbrev QI:Aa:=[(false,Za),(false,Zb),(false,Zb)]
abbrev SI:Aa:=[(false,Zb),(false,Za),(false,Za),(false,Za)]
def aSE(p421:aB8)(f421:aCY)(a0:Ab Za)(a1 a2:Ab Zb):Option (DenS SI):=bif(p421 (a0,a1,a2,true,()))then(some (f421 (a0,a1,a2,true,())))else none
theorem bGe(x:DenS QI):run (cf [(214,⟨Mk,Kx,p421,f421⟩)] []) 9 167 Tryz.f167 QI SI x=aSE p421 f421 x.1 x.2.1 x.2.2.1:=by kernel_rfl
def aIE(x:DenS QI):Option (DenS SI):=aSE Vv.pre Vv.F x.1 x.2.1 x.2.2.1
def bU:Sum:=Aj QI SI aIE (DenS.dflt SI)
theorem aG4:Sound Tryz.prog G1 167 bU:=sd (cf [(214,Vv)] []) 167 Tryz.f167 ⟨aG3,trivial⟩ trivial QI SI aIE _ (fun _=>bGe ..)
abbrev aKs:=Ag QI
abbrev aL1:=Af QI SI
variable (p422:aKs)(f422:aL1)
abbrev QJ:Aa:=[(false,Za),(false,Zb),(false,Zb)]
abbrev SJ:Aa:=[(false,Zb),(false,Za),(false,Za),(false,Za)]
def aSF(p421:aB8)(f421:aCY)(a0:Ab Za)(a1 a2:Ab Zb):Option (DenS SJ):=bif(p421 (a0,a1,a2,false,()))then(some (f421 (a0,a1,a2,false,())))else none
theorem bGf(x:DenS QJ):run (cf [(214,⟨Mk,Kx,p421,f421⟩)] []) 9 168 Tryz.f168 QJ SJ x=aSF p421 f421 x.1 x.2.1 x.2.2.1:=by kernel_rfl
def aIF(x:DenS QJ):Option (DenS SJ):=aSF Vv.pre Vv.F x.1 x.2.1 x.2.2.1
def bV:Sum:=Aj QJ SJ aIF (DenS.dflt SJ)
theorem aG5:Sound Tryz.prog G1 168 bV:=sd (cf [(214,Vv)] []) 168 Tryz.f168 ⟨aG3,trivial⟩ trivial QJ SJ aIF _ (fun _=>bGf ..)
abbrev aKt:=Ag QJ
abbrev aL2:=Af QJ SJ
variable (p423:aKt)(f423:aL2)
abbrev nS:Aa:=[(false,Za),(false,Zb),(false,Zb)]
abbrev aAF:Aa:=[(false,Zb),(false,Za),(false,Za),(false,Za)]
def nX:SumF:=Lu nS aAF [(167,[],bU),(168,[],bV)]
theorem aUi:L3 Tryz.prog G1 nX:=Ys ⟨DU aG4,⟨DU aG5,trivial⟩⟩
abbrev aJz:=Option (Nat×List Nat)->Ag nS
abbrev aK8:=Option (Nat×List Nat)->Af nS aAF
variable (p100004:aJz)(f100004:aK8)
abbrev QK:Aa:=[(true,Zz),(false,Zc)]
abbrev SK:Aa:=[(false,Zb),(false,Za),(false,Za)]
def aSG(p100004:aJz)(f100004:aK8)(a0:Ab Zz)(a1:Ab Zc):Option (DenS SK):=let e1_:=(f100004 (some (a1,[])) (a0.2.1,a0.2.2.1,a0.2.2.2.1,()));bif(p100004 (some (a1,[])) (a0.2.1,a0.2.2.1,a0.2.2.2.1,()))then(some (e1_.1,e1_.2.2))else none
theorem bGg(x:DenS QK):run ({cf [] []with fns:=[(246,⟨nS,aAF,p100004,f100004⟩)] }) 9 213 Tryz.f213 QK SK x=aSG p100004 f100004 x.1 x.2.1:=by kernel_rfl
def aIG(x:DenS QK):Option (DenS SK):=aSG nX.pre nX.F x.1 x.2.1
def TW:Sum:=Aj QK SK aIG (DenS.dflt SK)
theorem aAZ:Sound Tryz.prog G1 213 TW:=sd ({cf [] []with fns:=[(246,nX)] }) 213 Tryz.f213 trivial trivial QK SK aIG _ (fun _=>bGg ..) (hfs:=⟨aUi,trivial⟩)
abbrev aKu:=Ag QK
abbrev aL3:=Af QK SK
variable (p424:aKu)(f424:aL3)
abbrev Rn:Aa:=[(false,Za),(false,Za)]
abbrev Tq:Aa:=[(false,.bool)]
def t61(a0 a1:Ab Za):Option (DenS Tq):=some ((decide (a1<a0)),())
theorem r61(x:DenS Rn):run (cf [] []) 9 223 Tryz.f223 Rn Tq x=t61 x.1 x.2.1:=by kernel_rfl
def T61(x:DenS Rn):Option (DenS Tq):=t61 x.1 x.2.1
def pK:Sum:=Aj Rn Tq T61 (DenS.dflt Tq)
theorem aV2:Sound Tryz.prog G1 223 pK:=sd (cf [] []) 223 Tryz.f223 trivial trivial Rn Tq T61 _ (fun _=>r61 ..)
abbrev Y61:=Ag Rn
abbrev Z61:=Af Rn Tq
variable (p61:Y61)(f61:Z61)
abbrev J6:Aa:=[(false,Za),(false,Zb),(false,Zb)]
abbrev KF:Aa:=[(true,Zi),(true,Zi),(false,Za)]
def t52(p82:hZ)(f82:iO)(a0:Ab Za)(a1 a2:Ab Zb):Option (DenS KF):=bif(p82 (a0,a1,()))then(bif((f82 (a0,a1,())).2.1 !=(0:Int))then(some ((f82 (a0,a1,())).1,((0:Int),(0:Int),()),(f82 (a0,a1,())).2))else bif(p82 (a0,a2,()))then(some ((f82 (a0,a1,())).1,(f82 (a0,a2,()))))else none)else none
theorem r52(x:DenS J6):run (cf [(228,⟨Kc,KM,p82,f82⟩)] []) 9 245 Tryz.f245 J6 KF x=t52 p82 f82 x.1 x.2.1 x.2.2.1:=by kernel_rfl
def T52(x:DenS J6):Option (DenS KF):=t52 K5.pre K5.F x.1 x.2.1 x.2.2.1
def K4:Sum:=Aj J6 KF T52 (DenS.dflt KF)
theorem aA9:Sound Tryz.prog G1 245 K4:=sd (cf [(228,K5)] []) 245 Tryz.f245 ⟨aBe,trivial⟩ trivial J6 KF T52 _ (fun _=>r52 ..)
abbrev rY:=Ag J6
abbrev sO:=Af J6 KF
variable (p52:rY)(f52:sO)
abbrev PP:Aa:=[(false,Za),(false,Zb),(false,Zb)]
abbrev RT:Aa:=[(false,Zb),(false,Za),(false,Za)]
def t19(p61:Y61)(f61:Z61)(p52:rY)(f52:sO)(p54:VY)(f54:Wa)(p70:DG)(f70:DH)(p53:VX)(f53:V9)(a0:Ab Za)(a1 a2:Ab Zb):Option (DenS RT):=let e3_:=((f52 (a0,a1,a2,())).1,(f52 (a0,a1,a2,())).2.1,());let e1_:=((f54 e3_).1,(0:Int),());let e2_:=((f52 (a0,a1,a2,())).1.2.1,(f52 (a0,a1,a2,())).2.1.2);bif(p52 (a0,a1,a2,()))then(bif((f52 (a0,a1,a2,())).2.2.1 !=(0:Int))then(some ((0:Int),(0:Int),(f52 (a0,a1,a2,())).2.2))else bif(p54 e3_)then(bif(p53 ((f52 (a0,a1,a2,())).1,()))then(bif((p53 ((f52 (a0,a1,a2,())).2.1,()))||(!(f53 ((f52 (a0,a1,a2,())).1,())).1))then(bif((f53 ((f52 (a0,a1,a2,())).1,())).1&&(f53 ((f52 (a0,a1,a2,())).2.1,())).1)then(bif(p70 (a0,()))then(some ((f70 (a0,())).1,e1_))else none)else bif(p53 ((f52 (a0,a1,a2,())).1,()))then(bif((p53 ((f52 (a0,a1,a2,())).2.1,()))||(!(bif(f53 ((f52 (a0,a1,a2,())).1,())).1 then false else true)))then(bif((p61 e2_)||(!((bif(f53 ((f52 (a0,a1,a2,())).1,())).1 then false else true)&&(bif(f53 ((f52 (a0,a1,a2,())).2.1,())).1 then false else true))))then(bif((f53 ((f52 (a0,a1,a2,())).1,())).1||((!(f53 ((f52 (a0,a1,a2,())).2.1,())).1)&&((f61 e2_).1||(((f52 (a0,a1,a2,())).1.2.1==(0:Int))&&((f52 (a0,a1,a2,())).2.1.1==(5:Int))))))then(some (a2,e1_))else some (a1,e1_))else none)else none)else none)else none)else none)else none)else none
theorem r19(x:DenS PP):run (cf [(223,⟨Rn,Tq,p61,f61⟩),(245,⟨J6,KF,p52,f52⟩),(230,⟨GY,He,p54,f54⟩),(61,⟨DA,DB,p70,f70⟩),(229,⟨GX,Hd,p53,f53⟩)] []) 9 178 Tryz.f178 PP RT x=t19 p61 f61 p52 f52 p54 f54 p70 f70 p53 f53 x.1 x.2.1 x.2.2.1:=by kernel_rfl
def T19(x:DenS PP):Option (DenS RT):=t19 pK.pre pK.F K4.pre K4.F E2.pre E2.F Bp.pre Bp.F E1.pre E1.F x.1 x.2.1 x.2.2.1
def bG:Sum:=Aj PP RT T19 (DenS.dflt RT)
theorem aGH:Sound Tryz.prog G1 178 bG:=sd (cf [(223,pK),(245,K4),(230,E2),(61,Bp),(229,E1)] []) 178 Tryz.f178 ⟨aV2,aA9,bY,GJ,bW,trivial⟩ trivial PP RT T19 _ (fun _=>r19 ..)
abbrev Y19:=Ag PP
abbrev Z19:=Af PP RT
variable (p19:Y19)(f19:Z19)
abbrev Ro:Aa:=[(false,Za),(false,Za)]
abbrev Tr:Aa:=[(false,.bool)]
def t63(a0 a1:Ab Za):Option (DenS Tr):=some ((decide (a1>a0)),())
theorem r63(x:DenS Ro):run (cf [] []) 9 224 Tryz.f224 Ro Tr x=t63 x.1 x.2.1:=by kernel_rfl
def T63(x:DenS Ro):Option (DenS Tr):=t63 x.1 x.2.1
def pL:Sum:=Aj Ro Tr T63 (DenS.dflt Tr)
theorem aV3:Sound Tryz.prog G1 224 pL:=sd (cf [] []) 224 Tryz.f224 trivial trivial Ro Tr T63 _ (fun _=>r63 ..)
abbrev Y63:=Ag Ro
abbrev Z63:=Af Ro Tr
variable (p63:Y63)(f63:Z63)
abbrev PQ:Aa:=[(false,Za),(false,Zb),(false,Zb)]
abbrev RU:Aa:=[(false,Zb),(false,Za),(false,Za)]
def t21(p63:Y63)(f63:Z63)(p52:rY)(f52:sO)(p54:VY)(f54:Wa)(p70:DG)(f70:DH)(p53:VX)(f53:V9)(a0:Ab Za)(a1 a2:Ab Zb):Option (DenS RU):=let e3_:=((f52 (a0,a1,a2,())).1,(f52 (a0,a1,a2,())).2.1,());let e1_:=((f54 e3_).1,(0:Int),());let e2_:=((f52 (a0,a1,a2,())).1.2.1,(f52 (a0,a1,a2,())).2.1.2);bif(p52 (a0,a1,a2,()))then(bif((f52 (a0,a1,a2,())).2.2.1 !=(0:Int))then(some ((0:Int),(0:Int),(f52 (a0,a1,a2,())).2.2))else bif(p54 e3_)then(bif(p53 ((f52 (a0,a1,a2,())).1,()))then(bif((p53 ((f52 (a0,a1,a2,())).2.1,()))||(!(f53 ((f52 (a0,a1,a2,())).1,())).1))then(bif((f53 ((f52 (a0,a1,a2,())).1,())).1&&(f53 ((f52 (a0,a1,a2,())).2.1,())).1)then(bif(p70 (a0,()))then(some ((f70 (a0,())).1,e1_))else none)else bif(p53 ((f52 (a0,a1,a2,())).1,()))then(bif((p53 ((f52 (a0,a1,a2,())).2.1,()))||(!(bif(f53 ((f52 (a0,a1,a2,())).1,())).1 then false else true)))then(bif((p63 e2_)||(!((bif(f53 ((f52 (a0,a1,a2,())).1,())).1 then false else true)&&(bif(f53 ((f52 (a0,a1,a2,())).2.1,())).1 then false else true))))then(bif((f53 ((f52 (a0,a1,a2,())).1,())).1||((!(f53 ((f52 (a0,a1,a2,())).2.1,())).1)&&((f63 e2_).1||(((f52 (a0,a1,a2,())).1.2.1==(0:Int))&&((f52 (a0,a1,a2,())).2.1.1==(6:Int))))))then(some (a2,e1_))else some (a1,e1_))else none)else none)else none)else none)else none)else none)else none
theorem r21(x:DenS PQ):run (cf [(224,⟨Ro,Tr,p63,f63⟩),(245,⟨J6,KF,p52,f52⟩),(230,⟨GY,He,p54,f54⟩),(61,⟨DA,DB,p70,f70⟩),(229,⟨GX,Hd,p53,f53⟩)] []) 9 179 Tryz.f179 PQ RU x=t21 p63 f63 p52 f52 p54 f54 p70 f70 p53 f53 x.1 x.2.1 x.2.2.1:=by kernel_rfl
def T21(x:DenS PQ):Option (DenS RU):=t21 pL.pre pL.F K4.pre K4.F E2.pre E2.F Bp.pre Bp.F E1.pre E1.F x.1 x.2.1 x.2.2.1
def bH:Sum:=Aj PQ RU T21 (DenS.dflt RU)
theorem aGI:Sound Tryz.prog G1 179 bH:=sd (cf [(224,pL),(245,K4),(230,E2),(61,Bp),(229,E1)] []) 179 Tryz.f179 ⟨aV3,aA9,bY,GJ,bW,trivial⟩ trivial PQ RU T21 _ (fun _=>r21 ..)
abbrev Y21:=Ag PQ
abbrev Z21:=Af PQ RU
variable (p21:Y21)(f21:Z21)
abbrev nR:Aa:=[(false,Za),(false,Zb),(false,Zb)]
abbrev aAE:Aa:=[(false,Zb),(false,Za),(false,Za)]
def nW:SumF:=Lu nR aAE [(178,[],bG),(179,[],bH)]
theorem aUh:L3 Tryz.prog G1 nW:=Ys ⟨DU aGH,⟨DU aGI,trivial⟩⟩
abbrev aJy:=Option (Nat×List Nat)->Ag nR
abbrev aK7:=Option (Nat×List Nat)->Af nR aAE
variable (p100003:aJy)(f100003:aK7)
abbrev QL:Aa:=[(true,Zz),(false,Zc)]
abbrev SL:Aa:=[(false,Zb),(false,Za),(false,Za)]
def aSH(p100003:aJy)(f100003:aK7)(a0:Ab Zz)(a1:Ab Zc):Option (DenS SL):=bif(p100003 (some (a1,[])) (a0.2.1,a0.2.2.1,a0.2.2.2.1,()))then(some (f100003 (some (a1,[])) (a0.2.1,a0.2.2.1,a0.2.2.2.1,())))else none
theorem bGh(x:DenS QL):run ({cf [] []with fns:=[(57,⟨nR,aAE,p100003,f100003⟩)] }) 9 221 Tryz.f221 QL SL x=aSH p100003 f100003 x.1 x.2.1:=by kernel_rfl
def aIH(x:DenS QL):Option (DenS SL):=aSH nW.pre nW.F x.1 x.2.1
def TX:Sum:=Aj QL SL aIH (DenS.dflt SL)
theorem aA0:Sound Tryz.prog G1 221 TX:=sd ({cf [] []with fns:=[(57,nW)] }) 221 Tryz.f221 trivial trivial QL SL aIH _ (fun _=>bGh ..) (hfs:=⟨aUh,trivial⟩)
abbrev aKv:=Ag QL
abbrev aL4:=Af QL SL
variable (p425:aKv)(f425:aL4)
abbrev Px:Aa:=[(false,Za),(false,Zb),(false,Zb),(false,.bool)]
abbrev RB:Aa:=[(false,Za),(false,Za),(false,Za)]
def t14(p52:rY)(f52:sO)(p53:VX)(f53:V9)(p54:VY)(f54:Wa)(a0:Ab Za)(a1 a2:Ab Zb)(a3:Ab (.bool)):Option (DenS RB):=let e1_:=((f52 (a0,a1,a2,())).1,(f52 (a0,a1,a2,())).2.1,());bif(p52 (a0,a1,a2,()))then(bif((f52 (a0,a1,a2,())).2.2.1 !=(0:Int))then(some ((0:Int),(0:Int),(f52 (a0,a1,a2,())).2.2))else bif(p53 ((f52 (a0,a1,a2,())).1,()))then(bif((p53 ((f52 (a0,a1,a2,())).2.1,()))||(!(bif(f53 ((f52 (a0,a1,a2,())).1,())).1 then false else true)))then(bif((f53 ((f52 (a0,a1,a2,())).1,())).1||(f53 ((f52 (a0,a1,a2,())).2.1,())).1)then(bif(p54 e1_)then(bif a3 then(some ((3:Int),(1:Int),(0:Int),()))else some ((3:Int),(f54 e1_).1,(0:Int),()))else none)else bif(decide ((f52 (a0,a1,a2,())).1.2.1<(f52 (a0,a1,a2,())).2.1.2.1))then(some ((0:Int),(0:Int),(0:Int),()))else bif(decide ((f52 (a0,a1,a2,())).1.2.1>(f52 (a0,a1,a2,())).2.1.2.1))then(some ((2:Int),(0:Int),(0:Int),()))else some ((1:Int),(0:Int),(0:Int),()))else none)else none)else none
theorem r14(x:DenS Px):run (cf [(245,⟨J6,KF,p52,f52⟩),(229,⟨GX,Hd,p53,f53⟩),(230,⟨GY,He,p54,f54⟩)] []) 9 226 Tryz.f226 Px RB x=t14 p52 f52 p53 f53 p54 f54 x.1 x.2.1 x.2.2.1 x.2.2.2.1:=by kernel_rfl
def T14(x:DenS Px):Option (DenS RB):=t14 K4.pre K4.F E1.pre E1.F E2.pre E2.F x.1 x.2.1 x.2.2.1 x.2.2.2.1
def n6:Sum:=Aj Px RB T14 (DenS.dflt RB)
theorem aUy:Sound Tryz.prog G1 226 n6:=sd (cf [(245,K4),(229,E1),(230,E2)] []) 226 Tryz.f226 ⟨aA9,bW,bY,trivial⟩ trivial Px RB T14 _ (fun _=>r14 ..)
abbrev Y14:=Ag Px
abbrev Z14:=Af Px RB
variable (p14:Y14)(f14:Z14)
abbrev QM:Aa:=[(true,Zz),(false,.box .bool)]
abbrev SM:Aa:=[(false,Zb),(false,Za),(false,Za)]
def aSI(p14:Y14)(f14:Z14)(a0:Ab Zz)(a1:Ab (.box .bool)):Option (DenS SM):=let e1_:=(f14 (a0.2.1,a0.2.2.1,a0.2.2.2.1,a1,()));bif(p14 (a0.2.1,a0.2.2.1,a0.2.2.2.1,a1,()))then(some ((aa .u64 e1_.1),e1_.2))else none
theorem bGi(x:DenS QM):run (cf [(226,⟨Px,RB,p14,f14⟩)] []) 9 225 Tryz.f225 QM SM x=aSI p14 f14 x.1 x.2.1:=by kernel_rfl
def aII(x:DenS QM):Option (DenS SM):=aSI n6.pre n6.F x.1 x.2.1
def TY:Sum:=Aj QM SM aII (DenS.dflt SM)
theorem aA1:Sound Tryz.prog G1 225 TY:=sd (cf [(226,n6)] []) 225 Tryz.f225 ⟨aUy,trivial⟩ trivial QM SM aII _ (fun _=>bGi ..)
abbrev aKw:=Ag QM
abbrev aL5:=Af QM SM
variable (p426:aKw)(f426:aL5)
abbrev nT:Aa:=[(false,Za),(false,Zb)]
abbrev aAG:Aa:=[(false,Zb),(false,Za)]
def nY:SumF:=Lu nT aAG [(187,[],Fp),(188,[],KZ)]
theorem aUj:L3 Tryz.prog G1 nY:=Ys ⟨DU pM,⟨DU aAL,trivial⟩⟩
abbrev aJA:=Option (Nat×List Nat)->Ag nT
abbrev aK9:=Option (Nat×List Nat)->Af nT aAG
variable (p100005:aJA)(f100005:aK9)
abbrev QN:Aa:=[(true,Zz),(false,Zc)]
abbrev SN:Aa:=[(false,Zb),(false,Za),(false,Za)]
def aSJ(p100005:aJA)(f100005:aK9)(a0:Ab Zz)(a1:Ab Zc):Option (DenS SN):=let e1_:=(f100005 (some (a1,[])) (a0.2.1,a0.2.2.1,()));bif(p100005 (some (a1,[])) (a0.2.1,a0.2.2.1,()))then(some (e1_.1,(0:Int),e1_.2))else none
theorem bGj(x:DenS QN):run ({cf [] []with fns:=[(64,⟨nT,aAG,p100005,f100005⟩)] }) 9 232 Tryz.f232 QN SN x=aSJ p100005 f100005 x.1 x.2.1:=by kernel_rfl
def aIJ(x:DenS QN):Option (DenS SN):=aSJ nY.pre nY.F x.1 x.2.1
def TZ:Sum:=Aj QN SN aIJ (DenS.dflt SN)
theorem aA2:Sound Tryz.prog G1 232 TZ:=sd ({cf [] []with fns:=[(64,nY)] }) 232 Tryz.f232 trivial trivial QN SN aIJ _ (fun _=>bGj ..) (hfs:=⟨aUj,trivial⟩)
abbrev aKx:=Ag QN
abbrev aL6:=Af QN SN
variable (p427:aKx)(f427:aL6)
abbrev EP:Aa:=[(true,Zz)]
abbrev En:Aa:=[(false,Zb),(false,Za),(false,Za)]
def KX:SumF:=Lu EP En [(192,[160],JE EP En Ds.pre Ds.F 158),(192,[161],JE EP En Ds.pre Ds.F 159),(192,[162],JE EP En Ds.pre Ds.F 160),(192,[163],JE EP En Ds.pre Ds.F 161),(162,[],bJ),(164,[],bK),(169,[],bL),(171,[],bM),(173,[],bO),(175,[],bP),(181,[],bQ),(183,[],bR),(185,[],bS),(189,[],bT),(213,[169],JE EP En TW.pre TW.F 167),(213,[170],JE EP En TW.pre TW.F 168),(221,[180],JE EP En TX.pre TX.F 178),(221,[181],JE EP En TX.pre TX.F 179),(225,[0],aFX EP En TY.pre TY.F false),(225,[1],aFX EP En TY.pre TY.F true),(232,[189],JE EP En TZ.pre TZ.F 187),(232,[190],JE EP En TZ.pre TZ.F 188)]
theorem aUf:L3 Tryz.prog G1 KX:=Ys ⟨LA bI 158,⟨LA bI 159,⟨LA bI 160,⟨LA bI 161,⟨DU aGQ,⟨DU aGS,⟨DU aGV,⟨DU aGW,⟨DU aGX,⟨DU aGY,⟨DU aGZ,⟨DU aG0,⟨DU aG1,⟨DU aG2,⟨LA aAZ 167,⟨LA aAZ 168,⟨LA aA0 178,⟨LA aA0 179,⟨aN4 aA1 false,⟨aN4 aA1 true,⟨LA aA2 187,⟨LA aA2 188,trivial⟩⟩⟩⟩⟩⟩⟩⟩⟩⟩⟩⟩⟩⟩⟩⟩⟩⟩⟩⟩⟩⟩
abbrev aJw:=Option (Nat×List Nat)->Ag EP
abbrev aK5:=Option (Nat×List Nat)->Af EP En
variable (p100001:aJw)(f100001:aK5)
abbrev QO:Aa:=[(false,Za)]
abbrev SO:Aa:=[(false,.bool)]
def aSK(a0:Ab Za):Option (DenS SO):=some (((iZ .i64 a0 (31:Int))==(0:Int)),())
theorem bGk(x:DenS QO):run (cf [] []) 9 152 Tryz.f152 QO SO x=aSK x.1:=by kernel_rfl
def XK(x:DenS QO):Option (DenS SO):=aSK x.1
def T3:Sum:=Aj QO SO XK (DenS.dflt SO)
theorem aVs:Sound Tryz.prog G1 152 T3:=sd (cf [] []) 152 Tryz.f152 trivial trivial QO SO XK _ (fun _=>bGk ..)
abbrev aKy:=Ag QO
abbrev aL7:=Af QO SO
variable (p428:aKy)(f428:aL7)
abbrev QP:Aa:=[(true,Zp)]
abbrev SP:Aa:=[(false,Za)]
def yJ(p428:aKy)(f428:aL7)(a0:Ab Zp):Option (DenS SP):=bif((decide (a0.1<(0:Int)))||(decide (a0.1>(5:Int))))then(some ((3:Int),()))else bif(p428 (a0.2.1,()))then(bif((p428 a0.2.2)||(!(bif(!(f428 (a0.2.1,())).1)then false else true)))then(bif((!(f428 (a0.2.1,())).1)||(!(f428 a0.2.2).1))then(some ((7:Int),()))else some ((0:Int),()))else none)else none
theorem bGl(x:DenS QP):run (cf [(152,⟨QO,SO,p428,f428⟩)] []) 9 144 Tryz.f144 QP SP x=yJ p428 f428 x.1:=by kernel_rfl
def XL(x:DenS QP):Option (DenS SP):=yJ T3.pre T3.F x.1
def T4:Sum:=Aj QP SP XL (DenS.dflt SP)
theorem aVt:Sound Tryz.prog G1 144 T4:=sd (cf [(152,T3)] []) 144 Tryz.f144 ⟨aVs,trivial⟩ trivial QP SP XL _ (fun _=>bGl ..)
abbrev aKz:=Ag QP
abbrev aL8:=Af QP SP
variable (p429:aKz)(f429:aL8)
abbrev QR:Aa:=[(false,.pfn)]
abbrev SR:Aa:=[(true,.pair Za (.pair .fn .unit))]
def aSM(p395:aBU)(f395:aCK)(a0:Ab (.pfn)):Option (DenS SR):=some (((2:Int),(some ((192:Nat),((a0+(2:Nat))::[]))),()),())
theorem bGn(x:DenS QR):run (cf [(192,⟨Ql,MN,p395,f395⟩)] []) 9 157 Tryz.f157 QR SR x=aSM p395 f395 x.1:=by kernel_rfl
def aIL(x:DenS QR):Option (DenS SR):=aSM Ds.pre Ds.F x.1
def pD:Sum:=Aj QR SR aIL (DenS.dflt SR)
theorem aVu:Sound Tryz.prog G1 157 pD:=sd (cf [(192,Ds)] []) 157 Tryz.f157 ⟨bI,trivial⟩ trivial QR SR aIL _ (fun _=>bGn ..)
abbrev aKB:=Ag QR
abbrev aMa:=Af QR SR
variable (p430:aKB)(f430:aMa)
abbrev QS:Aa:=[(false,.pfn)]
abbrev SS:Aa:=[(true,.pair Za (.pair .fn .unit))]
def aSN(p424:aKu)(f424:aL3)(a0:Ab (.pfn)):Option (DenS SS):=some (((2:Int),(some ((213:Nat),((a0+(2:Nat))::[]))),()),())
theorem bGo(x:DenS QS):run (cf [(213,⟨QK,SK,p424,f424⟩)] []) 9 166 Tryz.f166 QS SS x=aSN p424 f424 x.1:=by kernel_rfl
def aIM(x:DenS QS):Option (DenS SS):=aSN TW.pre TW.F x.1
def pE:Sum:=Aj QS SS aIM (DenS.dflt SS)
theorem aVv:Sound Tryz.prog G1 166 pE:=sd (cf [(213,TW)] []) 166 Tryz.f166 ⟨aAZ,trivial⟩ trivial QS SS aIM _ (fun _=>bGo ..)
abbrev aKC:=Ag QS
abbrev aMb:=Af QS SS
variable (p431:aKC)(f431:aMb)
abbrev QT:Aa:=[(false,.pfn)]
abbrev SU:Aa:=[(true,.pair Za (.pair .fn .unit))]
def aSO(p425:aKv)(f425:aL4)(a0:Ab (.pfn)):Option (DenS SU):=some (((2:Int),(some ((221:Nat),((a0+(2:Nat))::[]))),()),())
theorem bGp(x:DenS QT):run (cf [(221,⟨QL,SL,p425,f425⟩)] []) 9 177 Tryz.f177 QT SU x=aSO p425 f425 x.1:=by kernel_rfl
def aIN(x:DenS QT):Option (DenS SU):=aSO TX.pre TX.F x.1
def pF:Sum:=Aj QT SU aIN (DenS.dflt SU)
theorem aVw:Sound Tryz.prog G1 177 pF:=sd (cf [(221,TX)] []) 177 Tryz.f177 ⟨aA0,trivial⟩ trivial QT SU aIN _ (fun _=>bGp ..)
abbrev aKD:=Ag QT
abbrev aMc:=Af QT SU
variable (p432:aKD)(f432:aMc)
abbrev QU:Aa:=[(false,.bool)]
abbrev SW:Aa:=[(true,.pair Za (.pair .fn .unit))]
def aSP(p426:aKw)(f426:aL5)(a0:Ab (.bool)):Option (DenS SW):=some (((2:Int),(some ((225:Nat),((bif a0 then(1:Nat)else(0:Nat))::[]))),()),())
theorem bGq(x:DenS QU):run (cf [(225,⟨QM,SM,p426,f426⟩)] []) 9 180 Tryz.f180 QU SW x=aSP p426 f426 x.1:=by kernel_rfl
def aIO(x:DenS QU):Option (DenS SW):=aSP TY.pre TY.F x.1
def pG:Sum:=Aj QU SW aIO (DenS.dflt SW)
theorem aVx:Sound Tryz.prog G1 180 pG:=sd (cf [(225,TY)] []) 180 Tryz.f180 ⟨aA1,trivial⟩ trivial QU SW aIO _ (fun _=>bGq ..)
abbrev aKE:=Ag QU
abbrev aMd:=Af QU SW
variable (p433:aKE)(f433:aMd)
abbrev QV:Aa:=[(false,.pfn)]
abbrev SX:Aa:=[(true,.pair Za (.pair .fn .unit))]
def aSQ(p427:aKx)(f427:aL6)(a0:Ab (.pfn)):Option (DenS SX):=some (((1:Int),(some ((232:Nat),((a0+(2:Nat))::[]))),()),())
theorem bGr(x:DenS QV):run (cf [(232,⟨QN,SN,p427,f427⟩)] []) 9 186 Tryz.f186 QV SX x=aSQ p427 f427 x.1:=by kernel_rfl
def aIP(x:DenS QV):Option (DenS SX):=aSQ TZ.pre TZ.F x.1
def pH:Sum:=Aj QV SX aIP (DenS.dflt SX)
theorem aVy:Sound Tryz.prog G1 186 pH:=sd (cf [(232,TZ)] []) 186 Tryz.f186 ⟨aA2,trivial⟩ trivial QV SX aIP _ (fun _=>bGr ..)
abbrev aKF:=Ag QV
abbrev aMe:=Af QV SX
variable (p434:aKF)(f434:aMe)
abbrev QW:Aa:=[]
abbrev SY:Aa:=[(false,.slice (.pair Za (.pair .fn .unit)))]
def aSR(p27:rL)(f27:sA)(p25:Y25)(f25:Z25)(p354:aBR)(f354:aCH)(p381:aBT)(f381:aCJ)(p430:aKB)(f430:aMa)(p396:aBV)(f396:aCL)(p402:aBX)(f402:aCN)(p422:aKs)(f422:aL1)(p423:aKt)(f423:aL2)(p431:aKC)(f431:aMb)(p407:aB0)(f407:aCQ)(p408:aB1)(f408:aCR)(p411:aB2)(f411:aCS)(p413:aB3)(f413:aCT)(p19:Y19)(f19:Z19)(p21:Y21)(f21:Z21)(p432:aKD)(f432:aMc)(p433:aKE)(f433:aMd)(p414:aB4)(f414:aCU)(p415:aB5)(f415:aCV)(p416:aB6)(f416:aCW)(p64:X3)(f64:Yf)(p112:rG)(f112:r5)(p434:aKF)(f434:aMe)(p418:aB7)(f418:aCX):Option (DenS SY):=bif(p430 ((158:Nat),()))then(bif(p430 ((159:Nat),()))then(bif(p430 ((160:Nat),()))then(bif(p430 ((161:Nat),()))then(bif(p431 ((167:Nat),()))then(bif(p431 ((168:Nat),()))then(bif(p432 ((178:Nat),()))then(bif(p432 ((179:Nat),()))then(bif(p433 (false,()))then(bif(p433 (true,()))then(bif(p434 ((187:Nat),()))then(bif(p434 ((188:Nat),()))then(some ((((0:Int),none,())::((f430 ((158:Nat),())).1::((f430 ((159:Nat),())).1::((f430 ((160:Nat),())).1::((f430 ((161:Nat),())).1::(((1:Int),(some ((162:Nat),[])),())::(((3:Int),(some ((164:Nat),[])),())::((f431 ((167:Nat),())).1::((f431 ((168:Nat),())).1::(((1:Int),(some ((169:Nat),[])),())::(((1:Int),(some ((171:Nat),[])),())::(((1:Int),(some ((173:Nat),[])),())::(((0:Int),(some ((175:Nat),[])),())::((f432 ((178:Nat),())).1::((f432 ((179:Nat),())).1::((f433 (false,())).1::((f433 (true,())).1::(((1:Int),(some ((181:Nat),[])),())::(((1:Int),(some ((183:Nat),[])),())::(((1:Int),(some ((185:Nat),[])),())::((f434 ((187:Nat),())).1::((f434 ((188:Nat),())).1::(((2:Int),(some ((189:Nat),[])),())::[]))))))))))))))))))))))),()))else none)else none)else none)else none)else none)else none)else none)else none)else none)else none)else none)else none
theorem bGs(x:DenS QW):run (cf [(158,⟨Mb,MG,p27,f27⟩),(159,⟨PR,RV,p25,f25⟩),(160,⟨P9,Sc,p354,f354⟩),(161,⟨Qh,MM,p381,f381⟩),(157,⟨QR,SR,p430,f430⟩),(162,⟨Qm,Sl,p396,f396⟩),(164,⟨Qr,Sq,p402,f402⟩),(167,⟨QI,SI,p422,f422⟩),(168,⟨QJ,SJ,p423,f423⟩),(166,⟨QS,SS,p431,f431⟩),(169,⟨Qt,Sr,p407,f407⟩),(171,⟨Qu,Ss,p408,f408⟩),(173,⟨Qy,Sw,p411,f411⟩),(175,⟨QA,Sy,p413,f413⟩),(178,⟨PP,RT,p19,f19⟩),(179,⟨PQ,RU,p21,f21⟩),(177,⟨QT,SU,p432,f432⟩),(180,⟨QU,SW,p433,f433⟩),(181,⟨QB,Sz,p414,f414⟩),(183,⟨QC,SA,p415,f415⟩),(185,⟨QD,SD,p416,f416⟩),(187,⟨J7,KG,p64,f64⟩),(188,⟨L5,My,p112,f112⟩),(186,⟨QV,SX,p434,f434⟩),(189,⟨QF,SF,p418,f418⟩)] []) 9 153 Tryz.f153 QW SY x=aSR p27 f27 p25 f25 p354 f354 p381 f381 p430 f430 p396 f396 p402 f402 p422 f422 p423 f423 p431 f431 p407 f407 p408 f408 p411 f411 p413 f413 p19 f19 p21 f21 p432 f432 p433 f433 p414 f414 p415 f415 p416 f416 p64 f64 p112 f112 p434 f434 p418 f418:=by kernel_rfl
def aIQ(x:DenS QW):Option (DenS SY):=aSR FR.pre FR.F NL.pre NL.F NM.pre NM.F NN.pre NN.F pD.pre pD.F bJ.pre bJ.F bK.pre bK.F bU.pre bU.F bV.pre bV.F pE.pre pE.F bL.pre bL.F bM.pre bM.F bO.pre bO.F bP.pre bP.F bG.pre bG.F bH.pre bH.F pF.pre pF.F pG.pre pG.F bQ.pre bQ.F bR.pre bR.F bS.pre bS.F Fp.pre Fp.F KZ.pre KZ.F pH.pre pH.F bT.pre bT.F
def GA:Sum:=Aj QW SY aIQ (DenS.dflt SY)
theorem aVz:Sound Tryz.prog G1 153 GA:=sd (cf [(158,FR),(159,NL),(160,NM),(161,NN),(157,pD),(162,bJ),(164,bK),(167,bU),(168,bV),(166,pE),(169,bL),(171,bM),(173,bO),(175,bP),(178,bG),(179,bH),(177,pF),(180,pG),(181,bQ),(183,bR),(185,bS),(187,Fp),(188,KZ),(186,pH),(189,bT)] []) 153 Tryz.f153 ⟨aAX,aGJ,aGN,aGP,aVu,aGQ,aGS,aG4,aG5,aVv,aGV,aGW,aGX,aGY,aGH,aGI,aVw,aVx,aGZ,aG0,aG1,pM,aAL,aVy,aG2,trivial⟩ trivial QW SY aIQ _ (fun _=>bGs ..)
abbrev aKG:=Ag QW
abbrev aMf:=Af QW SY
variable (p435:aKG)(f435:aMf)
abbrev QX:Aa:=[(false,Za)]
abbrev SZ:Aa:=[(true,.pair Za (.pair .fn .unit)),(false,Za)]
def aI(p435:aKG)(f435:aMf)(a0:Ab Za):Option (DenS SZ):=bif(p435 ())then(bif((decide (a0<(1:Int)))||(decide (a0>=((f435 ()).1.length:Int))))then(some (((0:Int),none,()),(190:Int),()))else bif((decide ((0:Int)<=a0))&&(decide (a0<((f435 ()).1.length:Int))))then(some (((f435 ()).1.getD (ag a0) ((0:Int),none,())),(0:Int),()))else none)else none
theorem bGt(x:DenS QX):run (cf [(153,⟨QW,SY,p435,f435⟩)] []) 9 145 Tryz.f145 QX SZ x=aI p435 f435 x.1:=by kernel_rfl
def NS(x:DenS QX):Option (DenS SZ):=aI GA.pre GA.F x.1
def NO:Sum:=Aj QX SZ NS (DenS.dflt SZ)
theorem aVA:Sound Tryz.prog G1 145 NO:=sd (cf [(153,GA)] []) 145 Tryz.f145 ⟨aVz,trivial⟩ trivial QX SZ NS _ (fun _=>bGt ..)
abbrev aKH:=Ag QX
abbrev aMg:=Af QX SZ
variable (p436:aKH)(f436:aMg)
abbrev QY:Aa:=[(false,Za),(true,.pair Za (.pair .fn .unit)),(true,Zz)]
abbrev Ky:Aa:=[(false,Za)]
abbrev IR:Pat:=⟨84,[(43,.one (.v .i64)),(42,.one (.sl Zb)),(44,.one (.v .i64)),(0,.one (.v .i64)),(5,.one (.ptr 1 0))],[.gone,.raw [.v .i64,.v .i64,.v .u64,.v .u64,.v .u64]]⟩
abbrev nI:List (Nat×Shape):=[]
abbrev Ox:List (Nat×Pat):=[(1,⟨84,[(0,.one (.v .i64)),(5,.one (.ptr 1 0))],[.gone,.raw [.v .i64,.v .i64,.v .u64,.v .u64,.v .u64]]⟩)]
abbrev NG:Option Pat:=(some ⟨84,[(6,.one (.v .i64))],[]⟩)
variable (w437_13:Pat.D IR->Option (Ad Ox NG))
def ZH(p69:BY)(f69:BZ)(p66:Cd)(f66:Ce){R:Type}(L:Pat.D IR->Option R)(e:Ad Ox NG->Option R)(x:Pat.D IR):Option R:=let e2_:=(x.2.2.1.2.1,(x.1.2.1.getD (ag x.1.2.2.1) (0:Int)),());let e1_:=(f66 e2_);bif(decide (x.1.2.2.1<x.1.1))then(bif((decide ((0:Int)<=x.1.2.2.1))&&(decide (x.1.2.2.1<(x.1.2.1.length:Int))))then(bif(p66 e2_)then(bif(e1_.1 !=(0:Int))then(((e (.inr (e1_,())))))else(L ((x.1.1,x.1.2.1,(aa .i64 (x.1.2.2.1+(1:Int))),x.1.2.2.2.1,(),()),(),x.2.2)))else none)else none)else(e (.inl ((x.1.2.2.2.1,(),()),(),x.2.2)))
theorem bIN(d:Nat)(R:Type)(L:Pat.D IR->Option R)(e:Ad Ox NG->Option R)(x:Pat.D IR):
  Bv (cf [(71,⟨Cb,Cc,p69,f69⟩),(85,⟨Cx,Cy,p66,f66⟩)] [(146,13,LoopSpec.of IR nI Ox NG w437_13)]) (d+2) 146 (Bu Tryz.f146 13) IR nI Ox NG (R:=R) L e x=ZH p69 f69 p66 f66 L e x:=by kernel_rfl
theorem aPJ(p69:BY)(f69:BZ)(p66:Cd)(f66:Ce):Bt fun L e x=>ZH p69 f69 p66 f66 L e x:=by intro _ _ _ _ _ _ _ h0 hL he _;unfold ZH;repeat' (first|exact h0|exact hL _|exact he _|apply BJ|(apply BK h0;intro _)|(apply BL<;>intro _))
def yK(p69:BY)(f69:BZ)(p66:Cd)(f66:Ce)(w437_13:Pat.D IR->Option (Ad Ox NG))(a0:Ab Za)(a1:Ab (.pair Za (.pair .fn .unit)))(a2:Ab Zz):Option (DenS Ky):=
 let e4_:=(a2.2.2.1::(a2.2.2.2.1::(a2.2.2.2.2.1::[])))
 let e3_:=((e4_.take (ag a1.1)).drop (ag (0:Int)))
 let e1_:=(w437_13 (((e3_.length:Int),e3_,(0:Int),a0,(),()),(),(a2.1,a2.2),()))
 let e2_:=((decide ((0:Int)<=a1.1))&&(decide (a1.1<=(e4_.length:Int))))
 let g1_:Option (DenS Ky):=bif(decide (a2.2.2.2.2.1>(3:Int)))then(some ((9:Int),()))
 else bif e2_ then(Vx.Bi e1_ fun y7=>
 Vx.Bg y7 (fun y8=>
 bif(y8.1.1==(12:Int))then(bif((((aa .i64 y8.2.2.1.2.2.2.2.1)==(0:Int))&&((aa .u64 (aa .i64 (aa .i32 y8.2.2.1.2.2.1)))!=y8.2.2.1.2.2.1))||(((aa .i64 y8.2.2.1.2.2.2.2.1)==(2:Int))&&((AQ .u64 y8.2.2.1.2.2.1 (32:Int))!=(0:Int))))then(some ((4:Int),()))
 else some ((0:Int),()))
 else some ((0:Int),())) (fun z8=>
 some z8.1))
 else none
 let g2_:Option (DenS Ky):=bif e2_ then(Vx.Bi e1_ fun y6=>
 Vx.Bg y6 (fun y7=>
 bif(y7.1.1==(12:Int))then(bif((((aa .i64 y7.2.2.1.2.2.2.2.1)==(0:Int))&&((aa .u64 (aa .i64 (aa .i32 y7.2.2.1.2.2.1)))!=y7.2.2.1.2.2.1))||(((aa .i64 y7.2.2.1.2.2.2.2.1)==(2:Int))&&((AQ .u64 y7.2.2.1.2.2.1 (32:Int))!=(0:Int))))then(some ((4:Int),()))
 else some ((0:Int),()))
 else some ((0:Int),())) (fun z7=>
 some z7.1))
 else none
 bif(p69 (a2.2.1,()))then(bif((f69 (a2.2.1,())).2.1 !=(0:Int))then(some (f69 (a2.2.1,())).2)
 else bif(a0==(10:Int))then(bif(decide (a2.2.2.2.2.1>(3:Int)))then(some ((2:Int),()))
 else bif e2_ then(Vx.Bi e1_ fun y5=>
 Vx.Bg y5 (fun y6=>
 bif(y6.1.1==(12:Int))then(bif((((aa .i64 y6.2.2.1.2.2.2.2.1)==(0:Int))&&((aa .u64 (aa .i64 (aa .i32 y6.2.2.1.2.2.1)))!=y6.2.2.1.2.2.1))||(((aa .i64 y6.2.2.1.2.2.2.2.1)==(2:Int))&&((AQ .u64 y6.2.2.1.2.2.1 (32:Int))!=(0:Int))))then(some ((4:Int),()))
 else some ((0:Int),()))
 else some ((0:Int),())) (fun z6=>
 some z6.1))
 else none)
 else bif(a0==(11:Int))then(bif(a0==(11:Int))then(g1_)
 else g2_)
 else bif(a0==(12:Int))then(g1_)
 else g2_)
 else none
theorem bGu(x:DenS QY):run (cf [(71,⟨Cb,Cc,p69,f69⟩),(85,⟨Cx,Cy,p66,f66⟩)] [(146,13,LoopSpec.of IR nI Ox NG w437_13)]) 9 146 Tryz.f146 QY Ky x=yK p69 f69 p66 f66 w437_13 x.1 x.2.1 x.2.2.1:=by kernel_rfl
def rB:IR.D->Option (Ad Ox NG):=Bn fun L=>ZH As.pre As.F Aw.pre Aw.F L some
def eG(x:DenS QY):Option (DenS Ky):=yK As.pre As.F Aw.pre Aw.F rB x.1 x.2.1 x.2.2.1
def T5:Sum:=Aj QY Ky eG (DenS.dflt Ky)
theorem aVB:Sound Tryz.prog G1 146 T5:=sd (cf [(71,As),(85,Aw)] [(146,13,LoopSpec.of IR nI Ox NG rB)]) 146 Tryz.f146 ⟨DQ,FT,trivial⟩ ⟨rfl,fun d=>BI (fun L e x=>ZH As.pre As.F Aw.pre Aw.F L e x) (aPJ As.pre As.F Aw.pre Aw.F) (fun _ _ _ _=>bIN ..),trivial⟩ QY Ky eG _ (fun _=>bGu ..)
abbrev aKI:=Ag QY
abbrev aMh:=Af QY Ky
variable (p437:aKI)(f437:aMh)
abbrev QZ:Aa:=[(true,Zp),(false,Za),(false,Za),(false,Zb),(false,Zb),(false,Zb)]
abbrev S2:Aa:=[(true,.pair Zb (.pair Za (.pair Za (.pair Zp .unit)))),(false,Za)]
def yL(p429:aKz)(f429:aL8)(p436:aKH)(f436:aMg)(p437:aKI)(f437:aMh)(p100001:aJw)(f100001:aK5)(a0:Ab Zp)(a1 a2:Ab Za)(a3 a4 a5:Ab Zb):Option (DenS S2):=let e5_:=(f100001 (f436 (a1,())).1.2.1 ((a0.1,a2,a3,a4,a5,()),()));let e1_:=(BS .i64 e5_.2.1 a0.2.2.1);let e2_:=((0:Int),(0:Int),(0:Int),((0:Int),(0:Int),(0:Int),()),());let e6_:=(a1,(f436 (a1,())).1,(a0.1,a2,a3,a4,a5,()),());let e3_:=(f437 e6_);let e4_:=e5_;bif(p429 ((a0.1,a0.2),()))then(bif((f429 ((a0.1,a0.2),())).1 !=(0:Int))then(some (e2_,(f429 ((a0.1,a0.2),()))))else bif(p436 (a1,()))then(bif((f436 (a1,())).2.1 !=(0:Int))then(some (e2_,(f436 (a1,())).2))else bif(p437 e6_)then(bif(e3_.1 !=(0:Int))then(some (e2_,e3_))else bif(p100001 (f436 (a1,())).1.2.1 ((a0.1,a2,a3,a4,a5,()),()))then(bif(e4_.2.2.1 !=(0:Int))then(some (e2_,e4_.2.2))else bif(e1_ !=(0:Int))then(some (((0:Int),e4_.2.1,(BS .i64 e1_ (aa .i64 ((0:Int)-e1_))),(a0.1,a0.2),()),(0:Int),()))else some ((e4_.1,e4_.2.1,(0:Int),(a0.1,(Ak .i64 a0.2.1 e4_.2.1),a0.2.2),()),(0:Int),()))else none)else none)else none)else none
theorem bGv(x:DenS QZ):run ({cf [(144,⟨QP,SP,p429,f429⟩),(145,⟨QX,SZ,p436,f436⟩),(146,⟨QY,Ky,p437,f437⟩)] []with fns:=[(57,⟨EP,En,p100001,f100001⟩)] }) 9 125 Tryz.f125 QZ S2 x=yL p429 f429 p436 f436 p437 f437 p100001 f100001 x.1 x.2.1 x.2.2.1 x.2.2.2.1 x.2.2.2.2.1 x.2.2.2.2.2.1:=by kernel_rfl
def UA(x:DenS QZ):Option (DenS S2):=yL T4.pre T4.F NO.pre NO.F T5.pre T5.F KX.pre KX.F x.1 x.2.1 x.2.2.1 x.2.2.2.1 x.2.2.2.2.1 x.2.2.2.2.2.1
def T6:Sum:=Aj QZ S2 UA (DenS.dflt S2)
theorem aVC:Sound Tryz.prog G1 125 T6:=sd ({cf [(144,T4),(145,NO),(146,T5)] []with fns:=[(57,KX)] }) 125 Tryz.f125 ⟨aVt,aVA,aVB,trivial⟩ trivial QZ S2 UA _ (fun _=>bGv ..) (hfs:=⟨aUf,trivial⟩)
abbrev aKJ:=Ag QZ
abbrev aMi:=Af QZ S2
variable (p438:aKJ)(f438:aMi)
abbrev H3:Aa:=[(false,Za),(false,Zb),(false,Zb)]
abbrev Ih:Aa:=[(false,Zb)]
abbrev Fk:LK:=.ref Zp
def yM(p438:aKJ)(f438:aMi)(l0:LK.D (.ref Zp))(a0:Ab Za)(a1 a2:Ab Zb):Option (LK.B Fk×DenS Ih):=let e2_:=((l0.2.1,(0:Int),(0:Int),()),a0,l0.1,a1,a2,(0:Int),());let e1_:=(f438 e2_);bif(p438 e2_)then(some ((l0.1,l0.2.1,(Ak .i64 l0.2.2.1 e1_.1.2.1),()),e1_.1.1,()))else none
theorem bGw(x:LK.D Fk×DenS H3):Dd (cf [(125,⟨QZ,S2,p438,f438⟩)] []) 9 106 Tryz.f106 Fk H3 Ih x=yM p438 f438 x.1 x.2.1 x.2.2.1 x.2.2.2.1:=by kernel_rfl
def eH(x:LK.D Fk×DenS H3):Option (LK.B Fk×DenS Ih):=yM T6.pre T6.F x.1 x.2.1 x.2.2.1 x.2.2.2.1
def Df:SumL:=De Fk H3 Ih eH (LK.dflt Fk,DenS.dflt Ih)
theorem pI:SoundL Tryz.prog G1 106 Df:=Ej (cf [(125,T6)] []) 106 Tryz.f106 ⟨aVC,trivial⟩ trivial Fk H3 Ih eH _ (fun _=>bGw ..)
abbrev gT:=LK.D Fk×DenS H3->Bool
abbrev iG:=LK.D Fk×DenS H3->LK.B Fk×DenS Ih
variable (p464:gT)(f464:iG)
abbrev Ml:Aa:=[(false,Zb),(false,Zb)]
abbrev MT:Aa:=[(false,Zb)]
abbrev Gh:LK:=.ref Zp
def yN(p464:gT)(f464:iG)(l0:LK.D (.ref Zp))(a0 a1:Ab Zb):Option (LK.B Gh×DenS MT):=bif(p464 ((l0.1,l0.2),(3:Int),a0,a1,()))then(some (f464 ((l0.1,l0.2),(3:Int),a0,a1,())))else none
theorem bGx(x:LK.D Gh×DenS Ml):Dd ({cf [] []with lsums:=[(106,⟨Fk,H3,Ih,p464,f464⟩)] }) 9 79 Tryz.f79 Gh Ml MT x=yN p464 f464 x.1 x.2.1 x.2.2.1:=by kernel_rfl
def eI(x:LK.D Gh×DenS Ml):Option (LK.B Gh×DenS MT):=yN Df.pre Df.F x.1 x.2.1 x.2.2.1
def GB:SumL:=De Gh Ml MT eI (LK.dflt Gh,DenS.dflt MT)
theorem aG6:SoundL Tryz.prog G1 79 GB:=Ej ({cf [] []with lsums:=[(106,Df)] }) 79 Tryz.f79 trivial trivial Gh Ml MT eI _ (fun _=>bGx ..) (hls:=⟨pI,trivial⟩)
abbrev aB9:=LK.D Gh×DenS Ml->Bool
abbrev aCZ:=LK.D Gh×DenS Ml->LK.B Gh×DenS MT
variable (p465:aB9)(f465:aCZ)
abbrev Mm:Aa:=[(false,Zb),(false,Zb)]
abbrev MU:Aa:=[(false,Zb)]
abbrev Gi:LK:=.ref Zp
def yO(p464:gT)(f464:iG)(l0:LK.D (.ref Zp))(a0 a1:Ab Zb):Option (LK.B Gi×DenS MU):=bif(p464 ((l0.1,l0.2),(2:Int),a0,a1,()))then(some (f464 ((l0.1,l0.2),(2:Int),a0,a1,())))else none
theorem bGy(x:LK.D Gi×DenS Mm):Dd ({cf [] []with lsums:=[(106,⟨Fk,H3,Ih,p464,f464⟩)] }) 9 80 Tryz.f80 Gi Mm MU x=yO p464 f464 x.1 x.2.1 x.2.2.1:=by kernel_rfl
def eJ(x:LK.D Gi×DenS Mm):Option (LK.B Gi×DenS MU):=yO Df.pre Df.F x.1 x.2.1 x.2.2.1
def GC:SumL:=De Gi Mm MU eJ (LK.dflt Gi,DenS.dflt MU)
theorem aG7:SoundL Tryz.prog G1 80 GC:=Ej ({cf [] []with lsums:=[(106,Df)] }) 80 Tryz.f80 trivial trivial Gi Mm MU eJ _ (fun _=>bGy ..) (hls:=⟨pI,trivial⟩)
abbrev aCa:=LK.D Gi×DenS Mm->Bool
abbrev aC0:=LK.D Gi×DenS Mm->LK.B Gi×DenS MU
variable (p466:aCa)(f466:aC0)
abbrev J0:Aa:=[(false,Zb),(false,Zb)]
abbrev Kz:Aa:=[(false,Zb)]
abbrev FB:LK:=.ref Zp
def yP(p464:gT)(f464:iG)(l0:LK.D (.ref Zp))(a0 a1:Ab Zb):Option (LK.B FB×DenS Kz):=bif(p464 ((l0.1,l0.2),(1:Int),a0,a1,()))then(some (f464 ((l0.1,l0.2),(1:Int),a0,a1,())))else none
theorem bGz(x:LK.D FB×DenS J0):Dd ({cf [] []with lsums:=[(106,⟨Fk,H3,Ih,p464,f464⟩)] }) 9 76 Tryz.f76 FB J0 Kz x=yP p464 f464 x.1 x.2.1 x.2.2.1:=by kernel_rfl
def eK(x:LK.D FB×DenS J0):Option (LK.B FB×DenS Kz):=yP Df.pre Df.F x.1 x.2.1 x.2.2.1
def Es:SumL:=De FB J0 Kz eK (LK.dflt FB,DenS.dflt Kz)
theorem aA3:SoundL Tryz.prog G1 76 Es:=Ej ({cf [] []with lsums:=[(106,Df)] }) 76 Tryz.f76 trivial trivial FB J0 Kz eK _ (fun _=>bGz ..) (hls:=⟨pI,trivial⟩)
abbrev rS:=LK.D FB×DenS J0->Bool
abbrev sI:=LK.D FB×DenS J0->LK.B FB×DenS Kz
variable (p467:rS)(f467:sI)
abbrev Q0:Aa:=[(true,Zj),(true,Zj)]
abbrev S3:Aa:=[(true,Zj)]
abbrev G2:LK:=.ref Zp
def yQ(p465:aB9)(f465:aCZ)(p466:aCa)(f466:aC0)(p467:rS)(f467:sI)(l0:LK.D (.ref Zp))(a0 a1:Ab Zj):Option (LK.B G2×DenS S3):=let e10_:=((f465 ((l0.1,l0.2),a0.1,a1.1,())).1,a0.2.1,a1.2);let e9_:=(f465 e10_);let e8_:=(f465 (e9_.1,a0.1,a1.2));let e7_:=(f465 (e8_.1,a0.2.1,a1.1,()));let e6_:=(f466 (e7_.1,(f465 ((l0.1,l0.2),a0.1,a1.1,())).2.1,e9_.2));let e1_:=(f467 (e6_.1,e8_.2.1,e7_.2));let e2_:=e6_;let e3_:=e7_;let e4_:=e8_;let e5_:=e9_;bif(p465 ((l0.1,l0.2),a0.1,a1.1,()))then(bif(p465 e10_)then(bif(p465 (e5_.1,a0.1,a1.2))then(bif(p465 (e4_.1,a0.2.1,a1.1,()))then(bif(p466 (e3_.1,(f465 ((l0.1,l0.2),a0.1,a1.1,())).2.1,e5_.2))then(bif(p467 (e2_.1,e4_.2.1,e3_.2))then(some (e1_.1,(e2_.2.1,e1_.2),()))else none)else none)else none)else none)else none)else none
theorem bGA(x:LK.D G2×DenS Q0):Dd ({cf [] []with lsums:=[(79,⟨Gh,Ml,MT,p465,f465⟩),(80,⟨Gi,Mm,MU,p466,f466⟩),(76,⟨FB,J0,Kz,p467,f467⟩)] }) 9 42 Tryz.f42 G2 Q0 S3 x=yQ p465 f465 p466 f466 p467 f467 x.1 x.2.1 x.2.2.1:=by kernel_rfl
def eN(x:LK.D G2×DenS Q0):Option (LK.B G2×DenS S3):=yQ GB.pre GB.F GC.pre GC.F Es.pre Es.F x.1 x.2.1 x.2.2.1
def T7:SumL:=De G2 Q0 S3 eN (LK.dflt G2,DenS.dflt S3)
theorem aVE:SoundL Tryz.prog G1 42 T7:=Ej ({cf [] []with lsums:=[(79,GB),(80,GC),(76,Es)] }) 42 Tryz.f42 trivial trivial G2 Q0 S3 eN _ (fun _=>bGA ..) (hls:=⟨aG6,aG7,aA3,trivial⟩)
abbrev aCb:=LK.D G2×DenS Q0->Bool
abbrev aC1:=LK.D G2×DenS Q0->LK.B G2×DenS S3
variable (p468:aCb)(f468:aC1)
abbrev J1:Aa:=[(false,Zm)]
abbrev KA:Aa:=[(false,Za)]
abbrev FC:LK:=.ref Zp
abbrev IS:Pat:=⟨32,[(8,.one (.v .i64)),(7,.one (.sl Zj)),(0,.one (.ptr 0 0)),(9,.one (.v .i64))],[.raw [.v .i64,.v .i64,.v .i64]]⟩
abbrev nJ:List (Nat×Shape):=[]
abbrev Oy:List (Nat×Pat):=[(0,⟨32,[],[.raw [.v .i64,.v .i64,.v .i64]]⟩)]
abbrev NH:Option Pat:=(some ⟨32,[(4,.one (.v .i64))],[.raw [.v .i64,.v .i64,.v .i64]]⟩)
variable (w469_2:Pat.D IS->Option (Ad Oy NH))
def ZI(p66:Cd)(f66:Ce){R:Type}(L:Pat.D IS->Option R)(e:Ad Oy NH->Option R)(x:Pat.D IS):Option R:=let e4_:=(x.1.2.1.getD (ag x.1.2.2.2.1) ((0:Int),(0:Int),()));let e3_:=(x.2.1.1,e4_.1,());let e1_:=((f66 e3_).1 !=(0:Int));let e2_:=(x.2.1.1,e4_.2);bif(decide (x.1.2.2.2.1<x.1.1))then(bif((decide ((0:Int)<=x.1.2.2.2.1))&&(decide (x.1.2.2.2.1<(x.1.2.1.length:Int))))then(bif(p66 e3_)then(bif((p66 e2_)||(!(bif e1_ then false else true)))then(bif(e1_||((f66 e2_).1 !=(0:Int)))then(((e (.inr (((4:Int),()),x.2)))))else(L ((x.1.1,x.1.2.1,(),(aa .i64 (x.1.2.2.2.1+(1:Int))),()),x.2)))else none)else none)else none)else(e (.inl ((),x.2)))
theorem bIO(d:Nat)(R:Type)(L:Pat.D IS->Option R)(e:Ad Oy NH->Option R)(x:Pat.D IS):
  Bv (cf [(85,⟨Cx,Cy,p66,f66⟩)] [(53,2,LoopSpec.of IS nJ Oy NH w469_2 1)]) (d+2) 53 (Bu Tryz.f53 2) IS nJ Oy NH (R:=R) L e x 1=ZI p66 f66 L e x:=by kernel_rfl
theorem aPK(p66:Cd)(f66:Ce):Bt fun L e x=>ZI p66 f66 L e x:=by intro _ _ _ _ _ _ _ h0 hL he _;unfold ZI;repeat' (first|exact h0|exact hL _|exact he _|apply BJ|(apply BK h0;intro _)|(apply BL<;>intro _))
def yR(p66:Cd)(f66:Ce)(w469_2:Pat.D IS->Option (Ad Oy NH))(l0:LK.D (.ref Zp))(a0:Ab Zm):Option (LK.B FC×DenS KA):=
 Vx.Bi (w469_2 (((a0.length:Int),a0,(),(0:Int),()),(l0.1,l0.2),())) fun y0=>
 Vx.Bg y0 (fun y1=>
 some (y1.2.1,(0:Int),())) (fun z1=>
 some (z1.2.1,z1.1))
theorem bGB(x:LK.D FC×DenS J1):Dd (cf [(85,⟨Cx,Cy,p66,f66⟩)] [(53,2,LoopSpec.of IS nJ Oy NH w469_2 1)]) 9 53 Tryz.f53 FC J1 KA x=yR p66 f66 w469_2 x.1 x.2.1:=by kernel_rfl
def gM:IS.D->Option (Ad Oy NH):=Bn fun L=>ZI Aw.pre Aw.F L some
def UB(x:LK.D FC×DenS J1):Option (LK.B FC×DenS KA):=yR Aw.pre Aw.F gM x.1 x.2.1
def Et:SumL:=De FC J1 KA UB (LK.dflt FC,DenS.dflt KA)
theorem aA4:SoundL Tryz.prog G1 53 Et:=Ej (cf [(85,Aw)] [(53,2,LoopSpec.of IS nJ Oy NH gM 1)]) 53 Tryz.f53 ⟨FT,trivial⟩ ⟨rfl,fun d=>BI (fun L e x=>ZI Aw.pre Aw.F L e x) (aPK Aw.pre Aw.F) (fun _ _ _ _=>bIO ..),trivial⟩ FC J1 KA UB _ (fun _=>bGB ..)
abbrev gU:=LK.D FC×DenS J1->Bool
abbrev iH:=LK.D FC×DenS J1->LK.B FC×DenS KA
variable (p469:gU)(f469:iH)
abbrev Mo:Aa:=[(false,Za),(false,Za),(true,Zj),(true,Zj)]
abbrev MW:Aa:=[(true,Zj),(false,Za),(false,Za)]
def yS(p468:aCb)(f468:aC1)(p69:BY)(f69:BZ)(p469:gU)(f469:iH)(a0 a1:Ab Za)(a2 a3:Ab Zj):Option (DenS MW):=let e4_:=((a0,a1,(0:Int),()),((a2.1,a2.2)::((a3.1,a3.2)::[])),());let e3_:=(f469 e4_);let e1_:=(f468 (e3_.1,(a2.1,a2.2),(a3.1,a3.2),()));let e2_:=e3_;bif(p69 (a0,()))then(bif((f69 (a0,())).2.1 !=(0:Int))then(bif((f69 (a0,())).2.1 !=(0:Int))then(some (((0:Int),(0:Int),()),(0:Int),(f69 (a0,())).2))else none)else bif((decide (a1<(0:Int)))||(decide (a1>(5:Int))))then(some (((0:Int),(0:Int),()),(0:Int),(3:Int),()))else bif(p469 e4_)then(bif(e2_.2.1 !=(0:Int))then(some (((0:Int),(0:Int),()),(0:Int),e2_.2))else bif(p468 (e2_.1,(a2.1,a2.2),(a3.1,a3.2),()))then(some (e1_.2.1,e1_.1.2.2.1,(0:Int),()))else none)else none)else none
theorem bGD(x:DenS Mo):run ({cf [(71,⟨Cb,Cc,p69,f69⟩)] []with lsums:=[(42,⟨G2,Q0,S3,p468,f468⟩),(53,⟨FC,J1,KA,p469,f469⟩)] }) 9 13 Tryz.f13 Mo MW x=yS p468 f468 p69 f69 p469 f469 x.1 x.2.1 x.2.2.1 x.2.2.2.1:=by kernel_rfl
def VJ(x:DenS Mo):Option (DenS MW):=yS T7.pre T7.F As.pre As.F Et.pre Et.F x.1 x.2.1 x.2.2.1 x.2.2.2.1
def GD:Sum:=Aj Mo MW VJ (DenS.dflt MW)
theorem aG8:Sound Tryz.prog G1 13 GD:=sd ({cf [(71,As)] []with lsums:=[(42,T7),(53,Et)] }) 13 Tryz.f13 ⟨DQ,trivial⟩ trivial Mo MW VJ _ (fun _=>bGD ..) (hls:=⟨aVE,aA4,trivial⟩)
abbrev gV:=Ag Mo
abbrev iI:=Af Mo MW
variable (p470:gV)(f470:iI)
abbrev Q1:Aa:=[(false,Zb),(false,Zb)]
abbrev S4:Aa:=[(false,Zb)]
abbrev G3:LK:=.ref Zp
def yT(p464:gT)(f464:iG)(l0:LK.D (.ref Zp))(a0 a1:Ab Zb):Option (LK.B G3×DenS S4):=bif(p464 ((l0.1,l0.2),(4:Int),a0,a1,()))then(some (f464 ((l0.1,l0.2),(4:Int),a0,a1,())))else none
theorem bGE(x:LK.D G3×DenS Q1):Dd ({cf [] []with lsums:=[(106,⟨Fk,H3,Ih,p464,f464⟩)] }) 9 83 Tryz.f83 G3 Q1 S4 x=yT p464 f464 x.1 x.2.1 x.2.2.1:=by kernel_rfl
def eO(x:LK.D G3×DenS Q1):Option (LK.B G3×DenS S4):=yT Df.pre Df.F x.1 x.2.1 x.2.2.1
def T8:SumL:=De G3 Q1 S4 eO (LK.dflt G3,DenS.dflt S4)
theorem aVF:SoundL Tryz.prog G1 83 T8:=Ej ({cf [] []with lsums:=[(106,Df)] }) 83 Tryz.f83 trivial trivial G3 Q1 S4 eO _ (fun _=>bGE ..) (hls:=⟨pI,trivial⟩)
abbrev aKK:=LK.D G3×DenS Q1->Bool
abbrev aMj:=LK.D G3×DenS Q1->LK.B G3×DenS S4
variable (p471:aKK)(f471:aMj)
abbrev Q2:Aa:=[(true,Zj),(true,Zj)]
abbrev S5:Aa:=[(true,Zj)]
abbrev G4:LK:=.ref Zp
def yU(p467:rS)(f467:sI)(p465:aB9)(f465:aCZ)(p466:aCa)(f466:aC0)(p471:aKK)(f471:aMj)(l0:LK.D (.ref Zp))(a0 a1:Ab Zj):Option (LK.B G4×DenS S5):=let c1_:=(f465 ((l0.1,l0.2),a1.1,a1.1,()));let c2_:=(f465 (c1_.1,a1.2.1,a1.2));let c3_:=(f467 (c2_.1,c1_.2.1,c2_.2));let c4_:=(f465 (c3_.1,a0.1,a1.1,()));let c5_:=(f465 (c4_.1,a0.2.1,a1.2));let c6_:=(f467 (c5_.1,c4_.2.1,c5_.2));let c7_:=(f465 (c6_.1,a0.2.1,a1.1,()));let c8_:=(f465 (c7_.1,a0.1,a1.2));let c9_:=(f466 (c8_.1,c7_.2.1,c8_.2));let c10_:=(f471 (c9_.1,c6_.2.1,c3_.2));let c11_:=(f471 (c10_.1,c9_.2.1,c3_.2));bif(p465 ((l0.1,l0.2),a1.1,a1.1,()))then(bif(p465 (c1_.1,a1.2.1,a1.2))then(bif(p467 (c2_.1,c1_.2.1,c2_.2))then(bif(p465 (c3_.1,a0.1,a1.1,()))then(bif(p465 (c4_.1,a0.2.1,a1.2))then(bif(p467 (c5_.1,c4_.2.1,c5_.2))then(bif(p465 (c6_.1,a0.2.1,a1.1,()))then(bif(p465 (c7_.1,a0.1,a1.2))then(bif(p466 (c8_.1,c7_.2.1,c8_.2))then(bif(p471 (c9_.1,c6_.2.1,c3_.2))then(bif(p471 (c10_.1,c9_.2.1,c3_.2))then(some (c11_.1,(c10_.2.1,c11_.2),()))else none)else none)else none)else none)else none)else none)else none)else none)else none)else none)else none
theorem bGF(x:LK.D G4×DenS Q2):Dd ({cf [] []with lsums:=[(76,⟨FB,J0,Kz,p467,f467⟩),(79,⟨Gh,Ml,MT,p465,f465⟩),(80,⟨Gi,Mm,MU,p466,f466⟩),(83,⟨G3,Q1,S4,p471,f471⟩)] }) 9 45 Tryz.f45 G4 Q2 S5 x=yU p467 f467 p465 f465 p466 f466 p471 f471 x.1 x.2.1 x.2.2.1:=by kernel_rfl
def eP(x:LK.D G4×DenS Q2):Option (LK.B G4×DenS S5):=yU Es.pre Es.F GB.pre GB.F GC.pre GC.F T8.pre T8.F x.1 x.2.1 x.2.2.1
def T9:SumL:=De G4 Q2 S5 eP (LK.dflt G4,DenS.dflt S5)
theorem aVG:SoundL Tryz.prog G1 45 T9:=Ej ({cf [] []with lsums:=[(76,Es),(79,GB),(80,GC),(83,T8)] }) 45 Tryz.f45 trivial trivial G4 Q2 S5 eP _ (fun _=>bGF ..) (hls:=⟨aA3,aG6,aG7,aVF,trivial⟩)
abbrev aKL:=LK.D G4×DenS Q2->Bool
abbrev aMk:=LK.D G4×DenS Q2->LK.B G4×DenS S5
variable (p472:aKL)(f472:aMk)
abbrev Mp:Aa:=[(false,Za),(false,Za),(true,Zj),(true,Zj)]
abbrev MX:Aa:=[(true,Zj),(false,Za),(false,Za)]
def yV(p472:aKL)(f472:aMk)(p69:BY)(f69:BZ)(p469:gU)(f469:iH)(a0 a1:Ab Za)(a2 a3:Ab Zj):Option (DenS MX):=let e4_:=((a0,a1,(0:Int),()),((a2.1,a2.2)::((a3.1,a3.2)::[])),());let e3_:=(f469 e4_);let e1_:=(f472 (e3_.1,(a2.1,a2.2),(a3.1,a3.2),()));let e2_:=e3_;bif(p69 (a0,()))then(bif((f69 (a0,())).2.1 !=(0:Int))then(bif((f69 (a0,())).2.1 !=(0:Int))then(some (((0:Int),(0:Int),()),(0:Int),(f69 (a0,())).2))else none)else bif((decide (a1<(0:Int)))||(decide (a1>(5:Int))))then(some (((0:Int),(0:Int),()),(0:Int),(3:Int),()))else bif(p469 e4_)then(bif(e2_.2.1 !=(0:Int))then(some (((0:Int),(0:Int),()),(0:Int),e2_.2))else bif(p472 (e2_.1,(a2.1,a2.2),(a3.1,a3.2),()))then(some (e1_.2.1,e1_.1.2.2.1,(0:Int),()))else none)else none)else none
theorem bGG(x:DenS Mp):run ({cf [(71,⟨Cb,Cc,p69,f69⟩)] []with lsums:=[(45,⟨G4,Q2,S5,p472,f472⟩),(53,⟨FC,J1,KA,p469,f469⟩)] }) 9 15 Tryz.f15 Mp MX x=yV p472 f472 p69 f69 p469 f469 x.1 x.2.1 x.2.2.1 x.2.2.2.1:=by kernel_rfl
def VK(x:DenS Mp):Option (DenS MX):=yV T9.pre T9.F As.pre As.F Et.pre Et.F x.1 x.2.1 x.2.2.1 x.2.2.2.1
def GE:Sum:=Aj Mp MX VK (DenS.dflt MX)
theorem aG9:Sound Tryz.prog G1 15 GE:=sd ({cf [(71,As)] []with lsums:=[(45,T9),(53,Et)] }) 15 Tryz.f15 ⟨DQ,trivial⟩ trivial Mp MX VK _ (fun _=>bGG ..) (hls:=⟨aVG,aA4,trivial⟩)
abbrev gW:=Ag Mp
abbrev iJ:=Af Mp MX
variable (p473:gW)(f473:iJ)
abbrev Q3:Aa:=[]
abbrev S6:Aa:=[(false,.bool)]
def yW(p470:gV)(f470:iI)(p473:gW)(f473:iJ):Option (DenS S6):=let e5_:=((1065353216:Int),(1073741824:Int),());let e1_:=(f470 ((2:Int),(0:Int),e5_,e5_,()));let e4_:=(((1065353216:Int),(1065353216:Int),()),());let e2_:=(f473 ((2:Int),(0:Int),e5_,e4_));let e3_:=e5_;bif(p470 ((2:Int),(0:Int),e3_,e3_,()))then(bif(p473 ((2:Int),(0:Int),e3_,e4_))then(bif((((e1_.2.2.1 !=(0:Int))||(e2_.2.2.1 !=(0:Int)))||(e1_.2.1 !=(0:Int)))||(e2_.2.1 !=(0:Int)))then(some (false,()))else some (((((e1_.1.1==(3225419776:Int))&&(e1_.1.2.1==(1082130432:Int)))&&(e2_.1.1==(1069547520:Int)))&&(e2_.1.2.1==(1056964608:Int))),()))else none)else none
theorem bGH(x:DenS Q3):run (cf [(13,⟨Mo,MW,p470,f470⟩),(15,⟨Mp,MX,p473,f473⟩)] []) 9 9 Tryz.f9 Q3 S6 x=yW p470 f470 p473 f473:=by kernel_rfl
def eQ(x:DenS Q3):Option (DenS S6):=yW GD.pre GD.F GE.pre GE.F
def Ua:Sum:=Aj Q3 S6 eQ (DenS.dflt S6)
theorem aVH:Sound Tryz.prog G1 9 Ua:=sd (cf [(13,GD),(15,GE)] []) 9 Tryz.f9 ⟨aG8,aG9,trivial⟩ trivial Q3 S6 eQ _ (fun _=>bGH ..)
abbrev rT:=Ag Q3
abbrev sJ:=Af Q3 S6
variable (p474:rT)(f474:sJ)
abbrev Q4:Aa:=[(true,Zj),(true,Zj)]
abbrev S7:Aa:=[(true,Zj)]
abbrev G5:LK:=.ref Zp
def yX(p467:rS)(f467:sI)(l0:LK.D (.ref Zp))(a0 a1:Ab Zj):Option (LK.B G5×DenS S7):=let e2_:=((f467 ((l0.1,l0.2),a0.1,a1.1,())).1,a0.2.1,a1.2);let e1_:=(f467 e2_);bif(p467 ((l0.1,l0.2),a0.1,a1.1,()))then(bif(p467 e2_)then(some (e1_.1,((f467 ((l0.1,l0.2),a0.1,a1.1,())).2.1,e1_.2),()))else none)else none
theorem bGI(x:LK.D G5×DenS Q4):Dd ({cf [] []with lsums:=[(76,⟨FB,J0,Kz,p467,f467⟩)] }) 9 38 Tryz.f38 G5 Q4 S7 x=yX p467 f467 x.1 x.2.1 x.2.2.1:=by kernel_rfl
def eR(x:LK.D G5×DenS Q4):Option (LK.B G5×DenS S7):=yX Es.pre Es.F x.1 x.2.1 x.2.2.1
def Ub:SumL:=De G5 Q4 S7 eR (LK.dflt G5,DenS.dflt S7)
theorem aVI:SoundL Tryz.prog G1 38 Ub:=Ej ({cf [] []with lsums:=[(76,Es)] }) 38 Tryz.f38 trivial trivial G5 Q4 S7 eR _ (fun _=>bGI ..) (hls:=⟨aA3,trivial⟩)
abbrev aCd:=LK.D G5×DenS Q4->Bool
abbrev aC3:=LK.D G5×DenS Q4->LK.B G5×DenS S7
variable (p475:aCd)(f475:aC3)
abbrev Q5:Aa:=[(false,Za),(false,Za),(true,Zj),(true,Zj)]
abbrev S8:Aa:=[(true,Zj),(false,Za),(false,Za)]
def yY(p475:aCd)(f475:aC3)(p69:BY)(f69:BZ)(p469:gU)(f469:iH)(a0 a1:Ab Za)(a2 a3:Ab Zj):Option (DenS S8):=let e4_:=((a0,a1,(0:Int),()),((a2.1,a2.2)::((a3.1,a3.2)::[])),());let e3_:=(f469 e4_);let e1_:=(f475 (e3_.1,(a2.1,a2.2),(a3.1,a3.2),()));let e2_:=e3_;bif(p69 (a0,()))then(bif((f69 (a0,())).2.1 !=(0:Int))then(bif((f69 (a0,())).2.1 !=(0:Int))then(some (((0:Int),(0:Int),()),(0:Int),(f69 (a0,())).2))else none)else bif((decide (a1<(0:Int)))||(decide (a1>(5:Int))))then(some (((0:Int),(0:Int),()),(0:Int),(3:Int),()))else bif(p469 e4_)then(bif(e2_.2.1 !=(0:Int))then(some (((0:Int),(0:Int),()),(0:Int),e2_.2))else bif(p475 (e2_.1,(a2.1,a2.2),(a3.1,a3.2),()))then(some (e1_.2.1,e1_.1.2.2.1,(0:Int),()))else none)else none)else none
theorem bGJ(x:DenS Q5):run ({cf [(71,⟨Cb,Cc,p69,f69⟩)] []with lsums:=[(38,⟨G5,Q4,S7,p475,f475⟩),(53,⟨FC,J1,KA,p469,f469⟩)] }) 9 10 Tryz.f10 Q5 S8 x=yY p475 f475 p69 f69 p469 f469 x.1 x.2.1 x.2.2.1 x.2.2.2.1:=by kernel_rfl
def eU(x:DenS Q5):Option (DenS S8):=yY Ub.pre Ub.F As.pre As.F Et.pre Et.F x.1 x.2.1 x.2.2.1 x.2.2.2.1
def Uc:Sum:=Aj Q5 S8 eU (DenS.dflt S8)
theorem aVJ:Sound Tryz.prog G1 10 Uc:=sd ({cf [(71,As)] []with lsums:=[(38,Ub),(53,Et)] }) 10 Tryz.f10 ⟨DQ,trivial⟩ trivial Q5 S8 eU _ (fun _=>bGJ ..) (hls:=⟨aVI,aA4,trivial⟩)
abbrev rU:=Ag Q5
abbrev sK:=Af Q5 S8
variable (p476:rU)(f476:sK)
abbrev Fj:Aa:=[(false,Za)]
abbrev Fl:Aa:=[(false,Za),(false,Za),(false,Za)]
def zW(a0:Ab Za):Option (DenS Fl):=bif(a0==(0:Int))then(some ((16:Int),(11:Int),(-(14:Int)),()))else bif(a0==(1:Int))then(some ((16:Int),(8:Int),(-(126:Int)),()))else bif(a0==(2:Int))then(some ((32:Int),(24:Int),(-(126:Int)),()))else bif(a0==(3:Int))then(some ((64:Int),(53:Int),(-(1022:Int)),()))else some ((0:Int),(0:Int),(0:Int),())
theorem r67(x:DenS Fj):run (cf [] []) 9 31 Tryz.f31 Fj Fl x=zW x.1:=by kernel_rfl
def XQ(x:DenS Fj):Option (DenS Fl):=zW x.1
def B7:Sum:=Aj Fj Fl XQ (DenS.dflt Fl)
theorem Ut:Sound Tryz.prog G1 31 B7:=sd (cf [] []) 31 Tryz.f31 trivial trivial Fj Fl XQ _ (fun _=>r67 ..)
abbrev I3:=Ag Fj
abbrev I7:=Af Fj Fl
variable (p67:I3)(f67:I7)
abbrev J8:Aa:=[(false,Za),(false,Za)]
abbrev KI:Aa:=[(false,Za)]
def t73(p67:I3)(f67:I7)(a0 a1:Ab Za):Option (DenS KI):=bif(p67 (a0,()))then(bif((f67 (a0,())).1==(0:Int))then(some ((2:Int),()))else bif((decide (a1<(0:Int)))||(decide (a1>(5:Int))))then(some ((3:Int),()))else some ((0:Int),()))else none
theorem r73(x:DenS J8):run (cf [(31,⟨Fj,Fl,p67,f67⟩)] []) 9 55 Tryz.f55 J8 KI x=t73 p67 f67 x.1 x.2.1:=by kernel_rfl
def fY(x:DenS J8):Option (DenS KI):=t73 B7.pre B7.F x.1 x.2.1
def DF:Sum:=Aj J8 KI fY (DenS.dflt KI)
theorem aHf:Sound Tryz.prog G1 55 DF:=sd (cf [(31,B7)] []) 55 Tryz.f55 ⟨Ut,trivial⟩ trivial J8 KI fY _ (fun _=>r73 ..)
abbrev X4:=Ag J8
abbrev Yg:=Af J8 KI
variable (p73:X4)(f73:Yg)
abbrev H4:Aa:=[(false,Za),(false,Zb)]
abbrev Ii:Aa:=[(false,.bool)]
def zX(p67:I3)(f67:I7)(a0:Ab Za)(a1:Ab Zb):Option (DenS Ii):=bif(p67 (a0,()))then(some ((((f67 (a0,())).1==(64:Int))||((AQ .u64 a1 (aa .u64 (f67 (a0,())).1))==(0:Int))),()))else none
theorem r68(x:DenS H4):run (cf [(31,⟨Fj,Fl,p67,f67⟩)] []) 9 77 Tryz.f77 H4 Ii x=zX p67 f67 x.1 x.2.1:=by kernel_rfl
def fU(x:DenS H4):Option (DenS Ii):=zX B7.pre B7.F x.1 x.2.1
def CQ:Sum:=Aj H4 Ii fU (DenS.dflt Ii)
theorem aBa:Sound Tryz.prog G1 77 CQ:=sd (cf [(31,B7)] []) 77 Tryz.f77 ⟨Ut,trivial⟩ trivial H4 Ii fU _ (fun _=>r68 ..)
abbrev VZ:=Ag H4
abbrev Wb:=Af H4 Ii
variable (p68:VZ)(f68:Wb)
abbrev J2:Aa:=[(false,Za),(false,Za),(false,Zm)]
abbrev KB:Aa:=[(false,Za)]
abbrev IT:Pat:=⟨39,[(0,.one (.v .i64)),(2,.one (.sl Zj)),(8,.one (.v .i64))],[]⟩
abbrev nK:List (Nat×Shape):=[]
abbrev Oz:List (Nat×Pat):=[(0,⟨39,[],[]⟩)]
abbrev NI:Option Pat:=(some ⟨39,[(6,.one (.v .i64))],[]⟩)
variable (w477_5:Pat.D IT->Option (Ad Oz NI))
def ZJ(p73:X4)(f73:Yg)(p68:VZ)(f68:Wb){R:Type}(L:Pat.D IT->Option R)(e:Ad Oz NI->Option R)(x:Pat.D IT):Option R:=let e6_:=(x.1.2.1.getD (ag x.1.2.2.1) ((0:Int),(0:Int),()));let e5_:=(x.1.1,e6_.1,());let e1_:=(!(bif(!(f68 e5_).1)then false else true));let e2_:=((decide ((0:Int)<=x.1.2.2.1))&&(decide (x.1.2.2.1<(x.1.2.1.length:Int))));let e3_:=e5_;let e4_:=(x.1.1,e6_.2);bif(decide (x.1.2.2.1<(x.1.2.1.length:Int)))then(bif e2_ then(bif(p68 e3_)then(bif(e2_||e1_)then(bif((p68 e4_)||e1_)then(bif((!(f68 e3_).1)||(!(f68 e4_).1))then(((e (.inr (((4:Int),()),())))))else(L ((x.1.1,x.1.2.1,(aa .i64 (x.1.2.2.1+(1:Int))),()),())))else none)else none)else none)else none)else(e (.inl ((),())))
theorem bIP(d:Nat)(R:Type)(L:Pat.D IT->Option R)(e:Ad Oz NI->Option R)(x:Pat.D IT):
  Bv (cf [(55,⟨J8,KI,p73,f73⟩),(77,⟨H4,Ii,p68,f68⟩)] [(39,5,LoopSpec.of IT nK Oz NI w477_5)]) (d+2) 39 (Bu Tryz.f39 5) IT nK Oz NI (R:=R) L e x=ZJ p73 f73 p68 f68 L e x:=by kernel_rfl
theorem aPL(p73:X4)(f73:Yg)(p68:VZ)(f68:Wb):Bt fun L e x=>ZJ p73 f73 p68 f68 L e x:=by intro _ _ _ _ _ _ _ h0 hL he _;unfold ZJ;repeat' (first|exact h0|exact hL _|exact he _|apply BJ|(apply BK h0;intro _)|(apply BL<;>intro _))
def yZ(p73:X4)(f73:Yg)(p68:VZ)(f68:Wb)(w477_5:Pat.D IT->Option (Ad Oz NI))(a0 a1:Ab Za)(a2:Ab Zm):Option (DenS KB):=
 bif(p73 (a0,a1,()))then(bif((f73 (a0,a1,())).1 !=(0:Int))then(some (f73 (a0,a1,())))
 else Vx.Bi (w477_5 ((a0,a2,(0:Int),()),())) fun y2=>
 Vx.Bg y2 (fun y3=>
 some ((0:Int),())) (fun z3=>
 some z3.1))
 else none
theorem bGK(x:DenS J2):run (cf [(55,⟨J8,KI,p73,f73⟩),(77,⟨H4,Ii,p68,f68⟩)] [(39,5,LoopSpec.of IT nK Oz NI w477_5)]) 9 39 Tryz.f39 J2 KB x=yZ p73 f73 p68 f68 w477_5 x.1 x.2.1 x.2.2.1:=by kernel_rfl
def rC:IT.D->Option (Ad Oz NI):=Bn fun L=>ZJ DF.pre DF.F CQ.pre CQ.F L some
def UC(x:DenS J2):Option (DenS KB):=yZ DF.pre DF.F CQ.pre CQ.F rC x.1 x.2.1 x.2.2.1
def Eu:Sum:=Aj J2 KB UC (DenS.dflt KB)
theorem aA5:Sound Tryz.prog G1 39 Eu:=sd (cf [(55,DF),(77,CQ)] [(39,5,LoopSpec.of IT nK Oz NI rC)]) 39 Tryz.f39 ⟨aHf,aBa,trivial⟩ ⟨rfl,fun d=>BI (fun L e x=>ZJ DF.pre DF.F CQ.pre CQ.F L e x) (aPL DF.pre DF.F CQ.pre CQ.F) (fun _ _ _ _=>bIP ..),trivial⟩ J2 KB UC _ (fun _=>bGK ..)
abbrev gX:=Ag J2
abbrev iK:=Af J2 KB
variable (p477:gX)(f477:iK)
abbrev C4:Aa:=[(false,Ze)]
abbrev C5:Aa:=[(false,Ze)]
abbrev Iv:Pat:=⟨21,[(0,.one (.sl Zb)),(3,.one (.v .i64))],[]⟩
abbrev mO:List (Nat×Shape):=[]
abbrev N7:List (Nat×Pat):=[(0,⟨21,[(0,.one (.sl Zb)),(3,.one (.v .i64))],[]⟩)]
abbrev Nk:Option Pat:=none
variable (w158_2:Pat.D Iv->Option (Ad N7 Nk))
def YS{R:Type}(L:Pat.D Iv->Option R)(e:Ad N7 Nk->Option R)(x:Pat.D Iv):Option R:=let e1_:=(aa .i64 (x.1.2.1-(1:Int)));bif(((decide ((0:Int)<=e1_))&&(decide (e1_<(x.1.1.length:Int))))||(!(decide (x.1.2.1>(0:Int)))))then(bif((decide (x.1.2.1>(0:Int)))&&((x.1.1.getD (ag e1_) (0:Int))==(0:Int)))then(((L ((x.1.1,e1_,()),()))))else(e (.inl (x.1,()))))else none
theorem bIj(d:Nat)(R:Type)(L:Pat.D Iv->Option R)(e:Ad N7 Nk->Option R)(x:Pat.D Iv):
  Bv (cf [] [(105,2,LoopSpec.of Iv mO N7 Nk w158_2)]) (d+2) 105 (Bu Tryz.f105 2) Iv mO N7 Nk (R:=R) L e x=YS L e x:=by kernel_rfl
theorem aPr:Bt fun L e x=>YS L e x:=by intro _ _ _ _ _ _ _ h0 hL he _;unfold YS;repeat' (first|exact h0|exact hL _|exact he _|apply BJ|(apply BK h0;intro _)|(apply BL<;>intro _))
def xC(w158_2:Pat.D Iv->Option (Ad N7 Nk))(a0:Ab Ze):Option (DenS C5):=
 Vx.Bi (w158_2 ((a0,(a0.length:Int),()),())) fun y0=>
 Vx.Bg y0 (fun y1=>
 bif((decide ((0:Int)<=y1.1.2.1))&&(decide (y1.1.2.1<=(y1.1.1.length:Int))))then(some (((y1.1.1.take (ag y1.1.2.1)).drop (ag (0:Int))),()))
 else none) (fun z1=>
 none)
theorem bEN(x:DenS C4):run (cf [] [(105,2,LoopSpec.of Iv mO N7 Nk w158_2)]) 9 105 Tryz.f105 C4 C5 x=xC w158_2 x.1:=by kernel_rfl
def qL:Iv.D->Option (Ad N7 Nk):=Bn fun L=>YS L some
def Xy(x:DenS C4):Option (DenS C5):=xC qL x.1
def Ar:Sum:=Aj C4 C5 Xy (DenS.dflt C5)
theorem TD:Sound Tryz.prog G1 105 Ar:=sd (cf [] [(105,2,LoopSpec.of Iv mO N7 Nk qL)]) 105 Tryz.f105 trivial ⟨rfl,fun d=>BI (fun L e x=>YS L e x) (aPr) (fun _ _ _ _=>bIj ..),trivial⟩ C4 C5 Xy _ (fun _=>bEN ..)
abbrev CC:=Ag C4
abbrev CD:=Af C4 C5
variable (p158:CC)(f158:CD)
abbrev Pw:Aa:=[(false,Ze)]
abbrev RA:Aa:=[(false,Ze)]
abbrev Io:Pat:=⟨30,[(0,.one (.sl Zb)),(4,.one (.v .i64)),(3,.one (.own 0))],[.acc Zb]⟩
abbrev mG:List (Nat×Shape):=[]
abbrev NY:List (Nat×Pat):=[(0,⟨30,[(3,.one (.own 0))],[.acc Zb]⟩)]
abbrev Nb:Option Pat:=none
variable (w125_3:Pat.D Io->Option (Ad NY Nb))
def YK(p158:CC)(f158:CD){R:Type}(L:Pat.D Io->Option R)(e:Ad NY Nb->Option R)(x:Pat.D Io):Option R:=let e1_:=((gm (x.1.1.getD (ag x.1.2.1) (0:Int)) (4294967296:Int))::((Bl .u64 (x.1.1.getD (ag x.1.2.1) (0:Int)) (4294967296:Int))::[]));let e2_:=((decide ((0:Int)<=x.1.2.1))&&(decide (x.1.2.1<(x.1.1.length:Int))));bif(decide (x.1.2.1<(x.1.1.length:Int)))then(bif e2_ then(bif e2_ then(bif(((Vx.EM (x.2.1.length+e1_.length) 8)&&true)&&true)then(((L ((x.1.1,(aa .i64 (x.1.2.1+(1:Int))),(),()),(x.2.1++e1_),()))))else none)else none)else none)else(e (.inl (((),()),x.2)))
theorem bIb(d:Nat)(R:Type)(L:Pat.D Io->Option R)(e:Ad NY Nb->Option R)(x:Pat.D Io):
  Bv (cf [(105,⟨C4,C5,p158,f158⟩)] [(74,3,LoopSpec.of Io mG NY Nb w125_3)]) (d+2) 74 (Bu Tryz.f74 3) Io mG NY Nb (R:=R) L e x=YK p158 f158 L e x:=by kernel_rfl
theorem aPj(p158:CC)(f158:CD):Bt fun L e x=>YK p158 f158 L e x:=by intro _ _ _ _ _ _ _ h0 hL he _;unfold YK;repeat' (first|exact h0|exact hL _|exact he _|apply BJ|(apply BK h0;intro _)|(apply BL<;>intro _))
def wO(p158:CC)(f158:CD)(w125_3:Pat.D Io->Option (Ad NY Nb))(a0:Ab Ze):Option (DenS RA):=
 let e1_:=(aa .i64 ((2:Int)*(a0.length:Int)))
 bif((decide ((0:Int)<=e1_))&&(decide ((e1_*(8:Int))<=(140737488355328:Int))))then(Vx.Bi (w125_3 ((a0,(0:Int),(),()),(aq (ag (0:Int)) (0:Int)),())) fun y1=>
 Vx.Bg y1 (fun y2=>
 bif(p158 y2.2)then(some (f158 y2.2))
 else none) (fun z2=>
 none))
 else none
theorem bEq(x:DenS Pw):run (cf [(105,⟨C4,C5,p158,f158⟩)] [(74,3,LoopSpec.of Io mG NY Nb w125_3)]) 9 74 Tryz.f74 Pw RA x=wO p158 f158 w125_3 x.1:=by kernel_rfl
def qF:Io.D->Option (Ad NY Nb):=Bn fun L=>YK Ar.pre Ar.F L some
def Xu(x:DenS Pw):Option (DenS RA):=wO Ar.pre Ar.F qF x.1
def TB:Sum:=Aj Pw RA Xu (DenS.dflt RA)
theorem aUs:Sound Tryz.prog G1 74 TB:=sd (cf [(105,Ar)] [(74,3,LoopSpec.of Io mG NY Nb qF)]) 74 Tryz.f74 ⟨TD,trivial⟩ ⟨rfl,fun d=>BI (fun L e x=>YK Ar.pre Ar.F L e x) (aPj Ar.pre Ar.F) (fun _ _ _ _=>bIb ..),trivial⟩ Pw RA Xu _ (fun _=>bEq ..)
abbrev aJG:=Ag Pw
abbrev aLf:=Af Pw RA
variable (p125:aJG)(f125:aLf)
abbrev J9:Aa:=[(false,Za),(false,Zb)]
abbrev KJ:Aa:=[(true,ZE)]
def t74(p67:I3)(f67:I7)(p125:aJG)(f125:aLf)(a0:Ab Za)(a1:Ab Zb):Option (DenS KJ):=let e11_:=(aa .u64 (aa .i64 ((f67 (a0,())).2.1-(1:Int))));let e9_:=(Bj .u64 (1:Int) e11_);let e8_:=(BS .u64 a1 (aa .u64 (e9_-(1:Int))));let e1_:=(((aa .u64 (e8_+e9_))::[]),());let e10_:=(aa .u64 (aa .i64 ((f67 (a0,())).1-(f67 (a0,())).2.1)));let e2_:=(aa .i64 (BS .u64 (AQ .u64 a1 e11_) (aa .u64 ((Bj .u64 (1:Int) e10_)-(1:Int)))));let e3_:=(e8_ !=(0:Int));let e4_:=((e8_::[]),());let e5_:=e8_;let e6_:=((BS .u64 (AQ .u64 a1 (aa .u64 (aa .i64 ((f67 (a0,())).1-(1:Int))))) (1:Int))==(1:Int));let e7_:=(aa .i64 ((aa .i64 ((f67 (a0,())).2.2.1-(f67 (a0,())).2.1))+(1:Int)));bif(p67 (a0,()))then(bif(e2_==(aa .i64 ((Bj .i64 (1:Int) e10_)-(1:Int))))then(some ((e3_,(e3_&&((AQ .u64 e5_ (aa .u64 (aa .i64 ((f67 (a0,())).2.1-(2:Int)))))==(0:Int))),(e5_==(0:Int)),e6_,(false,[],(0:Int),()),()),()))else bif(decide (e2_>(0:Int)))then(bif(p125 e1_)then(some ((false,false,false,e6_,(e6_,(f125 e1_).1,(aa .i64 (e7_+(aa .i64 (e2_-(1:Int))))),()),()),()))else none)else bif(p125 e4_)then(some ((false,false,false,e6_,(e6_,(f125 e4_).1,e7_,()),()),()))else none)else none
theorem r74(x:DenS J9):run (cf [(31,⟨Fj,Fl,p67,f67⟩),(74,⟨Pw,RA,p125,f125⟩)] []) 9 33 Tryz.f33 J9 KJ x=t74 p67 f67 p125 f125 x.1 x.2.1:=by kernel_rfl
def XU(x:DenS J9):Option (DenS KJ):=t74 B7.pre B7.F TB.pre TB.F x.1 x.2.1
def Ey:Sum:=Aj J9 KJ XU (DenS.dflt KJ)
theorem aBb:Sound Tryz.prog G1 33 Ey:=sd (cf [(31,B7),(74,TB)] []) 33 Tryz.f33 ⟨Ut,aUs,trivial⟩ trivial J9 KJ XU _ (fun _=>r74 ..)
abbrev X5:=Ag J9
abbrev Yh:=Af J9 KJ
variable (p74:X5)(f74:Yh)
abbrev Ka:Aa:=[(false,Za)]
abbrev KK:Aa:=[(false,Zb)]
def t75(p67:I3)(f67:I7)(a0:Ab Za):Option (DenS KK):=bif(p67 (a0,()))then(some ((aa .u64 ((Bj .u64 (1:Int) (aa .u64 (aa .i64 ((f67 (a0,())).1-(1:Int)))))-(Bj .u64 (1:Int) (aa .u64 (aa .i64 ((f67 (a0,())).2.1-(2:Int))))))),()))else none
theorem r75(x:DenS Ka):run (cf [(31,⟨Fj,Fl,p67,f67⟩)] []) 9 86 Tryz.f86 Ka KK x=t75 p67 f67 x.1:=by kernel_rfl
def fZ(x:DenS Ka):Option (DenS KK):=t75 B7.pre B7.F x.1
def Ez:Sum:=Aj Ka KK fZ (DenS.dflt KK)
theorem aBc:Sound Tryz.prog G1 86 Ez:=sd (cf [(31,B7)] []) 86 Tryz.f86 ⟨Ut,trivial⟩ trivial Ka KK fZ _ (fun _=>r75 ..)
abbrev gZ:=Ag Ka
abbrev iM:=Af Ka KK
variable (p75:gZ)(f75:iM)
abbrev Kb:Aa:=[(true,ZE)]
abbrev KL:Aa:=[(false,.bool)]
def aK(a0:Ab ZE):Option (DenS KL):=some ((((!a0.1)&&(!a0.2.2.1))&&((a0.2.2.2.2.1.2.1.length:Int)==(0:Int))),())
theorem r76(x:DenS Kb):run (cf [] []) 9 75 Tryz.f75 Kb KL x=aK x.1:=by kernel_rfl
def VM(x:DenS Kb):Option (DenS KL):=aK x.1
def EA:Sum:=Aj Kb KL VM (DenS.dflt KL)
theorem aBd:Sound Tryz.prog G1 75 EA:=sd (cf [] []) 75 Tryz.f75 trivial trivial Kb KL VM _ (fun _=>r76 ..)
abbrev X6:=Ag Kb
abbrev Yi:=Af Kb KL
variable (p76:X6)(f76:Yi)
abbrev HV:Aa:=[(false,Ze),(false,Za)]
abbrev H9:Aa:=[(false,Ze)]
abbrev Ip:Pat:=⟨49,[(0,.one (.sl Zb)),(6,.one (.v .u64)),(8,.one (.v .i64)),(5,.one (.own 0)),(7,.one (.v .u64))],[.acc Zb]⟩
abbrev mH:List (Nat×Shape):=[]
abbrev NZ:List (Nat×Pat):=[(0,⟨49,[(5,.one (.own 0)),(7,.one (.v .u64))],[.acc Zb]⟩)]
abbrev Nc:Option Pat:=none
variable (w127_5:Pat.D Ip->Option (Ad NZ Nc))
def YL(p158:CC)(f158:CD){R:Type}(L:Pat.D Ip->Option R)(e:Ad NZ Nc->Option R)(x:Pat.D Ip):Option R:=let e2_:=(aa .u64 ((aa .u64 ((x.1.1.getD (ag x.1.2.2.1) (0:Int))*x.1.2.1))+x.1.2.2.2.2.1));let e1_:=((gm e2_ (4294967296:Int))::[]);bif(decide (x.1.2.2.1<(x.1.1.length:Int)))then(bif((decide ((0:Int)<=x.1.2.2.1))&&(decide (x.1.2.2.1<(x.1.1.length:Int))))then(bif(((Vx.EM (x.2.1.length+e1_.length) 8)&&true)&&true)then(((L ((x.1.1,x.1.2.1,(aa .i64 (x.1.2.2.1+(1:Int))),(),(Bl .u64 e2_ (4294967296:Int)),()),(x.2.1++e1_),()))))else none)else none)else(e (.inl (((),x.1.2.2.2.2),x.2)))
theorem bIc(d:Nat)(R:Type)(L:Pat.D Ip->Option R)(e:Ad NZ Nc->Option R)(x:Pat.D Ip):
  Bv (cf [(105,⟨C4,C5,p158,f158⟩)] [(132,5,LoopSpec.of Ip mH NZ Nc w127_5)]) (d+2) 132 (Bu Tryz.f132 5) Ip mH NZ Nc (R:=R) L e x=YL p158 f158 L e x:=by kernel_rfl
theorem aPk(p158:CC)(f158:CD):Bt fun L e x=>YL p158 f158 L e x:=by intro _ _ _ _ _ _ _ h0 hL he _;unfold YL;repeat' (first|exact h0|exact hL _|exact he _|apply BJ|(apply BK h0;intro _)|(apply BL<;>intro _))
def wQ(p158:CC)(f158:CD)(w127_5:Pat.D Ip->Option (Ad NZ Nc))(a0:Ab Ze)(a1:Ab Za):Option (DenS H9):=
 let e1_:=(aa .i64 ((aa .i64 ((Bl .i64 a1 (32:Int))+(a0.length:Int)))+(1:Int)))
 bif(((decide ((0:Int)<=(Bl .i64 a1 (32:Int))))&&(decide ((Bl .i64 a1 (32:Int))<=e1_)))&&(decide ((e1_*(8:Int))<=(140737488355328:Int))))then(Vx.Bi (w127_5 ((a0,(Bj .u64 (1:Int) (aa .u64 (gm a1 (32:Int)))),(0:Int),(),(0:Int),()),(aq (ag (Bl .i64 a1 (32:Int))) (0:Int)),())) fun y1=>
 Vx.Bg y1 (fun y2=>
 bif(((Vx.EM (y2.2.1.length+(y2.1.2.1::[]).length) 8)&&true)&&true)then(bif(p158 ((y2.2.1++(y2.1.2.1::[])),()))then(some (f158 ((y2.2.1++(y2.1.2.1::[])),())))
 else none)
 else none) (fun z2=>
 none))
 else none
theorem bEs(x:DenS HV):run (cf [(105,⟨C4,C5,p158,f158⟩)] [(132,5,LoopSpec.of Ip mH NZ Nc w127_5)]) 9 132 Tryz.f132 HV H9 x=wQ p158 f158 w127_5 x.1 x.2.1:=by kernel_rfl
def qG:Ip.D->Option (Ad NZ Nc):=Bn fun L=>YL Ar.pre Ar.F L some
def NQ(x:DenS HV):Option (DenS H9):=wQ Ar.pre Ar.F qG x.1 x.2.1
def CK:Sum:=Aj HV H9 NQ (DenS.dflt H9)
theorem aAO:Sound Tryz.prog G1 132 CK:=sd (cf [(105,Ar)] [(132,5,LoopSpec.of Ip mH NZ Nc qG)]) 132 Tryz.f132 ⟨TD,trivial⟩ ⟨rfl,fun d=>BI (fun L e x=>YL Ar.pre Ar.F L e x) (aPk Ar.pre Ar.F) (fun _ _ _ _=>bIc ..),trivial⟩ HV H9 NQ _ (fun _=>bEs ..)
abbrev VO:=Ag HV
abbrev V1:=Af HV H9
variable (p127:VO)(f127:V1)
abbrev HW:Aa:=[(false,Ze),(false,Ze)]
abbrev Ia:Aa:=[(false,Ze)]
abbrev Iq:Pat:=⟨56,[(5,.one (.v .i64)),(0,.one (.sl Zb)),(1,.one (.sl Zb)),(8,.one (.v .i64)),(6,.one (.own 0)),(7,.one (.v .u64))],[.acc Zb]⟩
abbrev mI:List (Nat×Shape):=[]
abbrev N1:List (Nat×Pat):=[(0,⟨56,[(6,.one (.own 0)),(7,.one (.v .u64))],[.acc Zb]⟩)]
abbrev Nd:Option Pat:=none
variable (w128_5:Pat.D Iq->Option (Ad N1 Nd))
def YM(p158:CC)(f158:CD){R:Type}(L:Pat.D Iq->Option R)(e:Ad N1 Nd->Option R)(x:Pat.D Iq):Option R:=let e11_:=(aa .u64 (x.1.2.2.2.2.2.1+(x.1.2.1.getD (ag x.1.2.2.2.1) (0:Int))));let e12_:=(x.1.2.2.1.getD (ag x.1.2.2.2.1) (0:Int));let e1_:=((gm (aa .u64 (e11_+e12_)) (4294967296:Int))::[]);let e2_:=((gm (aa .u64 (x.1.2.2.2.2.2.1+e12_)) (4294967296:Int))::[]);let e3_:=((gm e11_ (4294967296:Int))::[]);let e4_:=e11_;let e13_:=(decide (x.1.2.2.2.1<(x.1.2.2.1.length:Int)));let e5_:=((decide ((0:Int)<=x.1.2.2.2.1))&&e13_);let e6_:=(aa .i64 (x.1.2.2.2.1+(1:Int)));let e7_:=((gm x.1.2.2.2.2.2.1 (4294967296:Int))::[]);let e8_:=e12_;let e9_:=e13_;let e10_:=(decide (x.1.2.2.2.1<(x.1.2.1.length:Int)));bif(decide (x.1.2.2.2.1<x.1.1))then(bif e10_ then(bif((decide ((0:Int)<=x.1.2.2.2.1))&&e10_)then(bif e9_ then(bif e5_ then(bif(((Vx.EM (x.2.1.length+e1_.length) 8)&&true)&&true)then(((L ((x.1.1,x.1.2.1,x.1.2.2.1,e6_,(),(Bl .u64 (aa .u64 (e4_+e8_)) (4294967296:Int)),()),(x.2.1++e1_),()))))else none)else none)else bif(((Vx.EM (x.2.1.length+e3_.length) 8)&&true)&&true)then(((L ((x.1.1,x.1.2.1,x.1.2.2.1,e6_,(),(Bl .u64 e4_ (4294967296:Int)),()),(x.2.1++e3_),()))))else none)else none)else bif e9_ then(bif e5_ then(bif(((Vx.EM (x.2.1.length+e2_.length) 8)&&true)&&true)then(((L ((x.1.1,x.1.2.1,x.1.2.2.1,e6_,(),(Bl .u64 (aa .u64 (x.1.2.2.2.2.2.1+e8_)) (4294967296:Int)),()),(x.2.1++e2_),()))))else none)else none)else bif(((Vx.EM (x.2.1.length+e7_.length) 8)&&true)&&true)then(((L ((x.1.1,x.1.2.1,x.1.2.2.1,e6_,(),(Bl .u64 x.1.2.2.2.2.2.1 (4294967296:Int)),()),(x.2.1++e7_),()))))else none)else(e (.inl (((),x.1.2.2.2.2.2),x.2)))
theorem bId(d:Nat)(R:Type)(L:Pat.D Iq->Option R)(e:Ad N1 Nd->Option R)(x:Pat.D Iq):
  Bv (cf [(105,⟨C4,C5,p158,f158⟩)] [(135,5,LoopSpec.of Iq mI N1 Nd w128_5)]) (d+2) 135 (Bu Tryz.f135 5) Iq mI N1 Nd (R:=R) L e x=YM p158 f158 L e x:=by kernel_rfl
theorem aPl(p158:CC)(f158:CD):Bt fun L e x=>YM p158 f158 L e x:=by intro _ _ _ _ _ _ _ h0 hL he _;unfold YM;repeat' (first|exact h0|exact hL _|exact he _|apply BJ|(apply BK h0;intro _)|(apply BL<;>intro _))
def wR(p158:CC)(f158:CD)(w128_5:Pat.D Iq->Option (Ad N1 Nd))(a0 a1:Ab Ze):Option (DenS Ia):=
 let e2_:=(if((a1.length:Int)>(a0.length:Int))then(a1.length:Int)else(a0.length:Int))
 let e1_:=(aa .i64 (e2_+(1:Int)))
 bif((decide ((0:Int)<=e1_))&&(decide ((e1_*(8:Int))<=(140737488355328:Int))))then(Vx.Bi (w128_5 ((e2_,a0,a1,(0:Int),(),(0:Int),()),(aq (ag (0:Int)) (0:Int)),())) fun y1=>
 Vx.Bg y1 (fun y2=>
 bif(((Vx.EM (y2.2.1.length+(y2.1.2.1::[]).length) 8)&&true)&&true)then(bif(p158 ((y2.2.1++(y2.1.2.1::[])),()))then(some (f158 ((y2.2.1++(y2.1.2.1::[])),())))
 else none)
 else none) (fun z2=>
 none))
 else none
theorem bEt(x:DenS HW):run (cf [(105,⟨C4,C5,p158,f158⟩)] [(135,5,LoopSpec.of Iq mI N1 Nd w128_5)]) 9 135 Tryz.f135 HW Ia x=wR p158 f158 w128_5 x.1 x.2.1:=by kernel_rfl
def qH:Iq.D->Option (Ad N1 Nd):=Bn fun L=>YM Ar.pre Ar.F L some
def Ux(x:DenS HW):Option (DenS Ia):=wR Ar.pre Ar.F qH x.1 x.2.1
def CL:Sum:=Aj HW Ia Ux (DenS.dflt Ia)
theorem aAP:Sound Tryz.prog G1 135 CL:=sd (cf [(105,Ar)] [(135,5,LoopSpec.of Iq mI N1 Nd qH)]) 135 Tryz.f135 ⟨TD,trivial⟩ ⟨rfl,fun d=>BI (fun L e x=>YM Ar.pre Ar.F L e x) (aPl Ar.pre Ar.F) (fun _ _ _ _=>bId ..),trivial⟩ HW Ia Ux _ (fun _=>bEt ..)
abbrev VP:=Ag HW
abbrev V2:=Af HW Ia
variable (p128:VP)(f128:V2)
abbrev HX:Aa:=[(false,Ze),(false,Ze)]
abbrev Ib:Aa:=[(false,Za)]
abbrev Ir:Pat:=⟨41,[(0,.one (.sl Zb)),(1,.one (.sl Zb)),(5,.one (.v .i64))],[]⟩
abbrev mJ:List (Nat×Shape):=[]
abbrev N2:List (Nat×Pat):=[(0,⟨41,[],[]⟩)]
abbrev Nf:Option Pat:=(some ⟨41,[(4,.one (.v .i64))],[]⟩)
variable (w129_6:Pat.D Ir->Option (Ad N2 Nf))
def YN{R:Type}(L:Pat.D Ir->Option R)(e:Ad N2 Nf->Option R)(x:Pat.D Ir):Option R:=let e1_:=((decide ((0:Int)<=x.1.2.2.1))&&(decide (x.1.2.2.1<(x.1.2.1.length:Int))));let e2_:=((decide ((0:Int)<=x.1.2.2.1))&&(decide (x.1.2.2.1<(x.1.1.length:Int))));let e3_:=(x.1.2.1.getD (ag x.1.2.2.1) (0:Int));bif(decide (x.1.2.2.1>=(0:Int)))then(bif e2_ then(bif e1_ then(bif(decide ((x.1.1.getD (ag x.1.2.2.1) (0:Int))<e3_))then(((e (.inr (((-(1:Int)),()),())))))else bif e2_ then(bif e1_ then(bif(decide ((x.1.1.getD (ag x.1.2.2.1) (0:Int))>e3_))then(((e (.inr (((1:Int),()),())))))else(L ((x.1.1,x.1.2.1,(aa .i64 (x.1.2.2.1-(1:Int))),()),())))else none)else none)else none)else none)else(e (.inl ((),())))
theorem bIe(d:Nat)(R:Type)(L:Pat.D Ir->Option R)(e:Ad N2 Nf->Option R)(x:Pat.D Ir):
  Bv (cf [] [(133,6,LoopSpec.of Ir mJ N2 Nf w129_6)]) (d+2) 133 (Bu Tryz.f133 6) Ir mJ N2 Nf (R:=R) L e x=YN L e x:=by kernel_rfl
theorem aPm:Bt fun L e x=>YN L e x:=by intro _ _ _ _ _ _ _ h0 hL he _;unfold YN;repeat' (first|exact h0|exact hL _|exact he _|apply BJ|(apply BK h0;intro _)|(apply BL<;>intro _))
def wS(w129_6:Pat.D Ir->Option (Ad N2 Nf))(a0 a1:Ab Ze):Option (DenS Ib):=
 bif((a0.length:Int)!=(a1.length:Int))then(bif(decide ((a0.length:Int)<(a1.length:Int)))then(some ((-(1:Int)),()))
 else some ((1:Int),()))
 else Vx.Bi (w129_6 ((a0,a1,(aa .i64 ((a0.length:Int)-(1:Int))),()),())) fun y1=>
 Vx.Bg y1 (fun y2=>
 some ((0:Int),())) (fun z2=>
 some z2.1)
theorem bEu(x:DenS HX):run (cf [] [(133,6,LoopSpec.of Ir mJ N2 Nf w129_6)]) 9 133 Tryz.f133 HX Ib x=wS w129_6 x.1 x.2.1:=by kernel_rfl
def qI:Ir.D->Option (Ad N2 Nf):=Bn fun L=>YN L some
def cP(x:DenS HX):Option (DenS Ib):=wS qI x.1 x.2.1
def CM:Sum:=Aj HX Ib cP (DenS.dflt Ib)
theorem aAQ:Sound Tryz.prog G1 133 CM:=sd (cf [] [(133,6,LoopSpec.of Ir mJ N2 Nf qI)]) 133 Tryz.f133 trivial ⟨rfl,fun d=>BI (fun L e x=>YN L e x) (aPm) (fun _ _ _ _=>bIe ..),trivial⟩ HX Ib cP _ (fun _=>bEu ..)
abbrev VQ:=Ag HX
abbrev V3:=Af HX Ib
variable (p129:VQ)(f129:V3)
end Vx
end
