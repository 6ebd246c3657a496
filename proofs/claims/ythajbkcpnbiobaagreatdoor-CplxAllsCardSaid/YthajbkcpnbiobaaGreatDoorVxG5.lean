/- Part 5 of the proof. What is proved: symbolic execution of the functions, proved sound; what each function of the program computes, and that every run ends with it; what these functions compute, in plain numbers. Conditions: each theorem bears its own. -/
import Derived.Test.YthajbkcpnbiobaaGreatDoorVxG4
set_option linter.all false
set_option exponentiation.threshold 1000000
noncomputable section
open Go.IntKind renaming wrap->aa
open Int renaming tmod->gj,toNat->af
open List renaming replicate->aq
namespace Vx
open Go Go.Proofs
variable (p69:BV)(f69:BW)(p66:B9)(f66:Ca)(p65:DW)(f65:DX)(p70:DE)(f70:DF)(p98:KZ)(f98:K2)(p119:eK)(f119:fB)(p155:C5)(f155:C6)(p123:U1)(f123:Vg)(p118:IG)(f118:IK)(p105:W2)(f105:Xg)(p173:Bw)(f173:Bx)(p102:G9)(f102:Hd)(p178:II)(f178:IM)(p92:KY)(f92:K1)(p185:U9)(f185:Vn)(p141:U6)(f141:Vk)(p143:Ol)(f143:Oo)(p97:On)(f97:Ot)(p107:W3)(f107:Xh)(p122:Ha)(f122:He)(p115:eJ)(f115:fA)(p64:Xc)(f64:Xq)(p315:E0)(f315:E2)(p316:W7)(f316:Xl)(p40:TS)(f40:TW)(p144:IH)(f144:IL)(p145:W6)(f145:Xk)(p311:pD)(f311:qA)(p312:aAv)(f312:aBc)(p313:pE)(f313:qB)(p314:aAw)(f314:aBd)
abbrev PK:Aa:=[(true,Zj)]
abbrev RC:Aa:=[(false,Zb),(false,.bool)]
abbrev Io:Pat:=⟨28,[(6,.one (.v .i64)),(2,.one (.v .u64)),(1,.one (.ptr 0 0))],[.raw [.v .u64,.v .u64]]⟩
abbrev kW:List (Nat×Shape):=[]
abbrev N5:List (Nat×Pat):=[(0,⟨28,[(2,.one (.v .u64)),(1,.one (.ptr 0 0))],[.raw [.v .u64,.v .u64]]⟩)]
abbrev Nh:Option Pat:=none
variable (w317_2:Pat.D Io->Option (Ad N5 Nh))
def iJ(p123:U1)(f123:Vg)(p316:W7)(f316:Xl){R:Type}(L:Pat.D Io->Option R)(e:Ad N5 Nh->Option R)(x:Pat.D Io):Option R:=let e5_:=(aa .i64 ((63:Int)-x.1.1));let e4_:=(Ai .u64 x.1.2.1 (Be .u64 (1:Int) e5_));let e1_:=((f316 (e4_,e4_,())).1,x.2);let e2_:=e4_;let e3_:=(aa .i64 (x.1.1+(1:Int)));bif(decide (x.1.1<(64:Int)))then(bif(decide ((0:Int)<=e5_))then(bif(p316 (e2_,e2_,()))then(bif(p123 e1_)then(bif(decide ((f123 e1_).1<=(0:Int)))then(((L ((e3_,e2_,(),()),x.2))))else(L ((e3_,x.1.2.1,(),()),x.2)))else none)else none)else none)else(e (.inl ((x.1.2.1,(),()),x.2)))
theorem bGc(d:Nat)(R:Type)(L:Pat.D Io->Option R)(e:Ad N5 Nh->Option R)(x:Pat.D Io):
  Br (cf [(236,⟨GB,HP,p123,f123⟩),(199,⟨Jz,J6,p316,f316⟩)] [(207,2,LoopSpec.of Io kW N5 Nh w317_2)]) (d+2) 207 (Bq Tryz.f207 2) Io kW N5 Nh (R:=R) L e x=iJ p123 f123 p316 f316 L e x:=by kernel_rfl
theorem aZH(p123:U1)(f123:Vg)(p316:W7)(f316:Xl):Bo fun L e x=>iJ p123 f123 p316 f316 L e x:=by intro _ _ _ _ _ _ _ h0 hL he _;unfold iJ;repeat' (first|exact h0|exact hL _|exact he _|apply BB|(apply BC h0;intro _)|(apply BD<;>intro _))
def aQd(p123:U1)(f123:Vg)(p316:W7)(f316:Xl)(w317_2:Pat.D Io->Option (Ad N5 Nh))(a0:Ab Zj):Option (DenS RC):=
 Vx.Ba (w317_2 (((0:Int),(0:Int),(),()),(a0.1,a0.2),())) fun y0=>
 Vx.A9 y0 (fun y1=>
 bif(p316 (y1.1.1,y1.1.1,()))then(some (y1.1.1,(((f316 (y1.1.1,y1.1.1,())).1.1==y1.2.1.1)&&((f316 (y1.1.1,y1.1.1,())).1.2.1==y1.2.1.2.1)),()))
 else none) (fun z1=>
 none)
theorem bC5(x:DenS PK):run (cf [(236,⟨GB,HP,p123,f123⟩),(199,⟨Jz,J6,p316,f316⟩)] [(207,2,LoopSpec.of Io kW N5 Nh w317_2)]) 9 207 Tryz.f207 PK RC x=aQd p123 f123 p316 f316 w317_2 x.1:=by kernel_rfl
def aHG:Io.D->Option (Ad N5 Nh):=Bf fun L=>iJ Eu.pre Eu.F Ew.pre Ew.F L some
def aGi(x:DenS PK):Option (DenS RC):=aQd Eu.pre Eu.F Ew.pre Ew.F aHG x.1
def mM:Sum:=Ah PK RC aGi (DenS.dflt RC)
theorem aTa:Sound Tryz.prog G1 207 mM:=sd (cf [(236,Eu),(199,Ew)] [(207,2,LoopSpec.of Io kW N5 Nh aHG)]) 207 Tryz.f207 ⟨aEX,aFa,trivial⟩ ⟨rfl,fun d=>BA (fun L e x=>iJ Eu.pre Eu.F Ew.pre Ew.F L e x) (aZH Eu.pre Eu.F Ew.pre Ew.F) (fun _ _ _ _=>bGc ..),trivial⟩ PK RC aGi _ (fun _=>bC5 ..)
abbrev aIo:=Af PK
abbrev aJ2:=Ae PK RC
variable (p317:aIo)(f317:aJ2)
abbrev PL:Aa:=[(false,Za),(false,Za),(false,Zb)]
abbrev RD:Aa:=[(false,Zb),(false,Za),(false,Za)]
def aQe(p311:pD)(f311:qA)(p65:DW)(f65:DX)(p312:aAv)(f312:aBc)(p313:pE)(f313:qB)(p314:aAw)(f314:aBd)(p119:eK)(f119:fB)(p317:aIo)(f317:aJ2)(p122:Ha)(f122:He)(a0 a1:Ab Za)(a2:Ab Zb):Option (DenS RD):=let e16_:=(a0,(f311 (a0,a1,(a2::[]),())).1,a2,());let e15_:=(f313 e16_);let e14_:=((0:Int),e15_.1,());let e13_:=(e14_,());let e12_:=(aa .i64 ((126:Int)-(f314 e13_).1));let e11_:=(aa .i64 (e12_+(1:Int)));let e8_:=(e14_,e11_,());let e7_:=(f317 (f119 e8_));let e1_:=(a0,a1,false,((0:Int),e7_.1,()),(Bg .i64 (aa .i64 (e15_.2.1-e11_)) (2:Int)),(!e7_.2.1),());let e10_:=(e14_,e12_,());let e9_:=(f317 (f119 e10_));let e2_:=(a0,a1,false,((0:Int),e9_.1,()),(Bg .i64 (aa .i64 (e15_.2.1-e12_)) (2:Int)),(!e9_.2.1),());let e3_:=e8_;let e4_:=e10_;let e5_:=e13_;let e6_:=e16_;bif(p311 (a0,a1,(a2::[]),()))then(bif((f311 (a0,a1,(a2::[]),())).2.1 !=(0:Int))then(some ((0:Int),(0:Int),(f311 (a0,a1,(a2::[]),())).2))else bif(p65 (a0,a2,()))then(bif(p312 (a0,(f65 (a0,a2,())).1,()))then(bif(f312 (a0,(f65 (a0,a2,())).1,())).2.2.1 then(some ((f312 (a0,(f65 (a0,a2,())).1,())).1,(f312 (a0,(f65 (a0,a2,())).1,())).2.1,(0:Int),()))else bif((((f65 (a0,a2,())).1==(9:Int))||((f65 (a0,a2,())).1==(6:Int)))||((f65 (a0,a2,())).1==(5:Int)))then(some (a2,(0:Int),(0:Int),()))else bif(p313 e6_)then(bif(p314 e5_)then(bif((gj (aa .i64 ((f313 e6_).2.1-(aa .i64 ((126:Int)-(f314 e5_).1)))) (2:Int))!=(0:Int))then(bif(p119 e3_)then(bif(p317 (f119 e3_))then(bif(p122 e1_)then(some (f122 e1_))else none)else none)else none)else bif(p119 e4_)then(bif(p317 (f119 e4_))then(bif(p122 e2_)then(some (f122 e2_))else none)else none)else none)else none)else none)else none)else none)else none
theorem bC6(x:DenS PL):run (cf [(58,⟨PG,Ry,p311,f311⟩),(59,⟨DQ,DR,p65,f65⟩),(205,⟨PH,Rz,p312,f312⟩),(63,⟨PI,RA,p313,f313⟩),(206,⟨PJ,RB,p314,f314⟩),(208,⟨HB,JY,p119,f119⟩),(207,⟨PK,RC,p317,f317⟩),(104,⟨Fb,FA,p122,f122⟩)] []) 9 163 Tryz.f163 PL RD x=aQe p311 f311 p65 f65 p312 f312 p313 f313 p314 f314 p119 f119 p317 f317 p122 f122 x.1 x.2.1 x.2.2.1:=by kernel_rfl
def aGj(x:DenS PL):Option (DenS RD):=aQe mH.pre mH.F Bv.pre Bv.F mI.pre mI.F mJ.pre mJ.F mK.pre mK.F AN.pre AN.F mM.pre mM.F Cd.pre Cd.F x.1 x.2.1 x.2.2.1
def mN:Sum:=Ah PL RD aGj (DenS.dflt RD)
theorem aTb:Sound Tryz.prog G1 163 mN:=sd (cf [(58,mH),(59,Bv),(205,mI),(63,mJ),(206,mK),(208,AN),(207,mM),(104,Cd)] []) 163 Tryz.f163 ⟨aS6,IE,aS7,aS8,aS9,aEW,aTa,Wu,trivial⟩ trivial PL RD aGj _ (fun _=>bC6 ..)
abbrev aIp:=Af PL
abbrev aJ3:=Ae PL RD
variable (p318:aIp)(f318:aJ3)
abbrev P9:Aa:=[(true,Zz)]
abbrev RW:Aa:=[(false,Zb),(false,Za),(false,Za)]
def aQr(p318:aIp)(f318:aJ3)(a0:Ab Zz):Option (DenS RW):=bif(p318 (a0.2.1,a0.1,a0.2.2.1,()))then(some (f318 (a0.2.1,a0.1,a0.2.2.1,())))else none
theorem bDA(x:DenS P9):run (cf [(163,⟨PL,RD,p318,f318⟩)] []) 9 162 Tryz.f162 P9 RW x=aQr p318 f318 x.1:=by kernel_rfl
def aGz(x:DenS P9):Option (DenS RW):=aQr mN.pre mN.F x.1
def ZX:Sum:=Ah P9 RW aGz (DenS.dflt RW)
theorem aFf:Sound Tryz.prog G1 162 ZX:=sd (cf [(163,mN)] []) 162 Tryz.f162 ⟨aTb,trivial⟩ trivial P9 RW aGz _ (fun _=>bDA ..)
abbrev aAF:=Af P9
abbrev aBm:=Ae P9 RW
variable (p396:aAF)(f396:aBm)
abbrev Qa:Aa:=[(false,Za),(false,Za),(false,Ze)]
abbrev RX:Aa:=[(false,Za)]
abbrev Iu:Pat:=⟨39,[(27,.one (.v .i64)),(26,.one (.sl Zb)),(0,.one (.v .i64)),(28,.one (.v .i64))],[]⟩
abbrev lB:List (Nat×Shape):=[]
abbrev Oc:List (Nat×Pat):=[(0,⟨39,[],[]⟩)]
abbrev No:Option Pat:=(some ⟨39,[(6,.one (.v .i64))],[]⟩)
variable (w397_7:Pat.D Iu->Option (Ad Oc No))
def iP(p69:BV)(f69:BW)(p66:B9)(f66:Ca){R:Type}(L:Pat.D Iu->Option R)(e:Ad Oc No->Option R)(x:Pat.D Iu):Option R:=let e2_:=(x.1.2.2.1,(x.1.2.1.getD (af x.1.2.2.2.1) (0:Int)),());let e1_:=(f66 e2_);bif(decide (x.1.2.2.2.1<x.1.1))then(bif((decide ((0:Int)<=x.1.2.2.2.1))&&(decide (x.1.2.2.2.1<(x.1.2.1.length:Int))))then(bif(p66 e2_)then(bif(e1_.1 !=(0:Int))then(((e (.inr (e1_,())))))else(L ((x.1.1,x.1.2.1,x.1.2.2.1,(aa .i64 (x.1.2.2.2.1+(1:Int))),()),())))else none)else none)else(e (.inl ((),())))
theorem bGr(d:Nat)(R:Type)(L:Pat.D Iu->Option R)(e:Ad Oc No->Option R)(x:Pat.D Iu):
  Br (cf [(71,⟨B7,B8,p69,f69⟩),(85,⟨Cq,Cr,p66,f66⟩)] [(209,7,LoopSpec.of Iu lB Oc No w397_7)]) (d+2) 209 (Bq Tryz.f209 7) Iu lB Oc No (R:=R) L e x=iP p69 f69 p66 f66 L e x:=by kernel_rfl
theorem aZN(p69:BV)(f69:BW)(p66:B9)(f66:Ca):Bo fun L e x=>iP p69 f69 p66 f66 L e x:=by intro _ _ _ _ _ _ _ h0 hL he _;unfold iP;repeat' (first|exact h0|exact hL _|exact he _|apply BB|(apply BC h0;intro _)|(apply BD<;>intro _))
def aQs(p69:BV)(f69:BW)(p66:B9)(f66:Ca)(w397_7:Pat.D Iu->Option (Ad Oc No))(a0 a1:Ab Za)(a2:Ab Ze):Option (DenS RX):=
 bif(p69 (a0,()))then(bif((f69 (a0,())).2.1 !=(0:Int))then(some (f69 (a0,())).2)
 else bif((decide (a1<(0:Int)))||(decide (a1>(5:Int))))then(some ((3:Int),()))
 else Vx.Ba (w397_7 (((a2.length:Int),a2,a0,(0:Int),()),())) fun y3=>
 Vx.A9 y3 (fun y4=>
 some ((0:Int),())) (fun z4=>
 some z4.1))
 else none
theorem bDB(x:DenS Qa):run (cf [(71,⟨B7,B8,p69,f69⟩),(85,⟨Cq,Cr,p66,f66⟩)] [(209,7,LoopSpec.of Iu lB Oc No w397_7)]) 9 209 Tryz.f209 Qa RX x=aQs p69 f69 p66 f66 w397_7 x.1 x.2.1 x.2.2.1:=by kernel_rfl
def aHL:Iu.D->Option (Ad Oc No):=Bf fun L=>iP Aq.pre Aq.F Au.pre Au.F L some
def aGA(x:DenS Qa):Option (DenS RX):=aQs Aq.pre Aq.F Au.pre Au.F aHL x.1 x.2.1 x.2.2.1
def mW:Sum:=Ah Qa RX aGA (DenS.dflt RX)
theorem aTz:Sound Tryz.prog G1 209 mW:=sd (cf [(71,Aq),(85,Au)] [(209,7,LoopSpec.of Iu lB Oc No aHL)]) 209 Tryz.f209 ⟨DC,FM,trivial⟩ ⟨rfl,fun d=>BA (fun L e x=>iP Aq.pre Aq.F Au.pre Au.F L e x) (aZN Aq.pre Aq.F Au.pre Au.F) (fun _ _ _ _=>bGr ..),trivial⟩ Qa RX aGA _ (fun _=>bDB ..)
abbrev aIE:=Af Qa
abbrev aKi:=Ae Qa RX
variable (p397:aIE)(f397:aKi)
abbrev LS:Aa:=[(false,Za),(false,Zb)]
abbrev Mw:Aa:=[(true,ZF)]
def aQt(p65:DW)(f65:DX)(p98:KZ)(f98:K2)(p40:TS)(f40:TW)(a0:Ab Za)(a1:Ab Zb):Option (DenS Mw):=let e1_:=(((f65 (a0,a1,())).1==(2:Int))||((f65 (a0,a1,())).1==(9:Int)));bif(p65 (a0,a1,()))then(bif(p98 (a0,a1,()))then(bif((!(decide ((f65 (a0,a1,())).1<=(1:Int))))&&(!e1_))then(bif(p40 (a0,a1,()))then(some (((decide ((f65 (a0,a1,())).1<=(1:Int))),((f65 (a0,a1,())).1==(0:Int)),false,e1_,(f98 (a0,a1,())).1,(f40 (a0,a1,())).1,()),()))else none)else some (((decide ((f65 (a0,a1,())).1<=(1:Int))),((f65 (a0,a1,())).1==(0:Int)),false,e1_,(f98 (a0,a1,())).1,(false,[],(0:Int),()),()),()))else none)else none
theorem bDC(x:DenS LS):run (cf [(59,⟨DQ,DR,p65,f65⟩),(91,⟨Fr,FE,p98,f98⟩),(203,⟨GD,GS,p40,f40⟩)] []) 9 212 Tryz.f212 LS Mw x=aQt p65 f65 p98 f98 p40 f40 x.1 x.2.1:=by kernel_rfl
def aGB(x:DenS LS):Option (DenS Mw):=aQt Bv.pre Bv.F Cg.pre Cg.F DB.pre DB.F x.1 x.2.1
def UI:Sum:=Ah LS Mw aGB (DenS.dflt Mw)
theorem aFg:Sound Tryz.prog G1 212 UI:=sd (cf [(59,Bv),(91,Cg),(203,DB)] []) 212 Tryz.f212 ⟨IE,UN,Z1,trivial⟩ trivial LS Mw aGB _ (fun _=>bDC ..)
abbrev aAG:=Af LS
abbrev aBn:=Ae LS Mw
variable (p398:aAG)(f398:aBn)
abbrev LZ:Aa:=[(true,Zs)]
abbrev MD:Aa:=[(false,Za)]
def t47(p102:G9)(f102:Hd)(a0:Ab Zs):Option (DenS MD):=bif(p102 (a0.2.1,()))then(bif(((f102 (a0.2.1,())).1.length:Int)==(0:Int))then(some ((0:Int),()))else bif a0.1 then(some ((-(1:Int)),()))else some ((1:Int),()))else none
theorem r47(x:DenS LZ):run (cf [(122,⟨Fq,Fy,p102,f102⟩)] []) 9 240 Tryz.f240 LZ MD x=t47 p102 f102 x.1:=by kernel_rfl
def T47(x:DenS LZ):Option (DenS MD):=t47 Ce.pre Ce.F x.1
def UM:Sum:=Ah LZ MD T47 (DenS.dflt MD)
theorem aFz:Sound Tryz.prog G1 240 UM:=sd (cf [(122,Ce)] []) 240 Tryz.f240 ⟨ZR,trivial⟩ trivial LZ MD T47 _ (fun _=>r47 ..)
abbrev Y47:=Af LZ
abbrev Z47:=Ae LZ MD
variable (p47:Y47)(f47:Z47)
abbrev LD:Aa:=[(true,Zs)]
abbrev Mf:Aa:=[(false,Za)]
def aPS(a0:Ab Zs):Option (DenS Mf):=bif(decide ((a0.2.1.length:Int)>(1024:Int)))then(some ((5:Int),()))else bif((decide (a0.2.2.1<(-(40000:Int))))||(decide (a0.2.2.1>(40000:Int))))then(some ((30:Int),()))else some ((0:Int),())
theorem bBU(x:DenS LD):run (cf [] []) 9 253 Tryz.f253 LD Mf x=aPS x.1:=by kernel_rfl
def aFK(x:DenS LD):Option (DenS Mf):=aPS x.1
def UH:Sum:=Ah LD Mf aFK (DenS.dflt Mf)
theorem aET:Sound Tryz.prog G1 253 UH:=sd (cf [] []) 253 Tryz.f253 trivial trivial LD Mf aFK _ (fun _=>bBU ..)
abbrev aAn:=Af LD
abbrev aA4:=Ae LD Mf
variable (p103:aAn)(f103:aA4)
abbrev Md:Aa:=[(true,Zs),(true,Zs)]
abbrev MO:Aa:=[(false,Za)]
def t99(p103:aAn)(f103:aA4)(a0 a1:Ab Zs):Option (DenS MO):=bif(p103 ((a0.1,a0.2),()))then(bif((f103 ((a0.1,a0.2),())).1 !=(0:Int))then(some (f103 ((a0.1,a0.2),())))else bif(p103 ((a1.1,a1.2),()))then(some (f103 ((a1.1,a1.2),())))else none)else none
theorem r99(x:DenS Md):run (cf [(253,⟨LD,Mf,p103,f103⟩)] []) 9 249 Tryz.f249 Md MO x=t99 p103 f103 x.1 x.2.1:=by kernel_rfl
def T99(x:DenS Md):Option (DenS MO):=t99 UH.pre UH.F x.1 x.2.1
def UO:Sum:=Ah Md MO T99 (DenS.dflt MO)
theorem aFE:Sound Tryz.prog G1 249 UO:=sd (cf [(253,UH)] []) 249 Tryz.f249 ⟨aET,trivial⟩ trivial Md MO T99 _ (fun _=>r99 ..)
abbrev Y99:=Af Md
abbrev Z99:=Ae Md MO
variable (p99:Y99)(f99:Z99)
abbrev Hz:Aa:=[(true,Zs)]
abbrev HN:Aa:=[(true,Zs)]
abbrev H0:Pat:=⟨42,[(4,.one (.v .i64)),(3,.one (.sl Zb)),(1,.one (.ptr 0 0)),(2,.one (.ptr 1 0))],[.raw [.bool,.sl Zb,.v .i64],.raw [.bool,.sl Zb,.v .i64]]⟩
abbrev j8:List (Nat×Shape):=[]
abbrev NG:List (Nat×Pat):=[(0,⟨42,[(4,.one (.v .i64)),(3,.one (.sl Zb)),(1,.one (.ptr 0 0)),(2,.one (.ptr 1 0))],[.raw [.bool,.sl Zb,.v .i64],.raw [.bool,.sl Zb,.v .i64]]⟩)]
abbrev MS:Option Pat:=none
variable (w100_5:Pat.D H0->Option (Ad NG MS))
def iF(p102:G9)(f102:Hd)(p92:KY)(f92:K1)(p141:U6)(f141:Vk){R:Type}(L:Pat.D H0->Option R)(e:Ad NG MS->Option R)(x:Pat.D H0):Option R:=bif((decide ((0:Int)<=(Bg .i64 x.1.1 (64:Int))))&&(decide ((Bg .i64 x.1.1 (64:Int))<(x.1.2.1.length:Int))))then(bif((x.1.2.1.getD (af (Bg .i64 x.1.1 (64:Int))) (0:Int))==(0:Int))then(((L (((aa .i64 (x.1.1+(64:Int))),x.1.2.1,(),(),()),x.2))))else(e (.inl ((x.1.1,x.1.2.1,(),(),()),x.2))))else none
theorem bFO(d:Nat)(R:Type)(L:Pat.D H0->Option R)(e:Ad NG MS->Option R)(x:Pat.D H0):
  Br (cf [(122,⟨Fq,Fy,p102,f102⟩),(191,⟨GG,GV,p92,f92⟩),(103,⟨Js,JZ,p141,f141⟩)] [(252,5,LoopSpec.of H0 j8 NG MS w100_5)]) (d+2) 252 (Bq Tryz.f252 5) H0 j8 NG MS (R:=R) L e x=iF p102 f102 p92 f92 p141 f141 L e x:=by kernel_rfl
theorem aZD(p102:G9)(f102:Hd)(p92:KY)(f92:K1)(p141:U6)(f141:Vk):Bo fun L e x=>iF p102 f102 p92 f92 p141 f141 L e x:=by intro _ _ _ _ _ _ _ h0 hL he _;unfold iF;repeat' (first|exact h0|exact hL _|exact he _|apply BB|(apply BC h0;intro _)|(apply BD<;>intro _))
def aPQ(p102:G9)(f102:Hd)(p92:KY)(f92:K1)(p141:U6)(f141:Vk)(w100_5:Pat.D H0->Option (Ad NG MS))(a0:Ab Zs):Option (DenS HN):=
 bif(p102 (a0.2.1,()))then(bif(((f102 (a0.2.1,())).1.length:Int)==(0:Int))then(some ((false,[],(0:Int),()),()))
 else Vx.Ba (w100_5 (((0:Int),(f102 (a0.2.1,())).1,(),(),()),(a0.1,a0.2),(false,[],(0:Int),()),())) fun y2=>
 Vx.A9 y2 (fun y3=>
 bif((decide ((0:Int)<=(Bg .i64 y3.1.1 (64:Int))))&&(decide ((Bg .i64 y3.1.1 (64:Int))<(y3.1.2.1.length:Int))))then(bif(p92 ((y3.1.2.1.getD (af (Bg .i64 y3.1.1 (64:Int))) (0:Int)),()))then(bif(p141 (y3.1.2.1,(aa .i64 (y3.1.1+(f92 ((y3.1.2.1.getD (af (Bg .i64 y3.1.1 (64:Int))) (0:Int)),())).1)),()))then(some ((y3.2.1.1,(f141 (y3.1.2.1,(aa .i64 (y3.1.1+(f92 ((y3.1.2.1.getD (af (Bg .i64 y3.1.1 (64:Int))) (0:Int)),())).1)),())).1,(aa .i64 (y3.2.1.2.2.1+(aa .i64 (y3.1.1+(f92 ((y3.1.2.1.getD (af (Bg .i64 y3.1.1 (64:Int))) (0:Int)),())).1)))),()),()))
 else none)
 else none)
 else none) (fun z3=>
 none))
 else none
theorem bBR(x:DenS Hz):run (cf [(122,⟨Fq,Fy,p102,f102⟩),(191,⟨GG,GV,p92,f92⟩),(103,⟨Js,JZ,p141,f141⟩)] [(252,5,LoopSpec.of H0 j8 NG MS w100_5)]) 9 252 Tryz.f252 Hz HN x=aPQ p102 f102 p92 f92 p141 f141 w100_5 x.1:=by kernel_rfl
def aHC:H0.D->Option (Ad NG MS):=Bf fun L=>iF Ce.pre Ce.F Co.pre Co.F Fh.pre Fh.F L some
def aFG(x:DenS Hz):Option (DenS HN):=aPQ Ce.pre Ce.F Co.pre Co.F Fh.pre Fh.F aHC x.1
def Gh:Sum:=Ah Hz HN aFG (DenS.dflt HN)
theorem lV:Sound Tryz.prog G1 252 Gh:=sd (cf [(122,Ce),(191,Co),(103,Fh)] [(252,5,LoopSpec.of H0 j8 NG MS aHC)]) 252 Tryz.f252 ⟨ZR,zS,aEZ,trivial⟩ ⟨rfl,fun d=>BA (fun L e x=>iF Ce.pre Ce.F Co.pre Co.F Fh.pre Fh.F L e x) (aZD Ce.pre Ce.F Co.pre Co.F Fh.pre Fh.F) (fun _ _ _ _=>bFO ..),trivial⟩ Hz HN aFG _ (fun _=>bBR ..)
abbrev eH:=Af Hz
abbrev eY:=Ae Hz HN
variable (p100:eH)(f100:eY)
abbrev PN:Aa:=[(false,Ze),(false,Ze)]
abbrev RF:Aa:=[(false,Ze)]
abbrev GY:Pat:=⟨84,[(25,.one (.v .i64)),(24,.one (.sl Zb)),(1,.one (.sl Zb)),(26,.one (.v .i64)),(5,.one (.own 0))],[.arr Zb]⟩
abbrev Y6:List (Nat×Shape):=[]
abbrev KP:List (Nat×Pat):=[(0,⟨84,[(5,.one (.own 0))],[.arr Zb]⟩)]
abbrev Kt:Option Pat:=none
abbrev FF:Pat:=⟨84,[(32,.one (.v .i64)),(31,.one (.sl Zb)),(7,.one (.v .u64)),(33,.one (.v .i64)),(6,.one (.v .i64)),(8,.one (.v .u64)),(26,.one (.v .i64)),(25,.one (.v .i64)),(24,.one (.sl Zb)),(1,.one (.sl Zb)),(5,.one (.own 0))],[.arr Zb]⟩
abbrev Y7:List (Nat×Shape):=[]
abbrev G7:List (Nat×Pat):=[(2,⟨84,[(6,.one (.v .i64)),(8,.one (.v .u64)),(26,.one (.v .i64)),(25,.one (.v .i64)),(24,.one (.sl Zb)),(1,.one (.sl Zb)),(5,.one (.own 0))],[.arr Zb]⟩)]
abbrev G4:Option Pat:=none
variable (w324_4:Pat.D GY->Option (Ad KP Kt))(w324_8:Pat.D FF->Option (Ad G7 G4))
def iL(p315:E0)(f315:E2)(p155:C5)(f155:C6)(p173:Bw)(f173:Bx){R:Type}(L:Pat.D FF->Option R)(e:Ad G7 G4->Option R)(x:Pat.D FF):Option R:=let e10_:=(x.1.2.2.1,(x.1.2.1.getD (af x.1.2.2.2.1) (0:Int)),());let e8_:=(f315 e10_);let e11_:=(aa .i64 (x.1.2.2.2.2.1+x.1.2.2.2.1));let e9_:=(af e11_);let e7_:=(f155 (e8_.2.1,(x.2.1.getD e9_ (0:Int)),(0:Int),()));let e1_:=(f155 (e7_.1,x.1.2.2.2.2.2.1,(0:Int),()));let e2_:=e7_;let e3_:=((decide ((0:Int)<=e11_))&&(decide (e11_<(x.2.1.length:Int))));let e4_:=(x.1.2.2.2.2.2.2.1,x.1.2.2.2.2.2.2.2.1,x.1.2.2.2.2.2.2.2.2.1,x.1.2.2.2.2.2.2.2.2.2.1,(),());let e5_:=e8_;let e6_:=e9_;bif(decide (x.1.2.2.2.1<x.1.1))then(bif((decide ((0:Int)<=x.1.2.2.2.1))&&(decide (x.1.2.2.2.1<(x.1.2.1.length:Int))))then(bif(p315 e10_)then(bif e3_ then(bif(p155 (e5_.2.1,(x.2.1.getD e6_ (0:Int)),(0:Int),()))then(bif(p155 (e2_.1,x.1.2.2.2.2.2.1,(0:Int),()))then(bif e3_ then(((L ((x.1.1,x.1.2.1,x.1.2.2.1,(aa .i64 (x.1.2.2.2.1+(1:Int))),x.1.2.2.2.2.1,(aa .u64 ((aa .u64 (e5_.1+e2_.2.1))+e1_.2.1)),e4_),(x.2.1.set e6_ e1_.1),()))))else none)else none)else none)else none)else none)else none)else(e (.inl ((x.1.2.2.2.2.1,x.1.2.2.2.2.2.1,e4_),x.2)))
theorem bGe(d:Nat)(R:Type)(L:Pat.D FF->Option R)(e:Ad G7 G4->Option R)(x:Pat.D FF):
  Br (cf [(120,⟨EG,EK,p315,f315⟩),(94,⟨Fc,FB,p155,f155⟩),(93,⟨BT,BU,p173,f173⟩)] [(102,4,LoopSpec.of GY Y6 KP Kt w324_4),(102,8,LoopSpec.of FF Y7 G7 G4 w324_8)]) (d+2) 102 (Bq Tryz.f102 8) FF Y7 G7 G4 (R:=R) L e x=iL p315 f315 p155 f155 p173 f173 L e x:=by kernel_rfl
theorem aZJ(p315:E0)(f315:E2)(p155:C5)(f155:C6)(p173:Bw)(f173:Bx):Bo fun L e x=>iL p315 f315 p155 f155 p173 f173 L e x:=by intro _ _ _ _ _ _ _ h0 hL he _;unfold iL;repeat' (first|exact h0|exact hL _|exact he _|apply BB|(apply BC h0;intro _)|(apply BD<;>intro _))
def iK(p315:E0)(f315:E2)(p155:C5)(f155:C6)(p173:Bw)(f173:Bx)(w324_8:Pat.D FF->Option (Ad G7 G4)){R:Type}(L:Pat.D GY->Option R)(e:Ad KP Kt->Option R)(x:Pat.D GY):Option R:=
 bif(decide (x.1.2.2.2.1<x.1.1))then(bif((decide ((0:Int)<=x.1.2.2.2.1))&&(decide (x.1.2.2.2.1<(x.1.2.1.length:Int))))then(Vx.Ba (w324_8 (((x.1.2.2.1.length:Int),x.1.2.2.1,(x.1.2.1.getD (af x.1.2.2.2.1) (0:Int)),(0:Int),x.1.2.2.2.1,(0:Int),x.1.2.2.2.1,x.1.1,x.1.2.1,x.1.2.2.1,(),()),x.2)) fun y2=>
 Vx.A9 y2 (fun y3=>
 bif((decide ((0:Int)<=(aa .i64 (y3.1.1+(y3.1.2.2.2.2.2.1.length:Int)))))&&(decide ((aa .i64 (y3.1.1+(y3.1.2.2.2.2.2.1.length:Int)))<(y3.2.1.length:Int))))then(((L ((y3.1.2.2.2.1,y3.1.2.2.2.2.1,y3.1.2.2.2.2.2.1,(aa .i64 (y3.1.2.2.1+(1:Int))),(),()),(y3.2.1.set (af (aa .i64 (y3.1.1+(y3.1.2.2.2.2.2.1.length:Int)))) y3.1.2.1),()))))
 else none) (fun z3=>
 none))
 else none)
 else(e (.inl (((),()),x.2)))
theorem bGd(d:Nat)(R:Type)(L:Pat.D GY->Option R)(e:Ad KP Kt->Option R)(x:Pat.D GY):
  Br (cf [(120,⟨EG,EK,p315,f315⟩),(94,⟨Fc,FB,p155,f155⟩),(93,⟨BT,BU,p173,f173⟩)] [(102,4,LoopSpec.of GY Y6 KP Kt w324_4),(102,8,LoopSpec.of FF Y7 G7 G4 w324_8)]) (d+2) 102 (Bq Tryz.f102 4) GY Y6 KP Kt (R:=R) L e x=iK p315 f315 p155 f155 p173 f173 w324_8 L e x:=by kernel_rfl
theorem aZI(p315:E0)(f315:E2)(p155:C5)(f155:C6)(p173:Bw)(f173:Bx)(w324_8:Pat.D FF->Option (Ad G7 G4)):Bo fun L e x=>iK p315 f315 p155 f155 p173 f173 w324_8 L e x:=by intro _ _ _ _ _ _ _ h0 hL he _;unfold iK;repeat' (first|exact h0|exact hL _|exact he _|apply BB|(apply BC h0;intro _)|(apply BD<;>intro _))
def aQf(p315:E0)(f315:E2)(p155:C5)(f155:C6)(p173:Bw)(f173:Bx)(w324_4:Pat.D GY->Option (Ad KP Kt))(w324_8:Pat.D FF->Option (Ad G7 G4))(a0 a1:Ab Ze):Option (DenS RF):=
 let e1_:=(aa .i64 (((f173 (a0,())).1.length:Int)+((f173 (a1,())).1.length:Int)))
 bif(p173 (a0,()))then(bif(p173 (a1,()))then(bif((decide ((0:Int)<=e1_))&&(decide ((e1_*(8:Int))<=(140737488355328:Int))))then(Vx.Ba (w324_4 ((((f173 (a0,())).1.length:Int),(f173 (a0,())).1,(f173 (a1,())).1,(0:Int),(),()),(aq (af e1_) (0:Int)),())) fun y3=>
 Vx.A9 y3 (fun y4=>
 bif(p173 y4.2)then(some (f173 y4.2))
 else none) (fun z4=>
 none))
 else none)
 else none)
 else none
theorem bC8(x:DenS PN):run (cf [(120,⟨EG,EK,p315,f315⟩),(94,⟨Fc,FB,p155,f155⟩),(93,⟨BT,BU,p173,f173⟩)] [(102,4,LoopSpec.of GY Y6 KP Kt w324_4),(102,8,LoopSpec.of FF Y7 G7 G4 w324_8)]) 9 102 Tryz.f102 PN RF x=aQf p315 f315 p155 f155 p173 f173 w324_4 w324_8 x.1 x.2.1:=by kernel_rfl
def eB:FF.D->Option (Ad G7 G4):=Bf fun L=>iL Bi.pre Bi.F AC.pre AC.F Aj.pre Aj.F L some
def aHH:GY.D->Option (Ad KP Kt):=Bf fun L=>iK Bi.pre Bi.F AC.pre AC.F Aj.pre Aj.F eB L some
def aGk(x:DenS PN):Option (DenS RF):=aQf Bi.pre Bi.F AC.pre AC.F Aj.pre Aj.F aHH eB x.1 x.2.1
def mO:Sum:=Ah PN RF aGk (DenS.dflt RF)
theorem aTc:Sound Tryz.prog G1 102 mO:=sd (cf [(120,Bi),(94,AC),(93,Aj)] [(102,4,LoopSpec.of GY Y6 KP Kt aHH),(102,8,LoopSpec.of FF Y7 G7 G4 eB)]) 102 Tryz.f102 ⟨mL,Wy,Eg,trivial⟩ ⟨rfl,fun d=>BA (fun L e x=>iK Bi.pre Bi.F AC.pre AC.F Aj.pre Aj.F eB L e x) (aZI Bi.pre Bi.F AC.pre AC.F Aj.pre Aj.F eB) (fun _ _ _ _=>bGd ..),⟨rfl,fun d=>BA (fun L e x=>iL Bi.pre Bi.F AC.pre AC.F Aj.pre Aj.F L e x) (aZJ Bi.pre Bi.F AC.pre AC.F Aj.pre Aj.F) (fun _ _ _ _=>bGe ..),trivial⟩⟩ PN RF aGk _ (fun _=>bC8 ..)
abbrev aAy:=Af PN
abbrev aBf:=Ae PN RF
variable (p324:aAy)(f324:aBf)
abbrev PO:Aa:=[(false,Ze),(false,Ze)]
abbrev RH:Aa:=[(false,Ze),(false,Za)]
def aQg(p324:aAy)(f324:aBf)(p185:U9)(f185:Vn)(a0 a1:Ab Ze):Option (DenS RH):=bif(p185 ((a0::(a1::[])),()))then(bif(f185 ((a0::(a1::[])),())).1 then(some ([],(5:Int),()))else bif(p324 (a0,a1,()))then(bif(p185 (((f324 (a0,a1,())).1::[]),()))then(bif(f185 (((f324 (a0,a1,())).1::[]),())).1 then(some ([],(5:Int),()))else some ((f324 (a0,a1,())).1,(0:Int),()))else none)else none)else none
theorem bC9(x:DenS PO):run (cf [(102,⟨PN,RF,p324,f324⟩),(96,⟨Jx,J4,p185,f185⟩)] []) 9 95 Tryz.f95 PO RH x=aQg p324 f324 p185 f185 x.1 x.2.1:=by kernel_rfl
def aGl(x:DenS PO):Option (DenS RH):=aQg mO.pre mO.F EO.pre EO.F x.1 x.2.1
def mP:Sum:=Ah PO RH aGl (DenS.dflt RH)
theorem aTd:Sound Tryz.prog G1 95 mP:=sd (cf [(102,mO),(96,EO)] []) 95 Tryz.f95 ⟨aTc,yZ,trivial⟩ trivial PO RH aGl _ (fun _=>bC9 ..)
abbrev aAz:=Af PO
abbrev aBg:=Ae PO RH
variable (p325:aAz)(f325:aBg)
abbrev Jj:Aa:=[(true,Zs)]
abbrev JS:Aa:=[(true,Zs),(false,Za)]
def aPT(p100:eH)(f100:eY)(a0:Ab Zs):Option (DenS JS):=bif(p100 ((a0.1,a0.2),()))then(bif(decide (((f100 ((a0.1,a0.2),())).1.2.1.length:Int)>(1024:Int)))then(some ((false,[],(0:Int),()),(5:Int),()))else bif((decide ((f100 ((a0.1,a0.2),())).1.2.2.1<(-(40000:Int))))||(decide ((f100 ((a0.1,a0.2),())).1.2.2.1>(40000:Int))))then(some ((false,[],(0:Int),()),(30:Int),()))else some ((f100 ((a0.1,a0.2),())).1,(0:Int),()))else none
theorem bBV(x:DenS Jj):run (cf [(252,⟨Hz,HN,p100,f100⟩)] []) 9 250 Tryz.f250 Jj JS x=aPT p100 f100 x.1:=by kernel_rfl
def aFL(x:DenS Jj):Option (DenS JS):=aPT Gh.pre Gh.F x.1
def KD:Sum:=Ah Jj JS aFL (DenS.dflt JS)
theorem yL:Sound Tryz.prog G1 250 KD:=sd (cf [(252,Gh)] []) 250 Tryz.f250 ⟨lV,trivial⟩ trivial Jj JS aFL _ (fun _=>bBV ..)
abbrev oY:=Af Jj
abbrev pR:=Ae Jj JS
variable (p104:oY)(f104:pR)
abbrev PW:Aa:=[(true,Zs),(true,Zs)]
abbrev RO:Aa:=[(true,Zs),(false,Za)]
def aQl(p99:Y99)(f99:Z99)(p100:eH)(f100:eY)(p325:aAz)(f325:aBg)(p104:oY)(f104:pR)(a0 a1:Ab Zs):Option (DenS RO):=let e4_:=((f100 ((a0.1,a0.2),())).1.2.1,(f100 ((a1.1,a1.2),())).1.2.1,());let e3_:=(f325 e4_);let e1_:=(((!((f100 ((a0.1,a0.2),())).1.1==(f100 ((a1.1,a1.2),())).1.1)),e3_.1,(aa .i64 ((f100 ((a0.1,a0.2),())).1.2.2.1+(f100 ((a1.1,a1.2),())).1.2.2.1)),()),());let e2_:=e3_;bif(p99 ((a0.1,a0.2),(a1.1,a1.2),()))then(bif((f99 ((a0.1,a0.2),(a1.1,a1.2),())).1 !=(0:Int))then(some ((false,[],(0:Int),()),(f99 ((a0.1,a0.2),(a1.1,a1.2),()))))else bif(p100 ((a0.1,a0.2),()))then(bif(p100 ((a1.1,a1.2),()))then(bif(p325 e4_)then(bif(e2_.2.1 !=(0:Int))then(some ((false,[],(0:Int),()),e2_.2))else bif(p104 e1_)then(some (f104 e1_))else none)else none)else none)else none)else none
theorem bDn(x:DenS PW):run (cf [(249,⟨Md,MO,p99,f99⟩),(252,⟨Hz,HN,p100,f100⟩),(95,⟨PO,RH,p325,f325⟩),(250,⟨Jj,JS,p104,f104⟩)] []) 9 241 Tryz.f241 PW RO x=aQl p99 f99 p100 f100 p325 f325 p104 f104 x.1 x.2.1:=by kernel_rfl
def aGr(x:DenS PW):Option (DenS RO):=aQl UO.pre UO.F Gh.pre Gh.F mP.pre mP.F KD.pre KD.F x.1 x.2.1
def mR:Sum:=Ah PW RO aGr (DenS.dflt RO)
theorem aTp:Sound Tryz.prog G1 241 mR:=sd (cf [(249,UO),(252,Gh),(95,mP),(250,KD)] []) 241 Tryz.f241 ⟨aFE,lV,aTd,yL,trivial⟩ trivial PW RO aGr _ (fun _=>bDn ..)
abbrev aIu:=Af PW
abbrev aJ8:=Ae PW RO
variable (p360:aIu)(f360:aJ8)
abbrev Qb:Aa:=[(false,Za),(false,Zb),(false,Zb)]
abbrev RY:Aa:=[(true,ZF)]
def aQu(p398:aAG)(f398:aBn)(p47:Y47)(f47:Z47)(p360:aIu)(f360:aJ8)(a0:Ab Za)(a1 a2:Ab Zb):Option (DenS RY):=let e7_:=(((f398 (a0,a1,())).1.2.2.2.1&&(!(f398 (a0,a2,())).1.2.2.2.1))&&((f47 (f398 (a0,a2,())).1.2.2.2.2.2).1==(0:Int)));let e1_:=(e7_||(((f398 (a0,a2,())).1.2.2.2.1&&(!(f398 (a0,a1,())).1.2.2.2.1))&&((f47 (f398 (a0,a1,())).1.2.2.2.2.2).1==(0:Int))));let e8_:=(!((f398 (a0,a1,())).1.2.2.2.2.1==(f398 (a0,a2,())).1.2.2.2.2.1));let e2_:=(e8_,(false,[],(0:Int),()),());let e3_:=((f398 (a0,a1,())).1.2.2.2.2.2.1,(f398 (a0,a2,())).1.2.2.2.2.2);let e4_:=((f398 (a0,a1,())).1.2.2.2.1||(f398 (a0,a2,())).1.2.2.2.1);let e5_:=((f398 (a0,a1,())).1.2.1||(f398 (a0,a2,())).1.2.1);let e6_:=((f398 (a0,a1,())).1.1||(f398 (a0,a2,())).1.1);bif(p398 (a0,a1,()))then(bif(p398 (a0,a2,()))then(bif e6_ then(some ((e6_,e5_,false,false,e2_),()))else bif((p47 (f398 (a0,a2,())).1.2.2.2.2.2)||(!(bif(f398 (a0,a1,())).1.2.2.2.1 then(!(f398 (a0,a2,())).1.2.2.2.1)else false)))then(bif((p47 (f398 (a0,a1,())).1.2.2.2.2.2)||(!((bif e7_ then false else true)&&(bif(f398 (a0,a2,())).1.2.2.2.1 then(!(f398 (a0,a1,())).1.2.2.2.1)else false))))then(bif(!e4_)then(bif(p360 e3_)then(some ((e6_,e5_,e1_,e4_,e8_,(f360 e3_).1,()),()))else none)else some ((e6_,e5_,e1_,e4_,e2_),()))else none)else none)else none)else none
theorem bDD(x:DenS Qb):run (cf [(212,⟨LS,Mw,p398,f398⟩),(240,⟨LZ,MD,p47,f47⟩),(241,⟨PW,RO,p360,f360⟩)] []) 9 211 Tryz.f211 Qb RY x=aQu p398 f398 p47 f47 p360 f360 x.1 x.2.1 x.2.2.1:=by kernel_rfl
def aGC(x:DenS Qb):Option (DenS RY):=aQu UI.pre UI.F UM.pre UM.F mR.pre mR.F x.1 x.2.1 x.2.2.1
def mX:Sum:=Ah Qb RY aGC (DenS.dflt RY)
theorem aTA:Sound Tryz.prog G1 211 mX:=sd (cf [(212,UI),(240,UM),(241,mR)] []) 211 Tryz.f211 ⟨aFg,aFz,aTp,trivial⟩ trivial Qb RY aGC _ (fun _=>bDD ..)
abbrev aIF:=Af Qb
abbrev aKj:=Ae Qb RY
variable (p399:aIF)(f399:aKj)
abbrev Pu:Aa:=[(false,Ze),(false,Za)]
abbrev Ro:Aa:=[(false,Ze)]
abbrev Ig:Pat:=⟨57,[(25,.one (.v .i64)),(24,.one (.sl Zb)),(5,.one (.v .i64)),(6,.one (.v .u64)),(26,.one (.v .i64)),(7,.one (.own 0))],[.arr Zb]⟩
abbrev kO:List (Nat×Shape):=[]
abbrev NW:List (Nat×Pat):=[(0,⟨57,[(7,.one (.own 0))],[.arr Zb]⟩)]
abbrev M8:Option Pat:=none
variable (w172_6:Pat.D Ig->Option (Ad NW M8))
def iG(p102:G9)(f102:Hd){R:Type}(L:Pat.D Ig->Option R)(e:Ad NW M8->Option R)(x:Pat.D Ig):Option R:=let e6_:=(aa .i64 (x.1.2.2.1+x.1.2.2.2.2.1));let e5_:=(af e6_);let e7_:=(x.1.2.1.getD (af x.1.2.2.2.2.1) (0:Int));let e1_:=(x.2.1.set e5_ (Ai .u64 (x.2.1.getD e5_ (0:Int)) (Be .u64 e7_ x.1.2.2.2.1)));let e2_:=((decide ((0:Int)<=e6_))&&(decide (e6_<(x.2.1.length:Int))));let e3_:=(x.1.1,x.1.2.1,x.1.2.2.1,x.1.2.2.2.1,(aa .i64 (x.1.2.2.2.2.1+(1:Int))),(),());let e4_:=(aa .i64 (e6_+(1:Int)));bif(decide (x.1.2.2.2.2.1<x.1.1))then(bif((decide ((0:Int)<=x.1.2.2.2.2.1))&&(decide (x.1.2.2.2.2.1<(x.1.2.1.length:Int))))then(bif e2_ then(bif e2_ then(bif(decide (x.1.2.2.2.1>(0:Int)))then(bif((decide ((0:Int)<=e4_))&&(decide (e4_<(e1_.length:Int))))then(((L (e3_,(e1_.set (af e4_) (AL .u64 e7_ (aa .u64 ((64:Int)-x.1.2.2.2.1)))),()))))else none)else(L (e3_,e1_,())))else none)else none)else none)else(e (.inl (((),()),x.2)))
theorem bF4(d:Nat)(R:Type)(L:Pat.D Ig->Option R)(e:Ad NW M8->Option R)(x:Pat.D Ig):
  Br (cf [(122,⟨Fq,Fy,p102,f102⟩)] [(256,6,LoopSpec.of Ig kO NW M8 w172_6)]) (d+2) 256 (Bq Tryz.f256 6) Ig kO NW M8 (R:=R) L e x=iG p102 f102 L e x:=by kernel_rfl
theorem aZE(p102:G9)(f102:Hd):Bo fun L e x=>iG p102 f102 L e x:=by intro _ _ _ _ _ _ _ h0 hL he _;unfold iG;repeat' (first|exact h0|exact hL _|exact he _|apply BB|(apply BC h0;intro _)|(apply BD<;>intro _))
def aP4(p102:G9)(f102:Hd)(w172_6:Pat.D Ig->Option (Ad NW M8))(a0:Ab Ze)(a1:Ab Za):Option (DenS Ro):=
 let e1_:=(aa .i64 ((aa .i64 ((Bg .i64 a1 (64:Int))+(a0.length:Int)))+(1:Int)))
 bif((a0.length:Int)==(0:Int))then(some ([],()))
 else bif((decide ((0:Int)<=e1_))&&(decide ((e1_*(8:Int))<=(140737488355328:Int))))then(Vx.Ba (w172_6 (((a0.length:Int),a0,(Bg .i64 a1 (64:Int)),(aa .u64 (gj a1 (64:Int))),(0:Int),(),()),(aq (af e1_) (0:Int)),())) fun y2=>
 Vx.A9 y2 (fun y3=>
 bif(p102 y3.2)then(some (f102 y3.2))
 else none) (fun z3=>
 none))
 else none
theorem bCH(x:DenS Pu):run (cf [(122,⟨Fq,Fy,p102,f102⟩)] [(256,6,LoopSpec.of Ig kO NW M8 w172_6)]) 9 256 Tryz.f256 Pu Ro x=aP4 p102 f102 w172_6 x.1 x.2.1:=by kernel_rfl
def aHD:Ig.D->Option (Ad NW M8):=Bf fun L=>iG Ce.pre Ce.F L some
def aF6(x:DenS Pu):Option (DenS Ro):=aP4 Ce.pre Ce.F aHD x.1 x.2.1
def mG:Sum:=Ah Pu Ro aF6 (DenS.dflt Ro)
theorem aSZ:Sound Tryz.prog G1 256 mG:=sd (cf [(122,Ce)] [(256,6,LoopSpec.of Ig kO NW M8 aHD)]) 256 Tryz.f256 ⟨ZR,trivial⟩ ⟨rfl,fun d=>BA (fun L e x=>iG Ce.pre Ce.F L e x) (aZE Ce.pre Ce.F) (fun _ _ _ _=>bF4 ..),trivial⟩ Pu Ro aF6 _ (fun _=>bCH ..)
abbrev aId:=Af Pu
abbrev aJR:=Ae Pu Ro
variable (p172:aId)(f172:aJR)
abbrev Pl:Aa:=[(true,Zs),(true,Zs)]
abbrev Re:Aa:=[(false,Ze),(false,Ze),(false,Za)]
def aP2(p172:aId)(f172:aJR)(a0 a1:Ab Zs):Option (DenS Re):=let e3_:=(if(a1.2.2.1<a0.2.2.1)then a1.2.2.1 else a0.2.2.1);let e1_:=(a0.2.1,(aa .i64 (a0.2.2.1-e3_)),());let e2_:=(a1.2.1,(aa .i64 (a1.2.2.1-e3_)),());bif(p172 e1_)then(bif(p172 e2_)then(some ((f172 e1_).1,(f172 e2_).1,e3_,()))else none)else none
theorem bCo(x:DenS Pl):run (cf [(256,⟨Pu,Ro,p172,f172⟩)] []) 9 255 Tryz.f255 Pl Re x=aP2 p172 f172 x.1 x.2.1:=by kernel_rfl
def aFZ(x:DenS Pl):Option (DenS Re):=aP2 mG.pre mG.F x.1 x.2.1
def mB:Sum:=Ah Pl Re aFZ (DenS.dflt Re)
theorem aSP:Sound Tryz.prog G1 255 mB:=sd (cf [(256,mG)] []) 255 Tryz.f255 ⟨aSZ,trivial⟩ trivial Pl Re aFZ _ (fun _=>bCo ..)
abbrev aH4:=Af Pl
abbrev aJI:=Ae Pl Re
variable (p142:aH4)(f142:aJI)
abbrev Pe:Aa:=[(true,Zs),(true,Zs)]
abbrev Q7:Aa:=[(true,Zs)]
def aPR(p142:aH4)(f142:aJI)(p143:Ol)(f143:Oo)(p144:IH)(f144:IL)(p145:W6)(f145:Xk)(p100:eH)(f100:eY)(a0 a1:Ab Zs):Option (DenS Q7):=let e5_:=((f142 ((a0.1,a0.2),(a1.1,a1.2),())).1,(f142 ((a0.1,a0.2),(a1.1,a1.2),())).2.1,());let e1_:=((a0.1,(f143 e5_).1,(f142 ((a0.1,a0.2),(a1.1,a1.2),())).2.2),());let e6_:=((f142 ((a0.1,a0.2),(a1.1,a1.2),())).2.1,(f142 ((a0.1,a0.2),(a1.1,a1.2),())).1,());let e2_:=((a1.1,(f145 e6_).1,(f142 ((a0.1,a0.2),(a1.1,a1.2),())).2.2),());let e3_:=((a0.1,(f145 e5_).1,(f142 ((a0.1,a0.2),(a1.1,a1.2),())).2.2),());let e4_:=e5_;bif((a0.2.1.length:Int)==(0:Int))then(some ((a1.1,a1.2),()))else bif((a1.2.1.length:Int)==(0:Int))then(some ((a0.1,a0.2),()))else bif(p142 ((a0.1,a0.2),(a1.1,a1.2),()))then(bif(a0.1==a1.1)then(bif(p143 e4_)then(bif(p100 e1_)then(some (f100 e1_))else none)else none)else bif(p144 e4_)then(bif(decide ((f144 e4_).1<(0:Int)))then(bif(p145 e6_)then(bif(p100 e2_)then(some (f100 e2_))else none)else none)else bif(p145 e4_)then(bif(p100 e3_)then(some (f100 e3_))else none)else none)else none)else none
theorem bBS(x:DenS Pe):run (cf [(255,⟨Pl,Re,p142,f142⟩),(65,⟨HH,GQ,p143,f143⟩),(101,⟨F0,F8,p144,f144⟩),(248,⟨Jt,J0,p145,f145⟩),(252,⟨Hz,HN,p100,f100⟩)] []) 9 251 Tryz.f251 Pe Q7 x=aPR p142 f142 p143 f143 p144 f144 p145 f145 p100 f100 x.1 x.2.1:=by kernel_rfl
def aFH(x:DenS Pe):Option (DenS Q7):=aPR mB.pre mB.F Db.pre Db.F B1.pre B1.F DT.pre DT.F Gh.pre Gh.F x.1 x.2.1
def lW:Sum:=Ah Pe Q7 aFH (DenS.dflt Q7)
theorem aSF:Sound Tryz.prog G1 251 lW:=sd (cf [(255,mB),(65,Db),(101,B1),(248,DT),(252,Gh)] []) 251 Tryz.f251 ⟨aSP,yV,mC,aE0,lV,trivial⟩ trivial Pe Q7 aFH _ (fun _=>bBS ..)
abbrev aHX:=Af Pe
abbrev aJB:=Ae Pe Q7
variable (p101:aHX)(f101:aJB)
abbrev QX:Aa:=[(true,Zs),(true,Zs)]
abbrev SL:Aa:=[(true,Zs),(false,Za)]
def t49(p99:Y99)(f99:Z99)(p100:eH)(f100:eY)(p101:aHX)(f101:aJB)(p104:oY)(f104:pR)(a0 a1:Ab Zs):Option (DenS SL):=let e2_:=((f100 ((a0.1,a0.2),())).1,(f100 ((a1.1,a1.2),())));let e1_:=(f101 e2_);bif(p99 ((a0.1,a0.2),(a1.1,a1.2),()))then(bif((f99 ((a0.1,a0.2),(a1.1,a1.2),())).1 !=(0:Int))then(some ((false,[],(0:Int),()),(f99 ((a0.1,a0.2),(a1.1,a1.2),()))))else bif(p100 ((a0.1,a0.2),()))then(bif(p100 ((a1.1,a1.2),()))then(bif(p101 e2_)then(bif(p104 e1_)then(some (f104 e1_))else none)else none)else none)else none)else none
theorem r49(x:DenS QX):run (cf [(249,⟨Md,MO,p99,f99⟩),(252,⟨Hz,HN,p100,f100⟩),(251,⟨Pe,Q7,p101,f101⟩),(250,⟨Jj,JS,p104,f104⟩)] []) 9 239 Tryz.f239 QX SL x=t49 p99 f99 p100 f100 p101 f101 p104 f104 x.1 x.2.1:=by kernel_rfl
def T49(x:DenS QX):Option (DenS SL):=t49 UO.pre UO.F Gh.pre Gh.F lW.pre lW.F KD.pre KD.F x.1 x.2.1
def nM:Sum:=Ah QX SL T49 (DenS.dflt SL)
theorem aUg:Sound Tryz.prog G1 239 nM:=sd (cf [(249,UO),(252,Gh),(251,lW),(250,KD)] []) 239 Tryz.f239 ⟨aFE,lV,aSF,yL,trivial⟩ trivial QX SL T49 _ (fun _=>r49 ..)
abbrev Y49:=Af QX
abbrev Z49:=Ae QX SL
variable (p49:Y49)(f49:Z49)
abbrev Pf:Aa:=[(true,Zs)]
abbrev Q8:Aa:=[(true,Zs),(false,Za)]
def aPU(p103:aAn)(f103:aA4)(p104:oY)(f104:pR)(a0:Ab Zs):Option (DenS Q8):=bif(p103 ((a0.1,a0.2),()))then(bif((f103 ((a0.1,a0.2),())).1 !=(0:Int))then(some ((false,[],(0:Int),()),(f103 ((a0.1,a0.2),()))))else bif(p104 ((a0.1,a0.2),()))then(some (f104 ((a0.1,a0.2),())))else none)else none
theorem bBX(x:DenS Pf):run (cf [(253,⟨LD,Mf,p103,f103⟩),(250,⟨Jj,JS,p104,f104⟩)] []) 9 246 Tryz.f246 Pf Q8 x=aPU p103 f103 p104 f104 x.1:=by kernel_rfl
def aFN(x:DenS Pf):Option (DenS Q8):=aPU UH.pre UH.F KD.pre KD.F x.1
def lX:Sum:=Ah Pf Q8 aFN (DenS.dflt Q8)
theorem aSG:Sound Tryz.prog G1 246 lX:=sd (cf [(253,UH),(250,KD)] []) 246 Tryz.f246 ⟨aET,yL,trivial⟩ trivial Pf Q8 aFN _ (fun _=>bBX ..)
abbrev aHY:=Af Pf
abbrev aJC:=Ae Pf Q8
variable (p106:aHY)(f106:aJC)
abbrev JJ:Aa:=[(false,Za),(false,Za),(true,Zs)]
abbrev Kj:Aa:=[(false,Zb),(false,Za),(false,Za)]
def t51(p105:W2)(f105:Xg)(p106:aHY)(f106:aJC)(p107:W3)(f107:Xh)(a0 a1:Ab Za)(a2:Ab Zs):Option (DenS Kj):=let e2_:=(((f106 ((a2.1,a2.2),())).1.1,(f106 ((a2.1,a2.2),())).1.2.1,(f106 ((a2.1,a2.2),())).1.2.2.1,false,()),a0,(f105 (a0,a1,())).1,a1,());let e1_:=(f107 e2_);bif(p105 (a0,a1,()))then(bif((f105 (a0,a1,())).2.1 !=(0:Int))then(some ((0:Int),(0:Int),(f105 (a0,a1,())).2))else bif(p106 ((a2.1,a2.2),()))then(bif((f106 ((a2.1,a2.2),())).2.1 !=(0:Int))then(some ((0:Int),(0:Int),(f106 ((a2.1,a2.2),())).2))else bif(((f106 ((a2.1,a2.2),())).1.2.1.length:Int)==(0:Int))then(some ((0:Int),(0:Int),(0:Int),()))else bif(p107 e2_)then(some (e1_.1,e1_.2.1,(0:Int),()))else none)else none)else none
theorem r51(x:DenS JJ):run (cf [(121,⟨Jk,JT,p105,f105⟩),(246,⟨Pf,Q8,p106,f106⟩),(124,⟨Jl,JU,p107,f107⟩)] []) 9 231 Tryz.f231 JJ Kj x=t51 p105 f105 p106 f106 p107 f107 x.1 x.2.1 x.2.2.1:=by kernel_rfl
def T51(x:DenS JJ):Option (DenS Kj):=t51 FH.pre FH.F lX.pre lX.F FI.pre FI.F x.1 x.2.1 x.2.2.1
def KI:Sum:=Ah JJ Kj T51 (DenS.dflt Kj)
theorem zK:Sound Tryz.prog G1 231 KI:=sd (cf [(121,FH),(246,lX),(124,FI)] []) 231 Tryz.f231 ⟨yM,aSG,yN,trivial⟩ trivial JJ Kj T51 _ (fun _=>r51 ..)
abbrev pO:=Af JJ
abbrev qL:=Ae JJ Kj
variable (p51:pO)(f51:qL)
abbrev Qc:Aa:=[(false,Za),(false,Za),(true,ZF),(true,ZF)]
abbrev RZ:Aa:=[(false,Zb),(false,Za),(false,Za)]
def aQv(p70:DE)(f70:DF)(p97:On)(f97:Ot)(p49:Y49)(f49:Z49)(p47:Y47)(f47:Z47)(p118:IG)(f118:IK)(p51:pO)(f51:qL)(a0 a1:Ab Za)(a2:Ab ZF)(a3:Ab ZF):Option (DenS RZ):=let e1_:=(a0,a1,(f49 (a2.2.2.2.2.2.1,a3.2.2.2.2.2)).1,());let e2_:=((f70 (a0,())).1,(1:Int),(0:Int),());bif(p70 (a0,()))then(bif(((a2.2.1||a3.2.1)||a2.2.2.1)||a3.2.2.1)then(some e2_)else bif(a2.1||a3.1)then(some ((f70 (a0,())).1,(0:Int),(0:Int),()))else bif((a2.2.2.2.1&&a3.2.2.2.1)&&(!(a2.2.2.2.2.1==a3.2.2.2.2.1)))then(some e2_)else bif a2.2.2.2.1 then(bif(p97 (a0,a2.2.2.2.2.1,()))then(some ((f97 (a0,a2.2.2.2.2.1,())).1,(0:Int),(0:Int),()))else none)else bif a3.2.2.2.1 then(bif(p97 (a0,a3.2.2.2.2.1,()))then(some ((f97 (a0,a3.2.2.2.2.1,())).1,(0:Int),(0:Int),()))else none)else bif(p49 (a2.2.2.2.2.2.1,a3.2.2.2.2.2))then(bif((f49 (a2.2.2.2.2.2.1,a3.2.2.2.2.2)).2.1 !=(0:Int))then(some ((0:Int),(0:Int),(f49 (a2.2.2.2.2.2.1,a3.2.2.2.2.2)).2))else bif(p47 ((f49 (a2.2.2.2.2.2.1,a3.2.2.2.2.2)).1,()))then(bif((f47 ((f49 (a2.2.2.2.2.2.1,a3.2.2.2.2.2)).1,())).1==(0:Int))then(bif(p47 a2.2.2.2.2.2)then(bif((p47 a3.2.2.2.2.2)||(!(decide ((f47 a2.2.2.2.2.2).1=(0:Int)))))then(bif((((f47 a2.2.2.2.2.2).1==(0:Int))&&((f47 a3.2.2.2.2.2).1==(0:Int)))&&(a2.2.2.2.2.1==a3.2.2.2.2.1))then(bif(p118 (a0,a2.2.2.2.2.1,()))then(some ((f118 (a0,a2.2.2.2.2.1,())).1,(0:Int),(0:Int),()))else none)else bif(p118 (a0,(a1==(4:Int)),()))then(some ((f118 (a0,(a1==(4:Int)),())).1,(0:Int),(0:Int),()))else none)else none)else none)else bif(p51 e1_)then(some (f51 e1_))else none)else none)else none)else none
theorem bDF(x:DenS Qc):run (cf [(61,⟨Dz,DA,p70,f70⟩),(62,⟨GH,GW,p97,f97⟩),(239,⟨QX,SL,p49,f49⟩),(240,⟨LZ,MD,p47,f47⟩),(64,⟨Fa,Fz,p118,f118⟩),(231,⟨JJ,Kj,p51,f51⟩)] []) 9 210 Tryz.f210 Qc RZ x=aQv p70 f70 p97 f97 p49 f49 p47 f47 p118 f118 p51 f51 x.1 x.2.1 x.2.2.1 x.2.2.2.1:=by kernel_rfl
def aGD(x:DenS Qc):Option (DenS RZ):=aQv Bs.pre Bs.F CM.pre CM.F nM.pre nM.F UM.pre UM.F B0.pre B0.F KI.pre KI.F x.1 x.2.1 x.2.2.1 x.2.2.2.1
def mY:Sum:=Ah Qc RZ aGD (DenS.dflt RZ)
theorem aTB:Sound Tryz.prog G1 210 mY:=sd (cf [(61,Bs),(62,CM),(239,nM),(240,UM),(64,B0),(231,KI)] []) 210 Tryz.f210 ⟨G6,aC,aUg,aFz,Wt,zK,trivial⟩ trivial Qc RZ aGD _ (fun _=>bDF ..)
abbrev aIG:=Af Qc
abbrev aKk:=Ae Qc RZ
variable (p400:aIG)(f400:aKk)
abbrev Qd:Aa:=[(false,Za),(false,Za),(false,Zb),(false,Zb),(false,Zb)]
abbrev R0:Aa:=[(false,Zb),(false,Za),(false,Za)]
def aQw(p397:aIE)(f397:aKi)(p399:aIF)(f399:aKj)(p398:aAG)(f398:aBn)(p400:aIG)(f400:aKk)(a0 a1:Ab Za)(a2 a3 a4:Ab Zb):Option (DenS R0):=let e1_:=(a0,a1,(f399 (a0,a2,a3,())).1,(f398 (a0,a4,())));let e2_:=(f397 (a0,a1,(a2::(a3::(a4::[]))),()));bif(p397 (a0,a1,(a2::(a3::(a4::[]))),()))then(bif(e2_.1 !=(0:Int))then(some ((0:Int),(0:Int),e2_))else bif(p399 (a0,a2,a3,()))then(bif(p398 (a0,a4,()))then(bif(p400 e1_)then(some (f400 e1_))else none)else none)else none)else none
theorem bDG(x:DenS Qd):run (cf [(209,⟨Qa,RX,p397,f397⟩),(211,⟨Qb,RY,p399,f399⟩),(212,⟨LS,Mw,p398,f398⟩),(210,⟨Qc,RZ,p400,f400⟩)] []) 9 165 Tryz.f165 Qd R0 x=aQw p397 f397 p399 f399 p398 f398 p400 f400 x.1 x.2.1 x.2.2.1 x.2.2.2.1 x.2.2.2.2.1:=by kernel_rfl
def aGE(x:DenS Qd):Option (DenS R0):=aQw mW.pre mW.F mX.pre mX.F UI.pre UI.F mY.pre mY.F x.1 x.2.1 x.2.2.1 x.2.2.2.1 x.2.2.2.2.1
def mZ:Sum:=Ah Qd R0 aGE (DenS.dflt R0)
theorem aTC:Sound Tryz.prog G1 165 mZ:=sd (cf [(209,mW),(211,mX),(212,UI),(210,mY)] []) 165 Tryz.f165 ⟨aTz,aTA,aFg,aTB,trivial⟩ trivial Qd R0 aGE _ (fun _=>bDG ..)
abbrev aIH:=Af Qd
abbrev aKl:=Ae Qd R0
variable (p401:aIH)(f401:aKl)
abbrev Qe:Aa:=[(true,Zz)]
abbrev R1:Aa:=[(false,Zb),(false,Za),(false,Za)]
def aQx(p401:aIH)(f401:aKl)(a0:Ab Zz):Option (DenS R1):=bif(p401 (a0.2.1,a0.1,a0.2.2))then(some (f401 (a0.2.1,a0.1,a0.2.2)))else none
theorem bDH(x:DenS Qe):run (cf [(165,⟨Qd,R0,p401,f401⟩)] []) 9 164 Tryz.f164 Qe R1 x=aQx p401 f401 x.1:=by kernel_rfl
def aGF(x:DenS Qe):Option (DenS R1):=aQx mZ.pre mZ.F x.1
def ZY:Sum:=Ah Qe R1 aGF (DenS.dflt R1)
theorem aFh:Sound Tryz.prog G1 164 ZY:=sd (cf [(165,mZ)] []) 164 Tryz.f164 ⟨aTC,trivial⟩ trivial Qe R1 aGF _ (fun _=>bDH ..)
abbrev aAH:=Af Qe
abbrev aBo:=Ae Qe R1
variable (p402:aAH)(f402:aBo)
abbrev JC:Aa:=[(false,Za),(false,Za)]
abbrev Ka:Aa:=[(false,Za)]
def aQy(p69:BV)(f69:BW)(a0 a1:Ab Za):Option (DenS Ka):=bif(p69 (a0,()))then(bif((f69 (a0,())).2.1 !=(0:Int))then(some (f69 (a0,())).2)else bif((decide (a1<(0:Int)))||(decide (a1>(5:Int))))then(some ((3:Int),()))else some ((0:Int),()))else none
theorem bDI(x:DenS JC):run (cf [(71,⟨B7,B8,p69,f69⟩)] []) 9 215 Tryz.f215 JC Ka x=aQy p69 f69 x.1 x.2.1:=by kernel_rfl
def aGG(x:DenS JC):Option (DenS Ka):=aQy Aq.pre Aq.F x.1 x.2.1
def KG:Sum:=Ah JC Ka aGG (DenS.dflt Ka)
theorem zB:Sound Tryz.prog G1 215 KG:=sd (cf [(71,Aq)] []) 215 Tryz.f215 ⟨DC,trivial⟩ trivial JC Ka aGG _ (fun _=>bDI ..)
abbrev pI:=Af JC
abbrev qF:=Ae JC Ka
variable (p403:pI)(f403:qF)
abbrev LU:Aa:=[(false,Za),(false,Zb)]
abbrev Mx:Aa:=[(true,Zn)]
def aQz(p69:BV)(f69:BW)(p98:KZ)(f98:K2)(a0:Ab Za)(a1:Ab Zb):Option (DenS Mx):=let e1_:=(aa .i64 ((aa .i64 ((f69 (a0,())).1.2.2.1-(f69 (a0,())).1.2.1))+(1:Int)));let e2_:=(aa .i64 ((f69 (a0,())).1.2.1-(1:Int)));bif(p69 (a0,()))then(bif(p98 (a0,a1,()))then(bif(decide ((f98 (a0,a1,())).2.1>(0:Int)))then(bif(decide ((0:Int)<=e2_))then(some (((f98 (a0,a1,())).1,(Ai .u64 (f98 (a0,a1,())).2.2.1 (Be .u64 (1:Int) e2_)),(aa .i64 (e1_+(aa .i64 ((aa .i64 (f98 (a0,a1,())).2.1)-(1:Int))))),()),()))else none)else some (((f98 (a0,a1,())).1,(f98 (a0,a1,())).2.2.1,e1_,()),()))else none)else none
theorem bDJ(x:DenS LU):run (cf [(71,⟨B7,B8,p69,f69⟩),(91,⟨Fr,FE,p98,f98⟩)] []) 9 216 Tryz.f216 LU Mx x=aQz p69 f69 p98 f98 x.1 x.2.1:=by kernel_rfl
def aGH(x:DenS LU):Option (DenS Mx):=aQz Aq.pre Aq.F Cg.pre Cg.F x.1 x.2.1
def UJ:Sum:=Ah LU Mx aGH (DenS.dflt Mx)
theorem aFi:Sound Tryz.prog G1 216 UJ:=sd (cf [(71,Aq),(91,Cg)] []) 216 Tryz.f216 ⟨DC,UN,trivial⟩ trivial LU Mx aGH _ (fun _=>bDJ ..)
abbrev aAI:=Af LU
abbrev aBp:=Ae LU Mx
variable (p404:aAI)(f404:aBp)
abbrev LV:Aa:=[(false,Za),(true,Zn)]
abbrev My:Aa:=[(false,Zb),(false,.bool)]
def aQA(a0:Ab Za)(a1:Ab Zn):Option (DenS My):=let e10_:=(aa .i64 ((0:Int)-a1.2.2.1));let e9_:=(if((63:Int)<e10_)then(63:Int)else e10_);let e8_:=(AL .u64 a1.2.1 e9_);let e1_:=(aa .u64 (a1.2.1-(Be .u64 e8_ e9_)));let e2_:=((aa .u64 (e8_+(1:Int))),true,());let e3_:=(Be .u64 (1:Int) (aa .i64 (e9_-(1:Int))));let e4_:=(gj e8_ (2:Int));let e5_:=(e8_,true,());let e6_:=(decide ((0:Int)<=e9_));let e7_:=e9_;bif e6_ then(bif e6_ then(bif(e1_==(0:Int))then(some ((AL .u64 a1.2.1 e7_),false,()))else bif(decide ((0:Int)<=(aa .i64 (e7_-(1:Int)))))then(bif(a0==(0:Int))then(bif((decide (e1_>e3_))||((e1_==e3_)&&(e4_==(1:Int))))then(some e2_)else some e5_)else bif(a0==(1:Int))then(bif(decide (e1_>=e3_))then(some e2_)else some e5_)else bif(a0==(3:Int))then(bif(!a1.1)then(some e2_)else some e5_)else bif(a0==(4:Int))then(bif a1.1 then(some e2_)else some e5_)else bif(a0==(5:Int))then(bif(e4_==(0:Int))then(some e2_)else some e5_)else some e5_)else none)else none)else none
theorem bDK(x:DenS LV):run (cf [] []) 9 217 Tryz.f217 LV My x=aQA x.1 x.2.1:=by kernel_rfl
def aGI(x:DenS LV):Option (DenS My):=aQA x.1 x.2.1
def UK:Sum:=Ah LV My aGI (DenS.dflt My)
theorem aFj:Sound Tryz.prog G1 217 UK:=sd (cf [] []) 217 Tryz.f217 trivial trivial LV My aGI _ (fun _=>bDK ..)
abbrev aAJ:=Af LV
abbrev aBq:=Ae LV My
variable (p405:aAJ)(f405:aBq)
abbrev Qf:Aa:=[(false,Za),(false,Za),(false,Zb),(false,.bool)]
abbrev Mz:Aa:=[(false,Zb),(false,Za),(false,Za)]
def aQB(p403:pI)(f403:qF)(p65:DW)(f65:DX)(p70:DE)(f70:DF)(p404:aAI)(f404:aBp)(p405:aAJ)(f405:aBq)(p122:Ha)(f122:He)(a0 a1:Ab Za)(a2:Ab Zb)(a3:Ab (.bool)):Option (DenS Mz):=let e7_:=(a0,a1,(f404 (a0,a2,())).1.1,((0:Int),(f405 (a1,(f404 (a0,a2,())))).1,()),(0:Int),false,());let e6_:=(f122 e7_);let e1_:=(e6_.1,(16:Int),e6_.2.2);let e2_:=(e6_.1,(0:Int),e6_.2.2);let e3_:=(p122 e7_);let e4_:=(decide ((f404 (a0,a2,())).1.2.2.1>=(0:Int)));let e5_:=((f405 (a1,(f404 (a0,a2,())))).2.1&&a3);let g1_:Option (DenS Mz):=bif(p404 (a0,a2,()))then(bif e4_ then(some (a2,(0:Int),(0:Int),()))else bif(p405 (a1,(f404 (a0,a2,()))))then(bif e5_ then(bif e3_ then(some e1_)else none)else bif e3_ then(some e2_)else none)else none)else none;bif(p403 (a0,a1,()))then(bif((f403 (a0,a1,())).1 !=(0:Int))then(some ((0:Int),(0:Int),(f403 (a0,a1,()))))else bif(p65 (a0,a2,()))then(bif((f65 (a0,a2,())).2.1 !=(0:Int))then(some ((0:Int),(0:Int),(f65 (a0,a2,())).2))else bif(p70 (a0,()))then(bif((f65 (a0,a2,())).1==(0:Int))then(some ((f70 (a0,())).1,(1:Int),(0:Int),()))else bif((f65 (a0,a2,())).1==(1:Int))then(some ((f70 (a0,())).1,(0:Int),(0:Int),()))else bif((f65 (a0,a2,())).1==(2:Int))then(bif((f65 (a0,a2,())).1==(2:Int))then(some (a2,(0:Int),(0:Int),()))else g1_)else bif((f65 (a0,a2,())).1==(9:Int))then(bif((f65 (a0,a2,())).1==(9:Int))then(some (a2,(0:Int),(0:Int),()))else g1_)else bif((f65 (a0,a2,())).1==(5:Int))then(bif((f65 (a0,a2,())).1==(5:Int))then(some (a2,(0:Int),(0:Int),()))else g1_)else bif((f65 (a0,a2,())).1==(6:Int))then(some (a2,(0:Int),(0:Int),()))else g1_)else none)else none)else none
theorem bDL(x:DenS Qf):run (cf [(215,⟨JC,Ka,p403,f403⟩),(59,⟨DQ,DR,p65,f65⟩),(61,⟨Dz,DA,p70,f70⟩),(216,⟨LU,Mx,p404,f404⟩),(217,⟨LV,My,p405,f405⟩),(104,⟨Fb,FA,p122,f122⟩)] []) 9 170 Tryz.f170 Qf Mz x=aQB p403 f403 p65 f65 p70 f70 p404 f404 p405 f405 p122 f122 x.1 x.2.1 x.2.2.1 x.2.2.2.1:=by kernel_rfl
def aGJ(x:DenS Qf):Option (DenS Mz):=aQB KG.pre KG.F Bv.pre Bv.F Bs.pre Bs.F UJ.pre UJ.F UK.pre UK.F Cd.pre Cd.F x.1 x.2.1 x.2.2.1 x.2.2.2.1
def m8:Sum:=Ah Qf Mz aGJ (DenS.dflt Mz)
theorem aTD:Sound Tryz.prog G1 170 m8:=sd (cf [(215,KG),(59,Bv),(61,Bs),(216,UJ),(217,UK),(104,Cd)] []) 170 Tryz.f170 ⟨zB,IE,G6,aFi,aFj,Wu,trivial⟩ trivial Qf Mz aGJ _ (fun _=>bDL ..)
abbrev aII:=Af Qf
abbrev aKm:=Ae Qf Mz
variable (p406:aII)(f406:aKm)
abbrev Qg:Aa:=[(true,Zz)]
abbrev R2:Aa:=[(false,Zb),(false,Za),(false,Za)]
def aQC(p406:aII)(f406:aKm)(a0:Ab Zz):Option (DenS R2):=bif(p406 (a0.2.1,a0.1,a0.2.2.1,true,()))then(some (f406 (a0.2.1,a0.1,a0.2.2.1,true,())))else none
theorem bDM(x:DenS Qg):run (cf [(170,⟨Qf,Mz,p406,f406⟩)] []) 9 169 Tryz.f169 Qg R2 x=aQC p406 f406 x.1:=by kernel_rfl
def aGK(x:DenS Qg):Option (DenS R2):=aQC m8.pre m8.F x.1
def ZZ:Sum:=Ah Qg R2 aGK (DenS.dflt R2)
theorem aFk:Sound Tryz.prog G1 169 ZZ:=sd (cf [(170,m8)] []) 169 Tryz.f169 ⟨aTD,trivial⟩ trivial Qg R2 aGK _ (fun _=>bDM ..)
abbrev aAK:=Af Qg
abbrev aBr:=Ae Qg R2
variable (p407:aAK)(f407:aBr)
abbrev P5:Aa:=[(false,.slice Za),(false,.slice Za),(false,Zb)]
abbrev RU:Aa:=[(false,Za)]
abbrev G2:Pat:=⟨46,[(14,.one (.v .i64)),(13,.one (.sl Za)),(15,.one (.v .i64)),(1,.one (.sl Za)),(0,.one (.sl Za)),(2,.one (.v .u64))],[]⟩
abbrev ZK:List (Nat×Shape):=[]
abbrev KU:List (Nat×Pat):=[(0,⟨46,[(1,.one (.sl Za)),(0,.one (.sl Za)),(2,.one (.v .u64))],[]⟩)]
abbrev Ky:Option Pat:=(some ⟨46,[(6,.one (.v .i64))],[]⟩)
abbrev G3:Pat:=⟨46,[(29,.one (.v .i64)),(28,.one (.sl Za)),(30,.one (.v .i64)),(0,.one (.sl Za)),(2,.one (.v .u64))],[]⟩
abbrev ZL:List (Nat×Shape):=[]
abbrev KV:List (Nat×Pat):=[(2,⟨46,[(0,.one (.sl Za)),(2,.one (.v .u64))],[]⟩)]
abbrev Kz:Option Pat:=(some ⟨46,[(6,.one (.v .i64))],[]⟩)
variable (w391_2:Pat.D G2->Option (Ad KU Ky))(w391_9:Pat.D G3->Option (Ad KV Kz))
def iO(p69:BV)(f69:BW)(p66:B9)(f66:Ca){R:Type}(L:Pat.D G3->Option R)(e:Ad KV Kz->Option R)(x:Pat.D G3):Option R:=let e1_:=(x.1.2.1.getD (af x.1.2.2.1) (0:Int));bif(decide (x.1.2.2.1<x.1.1))then(bif((decide ((0:Int)<=x.1.2.2.1))&&(decide (x.1.2.2.1<(x.1.2.1.length:Int))))then(bif((decide (e1_<(0:Int)))||(decide (e1_>(5:Int))))then(((e (.inr (((3:Int),()),())))))else(L ((x.1.1,x.1.2.1,(aa .i64 (x.1.2.2.1+(1:Int))),x.1.2.2.2),())))else none)else(e (.inl (x.1.2.2.2,())))
theorem bGq(d:Nat)(R:Type)(L:Pat.D G3->Option R)(e:Ad KV Kz->Option R)(x:Pat.D G3):
  Br (cf [(71,⟨B7,B8,p69,f69⟩),(85,⟨Cq,Cr,p66,f66⟩)] [(218,2,LoopSpec.of G2 ZK KU Ky w391_2),(218,9,LoopSpec.of G3 ZL KV Kz w391_9)]) (d+2) 218 (Bq Tryz.f218 9) G3 ZL KV Kz (R:=R) L e x=iO p69 f69 p66 f66 L e x:=by kernel_rfl
theorem aZM(p69:BV)(f69:BW)(p66:B9)(f66:Ca):Bo fun L e x=>iO p69 f69 p66 f66 L e x:=by intro _ _ _ _ _ _ _ h0 hL he _;unfold iO;repeat' (first|exact h0|exact hL _|exact he _|apply BB|(apply BC h0;intro _)|(apply BD<;>intro _))
def iN(p69:BV)(f69:BW)(p66:B9)(f66:Ca){R:Type}(L:Pat.D G2->Option R)(e:Ad KU Ky->Option R)(x:Pat.D G2):Option R:=let e2_:=((x.1.2.1.getD (af x.1.2.2.1) (0:Int)),());let e1_:=(f69 e2_);bif(decide (x.1.2.2.1<x.1.1))then(bif((decide ((0:Int)<=x.1.2.2.1))&&(decide (x.1.2.2.1<(x.1.2.1.length:Int))))then(bif(p69 e2_)then(bif(e1_.2.1 !=(0:Int))then(((e (.inr (e1_.2,())))))else(L ((x.1.1,x.1.2.1,(aa .i64 (x.1.2.2.1+(1:Int))),x.1.2.2.2),())))else none)else none)else(e (.inl (x.1.2.2.2,())))
theorem bGp(d:Nat)(R:Type)(L:Pat.D G2->Option R)(e:Ad KU Ky->Option R)(x:Pat.D G2):
  Br (cf [(71,⟨B7,B8,p69,f69⟩),(85,⟨Cq,Cr,p66,f66⟩)] [(218,2,LoopSpec.of G2 ZK KU Ky w391_2),(218,9,LoopSpec.of G3 ZL KV Kz w391_9)]) (d+2) 218 (Bq Tryz.f218 2) G2 ZK KU Ky (R:=R) L e x=iN p69 f69 p66 f66 L e x:=by kernel_rfl
theorem aZL(p69:BV)(f69:BW)(p66:B9)(f66:Ca):Bo fun L e x=>iN p69 f69 p66 f66 L e x:=by intro _ _ _ _ _ _ _ h0 hL he _;unfold iN;repeat' (first|exact h0|exact hL _|exact he _|apply BB|(apply BC h0;intro _)|(apply BD<;>intro _))
def aQo(p69:BV)(f69:BW)(p66:B9)(f66:Ca)(w391_2:Pat.D G2->Option (Ad KU Ky))(w391_9:Pat.D G3->Option (Ad KV Kz))(a0 a1:Ab (.slice Za))(a2:Ab Zb):Option (DenS RU):=
 Vx.Ba (w391_2 (((a0.length:Int),a0,(0:Int),a1,a0,a2,()),())) fun y0=>
 Vx.A9 y0 (fun y1=>
 Vx.Ba (w391_9 (((y1.1.1.length:Int),y1.1.1,(0:Int),y1.1.2),())) fun y2=>
 Vx.A9 y2 (fun y3=>
 bif(decide ((0:Int)<(y3.1.1.length:Int)))then(bif(p66 ((y3.1.1.getD (af (0:Int)) (0:Int)),y3.1.2))then(some (f66 ((y3.1.1.getD (af (0:Int)) (0:Int)),y3.1.2)))
 else none)
 else none) (fun z3=>
 some z3.1)) (fun z1=>
 some z1.1)
theorem bDw(x:DenS P5):run (cf [(71,⟨B7,B8,p69,f69⟩),(85,⟨Cq,Cr,p66,f66⟩)] [(218,2,LoopSpec.of G2 ZK KU Ky w391_2),(218,9,LoopSpec.of G3 ZL KV Kz w391_9)]) 9 218 Tryz.f218 P5 RU x=aQo p69 f69 p66 f66 w391_2 w391_9 x.1 x.2.1 x.2.2.1:=by kernel_rfl
def aHK:G3.D->Option (Ad KV Kz):=Bf fun L=>iO Aq.pre Aq.F Au.pre Au.F L some
def aHJ:G2.D->Option (Ad KU Ky):=Bf fun L=>iN Aq.pre Aq.F Au.pre Au.F L some
def aGw(x:DenS P5):Option (DenS RU):=aQo Aq.pre Aq.F Au.pre Au.F aHJ aHK x.1 x.2.1 x.2.2.1
def mT:Sum:=Ah P5 RU aGw (DenS.dflt RU)
theorem aTw:Sound Tryz.prog G1 218 mT:=sd (cf [(71,Aq),(85,Au)] [(218,2,LoopSpec.of G2 ZK KU Ky aHJ),(218,9,LoopSpec.of G3 ZL KV Kz aHK)]) 218 Tryz.f218 ⟨DC,FM,trivial⟩ ⟨rfl,fun d=>BA (fun L e x=>iN Aq.pre Aq.F Au.pre Au.F L e x) (aZL Aq.pre Aq.F Au.pre Au.F) (fun _ _ _ _=>bGp ..),⟨rfl,fun d=>BA (fun L e x=>iO Aq.pre Aq.F Au.pre Au.F L e x) (aZM Aq.pre Aq.F Au.pre Au.F) (fun _ _ _ _=>bGq ..),trivial⟩⟩ P5 RU aGw _ (fun _=>bDw ..)
abbrev aIB:=Af P5
abbrev aKf:=Ae P5 RU
variable (p391:aIB)(f391:aKf)
abbrev P6:Aa:=[(false,Za),(false,Za),(false,Za),(false,Zb)]
abbrev FD:Aa:=[(false,Zb),(false,Za)]
def aQp(p65:DW)(f65:DX)(p98:KZ)(f98:K2)(p70:DE)(f70:DF)(p97:On)(f97:Ot)(p118:IG)(f118:IK)(p40:TS)(f40:TW)(p51:pO)(f51:qL)(a0 a1 a2:Ab Za)(a3:Ab Zb):Option (DenS FD):=let e5_:=(f51 (a1,a2,(f40 (a0,a3,())).1,()));let e1_:=(e5_.1,e5_.2.1,());let e2_:=((f118 (a1,(f98 (a0,a3,())).1,())).1,(0:Int),());let e3_:=((f97 (a1,(f98 (a0,a3,())).1,())).1,(0:Int),());let e4_:=(p51 (a1,a2,(f40 (a0,a3,())).1,()));let g6_:Option (DenS FD):=bif(p97 (a1,(f98 (a0,a3,())).1,()))then(some e3_)else none;let g5_:Option (DenS FD):=bif(p118 (a1,(f98 (a0,a3,())).1,()))then(some e2_)else none;let g4_:Option (DenS FD):=bif(p40 (a0,a3,()))then(bif e4_ then(some e1_)else none)else none;let g2_:Option (DenS FD):=bif((f65 (a0,a3,())).1==(6:Int))then(bif((f65 (a0,a3,())).1==(6:Int))then(g5_)else g4_)else bif((f65 (a0,a3,())).1==(5:Int))then(g5_)else g4_;let g1_:Option (DenS FD):=bif((f65 (a0,a3,())).1==(9:Int))then(bif((f65 (a0,a3,())).1==(9:Int))then(g6_)else g2_)else bif((f65 (a0,a3,())).1==(2:Int))then(g6_)else g2_;let g3_:Option (DenS FD):=bif(p70 (a1,()))then(bif((f65 (a0,a3,())).1==(0:Int))then(some ((f70 (a1,())).1,(1:Int),()))else some ((f70 (a1,())).1,(0:Int),()))else none;bif(p65 (a0,a3,()))then(bif(p98 (a0,a3,()))then(bif((f65 (a0,a3,())).1==(0:Int))then(bif((f65 (a0,a3,())).1==(0:Int))then(g3_)else g1_)else bif((f65 (a0,a3,())).1==(1:Int))then(g3_)else g1_)else none)else none
theorem bDx(x:DenS P6):run (cf [(59,⟨DQ,DR,p65,f65⟩),(91,⟨Fr,FE,p98,f98⟩),(61,⟨Dz,DA,p70,f70⟩),(62,⟨GH,GW,p97,f97⟩),(64,⟨Fa,Fz,p118,f118⟩),(203,⟨GD,GS,p40,f40⟩),(231,⟨JJ,Kj,p51,f51⟩)] []) 9 219 Tryz.f219 P6 FD x=aQp p65 f65 p98 f98 p70 f70 p97 f97 p118 f118 p40 f40 p51 f51 x.1 x.2.1 x.2.2.1 x.2.2.2.1:=by kernel_rfl
def aGx(x:DenS P6):Option (DenS FD):=aQp Bv.pre Bv.F Cg.pre Cg.F Bs.pre Bs.F CM.pre CM.F B0.pre B0.F DB.pre DB.F KI.pre KI.F x.1 x.2.1 x.2.2.1 x.2.2.2.1
def mU:Sum:=Ah P6 FD aGx (DenS.dflt FD)
theorem aTx:Sound Tryz.prog G1 219 mU:=sd (cf [(59,Bv),(91,Cg),(61,Bs),(62,CM),(64,B0),(203,DB),(231,KI)] []) 219 Tryz.f219 ⟨IE,UN,G6,aC,Wt,Z1,zK,trivial⟩ trivial P6 FD aGx _ (fun _=>bDx ..)
abbrev aIC:=Af P6
abbrev aKg:=Ae P6 FD
variable (p392:aIC)(f392:aKg)
abbrev P7:Aa:=[(false,Za),(false,Za),(false,Za),(false,Zb)]
abbrev RV:Aa:=[(false,Zb),(false,Za),(false,Za)]
def aQq(p391:aIB)(f391:aKf)(p392:aIC)(f392:aKg)(a0 a1 a2:Ab Za)(a3:Ab Zb):Option (DenS RV):=let e1_:=(f391 ((a0::(a1::[])),(a2::[]),a3,()));bif(p391 ((a0::(a1::[])),(a2::[]),a3,()))then(bif(e1_.1 !=(0:Int))then(some ((0:Int),(0:Int),e1_))else bif(p392 (a0,a1,a2,a3,()))then(some ((f392 (a0,a1,a2,a3,())).1,(f392 (a0,a1,a2,a3,())).2.1,(0:Int),()))else none)else none
theorem bDy(x:DenS P7):run (cf [(218,⟨P5,RU,p391,f391⟩),(219,⟨P6,FD,p392,f392⟩)] []) 9 172 Tryz.f172 P7 RV x=aQq p391 f391 p392 f392 x.1 x.2.1 x.2.2.1 x.2.2.2.1:=by kernel_rfl
def aGy(x:DenS P7):Option (DenS RV):=aQq mT.pre mT.F mU.pre mU.F x.1 x.2.1 x.2.2.1 x.2.2.2.1
def mV:Sum:=Ah P7 RV aGy (DenS.dflt RV)
theorem aTy:Sound Tryz.prog G1 172 mV:=sd (cf [(218,mT),(219,mU)] []) 172 Tryz.f172 ⟨aTw,aTx,trivial⟩ trivial P7 RV aGy _ (fun _=>bDy ..)
abbrev aID:=Af P7
abbrev aKh:=Ae P7 RV
variable (p393:aID)(f393:aKh)
abbrev Qh:Aa:=[(true,Zz)]
abbrev R3:Aa:=[(false,Zb),(false,Za),(false,Za)]
def aQD(p393:aID)(f393:aKh)(a0:Ab Zz):Option (DenS R3):=let e1_:=(a0.2.1,(aa .i64 a0.2.2.2.2.1),a0.1,a0.2.2.1,());bif(p393 e1_)then(some (f393 e1_))else none
theorem bDN(x:DenS Qh):run (cf [(172,⟨P7,RV,p393,f393⟩)] []) 9 171 Tryz.f171 Qh R3 x=aQD p393 f393 x.1:=by kernel_rfl
def aGL(x:DenS Qh):Option (DenS R3):=aQD mV.pre mV.F x.1
def Z0:Sum:=Ah Qh R3 aGL (DenS.dflt R3)
theorem aFl:Sound Tryz.prog G1 171 Z0:=sd (cf [(172,mV)] []) 171 Tryz.f171 ⟨aTy,trivial⟩ trivial Qh R3 aGL _ (fun _=>bDN ..)
abbrev aAL:=Af Qh
abbrev aBs:=Ae Qh R3
variable (p408:aAL)(f408:aBs)
abbrev Qi:Aa:=[(true,Zj),(false,.bool)]
abbrev R4:Aa:=[(false,Zb)]
def aQE(a0:Ab Zj)(a1:Ab (.bool)):Option (DenS R4):=bif a1 then(some ((aa .u64 ((0:Int)-a0.1)),()))else some a0.2
theorem bDO(x:DenS Qi):run (cf [] []) 9 220 Tryz.f220 Qi R4 x=aQE x.1 x.2.1:=by kernel_rfl
def aGM(x:DenS Qi):Option (DenS R4):=aQE x.1 x.2.1
def m9:Sum:=Ah Qi R4 aGM (DenS.dflt R4)
theorem aTE:Sound Tryz.prog G1 220 m9:=sd (cf [] []) 220 Tryz.f220 trivial trivial Qi R4 aGM _ (fun _=>bDO ..)
abbrev aIJ:=Af Qi
abbrev aKn:=Ae Qi R4
variable (p409:aIJ)(f409:aKn)
abbrev Qk:Aa:=[(false,Za),(false,Za),(false,Za),(false,Zb)]
abbrev MA:Aa:=[(false,Zb),(false,Za),(false,Za)]
def aQG(p403:pI)(f403:qF)(p65:DW)(f65:DX)(p404:aAI)(f404:aBp)(p405:aAJ)(f405:aBq)(p178:II)(f178:IM)(p409:aIJ)(f409:aKn)(a0 a1 a2:Ab Za)(a3:Ab Zb):Option (DenS MA):=let e18_:=(Be .u64 (f404 (a0,a3,())).1.2.1 (f404 (a0,a3,())).1.2.2.1);let e19_:=(Vx.k_kinds.getD (af a2) ((0:Int),(0:Int),()));let e1_:=(((!(f404 (a0,a3,())).1.1)&&(decide (e18_>e19_.2.1)))||((f404 (a0,a3,())).1.1&&(decide (e18_>e19_.1))));let e2_:=(((!(f404 (a0,a3,())).1.1)&&(decide ((f405 (a1,(f404 (a0,a3,())))).1>e19_.2.1)))||((f404 (a0,a3,())).1.1&&(decide ((f405 (a1,(f404 (a0,a3,())))).1>e19_.1))));let e3_:=((aa .u64 ((0:Int)-e18_)),(0:Int),(0:Int),());let e4_:=((aa .u64 ((0:Int)-e19_.1)),(1:Int),(0:Int),());let e16_:=(e19_,(f404 (a0,a3,())).1.1,());let e5_:=((f409 e16_).1,(1:Int),(0:Int),());let e6_:=(decide ((aa .i64 ((f178 ((f404 (a0,a3,())).1.2.1,())).1+(f404 (a0,a3,())).1.2.2.1))>(64:Int)));let e17_:=(aa .u64 ((0:Int)-(f405 (a1,(f404 (a0,a3,())))).1));let e7_:=(e17_,(16:Int),(0:Int),());let e8_:=(e17_,(0:Int),(0:Int),());let e9_:=(e18_,(0:Int),(0:Int),());let e10_:=(p409 e16_);let e11_:=(e19_.2.1,(1:Int),(0:Int),());let e12_:=((f405 (a1,(f404 (a0,a3,())))).1,(16:Int),(0:Int),());let e13_:=((f405 (a1,(f404 (a0,a3,())))).1,(0:Int),(0:Int),());let e14_:=(decide ((f404 (a0,a3,())).1.2.2.1<(0:Int)));let e15_:=(decide ((0:Int)<=(f404 (a0,a3,())).1.2.2.1));let g1_:Option (DenS MA):=bif((f65 (a0,a3,())).1==(2:Int))then(some e4_)else bif(p404 (a0,a3,()))then(bif e14_ then(bif(p405 (a1,(f404 (a0,a3,()))))then(bif e2_ then(bif e10_ then(some e5_)else none)else bif(f404 (a0,a3,())).1.1 then(bif(f405 (a1,(f404 (a0,a3,())))).2.1 then(some e7_)else some e8_)else bif(f405 (a1,(f404 (a0,a3,())))).2.1 then(some e12_)else some e13_)else none)else bif(p178 ((f404 (a0,a3,())).1.2.1,()))then(bif e6_ then(bif e10_ then(some e5_)else none)else bif e15_ then(bif e1_ then(bif e10_ then(some e5_)else none)else bif(f404 (a0,a3,())).1.1 then(some e3_)else some e9_)else none)else none)else none;bif(p403 (a0,a1,()))then(bif((f403 (a0,a1,())).1 !=(0:Int))then(some ((0:Int),(0:Int),(f403 (a0,a1,()))))else bif((decide (a2<(0:Int)))||(decide (a2>(3:Int))))then(some ((0:Int),(0:Int),(9:Int),()))else bif(p65 (a0,a3,()))then(bif((f65 (a0,a3,())).2.1 !=(0:Int))then(some ((0:Int),(0:Int),(f65 (a0,a3,())).2))else bif(bif(decide ((0:Int)<=a2))then(decide (a2<((4:Nat):Int)))else false)then(bif((f65 (a0,a3,())).1==(0:Int))then(bif((f65 (a0,a3,())).1==(0:Int))then(some e11_)else g1_)else bif((f65 (a0,a3,())).1==(1:Int))then(bif((f65 (a0,a3,())).1==(1:Int))then(some e11_)else g1_)else bif((f65 (a0,a3,())).1==(9:Int))then(some e11_)else g1_)else none)else none)else none
theorem bDQ(x:DenS Qk):run (cf [(215,⟨JC,Ka,p403,f403⟩),(59,⟨DQ,DR,p65,f65⟩),(216,⟨LU,Mx,p404,f404⟩),(217,⟨LV,My,p405,f405⟩),(115,⟨F3,FC,p178,f178⟩),(220,⟨Qi,R4,p409,f409⟩)] []) 9 174 Tryz.f174 Qk MA x=aQG p403 f403 p65 f65 p404 f404 p405 f405 p178 f178 p409 f409 x.1 x.2.1 x.2.2.1 x.2.2.2.1:=by kernel_rfl
def aGP(x:DenS Qk):Option (DenS MA):=aQG KG.pre KG.F Bv.pre Bv.F UJ.pre UJ.F UK.pre UK.F Cu.pre Cu.F m9.pre m9.F x.1 x.2.1 x.2.2.1 x.2.2.2.1
def nB:Sum:=Ah Qk MA aGP (DenS.dflt MA)
theorem aTF:Sound Tryz.prog G1 174 nB:=sd (cf [(215,KG),(59,Bv),(216,UJ),(217,UK),(115,Cu),(220,m9)] []) 174 Tryz.f174 ⟨zB,IE,aFi,aFj,ZT,aTE,trivial⟩ trivial Qk MA aGP _ (fun _=>bDQ ..)
abbrev aIL:=Af Qk
abbrev aKp:=Ae Qk MA
variable (p410:aIL)(f410:aKp)
abbrev Ql:Aa:=[(true,Zz)]
abbrev R7:Aa:=[(false,Zb),(false,Za),(false,Za)]
def aQH(p410:aIL)(f410:aKp)(a0:Ab Zz):Option (DenS R7):=let e1_:=(a0.2.1,a0.1,(aa .i64 a0.2.2.2.2.1),a0.2.2.1,());bif(p410 e1_)then(some (f410 e1_))else none
theorem bDR(x:DenS Ql):run (cf [(174,⟨Qk,MA,p410,f410⟩)] []) 9 173 Tryz.f173 Ql R7 x=aQH p410 f410 x.1:=by kernel_rfl
def aGQ(x:DenS Ql):Option (DenS R7):=aQH nB.pre nB.F x.1
def Z2:Sum:=Ah Ql R7 aGQ (DenS.dflt R7)
theorem aFm:Sound Tryz.prog G1 173 Z2:=sd (cf [(174,nB)] []) 173 Tryz.f173 ⟨aTF,trivial⟩ trivial Ql R7 aGQ _ (fun _=>bDR ..)
abbrev aAM:=Af Ql
abbrev aBt:=Ae Ql R7
variable (p411:aAM)(f411:aBt)
abbrev Qm:Aa:=[(false,Za),(false,Za),(false,Za),(false,Zb)]
abbrev R8:Aa:=[(false,Zb),(false,Za),(false,Za)]
def aQI(p403:pI)(f403:qF)(p122:Ha)(f122:He)(a0 a1 a2:Ab Za)(a3:Ab Zb):Option (DenS R8):=let e8_:=(Vx.k_kinds.getD (af a2) ((0:Int),(0:Int),()));let e7_:=((decide (e8_.1>(0:Int)))&&((AL .u64 a3 (63:Int))==(1:Int)));let e9_:=(aa .u64 ((0:Int)-a3));let e1_:=(a0,a1,e7_,((0:Int),e9_,()),(0:Int),false,());let e2_:=(a0,a1,e7_,((0:Int),a3,()),(0:Int),false,());let e3_:=(!e7_);let e4_:=e7_;let e5_:=e8_;let e6_:=e9_;bif(p403 (a0,a1,()))then(bif((f403 (a0,a1,())).1 !=(0:Int))then(some ((0:Int),(0:Int),(f403 (a0,a1,()))))else bif((decide (a2<(0:Int)))||(decide (a2>(3:Int))))then(some ((0:Int),(0:Int),(9:Int),()))else bif(bif(decide ((0:Int)<=a2))then(decide (a2<((4:Nat):Int)))else false)then(bif e4_ then(bif((e3_&&(decide (e6_>e5_.2.1)))||(e4_&&(decide (e6_>e5_.1))))then(some ((0:Int),(0:Int),(7:Int),()))else bif(p122 e1_)then(some (f122 e1_))else none)else bif((e3_&&(decide (a3>e5_.2.1)))||(e4_&&(decide (a3>e5_.1))))then(some ((0:Int),(0:Int),(7:Int),()))else bif(p122 e2_)then(some (f122 e2_))else none)else none)else none
theorem bDS(x:DenS Qm):run (cf [(215,⟨JC,Ka,p403,f403⟩),(104,⟨Fb,FA,p122,f122⟩)] []) 9 176 Tryz.f176 Qm R8 x=aQI p403 f403 p122 f122 x.1 x.2.1 x.2.2.1 x.2.2.2.1:=by kernel_rfl
def aGR(x:DenS Qm):Option (DenS R8):=aQI KG.pre KG.F Cd.pre Cd.F x.1 x.2.1 x.2.2.1 x.2.2.2.1
def nC:Sum:=Ah Qm R8 aGR (DenS.dflt R8)
theorem aTG:Sound Tryz.prog G1 176 nC:=sd (cf [(215,KG),(104,Cd)] []) 176 Tryz.f176 ⟨zB,Wu,trivial⟩ trivial Qm R8 aGR _ (fun _=>bDS ..)
abbrev aIM:=Af Qm
abbrev aKq:=Ae Qm R8
variable (p412:aIM)(f412:aKq)
abbrev Qn:Aa:=[(true,Zz)]
abbrev R9:Aa:=[(false,Zb),(false,Za),(false,Za)]
def aQJ(p412:aIM)(f412:aKq)(a0:Ab Zz):Option (DenS R9):=let e1_:=(a0.2.1,a0.1,(aa .i64 a0.2.2.2.2.1),a0.2.2.1,());bif(p412 e1_)then(some (f412 e1_))else none
theorem bDT(x:DenS Qn):run (cf [(176,⟨Qm,R8,p412,f412⟩)] []) 9 175 Tryz.f175 Qn R9 x=aQJ p412 f412 x.1:=by kernel_rfl
def aGS(x:DenS Qn):Option (DenS R9):=aQJ nC.pre nC.F x.1
def Z3:Sum:=Ah Qn R9 aGS (DenS.dflt R9)
theorem aFn:Sound Tryz.prog G1 175 Z3:=sd (cf [(176,nC)] []) 175 Tryz.f175 ⟨aTG,trivial⟩ trivial Qn R9 aGS _ (fun _=>bDT ..)
abbrev aAN:=Af Qn
abbrev aBu:=Ae Qn R9
variable (p413:aAN)(f413:aBu)
abbrev LF:Aa:=[(false,Za),(false,Zb)]
abbrev Mg:Aa:=[(false,Zb),(false,Za)]
def aPV(p66:B9)(f66:Ca)(p115:eJ)(f115:fA)(a0:Ab Za)(a1:Ab Zb):Option (DenS Mg):=bif(p66 (a0,a1,()))then(bif((f66 (a0,a1,())).1 !=(0:Int))then(some ((0:Int),(f66 (a0,a1,()))))else bif(p115 (a0,()))then(some ((fY .u64 a1 (f115 (a0,())).1),(0:Int),()))else none)else none
theorem bBZ(x:DenS LF):run (cf [(85,⟨Cq,Cr,p66,f66⟩),(233,⟨Jn,JW,p115,f115⟩)] []) 9 188 Tryz.f188 LF Mg x=aPV p66 f66 p115 f115 x.1 x.2.1:=by kernel_rfl
def aFP(x:DenS LF):Option (DenS Mg):=aPV Au.pre Au.F FJ.pre FJ.F x.1 x.2.1
def KE:Sum:=Ah LF Mg aFP (DenS.dflt Mg)
theorem yO:Sound Tryz.prog G1 188 KE:=sd (cf [(85,Au),(233,FJ)] []) 188 Tryz.f188 ⟨FM,yP,trivial⟩ trivial LF Mg aFP _ (fun _=>bBZ ..)
abbrev oZ:=Af LF
abbrev pT:=Ae LF Mg
variable (p112:oZ)(f112:pT)
abbrev JQ:Aa:=[(false,Za),(false,Zb)]
abbrev Kr:Aa:=[(true,Zi),(false,Za)]
def t82(p65:DW)(f65:DX)(p112:oZ)(f112:pT)(a0:Ab Za)(a1:Ab Zb):Option (DenS Kr):=let e1_:=(aa .i64 (f112 (a0,a1,())).1);bif(p65 (a0,a1,()))then(bif((f65 (a0,a1,())).2.1 !=(0:Int))then(some (((0:Int),(0:Int),()),(f65 (a0,a1,())).2))else bif(p112 (a0,a1,()))then(bif((f112 (a0,a1,())).1 !=a1)then(some (((f65 (a0,a1,())).1,(aa .i64 ((0:Int)-e1_)),()),(0:Int),()))else some (((f65 (a0,a1,())).1,e1_,()),(0:Int),()))else none)else none
theorem r82(x:DenS JQ):run (cf [(59,⟨DQ,DR,p65,f65⟩),(188,⟨LF,Mg,p112,f112⟩)] []) 9 228 Tryz.f228 JQ Kr x=t82 p65 f65 p112 f112 x.1 x.2.1:=by kernel_rfl
def T82(x:DenS JQ):Option (DenS Kr):=t82 Bv.pre Bv.F KE.pre KE.F x.1 x.2.1
def KK:Sum:=Ah JQ Kr T82 (DenS.dflt Kr)
theorem zQ:Sound Tryz.prog G1 228 KK:=sd (cf [(59,Bv),(188,KE)] []) 228 Tryz.f228 ⟨IE,yO,trivial⟩ trivial JQ Kr T82 _ (fun _=>r82 ..)
abbrev eW:=Af JQ
abbrev fK:=Ae JQ Kr
variable (p82:eW)(f82:fK)
abbrev GE:Aa:=[(true,Zi)]
abbrev GT:Aa:=[(false,.bool)]
def t53(a0:Ab Zi):Option (DenS GT):=some (((a0.1==(1:Int))||(a0.1==(0:Int))),())
theorem r53(x:DenS GE):run (cf [] []) 9 229 Tryz.f229 GE GT x=t53 x.1:=by kernel_rfl
def T53(x:DenS GE):Option (DenS GT):=t53 x.1
def EY:Sum:=Ah GE GT T53 (DenS.dflt GT)
theorem aA:Sound Tryz.prog G1 229 EY:=sd (cf [] []) 229 Tryz.f229 trivial trivial GE GT T53 _ (fun _=>r53 ..)
abbrev Vd:=Af GE
abbrev Vr:=Ae GE GT
variable (p53:Vd)(f53:Vr)
abbrev GF:Aa:=[(true,Zi),(true,Zi)]
abbrev GU:Aa:=[(false,Za)]
def t54(a0 a1:Ab Zi):Option (DenS GU):=bif((a0.1==(0:Int))||(a1.1==(0:Int)))then(some ((1:Int),()))else some ((0:Int),())
theorem r54(x:DenS GF):run (cf [] []) 9 230 Tryz.f230 GF GU x=t54 x.1 x.2.1:=by kernel_rfl
def T54(x:DenS GF):Option (DenS GU):=t54 x.1 x.2.1
def EZ:Sum:=Ah GF GU T54 (DenS.dflt GU)
theorem aB:Sound Tryz.prog G1 230 EZ:=sd (cf [] []) 230 Tryz.f230 trivial trivial GF GU T54 _ (fun _=>r54 ..)
abbrev Ve:=Af GF
abbrev Vs:=Ae GF GU
variable (p54:Ve)(f54:Vs)
abbrev Q4:Aa:=[(false,Za),(false,Zb),(false,Za)]
abbrev SR:Aa:=[(false,Zb),(false,Za),(false,Za)]
def t93(p82:eW)(f82:fK)(p53:Vd)(f53:Vr)(p70:DE)(f70:DF)(p54:Ve)(f54:Vs)(p64:Xc)(f64:Xq)(a0:Ab Za)(a1:Ab Zb)(a2:Ab Za):Option (DenS SR):=let e4_:=(aa .i64 ((f82 (a0,a1,())).1.2.1+a2));let e1_:=(f64 (a0,(aa .u64 (aa .i64 ((0:Int)-e4_))),()));let e2_:=e4_;let e3_:=((f82 (a0,a1,())).1,(f82 (a0,a1,())).1,());bif(p82 (a0,a1,()))then(bif((f82 (a0,a1,())).2.1 !=(0:Int))then(some ((0:Int),(0:Int),(f82 (a0,a1,())).2))else bif(p53 ((f82 (a0,a1,())).1,()))then(bif(f53 ((f82 (a0,a1,())).1,())).1 then(bif(p70 (a0,()))then(bif(p54 e3_)then(some ((f70 (a0,())).1,(f54 e3_).1,(0:Int),()))else none)else none)else bif((((f82 (a0,a1,())).1.1==(9:Int))&&(decide (a2>(0:Int))))||(((f82 (a0,a1,())).1.1==(2:Int))&&(decide (a2<(0:Int)))))then(some (a1,(0:Int),(0:Int),()))else bif((decide (e2_>(0:Int)))||((e2_==(0:Int))&&(decide (a2<(0:Int)))))then(some ((aa .u64 e2_),(0:Int),(0:Int),()))else bif(p64 (a0,(aa .u64 (aa .i64 ((0:Int)-e2_))),()))then(some (e1_.1,(0:Int),e1_.2))else none)else none)else none
theorem r93(x:DenS Q4):run (cf [(228,⟨JQ,Kr,p82,f82⟩),(229,⟨GE,GT,p53,f53⟩),(61,⟨Dz,DA,p70,f70⟩),(230,⟨GF,GU,p54,f54⟩),(187,⟨JL,Kl,p64,f64⟩)] []) 9 227 Tryz.f227 Q4 SR x=t93 p82 f82 p53 f53 p70 f70 p54 f54 p64 f64 x.1 x.2.1 x.2.2.1:=by kernel_rfl
def T93(x:DenS Q4):Option (DenS SR):=t93 KK.pre KK.F EY.pre EY.F Bs.pre Bs.F EZ.pre EZ.F Fi.pre Fi.F x.1 x.2.1 x.2.2.1
def nR:Sum:=Ah Q4 SR T93 (DenS.dflt SR)
theorem aUm:Sound Tryz.prog G1 227 nR:=sd (cf [(228,KK),(229,EY),(61,Bs),(230,EZ),(187,Fi)] []) 227 Tryz.f227 ⟨zQ,aA,G6,aB,nP,trivial⟩ trivial Q4 SR T93 _ (fun _=>r93 ..)
abbrev Y93:=Af Q4
abbrev Z93:=Ae Q4 SR
variable (p93:Y93)(f93:Z93)
abbrev Qj:Aa:=[(false,Za),(false,Zb)]
abbrev R6:Aa:=[(false,Zb),(false,Za),(false,Za)]
def t41(p93:Y93)(f93:Z93)(a0:Ab Za)(a1:Ab Zb):Option (DenS R6):=bif(p93 (a0,a1,(1:Int),()))then(some (f93 (a0,a1,(1:Int),())))else none
theorem r41(x:DenS Qj):run (cf [(227,⟨Q4,SR,p93,f93⟩)] []) 9 182 Tryz.f182 Qj R6 x=t41 p93 f93 x.1 x.2.1:=by kernel_rfl
def T41(x:DenS Qj):Option (DenS R6):=t41 nR.pre nR.F x.1 x.2.1
def nA:Sum:=Ah Qj R6 T41 (DenS.dflt R6)
theorem aTJ:Sound Tryz.prog G1 182 nA:=sd (cf [(227,nR)] []) 182 Tryz.f182 ⟨aUm,trivial⟩ trivial Qj R6 T41 _ (fun _=>r41 ..)
abbrev Y41:=Af Qj
abbrev Z41:=Ae Qj R6
variable (p41:Y41)(f41:Z41)
abbrev Qo:Aa:=[(true,Zz)]
abbrev Sa:Aa:=[(false,Zb),(false,Za),(false,Za)]
def aQK(p41:Y41)(f41:Z41)(a0:Ab Zz):Option (DenS Sa):=bif(p41 (a0.2.1,a0.2.2.1,()))then(some (f41 (a0.2.1,a0.2.2.1,())))else none
theorem bDU(x:DenS Qo):run (cf [(182,⟨Qj,R6,p41,f41⟩)] []) 9 181 Tryz.f181 Qo Sa x=aQK p41 f41 x.1:=by kernel_rfl
def aGT(x:DenS Qo):Option (DenS Sa):=aQK nA.pre nA.F x.1
def Z4:Sum:=Ah Qo Sa aGT (DenS.dflt Sa)
theorem aFo:Sound Tryz.prog G1 181 Z4:=sd (cf [(182,nA)] []) 181 Tryz.f181 ⟨aTJ,trivial⟩ trivial Qo Sa aGT _ (fun _=>bDU ..)
abbrev aAO:=Af Qo
abbrev aBv:=Ae Qo Sa
variable (p414:aAO)(f414:aBv)
abbrev P1:Aa:=[(false,Za),(false,Za),(false,Zb),(false,Za)]
abbrev Mt:Aa:=[(false,Zb),(false,Za),(false,Za)]
def t38(p69:BV)(f69:BW)(p82:eW)(f82:fK)(p53:Vd)(f53:Vr)(p70:DE)(f70:DF)(p54:Ve)(f54:Vs)(p40:TS)(f40:TW)(p51:pO)(f51:qL)(a0 a1:Ab Za)(a2:Ab Zb)(a3:Ab Za):Option (DenS Mt):=let e3_:=(if((10000:Int)<a3)then(10000:Int)else a3);let e1_:=(a0,a1,((f40 (a0,a2,())).1.1,(f40 (a0,a2,())).1.2.1,(aa .i64 ((f40 (a0,a2,())).1.2.2.1+(if(e3_>(-(10000:Int)))then e3_ else(-(10000:Int))))),()),());let e2_:=((f82 (a0,a2,())).1,(f82 (a0,a2,())).1,());bif(p69 (a0,()))then(bif((f69 (a0,())).2.1 !=(0:Int))then(some ((0:Int),(0:Int),(f69 (a0,())).2))else bif((decide (a1<(0:Int)))||(decide (a1>(5:Int))))then(some ((0:Int),(0:Int),(3:Int),()))else bif(p82 (a0,a2,()))then(bif((f82 (a0,a2,())).2.1 !=(0:Int))then(some ((0:Int),(0:Int),(f82 (a0,a2,())).2))else bif(p53 ((f82 (a0,a2,())).1,()))then(bif(f53 ((f82 (a0,a2,())).1,())).1 then(bif(p70 (a0,()))then(bif(p54 e2_)then(some ((f70 (a0,())).1,(f54 e2_).1,(0:Int),()))else none)else none)else bif(p40 (a0,a2,()))then(bif(((f40 (a0,a2,())).2.1 !=(0:Int))||((f82 (a0,a2,())).1.2.1==(0:Int)))then(some (a2,(0:Int),(0:Int),()))else bif(p51 e1_)then(some (f51 e1_))else none)else none)else none)else none)else none
theorem r38(x:DenS P1):run (cf [(71,⟨B7,B8,p69,f69⟩),(228,⟨JQ,Kr,p82,f82⟩),(229,⟨GE,GT,p53,f53⟩),(61,⟨Dz,DA,p70,f70⟩),(230,⟨GF,GU,p54,f54⟩),(203,⟨GD,GS,p40,f40⟩),(231,⟨JJ,Kj,p51,f51⟩)] []) 9 184 Tryz.f184 P1 Mt x=t38 p69 f69 p82 f82 p53 f53 p70 f70 p54 f54 p40 f40 p51 f51 x.1 x.2.1 x.2.2.1 x.2.2.2.1:=by kernel_rfl
def T38(x:DenS P1):Option (DenS Mt):=t38 Aq.pre Aq.F KK.pre KK.F EY.pre EY.F Bs.pre Bs.F EZ.pre EZ.F DB.pre DB.F KI.pre KI.F x.1 x.2.1 x.2.2.1 x.2.2.2.1
def mS:Sum:=Ah P1 Mt T38 (DenS.dflt Mt)
theorem aTv:Sound Tryz.prog G1 184 mS:=sd (cf [(71,Aq),(228,KK),(229,EY),(61,Bs),(230,EZ),(203,DB),(231,KI)] []) 184 Tryz.f184 ⟨DC,zQ,aA,G6,aB,Z1,zK,trivial⟩ trivial P1 Mt T38 _ (fun _=>r38 ..)
abbrev Y38:=Af P1
abbrev Z38:=Ae P1 Mt
variable (p38:Y38)(f38:Z38)
abbrev Qp:Aa:=[(true,Zz)]
abbrev Sb:Aa:=[(false,Zb),(false,Za),(false,Za)]
def aQL(p38:Y38)(f38:Z38)(a0:Ab Zz):Option (DenS Sb):=let e1_:=(a0.2.1,a0.1,a0.2.2.1,(aa .i64 a0.2.2.2.1),());bif(p38 e1_)then(some (f38 e1_))else none
theorem bDV(x:DenS Qp):run (cf [(184,⟨P1,Mt,p38,f38⟩)] []) 9 183 Tryz.f183 Qp Sb x=aQL p38 f38 x.1:=by kernel_rfl
def aGU(x:DenS Qp):Option (DenS Sb):=aQL mS.pre mS.F x.1
def Z5:Sum:=Ah Qp Sb aGU (DenS.dflt Sb)
theorem aFp:Sound Tryz.prog G1 183 Z5:=sd (cf [(184,mS)] []) 183 Tryz.f183 ⟨aTv,trivial⟩ trivial Qp Sb aGU _ (fun _=>bDV ..)
abbrev aAP:=Af Qp
abbrev aBw:=Ae Qp Sb
variable (p415:aAP)(f415:aBw)
abbrev Qq:Aa:=[(true,Zz)]
abbrev Sc:Aa:=[(false,Zb),(false,Za),(false,Za)]
def aQM(p65:DW)(f65:DX)(a0:Ab Zz):Option (DenS Sc):=bif(p65 (a0.2.1,a0.2.2.1,()))then(some ((aa .u64 (f65 (a0.2.1,a0.2.2.1,())).1),(0:Int),(f65 (a0.2.1,a0.2.2.1,())).2))else none
theorem bDW(x:DenS Qq):run (cf [(59,⟨DQ,DR,p65,f65⟩)] []) 9 185 Tryz.f185 Qq Sc x=aQM p65 f65 x.1:=by kernel_rfl
def aGV(x:DenS Qq):Option (DenS Sc):=aQM Bv.pre Bv.F x.1
def Z6:Sum:=Ah Qq Sc aGV (DenS.dflt Sc)
theorem aFq:Sound Tryz.prog G1 185 Z6:=sd (cf [(59,Bv)] []) 185 Tryz.f185 ⟨IE,trivial⟩ trivial Qq Sc aGV _ (fun _=>bDW ..)
abbrev aAQ:=Af Qq
abbrev aBx:=Ae Qq Sc
variable (p416:aAQ)(f416:aBx)
abbrev Qr:Aa:=[(false,Za),(false,Zb),(false,Zb)]
abbrev Sd:Aa:=[(false,Zb),(false,Za)]
def aQN(p66:B9)(f66:Ca)(p115:eJ)(f115:fA)(a0:Ab Za)(a1 a2:Ab Zb):Option (DenS Sd):=bif(p66 (a0,a1,()))then(bif((f66 (a0,a1,())).1 !=(0:Int))then(some ((0:Int),(f66 (a0,a1,()))))else bif(p66 (a0,a2,()))then(bif((f66 (a0,a2,())).1 !=(0:Int))then(some ((0:Int),(f66 (a0,a2,()))))else bif(p115 (a0,()))then(bif(p115 (a0,()))then(some ((Ai .u64 (fY .u64 a1 (f115 (a0,())).1) (BN .u64 a2 (f115 (a0,())).1)),(0:Int),()))else none)else none)else none)else none
theorem bDX(x:DenS Qr):run (cf [(85,⟨Cq,Cr,p66,f66⟩),(233,⟨Jn,JW,p115,f115⟩)] []) 9 190 Tryz.f190 Qr Sd x=aQN p66 f66 p115 f115 x.1 x.2.1 x.2.2.1:=by kernel_rfl
def aGW(x:DenS Qr):Option (DenS Sd):=aQN Au.pre Au.F FJ.pre FJ.F x.1 x.2.1 x.2.2.1
def nD:Sum:=Ah Qr Sd aGW (DenS.dflt Sd)
theorem aTH:Sound Tryz.prog G1 190 nD:=sd (cf [(85,Au),(233,FJ)] []) 190 Tryz.f190 ⟨FM,yP,trivial⟩ trivial Qr Sd aGW _ (fun _=>bDX ..)
abbrev aIN:=Af Qr
abbrev aKr:=Ae Qr Sd
variable (p417:aIN)(f417:aKr)
abbrev Qs:Aa:=[(true,Zz)]
abbrev Se:Aa:=[(false,Zb),(false,Za),(false,Za)]
def aQO(p417:aIN)(f417:aKr)(a0:Ab Zz):Option (DenS Se):=bif(p417 (a0.2.1,a0.2.2.1,a0.2.2.2.1,()))then(some ((f417 (a0.2.1,a0.2.2.1,a0.2.2.2.1,())).1,(0:Int),(f417 (a0.2.1,a0.2.2.1,a0.2.2.2.1,())).2))else none
theorem bDY(x:DenS Qs):run (cf [(190,⟨Qr,Sd,p417,f417⟩)] []) 9 189 Tryz.f189 Qs Se x=aQO p417 f417 x.1:=by kernel_rfl
def aGX(x:DenS Qs):Option (DenS Se):=aQO nD.pre nD.F x.1
def Z7:Sum:=Ah Qs Se aGX (DenS.dflt Se)
theorem aFr:Sound Tryz.prog G1 189 Z7:=sd (cf [(190,nD)] []) 189 Tryz.f189 ⟨aTH,trivial⟩ trivial Qs Se aGX _ (fun _=>bDY ..)
abbrev aAR:=Af Qs
abbrev aBy:=Ae Qs Se
variable (p418:aAR)(f418:aBy)
end Vx
namespace Vx
open Go Go.Proofs
variable (p69:BV)(f69:BW)(p66:B9)(f66:Ca)(p65:DW)(f65:DX)(p70:DE)(f70:DF)(p178:II)(f178:IM)(p122:Ha)(f122:He)(p27:pC)(f27:pZ)(p64:Xc)(f64:Xq)(p25:Y25)(f25:Z25)(p354:aAB)(f354:aBi)(p40:TS)(f40:TW)(p328:E1)(f328:E3)(p381:aAD)(f381:aBk)(p395:aAE)(f395:aBl)(p396:aAF)(f396:aBm)(p402:aAH)(f402:aBo)(p407:aAK)(f407:aBr)(p408:aAL)(f408:aBs)(p411:aAM)(f411:aBt)(p413:aAN)(f413:aBu)(p112:oZ)(f112:pT)(p82:eW)(f82:fK)(p53:Vd)(f53:Vr)(p54:Ve)(f54:Vs)(p414:aAO)(f414:aBv)(p415:aAP)(f415:aBw)(p416:aAQ)(f416:aBx)(p418:aAR)(f418:aBy)
abbrev Qt:Aa:=[(false,Za),(false,Zb),(false,Zb)]
abbrev Sf:Aa:=[(false,Zb),(false,Za),(false,.bool),(false,Za)]
abbrev Iv:Pat:=⟨109,[(32,.one (.v .i64)),(31,.one (.sl Zb)),(33,.one (.v .i64)),(2,.one (.v .u64)),(0,.one (.v .i64)),(1,.one (.v .u64))],[]⟩
abbrev lC:List (Nat×Shape):=[]
abbrev Od:List (Nat×Pat):=[(0,⟨109,[(2,.one (.v .u64)),(0,.one (.v .i64)),(1,.one (.v .u64))],[]⟩)]
abbrev Np:Option Pat:=(some ⟨109,[(6,.one (.v .u64)),(7,.one (.v .i64)),(8,.one (.bool)),(9,.one (.v .i64))],[]⟩)
variable (w419_5:Pat.D Iv->Option (Ad Od Np))
def iQ(p69:BV)(f69:BW)(p66:B9)(f66:Ca)(p65:DW)(f65:DX)(p70:DE)(f70:DF){R:Type}(L:Pat.D Iv->Option R)(e:Ad Od Np->Option R)(x:Pat.D Iv):Option R:=let e2_:=(x.1.2.2.2.2.1,(x.1.2.1.getD (af x.1.2.2.1) (0:Int)),());let e1_:=(f66 e2_);bif(decide (x.1.2.2.1<x.1.1))then(bif((decide ((0:Int)<=x.1.2.2.1))&&(decide (x.1.2.2.1<(x.1.2.1.length:Int))))then(bif(p66 e2_)then(bif(e1_.1 !=(0:Int))then(((e (.inr (((0:Int),(0:Int),true,e1_),())))))else(L ((x.1.1,x.1.2.1,(aa .i64 (x.1.2.2.1+(1:Int))),x.1.2.2.2),())))else none)else none)else(e (.inl (x.1.2.2.2,())))
theorem bGs(d:Nat)(R:Type)(L:Pat.D Iv->Option R)(e:Ad Od Np->Option R)(x:Pat.D Iv):
  Br (cf [(71,⟨B7,B8,p69,f69⟩),(85,⟨Cq,Cr,p66,f66⟩),(59,⟨DQ,DR,p65,f65⟩),(61,⟨Dz,DA,p70,f70⟩)] [(242,5,LoopSpec.of Iv lC Od Np w419_5)]) (d+2) 242 (Bq Tryz.f242 5) Iv lC Od Np (R:=R) L e x=iQ p69 f69 p66 f66 p65 f65 p70 f70 L e x:=by kernel_rfl
theorem aZO(p69:BV)(f69:BW)(p66:B9)(f66:Ca)(p65:DW)(f65:DX)(p70:DE)(f70:DF):Bo fun L e x=>iQ p69 f69 p66 f66 p65 f65 p70 f70 L e x:=by intro _ _ _ _ _ _ _ h0 hL he _;unfold iQ;repeat' (first|exact h0|exact hL _|exact he _|apply BB|(apply BC h0;intro _)|(apply BD<;>intro _))
def aQP(p69:BV)(f69:BW)(p66:B9)(f66:Ca)(p65:DW)(f65:DX)(p70:DE)(f70:DF)(w419_5:Pat.D Iv->Option (Ad Od Np))(a0:Ab Za)(a1 a2:Ab Zb):Option (DenS Sf):=
 bif(p69 (a0,()))then(bif((f69 (a0,())).2.1 !=(0:Int))then(some ((0:Int),(0:Int),true,(f69 (a0,())).2))
 else Vx.Ba (w419_5 ((((a1::(a2::[])).length:Int),(a1::(a2::[])),(0:Int),a2,a0,a1,()),())) fun y2=>
 Vx.A9 y2 (fun y3=>
 bif(p65 y3.1.2)then(bif(p65 (y3.1.2.1,y3.1.1,()))then(bif(p70 (y3.1.2.1,()))then(bif(((f65 y3.1.2).1==(0:Int))||((f65 (y3.1.2.1,y3.1.1,())).1==(0:Int)))then(some ((f70 (y3.1.2.1,())).1,(1:Int),true,(0:Int),()))
 else bif(((f65 y3.1.2).1==(1:Int))||((f65 (y3.1.2.1,y3.1.1,())).1==(1:Int)))then(some ((f70 (y3.1.2.1,())).1,(0:Int),true,(0:Int),()))
 else bif(((((f65 y3.1.2).1==(9:Int))||((f65 y3.1.2).1==(2:Int)))||((f65 (y3.1.2.1,y3.1.1,())).1==(6:Int)))||((f65 (y3.1.2.1,y3.1.1,())).1==(5:Int)))then(some ((f70 (y3.1.2.1,())).1,(1:Int),true,(0:Int),()))
 else bif(((((f65 (y3.1.2.1,y3.1.1,())).1==(9:Int))||((f65 (y3.1.2.1,y3.1.1,())).1==(2:Int)))||((f65 y3.1.2).1==(6:Int)))||((f65 y3.1.2).1==(5:Int)))then(some (y3.1.2.2.1,(0:Int),true,(0:Int),()))
 else some ((0:Int),(0:Int),false,(0:Int),()))
 else none)
 else none)
 else none) (fun z3=>
 some z3.1))
 else none
theorem bDZ(x:DenS Qt):run (cf [(71,⟨B7,B8,p69,f69⟩),(85,⟨Cq,Cr,p66,f66⟩),(59,⟨DQ,DR,p65,f65⟩),(61,⟨Dz,DA,p70,f70⟩)] [(242,5,LoopSpec.of Iv lC Od Np w419_5)]) 9 242 Tryz.f242 Qt Sf x=aQP p69 f69 p66 f66 p65 f65 p70 f70 w419_5 x.1 x.2.1 x.2.2.1:=by kernel_rfl
def aHM:Iv.D->Option (Ad Od Np):=Bf fun L=>iQ Aq.pre Aq.F Au.pre Au.F Bv.pre Bv.F Bs.pre Bs.F L some
def aGY(x:DenS Qt):Option (DenS Sf):=aQP Aq.pre Aq.F Au.pre Au.F Bv.pre Bv.F Bs.pre Bs.F aHM x.1 x.2.1 x.2.2.1
def nE:Sum:=Ah Qt Sf aGY (DenS.dflt Sf)
theorem aTI:Sound Tryz.prog G1 242 nE:=sd (cf [(71,Aq),(85,Au),(59,Bv),(61,Bs)] [(242,5,LoopSpec.of Iv lC Od Np aHM)]) 242 Tryz.f242 ⟨DC,FM,IE,G6,trivial⟩ ⟨rfl,fun d=>BA (fun L e x=>iQ Aq.pre Aq.F Au.pre Au.F Bv.pre Bv.F Bs.pre Bs.F L e x) (aZO Aq.pre Aq.F Au.pre Au.F Bv.pre Bv.F Bs.pre Bs.F) (fun _ _ _ _=>bGs ..),trivial⟩ Qt Sf aGY _ (fun _=>bDZ ..)
abbrev aIO:=Af Qt
abbrev aKs:=Ae Qt Sf
variable (p419:aIO)(f419:aKs)
abbrev Qu:Aa:=[(true,Zs),(true,Zs)]
abbrev Sg:Aa:=[(true,.pair Zb (.pair Zb (.pair Za Zg)))]
abbrev Iw:Pat:=⟨104,[(6,.one (.v .u64)),(9,.one (.v .i64)),(8,.one (.ptr 3 0)),(4,.one (.ptr 2 0))],[.gone,.gone,.raw [.v .u64,.v .u64,.v .i64,.v .u64],.raw [.v .u64,.v .u64,.v .i64,.v .u64]]⟩
abbrev lD:List (Nat×Shape):=[]
abbrev Oe:List (Nat×Pat):=[(0,⟨104,[(8,.one (.ptr 3 0)),(4,.one (.ptr 2 0))],[.gone,.gone,.raw [.v .u64,.v .u64,.v .i64,.v .u64],.raw [.v .u64,.v .u64,.v .i64,.v .u64]]⟩)]
abbrev Nq:Option Pat:=none
variable (w420_10:Pat.D Iw->Option (Ad Oe Nq))
def iR(p178:II)(f178:IM)(p328:E1)(f328:E3){R:Type}(L:Pat.D Iw->Option R)(e:Ad Oe Nq->Option R)(x:Pat.D Iw):Option R:=let e6_:=(if((64:Int)<x.1.2.1)then(64:Int)else x.1.2.1);let e5_:=(aa .i64 ((64:Int)-e6_));let e1_:=(f328 ((AL .u64 x.2.2.2.2.1.1 e5_),(Be .u64 x.2.2.2.2.1.1 e6_),x.1.1,()));let e2_:=e5_;let e3_:=(decide ((0:Int)<=e6_));let e4_:=e6_;bif(decide (x.1.2.1>(0:Int)))then(bif(decide ((0:Int)<=e2_))then(bif e3_ then(bif(p328 ((AL .u64 x.2.2.2.2.1.1 e2_),(Be .u64 x.2.2.2.2.1.1 e4_),x.1.1,()))then(bif e3_ then(((L ((x.1.1,(aa .i64 (x.1.2.1-e4_)),(),(),()),(),(),x.2.2.2.1,(e1_.2.1,x.2.2.2.2.1.2.1,x.2.2.2.2.1.2.2.1,(aa .u64 ((Be .u64 x.2.2.2.2.1.2.2.2.1 e4_)+e1_.1)),()),()))))else none)else none)else none)else none)else(e (.inl (((),(),()),(),(),x.2.2.2)))
theorem bGt(d:Nat)(R:Type)(L:Pat.D Iw->Option R)(e:Ad Oe Nq->Option R)(x:Pat.D Iw):
  Br (cf [(115,⟨F3,FC,p178,f178⟩),(136,⟨EH,EL,p328,f328⟩)] [(243,10,LoopSpec.of Iw lD Oe Nq w420_10)]) (d+2) 243 (Bq Tryz.f243 10) Iw lD Oe Nq (R:=R) L e x=iR p178 f178 p328 f328 L e x:=by kernel_rfl
theorem aZP(p178:II)(f178:IM)(p328:E1)(f328:E3):Bo fun L e x=>iR p178 f178 p328 f328 L e x:=by intro _ _ _ _ _ _ _ h0 hL he _;unfold iR;repeat' (first|exact h0|exact hL _|exact he _|apply BB|(apply BC h0;intro _)|(apply BD<;>intro _))
def aQQ(p178:II)(f178:IM)(p328:E1)(f328:E3)(w420_10:Pat.D Iw->Option (Ad Oe Nq))(a0 a1:Ab Zs):Option (DenS Sg):=
 let e8_:=(aa .i64 (a1.2.2.1-a0.2.2.1))
 let e7_:=(Be .u64 (a1.2.1.getD (af (0:Int)) (0:Int)) e8_)
 let e1_:=(e7_ !=(0:Int))
 let e2_:=e7_
 let e3_:=((a1.2.1.getD (af (0:Int)) (0:Int))!=(0:Int))
 let e4_:=e8_
 let e5_:=((a1.2.1.getD (af (0:Int)) (0:Int)),())
 let e6_:=((a0.2.1.getD (af (0:Int)) (0:Int)),())
 bif(decide ((0:Int)<(a0.2.1.length:Int)))then(bif(decide ((0:Int)<(a1.2.1.length:Int)))then(bif(decide (a1.2.2.1>a0.2.2.1))then(bif(p178 e5_)then(bif(p178 e6_)then(bif(decide ((aa .i64 ((f178 e5_).1+e4_))>(aa .i64 ((f178 e6_).1+(1:Int)))))then(some (((a0.2.1.getD (af (0:Int)) (0:Int)),(0:Int),a0.2.2.1,(0:Int),()),()))
 else bif(decide ((0:Int)<=e4_))then(bif e1_ then(bif e1_ then(some (((gj (a0.2.1.getD (af (0:Int)) (0:Int)) e2_),e2_,a0.2.2.1,(Bg .u64 (a0.2.1.getD (af (0:Int)) (0:Int)) e2_),()),()))
 else none)
 else none)
 else none)
 else none)
 else none)
 else bif e3_ then(bif e3_ then(Vx.Ba (w420_10 (((a1.2.1.getD (af (0:Int)) (0:Int)),(aa .i64 (a0.2.2.1-a1.2.2.1)),(),(),()),(),(),((0:Int),(0:Int),(0:Int),(0:Int),()),((gj (a0.2.1.getD (af (0:Int)) (0:Int)) (a1.2.1.getD (af (0:Int)) (0:Int))),(a1.2.1.getD (af (0:Int)) (0:Int)),a1.2.2.1,(Bg .u64 (a0.2.1.getD (af (0:Int)) (0:Int)) (a1.2.1.getD (af (0:Int)) (0:Int))),()),())) fun y5=>
 Vx.A9 y5 (fun y6=>
 some y6.2.2.2.2) (fun z6=>
 none))
 else none)
 else none)
 else none)
 else none
theorem bD0(x:DenS Qu):run (cf [(115,⟨F3,FC,p178,f178⟩),(136,⟨EH,EL,p328,f328⟩)] [(243,10,LoopSpec.of Iw lD Oe Nq w420_10)]) 9 243 Tryz.f243 Qu Sg x=aQQ p178 f178 p328 f328 w420_10 x.1 x.2.1:=by kernel_rfl
def aHN:Iw.D->Option (Ad Oe Nq):=Bf fun L=>iR Cu.pre Cu.F Bl.pre Bl.F L some
def aGZ(x:DenS Qu):Option (DenS Sg):=aQQ Cu.pre Cu.F Bl.pre Bl.F aHN x.1 x.2.1
def nF:Sum:=Ah Qu Sg aGZ (DenS.dflt Sg)
theorem aTK:Sound Tryz.prog G1 243 nF:=sd (cf [(115,Cu),(136,Bl)] [(243,10,LoopSpec.of Iw lD Oe Nq aHN)]) 243 Tryz.f243 ⟨ZT,mQ,trivial⟩ ⟨rfl,fun d=>BA (fun L e x=>iR Cu.pre Cu.F Bl.pre Bl.F L e x) (aZP Cu.pre Cu.F Bl.pre Bl.F) (fun _ _ _ _=>bGt ..),trivial⟩ Qu Sg aGZ _ (fun _=>bD0 ..)
abbrev aIP:=Af Qu
abbrev aKt:=Ae Qu Sg
variable (p420:aIP)(f420:aKt)
abbrev LW:Aa:=[(false,Za),(false,Zb),(false,Zb),(false,.bool)]
abbrev Kb:Aa:=[(false,Zb),(false,Za),(false,Za),(false,Za)]
def aQR(p419:aIO)(f419:aKs)(p40:TS)(f40:TW)(p420:aIP)(f420:aKt)(p122:Ha)(f122:He)(a0:Ab Za)(a1 a2:Ab Zb)(a3:Ab (.bool)):Option (DenS Kb):=let e24_:=((f40 (a0,a1,())).1,(f40 (a0,a2,())).1,());let e23_:=(f420 e24_);let e20_:=(aa .u64 (e23_.1.2.1-e23_.1.1));let e22_:=(e23_.1.2.2.1,false,());let e14_:=(((0:Int),e20_,()),e22_);let e13_:=(a0,(2:Int),(f40 (a0,a1,())).1.1,e14_);let e12_:=(f122 e13_);let e1_:=(e12_.1,(aa .i64 (BN .u64 (aa .u64 (e23_.1.2.2.2.1+(1:Int))) (7:Int))),(0:Int),e12_.2.2);let e19_:=(((0:Int),e23_.1.1,()),e22_);let e17_:=(a0,(2:Int),(!(f40 (a0,a1,())).1.1),e19_);let e15_:=(f122 e17_);let e21_:=(aa .i64 (BN .u64 e23_.1.2.2.2.1 (7:Int)));let e2_:=(e15_.1,e21_,(0:Int),e15_.2.2);let e18_:=(a0,(2:Int),(f40 (a0,a1,())).1.1,e19_);let e16_:=(f122 e18_);let e3_:=(e16_.1,e21_,(0:Int),e16_.2.2);let e4_:=(f122 (a0,(2:Int),(!(f40 (a0,a1,())).1.1),e14_));let e5_:=(p122 e13_);let e6_:=(p122 e17_);let e7_:=(p122 e18_);let e8_:=(e20_==(0:Int));let e9_:=(aa .u64 ((2:Int)*e23_.1.1));let e10_:=(e23_.1.1==(0:Int));let e11_:=e23_;let g1_:Option (DenS Kb):=bif(a3&&false)then(bif e10_ then(bif e7_ then(some e3_)else none)else bif e6_ then(some e2_)else none)else bif e10_ then(bif e7_ then(some e3_)else none)else bif e7_ then(some e3_)else none;bif(p419 (a0,a1,a2,()))then(bif(f419 (a0,a1,a2,())).2.2.1 then(some ((f419 (a0,a1,a2,())).1,(0:Int),(f419 (a0,a1,a2,())).2.1,(f419 (a0,a1,a2,())).2.2.2))else bif(p40 (a0,a1,()))then(bif(p40 (a0,a2,()))then(bif(p420 e24_)then(bif a3 then(bif(((e11_.1.2.1==(0:Int))||(decide (e9_<e11_.1.2.1)))||((e9_==e11_.1.2.1)&&((BN .u64 e11_.1.2.2.2.1 (1:Int))==(0:Int))))then(g1_)else bif(a3&&true)then(bif e8_ then(bif e5_ then(some e1_)else none)else bif(p122 (a0,(2:Int),(!(f40 (a0,a1,())).1.1),((0:Int),(aa .u64 (e11_.1.2.1-e11_.1.1)),()),e11_.1.2.2.1,false,()))then(some (e4_.1,(aa .i64 (BN .u64 (aa .u64 (e11_.1.2.2.2.1+(1:Int))) (7:Int))),(0:Int),e4_.2.2))else none)else bif e8_ then(bif e5_ then(some e1_)else none)else bif e5_ then(some e1_)else none)else g1_)else none)else none)else none)else none
theorem bD1(x:DenS LW):run (cf [(242,⟨Qt,Sf,p419,f419⟩),(203,⟨GD,GS,p40,f40⟩),(243,⟨Qu,Sg,p420,f420⟩),(104,⟨Fb,FA,p122,f122⟩)] []) 9 214 Tryz.f214 LW Kb x=aQR p419 f419 p40 f40 p420 f420 p122 f122 x.1 x.2.1 x.2.2.1 x.2.2.2.1:=by kernel_rfl
def aG0(x:DenS LW):Option (DenS Kb):=aQR nE.pre nE.F DB.pre DB.F nF.pre nF.F Cd.pre Cd.F x.1 x.2.1 x.2.2.1 x.2.2.2.1
def UL:Sum:=Ah LW Kb aG0 (DenS.dflt Kb)
theorem aFs:Sound Tryz.prog G1 214 UL:=sd (cf [(242,nE),(203,DB),(243,nF),(104,Cd)] []) 214 Tryz.f214 ⟨aTI,Z1,aTK,Wu,trivial⟩ trivial LW Kb aG0 _ (fun _=>bD1 ..)
abbrev aAS:=Af LW
abbrev aBz:=Ae LW Kb
variable (p421:aAS)(f421:aBz)
abbrev Qv:Aa:=[(false,Za),(false,Zb),(false,Zb)]
abbrev Sh:Aa:=[(false,Zb),(false,Za),(false,Za),(false,Za)]
def aQS(p421:aAS)(f421:aBz)(a0:Ab Za)(a1 a2:Ab Zb):Option (DenS Sh):=bif(p421 (a0,a1,a2,true,()))then(some (f421 (a0,a1,a2,true,())))else none
theorem bD2(x:DenS Qv):run (cf [(214,⟨LW,Kb,p421,f421⟩)] []) 9 167 Tryz.f167 Qv Sh x=aQS p421 f421 x.1 x.2.1 x.2.2.1:=by kernel_rfl
def aG1(x:DenS Qv):Option (DenS Sh):=aQS UL.pre UL.F x.1 x.2.1 x.2.2.1
def Z8:Sum:=Ah Qv Sh aG1 (DenS.dflt Sh)
theorem aFt:Sound Tryz.prog G1 167 Z8:=sd (cf [(214,UL)] []) 167 Tryz.f167 ⟨aFs,trivial⟩ trivial Qv Sh aG1 _ (fun _=>bD2 ..)
abbrev aIQ:=Af Qv
abbrev aKu:=Ae Qv Sh
variable (p422:aIQ)(f422:aKu)
abbrev Qw:Aa:=[(false,Za),(false,Zb),(false,Zb)]
abbrev Si:Aa:=[(false,Zb),(false,Za),(false,Za),(false,Za)]
def aQT(p421:aAS)(f421:aBz)(a0:Ab Za)(a1 a2:Ab Zb):Option (DenS Si):=bif(p421 (a0,a1,a2,false,()))then(some (f421 (a0,a1,a2,false,())))else none
theorem bD3(x:DenS Qw):run (cf [(214,⟨LW,Kb,p421,f421⟩)] []) 9 168 Tryz.f168 Qw Si x=aQT p421 f421 x.1 x.2.1 x.2.2.1:=by kernel_rfl
def aG2(x:DenS Qw):Option (DenS Si):=aQT UL.pre UL.F x.1 x.2.1 x.2.2.1
def Z9:Sum:=Ah Qw Si aG2 (DenS.dflt Si)
theorem aFu:Sound Tryz.prog G1 168 Z9:=sd (cf [(214,UL)] []) 168 Tryz.f168 ⟨aFs,trivial⟩ trivial Qw Si aG2 _ (fun _=>bD3 ..)
abbrev aIR:=Af Qw
abbrev aKv:=Ae Qw Si
variable (p423:aIR)(f423:aKv)
abbrev lP:Aa:=[(false,Za),(false,Zb),(false,Zb)]
abbrev yI:Aa:=[(false,Zb),(false,Za),(false,Za),(false,Za)]
def lT:SumF:=K8 lP yI [(167,[],Z8),(168,[],Z9)]
theorem aSD:LC Tryz.prog G1 lT:=XC ⟨DI aFt,⟨DI aFu,trivial⟩⟩
abbrev aHV:=Option (Nat×List Nat)->Af lP
abbrev aJz:=Option (Nat×List Nat)->Ae lP yI
variable (p100004:aHV)(f100004:aJz)
abbrev Qx:Aa:=[(true,Zz),(false,Zc)]
abbrev Sj:Aa:=[(false,Zb),(false,Za),(false,Za)]
def aQU(p100004:aHV)(f100004:aJz)(a0:Ab Zz)(a1:Ab Zc):Option (DenS Sj):=let e1_:=(f100004 (some (a1,[])) (a0.2.1,a0.2.2.1,a0.2.2.2.1,()));bif(p100004 (some (a1,[])) (a0.2.1,a0.2.2.1,a0.2.2.2.1,()))then(some (e1_.1,e1_.2.2))else none
theorem bD4(x:DenS Qx):run ({cf [] []with fns:=[(246,⟨lP,yI,p100004,f100004⟩)] }) 9 213 Tryz.f213 Qx Sj x=aQU p100004 f100004 x.1 x.2.1:=by kernel_rfl
def aG3(x:DenS Qx):Option (DenS Sj):=aQU lT.pre lT.F x.1 x.2.1
def Tl:Sum:=Ah Qx Sj aG3 (DenS.dflt Sj)
theorem zC:Sound Tryz.prog G1 213 Tl:=sd ({cf [] []with fns:=[(246,lT)] }) 213 Tryz.f213 trivial trivial Qx Sj aG3 _ (fun _=>bD4 ..) (hfs:=⟨aSD,trivial⟩)
abbrev aIS:=Af Qx
abbrev aKw:=Ae Qx Sj
variable (p424:aIS)(f424:aKw)
abbrev QZ:Aa:=[(false,Za),(false,Za)]
abbrev SN:Aa:=[(false,.bool)]
def t61(a0 a1:Ab Za):Option (DenS SN):=some ((decide (a1<a0)),())
theorem r61(x:DenS QZ):run (cf [] []) 9 223 Tryz.f223 QZ SN x=t61 x.1 x.2.1:=by kernel_rfl
def T61(x:DenS QZ):Option (DenS SN):=t61 x.1 x.2.1
def nN:Sum:=Ah QZ SN T61 (DenS.dflt SN)
theorem aUh:Sound Tryz.prog G1 223 nN:=sd (cf [] []) 223 Tryz.f223 trivial trivial QZ SN T61 _ (fun _=>r61 ..)
abbrev Y61:=Af QZ
abbrev Z61:=Ae QZ SN
variable (p61:Y61)(f61:Z61)
abbrev JK:Aa:=[(false,Za),(false,Zb),(false,Zb)]
abbrev Kk:Aa:=[(true,Zi),(true,Zi),(false,Za)]
def t52(p82:eW)(f82:fK)(a0:Ab Za)(a1 a2:Ab Zb):Option (DenS Kk):=bif(p82 (a0,a1,()))then(bif((f82 (a0,a1,())).2.1 !=(0:Int))then(some ((f82 (a0,a1,())).1,((0:Int),(0:Int),()),(f82 (a0,a1,())).2))else bif(p82 (a0,a2,()))then(some ((f82 (a0,a1,())).1,(f82 (a0,a2,()))))else none)else none
theorem r52(x:DenS JK):run (cf [(228,⟨JQ,Kr,p82,f82⟩)] []) 9 245 Tryz.f245 JK Kk x=t52 p82 f82 x.1 x.2.1 x.2.2.1:=by kernel_rfl
def T52(x:DenS JK):Option (DenS Kk):=t52 KK.pre KK.F x.1 x.2.1 x.2.2.1
def KJ:Sum:=Ah JK Kk T52 (DenS.dflt Kk)
theorem zL:Sound Tryz.prog G1 245 KJ:=sd (cf [(228,KK)] []) 245 Tryz.f245 ⟨zQ,trivial⟩ trivial JK Kk T52 _ (fun _=>r52 ..)
abbrev pQ:=Af JK
abbrev qM:=Ae JK Kk
variable (p52:pQ)(f52:qM)
abbrev PA:Aa:=[(false,Za),(false,Zb),(false,Zb)]
abbrev Ru:Aa:=[(false,Zb),(false,Za),(false,Za)]
def t19(p61:Y61)(f61:Z61)(p52:pQ)(f52:qM)(p54:Ve)(f54:Vs)(p70:DE)(f70:DF)(p53:Vd)(f53:Vr)(a0:Ab Za)(a1 a2:Ab Zb):Option (DenS Ru):=let e3_:=((f52 (a0,a1,a2,())).1,(f52 (a0,a1,a2,())).2.1,());let e1_:=((f54 e3_).1,(0:Int),());let e2_:=((f52 (a0,a1,a2,())).1.2.1,(f52 (a0,a1,a2,())).2.1.2);bif(p52 (a0,a1,a2,()))then(bif((f52 (a0,a1,a2,())).2.2.1 !=(0:Int))then(some ((0:Int),(0:Int),(f52 (a0,a1,a2,())).2.2))else bif(p54 e3_)then(bif(p53 ((f52 (a0,a1,a2,())).1,()))then(bif((p53 ((f52 (a0,a1,a2,())).2.1,()))||(!(f53 ((f52 (a0,a1,a2,())).1,())).1))then(bif((f53 ((f52 (a0,a1,a2,())).1,())).1&&(f53 ((f52 (a0,a1,a2,())).2.1,())).1)then(bif(p70 (a0,()))then(some ((f70 (a0,())).1,e1_))else none)else bif(p53 ((f52 (a0,a1,a2,())).1,()))then(bif((p53 ((f52 (a0,a1,a2,())).2.1,()))||(!(bif(f53 ((f52 (a0,a1,a2,())).1,())).1 then false else true)))then(bif((p61 e2_)||(!((bif(f53 ((f52 (a0,a1,a2,())).1,())).1 then false else true)&&(bif(f53 ((f52 (a0,a1,a2,())).2.1,())).1 then false else true))))then(bif((f53 ((f52 (a0,a1,a2,())).1,())).1||((!(f53 ((f52 (a0,a1,a2,())).2.1,())).1)&&((f61 e2_).1||(((f52 (a0,a1,a2,())).1.2.1==(0:Int))&&((f52 (a0,a1,a2,())).2.1.1==(5:Int))))))then(some (a2,e1_))else some (a1,e1_))else none)else none)else none)else none)else none)else none)else none
theorem r19(x:DenS PA):run (cf [(223,⟨QZ,SN,p61,f61⟩),(245,⟨JK,Kk,p52,f52⟩),(230,⟨GF,GU,p54,f54⟩),(61,⟨Dz,DA,p70,f70⟩),(229,⟨GE,GT,p53,f53⟩)] []) 9 178 Tryz.f178 PA Ru x=t19 p61 f61 p52 f52 p54 f54 p70 f70 p53 f53 x.1 x.2.1 x.2.2.1:=by kernel_rfl
def T19(x:DenS PA):Option (DenS Ru):=t19 nN.pre nN.F KJ.pre KJ.F EZ.pre EZ.F Bs.pre Bs.F EY.pre EY.F x.1 x.2.1 x.2.2.1
def ZU:Sum:=Ah PA Ru T19 (DenS.dflt Ru)
theorem aE6:Sound Tryz.prog G1 178 ZU:=sd (cf [(223,nN),(245,KJ),(230,EZ),(61,Bs),(229,EY)] []) 178 Tryz.f178 ⟨aUh,zL,aB,G6,aA,trivial⟩ trivial PA Ru T19 _ (fun _=>r19 ..)
abbrev Y19:=Af PA
abbrev Z19:=Ae PA Ru
variable (p19:Y19)(f19:Z19)
abbrev Q0:Aa:=[(false,Za),(false,Za)]
abbrev SO:Aa:=[(false,.bool)]
def t63(a0 a1:Ab Za):Option (DenS SO):=some ((decide (a1>a0)),())
theorem r63(x:DenS Q0):run (cf [] []) 9 224 Tryz.f224 Q0 SO x=t63 x.1 x.2.1:=by kernel_rfl
def T63(x:DenS Q0):Option (DenS SO):=t63 x.1 x.2.1
def nO:Sum:=Ah Q0 SO T63 (DenS.dflt SO)
theorem aUi:Sound Tryz.prog G1 224 nO:=sd (cf [] []) 224 Tryz.f224 trivial trivial Q0 SO T63 _ (fun _=>r63 ..)
abbrev Y63:=Af Q0
abbrev Z63:=Ae Q0 SO
variable (p63:Y63)(f63:Z63)
abbrev PD:Aa:=[(false,Za),(false,Zb),(false,Zb)]
abbrev Rv:Aa:=[(false,Zb),(false,Za),(false,Za)]
def t21(p63:Y63)(f63:Z63)(p52:pQ)(f52:qM)(p54:Ve)(f54:Vs)(p70:DE)(f70:DF)(p53:Vd)(f53:Vr)(a0:Ab Za)(a1 a2:Ab Zb):Option (DenS Rv):=let e3_:=((f52 (a0,a1,a2,())).1,(f52 (a0,a1,a2,())).2.1,());let e1_:=((f54 e3_).1,(0:Int),());let e2_:=((f52 (a0,a1,a2,())).1.2.1,(f52 (a0,a1,a2,())).2.1.2);bif(p52 (a0,a1,a2,()))then(bif((f52 (a0,a1,a2,())).2.2.1 !=(0:Int))then(some ((0:Int),(0:Int),(f52 (a0,a1,a2,())).2.2))else bif(p54 e3_)then(bif(p53 ((f52 (a0,a1,a2,())).1,()))then(bif((p53 ((f52 (a0,a1,a2,())).2.1,()))||(!(f53 ((f52 (a0,a1,a2,())).1,())).1))then(bif((f53 ((f52 (a0,a1,a2,())).1,())).1&&(f53 ((f52 (a0,a1,a2,())).2.1,())).1)then(bif(p70 (a0,()))then(some ((f70 (a0,())).1,e1_))else none)else bif(p53 ((f52 (a0,a1,a2,())).1,()))then(bif((p53 ((f52 (a0,a1,a2,())).2.1,()))||(!(bif(f53 ((f52 (a0,a1,a2,())).1,())).1 then false else true)))then(bif((p63 e2_)||(!((bif(f53 ((f52 (a0,a1,a2,())).1,())).1 then false else true)&&(bif(f53 ((f52 (a0,a1,a2,())).2.1,())).1 then false else true))))then(bif((f53 ((f52 (a0,a1,a2,())).1,())).1||((!(f53 ((f52 (a0,a1,a2,())).2.1,())).1)&&((f63 e2_).1||(((f52 (a0,a1,a2,())).1.2.1==(0:Int))&&((f52 (a0,a1,a2,())).2.1.1==(6:Int))))))then(some (a2,e1_))else some (a1,e1_))else none)else none)else none)else none)else none)else none)else none
theorem r21(x:DenS PD):run (cf [(224,⟨Q0,SO,p63,f63⟩),(245,⟨JK,Kk,p52,f52⟩),(230,⟨GF,GU,p54,f54⟩),(61,⟨Dz,DA,p70,f70⟩),(229,⟨GE,GT,p53,f53⟩)] []) 9 179 Tryz.f179 PD Rv x=t21 p63 f63 p52 f52 p54 f54 p70 f70 p53 f53 x.1 x.2.1 x.2.2.1:=by kernel_rfl
def T21(x:DenS PD):Option (DenS Rv):=t21 nO.pre nO.F KJ.pre KJ.F EZ.pre EZ.F Bs.pre Bs.F EY.pre EY.F x.1 x.2.1 x.2.2.1
def ZV:Sum:=Ah PD Rv T21 (DenS.dflt Rv)
theorem aE7:Sound Tryz.prog G1 179 ZV:=sd (cf [(224,nO),(245,KJ),(230,EZ),(61,Bs),(229,EY)] []) 179 Tryz.f179 ⟨aUi,zL,aB,G6,aA,trivial⟩ trivial PD Rv T21 _ (fun _=>r21 ..)
abbrev Y21:=Af PD
abbrev Z21:=Ae PD Rv
variable (p21:Y21)(f21:Z21)
abbrev lO:Aa:=[(false,Za),(false,Zb),(false,Zb)]
abbrev yH:Aa:=[(false,Zb),(false,Za),(false,Za)]
def lS:SumF:=K8 lO yH [(178,[],ZU),(179,[],ZV)]
theorem aSC:LC Tryz.prog G1 lS:=XC ⟨DI aE6,⟨DI aE7,trivial⟩⟩
abbrev aHU:=Option (Nat×List Nat)->Af lO
abbrev aJy:=Option (Nat×List Nat)->Ae lO yH
variable (p100003:aHU)(f100003:aJy)
abbrev Qy:Aa:=[(true,Zz),(false,Zc)]
abbrev Sk:Aa:=[(false,Zb),(false,Za),(false,Za)]
def aQV(p100003:aHU)(f100003:aJy)(a0:Ab Zz)(a1:Ab Zc):Option (DenS Sk):=bif(p100003 (some (a1,[])) (a0.2.1,a0.2.2.1,a0.2.2.2.1,()))then(some (f100003 (some (a1,[])) (a0.2.1,a0.2.2.1,a0.2.2.2.1,())))else none
theorem bD5(x:DenS Qy):run ({cf [] []with fns:=[(57,⟨lO,yH,p100003,f100003⟩)] }) 9 221 Tryz.f221 Qy Sk x=aQV p100003 f100003 x.1 x.2.1:=by kernel_rfl
def aG4(x:DenS Qy):Option (DenS Sk):=aQV lS.pre lS.F x.1 x.2.1
def Tm:Sum:=Ah Qy Sk aG4 (DenS.dflt Sk)
theorem zD:Sound Tryz.prog G1 221 Tm:=sd ({cf [] []with fns:=[(57,lS)] }) 221 Tryz.f221 trivial trivial Qy Sk aG4 _ (fun _=>bD5 ..) (hfs:=⟨aSC,trivial⟩)
abbrev aIT:=Af Qy
abbrev aKx:=Ae Qy Sk
variable (p425:aIT)(f425:aKx)
abbrev Pk:Aa:=[(false,Za),(false,Zb),(false,Zb),(false,.bool)]
abbrev Rd:Aa:=[(false,Za),(false,Za),(false,Za)]
def t14(p52:pQ)(f52:qM)(p53:Vd)(f53:Vr)(p54:Ve)(f54:Vs)(a0:Ab Za)(a1 a2:Ab Zb)(a3:Ab (.bool)):Option (DenS Rd):=let e1_:=((f52 (a0,a1,a2,())).1,(f52 (a0,a1,a2,())).2.1,());bif(p52 (a0,a1,a2,()))then(bif((f52 (a0,a1,a2,())).2.2.1 !=(0:Int))then(some ((0:Int),(0:Int),(f52 (a0,a1,a2,())).2.2))else bif(p53 ((f52 (a0,a1,a2,())).1,()))then(bif((p53 ((f52 (a0,a1,a2,())).2.1,()))||(!(bif(f53 ((f52 (a0,a1,a2,())).1,())).1 then false else true)))then(bif((f53 ((f52 (a0,a1,a2,())).1,())).1||(f53 ((f52 (a0,a1,a2,())).2.1,())).1)then(bif(p54 e1_)then(bif a3 then(some ((3:Int),(1:Int),(0:Int),()))else some ((3:Int),(f54 e1_).1,(0:Int),()))else none)else bif(decide ((f52 (a0,a1,a2,())).1.2.1<(f52 (a0,a1,a2,())).2.1.2.1))then(some ((0:Int),(0:Int),(0:Int),()))else bif(decide ((f52 (a0,a1,a2,())).1.2.1>(f52 (a0,a1,a2,())).2.1.2.1))then(some ((2:Int),(0:Int),(0:Int),()))else some ((1:Int),(0:Int),(0:Int),()))else none)else none)else none
theorem r14(x:DenS Pk):run (cf [(245,⟨JK,Kk,p52,f52⟩),(229,⟨GE,GT,p53,f53⟩),(230,⟨GF,GU,p54,f54⟩)] []) 9 226 Tryz.f226 Pk Rd x=t14 p52 f52 p53 f53 p54 f54 x.1 x.2.1 x.2.2.1 x.2.2.2.1:=by kernel_rfl
def T14(x:DenS Pk):Option (DenS Rd):=t14 KJ.pre KJ.F EY.pre EY.F EZ.pre EZ.F x.1 x.2.1 x.2.2.1 x.2.2.2.1
def lZ:Sum:=Ah Pk Rd T14 (DenS.dflt Rd)
theorem aST:Sound Tryz.prog G1 226 lZ:=sd (cf [(245,KJ),(229,EY),(230,EZ)] []) 226 Tryz.f226 ⟨zL,aA,aB,trivial⟩ trivial Pk Rd T14 _ (fun _=>r14 ..)
abbrev Y14:=Af Pk
abbrev Z14:=Ae Pk Rd
variable (p14:Y14)(f14:Z14)
abbrev Qz:Aa:=[(true,Zz),(false,.box .bool)]
abbrev Sl:Aa:=[(false,Zb),(false,Za),(false,Za)]
def aQW(p14:Y14)(f14:Z14)(a0:Ab Zz)(a1:Ab (.box .bool)):Option (DenS Sl):=let e1_:=(f14 (a0.2.1,a0.2.2.1,a0.2.2.2.1,a1,()));bif(p14 (a0.2.1,a0.2.2.1,a0.2.2.2.1,a1,()))then(some ((aa .u64 e1_.1),e1_.2))else none
theorem bD6(x:DenS Qz):run (cf [(226,⟨Pk,Rd,p14,f14⟩)] []) 9 225 Tryz.f225 Qz Sl x=aQW p14 f14 x.1 x.2.1:=by kernel_rfl
def aG5(x:DenS Qz):Option (DenS Sl):=aQW lZ.pre lZ.F x.1 x.2.1
def Tn:Sum:=Ah Qz Sl aG5 (DenS.dflt Sl)
theorem zE:Sound Tryz.prog G1 225 Tn:=sd (cf [(226,lZ)] []) 225 Tryz.f225 ⟨aST,trivial⟩ trivial Qz Sl aG5 _ (fun _=>bD6 ..)
abbrev aIU:=Af Qz
abbrev aKy:=Ae Qz Sl
variable (p426:aIU)(f426:aKy)
abbrev lQ:Aa:=[(false,Za),(false,Zb)]
abbrev yJ:Aa:=[(false,Zb),(false,Za)]
def lU:SumF:=K8 lQ yJ [(187,[],Fi),(188,[],KE)]
theorem aSE:LC Tryz.prog G1 lU:=XC ⟨DI nP,⟨DI yO,trivial⟩⟩
abbrev aHW:=Option (Nat×List Nat)->Af lQ
abbrev aJA:=Option (Nat×List Nat)->Ae lQ yJ
variable (p100005:aHW)(f100005:aJA)
abbrev QA:Aa:=[(true,Zz),(false,Zc)]
abbrev Sm:Aa:=[(false,Zb),(false,Za),(false,Za)]
def aQX(p100005:aHW)(f100005:aJA)(a0:Ab Zz)(a1:Ab Zc):Option (DenS Sm):=let e1_:=(f100005 (some (a1,[])) (a0.2.1,a0.2.2.1,()));bif(p100005 (some (a1,[])) (a0.2.1,a0.2.2.1,()))then(some (e1_.1,(0:Int),e1_.2))else none
theorem bD7(x:DenS QA):run ({cf [] []with fns:=[(64,⟨lQ,yJ,p100005,f100005⟩)] }) 9 232 Tryz.f232 QA Sm x=aQX p100005 f100005 x.1 x.2.1:=by kernel_rfl
def aG6(x:DenS QA):Option (DenS Sm):=aQX lU.pre lU.F x.1 x.2.1
def To:Sum:=Ah QA Sm aG6 (DenS.dflt Sm)
theorem zF:Sound Tryz.prog G1 232 To:=sd ({cf [] []with fns:=[(64,lU)] }) 232 Tryz.f232 trivial trivial QA Sm aG6 _ (fun _=>bD7 ..) (hfs:=⟨aSE,trivial⟩)
abbrev aIV:=Af QA
abbrev aKz:=Ae QA Sm
variable (p427:aIV)(f427:aKz)
abbrev EF:Aa:=[(true,Zz)]
abbrev Ee:Aa:=[(false,Zb),(false,Za),(false,Za)]
def KC:SumF:=K8 EF Ee [(192,[160],Jh EF Ee Dc.pre Dc.F 158),(192,[161],Jh EF Ee Dc.pre Dc.F 159),(192,[162],Jh EF Ee Dc.pre Dc.F 160),(192,[163],Jh EF Ee Dc.pre Dc.F 161),(162,[],ZX),(164,[],ZY),(169,[],ZZ),(171,[],Z0),(173,[],Z2),(175,[],Z3),(181,[],Z4),(183,[],Z5),(185,[],Z6),(189,[],Z7),(213,[169],Jh EF Ee Tl.pre Tl.F 167),(213,[170],Jh EF Ee Tl.pre Tl.F 168),(221,[180],Jh EF Ee Tm.pre Tm.F 178),(221,[181],Jh EF Ee Tm.pre Tm.F 179),(225,[0],aEd EF Ee Tn.pre Tn.F false),(225,[1],aEd EF Ee Tn.pre Tn.F true),(232,[189],Jh EF Ee To.pre To.F 187),(232,[190],Jh EF Ee To.pre To.F 188)]
theorem aSA:LC Tryz.prog G1 KC:=XC ⟨Le ZW 158,⟨Le ZW 159,⟨Le ZW 160,⟨Le ZW 161,⟨DI aFf,⟨DI aFh,⟨DI aFk,⟨DI aFl,⟨DI aFm,⟨DI aFn,⟨DI aFo,⟨DI aFp,⟨DI aFq,⟨DI aFr,⟨Le zC 167,⟨Le zC 168,⟨Le zD 178,⟨Le zD 179,⟨aMv zE false,⟨aMv zE true,⟨Le zF 187,⟨Le zF 188,trivial⟩⟩⟩⟩⟩⟩⟩⟩⟩⟩⟩⟩⟩⟩⟩⟩⟩⟩⟩⟩⟩⟩
abbrev aHS:=Option (Nat×List Nat)->Af EF
abbrev aJw:=Option (Nat×List Nat)->Ae EF Ee
variable (p100001:aHS)(f100001:aJw)
abbrev QB:Aa:=[(false,Za)]
abbrev Sn:Aa:=[(false,.bool)]
def aQY(a0:Ab Za):Option (DenS Sn):=some (((fY .i64 a0 (31:Int))==(0:Int)),())
theorem bD8(x:DenS QB):run (cf [] []) 9 152 Tryz.f152 QB Sn x=aQY x.1:=by kernel_rfl
def WT(x:DenS QB):Option (DenS Sn):=aQY x.1
def Tp:Sum:=Ah QB Sn WT (DenS.dflt Sn)
theorem aTL:Sound Tryz.prog G1 152 Tp:=sd (cf [] []) 152 Tryz.f152 trivial trivial QB Sn WT _ (fun _=>bD8 ..)
abbrev aIW:=Af QB
abbrev aKA:=Ae QB Sn
variable (p428:aIW)(f428:aKA)
abbrev QC:Aa:=[(true,Zp)]
abbrev So:Aa:=[(false,Za)]
def wE(p428:aIW)(f428:aKA)(a0:Ab Zp):Option (DenS So):=bif((decide (a0.1<(0:Int)))||(decide (a0.1>(5:Int))))then(some ((3:Int),()))else bif(p428 (a0.2.1,()))then(bif((p428 a0.2.2)||(!(bif(!(f428 (a0.2.1,())).1)then false else true)))then(bif((!(f428 (a0.2.1,())).1)||(!(f428 a0.2.2).1))then(some ((7:Int),()))else some ((0:Int),()))else none)else none
theorem bD9(x:DenS QC):run (cf [(152,⟨QB,Sn,p428,f428⟩)] []) 9 144 Tryz.f144 QC So x=wE p428 f428 x.1:=by kernel_rfl
def WU(x:DenS QC):Option (DenS So):=wE Tp.pre Tp.F x.1
def Tq:Sum:=Ah QC So WU (DenS.dflt So)
theorem aTM:Sound Tryz.prog G1 144 Tq:=sd (cf [(152,Tp)] []) 144 Tryz.f144 ⟨aTL,trivial⟩ trivial QC So WU _ (fun _=>bD9 ..)
abbrev aIX:=Af QC
abbrev aKB:=Ae QC So
variable (p429:aIX)(f429:aKB)
abbrev QE:Aa:=[(false,.pfn)]
abbrev Sq:Aa:=[(true,.pair Za (.pair .fn .unit))]
def aQ0(p395:aAE)(f395:aBl)(a0:Ab (.pfn)):Option (DenS Sq):=some (((2:Int),(some ((192:Nat),((a0+(2:Nat))::[]))),()),())
theorem bEb(x:DenS QE):run (cf [(192,⟨P8,Mv,p395,f395⟩)] []) 9 157 Tryz.f157 QE Sq x=aQ0 p395 f395 x.1:=by kernel_rfl
def aG8(x:DenS QE):Option (DenS Sq):=aQ0 Dc.pre Dc.F x.1
def nG:Sum:=Ah QE Sq aG8 (DenS.dflt Sq)
theorem aTN:Sound Tryz.prog G1 157 nG:=sd (cf [(192,Dc)] []) 157 Tryz.f157 ⟨ZW,trivial⟩ trivial QE Sq aG8 _ (fun _=>bEb ..)
abbrev aIZ:=Af QE
abbrev aKD:=Ae QE Sq
variable (p430:aIZ)(f430:aKD)
abbrev QF:Aa:=[(false,.pfn)]
abbrev Sr:Aa:=[(true,.pair Za (.pair .fn .unit))]
def aQ1(p424:aIS)(f424:aKw)(a0:Ab (.pfn)):Option (DenS Sr):=some (((2:Int),(some ((213:Nat),((a0+(2:Nat))::[]))),()),())
theorem bEc(x:DenS QF):run (cf [(213,⟨Qx,Sj,p424,f424⟩)] []) 9 166 Tryz.f166 QF Sr x=aQ1 p424 f424 x.1:=by kernel_rfl
def aG9(x:DenS QF):Option (DenS Sr):=aQ1 Tl.pre Tl.F x.1
def nH:Sum:=Ah QF Sr aG9 (DenS.dflt Sr)
theorem aTO:Sound Tryz.prog G1 166 nH:=sd (cf [(213,Tl)] []) 166 Tryz.f166 ⟨zC,trivial⟩ trivial QF Sr aG9 _ (fun _=>bEc ..)
abbrev aI0:=Af QF
abbrev aKE:=Ae QF Sr
variable (p431:aI0)(f431:aKE)
abbrev QG:Aa:=[(false,.pfn)]
abbrev Ss:Aa:=[(true,.pair Za (.pair .fn .unit))]
def aQ2(p425:aIT)(f425:aKx)(a0:Ab (.pfn)):Option (DenS Ss):=some (((2:Int),(some ((221:Nat),((a0+(2:Nat))::[]))),()),())
theorem bEd(x:DenS QG):run (cf [(221,⟨Qy,Sk,p425,f425⟩)] []) 9 177 Tryz.f177 QG Ss x=aQ2 p425 f425 x.1:=by kernel_rfl
def aHa(x:DenS QG):Option (DenS Ss):=aQ2 Tm.pre Tm.F x.1
def nI:Sum:=Ah QG Ss aHa (DenS.dflt Ss)
theorem aTP:Sound Tryz.prog G1 177 nI:=sd (cf [(221,Tm)] []) 177 Tryz.f177 ⟨zD,trivial⟩ trivial QG Ss aHa _ (fun _=>bEd ..)
abbrev aI1:=Af QG
abbrev aKF:=Ae QG Ss
variable (p432:aI1)(f432:aKF)
abbrev QH:Aa:=[(false,.bool)]
abbrev Su:Aa:=[(true,.pair Za (.pair .fn .unit))]
def aQ3(p426:aIU)(f426:aKy)(a0:Ab (.bool)):Option (DenS Su):=some (((2:Int),(some ((225:Nat),((bif a0 then(1:Nat)else(0:Nat))::[]))),()),())
theorem bEe(x:DenS QH):run (cf [(225,⟨Qz,Sl,p426,f426⟩)] []) 9 180 Tryz.f180 QH Su x=aQ3 p426 f426 x.1:=by kernel_rfl
def aHb(x:DenS QH):Option (DenS Su):=aQ3 Tn.pre Tn.F x.1
def nJ:Sum:=Ah QH Su aHb (DenS.dflt Su)
theorem aTQ:Sound Tryz.prog G1 180 nJ:=sd (cf [(225,Tn)] []) 180 Tryz.f180 ⟨zE,trivial⟩ trivial QH Su aHb _ (fun _=>bEe ..)
abbrev aI2:=Af QH
abbrev aKG:=Ae QH Su
variable (p433:aI2)(f433:aKG)
abbrev QI:Aa:=[(false,.pfn)]
abbrev Sv:Aa:=[(true,.pair Za (.pair .fn .unit))]
def aQ4(p427:aIV)(f427:aKz)(a0:Ab (.pfn)):Option (DenS Sv):=some (((1:Int),(some ((232:Nat),((a0+(2:Nat))::[]))),()),())
theorem bEf(x:DenS QI):run (cf [(232,⟨QA,Sm,p427,f427⟩)] []) 9 186 Tryz.f186 QI Sv x=aQ4 p427 f427 x.1:=by kernel_rfl
def aHc(x:DenS QI):Option (DenS Sv):=aQ4 To.pre To.F x.1
def nK:Sum:=Ah QI Sv aHc (DenS.dflt Sv)
theorem aTR:Sound Tryz.prog G1 186 nK:=sd (cf [(232,To)] []) 186 Tryz.f186 ⟨zF,trivial⟩ trivial QI Sv aHc _ (fun _=>bEf ..)
abbrev aI3:=Af QI
abbrev aKH:=Ae QI Sv
variable (p434:aI3)(f434:aKH)
abbrev QJ:Aa:=[]
abbrev Sw:Aa:=[(false,.slice (.pair Za (.pair .fn .unit)))]
def aQ5(p27:pC)(f27:pZ)(p25:Y25)(f25:Z25)(p354:aAB)(f354:aBi)(p381:aAD)(f381:aBk)(p430:aIZ)(f430:aKD)(p396:aAF)(f396:aBm)(p402:aAH)(f402:aBo)(p422:aIQ)(f422:aKu)(p423:aIR)(f423:aKv)(p431:aI0)(f431:aKE)(p407:aAK)(f407:aBr)(p408:aAL)(f408:aBs)(p411:aAM)(f411:aBt)(p413:aAN)(f413:aBu)(p19:Y19)(f19:Z19)(p21:Y21)(f21:Z21)(p432:aI1)(f432:aKF)(p433:aI2)(f433:aKG)(p414:aAO)(f414:aBv)(p415:aAP)(f415:aBw)(p416:aAQ)(f416:aBx)(p64:Xc)(f64:Xq)(p112:oZ)(f112:pT)(p434:aI3)(f434:aKH)(p418:aAR)(f418:aBy):Option (DenS Sw):=bif(p430 ((158:Nat),()))then(bif(p430 ((159:Nat),()))then(bif(p430 ((160:Nat),()))then(bif(p430 ((161:Nat),()))then(bif(p431 ((167:Nat),()))then(bif(p431 ((168:Nat),()))then(bif(p432 ((178:Nat),()))then(bif(p432 ((179:Nat),()))then(bif(p433 (false,()))then(bif(p433 (true,()))then(bif(p434 ((187:Nat),()))then(bif(p434 ((188:Nat),()))then(some ((((0:Int),none,())::((f430 ((158:Nat),())).1::((f430 ((159:Nat),())).1::((f430 ((160:Nat),())).1::((f430 ((161:Nat),())).1::(((1:Int),(some ((162:Nat),[])),())::(((3:Int),(some ((164:Nat),[])),())::((f431 ((167:Nat),())).1::((f431 ((168:Nat),())).1::(((1:Int),(some ((169:Nat),[])),())::(((1:Int),(some ((171:Nat),[])),())::(((1:Int),(some ((173:Nat),[])),())::(((0:Int),(some ((175:Nat),[])),())::((f432 ((178:Nat),())).1::((f432 ((179:Nat),())).1::((f433 (false,())).1::((f433 (true,())).1::(((1:Int),(some ((181:Nat),[])),())::(((1:Int),(some ((183:Nat),[])),())::(((1:Int),(some ((185:Nat),[])),())::((f434 ((187:Nat),())).1::((f434 ((188:Nat),())).1::(((2:Int),(some ((189:Nat),[])),())::[]))))))))))))))))))))))),()))else none)else none)else none)else none)else none)else none)else none)else none)else none)else none)else none)else none
theorem bEg(x:DenS QJ):run (cf [(158,⟨LM,Mo,p27,f27⟩),(159,⟨PE,Rw,p25,f25⟩),(160,⟨PU,RN,p354,f354⟩),(161,⟨P4,Mu,p381,f381⟩),(157,⟨QE,Sq,p430,f430⟩),(162,⟨P9,RW,p396,f396⟩),(164,⟨Qe,R1,p402,f402⟩),(167,⟨Qv,Sh,p422,f422⟩),(168,⟨Qw,Si,p423,f423⟩),(166,⟨QF,Sr,p431,f431⟩),(169,⟨Qg,R2,p407,f407⟩),(171,⟨Qh,R3,p408,f408⟩),(173,⟨Ql,R7,p411,f411⟩),(175,⟨Qn,R9,p413,f413⟩),(178,⟨PA,Ru,p19,f19⟩),(179,⟨PD,Rv,p21,f21⟩),(177,⟨QG,Ss,p432,f432⟩),(180,⟨QH,Su,p433,f433⟩),(181,⟨Qo,Sa,p414,f414⟩),(183,⟨Qp,Sb,p415,f415⟩),(185,⟨Qq,Sc,p416,f416⟩),(187,⟨JL,Kl,p64,f64⟩),(188,⟨LF,Mg,p112,f112⟩),(186,⟨QI,Sv,p434,f434⟩),(189,⟨Qs,Se,p418,f418⟩)] []) 9 153 Tryz.f153 QJ Sw x=aQ5 p27 f27 p25 f25 p354 f354 p381 f381 p430 f430 p396 f396 p402 f402 p422 f422 p423 f423 p431 f431 p407 f407 p408 f408 p411 f411 p413 f413 p19 f19 p21 f21 p432 f432 p433 f433 p414 f414 p415 f415 p416 f416 p64 f64 p112 f112 p434 f434 p418 f418:=by kernel_rfl
def aHd(x:DenS QJ):Option (DenS Sw):=aQ5 FK.pre FK.F Nx.pre Nx.F Ny.pre Ny.F Nz.pre Nz.F nG.pre nG.F ZX.pre ZX.F ZY.pre ZY.F Z8.pre Z8.F Z9.pre Z9.F nH.pre nH.F ZZ.pre ZZ.F Z0.pre Z0.F Z2.pre Z2.F Z3.pre Z3.F ZU.pre ZU.F ZV.pre ZV.F nI.pre nI.F nJ.pre nJ.F Z4.pre Z4.F Z5.pre Z5.F Z6.pre Z6.F Fi.pre Fi.F KE.pre KE.F nK.pre nK.F Z7.pre Z7.F
def Gm:Sum:=Ah QJ Sw aHd (DenS.dflt Sw)
theorem aTS:Sound Tryz.prog G1 153 Gm:=sd (cf [(158,FK),(159,Nx),(160,Ny),(161,Nz),(157,nG),(162,ZX),(164,ZY),(167,Z8),(168,Z9),(166,nH),(169,ZZ),(171,Z0),(173,Z2),(175,Z3),(178,ZU),(179,ZV),(177,nI),(180,nJ),(181,Z4),(183,Z5),(185,Z6),(187,Fi),(188,KE),(186,nK),(189,Z7)] []) 153 Tryz.f153 ⟨zA,aE8,aFc,aFe,aTN,aFf,aFh,aFt,aFu,aTO,aFk,aFl,aFm,aFn,aE6,aE7,aTP,aTQ,aFo,aFp,aFq,nP,yO,aTR,aFr,trivial⟩ trivial QJ Sw aHd _ (fun _=>bEg ..)
abbrev aI4:=Af QJ
abbrev aKI:=Ae QJ Sw
variable (p435:aI4)(f435:aKI)
abbrev QK:Aa:=[(false,Za)]
abbrev Sx:Aa:=[(true,.pair Za (.pair .fn .unit)),(false,Za)]
def YZ(p435:aI4)(f435:aKI)(a0:Ab Za):Option (DenS Sx):=bif(p435 ())then(bif((decide (a0<(1:Int)))||(decide (a0>=((f435 ()).1.length:Int))))then(some (((0:Int),none,()),(190:Int),()))else bif((decide ((0:Int)<=a0))&&(decide (a0<((f435 ()).1.length:Int))))then(some (((f435 ()).1.getD (af a0) ((0:Int),none,())),(0:Int),()))else none)else none
theorem bEh(x:DenS QK):run (cf [(153,⟨QJ,Sw,p435,f435⟩)] []) 9 145 Tryz.f145 QK Sx x=YZ p435 f435 x.1:=by kernel_rfl
def NE(x:DenS QK):Option (DenS Sx):=YZ Gm.pre Gm.F x.1
def NA:Sum:=Ah QK Sx NE (DenS.dflt Sx)
theorem aTT:Sound Tryz.prog G1 145 NA:=sd (cf [(153,Gm)] []) 145 Tryz.f145 ⟨aTS,trivial⟩ trivial QK Sx NE _ (fun _=>bEh ..)
abbrev aI5:=Af QK
abbrev aKJ:=Ae QK Sx
variable (p436:aI5)(f436:aKJ)
abbrev QL:Aa:=[(false,Za),(true,.pair Za (.pair .fn .unit)),(true,Zz)]
abbrev Kc:Aa:=[(false,Za)]
abbrev Ix:Pat:=⟨84,[(43,.one (.v .i64)),(42,.one (.sl Zb)),(44,.one (.v .i64)),(0,.one (.v .i64)),(5,.one (.ptr 1 0))],[.gone,.raw [.v .i64,.v .i64,.v .u64,.v .u64,.v .u64]]⟩
abbrev lE:List (Nat×Shape):=[]
abbrev Of:List (Nat×Pat):=[(1,⟨84,[(0,.one (.v .i64)),(5,.one (.ptr 1 0))],[.gone,.raw [.v .i64,.v .i64,.v .u64,.v .u64,.v .u64]]⟩)]
abbrev Nr:Option Pat:=(some ⟨84,[(6,.one (.v .i64))],[]⟩)
variable (w437_13:Pat.D Ix->Option (Ad Of Nr))
def Yl(p69:BV)(f69:BW)(p66:B9)(f66:Ca){R:Type}(L:Pat.D Ix->Option R)(e:Ad Of Nr->Option R)(x:Pat.D Ix):Option R:=let e2_:=(x.2.2.1.2.1,(x.1.2.1.getD (af x.1.2.2.1) (0:Int)),());let e1_:=(f66 e2_);bif(decide (x.1.2.2.1<x.1.1))then(bif((decide ((0:Int)<=x.1.2.2.1))&&(decide (x.1.2.2.1<(x.1.2.1.length:Int))))then(bif(p66 e2_)then(bif(e1_.1 !=(0:Int))then(((e (.inr (e1_,())))))else(L ((x.1.1,x.1.2.1,(aa .i64 (x.1.2.2.1+(1:Int))),x.1.2.2.2.1,(),()),(),x.2.2)))else none)else none)else(e (.inl ((x.1.2.2.2.1,(),()),(),x.2.2)))
theorem bGu(d:Nat)(R:Type)(L:Pat.D Ix->Option R)(e:Ad Of Nr->Option R)(x:Pat.D Ix):
  Br (cf [(71,⟨B7,B8,p69,f69⟩),(85,⟨Cq,Cr,p66,f66⟩)] [(146,13,LoopSpec.of Ix lE Of Nr w437_13)]) (d+2) 146 (Bq Tryz.f146 13) Ix lE Of Nr (R:=R) L e x=Yl p69 f69 p66 f66 L e x:=by kernel_rfl
theorem aN5(p69:BV)(f69:BW)(p66:B9)(f66:Ca):Bo fun L e x=>Yl p69 f69 p66 f66 L e x:=by intro _ _ _ _ _ _ _ h0 hL he _;unfold Yl;repeat' (first|exact h0|exact hL _|exact he _|apply BB|(apply BC h0;intro _)|(apply BD<;>intro _))
def wF(p69:BV)(f69:BW)(p66:B9)(f66:Ca)(w437_13:Pat.D Ix->Option (Ad Of Nr))(a0:Ab Za)(a1:Ab (.pair Za (.pair .fn .unit)))(a2:Ab Zz):Option (DenS Kc):=
 let e4_:=(a2.2.2.1::(a2.2.2.2.1::(a2.2.2.2.2.1::[])))
 let e3_:=((e4_.take (af a1.1)).drop (af (0:Int)))
 let e1_:=(w437_13 (((e3_.length:Int),e3_,(0:Int),a0,(),()),(),(a2.1,a2.2),()))
 let e2_:=((decide ((0:Int)<=a1.1))&&(decide (a1.1<=(e4_.length:Int))))
 let g1_:Option (DenS Kc):=bif(decide (a2.2.2.2.2.1>(3:Int)))then(some ((9:Int),()))
 else bif e2_ then(Vx.Ba e1_ fun y7=>
 Vx.A9 y7 (fun y8=>
 bif(y8.1.1==(12:Int))then(bif((((aa .i64 y8.2.2.1.2.2.2.2.1)==(0:Int))&&((aa .u64 (aa .i64 (aa .i32 y8.2.2.1.2.2.1)))!=y8.2.2.1.2.2.1))||(((aa .i64 y8.2.2.1.2.2.2.2.1)==(2:Int))&&((AL .u64 y8.2.2.1.2.2.1 (32:Int))!=(0:Int))))then(some ((4:Int),()))
 else some ((0:Int),()))
 else some ((0:Int),())) (fun z8=>
 some z8.1))
 else none
 let g2_:Option (DenS Kc):=bif e2_ then(Vx.Ba e1_ fun y6=>
 Vx.A9 y6 (fun y7=>
 bif(y7.1.1==(12:Int))then(bif((((aa .i64 y7.2.2.1.2.2.2.2.1)==(0:Int))&&((aa .u64 (aa .i64 (aa .i32 y7.2.2.1.2.2.1)))!=y7.2.2.1.2.2.1))||(((aa .i64 y7.2.2.1.2.2.2.2.1)==(2:Int))&&((AL .u64 y7.2.2.1.2.2.1 (32:Int))!=(0:Int))))then(some ((4:Int),()))
 else some ((0:Int),()))
 else some ((0:Int),())) (fun z7=>
 some z7.1))
 else none
 bif(p69 (a2.2.1,()))then(bif((f69 (a2.2.1,())).2.1 !=(0:Int))then(some (f69 (a2.2.1,())).2)
 else bif(a0==(10:Int))then(bif(decide (a2.2.2.2.2.1>(3:Int)))then(some ((2:Int),()))
 else bif e2_ then(Vx.Ba e1_ fun y5=>
 Vx.A9 y5 (fun y6=>
 bif(y6.1.1==(12:Int))then(bif((((aa .i64 y6.2.2.1.2.2.2.2.1)==(0:Int))&&((aa .u64 (aa .i64 (aa .i32 y6.2.2.1.2.2.1)))!=y6.2.2.1.2.2.1))||(((aa .i64 y6.2.2.1.2.2.2.2.1)==(2:Int))&&((AL .u64 y6.2.2.1.2.2.1 (32:Int))!=(0:Int))))then(some ((4:Int),()))
 else some ((0:Int),()))
 else some ((0:Int),())) (fun z6=>
 some z6.1))
 else none)
 else bif(a0==(11:Int))then(bif(a0==(11:Int))then(g1_)
 else g2_)
 else bif(a0==(12:Int))then(g1_)
 else g2_)
 else none
theorem bEi(x:DenS QL):run (cf [(71,⟨B7,B8,p69,f69⟩),(85,⟨Cq,Cr,p66,f66⟩)] [(146,13,LoopSpec.of Ix lE Of Nr w437_13)]) 9 146 Tryz.f146 QL Kc x=wF p69 f69 p66 f66 w437_13 x.1 x.2.1 x.2.2.1:=by kernel_rfl
def oT:Ix.D->Option (Ad Of Nr):=Bf fun L=>Yl Aq.pre Aq.F Au.pre Au.F L some
def cJ(x:DenS QL):Option (DenS Kc):=wF Aq.pre Aq.F Au.pre Au.F oT x.1 x.2.1 x.2.2.1
def Tr:Sum:=Ah QL Kc cJ (DenS.dflt Kc)
theorem aTU:Sound Tryz.prog G1 146 Tr:=sd (cf [(71,Aq),(85,Au)] [(146,13,LoopSpec.of Ix lE Of Nr oT)]) 146 Tryz.f146 ⟨DC,FM,trivial⟩ ⟨rfl,fun d=>BA (fun L e x=>Yl Aq.pre Aq.F Au.pre Au.F L e x) (aN5 Aq.pre Aq.F Au.pre Au.F) (fun _ _ _ _=>bGu ..),trivial⟩ QL Kc cJ _ (fun _=>bEi ..)
abbrev aI6:=Af QL
abbrev aKK:=Ae QL Kc
variable (p437:aI6)(f437:aKK)
abbrev QM:Aa:=[(true,Zp),(false,Za),(false,Za),(false,Zb),(false,Zb),(false,Zb)]
abbrev Sy:Aa:=[(true,.pair Zb (.pair Za (.pair Za (.pair Zp .unit)))),(false,Za)]
def wG(p429:aIX)(f429:aKB)(p436:aI5)(f436:aKJ)(p437:aI6)(f437:aKK)(p100001:aHS)(f100001:aJw)(a0:Ab Zp)(a1 a2:Ab Za)(a3 a4 a5:Ab Zb):Option (DenS Sy):=let e5_:=(f100001 (f436 (a1,())).1.2.1 ((a0.1,a2,a3,a4,a5,()),()));let e1_:=(BN .i64 e5_.2.1 a0.2.2.1);let e2_:=((0:Int),(0:Int),(0:Int),((0:Int),(0:Int),(0:Int),()),());let e6_:=(a1,(f436 (a1,())).1,(a0.1,a2,a3,a4,a5,()),());let e3_:=(f437 e6_);let e4_:=e5_;bif(p429 ((a0.1,a0.2),()))then(bif((f429 ((a0.1,a0.2),())).1 !=(0:Int))then(some (e2_,(f429 ((a0.1,a0.2),()))))else bif(p436 (a1,()))then(bif((f436 (a1,())).2.1 !=(0:Int))then(some (e2_,(f436 (a1,())).2))else bif(p437 e6_)then(bif(e3_.1 !=(0:Int))then(some (e2_,e3_))else bif(p100001 (f436 (a1,())).1.2.1 ((a0.1,a2,a3,a4,a5,()),()))then(bif(e4_.2.2.1 !=(0:Int))then(some (e2_,e4_.2.2))else bif(e1_ !=(0:Int))then(some (((0:Int),e4_.2.1,(BN .i64 e1_ (aa .i64 ((0:Int)-e1_))),(a0.1,a0.2),()),(0:Int),()))else some ((e4_.1,e4_.2.1,(0:Int),(a0.1,(Ai .i64 a0.2.1 e4_.2.1),a0.2.2),()),(0:Int),()))else none)else none)else none)else none
theorem bEj(x:DenS QM):run ({cf [(144,⟨QC,So,p429,f429⟩),(145,⟨QK,Sx,p436,f436⟩),(146,⟨QL,Kc,p437,f437⟩)] []with fns:=[(57,⟨EF,Ee,p100001,f100001⟩)] }) 9 125 Tryz.f125 QM Sy x=wG p429 f429 p436 f436 p437 f437 p100001 f100001 x.1 x.2.1 x.2.2.1 x.2.2.2.1 x.2.2.2.2.1 x.2.2.2.2.2.1:=by kernel_rfl
def TM(x:DenS QM):Option (DenS Sy):=wG Tq.pre Tq.F NA.pre NA.F Tr.pre Tr.F KC.pre KC.F x.1 x.2.1 x.2.2.1 x.2.2.2.1 x.2.2.2.2.1 x.2.2.2.2.2.1
def Tt:Sum:=Ah QM Sy TM (DenS.dflt Sy)
theorem aTV:Sound Tryz.prog G1 125 Tt:=sd ({cf [(144,Tq),(145,NA),(146,Tr)] []with fns:=[(57,KC)] }) 125 Tryz.f125 ⟨aTM,aTT,aTU,trivial⟩ trivial QM Sy TM _ (fun _=>bEj ..) (hfs:=⟨aSA,trivial⟩)
abbrev aI7:=Af QM
abbrev aKL:=Ae QM Sy
variable (p438:aI7)(f438:aKL)
abbrev HK:Aa:=[(false,Za),(false,Zb),(false,Zb)]
abbrev HX:Aa:=[(false,Zb)]
abbrev Ff:LK:=.ref Zp
def wH(p438:aI7)(f438:aKL)(l0:LK.D (.ref Zp))(a0:Ab Za)(a1 a2:Ab Zb):Option (LK.B Ff×DenS HX):=let e2_:=((l0.2.1,(0:Int),(0:Int),()),a0,l0.1,a1,a2,(0:Int),());let e1_:=(f438 e2_);bif(p438 e2_)then(some ((l0.1,l0.2.1,(Ai .i64 l0.2.2.1 e1_.1.2.1),()),e1_.1.1,()))else none
theorem bEk(x:LK.D Ff×DenS HK):C2 (cf [(125,⟨QM,Sy,p438,f438⟩)] []) 9 106 Tryz.f106 Ff HK HX x=wH p438 f438 x.1 x.2.1 x.2.2.1 x.2.2.2.1:=by kernel_rfl
def cK(x:LK.D Ff×DenS HK):Option (LK.B Ff×DenS HX):=wH Tt.pre Tt.F x.1 x.2.1 x.2.2.1 x.2.2.2.1
def C4:SumL:=C3 Ff HK HX cK (LK.dflt Ff,DenS.dflt HX)
theorem nL:SoundL Tryz.prog G1 106 C4:=Ea (cf [(125,Tt)] []) 106 Tryz.f106 ⟨aTV,trivial⟩ trivial Ff HK HX cK _ (fun _=>bEk ..)
abbrev eN:=LK.D Ff×DenS HK->Bool
abbrev fD:=LK.D Ff×DenS HK->LK.B Ff×DenS HX
variable (p464:eN)(f464:fD)
abbrev LX:Aa:=[(false,Zb),(false,Zb)]
abbrev MB:Aa:=[(false,Zb)]
abbrev F4:LK:=.ref Zp
def wI(p464:eN)(f464:fD)(l0:LK.D (.ref Zp))(a0 a1:Ab Zb):Option (LK.B F4×DenS MB):=bif(p464 ((l0.1,l0.2),(3:Int),a0,a1,()))then(some (f464 ((l0.1,l0.2),(3:Int),a0,a1,())))else none
theorem bEl(x:LK.D F4×DenS LX):C2 ({cf [] []with lsums:=[(106,⟨Ff,HK,HX,p464,f464⟩)] }) 9 79 Tryz.f79 F4 LX MB x=wI p464 f464 x.1 x.2.1 x.2.2.1:=by kernel_rfl
def cL(x:LK.D F4×DenS LX):Option (LK.B F4×DenS MB):=wI C4.pre C4.F x.1 x.2.1 x.2.2.1
def Gn:SumL:=C3 F4 LX MB cL (LK.dflt F4,DenS.dflt MB)
theorem aFv:SoundL Tryz.prog G1 79 Gn:=Ea ({cf [] []with lsums:=[(106,C4)] }) 79 Tryz.f79 trivial trivial F4 LX MB cL _ (fun _=>bEl ..) (hls:=⟨nL,trivial⟩)
abbrev aAT:=LK.D F4×DenS LX->Bool
abbrev aBA:=LK.D F4×DenS LX->LK.B F4×DenS MB
variable (p465:aAT)(f465:aBA)
abbrev LY:Aa:=[(false,Zb),(false,Zb)]
abbrev MC:Aa:=[(false,Zb)]
abbrev F5:LK:=.ref Zp
def wJ(p464:eN)(f464:fD)(l0:LK.D (.ref Zp))(a0 a1:Ab Zb):Option (LK.B F5×DenS MC):=bif(p464 ((l0.1,l0.2),(2:Int),a0,a1,()))then(some (f464 ((l0.1,l0.2),(2:Int),a0,a1,())))else none
theorem bEm(x:LK.D F5×DenS LY):C2 ({cf [] []with lsums:=[(106,⟨Ff,HK,HX,p464,f464⟩)] }) 9 80 Tryz.f80 F5 LY MC x=wJ p464 f464 x.1 x.2.1 x.2.2.1:=by kernel_rfl
def cM(x:LK.D F5×DenS LY):Option (LK.B F5×DenS MC):=wJ C4.pre C4.F x.1 x.2.1 x.2.2.1
def Gp:SumL:=C3 F5 LY MC cM (LK.dflt F5,DenS.dflt MC)
theorem aFw:SoundL Tryz.prog G1 80 Gp:=Ea ({cf [] []with lsums:=[(106,C4)] }) 80 Tryz.f80 trivial trivial F5 LY MC cM _ (fun _=>bEm ..) (hls:=⟨nL,trivial⟩)
abbrev aAU:=LK.D F5×DenS LY->Bool
abbrev aBB:=LK.D F5×DenS LY->LK.B F5×DenS MC
variable (p466:aAU)(f466:aBB)
abbrev JD:Aa:=[(false,Zb),(false,Zb)]
abbrev Kd:Aa:=[(false,Zb)]
abbrev Fv:LK:=.ref Zp
def wK(p464:eN)(f464:fD)(l0:LK.D (.ref Zp))(a0 a1:Ab Zb):Option (LK.B Fv×DenS Kd):=bif(p464 ((l0.1,l0.2),(1:Int),a0,a1,()))then(some (f464 ((l0.1,l0.2),(1:Int),a0,a1,())))else none
theorem bEn(x:LK.D Fv×DenS JD):C2 ({cf [] []with lsums:=[(106,⟨Ff,HK,HX,p464,f464⟩)] }) 9 76 Tryz.f76 Fv JD Kd x=wK p464 f464 x.1 x.2.1 x.2.2.1:=by kernel_rfl
def cN(x:LK.D Fv×DenS JD):Option (LK.B Fv×DenS Kd):=wK C4.pre C4.F x.1 x.2.1 x.2.2.1
def Ei:SumL:=C3 Fv JD Kd cN (LK.dflt Fv,DenS.dflt Kd)
theorem zG:SoundL Tryz.prog G1 76 Ei:=Ea ({cf [] []with lsums:=[(106,C4)] }) 76 Tryz.f76 trivial trivial Fv JD Kd cN _ (fun _=>bEn ..) (hls:=⟨nL,trivial⟩)
abbrev pJ:=LK.D Fv×DenS JD->Bool
abbrev qG:=LK.D Fv×DenS JD->LK.B Fv×DenS Kd
variable (p467:pJ)(f467:qG)
abbrev QN:Aa:=[(true,Zj),(true,Zj)]
abbrev Sz:Aa:=[(true,Zj)]
abbrev GI:LK:=.ref Zp
def wL(p465:aAT)(f465:aBA)(p466:aAU)(f466:aBB)(p467:pJ)(f467:qG)(l0:LK.D (.ref Zp))(a0 a1:Ab Zj):Option (LK.B GI×DenS Sz):=let e10_:=((f465 ((l0.1,l0.2),a0.1,a1.1,())).1,a0.2.1,a1.2);let e9_:=(f465 e10_);let e8_:=(f465 (e9_.1,a0.1,a1.2));let e7_:=(f465 (e8_.1,a0.2.1,a1.1,()));let e6_:=(f466 (e7_.1,(f465 ((l0.1,l0.2),a0.1,a1.1,())).2.1,e9_.2));let e1_:=(f467 (e6_.1,e8_.2.1,e7_.2));let e2_:=e6_;let e3_:=e7_;let e4_:=e8_;let e5_:=e9_;bif(p465 ((l0.1,l0.2),a0.1,a1.1,()))then(bif(p465 e10_)then(bif(p465 (e5_.1,a0.1,a1.2))then(bif(p465 (e4_.1,a0.2.1,a1.1,()))then(bif(p466 (e3_.1,(f465 ((l0.1,l0.2),a0.1,a1.1,())).2.1,e5_.2))then(bif(p467 (e2_.1,e4_.2.1,e3_.2))then(some (e1_.1,(e2_.2.1,e1_.2),()))else none)else none)else none)else none)else none)else none
theorem bEo(x:LK.D GI×DenS QN):C2 ({cf [] []with lsums:=[(79,⟨F4,LX,MB,p465,f465⟩),(80,⟨F5,LY,MC,p466,f466⟩),(76,⟨Fv,JD,Kd,p467,f467⟩)] }) 9 42 Tryz.f42 GI QN Sz x=wL p465 f465 p466 f466 p467 f467 x.1 x.2.1 x.2.2.1:=by kernel_rfl
def cP(x:LK.D GI×DenS QN):Option (LK.B GI×DenS Sz):=wL Gn.pre Gn.F Gp.pre Gp.F Ei.pre Ei.F x.1 x.2.1 x.2.2.1
def Tu:SumL:=C3 GI QN Sz cP (LK.dflt GI,DenS.dflt Sz)
theorem aTX:SoundL Tryz.prog G1 42 Tu:=Ea ({cf [] []with lsums:=[(79,Gn),(80,Gp),(76,Ei)] }) 42 Tryz.f42 trivial trivial GI QN Sz cP _ (fun _=>bEo ..) (hls:=⟨aFv,aFw,zG,trivial⟩)
abbrev aAV:=LK.D GI×DenS QN->Bool
abbrev aBC:=LK.D GI×DenS QN->LK.B GI×DenS Sz
variable (p468:aAV)(f468:aBC)
abbrev JE:Aa:=[(false,Zm)]
abbrev Ke:Aa:=[(false,Za)]
abbrev Fw:LK:=.ref Zp
abbrev Iy:Pat:=⟨32,[(8,.one (.v .i64)),(7,.one (.sl Zj)),(0,.one (.ptr 0 0)),(9,.one (.v .i64))],[.raw [.v .i64,.v .i64,.v .i64]]⟩
abbrev lF:List (Nat×Shape):=[]
abbrev Og:List (Nat×Pat):=[(0,⟨32,[],[.raw [.v .i64,.v .i64,.v .i64]]⟩)]
abbrev Ns:Option Pat:=(some ⟨32,[(4,.one (.v .i64))],[.raw [.v .i64,.v .i64,.v .i64]]⟩)
variable (w469_2:Pat.D Iy->Option (Ad Og Ns))
def Ym(p66:B9)(f66:Ca){R:Type}(L:Pat.D Iy->Option R)(e:Ad Og Ns->Option R)(x:Pat.D Iy):Option R:=let e4_:=(x.1.2.1.getD (af x.1.2.2.2.1) ((0:Int),(0:Int),()));let e3_:=(x.2.1.1,e4_.1,());let e1_:=((f66 e3_).1 !=(0:Int));let e2_:=(x.2.1.1,e4_.2);bif(decide (x.1.2.2.2.1<x.1.1))then(bif((decide ((0:Int)<=x.1.2.2.2.1))&&(decide (x.1.2.2.2.1<(x.1.2.1.length:Int))))then(bif(p66 e3_)then(bif((p66 e2_)||(!(bif e1_ then false else true)))then(bif(e1_||((f66 e2_).1 !=(0:Int)))then(((e (.inr (((4:Int),()),x.2)))))else(L ((x.1.1,x.1.2.1,(),(aa .i64 (x.1.2.2.2.1+(1:Int))),()),x.2)))else none)else none)else none)else(e (.inl ((),x.2)))
theorem bGv(d:Nat)(R:Type)(L:Pat.D Iy->Option R)(e:Ad Og Ns->Option R)(x:Pat.D Iy):
  Br (cf [(85,⟨Cq,Cr,p66,f66⟩)] [(53,2,LoopSpec.of Iy lF Og Ns w469_2 1)]) (d+2) 53 (Bq Tryz.f53 2) Iy lF Og Ns (R:=R) L e x 1=Ym p66 f66 L e x:=by kernel_rfl
theorem aN6(p66:B9)(f66:Ca):Bo fun L e x=>Ym p66 f66 L e x:=by intro _ _ _ _ _ _ _ h0 hL he _;unfold Ym;repeat' (first|exact h0|exact hL _|exact he _|apply BB|(apply BC h0;intro _)|(apply BD<;>intro _))
def wM(p66:B9)(f66:Ca)(w469_2:Pat.D Iy->Option (Ad Og Ns))(l0:LK.D (.ref Zp))(a0:Ab Zm):Option (LK.B Fw×DenS Ke):=
 Vx.Ba (w469_2 (((a0.length:Int),a0,(),(0:Int),()),(l0.1,l0.2),())) fun y0=>
 Vx.A9 y0 (fun y1=>
 some (y1.2.1,(0:Int),())) (fun z1=>
 some (z1.2.1,z1.1))
theorem bEp(x:LK.D Fw×DenS JE):C2 (cf [(85,⟨Cq,Cr,p66,f66⟩)] [(53,2,LoopSpec.of Iy lF Og Ns w469_2 1)]) 9 53 Tryz.f53 Fw JE Ke x=wM p66 f66 w469_2 x.1 x.2.1:=by kernel_rfl
def eE:Iy.D->Option (Ad Og Ns):=Bf fun L=>Ym Au.pre Au.F L some
def TN(x:LK.D Fw×DenS JE):Option (LK.B Fw×DenS Ke):=wM Au.pre Au.F eE x.1 x.2.1
def Ej:SumL:=C3 Fw JE Ke TN (LK.dflt Fw,DenS.dflt Ke)
theorem zH:SoundL Tryz.prog G1 53 Ej:=Ea (cf [(85,Au)] [(53,2,LoopSpec.of Iy lF Og Ns eE 1)]) 53 Tryz.f53 ⟨FM,trivial⟩ ⟨rfl,fun d=>BA (fun L e x=>Ym Au.pre Au.F L e x) (aN6 Au.pre Au.F) (fun _ _ _ _=>bGv ..),trivial⟩ Fw JE Ke TN _ (fun _=>bEp ..)
abbrev eO:=LK.D Fw×DenS JE->Bool
abbrev fE:=LK.D Fw×DenS JE->LK.B Fw×DenS Ke
variable (p469:eO)(f469:fE)
abbrev JF:Aa:=[(false,Za),(false,Za),(true,Zj),(true,Zj)]
abbrev Kf:Aa:=[(true,Zj),(false,Za),(false,Za)]
def wN(p468:aAV)(f468:aBC)(p69:BV)(f69:BW)(p469:eO)(f469:fE)(a0 a1:Ab Za)(a2 a3:Ab Zj):Option (DenS Kf):=let e4_:=((a0,a1,(0:Int),()),((a2.1,a2.2)::((a3.1,a3.2)::[])),());let e3_:=(f469 e4_);let e1_:=(f468 (e3_.1,(a2.1,a2.2),(a3.1,a3.2),()));let e2_:=e3_;bif(p69 (a0,()))then(bif((f69 (a0,())).2.1 !=(0:Int))then(bif((f69 (a0,())).2.1 !=(0:Int))then(some (((0:Int),(0:Int),()),(0:Int),(f69 (a0,())).2))else none)else bif((decide (a1<(0:Int)))||(decide (a1>(5:Int))))then(some (((0:Int),(0:Int),()),(0:Int),(3:Int),()))else bif(p469 e4_)then(bif(e2_.2.1 !=(0:Int))then(some (((0:Int),(0:Int),()),(0:Int),e2_.2))else bif(p468 (e2_.1,(a2.1,a2.2),(a3.1,a3.2),()))then(some (e1_.2.1,e1_.1.2.2.1,(0:Int),()))else none)else none)else none
theorem bEr(x:DenS JF):run ({cf [(71,⟨B7,B8,p69,f69⟩)] []with lsums:=[(42,⟨GI,QN,Sz,p468,f468⟩),(53,⟨Fw,JE,Ke,p469,f469⟩)] }) 9 13 Tryz.f13 JF Kf x=wN p468 f468 p69 f69 p469 f469 x.1 x.2.1 x.2.2.1 x.2.2.2.1:=by kernel_rfl
def UY(x:DenS JF):Option (DenS Kf):=wN Tu.pre Tu.F Aq.pre Aq.F Ej.pre Ej.F x.1 x.2.1 x.2.2.1 x.2.2.2.1
def Do:Sum:=Ah JF Kf UY (DenS.dflt Kf)
theorem aFx:Sound Tryz.prog G1 13 Do:=sd ({cf [(71,Aq)] []with lsums:=[(42,Tu),(53,Ej)] }) 13 Tryz.f13 ⟨DC,trivial⟩ trivial JF Kf UY _ (fun _=>bEr ..) (hls:=⟨aTX,zH,trivial⟩)
abbrev Vb:=Af JF
abbrev Vp:=Ae JF Kf
variable (p470:Vb)(f470:Vp)
abbrev QO:Aa:=[(false,Zb),(false,Zb)]
abbrev SA:Aa:=[(false,Zb)]
abbrev GJ:LK:=.ref Zp
def wO(p464:eN)(f464:fD)(l0:LK.D (.ref Zp))(a0 a1:Ab Zb):Option (LK.B GJ×DenS SA):=bif(p464 ((l0.1,l0.2),(4:Int),a0,a1,()))then(some (f464 ((l0.1,l0.2),(4:Int),a0,a1,())))else none
theorem bEs(x:LK.D GJ×DenS QO):C2 ({cf [] []with lsums:=[(106,⟨Ff,HK,HX,p464,f464⟩)] }) 9 83 Tryz.f83 GJ QO SA x=wO p464 f464 x.1 x.2.1 x.2.2.1:=by kernel_rfl
def cQ(x:LK.D GJ×DenS QO):Option (LK.B GJ×DenS SA):=wO C4.pre C4.F x.1 x.2.1 x.2.2.1
def Tv:SumL:=C3 GJ QO SA cQ (LK.dflt GJ,DenS.dflt SA)
theorem aTY:SoundL Tryz.prog G1 83 Tv:=Ea ({cf [] []with lsums:=[(106,C4)] }) 83 Tryz.f83 trivial trivial GJ QO SA cQ _ (fun _=>bEs ..) (hls:=⟨nL,trivial⟩)
abbrev aI8:=LK.D GJ×DenS QO->Bool
abbrev aKM:=LK.D GJ×DenS QO->LK.B GJ×DenS SA
variable (p471:aI8)(f471:aKM)
abbrev QP:Aa:=[(true,Zj),(true,Zj)]
abbrev SD:Aa:=[(true,Zj)]
abbrev GK:LK:=.ref Zp
def wP(p467:pJ)(f467:qG)(p465:aAT)(f465:aBA)(p466:aAU)(f466:aBB)(p471:aI8)(f471:aKM)(l0:LK.D (.ref Zp))(a0 a1:Ab Zj):Option (LK.B GK×DenS SD):=let c1_:=(f465 ((l0.1,l0.2),a1.1,a1.1,()));let c2_:=(f465 (c1_.1,a1.2.1,a1.2));let c3_:=(f467 (c2_.1,c1_.2.1,c2_.2));let c4_:=(f465 (c3_.1,a0.1,a1.1,()));let c5_:=(f465 (c4_.1,a0.2.1,a1.2));let c6_:=(f467 (c5_.1,c4_.2.1,c5_.2));let c7_:=(f465 (c6_.1,a0.2.1,a1.1,()));let c8_:=(f465 (c7_.1,a0.1,a1.2));let c9_:=(f466 (c8_.1,c7_.2.1,c8_.2));let c10_:=(f471 (c9_.1,c6_.2.1,c3_.2));let c11_:=(f471 (c10_.1,c9_.2.1,c3_.2));bif(p465 ((l0.1,l0.2),a1.1,a1.1,()))then(bif(p465 (c1_.1,a1.2.1,a1.2))then(bif(p467 (c2_.1,c1_.2.1,c2_.2))then(bif(p465 (c3_.1,a0.1,a1.1,()))then(bif(p465 (c4_.1,a0.2.1,a1.2))then(bif(p467 (c5_.1,c4_.2.1,c5_.2))then(bif(p465 (c6_.1,a0.2.1,a1.1,()))then(bif(p465 (c7_.1,a0.1,a1.2))then(bif(p466 (c8_.1,c7_.2.1,c8_.2))then(bif(p471 (c9_.1,c6_.2.1,c3_.2))then(bif(p471 (c10_.1,c9_.2.1,c3_.2))then(some (c11_.1,(c10_.2.1,c11_.2),()))else none)else none)else none)else none)else none)else none)else none)else none)else none)else none)else none
theorem bEt(x:LK.D GK×DenS QP):C2 ({cf [] []with lsums:=[(76,⟨Fv,JD,Kd,p467,f467⟩),(79,⟨F4,LX,MB,p465,f465⟩),(80,⟨F5,LY,MC,p466,f466⟩),(83,⟨GJ,QO,SA,p471,f471⟩)] }) 9 45 Tryz.f45 GK QP SD x=wP p467 f467 p465 f465 p466 f466 p471 f471 x.1 x.2.1 x.2.2.1:=by kernel_rfl
def cR(x:LK.D GK×DenS QP):Option (LK.B GK×DenS SD):=wP Ei.pre Ei.F Gn.pre Gn.F Gp.pre Gp.F Tv.pre Tv.F x.1 x.2.1 x.2.2.1
def Tw:SumL:=C3 GK QP SD cR (LK.dflt GK,DenS.dflt SD)
theorem aTZ:SoundL Tryz.prog G1 45 Tw:=Ea ({cf [] []with lsums:=[(76,Ei),(79,Gn),(80,Gp),(83,Tv)] }) 45 Tryz.f45 trivial trivial GK QP SD cR _ (fun _=>bEt ..) (hls:=⟨zG,aFv,aFw,aTY,trivial⟩)
abbrev aI9:=LK.D GK×DenS QP->Bool
abbrev aKN:=LK.D GK×DenS QP->LK.B GK×DenS SD
variable (p472:aI9)(f472:aKN)
abbrev JG:Aa:=[(false,Za),(false,Za),(true,Zj),(true,Zj)]
abbrev Kg:Aa:=[(true,Zj),(false,Za),(false,Za)]
def wQ(p472:aI9)(f472:aKN)(p69:BV)(f69:BW)(p469:eO)(f469:fE)(a0 a1:Ab Za)(a2 a3:Ab Zj):Option (DenS Kg):=let e4_:=((a0,a1,(0:Int),()),((a2.1,a2.2)::((a3.1,a3.2)::[])),());let e3_:=(f469 e4_);let e1_:=(f472 (e3_.1,(a2.1,a2.2),(a3.1,a3.2),()));let e2_:=e3_;bif(p69 (a0,()))then(bif((f69 (a0,())).2.1 !=(0:Int))then(bif((f69 (a0,())).2.1 !=(0:Int))then(some (((0:Int),(0:Int),()),(0:Int),(f69 (a0,())).2))else none)else bif((decide (a1<(0:Int)))||(decide (a1>(5:Int))))then(some (((0:Int),(0:Int),()),(0:Int),(3:Int),()))else bif(p469 e4_)then(bif(e2_.2.1 !=(0:Int))then(some (((0:Int),(0:Int),()),(0:Int),e2_.2))else bif(p472 (e2_.1,(a2.1,a2.2),(a3.1,a3.2),()))then(some (e1_.2.1,e1_.1.2.2.1,(0:Int),()))else none)else none)else none
theorem bEu(x:DenS JG):run ({cf [(71,⟨B7,B8,p69,f69⟩)] []with lsums:=[(45,⟨GK,QP,SD,p472,f472⟩),(53,⟨Fw,JE,Ke,p469,f469⟩)] }) 9 15 Tryz.f15 JG Kg x=wQ p472 f472 p69 f69 p469 f469 x.1 x.2.1 x.2.2.1 x.2.2.2.1:=by kernel_rfl
def UZ(x:DenS JG):Option (DenS Kg):=wQ Tw.pre Tw.F Aq.pre Aq.F Ej.pre Ej.F x.1 x.2.1 x.2.2.1 x.2.2.2.1
def Dp:Sum:=Ah JG Kg UZ (DenS.dflt Kg)
theorem aFy:Sound Tryz.prog G1 15 Dp:=sd ({cf [(71,Aq)] []with lsums:=[(45,Tw),(53,Ej)] }) 15 Tryz.f15 ⟨DC,trivial⟩ trivial JG Kg UZ _ (fun _=>bEu ..) (hls:=⟨aTZ,zH,trivial⟩)
abbrev Vc:=Af JG
abbrev Vq:=Ae JG Kg
variable (p473:Vc)(f473:Vq)
abbrev L3:Aa:=[]
abbrev ME:Aa:=[(false,.bool)]
def wR(p470:Vb)(f470:Vp)(p473:Vc)(f473:Vq):Option (DenS ME):=let e5_:=((1065353216:Int),(1073741824:Int),());let e1_:=(f470 ((2:Int),(0:Int),e5_,e5_,()));let e4_:=(((1065353216:Int),(1065353216:Int),()),());let e2_:=(f473 ((2:Int),(0:Int),e5_,e4_));let e3_:=e5_;bif(p470 ((2:Int),(0:Int),e3_,e3_,()))then(bif(p473 ((2:Int),(0:Int),e3_,e4_))then(bif((((e1_.2.2.1 !=(0:Int))||(e2_.2.2.1 !=(0:Int)))||(e1_.2.1 !=(0:Int)))||(e2_.2.1 !=(0:Int)))then(some (false,()))else some (((((e1_.1.1==(3225419776:Int))&&(e1_.1.2.1==(1082130432:Int)))&&(e2_.1.1==(1069547520:Int)))&&(e2_.1.2.1==(1056964608:Int))),()))else none)else none
theorem bEv(x:DenS L3):run (cf [(13,⟨JF,Kf,p470,f470⟩),(15,⟨JG,Kg,p473,f473⟩)] []) 9 9 Tryz.f9 L3 ME x=wR p470 f470 p473 f473:=by kernel_rfl
def cS(x:DenS L3):Option (DenS ME):=wR Do.pre Do.F Dp.pre Dp.F
def ER:Sum:=Ah L3 ME cS (DenS.dflt ME)
theorem aT0:Sound Tryz.prog G1 9 ER:=sd (cf [(13,Do),(15,Dp)] []) 9 Tryz.f9 ⟨aFx,aFy,trivial⟩ trivial L3 ME cS _ (fun _=>bEv ..)
abbrev Xa:=Af L3
abbrev Xo:=Ae L3 ME
variable (p474:Xa)(f474:Xo)
abbrev QQ:Aa:=[(true,Zj),(true,Zj)]
abbrev SE:Aa:=[(true,Zj)]
abbrev GL:LK:=.ref Zp
def wS(p467:pJ)(f467:qG)(l0:LK.D (.ref Zp))(a0 a1:Ab Zj):Option (LK.B GL×DenS SE):=let e2_:=((f467 ((l0.1,l0.2),a0.1,a1.1,())).1,a0.2.1,a1.2);let e1_:=(f467 e2_);bif(p467 ((l0.1,l0.2),a0.1,a1.1,()))then(bif(p467 e2_)then(some (e1_.1,((f467 ((l0.1,l0.2),a0.1,a1.1,())).2.1,e1_.2),()))else none)else none
theorem bEw(x:LK.D GL×DenS QQ):C2 ({cf [] []with lsums:=[(76,⟨Fv,JD,Kd,p467,f467⟩)] }) 9 38 Tryz.f38 GL QQ SE x=wS p467 f467 x.1 x.2.1 x.2.2.1:=by kernel_rfl
def cT(x:LK.D GL×DenS QQ):Option (LK.B GL×DenS SE):=wS Ei.pre Ei.F x.1 x.2.1 x.2.2.1
def Tx:SumL:=C3 GL QQ SE cT (LK.dflt GL,DenS.dflt SE)
theorem aT1:SoundL Tryz.prog G1 38 Tx:=Ea ({cf [] []with lsums:=[(76,Ei)] }) 38 Tryz.f38 trivial trivial GL QQ SE cT _ (fun _=>bEw ..) (hls:=⟨zG,trivial⟩)
abbrev aAX:=LK.D GL×DenS QQ->Bool
abbrev aBE:=LK.D GL×DenS QQ->LK.B GL×DenS SE
variable (p475:aAX)(f475:aBE)
abbrev L4:Aa:=[(false,Za),(false,Za),(true,Zj),(true,Zj)]
abbrev MF:Aa:=[(true,Zj),(false,Za),(false,Za)]
def wT(p475:aAX)(f475:aBE)(p69:BV)(f69:BW)(p469:eO)(f469:fE)(a0 a1:Ab Za)(a2 a3:Ab Zj):Option (DenS MF):=let e4_:=((a0,a1,(0:Int),()),((a2.1,a2.2)::((a3.1,a3.2)::[])),());let e3_:=(f469 e4_);let e1_:=(f475 (e3_.1,(a2.1,a2.2),(a3.1,a3.2),()));let e2_:=e3_;bif(p69 (a0,()))then(bif((f69 (a0,())).2.1 !=(0:Int))then(bif((f69 (a0,())).2.1 !=(0:Int))then(some (((0:Int),(0:Int),()),(0:Int),(f69 (a0,())).2))else none)else bif((decide (a1<(0:Int)))||(decide (a1>(5:Int))))then(some (((0:Int),(0:Int),()),(0:Int),(3:Int),()))else bif(p469 e4_)then(bif(e2_.2.1 !=(0:Int))then(some (((0:Int),(0:Int),()),(0:Int),e2_.2))else bif(p475 (e2_.1,(a2.1,a2.2),(a3.1,a3.2),()))then(some (e1_.2.1,e1_.1.2.2.1,(0:Int),()))else none)else none)else none
theorem bEx(x:DenS L4):run ({cf [(71,⟨B7,B8,p69,f69⟩)] []with lsums:=[(38,⟨GL,QQ,SE,p475,f475⟩),(53,⟨Fw,JE,Ke,p469,f469⟩)] }) 9 10 Tryz.f10 L4 MF x=wT p475 f475 p69 f69 p469 f469 x.1 x.2.1 x.2.2.1 x.2.2.2.1:=by kernel_rfl
def cU(x:DenS L4):Option (DenS MF):=wT Tx.pre Tx.F Aq.pre Aq.F Ej.pre Ej.F x.1 x.2.1 x.2.2.1 x.2.2.2.1
def ES:Sum:=Ah L4 MF cU (DenS.dflt MF)
theorem aT2:Sound Tryz.prog G1 10 ES:=sd ({cf [(71,Aq)] []with lsums:=[(38,Tx),(53,Ej)] }) 10 Tryz.f10 ⟨DC,trivial⟩ trivial L4 MF cU _ (fun _=>bEx ..) (hls:=⟨aT1,zH,trivial⟩)
abbrev Xb:=Af L4
abbrev Xp:=Ae L4 MF
variable (p476:Xb)(f476:Xp)
abbrev Fe:Aa:=[(false,Za)]
abbrev Fg:Aa:=[(false,Za),(false,Za),(false,Za)]
def xH(a0:Ab Za):Option (DenS Fg):=bif(a0==(0:Int))then(some ((16:Int),(11:Int),(-(14:Int)),()))else bif(a0==(1:Int))then(some ((16:Int),(8:Int),(-(126:Int)),()))else bif(a0==(2:Int))then(some ((32:Int),(24:Int),(-(126:Int)),()))else bif(a0==(3:Int))then(some ((64:Int),(53:Int),(-(1022:Int)),()))else some ((0:Int),(0:Int),(0:Int),())
theorem r67(x:DenS Fe):run (cf [] []) 9 31 Tryz.f31 Fe Fg x=xH x.1:=by kernel_rfl
def WY(x:DenS Fe):Option (DenS Fg):=xH x.1
def B3:Sum:=Ah Fe Fg WY (DenS.dflt Fg)
theorem TF:Sound Tryz.prog G1 31 B3:=sd (cf [] []) 31 Tryz.f31 trivial trivial Fe Fg WY _ (fun _=>r67 ..)
abbrev IJ:=Af Fe
abbrev IN:=Ae Fe Fg
variable (p67:IJ)(f67:IN)
abbrev JM:Aa:=[(false,Za),(false,Za)]
abbrev Kn:Aa:=[(false,Za)]
def xL(p67:IJ)(f67:IN)(a0 a1:Ab Za):Option (DenS Kn):=bif(p67 (a0,()))then(bif((f67 (a0,())).1==(0:Int))then(some ((2:Int),()))else bif((decide (a1<(0:Int)))||(decide (a1>(5:Int))))then(some ((3:Int),()))else some ((0:Int),()))else none
theorem r73(x:DenS JM):run (cf [(31,⟨Fe,Fg,p67,f67⟩)] []) 9 55 Tryz.f55 JM Kn x=xL p67 f67 x.1 x.2.1:=by kernel_rfl
def dP(x:DenS JM):Option (DenS Kn):=xL B3.pre B3.F x.1 x.2.1
def Dq:Sum:=Ah JM Kn dP (DenS.dflt Kn)
theorem aFC:Sound Tryz.prog G1 55 Dq:=sd (cf [(31,B3)] []) 55 Tryz.f55 ⟨TF,trivial⟩ trivial JM Kn dP _ (fun _=>r73 ..)
abbrev Xd:=Af JM
abbrev Xr:=Ae JM Kn
variable (p73:Xd)(f73:Xr)
abbrev HL:Aa:=[(false,Za),(false,Zb)]
abbrev HY:Aa:=[(false,.bool)]
def xI(p67:IJ)(f67:IN)(a0:Ab Za)(a1:Ab Zb):Option (DenS HY):=bif(p67 (a0,()))then(some ((((f67 (a0,())).1==(64:Int))||((AL .u64 a1 (aa .u64 (f67 (a0,())).1))==(0:Int))),()))else none
theorem r68(x:DenS HL):run (cf [(31,⟨Fe,Fg,p67,f67⟩)] []) 9 77 Tryz.f77 HL HY x=xI p67 f67 x.1 x.2.1:=by kernel_rfl
def dM(x:DenS HL):Option (DenS HY):=xI B3.pre B3.F x.1 x.2.1
def CL:Sum:=Ah HL HY dM (DenS.dflt HY)
theorem zM:Sound Tryz.prog G1 77 CL:=sd (cf [(31,B3)] []) 77 Tryz.f77 ⟨TF,trivial⟩ trivial HL HY dM _ (fun _=>r68 ..)
abbrev Vf:=Af HL
abbrev Vt:=Ae HL HY
variable (p68:Vf)(f68:Vt)
abbrev JH:Aa:=[(false,Za),(false,Za),(false,Zm)]
abbrev Kh:Aa:=[(false,Za)]
abbrev Iz:Pat:=⟨39,[(0,.one (.v .i64)),(2,.one (.sl Zj)),(8,.one (.v .i64))],[]⟩
abbrev lG:List (Nat×Shape):=[]
abbrev Oh:List (Nat×Pat):=[(0,⟨39,[],[]⟩)]
abbrev Nt:Option Pat:=(some ⟨39,[(6,.one (.v .i64))],[]⟩)
variable (w477_5:Pat.D Iz->Option (Ad Oh Nt))
def Yn(p73:Xd)(f73:Xr)(p68:Vf)(f68:Vt){R:Type}(L:Pat.D Iz->Option R)(e:Ad Oh Nt->Option R)(x:Pat.D Iz):Option R:=let e6_:=(x.1.2.1.getD (af x.1.2.2.1) ((0:Int),(0:Int),()));let e5_:=(x.1.1,e6_.1,());let e1_:=(!(bif(!(f68 e5_).1)then false else true));let e2_:=((decide ((0:Int)<=x.1.2.2.1))&&(decide (x.1.2.2.1<(x.1.2.1.length:Int))));let e3_:=e5_;let e4_:=(x.1.1,e6_.2);bif(decide (x.1.2.2.1<(x.1.2.1.length:Int)))then(bif e2_ then(bif(p68 e3_)then(bif(e2_||e1_)then(bif((p68 e4_)||e1_)then(bif((!(f68 e3_).1)||(!(f68 e4_).1))then(((e (.inr (((4:Int),()),())))))else(L ((x.1.1,x.1.2.1,(aa .i64 (x.1.2.2.1+(1:Int))),()),())))else none)else none)else none)else none)else(e (.inl ((),())))
theorem bGw(d:Nat)(R:Type)(L:Pat.D Iz->Option R)(e:Ad Oh Nt->Option R)(x:Pat.D Iz):
  Br (cf [(55,⟨JM,Kn,p73,f73⟩),(77,⟨HL,HY,p68,f68⟩)] [(39,5,LoopSpec.of Iz lG Oh Nt w477_5)]) (d+2) 39 (Bq Tryz.f39 5) Iz lG Oh Nt (R:=R) L e x=Yn p73 f73 p68 f68 L e x:=by kernel_rfl
theorem aN7(p73:Xd)(f73:Xr)(p68:Vf)(f68:Vt):Bo fun L e x=>Yn p73 f73 p68 f68 L e x:=by intro _ _ _ _ _ _ _ h0 hL he _;unfold Yn;repeat' (first|exact h0|exact hL _|exact he _|apply BB|(apply BC h0;intro _)|(apply BD<;>intro _))
def wU(p73:Xd)(f73:Xr)(p68:Vf)(f68:Vt)(w477_5:Pat.D Iz->Option (Ad Oh Nt))(a0 a1:Ab Za)(a2:Ab Zm):Option (DenS Kh):=
 bif(p73 (a0,a1,()))then(bif((f73 (a0,a1,())).1 !=(0:Int))then(some (f73 (a0,a1,())))
 else Vx.Ba (w477_5 ((a0,a2,(0:Int),()),())) fun y2=>
 Vx.A9 y2 (fun y3=>
 some ((0:Int),())) (fun z3=>
 some z3.1))
 else none
theorem bEy(x:DenS JH):run (cf [(55,⟨JM,Kn,p73,f73⟩),(77,⟨HL,HY,p68,f68⟩)] [(39,5,LoopSpec.of Iz lG Oh Nt w477_5)]) 9 39 Tryz.f39 JH Kh x=wU p73 f73 p68 f68 w477_5 x.1 x.2.1 x.2.2.1:=by kernel_rfl
def oU:Iz.D->Option (Ad Oh Nt):=Bf fun L=>Yn Dq.pre Dq.F CL.pre CL.F L some
def TO(x:DenS JH):Option (DenS Kh):=wU Dq.pre Dq.F CL.pre CL.F oU x.1 x.2.1 x.2.2.1
def Ek:Sum:=Ah JH Kh TO (DenS.dflt Kh)
theorem zI:Sound Tryz.prog G1 39 Ek:=sd (cf [(55,Dq),(77,CL)] [(39,5,LoopSpec.of Iz lG Oh Nt oU)]) 39 Tryz.f39 ⟨aFC,zM,trivial⟩ ⟨rfl,fun d=>BA (fun L e x=>Yn Dq.pre Dq.F CL.pre CL.F L e x) (aN7 Dq.pre Dq.F CL.pre CL.F) (fun _ _ _ _=>bGw ..),trivial⟩ JH Kh TO _ (fun _=>bEy ..)
abbrev eP:=Af JH
abbrev fF:=Ae JH Kh
variable (p477:eP)(f477:fF)
abbrev CV:Aa:=[(false,Ze)]
abbrev CW:Aa:=[(false,Ze)]
abbrev Ib:Pat:=⟨21,[(0,.one (.sl Zb)),(3,.one (.v .i64))],[]⟩
abbrev kK:List (Nat×Shape):=[]
abbrev NS:List (Nat×Pat):=[(0,⟨21,[(0,.one (.sl Zb)),(3,.one (.v .i64))],[]⟩)]
abbrev M4:Option Pat:=none
variable (w158_2:Pat.D Ib->Option (Ad NS M4))
def X3{R:Type}(L:Pat.D Ib->Option R)(e:Ad NS M4->Option R)(x:Pat.D Ib):Option R:=let e1_:=(aa .i64 (x.1.2.1-(1:Int)));bif(((decide ((0:Int)<=e1_))&&(decide (e1_<(x.1.1.length:Int))))||(!(decide (x.1.2.1>(0:Int)))))then(bif((decide (x.1.2.1>(0:Int)))&&((x.1.1.getD (af e1_) (0:Int))==(0:Int)))then(((L ((x.1.1,e1_,()),()))))else(e (.inl (x.1,()))))else none
theorem bF0(d:Nat)(R:Type)(L:Pat.D Ib->Option R)(e:Ad NS M4->Option R)(x:Pat.D Ib):
  Br (cf [] [(105,2,LoopSpec.of Ib kK NS M4 w158_2)]) (d+2) 105 (Bq Tryz.f105 2) Ib kK NS M4 (R:=R) L e x=X3 L e x:=by kernel_rfl
theorem aNN:Bo fun L e x=>X3 L e x:=by intro _ _ _ _ _ _ _ h0 hL he _;unfold X3;repeat' (first|exact h0|exact hL _|exact he _|apply BB|(apply BC h0;intro _)|(apply BD<;>intro _))
def uZ(w158_2:Pat.D Ib->Option (Ad NS M4))(a0:Ab Ze):Option (DenS CW):=
 Vx.Ba (w158_2 ((a0,(a0.length:Int),()),())) fun y0=>
 Vx.A9 y0 (fun y1=>
 bif((decide ((0:Int)<=y1.1.2.1))&&(decide (y1.1.2.1<=(y1.1.1.length:Int))))then(some (((y1.1.1.take (af y1.1.2.1)).drop (af (0:Int))),()))
 else none) (fun z1=>
 none)
theorem bCB(x:DenS CV):run (cf [] [(105,2,LoopSpec.of Ib kK NS M4 w158_2)]) 9 105 Tryz.f105 CV CW x=uZ w158_2 x.1:=by kernel_rfl
def oD:Ib.D->Option (Ad NS M4):=Bf fun L=>X3 L some
def WI(x:DenS CV):Option (DenS CW):=uZ oD x.1
def Ap:Sum:=Ah CV CW WI (DenS.dflt CW)
theorem S3:Sound Tryz.prog G1 105 Ap:=sd (cf [] [(105,2,LoopSpec.of Ib kK NS M4 oD)]) 105 Tryz.f105 trivial ⟨rfl,fun d=>BA (fun L e x=>X3 L e x) (aNN) (fun _ _ _ _=>bF0 ..),trivial⟩ CV CW WI _ (fun _=>bCB ..)
abbrev Cv:=Af CV
abbrev Cw:=Ae CV CW
variable (p158:Cv)(f158:Cw)
abbrev Pj:Aa:=[(false,Ze)]
abbrev Rc:Aa:=[(false,Ze)]
abbrev H4:Pat:=⟨30,[(0,.one (.sl Zb)),(4,.one (.v .i64)),(3,.one (.own 0))],[.acc Zb]⟩
abbrev kC:List (Nat×Shape):=[]
abbrev NK:List (Nat×Pat):=[(0,⟨30,[(3,.one (.own 0))],[.acc Zb]⟩)]
abbrev MW:Option Pat:=none
variable (w125_3:Pat.D H4->Option (Ad NK MW))
def XV(p158:Cv)(f158:Cw){R:Type}(L:Pat.D H4->Option R)(e:Ad NK MW->Option R)(x:Pat.D H4):Option R:=let e1_:=((gj (x.1.1.getD (af x.1.2.1) (0:Int)) (4294967296:Int))::((Bg .u64 (x.1.1.getD (af x.1.2.1) (0:Int)) (4294967296:Int))::[]));let e2_:=((decide ((0:Int)<=x.1.2.1))&&(decide (x.1.2.1<(x.1.1.length:Int))));bif(decide (x.1.2.1<(x.1.1.length:Int)))then(bif e2_ then(bif e2_ then(bif(((Vx.ED (x.2.1.length+e1_.length) 8)&&true)&&true)then(((L ((x.1.1,(aa .i64 (x.1.2.1+(1:Int))),(),()),(x.2.1++e1_),()))))else none)else none)else none)else(e (.inl (((),()),x.2)))
theorem bFS(d:Nat)(R:Type)(L:Pat.D H4->Option R)(e:Ad NK MW->Option R)(x:Pat.D H4):
  Br (cf [(105,⟨CV,CW,p158,f158⟩)] [(74,3,LoopSpec.of H4 kC NK MW w125_3)]) (d+2) 74 (Bq Tryz.f74 3) H4 kC NK MW (R:=R) L e x=XV p158 f158 L e x:=by kernel_rfl
theorem aNF(p158:Cv)(f158:Cw):Bo fun L e x=>XV p158 f158 L e x:=by intro _ _ _ _ _ _ _ h0 hL he _;unfold XV;repeat' (first|exact h0|exact hL _|exact he _|apply BB|(apply BC h0;intro _)|(apply BD<;>intro _))
def uG(p158:Cv)(f158:Cw)(w125_3:Pat.D H4->Option (Ad NK MW))(a0:Ab Ze):Option (DenS Rc):=
 let e1_:=(aa .i64 ((2:Int)*(a0.length:Int)))
 bif((decide ((0:Int)<=e1_))&&(decide ((e1_*(8:Int))<=(140737488355328:Int))))then(Vx.Ba (w125_3 ((a0,(0:Int),(),()),(aq (af (0:Int)) (0:Int)),())) fun y1=>
 Vx.A9 y1 (fun y2=>
 bif(p158 y2.2)then(some (f158 y2.2))
 else none) (fun z2=>
 none))
 else none
theorem bCe(x:DenS Pj):run (cf [(105,⟨CV,CW,p158,f158⟩)] [(74,3,LoopSpec.of H4 kC NK MW w125_3)]) 9 74 Tryz.f74 Pj Rc x=uG p158 f158 w125_3 x.1:=by kernel_rfl
def n7:H4.D->Option (Ad NK MW):=Bf fun L=>XV Ap.pre Ap.F L some
def WE(x:DenS Pj):Option (DenS Rc):=uG Ap.pre Ap.F n7 x.1
def SZ:Sum:=Ah Pj Rc WE (DenS.dflt Rc)
theorem aSN:Sound Tryz.prog G1 74 SZ:=sd (cf [(105,Ap)] [(74,3,LoopSpec.of H4 kC NK MW n7)]) 74 Tryz.f74 ⟨S3,trivial⟩ ⟨rfl,fun d=>BA (fun L e x=>XV Ap.pre Ap.F L e x) (aNF Ap.pre Ap.F) (fun _ _ _ _=>bFS ..),trivial⟩ Pj Rc WE _ (fun _=>bCe ..)
abbrev aH2:=Af Pj
abbrev aJG:=Ae Pj Rc
variable (p125:aH2)(f125:aJG)
abbrev JN:Aa:=[(false,Za),(false,Zb)]
abbrev Ko:Aa:=[(true,ZE)]
def xM(p67:IJ)(f67:IN)(p125:aH2)(f125:aJG)(a0:Ab Za)(a1:Ab Zb):Option (DenS Ko):=let e11_:=(aa .u64 (aa .i64 ((f67 (a0,())).2.1-(1:Int))));let e9_:=(Be .u64 (1:Int) e11_);let e8_:=(BN .u64 a1 (aa .u64 (e9_-(1:Int))));let e1_:=(((aa .u64 (e8_+e9_))::[]),());let e10_:=(aa .u64 (aa .i64 ((f67 (a0,())).1-(f67 (a0,())).2.1)));let e2_:=(aa .i64 (BN .u64 (AL .u64 a1 e11_) (aa .u64 ((Be .u64 (1:Int) e10_)-(1:Int)))));let e3_:=(e8_ !=(0:Int));let e4_:=((e8_::[]),());let e5_:=e8_;let e6_:=((BN .u64 (AL .u64 a1 (aa .u64 (aa .i64 ((f67 (a0,())).1-(1:Int))))) (1:Int))==(1:Int));let e7_:=(aa .i64 ((aa .i64 ((f67 (a0,())).2.2.1-(f67 (a0,())).2.1))+(1:Int)));bif(p67 (a0,()))then(bif(e2_==(aa .i64 ((Be .i64 (1:Int) e10_)-(1:Int))))then(some ((e3_,(e3_&&((AL .u64 e5_ (aa .u64 (aa .i64 ((f67 (a0,())).2.1-(2:Int)))))==(0:Int))),(e5_==(0:Int)),e6_,(false,[],(0:Int),()),()),()))else bif(decide (e2_>(0:Int)))then(bif(p125 e1_)then(some ((false,false,false,e6_,(e6_,(f125 e1_).1,(aa .i64 (e7_+(aa .i64 (e2_-(1:Int))))),()),()),()))else none)else bif(p125 e4_)then(some ((false,false,false,e6_,(e6_,(f125 e4_).1,e7_,()),()),()))else none)else none
theorem r74(x:DenS JN):run (cf [(31,⟨Fe,Fg,p67,f67⟩),(74,⟨Pj,Rc,p125,f125⟩)] []) 9 33 Tryz.f33 JN Ko x=xM p67 f67 p125 f125 x.1 x.2.1:=by kernel_rfl
def W1(x:DenS JN):Option (DenS Ko):=xM B3.pre B3.F SZ.pre SZ.F x.1 x.2.1
def Em:Sum:=Ah JN Ko W1 (DenS.dflt Ko)
theorem zN:Sound Tryz.prog G1 33 Em:=sd (cf [(31,B3),(74,SZ)] []) 33 Tryz.f33 ⟨TF,aSN,trivial⟩ trivial JN Ko W1 _ (fun _=>r74 ..)
abbrev Xe:=Af JN
abbrev Xs:=Ae JN Ko
variable (p74:Xe)(f74:Xs)
abbrev JO:Aa:=[(false,Za)]
abbrev Kp:Aa:=[(false,Zb)]
def t75(p67:IJ)(f67:IN)(a0:Ab Za):Option (DenS Kp):=bif(p67 (a0,()))then(some ((aa .u64 ((Be .u64 (1:Int) (aa .u64 (aa .i64 ((f67 (a0,())).1-(1:Int)))))-(Be .u64 (1:Int) (aa .u64 (aa .i64 ((f67 (a0,())).2.1-(2:Int))))))),()))else none
theorem r75(x:DenS JO):run (cf [(31,⟨Fe,Fg,p67,f67⟩)] []) 9 86 Tryz.f86 JO Kp x=t75 p67 f67 x.1:=by kernel_rfl
def dQ(x:DenS JO):Option (DenS Kp):=t75 B3.pre B3.F x.1
def En:Sum:=Ah JO Kp dQ (DenS.dflt Kp)
theorem zO:Sound Tryz.prog G1 86 En:=sd (cf [(31,B3)] []) 86 Tryz.f86 ⟨TF,trivial⟩ trivial JO Kp dQ _ (fun _=>r75 ..)
abbrev eU:=Af JO
abbrev fI:=Ae JO Kp
variable (p75:eU)(f75:fI)
abbrev JP:Aa:=[(true,ZE)]
abbrev Kq:Aa:=[(false,.bool)]
def Y1(a0:Ab ZE):Option (DenS Kq):=some ((((!a0.1)&&(!a0.2.2.1))&&((a0.2.2.2.2.1.2.1.length:Int)==(0:Int))),())
theorem r76(x:DenS JP):run (cf [] []) 9 75 Tryz.f75 JP Kq x=Y1 x.1:=by kernel_rfl
def U0(x:DenS JP):Option (DenS Kq):=Y1 x.1
def Eo:Sum:=Ah JP Kq U0 (DenS.dflt Kq)
theorem zP:Sound Tryz.prog G1 75 Eo:=sd (cf [] []) 75 Tryz.f75 trivial trivial JP Kq U0 _ (fun _=>r76 ..)
abbrev Xf:=Af JP
abbrev Xt:=Ae JP Kq
variable (p76:Xf)(f76:Xt)
abbrev HC:Aa:=[(false,Ze),(false,Za)]
abbrev HQ:Aa:=[(false,Ze)]
abbrev H5:Pat:=⟨49,[(0,.one (.sl Zb)),(6,.one (.v .u64)),(8,.one (.v .i64)),(5,.one (.own 0)),(7,.one (.v .u64))],[.acc Zb]⟩
abbrev kD:List (Nat×Shape):=[]
abbrev NL:List (Nat×Pat):=[(0,⟨49,[(5,.one (.own 0)),(7,.one (.v .u64))],[.acc Zb]⟩)]
abbrev MX:Option Pat:=none
variable (w127_5:Pat.D H5->Option (Ad NL MX))
def XW(p158:Cv)(f158:Cw){R:Type}(L:Pat.D H5->Option R)(e:Ad NL MX->Option R)(x:Pat.D H5):Option R:=let e2_:=(aa .u64 ((aa .u64 ((x.1.1.getD (af x.1.2.2.1) (0:Int))*x.1.2.1))+x.1.2.2.2.2.1));let e1_:=((gj e2_ (4294967296:Int))::[]);bif(decide (x.1.2.2.1<(x.1.1.length:Int)))then(bif((decide ((0:Int)<=x.1.2.2.1))&&(decide (x.1.2.2.1<(x.1.1.length:Int))))then(bif(((Vx.ED (x.2.1.length+e1_.length) 8)&&true)&&true)then(((L ((x.1.1,x.1.2.1,(aa .i64 (x.1.2.2.1+(1:Int))),(),(Bg .u64 e2_ (4294967296:Int)),()),(x.2.1++e1_),()))))else none)else none)else(e (.inl (((),x.1.2.2.2.2),x.2)))
theorem bFT(d:Nat)(R:Type)(L:Pat.D H5->Option R)(e:Ad NL MX->Option R)(x:Pat.D H5):
  Br (cf [(105,⟨CV,CW,p158,f158⟩)] [(132,5,LoopSpec.of H5 kD NL MX w127_5)]) (d+2) 132 (Bq Tryz.f132 5) H5 kD NL MX (R:=R) L e x=XW p158 f158 L e x:=by kernel_rfl
theorem aNG(p158:Cv)(f158:Cw):Bo fun L e x=>XW p158 f158 L e x:=by intro _ _ _ _ _ _ _ h0 hL he _;unfold XW;repeat' (first|exact h0|exact hL _|exact he _|apply BB|(apply BC h0;intro _)|(apply BD<;>intro _))
def uI(p158:Cv)(f158:Cw)(w127_5:Pat.D H5->Option (Ad NL MX))(a0:Ab Ze)(a1:Ab Za):Option (DenS HQ):=
 let e1_:=(aa .i64 ((aa .i64 ((Bg .i64 a1 (32:Int))+(a0.length:Int)))+(1:Int)))
 bif(((decide ((0:Int)<=(Bg .i64 a1 (32:Int))))&&(decide ((Bg .i64 a1 (32:Int))<=e1_)))&&(decide ((e1_*(8:Int))<=(140737488355328:Int))))then(Vx.Ba (w127_5 ((a0,(Be .u64 (1:Int) (aa .u64 (gj a1 (32:Int)))),(0:Int),(),(0:Int),()),(aq (af (Bg .i64 a1 (32:Int))) (0:Int)),())) fun y1=>
 Vx.A9 y1 (fun y2=>
 bif(((Vx.ED (y2.2.1.length+(y2.1.2.1::[]).length) 8)&&true)&&true)then(bif(p158 ((y2.2.1++(y2.1.2.1::[])),()))then(some (f158 ((y2.2.1++(y2.1.2.1::[])),())))
 else none)
 else none) (fun z2=>
 none))
 else none
theorem bCg(x:DenS HC):run (cf [(105,⟨CV,CW,p158,f158⟩)] [(132,5,LoopSpec.of H5 kD NL MX w127_5)]) 9 132 Tryz.f132 HC HQ x=uI p158 f158 w127_5 x.1 x.2.1:=by kernel_rfl
def n8:H5.D->Option (Ad NL MX):=Bf fun L=>XW Ap.pre Ap.F L some
def NC(x:DenS HC):Option (DenS HQ):=uI Ap.pre Ap.F n8 x.1 x.2.1
def CF:Sum:=Ah HC HQ NC (DenS.dflt HQ)
theorem yR:Sound Tryz.prog G1 132 CF:=sd (cf [(105,Ap)] [(132,5,LoopSpec.of H5 kD NL MX n8)]) 132 Tryz.f132 ⟨S3,trivial⟩ ⟨rfl,fun d=>BA (fun L e x=>XW Ap.pre Ap.F L e x) (aNG Ap.pre Ap.F) (fun _ _ _ _=>bFT ..),trivial⟩ HC HQ NC _ (fun _=>bCg ..)
abbrev U3:=Af HC
abbrev Vh:=Ae HC HQ
variable (p127:U3)(f127:Vh)
abbrev HD:Aa:=[(false,Ze),(false,Ze)]
abbrev HR:Aa:=[(false,Ze)]
abbrev H6:Pat:=⟨56,[(5,.one (.v .i64)),(0,.one (.sl Zb)),(1,.one (.sl Zb)),(8,.one (.v .i64)),(6,.one (.own 0)),(7,.one (.v .u64))],[.acc Zb]⟩
abbrev kE:List (Nat×Shape):=[]
abbrev NM:List (Nat×Pat):=[(0,⟨56,[(6,.one (.own 0)),(7,.one (.v .u64))],[.acc Zb]⟩)]
abbrev MY:Option Pat:=none
variable (w128_5:Pat.D H6->Option (Ad NM MY))
def XX(p158:Cv)(f158:Cw){R:Type}(L:Pat.D H6->Option R)(e:Ad NM MY->Option R)(x:Pat.D H6):Option R:=let e11_:=(aa .u64 (x.1.2.2.2.2.2.1+(x.1.2.1.getD (af x.1.2.2.2.1) (0:Int))));let e12_:=(x.1.2.2.1.getD (af x.1.2.2.2.1) (0:Int));let e1_:=((gj (aa .u64 (e11_+e12_)) (4294967296:Int))::[]);let e2_:=((gj (aa .u64 (x.1.2.2.2.2.2.1+e12_)) (4294967296:Int))::[]);let e3_:=((gj e11_ (4294967296:Int))::[]);let e4_:=e11_;let e13_:=(decide (x.1.2.2.2.1<(x.1.2.2.1.length:Int)));let e5_:=((decide ((0:Int)<=x.1.2.2.2.1))&&e13_);let e6_:=(aa .i64 (x.1.2.2.2.1+(1:Int)));let e7_:=((gj x.1.2.2.2.2.2.1 (4294967296:Int))::[]);let e8_:=e12_;let e9_:=e13_;let e10_:=(decide (x.1.2.2.2.1<(x.1.2.1.length:Int)));bif(decide (x.1.2.2.2.1<x.1.1))then(bif e10_ then(bif((decide ((0:Int)<=x.1.2.2.2.1))&&e10_)then(bif e9_ then(bif e5_ then(bif(((Vx.ED (x.2.1.length+e1_.length) 8)&&true)&&true)then(((L ((x.1.1,x.1.2.1,x.1.2.2.1,e6_,(),(Bg .u64 (aa .u64 (e4_+e8_)) (4294967296:Int)),()),(x.2.1++e1_),()))))else none)else none)else bif(((Vx.ED (x.2.1.length+e3_.length) 8)&&true)&&true)then(((L ((x.1.1,x.1.2.1,x.1.2.2.1,e6_,(),(Bg .u64 e4_ (4294967296:Int)),()),(x.2.1++e3_),()))))else none)else none)else bif e9_ then(bif e5_ then(bif(((Vx.ED (x.2.1.length+e2_.length) 8)&&true)&&true)then(((L ((x.1.1,x.1.2.1,x.1.2.2.1,e6_,(),(Bg .u64 (aa .u64 (x.1.2.2.2.2.2.1+e8_)) (4294967296:Int)),()),(x.2.1++e2_),()))))else none)else none)else bif(((Vx.ED (x.2.1.length+e7_.length) 8)&&true)&&true)then(((L ((x.1.1,x.1.2.1,x.1.2.2.1,e6_,(),(Bg .u64 x.1.2.2.2.2.2.1 (4294967296:Int)),()),(x.2.1++e7_),()))))else none)else(e (.inl (((),x.1.2.2.2.2.2),x.2)))
theorem bFU(d:Nat)(R:Type)(L:Pat.D H6->Option R)(e:Ad NM MY->Option R)(x:Pat.D H6):
  Br (cf [(105,⟨CV,CW,p158,f158⟩)] [(135,5,LoopSpec.of H6 kE NM MY w128_5)]) (d+2) 135 (Bq Tryz.f135 5) H6 kE NM MY (R:=R) L e x=XX p158 f158 L e x:=by kernel_rfl
theorem aNH(p158:Cv)(f158:Cw):Bo fun L e x=>XX p158 f158 L e x:=by intro _ _ _ _ _ _ _ h0 hL he _;unfold XX;repeat' (first|exact h0|exact hL _|exact he _|apply BB|(apply BC h0;intro _)|(apply BD<;>intro _))
def uJ(p158:Cv)(f158:Cw)(w128_5:Pat.D H6->Option (Ad NM MY))(a0 a1:Ab Ze):Option (DenS HR):=
 let e2_:=(if((a1.length:Int)>(a0.length:Int))then(a1.length:Int)else(a0.length:Int))
 let e1_:=(aa .i64 (e2_+(1:Int)))
 bif((decide ((0:Int)<=e1_))&&(decide ((e1_*(8:Int))<=(140737488355328:Int))))then(Vx.Ba (w128_5 ((e2_,a0,a1,(0:Int),(),(0:Int),()),(aq (af (0:Int)) (0:Int)),())) fun y1=>
 Vx.A9 y1 (fun y2=>
 bif(((Vx.ED (y2.2.1.length+(y2.1.2.1::[]).length) 8)&&true)&&true)then(bif(p158 ((y2.2.1++(y2.1.2.1::[])),()))then(some (f158 ((y2.2.1++(y2.1.2.1::[])),())))
 else none)
 else none) (fun z2=>
 none))
 else none
theorem bCh(x:DenS HD):run (cf [(105,⟨CV,CW,p158,f158⟩)] [(135,5,LoopSpec.of H6 kE NM MY w128_5)]) 9 135 Tryz.f135 HD HR x=uJ p158 f158 w128_5 x.1 x.2.1:=by kernel_rfl
def n9:H6.D->Option (Ad NM MY):=Bf fun L=>XX Ap.pre Ap.F L some
def TJ(x:DenS HD):Option (DenS HR):=uJ Ap.pre Ap.F n9 x.1 x.2.1
def CG:Sum:=Ah HD HR TJ (DenS.dflt HR)
theorem yS:Sound Tryz.prog G1 135 CG:=sd (cf [(105,Ap)] [(135,5,LoopSpec.of H6 kE NM MY n9)]) 135 Tryz.f135 ⟨S3,trivial⟩ ⟨rfl,fun d=>BA (fun L e x=>XX Ap.pre Ap.F L e x) (aNH Ap.pre Ap.F) (fun _ _ _ _=>bFU ..),trivial⟩ HD HR TJ _ (fun _=>bCh ..)
abbrev U4:=Af HD
abbrev Vi:=Ae HD HR
variable (p128:U4)(f128:Vi)
abbrev HE:Aa:=[(false,Ze),(false,Ze)]
abbrev HS:Aa:=[(false,Za)]
abbrev H7:Pat:=⟨41,[(0,.one (.sl Zb)),(1,.one (.sl Zb)),(5,.one (.v .i64))],[]⟩
abbrev kF:List (Nat×Shape):=[]
abbrev NN:List (Nat×Pat):=[(0,⟨41,[],[]⟩)]
abbrev MZ:Option Pat:=(some ⟨41,[(4,.one (.v .i64))],[]⟩)
variable (w129_6:Pat.D H7->Option (Ad NN MZ))
def XY{R:Type}(L:Pat.D H7->Option R)(e:Ad NN MZ->Option R)(x:Pat.D H7):Option R:=let e1_:=((decide ((0:Int)<=x.1.2.2.1))&&(decide (x.1.2.2.1<(x.1.2.1.length:Int))));let e2_:=((decide ((0:Int)<=x.1.2.2.1))&&(decide (x.1.2.2.1<(x.1.1.length:Int))));let e3_:=(x.1.2.1.getD (af x.1.2.2.1) (0:Int));bif(decide (x.1.2.2.1>=(0:Int)))then(bif e2_ then(bif e1_ then(bif(decide ((x.1.1.getD (af x.1.2.2.1) (0:Int))<e3_))then(((e (.inr (((-(1:Int)),()),())))))else bif e2_ then(bif e1_ then(bif(decide ((x.1.1.getD (af x.1.2.2.1) (0:Int))>e3_))then(((e (.inr (((1:Int),()),())))))else(L ((x.1.1,x.1.2.1,(aa .i64 (x.1.2.2.1-(1:Int))),()),())))else none)else none)else none)else none)else(e (.inl ((),())))
theorem bFV(d:Nat)(R:Type)(L:Pat.D H7->Option R)(e:Ad NN MZ->Option R)(x:Pat.D H7):
  Br (cf [] [(133,6,LoopSpec.of H7 kF NN MZ w129_6)]) (d+2) 133 (Bq Tryz.f133 6) H7 kF NN MZ (R:=R) L e x=XY L e x:=by kernel_rfl
theorem aNI:Bo fun L e x=>XY L e x:=by intro _ _ _ _ _ _ _ h0 hL he _;unfold XY;repeat' (first|exact h0|exact hL _|exact he _|apply BB|(apply BC h0;intro _)|(apply BD<;>intro _))
def uK(w129_6:Pat.D H7->Option (Ad NN MZ))(a0 a1:Ab Ze):Option (DenS HS):=
 bif((a0.length:Int)!=(a1.length:Int))then(bif(decide ((a0.length:Int)<(a1.length:Int)))then(some ((-(1:Int)),()))
 else some ((1:Int),()))
 else Vx.Ba (w129_6 ((a0,a1,(aa .i64 ((a0.length:Int)-(1:Int))),()),())) fun y1=>
 Vx.A9 y1 (fun y2=>
 some ((0:Int),())) (fun z2=>
 some z2.1)
theorem bCi(x:DenS HE):run (cf [] [(133,6,LoopSpec.of H7 kF NN MZ w129_6)]) 9 133 Tryz.f133 HE HS x=uK w129_6 x.1 x.2.1:=by kernel_rfl
def oA:H7.D->Option (Ad NN MZ):=Bf fun L=>XY L some
def aR(x:DenS HE):Option (DenS HS):=uK oA x.1 x.2.1
def CH:Sum:=Ah HE HS aR (DenS.dflt HS)
theorem yT:Sound Tryz.prog G1 133 CH:=sd (cf [] [(133,6,LoopSpec.of H7 kF NN MZ oA)]) 133 Tryz.f133 trivial ⟨rfl,fun d=>BA (fun L e x=>XY L e x) (aNI) (fun _ _ _ _=>bFV ..),trivial⟩ HE HS aR _ (fun _=>bCi ..)
abbrev U5:=Af HE
abbrev Vj:=Ae HE HS
variable (p129:U5)(f129:Vj)
end Vx
end
