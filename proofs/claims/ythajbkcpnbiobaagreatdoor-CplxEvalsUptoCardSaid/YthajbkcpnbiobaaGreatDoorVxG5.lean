/- Part 5 of the proof. What is proved: symbolic execution of the functions, proved sound; what each function of the program computes, and that every run ends with it; what these functions compute, in plain numbers. Conditions: each theorem bears its own. -/
import Derived.Test.YthajbkcpnbiobaaGreatDoorVxG4
set_option linter.all false
set_option exponentiation.threshold 1000000
noncomputable section
open Go.BinOp renaming mul->oz
open Go.Extern.MathFloatBits renaming float64bits->pk,float64frombits->ow
open Go.FloatKind renaming f64->je
open Go.IntKind renaming wrap->al
open Int renaming tmod->ii,toNat->aq
open List renaming replicate->bd
namespace Vx
open Go Go.Proofs
variable (p69:BS)(f69:BT)(p66:Cd)(f66:Ce)(p65:D3)(f65:D4)(p70:DA)(f70:DB)(p98:Lu)(f98:Ly)(p119:VO)(f119:VZ)(p155:Dk)(f155:Dl)(p123:OY)(f123:O6)(p118:GX)(f118:GY)(p105:XS)(f105:X2)(p173:BD)(f173:BE)(p102:HK)(f102:HN)(p178:Jw)(f178:Jz)(p92:Lt)(f92:Lx)(p185:VS)(f185:V3)(p141:VP)(f141:V0)(p143:OZ)(f143:O7)(p97:O5)(f97:Pd)(p107:XT)(f107:X3)(p122:F4)(f122:F5)(p115:dM)(f115:eE)(p64:X0)(f64:Ya)(p315:E9)(f315:Fb)(p316:XW)(f316:X6)(p40:UP)(f40:UU)(p144:Jv)(f144:Jy)(p145:XV)(f145:X5)(p311:rM)(f311:sE)(p312:aBv)(f312:aB9)(p313:rN)(f313:sG)(p314:aBw)(f314:aCa)
abbrev QC:Aa:=[(true,Zj)]
abbrev SA:Aa:=[(false,Zb),(false,.bool)]
abbrev I6:Pat:=⟨28,[(6,.one (.v .i64)),(2,.one (.v .u64)),(1,.one (.ptr 0 0))],[.raw [.v .u64,.v .u64]]⟩
abbrev j7:List (Nat×Shape):=[]
abbrev OI:List (Nat×Pat):=[(0,⟨28,[(2,.one (.v .u64)),(1,.one (.ptr 0 0))],[.raw [.v .u64,.v .u64]]⟩)]
abbrev NR:Option Pat:=none
variable (w317_2:Pat.D I6->Option (Ad OI NR))
def gW(p123:OY)(f123:O6)(p316:XW)(f316:X6){R:Type}(L:Pat.D I6->Option R)(e:Ad OI NR->Option R)(x:Pat.D I6):Option R:=let e5_:=(al .i64 ((63:Int)-x.1.1));let e4_:=(Ao .u64 x.1.2.1 (Bk .u64 (1:Int) e5_));let e1_:=((f316 (e4_,e4_,())).1,x.2);let e2_:=e4_;let e3_:=(al .i64 (x.1.1+(1:Int)));bif(decide (x.1.1<(64:Int)))then(bif(decide ((0:Int)<=e5_))then(bif(p316 (e2_,e2_,()))then(bif(p123 e1_)then(bif(decide ((f123 e1_).1<=(0:Int)))then(((L ((e3_,e2_,(),()),x.2))))else(L ((e3_,x.1.2.1,(),()),x.2)))else none)else none)else none)else(e (.inl ((x.1.2.1,(),()),x.2)))
theorem bHD(d:Nat)(R:Type)(L:Pat.D I6->Option R)(e:Ad OI NR->Option R)(x:Pat.D I6):
  Bq (cf [(236,⟨Kd,KD,p123,f123⟩),(199,⟨Kj,KJ,p316,f316⟩)] [(207,2,LoopSpec.of I6 j7 OI NR w317_2)]) (d+2) 207 (Bp Tryz.f207 2) I6 j7 OI NR (R:=R) L e x=gW p123 f123 p316 f316 L e x:=by kernel_rfl
theorem bBm(p123:OY)(f123:O6)(p316:XW)(f316:X6):Bn fun L e x=>gW p123 f123 p316 f316 L e x:=by intro _ _ _ _ _ _ _ h0 hL he _;unfold gW;repeat' (first|exact h0|exact hL _|exact he _|apply By|(apply Bz h0;intro _)|(apply BA<;>intro _))
def aRw(p123:OY)(f123:O6)(p316:XW)(f316:X6)(w317_2:Pat.D I6->Option (Ad OI NR))(a0:Ab Zj):Option (DenS SA):=
 Vx.AQ (w317_2 (((0:Int),(0:Int),(),()),(a0.1,a0.2),())) fun y0=>
 Vx.AP y0 (fun y1=>
 bif(p316 (y1.1.1,y1.1.1,()))then(some (y1.1.1,(((f316 (y1.1.1,y1.1.1,())).1.1==y1.2.1.1)&&((f316 (y1.1.1,y1.1.1,())).1.2.1==y1.2.1.2.1)),()))
 else none) (fun z1=>
 none)
theorem bEu(x:DenS QC):run (cf [(236,⟨Kd,KD,p123,f123⟩),(199,⟨Kj,KJ,p316,f316⟩)] [(207,2,LoopSpec.of I6 j7 OI NR w317_2)]) 9 207 Tryz.f207 QC SA x=aRw p123 f123 p316 f316 w317_2 x.1:=by kernel_rfl
def aIH:I6.D->Option (Ad OI NR):=Bi fun L=>gW EB.pre EB.F EC.pre EC.F L some
def aHg(x:DenS QC):Option (DenS SA):=aRw EB.pre EB.F EC.pre EC.F aIH x.1
def lN:Sum:=Aj QC SA aHg (DenS.dflt SA)
theorem aUq:Sound Tryz.prog G1 207 lN:=sd (cf [(236,EB),(199,EC)] [(207,2,LoopSpec.of I6 j7 OI NR aIH)]) 207 Tryz.f207 ⟨aFT,aF9,ak⟩ ⟨rfl,fun d=>Bw (fun L e x=>gW EB.pre EB.F EC.pre EC.F L e x) (bBm EB.pre EB.F EC.pre EC.F) (fun _ _ _ _=>bHD ..),ak⟩ QC SA aHg _ (fun _=>bEu ..)
abbrev aJp:=Ah QC
abbrev aKX:=Ag QC SA
variable (p317:aJp)(f317:aKX)
abbrev QD:Aa:=[(false,Za),(false,Za),(false,Zb)]
abbrev SD:Aa:=[(false,Zb),(false,Za),(false,Za)]
def aRx(p311:rM)(f311:sE)(p65:D3)(f65:D4)(p312:aBv)(f312:aB9)(p313:rN)(f313:sG)(p314:aBw)(f314:aCa)(p119:VO)(f119:VZ)(p317:aJp)(f317:aKX)(p122:F4)(f122:F5)(a0 a1:Ab Za)(a2:Ab Zb):Option (DenS SD):=let e16_:=(a0,(f311 (a0,a1,(a2::[]),())).1,a2,());let e15_:=(f313 e16_);let e14_:=((0:Int),e15_.1,());let e13_:=(e14_,());let e12_:=(al .i64 ((126:Int)-(f314 e13_).1));let e11_:=(al .i64 (e12_+(1:Int)));let e8_:=(e14_,e11_,());let e7_:=(f317 (f119 e8_));let e1_:=(a0,a1,false,((0:Int),e7_.1,()),(Bl .i64 (al .i64 (e15_.2.1-e11_)) (2:Int)),(!e7_.2.1),());let e10_:=(e14_,e12_,());let e9_:=(f317 (f119 e10_));let e2_:=(a0,a1,false,((0:Int),e9_.1,()),(Bl .i64 (al .i64 (e15_.2.1-e12_)) (2:Int)),(!e9_.2.1),());let e3_:=e8_;let e4_:=e10_;let e5_:=e13_;let e6_:=e16_;bif(p311 (a0,a1,(a2::[]),()))then(bif((f311 (a0,a1,(a2::[]),())).2.1 !=(0:Int))then(some ((0:Int),(0:Int),(f311 (a0,a1,(a2::[]),())).2))else bif(p65 (a0,a2,()))then(bif(p312 (a0,(f65 (a0,a2,())).1,()))then(bif(f312 (a0,(f65 (a0,a2,())).1,())).2.2.1 then(some ((f312 (a0,(f65 (a0,a2,())).1,())).1,(f312 (a0,(f65 (a0,a2,())).1,())).2.1,(0:Int),()))else bif((((f65 (a0,a2,())).1==(9:Int))||((f65 (a0,a2,())).1==(6:Int)))||((f65 (a0,a2,())).1==(5:Int)))then(some (a2,(0:Int),(0:Int),()))else bif(p313 e6_)then(bif(p314 e5_)then(bif((ii (al .i64 ((f313 e6_).2.1-(al .i64 ((126:Int)-(f314 e5_).1)))) (2:Int))!=(0:Int))then(bif(p119 e3_)then(bif(p317 (f119 e3_))then(bif(p122 e1_)then(some (f122 e1_))else none)else none)else none)else bif(p119 e4_)then(bif(p317 (f119 e4_))then(bif(p122 e2_)then(some (f122 e2_))else none)else none)else none)else none)else none)else none)else none)else none
theorem bEv(x:DenS QD):run (cf [(58,⟨Qy,Sw,p311,f311⟩),(59,⟨DW,DX,p65,f65⟩),(205,⟨Qz,Sx,p312,f312⟩),(63,⟨QA,Sy,p313,f313⟩),(206,⟨QB,Sz,p314,f314⟩),(208,⟨Md,KC,p119,f119⟩),(207,⟨QC,SA,p317,f317⟩),(104,⟨Gl,Gx,p122,f122⟩)] []) 9 163 Tryz.f163 QD SD x=aRx p311 f311 p65 f65 p312 f312 p313 f313 p314 f314 p119 f119 p317 f317 p122 f122 x.1 x.2.1 x.2.2.1:=by kernel_rfl
def aHh(x:DenS QD):Option (DenS SD):=aRx lI.pre lI.F Bs.pre Bs.F lJ.pre lJ.F lK.pre lK.F lL.pre lL.F Jo.pre Jo.F lN.pre lN.F C1.pre C1.F x.1 x.2.1 x.2.2.1
def lO:Sum:=Aj QD SD aHh (DenS.dflt SD)
theorem aUr:Sound Tryz.prog G1 163 lO:=sd (cf [(58,lI),(59,Bs),(205,lJ),(63,lK),(206,lL),(208,Jo),(207,lN),(104,C1)] []) 163 Tryz.f163 ⟨aUm,HH,aUn,aUo,aUp,aFS,aUq,Xq,ak⟩ trivial QD SD aHh _ (fun _=>bEv ..)
abbrev aJq:=Ah QD
abbrev aKY:=Ag QD SD
variable (p318:aJq)(f318:aKY)
abbrev Q0:Aa:=[(true,Zz)]
abbrev SY:Aa:=[(false,Zb),(false,Za),(false,Za)]
def aRK(p318:aJq)(f318:aKY)(a0:Ab Zz):Option (DenS SY):=bif(p318 (a0.2.1,a0.1,a0.2.2.1,()))then(some (f318 (a0.2.1,a0.1,a0.2.2.1,())))else none
theorem bEZ(x:DenS Q0):run (cf [(163,⟨QD,SD,p318,f318⟩)] []) 9 162 Tryz.f162 Q0 SY x=aRK p318 f318 x.1:=by kernel_rfl
def aHw(x:DenS Q0):Option (DenS SY):=aRK lO.pre lO.F x.1
def aY:Sum:=Aj Q0 SY aHw (DenS.dflt SY)
theorem aGd:Sound Tryz.prog G1 162 aY:=sd (cf [(163,lO)] []) 162 Tryz.f162 ⟨aUr,ak⟩ trivial Q0 SY aHw _ (fun _=>bEZ ..)
abbrev aBE:=Ah Q0
abbrev aCi:=Ag Q0 SY
variable (p396:aBE)(f396:aCi)
abbrev Q1:Aa:=[(false,Za),(false,Za),(false,Ze)]
abbrev SZ:Aa:=[(false,Za)]
abbrev Jc:Pat:=⟨39,[(27,.one (.v .i64)),(26,.one (.sl Zb)),(0,.one (.v .i64)),(28,.one (.v .i64))],[]⟩
abbrev kE:List (Nat×Shape):=[]
abbrev OP:List (Nat×Pat):=[(0,⟨39,[],[]⟩)]
abbrev NY:Option Pat:=(some ⟨39,[(6,.one (.v .i64))],[]⟩)
variable (w397_7:Pat.D Jc->Option (Ad OP NY))
def h9(p69:BS)(f69:BT)(p66:Cd)(f66:Ce){R:Type}(L:Pat.D Jc->Option R)(e:Ad OP NY->Option R)(x:Pat.D Jc):Option R:=let e2_:=(x.1.2.2.1,(x.1.2.1.getD (aq x.1.2.2.2.1) (0:Int)),());let e1_:=(f66 e2_);bif(decide (x.1.2.2.2.1<x.1.1))then(bif((decide ((0:Int)<=x.1.2.2.2.1))&&(decide (x.1.2.2.2.1<(x.1.2.1.length:Int))))then(bif(p66 e2_)then(bif(e1_.1 !=(0:Int))then(((e (.inr (e1_,())))))else(L ((x.1.1,x.1.2.1,x.1.2.2.1,(al .i64 (x.1.2.2.2.1+(1:Int))),()),())))else none)else none)else(e (.inl ((),())))
theorem bHS(d:Nat)(R:Type)(L:Pat.D Jc->Option R)(e:Ad OP NY->Option R)(x:Pat.D Jc):
  Bq (cf [(71,⟨B6,B7,p69,f69⟩),(85,⟨CG,CH,p66,f66⟩)] [(209,7,LoopSpec.of Jc kE OP NY w397_7)]) (d+2) 209 (Bp Tryz.f209 7) Jc kE OP NY (R:=R) L e x=h9 p69 f69 p66 f66 L e x:=by kernel_rfl
theorem bBs(p69:BS)(f69:BT)(p66:Cd)(f66:Ce):Bn fun L e x=>h9 p69 f69 p66 f66 L e x:=by intro _ _ _ _ _ _ _ h0 hL he _;unfold h9;repeat' (first|exact h0|exact hL _|exact he _|apply By|(apply Bz h0;intro _)|(apply BA<;>intro _))
def aRL(p69:BS)(f69:BT)(p66:Cd)(f66:Ce)(w397_7:Pat.D Jc->Option (Ad OP NY))(a0 a1:Ab Za)(a2:Ab Ze):Option (DenS SZ):=
 bif(p69 (a0,()))then(bif((f69 (a0,())).2.1 !=(0:Int))then(some (f69 (a0,())).2)
 else bif((decide (a1<(0:Int)))||(decide (a1>(5:Int))))then(some ((3:Int),()))
 else Vx.AQ (w397_7 (((a2.length:Int),a2,a0,(0:Int),()),())) fun y3=>
 Vx.AP y3 (fun y4=>
 some ((0:Int),())) (fun z4=>
 some z4.1))
 else none
theorem bE0(x:DenS Q1):run (cf [(71,⟨B6,B7,p69,f69⟩),(85,⟨CG,CH,p66,f66⟩)] [(209,7,LoopSpec.of Jc kE OP NY w397_7)]) 9 209 Tryz.f209 Q1 SZ x=aRL p69 f69 p66 f66 w397_7 x.1 x.2.1 x.2.2.1:=by kernel_rfl
def aIM:Jc.D->Option (Ad OP NY):=Bi fun L=>h9 Ap.pre Ap.F Av.pre Av.F L some
def aHx(x:DenS Q1):Option (DenS SZ):=aRL Ap.pre Ap.F Av.pre Av.F aIM x.1 x.2.1 x.2.2.1
def lX:Sum:=Aj Q1 SZ aHx (DenS.dflt SZ)
theorem aUQ:Sound Tryz.prog G1 209 lX:=sd (cf [(71,Ap),(85,Av)] [(209,7,LoopSpec.of Jc kE OP NY aIM)]) 209 Tryz.f209 ⟨D1,FY,ak⟩ ⟨rfl,fun d=>Bw (fun L e x=>h9 Ap.pre Ap.F Av.pre Av.F L e x) (bBs Ap.pre Ap.F Av.pre Av.F) (fun _ _ _ _=>bHS ..),ak⟩ Q1 SZ aHx _ (fun _=>bE0 ..)
abbrev aJG:=Ah Q1
abbrev aLe:=Ag Q1 SZ
variable (p397:aJG)(f397:aLe)
abbrev Ms:Aa:=[(false,Za),(false,Zb)]
abbrev M5:Aa:=[(true,ZF)]
def aRM(p65:D3)(f65:D4)(p98:Lu)(f98:Ly)(p40:UP)(f40:UU)(a0:Ab Za)(a1:Ab Zb):Option (DenS M5):=let e1_:=(((f65 (a0,a1,())).1==(2:Int))||((f65 (a0,a1,())).1==(9:Int)));bif(p65 (a0,a1,()))then(bif(p98 (a0,a1,()))then(bif((!(decide ((f65 (a0,a1,())).1<=(1:Int))))&&(!e1_))then(bif(p40 (a0,a1,()))then(some (((decide ((f65 (a0,a1,())).1<=(1:Int))),((f65 (a0,a1,())).1==(0:Int)),false,e1_,(f98 (a0,a1,())).1,(f40 (a0,a1,())).1,()),()))else none)else some (((decide ((f65 (a0,a1,())).1<=(1:Int))),((f65 (a0,a1,())).1==(0:Int)),false,e1_,(f98 (a0,a1,())).1,(false,[],(0:Int),()),()),()))else none)else none
theorem bE1(x:DenS Ms):run (cf [(59,⟨DW,DX,p65,f65⟩),(91,⟨FG,FR,p98,f98⟩),(203,⟨Hf,Hr,p40,f40⟩)] []) 9 212 Tryz.f212 Ms M5 x=aRM p65 f65 p98 f98 p40 f40 x.1 x.2.1:=by kernel_rfl
def aHy(x:DenS Ms):Option (DenS M5):=aRM Bs.pre Bs.F Cs.pre Cs.F DY.pre DY.F x.1 x.2.1
def Vy:Sum:=Aj Ms M5 aHy (DenS.dflt M5)
theorem aGe:Sound Tryz.prog G1 212 Vy:=sd (cf [(59,Bs),(91,Cs),(203,DY)] []) 212 Tryz.f212 ⟨HH,VD,bC,ak⟩ trivial Ms M5 aHy _ (fun _=>bE1 ..)
abbrev aBF:=Ah Ms
abbrev aCj:=Ag Ms M5
variable (p398:aBF)(f398:aCj)
abbrev My:Aa:=[(true,Zs)]
abbrev Nc:Aa:=[(false,Za)]
def t47(p102:HK)(f102:HN)(a0:Ab Zs):Option (DenS Nc):=bif(p102 (a0.2.1,()))then(bif(((f102 (a0.2.1,())).1.length:Int)==(0:Int))then(some ((0:Int),()))else bif a0.1 then(some ((-(1:Int)),()))else some ((1:Int),()))else none
theorem r47(x:DenS My):run (cf [(122,⟨FF,FM,p102,f102⟩)] []) 9 240 Tryz.f240 My Nc x=t47 p102 f102 x.1:=by kernel_rfl
def T47(x:DenS My):Option (DenS Nc):=t47 Cj.pre Cj.F x.1
def VC:Sum:=Aj My Nc T47 (DenS.dflt Nc)
theorem aGx:Sound Tryz.prog G1 240 VC:=sd (cf [(122,Cj)] []) 240 Tryz.f240 ⟨aS,ak⟩ trivial My Nc T47 _ (fun _=>r47 ..)
abbrev Y47:=Ah My
abbrev Z47:=Ag My Nc
variable (p47:Y47)(f47:Z47)
abbrev Mb:Aa:=[(true,Zs)]
abbrev MN:Aa:=[(false,Za)]
def aRb(a0:Ab Zs):Option (DenS MN):=bif(decide ((a0.2.1.length:Int)>(1024:Int)))then(some ((5:Int),()))else bif((decide (a0.2.2.1<(-(40000:Int))))||(decide (a0.2.2.1>(40000:Int))))then(some ((30:Int),()))else some ((0:Int),())
theorem bDj(x:DenS Mb):run (cf [] []) 9 253 Tryz.f253 Mb MN x=aRb x.1:=by kernel_rfl
def aGG(x:DenS Mb):Option (DenS MN):=aRb x.1
def Vv:Sum:=Aj Mb MN aGG (DenS.dflt MN)
theorem aFP:Sound Tryz.prog G1 253 Vv:=sd (cf [] []) 253 Tryz.f253 trivial trivial Mb MN aGG _ (fun _=>bDj ..)
abbrev aBn:=Ah Mb
abbrev aB1:=Ag Mb MN
variable (p103:aBn)(f103:aB1)
abbrev ML:Aa:=[(true,Zs),(true,Zs)]
abbrev Nq:Aa:=[(false,Za)]
def t99(p103:aBn)(f103:aB1)(a0 a1:Ab Zs):Option (DenS Nq):=bif(p103 ((a0.1,a0.2),()))then(bif((f103 ((a0.1,a0.2),())).1 !=(0:Int))then(some (f103 ((a0.1,a0.2),())))else bif(p103 ((a1.1,a1.2),()))then(some (f103 ((a1.1,a1.2),())))else none)else none
theorem r99(x:DenS ML):run (cf [(253,⟨Mb,MN,p103,f103⟩)] []) 9 249 Tryz.f249 ML Nq x=t99 p103 f103 x.1 x.2.1:=by kernel_rfl
def T99(x:DenS ML):Option (DenS Nq):=t99 Vv.pre Vv.F x.1 x.2.1
def VE:Sum:=Aj ML Nq T99 (DenS.dflt Nq)
theorem aGA:Sound Tryz.prog G1 249 VE:=sd (cf [(253,Vv)] []) 249 Tryz.f249 ⟨aFP,ak⟩ trivial ML Nq T99 _ (fun _=>r99 ..)
abbrev Y99:=Ah ML
abbrev Z99:=Ag ML Nq
variable (p99:Y99)(f99:Z99)
abbrev Ib:Aa:=[(true,Zs)]
abbrev Is:Aa:=[(true,Zs)]
abbrev II:Pat:=⟨42,[(4,.one (.v .i64)),(3,.one (.sl Zb)),(1,.one (.ptr 0 0)),(2,.one (.ptr 1 0))],[.raw [.bool,.sl Zb,.v .i64],.raw [.bool,.sl Zb,.v .i64]]⟩
abbrev jH:List (Nat×Shape):=[]
abbrev Og:List (Nat×Pat):=[(0,⟨42,[(4,.one (.v .i64)),(3,.one (.sl Zb)),(1,.one (.ptr 0 0)),(2,.one (.ptr 1 0))],[.raw [.bool,.sl Zb,.v .i64],.raw [.bool,.sl Zb,.v .i64]]⟩)]
abbrev Nt:Option Pat:=none
variable (w100_5:Pat.D II->Option (Ad Og Nt))
def gS(p102:HK)(f102:HN)(p92:Lt)(f92:Lx)(p141:VP)(f141:V0){R:Type}(L:Pat.D II->Option R)(e:Ad Og Nt->Option R)(x:Pat.D II):Option R:=bif((decide ((0:Int)<=(Bl .i64 x.1.1 (64:Int))))&&(decide ((Bl .i64 x.1.1 (64:Int))<(x.1.2.1.length:Int))))then(bif((x.1.2.1.getD (aq (Bl .i64 x.1.1 (64:Int))) (0:Int))==(0:Int))then(((L (((al .i64 (x.1.1+(64:Int))),x.1.2.1,(),(),()),x.2))))else(e (.inl ((x.1.1,x.1.2.1,(),(),()),x.2))))else none
theorem bHf(d:Nat)(R:Type)(L:Pat.D II->Option R)(e:Ad Og Nt->Option R)(x:Pat.D II):
  Bq (cf [(122,⟨FF,FM,p102,f102⟩),(191,⟨Hj,Hw,p92,f92⟩),(103,⟨Ke,KE,p141,f141⟩)] [(252,5,LoopSpec.of II jH Og Nt w100_5)]) (d+2) 252 (Bp Tryz.f252 5) II jH Og Nt (R:=R) L e x=gS p102 f102 p92 f92 p141 f141 L e x:=by kernel_rfl
theorem bBi(p102:HK)(f102:HN)(p92:Lt)(f92:Lx)(p141:VP)(f141:V0):Bn fun L e x=>gS p102 f102 p92 f92 p141 f141 L e x:=by intro _ _ _ _ _ _ _ h0 hL he _;unfold gS;repeat' (first|exact h0|exact hL _|exact he _|apply By|(apply Bz h0;intro _)|(apply BA<;>intro _))
def aQ9(p102:HK)(f102:HN)(p92:Lt)(f92:Lx)(p141:VP)(f141:V0)(w100_5:Pat.D II->Option (Ad Og Nt))(a0:Ab Zs):Option (DenS Is):=
 bif(p102 (a0.2.1,()))then(bif(((f102 (a0.2.1,())).1.length:Int)==(0:Int))then(some ((false,[],(0:Int),()),()))
 else Vx.AQ (w100_5 (((0:Int),(f102 (a0.2.1,())).1,(),(),()),(a0.1,a0.2),(false,[],(0:Int),()),())) fun y2=>
 Vx.AP y2 (fun y3=>
 bif((decide ((0:Int)<=(Bl .i64 y3.1.1 (64:Int))))&&(decide ((Bl .i64 y3.1.1 (64:Int))<(y3.1.2.1.length:Int))))then(bif(p92 ((y3.1.2.1.getD (aq (Bl .i64 y3.1.1 (64:Int))) (0:Int)),()))then(bif(p141 (y3.1.2.1,(al .i64 (y3.1.1+(f92 ((y3.1.2.1.getD (aq (Bl .i64 y3.1.1 (64:Int))) (0:Int)),())).1)),()))then(some ((y3.2.1.1,(f141 (y3.1.2.1,(al .i64 (y3.1.1+(f92 ((y3.1.2.1.getD (aq (Bl .i64 y3.1.1 (64:Int))) (0:Int)),())).1)),())).1,(al .i64 (y3.2.1.2.2.1+(al .i64 (y3.1.1+(f92 ((y3.1.2.1.getD (aq (Bl .i64 y3.1.1 (64:Int))) (0:Int)),())).1)))),()),()))
 else none)
 else none)
 else none) (fun z3=>
 none))
 else none
theorem bDg(x:DenS Ib):run (cf [(122,⟨FF,FM,p102,f102⟩),(191,⟨Hj,Hw,p92,f92⟩),(103,⟨Ke,KE,p141,f141⟩)] [(252,5,LoopSpec.of II jH Og Nt w100_5)]) 9 252 Tryz.f252 Ib Is x=aQ9 p102 f102 p92 f92 p141 f141 w100_5 x.1:=by kernel_rfl
def aID:II.D->Option (Ad Og Nt):=Bi fun L=>gS Cj.pre Cj.F Cr.pre Cr.F Fu.pre Fu.F L some
def aGC(x:DenS Ib):Option (DenS Is):=aQ9 Cj.pre Cj.F Cr.pre Cr.F Fu.pre Fu.F aID x.1
def GJ:Sum:=Aj Ib Is aGC (DenS.dflt Is)
theorem kY:Sound Tryz.prog G1 252 GJ:=sd (cf [(122,Cj),(191,Cr),(103,Fu)] [(252,5,LoopSpec.of II jH Og Nt aID)]) 252 Tryz.f252 ⟨aS,aA1,aFY,ak⟩ ⟨rfl,fun d=>Bw (fun L e x=>gS Cj.pre Cj.F Cr.pre Cr.F Fu.pre Fu.F L e x) (bBi Cj.pre Cj.F Cr.pre Cr.F Fu.pre Fu.F) (fun _ _ _ _=>bHf ..),ak⟩ Ib Is aGC _ (fun _=>bDg ..)
abbrev dK:=Ah Ib
abbrev eC:=Ag Ib Is
variable (p100:dK)(f100:eC)
abbrev QF:Aa:=[(false,Ze),(false,Ze)]
abbrev SF:Aa:=[(false,Ze)]
abbrev Hz:Pat:=⟨84,[(25,.one (.v .i64)),(24,.one (.sl Zb)),(1,.one (.sl Zb)),(26,.one (.v .i64)),(5,.one (.own 0))],[.arr Zb]⟩
abbrev aG:List (Nat×Shape):=[]
abbrev Lj:List (Nat×Pat):=[(0,⟨84,[(5,.one (.own 0))],[.arr Zb]⟩)]
abbrev KZ:Option Pat:=none
abbrev FS:Pat:=⟨84,[(32,.one (.v .i64)),(31,.one (.sl Zb)),(7,.one (.v .u64)),(33,.one (.v .i64)),(6,.one (.v .i64)),(8,.one (.v .u64)),(26,.one (.v .i64)),(25,.one (.v .i64)),(24,.one (.sl Zb)),(1,.one (.sl Zb)),(5,.one (.own 0))],[.arr Zb]⟩
abbrev aH:List (Nat×Shape):=[]
abbrev HI:List (Nat×Pat):=[(2,⟨84,[(6,.one (.v .i64)),(8,.one (.v .u64)),(26,.one (.v .i64)),(25,.one (.v .i64)),(24,.one (.sl Zb)),(1,.one (.sl Zb)),(5,.one (.own 0))],[.arr Zb]⟩)]
abbrev HF:Option Pat:=none
variable (w324_4:Pat.D Hz->Option (Ad Lj KZ))(w324_8:Pat.D FS->Option (Ad HI HF))
def gY(p315:E9)(f315:Fb)(p155:Dk)(f155:Dl)(p173:BD)(f173:BE){R:Type}(L:Pat.D FS->Option R)(e:Ad HI HF->Option R)(x:Pat.D FS):Option R:=let e10_:=(x.1.2.2.1,(x.1.2.1.getD (aq x.1.2.2.2.1) (0:Int)),());let e8_:=(f315 e10_);let e11_:=(al .i64 (x.1.2.2.2.2.1+x.1.2.2.2.1));let e9_:=(aq e11_);let e7_:=(f155 (e8_.2.1,(x.2.1.getD e9_ (0:Int)),(0:Int),()));let e1_:=(f155 (e7_.1,x.1.2.2.2.2.2.1,(0:Int),()));let e2_:=e7_;let e3_:=((decide ((0:Int)<=e11_))&&(decide (e11_<(x.2.1.length:Int))));let e4_:=(x.1.2.2.2.2.2.2.1,x.1.2.2.2.2.2.2.2.1,x.1.2.2.2.2.2.2.2.2.1,x.1.2.2.2.2.2.2.2.2.2.1,(),());let e5_:=e8_;let e6_:=e9_;bif(decide (x.1.2.2.2.1<x.1.1))then(bif((decide ((0:Int)<=x.1.2.2.2.1))&&(decide (x.1.2.2.2.1<(x.1.2.1.length:Int))))then(bif(p315 e10_)then(bif e3_ then(bif(p155 (e5_.2.1,(x.2.1.getD e6_ (0:Int)),(0:Int),()))then(bif(p155 (e2_.1,x.1.2.2.2.2.2.1,(0:Int),()))then(bif e3_ then(((L ((x.1.1,x.1.2.1,x.1.2.2.1,(al .i64 (x.1.2.2.2.1+(1:Int))),x.1.2.2.2.2.1,(al .u64 ((al .u64 (e5_.1+e2_.2.1))+e1_.2.1)),e4_),(x.2.1.set e6_ e1_.1),()))))else none)else none)else none)else none)else none)else none)else(e (.inl ((x.1.2.2.2.2.1,x.1.2.2.2.2.2.1,e4_),x.2)))
theorem bHF(d:Nat)(R:Type)(L:Pat.D FS->Option R)(e:Ad HI HF->Option R)(x:Pat.D FS):
  Bq (cf [(120,⟨EQ,ET,p315,f315⟩),(94,⟨Fo,FN,p155,f155⟩),(93,⟨BW,BX,p173,f173⟩)] [(102,4,LoopSpec.of Hz aG Lj KZ w324_4),(102,8,LoopSpec.of FS aH HI HF w324_8)]) (d+2) 102 (Bp Tryz.f102 8) FS aH HI HF (R:=R) L e x=gY p315 f315 p155 f155 p173 f173 L e x:=by kernel_rfl
theorem bBo(p315:E9)(f315:Fb)(p155:Dk)(f155:Dl)(p173:BD)(f173:BE):Bn fun L e x=>gY p315 f315 p155 f155 p173 f173 L e x:=by intro _ _ _ _ _ _ _ h0 hL he _;unfold gY;repeat' (first|exact h0|exact hL _|exact he _|apply By|(apply Bz h0;intro _)|(apply BA<;>intro _))
def gX(p315:E9)(f315:Fb)(p155:Dk)(f155:Dl)(p173:BD)(f173:BE)(w324_8:Pat.D FS->Option (Ad HI HF)){R:Type}(L:Pat.D Hz->Option R)(e:Ad Lj KZ->Option R)(x:Pat.D Hz):Option R:=
 bif(decide (x.1.2.2.2.1<x.1.1))then(bif((decide ((0:Int)<=x.1.2.2.2.1))&&(decide (x.1.2.2.2.1<(x.1.2.1.length:Int))))then(Vx.AQ (w324_8 (((x.1.2.2.1.length:Int),x.1.2.2.1,(x.1.2.1.getD (aq x.1.2.2.2.1) (0:Int)),(0:Int),x.1.2.2.2.1,(0:Int),x.1.2.2.2.1,x.1.1,x.1.2.1,x.1.2.2.1,(),()),x.2)) fun y2=>
 Vx.AP y2 (fun y3=>
 bif((decide ((0:Int)<=(al .i64 (y3.1.1+(y3.1.2.2.2.2.2.1.length:Int)))))&&(decide ((al .i64 (y3.1.1+(y3.1.2.2.2.2.2.1.length:Int)))<(y3.2.1.length:Int))))then(((L ((y3.1.2.2.2.1,y3.1.2.2.2.2.1,y3.1.2.2.2.2.2.1,(al .i64 (y3.1.2.2.1+(1:Int))),(),()),(y3.2.1.set (aq (al .i64 (y3.1.1+(y3.1.2.2.2.2.2.1.length:Int)))) y3.1.2.1),()))))
 else none) (fun z3=>
 none))
 else none)
 else(e (.inl (((),()),x.2)))
theorem bHE(d:Nat)(R:Type)(L:Pat.D Hz->Option R)(e:Ad Lj KZ->Option R)(x:Pat.D Hz):
  Bq (cf [(120,⟨EQ,ET,p315,f315⟩),(94,⟨Fo,FN,p155,f155⟩),(93,⟨BW,BX,p173,f173⟩)] [(102,4,LoopSpec.of Hz aG Lj KZ w324_4),(102,8,LoopSpec.of FS aH HI HF w324_8)]) (d+2) 102 (Bp Tryz.f102 4) Hz aG Lj KZ (R:=R) L e x=gX p315 f315 p155 f155 p173 f173 w324_8 L e x:=by kernel_rfl
theorem bBn(p315:E9)(f315:Fb)(p155:Dk)(f155:Dl)(p173:BD)(f173:BE)(w324_8:Pat.D FS->Option (Ad HI HF)):Bn fun L e x=>gX p315 f315 p155 f155 p173 f173 w324_8 L e x:=by intro _ _ _ _ _ _ _ h0 hL he _;unfold gX;repeat' (first|exact h0|exact hL _|exact he _|apply By|(apply Bz h0;intro _)|(apply BA<;>intro _))
def aRy(p315:E9)(f315:Fb)(p155:Dk)(f155:Dl)(p173:BD)(f173:BE)(w324_4:Pat.D Hz->Option (Ad Lj KZ))(w324_8:Pat.D FS->Option (Ad HI HF))(a0 a1:Ab Ze):Option (DenS SF):=
 let e1_:=(al .i64 (((f173 (a0,())).1.length:Int)+((f173 (a1,())).1.length:Int)))
 bif(p173 (a0,()))then(bif(p173 (a1,()))then(bif((decide ((0:Int)<=e1_))&&(decide ((e1_*(8:Int))<=(140737488355328:Int))))then(Vx.AQ (w324_4 ((((f173 (a0,())).1.length:Int),(f173 (a0,())).1,(f173 (a1,())).1,(0:Int),(),()),(bd (aq e1_) (0:Int)),())) fun y3=>
 Vx.AP y3 (fun y4=>
 bif(p173 y4.2)then(some (f173 y4.2))
 else none) (fun z4=>
 none))
 else none)
 else none)
 else none
theorem bEx(x:DenS QF):run (cf [(120,⟨EQ,ET,p315,f315⟩),(94,⟨Fo,FN,p155,f155⟩),(93,⟨BW,BX,p173,f173⟩)] [(102,4,LoopSpec.of Hz aG Lj KZ w324_4),(102,8,LoopSpec.of FS aH HI HF w324_8)]) 9 102 Tryz.f102 QF SF x=aRy p315 f315 p155 f155 p173 f173 w324_4 w324_8 x.1 x.2.1:=by kernel_rfl
def dF:FS.D->Option (Ad HI HF):=Bi fun L=>gY Bo.pre Bo.F AD.pre AD.F Ak.pre Ak.F L some
def aII:Hz.D->Option (Ad Lj KZ):=Bi fun L=>gX Bo.pre Bo.F AD.pre AD.F Ak.pre Ak.F dF L some
def aHi(x:DenS QF):Option (DenS SF):=aRy Bo.pre Bo.F AD.pre AD.F Ak.pre Ak.F aII dF x.1 x.2.1
def lP:Sum:=Aj QF SF aHi (DenS.dflt SF)
theorem aUs:Sound Tryz.prog G1 102 lP:=sd (cf [(120,Bo),(94,AD),(93,Ak)] [(102,4,LoopSpec.of Hz aG Lj KZ aII),(102,8,LoopSpec.of FS aH HI HF dF)]) 102 Tryz.f102 ⟨lM,Xu,Er,ak⟩ ⟨rfl,fun d=>Bw (fun L e x=>gX Bo.pre Bo.F AD.pre AD.F Ak.pre Ak.F dF L e x) (bBn Bo.pre Bo.F AD.pre AD.F Ak.pre Ak.F dF) (fun _ _ _ _=>bHE ..),⟨rfl,fun d=>Bw (fun L e x=>gY Bo.pre Bo.F AD.pre AD.F Ak.pre Ak.F L e x) (bBo Bo.pre Bo.F AD.pre AD.F Ak.pre Ak.F) (fun _ _ _ _=>bHF ..),ak⟩⟩ QF SF aHi _ (fun _=>bEx ..)
abbrev aBy:=Ah QF
abbrev aCc:=Ag QF SF
variable (p324:aBy)(f324:aCc)
abbrev QG:Aa:=[(false,Ze),(false,Ze)]
abbrev SG:Aa:=[(false,Ze),(false,Za)]
def aRz(p324:aBy)(f324:aCc)(p185:VS)(f185:V3)(a0 a1:Ab Ze):Option (DenS SG):=bif(p185 ((a0::(a1::[])),()))then(bif(f185 ((a0::(a1::[])),())).1 then(some ([],(5:Int),()))else bif(p324 (a0,a1,()))then(bif(p185 (((f324 (a0,a1,())).1::[]),()))then(bif(f185 (((f324 (a0,a1,())).1::[]),())).1 then(some ([],(5:Int),()))else some ((f324 (a0,a1,())).1,(0:Int),()))else none)else none)else none
theorem bEy(x:DenS QG):run (cf [(102,⟨QF,SF,p324,f324⟩),(96,⟨Kh,KH,p185,f185⟩)] []) 9 95 Tryz.f95 QG SG x=aRz p324 f324 p185 f185 x.1 x.2.1:=by kernel_rfl
def aHj(x:DenS QG):Option (DenS SG):=aRz lP.pre lP.F EX.pre EX.F x.1 x.2.1
def lQ:Sum:=Aj QG SG aHj (DenS.dflt SG)
theorem aUt:Sound Tryz.prog G1 95 lQ:=sd (cf [(102,lP),(96,EX)] []) 95 Tryz.f95 ⟨aUs,aAK,ak⟩ trivial QG SG aHj _ (fun _=>bEy ..)
abbrev aBz:=Ah QG
abbrev aCd:=Ag QG SG
variable (p325:aBz)(f325:aCd)
abbrev J7:Aa:=[(true,Zs)]
abbrev Kw:Aa:=[(true,Zs),(false,Za)]
def aRc(p100:dK)(f100:eC)(a0:Ab Zs):Option (DenS Kw):=bif(p100 ((a0.1,a0.2),()))then(bif(decide (((f100 ((a0.1,a0.2),())).1.2.1.length:Int)>(1024:Int)))then(some ((false,[],(0:Int),()),(5:Int),()))else bif((decide ((f100 ((a0.1,a0.2),())).1.2.2.1<(-(40000:Int))))||(decide ((f100 ((a0.1,a0.2),())).1.2.2.1>(40000:Int))))then(some ((false,[],(0:Int),()),(30:Int),()))else some ((f100 ((a0.1,a0.2),())).1,(0:Int),()))else none
theorem bDk(x:DenS J7):run (cf [(252,⟨Ib,Is,p100,f100⟩)] []) 9 250 Tryz.f250 J7 Kw x=aRc p100 f100 x.1:=by kernel_rfl
def aGH(x:DenS J7):Option (DenS Kw):=aRc GJ.pre GJ.F x.1
def K8:Sum:=Aj J7 Kw aGH (DenS.dflt Kw)
theorem aAB:Sound Tryz.prog G1 250 K8:=sd (cf [(252,GJ)] []) 250 Tryz.f250 ⟨kY,ak⟩ trivial J7 Kw aGH _ (fun _=>bDk ..)
abbrev rD:=Ah J7
abbrev r5:=Ag J7 Kw
variable (p104:rD)(f104:r5)
abbrev QN:Aa:=[(true,Zs),(true,Zs)]
abbrev SN:Aa:=[(true,Zs),(false,Za)]
def aRE(p99:Y99)(f99:Z99)(p100:dK)(f100:eC)(p325:aBz)(f325:aCd)(p104:rD)(f104:r5)(a0 a1:Ab Zs):Option (DenS SN):=let e4_:=((f100 ((a0.1,a0.2),())).1.2.1,(f100 ((a1.1,a1.2),())).1.2.1,());let e3_:=(f325 e4_);let e1_:=(((!((f100 ((a0.1,a0.2),())).1.1==(f100 ((a1.1,a1.2),())).1.1)),e3_.1,(al .i64 ((f100 ((a0.1,a0.2),())).1.2.2.1+(f100 ((a1.1,a1.2),())).1.2.2.1)),()),());let e2_:=e3_;bif(p99 ((a0.1,a0.2),(a1.1,a1.2),()))then(bif((f99 ((a0.1,a0.2),(a1.1,a1.2),())).1 !=(0:Int))then(some ((false,[],(0:Int),()),(f99 ((a0.1,a0.2),(a1.1,a1.2),()))))else bif(p100 ((a0.1,a0.2),()))then(bif(p100 ((a1.1,a1.2),()))then(bif(p325 e4_)then(bif(e2_.2.1 !=(0:Int))then(some ((false,[],(0:Int),()),e2_.2))else bif(p104 e1_)then(some (f104 e1_))else none)else none)else none)else none)else none
theorem bEM(x:DenS QN):run (cf [(249,⟨ML,Nq,p99,f99⟩),(252,⟨Ib,Is,p100,f100⟩),(95,⟨QG,SG,p325,f325⟩),(250,⟨J7,Kw,p104,f104⟩)] []) 9 241 Tryz.f241 QN SN x=aRE p99 f99 p100 f100 p325 f325 p104 f104 x.1 x.2.1:=by kernel_rfl
def aHp(x:DenS QN):Option (DenS SN):=aRE VE.pre VE.F GJ.pre GJ.F lQ.pre lQ.F K8.pre K8.F x.1 x.2.1
def lS:Sum:=Aj QN SN aHp (DenS.dflt SN)
theorem aUF:Sound Tryz.prog G1 241 lS:=sd (cf [(249,VE),(252,GJ),(95,lQ),(250,K8)] []) 241 Tryz.f241 ⟨aGA,kY,aUt,aAB,ak⟩ trivial QN SN aHp _ (fun _=>bEM ..)
abbrev aJv:=Ah QN
abbrev aK3:=Ag QN SN
variable (p360:aJv)(f360:aK3)
abbrev Q2:Aa:=[(false,Za),(false,Zb),(false,Zb)]
abbrev S2:Aa:=[(true,ZF)]
def aRN(p398:aBF)(f398:aCj)(p47:Y47)(f47:Z47)(p360:aJv)(f360:aK3)(a0:Ab Za)(a1 a2:Ab Zb):Option (DenS S2):=let e7_:=(((f398 (a0,a1,())).1.2.2.2.1&&(!(f398 (a0,a2,())).1.2.2.2.1))&&((f47 (f398 (a0,a2,())).1.2.2.2.2.2).1==(0:Int)));let e1_:=(e7_||(((f398 (a0,a2,())).1.2.2.2.1&&(!(f398 (a0,a1,())).1.2.2.2.1))&&((f47 (f398 (a0,a1,())).1.2.2.2.2.2).1==(0:Int))));let e8_:=(!((f398 (a0,a1,())).1.2.2.2.2.1==(f398 (a0,a2,())).1.2.2.2.2.1));let e2_:=(e8_,(false,[],(0:Int),()),());let e3_:=((f398 (a0,a1,())).1.2.2.2.2.2.1,(f398 (a0,a2,())).1.2.2.2.2.2);let e4_:=((f398 (a0,a1,())).1.2.2.2.1||(f398 (a0,a2,())).1.2.2.2.1);let e5_:=((f398 (a0,a1,())).1.2.1||(f398 (a0,a2,())).1.2.1);let e6_:=((f398 (a0,a1,())).1.1||(f398 (a0,a2,())).1.1);bif(p398 (a0,a1,()))then(bif(p398 (a0,a2,()))then(bif e6_ then(some ((e6_,e5_,false,false,e2_),()))else bif((p47 (f398 (a0,a2,())).1.2.2.2.2.2)||(!(bif(f398 (a0,a1,())).1.2.2.2.1 then(!(f398 (a0,a2,())).1.2.2.2.1)else false)))then(bif((p47 (f398 (a0,a1,())).1.2.2.2.2.2)||(!((bif e7_ then false else true)&&(bif(f398 (a0,a2,())).1.2.2.2.1 then(!(f398 (a0,a1,())).1.2.2.2.1)else false))))then(bif(!e4_)then(bif(p360 e3_)then(some ((e6_,e5_,e1_,e4_,e8_,(f360 e3_).1,()),()))else none)else some ((e6_,e5_,e1_,e4_,e2_),()))else none)else none)else none)else none
theorem bE2(x:DenS Q2):run (cf [(212,⟨Ms,M5,p398,f398⟩),(240,⟨My,Nc,p47,f47⟩),(241,⟨QN,SN,p360,f360⟩)] []) 9 211 Tryz.f211 Q2 S2 x=aRN p398 f398 p47 f47 p360 f360 x.1 x.2.1 x.2.2.1:=by kernel_rfl
def aHz(x:DenS Q2):Option (DenS S2):=aRN Vy.pre Vy.F VC.pre VC.F lS.pre lS.F x.1 x.2.1 x.2.2.1
def lY:Sum:=Aj Q2 S2 aHz (DenS.dflt S2)
theorem aUR:Sound Tryz.prog G1 211 lY:=sd (cf [(212,Vy),(240,VC),(241,lS)] []) 211 Tryz.f211 ⟨aGe,aGx,aUF,ak⟩ trivial Q2 S2 aHz _ (fun _=>bE2 ..)
abbrev aJH:=Ah Q2
abbrev aLf:=Ag Q2 S2
variable (p399:aJH)(f399:aLf)
abbrev Qo:Aa:=[(false,Ze),(false,Za)]
abbrev Sl:Aa:=[(false,Ze)]
abbrev IY:Pat:=⟨57,[(25,.one (.v .i64)),(24,.one (.sl Zb)),(5,.one (.v .i64)),(6,.one (.v .u64)),(26,.one (.v .i64)),(7,.one (.own 0))],[.arr Zb]⟩
abbrev jX:List (Nat×Shape):=[]
abbrev OA:List (Nat×Pat):=[(0,⟨57,[(7,.one (.own 0))],[.arr Zb]⟩)]
abbrev NJ:Option Pat:=none
variable (w172_6:Pat.D IY->Option (Ad OA NJ))
def gT(p102:HK)(f102:HN){R:Type}(L:Pat.D IY->Option R)(e:Ad OA NJ->Option R)(x:Pat.D IY):Option R:=let e6_:=(al .i64 (x.1.2.2.1+x.1.2.2.2.2.1));let e5_:=(aq e6_);let e7_:=(x.1.2.1.getD (aq x.1.2.2.2.2.1) (0:Int));let e1_:=(x.2.1.set e5_ (Ao .u64 (x.2.1.getD e5_ (0:Int)) (Bk .u64 e7_ x.1.2.2.2.1)));let e2_:=((decide ((0:Int)<=e6_))&&(decide (e6_<(x.2.1.length:Int))));let e3_:=(x.1.1,x.1.2.1,x.1.2.2.1,x.1.2.2.2.1,(al .i64 (x.1.2.2.2.2.1+(1:Int))),(),());let e4_:=(al .i64 (e6_+(1:Int)));bif(decide (x.1.2.2.2.2.1<x.1.1))then(bif((decide ((0:Int)<=x.1.2.2.2.2.1))&&(decide (x.1.2.2.2.2.1<(x.1.2.1.length:Int))))then(bif e2_ then(bif e2_ then(bif(decide (x.1.2.2.2.1>(0:Int)))then(bif((decide ((0:Int)<=e4_))&&(decide (e4_<(e1_.length:Int))))then(((L (e3_,(e1_.set (aq e4_) (AR .u64 e7_ (al .u64 ((64:Int)-x.1.2.2.2.1)))),()))))else none)else(L (e3_,e1_,())))else none)else none)else none)else(e (.inl (((),()),x.2)))
theorem bHv(d:Nat)(R:Type)(L:Pat.D IY->Option R)(e:Ad OA NJ->Option R)(x:Pat.D IY):
  Bq (cf [(122,⟨FF,FM,p102,f102⟩)] [(256,6,LoopSpec.of IY jX OA NJ w172_6)]) (d+2) 256 (Bp Tryz.f256 6) IY jX OA NJ (R:=R) L e x=gT p102 f102 L e x:=by kernel_rfl
theorem bBj(p102:HK)(f102:HN):Bn fun L e x=>gT p102 f102 L e x:=by intro _ _ _ _ _ _ _ h0 hL he _;unfold gT;repeat' (first|exact h0|exact hL _|exact he _|apply By|(apply Bz h0;intro _)|(apply BA<;>intro _))
def aRn(p102:HK)(f102:HN)(w172_6:Pat.D IY->Option (Ad OA NJ))(a0:Ab Ze)(a1:Ab Za):Option (DenS Sl):=
 let e1_:=(al .i64 ((al .i64 ((Bl .i64 a1 (64:Int))+(a0.length:Int)))+(1:Int)))
 bif((a0.length:Int)==(0:Int))then(some ([],()))
 else bif((decide ((0:Int)<=e1_))&&(decide ((e1_*(8:Int))<=(140737488355328:Int))))then(Vx.AQ (w172_6 (((a0.length:Int),a0,(Bl .i64 a1 (64:Int)),(al .u64 (ii a1 (64:Int))),(0:Int),(),()),(bd (aq e1_) (0:Int)),())) fun y2=>
 Vx.AP y2 (fun y3=>
 bif(p102 y3.2)then(some (f102 y3.2))
 else none) (fun z3=>
 none))
 else none
theorem bD6(x:DenS Qo):run (cf [(122,⟨FF,FM,p102,f102⟩)] [(256,6,LoopSpec.of IY jX OA NJ w172_6)]) 9 256 Tryz.f256 Qo Sl x=aRn p102 f102 w172_6 x.1 x.2.1:=by kernel_rfl
def aIE:IY.D->Option (Ad OA NJ):=Bi fun L=>gT Cj.pre Cj.F L some
def aG3(x:DenS Qo):Option (DenS Sl):=aRn Cj.pre Cj.F aIE x.1 x.2.1
def lG:Sum:=Aj Qo Sl aG3 (DenS.dflt Sl)
theorem aUd:Sound Tryz.prog G1 256 lG:=sd (cf [(122,Cj)] [(256,6,LoopSpec.of IY jX OA NJ aIE)]) 256 Tryz.f256 ⟨aS,ak⟩ ⟨rfl,fun d=>Bw (fun L e x=>gT Cj.pre Cj.F L e x) (bBj Cj.pre Cj.F) (fun _ _ _ _=>bHv ..),ak⟩ Qo Sl aG3 _ (fun _=>bD6 ..)
abbrev aJg:=Ah Qo
abbrev aKO:=Ag Qo Sl
variable (p172:aJg)(f172:aKO)
abbrev Qe:Aa:=[(true,Zs),(true,Zs)]
abbrev R9:Aa:=[(false,Ze),(false,Ze),(false,Za)]
def aRl(p172:aJg)(f172:aKO)(a0 a1:Ab Zs):Option (DenS R9):=let e3_:=(if(a1.2.2.1<a0.2.2.1)then a1.2.2.1 else a0.2.2.1);let e1_:=(a0.2.1,(al .i64 (a0.2.2.1-e3_)),());let e2_:=(a1.2.1,(al .i64 (a1.2.2.1-e3_)),());bif(p172 e1_)then(bif(p172 e2_)then(some ((f172 e1_).1,(f172 e2_).1,e3_,()))else none)else none
theorem bDN(x:DenS Qe):run (cf [(256,⟨Qo,Sl,p172,f172⟩)] []) 9 255 Tryz.f255 Qe R9 x=aRl p172 f172 x.1 x.2.1:=by kernel_rfl
def aGW(x:DenS Qe):Option (DenS R9):=aRl lG.pre lG.F x.1 x.2.1
def lC:Sum:=Aj Qe R9 aGW (DenS.dflt R9)
theorem aT2:Sound Tryz.prog G1 255 lC:=sd (cf [(256,lG)] []) 255 Tryz.f255 ⟨aUd,ak⟩ trivial Qe R9 aGW _ (fun _=>bDN ..)
abbrev aI6:=Ah Qe
abbrev aKE:=Ag Qe R9
variable (p142:aI6)(f142:aKE)
abbrev P3:Aa:=[(true,Zs),(true,Zs)]
abbrev RY:Aa:=[(true,Zs)]
def aRa(p142:aI6)(f142:aKE)(p143:OZ)(f143:O7)(p144:Jv)(f144:Jy)(p145:XV)(f145:X5)(p100:dK)(f100:eC)(a0 a1:Ab Zs):Option (DenS RY):=let e5_:=((f142 ((a0.1,a0.2),(a1.1,a1.2),())).1,(f142 ((a0.1,a0.2),(a1.1,a1.2),())).2.1,());let e1_:=((a0.1,(f143 e5_).1,(f142 ((a0.1,a0.2),(a1.1,a1.2),())).2.2),());let e6_:=((f142 ((a0.1,a0.2),(a1.1,a1.2),())).2.1,(f142 ((a0.1,a0.2),(a1.1,a1.2),())).1,());let e2_:=((a1.1,(f145 e6_).1,(f142 ((a0.1,a0.2),(a1.1,a1.2),())).2.2),());let e3_:=((a0.1,(f145 e5_).1,(f142 ((a0.1,a0.2),(a1.1,a1.2),())).2.2),());let e4_:=e5_;bif((a0.2.1.length:Int)==(0:Int))then(some ((a1.1,a1.2),()))else bif((a1.2.1.length:Int)==(0:Int))then(some ((a0.1,a0.2),()))else bif(p142 ((a0.1,a0.2),(a1.1,a1.2),()))then(bif(a0.1==a1.1)then(bif(p143 e4_)then(bif(p100 e1_)then(some (f100 e1_))else none)else none)else bif(p144 e4_)then(bif(decide ((f144 e4_).1<(0:Int)))then(bif(p145 e6_)then(bif(p100 e2_)then(some (f100 e2_))else none)else none)else bif(p145 e4_)then(bif(p100 e3_)then(some (f100 e3_))else none)else none)else none)else none
theorem bDh(x:DenS P3):run (cf [(255,⟨Qe,R9,p142,f142⟩),(65,⟨If,Hp,p143,f143⟩),(101,⟨Gm,Gy,p144,f144⟩),(248,⟨Kf,KF,p145,f145⟩),(252,⟨Ib,Is,p100,f100⟩)] []) 9 251 Tryz.f251 P3 RY x=aRa p142 f142 p143 f143 p144 f144 p145 f145 p100 f100 x.1 x.2.1:=by kernel_rfl
def aGD(x:DenS P3):Option (DenS RY):=aRa lC.pre lC.F Dx.pre Dx.F B1.pre B1.F Ed.pre Ed.F GJ.pre GJ.F x.1 x.2.1
def kZ:Sum:=Aj P3 RY aGD (DenS.dflt RY)
theorem aTR:Sound Tryz.prog G1 251 kZ:=sd (cf [(255,lC),(65,Dx),(101,B1),(248,Ed),(252,GJ)] []) 251 Tryz.f251 ⟨aT2,aAH,lD,aFZ,kY,ak⟩ trivial P3 RY aGD _ (fun _=>bDh ..)
abbrev aIY:=Ah P3
abbrev aKw:=Ag P3 RY
variable (p101:aIY)(f101:aKw)
abbrev RN:Aa:=[(true,Zs),(true,Zs)]
abbrev TK:Aa:=[(true,Zs),(false,Za)]
def t49(p99:Y99)(f99:Z99)(p100:dK)(f100:eC)(p101:aIY)(f101:aKw)(p104:rD)(f104:r5)(a0 a1:Ab Zs):Option (DenS TK):=let e2_:=((f100 ((a0.1,a0.2),())).1,(f100 ((a1.1,a1.2),())));let e1_:=(f101 e2_);bif(p99 ((a0.1,a0.2),(a1.1,a1.2),()))then(bif((f99 ((a0.1,a0.2),(a1.1,a1.2),())).1 !=(0:Int))then(some ((false,[],(0:Int),()),(f99 ((a0.1,a0.2),(a1.1,a1.2),()))))else bif(p100 ((a0.1,a0.2),()))then(bif(p100 ((a1.1,a1.2),()))then(bif(p101 e2_)then(bif(p104 e1_)then(some (f104 e1_))else none)else none)else none)else none)else none
theorem r49(x:DenS RN):run (cf [(249,⟨ML,Nq,p99,f99⟩),(252,⟨Ib,Is,p100,f100⟩),(251,⟨P3,RY,p101,f101⟩),(250,⟨J7,Kw,p104,f104⟩)] []) 9 239 Tryz.f239 RN TK x=t49 p99 f99 p100 f100 p101 f101 p104 f104 x.1 x.2.1:=by kernel_rfl
def T49(x:DenS RN):Option (DenS TK):=t49 VE.pre VE.F GJ.pre GJ.F kZ.pre kZ.F K8.pre K8.F x.1 x.2.1
def mQ:Sum:=Aj RN TK T49 (DenS.dflt TK)
theorem aVx:Sound Tryz.prog G1 239 mQ:=sd (cf [(249,VE),(252,GJ),(251,kZ),(250,K8)] []) 239 Tryz.f239 ⟨aGA,kY,aTR,aAB,ak⟩ trivial RN TK T49 _ (fun _=>r49 ..)
abbrev Y49:=Ah RN
abbrev Z49:=Ag RN TK
variable (p49:Y49)(f49:Z49)
abbrev P4:Aa:=[(true,Zs)]
abbrev RZ:Aa:=[(true,Zs),(false,Za)]
def aRd(p103:aBn)(f103:aB1)(p104:rD)(f104:r5)(a0:Ab Zs):Option (DenS RZ):=bif(p103 ((a0.1,a0.2),()))then(bif((f103 ((a0.1,a0.2),())).1 !=(0:Int))then(some ((false,[],(0:Int),()),(f103 ((a0.1,a0.2),()))))else bif(p104 ((a0.1,a0.2),()))then(some (f104 ((a0.1,a0.2),())))else none)else none
theorem bDm(x:DenS P4):run (cf [(253,⟨Mb,MN,p103,f103⟩),(250,⟨J7,Kw,p104,f104⟩)] []) 9 246 Tryz.f246 P4 RZ x=aRd p103 f103 p104 f104 x.1:=by kernel_rfl
def aGJ(x:DenS P4):Option (DenS RZ):=aRd Vv.pre Vv.F K8.pre K8.F x.1
def k8:Sum:=Aj P4 RZ aGJ (DenS.dflt RZ)
theorem aTS:Sound Tryz.prog G1 246 k8:=sd (cf [(253,Vv),(250,K8)] []) 246 Tryz.f246 ⟨aFP,aAB,ak⟩ trivial P4 RZ aGJ _ (fun _=>bDm ..)
abbrev aIZ:=Ah P4
abbrev aKx:=Ag P4 RZ
variable (p106:aIZ)(f106:aKx)
abbrev Kp:Aa:=[(false,Za),(false,Za),(true,Zs)]
abbrev KS:Aa:=[(false,Zb),(false,Za),(false,Za)]
def t51(p105:XS)(f105:X2)(p106:aIZ)(f106:aKx)(p107:XT)(f107:X3)(a0 a1:Ab Za)(a2:Ab Zs):Option (DenS KS):=let e2_:=(((f106 ((a2.1,a2.2),())).1.1,(f106 ((a2.1,a2.2),())).1.2.1,(f106 ((a2.1,a2.2),())).1.2.2.1,false,()),a0,(f105 (a0,a1,())).1,a1,());let e1_:=(f107 e2_);bif(p105 (a0,a1,()))then(bif((f105 (a0,a1,())).2.1 !=(0:Int))then(some ((0:Int),(0:Int),(f105 (a0,a1,())).2))else bif(p106 ((a2.1,a2.2),()))then(bif((f106 ((a2.1,a2.2),())).2.1 !=(0:Int))then(some ((0:Int),(0:Int),(f106 ((a2.1,a2.2),())).2))else bif(((f106 ((a2.1,a2.2),())).1.2.1.length:Int)==(0:Int))then(some ((0:Int),(0:Int),(0:Int),()))else bif(p107 e2_)then(some (e1_.1,e1_.2.1,(0:Int),()))else none)else none)else none
theorem r51(x:DenS Kp):run (cf [(121,⟨J8,Kx,p105,f105⟩),(246,⟨P4,RZ,p106,f106⟩),(124,⟨J9,Ky,p107,f107⟩)] []) 9 231 Tryz.f231 Kp KS x=t51 p105 f105 p106 f106 p107 f107 x.1 x.2.1 x.2.2.1:=by kernel_rfl
def T51(x:DenS Kp):Option (DenS KS):=t51 FU.pre FU.F k8.pre k8.F FV.pre FV.F x.1 x.2.1 x.2.2.1
def Ld:Sum:=Aj Kp KS T51 (DenS.dflt KS)
theorem aAT:Sound Tryz.prog G1 231 Ld:=sd (cf [(121,FU),(246,k8),(124,FV)] []) 231 Tryz.f231 ⟨aAC,aTS,aAD,ak⟩ trivial Kp KS T51 _ (fun _=>r51 ..)
abbrev rY:=Ah Kp
abbrev sR:=Ag Kp KS
variable (p51:rY)(f51:sR)
abbrev Q3:Aa:=[(false,Za),(false,Za),(true,ZF),(true,ZF)]
abbrev S3:Aa:=[(false,Zb),(false,Za),(false,Za)]
def aRO(p70:DA)(f70:DB)(p97:O5)(f97:Pd)(p49:Y49)(f49:Z49)(p47:Y47)(f47:Z47)(p118:GX)(f118:GY)(p51:rY)(f51:sR)(a0 a1:Ab Za)(a2:Ab ZF)(a3:Ab ZF):Option (DenS S3):=let e1_:=(a0,a1,(f49 (a2.2.2.2.2.2.1,a3.2.2.2.2.2)).1,());let e2_:=((f70 (a0,())).1,(1:Int),(0:Int),());bif(p70 (a0,()))then(bif(((a2.2.1||a3.2.1)||a2.2.2.1)||a3.2.2.1)then(some e2_)else bif(a2.1||a3.1)then(some ((f70 (a0,())).1,(0:Int),(0:Int),()))else bif((a2.2.2.2.1&&a3.2.2.2.1)&&(!(a2.2.2.2.2.1==a3.2.2.2.2.1)))then(some e2_)else bif a2.2.2.2.1 then(bif(p97 (a0,a2.2.2.2.2.1,()))then(some ((f97 (a0,a2.2.2.2.2.1,())).1,(0:Int),(0:Int),()))else none)else bif a3.2.2.2.1 then(bif(p97 (a0,a3.2.2.2.2.1,()))then(some ((f97 (a0,a3.2.2.2.2.1,())).1,(0:Int),(0:Int),()))else none)else bif(p49 (a2.2.2.2.2.2.1,a3.2.2.2.2.2))then(bif((f49 (a2.2.2.2.2.2.1,a3.2.2.2.2.2)).2.1 !=(0:Int))then(some ((0:Int),(0:Int),(f49 (a2.2.2.2.2.2.1,a3.2.2.2.2.2)).2))else bif(p47 ((f49 (a2.2.2.2.2.2.1,a3.2.2.2.2.2)).1,()))then(bif((f47 ((f49 (a2.2.2.2.2.2.1,a3.2.2.2.2.2)).1,())).1==(0:Int))then(bif(p47 a2.2.2.2.2.2)then(bif((p47 a3.2.2.2.2.2)||(!(decide ((f47 a2.2.2.2.2.2).1=(0:Int)))))then(bif((((f47 a2.2.2.2.2.2).1==(0:Int))&&((f47 a3.2.2.2.2.2).1==(0:Int)))&&(a2.2.2.2.2.1==a3.2.2.2.2.1))then(bif(p118 (a0,a2.2.2.2.2.1,()))then(some ((f118 (a0,a2.2.2.2.2.1,())).1,(0:Int),(0:Int),()))else none)else bif(p118 (a0,(a1==(4:Int)),()))then(some ((f118 (a0,(a1==(4:Int)),())).1,(0:Int),(0:Int),()))else none)else none)else none)else bif(p51 e1_)then(some (f51 e1_))else none)else none)else none)else none
theorem bE4(x:DenS Q3):run (cf [(61,⟨Du,Dv,p70,f70⟩),(62,⟨Hk,Hx,p97,f97⟩),(239,⟨RN,TK,p49,f49⟩),(240,⟨My,Nc,p47,f47⟩),(64,⟨Gk,Gw,p118,f118⟩),(231,⟨Kp,KS,p51,f51⟩)] []) 9 210 Tryz.f210 Q3 S3 x=aRO p70 f70 p97 f97 p49 f49 p47 f47 p118 f118 p51 f51 x.1 x.2.1 x.2.2.1 x.2.2.2.1:=by kernel_rfl
def aHA(x:DenS Q3):Option (DenS S3):=aRO Bh.pre Bh.F CM.pre CM.F mQ.pre mQ.F VC.pre VC.F Cw.pre Cw.F Ld.pre Ld.F x.1 x.2.1 x.2.2.1 x.2.2.2.1
def lZ:Sum:=Aj Q3 S3 aHA (DenS.dflt S3)
theorem aUS:Sound Tryz.prog G1 210 lZ:=sd (cf [(61,Bh),(62,CM),(239,mQ),(240,VC),(64,Cw),(231,Ld)] []) 210 Tryz.f210 ⟨FZ,bN,aVx,aGx,Xp,aAT,ak⟩ trivial Q3 S3 aHA _ (fun _=>bE4 ..)
abbrev aJI:=Ah Q3
abbrev aLg:=Ag Q3 S3
variable (p400:aJI)(f400:aLg)
abbrev Q4:Aa:=[(false,Za),(false,Za),(false,Zb),(false,Zb),(false,Zb)]
abbrev S4:Aa:=[(false,Zb),(false,Za),(false,Za)]
def aRP(p397:aJG)(f397:aLe)(p399:aJH)(f399:aLf)(p398:aBF)(f398:aCj)(p400:aJI)(f400:aLg)(a0 a1:Ab Za)(a2 a3 a4:Ab Zb):Option (DenS S4):=let e1_:=(a0,a1,(f399 (a0,a2,a3,())).1,(f398 (a0,a4,())));let e2_:=(f397 (a0,a1,(a2::(a3::(a4::[]))),()));bif(p397 (a0,a1,(a2::(a3::(a4::[]))),()))then(bif(e2_.1 !=(0:Int))then(some ((0:Int),(0:Int),e2_))else bif(p399 (a0,a2,a3,()))then(bif(p398 (a0,a4,()))then(bif(p400 e1_)then(some (f400 e1_))else none)else none)else none)else none
theorem bE5(x:DenS Q4):run (cf [(209,⟨Q1,SZ,p397,f397⟩),(211,⟨Q2,S2,p399,f399⟩),(212,⟨Ms,M5,p398,f398⟩),(210,⟨Q3,S3,p400,f400⟩)] []) 9 165 Tryz.f165 Q4 S4 x=aRP p397 f397 p399 f399 p398 f398 p400 f400 x.1 x.2.1 x.2.2.1 x.2.2.2.1 x.2.2.2.2.1:=by kernel_rfl
def aHB(x:DenS Q4):Option (DenS S4):=aRP lX.pre lX.F lY.pre lY.F Vy.pre Vy.F lZ.pre lZ.F x.1 x.2.1 x.2.2.1 x.2.2.2.1 x.2.2.2.2.1
def mA:Sum:=Aj Q4 S4 aHB (DenS.dflt S4)
theorem aUT:Sound Tryz.prog G1 165 mA:=sd (cf [(209,lX),(211,lY),(212,Vy),(210,lZ)] []) 165 Tryz.f165 ⟨aUQ,aUR,aGe,aUS,ak⟩ trivial Q4 S4 aHB _ (fun _=>bE5 ..)
abbrev aJJ:=Ah Q4
abbrev aLh:=Ag Q4 S4
variable (p401:aJJ)(f401:aLh)
abbrev Q5:Aa:=[(true,Zz)]
abbrev S5:Aa:=[(false,Zb),(false,Za),(false,Za)]
def aRQ(p401:aJJ)(f401:aLh)(a0:Ab Zz):Option (DenS S5):=bif(p401 (a0.2.1,a0.1,a0.2.2))then(some (f401 (a0.2.1,a0.1,a0.2.2)))else none
theorem bE6(x:DenS Q5):run (cf [(165,⟨Q4,S4,p401,f401⟩)] []) 9 164 Tryz.f164 Q5 S5 x=aRQ p401 f401 x.1:=by kernel_rfl
def aHC(x:DenS Q5):Option (DenS S5):=aRQ mA.pre mA.F x.1
def aZ:Sum:=Aj Q5 S5 aHC (DenS.dflt S5)
theorem aGf:Sound Tryz.prog G1 164 aZ:=sd (cf [(165,mA)] []) 164 Tryz.f164 ⟨aUT,ak⟩ trivial Q5 S5 aHC _ (fun _=>bE6 ..)
abbrev aBG:=Ah Q5
abbrev aCk:=Ag Q5 S5
variable (p402:aBG)(f402:aCk)
abbrev Km:Aa:=[(false,Za),(false,Za)]
abbrev KN:Aa:=[(false,Za)]
def aRR(p69:BS)(f69:BT)(a0 a1:Ab Za):Option (DenS KN):=bif(p69 (a0,()))then(bif((f69 (a0,())).2.1 !=(0:Int))then(some (f69 (a0,())).2)else bif((decide (a1<(0:Int)))||(decide (a1>(5:Int))))then(some ((3:Int),()))else some ((0:Int),()))else none
theorem bE7(x:DenS Km):run (cf [(71,⟨B6,B7,p69,f69⟩)] []) 9 215 Tryz.f215 Km KN x=aRR p69 f69 x.1 x.2.1:=by kernel_rfl
def aHD(x:DenS Km):Option (DenS KN):=aRR Ap.pre Ap.F x.1 x.2.1
def Lb:Sum:=Aj Km KN aHD (DenS.dflt KN)
theorem aAM:Sound Tryz.prog G1 215 Lb:=sd (cf [(71,Ap)] []) 215 Tryz.f215 ⟨D1,ak⟩ trivial Km KN aHD _ (fun _=>bE7 ..)
abbrev rR:=Ah Km
abbrev sK:=Ag Km KN
variable (p403:rR)(f403:sK)
abbrev Mt:Aa:=[(false,Za),(false,Zb)]
abbrev M6:Aa:=[(true,Zn)]
def aRS(p69:BS)(f69:BT)(p98:Lu)(f98:Ly)(a0:Ab Za)(a1:Ab Zb):Option (DenS M6):=let e1_:=(al .i64 ((al .i64 ((f69 (a0,())).1.2.2.1-(f69 (a0,())).1.2.1))+(1:Int)));let e2_:=(al .i64 ((f69 (a0,())).1.2.1-(1:Int)));bif(p69 (a0,()))then(bif(p98 (a0,a1,()))then(bif(decide ((f98 (a0,a1,())).2.1>(0:Int)))then(bif(decide ((0:Int)<=e2_))then(some (((f98 (a0,a1,())).1,(Ao .u64 (f98 (a0,a1,())).2.2.1 (Bk .u64 (1:Int) e2_)),(al .i64 (e1_+(al .i64 ((al .i64 (f98 (a0,a1,())).2.1)-(1:Int))))),()),()))else none)else some (((f98 (a0,a1,())).1,(f98 (a0,a1,())).2.2.1,e1_,()),()))else none)else none
theorem bE8(x:DenS Mt):run (cf [(71,⟨B6,B7,p69,f69⟩),(91,⟨FG,FR,p98,f98⟩)] []) 9 216 Tryz.f216 Mt M6 x=aRS p69 f69 p98 f98 x.1 x.2.1:=by kernel_rfl
def aHE(x:DenS Mt):Option (DenS M6):=aRS Ap.pre Ap.F Cs.pre Cs.F x.1 x.2.1
def Vz:Sum:=Aj Mt M6 aHE (DenS.dflt M6)
theorem aGg:Sound Tryz.prog G1 216 Vz:=sd (cf [(71,Ap),(91,Cs)] []) 216 Tryz.f216 ⟨D1,VD,ak⟩ trivial Mt M6 aHE _ (fun _=>bE8 ..)
abbrev aBH:=Ah Mt
abbrev aCl:=Ag Mt M6
variable (p404:aBH)(f404:aCl)
abbrev Mu:Aa:=[(false,Za),(true,Zn)]
abbrev M7:Aa:=[(false,Zb),(false,.bool)]
def aRT(a0:Ab Za)(a1:Ab Zn):Option (DenS M7):=let e10_:=(al .i64 ((0:Int)-a1.2.2.1));let e9_:=(if((63:Int)<e10_)then(63:Int)else e10_);let e8_:=(AR .u64 a1.2.1 e9_);let e1_:=(al .u64 (a1.2.1-(Bk .u64 e8_ e9_)));let e2_:=((al .u64 (e8_+(1:Int))),true,());let e3_:=(Bk .u64 (1:Int) (al .i64 (e9_-(1:Int))));let e4_:=(ii e8_ (2:Int));let e5_:=(e8_,true,());let e6_:=(decide ((0:Int)<=e9_));let e7_:=e9_;bif e6_ then(bif e6_ then(bif(e1_==(0:Int))then(some ((AR .u64 a1.2.1 e7_),false,()))else bif(decide ((0:Int)<=(al .i64 (e7_-(1:Int)))))then(bif(a0==(0:Int))then(bif((decide (e1_>e3_))||((e1_==e3_)&&(e4_==(1:Int))))then(some e2_)else some e5_)else bif(a0==(1:Int))then(bif(decide (e1_>=e3_))then(some e2_)else some e5_)else bif(a0==(3:Int))then(bif(!a1.1)then(some e2_)else some e5_)else bif(a0==(4:Int))then(bif a1.1 then(some e2_)else some e5_)else bif(a0==(5:Int))then(bif(e4_==(0:Int))then(some e2_)else some e5_)else some e5_)else none)else none)else none
theorem bE9(x:DenS Mu):run (cf [] []) 9 217 Tryz.f217 Mu M7 x=aRT x.1 x.2.1:=by kernel_rfl
def aHF(x:DenS Mu):Option (DenS M7):=aRT x.1 x.2.1
def VA:Sum:=Aj Mu M7 aHF (DenS.dflt M7)
theorem aGh:Sound Tryz.prog G1 217 VA:=sd (cf [] []) 217 Tryz.f217 trivial trivial Mu M7 aHF _ (fun _=>bE9 ..)
abbrev aBI:=Ah Mu
abbrev aCm:=Ag Mu M7
variable (p405:aBI)(f405:aCm)
abbrev Q6:Aa:=[(false,Za),(false,Za),(false,Zb),(false,.bool)]
abbrev M8:Aa:=[(false,Zb),(false,Za),(false,Za)]
def aRU(p403:rR)(f403:sK)(p65:D3)(f65:D4)(p70:DA)(f70:DB)(p404:aBH)(f404:aCl)(p405:aBI)(f405:aCm)(p122:F4)(f122:F5)(a0 a1:Ab Za)(a2:Ab Zb)(a3:Ab (.bool)):Option (DenS M8):=let e7_:=(a0,a1,(f404 (a0,a2,())).1.1,((0:Int),(f405 (a1,(f404 (a0,a2,())))).1,()),(0:Int),false,());let e6_:=(f122 e7_);let e1_:=(e6_.1,(16:Int),e6_.2.2);let e2_:=(e6_.1,(0:Int),e6_.2.2);let e3_:=(p122 e7_);let e4_:=(decide ((f404 (a0,a2,())).1.2.2.1>=(0:Int)));let e5_:=((f405 (a1,(f404 (a0,a2,())))).2.1&&a3);let g1_:Option (DenS M8):=bif(p404 (a0,a2,()))then(bif e4_ then(some (a2,(0:Int),(0:Int),()))else bif(p405 (a1,(f404 (a0,a2,()))))then(bif e5_ then(bif e3_ then(some e1_)else none)else bif e3_ then(some e2_)else none)else none)else none;bif(p403 (a0,a1,()))then(bif((f403 (a0,a1,())).1 !=(0:Int))then(some ((0:Int),(0:Int),(f403 (a0,a1,()))))else bif(p65 (a0,a2,()))then(bif((f65 (a0,a2,())).2.1 !=(0:Int))then(some ((0:Int),(0:Int),(f65 (a0,a2,())).2))else bif(p70 (a0,()))then(bif((f65 (a0,a2,())).1==(0:Int))then(some ((f70 (a0,())).1,(1:Int),(0:Int),()))else bif((f65 (a0,a2,())).1==(1:Int))then(some ((f70 (a0,())).1,(0:Int),(0:Int),()))else bif((f65 (a0,a2,())).1==(2:Int))then(bif((f65 (a0,a2,())).1==(2:Int))then(some (a2,(0:Int),(0:Int),()))else g1_)else bif((f65 (a0,a2,())).1==(9:Int))then(bif((f65 (a0,a2,())).1==(9:Int))then(some (a2,(0:Int),(0:Int),()))else g1_)else bif((f65 (a0,a2,())).1==(5:Int))then(bif((f65 (a0,a2,())).1==(5:Int))then(some (a2,(0:Int),(0:Int),()))else g1_)else bif((f65 (a0,a2,())).1==(6:Int))then(some (a2,(0:Int),(0:Int),()))else g1_)else none)else none)else none
theorem bFa(x:DenS Q6):run (cf [(215,⟨Km,KN,p403,f403⟩),(59,⟨DW,DX,p65,f65⟩),(61,⟨Du,Dv,p70,f70⟩),(216,⟨Mt,M6,p404,f404⟩),(217,⟨Mu,M7,p405,f405⟩),(104,⟨Gl,Gx,p122,f122⟩)] []) 9 170 Tryz.f170 Q6 M8 x=aRU p403 f403 p65 f65 p70 f70 p404 f404 p405 f405 p122 f122 x.1 x.2.1 x.2.2.1 x.2.2.2.1:=by kernel_rfl
def aHG(x:DenS Q6):Option (DenS M8):=aRU Lb.pre Lb.F Bs.pre Bs.F Bh.pre Bh.F Vz.pre Vz.F VA.pre VA.F C1.pre C1.F x.1 x.2.1 x.2.2.1 x.2.2.2.1
def mB:Sum:=Aj Q6 M8 aHG (DenS.dflt M8)
theorem aUU:Sound Tryz.prog G1 170 mB:=sd (cf [(215,Lb),(59,Bs),(61,Bh),(216,Vz),(217,VA),(104,C1)] []) 170 Tryz.f170 ⟨aAM,HH,FZ,aGg,aGh,Xq,ak⟩ trivial Q6 M8 aHG _ (fun _=>bFa ..)
abbrev aJK:=Ah Q6
abbrev aLi:=Ag Q6 M8
variable (p406:aJK)(f406:aLi)
abbrev Q7:Aa:=[(true,Zz)]
abbrev S6:Aa:=[(false,Zb),(false,Za),(false,Za)]
def aRV(p406:aJK)(f406:aLi)(a0:Ab Zz):Option (DenS S6):=bif(p406 (a0.2.1,a0.1,a0.2.2.1,true,()))then(some (f406 (a0.2.1,a0.1,a0.2.2.1,true,())))else none
theorem bFb(x:DenS Q7):run (cf [(170,⟨Q6,M8,p406,f406⟩)] []) 9 169 Tryz.f169 Q7 S6 x=aRV p406 f406 x.1:=by kernel_rfl
def aHH(x:DenS Q7):Option (DenS S6):=aRV mB.pre mB.F x.1
def bA:Sum:=Aj Q7 S6 aHH (DenS.dflt S6)
theorem aGi:Sound Tryz.prog G1 169 bA:=sd (cf [(170,mB)] []) 169 Tryz.f169 ⟨aUU,ak⟩ trivial Q7 S6 aHH _ (fun _=>bFb ..)
abbrev aBJ:=Ah Q7
abbrev aCn:=Ag Q7 S6
variable (p407:aBJ)(f407:aCn)
abbrev QW:Aa:=[(false,.slice Za),(false,.slice Za),(false,Zb)]
abbrev SW:Aa:=[(false,Za)]
abbrev HC:Pat:=⟨46,[(14,.one (.v .i64)),(13,.one (.sl Za)),(15,.one (.v .i64)),(1,.one (.sl Za)),(0,.one (.sl Za)),(2,.one (.v .u64))],[]⟩
abbrev aM:List (Nat×Shape):=[]
abbrev Lo:List (Nat×Pat):=[(0,⟨46,[(1,.one (.sl Za)),(0,.one (.sl Za)),(2,.one (.v .u64))],[]⟩)]
abbrev K4:Option Pat:=(some ⟨46,[(6,.one (.v .i64))],[]⟩)
abbrev HD:Pat:=⟨46,[(29,.one (.v .i64)),(28,.one (.sl Za)),(30,.one (.v .i64)),(0,.one (.sl Za)),(2,.one (.v .u64))],[]⟩
abbrev aN:List (Nat×Shape):=[]
abbrev Lp:List (Nat×Pat):=[(2,⟨46,[(0,.one (.sl Za)),(2,.one (.v .u64))],[]⟩)]
abbrev K5:Option Pat:=(some ⟨46,[(6,.one (.v .i64))],[]⟩)
variable (w391_2:Pat.D HC->Option (Ad Lo K4))(w391_9:Pat.D HD->Option (Ad Lp K5))
def hZ(p69:BS)(f69:BT)(p66:Cd)(f66:Ce){R:Type}(L:Pat.D HD->Option R)(e:Ad Lp K5->Option R)(x:Pat.D HD):Option R:=let e1_:=(x.1.2.1.getD (aq x.1.2.2.1) (0:Int));bif(decide (x.1.2.2.1<x.1.1))then(bif((decide ((0:Int)<=x.1.2.2.1))&&(decide (x.1.2.2.1<(x.1.2.1.length:Int))))then(bif((decide (e1_<(0:Int)))||(decide (e1_>(5:Int))))then(((e (.inr (((3:Int),()),())))))else(L ((x.1.1,x.1.2.1,(al .i64 (x.1.2.2.1+(1:Int))),x.1.2.2.2),())))else none)else(e (.inl (x.1.2.2.2,())))
theorem bHR(d:Nat)(R:Type)(L:Pat.D HD->Option R)(e:Ad Lp K5->Option R)(x:Pat.D HD):
  Bq (cf [(71,⟨B6,B7,p69,f69⟩),(85,⟨CG,CH,p66,f66⟩)] [(218,2,LoopSpec.of HC aM Lo K4 w391_2),(218,9,LoopSpec.of HD aN Lp K5 w391_9)]) (d+2) 218 (Bp Tryz.f218 9) HD aN Lp K5 (R:=R) L e x=hZ p69 f69 p66 f66 L e x:=by kernel_rfl
theorem bBr(p69:BS)(f69:BT)(p66:Cd)(f66:Ce):Bn fun L e x=>hZ p69 f69 p66 f66 L e x:=by intro _ _ _ _ _ _ _ h0 hL he _;unfold hZ;repeat' (first|exact h0|exact hL _|exact he _|apply By|(apply Bz h0;intro _)|(apply BA<;>intro _))
def g9(p69:BS)(f69:BT)(p66:Cd)(f66:Ce){R:Type}(L:Pat.D HC->Option R)(e:Ad Lo K4->Option R)(x:Pat.D HC):Option R:=let e2_:=((x.1.2.1.getD (aq x.1.2.2.1) (0:Int)),());let e1_:=(f69 e2_);bif(decide (x.1.2.2.1<x.1.1))then(bif((decide ((0:Int)<=x.1.2.2.1))&&(decide (x.1.2.2.1<(x.1.2.1.length:Int))))then(bif(p69 e2_)then(bif(e1_.2.1 !=(0:Int))then(((e (.inr (e1_.2,())))))else(L ((x.1.1,x.1.2.1,(al .i64 (x.1.2.2.1+(1:Int))),x.1.2.2.2),())))else none)else none)else(e (.inl (x.1.2.2.2,())))
theorem bHQ(d:Nat)(R:Type)(L:Pat.D HC->Option R)(e:Ad Lo K4->Option R)(x:Pat.D HC):
  Bq (cf [(71,⟨B6,B7,p69,f69⟩),(85,⟨CG,CH,p66,f66⟩)] [(218,2,LoopSpec.of HC aM Lo K4 w391_2),(218,9,LoopSpec.of HD aN Lp K5 w391_9)]) (d+2) 218 (Bp Tryz.f218 2) HC aM Lo K4 (R:=R) L e x=g9 p69 f69 p66 f66 L e x:=by kernel_rfl
theorem bBq(p69:BS)(f69:BT)(p66:Cd)(f66:Ce):Bn fun L e x=>g9 p69 f69 p66 f66 L e x:=by intro _ _ _ _ _ _ _ h0 hL he _;unfold g9;repeat' (first|exact h0|exact hL _|exact he _|apply By|(apply Bz h0;intro _)|(apply BA<;>intro _))
def aRH(p69:BS)(f69:BT)(p66:Cd)(f66:Ce)(w391_2:Pat.D HC->Option (Ad Lo K4))(w391_9:Pat.D HD->Option (Ad Lp K5))(a0 a1:Ab (.slice Za))(a2:Ab Zb):Option (DenS SW):=
 Vx.AQ (w391_2 (((a0.length:Int),a0,(0:Int),a1,a0,a2,()),())) fun y0=>
 Vx.AP y0 (fun y1=>
 Vx.AQ (w391_9 (((y1.1.1.length:Int),y1.1.1,(0:Int),y1.1.2),())) fun y2=>
 Vx.AP y2 (fun y3=>
 bif(decide ((0:Int)<(y3.1.1.length:Int)))then(bif(p66 ((y3.1.1.getD (aq (0:Int)) (0:Int)),y3.1.2))then(some (f66 ((y3.1.1.getD (aq (0:Int)) (0:Int)),y3.1.2)))
 else none)
 else none) (fun z3=>
 some z3.1)) (fun z1=>
 some z1.1)
theorem bEV(x:DenS QW):run (cf [(71,⟨B6,B7,p69,f69⟩),(85,⟨CG,CH,p66,f66⟩)] [(218,2,LoopSpec.of HC aM Lo K4 w391_2),(218,9,LoopSpec.of HD aN Lp K5 w391_9)]) 9 218 Tryz.f218 QW SW x=aRH p69 f69 p66 f66 w391_2 w391_9 x.1 x.2.1 x.2.2.1:=by kernel_rfl
def aIL:HD.D->Option (Ad Lp K5):=Bi fun L=>hZ Ap.pre Ap.F Av.pre Av.F L some
def aIK:HC.D->Option (Ad Lo K4):=Bi fun L=>g9 Ap.pre Ap.F Av.pre Av.F L some
def aHt(x:DenS QW):Option (DenS SW):=aRH Ap.pre Ap.F Av.pre Av.F aIK aIL x.1 x.2.1 x.2.2.1
def lU:Sum:=Aj QW SW aHt (DenS.dflt SW)
theorem aUN:Sound Tryz.prog G1 218 lU:=sd (cf [(71,Ap),(85,Av)] [(218,2,LoopSpec.of HC aM Lo K4 aIK),(218,9,LoopSpec.of HD aN Lp K5 aIL)]) 218 Tryz.f218 ⟨D1,FY,ak⟩ ⟨rfl,fun d=>Bw (fun L e x=>g9 Ap.pre Ap.F Av.pre Av.F L e x) (bBq Ap.pre Ap.F Av.pre Av.F) (fun _ _ _ _=>bHQ ..),⟨rfl,fun d=>Bw (fun L e x=>hZ Ap.pre Ap.F Av.pre Av.F L e x) (bBr Ap.pre Ap.F Av.pre Av.F) (fun _ _ _ _=>bHR ..),ak⟩⟩ QW SW aHt _ (fun _=>bEV ..)
abbrev aJD:=Ah QW
abbrev aLb:=Ag QW SW
variable (p391:aJD)(f391:aLb)
abbrev QX:Aa:=[(false,Za),(false,Za),(false,Za),(false,Zb)]
abbrev FQ:Aa:=[(false,Zb),(false,Za)]
def aRI(p65:D3)(f65:D4)(p98:Lu)(f98:Ly)(p70:DA)(f70:DB)(p97:O5)(f97:Pd)(p118:GX)(f118:GY)(p40:UP)(f40:UU)(p51:rY)(f51:sR)(a0 a1 a2:Ab Za)(a3:Ab Zb):Option (DenS FQ):=let e5_:=(f51 (a1,a2,(f40 (a0,a3,())).1,()));let e1_:=(e5_.1,e5_.2.1,());let e2_:=((f118 (a1,(f98 (a0,a3,())).1,())).1,(0:Int),());let e3_:=((f97 (a1,(f98 (a0,a3,())).1,())).1,(0:Int),());let e4_:=(p51 (a1,a2,(f40 (a0,a3,())).1,()));let g6_:Option (DenS FQ):=bif(p97 (a1,(f98 (a0,a3,())).1,()))then(some e3_)else none;let g5_:Option (DenS FQ):=bif(p118 (a1,(f98 (a0,a3,())).1,()))then(some e2_)else none;let g4_:Option (DenS FQ):=bif(p40 (a0,a3,()))then(bif e4_ then(some e1_)else none)else none;let g2_:Option (DenS FQ):=bif((f65 (a0,a3,())).1==(6:Int))then(bif((f65 (a0,a3,())).1==(6:Int))then(g5_)else g4_)else bif((f65 (a0,a3,())).1==(5:Int))then(g5_)else g4_;let g1_:Option (DenS FQ):=bif((f65 (a0,a3,())).1==(9:Int))then(bif((f65 (a0,a3,())).1==(9:Int))then(g6_)else g2_)else bif((f65 (a0,a3,())).1==(2:Int))then(g6_)else g2_;let g3_:Option (DenS FQ):=bif(p70 (a1,()))then(bif((f65 (a0,a3,())).1==(0:Int))then(some ((f70 (a1,())).1,(1:Int),()))else some ((f70 (a1,())).1,(0:Int),()))else none;bif(p65 (a0,a3,()))then(bif(p98 (a0,a3,()))then(bif((f65 (a0,a3,())).1==(0:Int))then(bif((f65 (a0,a3,())).1==(0:Int))then(g3_)else g1_)else bif((f65 (a0,a3,())).1==(1:Int))then(g3_)else g1_)else none)else none
theorem bEW(x:DenS QX):run (cf [(59,⟨DW,DX,p65,f65⟩),(91,⟨FG,FR,p98,f98⟩),(61,⟨Du,Dv,p70,f70⟩),(62,⟨Hk,Hx,p97,f97⟩),(64,⟨Gk,Gw,p118,f118⟩),(203,⟨Hf,Hr,p40,f40⟩),(231,⟨Kp,KS,p51,f51⟩)] []) 9 219 Tryz.f219 QX FQ x=aRI p65 f65 p98 f98 p70 f70 p97 f97 p118 f118 p40 f40 p51 f51 x.1 x.2.1 x.2.2.1 x.2.2.2.1:=by kernel_rfl
def aHu(x:DenS QX):Option (DenS FQ):=aRI Bs.pre Bs.F Cs.pre Cs.F Bh.pre Bh.F CM.pre CM.F Cw.pre Cw.F DY.pre DY.F Ld.pre Ld.F x.1 x.2.1 x.2.2.1 x.2.2.2.1
def lV:Sum:=Aj QX FQ aHu (DenS.dflt FQ)
theorem aUO:Sound Tryz.prog G1 219 lV:=sd (cf [(59,Bs),(91,Cs),(61,Bh),(62,CM),(64,Cw),(203,DY),(231,Ld)] []) 219 Tryz.f219 ⟨HH,VD,FZ,bN,Xp,bC,aAT,ak⟩ trivial QX FQ aHu _ (fun _=>bEW ..)
abbrev aJE:=Ah QX
abbrev aLc:=Ag QX FQ
variable (p392:aJE)(f392:aLc)
abbrev QY:Aa:=[(false,Za),(false,Za),(false,Za),(false,Zb)]
abbrev SX:Aa:=[(false,Zb),(false,Za),(false,Za)]
def aRJ(p391:aJD)(f391:aLb)(p392:aJE)(f392:aLc)(a0 a1 a2:Ab Za)(a3:Ab Zb):Option (DenS SX):=let e1_:=(f391 ((a0::(a1::[])),(a2::[]),a3,()));bif(p391 ((a0::(a1::[])),(a2::[]),a3,()))then(bif(e1_.1 !=(0:Int))then(some ((0:Int),(0:Int),e1_))else bif(p392 (a0,a1,a2,a3,()))then(some ((f392 (a0,a1,a2,a3,())).1,(f392 (a0,a1,a2,a3,())).2.1,(0:Int),()))else none)else none
theorem bEX(x:DenS QY):run (cf [(218,⟨QW,SW,p391,f391⟩),(219,⟨QX,FQ,p392,f392⟩)] []) 9 172 Tryz.f172 QY SX x=aRJ p391 f391 p392 f392 x.1 x.2.1 x.2.2.1 x.2.2.2.1:=by kernel_rfl
def aHv(x:DenS QY):Option (DenS SX):=aRJ lU.pre lU.F lV.pre lV.F x.1 x.2.1 x.2.2.1 x.2.2.2.1
def lW:Sum:=Aj QY SX aHv (DenS.dflt SX)
theorem aUP:Sound Tryz.prog G1 172 lW:=sd (cf [(218,lU),(219,lV)] []) 172 Tryz.f172 ⟨aUN,aUO,ak⟩ trivial QY SX aHv _ (fun _=>bEX ..)
abbrev aJF:=Ah QY
abbrev aLd:=Ag QY SX
variable (p393:aJF)(f393:aLd)
abbrev Q8:Aa:=[(true,Zz)]
abbrev S7:Aa:=[(false,Zb),(false,Za),(false,Za)]
def aRW(p393:aJF)(f393:aLd)(a0:Ab Zz):Option (DenS S7):=let e1_:=(a0.2.1,(al .i64 a0.2.2.2.2.1),a0.1,a0.2.2.1,());bif(p393 e1_)then(some (f393 e1_))else none
theorem bFc(x:DenS Q8):run (cf [(172,⟨QY,SX,p393,f393⟩)] []) 9 171 Tryz.f171 Q8 S7 x=aRW p393 f393 x.1:=by kernel_rfl
def aHI(x:DenS Q8):Option (DenS S7):=aRW lW.pre lW.F x.1
def bB:Sum:=Aj Q8 S7 aHI (DenS.dflt S7)
theorem aGj:Sound Tryz.prog G1 171 bB:=sd (cf [(172,lW)] []) 171 Tryz.f171 ⟨aUP,ak⟩ trivial Q8 S7 aHI _ (fun _=>bFc ..)
abbrev aBK:=Ah Q8
abbrev aCo:=Ag Q8 S7
variable (p408:aBK)(f408:aCo)
abbrev Q9:Aa:=[(true,Zj),(false,.bool)]
abbrev S8:Aa:=[(false,Zb)]
def aRX(a0:Ab Zj)(a1:Ab (.bool)):Option (DenS S8):=bif a1 then(some ((al .u64 ((0:Int)-a0.1)),()))else some a0.2
theorem bFd(x:DenS Q9):run (cf [] []) 9 220 Tryz.f220 Q9 S8 x=aRX x.1 x.2.1:=by kernel_rfl
def aHJ(x:DenS Q9):Option (DenS S8):=aRX x.1 x.2.1
def mC:Sum:=Aj Q9 S8 aHJ (DenS.dflt S8)
theorem aUV:Sound Tryz.prog G1 220 mC:=sd (cf [] []) 220 Tryz.f220 trivial trivial Q9 S8 aHJ _ (fun _=>bFd ..)
abbrev aJL:=Ah Q9
abbrev aLj:=Ag Q9 S8
variable (p409:aJL)(f409:aLj)
abbrev Rb:Aa:=[(false,Za),(false,Za),(false,Za),(false,Zb)]
abbrev M9:Aa:=[(false,Zb),(false,Za),(false,Za)]
def aRZ(p403:rR)(f403:sK)(p65:D3)(f65:D4)(p404:aBH)(f404:aCl)(p405:aBI)(f405:aCm)(p178:Jw)(f178:Jz)(p409:aJL)(f409:aLj)(a0 a1 a2:Ab Za)(a3:Ab Zb):Option (DenS M9):=let e18_:=(Bk .u64 (f404 (a0,a3,())).1.2.1 (f404 (a0,a3,())).1.2.2.1);let e19_:=(Vx.k_kinds.getD (aq a2) ((0:Int),(0:Int),()));let e1_:=(((!(f404 (a0,a3,())).1.1)&&(decide (e18_>e19_.2.1)))||((f404 (a0,a3,())).1.1&&(decide (e18_>e19_.1))));let e2_:=(((!(f404 (a0,a3,())).1.1)&&(decide ((f405 (a1,(f404 (a0,a3,())))).1>e19_.2.1)))||((f404 (a0,a3,())).1.1&&(decide ((f405 (a1,(f404 (a0,a3,())))).1>e19_.1))));let e3_:=((al .u64 ((0:Int)-e18_)),(0:Int),(0:Int),());let e4_:=((al .u64 ((0:Int)-e19_.1)),(1:Int),(0:Int),());let e16_:=(e19_,(f404 (a0,a3,())).1.1,());let e5_:=((f409 e16_).1,(1:Int),(0:Int),());let e6_:=(decide ((al .i64 ((f178 ((f404 (a0,a3,())).1.2.1,())).1+(f404 (a0,a3,())).1.2.2.1))>(64:Int)));let e17_:=(al .u64 ((0:Int)-(f405 (a1,(f404 (a0,a3,())))).1));let e7_:=(e17_,(16:Int),(0:Int),());let e8_:=(e17_,(0:Int),(0:Int),());let e9_:=(e18_,(0:Int),(0:Int),());let e10_:=(p409 e16_);let e11_:=(e19_.2.1,(1:Int),(0:Int),());let e12_:=((f405 (a1,(f404 (a0,a3,())))).1,(16:Int),(0:Int),());let e13_:=((f405 (a1,(f404 (a0,a3,())))).1,(0:Int),(0:Int),());let e14_:=(decide ((f404 (a0,a3,())).1.2.2.1<(0:Int)));let e15_:=(decide ((0:Int)<=(f404 (a0,a3,())).1.2.2.1));let g1_:Option (DenS M9):=bif((f65 (a0,a3,())).1==(2:Int))then(some e4_)else bif(p404 (a0,a3,()))then(bif e14_ then(bif(p405 (a1,(f404 (a0,a3,()))))then(bif e2_ then(bif e10_ then(some e5_)else none)else bif(f404 (a0,a3,())).1.1 then(bif(f405 (a1,(f404 (a0,a3,())))).2.1 then(some e7_)else some e8_)else bif(f405 (a1,(f404 (a0,a3,())))).2.1 then(some e12_)else some e13_)else none)else bif(p178 ((f404 (a0,a3,())).1.2.1,()))then(bif e6_ then(bif e10_ then(some e5_)else none)else bif e15_ then(bif e1_ then(bif e10_ then(some e5_)else none)else bif(f404 (a0,a3,())).1.1 then(some e3_)else some e9_)else none)else none)else none;bif(p403 (a0,a1,()))then(bif((f403 (a0,a1,())).1 !=(0:Int))then(some ((0:Int),(0:Int),(f403 (a0,a1,()))))else bif((decide (a2<(0:Int)))||(decide (a2>(3:Int))))then(some ((0:Int),(0:Int),(9:Int),()))else bif(p65 (a0,a3,()))then(bif((f65 (a0,a3,())).2.1 !=(0:Int))then(some ((0:Int),(0:Int),(f65 (a0,a3,())).2))else bif(bif(decide ((0:Int)<=a2))then(decide (a2<((4:Nat):Int)))else false)then(bif((f65 (a0,a3,())).1==(0:Int))then(bif((f65 (a0,a3,())).1==(0:Int))then(some e11_)else g1_)else bif((f65 (a0,a3,())).1==(1:Int))then(bif((f65 (a0,a3,())).1==(1:Int))then(some e11_)else g1_)else bif((f65 (a0,a3,())).1==(9:Int))then(some e11_)else g1_)else none)else none)else none
theorem bFf(x:DenS Rb):run (cf [(215,⟨Km,KN,p403,f403⟩),(59,⟨DW,DX,p65,f65⟩),(216,⟨Mt,M6,p404,f404⟩),(217,⟨Mu,M7,p405,f405⟩),(115,⟨Gp,FO,p178,f178⟩),(220,⟨Q9,S8,p409,f409⟩)] []) 9 174 Tryz.f174 Rb M9 x=aRZ p403 f403 p65 f65 p404 f404 p405 f405 p178 f178 p409 f409 x.1 x.2.1 x.2.2.1 x.2.2.2.1:=by kernel_rfl
def aHM(x:DenS Rb):Option (DenS M9):=aRZ Lb.pre Lb.F Bs.pre Bs.F Vz.pre Vz.F VA.pre VA.F CL.pre CL.F mC.pre mC.F x.1 x.2.1 x.2.2.1 x.2.2.2.1
def mE:Sum:=Aj Rb M9 aHM (DenS.dflt M9)
theorem aUW:Sound Tryz.prog G1 174 mE:=sd (cf [(215,Lb),(59,Bs),(216,Vz),(217,VA),(115,CL),(220,mC)] []) 174 Tryz.f174 ⟨aAM,HH,aGg,aGh,aU,aUV,ak⟩ trivial Rb M9 aHM _ (fun _=>bFf ..)
abbrev aJN:=Ah Rb
abbrev aLl:=Ag Rb M9
variable (p410:aJN)(f410:aLl)
abbrev Rc:Aa:=[(true,Zz)]
abbrev Ta:Aa:=[(false,Zb),(false,Za),(false,Za)]
def aR0(p410:aJN)(f410:aLl)(a0:Ab Zz):Option (DenS Ta):=let e1_:=(a0.2.1,a0.1,(al .i64 a0.2.2.2.2.1),a0.2.2.1,());bif(p410 e1_)then(some (f410 e1_))else none
theorem bFg(x:DenS Rc):run (cf [(174,⟨Rb,M9,p410,f410⟩)] []) 9 173 Tryz.f173 Rc Ta x=aR0 p410 f410 x.1:=by kernel_rfl
def aHN(x:DenS Rc):Option (DenS Ta):=aR0 mE.pre mE.F x.1
def bD:Sum:=Aj Rc Ta aHN (DenS.dflt Ta)
theorem aGk:Sound Tryz.prog G1 173 bD:=sd (cf [(174,mE)] []) 173 Tryz.f173 ⟨aUW,ak⟩ trivial Rc Ta aHN _ (fun _=>bFg ..)
abbrev aBL:=Ah Rc
abbrev aCp:=Ag Rc Ta
variable (p411:aBL)(f411:aCp)
abbrev Rd:Aa:=[(false,Za),(false,Za),(false,Za),(false,Zb)]
abbrev Tb:Aa:=[(false,Zb),(false,Za),(false,Za)]
def aR1(p403:rR)(f403:sK)(p122:F4)(f122:F5)(a0 a1 a2:Ab Za)(a3:Ab Zb):Option (DenS Tb):=let e8_:=(Vx.k_kinds.getD (aq a2) ((0:Int),(0:Int),()));let e7_:=((decide (e8_.1>(0:Int)))&&((AR .u64 a3 (63:Int))==(1:Int)));let e9_:=(al .u64 ((0:Int)-a3));let e1_:=(a0,a1,e7_,((0:Int),e9_,()),(0:Int),false,());let e2_:=(a0,a1,e7_,((0:Int),a3,()),(0:Int),false,());let e3_:=(!e7_);let e4_:=e7_;let e5_:=e8_;let e6_:=e9_;bif(p403 (a0,a1,()))then(bif((f403 (a0,a1,())).1 !=(0:Int))then(some ((0:Int),(0:Int),(f403 (a0,a1,()))))else bif((decide (a2<(0:Int)))||(decide (a2>(3:Int))))then(some ((0:Int),(0:Int),(9:Int),()))else bif(bif(decide ((0:Int)<=a2))then(decide (a2<((4:Nat):Int)))else false)then(bif e4_ then(bif((e3_&&(decide (e6_>e5_.2.1)))||(e4_&&(decide (e6_>e5_.1))))then(some ((0:Int),(0:Int),(7:Int),()))else bif(p122 e1_)then(some (f122 e1_))else none)else bif((e3_&&(decide (a3>e5_.2.1)))||(e4_&&(decide (a3>e5_.1))))then(some ((0:Int),(0:Int),(7:Int),()))else bif(p122 e2_)then(some (f122 e2_))else none)else none)else none
theorem bFh(x:DenS Rd):run (cf [(215,⟨Km,KN,p403,f403⟩),(104,⟨Gl,Gx,p122,f122⟩)] []) 9 176 Tryz.f176 Rd Tb x=aR1 p403 f403 p122 f122 x.1 x.2.1 x.2.2.1 x.2.2.2.1:=by kernel_rfl
def aHO(x:DenS Rd):Option (DenS Tb):=aR1 Lb.pre Lb.F C1.pre C1.F x.1 x.2.1 x.2.2.1 x.2.2.2.1
def mG:Sum:=Aj Rd Tb aHO (DenS.dflt Tb)
theorem aUX:Sound Tryz.prog G1 176 mG:=sd (cf [(215,Lb),(104,C1)] []) 176 Tryz.f176 ⟨aAM,Xq,ak⟩ trivial Rd Tb aHO _ (fun _=>bFh ..)
abbrev aJO:=Ah Rd
abbrev aLm:=Ag Rd Tb
variable (p412:aJO)(f412:aLm)
abbrev Re:Aa:=[(true,Zz)]
abbrev Tc:Aa:=[(false,Zb),(false,Za),(false,Za)]
def aR2(p412:aJO)(f412:aLm)(a0:Ab Zz):Option (DenS Tc):=let e1_:=(a0.2.1,a0.1,(al .i64 a0.2.2.2.2.1),a0.2.2.1,());bif(p412 e1_)then(some (f412 e1_))else none
theorem bFi(x:DenS Re):run (cf [(176,⟨Rd,Tb,p412,f412⟩)] []) 9 175 Tryz.f175 Re Tc x=aR2 p412 f412 x.1:=by kernel_rfl
def aHP(x:DenS Re):Option (DenS Tc):=aR2 mG.pre mG.F x.1
def bE:Sum:=Aj Re Tc aHP (DenS.dflt Tc)
theorem aGl:Sound Tryz.prog G1 175 bE:=sd (cf [(176,mG)] []) 175 Tryz.f175 ⟨aUX,ak⟩ trivial Re Tc aHP _ (fun _=>bFi ..)
abbrev aBM:=Ah Re
abbrev aCq:=Ag Re Tc
variable (p413:aBM)(f413:aCq)
abbrev Mc:Aa:=[(false,Za),(false,Zb)]
abbrev MO:Aa:=[(false,Zb),(false,Za)]
def aRe(p66:Cd)(f66:Ce)(p115:dM)(f115:eE)(a0:Ab Za)(a1:Ab Zb):Option (DenS MO):=bif(p66 (a0,a1,()))then(bif((f66 (a0,a1,())).1 !=(0:Int))then(some ((0:Int),(f66 (a0,a1,()))))else bif(p115 (a0,()))then(some ((fI .u64 a1 (f115 (a0,())).1),(0:Int),()))else none)else none
theorem bDo(x:DenS Mc):run (cf [(85,⟨CG,CH,p66,f66⟩),(233,⟨Kb,KA,p115,f115⟩)] []) 9 188 Tryz.f188 Mc MO x=aRe p66 f66 p115 f115 x.1 x.2.1:=by kernel_rfl
def aGL(x:DenS Mc):Option (DenS MO):=aRe Av.pre Av.F FW.pre FW.F x.1 x.2.1
def K9:Sum:=Aj Mc MO aGL (DenS.dflt MO)
theorem aAE:Sound Tryz.prog G1 188 K9:=sd (cf [(85,Av),(233,FW)] []) 188 Tryz.f188 ⟨FY,aAF,ak⟩ trivial Mc MO aGL _ (fun _=>bDo ..)
abbrev rE:=Ah Mc
abbrev r6:=Ag Mc MO
variable (p112:rE)(f112:r6)
abbrev Ku:Aa:=[(false,Za),(false,Zb)]
abbrev KX:Aa:=[(true,Zi),(false,Za)]
def t82(p65:D3)(f65:D4)(p112:rE)(f112:r6)(a0:Ab Za)(a1:Ab Zb):Option (DenS KX):=let e1_:=(al .i64 (f112 (a0,a1,())).1);bif(p65 (a0,a1,()))then(bif((f65 (a0,a1,())).2.1 !=(0:Int))then(some (((0:Int),(0:Int),()),(f65 (a0,a1,())).2))else bif(p112 (a0,a1,()))then(bif((f112 (a0,a1,())).1 !=a1)then(some (((f65 (a0,a1,())).1,(al .i64 ((0:Int)-e1_)),()),(0:Int),()))else some (((f65 (a0,a1,())).1,e1_,()),(0:Int),()))else none)else none
theorem r82(x:DenS Ku):run (cf [(59,⟨DW,DX,p65,f65⟩),(188,⟨Mc,MO,p112,f112⟩)] []) 9 228 Tryz.f228 Ku KX x=t82 p65 f65 p112 f112 x.1 x.2.1:=by kernel_rfl
def T82(x:DenS Ku):Option (DenS KX):=t82 Bs.pre Bs.F K9.pre K9.F x.1 x.2.1
def Lf:Sum:=Aj Ku KX T82 (DenS.dflt KX)
theorem aAZ:Sound Tryz.prog G1 228 Lf:=sd (cf [(59,Bs),(188,K9)] []) 228 Tryz.f228 ⟨HH,aAE,ak⟩ trivial Ku KX T82 _ (fun _=>r82 ..)
abbrev d0:=Ah Ku
abbrev eW:=Ag Ku KX
variable (p82:d0)(f82:eW)
abbrev Hg:Aa:=[(true,Zi)]
abbrev Ht:Aa:=[(false,.bool)]
def t53(a0:Ab Zi):Option (DenS Ht):=some (((a0.1==(1:Int))||(a0.1==(0:Int))),())
theorem r53(x:DenS Hg):run (cf [] []) 9 229 Tryz.f229 Hg Ht x=t53 x.1:=by kernel_rfl
def T53(x:DenS Hg):Option (DenS Ht):=t53 x.1
def E7:Sum:=Aj Hg Ht T53 (DenS.dflt Ht)
theorem bL:Sound Tryz.prog G1 229 E7:=sd (cf [] []) 229 Tryz.f229 trivial trivial Hg Ht T53 _ (fun _=>r53 ..)
abbrev VW:=Ah Hg
abbrev V6:=Ag Hg Ht
variable (p53:VW)(f53:V6)
abbrev Hh:Aa:=[(true,Zi),(true,Zi)]
abbrev Hu:Aa:=[(false,Za)]
def t54(a0 a1:Ab Zi):Option (DenS Hu):=bif((a0.1==(0:Int))||(a1.1==(0:Int)))then(some ((1:Int),()))else some ((0:Int),())
theorem r54(x:DenS Hh):run (cf [] []) 9 230 Tryz.f230 Hh Hu x=t54 x.1 x.2.1:=by kernel_rfl
def T54(x:DenS Hh):Option (DenS Hu):=t54 x.1 x.2.1
def E8:Sum:=Aj Hh Hu T54 (DenS.dflt Hu)
theorem bM:Sound Tryz.prog G1 230 E8:=sd (cf [] []) 230 Tryz.f230 trivial trivial Hh Hu T54 _ (fun _=>r54 ..)
abbrev VX:=Ah Hh
abbrev V7:=Ag Hh Hu
variable (p54:VX)(f54:V7)
abbrev RU:Aa:=[(false,Za),(false,Zb),(false,Za)]
abbrev TQ:Aa:=[(false,Zb),(false,Za),(false,Za)]
def t93(p82:d0)(f82:eW)(p53:VW)(f53:V6)(p70:DA)(f70:DB)(p54:VX)(f54:V7)(p64:X0)(f64:Ya)(a0:Ab Za)(a1:Ab Zb)(a2:Ab Za):Option (DenS TQ):=let e4_:=(al .i64 ((f82 (a0,a1,())).1.2.1+a2));let e1_:=(f64 (a0,(al .u64 (al .i64 ((0:Int)-e4_))),()));let e2_:=e4_;let e3_:=((f82 (a0,a1,())).1,(f82 (a0,a1,())).1,());bif(p82 (a0,a1,()))then(bif((f82 (a0,a1,())).2.1 !=(0:Int))then(some ((0:Int),(0:Int),(f82 (a0,a1,())).2))else bif(p53 ((f82 (a0,a1,())).1,()))then(bif(f53 ((f82 (a0,a1,())).1,())).1 then(bif(p70 (a0,()))then(bif(p54 e3_)then(some ((f70 (a0,())).1,(f54 e3_).1,(0:Int),()))else none)else none)else bif((((f82 (a0,a1,())).1.1==(9:Int))&&(decide (a2>(0:Int))))||(((f82 (a0,a1,())).1.1==(2:Int))&&(decide (a2<(0:Int)))))then(some (a1,(0:Int),(0:Int),()))else bif((decide (e2_>(0:Int)))||((e2_==(0:Int))&&(decide (a2<(0:Int)))))then(some ((al .u64 e2_),(0:Int),(0:Int),()))else bif(p64 (a0,(al .u64 (al .i64 ((0:Int)-e2_))),()))then(some (e1_.1,(0:Int),e1_.2))else none)else none)else none
theorem r93(x:DenS RU):run (cf [(228,⟨Ku,KX,p82,f82⟩),(229,⟨Hg,Ht,p53,f53⟩),(61,⟨Du,Dv,p70,f70⟩),(230,⟨Hh,Hu,p54,f54⟩),(187,⟨Kr,KU,p64,f64⟩)] []) 9 227 Tryz.f227 RU TQ x=t93 p82 f82 p53 f53 p70 f70 p54 f54 p64 f64 x.1 x.2.1 x.2.2.1:=by kernel_rfl
def T93(x:DenS RU):Option (DenS TQ):=t93 Lf.pre Lf.F E7.pre E7.F Bh.pre Bh.F E8.pre E8.F Fv.pre Fv.F x.1 x.2.1 x.2.2.1
def mV:Sum:=Aj RU TQ T93 (DenS.dflt TQ)
theorem aVJ:Sound Tryz.prog G1 227 mV:=sd (cf [(228,Lf),(229,E7),(61,Bh),(230,E8),(187,Fv)] []) 227 Tryz.f227 ⟨aAZ,bL,FZ,bM,mT,ak⟩ trivial RU TQ T93 _ (fun _=>r93 ..)
abbrev Y93:=Ah RU
abbrev Z93:=Ag RU TQ
variable (p93:Y93)(f93:Z93)
abbrev Ra:Aa:=[(false,Za),(false,Zb)]
abbrev S9:Aa:=[(false,Zb),(false,Za),(false,Za)]
def t41(p93:Y93)(f93:Z93)(a0:Ab Za)(a1:Ab Zb):Option (DenS S9):=bif(p93 (a0,a1,(1:Int),()))then(some (f93 (a0,a1,(1:Int),())))else none
theorem r41(x:DenS Ra):run (cf [(227,⟨RU,TQ,p93,f93⟩)] []) 9 182 Tryz.f182 Ra S9 x=t41 p93 f93 x.1 x.2.1:=by kernel_rfl
def T41(x:DenS Ra):Option (DenS S9):=t41 mV.pre mV.F x.1 x.2.1
def mD:Sum:=Aj Ra S9 T41 (DenS.dflt S9)
theorem aU0:Sound Tryz.prog G1 182 mD:=sd (cf [(227,mV)] []) 182 Tryz.f182 ⟨aVJ,ak⟩ trivial Ra S9 T41 _ (fun _=>r41 ..)
abbrev Y41:=Ah Ra
abbrev Z41:=Ag Ra S9
variable (p41:Y41)(f41:Z41)
abbrev Rf:Aa:=[(true,Zz)]
abbrev Td:Aa:=[(false,Zb),(false,Za),(false,Za)]
def aR3(p41:Y41)(f41:Z41)(a0:Ab Zz):Option (DenS Td):=bif(p41 (a0.2.1,a0.2.2.1,()))then(some (f41 (a0.2.1,a0.2.2.1,())))else none
theorem bFj(x:DenS Rf):run (cf [(182,⟨Ra,S9,p41,f41⟩)] []) 9 181 Tryz.f181 Rf Td x=aR3 p41 f41 x.1:=by kernel_rfl
def aHQ(x:DenS Rf):Option (DenS Td):=aR3 mD.pre mD.F x.1
def bF:Sum:=Aj Rf Td aHQ (DenS.dflt Td)
theorem aGm:Sound Tryz.prog G1 181 bF:=sd (cf [(182,mD)] []) 181 Tryz.f181 ⟨aU0,ak⟩ trivial Rf Td aHQ _ (fun _=>bFj ..)
abbrev aBN:=Ah Rf
abbrev aCr:=Ag Rf Td
variable (p414:aBN)(f414:aCr)
abbrev QT:Aa:=[(false,Za),(false,Za),(false,Zb),(false,Za)]
abbrev M2:Aa:=[(false,Zb),(false,Za),(false,Za)]
def t38(p69:BS)(f69:BT)(p82:d0)(f82:eW)(p53:VW)(f53:V6)(p70:DA)(f70:DB)(p54:VX)(f54:V7)(p40:UP)(f40:UU)(p51:rY)(f51:sR)(a0 a1:Ab Za)(a2:Ab Zb)(a3:Ab Za):Option (DenS M2):=let e3_:=(if((10000:Int)<a3)then(10000:Int)else a3);let e1_:=(a0,a1,((f40 (a0,a2,())).1.1,(f40 (a0,a2,())).1.2.1,(al .i64 ((f40 (a0,a2,())).1.2.2.1+(if(e3_>(-(10000:Int)))then e3_ else(-(10000:Int))))),()),());let e2_:=((f82 (a0,a2,())).1,(f82 (a0,a2,())).1,());bif(p69 (a0,()))then(bif((f69 (a0,())).2.1 !=(0:Int))then(some ((0:Int),(0:Int),(f69 (a0,())).2))else bif((decide (a1<(0:Int)))||(decide (a1>(5:Int))))then(some ((0:Int),(0:Int),(3:Int),()))else bif(p82 (a0,a2,()))then(bif((f82 (a0,a2,())).2.1 !=(0:Int))then(some ((0:Int),(0:Int),(f82 (a0,a2,())).2))else bif(p53 ((f82 (a0,a2,())).1,()))then(bif(f53 ((f82 (a0,a2,())).1,())).1 then(bif(p70 (a0,()))then(bif(p54 e2_)then(some ((f70 (a0,())).1,(f54 e2_).1,(0:Int),()))else none)else none)else bif(p40 (a0,a2,()))then(bif(((f40 (a0,a2,())).2.1 !=(0:Int))||((f82 (a0,a2,())).1.2.1==(0:Int)))then(some (a2,(0:Int),(0:Int),()))else bif(p51 e1_)then(some (f51 e1_))else none)else none)else none)else none)else none
theorem r38(x:DenS QT):run (cf [(71,⟨B6,B7,p69,f69⟩),(228,⟨Ku,KX,p82,f82⟩),(229,⟨Hg,Ht,p53,f53⟩),(61,⟨Du,Dv,p70,f70⟩),(230,⟨Hh,Hu,p54,f54⟩),(203,⟨Hf,Hr,p40,f40⟩),(231,⟨Kp,KS,p51,f51⟩)] []) 9 184 Tryz.f184 QT M2 x=t38 p69 f69 p82 f82 p53 f53 p70 f70 p54 f54 p40 f40 p51 f51 x.1 x.2.1 x.2.2.1 x.2.2.2.1:=by kernel_rfl
def T38(x:DenS QT):Option (DenS M2):=t38 Ap.pre Ap.F Lf.pre Lf.F E7.pre E7.F Bh.pre Bh.F E8.pre E8.F DY.pre DY.F Ld.pre Ld.F x.1 x.2.1 x.2.2.1 x.2.2.2.1
def lT:Sum:=Aj QT M2 T38 (DenS.dflt M2)
theorem aUM:Sound Tryz.prog G1 184 lT:=sd (cf [(71,Ap),(228,Lf),(229,E7),(61,Bh),(230,E8),(203,DY),(231,Ld)] []) 184 Tryz.f184 ⟨D1,aAZ,bL,FZ,bM,bC,aAT,ak⟩ trivial QT M2 T38 _ (fun _=>r38 ..)
abbrev Y38:=Ah QT
abbrev Z38:=Ag QT M2
variable (p38:Y38)(f38:Z38)
abbrev Rg:Aa:=[(true,Zz)]
abbrev Te:Aa:=[(false,Zb),(false,Za),(false,Za)]
def aR4(p38:Y38)(f38:Z38)(a0:Ab Zz):Option (DenS Te):=let e1_:=(a0.2.1,a0.1,a0.2.2.1,(al .i64 a0.2.2.2.1),());bif(p38 e1_)then(some (f38 e1_))else none
theorem bFk(x:DenS Rg):run (cf [(184,⟨QT,M2,p38,f38⟩)] []) 9 183 Tryz.f183 Rg Te x=aR4 p38 f38 x.1:=by kernel_rfl
def aHR(x:DenS Rg):Option (DenS Te):=aR4 lT.pre lT.F x.1
def bG:Sum:=Aj Rg Te aHR (DenS.dflt Te)
theorem aGn:Sound Tryz.prog G1 183 bG:=sd (cf [(184,lT)] []) 183 Tryz.f183 ⟨aUM,ak⟩ trivial Rg Te aHR _ (fun _=>bFk ..)
abbrev aBO:=Ah Rg
abbrev aCs:=Ag Rg Te
variable (p415:aBO)(f415:aCs)
abbrev Rh:Aa:=[(true,Zz)]
abbrev Tf:Aa:=[(false,Zb),(false,Za),(false,Za)]
def aR5(p65:D3)(f65:D4)(a0:Ab Zz):Option (DenS Tf):=bif(p65 (a0.2.1,a0.2.2.1,()))then(some ((al .u64 (f65 (a0.2.1,a0.2.2.1,())).1),(0:Int),(f65 (a0.2.1,a0.2.2.1,())).2))else none
theorem bFl(x:DenS Rh):run (cf [(59,⟨DW,DX,p65,f65⟩)] []) 9 185 Tryz.f185 Rh Tf x=aR5 p65 f65 x.1:=by kernel_rfl
def aHS(x:DenS Rh):Option (DenS Tf):=aR5 Bs.pre Bs.F x.1
def bH:Sum:=Aj Rh Tf aHS (DenS.dflt Tf)
theorem aGo:Sound Tryz.prog G1 185 bH:=sd (cf [(59,Bs)] []) 185 Tryz.f185 ⟨HH,ak⟩ trivial Rh Tf aHS _ (fun _=>bFl ..)
abbrev aBP:=Ah Rh
abbrev aCt:=Ag Rh Tf
variable (p416:aBP)(f416:aCt)
abbrev Ri:Aa:=[(false,Za),(false,Zb),(false,Zb)]
abbrev Tg:Aa:=[(false,Zb),(false,Za)]
def aR6(p66:Cd)(f66:Ce)(p115:dM)(f115:eE)(a0:Ab Za)(a1 a2:Ab Zb):Option (DenS Tg):=bif(p66 (a0,a1,()))then(bif((f66 (a0,a1,())).1 !=(0:Int))then(some ((0:Int),(f66 (a0,a1,()))))else bif(p66 (a0,a2,()))then(bif((f66 (a0,a2,())).1 !=(0:Int))then(some ((0:Int),(f66 (a0,a2,()))))else bif(p115 (a0,()))then(bif(p115 (a0,()))then(some ((Ao .u64 (fI .u64 a1 (f115 (a0,())).1) (BR .u64 a2 (f115 (a0,())).1)),(0:Int),()))else none)else none)else none)else none
theorem bFm(x:DenS Ri):run (cf [(85,⟨CG,CH,p66,f66⟩),(233,⟨Kb,KA,p115,f115⟩)] []) 9 190 Tryz.f190 Ri Tg x=aR6 p66 f66 p115 f115 x.1 x.2.1 x.2.2.1:=by kernel_rfl
def aHT(x:DenS Ri):Option (DenS Tg):=aR6 Av.pre Av.F FW.pre FW.F x.1 x.2.1 x.2.2.1
def mH:Sum:=Aj Ri Tg aHT (DenS.dflt Tg)
theorem aUY:Sound Tryz.prog G1 190 mH:=sd (cf [(85,Av),(233,FW)] []) 190 Tryz.f190 ⟨FY,aAF,ak⟩ trivial Ri Tg aHT _ (fun _=>bFm ..)
abbrev aJP:=Ah Ri
abbrev aLn:=Ag Ri Tg
variable (p417:aJP)(f417:aLn)
abbrev Rj:Aa:=[(true,Zz)]
abbrev Th:Aa:=[(false,Zb),(false,Za),(false,Za)]
def aR7(p417:aJP)(f417:aLn)(a0:Ab Zz):Option (DenS Th):=bif(p417 (a0.2.1,a0.2.2.1,a0.2.2.2.1,()))then(some ((f417 (a0.2.1,a0.2.2.1,a0.2.2.2.1,())).1,(0:Int),(f417 (a0.2.1,a0.2.2.1,a0.2.2.2.1,())).2))else none
theorem bFn(x:DenS Rj):run (cf [(190,⟨Ri,Tg,p417,f417⟩)] []) 9 189 Tryz.f189 Rj Th x=aR7 p417 f417 x.1:=by kernel_rfl
def aHU(x:DenS Rj):Option (DenS Th):=aR7 mH.pre mH.F x.1
def bI:Sum:=Aj Rj Th aHU (DenS.dflt Th)
theorem aGp:Sound Tryz.prog G1 189 bI:=sd (cf [(190,mH)] []) 189 Tryz.f189 ⟨aUY,ak⟩ trivial Rj Th aHU _ (fun _=>bFn ..)
abbrev aBQ:=Ah Rj
abbrev aCu:=Ag Rj Th
variable (p418:aBQ)(f418:aCu)
end Vx
namespace Vx
open Go Go.Proofs
variable (p69:BS)(f69:BT)(p66:Cd)(f66:Ce)(p65:D3)(f65:D4)(p70:DA)(f70:DB)(p178:Jw)(f178:Jz)(p122:F4)(f122:F5)(p27:rL)(f27:sD)(p64:X0)(f64:Ya)(p25:Y25)(f25:Z25)(p354:aBB)(f354:aCf)(p40:UP)(f40:UU)(p328:Fa)(f328:Fc)(p381:aBC)(f381:aCg)(p395:aBD)(f395:aCh)(p396:aBE)(f396:aCi)(p402:aBG)(f402:aCk)(p407:aBJ)(f407:aCn)(p408:aBK)(f408:aCo)(p411:aBL)(f411:aCp)(p413:aBM)(f413:aCq)(p112:rE)(f112:r6)(p82:d0)(f82:eW)(p53:VW)(f53:V6)(p54:VX)(f54:V7)(p414:aBN)(f414:aCr)(p415:aBO)(f415:aCs)(p416:aBP)(f416:aCt)(p418:aBQ)(f418:aCu)
abbrev Rk:Aa:=[(false,Za),(false,Zb),(false,Zb)]
abbrev Ti:Aa:=[(false,Zb),(false,Za),(false,.bool),(false,Za)]
abbrev Jd:Pat:=⟨109,[(32,.one (.v .i64)),(31,.one (.sl Zb)),(33,.one (.v .i64)),(2,.one (.v .u64)),(0,.one (.v .i64)),(1,.one (.v .u64))],[]⟩
abbrev kF:List (Nat×Shape):=[]
abbrev OQ:List (Nat×Pat):=[(0,⟨109,[(2,.one (.v .u64)),(0,.one (.v .i64)),(1,.one (.v .u64))],[]⟩)]
abbrev NZ:Option Pat:=(some ⟨109,[(6,.one (.v .u64)),(7,.one (.v .i64)),(8,.one (.bool)),(9,.one (.v .i64))],[]⟩)
variable (w419_5:Pat.D Jd->Option (Ad OQ NZ))
def iA(p69:BS)(f69:BT)(p66:Cd)(f66:Ce)(p65:D3)(f65:D4)(p70:DA)(f70:DB){R:Type}(L:Pat.D Jd->Option R)(e:Ad OQ NZ->Option R)(x:Pat.D Jd):Option R:=let e2_:=(x.1.2.2.2.2.1,(x.1.2.1.getD (aq x.1.2.2.1) (0:Int)),());let e1_:=(f66 e2_);bif(decide (x.1.2.2.1<x.1.1))then(bif((decide ((0:Int)<=x.1.2.2.1))&&(decide (x.1.2.2.1<(x.1.2.1.length:Int))))then(bif(p66 e2_)then(bif(e1_.1 !=(0:Int))then(((e (.inr (((0:Int),(0:Int),true,e1_),())))))else(L ((x.1.1,x.1.2.1,(al .i64 (x.1.2.2.1+(1:Int))),x.1.2.2.2),())))else none)else none)else(e (.inl (x.1.2.2.2,())))
theorem bHT(d:Nat)(R:Type)(L:Pat.D Jd->Option R)(e:Ad OQ NZ->Option R)(x:Pat.D Jd):
  Bq (cf [(71,⟨B6,B7,p69,f69⟩),(85,⟨CG,CH,p66,f66⟩),(59,⟨DW,DX,p65,f65⟩),(61,⟨Du,Dv,p70,f70⟩)] [(242,5,LoopSpec.of Jd kF OQ NZ w419_5)]) (d+2) 242 (Bp Tryz.f242 5) Jd kF OQ NZ (R:=R) L e x=iA p69 f69 p66 f66 p65 f65 p70 f70 L e x:=by kernel_rfl
theorem bBt(p69:BS)(f69:BT)(p66:Cd)(f66:Ce)(p65:D3)(f65:D4)(p70:DA)(f70:DB):Bn fun L e x=>iA p69 f69 p66 f66 p65 f65 p70 f70 L e x:=by intro _ _ _ _ _ _ _ h0 hL he _;unfold iA;repeat' (first|exact h0|exact hL _|exact he _|apply By|(apply Bz h0;intro _)|(apply BA<;>intro _))
def aR8(p69:BS)(f69:BT)(p66:Cd)(f66:Ce)(p65:D3)(f65:D4)(p70:DA)(f70:DB)(w419_5:Pat.D Jd->Option (Ad OQ NZ))(a0:Ab Za)(a1 a2:Ab Zb):Option (DenS Ti):=
 bif(p69 (a0,()))then(bif((f69 (a0,())).2.1 !=(0:Int))then(some ((0:Int),(0:Int),true,(f69 (a0,())).2))
 else Vx.AQ (w419_5 ((((a1::(a2::[])).length:Int),(a1::(a2::[])),(0:Int),a2,a0,a1,()),())) fun y2=>
 Vx.AP y2 (fun y3=>
 bif(p65 y3.1.2)then(bif(p65 (y3.1.2.1,y3.1.1,()))then(bif(p70 (y3.1.2.1,()))then(bif(((f65 y3.1.2).1==(0:Int))||((f65 (y3.1.2.1,y3.1.1,())).1==(0:Int)))then(some ((f70 (y3.1.2.1,())).1,(1:Int),true,(0:Int),()))
 else bif(((f65 y3.1.2).1==(1:Int))||((f65 (y3.1.2.1,y3.1.1,())).1==(1:Int)))then(some ((f70 (y3.1.2.1,())).1,(0:Int),true,(0:Int),()))
 else bif(((((f65 y3.1.2).1==(9:Int))||((f65 y3.1.2).1==(2:Int)))||((f65 (y3.1.2.1,y3.1.1,())).1==(6:Int)))||((f65 (y3.1.2.1,y3.1.1,())).1==(5:Int)))then(some ((f70 (y3.1.2.1,())).1,(1:Int),true,(0:Int),()))
 else bif(((((f65 (y3.1.2.1,y3.1.1,())).1==(9:Int))||((f65 (y3.1.2.1,y3.1.1,())).1==(2:Int)))||((f65 y3.1.2).1==(6:Int)))||((f65 y3.1.2).1==(5:Int)))then(some (y3.1.2.2.1,(0:Int),true,(0:Int),()))
 else some ((0:Int),(0:Int),false,(0:Int),()))
 else none)
 else none)
 else none) (fun z3=>
 some z3.1))
 else none
theorem bFo(x:DenS Rk):run (cf [(71,⟨B6,B7,p69,f69⟩),(85,⟨CG,CH,p66,f66⟩),(59,⟨DW,DX,p65,f65⟩),(61,⟨Du,Dv,p70,f70⟩)] [(242,5,LoopSpec.of Jd kF OQ NZ w419_5)]) 9 242 Tryz.f242 Rk Ti x=aR8 p69 f69 p66 f66 p65 f65 p70 f70 w419_5 x.1 x.2.1 x.2.2.1:=by kernel_rfl
def aIN:Jd.D->Option (Ad OQ NZ):=Bi fun L=>iA Ap.pre Ap.F Av.pre Av.F Bs.pre Bs.F Bh.pre Bh.F L some
def aHV(x:DenS Rk):Option (DenS Ti):=aR8 Ap.pre Ap.F Av.pre Av.F Bs.pre Bs.F Bh.pre Bh.F aIN x.1 x.2.1 x.2.2.1
def mI:Sum:=Aj Rk Ti aHV (DenS.dflt Ti)
theorem aUZ:Sound Tryz.prog G1 242 mI:=sd (cf [(71,Ap),(85,Av),(59,Bs),(61,Bh)] [(242,5,LoopSpec.of Jd kF OQ NZ aIN)]) 242 Tryz.f242 ⟨D1,FY,HH,FZ,ak⟩ ⟨rfl,fun d=>Bw (fun L e x=>iA Ap.pre Ap.F Av.pre Av.F Bs.pre Bs.F Bh.pre Bh.F L e x) (bBt Ap.pre Ap.F Av.pre Av.F Bs.pre Bs.F Bh.pre Bh.F) (fun _ _ _ _=>bHT ..),ak⟩ Rk Ti aHV _ (fun _=>bFo ..)
abbrev aJQ:=Ah Rk
abbrev aLo:=Ag Rk Ti
variable (p419:aJQ)(f419:aLo)
abbrev Rl:Aa:=[(true,Zs),(true,Zs)]
abbrev Tj:Aa:=[(true,.pair Zb (.pair Zb (.pair Za Zg)))]
abbrev Je:Pat:=⟨104,[(6,.one (.v .u64)),(9,.one (.v .i64)),(8,.one (.ptr 3 0)),(4,.one (.ptr 2 0))],[.gone,.gone,.raw [.v .u64,.v .u64,.v .i64,.v .u64],.raw [.v .u64,.v .u64,.v .i64,.v .u64]]⟩
abbrev kG:List (Nat×Shape):=[]
abbrev OR:List (Nat×Pat):=[(0,⟨104,[(8,.one (.ptr 3 0)),(4,.one (.ptr 2 0))],[.gone,.gone,.raw [.v .u64,.v .u64,.v .i64,.v .u64],.raw [.v .u64,.v .u64,.v .i64,.v .u64]]⟩)]
abbrev N0:Option Pat:=none
variable (w420_10:Pat.D Je->Option (Ad OR N0))
def iB(p178:Jw)(f178:Jz)(p328:Fa)(f328:Fc){R:Type}(L:Pat.D Je->Option R)(e:Ad OR N0->Option R)(x:Pat.D Je):Option R:=let e6_:=(if((64:Int)<x.1.2.1)then(64:Int)else x.1.2.1);let e5_:=(al .i64 ((64:Int)-e6_));let e1_:=(f328 ((AR .u64 x.2.2.2.2.1.1 e5_),(Bk .u64 x.2.2.2.2.1.1 e6_),x.1.1,()));let e2_:=e5_;let e3_:=(decide ((0:Int)<=e6_));let e4_:=e6_;bif(decide (x.1.2.1>(0:Int)))then(bif(decide ((0:Int)<=e2_))then(bif e3_ then(bif(p328 ((AR .u64 x.2.2.2.2.1.1 e2_),(Bk .u64 x.2.2.2.2.1.1 e4_),x.1.1,()))then(bif e3_ then(((L ((x.1.1,(al .i64 (x.1.2.1-e4_)),(),(),()),(),(),x.2.2.2.1,(e1_.2.1,x.2.2.2.2.1.2.1,x.2.2.2.2.1.2.2.1,(al .u64 ((Bk .u64 x.2.2.2.2.1.2.2.2.1 e4_)+e1_.1)),()),()))))else none)else none)else none)else none)else(e (.inl (((),(),()),(),(),x.2.2.2)))
theorem bHU(d:Nat)(R:Type)(L:Pat.D Je->Option R)(e:Ad OR N0->Option R)(x:Pat.D Je):
  Bq (cf [(115,⟨Gp,FO,p178,f178⟩),(136,⟨ER,EU,p328,f328⟩)] [(243,10,LoopSpec.of Je kG OR N0 w420_10)]) (d+2) 243 (Bp Tryz.f243 10) Je kG OR N0 (R:=R) L e x=iB p178 f178 p328 f328 L e x:=by kernel_rfl
theorem bBu(p178:Jw)(f178:Jz)(p328:Fa)(f328:Fc):Bn fun L e x=>iB p178 f178 p328 f328 L e x:=by intro _ _ _ _ _ _ _ h0 hL he _;unfold iB;repeat' (first|exact h0|exact hL _|exact he _|apply By|(apply Bz h0;intro _)|(apply BA<;>intro _))
def aR9(p178:Jw)(f178:Jz)(p328:Fa)(f328:Fc)(w420_10:Pat.D Je->Option (Ad OR N0))(a0 a1:Ab Zs):Option (DenS Tj):=
 let e8_:=(al .i64 (a1.2.2.1-a0.2.2.1))
 let e7_:=(Bk .u64 (a1.2.1.getD (aq (0:Int)) (0:Int)) e8_)
 let e1_:=(e7_ !=(0:Int))
 let e2_:=e7_
 let e3_:=((a1.2.1.getD (aq (0:Int)) (0:Int))!=(0:Int))
 let e4_:=e8_
 let e5_:=((a1.2.1.getD (aq (0:Int)) (0:Int)),())
 let e6_:=((a0.2.1.getD (aq (0:Int)) (0:Int)),())
 bif(decide ((0:Int)<(a0.2.1.length:Int)))then(bif(decide ((0:Int)<(a1.2.1.length:Int)))then(bif(decide (a1.2.2.1>a0.2.2.1))then(bif(p178 e5_)then(bif(p178 e6_)then(bif(decide ((al .i64 ((f178 e5_).1+e4_))>(al .i64 ((f178 e6_).1+(1:Int)))))then(some (((a0.2.1.getD (aq (0:Int)) (0:Int)),(0:Int),a0.2.2.1,(0:Int),()),()))
 else bif(decide ((0:Int)<=e4_))then(bif e1_ then(bif e1_ then(some (((ii (a0.2.1.getD (aq (0:Int)) (0:Int)) e2_),e2_,a0.2.2.1,(Bl .u64 (a0.2.1.getD (aq (0:Int)) (0:Int)) e2_),()),()))
 else none)
 else none)
 else none)
 else none)
 else none)
 else bif e3_ then(bif e3_ then(Vx.AQ (w420_10 (((a1.2.1.getD (aq (0:Int)) (0:Int)),(al .i64 (a0.2.2.1-a1.2.2.1)),(),(),()),(),(),((0:Int),(0:Int),(0:Int),(0:Int),()),((ii (a0.2.1.getD (aq (0:Int)) (0:Int)) (a1.2.1.getD (aq (0:Int)) (0:Int))),(a1.2.1.getD (aq (0:Int)) (0:Int)),a1.2.2.1,(Bl .u64 (a0.2.1.getD (aq (0:Int)) (0:Int)) (a1.2.1.getD (aq (0:Int)) (0:Int))),()),())) fun y5=>
 Vx.AP y5 (fun y6=>
 some y6.2.2.2.2) (fun z6=>
 none))
 else none)
 else none)
 else none)
 else none
theorem bFp(x:DenS Rl):run (cf [(115,⟨Gp,FO,p178,f178⟩),(136,⟨ER,EU,p328,f328⟩)] [(243,10,LoopSpec.of Je kG OR N0 w420_10)]) 9 243 Tryz.f243 Rl Tj x=aR9 p178 f178 p328 f328 w420_10 x.1 x.2.1:=by kernel_rfl
def aIO:Je.D->Option (Ad OR N0):=Bi fun L=>iB CL.pre CL.F Br.pre Br.F L some
def aHW(x:DenS Rl):Option (DenS Tj):=aR9 CL.pre CL.F Br.pre Br.F aIO x.1 x.2.1
def mJ:Sum:=Aj Rl Tj aHW (DenS.dflt Tj)
theorem aU1:Sound Tryz.prog G1 243 mJ:=sd (cf [(115,CL),(136,Br)] [(243,10,LoopSpec.of Je kG OR N0 aIO)]) 243 Tryz.f243 ⟨aU,lR,ak⟩ ⟨rfl,fun d=>Bw (fun L e x=>iB CL.pre CL.F Br.pre Br.F L e x) (bBu CL.pre CL.F Br.pre Br.F) (fun _ _ _ _=>bHU ..),ak⟩ Rl Tj aHW _ (fun _=>bFp ..)
abbrev aJR:=Ah Rl
abbrev aLp:=Ag Rl Tj
variable (p420:aJR)(f420:aLp)
abbrev Mv:Aa:=[(false,Za),(false,Zb),(false,Zb),(false,.bool)]
abbrev KO:Aa:=[(false,Zb),(false,Za),(false,Za),(false,Za)]
def aSa(p419:aJQ)(f419:aLo)(p40:UP)(f40:UU)(p420:aJR)(f420:aLp)(p122:F4)(f122:F5)(a0:Ab Za)(a1 a2:Ab Zb)(a3:Ab (.bool)):Option (DenS KO):=let e24_:=((f40 (a0,a1,())).1,(f40 (a0,a2,())).1,());let e23_:=(f420 e24_);let e20_:=(al .u64 (e23_.1.2.1-e23_.1.1));let e22_:=(e23_.1.2.2.1,false,());let e14_:=(((0:Int),e20_,()),e22_);let e13_:=(a0,(2:Int),(f40 (a0,a1,())).1.1,e14_);let e12_:=(f122 e13_);let e1_:=(e12_.1,(al .i64 (BR .u64 (al .u64 (e23_.1.2.2.2.1+(1:Int))) (7:Int))),(0:Int),e12_.2.2);let e19_:=(((0:Int),e23_.1.1,()),e22_);let e17_:=(a0,(2:Int),(!(f40 (a0,a1,())).1.1),e19_);let e15_:=(f122 e17_);let e21_:=(al .i64 (BR .u64 e23_.1.2.2.2.1 (7:Int)));let e2_:=(e15_.1,e21_,(0:Int),e15_.2.2);let e18_:=(a0,(2:Int),(f40 (a0,a1,())).1.1,e19_);let e16_:=(f122 e18_);let e3_:=(e16_.1,e21_,(0:Int),e16_.2.2);let e4_:=(f122 (a0,(2:Int),(!(f40 (a0,a1,())).1.1),e14_));let e5_:=(p122 e13_);let e6_:=(p122 e17_);let e7_:=(p122 e18_);let e8_:=(e20_==(0:Int));let e9_:=(al .u64 ((2:Int)*e23_.1.1));let e10_:=(e23_.1.1==(0:Int));let e11_:=e23_;let g1_:Option (DenS KO):=bif(a3&&false)then(bif e10_ then(bif e7_ then(some e3_)else none)else bif e6_ then(some e2_)else none)else bif e10_ then(bif e7_ then(some e3_)else none)else bif e7_ then(some e3_)else none;bif(p419 (a0,a1,a2,()))then(bif(f419 (a0,a1,a2,())).2.2.1 then(some ((f419 (a0,a1,a2,())).1,(0:Int),(f419 (a0,a1,a2,())).2.1,(f419 (a0,a1,a2,())).2.2.2))else bif(p40 (a0,a1,()))then(bif(p40 (a0,a2,()))then(bif(p420 e24_)then(bif a3 then(bif(((e11_.1.2.1==(0:Int))||(decide (e9_<e11_.1.2.1)))||((e9_==e11_.1.2.1)&&((BR .u64 e11_.1.2.2.2.1 (1:Int))==(0:Int))))then(g1_)else bif(a3&&true)then(bif e8_ then(bif e5_ then(some e1_)else none)else bif(p122 (a0,(2:Int),(!(f40 (a0,a1,())).1.1),((0:Int),(al .u64 (e11_.1.2.1-e11_.1.1)),()),e11_.1.2.2.1,false,()))then(some (e4_.1,(al .i64 (BR .u64 (al .u64 (e11_.1.2.2.2.1+(1:Int))) (7:Int))),(0:Int),e4_.2.2))else none)else bif e8_ then(bif e5_ then(some e1_)else none)else bif e5_ then(some e1_)else none)else g1_)else none)else none)else none)else none
theorem bFq(x:DenS Mv):run (cf [(242,⟨Rk,Ti,p419,f419⟩),(203,⟨Hf,Hr,p40,f40⟩),(243,⟨Rl,Tj,p420,f420⟩),(104,⟨Gl,Gx,p122,f122⟩)] []) 9 214 Tryz.f214 Mv KO x=aSa p419 f419 p40 f40 p420 f420 p122 f122 x.1 x.2.1 x.2.2.1 x.2.2.2.1:=by kernel_rfl
def aHX(x:DenS Mv):Option (DenS KO):=aSa mI.pre mI.F DY.pre DY.F mJ.pre mJ.F C1.pre C1.F x.1 x.2.1 x.2.2.1 x.2.2.2.1
def VB:Sum:=Aj Mv KO aHX (DenS.dflt KO)
theorem aGq:Sound Tryz.prog G1 214 VB:=sd (cf [(242,mI),(203,DY),(243,mJ),(104,C1)] []) 214 Tryz.f214 ⟨aUZ,bC,aU1,Xq,ak⟩ trivial Mv KO aHX _ (fun _=>bFq ..)
abbrev aBR:=Ah Mv
abbrev aCv:=Ag Mv KO
variable (p421:aBR)(f421:aCv)
abbrev Rm:Aa:=[(false,Za),(false,Zb),(false,Zb)]
abbrev Tk:Aa:=[(false,Zb),(false,Za),(false,Za),(false,Za)]
def aSb(p421:aBR)(f421:aCv)(a0:Ab Za)(a1 a2:Ab Zb):Option (DenS Tk):=bif(p421 (a0,a1,a2,true,()))then(some (f421 (a0,a1,a2,true,())))else none
theorem bFr(x:DenS Rm):run (cf [(214,⟨Mv,KO,p421,f421⟩)] []) 9 167 Tryz.f167 Rm Tk x=aSb p421 f421 x.1 x.2.1 x.2.2.1:=by kernel_rfl
def aHY(x:DenS Rm):Option (DenS Tk):=aSb VB.pre VB.F x.1 x.2.1 x.2.2.1
def bJ:Sum:=Aj Rm Tk aHY (DenS.dflt Tk)
theorem aGr:Sound Tryz.prog G1 167 bJ:=sd (cf [(214,VB)] []) 167 Tryz.f167 ⟨aGq,ak⟩ trivial Rm Tk aHY _ (fun _=>bFr ..)
abbrev aJS:=Ah Rm
abbrev aLq:=Ag Rm Tk
variable (p422:aJS)(f422:aLq)
abbrev Rn:Aa:=[(false,Za),(false,Zb),(false,Zb)]
abbrev Tl:Aa:=[(false,Zb),(false,Za),(false,Za),(false,Za)]
def aSc(p421:aBR)(f421:aCv)(a0:Ab Za)(a1 a2:Ab Zb):Option (DenS Tl):=bif(p421 (a0,a1,a2,false,()))then(some (f421 (a0,a1,a2,false,())))else none
theorem bFs(x:DenS Rn):run (cf [(214,⟨Mv,KO,p421,f421⟩)] []) 9 168 Tryz.f168 Rn Tl x=aSc p421 f421 x.1 x.2.1 x.2.2.1:=by kernel_rfl
def aHZ(x:DenS Rn):Option (DenS Tl):=aSc VB.pre VB.F x.1 x.2.1 x.2.2.1
def bK:Sum:=Aj Rn Tl aHZ (DenS.dflt Tl)
theorem aGs:Sound Tryz.prog G1 168 bK:=sd (cf [(214,VB)] []) 168 Tryz.f168 ⟨aGq,ak⟩ trivial Rn Tl aHZ _ (fun _=>bFs ..)
abbrev aJT:=Ah Rn
abbrev aLr:=Ag Rn Tl
variable (p423:aJT)(f423:aLr)
abbrev kS:Aa:=[(false,Za),(false,Zb),(false,Zb)]
abbrev aAy:Aa:=[(false,Zb),(false,Za),(false,Za),(false,Za)]
def kW:SumF:=LH kS aAy [(167,[],bJ),(168,[],bK)]
theorem aTP:Ma Tryz.prog G1 kW:=Yo ⟨D8 aGr,⟨D8 aGs,ak⟩⟩
abbrev aIW:=Option (Nat×List Nat)->Ah kS
abbrev aKu:=Option (Nat×List Nat)->Ag kS aAy
variable (p100004:aIW)(f100004:aKu)
abbrev Ro:Aa:=[(true,Zz),(false,Zc)]
abbrev Tm:Aa:=[(false,Zb),(false,Za),(false,Za)]
def aSd(p100004:aIW)(f100004:aKu)(a0:Ab Zz)(a1:Ab Zc):Option (DenS Tm):=let e1_:=(f100004 (some (a1,[])) (a0.2.1,a0.2.2.1,a0.2.2.2.1,()));bif(p100004 (some (a1,[])) (a0.2.1,a0.2.2.1,a0.2.2.2.1,()))then(some (e1_.1,e1_.2.2))else none
theorem bFt(x:DenS Ro):run ({cf [] []with fns:=[(246,⟨kS,aAy,p100004,f100004⟩)] }) 9 213 Tryz.f213 Ro Tm x=aSd p100004 f100004 x.1 x.2.1:=by kernel_rfl
def aH0(x:DenS Ro):Option (DenS Tm):=aSd kW.pre kW.F x.1 x.2.1
def Uq:Sum:=Aj Ro Tm aH0 (DenS.dflt Tm)
theorem aAN:Sound Tryz.prog G1 213 Uq:=sd ({cf [] []with fns:=[(246,kW)] }) 213 Tryz.f213 trivial trivial Ro Tm aH0 _ (fun _=>bFt ..) (hfs:=⟨aTP,ak⟩)
abbrev aJU:=Ah Ro
abbrev aLs:=Ag Ro Tm
variable (p424:aJU)(f424:aLs)
abbrev RP:Aa:=[(false,Za),(false,Za)]
abbrev TM:Aa:=[(false,.bool)]
def t61(a0 a1:Ab Za):Option (DenS TM):=some ((decide (a1<a0)),())
theorem r61(x:DenS RP):run (cf [] []) 9 223 Tryz.f223 RP TM x=t61 x.1 x.2.1:=by kernel_rfl
def T61(x:DenS RP):Option (DenS TM):=t61 x.1 x.2.1
def mR:Sum:=Aj RP TM T61 (DenS.dflt TM)
theorem aVE:Sound Tryz.prog G1 223 mR:=sd (cf [] []) 223 Tryz.f223 trivial trivial RP TM T61 _ (fun _=>r61 ..)
abbrev Y61:=Ah RP
abbrev Z61:=Ag RP TM
variable (p61:Y61)(f61:Z61)
abbrev Kq:Aa:=[(false,Za),(false,Zb),(false,Zb)]
abbrev KT:Aa:=[(true,Zi),(true,Zi),(false,Za)]
def t52(p82:d0)(f82:eW)(a0:Ab Za)(a1 a2:Ab Zb):Option (DenS KT):=bif(p82 (a0,a1,()))then(bif((f82 (a0,a1,())).2.1 !=(0:Int))then(some ((f82 (a0,a1,())).1,((0:Int),(0:Int),()),(f82 (a0,a1,())).2))else bif(p82 (a0,a2,()))then(some ((f82 (a0,a1,())).1,(f82 (a0,a2,()))))else none)else none
theorem r52(x:DenS Kq):run (cf [(228,⟨Ku,KX,p82,f82⟩)] []) 9 245 Tryz.f245 Kq KT x=t52 p82 f82 x.1 x.2.1 x.2.2.1:=by kernel_rfl
def T52(x:DenS Kq):Option (DenS KT):=t52 Lf.pre Lf.F x.1 x.2.1 x.2.2.1
def Le:Sum:=Aj Kq KT T52 (DenS.dflt KT)
theorem aAU:Sound Tryz.prog G1 245 Le:=sd (cf [(228,Lf)] []) 245 Tryz.f245 ⟨aAZ,ak⟩ trivial Kq KT T52 _ (fun _=>r52 ..)
abbrev rZ:=Ah Kq
abbrev sS:=Ag Kq KT
variable (p52:rZ)(f52:sS)
abbrev Qu:Aa:=[(false,Za),(false,Zb),(false,Zb)]
abbrev Sr:Aa:=[(false,Zb),(false,Za),(false,Za)]
def t19(p61:Y61)(f61:Z61)(p52:rZ)(f52:sS)(p54:VX)(f54:V7)(p70:DA)(f70:DB)(p53:VW)(f53:V6)(a0:Ab Za)(a1 a2:Ab Zb):Option (DenS Sr):=let e3_:=((f52 (a0,a1,a2,())).1,(f52 (a0,a1,a2,())).2.1,());let e1_:=((f54 e3_).1,(0:Int),());let e2_:=((f52 (a0,a1,a2,())).1.2.1,(f52 (a0,a1,a2,())).2.1.2);bif(p52 (a0,a1,a2,()))then(bif((f52 (a0,a1,a2,())).2.2.1 !=(0:Int))then(some ((0:Int),(0:Int),(f52 (a0,a1,a2,())).2.2))else bif(p54 e3_)then(bif(p53 ((f52 (a0,a1,a2,())).1,()))then(bif((p53 ((f52 (a0,a1,a2,())).2.1,()))||(!(f53 ((f52 (a0,a1,a2,())).1,())).1))then(bif((f53 ((f52 (a0,a1,a2,())).1,())).1&&(f53 ((f52 (a0,a1,a2,())).2.1,())).1)then(bif(p70 (a0,()))then(some ((f70 (a0,())).1,e1_))else none)else bif(p53 ((f52 (a0,a1,a2,())).1,()))then(bif((p53 ((f52 (a0,a1,a2,())).2.1,()))||(!(bif(f53 ((f52 (a0,a1,a2,())).1,())).1 then false else true)))then(bif((p61 e2_)||(!((bif(f53 ((f52 (a0,a1,a2,())).1,())).1 then false else true)&&(bif(f53 ((f52 (a0,a1,a2,())).2.1,())).1 then false else true))))then(bif((f53 ((f52 (a0,a1,a2,())).1,())).1||((!(f53 ((f52 (a0,a1,a2,())).2.1,())).1)&&((f61 e2_).1||(((f52 (a0,a1,a2,())).1.2.1==(0:Int))&&((f52 (a0,a1,a2,())).2.1.1==(5:Int))))))then(some (a2,e1_))else some (a1,e1_))else none)else none)else none)else none)else none)else none)else none
theorem r19(x:DenS Qu):run (cf [(223,⟨RP,TM,p61,f61⟩),(245,⟨Kq,KT,p52,f52⟩),(230,⟨Hh,Hu,p54,f54⟩),(61,⟨Du,Dv,p70,f70⟩),(229,⟨Hg,Ht,p53,f53⟩)] []) 9 178 Tryz.f178 Qu Sr x=t19 p61 f61 p52 f52 p54 f54 p70 f70 p53 f53 x.1 x.2.1 x.2.2.1:=by kernel_rfl
def T19(x:DenS Qu):Option (DenS Sr):=t19 mR.pre mR.F Le.pre Le.F E8.pre E8.F Bh.pre Bh.F E7.pre E7.F x.1 x.2.1 x.2.2.1
def aV:Sum:=Aj Qu Sr T19 (DenS.dflt Sr)
theorem aF5:Sound Tryz.prog G1 178 aV:=sd (cf [(223,mR),(245,Le),(230,E8),(61,Bh),(229,E7)] []) 178 Tryz.f178 ⟨aVE,aAU,bM,FZ,bL,ak⟩ trivial Qu Sr T19 _ (fun _=>r19 ..)
abbrev Y19:=Ah Qu
abbrev Z19:=Ag Qu Sr
variable (p19:Y19)(f19:Z19)
abbrev RQ:Aa:=[(false,Za),(false,Za)]
abbrev TN:Aa:=[(false,.bool)]
def t63(a0 a1:Ab Za):Option (DenS TN):=some ((decide (a1>a0)),())
theorem r63(x:DenS RQ):run (cf [] []) 9 224 Tryz.f224 RQ TN x=t63 x.1 x.2.1:=by kernel_rfl
def T63(x:DenS RQ):Option (DenS TN):=t63 x.1 x.2.1
def mS:Sum:=Aj RQ TN T63 (DenS.dflt TN)
theorem aVF:Sound Tryz.prog G1 224 mS:=sd (cf [] []) 224 Tryz.f224 trivial trivial RQ TN T63 _ (fun _=>r63 ..)
abbrev Y63:=Ah RQ
abbrev Z63:=Ag RQ TN
variable (p63:Y63)(f63:Z63)
abbrev Qv:Aa:=[(false,Za),(false,Zb),(false,Zb)]
abbrev Ss:Aa:=[(false,Zb),(false,Za),(false,Za)]
def t21(p63:Y63)(f63:Z63)(p52:rZ)(f52:sS)(p54:VX)(f54:V7)(p70:DA)(f70:DB)(p53:VW)(f53:V6)(a0:Ab Za)(a1 a2:Ab Zb):Option (DenS Ss):=let e3_:=((f52 (a0,a1,a2,())).1,(f52 (a0,a1,a2,())).2.1,());let e1_:=((f54 e3_).1,(0:Int),());let e2_:=((f52 (a0,a1,a2,())).1.2.1,(f52 (a0,a1,a2,())).2.1.2);bif(p52 (a0,a1,a2,()))then(bif((f52 (a0,a1,a2,())).2.2.1 !=(0:Int))then(some ((0:Int),(0:Int),(f52 (a0,a1,a2,())).2.2))else bif(p54 e3_)then(bif(p53 ((f52 (a0,a1,a2,())).1,()))then(bif((p53 ((f52 (a0,a1,a2,())).2.1,()))||(!(f53 ((f52 (a0,a1,a2,())).1,())).1))then(bif((f53 ((f52 (a0,a1,a2,())).1,())).1&&(f53 ((f52 (a0,a1,a2,())).2.1,())).1)then(bif(p70 (a0,()))then(some ((f70 (a0,())).1,e1_))else none)else bif(p53 ((f52 (a0,a1,a2,())).1,()))then(bif((p53 ((f52 (a0,a1,a2,())).2.1,()))||(!(bif(f53 ((f52 (a0,a1,a2,())).1,())).1 then false else true)))then(bif((p63 e2_)||(!((bif(f53 ((f52 (a0,a1,a2,())).1,())).1 then false else true)&&(bif(f53 ((f52 (a0,a1,a2,())).2.1,())).1 then false else true))))then(bif((f53 ((f52 (a0,a1,a2,())).1,())).1||((!(f53 ((f52 (a0,a1,a2,())).2.1,())).1)&&((f63 e2_).1||(((f52 (a0,a1,a2,())).1.2.1==(0:Int))&&((f52 (a0,a1,a2,())).2.1.1==(6:Int))))))then(some (a2,e1_))else some (a1,e1_))else none)else none)else none)else none)else none)else none)else none
theorem r21(x:DenS Qv):run (cf [(224,⟨RQ,TN,p63,f63⟩),(245,⟨Kq,KT,p52,f52⟩),(230,⟨Hh,Hu,p54,f54⟩),(61,⟨Du,Dv,p70,f70⟩),(229,⟨Hg,Ht,p53,f53⟩)] []) 9 179 Tryz.f179 Qv Ss x=t21 p63 f63 p52 f52 p54 f54 p70 f70 p53 f53 x.1 x.2.1 x.2.2.1:=by kernel_rfl
def T21(x:DenS Qv):Option (DenS Ss):=t21 mS.pre mS.F Le.pre Le.F E8.pre E8.F Bh.pre Bh.F E7.pre E7.F x.1 x.2.1 x.2.2.1
def aW:Sum:=Aj Qv Ss T21 (DenS.dflt Ss)
theorem aF6:Sound Tryz.prog G1 179 aW:=sd (cf [(224,mS),(245,Le),(230,E8),(61,Bh),(229,E7)] []) 179 Tryz.f179 ⟨aVF,aAU,bM,FZ,bL,ak⟩ trivial Qv Ss T21 _ (fun _=>r21 ..)
abbrev Y21:=Ah Qv
abbrev Z21:=Ag Qv Ss
variable (p21:Y21)(f21:Z21)
abbrev kR:Aa:=[(false,Za),(false,Zb),(false,Zb)]
abbrev aAx:Aa:=[(false,Zb),(false,Za),(false,Za)]
def kV:SumF:=LH kR aAx [(178,[],aV),(179,[],aW)]
theorem aTO:Ma Tryz.prog G1 kV:=Yo ⟨D8 aF5,⟨D8 aF6,ak⟩⟩
abbrev aIV:=Option (Nat×List Nat)->Ah kR
abbrev aKt:=Option (Nat×List Nat)->Ag kR aAx
variable (p100003:aIV)(f100003:aKt)
abbrev Rp:Aa:=[(true,Zz),(false,Zc)]
abbrev Tn:Aa:=[(false,Zb),(false,Za),(false,Za)]
def aSe(p100003:aIV)(f100003:aKt)(a0:Ab Zz)(a1:Ab Zc):Option (DenS Tn):=bif(p100003 (some (a1,[])) (a0.2.1,a0.2.2.1,a0.2.2.2.1,()))then(some (f100003 (some (a1,[])) (a0.2.1,a0.2.2.1,a0.2.2.2.1,())))else none
theorem bFu(x:DenS Rp):run ({cf [] []with fns:=[(57,⟨kR,aAx,p100003,f100003⟩)] }) 9 221 Tryz.f221 Rp Tn x=aSe p100003 f100003 x.1 x.2.1:=by kernel_rfl
def aH1(x:DenS Rp):Option (DenS Tn):=aSe kV.pre kV.F x.1 x.2.1
def Ur:Sum:=Aj Rp Tn aH1 (DenS.dflt Tn)
theorem aAO:Sound Tryz.prog G1 221 Ur:=sd ({cf [] []with fns:=[(57,kV)] }) 221 Tryz.f221 trivial trivial Rp Tn aH1 _ (fun _=>bFu ..) (hfs:=⟨aTO,ak⟩)
abbrev aJV:=Ah Rp
abbrev aLt:=Ag Rp Tn
variable (p425:aJV)(f425:aLt)
abbrev Qd:Aa:=[(false,Za),(false,Zb),(false,Zb),(false,.bool)]
abbrev R8:Aa:=[(false,Za),(false,Za),(false,Za)]
def t14(p52:rZ)(f52:sS)(p53:VW)(f53:V6)(p54:VX)(f54:V7)(a0:Ab Za)(a1 a2:Ab Zb)(a3:Ab (.bool)):Option (DenS R8):=let e1_:=((f52 (a0,a1,a2,())).1,(f52 (a0,a1,a2,())).2.1,());bif(p52 (a0,a1,a2,()))then(bif((f52 (a0,a1,a2,())).2.2.1 !=(0:Int))then(some ((0:Int),(0:Int),(f52 (a0,a1,a2,())).2.2))else bif(p53 ((f52 (a0,a1,a2,())).1,()))then(bif((p53 ((f52 (a0,a1,a2,())).2.1,()))||(!(bif(f53 ((f52 (a0,a1,a2,())).1,())).1 then false else true)))then(bif((f53 ((f52 (a0,a1,a2,())).1,())).1||(f53 ((f52 (a0,a1,a2,())).2.1,())).1)then(bif(p54 e1_)then(bif a3 then(some ((3:Int),(1:Int),(0:Int),()))else some ((3:Int),(f54 e1_).1,(0:Int),()))else none)else bif(decide ((f52 (a0,a1,a2,())).1.2.1<(f52 (a0,a1,a2,())).2.1.2.1))then(some ((0:Int),(0:Int),(0:Int),()))else bif(decide ((f52 (a0,a1,a2,())).1.2.1>(f52 (a0,a1,a2,())).2.1.2.1))then(some ((2:Int),(0:Int),(0:Int),()))else some ((1:Int),(0:Int),(0:Int),()))else none)else none)else none
theorem r14(x:DenS Qd):run (cf [(245,⟨Kq,KT,p52,f52⟩),(229,⟨Hg,Ht,p53,f53⟩),(230,⟨Hh,Hu,p54,f54⟩)] []) 9 226 Tryz.f226 Qd R8 x=t14 p52 f52 p53 f53 p54 f54 x.1 x.2.1 x.2.2.1 x.2.2.2.1:=by kernel_rfl
def T14(x:DenS Qd):Option (DenS R8):=t14 Le.pre Le.F E7.pre E7.F E8.pre E8.F x.1 x.2.1 x.2.2.1 x.2.2.2.1
def lA:Sum:=Aj Qd R8 T14 (DenS.dflt R8)
theorem aT6:Sound Tryz.prog G1 226 lA:=sd (cf [(245,Le),(229,E7),(230,E8)] []) 226 Tryz.f226 ⟨aAU,bL,bM,ak⟩ trivial Qd R8 T14 _ (fun _=>r14 ..)
abbrev Y14:=Ah Qd
abbrev Z14:=Ag Qd R8
variable (p14:Y14)(f14:Z14)
abbrev Rq:Aa:=[(true,Zz),(false,.box .bool)]
abbrev To:Aa:=[(false,Zb),(false,Za),(false,Za)]
def aSf(p14:Y14)(f14:Z14)(a0:Ab Zz)(a1:Ab (.box .bool)):Option (DenS To):=let e1_:=(f14 (a0.2.1,a0.2.2.1,a0.2.2.2.1,a1,()));bif(p14 (a0.2.1,a0.2.2.1,a0.2.2.2.1,a1,()))then(some ((al .u64 e1_.1),e1_.2))else none
theorem bFv(x:DenS Rq):run (cf [(226,⟨Qd,R8,p14,f14⟩)] []) 9 225 Tryz.f225 Rq To x=aSf p14 f14 x.1 x.2.1:=by kernel_rfl
def aH2(x:DenS Rq):Option (DenS To):=aSf lA.pre lA.F x.1 x.2.1
def Us:Sum:=Aj Rq To aH2 (DenS.dflt To)
theorem aAP:Sound Tryz.prog G1 225 Us:=sd (cf [(226,lA)] []) 225 Tryz.f225 ⟨aT6,ak⟩ trivial Rq To aH2 _ (fun _=>bFv ..)
abbrev aJW:=Ah Rq
abbrev aLu:=Ag Rq To
variable (p426:aJW)(f426:aLu)
abbrev kT:Aa:=[(false,Za),(false,Zb)]
abbrev aAz:Aa:=[(false,Zb),(false,Za)]
def kX:SumF:=LH kT aAz [(187,[],Fv),(188,[],K9)]
theorem aTQ:Ma Tryz.prog G1 kX:=Yo ⟨D8 mT,⟨D8 aAE,ak⟩⟩
abbrev aIX:=Option (Nat×List Nat)->Ah kT
abbrev aKv:=Option (Nat×List Nat)->Ag kT aAz
variable (p100005:aIX)(f100005:aKv)
abbrev Rr:Aa:=[(true,Zz),(false,Zc)]
abbrev Tp:Aa:=[(false,Zb),(false,Za),(false,Za)]
def aSg(p100005:aIX)(f100005:aKv)(a0:Ab Zz)(a1:Ab Zc):Option (DenS Tp):=let e1_:=(f100005 (some (a1,[])) (a0.2.1,a0.2.2.1,()));bif(p100005 (some (a1,[])) (a0.2.1,a0.2.2.1,()))then(some (e1_.1,(0:Int),e1_.2))else none
theorem bFw(x:DenS Rr):run ({cf [] []with fns:=[(64,⟨kT,aAz,p100005,f100005⟩)] }) 9 232 Tryz.f232 Rr Tp x=aSg p100005 f100005 x.1 x.2.1:=by kernel_rfl
def aH3(x:DenS Rr):Option (DenS Tp):=aSg kX.pre kX.F x.1 x.2.1
def Ut:Sum:=Aj Rr Tp aH3 (DenS.dflt Tp)
theorem aAQ:Sound Tryz.prog G1 232 Ut:=sd ({cf [] []with fns:=[(64,kX)] }) 232 Tryz.f232 trivial trivial Rr Tp aH3 _ (fun _=>bFw ..) (hfs:=⟨aTQ,ak⟩)
abbrev aJX:=Ah Rr
abbrev aLv:=Ag Rr Tp
variable (p427:aJX)(f427:aLv)
abbrev EP:Aa:=[(true,Zz)]
abbrev Ep:Aa:=[(false,Zb),(false,Za),(false,Za)]
def K7:SumF:=LH EP Ep [(192,[160],J5 EP Ep Dy.pre Dy.F 158),(192,[161],J5 EP Ep Dy.pre Dy.F 159),(192,[162],J5 EP Ep Dy.pre Dy.F 160),(192,[163],J5 EP Ep Dy.pre Dy.F 161),(162,[],aY),(164,[],aZ),(169,[],bA),(171,[],bB),(173,[],bD),(175,[],bE),(181,[],bF),(183,[],bG),(185,[],bH),(189,[],bI),(213,[169],J5 EP Ep Uq.pre Uq.F 167),(213,[170],J5 EP Ep Uq.pre Uq.F 168),(221,[180],J5 EP Ep Ur.pre Ur.F 178),(221,[181],J5 EP Ep Ur.pre Ur.F 179),(225,[0],aFe EP Ep Us.pre Us.F false),(225,[1],aFe EP Ep Us.pre Us.F true),(232,[189],J5 EP Ep Ut.pre Ut.F 187),(232,[190],J5 EP Ep Ut.pre Ut.F 188)]
theorem aTM:Ma Tryz.prog G1 K7:=Yo ⟨LN aX 158,⟨LN aX 159,⟨LN aX 160,⟨LN aX 161,⟨D8 aGd,⟨D8 aGf,⟨D8 aGi,⟨D8 aGj,⟨D8 aGk,⟨D8 aGl,⟨D8 aGm,⟨D8 aGn,⟨D8 aGo,⟨D8 aGp,⟨LN aAN 167,⟨LN aAN 168,⟨LN aAO 178,⟨LN aAO 179,⟨aOe aAP false,⟨aOe aAP true,⟨LN aAQ 187,⟨LN aAQ 188,ak⟩⟩⟩⟩⟩⟩⟩⟩⟩⟩⟩⟩⟩⟩⟩⟩⟩⟩⟩⟩⟩⟩
abbrev aIT:=Option (Nat×List Nat)->Ah EP
abbrev aKr:=Option (Nat×List Nat)->Ag EP Ep
variable (p100001:aIT)(f100001:aKr)
abbrev Rs:Aa:=[(false,Za)]
abbrev Tq:Aa:=[(false,.bool)]
def aSh(a0:Ab Za):Option (DenS Tq):=some (((fI .i64 a0 (31:Int))==(0:Int)),())
theorem bFx(x:DenS Rs):run (cf [] []) 9 152 Tryz.f152 Rs Tq x=aSh x.1:=by kernel_rfl
def XJ(x:DenS Rs):Option (DenS Tq):=aSh x.1
def Uu:Sum:=Aj Rs Tq XJ (DenS.dflt Tq)
theorem aU2:Sound Tryz.prog G1 152 Uu:=sd (cf [] []) 152 Tryz.f152 trivial trivial Rs Tq XJ _ (fun _=>bFx ..)
abbrev aJY:=Ah Rs
abbrev aLw:=Ag Rs Tq
variable (p428:aJY)(f428:aLw)
abbrev Rt:Aa:=[(true,Zp)]
abbrev Tr:Aa:=[(false,Za)]
def yF(p428:aJY)(f428:aLw)(a0:Ab Zp):Option (DenS Tr):=bif((decide (a0.1<(0:Int)))||(decide (a0.1>(5:Int))))then(some ((3:Int),()))else bif(p428 (a0.2.1,()))then(bif((p428 a0.2.2)||(!(bif(!(f428 (a0.2.1,())).1)then false else true)))then(bif((!(f428 (a0.2.1,())).1)||(!(f428 a0.2.2).1))then(some ((7:Int),()))else some ((0:Int),()))else none)else none
theorem bFy(x:DenS Rt):run (cf [(152,⟨Rs,Tq,p428,f428⟩)] []) 9 144 Tryz.f144 Rt Tr x=yF p428 f428 x.1:=by kernel_rfl
def XK(x:DenS Rt):Option (DenS Tr):=yF Uu.pre Uu.F x.1
def Uv:Sum:=Aj Rt Tr XK (DenS.dflt Tr)
theorem aU3:Sound Tryz.prog G1 144 Uv:=sd (cf [(152,Uu)] []) 144 Tryz.f144 ⟨aU2,ak⟩ trivial Rt Tr XK _ (fun _=>bFy ..)
abbrev aJZ:=Ah Rt
abbrev aLx:=Ag Rt Tr
variable (p429:aJZ)(f429:aLx)
abbrev Rv:Aa:=[(false,.pfn)]
abbrev Tu:Aa:=[(true,.pair Za (.pair .fn .unit))]
def aSj(p395:aBD)(f395:aCh)(a0:Ab (.pfn)):Option (DenS Tu):=some (((2:Int),(some ((192:Nat),((a0+(2:Nat))::[]))),()),())
theorem bFA(x:DenS Rv):run (cf [(192,⟨QZ,M4,p395,f395⟩)] []) 9 157 Tryz.f157 Rv Tu x=aSj p395 f395 x.1:=by kernel_rfl
def aH5(x:DenS Rv):Option (DenS Tu):=aSj Dy.pre Dy.F x.1
def mK:Sum:=Aj Rv Tu aH5 (DenS.dflt Tu)
theorem aU4:Sound Tryz.prog G1 157 mK:=sd (cf [(192,Dy)] []) 157 Tryz.f157 ⟨aX,ak⟩ trivial Rv Tu aH5 _ (fun _=>bFA ..)
abbrev aJ1:=Ah Rv
abbrev aLz:=Ag Rv Tu
variable (p430:aJ1)(f430:aLz)
abbrev Rw:Aa:=[(false,.pfn)]
abbrev Tv:Aa:=[(true,.pair Za (.pair .fn .unit))]
def aSk(p424:aJU)(f424:aLs)(a0:Ab (.pfn)):Option (DenS Tv):=some (((2:Int),(some ((213:Nat),((a0+(2:Nat))::[]))),()),())
theorem bFB(x:DenS Rw):run (cf [(213,⟨Ro,Tm,p424,f424⟩)] []) 9 166 Tryz.f166 Rw Tv x=aSk p424 f424 x.1:=by kernel_rfl
def aH6(x:DenS Rw):Option (DenS Tv):=aSk Uq.pre Uq.F x.1
def mL:Sum:=Aj Rw Tv aH6 (DenS.dflt Tv)
theorem aU5:Sound Tryz.prog G1 166 mL:=sd (cf [(213,Uq)] []) 166 Tryz.f166 ⟨aAN,ak⟩ trivial Rw Tv aH6 _ (fun _=>bFB ..)
abbrev aJ2:=Ah Rw
abbrev aLA:=Ag Rw Tv
variable (p431:aJ2)(f431:aLA)
abbrev Rx:Aa:=[(false,.pfn)]
abbrev Tw:Aa:=[(true,.pair Za (.pair .fn .unit))]
def aSl(p425:aJV)(f425:aLt)(a0:Ab (.pfn)):Option (DenS Tw):=some (((2:Int),(some ((221:Nat),((a0+(2:Nat))::[]))),()),())
theorem bFC(x:DenS Rx):run (cf [(221,⟨Rp,Tn,p425,f425⟩)] []) 9 177 Tryz.f177 Rx Tw x=aSl p425 f425 x.1:=by kernel_rfl
def aH7(x:DenS Rx):Option (DenS Tw):=aSl Ur.pre Ur.F x.1
def mM:Sum:=Aj Rx Tw aH7 (DenS.dflt Tw)
theorem aU6:Sound Tryz.prog G1 177 mM:=sd (cf [(221,Ur)] []) 177 Tryz.f177 ⟨aAO,ak⟩ trivial Rx Tw aH7 _ (fun _=>bFC ..)
abbrev aJ3:=Ah Rx
abbrev aLB:=Ag Rx Tw
variable (p432:aJ3)(f432:aLB)
abbrev Ry:Aa:=[(false,.bool)]
abbrev Tx:Aa:=[(true,.pair Za (.pair .fn .unit))]
def aSm(p426:aJW)(f426:aLu)(a0:Ab (.bool)):Option (DenS Tx):=some (((2:Int),(some ((225:Nat),((bif a0 then(1:Nat)else(0:Nat))::[]))),()),())
theorem bFD(x:DenS Ry):run (cf [(225,⟨Rq,To,p426,f426⟩)] []) 9 180 Tryz.f180 Ry Tx x=aSm p426 f426 x.1:=by kernel_rfl
def aH8(x:DenS Ry):Option (DenS Tx):=aSm Us.pre Us.F x.1
def mN:Sum:=Aj Ry Tx aH8 (DenS.dflt Tx)
theorem aU7:Sound Tryz.prog G1 180 mN:=sd (cf [(225,Us)] []) 180 Tryz.f180 ⟨aAP,ak⟩ trivial Ry Tx aH8 _ (fun _=>bFD ..)
abbrev aJ4:=Ah Ry
abbrev aLC:=Ag Ry Tx
variable (p433:aJ4)(f433:aLC)
abbrev Rz:Aa:=[(false,.pfn)]
abbrev Ty:Aa:=[(true,.pair Za (.pair .fn .unit))]
def aSn(p427:aJX)(f427:aLv)(a0:Ab (.pfn)):Option (DenS Ty):=some (((1:Int),(some ((232:Nat),((a0+(2:Nat))::[]))),()),())
theorem bFE(x:DenS Rz):run (cf [(232,⟨Rr,Tp,p427,f427⟩)] []) 9 186 Tryz.f186 Rz Ty x=aSn p427 f427 x.1:=by kernel_rfl
def aH9(x:DenS Rz):Option (DenS Ty):=aSn Ut.pre Ut.F x.1
def mO:Sum:=Aj Rz Ty aH9 (DenS.dflt Ty)
theorem aU8:Sound Tryz.prog G1 186 mO:=sd (cf [(232,Ut)] []) 186 Tryz.f186 ⟨aAQ,ak⟩ trivial Rz Ty aH9 _ (fun _=>bFE ..)
abbrev aJ5:=Ah Rz
abbrev aLD:=Ag Rz Ty
variable (p434:aJ5)(f434:aLD)
abbrev RA:Aa:=[]
abbrev Tz:Aa:=[(false,.slice (.pair Za (.pair .fn .unit)))]
def aSo(p27:rL)(f27:sD)(p25:Y25)(f25:Z25)(p354:aBB)(f354:aCf)(p381:aBC)(f381:aCg)(p430:aJ1)(f430:aLz)(p396:aBE)(f396:aCi)(p402:aBG)(f402:aCk)(p422:aJS)(f422:aLq)(p423:aJT)(f423:aLr)(p431:aJ2)(f431:aLA)(p407:aBJ)(f407:aCn)(p408:aBK)(f408:aCo)(p411:aBL)(f411:aCp)(p413:aBM)(f413:aCq)(p19:Y19)(f19:Z19)(p21:Y21)(f21:Z21)(p432:aJ3)(f432:aLB)(p433:aJ4)(f433:aLC)(p414:aBN)(f414:aCr)(p415:aBO)(f415:aCs)(p416:aBP)(f416:aCt)(p64:X0)(f64:Ya)(p112:rE)(f112:r6)(p434:aJ5)(f434:aLD)(p418:aBQ)(f418:aCu):Option (DenS Tz):=bif(p430 ((158:Nat),()))then(bif(p430 ((159:Nat),()))then(bif(p430 ((160:Nat),()))then(bif(p430 ((161:Nat),()))then(bif(p431 ((167:Nat),()))then(bif(p431 ((168:Nat),()))then(bif(p432 ((178:Nat),()))then(bif(p432 ((179:Nat),()))then(bif(p433 (false,()))then(bif(p433 (true,()))then(bif(p434 ((187:Nat),()))then(bif(p434 ((188:Nat),()))then(some ((((0:Int),none,())::((f430 ((158:Nat),())).1::((f430 ((159:Nat),())).1::((f430 ((160:Nat),())).1::((f430 ((161:Nat),())).1::(((1:Int),(some ((162:Nat),[])),())::(((3:Int),(some ((164:Nat),[])),())::((f431 ((167:Nat),())).1::((f431 ((168:Nat),())).1::(((1:Int),(some ((169:Nat),[])),())::(((1:Int),(some ((171:Nat),[])),())::(((1:Int),(some ((173:Nat),[])),())::(((0:Int),(some ((175:Nat),[])),())::((f432 ((178:Nat),())).1::((f432 ((179:Nat),())).1::((f433 (false,())).1::((f433 (true,())).1::(((1:Int),(some ((181:Nat),[])),())::(((1:Int),(some ((183:Nat),[])),())::(((1:Int),(some ((185:Nat),[])),())::((f434 ((187:Nat),())).1::((f434 ((188:Nat),())).1::(((2:Int),(some ((189:Nat),[])),())::[]))))))))))))))))))))))),()))else none)else none)else none)else none)else none)else none)else none)else none)else none)else none)else none)else none
theorem bFF(x:DenS RA):run (cf [(158,⟨Mn,MY,p27,f27⟩),(159,⟨Qw,Su,p25,f25⟩),(160,⟨QM,SM,p354,f354⟩),(161,⟨QV,M3,p381,f381⟩),(157,⟨Rv,Tu,p430,f430⟩),(162,⟨Q0,SY,p396,f396⟩),(164,⟨Q5,S5,p402,f402⟩),(167,⟨Rm,Tk,p422,f422⟩),(168,⟨Rn,Tl,p423,f423⟩),(166,⟨Rw,Tv,p431,f431⟩),(169,⟨Q7,S6,p407,f407⟩),(171,⟨Q8,S7,p408,f408⟩),(173,⟨Rc,Ta,p411,f411⟩),(175,⟨Re,Tc,p413,f413⟩),(178,⟨Qu,Sr,p19,f19⟩),(179,⟨Qv,Ss,p21,f21⟩),(177,⟨Rx,Tw,p432,f432⟩),(180,⟨Ry,Tx,p433,f433⟩),(181,⟨Rf,Td,p414,f414⟩),(183,⟨Rg,Te,p415,f415⟩),(185,⟨Rh,Tf,p416,f416⟩),(187,⟨Kr,KU,p64,f64⟩),(188,⟨Mc,MO,p112,f112⟩),(186,⟨Rz,Ty,p434,f434⟩),(189,⟨Rj,Th,p418,f418⟩)] []) 9 153 Tryz.f153 RA Tz x=aSo p27 f27 p25 f25 p354 f354 p381 f381 p430 f430 p396 f396 p402 f402 p422 f422 p423 f423 p431 f431 p407 f407 p408 f408 p411 f411 p413 f413 p19 f19 p21 f21 p432 f432 p433 f433 p414 f414 p415 f415 p416 f416 p64 f64 p112 f112 p434 f434 p418 f418:=by kernel_rfl
def aIa(x:DenS RA):Option (DenS Tz):=aSo EY.pre EY.F N8.pre N8.F N9.pre N9.F Oa.pre Oa.F mK.pre mK.F aY.pre aY.F aZ.pre aZ.F bJ.pre bJ.F bK.pre bK.F mL.pre mL.F bA.pre bA.F bB.pre bB.F bD.pre bD.F bE.pre bE.F aV.pre aV.F aW.pre aW.F mM.pre mM.F mN.pre mN.F bF.pre bF.F bG.pre bG.F bH.pre bH.F Fv.pre Fv.F K9.pre K9.F mO.pre mO.F bI.pre bI.F
def GR:Sum:=Aj RA Tz aIa (DenS.dflt Tz)
theorem aU9:Sound Tryz.prog G1 153 GR:=sd (cf [(158,EY),(159,N8),(160,N9),(161,Oa),(157,mK),(162,aY),(164,aZ),(167,bJ),(168,bK),(166,mL),(169,bA),(171,bB),(173,bD),(175,bE),(178,aV),(179,aW),(177,mM),(180,mN),(181,bF),(183,bG),(185,bH),(187,Fv),(188,K9),(186,mO),(189,bI)] []) 153 Tryz.f153 ⟨aAL,aF7,aGb,aGc,aU4,aGd,aGf,aGr,aGs,aU5,aGi,aGj,aGk,aGl,aF5,aF6,aU6,aU7,aGm,aGn,aGo,mT,aAE,aU8,aGp,ak⟩ trivial RA Tz aIa _ (fun _=>bFF ..)
abbrev aJ6:=Ah RA
abbrev aLE:=Ag RA Tz
variable (p435:aJ6)(f435:aLE)
abbrev RB:Aa:=[(false,Za)]
abbrev TA:Aa:=[(true,.pair Za (.pair .fn .unit)),(false,Za)]
def Z9(p435:aJ6)(f435:aLE)(a0:Ab Za):Option (DenS TA):=bif(p435 ())then(bif((decide (a0<(1:Int)))||(decide (a0>=((f435 ()).1.length:Int))))then(some (((0:Int),none,()),(190:Int),()))else bif((decide ((0:Int)<=a0))&&(decide (a0<((f435 ()).1.length:Int))))then(some (((f435 ()).1.getD (aq a0) ((0:Int),none,())),(0:Int),()))else none)else none
theorem bFG(x:DenS RB):run (cf [(153,⟨RA,Tz,p435,f435⟩)] []) 9 145 Tryz.f145 RB TA x=Z9 p435 f435 x.1:=by kernel_rfl
def Od(x:DenS RB):Option (DenS TA):=Z9 GR.pre GR.F x.1
def Ob:Sum:=Aj RB TA Od (DenS.dflt TA)
theorem aVa:Sound Tryz.prog G1 145 Ob:=sd (cf [(153,GR)] []) 145 Tryz.f145 ⟨aU9,ak⟩ trivial RB TA Od _ (fun _=>bFG ..)
abbrev aJ7:=Ah RB
abbrev aLF:=Ag RB TA
variable (p436:aJ7)(f436:aLF)
abbrev RC:Aa:=[(false,Za),(true,.pair Za (.pair .fn .unit)),(true,Zz)]
abbrev KP:Aa:=[(false,Za)]
abbrev Jf:Pat:=⟨84,[(43,.one (.v .i64)),(42,.one (.sl Zb)),(44,.one (.v .i64)),(0,.one (.v .i64)),(5,.one (.ptr 1 0))],[.gone,.raw [.v .i64,.v .i64,.v .u64,.v .u64,.v .u64]]⟩
abbrev kH:List (Nat×Shape):=[]
abbrev OS:List (Nat×Pat):=[(1,⟨84,[(0,.one (.v .i64)),(5,.one (.ptr 1 0))],[.gone,.raw [.v .i64,.v .i64,.v .u64,.v .u64,.v .u64]]⟩)]
abbrev N1:Option Pat:=(some ⟨84,[(6,.one (.v .i64))],[]⟩)
variable (w437_13:Pat.D Jf->Option (Ad OS N1))
def Y2(p69:BS)(f69:BT)(p66:Cd)(f66:Ce){R:Type}(L:Pat.D Jf->Option R)(e:Ad OS N1->Option R)(x:Pat.D Jf):Option R:=let e2_:=(x.2.2.1.2.1,(x.1.2.1.getD (aq x.1.2.2.1) (0:Int)),());let e1_:=(f66 e2_);bif(decide (x.1.2.2.1<x.1.1))then(bif((decide ((0:Int)<=x.1.2.2.1))&&(decide (x.1.2.2.1<(x.1.2.1.length:Int))))then(bif(p66 e2_)then(bif(e1_.1 !=(0:Int))then(((e (.inr (e1_,())))))else(L ((x.1.1,x.1.2.1,(al .i64 (x.1.2.2.1+(1:Int))),x.1.2.2.2.1,(),()),(),x.2.2)))else none)else none)else(e (.inl ((x.1.2.2.2.1,(),()),(),x.2.2)))
theorem bHV(d:Nat)(R:Type)(L:Pat.D Jf->Option R)(e:Ad OS N1->Option R)(x:Pat.D Jf):
  Bq (cf [(71,⟨B6,B7,p69,f69⟩),(85,⟨CG,CH,p66,f66⟩)] [(146,13,LoopSpec.of Jf kH OS N1 w437_13)]) (d+2) 146 (Bp Tryz.f146 13) Jf kH OS N1 (R:=R) L e x=Y2 p69 f69 p66 f66 L e x:=by kernel_rfl
theorem aPv(p69:BS)(f69:BT)(p66:Cd)(f66:Ce):Bn fun L e x=>Y2 p69 f69 p66 f66 L e x:=by intro _ _ _ _ _ _ _ h0 hL he _;unfold Y2;repeat' (first|exact h0|exact hL _|exact he _|apply By|(apply Bz h0;intro _)|(apply BA<;>intro _))
def yG(p69:BS)(f69:BT)(p66:Cd)(f66:Ce)(w437_13:Pat.D Jf->Option (Ad OS N1))(a0:Ab Za)(a1:Ab (.pair Za (.pair .fn .unit)))(a2:Ab Zz):Option (DenS KP):=
 let e4_:=(a2.2.2.1::(a2.2.2.2.1::(a2.2.2.2.2.1::[])))
 let e3_:=((e4_.take (aq a1.1)).drop (aq (0:Int)))
 let e1_:=(w437_13 (((e3_.length:Int),e3_,(0:Int),a0,(),()),(),(a2.1,a2.2),()))
 let e2_:=((decide ((0:Int)<=a1.1))&&(decide (a1.1<=(e4_.length:Int))))
 let g1_:Option (DenS KP):=bif(decide (a2.2.2.2.2.1>(3:Int)))then(some ((9:Int),()))
 else bif e2_ then(Vx.AQ e1_ fun y7=>
 Vx.AP y7 (fun y8=>
 bif(y8.1.1==(12:Int))then(bif((((al .i64 y8.2.2.1.2.2.2.2.1)==(0:Int))&&((al .u64 (al .i64 (al .i32 y8.2.2.1.2.2.1)))!=y8.2.2.1.2.2.1))||(((al .i64 y8.2.2.1.2.2.2.2.1)==(2:Int))&&((AR .u64 y8.2.2.1.2.2.1 (32:Int))!=(0:Int))))then(some ((4:Int),()))
 else some ((0:Int),()))
 else some ((0:Int),())) (fun z8=>
 some z8.1))
 else none
 let g2_:Option (DenS KP):=bif e2_ then(Vx.AQ e1_ fun y6=>
 Vx.AP y6 (fun y7=>
 bif(y7.1.1==(12:Int))then(bif((((al .i64 y7.2.2.1.2.2.2.2.1)==(0:Int))&&((al .u64 (al .i64 (al .i32 y7.2.2.1.2.2.1)))!=y7.2.2.1.2.2.1))||(((al .i64 y7.2.2.1.2.2.2.2.1)==(2:Int))&&((AR .u64 y7.2.2.1.2.2.1 (32:Int))!=(0:Int))))then(some ((4:Int),()))
 else some ((0:Int),()))
 else some ((0:Int),())) (fun z7=>
 some z7.1))
 else none
 bif(p69 (a2.2.1,()))then(bif((f69 (a2.2.1,())).2.1 !=(0:Int))then(some (f69 (a2.2.1,())).2)
 else bif(a0==(10:Int))then(bif(decide (a2.2.2.2.2.1>(3:Int)))then(some ((2:Int),()))
 else bif e2_ then(Vx.AQ e1_ fun y5=>
 Vx.AP y5 (fun y6=>
 bif(y6.1.1==(12:Int))then(bif((((al .i64 y6.2.2.1.2.2.2.2.1)==(0:Int))&&((al .u64 (al .i64 (al .i32 y6.2.2.1.2.2.1)))!=y6.2.2.1.2.2.1))||(((al .i64 y6.2.2.1.2.2.2.2.1)==(2:Int))&&((AR .u64 y6.2.2.1.2.2.1 (32:Int))!=(0:Int))))then(some ((4:Int),()))
 else some ((0:Int),()))
 else some ((0:Int),())) (fun z6=>
 some z6.1))
 else none)
 else bif(a0==(11:Int))then(bif(a0==(11:Int))then(g1_)
 else g2_)
 else bif(a0==(12:Int))then(g1_)
 else g2_)
 else none
theorem bFH(x:DenS RC):run (cf [(71,⟨B6,B7,p69,f69⟩),(85,⟨CG,CH,p66,f66⟩)] [(146,13,LoopSpec.of Jf kH OS N1 w437_13)]) 9 146 Tryz.f146 RC KP x=yG p69 f69 p66 f66 w437_13 x.1 x.2.1 x.2.2.1:=by kernel_rfl
def qU:Jf.D->Option (Ad OS N1):=Bi fun L=>Y2 Ap.pre Ap.F Av.pre Av.F L some
def cQ(x:DenS RC):Option (DenS KP):=yG Ap.pre Ap.F Av.pre Av.F qU x.1 x.2.1 x.2.2.1
def Uw:Sum:=Aj RC KP cQ (DenS.dflt KP)
theorem aVb:Sound Tryz.prog G1 146 Uw:=sd (cf [(71,Ap),(85,Av)] [(146,13,LoopSpec.of Jf kH OS N1 qU)]) 146 Tryz.f146 ⟨D1,FY,ak⟩ ⟨rfl,fun d=>Bw (fun L e x=>Y2 Ap.pre Ap.F Av.pre Av.F L e x) (aPv Ap.pre Ap.F Av.pre Av.F) (fun _ _ _ _=>bHV ..),ak⟩ RC KP cQ _ (fun _=>bFH ..)
abbrev aJ8:=Ah RC
abbrev aLG:=Ag RC KP
variable (p437:aJ8)(f437:aLG)
abbrev RD:Aa:=[(true,Zp),(false,Za),(false,Za),(false,Zb),(false,Zb),(false,Zb)]
abbrev TB:Aa:=[(true,.pair Zb (.pair Za (.pair Za (.pair Zp .unit)))),(false,Za)]
def yH(p429:aJZ)(f429:aLx)(p436:aJ7)(f436:aLF)(p437:aJ8)(f437:aLG)(p100001:aIT)(f100001:aKr)(a0:Ab Zp)(a1 a2:Ab Za)(a3 a4 a5:Ab Zb):Option (DenS TB):=let e5_:=(f100001 (f436 (a1,())).1.2.1 ((a0.1,a2,a3,a4,a5,()),()));let e1_:=(BR .i64 e5_.2.1 a0.2.2.1);let e2_:=((0:Int),(0:Int),(0:Int),((0:Int),(0:Int),(0:Int),()),());let e6_:=(a1,(f436 (a1,())).1,(a0.1,a2,a3,a4,a5,()),());let e3_:=(f437 e6_);let e4_:=e5_;bif(p429 ((a0.1,a0.2),()))then(bif((f429 ((a0.1,a0.2),())).1 !=(0:Int))then(some (e2_,(f429 ((a0.1,a0.2),()))))else bif(p436 (a1,()))then(bif((f436 (a1,())).2.1 !=(0:Int))then(some (e2_,(f436 (a1,())).2))else bif(p437 e6_)then(bif(e3_.1 !=(0:Int))then(some (e2_,e3_))else bif(p100001 (f436 (a1,())).1.2.1 ((a0.1,a2,a3,a4,a5,()),()))then(bif(e4_.2.2.1 !=(0:Int))then(some (e2_,e4_.2.2))else bif(e1_ !=(0:Int))then(some (((0:Int),e4_.2.1,(BR .i64 e1_ (al .i64 ((0:Int)-e1_))),(a0.1,a0.2),()),(0:Int),()))else some ((e4_.1,e4_.2.1,(0:Int),(a0.1,(Ao .i64 a0.2.1 e4_.2.1),a0.2.2),()),(0:Int),()))else none)else none)else none)else none
theorem bFI(x:DenS RD):run ({cf [(144,⟨Rt,Tr,p429,f429⟩),(145,⟨RB,TA,p436,f436⟩),(146,⟨RC,KP,p437,f437⟩)] []with fns:=[(57,⟨EP,Ep,p100001,f100001⟩)] }) 9 125 Tryz.f125 RD TB x=yH p429 f429 p436 f436 p437 f437 p100001 f100001 x.1 x.2.1 x.2.2.1 x.2.2.2.1 x.2.2.2.2.1 x.2.2.2.2.2.1:=by kernel_rfl
def VK(x:DenS RD):Option (DenS TB):=yH Uv.pre Uv.F Ob.pre Ob.F Uw.pre Uw.F K7.pre K7.F x.1 x.2.1 x.2.2.1 x.2.2.2.1 x.2.2.2.2.1 x.2.2.2.2.2.1
def Ux:Sum:=Aj RD TB VK (DenS.dflt TB)
theorem aVc:Sound Tryz.prog G1 125 Ux:=sd ({cf [(144,Uv),(145,Ob),(146,Uw)] []with fns:=[(57,K7)] }) 125 Tryz.f125 ⟨aU3,aVa,aVb,ak⟩ trivial RD TB VK _ (fun _=>bFI ..) (hfs:=⟨aTM,ak⟩)
abbrev aJ9:=Ah RD
abbrev aLH:=Ag RD TB
variable (p438:aJ9)(f438:aLH)
abbrev Ii:Aa:=[(false,Za),(false,Zb),(false,Zb)]
abbrev Ix:Aa:=[(false,Zb)]
abbrev Fq:LK:=.ref Zp
def yI(p438:aJ9)(f438:aLH)(l0:LK.D (.ref Zp))(a0:Ab Za)(a1 a2:Ab Zb):Option (LK.B Fq×DenS Ix):=let e2_:=((l0.2.1,(0:Int),(0:Int),()),a0,l0.1,a1,a2,(0:Int),());let e1_:=(f438 e2_);bif(p438 e2_)then(some ((l0.1,l0.2.1,(Ao .i64 l0.2.2.1 e1_.1.2.1),()),e1_.1.1,()))else none
theorem bFJ(x:LK.D Fq×DenS Ii):DI (cf [(125,⟨RD,TB,p438,f438⟩)] []) 9 106 Tryz.f106 Fq Ii Ix x=yI p438 f438 x.1 x.2.1 x.2.2.1 x.2.2.2.1:=by kernel_rfl
def oH(x:LK.D Fq×DenS Ii):Option (LK.B Fq×DenS Ix):=yI Ux.pre Ux.F x.1 x.2.1 x.2.2.1 x.2.2.2.1
def Dj:SumL:=DK Fq Ii Ix oH (LK.dflt Fq,DenS.dflt Ix)
theorem mP:SoundL Tryz.prog G1 106 Dj:=EK (cf [(125,Ux)] []) 106 Tryz.f106 ⟨aVc,ak⟩ trivial Fq Ii Ix oH _ (fun _=>bFJ ..)
abbrev dQ:=LK.D Fq×DenS Ii->Bool
abbrev eJ:=LK.D Fq×DenS Ii->LK.B Fq×DenS Ix
variable (p464:dQ)(f464:eJ)
abbrev Mw:Aa:=[(false,Zb),(false,Zb)]
abbrev Na:Aa:=[(false,Zb)]
abbrev Gq:LK:=.ref Zp
def yJ(p464:dQ)(f464:eJ)(l0:LK.D (.ref Zp))(a0 a1:Ab Zb):Option (LK.B Gq×DenS Na):=bif(p464 ((l0.1,l0.2),(3:Int),a0,a1,()))then(some (f464 ((l0.1,l0.2),(3:Int),a0,a1,())))else none
theorem bFK(x:LK.D Gq×DenS Mw):DI ({cf [] []with lsums:=[(106,⟨Fq,Ii,Ix,p464,f464⟩)] }) 9 79 Tryz.f79 Gq Mw Na x=yJ p464 f464 x.1 x.2.1 x.2.2.1:=by kernel_rfl
def oJ(x:LK.D Gq×DenS Mw):Option (LK.B Gq×DenS Na):=yJ Dj.pre Dj.F x.1 x.2.1 x.2.2.1
def GS:SumL:=DK Gq Mw Na oJ (LK.dflt Gq,DenS.dflt Na)
theorem aGt:SoundL Tryz.prog G1 79 GS:=EK ({cf [] []with lsums:=[(106,Dj)] }) 79 Tryz.f79 trivial trivial Gq Mw Na oJ _ (fun _=>bFK ..) (hls:=⟨mP,ak⟩)
abbrev aBS:=LK.D Gq×DenS Mw->Bool
abbrev aCw:=LK.D Gq×DenS Mw->LK.B Gq×DenS Na
variable (p465:aBS)(f465:aCw)
abbrev Mx:Aa:=[(false,Zb),(false,Zb)]
abbrev Nb:Aa:=[(false,Zb)]
abbrev Gr:LK:=.ref Zp
def yK(p464:dQ)(f464:eJ)(l0:LK.D (.ref Zp))(a0 a1:Ab Zb):Option (LK.B Gr×DenS Nb):=bif(p464 ((l0.1,l0.2),(2:Int),a0,a1,()))then(some (f464 ((l0.1,l0.2),(2:Int),a0,a1,())))else none
theorem bFL(x:LK.D Gr×DenS Mx):DI ({cf [] []with lsums:=[(106,⟨Fq,Ii,Ix,p464,f464⟩)] }) 9 80 Tryz.f80 Gr Mx Nb x=yK p464 f464 x.1 x.2.1 x.2.2.1:=by kernel_rfl
def oK(x:LK.D Gr×DenS Mx):Option (LK.B Gr×DenS Nb):=yK Dj.pre Dj.F x.1 x.2.1 x.2.2.1
def GT:SumL:=DK Gr Mx Nb oK (LK.dflt Gr,DenS.dflt Nb)
theorem aGu:SoundL Tryz.prog G1 80 GT:=EK ({cf [] []with lsums:=[(106,Dj)] }) 80 Tryz.f80 trivial trivial Gr Mx Nb oK _ (fun _=>bFL ..) (hls:=⟨mP,ak⟩)
abbrev aBT:=LK.D Gr×DenS Mx->Bool
abbrev aCx:=LK.D Gr×DenS Mx->LK.B Gr×DenS Nb
variable (p466:aBT)(f466:aCx)
abbrev Kn:Aa:=[(false,Zb),(false,Zb)]
abbrev KQ:Aa:=[(false,Zb)]
abbrev FK:LK:=.ref Zp
def yL(p464:dQ)(f464:eJ)(l0:LK.D (.ref Zp))(a0 a1:Ab Zb):Option (LK.B FK×DenS KQ):=bif(p464 ((l0.1,l0.2),(1:Int),a0,a1,()))then(some (f464 ((l0.1,l0.2),(1:Int),a0,a1,())))else none
theorem bFM(x:LK.D FK×DenS Kn):DI ({cf [] []with lsums:=[(106,⟨Fq,Ii,Ix,p464,f464⟩)] }) 9 76 Tryz.f76 FK Kn KQ x=yL p464 f464 x.1 x.2.1 x.2.2.1:=by kernel_rfl
def oL(x:LK.D FK×DenS Kn):Option (LK.B FK×DenS KQ):=yL Dj.pre Dj.F x.1 x.2.1 x.2.2.1
def Es:SumL:=DK FK Kn KQ oL (LK.dflt FK,DenS.dflt KQ)
theorem aAR:SoundL Tryz.prog G1 76 Es:=EK ({cf [] []with lsums:=[(106,Dj)] }) 76 Tryz.f76 trivial trivial FK Kn KQ oL _ (fun _=>bFM ..) (hls:=⟨mP,ak⟩)
abbrev rS:=LK.D FK×DenS Kn->Bool
abbrev sL:=LK.D FK×DenS Kn->LK.B FK×DenS KQ
variable (p467:rS)(f467:sL)
abbrev Ko:Aa:=[(true,Zj),(true,Zj)]
abbrev KR:Aa:=[(true,Zj)]
abbrev FL:LK:=.ref Zp
def yM(p465:aBS)(f465:aCw)(p466:aBT)(f466:aCx)(p467:rS)(f467:sL)(l0:LK.D (.ref Zp))(a0 a1:Ab Zj):Option (LK.B FL×DenS KR):=let e10_:=((f465 ((l0.1,l0.2),a0.1,a1.1,())).1,a0.2.1,a1.2);let e9_:=(f465 e10_);let e8_:=(f465 (e9_.1,a0.1,a1.2));let e7_:=(f465 (e8_.1,a0.2.1,a1.1,()));let e6_:=(f466 (e7_.1,(f465 ((l0.1,l0.2),a0.1,a1.1,())).2.1,e9_.2));let e1_:=(f467 (e6_.1,e8_.2.1,e7_.2));let e2_:=e6_;let e3_:=e7_;let e4_:=e8_;let e5_:=e9_;bif(p465 ((l0.1,l0.2),a0.1,a1.1,()))then(bif(p465 e10_)then(bif(p465 (e5_.1,a0.1,a1.2))then(bif(p465 (e4_.1,a0.2.1,a1.1,()))then(bif(p466 (e3_.1,(f465 ((l0.1,l0.2),a0.1,a1.1,())).2.1,e5_.2))then(bif(p467 (e2_.1,e4_.2.1,e3_.2))then(some (e1_.1,(e2_.2.1,e1_.2),()))else none)else none)else none)else none)else none)else none
theorem bFN(x:LK.D FL×DenS Ko):DI ({cf [] []with lsums:=[(79,⟨Gq,Mw,Na,p465,f465⟩),(80,⟨Gr,Mx,Nb,p466,f466⟩),(76,⟨FK,Kn,KQ,p467,f467⟩)] }) 9 42 Tryz.f42 FL Ko KR x=yM p465 f465 p466 f466 p467 f467 x.1 x.2.1 x.2.2.1:=by kernel_rfl
def oM(x:LK.D FL×DenS Ko):Option (LK.B FL×DenS KR):=yM GS.pre GS.F GT.pre GT.F Es.pre Es.F x.1 x.2.1 x.2.2.1
def DO:SumL:=DK FL Ko KR oM (LK.dflt FL,DenS.dflt KR)
theorem aGv:SoundL Tryz.prog G1 42 DO:=EK ({cf [] []with lsums:=[(79,GS),(80,GT),(76,Es)] }) 42 Tryz.f42 trivial trivial FL Ko KR oM _ (fun _=>bFN ..) (hls:=⟨aGt,aGu,aAR,ak⟩)
abbrev XZ:=LK.D FL×DenS Ko->Bool
abbrev X9:=LK.D FL×DenS Ko->LK.B FL×DenS KR
variable (p468:XZ)(f468:X9)
abbrev Ij:Aa:=[(false,Zm)]
abbrev Iy:Aa:=[(false,Za)]
abbrev Fr:LK:=.ref Zp
abbrev Jg:Pat:=⟨32,[(8,.one (.v .i64)),(7,.one (.sl Zj)),(0,.one (.ptr 0 0)),(9,.one (.v .i64))],[.raw [.v .i64,.v .i64,.v .i64]]⟩
abbrev kI:List (Nat×Shape):=[]
abbrev OT:List (Nat×Pat):=[(0,⟨32,[],[.raw [.v .i64,.v .i64,.v .i64]]⟩)]
abbrev N2:Option Pat:=(some ⟨32,[(4,.one (.v .i64))],[.raw [.v .i64,.v .i64,.v .i64]]⟩)
variable (w469_2:Pat.D Jg->Option (Ad OT N2))
def Y3(p66:Cd)(f66:Ce){R:Type}(L:Pat.D Jg->Option R)(e:Ad OT N2->Option R)(x:Pat.D Jg):Option R:=let e4_:=(x.1.2.1.getD (aq x.1.2.2.2.1) ((0:Int),(0:Int),()));let e3_:=(x.2.1.1,e4_.1,());let e1_:=((f66 e3_).1 !=(0:Int));let e2_:=(x.2.1.1,e4_.2);bif(decide (x.1.2.2.2.1<x.1.1))then(bif((decide ((0:Int)<=x.1.2.2.2.1))&&(decide (x.1.2.2.2.1<(x.1.2.1.length:Int))))then(bif(p66 e3_)then(bif((p66 e2_)||(!(bif e1_ then false else true)))then(bif(e1_||((f66 e2_).1 !=(0:Int)))then(((e (.inr (((4:Int),()),x.2)))))else(L ((x.1.1,x.1.2.1,(),(al .i64 (x.1.2.2.2.1+(1:Int))),()),x.2)))else none)else none)else none)else(e (.inl ((),x.2)))
theorem bHW(d:Nat)(R:Type)(L:Pat.D Jg->Option R)(e:Ad OT N2->Option R)(x:Pat.D Jg):
  Bq (cf [(85,⟨CG,CH,p66,f66⟩)] [(53,2,LoopSpec.of Jg kI OT N2 w469_2 1)]) (d+2) 53 (Bp Tryz.f53 2) Jg kI OT N2 (R:=R) L e x 1=Y3 p66 f66 L e x:=by kernel_rfl
theorem aPw(p66:Cd)(f66:Ce):Bn fun L e x=>Y3 p66 f66 L e x:=by intro _ _ _ _ _ _ _ h0 hL he _;unfold Y3;repeat' (first|exact h0|exact hL _|exact he _|apply By|(apply Bz h0;intro _)|(apply BA<;>intro _))
def yN(p66:Cd)(f66:Ce)(w469_2:Pat.D Jg->Option (Ad OT N2))(l0:LK.D (.ref Zp))(a0:Ab Zm):Option (LK.B Fr×DenS Iy):=
 Vx.AQ (w469_2 (((a0.length:Int),a0,(),(0:Int),()),(l0.1,l0.2),())) fun y0=>
 Vx.AP y0 (fun y1=>
 some (y1.2.1,(0:Int),())) (fun z1=>
 some (z1.2.1,z1.1))
theorem bFO(x:LK.D Fr×DenS Ij):DI (cf [(85,⟨CG,CH,p66,f66⟩)] [(53,2,LoopSpec.of Jg kI OT N2 w469_2 1)]) 9 53 Tryz.f53 Fr Ij Iy x=yN p66 f66 w469_2 x.1 x.2.1:=by kernel_rfl
def dI:Jg.D->Option (Ad OT N2):=Bi fun L=>Y3 Av.pre Av.F L some
def Jr(x:LK.D Fr×DenS Ij):Option (LK.B Fr×DenS Iy):=yN Av.pre Av.F dI x.1 x.2.1
def CV:SumL:=DK Fr Ij Iy Jr (LK.dflt Fr,DenS.dflt Iy)
theorem aAS:SoundL Tryz.prog G1 53 CV:=EK (cf [(85,Av)] [(53,2,LoopSpec.of Jg kI OT N2 dI 1)]) 53 Tryz.f53 ⟨FY,ak⟩ ⟨rfl,fun d=>Bw (fun L e x=>Y3 Av.pre Av.F L e x) (aPw Av.pre Av.F) (fun _ _ _ _=>bHW ..),ak⟩ Fr Ij Iy Jr _ (fun _=>bFO ..)
abbrev VU:=LK.D Fr×DenS Ij->Bool
abbrev V5:=LK.D Fr×DenS Ij->LK.B Fr×DenS Iy
variable (p469:VU)(f469:V5)
abbrev RE:Aa:=[(false,Za),(false,Za),(true,Zj),(true,Zj)]
abbrev TC:Aa:=[(true,Zj),(false,Za),(false,Za)]
def yO(p468:XZ)(f468:X9)(p69:BS)(f69:BT)(p469:VU)(f469:V5)(a0 a1:Ab Za)(a2 a3:Ab Zj):Option (DenS TC):=let e4_:=((a0,a1,(0:Int),()),((a2.1,a2.2)::((a3.1,a3.2)::[])),());let e3_:=(f469 e4_);let e1_:=(f468 (e3_.1,(a2.1,a2.2),(a3.1,a3.2),()));let e2_:=e3_;bif(p69 (a0,()))then(bif((f69 (a0,())).2.1 !=(0:Int))then(bif((f69 (a0,())).2.1 !=(0:Int))then(some (((0:Int),(0:Int),()),(0:Int),(f69 (a0,())).2))else none)else bif((decide (a1<(0:Int)))||(decide (a1>(5:Int))))then(some (((0:Int),(0:Int),()),(0:Int),(3:Int),()))else bif(p469 e4_)then(bif(e2_.2.1 !=(0:Int))then(some (((0:Int),(0:Int),()),(0:Int),e2_.2))else bif(p468 (e2_.1,(a2.1,a2.2),(a3.1,a3.2),()))then(some (e1_.2.1,e1_.1.2.2.1,(0:Int),()))else none)else none)else none
theorem bFQ(x:DenS RE):run ({cf [(71,⟨B6,B7,p69,f69⟩)] []with lsums:=[(42,⟨FL,Ko,KR,p468,f468⟩),(53,⟨Fr,Ij,Iy,p469,f469⟩)] }) 9 13 Tryz.f13 RE TC x=yO p468 f468 p69 f69 p469 f469 x.1 x.2.1 x.2.2.1 x.2.2.2.1:=by kernel_rfl
def XL(x:DenS RE):Option (DenS TC):=yO DO.pre DO.F Ap.pre Ap.F CV.pre CV.F x.1 x.2.1 x.2.2.1 x.2.2.2.1
def Uy:Sum:=Aj RE TC XL (DenS.dflt TC)
theorem aVe:Sound Tryz.prog G1 13 Uy:=sd ({cf [(71,Ap)] []with lsums:=[(42,DO),(53,CV)] }) 13 Tryz.f13 ⟨D1,ak⟩ trivial RE TC XL _ (fun _=>bFQ ..) (hls:=⟨aGv,aAS,ak⟩)
abbrev rT:=Ah RE
abbrev sM:=Ag RE TC
variable (p470:rT)(f470:sM)
abbrev RF:Aa:=[(false,Zb),(false,Zb)]
abbrev TD:Aa:=[(false,Zb)]
abbrev Hl:LK:=.ref Zp
def yP(p464:dQ)(f464:eJ)(l0:LK.D (.ref Zp))(a0 a1:Ab Zb):Option (LK.B Hl×DenS TD):=bif(p464 ((l0.1,l0.2),(4:Int),a0,a1,()))then(some (f464 ((l0.1,l0.2),(4:Int),a0,a1,())))else none
theorem bFR(x:LK.D Hl×DenS RF):DI ({cf [] []with lsums:=[(106,⟨Fq,Ii,Ix,p464,f464⟩)] }) 9 83 Tryz.f83 Hl RF TD x=yP p464 f464 x.1 x.2.1 x.2.2.1:=by kernel_rfl
def oP(x:LK.D Hl×DenS RF):Option (LK.B Hl×DenS TD):=yP Dj.pre Dj.F x.1 x.2.1 x.2.2.1
def Uz:SumL:=DK Hl RF TD oP (LK.dflt Hl,DenS.dflt TD)
theorem aVf:SoundL Tryz.prog G1 83 Uz:=EK ({cf [] []with lsums:=[(106,Dj)] }) 83 Tryz.f83 trivial trivial Hl RF TD oP _ (fun _=>bFR ..) (hls:=⟨mP,ak⟩)
abbrev aKa:=LK.D Hl×DenS RF->Bool
abbrev aLI:=LK.D Hl×DenS RF->LK.B Hl×DenS TD
variable (p471:aKa)(f471:aLI)
abbrev RH:Aa:=[(true,Zj),(true,Zj)]
abbrev TE:Aa:=[(true,Zj)]
abbrev Hm:LK:=.ref Zp
def yQ(p467:rS)(f467:sL)(p465:aBS)(f465:aCw)(p466:aBT)(f466:aCx)(p471:aKa)(f471:aLI)(l0:LK.D (.ref Zp))(a0 a1:Ab Zj):Option (LK.B Hm×DenS TE):=let c1_:=(f465 ((l0.1,l0.2),a1.1,a1.1,()));let c2_:=(f465 (c1_.1,a1.2.1,a1.2));let c3_:=(f467 (c2_.1,c1_.2.1,c2_.2));let c4_:=(f465 (c3_.1,a0.1,a1.1,()));let c5_:=(f465 (c4_.1,a0.2.1,a1.2));let c6_:=(f467 (c5_.1,c4_.2.1,c5_.2));let c7_:=(f465 (c6_.1,a0.2.1,a1.1,()));let c8_:=(f465 (c7_.1,a0.1,a1.2));let c9_:=(f466 (c8_.1,c7_.2.1,c8_.2));let c10_:=(f471 (c9_.1,c6_.2.1,c3_.2));let c11_:=(f471 (c10_.1,c9_.2.1,c3_.2));bif(p465 ((l0.1,l0.2),a1.1,a1.1,()))then(bif(p465 (c1_.1,a1.2.1,a1.2))then(bif(p467 (c2_.1,c1_.2.1,c2_.2))then(bif(p465 (c3_.1,a0.1,a1.1,()))then(bif(p465 (c4_.1,a0.2.1,a1.2))then(bif(p467 (c5_.1,c4_.2.1,c5_.2))then(bif(p465 (c6_.1,a0.2.1,a1.1,()))then(bif(p465 (c7_.1,a0.1,a1.2))then(bif(p466 (c8_.1,c7_.2.1,c8_.2))then(bif(p471 (c9_.1,c6_.2.1,c3_.2))then(bif(p471 (c10_.1,c9_.2.1,c3_.2))then(some (c11_.1,(c10_.2.1,c11_.2),()))else none)else none)else none)else none)else none)else none)else none)else none)else none)else none)else none
theorem bFS(x:LK.D Hm×DenS RH):DI ({cf [] []with lsums:=[(76,⟨FK,Kn,KQ,p467,f467⟩),(79,⟨Gq,Mw,Na,p465,f465⟩),(80,⟨Gr,Mx,Nb,p466,f466⟩),(83,⟨Hl,RF,TD,p471,f471⟩)] }) 9 45 Tryz.f45 Hm RH TE x=yQ p467 f467 p465 f465 p466 f466 p471 f471 x.1 x.2.1 x.2.2.1:=by kernel_rfl
def oQ(x:LK.D Hm×DenS RH):Option (LK.B Hm×DenS TE):=yQ Es.pre Es.F GS.pre GS.F GT.pre GT.F Uz.pre Uz.F x.1 x.2.1 x.2.2.1
def UA:SumL:=DK Hm RH TE oQ (LK.dflt Hm,DenS.dflt TE)
theorem aVg:SoundL Tryz.prog G1 45 UA:=EK ({cf [] []with lsums:=[(76,Es),(79,GS),(80,GT),(83,Uz)] }) 45 Tryz.f45 trivial trivial Hm RH TE oQ _ (fun _=>bFS ..) (hls:=⟨aAR,aGt,aGu,aVf,ak⟩)
abbrev aKb:=LK.D Hm×DenS RH->Bool
abbrev aLJ:=LK.D Hm×DenS RH->LK.B Hm×DenS TE
variable (p472:aKb)(f472:aLJ)
abbrev RI:Aa:=[(false,Za),(false,Za),(true,Zj),(true,Zj)]
abbrev TF:Aa:=[(true,Zj),(false,Za),(false,Za)]
def yR(p472:aKb)(f472:aLJ)(p69:BS)(f69:BT)(p469:VU)(f469:V5)(a0 a1:Ab Za)(a2 a3:Ab Zj):Option (DenS TF):=let e4_:=((a0,a1,(0:Int),()),((a2.1,a2.2)::((a3.1,a3.2)::[])),());let e3_:=(f469 e4_);let e1_:=(f472 (e3_.1,(a2.1,a2.2),(a3.1,a3.2),()));let e2_:=e3_;bif(p69 (a0,()))then(bif((f69 (a0,())).2.1 !=(0:Int))then(bif((f69 (a0,())).2.1 !=(0:Int))then(some (((0:Int),(0:Int),()),(0:Int),(f69 (a0,())).2))else none)else bif((decide (a1<(0:Int)))||(decide (a1>(5:Int))))then(some (((0:Int),(0:Int),()),(0:Int),(3:Int),()))else bif(p469 e4_)then(bif(e2_.2.1 !=(0:Int))then(some (((0:Int),(0:Int),()),(0:Int),e2_.2))else bif(p472 (e2_.1,(a2.1,a2.2),(a3.1,a3.2),()))then(some (e1_.2.1,e1_.1.2.2.1,(0:Int),()))else none)else none)else none
theorem bFT(x:DenS RI):run ({cf [(71,⟨B6,B7,p69,f69⟩)] []with lsums:=[(45,⟨Hm,RH,TE,p472,f472⟩),(53,⟨Fr,Ij,Iy,p469,f469⟩)] }) 9 15 Tryz.f15 RI TF x=yR p472 f472 p69 f69 p469 f469 x.1 x.2.1 x.2.2.1 x.2.2.2.1:=by kernel_rfl
def XM(x:DenS RI):Option (DenS TF):=yR UA.pre UA.F Ap.pre Ap.F CV.pre CV.F x.1 x.2.1 x.2.2.1 x.2.2.2.1
def UB:Sum:=Aj RI TF XM (DenS.dflt TF)
theorem aVh:Sound Tryz.prog G1 15 UB:=sd ({cf [(71,Ap)] []with lsums:=[(45,UA),(53,CV)] }) 15 Tryz.f15 ⟨D1,ak⟩ trivial RI TF XM _ (fun _=>bFT ..) (hls:=⟨aVg,aAS,ak⟩)
abbrev rU:=Ah RI
abbrev sN:=Ag RI TF
variable (p473:rU)(f473:sN)
abbrev Ik:Aa:=[]
abbrev Iz:Aa:=[(false,.bool)]
def yS(p470:rT)(f470:sM)(p473:rU)(f473:sN):Option (DenS Iz):=let e5_:=((1065353216:Int),(1073741824:Int),());let e1_:=(f470 ((2:Int),(0:Int),e5_,e5_,()));let e4_:=(((1065353216:Int),(1065353216:Int),()),());let e2_:=(f473 ((2:Int),(0:Int),e5_,e4_));let e3_:=e5_;bif(p470 ((2:Int),(0:Int),e3_,e3_,()))then(bif(p473 ((2:Int),(0:Int),e3_,e4_))then(bif((((e1_.2.2.1 !=(0:Int))||(e2_.2.2.1 !=(0:Int)))||(e1_.2.1 !=(0:Int)))||(e2_.2.1 !=(0:Int)))then(some (false,()))else some (((((e1_.1.1==(3225419776:Int))&&(e1_.1.2.1==(1082130432:Int)))&&(e2_.1.1==(1069547520:Int)))&&(e2_.1.2.1==(1056964608:Int))),()))else none)else none
theorem bFU(x:DenS Ik):run (cf [(13,⟨RE,TC,p470,f470⟩),(15,⟨RI,TF,p473,f473⟩)] []) 9 9 Tryz.f9 Ik Iz x=yS p470 f470 p473 f473:=by kernel_rfl
def oR(x:DenS Ik):Option (DenS Iz):=yS Uy.pre Uy.F UB.pre UB.F
def Cl:Sum:=Aj Ik Iz oR (DenS.dflt Iz)
theorem aVi:Sound Tryz.prog G1 9 Cl:=sd (cf [(13,Uy),(15,UB)] []) 9 Tryz.f9 ⟨aVe,aVh,ak⟩ trivial Ik Iz oR _ (fun _=>bFU ..)
abbrev Ls:=Ah Ik
abbrev Lw:=Ag Ik Iz
variable (p474:Ls)(f474:Lw)
abbrev Mz:Aa:=[(true,Zj),(true,Zj)]
abbrev Nd:Aa:=[(true,Zj)]
abbrev Gs:LK:=.ref Zp
def yT(p467:rS)(f467:sL)(l0:LK.D (.ref Zp))(a0 a1:Ab Zj):Option (LK.B Gs×DenS Nd):=let e2_:=((f467 ((l0.1,l0.2),a0.1,a1.1,())).1,a0.2.1,a1.2);let e1_:=(f467 e2_);bif(p467 ((l0.1,l0.2),a0.1,a1.1,()))then(bif(p467 e2_)then(some (e1_.1,((f467 ((l0.1,l0.2),a0.1,a1.1,())).2.1,e1_.2),()))else none)else none
theorem bFV(x:LK.D Gs×DenS Mz):DI ({cf [] []with lsums:=[(76,⟨FK,Kn,KQ,p467,f467⟩)] }) 9 38 Tryz.f38 Gs Mz Nd x=yT p467 f467 x.1 x.2.1 x.2.2.1:=by kernel_rfl
def oS(x:LK.D Gs×DenS Mz):Option (LK.B Gs×DenS Nd):=yT Es.pre Es.F x.1 x.2.1 x.2.2.1
def E1:SumL:=DK Gs Mz Nd oS (LK.dflt Gs,DenS.dflt Nd)
theorem aVj:SoundL Tryz.prog G1 38 E1:=EK ({cf [] []with lsums:=[(76,Es)] }) 38 Tryz.f38 trivial trivial Gs Mz Nd oS _ (fun _=>bFV ..) (hls:=⟨aAR,ak⟩)
abbrev dR:=LK.D Gs×DenS Mz->Bool
abbrev eK:=LK.D Gs×DenS Mz->LK.B Gs×DenS Nd
variable (p475:dR)(f475:eK)
abbrev aFr:Aa:=[(false,Za),(false,Za),(true,Zj),(true,Zj)]
abbrev aTk:Aa:=[(true,Zj),(false,Za),(false,Za)]
abbrev aBV:=Ah aFr
abbrev aCz:=Ag aFr aTk
variable (p476:aBV)(f476:aCz)
abbrev Fp:Aa:=[(false,Za)]
abbrev Fs:Aa:=[(false,Za),(false,Za),(false,Za)]
def zN(a0:Ab Za):Option (DenS Fs):=bif(a0==(0:Int))then(some ((16:Int),(11:Int),(-(14:Int)),()))else bif(a0==(1:Int))then(some ((16:Int),(8:Int),(-(126:Int)),()))else bif(a0==(2:Int))then(some ((32:Int),(24:Int),(-(126:Int)),()))else bif(a0==(3:Int))then(some ((64:Int),(53:Int),(-(1022:Int)),()))else some ((0:Int),(0:Int),(0:Int),())
theorem r67(x:DenS Fp):run (cf [] []) 9 31 Tryz.f31 Fp Fs x=zN x.1:=by kernel_rfl
def cX(x:DenS Fp):Option (DenS Fs):=zN x.1
def B3:Sum:=Aj Fp Fs cX (DenS.dflt Fs)
theorem UH:Sound Tryz.prog G1 31 B3:=sd (cf [] []) 31 Tryz.f31 trivial trivial Fp Fs cX _ (fun _=>r67 ..)
abbrev Jx:=Ah Fp
abbrev JA:=Ag Fp Fs
variable (p67:Jx)(f67:JA)
abbrev Hi:Aa:=[(false,Za),(false,Za)]
abbrev Hv:Aa:=[(false,Za)]
def zR(p67:Jx)(f67:JA)(a0 a1:Ab Za):Option (DenS Hv):=bif(p67 (a0,()))then(bif((f67 (a0,())).1==(0:Int))then(some ((2:Int),()))else bif((decide (a1<(0:Int)))||(decide (a1>(5:Int))))then(some ((3:Int),()))else some ((0:Int),()))else none
theorem r73(x:DenS Hi):run (cf [(31,⟨Fp,Fs,p67,f67⟩)] []) 9 55 Tryz.f55 Hi Hv x=zR p67 f67 x.1 x.2.1:=by kernel_rfl
def pL(x:DenS Hi):Option (DenS Hv):=zR B3.pre B3.F x.1 x.2.1
def Cc:Sum:=Aj Hi Hv pL (DenS.dflt Hv)
theorem aAW:Sound Tryz.prog G1 55 Cc:=sd (cf [(31,B3)] []) 55 Tryz.f55 ⟨UH,ak⟩ trivial Hi Hv pL _ (fun _=>r73 ..)
abbrev O4:=Ah Hi
abbrev Pc:=Ag Hi Hv
variable (p73:O4)(f73:Pc)
abbrev Iq:Aa:=[(false,Za),(false,Zb)]
abbrev IF:Aa:=[(false,.bool)]
def zO(p67:Jx)(f67:JA)(a0:Ab Za)(a1:Ab Zb):Option (DenS IF):=bif(p67 (a0,()))then(some ((((f67 (a0,())).1==(64:Int))||((AR .u64 a1 (al .u64 (f67 (a0,())).1))==(0:Int))),()))else none
theorem r68(x:DenS Iq):run (cf [(31,⟨Fp,Fs,p67,f67⟩)] []) 9 77 Tryz.f77 Iq IF x=zO p67 f67 x.1 x.2.1:=by kernel_rfl
def pJ(x:DenS Iq):Option (DenS IF):=zO B3.pre B3.F x.1 x.2.1
def CW:Sum:=Aj Iq IF pJ (DenS.dflt IF)
theorem aAV:Sound Tryz.prog G1 77 CW:=sd (cf [(31,B3)] []) 77 Tryz.f77 ⟨UH,ak⟩ trivial Iq IF pJ _ (fun _=>r68 ..)
abbrev VY:=Ah Iq
abbrev V8:=Ag Iq IF
variable (p68:VY)(f68:V8)
abbrev MA:Aa:=[(false,Za),(false,Za),(false,Zm)]
abbrev Nf:Aa:=[(false,Za)]
abbrev Jh:Pat:=⟨39,[(0,.one (.v .i64)),(2,.one (.sl Zj)),(8,.one (.v .i64))],[]⟩
abbrev kJ:List (Nat×Shape):=[]
abbrev OU:List (Nat×Pat):=[(0,⟨39,[],[]⟩)]
abbrev N3:Option Pat:=(some ⟨39,[(6,.one (.v .i64))],[]⟩)
variable (w477_5:Pat.D Jh->Option (Ad OU N3))
def Y4(p73:O4)(f73:Pc)(p68:VY)(f68:V8){R:Type}(L:Pat.D Jh->Option R)(e:Ad OU N3->Option R)(x:Pat.D Jh):Option R:=let e6_:=(x.1.2.1.getD (aq x.1.2.2.1) ((0:Int),(0:Int),()));let e5_:=(x.1.1,e6_.1,());let e1_:=(!(bif(!(f68 e5_).1)then false else true));let e2_:=((decide ((0:Int)<=x.1.2.2.1))&&(decide (x.1.2.2.1<(x.1.2.1.length:Int))));let e3_:=e5_;let e4_:=(x.1.1,e6_.2);bif(decide (x.1.2.2.1<(x.1.2.1.length:Int)))then(bif e2_ then(bif(p68 e3_)then(bif(e2_||e1_)then(bif((p68 e4_)||e1_)then(bif((!(f68 e3_).1)||(!(f68 e4_).1))then(((e (.inr (((4:Int),()),())))))else(L ((x.1.1,x.1.2.1,(al .i64 (x.1.2.2.1+(1:Int))),()),())))else none)else none)else none)else none)else(e (.inl ((),())))
theorem bHX(d:Nat)(R:Type)(L:Pat.D Jh->Option R)(e:Ad OU N3->Option R)(x:Pat.D Jh):
  Bq (cf [(55,⟨Hi,Hv,p73,f73⟩),(77,⟨Iq,IF,p68,f68⟩)] [(39,5,LoopSpec.of Jh kJ OU N3 w477_5)]) (d+2) 39 (Bp Tryz.f39 5) Jh kJ OU N3 (R:=R) L e x=Y4 p73 f73 p68 f68 L e x:=by kernel_rfl
theorem aPx(p73:O4)(f73:Pc)(p68:VY)(f68:V8):Bn fun L e x=>Y4 p73 f73 p68 f68 L e x:=by intro _ _ _ _ _ _ _ h0 hL he _;unfold Y4;repeat' (first|exact h0|exact hL _|exact he _|apply By|(apply Bz h0;intro _)|(apply BA<;>intro _))
def yU(p73:O4)(f73:Pc)(p68:VY)(f68:V8)(w477_5:Pat.D Jh->Option (Ad OU N3))(a0 a1:Ab Za)(a2:Ab Zm):Option (DenS Nf):=
 bif(p73 (a0,a1,()))then(bif((f73 (a0,a1,())).1 !=(0:Int))then(some (f73 (a0,a1,())))
 else Vx.AQ (w477_5 ((a0,a2,(0:Int),()),())) fun y2=>
 Vx.AP y2 (fun y3=>
 some ((0:Int),())) (fun z3=>
 some z3.1))
 else none
theorem bFW(x:DenS MA):run (cf [(55,⟨Hi,Hv,p73,f73⟩),(77,⟨Iq,IF,p68,f68⟩)] [(39,5,LoopSpec.of Jh kJ OU N3 w477_5)]) 9 39 Tryz.f39 MA Nf x=yU p73 f73 p68 f68 w477_5 x.1 x.2.1 x.2.2.1:=by kernel_rfl
def qV:Jh.D->Option (Ad OU N3):=Bi fun L=>Y4 Cc.pre Cc.F CW.pre CW.F L some
def cS(x:DenS MA):Option (DenS Nf):=yU Cc.pre Cc.F CW.pre CW.F qV x.1 x.2.1 x.2.2.1
def E2:Sum:=Aj MA Nf cS (DenS.dflt Nf)
theorem aVk:Sound Tryz.prog G1 39 E2:=sd (cf [(55,Cc),(77,CW)] [(39,5,LoopSpec.of Jh kJ OU N3 qV)]) 39 Tryz.f39 ⟨aAW,aAV,ak⟩ ⟨rfl,fun d=>Bw (fun L e x=>Y4 Cc.pre Cc.F CW.pre CW.F L e x) (aPx Cc.pre Cc.F CW.pre CW.F) (fun _ _ _ _=>bHX ..),ak⟩ MA Nf cS _ (fun _=>bFW ..)
abbrev dS:=Ah MA
abbrev eM:=Ag MA Nf
variable (p477:dS)(f477:eM)
abbrev C8:Aa:=[(false,Ze)]
abbrev C9:Aa:=[(false,Ze)]
abbrev IU:Pat:=⟨21,[(0,.one (.sl Zb)),(3,.one (.v .i64))],[]⟩
abbrev jT:List (Nat×Shape):=[]
abbrev Ow:List (Nat×Pat):=[(0,⟨21,[(0,.one (.sl Zb)),(3,.one (.v .i64))],[]⟩)]
abbrev NF:Option Pat:=none
variable (w158_2:Pat.D IU->Option (Ad Ow NF))
def YK{R:Type}(L:Pat.D IU->Option R)(e:Ad Ow NF->Option R)(x:Pat.D IU):Option R:=let e1_:=(al .i64 (x.1.2.1-(1:Int)));bif(((decide ((0:Int)<=e1_))&&(decide (e1_<(x.1.1.length:Int))))||(!(decide (x.1.2.1>(0:Int)))))then(bif((decide (x.1.2.1>(0:Int)))&&((x.1.1.getD (aq e1_) (0:Int))==(0:Int)))then(((L ((x.1.1,e1_,()),()))))else(e (.inl (x.1,()))))else none
theorem bHr(d:Nat)(R:Type)(L:Pat.D IU->Option R)(e:Ad Ow NF->Option R)(x:Pat.D IU):
  Bq (cf [] [(105,2,LoopSpec.of IU jT Ow NF w158_2)]) (d+2) 105 (Bp Tryz.f105 2) IU jT Ow NF (R:=R) L e x=YK L e x:=by kernel_rfl
theorem aPd:Bn fun L e x=>YK L e x:=by intro _ _ _ _ _ _ _ h0 hL he _;unfold YK;repeat' (first|exact h0|exact hL _|exact he _|apply By|(apply Bz h0;intro _)|(apply BA<;>intro _))
def w8(w158_2:Pat.D IU->Option (Ad Ow NF))(a0:Ab Ze):Option (DenS C9):=
 Vx.AQ (w158_2 ((a0,(a0.length:Int),()),())) fun y0=>
 Vx.AP y0 (fun y1=>
 bif((decide ((0:Int)<=y1.1.2.1))&&(decide (y1.1.2.1<=(y1.1.1.length:Int))))then(some (((y1.1.1.take (aq y1.1.2.1)).drop (aq (0:Int))),()))
 else none) (fun z1=>
 none)
theorem bD0(x:DenS C8):run (cf [] [(105,2,LoopSpec.of IU jT Ow NF w158_2)]) 9 105 Tryz.f105 C8 C9 x=w8 w158_2 x.1:=by kernel_rfl
def qE:IU.D->Option (Ad Ow NF):=Bi fun L=>YK L some
def VH(x:DenS C8):Option (DenS C9):=w8 qE x.1
def Aq:Sum:=Aj C8 C9 VH (DenS.dflt C9)
theorem T6:Sound Tryz.prog G1 105 Aq:=sd (cf [] [(105,2,LoopSpec.of IU jT Ow NF qE)]) 105 Tryz.f105 trivial ⟨rfl,fun d=>Bw (fun L e x=>YK L e x) (aPd) (fun _ _ _ _=>bHr ..),ak⟩ C8 C9 VH _ (fun _=>bD0 ..)
abbrev CN:=Ah C8
abbrev CO:=Ag C8 C9
variable (p158:CN)(f158:CO)
abbrev Qb:Aa:=[(false,Ze)]
abbrev R6:Aa:=[(false,Ze)]
abbrev IM:Pat:=⟨30,[(0,.one (.sl Zb)),(4,.one (.v .i64)),(3,.one (.own 0))],[.acc Zb]⟩
abbrev jL:List (Nat×Shape):=[]
abbrev Ol:List (Nat×Pat):=[(0,⟨30,[(3,.one (.own 0))],[.acc Zb]⟩)]
abbrev Nx:Option Pat:=none
variable (w125_3:Pat.D IM->Option (Ad Ol Nx))
def YC(p158:CN)(f158:CO){R:Type}(L:Pat.D IM->Option R)(e:Ad Ol Nx->Option R)(x:Pat.D IM):Option R:=let e1_:=((ii (x.1.1.getD (aq x.1.2.1) (0:Int)) (4294967296:Int))::((Bl .u64 (x.1.1.getD (aq x.1.2.1) (0:Int)) (4294967296:Int))::[]));let e2_:=((decide ((0:Int)<=x.1.2.1))&&(decide (x.1.2.1<(x.1.1.length:Int))));bif(decide (x.1.2.1<(x.1.1.length:Int)))then(bif e2_ then(bif e2_ then(bif(((Vx.CK (x.2.1.length+e1_.length) 8)&&true)&&true)then(((L ((x.1.1,(al .i64 (x.1.2.1+(1:Int))),(),()),(x.2.1++e1_),()))))else none)else none)else none)else(e (.inl (((),()),x.2)))
theorem bHj(d:Nat)(R:Type)(L:Pat.D IM->Option R)(e:Ad Ol Nx->Option R)(x:Pat.D IM):
  Bq (cf [(105,⟨C8,C9,p158,f158⟩)] [(74,3,LoopSpec.of IM jL Ol Nx w125_3)]) (d+2) 74 (Bp Tryz.f74 3) IM jL Ol Nx (R:=R) L e x=YC p158 f158 L e x:=by kernel_rfl
theorem aO5(p158:CN)(f158:CO):Bn fun L e x=>YC p158 f158 L e x:=by intro _ _ _ _ _ _ _ h0 hL he _;unfold YC;repeat' (first|exact h0|exact hL _|exact he _|apply By|(apply Bz h0;intro _)|(apply BA<;>intro _))
def wK(p158:CN)(f158:CO)(w125_3:Pat.D IM->Option (Ad Ol Nx))(a0:Ab Ze):Option (DenS R6):=
 let e1_:=(al .i64 ((2:Int)*(a0.length:Int)))
 bif((decide ((0:Int)<=e1_))&&(decide ((e1_*(8:Int))<=(140737488355328:Int))))then(Vx.AQ (w125_3 ((a0,(0:Int),(),()),(bd (aq (0:Int)) (0:Int)),())) fun y1=>
 Vx.AP y1 (fun y2=>
 bif(p158 y2.2)then(some (f158 y2.2))
 else none) (fun z2=>
 none))
 else none
theorem bDD(x:DenS Qb):run (cf [(105,⟨C8,C9,p158,f158⟩)] [(74,3,LoopSpec.of IM jL Ol Nx w125_3)]) 9 74 Tryz.f74 Qb R6 x=wK p158 f158 w125_3 x.1:=by kernel_rfl
def pX:IM.D->Option (Ad Ol Nx):=Bi fun L=>YC Aq.pre Aq.F L some
def bS(x:DenS Qb):Option (DenS R6):=wK Aq.pre Aq.F pX x.1
def T3:Sum:=Aj Qb R6 bS (DenS.dflt R6)
theorem aTZ:Sound Tryz.prog G1 74 T3:=sd (cf [(105,Aq)] [(74,3,LoopSpec.of IM jL Ol Nx pX)]) 74 Tryz.f74 ⟨T6,ak⟩ ⟨rfl,fun d=>Bw (fun L e x=>YC Aq.pre Aq.F L e x) (aO5 Aq.pre Aq.F) (fun _ _ _ _=>bHj ..),ak⟩ Qb R6 bS _ (fun _=>bDD ..)
abbrev aI3:=Ah Qb
abbrev aKB:=Ag Qb R6
variable (p125:aI3)(f125:aKB)
abbrev Ks:Aa:=[(false,Za),(false,Zb)]
abbrev KV:Aa:=[(true,ZE)]
def zS(p67:Jx)(f67:JA)(p125:aI3)(f125:aKB)(a0:Ab Za)(a1:Ab Zb):Option (DenS KV):=let e11_:=(al .u64 (al .i64 ((f67 (a0,())).2.1-(1:Int))));let e9_:=(Bk .u64 (1:Int) e11_);let e8_:=(BR .u64 a1 (al .u64 (e9_-(1:Int))));let e1_:=(((al .u64 (e8_+e9_))::[]),());let e10_:=(al .u64 (al .i64 ((f67 (a0,())).1-(f67 (a0,())).2.1)));let e2_:=(al .i64 (BR .u64 (AR .u64 a1 e11_) (al .u64 ((Bk .u64 (1:Int) e10_)-(1:Int)))));let e3_:=(e8_ !=(0:Int));let e4_:=((e8_::[]),());let e5_:=e8_;let e6_:=((BR .u64 (AR .u64 a1 (al .u64 (al .i64 ((f67 (a0,())).1-(1:Int))))) (1:Int))==(1:Int));let e7_:=(al .i64 ((al .i64 ((f67 (a0,())).2.2.1-(f67 (a0,())).2.1))+(1:Int)));bif(p67 (a0,()))then(bif(e2_==(al .i64 ((Bk .i64 (1:Int) e10_)-(1:Int))))then(some ((e3_,(e3_&&((AR .u64 e5_ (al .u64 (al .i64 ((f67 (a0,())).2.1-(2:Int)))))==(0:Int))),(e5_==(0:Int)),e6_,(false,[],(0:Int),()),()),()))else bif(decide (e2_>(0:Int)))then(bif(p125 e1_)then(some ((false,false,false,e6_,(e6_,(f125 e1_).1,(al .i64 (e7_+(al .i64 (e2_-(1:Int))))),()),()),()))else none)else bif(p125 e4_)then(some ((false,false,false,e6_,(e6_,(f125 e4_).1,e7_,()),()),()))else none)else none
theorem r74(x:DenS Ks):run (cf [(31,⟨Fp,Fs,p67,f67⟩),(74,⟨Qb,R6,p125,f125⟩)] []) 9 33 Tryz.f33 Ks KV x=zS p67 f67 p125 f125 x.1 x.2.1:=by kernel_rfl
def dB(x:DenS Ks):Option (DenS KV):=zS B3.pre B3.F T3.pre T3.F x.1 x.2.1
def Eu:Sum:=Aj Ks KV dB (DenS.dflt KV)
theorem aAX:Sound Tryz.prog G1 33 Eu:=sd (cf [(31,B3),(74,T3)] []) 33 Tryz.f33 ⟨UH,aTZ,ak⟩ trivial Ks KV dB _ (fun _=>r74 ..)
abbrev X1:=Ah Ks
abbrev Yb:=Ag Ks KV
variable (p74:X1)(f74:Yb)
abbrev Kt:Aa:=[(false,Za)]
abbrev KW:Aa:=[(false,Zb)]
def t75(p67:Jx)(f67:JA)(a0:Ab Za):Option (DenS KW):=bif(p67 (a0,()))then(some ((al .u64 ((Bk .u64 (1:Int) (al .u64 (al .i64 ((f67 (a0,())).1-(1:Int)))))-(Bk .u64 (1:Int) (al .u64 (al .i64 ((f67 (a0,())).2.1-(2:Int))))))),()))else none
theorem r75(x:DenS Kt):run (cf [(31,⟨Fp,Fs,p67,f67⟩)] []) 9 86 Tryz.f86 Kt KW x=t75 p67 f67 x.1:=by kernel_rfl
def pM(x:DenS Kt):Option (DenS KW):=t75 B3.pre B3.F x.1
def Ew:Sum:=Aj Kt KW pM (DenS.dflt KW)
theorem aAY:Sound Tryz.prog G1 86 Ew:=sd (cf [(31,B3)] []) 86 Tryz.f86 ⟨UH,ak⟩ trivial Kt KW pM _ (fun _=>r75 ..)
abbrev dX:=Ah Kt
abbrev eR:=Ag Kt KW
variable (p75:dX)(f75:eR)
abbrev MJ:Aa:=[(true,ZE)]
abbrev No:Aa:=[(false,.bool)]
def aB(a0:Ab ZE):Option (DenS No):=some ((((!a0.1)&&(!a0.2.2.1))&&((a0.2.2.2.2.1.2.1.length:Int)==(0:Int))),())
theorem r76(x:DenS MJ):run (cf [] []) 9 75 Tryz.f75 MJ No x=aB x.1:=by kernel_rfl
def XO(x:DenS MJ):Option (DenS No):=aB x.1
def GV:Sum:=Aj MJ No XO (DenS.dflt No)
theorem aGy:Sound Tryz.prog G1 75 GV:=sd (cf [] []) 75 Tryz.f75 trivial trivial MJ No XO _ (fun _=>r76 ..)
abbrev dY:=Ah MJ
abbrev eU:=Ag MJ No
variable (p76:dY)(f76:eU)
abbrev Me:Aa:=[(false,Ze),(false,Za)]
abbrev MQ:Aa:=[(false,Ze)]
abbrev IN:Pat:=⟨49,[(0,.one (.sl Zb)),(6,.one (.v .u64)),(8,.one (.v .i64)),(5,.one (.own 0)),(7,.one (.v .u64))],[.acc Zb]⟩
abbrev jM:List (Nat×Shape):=[]
abbrev Om:List (Nat×Pat):=[(0,⟨49,[(5,.one (.own 0)),(7,.one (.v .u64))],[.acc Zb]⟩)]
abbrev Ny:Option Pat:=none
variable (w127_5:Pat.D IN->Option (Ad Om Ny))
def YD(p158:CN)(f158:CO){R:Type}(L:Pat.D IN->Option R)(e:Ad Om Ny->Option R)(x:Pat.D IN):Option R:=let e2_:=(al .u64 ((al .u64 ((x.1.1.getD (aq x.1.2.2.1) (0:Int))*x.1.2.1))+x.1.2.2.2.2.1));let e1_:=((ii e2_ (4294967296:Int))::[]);bif(decide (x.1.2.2.1<(x.1.1.length:Int)))then(bif((decide ((0:Int)<=x.1.2.2.1))&&(decide (x.1.2.2.1<(x.1.1.length:Int))))then(bif(((Vx.CK (x.2.1.length+e1_.length) 8)&&true)&&true)then(((L ((x.1.1,x.1.2.1,(al .i64 (x.1.2.2.1+(1:Int))),(),(Bl .u64 e2_ (4294967296:Int)),()),(x.2.1++e1_),()))))else none)else none)else(e (.inl (((),x.1.2.2.2.2),x.2)))
theorem bHk(d:Nat)(R:Type)(L:Pat.D IN->Option R)(e:Ad Om Ny->Option R)(x:Pat.D IN):
  Bq (cf [(105,⟨C8,C9,p158,f158⟩)] [(132,5,LoopSpec.of IN jM Om Ny w127_5)]) (d+2) 132 (Bp Tryz.f132 5) IN jM Om Ny (R:=R) L e x=YD p158 f158 L e x:=by kernel_rfl
theorem aO6(p158:CN)(f158:CO):Bn fun L e x=>YD p158 f158 L e x:=by intro _ _ _ _ _ _ _ h0 hL he _;unfold YD;repeat' (first|exact h0|exact hL _|exact he _|apply By|(apply Bz h0;intro _)|(apply BA<;>intro _))
def wM(p158:CN)(f158:CO)(w127_5:Pat.D IN->Option (Ad Om Ny))(a0:Ab Ze)(a1:Ab Za):Option (DenS MQ):=
 let e1_:=(al .i64 ((al .i64 ((Bl .i64 a1 (32:Int))+(a0.length:Int)))+(1:Int)))
 bif(((decide ((0:Int)<=(Bl .i64 a1 (32:Int))))&&(decide ((Bl .i64 a1 (32:Int))<=e1_)))&&(decide ((e1_*(8:Int))<=(140737488355328:Int))))then(Vx.AQ (w127_5 ((a0,(Bk .u64 (1:Int) (al .u64 (ii a1 (32:Int)))),(0:Int),(),(0:Int),()),(bd (aq (Bl .i64 a1 (32:Int))) (0:Int)),())) fun y1=>
 Vx.AP y1 (fun y2=>
 bif(((Vx.CK (y2.2.1.length+(y2.1.2.1::[]).length) 8)&&true)&&true)then(bif(p158 ((y2.2.1++(y2.1.2.1::[])),()))then(some (f158 ((y2.2.1++(y2.1.2.1::[])),())))
 else none)
 else none) (fun z2=>
 none))
 else none
theorem bDF(x:DenS Me):run (cf [(105,⟨C8,C9,p158,f158⟩)] [(132,5,LoopSpec.of IN jM Om Ny w127_5)]) 9 132 Tryz.f132 Me MQ x=wM p158 f158 w127_5 x.1 x.2.1:=by kernel_rfl
def pZ:IN.D->Option (Ad Om Ny):=Bi fun L=>YD Aq.pre Aq.F L some
def bT(x:DenS Me):Option (DenS MQ):=wM Aq.pre Aq.F pZ x.1 x.2.1
def GK:Sum:=Aj Me MQ bT (DenS.dflt MQ)
theorem aFU:Sound Tryz.prog G1 132 GK:=sd (cf [(105,Aq)] [(132,5,LoopSpec.of IN jM Om Ny pZ)]) 132 Tryz.f132 ⟨T6,ak⟩ ⟨rfl,fun d=>Bw (fun L e x=>YD Aq.pre Aq.F L e x) (aO6 Aq.pre Aq.F) (fun _ _ _ _=>bHk ..),ak⟩ Me MQ bT _ (fun _=>bDF ..)
abbrev rG:=Ah Me
abbrev r8:=Ag Me MQ
variable (p127:rG)(f127:r8)
abbrev Mf:Aa:=[(false,Ze),(false,Ze)]
abbrev MR:Aa:=[(false,Ze)]
abbrev IP:Pat:=⟨56,[(5,.one (.v .i64)),(0,.one (.sl Zb)),(1,.one (.sl Zb)),(8,.one (.v .i64)),(6,.one (.own 0)),(7,.one (.v .u64))],[.acc Zb]⟩
abbrev jN:List (Nat×Shape):=[]
abbrev On:List (Nat×Pat):=[(0,⟨56,[(6,.one (.own 0)),(7,.one (.v .u64))],[.acc Zb]⟩)]
abbrev Nz:Option Pat:=none
variable (w128_5:Pat.D IP->Option (Ad On Nz))
def YE(p158:CN)(f158:CO){R:Type}(L:Pat.D IP->Option R)(e:Ad On Nz->Option R)(x:Pat.D IP):Option R:=let e11_:=(al .u64 (x.1.2.2.2.2.2.1+(x.1.2.1.getD (aq x.1.2.2.2.1) (0:Int))));let e12_:=(x.1.2.2.1.getD (aq x.1.2.2.2.1) (0:Int));let e1_:=((ii (al .u64 (e11_+e12_)) (4294967296:Int))::[]);let e2_:=((ii (al .u64 (x.1.2.2.2.2.2.1+e12_)) (4294967296:Int))::[]);let e3_:=((ii e11_ (4294967296:Int))::[]);let e4_:=e11_;let e13_:=(decide (x.1.2.2.2.1<(x.1.2.2.1.length:Int)));let e5_:=((decide ((0:Int)<=x.1.2.2.2.1))&&e13_);let e6_:=(al .i64 (x.1.2.2.2.1+(1:Int)));let e7_:=((ii x.1.2.2.2.2.2.1 (4294967296:Int))::[]);let e8_:=e12_;let e9_:=e13_;let e10_:=(decide (x.1.2.2.2.1<(x.1.2.1.length:Int)));bif(decide (x.1.2.2.2.1<x.1.1))then(bif e10_ then(bif((decide ((0:Int)<=x.1.2.2.2.1))&&e10_)then(bif e9_ then(bif e5_ then(bif(((Vx.CK (x.2.1.length+e1_.length) 8)&&true)&&true)then(((L ((x.1.1,x.1.2.1,x.1.2.2.1,e6_,(),(Bl .u64 (al .u64 (e4_+e8_)) (4294967296:Int)),()),(x.2.1++e1_),()))))else none)else none)else bif(((Vx.CK (x.2.1.length+e3_.length) 8)&&true)&&true)then(((L ((x.1.1,x.1.2.1,x.1.2.2.1,e6_,(),(Bl .u64 e4_ (4294967296:Int)),()),(x.2.1++e3_),()))))else none)else none)else bif e9_ then(bif e5_ then(bif(((Vx.CK (x.2.1.length+e2_.length) 8)&&true)&&true)then(((L ((x.1.1,x.1.2.1,x.1.2.2.1,e6_,(),(Bl .u64 (al .u64 (x.1.2.2.2.2.2.1+e8_)) (4294967296:Int)),()),(x.2.1++e2_),()))))else none)else none)else bif(((Vx.CK (x.2.1.length+e7_.length) 8)&&true)&&true)then(((L ((x.1.1,x.1.2.1,x.1.2.2.1,e6_,(),(Bl .u64 x.1.2.2.2.2.2.1 (4294967296:Int)),()),(x.2.1++e7_),()))))else none)else(e (.inl (((),x.1.2.2.2.2.2),x.2)))
theorem bHl(d:Nat)(R:Type)(L:Pat.D IP->Option R)(e:Ad On Nz->Option R)(x:Pat.D IP):
  Bq (cf [(105,⟨C8,C9,p158,f158⟩)] [(135,5,LoopSpec.of IP jN On Nz w128_5)]) (d+2) 135 (Bp Tryz.f135 5) IP jN On Nz (R:=R) L e x=YE p158 f158 L e x:=by kernel_rfl
theorem aO7(p158:CN)(f158:CO):Bn fun L e x=>YE p158 f158 L e x:=by intro _ _ _ _ _ _ _ h0 hL he _;unfold YE;repeat' (first|exact h0|exact hL _|exact he _|apply By|(apply Bz h0;intro _)|(apply BA<;>intro _))
def wN(p158:CN)(f158:CO)(w128_5:Pat.D IP->Option (Ad On Nz))(a0 a1:Ab Ze):Option (DenS MR):=
 let e2_:=(if((a1.length:Int)>(a0.length:Int))then(a1.length:Int)else(a0.length:Int))
 let e1_:=(al .i64 (e2_+(1:Int)))
 bif((decide ((0:Int)<=e1_))&&(decide ((e1_*(8:Int))<=(140737488355328:Int))))then(Vx.AQ (w128_5 ((e2_,a0,a1,(0:Int),(),(0:Int),()),(bd (aq (0:Int)) (0:Int)),())) fun y1=>
 Vx.AP y1 (fun y2=>
 bif(((Vx.CK (y2.2.1.length+(y2.1.2.1::[]).length) 8)&&true)&&true)then(bif(p158 ((y2.2.1++(y2.1.2.1::[])),()))then(some (f158 ((y2.2.1++(y2.1.2.1::[])),())))
 else none)
 else none) (fun z2=>
 none))
 else none
theorem bDG(x:DenS Mf):run (cf [(105,⟨C8,C9,p158,f158⟩)] [(135,5,LoopSpec.of IP jN On Nz w128_5)]) 9 135 Tryz.f135 Mf MR x=wN p158 f158 w128_5 x.1 x.2.1:=by kernel_rfl
def qA:IP.D->Option (Ad On Nz):=Bi fun L=>YE Aq.pre Aq.F L some
def bV(x:DenS Mf):Option (DenS MR):=wN Aq.pre Aq.F qA x.1 x.2.1
def GL:Sum:=Aj Mf MR bV (DenS.dflt MR)
theorem aFV:Sound Tryz.prog G1 135 GL:=sd (cf [(105,Aq)] [(135,5,LoopSpec.of IP jN On Nz qA)]) 135 Tryz.f135 ⟨T6,ak⟩ ⟨rfl,fun d=>Bw (fun L e x=>YE Aq.pre Aq.F L e x) (aO7 Aq.pre Aq.F) (fun _ _ _ _=>bHl ..),ak⟩ Mf MR bV _ (fun _=>bDG ..)
abbrev rH:=Ah Mf
abbrev r9:=Ag Mf MR
variable (p128:rH)(f128:r9)
abbrev Mg:Aa:=[(false,Ze),(false,Ze)]
abbrev MS:Aa:=[(false,Za)]
abbrev IQ:Pat:=⟨41,[(0,.one (.sl Zb)),(1,.one (.sl Zb)),(5,.one (.v .i64))],[]⟩
abbrev jO:List (Nat×Shape):=[]
abbrev Oo:List (Nat×Pat):=[(0,⟨41,[],[]⟩)]
abbrev NA:Option Pat:=(some ⟨41,[(4,.one (.v .i64))],[]⟩)
variable (w129_6:Pat.D IQ->Option (Ad Oo NA))
def YF{R:Type}(L:Pat.D IQ->Option R)(e:Ad Oo NA->Option R)(x:Pat.D IQ):Option R:=let e1_:=((decide ((0:Int)<=x.1.2.2.1))&&(decide (x.1.2.2.1<(x.1.2.1.length:Int))));let e2_:=((decide ((0:Int)<=x.1.2.2.1))&&(decide (x.1.2.2.1<(x.1.1.length:Int))));let e3_:=(x.1.2.1.getD (aq x.1.2.2.1) (0:Int));bif(decide (x.1.2.2.1>=(0:Int)))then(bif e2_ then(bif e1_ then(bif(decide ((x.1.1.getD (aq x.1.2.2.1) (0:Int))<e3_))then(((e (.inr (((-(1:Int)),()),())))))else bif e2_ then(bif e1_ then(bif(decide ((x.1.1.getD (aq x.1.2.2.1) (0:Int))>e3_))then(((e (.inr (((1:Int),()),())))))else(L ((x.1.1,x.1.2.1,(al .i64 (x.1.2.2.1-(1:Int))),()),())))else none)else none)else none)else none)else(e (.inl ((),())))
theorem bHm(d:Nat)(R:Type)(L:Pat.D IQ->Option R)(e:Ad Oo NA->Option R)(x:Pat.D IQ):
  Bq (cf [] [(133,6,LoopSpec.of IQ jO Oo NA w129_6)]) (d+2) 133 (Bp Tryz.f133 6) IQ jO Oo NA (R:=R) L e x=YF L e x:=by kernel_rfl
theorem aO8:Bn fun L e x=>YF L e x:=by intro _ _ _ _ _ _ _ h0 hL he _;unfold YF;repeat' (first|exact h0|exact hL _|exact he _|apply By|(apply Bz h0;intro _)|(apply BA<;>intro _))
def wO(w129_6:Pat.D IQ->Option (Ad Oo NA))(a0 a1:Ab Ze):Option (DenS MS):=
 bif((a0.length:Int)!=(a1.length:Int))then(bif(decide ((a0.length:Int)<(a1.length:Int)))then(some ((-(1:Int)),()))
 else some ((1:Int),()))
 else Vx.AQ (w129_6 ((a0,a1,(al .i64 ((a0.length:Int)-(1:Int))),()),())) fun y1=>
 Vx.AP y1 (fun y2=>
 some ((0:Int),())) (fun z2=>
 some z2.1)
theorem bDH(x:DenS Mg):run (cf [] [(133,6,LoopSpec.of IQ jO Oo NA w129_6)]) 9 133 Tryz.f133 Mg MS x=wO w129_6 x.1 x.2.1:=by kernel_rfl
def qB:IQ.D->Option (Ad Oo NA):=Bi fun L=>YF L some
def nH(x:DenS Mg):Option (DenS MS):=wO qB x.1 x.2.1
def GM:Sum:=Aj Mg MS nH (DenS.dflt MS)
theorem aFW:Sound Tryz.prog G1 133 GM:=sd (cf [] [(133,6,LoopSpec.of IQ jO Oo NA qB)]) 133 Tryz.f133 trivial ⟨rfl,fun d=>Bw (fun L e x=>YF L e x) (aO8) (fun _ _ _ _=>bHm ..),ak⟩ Mg MS nH _ (fun _=>bDH ..)
abbrev rI:=Ah Mg
abbrev sA:=Ag Mg MS
variable (p129:rI)(f129:sA)
end Vx
namespace Vx
open Go Go.Proofs
variable (p65:D3)(f65:D4)(p70:DA)(f70:DB)(p470:rT)(f470:sM)(p473:rU)(f473:sN)(p474:Ls)(f474:Lw)(p476:aBV)(f476:aCz)(p67:Jx)(f67:JA)(p73:O4)(f73:Pc)(p68:VY)(f68:V8)(p477:dS)(f477:eM)(p158:CN)(f158:CO)(p74:X1)(f74:Yb)(p75:dX)(f75:eR)(p76:dY)(f76:eU)(p127:rG)(f127:r8)(p128:rH)(f128:r9)(p129:rI)(f129:sA)
abbrev Mh:Aa:=[(false,Ze),(false,Ze)]
abbrev MT:Aa:=[(false,Ze)]
abbrev IR:Pat:=⟨47,[(6,.one (.v .u64)),(1,.one (.sl Zb)),(0,.one (.sl Zb)),(7,.one (.v .i64)),(5,.one (.own 0))],[.arr Zb]⟩
abbrev jP:List (Nat×Shape):=[]
abbrev Oq:List (Nat×Pat):=[(0,⟨47,[(5,.one (.own 0))],[.arr Zb]⟩)]
abbrev NB:Option Pat:=none
variable (w130_4:Pat.D IR->Option (Ad Oq NB))
def YG(p158:CN)(f158:CO){R:Type}(L:Pat.D IR->Option R)(e:Ad Oq NB->Option R)(x:Pat.D IR):Option R:=let e9_:=(x.1.2.1,x.1.2.2.1,(al .i64 (x.1.2.2.2.1+(1:Int))),(),());let e1_:=((1:Int),e9_);let e2_:=((0:Int),e9_);let e10_:=(x.1.2.2.1.getD (aq x.1.2.2.2.1) (0:Int));let e3_:=(al .u64 (e10_+(4294967296:Int)));let e4_:=(al .u64 (x.1.1+(x.1.2.1.getD (aq x.1.2.2.2.1) (0:Int))));let e11_:=(decide (x.1.2.2.2.1<(x.1.2.2.1.length:Int)));let e5_:=((decide ((0:Int)<=x.1.2.2.2.1))&&e11_);let e6_:=((decide ((0:Int)<=x.1.2.2.2.1))&&(decide (x.1.2.2.2.1<(x.2.1.length:Int))));let e7_:=e10_;let e8_:=(decide (x.1.2.2.2.1<(x.1.2.1.length:Int)));bif e11_ then(bif e8_ then(bif((decide ((0:Int)<=x.1.2.2.2.1))&&e8_)then(bif e5_ then(bif(decide (e7_<e4_))then(bif e6_ then(((L (e1_,(x.2.1.set (aq x.1.2.2.2.1) (al .u64 (e3_-e4_))),()))))else none)else bif e6_ then(((L (e2_,(x.2.1.set (aq x.1.2.2.2.1) (al .u64 (e7_-e4_))),()))))else none)else none)else none)else bif e5_ then(bif(decide (e7_<x.1.1))then(bif e6_ then(((L (e1_,(x.2.1.set (aq x.1.2.2.2.1) (al .u64 (e3_-x.1.1))),()))))else none)else bif e6_ then(((L (e2_,(x.2.1.set (aq x.1.2.2.2.1) (al .u64 (e7_-x.1.1))),()))))else none)else none)else(e (.inl (((),()),x.2)))
theorem bHn(d:Nat)(R:Type)(L:Pat.D IR->Option R)(e:Ad Oq NB->Option R)(x:Pat.D IR):
  Bq (cf [(105,⟨C8,C9,p158,f158⟩)] [(134,4,LoopSpec.of IR jP Oq NB w130_4)]) (d+2) 134 (Bp Tryz.f134 4) IR jP Oq NB (R:=R) L e x=YG p158 f158 L e x:=by kernel_rfl
theorem aO9(p158:CN)(f158:CO):Bn fun L e x=>YG p158 f158 L e x:=by intro _ _ _ _ _ _ _ h0 hL he _;unfold YG;repeat' (first|exact h0|exact hL _|exact he _|apply By|(apply Bz h0;intro _)|(apply BA<;>intro _))
def wP(p158:CN)(f158:CO)(w130_4:Pat.D IR->Option (Ad Oq NB))(a0 a1:Ab Ze):Option (DenS MT):=
 bif((decide ((0:Int)<=(a0.length:Int)))&&(decide (((a0.length:Int)*(8:Int))<=(140737488355328:Int))))then(Vx.AQ (w130_4 (((0:Int),a1,a0,(0:Int),(),()),(bd (aq (a0.length:Int)) (0:Int)),())) fun y1=>
 Vx.AP y1 (fun y2=>
 bif(p158 y2.2)then(some (f158 y2.2))
 else none) (fun z2=>
 none))
 else none
theorem bDI(x:DenS Mh):run (cf [(105,⟨C8,C9,p158,f158⟩)] [(134,4,LoopSpec.of IR jP Oq NB w130_4)]) 9 134 Tryz.f134 Mh MT x=wP p158 f158 w130_4 x.1 x.2.1:=by kernel_rfl
def qC:IR.D->Option (Ad Oq NB):=Bi fun L=>YG Aq.pre Aq.F L some
def bW(x:DenS Mh):Option (DenS MT):=wP Aq.pre Aq.F qC x.1 x.2.1
def GN:Sum:=Aj Mh MT bW (DenS.dflt MT)
theorem aFX:Sound Tryz.prog G1 134 GN:=sd (cf [(105,Aq)] [(134,4,LoopSpec.of IR jP Oq NB qC)]) 134 Tryz.f134 ⟨T6,ak⟩ ⟨rfl,fun d=>Bw (fun L e x=>YG Aq.pre Aq.F L e x) (aO9 Aq.pre Aq.F) (fun _ _ _ _=>bHn ..),ak⟩ Mh MT bW _ (fun _=>bDI ..)
abbrev aBo:=Ah Mh
abbrev aB2:=Ag Mh MT
variable (p130:aBo)(f130:aB2)
abbrev RT:Aa:=[(true,Zs),(true,Zs)]
abbrev TP:Aa:=[(true,Zs)]
def zU(p127:rG)(f127:r8)(p128:rH)(f128:r9)(p129:rI)(f129:sA)(p130:aBo)(f130:aB2)(a0 a1:Ab Zs):Option (DenS TP):=let e7_:=(if(a1.2.2.1<a0.2.2.1)then a1.2.2.1 else a0.2.2.1);let e5_:=(f127 (a0.2.1,(al .i64 (a0.2.2.1-e7_)),()));let e6_:=(f127 (a1.2.1,(al .i64 (a1.2.2.1-e7_)),()));let e1_:=(e5_.1,e6_);let e2_:=(e6_.1,e5_);let e3_:=(e7_,());let e4_:=e7_;bif((a0.2.1.length:Int)==(0:Int))then(some ((a1.1,a1.2),()))else bif((a1.2.1.length:Int)==(0:Int))then(some ((a0.1,a0.2),()))else bif(p127 (a0.2.1,(al .i64 (a0.2.2.1-e4_)),()))then(bif(p127 (a1.2.1,(al .i64 (a1.2.2.1-e4_)),()))then(bif(a0.1==a1.1)then(bif(p128 e1_)then(some ((a0.1,(f128 e1_).1,e3_),()))else none)else bif(p129 e1_)then(bif(decide ((f129 e1_).1>=(0:Int)))then(bif(p130 e1_)then(some ((a0.1,(f130 e1_).1,e3_),()))else none)else bif(p130 e2_)then(some ((a1.1,(f130 e2_).1,e3_),()))else none)else none)else none)else none
theorem r78(x:DenS RT):run (cf [(132,⟨Me,MQ,p127,f127⟩),(135,⟨Mf,MR,p128,f128⟩),(133,⟨Mg,MS,p129,f129⟩),(134,⟨Mh,MT,p130,f130⟩)] []) 9 126 Tryz.f126 RT TP x=zU p127 f127 p128 f128 p129 f129 p130 f130 x.1 x.2.1:=by kernel_rfl
def pO(x:DenS RT):Option (DenS TP):=zU GK.pre GK.F GL.pre GL.F GM.pre GM.F GN.pre GN.F x.1 x.2.1
def UK:Sum:=Aj RT TP pO (DenS.dflt TP)
theorem aVI:Sound Tryz.prog G1 126 UK:=sd (cf [(132,GK),(135,GL),(133,GM),(134,GN)] []) 126 Tryz.f126 ⟨aFU,aFV,aFW,aFX,ak⟩ trivial RT TP pO _ (fun _=>r78 ..)
abbrev Y78:=Ah RT
abbrev Z78:=Ag RT TP
variable (p78:Y78)(f78:Z78)
abbrev Ir:Aa:=[(false,Za),(false,.bool)]
abbrev IH:Aa:=[(false,Zb)]
def t81(p67:Jx)(f67:JA)(a0:Ab Za)(a1:Ab (.bool)):Option (DenS IH):=bif(p67 (a0,()))then(bif a1 then(some ((Bk .u64 (1:Int) (al .u64 (al .i64 ((f67 (a0,())).1-(1:Int))))),()))else some ((0:Int),()))else none
theorem r81(x:DenS Ir):run (cf [(31,⟨Fp,Fs,p67,f67⟩)] []) 9 70 Tryz.f70 Ir IH x=t81 p67 f67 x.1 x.2.1:=by kernel_rfl
def pQ(x:DenS Ir):Option (DenS IH):=t81 B3.pre B3.F x.1 x.2.1
def Ef:Sum:=Aj Ir IH pQ (DenS.dflt IH)
theorem mU:Sound Tryz.prog G1 70 Ef:=sd (cf [(31,B3)] []) 70 Tryz.f70 ⟨UH,ak⟩ trivial Ir IH pQ _ (fun _=>r81 ..)
abbrev dZ:=Ah Ir
abbrev eV:=Ag Ir IH
variable (p81:dZ)(f81:eV)
abbrev QO:Aa:=[(false,Za),(false,.bool)]
abbrev SO:Aa:=[(false,Zb)]
def t37(p81:dZ)(f81:eV)(a0:Ab Za)(a1:Ab (.bool)):Option (DenS SO):=bif(p81 (a0,a1,()))then(some (f81 (a0,a1,())))else none
theorem r37(x:DenS QO):run (cf [(70,⟨Ir,IH,p81,f81⟩)] []) 9 112 Tryz.f112 QO SO x=t37 p81 f81 x.1 x.2.1:=by kernel_rfl
def oA(x:DenS QO):Option (DenS SO):=t37 Ef.pre Ef.F x.1 x.2.1
def Uk:Sum:=Aj QO SO oA (DenS.dflt SO)
theorem aUK:Sound Tryz.prog G1 112 Uk:=sd (cf [(70,Ef)] []) 112 Tryz.f112 ⟨mU,ak⟩ trivial QO SO oA _ (fun _=>r37 ..)
abbrev Y37:=Ah QO
abbrev Z37:=Ag QO SO
variable (p37:Y37)(f37:Z37)
abbrev Mm:Aa:=[(false,Za),(false,.bool)]
abbrev MX:Aa:=[(false,Zb)]
def aRp(p67:Jx)(f67:JA)(p81:dZ)(f81:eV)(a0:Ab Za)(a1:Ab (.bool)):Option (DenS MX):=bif(p67 (a0,()))then(bif(p81 (a0,a1,()))then(some ((al .u64 ((al .u64 ((Bk .u64 (1:Int) (al .u64 (al .i64 ((f67 (a0,())).1-(1:Int)))))-(Bk .u64 (1:Int) (al .u64 (al .i64 ((f67 (a0,())).2.1-(1:Int)))))))+(f81 (a0,a1,())).1)),()))else none)else none
theorem bEd(x:DenS Mm):run (cf [(31,⟨Fp,Fs,p67,f67⟩),(70,⟨Ir,IH,p81,f81⟩)] []) 9 109 Tryz.f109 Mm MX x=aRp p67 f67 p81 f81 x.1 x.2.1:=by kernel_rfl
def nV(x:DenS Mm):Option (DenS MX):=aRp B3.pre B3.F Ef.pre Ef.F x.1 x.2.1
def GP:Sum:=Aj Mm MX nV (DenS.dflt MX)
theorem aF3:Sound Tryz.prog G1 109 GP:=sd (cf [(31,B3),(70,Ef)] []) 109 Tryz.f109 ⟨UH,mU,ak⟩ trivial Mm MX nV _ (fun _=>bEd ..)
abbrev aBq:=Ah Mm
abbrev aB4:=Ag Mm MX
variable (p179:aBq)(f179:aB4)
abbrev Ql:Aa:=[(false,Za),(false,Za),(false,.bool)]
abbrev Si:Aa:=[(false,Zb)]
def xA(p179:aBq)(f179:aB4)(a0 a1:Ab Za)(a2:Ab (.bool)):Option (DenS Si):=bif((((a1==(0:Int))||(a1==(1:Int)))||((a1==(3:Int))&&(!a2)))||((a1==(4:Int))&&a2))then(bif(p179 (a0,a2,()))then(some (f179 (a0,a2,())))else none)else bif(p179 (a0,a2,()))then(some ((al .u64 ((f179 (a0,a2,())).1-(1:Int))),()))else none
theorem bD2(x:DenS Ql):run (cf [(109,⟨Mm,MX,p179,f179⟩)] []) 9 129 Tryz.f129 Ql Si x=xA p179 f179 x.1 x.2.1 x.2.2.1:=by kernel_rfl
def nS(x:DenS Ql):Option (DenS Si):=xA GP.pre GP.F x.1 x.2.1 x.2.2.1
def T8:Sum:=Aj Ql Si nS (DenS.dflt Si)
theorem aUa:Sound Tryz.prog G1 129 T8:=sd (cf [(109,GP)] []) 129 Tryz.f129 ⟨aF3,ak⟩ trivial Ql Si nS _ (fun _=>bD2 ..)
abbrev aJd:=Ah Ql
abbrev aKL:=Ag Ql Si
variable (p160:aJd)(f160:aKL)
abbrev Qn:Aa:=[(false,Ze)]
abbrev Sk:Aa:=[(false,Ze)]
abbrev IW:Pat:=⟨41,[(0,.one (.sl Zb)),(4,.one (.v .i64)),(3,.one (.own 0))],[.arr Zb]⟩
abbrev jV:List (Nat×Shape):=[]
abbrev Oy:List (Nat×Pat):=[(0,⟨41,[(3,.one (.own 0))],[.arr Zb]⟩)]
abbrev NH:Option Pat:=none
variable (w162_3:Pat.D IW->Option (Ad Oy NH))
def YM(p158:CN)(f158:CO){R:Type}(L:Pat.D IW->Option R)(e:Ad Oy NH->Option R)(x:Pat.D IW):Option R:=let e1_:=((decide ((0:Int)<=(Bl .i64 x.1.2.1 (2:Int))))&&(decide ((Bl .i64 x.1.2.1 (2:Int))<(x.2.1.length:Int))));let e2_:=((decide ((0:Int)<=x.1.2.1))&&(decide (x.1.2.1<(x.1.1.length:Int))));let e3_:=(x.1.1,(al .i64 (x.1.2.1+(1:Int))),(),());let e4_:=(aq (Bl .i64 x.1.2.1 (2:Int)));bif(decide (x.1.2.1<(x.1.1.length:Int)))then(bif((ii x.1.2.1 (2:Int))==(0:Int))then(bif e2_ then(bif e1_ then(((L (e3_,(x.2.1.set e4_ (x.1.1.getD (aq x.1.2.1) (0:Int))),()))))else none)else none)else bif e1_ then(bif e2_ then(bif e1_ then(((L (e3_,(x.2.1.set e4_ (al .u64 ((x.2.1.getD e4_ (0:Int))+(al .u64 ((x.1.1.getD (aq x.1.2.1) (0:Int))*(4294967296:Int)))))),()))))else none)else none)else none)else(e (.inl (((),()),x.2)))
theorem bHt(d:Nat)(R:Type)(L:Pat.D IW->Option R)(e:Ad Oy NH->Option R)(x:Pat.D IW):
  Bq (cf [(105,⟨C8,C9,p158,f158⟩)] [(131,3,LoopSpec.of IW jV Oy NH w162_3)]) (d+2) 131 (Bp Tryz.f131 3) IW jV Oy NH (R:=R) L e x=YM p158 f158 L e x:=by kernel_rfl
theorem aPf(p158:CN)(f158:CO):Bn fun L e x=>YM p158 f158 L e x:=by intro _ _ _ _ _ _ _ h0 hL he _;unfold YM;repeat' (first|exact h0|exact hL _|exact he _|apply By|(apply Bz h0;intro _)|(apply BA<;>intro _))
def xC(p158:CN)(f158:CO)(w162_3:Pat.D IW->Option (Ad Oy NH))(a0:Ab Ze):Option (DenS Sk):=
 let e1_:=(Bl .i64 (al .i64 ((a0.length:Int)+(1:Int))) (2:Int))
 bif((decide ((0:Int)<=e1_))&&(decide ((e1_*(8:Int))<=(140737488355328:Int))))then(Vx.AQ (w162_3 ((a0,(0:Int),(),()),(bd (aq e1_) (0:Int)),())) fun y1=>
 Vx.AP y1 (fun y2=>
 bif(p158 y2.2)then(some (f158 y2.2))
 else none) (fun z2=>
 none))
 else none
theorem bD4(x:DenS Qn):run (cf [(105,⟨C8,C9,p158,f158⟩)] [(131,3,LoopSpec.of IW jV Oy NH w162_3)]) 9 131 Tryz.f131 Qn Sk x=xC p158 f158 w162_3 x.1:=by kernel_rfl
def qG:IW.D->Option (Ad Oy NH):=Bi fun L=>YM Aq.pre Aq.F L some
def bZ(x:DenS Qn):Option (DenS Sk):=xC Aq.pre Aq.F qG x.1
def Ua:Sum:=Aj Qn Sk bZ (DenS.dflt Sk)
theorem aUc:Sound Tryz.prog G1 131 Ua:=sd (cf [(105,Aq)] [(131,3,LoopSpec.of IW jV Oy NH qG)]) 131 Tryz.f131 ⟨T6,ak⟩ ⟨rfl,fun d=>Bw (fun L e x=>YM Aq.pre Aq.F L e x) (aPf Aq.pre Aq.F) (fun _ _ _ _=>bHt ..),ak⟩ Qn Sk bZ _ (fun _=>bD4 ..)
abbrev aJf:=Ah Qn
abbrev aKN:=Ag Qn Sk
variable (p162:aJf)(f162:aKN)
abbrev Qs:Aa:=[(false,Ze),(false,Za)]
abbrev Sp:Aa:=[(false,Ze)]
abbrev I1:Pat:=⟨47,[(0,.one (.sl Zb)),(6,.one (.v .u64)),(7,.one (.v .i64)),(5,.one (.own 0))],[.acc Zb]⟩
abbrev j1:List (Nat×Shape):=[(5,Zb)]
abbrev OD:List (Nat×Pat):=[(0,⟨47,[(5,.one (.own 0))],[.acc Zb]⟩)]
abbrev NM:Option Pat:=none
variable (w180_4:Pat.D I1->Option (Ad OD NM))
def YP(p158:CN)(f158:CO){R:Type}(L:Pat.D I1->Option R)(e:Ad OD NM->Option R)(x:Pat.D I1):Option R:=let e5_:=(al .i64 (x.1.2.2.1+(1:Int)));let e1_:=((ii (Bl .u64 (al .u64 ((x.1.1.getD (aq x.1.2.2.1) (0:Int))+(al .u64 ((x.1.1.getD (aq e5_) (0:Int))*(4294967296:Int))))) x.1.2.1) (4294967296:Int))::[]);let e2_:=((ii (Bl .u64 (x.1.1.getD (aq x.1.2.2.1) (0:Int)) x.1.2.1) (4294967296:Int))::[]);let e3_:=(decide (e5_<(x.1.1.length:Int)));let e4_:=(x.1.1,x.1.2.1,e5_,(),());bif(decide (x.1.2.2.1<(x.1.1.length:Int)))then(bif((decide ((0:Int)<=x.1.2.2.1))&&(decide (x.1.2.2.1<(x.1.1.length:Int))))then(bif e3_ then(bif((decide ((0:Int)<=e5_))&&e3_)then(bif(x.1.2.1 !=(0:Int))then(bif(((Vx.CK (x.2.1.length+e1_.length) 8)&&true)&&true)then(((L (e4_,(x.2.1++e1_),()))))else none)else none)else none)else bif(x.1.2.1 !=(0:Int))then(bif(((Vx.CK (x.2.1.length+e2_.length) 8)&&true)&&true)then(((L (e4_,(x.2.1++e2_),()))))else none)else none)else none)else(e (.inl (((),()),x.2)))
theorem bHy(d:Nat)(R:Type)(L:Pat.D I1->Option R)(e:Ad OD NM->Option R)(x:Pat.D I1):
  Bq (cf [(105,⟨C8,C9,p158,f158⟩)] [(147,4,LoopSpec.of I1 j1 OD NM w180_4)]) (d+2) 147 (Bp Tryz.f147 4) I1 j1 OD NM (R:=R) L e x=YP p158 f158 L e x:=by kernel_rfl
theorem aPi(p158:CN)(f158:CO):Bn fun L e x=>YP p158 f158 L e x:=by intro _ _ _ _ _ _ _ h0 hL he _;unfold YP;repeat' (first|exact h0|exact hL _|exact he _|apply By|(apply Bz h0;intro _)|(apply BA<;>intro _))
def xJ(p158:CN)(f158:CO)(w180_4:Pat.D I1->Option (Ad OD NM))(a0:Ab Ze)(a1:Ab Za):Option (DenS Sp):=
 Vx.AQ (w180_4 ((a0,(Bk .u64 (1:Int) (al .u64 (ii a1 (32:Int)))),(Bl .i64 a1 (32:Int)),(),()),[],())) fun y0=>
 Vx.AP y0 (fun y1=>
 bif(p158 y1.2)then(some (f158 y1.2))
 else none) (fun z1=>
 none)
theorem bEe(x:DenS Qs):run (cf [(105,⟨C8,C9,p158,f158⟩)] [(147,4,LoopSpec.of I1 j1 OD NM w180_4)]) 9 147 Tryz.f147 Qs Sp x=xJ p158 f158 w180_4 x.1 x.2.1:=by kernel_rfl
def qJ:I1.D->Option (Ad OD NM):=Bi fun L=>YP Aq.pre Aq.F L some
def cC(x:DenS Qs):Option (DenS Sp):=xJ Aq.pre Aq.F qJ x.1 x.2.1
def Ub:Sum:=Aj Qs Sp cC (DenS.dflt Sp)
theorem aUh:Sound Tryz.prog G1 147 Ub:=sd (cf [(105,Aq)] [(147,4,LoopSpec.of I1 j1 OD NM qJ)]) 147 Tryz.f147 ⟨T6,ak⟩ ⟨rfl,fun d=>Bw (fun L e x=>YP Aq.pre Aq.F L e x) (aPi Aq.pre Aq.F) (fun _ _ _ _=>bHy ..),ak⟩ Qs Sp cC _ (fun _=>bEe ..)
abbrev aJk:=Ah Qs
abbrev aKS:=Ag Qs Sp
variable (p180:aJk)(f180:aKS)
abbrev Qm:Aa:=[(false,Za),(true,Zs),(false,Za)]
abbrev Sj:Aa:=[(false,Ze),(false,.bool)]
def xB(p180:aJk)(f180:aKS)(p130:aBo)(f130:aB2)(p127:rG)(f127:r8)(p129:rI)(f129:sA)(p128:rH)(f128:r9)(a0:Ab Za)(a1:Ab Zs)(a2:Ab Za):Option (DenS Sj):=let e20_:=(al .i64 (a2-a1.2.2.1));let e19_:=(e20_,());let e18_:=(a1.2.1,e19_);let e17_:=(f180 e18_);let e13_:=(e17_.1,e19_);let e12_:=(f130 (a1.2.1,(f127 e13_)));let e14_:=(((1:Int)::[]),(al .i64 (e20_-(1:Int))),());let e1_:=(f129 (e12_.1,(f127 e14_)));let e16_:=(e17_.1.length:Int);let e2_:=((decide (e16_>(0:Int)))&&((ii (e17_.1.getD (aq (0:Int)) (0:Int)) (2:Int))==(1:Int)));let e3_:=e12_;let e4_:=e13_;let e15_:=(e17_.1,((1:Int)::[]),());let e5_:=((f128 e15_).1,true,());let e6_:=e14_;let e7_:=(p128 e15_);let e8_:=e16_;let e9_:=(e17_.1,true,());let e10_:=(a1.2.1,(al .i64 (a1.2.2.1-a2)),());let e11_:=e18_;bif(decide (a2<=a1.2.2.1))then(bif(p127 e10_)then(some ((f127 e10_).1,false,()))else none)else bif(p180 e11_)then(bif(p127 e4_)then(bif(p130 (a1.2.1,(f127 e4_)))then(bif((e3_.1.length:Int)==(0:Int))then(some ((f180 e11_).1,false,()))else bif(p127 e6_)then(bif(p129 (e3_.1,(f127 e6_)))then(bif((decide ((0:Int)<e8_))||(!(decide (e8_>(0:Int)))))then(bif(a0==(0:Int))then(bif((decide (e1_.1>(0:Int)))||((e1_.1==(0:Int))&&e2_))then(bif e7_ then(some e5_)else none)else some e9_)else bif(a0==(1:Int))then(bif(decide (e1_.1>=(0:Int)))then(bif e7_ then(some e5_)else none)else some e9_)else bif(a0==(3:Int))then(bif(!a1.1)then(bif e7_ then(some e5_)else none)else some e9_)else bif(a0==(4:Int))then(bif a1.1 then(bif e7_ then(some e5_)else none)else some e9_)else bif(a0==(5:Int))then(bif(!e2_)then(bif e7_ then(some e5_)else none)else some e9_)else some e9_)else none)else none)else none)else none)else none)else none
theorem bD3(x:DenS Qm):run (cf [(147,⟨Qs,Sp,p180,f180⟩),(134,⟨Mh,MT,p130,f130⟩),(132,⟨Me,MQ,p127,f127⟩),(133,⟨Mg,MS,p129,f129⟩),(135,⟨Mf,MR,p128,f128⟩)] []) 9 130 Tryz.f130 Qm Sj x=xB p180 f180 p130 f130 p127 f127 p129 f129 p128 f128 x.1 x.2.1 x.2.2.1:=by kernel_rfl
def nT(x:DenS Qm):Option (DenS Sj):=xB Ub.pre Ub.F GN.pre GN.F GK.pre GK.F GM.pre GM.F GL.pre GL.F x.1 x.2.1 x.2.2.1
def T9:Sum:=Aj Qm Sj nT (DenS.dflt Sj)
theorem aUb:Sound Tryz.prog G1 130 T9:=sd (cf [(147,Ub),(134,GN),(132,GK),(133,GM),(135,GL)] []) 130 Tryz.f130 ⟨aUh,aFX,aFU,aFW,aFV,ak⟩ trivial Qm Sj nT _ (fun _=>bD3 ..)
abbrev aJe:=Ah Qm
abbrev aKM:=Ag Qm Sj
variable (p161:aJe)(f161:aKM)
abbrev Qk:Aa:=[(false,Ze)]
abbrev Sh:Aa:=[(false,Za)]
abbrev IV:Pat:=⟨27,[(4,.one (.v .u64)),(3,.one (.v .i64))],[]⟩
abbrev jU:List (Nat×Shape):=[]
abbrev Ox:List (Nat×Pat):=[(0,⟨27,[(3,.one (.v .i64))],[]⟩)]
abbrev NG:Option Pat:=none
variable (w159_6:Pat.D IV->Option (Ad Ox NG))
def YL(p158:CN)(f158:CO){R:Type}(L:Pat.D IV->Option R)(e:Ad Ox NG->Option R)(x:Pat.D IV):Option R:=bif(decide (x.1.1>(0:Int)))then(((L (((Bl .u64 x.1.1 (2:Int)),(al .i64 (x.1.2.1+(1:Int))),()),()))))else(e (.inl (x.1.2,())))
theorem bHs(d:Nat)(R:Type)(L:Pat.D IV->Option R)(e:Ad Ox NG->Option R)(x:Pat.D IV):
  Bq (cf [(105,⟨C8,C9,p158,f158⟩)] [(128,6,LoopSpec.of IV jU Ox NG w159_6)]) (d+2) 128 (Bp Tryz.f128 6) IV jU Ox NG (R:=R) L e x=YL p158 f158 L e x:=by kernel_rfl
theorem aPe(p158:CN)(f158:CO):Bn fun L e x=>YL p158 f158 L e x:=by intro _ _ _ _ _ _ _ h0 hL he _;unfold YL;repeat' (first|exact h0|exact hL _|exact he _|apply By|(apply Bz h0;intro _)|(apply BA<;>intro _))
def w9(p158:CN)(f158:CO)(w159_6:Pat.D IV->Option (Ad Ox NG))(a0:Ab Ze):Option (DenS Sh):=
 let e1_:=(al .i64 (((f158 (a0,())).1.length:Int)-(1:Int)))
 bif(p158 (a0,()))then(bif(((f158 (a0,())).1.length:Int)==(0:Int))then(some ((0:Int),()))
 else bif((decide ((0:Int)<=e1_))&&(decide (e1_<((f158 (a0,())).1.length:Int))))then(Vx.AQ (w159_6 ((((f158 (a0,())).1.getD (aq e1_) (0:Int)),(al .i64 ((32:Int)*e1_)),()),())) fun y3=>
 Vx.AP y3 (fun y4=>
 some y4.1) (fun z4=>
 none))
 else none)
 else none
theorem bD1(x:DenS Qk):run (cf [(105,⟨C8,C9,p158,f158⟩)] [(128,6,LoopSpec.of IV jU Ox NG w159_6)]) 9 128 Tryz.f128 Qk Sh x=w9 p158 f158 w159_6 x.1:=by kernel_rfl
def qF:IV.D->Option (Ad Ox NG):=Bi fun L=>YL Aq.pre Aq.F L some
def nR(x:DenS Qk):Option (DenS Sh):=w9 Aq.pre Aq.F qF x.1
def T7:Sum:=Aj Qk Sh nR (DenS.dflt Sh)
theorem aT9:Sound Tryz.prog G1 128 T7:=sd (cf [(105,Aq)] [(128,6,LoopSpec.of IV jU Ox NG qF)]) 128 Tryz.f128 ⟨T6,ak⟩ ⟨rfl,fun d=>Bw (fun L e x=>YL Aq.pre Aq.F L e x) (aPe Aq.pre Aq.F) (fun _ _ _ _=>bHs ..),ak⟩ Qk Sh nR _ (fun _=>bD1 ..)
abbrev aJc:=Ah Qk
abbrev aKK:=Ag Qk Sh
variable (p159:aJc)(f159:aKK)
abbrev Qc:Aa:=[(false,Za),(false,Za),(true,Zs)]
abbrev R7:Aa:=[(false,Zb),(false,Za)]
def wL(p67:Jx)(f67:JA)(p160:aJd)(f160:aKL)(p81:dZ)(f81:eV)(p162:aJf)(f162:aKN)(p161:aJe)(f161:aKM)(p159:aJc)(f159:aKK)(a0 a1:Ab Za)(a2:Ab Zs):Option (DenS R7):=let e22_:=(al .i64 ((al .i64 (a2.2.2.1+(f159 (a2.2.1,())).1))-(1:Int)));let e18_:=(al .i64 ((al .i64 ((if((f67 (a0,())).2.2.1>e22_)then(f67 (a0,())).2.2.1 else e22_)-(f67 (a0,())).2.1))+(1:Int)));let e17_:=(f161 (a1,(a2.1,a2.2),e18_,()));let e16_:=(e17_.1,());let e15_:=(f162 e16_);let e14_:=(al .u64 ((f81 (a0,a2.1,())).1+(al .u64 ((e15_.1.getD (aq (0:Int)) (0:Int))+(Bk .u64 (al .u64 (al .i64 (e18_-(al .i64 ((al .i64 ((f67 (a0,())).2.2.1-(f67 (a0,())).2.1))+(1:Int)))))) (al .u64 (al .i64 ((f67 (a0,())).2.1-(1:Int)))))))));let e1_:=(e14_,(16:Int),());let e2_:=e14_;let e21_:=(al .i64 (e22_-(f67 (a0,())).2.1));let e20_:=(a1,(a2.1,a2.2),(al .i64 (e21_+(1:Int))),());let e19_:=((f161 e20_).1,());let e3_:=(decide ((al .i64 (e21_+(f159 e19_).1))<(f67 (a0,())).2.2.1));let e4_:=(e15_.1.length:Int);let e5_:=e16_;let e6_:=(!e17_.2.1);let e7_:=e18_;let e8_:=(p159 e19_);let e9_:=(p161 e20_);let e10_:=(decide (e22_<(f67 (a0,())).2.2.1));let e11_:=(al .i64 ((1:Int)-(f67 (a0,())).2.2.1));let e12_:=((f160 (a0,a1,a2.1,())).1,(20:Int),());let e13_:=((Ao .i64 (16:Int) (8:Int)),());bif(p67 (a0,()))then(bif(p159 (a2.2.1,()))then(bif(decide (e22_>e11_))then(bif(p160 (a0,a1,a2.1,()))then(some e12_)else none)else bif(p161 (a1,(a2.1,a2.2),e7_,()))then(bif(p159 e5_)then(bif(decide ((al .i64 ((al .i64 (e7_+(f159 e5_).1))-(1:Int)))>e11_))then(bif(p160 (a0,a1,a2.1,()))then(some e12_)else none)else bif(p81 (a0,a2.1,()))then(bif(p162 e5_)then(bif(decide (e4_>(0:Int)))then(bif(decide ((0:Int)<e4_))then(bif e6_ then(some (e2_,(0:Int),()))else bif e10_ then(bif e9_ then(bif e8_ then(bif e3_ then(some (e2_,e13_))else some e1_)else none)else none)else some e1_)else none)else bif e6_ then(some ((f81 (a0,a2.1,())).1,(0:Int),()))else bif e10_ then(bif e9_ then(bif e8_ then(bif e3_ then(some ((f81 (a0,a2.1,())).1,e13_))else some ((f81 (a0,a2.1,())).1,(16:Int),()))else none)else none)else some ((f81 (a0,a2.1,())).1,(16:Int),()))else none)else none)else none)else none)else none)else none
theorem bDE(x:DenS Qc):run (cf [(31,⟨Fp,Fs,p67,f67⟩),(129,⟨Ql,Si,p160,f160⟩),(70,⟨Ir,IH,p81,f81⟩),(131,⟨Qn,Sk,p162,f162⟩),(130,⟨Qm,Sj,p161,f161⟩),(128,⟨Qk,Sh,p159,f159⟩)] []) 9 113 Tryz.f113 Qc R7 x=wL p67 f67 p160 f160 p81 f81 p162 f162 p161 f161 p159 f159 x.1 x.2.1 x.2.2.1:=by kernel_rfl
def nG(x:DenS Qc):Option (DenS R7):=wL B3.pre B3.F T8.pre T8.F Ef.pre Ef.F Ua.pre Ua.F T9.pre T9.F T7.pre T7.F x.1 x.2.1 x.2.2.1
def T4:Sum:=Aj Qc R7 nG (DenS.dflt R7)
theorem aT0:Sound Tryz.prog G1 113 T4:=sd (cf [(31,B3),(129,T8),(70,Ef),(131,Ua),(130,T9),(128,T7)] []) 113 Tryz.f113 ⟨UH,aUa,mU,aUc,aUb,aT9,ak⟩ trivial Qc R7 nG _ (fun _=>bDE ..)
abbrev aI4:=Ah Qc
abbrev aKC:=Ag Qc R7
variable (p126:aI4)(f126:aKC)
abbrev MK:Aa:=[(false,Za),(false,Za),(true,Zs),(false,.bool)]
abbrev Np:Aa:=[(false,Zb),(false,Za)]
def zT(p37:Y37)(f37:Z37)(p126:aI4)(f126:aKC)(a0 a1:Ab Za)(a2:Ab Zs)(a3:Ab (.bool)):Option (DenS Np):=bif((a2.2.1.length:Int)==(0:Int))then(bif(p37 (a0,a3,()))then(some ((f37 (a0,a3,())).1,(0:Int),()))else none)else bif(p126 (a0,a1,(a2.1,a2.2),()))then(some (f126 (a0,a1,(a2.1,a2.2),())))else none
theorem r77(x:DenS MK):run (cf [(112,⟨QO,SO,p37,f37⟩),(113,⟨Qc,R7,p126,f126⟩)] []) 9 110 Tryz.f110 MK Np x=zT p37 f37 p126 f126 x.1 x.2.1 x.2.2.1 x.2.2.2.1:=by kernel_rfl
def pN(x:DenS MK):Option (DenS Np):=zT Uk.pre Uk.F T4.pre T4.F x.1 x.2.1 x.2.2.1 x.2.2.2.1
def GW:Sum:=Aj MK Np pN (DenS.dflt Np)
theorem aGz:Sound Tryz.prog G1 110 GW:=sd (cf [(112,Uk),(113,T4)] []) 110 Tryz.f110 ⟨aUK,aT0,ak⟩ trivial MK Np pN _ (fun _=>r77 ..)
abbrev Y77:=Ah MK
abbrev Z77:=Ag MK Np
variable (p77:Y77)(f77:Z77)
abbrev Mo:Aa:=[(false,Za),(false,Za),(false,Zb),(false,Zb)]
abbrev MZ:Aa:=[(false,Zb),(false,Za),(false,Za)]
def xQ(p73:O4)(f73:Pc)(p68:VY)(f68:V8)(p74:X1)(f74:Yb)(p75:dX)(f75:eR)(p76:dY)(f76:eU)(p78:Y78)(f78:Z78)(p77:Y77)(f77:Z77)(a0 a1:Ab Za)(a2 a3:Ab Zb):Option (DenS MZ):=let e8_:=((f74 (a0,a2,())).1.2.2.2.2.1,(f74 (a0,a3,())).1.2.2.2.2);let e7_:=(f78 e8_);let e1_:=(f77 (a0,a1,e7_.1,(f74 (a0,a2,())).1.2.2.2.1,()));let e2_:=(f77 (a0,a1,e7_.1,(a1==(4:Int)),()));let e3_:=(p78 e8_);let e4_:=e7_;let e5_:=((f74 (a0,a2,())).1.2.2.2.1==(f74 (a0,a3,())).1.2.2.2.1);let e6_:=((f75 (a0,())).1,(1:Int),(0:Int),());bif(p73 (a0,a1,()))then(bif((f73 (a0,a1,())).1 !=(0:Int))then(some ((0:Int),(0:Int),(f73 (a0,a1,()))))else bif(p68 (a0,a2,()))then(bif((p68 (a0,a3,()))||(!(bif(!(f68 (a0,a2,())).1)then false else true)))then(bif((!(f68 (a0,a2,())).1)||(!(f68 (a0,a3,())).1))then(some ((0:Int),(0:Int),(4:Int),()))else bif(p74 (a0,a2,()))then(bif(p74 (a0,a3,()))then(bif((f74 (a0,a2,())).1.2.1||(f74 (a0,a3,())).1.2.1)then(bif(p75 (a0,()))then(some e6_)else none)else bif((f74 (a0,a2,())).1.1||(f74 (a0,a3,())).1.1)then(bif(p75 (a0,()))then(some ((f75 (a0,())).1,(0:Int),(0:Int),()))else none)else bif(((f74 (a0,a2,())).1.2.2.1&&(f74 (a0,a3,())).1.2.2.1)&&(!e5_))then(bif(p75 (a0,()))then(some e6_)else none)else bif(f74 (a0,a2,())).1.2.2.1 then(some (a2,(0:Int),(0:Int),()))else bif(f74 (a0,a3,())).1.2.2.1 then(some (a3,(0:Int),(0:Int),()))else bif(p76 (f74 (a0,a2,())))then(bif((p76 (f74 (a0,a3,())))||(!(f76 (f74 (a0,a2,()))).1))then(bif(((f76 (f74 (a0,a2,()))).1&&(f76 (f74 (a0,a3,()))).1)&&e5_)then(bif e3_ then(bif(p77 (a0,a1,e4_.1,(f74 (a0,a2,())).1.2.2.2.1,()))then(some (e1_.1,e1_.2.1,(0:Int),()))else none)else none)else bif e3_ then(bif(p77 (a0,a1,e4_.1,(a1==(4:Int)),()))then(some (e2_.1,e2_.2.1,(0:Int),()))else none)else none)else none)else none)else none)else none)else none)else none)else none
theorem r28(x:DenS Mo):run (cf [(55,⟨Hi,Hv,p73,f73⟩),(77,⟨Iq,IF,p68,f68⟩),(33,⟨Ks,KV,p74,f74⟩),(86,⟨Kt,KW,p75,f75⟩),(75,⟨MJ,No,p76,f76⟩),(126,⟨RT,TP,p78,f78⟩),(110,⟨MK,Np,p77,f77⟩)] []) 9 107 Tryz.f107 Mo MZ x=xQ p73 f73 p68 f68 p74 f74 p75 f75 p76 f76 p78 f78 p77 f77 x.1 x.2.1 x.2.2.1 x.2.2.2.1:=by kernel_rfl
def cF(x:DenS Mo):Option (DenS MZ):=xQ Cc.pre Cc.F CW.pre CW.F Eu.pre Eu.F Ew.pre Ew.F GV.pre GV.F UK.pre UK.F GW.pre GW.F x.1 x.2.1 x.2.2.1 x.2.2.2.1
def GQ:Sum:=Aj Mo MZ cF (DenS.dflt MZ)
theorem aF8:Sound Tryz.prog G1 107 GQ:=sd (cf [(55,Cc),(77,CW),(33,Eu),(86,Ew),(75,GV),(126,UK),(110,GW)] []) 107 Tryz.f107 ⟨aAW,aAV,aAX,aAY,aGy,aVI,aGz,ak⟩ trivial Mo MZ cF _ (fun _=>r28 ..)
abbrev Y28:=Ah Mo
abbrev Z28:=Ag Mo MZ
variable (p28:Y28)(f28:Z28)
abbrev MB:Aa:=[(false,Zb),(false,Zb)]
abbrev Ng:Aa:=[(false,Zb)]
abbrev Gt:LK:=.ref Zp
def yV(p28:Y28)(f28:Z28)(l0:LK.D (.ref Zp))(a0 a1:Ab Zb):Option (LK.B Gt×DenS Ng):=bif(p28 (l0.1,l0.2.1,a0,a1,()))then(some ((l0.1,l0.2.1,(Ao .i64 l0.2.2.1 (f28 (l0.1,l0.2.1,a0,a1,())).2.1),()),(f28 (l0.1,l0.2.1,a0,a1,())).1,()))else none
theorem bFX(x:LK.D Gt×DenS MB):DI (cf [(107,⟨Mo,MZ,p28,f28⟩)] []) 9 78 Tryz.f78 Gt MB Ng x=yV p28 f28 x.1 x.2.1 x.2.2.1:=by kernel_rfl
def oT(x:LK.D Gt×DenS MB):Option (LK.B Gt×DenS Ng):=yV GQ.pre GQ.F x.1 x.2.1 x.2.2.1
def GU:SumL:=DK Gt MB Ng oT (LK.dflt Gt,DenS.dflt Ng)
theorem aGw:SoundL Tryz.prog G1 78 GU:=EK (cf [(107,GQ)] []) 78 Tryz.f78 ⟨aF8,ak⟩ trivial Gt MB Ng oT _ (fun _=>bFX ..)
abbrev aBW:=LK.D Gt×DenS MB->Bool
abbrev aCA:=LK.D Gt×DenS MB->LK.B Gt×DenS Ng
variable (p478:aBW)(f478:aCA)
abbrev MC:Aa:=[(true,Zj),(true,Zj)]
abbrev Nh:Aa:=[(true,Zj)]
abbrev Gu:LK:=.ref Zp
def yW(p478:aBW)(f478:aCA)(l0:LK.D (.ref Zp))(a0 a1:Ab Zj):Option (LK.B Gu×DenS Nh):=let e2_:=((f478 ((l0.1,l0.2),a0.1,a1.1,())).1,a0.2.1,a1.2);let e1_:=(f478 e2_);bif(p478 ((l0.1,l0.2),a0.1,a1.1,()))then(bif(p478 e2_)then(some (e1_.1,((f478 ((l0.1,l0.2),a0.1,a1.1,())).2.1,e1_.2),()))else none)else none
theorem bFY(x:LK.D Gu×DenS MC):DI ({cf [] []with lsums:=[(78,⟨Gt,MB,Ng,p478,f478⟩)] }) 9 40 Tryz.f40 Gu MC Nh x=yW p478 f478 x.1 x.2.1 x.2.2.1:=by kernel_rfl
def oU(x:LK.D Gu×DenS MC):Option (LK.B Gu×DenS Nh):=yW GU.pre GU.F x.1 x.2.1 x.2.2.1
def E3:SumL:=DK Gu MC Nh oU (LK.dflt Gu,DenS.dflt Nh)
theorem aVl:SoundL Tryz.prog G1 40 E3:=EK ({cf [] []with lsums:=[(78,GU)] }) 40 Tryz.f40 trivial trivial Gu MC Nh oU _ (fun _=>bFY ..) (hls:=⟨aGw,ak⟩)
abbrev rV:=LK.D Gu×DenS MC->Bool
abbrev sO:=LK.D Gu×DenS MC->LK.B Gu×DenS Nh
variable (p479:rV)(f479:sO)
abbrev aFs:Aa:=[(false,Za),(false,Za),(true,Zj),(true,Zj)]
abbrev aTl:Aa:=[(true,Zj),(false,Za),(false,Za)]
abbrev aXx:=Ah aFs
abbrev aXW:=Ag aFs aTl
variable (p480:aXx)(f480:aXW)
abbrev RJ:Aa:=[(false,Ze),(false,Ze)]
abbrev TG:Aa:=[(false,Ze)]
abbrev GE:Pat:=⟨67,[(0,.one (.sl Zb)),(1,.one (.sl Zb)),(6,.one (.v .i64)),(5,.one (.own 0))],[.arr Zb]⟩
abbrev aO:List (Nat×Shape):=[]
abbrev Lq:List (Nat×Pat):=[(0,⟨67,[(5,.one (.own 0))],[.arr Zb]⟩)]
abbrev K6:Option Pat:=none
abbrev FT:Pat:=⟨67,[(8,.one (.v .i64)),(7,.one (.v .u64)),(6,.one (.v .i64)),(0,.one (.sl Zb)),(1,.one (.sl Zb)),(5,.one (.own 0))],[.arr Zb]⟩
abbrev aP:List (Nat×Shape):=[]
abbrev HJ:List (Nat×Pat):=[(2,⟨67,[(7,.one (.v .u64)),(6,.one (.v .i64)),(0,.one (.sl Zb)),(1,.one (.sl Zb)),(5,.one (.own 0))],[.arr Zb]⟩)]
abbrev HG:Option Pat:=none
variable (w481_3:Pat.D GE->Option (Ad Lq K6))(w481_7:Pat.D FT->Option (Ad HJ HG))
def Y6(p158:CN)(f158:CO){R:Type}(L:Pat.D FT->Option R)(e:Ad HJ HG->Option R)(x:Pat.D FT):Option R:=let e6_:=(al .i64 (x.1.2.2.1+x.1.1));let e5_:=(aq e6_);let e1_:=(al .u64 ((al .u64 ((x.2.1.getD e5_ (0:Int))+(al .u64 ((x.1.2.2.2.1.getD (aq x.1.2.2.1) (0:Int))*(x.1.2.2.2.2.1.getD (aq x.1.1) (0:Int))))))+x.1.2.1));let e2_:=((decide ((0:Int)<=e6_))&&(decide (e6_<(x.2.1.length:Int))));let e3_:=(x.1.2.2.1,x.1.2.2.2.1,x.1.2.2.2.2.1,(),());let e4_:=(decide (x.1.1<(x.1.2.2.2.2.1.length:Int)));bif e4_ then(bif e2_ then(bif((decide ((0:Int)<=x.1.2.2.1))&&(decide (x.1.2.2.1<(x.1.2.2.2.1.length:Int))))then(bif((decide ((0:Int)<=x.1.1))&&e4_)then(bif e2_ then(((L (((al .i64 (x.1.1+(1:Int))),(Bl .u64 e1_ (4294967296:Int)),e3_),(x.2.1.set e5_ (ii e1_ (4294967296:Int))),()))))else none)else none)else none)else none)else(e (.inl ((x.1.2.1,e3_),x.2)))
theorem bHZ(d:Nat)(R:Type)(L:Pat.D FT->Option R)(e:Ad HJ HG->Option R)(x:Pat.D FT):
  Bq (cf [(105,⟨C8,C9,p158,f158⟩)] [(127,3,LoopSpec.of GE aO Lq K6 w481_3),(127,7,LoopSpec.of FT aP HJ HG w481_7)]) (d+2) 127 (Bp Tryz.f127 7) FT aP HJ HG (R:=R) L e x=Y6 p158 f158 L e x:=by kernel_rfl
theorem aPz(p158:CN)(f158:CO):Bn fun L e x=>Y6 p158 f158 L e x:=by intro _ _ _ _ _ _ _ h0 hL he _;unfold Y6;repeat' (first|exact h0|exact hL _|exact he _|apply By|(apply Bz h0;intro _)|(apply BA<;>intro _))
def Y5(p158:CN)(f158:CO)(w481_7:Pat.D FT->Option (Ad HJ HG)){R:Type}(L:Pat.D GE->Option R)(e:Ad Lq K6->Option R)(x:Pat.D GE):Option R:=
 bif(decide (x.1.2.2.1<(x.1.1.length:Int)))then(Vx.AQ (w481_7 (((0:Int),(0:Int),x.1.2.2.1,x.1.1,x.1.2.1,(),()),x.2)) fun y1=>
 Vx.AP y1 (fun y2=>
 bif((decide ((0:Int)<=(al .i64 (y2.1.2.1+(y2.1.2.2.2.1.length:Int)))))&&(decide ((al .i64 (y2.1.2.1+(y2.1.2.2.2.1.length:Int)))<(y2.2.1.length:Int))))then(bif((decide ((0:Int)<=(al .i64 (y2.1.2.1+(y2.1.2.2.2.1.length:Int)))))&&(decide ((al .i64 (y2.1.2.1+(y2.1.2.2.2.1.length:Int)))<(y2.2.1.length:Int))))then(((L ((y2.1.2.2.1,y2.1.2.2.2.1,(al .i64 (y2.1.2.1+(1:Int))),(),()),(y2.2.1.set (aq (al .i64 (y2.1.2.1+(y2.1.2.2.2.1.length:Int)))) (al .u64 ((y2.2.1.getD (aq (al .i64 (y2.1.2.1+(y2.1.2.2.2.1.length:Int)))) (0:Int))+y2.1.1))),()))))
 else none)
 else none) (fun z2=>
 none))
 else(e (.inl (((),()),x.2)))
theorem bHY(d:Nat)(R:Type)(L:Pat.D GE->Option R)(e:Ad Lq K6->Option R)(x:Pat.D GE):
  Bq (cf [(105,⟨C8,C9,p158,f158⟩)] [(127,3,LoopSpec.of GE aO Lq K6 w481_3),(127,7,LoopSpec.of FT aP HJ HG w481_7)]) (d+2) 127 (Bp Tryz.f127 3) GE aO Lq K6 (R:=R) L e x=Y5 p158 f158 w481_7 L e x:=by kernel_rfl
theorem aPy(p158:CN)(f158:CO)(w481_7:Pat.D FT->Option (Ad HJ HG)):Bn fun L e x=>Y5 p158 f158 w481_7 L e x:=by intro _ _ _ _ _ _ _ h0 hL he _;unfold Y5;repeat' (first|exact h0|exact hL _|exact he _|apply By|(apply Bz h0;intro _)|(apply BA<;>intro _))
def yX(p158:CN)(f158:CO)(w481_3:Pat.D GE->Option (Ad Lq K6))(w481_7:Pat.D FT->Option (Ad HJ HG))(a0 a1:Ab Ze):Option (DenS TG):=
 let e1_:=(al .i64 ((a0.length:Int)+(a1.length:Int)))
 bif((decide ((0:Int)<=e1_))&&(decide ((e1_*(8:Int))<=(140737488355328:Int))))then(Vx.AQ (w481_3 ((a0,a1,(0:Int),(),()),(bd (aq e1_) (0:Int)),())) fun y1=>
 Vx.AP y1 (fun y2=>
 bif(p158 y2.2)then(some (f158 y2.2))
 else none) (fun z2=>
 none))
 else none
theorem bFZ(x:DenS RJ):run (cf [(105,⟨C8,C9,p158,f158⟩)] [(127,3,LoopSpec.of GE aO Lq K6 w481_3),(127,7,LoopSpec.of FT aP HJ HG w481_7)]) 9 127 Tryz.f127 RJ TG x=yX p158 f158 w481_3 w481_7 x.1 x.2.1:=by kernel_rfl
def UM:FT.D->Option (Ad HJ HG):=Bi fun L=>Y6 Aq.pre Aq.F L some
def qW:GE.D->Option (Ad Lq K6):=Bi fun L=>Y5 Aq.pre Aq.F UM L some
def oV(x:DenS RJ):Option (DenS TG):=yX Aq.pre Aq.F qW UM x.1 x.2.1
def UC:Sum:=Aj RJ TG oV (DenS.dflt TG)
theorem aVm:Sound Tryz.prog G1 127 UC:=sd (cf [(105,Aq)] [(127,3,LoopSpec.of GE aO Lq K6 qW),(127,7,LoopSpec.of FT aP HJ HG UM)]) 127 Tryz.f127 ⟨T6,ak⟩ ⟨rfl,fun d=>Bw (fun L e x=>Y5 Aq.pre Aq.F UM L e x) (aPy Aq.pre Aq.F UM) (fun _ _ _ _=>bHY ..),⟨rfl,fun d=>Bw (fun L e x=>Y6 Aq.pre Aq.F L e x) (aPz Aq.pre Aq.F) (fun _ _ _ _=>bHZ ..),ak⟩⟩ RJ TG oV _ (fun _=>bFZ ..)
abbrev aKc:=Ah RJ
abbrev aLK:=Ag RJ TG
variable (p481:aKc)(f481:aLK)
abbrev RK:Aa:=[(true,ZE),(true,ZE)]
abbrev TH:Aa:=[(true,ZF)]
def yY(p76:dY)(f76:eU)(p481:aKc)(f481:aLK)(a0:Ab ZE)(a1:Ab ZE):Option (DenS TH):=let e2_:=((!(a0.2.2.2.1==a1.2.2.2.1)),(false,[],(0:Int),()),());let e1_:=((a0.1||a1.1),(a0.2.1||a1.2.1),false,e2_);bif((p76 ((a1.1,a1.2),()))||(!a0.2.2.1))then(bif((p76 ((a0.1,a0.2),()))||(!(bif(a0.2.2.1&&(f76 ((a1.1,a1.2),())).1)then false else true)))then(bif((a0.2.2.1&&(f76 ((a1.1,a1.2),())).1)||((f76 ((a0.1,a0.2),())).1&&a1.2.2.1))then(some ((true,e1_),()))else bif(a0.1||a1.1)then(some ((false,e1_),()))else bif(a0.2.2.1||a1.2.2.1)then(some ((false,(a0.1||a1.1),(a0.2.1||a1.2.1),true,e2_),()))else bif(p481 (a0.2.2.2.2.1.2.1,a1.2.2.2.2.1.2.1,()))then(some ((false,(a0.1||a1.1),(a0.2.1||a1.2.1),false,(!(a0.2.2.2.1==a1.2.2.2.1)),((!(a0.2.2.2.1==a1.2.2.2.1)),(f481 (a0.2.2.2.2.1.2.1,a1.2.2.2.2.1.2.1,())).1,(al .i64 (a0.2.2.2.2.1.2.2.1+a1.2.2.2.2.1.2.2.1)),()),()),()))else none)else none)else none
theorem bF0(x:DenS RK):run (cf [(75,⟨MJ,No,p76,f76⟩),(127,⟨RJ,TG,p481,f481⟩)] []) 9 108 Tryz.f108 RK TH x=yY p76 f76 p481 f481 x.1 x.2.1:=by kernel_rfl
def oW(x:DenS RK):Option (DenS TH):=yY GV.pre GV.F UC.pre UC.F x.1 x.2.1
def UD:Sum:=Aj RK TH oW (DenS.dflt TH)
theorem aVn:Sound Tryz.prog G1 108 UD:=sd (cf [(75,GV),(127,UC)] []) 108 Tryz.f108 ⟨aGy,aVm,ak⟩ trivial RK TH oW _ (fun _=>bF0 ..)
abbrev aKd:=Ah RK
abbrev aLL:=Ag RK TH
variable (p482:aKd)(f482:aLL)
abbrev RL:Aa:=[(false,Zb),(false,Zb)]
abbrev TI:Aa:=[(false,Zb)]
abbrev Hn:LK:=.ref Zp
def yZ(p74:X1)(f74:Yb)(p482:aKd)(f482:aLL)(p75:dX)(f75:eR)(p179:aBq)(f179:aB4)(p77:Y77)(f77:Z77)(l0:LK.D (.ref Zp))(a0 a1:Ab Zb):Option (LK.B Hn×DenS TI):=let e6_:=((f74 (l0.1,a0,())).1,(f74 (l0.1,a1,())));let e5_:=(f482 e6_);let e4_:=(e5_.1.2.2.2.2.1,());let e1_:=(f77 (l0.1,l0.2.1,e5_.1.2.2.2.2.2.1,e4_));let e2_:=(l0.1,e4_);let e3_:=e5_;bif(p74 (l0.1,a0,()))then(bif(p74 (l0.1,a1,()))then(bif(p482 e6_)then(bif(e3_.1.1||e3_.1.2.2.1)then(bif(p75 (l0.1,()))then(some ((l0.1,l0.2.1,(Ao .i64 l0.2.2.1 (1:Int)),()),(f75 (l0.1,()))))else none)else bif e3_.1.2.1 then(bif(p75 (l0.1,()))then(some ((l0.1,l0.2),(f75 (l0.1,()))))else none)else bif e3_.1.2.2.2.1 then(bif(p179 e2_)then(some ((l0.1,l0.2),(f179 e2_)))else none)else bif(p77 (l0.1,l0.2.1,e3_.1.2.2.2.2.2.1,e3_.1.2.2.2.2.1,()))then(some ((l0.1,l0.2.1,(Ao .i64 l0.2.2.1 e1_.2.1),()),e1_.1,()))else none)else none)else none)else none
theorem bF1(x:LK.D Hn×DenS RL):DI (cf [(33,⟨Ks,KV,p74,f74⟩),(108,⟨RK,TH,p482,f482⟩),(86,⟨Kt,KW,p75,f75⟩),(109,⟨Mm,MX,p179,f179⟩),(110,⟨MK,Np,p77,f77⟩)] []) 9 81 Tryz.f81 Hn RL TI x=yZ p74 f74 p482 f482 p75 f75 p179 f179 p77 f77 x.1 x.2.1 x.2.2.1:=by kernel_rfl
def oX(x:LK.D Hn×DenS RL):Option (LK.B Hn×DenS TI):=yZ Eu.pre Eu.F UD.pre UD.F Ew.pre Ew.F GP.pre GP.F GW.pre GW.F x.1 x.2.1 x.2.2.1
def UE:SumL:=DK Hn RL TI oX (LK.dflt Hn,DenS.dflt TI)
theorem aVo:SoundL Tryz.prog G1 81 UE:=EK (cf [(33,Eu),(108,UD),(86,Ew),(109,GP),(110,GW)] []) 81 Tryz.f81 ⟨aAX,aVn,aAY,aF3,aGz,ak⟩ trivial Hn RL TI oX _ (fun _=>bF1 ..)
abbrev aKe:=LK.D Hn×DenS RL->Bool
abbrev aLM:=LK.D Hn×DenS RL->LK.B Hn×DenS TI
variable (p483:aKe)(f483:aLM)
abbrev QE:Aa:=[(false,Za),(false,Zb)]
abbrev SE:Aa:=[(false,Zb)]
def xT(p81:dZ)(f81:eV)(a0:Ab Za)(a1:Ab Zb):Option (DenS SE):=bif(p81 (a0,true,()))then(some ((jE .u64 a1 (f81 (a0,true,())).1),()))else none
theorem r32(x:DenS QE):run (cf [(70,⟨Ir,IH,p81,f81⟩)] []) 9 29 Tryz.f29 QE SE x=xT p81 f81 x.1 x.2.1:=by kernel_rfl
def nZ(x:DenS QE):Option (DenS SE):=xT Ef.pre Ef.F x.1 x.2.1
def Ue:Sum:=Aj QE SE nZ (DenS.dflt SE)
theorem aUv:Sound Tryz.prog G1 29 Ue:=sd (cf [(70,Ef)] []) 29 Tryz.f29 ⟨mU,ak⟩ trivial QE SE nZ _ (fun _=>r32 ..)
abbrev Y32:=Ah QE
abbrev Z32:=Ag QE SE
variable (p32:Y32)(f32:Z32)
abbrev Qx:Aa:=[(false,Za),(false,Za),(false,Zb),(false,Zb)]
abbrev Sv:Aa:=[(false,Zb),(false,Za),(false,Za)]
def xO(p67:Jx)(f67:JA)(p68:VY)(f68:V8)(p32:Y32)(f32:Z32)(p28:Y28)(f28:Z28)(a0 a1:Ab Za)(a2 a3:Ab Zb):Option (DenS Sv):=bif(p67 (a0,()))then(bif((p68 (a0,a3,()))||(!(bif((f67 (a0,())).1==(0:Int))then false else true)))then(bif(((f67 (a0,())).1==(0:Int))||(!(f68 (a0,a3,())).1))then(bif(p28 (a0,a1,a2,a3,()))then(some (f28 (a0,a1,a2,a3,())))else none)else bif(p32 (a0,a3,()))then(bif(p28 (a0,a1,a2,(f32 (a0,a3,()))))then(some (f28 (a0,a1,a2,(f32 (a0,a3,())))))else none)else none)else none)else none
theorem r26(x:DenS Qx):run (cf [(31,⟨Fp,Fs,p67,f67⟩),(77,⟨Iq,IF,p68,f68⟩),(29,⟨QE,SE,p32,f32⟩),(107,⟨Mo,MZ,p28,f28⟩)] []) 9 111 Tryz.f111 Qx Sv x=xO p67 f67 p68 f68 p32 f32 p28 f28 x.1 x.2.1 x.2.2.1 x.2.2.2.1:=by kernel_rfl
def cE(x:DenS Qx):Option (DenS Sv):=xO B3.pre B3.F CW.pre CW.F Ue.pre Ue.F GQ.pre GQ.F x.1 x.2.1 x.2.2.1 x.2.2.2.1
def Ud:Sum:=Aj Qx Sv cE (DenS.dflt Sv)
theorem aUj:Sound Tryz.prog G1 111 Ud:=sd (cf [(31,B3),(77,CW),(29,Ue),(107,GQ)] []) 111 Tryz.f111 ⟨UH,aAV,aUv,aF8,ak⟩ trivial Qx Sv cE _ (fun _=>r26 ..)
abbrev Y26:=Ah Qx
abbrev Z26:=Ag Qx Sv
variable (p26:Y26)(f26:Z26)
abbrev RM:Aa:=[(false,Zb),(false,Zb)]
abbrev TJ:Aa:=[(false,Zb)]
abbrev Ho:LK:=.ref Zp
def zA(p26:Y26)(f26:Z26)(l0:LK.D (.ref Zp))(a0 a1:Ab Zb):Option (LK.B Ho×DenS TJ):=bif(p26 (l0.1,l0.2.1,a0,a1,()))then(some ((l0.1,l0.2.1,(Ao .i64 l0.2.2.1 (f26 (l0.1,l0.2.1,a0,a1,())).2.1),()),(f26 (l0.1,l0.2.1,a0,a1,())).1,()))else none
theorem bF2(x:LK.D Ho×DenS RM):DI (cf [(111,⟨Qx,Sv,p26,f26⟩)] []) 9 82 Tryz.f82 Ho RM TJ x=zA p26 f26 x.1 x.2.1 x.2.2.1:=by kernel_rfl
def oZ(x:LK.D Ho×DenS RM):Option (LK.B Ho×DenS TJ):=zA Ud.pre Ud.F x.1 x.2.1 x.2.2.1
def UF:SumL:=DK Ho RM TJ oZ (LK.dflt Ho,DenS.dflt TJ)
theorem aVp:SoundL Tryz.prog G1 82 UF:=EK (cf [(111,Ud)] []) 82 Tryz.f82 ⟨aUj,ak⟩ trivial Ho RM TJ oZ _ (fun _=>bF2 ..)
abbrev aKf:=LK.D Ho×DenS RM->Bool
abbrev aLN:=LK.D Ho×DenS RM->LK.B Ho×DenS TJ
variable (p484:aKf)(f484:aLN)
abbrev MD:Aa:=[(true,Zj),(true,Zj)]
abbrev Ni:Aa:=[(true,Zj)]
abbrev Gv:LK:=.ref Zp
def zB(p483:aKe)(f483:aLM)(p484:aKf)(f484:aLN)(p478:aBW)(f478:aCA)(l0:LK.D (.ref Zp))(a0 a1:Ab Zj):Option (LK.B Gv×DenS Ni):=let e10_:=((f483 ((l0.1,l0.2),a0.1,a1.1,())).1,a0.2.1,a1.2);let e9_:=(f483 e10_);let e8_:=(f483 (e9_.1,a0.1,a1.2));let e7_:=(f483 (e8_.1,a0.2.1,a1.1,()));let e6_:=(f484 (e7_.1,(f483 ((l0.1,l0.2),a0.1,a1.1,())).2.1,e9_.2));let e1_:=(f478 (e6_.1,e8_.2.1,e7_.2));let e2_:=e6_;let e3_:=e7_;let e4_:=e8_;let e5_:=e9_;bif(p483 ((l0.1,l0.2),a0.1,a1.1,()))then(bif(p483 e10_)then(bif(p483 (e5_.1,a0.1,a1.2))then(bif(p483 (e4_.1,a0.2.1,a1.1,()))then(bif(p484 (e3_.1,(f483 ((l0.1,l0.2),a0.1,a1.1,())).2.1,e5_.2))then(bif(p478 (e2_.1,e4_.2.1,e3_.2))then(some (e1_.1,(e2_.2.1,e1_.2),()))else none)else none)else none)else none)else none)else none
theorem bF3(x:LK.D Gv×DenS MD):DI ({cf [] []with lsums:=[(81,⟨Hn,RL,TI,p483,f483⟩),(82,⟨Ho,RM,TJ,p484,f484⟩),(78,⟨Gt,MB,Ng,p478,f478⟩)] }) 9 43 Tryz.f43 Gv MD Ni x=zB p483 f483 p484 f484 p478 f478 x.1 x.2.1 x.2.2.1:=by kernel_rfl
def o0(x:LK.D Gv×DenS MD):Option (LK.B Gv×DenS Ni):=zB UE.pre UE.F UF.pre UF.F GU.pre GU.F x.1 x.2.1 x.2.2.1
def E4:SumL:=DK Gv MD Ni o0 (LK.dflt Gv,DenS.dflt Ni)
theorem aVq:SoundL Tryz.prog G1 43 E4:=EK ({cf [] []with lsums:=[(81,UE),(82,UF),(78,GU)] }) 43 Tryz.f43 trivial trivial Gv MD Ni o0 _ (fun _=>bF3 ..) (hls:=⟨aVo,aVp,aGw,ak⟩)
abbrev rW:=LK.D Gv×DenS MD->Bool
abbrev sP:=LK.D Gv×DenS MD->LK.B Gv×DenS Ni
variable (p485:rW)(f485:sP)
abbrev aFt:Aa:=[(false,Za),(false,Za),(true,Zj),(true,Zj)]
abbrev aTm:Aa:=[(true,Zj),(false,Za),(false,Za)]
abbrev aXy:=Ah aFt
abbrev aXX:=Ag aFt aTm
variable (p486:aXy)(f486:aXX)
abbrev Il:Aa:=[(true,Zj)]
abbrev IA:Aa:=[(true,Zj)]
def aSq(a0:Ab Zj):Option (DenS IA):=some ((a0.1,a0.2),())
theorem bF4(x:DenS Il):run (cf [] []) 9 12 Tryz.f12 Il IA x=aSq x.1:=by kernel_rfl
def cT(x:DenS Il):Option (DenS IA):=aSq x.1
def Cm:Sum:=Aj Il IA cT (DenS.dflt IA)
theorem aVr:Sound Tryz.prog G1 12 Cm:=sd (cf [] []) 12 Tryz.f12 trivial trivial Il IA cT _ (fun _=>bF4 ..)
abbrev O1:=Ah Il
abbrev O9:=Ag Il IA
variable (p487:O1)(f487:O9)
abbrev aFu:Aa:=[(true,Zs),(true,Zs),(false,.bool)]
abbrev aTn:Aa:=[(true,Zs)]
abbrev aTH:Pat:=⟨59,[(9,.one (.v .i64)),(8,.one (.sl Zb)),(7,.one (.sl Zb)),(2,.one (.bool)),(3,.one (.ptr 0 0)),(4,.one (.ptr 1 0)),(6,.one (.ptr 2 0))],[.raw [.bool,.sl Zb,.v .i64],.raw [.bool,.sl Zb,.v .i64],.raw [.bool,.sl Zb,.v .i64]]⟩
abbrev aXp:List (Nat×Pat):=[(0,⟨59,[(8,.one (.sl Zb)),(7,.one (.sl Zb)),(2,.one (.bool)),(3,.one (.ptr 0 0)),(4,.one (.ptr 1 0)),(6,.one (.ptr 2 0))],[.raw [.bool,.sl Zb,.v .i64],.raw [.bool,.sl Zb,.v .i64],.raw [.bool,.sl Zb,.v .i64]]⟩)]
abbrev aTK:Option Pat:=none
variable (w488_4:Pat.D aTH->Option (Ad aXp aTK))
abbrev aXz:=Ah aFu
abbrev aXY:=Ag aFu aTn
variable (p488:aXz)(f488:aXY)
abbrev aFv:Aa:=[(false,Zb),(false,Zb)]
abbrev aTo:Aa:=[(false,Zb)]
abbrev aAq:LK:=.ref Zp
abbrev aXA:=LK.D aAq×DenS aFv->Bool
abbrev aXZ:=LK.D aAq×DenS aFv->LK.B aAq×DenS aTo
variable (p489:aXA)(f489:aXZ)
abbrev aFw:Aa:=[(true,Zj),(true,Zj)]
abbrev aTp:Aa:=[(true,Zj)]
abbrev aAr:LK:=.ref Zp
abbrev aXB:=LK.D aAr×DenS aFw->Bool
abbrev aX0:=LK.D aAr×DenS aFw->LK.B aAr×DenS aTp
variable (p490:aXB)(f490:aX0)
abbrev aFx:Aa:=[(false,Za),(false,Za),(true,Zj),(true,Zj)]
abbrev aTq:Aa:=[(true,Zj),(false,Za),(false,Za)]
abbrev aXC:=Ah aFx
abbrev aX1:=Ag aFx aTq
variable (p491:aXC)(f491:aX1)
abbrev Im:Aa:=[(true,Zj),(true,Zj)]
abbrev IB:Aa:=[(false,.bool)]
def zC(a0 a1:Ab Zj):Option (DenS IB):=some (((a0.1==a1.1)&&(a0.2.1==a1.2.1)),())
theorem bF6(x:DenS Im):run (cf [] []) 9 17 Tryz.f17 Im IB x=zC x.1 x.2.1:=by kernel_rfl
def o7(x:DenS Im):Option (DenS IB):=zC x.1 x.2.1
def Cn:Sum:=Aj Im IB o7 (DenS.dflt IB)
theorem aVs:Sound Tryz.prog G1 17 Cn:=sd (cf [] []) 17 Tryz.f17 trivial trivial Im IB o7 _ (fun _=>bF6 ..)
abbrev O2:=Ah Im
abbrev Pa:=Ag Im IB
variable (p492:O2)(f492:Pa)
abbrev aFy:Aa:=[(false,.slice (.pair Za ZG))]
abbrev aTr:Aa:=[(false,.bool)]
abbrev aTI:Pat:=⟨129,[(0,.one (.sl (.pair Za ZG))),(3,.one (.v .i64))],[]⟩
abbrev aXq:List (Nat×Pat):=[(0,⟨129,[],[]⟩)]
abbrev aTL:Option Pat:=(some ⟨129,[(2,.one (.bool))],[]⟩)
variable (w493_4:Pat.D aTI->Option (Ad aXq aTL))
abbrev aXD:=Ah aFy
abbrev aX2:=Ag aFy aTr
variable (p493:aXD)(f493:aX2)
abbrev aAo:Aa:=[(false,Zb)]
abbrev aFN:Aa:=[(false,.flt .f64)]
def lH:Sum:=aOm .f64
theorem aUk:Sound Tryz.prog G1 18 lH:=bAv (e:=ow) .f64 Tryz.func18 (by kernel_rfl) (by kernel_rfl) (by kernel_rfl) (by kernel_rfl) (fun _=>rfl)
abbrev aBt:=Ah aAo
abbrev aB7:=Ag aAo aFN
variable (p301:aBt)(f301:aB7)
abbrev ME:Aa:=[(true,Zj)]
abbrev Nj:Aa:=[(false,.cx .f64)]
def aSs(p301:aBt)(f301:aB7)(a0:Ab Zj):Option (DenS Nj):=bif(p301 (a0.1,()))then(bif(p301 a0.2)then(some (((f301 (a0.1,())).1,(f301 a0.2).1),()))else none)else none
theorem bF7(x:DenS ME):run (cf [(18,⟨aAo,aFN,p301,f301⟩)] []) 9 48 Tryz.f48 ME Nj x=aSs p301 f301 x.1:=by kernel_rfl
def XN(x:DenS ME):Option (DenS Nj):=aSs lH.pre lH.F x.1
def E5:Sum:=Aj ME Nj XN (DenS.dflt Nj)
theorem aVt:Sound Tryz.prog G1 48 E5:=sd (cf [(18,lH)] []) 48 Tryz.f48 ⟨aUk,ak⟩ trivial ME Nj XN _ (fun _=>bF7 ..)
abbrev dT:=Ah ME
abbrev eN:=Ag ME Nj
variable (p494:dT)(f494:eN)
abbrev aAp:Aa:=[(false,.flt .f64)]
abbrev aFO:Aa:=[(false,Zb)]
def Vw:Sum:=aMk .f64
theorem aUl:Sound Tryz.prog G1 49 Vw:=aYC (e:=pk) .f64 Tryz.func49 (by kernel_rfl) (by kernel_rfl) (by kernel_rfl) (by kernel_rfl) (fun _=>rfl)
abbrev aBu:=Ah aAp
abbrev aB8:=Ag aAp aFO
variable (p306:aBu)(f306:aB8)
abbrev RO:Aa:=[(false,.flt .f64)]
abbrev TL:Aa:=[(false,Zb)]
def zD(p70:DA)(f70:DB)(p306:aBu)(f306:aB8)(a0:Ab (.flt .f64)):Option (DenS TL):=bif((Vx.Dd je a0 a0)!=(some Ordering.eq))then(bif(p70 ((3:Int),()))then(some ((f70 ((3:Int),())).1,()))else none)else bif(p306 (a0,()))then(some (f306 (a0,())))else none
theorem bF8(x:DenS RO):run (cf [(61,⟨Du,Dv,p70,f70⟩),(49,⟨aAp,aFO,p306,f306⟩)] []) 9 51 Tryz.f51 RO TL x=zD p70 f70 p306 f306 x.1:=by kernel_rfl
def cU(x:DenS RO):Option (DenS TL):=zD Bh.pre Bh.F Vw.pre Vw.F x.1
def UG:Sum:=Aj RO TL cU (DenS.dflt TL)
theorem aVu:Sound Tryz.prog G1 51 UG:=sd (cf [(61,Bh),(49,Vw)] []) 51 Tryz.f51 ⟨FZ,aUl,ak⟩ trivial RO TL cU _ (fun _=>bF8 ..)
abbrev aKh:=Ah RO
abbrev aLP:=Ag RO TL
variable (p495:aKh)(f495:aLP)
abbrev MF:Aa:=[(false,.cx .f64)]
abbrev Nk:Aa:=[(true,Zj)]
def zE(p495:aKh)(f495:aLP)(a0:Ab (.cx .f64)):Option (DenS Nk):=bif(p495 (a0.1,()))then(bif(p495 (a0.2,()))then(some (((f495 (a0.1,())).1,(f495 (a0.2,()))),()))else none)else none
theorem bF9(x:DenS MF):run (cf [(51,⟨RO,TL,p495,f495⟩)] []) 9 47 Tryz.f47 MF Nk x=zE p495 f495 x.1:=by kernel_rfl
def o8(x:DenS MF):Option (DenS Nk):=zE UG.pre UG.F x.1
def Et:Sum:=Aj MF Nk o8 (DenS.dflt Nk)
theorem aVv:Sound Tryz.prog G1 47 Et:=sd (cf [(51,UG)] []) 47 Tryz.f47 ⟨aVu,ak⟩ trivial MF Nk o8 _ (fun _=>bF9 ..)
abbrev dU:=Ah MF
abbrev eO:=Ag MF Nk
variable (p496:dU)(f496:eO)
abbrev aFz:Aa:=[(true,Zj),(true,Zj)]
abbrev aTs:Aa:=[(true,Zj)]
abbrev aKi:=Ah aFz
abbrev aLQ:=Ag aFz aTs
variable (p497:aKi)(f497:aLQ)
abbrev MG:Aa:=[(false,.cx .f64),(false,.cx .f64)]
abbrev Nl:Aa:=[(false,.cx .f64)]
def aSt(a0 a1:Ab (.cx .f64)):Option (DenS Nl):=some (((Vx.Ca Go.BinOp.sub je (Vx.Ca oz je a0.1 a1.1) (Vx.Ca oz je a0.2 a1.2)),(Vx.Ca Go.BinOp.add je (Vx.Ca oz je a0.1 a1.2) (Vx.Ca oz je a0.2 a1.1))),())
theorem bGa(x:DenS MG):run (cf [] []) 9 50 Tryz.f50 MG Nl x=aSt x.1 x.2.1:=by kernel_rfl
def o9(x:DenS MG):Option (DenS Nl):=aSt x.1 x.2.1
def E6:Sum:=Aj MG Nl o9 (DenS.dflt Nl)
theorem aVw:Sound Tryz.prog G1 50 E6:=sd (cf [] []) 50 Tryz.f50 trivial trivial MG Nl o9 _ (fun _=>bGa ..)
abbrev dV:=Ah MG
abbrev eP:=Ag MG Nl
variable (p498:dV)(f498:eP)
abbrev aFA:Aa:=[(true,Zj),(true,Zj)]
abbrev aTt:Aa:=[(true,Zj)]
abbrev aKj:=Ah aFA
abbrev aLR:=Ag aFA aTt
variable (p499:aKj)(f499:aLR)
abbrev aFB:Aa:=[(true,Zj),(true,Zj)]
abbrev aTu:Aa:=[(true,Zj)]
abbrev aKk:=Ah aFB
abbrev aLS:=Ag aFB aTu
variable (p500:aKk)(f500:aLS)
abbrev aFC:Aa:=[(false,.flt .f64)]
abbrev aTv:Aa:=[(false,Zb)]
abbrev aXE:=Ah aFC
abbrev aX3:=Ag aFC aTv
variable (p501:aXE)(f501:aX3)
abbrev aFD:Aa:=[(true,Zj),(true,Zj)]
abbrev aTw:Aa:=[(false,.bool)]
abbrev aXF:=Ah aFD
abbrev aX4:=Ag aFD aTw
variable (p502:aXF)(f502:aX4)
abbrev aFE:Aa:=[(true,Zj),(true,Zj)]
abbrev aTx:Aa:=[(false,.bool)]
abbrev aXG:=Ah aFE
abbrev aX5:=Ag aFE aTx
variable (p503:aXG)(f503:aX5)
abbrev MH:Aa:=[(false,Za),(false,Zb)]
abbrev Nm:Aa:=[(false,Zb)]
def zF(p74:X1)(f74:Yb)(p75:dX)(f75:eR)(a0:Ab Za)(a1:Ab Zb):Option (DenS Nm):=bif(p74 (a0,a1,()))then(bif(f74 (a0,a1,())).1.1 then(bif(p75 (a0,()))then(some (f75 (a0,())))else none)else some (a1,()))else none
theorem bGb(x:DenS MH):run (cf [(33,⟨Ks,KV,p74,f74⟩),(86,⟨Kt,KW,p75,f75⟩)] []) 9 56 Tryz.f56 MH Nm x=zF p74 f74 p75 f75 x.1 x.2.1:=by kernel_rfl
def pC(x:DenS MH):Option (DenS Nm):=zF Eu.pre Eu.F Ew.pre Ew.F x.1 x.2.1
def DZ:Sum:=Aj MH Nm pC (DenS.dflt Nm)
theorem aVy:Sound Tryz.prog G1 56 DZ:=sd (cf [(33,Eu),(86,Ew)] []) 56 Tryz.f56 ⟨aAX,aAY,ak⟩ trivial MH Nm pC _ (fun _=>bGb ..)
abbrev rX:=Ah MH
abbrev sQ:=Ag MH Nm
variable (p504:rX)(f504:sQ)
abbrev In:Aa:=[(false,Za),(false,Za),(false,Zm),(true,Zj)]
abbrev IC:Aa:=[(true,Zj),(false,Za),(false,Za)]
abbrev Ji:Pat:=⟨79,[(7,.one (.ptr 0 0)),(2,.one (.sl Zj)),(14,.one (.v .i64)),(0,.one (.v .i64)),(13,.one (.ptr 3 0)),(12,.one (.ptr 2 0)),(8,.one (.ptr 1 0))],[.raw [.v .u64,.v .u64],.raw [.v .u64,.v .u64],.raw [.v .i64,.v .i64,.v .i64],.raw [.v .u64,.v .u64]]⟩
abbrev kK:List (Nat×Shape):=[]
abbrev OV:List (Nat×Pat):=[(0,⟨79,[(0,.one (.v .i64)),(13,.one (.ptr 3 0)),(12,.one (.ptr 2 0)),(8,.one (.ptr 1 0))],[.gone,.raw [.v .u64,.v .u64],.raw [.v .i64,.v .i64,.v .i64],.raw [.v .u64,.v .u64]]⟩)]
abbrev N4:Option Pat:=none
variable (w505_14:Pat.D Ji->Option (Ad OV N4))
def Y7(p73:O4)(f73:Pc)(p477:dS)(f477:eM)(p485:rW)(f485:sP)(p479:rV)(f479:sO)(p504:rX)(f504:sQ){R:Type}(L:Pat.D Ji->Option R)(e:Ad OV N4->Option R)(x:Pat.D Ji):Option R:=let e3_:=(f485 (x.2.2.2.1,x.2.2.2.2.1,x.2.1,()));let e1_:=(e3_.1,e3_.2.1,(x.1.2.1.getD (aq x.1.2.2.1) ((0:Int),(0:Int),())),());let e2_:=((),x.1.2.1,(al .i64 (x.1.2.2.1+(1:Int))),x.1.2.2.2.1,(),(),(),());bif(decide (x.1.2.2.1<(x.1.2.1.length:Int)))then(bif(x.1.2.2.1==(0:Int))then(bif(decide ((0:Int)<(x.1.2.1.length:Int)))then(((L (e2_,x.2.1,x.2.2.1,x.2.2.2.1,(x.1.2.1.getD (aq (0:Int)) ((0:Int),(0:Int),())),()))))else none)else bif(p485 (x.2.2.2.1,x.2.2.2.2.1,x.2.1,()))then(bif((decide ((0:Int)<=x.1.2.2.1))&&(decide (x.1.2.2.1<(x.1.2.1.length:Int))))then(bif(p479 e1_)then(((L (e2_,x.2.1,x.2.2.1,(f479 e1_)))))else none)else none)else none)else(e (.inl ((x.1.2.2.2.1,(),(),(),()),(),x.2.2)))
theorem bH0(d:Nat)(R:Type)(L:Pat.D Ji->Option R)(e:Ad OV N4->Option R)(x:Pat.D Ji):
  Bq ({cf [(55,⟨Hi,Hv,p73,f73⟩),(39,⟨MA,Nf,p477,f477⟩),(56,⟨MH,Nm,p504,f504⟩)] [(24,14,LoopSpec.of Ji kK OV N4 w505_14)]with lsums:=[(43,⟨Gv,MD,Ni,p485,f485⟩),(40,⟨Gu,MC,Nh,p479,f479⟩)] }) (d+2) 24 (Bp Tryz.f24 14) Ji kK OV N4 (R:=R) L e x=Y7 p73 f73 p477 f477 p485 f485 p479 f479 p504 f504 L e x:=by kernel_rfl
theorem aPA(p73:O4)(f73:Pc)(p477:dS)(f477:eM)(p485:rW)(f485:sP)(p479:rV)(f479:sO)(p504:rX)(f504:sQ):Bn fun L e x=>Y7 p73 f73 p477 f477 p485 f485 p479 f479 p504 f504 L e x:=by intro _ _ _ _ _ _ _ h0 hL he _;unfold Y7;repeat' (first|exact h0|exact hL _|exact he _|apply By|(apply Bz h0;intro _)|(apply BA<;>intro _))
def zG(p73:O4)(f73:Pc)(p477:dS)(f477:eM)(p485:rW)(f485:sP)(p479:rV)(f479:sO)(p504:rX)(f504:sQ)(w505_14:Pat.D Ji->Option (Ad OV N4))(a0 a1:Ab Za)(a2:Ab Zm)(a3:Ab Zj):Option (DenS IC):=
 let e1_:=(w505_14 (((),a2,(0:Int),a0,(),(),(),()),(a3.1,a3.2),((0:Int),(0:Int),()),(a0,a1,(0:Int),()),((0:Int),(0:Int),()),()))
 bif(p73 (a0,a1,()))then(bif((f73 (a0,a1,())).1 !=(0:Int))then(some (((0:Int),(0:Int),()),(0:Int),(f73 (a0,a1,()))))
 else bif(decide ((a2.length:Int)>(4096:Int)))then(some (((0:Int),(0:Int),()),(0:Int),(5:Int),()))
 else bif(p477 (a0,a1,a2,()))then(bif((f477 (a0,a1,a2,())).1==(0:Int))then(bif(p477 (a0,a1,((a3.1,a3.2)::[]),()))then(bif((f477 (a0,a1,((a3.1,a3.2)::[]),())).1 !=(0:Int))then(some (((0:Int),(0:Int),()),(0:Int),(f477 (a0,a1,((a3.1,a3.2)::[]),()))))
 else Vx.AQ e1_ fun y7=>
 Vx.AP y7 (fun y8=>
 bif(p504 (y8.1.1,y8.2.2.2.2.1.1,()))then(bif(p504 (y8.1.1,y8.2.2.2.2.1.2))then(some (((f504 (y8.1.1,y8.2.2.2.2.1.1,())).1,(f504 (y8.1.1,y8.2.2.2.2.1.2))),y8.2.2.2.1.2.2.1,(0:Int),()))
 else none)
 else none) (fun z8=>
 none))
 else none)
 else bif((f477 (a0,a1,a2,())).1 !=(0:Int))then(some (((0:Int),(0:Int),()),(0:Int),(f477 (a0,a1,a2,()))))
 else Vx.AQ e1_ fun y6=>
 Vx.AP y6 (fun y7=>
 bif(p504 (y7.1.1,y7.2.2.2.2.1.1,()))then(bif(p504 (y7.1.1,y7.2.2.2.2.1.2))then(some (((f504 (y7.1.1,y7.2.2.2.2.1.1,())).1,(f504 (y7.1.1,y7.2.2.2.2.1.2))),y7.2.2.2.1.2.2.1,(0:Int),()))
 else none)
 else none) (fun z7=>
 none))
 else none)
 else none
theorem bGc(x:DenS In):run ({cf [(55,⟨Hi,Hv,p73,f73⟩),(39,⟨MA,Nf,p477,f477⟩),(56,⟨MH,Nm,p504,f504⟩)] [(24,14,LoopSpec.of Ji kK OV N4 w505_14)]with lsums:=[(43,⟨Gv,MD,Ni,p485,f485⟩),(40,⟨Gu,MC,Nh,p479,f479⟩)] }) 9 24 Tryz.f24 In IC x=zG p73 f73 p477 f477 p485 f485 p479 f479 p504 f504 w505_14 x.1 x.2.1 x.2.2.1 x.2.2.2.1:=by kernel_rfl
def qX:Ji.D->Option (Ad OV N4):=Bi fun L=>Y7 Cc.pre Cc.F E2.pre E2.F E4.pre E4.F E3.pre E3.F DZ.pre DZ.F L some
def pD(x:DenS In):Option (DenS IC):=zG Cc.pre Cc.F E2.pre E2.F E4.pre E4.F E3.pre E3.F DZ.pre DZ.F qX x.1 x.2.1 x.2.2.1 x.2.2.2.1
def Co:Sum:=Aj In IC pD (DenS.dflt IC)
theorem aVz:Sound Tryz.prog G1 24 Co:=sd ({cf [(55,Cc),(39,E2),(56,DZ)] [(24,14,LoopSpec.of Ji kK OV N4 qX)]with lsums:=[(43,E4),(40,E3)] }) 24 Tryz.f24 ⟨aAW,aVk,aVy,ak⟩ ⟨rfl,fun d=>Bw (fun L e x=>Y7 Cc.pre Cc.F E2.pre E2.F E4.pre E4.F E3.pre E3.F DZ.pre DZ.F L e x) (aPA Cc.pre Cc.F E2.pre E2.F E4.pre E4.F E3.pre E3.F DZ.pre DZ.F) (fun _ _ _ _=>bH0 ..),ak⟩ In IC pD _ (fun _=>bGc ..) (hls:=⟨aVq,aVl,ak⟩)
abbrev O3:=Ah In
abbrev Pb:=Ag In IC
variable (p505:O3)(f505:Pb)
abbrev MI:Aa:=[(false,.box Zp),(false,Zb)]
abbrev Nn:Aa:=[(false,Zb)]
def zH(p65:D3)(f65:D4)(p70:DA)(f70:DB)(a0:Ab (.box Zp))(a1:Ab Zb):Option (DenS Nn):=bif(p65 (a0.1,a1,()))then(bif(decide ((f65 (a0.1,a1,())).1<=(1:Int)))then(bif(p70 (a0.1,()))then(some ((f70 (a0.1,())).1,()))else none)else some (a1,()))else none
theorem bGd(x:DenS MI):run (cf [(59,⟨DW,DX,p65,f65⟩),(61,⟨Du,Dv,p70,f70⟩)] []) 9 54 Tryz.f54 MI Nn x=zH p65 f65 p70 f70 x.1 x.2.1:=by kernel_rfl
def pE(x:DenS MI):Option (DenS Nn):=zH Bs.pre Bs.F Bh.pre Bh.F x.1 x.2.1
def D0:Sum:=Aj MI Nn pE (DenS.dflt Nn)
theorem aVA:Sound Tryz.prog G1 54 D0:=sd (cf [(59,Bs),(61,Bh)] []) 54 Tryz.f54 ⟨HH,FZ,ak⟩ trivial MI Nn pE _ (fun _=>bGd ..)
abbrev dW:=Ah MI
abbrev eQ:=Ag MI Nn
variable (p506:dW)(f506:eQ)
end Vx
end
