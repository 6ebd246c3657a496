/- Part 5 of the proof. What is proved: symbolic execution of the functions, proved sound; what each function of the program computes, and that every run ends with it; what these functions compute, in plain numbers. Conditions: each theorem bears its own. -/
import Derived.Test.YtkkidampbmfagaaGreatDoorVxG4
import Derived.IntWalk
set_option linter.all false
set_option exponentiation.threshold 1000000
noncomputable section
namespace Vx
open Go Go.Proofs
variable (p69:BL) (f69:BO) (p66:Ck) (f66:Cl) (p65:Ey) (f65:Eq) (p70:D9) (f70:D4) (p98:Ju) (f98:Iw) (p119:Xn) (f119:WY) (p155:Df) (f155:C8) (p123:Sm) (f123:RL) (p118:GT) (f118:GC) (p105:Tw) (f105:UO) (p173:A7) (f173:A5) (p102:Gw) (f102:GD) (p178:HO) (f178:In) (p92:IX) (f92:JJ) (p185:Tv) (f185:Ui) (p141:Vf) (f141:Ud) (p143:Px) (f143:NP) (p97:ON) (f97:MO) (p107:TC) (f107:VQ) (p122:Hj) (f122:H7) (p115:ZV) (f115:Wn) (p64:Tl) (f64:Vs) (p315:ET) (f315:EQ) (p316:TG) (f316:Ul) (p40:QU) (f40:Nv) (p144:II) (f144:JC) (p145:Vi) (f145:Vj) (p311:uT) (f311:uE) (p312:nB) (f312:nQ) (p313:n4) (f313:sY) (p314:wG) (f314:nK)
abbrev QV:Ab:=[(true,.pair (.int .u64) (.pair (.int .u64) (.unit)))]
abbrev Pp:Ab:=[(false,.int .u64),(false,.bool)]
abbrev Gn:Pat:=⟨28,[(6,.one (.v .i64)),(2,.one (.v .u64)),(1,.one (.ptr 0 0))],[.raw [.v .u64,.v .u64]]⟩
abbrev mE:List (Nat×Shape):=[]
abbrev Ko:List (Nat×Pat):=[(0,⟨28,[(2,.one (.v .u64)),(1,.one (.ptr 0 0))],[.raw [.v .u64,.v .u64]]⟩)]
abbrev LN:Option Pat:=none
variable (w317_2:Pat.D Gn->Option (Ah Ko LN))
def Vw (p123:Sm) (f123:RL) (p316:TG) (f316:Ul) {R:Type} (L:Pat.D Gn->Option R) (e:Ah Ko LN->Option R) (x:Pat.D Gn):Option R :=
 let e5_:=(IntKind.wrap .i64 ((63:Int)-x.1.1))
 let e4_:=(AX .u64 x.1.2.1 (AT .u64 (1:Int) e5_))
 let e1_:=((f316 (e4_,e4_,())).1,x.2)
 let e2_:=e4_
 let e3_:=(IntKind.wrap .i64 (x.1.1+(1:Int)))
 bif (decide (x.1.1<(64:Int))) then (bif (decide ((0:Int)<=e5_)) then (bif (p316 (e2_,e2_,())) then (bif (p123 e1_) then (bif (decide ((f123 e1_).1<=(0:Int))) then (((L ((e3_,e2_,(),()),x.2))))
 else (L ((e3_,x.1.2.1,(),()),x.2)))
 else none)
 else none)
 else none)
 else (e (.inl ((x.1.2.1,(),()),x.2)))
theorem aSK (d:Nat) (R:Type) (L:Pat.D Gn->Option R) (e:Ah Ko LN->Option R) (x:Pat.D Gn) :
  Bz (cf [(117,⟨GX,Hq,p123,f123⟩),(67,⟨IA,ID,p316,f316⟩)] [(137,2,LoopSpec.of Gn mE Ko LN w317_2)]) (d+2) 137 (Bw Tryz.f137 2) Gn mE Ko LN (R:=R) L e x=Vw p123 f123 p316 f316 L e x:=by kernel_rfl
theorem aFL (p123:Sm) (f123:RL) (p316:TG) (f316:Ul):Bu fun L e x=>Vw p123 f123 p316 f316 L e x:=by intro _ _ _ _ _ _ _ h0 hL he _; unfold Vw; repeat' (first | exact h0 | exact hL _ | exact he _ | apply B3 | (apply BY h0; intro _) | (apply BV <;> intro _))
def bY (p123:Sm) (f123:RL) (p316:TG) (f316:Ul) (w317_2:Pat.D Gn->Option (Ah Ko LN)) (a0:Aa (.pair (.int .u64) (.pair (.int .u64) (.unit)))):Option (DenS Pp) :=
 Vx.A3 (w317_2 (((0:Int),(0:Int),(),()),(a0.1,a0.2),())) fun y0 =>
 Vx.A6 y0 (fun y1 =>
 bif (p316 (y1.1.1,y1.1.1,())) then (some (y1.1.1,(((f316 (y1.1.1,y1.1.1,())).1.1==y1.2.1.1)&&((f316 (y1.1.1,y1.1.1,())).1.2.1==y1.2.1.2.1)),()))
 else none) (fun z1 =>
 none)
theorem aPb (x:DenS QV):run (cf [(117,⟨GX,Hq,p123,f123⟩),(67,⟨IA,ID,p316,f316⟩)] [(137,2,LoopSpec.of Gn mE Ko LN w317_2)]) 9 137 Tryz.f137 QV Pp x=bY p123 f123 p316 f316 w317_2 x.1:=by kernel_rfl
def Yc:Gn.D->Option (Ah Ko LN):=Bf fun L=>Vw Dz.pre Dz.F C2.pre C2.F L some
def Vl (x:DenS QV):Option (DenS Pp):=bY Dz.pre Dz.F C2.pre C2.F Yc x.1
def Qc:Sum:=Al QV Pp Vl (DenS.dflt Pp)
theorem aMR:Sound Tryz.prog G1 137 Qc:=sd (cf [(117,Dz),(67,C2)] [(137,2,LoopSpec.of Gn mE Ko LN Yc)]) 137 Tryz.f137 ⟨aCr,aHr,trivial⟩ ⟨rfl,fun d=>BT (fun L e x=>Vw Dz.pre Dz.F C2.pre C2.F L e x) (aFL Dz.pre Dz.F C2.pre C2.F) (fun _ _ _ _=>aSK ..),trivial⟩ QV Pp Vl _ (fun _=>aPb ..)
abbrev aGY:=Ak QV
abbrev aC0:=Aj QV Pp
variable (p317:aGY) (f317:aC0)
abbrev Pc:Ab:=[(false,.int .i64),(false,.int .i64),(false,.int .u64)]
abbrev Ow:Ab:=[(false,.int .u64),(false,.int .i64),(false,.int .i64)]
def i6 (p311:uT) (f311:uE) (p65:Ey) (f65:Eq) (p312:nB) (f312:nQ) (p313:n4) (f313:sY) (p314:wG) (f314:nK) (p119:Xn) (f119:WY) (p317:aGY) (f317:aC0) (p122:Hj) (f122:H7) (a0 a1:Aa (.int .i64)) (a2:Aa (.int .u64)):Option (DenS Ow) :=
 let e16_:=(a0,(f311 (a0,a1,(a2::[]),())).1,a2,())
 let e15_:=(f313 e16_)
 let e14_:=((0:Int),e15_.1,())
 let e13_:=(e14_,())
 let e12_:=(IntKind.wrap .i64 ((126:Int)-(f314 e13_).1))
 let e11_:=(IntKind.wrap .i64 (e12_+(1:Int)))
 let e8_:=(e14_,e11_,())
 let e7_:=(f317 (f119 e8_))
 let e1_:=(a0,a1,false,((0:Int),e7_.1,()),(BD .i64 (IntKind.wrap .i64 (e15_.2.1-e11_)) (2:Int)),(!e7_.2.1),())
 let e10_:=(e14_,e12_,())
 let e9_:=(f317 (f119 e10_))
 let e2_:=(a0,a1,false,((0:Int),e9_.1,()),(BD .i64 (IntKind.wrap .i64 (e15_.2.1-e12_)) (2:Int)),(!e9_.2.1),())
 let e3_:=e8_
 let e4_:=e10_
 let e5_:=e13_
 let e6_:=e16_
 bif (p311 (a0,a1,(a2::[]),())) then (bif ((f311 (a0,a1,(a2::[]),())).2.1 != (0:Int)) then (some ((0:Int),(0:Int),(f311 (a0,a1,(a2::[]),())).2))
 else bif (p65 (a0,a2,())) then (bif (p312 (a0,(f65 (a0,a2,())).1,())) then (bif (f312 (a0,(f65 (a0,a2,())).1,())).2.2.1 then (some ((f312 (a0,(f65 (a0,a2,())).1,())).1,(f312 (a0,(f65 (a0,a2,())).1,())).2.1,(0:Int),()))
 else bif ((((f65 (a0,a2,())).1==(9:Int))||((f65 (a0,a2,())).1==(6:Int)))||((f65 (a0,a2,())).1==(5:Int))) then (some (a2,(0:Int),(0:Int),()))
 else bif (p313 e6_) then (bif (p314 e5_) then (bif ((Int.tmod (IntKind.wrap .i64 ((f313 e6_).2.1-(IntKind.wrap .i64 ((126:Int)-(f314 e5_).1)))) (2:Int)) != (0:Int)) then (bif (p119 e3_) then (bif (p317 (f119 e3_)) then (bif (p122 e1_) then (some (f122 e1_))
 else none)
 else none)
 else none)
 else bif (p119 e4_) then (bif (p317 (f119 e4_)) then (bif (p122 e2_) then (some (f122 e2_))
 else none)
 else none)
 else none)
 else none)
 else none)
 else none)
 else none)
 else none
theorem aQb (x:DenS Pc):run (cf [(133,⟨OP,NT,p311,f311⟩),(55,⟨DL,DR,p65,f65⟩),(134,⟨O7,QS,p312,f312⟩),(135,⟨O0,Rb,p313,f313⟩),(136,⟨QP,OK,p314,f314⟩),(114,⟨HQ,Iz,p119,f119⟩),(137,⟨QV,Pp,p317,f317⟩),(66,⟨E1,Fv,p122,f122⟩)] []) 9 92 Tryz.f92 Pc Ow x=i6 p311 f311 p65 f65 p312 f312 p313 f313 p314 f314 p119 f119 p317 f317 p122 f122 x.1 x.2.1 x.2.2.1:=by kernel_rfl
def Ze (x:DenS Pc):Option (DenS Ow):=i6 Qu.pre Qu.F AE.pre AE.F Rk.pre Rk.F ND.pre ND.F Qm.pre Qm.F AG.pre AG.F Qc.pre Qc.F A4.pre A4.F x.1 x.2.1 x.2.2.1
def PE:Sum:=Al Pc Ow Ze (DenS.dflt Ow)
theorem aUS:Sound Tryz.prog G1 92 PE:=sd (cf [(133,Qu),(55,AE),(134,Rk),(135,ND),(136,Qm),(114,AG),(137,Qc),(66,A4)] []) 92 Tryz.f92 ⟨aJ0,Hn,aKP,aPy,aRI,aEj,aMR,UB,trivial⟩ trivial Pc Ow Ze _ (fun _=>aQb ..)
abbrev t9:=Ak Pc
abbrev v3:=Aj Pc Ow
variable (p318:t9) (f318:v3)
abbrev P8:Ab:=[(true,.pair (.int .i64) (.pair (.int .i64) (.pair (.int .u64) (.pair (.int .u64) (.pair (.int .u64) (.unit))))))]
abbrev QD:Ab:=[(false,.int .u64),(false,.int .i64),(false,.int .i64)]
def j1 (p318:t9) (f318:v3) (a0:Aa (.pair (.int .i64) (.pair (.int .i64) (.pair (.int .u64) (.pair (.int .u64) (.pair (.int .u64) (.unit))))))):Option (DenS QD) :=
 bif (p318 (a0.2.1,a0.1,a0.2.2.1,())) then (some (f318 (a0.2.1,a0.1,a0.2.2.1,())))
 else none
theorem aI4 (x:DenS P8):run (cf [(92,⟨Pc,Ow,p318,f318⟩)] []) 9 181 Tryz.f181 P8 QD x=j1 p318 f318 x.1:=by kernel_rfl
def Y3 (x:DenS P8):Option (DenS QD):=j1 PE.pre PE.F x.1
def Kb:Sum:=Al P8 QD Y3 (DenS.dflt QD)
theorem yK:Sound Tryz.prog G1 181 Kb:=sd (cf [(92,PE)] []) 181 Tryz.f181 ⟨aUS,trivial⟩ trivial P8 QD Y3 _ (fun _=>aI4 ..)
abbrev pZ:=Ak P8
abbrev oW:=Aj P8 QD
variable (p396:pZ) (f396:oW)
abbrev Qo:Ab:=[(false,.int .i64),(false,.int .i64),(false,.slice (.int .u64))]
abbrev Of:Ab:=[(false,.int .i64)]
abbrev Id:Pat:=⟨39,[(27,.one (.v .i64)),(26,.one (.sl (.int .u64))),(0,.one (.v .i64)),(28,.one (.v .i64))],[]⟩
abbrev lE:List (Nat×Shape):=[]
abbrev Lf:List (Nat×Pat):=[(0,⟨39,[],[]⟩)]
abbrev Lt:Option Pat:=(some ⟨39,[(6,.one (.v .i64))],[]⟩)
variable (w397_7:Pat.D Id->Option (Ah Lf Lt))
def Yx (p69:BL) (f69:BO) (p66:Ck) (f66:Cl) {R:Type} (L:Pat.D Id->Option R) (e:Ah Lf Lt->Option R) (x:Pat.D Id):Option R :=
 let e2_:=(x.1.2.2.1,(x.1.2.1.getD (Int.toNat x.1.2.2.2.1) (0:Int)),())
 let e1_:=(f66 e2_)
 bif (decide (x.1.2.2.2.1<x.1.1)) then (bif ((decide ((0:Int)<=x.1.2.2.2.1))&&(decide (x.1.2.2.2.1<(x.1.2.1.length:Int)))) then (bif (p66 e2_) then (bif (e1_.1 != (0:Int)) then (((e (.inr (e1_,())))))
 else (L ((x.1.1,x.1.2.1,x.1.2.2.1,(IntKind.wrap .i64 (x.1.2.2.2.1+(1:Int))),()),())))
 else none)
 else none)
 else (e (.inl ((),())))
theorem aQr (d:Nat) (R:Type) (L:Pat.D Id->Option R) (e:Ah Lf Lt->Option R) (x:Pat.D Id) :
  Bz (cf [(54,⟨Cm,Cn,p69,f69⟩),(59,⟨CJ,CN,p66,f66⟩)] [(138,7,LoopSpec.of Id lE Lf Lt w397_7)]) (d+2) 138 (Bw Tryz.f138 7) Id lE Lf Lt (R:=R) L e x=Yx p69 f69 p66 f66 L e x:=by kernel_rfl
theorem aL5 (p69:BL) (f69:BO) (p66:Ck) (f66:Cl):Bu fun L e x=>Yx p69 f69 p66 f66 L e x:=by intro _ _ _ _ _ _ _ h0 hL he _; unfold Yx; repeat' (first | exact h0 | exact hL _ | exact he _ | apply B3 | (apply BY h0; intro _) | (apply BV <;> intro _))
def aBK (p69:BL) (f69:BO) (p66:Ck) (f66:Cl) (w397_7:Pat.D Id->Option (Ah Lf Lt)) (a0 a1:Aa (.int .i64)) (a2:Aa (.slice (.int .u64))):Option (DenS Of) :=
 bif (p69 (a0,())) then (bif ((f69 (a0,())).2.1 != (0:Int)) then (some (f69 (a0,())).2)
 else bif ((decide (a1<(0:Int)))||(decide (a1>(5:Int)))) then (some ((3:Int),()))
 else Vx.A3 (w397_7 (((a2.length:Int),a2,a0,(0:Int),()),())) fun y3 =>
 Vx.A6 y3 (fun y4 =>
 some ((0:Int),())) (fun z4 =>
 some z4.1))
 else none
theorem aIX (x:DenS Qo):run (cf [(54,⟨Cm,Cn,p69,f69⟩),(59,⟨CJ,CN,p66,f66⟩)] [(138,7,LoopSpec.of Id lE Lf Lt w397_7)]) 9 138 Tryz.f138 Qo Of x=aBK p69 f69 p66 f66 w397_7 x.1 x.2.1 x.2.2.1:=by kernel_rfl
def aHw:Id.D->Option (Ah Lf Lt):=Bf fun L=>Yx Aq.pre Aq.F Ar.pre Ar.F L some
def UQ (x:DenS Qo):Option (DenS Of):=aBK Aq.pre Aq.F Ar.pre Ar.F aHw x.1 x.2.1 x.2.2.1
def RC:Sum:=Al Qo Of UQ (DenS.dflt Of)
theorem aRU:Sound Tryz.prog G1 138 RC:=sd (cf [(54,Aq),(59,Ar)] [(138,7,LoopSpec.of Id lE Lf Lt aHw)]) 138 Tryz.f138 ⟨Ep,F4,trivial⟩ ⟨rfl,fun d=>BT (fun L e x=>Yx Aq.pre Aq.F Ar.pre Ar.F L e x) (aL5 Aq.pre Aq.F Ar.pre Ar.F) (fun _ _ _ _=>aQr ..),trivial⟩ Qo Of UQ _ (fun _=>aIX ..)
abbrev aGo:=Ak Qo
abbrev aEc:=Aj Qo Of
variable (p397:aGo) (f397:aEc)
abbrev MA:Ab:=[(false,.int .i64),(false,.int .u64)]
abbrev LJ:Ab:=[(true,.pair (.bool) (.pair (.bool) (.pair (.bool) (.pair (.bool) (.pair (.bool) (.pair (.pair (.bool) (.pair (.slice (.int .u64)) (.pair (.int .i64) (.unit)))) (.unit)))))))]
def bN (p65:Ey) (f65:Eq) (p98:Ju) (f98:Iw) (p40:QU) (f40:Nv) (a0:Aa (.int .i64)) (a1:Aa (.int .u64)):Option (DenS LJ) :=
 let e1_:=(((f65 (a0,a1,())).1==(2:Int))||((f65 (a0,a1,())).1==(9:Int)))
 bif (p65 (a0,a1,())) then (bif (p98 (a0,a1,())) then (bif ((!(decide ((f65 (a0,a1,())).1<=(1:Int))))&&(!e1_)) then (bif (p40 (a0,a1,())) then (some (((decide ((f65 (a0,a1,())).1<=(1:Int))),((f65 (a0,a1,())).1==(0:Int)),false,e1_,(f98 (a0,a1,())).1,(f40 (a0,a1,())).1,()),()))
 else none)
 else some (((decide ((f65 (a0,a1,())).1<=(1:Int))),((f65 (a0,a1,())).1==(0:Int)),false,e1_,(f98 (a0,a1,())).1,(false,[],(0:Int),()),()),()))
 else none)
 else none
theorem aKp (x:DenS MA):run (cf [(55,⟨DL,DR,p65,f65⟩),(119,⟨Fe,Fk,p98,f98⟩),(71,⟨G8,GA,p40,f40⟩)] []) 9 141 Tryz.f141 MA LJ x=bN p65 f65 p98 f98 p40 f40 x.1 x.2.1:=by kernel_rfl
def XS (x:DenS MA):Option (DenS LJ):=bN AE.pre AE.F Bq.pre Bq.F CF.pre CF.F x.1 x.2.1
def EZ:Sum:=Al MA LJ XS (DenS.dflt LJ)
theorem aFC:Sound Tryz.prog G1 141 EZ:=sd (cf [(55,AE),(119,Bq),(71,CF)] []) 141 Tryz.f141 ⟨Hn,Sk,ZH,trivial⟩ trivial MA LJ XS _ (fun _=>aKp ..)
abbrev vQ:=Ak MA
abbrev v7:=Aj MA LJ
variable (p398:vQ) (f398:v7)
abbrev Lc:Ab:=[(true,.pair (.bool) (.pair (.slice (.int .u64)) (.pair (.int .i64) (.unit))))]
abbrev J0:Ab:=[(false,.int .i64)]
def lU (p102:Gw) (f102:GD) (a0:Aa (.pair (.bool) (.pair (.slice (.int .u64)) (.pair (.int .i64) (.unit))))):Option (DenS J0) :=
 bif (p102 (a0.2.1,())) then (bif (((f102 (a0.2.1,())).1.length:Int)==(0:Int)) then (some ((0:Int),()))
 else bif a0.1 then (some ((-(1:Int)),()))
 else some ((1:Int),()))
 else none
theorem r47 (x:DenS Lc):run (cf [(122,⟨Fi,Fl,p102,f102⟩)] []) 9 196 Tryz.f196 Lc J0 x=lU p102 f102 x.1:=by kernel_rfl
def TD (x:DenS Lc):Option (DenS J0):=lU Bh.pre Bh.F x.1
def DK:Sum:=Al Lc J0 TD (DenS.dflt J0)
theorem aEk:Sound Tryz.prog G1 196 DK:=sd (cf [(122,Bh)] []) 196 Tryz.f196 ⟨Y6,trivial⟩ trivial Lc J0 TD _ (fun _=>r47 ..)
abbrev oC:=Ak Lc
abbrev wD:=Aj Lc J0
variable (p47:oC) (f47:wD)
abbrev J3:Ab:=[(true,.pair (.bool) (.pair (.slice (.int .u64)) (.pair (.int .i64) (.unit))))]
abbrev KI:Ab:=[(false,.int .i64)]
def mL (a0:Aa (.pair (.bool) (.pair (.slice (.int .u64)) (.pair (.int .i64) (.unit))))):Option (DenS KI) :=
 bif (decide ((a0.2.1.length:Int)>(1024:Int))) then (some ((5:Int),()))
 else bif ((decide (a0.2.2.1<(-(40000:Int))))||(decide (a0.2.2.1>(40000:Int)))) then (some ((30:Int),()))
 else some ((0:Int),())
theorem aUB (x:DenS J3):run (cf [] []) 9 253 Tryz.f253 J3 KI x=mL x.1:=by kernel_rfl
def HW (x:DenS J3):Option (DenS KI):=mL x.1
def E3:Sum:=Al J3 KI HW (DenS.dflt KI)
theorem aDJ:Sound Tryz.prog G1 253 E3:=sd (cf [] []) 253 Tryz.f253 trivial trivial J3 KI HW _ (fun _=>aUB ..)
abbrev wC:=Ak J3
abbrev mU:=Aj J3 KI
variable (p103:wC) (f103:mU)
abbrev Mi:Ab:=[(true,.pair (.bool) (.pair (.slice (.int .u64)) (.pair (.int .i64) (.unit)))),(true,.pair (.bool) (.pair (.slice (.int .u64)) (.pair (.int .i64) (.unit))))]
abbrev Lb:Ab:=[(false,.int .i64)]
def T4 (p103:wC) (f103:mU) (a0 a1:Aa (.pair (.bool) (.pair (.slice (.int .u64)) (.pair (.int .i64) (.unit))))):Option (DenS Lb) :=
 bif (p103 ((a0.1,a0.2),())) then (bif ((f103 ((a0.1,a0.2),())).1 != (0:Int)) then (some (f103 ((a0.1,a0.2),())))
 else bif (p103 ((a1.1,a1.2),())) then (some (f103 ((a1.1,a1.2),())))
 else none)
 else none
theorem r99 (x:DenS Mi):run (cf [(253,⟨J3,KI,p103,f103⟩)] []) 9 260 Tryz.f260 Mi Lb x=T4 p103 f103 x.1 x.2.1:=by kernel_rfl
def Oz (x:DenS Mi):Option (DenS Lb):=T4 E3.pre E3.F x.1 x.2.1
def FT:Sum:=Al Mi Lb Oz (DenS.dflt Lb)
theorem aFm:Sound Tryz.prog G1 260 FT:=sd (cf [(253,E3)] []) 260 Tryz.f260 ⟨aDJ,trivial⟩ trivial Mi Lb Oz _ (fun _=>r99 ..)
abbrev oT:=Ak Mi
abbrev vF:=Aj Mi Lb
variable (p99:oT) (f99:vF)
abbrev Hf:Ab:=[(true,.pair (.bool) (.pair (.slice (.int .u64)) (.pair (.int .i64) (.unit))))]
abbrev HZ:Ab:=[(true,.pair (.bool) (.pair (.slice (.int .u64)) (.pair (.int .i64) (.unit))))]
abbrev GN:Pat:=⟨42,[(4,.one (.v .i64)),(3,.one (.sl (.int .u64))),(1,.one (.ptr 0 0)),(2,.one (.ptr 1 0))],[.raw [.bool,.sl (.int .u64),.v .i64],.raw [.bool,.sl (.int .u64),.v .i64]]⟩
abbrev dM:List (Nat×Shape):=[]
abbrev KV:List (Nat×Pat):=[(0,⟨42,[(4,.one (.v .i64)),(3,.one (.sl (.int .u64))),(1,.one (.ptr 0 0)),(2,.one (.ptr 1 0))],[.raw [.bool,.sl (.int .u64),.v .i64],.raw [.bool,.sl (.int .u64),.v .i64]]⟩)]
abbrev K4:Option Pat:=none
variable (w100_5:Pat.D GN->Option (Ah KV K4))
def VU (p102:Gw) (f102:GD) (p92:IX) (f92:JJ) (p141:Vf) (f141:Ud) {R:Type} (L:Pat.D GN->Option R) (e:Ah KV K4->Option R) (x:Pat.D GN):Option R :=
 bif ((decide ((0:Int)<=(BD .i64 x.1.1 (64:Int))))&&(decide ((BD .i64 x.1.1 (64:Int))<(x.1.2.1.length:Int)))) then (bif ((x.1.2.1.getD (Int.toNat (BD .i64 x.1.1 (64:Int))) (0:Int))==(0:Int)) then (((L (((IntKind.wrap .i64 (x.1.1+(64:Int))),x.1.2.1,(),(),()),x.2))))
 else (e (.inl ((x.1.1,x.1.2.1,(),(),()),x.2))))
 else none
theorem aUX (d:Nat) (R:Type) (L:Pat.D GN->Option R) (e:Ah KV K4->Option R) (x:Pat.D GN) :
  Bz (cf [(122,⟨Fi,Fl,p102,f102⟩),(127,⟨Gp,G5,p92,f92⟩),(247,⟨Jz,I6,p141,f141⟩)] [(262,5,LoopSpec.of GN dM KV K4 w100_5)]) (d+2) 262 (Bw Tryz.f262 5) GN dM KV K4 (R:=R) L e x=VU p102 f102 p92 f92 p141 f141 L e x:=by kernel_rfl
theorem aHJ (p102:Gw) (f102:GD) (p92:IX) (f92:JJ) (p141:Vf) (f141:Ud):Bu fun L e x=>VU p102 f102 p92 f92 p141 f141 L e x:=by intro _ _ _ _ _ _ _ h0 hL he _; unfold VU; repeat' (first | exact h0 | exact hL _ | exact he _ | apply B3 | (apply BY h0; intro _) | (apply BV <;> intro _))
def dS (p102:Gw) (f102:GD) (p92:IX) (f92:JJ) (p141:Vf) (f141:Ud) (w100_5:Pat.D GN->Option (Ah KV K4)) (a0:Aa (.pair (.bool) (.pair (.slice (.int .u64)) (.pair (.int .i64) (.unit))))):Option (DenS HZ) :=
 bif (p102 (a0.2.1,())) then (bif (((f102 (a0.2.1,())).1.length:Int)==(0:Int)) then (some ((false,[],(0:Int),()),()))
 else Vx.A3 (w100_5 (((0:Int),(f102 (a0.2.1,())).1,(),(),()),(a0.1,a0.2),(false,[],(0:Int),()),())) fun y2 =>
 Vx.A6 y2 (fun y3 =>
 bif ((decide ((0:Int)<=(BD .i64 y3.1.1 (64:Int))))&&(decide ((BD .i64 y3.1.1 (64:Int))<(y3.1.2.1.length:Int)))) then (bif (p92 ((y3.1.2.1.getD (Int.toNat (BD .i64 y3.1.1 (64:Int))) (0:Int)),())) then (bif (p141 (y3.1.2.1,(IntKind.wrap .i64 (y3.1.1+(f92 ((y3.1.2.1.getD (Int.toNat (BD .i64 y3.1.1 (64:Int))) (0:Int)),())).1)),())) then (some ((y3.2.1.1,(f141 (y3.1.2.1,(IntKind.wrap .i64 (y3.1.1+(f92 ((y3.1.2.1.getD (Int.toNat (BD .i64 y3.1.1 (64:Int))) (0:Int)),())).1)),())).1,(IntKind.wrap .i64 (y3.2.1.2.2.1+(IntKind.wrap .i64 (y3.1.1+(f92 ((y3.1.2.1.getD (Int.toNat (BD .i64 y3.1.1 (64:Int))) (0:Int)),())).1)))),()),()))
 else none)
 else none)
 else none) (fun z3 =>
 none))
 else none
theorem aNy (x:DenS Hf):run (cf [(122,⟨Fi,Fl,p102,f102⟩),(127,⟨Gp,G5,p92,f92⟩),(247,⟨Jz,I6,p141,f141⟩)] [(262,5,LoopSpec.of GN dM KV K4 w100_5)]) 9 262 Tryz.f262 Hf HZ x=dS p102 f102 p92 f92 p141 f141 w100_5 x.1:=by kernel_rfl
def ZN:GN.D->Option (Ah KV K4):=Bf fun L=>VU Bh.pre Bh.F BK.pre BK.F DT.pre DT.F L some
def E2 (x:DenS Hf):Option (DenS HZ):=dS Bh.pre Bh.F BK.pre BK.F DT.pre DT.F ZN x.1
def CK:Sum:=Al Hf HZ E2 (DenS.dflt HZ)
theorem mC:Sound Tryz.prog G1 262 CK:=sd (cf [(122,Bh),(127,BK),(247,DT)] [(262,5,LoopSpec.of GN dM KV K4 ZN)]) 262 Tryz.f262 ⟨Y6,tM,aBW,trivial⟩ ⟨rfl,fun d=>BT (fun L e x=>VU Bh.pre Bh.F BK.pre BK.F DT.pre DT.F L e x) (aHJ Bh.pre Bh.F BK.pre BK.F DT.pre DT.F) (fun _ _ _ _=>aUX ..),trivial⟩ Hf HZ E2 _ (fun _=>aNy ..)
abbrev X5:=Ak Hf
abbrev XX:=Aj Hf HZ
variable (p100:X5) (f100:XX)
abbrev Pz:Ab:=[(false,.slice (.int .u64)),(false,.slice (.int .u64))]
abbrev O4:Ab:=[(false,.slice (.int .u64))]
abbrev Ff:Pat:=⟨84,[(25,.one (.v .i64)),(24,.one (.sl (.int .u64))),(1,.one (.sl (.int .u64))),(26,.one (.v .i64)),(5,.one (.own 0))],[.arr (.int .u64)]⟩
abbrev ZI:List (Nat×Shape):=[]
abbrev IL:List (Nat×Pat):=[(0,⟨84,[(5,.one (.own 0))],[.arr (.int .u64)]⟩)]
abbrev Jv:Option Pat:=none
abbrev FA:Pat:=⟨84,[(32,.one (.v .i64)),(31,.one (.sl (.int .u64))),(7,.one (.v .u64)),(33,.one (.v .i64)),(6,.one (.v .i64)),(8,.one (.v .u64)),(26,.one (.v .i64)),(25,.one (.v .i64)),(24,.one (.sl (.int .u64))),(1,.one (.sl (.int .u64))),(5,.one (.own 0))],[.arr (.int .u64)]⟩
abbrev WF:List (Nat×Shape):=[]
abbrev GJ:List (Nat×Pat):=[(2,⟨84,[(6,.one (.v .i64)),(8,.one (.v .u64)),(26,.one (.v .i64)),(25,.one (.v .i64)),(24,.one (.sl (.int .u64))),(1,.one (.sl (.int .u64))),(5,.one (.own 0))],[.arr (.int .u64)]⟩)]
abbrev Gz:Option Pat:=none
variable (w324_4:Pat.D Ff->Option (Ah IL Jv)) (w324_8:Pat.D FA->Option (Ah GJ Gz))
def UN (p315:ET) (f315:EQ) (p155:Df) (f155:C8) (p173:A7) (f173:A5) {R:Type} (L:Pat.D FA->Option R) (e:Ah GJ Gz->Option R) (x:Pat.D FA):Option R :=
 let e10_:=(x.1.2.2.1,(x.1.2.1.getD (Int.toNat x.1.2.2.2.1) (0:Int)),())
 let e8_:=(f315 e10_)
 let e11_:=(IntKind.wrap .i64 (x.1.2.2.2.2.1+x.1.2.2.2.1))
 let e9_:=(Int.toNat e11_)
 let e7_:=(f155 (e8_.2.1,(x.2.1.getD e9_ (0:Int)),(0:Int),()))
 let e1_:=(f155 (e7_.1,x.1.2.2.2.2.2.1,(0:Int),()))
 let e2_:=e7_
 let e3_:=((decide ((0:Int)<=e11_))&&(decide (e11_<(x.2.1.length:Int))))
 let e4_:=(x.1.2.2.2.2.2.2.1,x.1.2.2.2.2.2.2.2.1,x.1.2.2.2.2.2.2.2.2.1,x.1.2.2.2.2.2.2.2.2.2.1,(),())
 let e5_:=e8_
 let e6_:=e9_
 bif (decide (x.1.2.2.2.1<x.1.1)) then (bif ((decide ((0:Int)<=x.1.2.2.2.1))&&(decide (x.1.2.2.2.1<(x.1.2.1.length:Int)))) then (bif (p315 e10_) then (bif e3_ then (bif (p155 (e5_.2.1,(x.2.1.getD e6_ (0:Int)),(0:Int),())) then (bif (p155 (e2_.1,x.1.2.2.2.2.2.1,(0:Int),())) then (bif e3_ then (((L ((x.1.1,x.1.2.1,x.1.2.2.1,(IntKind.wrap .i64 (x.1.2.2.2.1+(1:Int))),x.1.2.2.2.2.1,(IntKind.wrap .u64 ((IntKind.wrap .u64 (e5_.1+e2_.2.1))+e1_.2.1)),e4_),(x.2.1.set e6_ e1_.1),()))))
 else none)
 else none)
 else none)
 else none)
 else none)
 else none)
 else (e (.inl ((x.1.2.2.2.2.1,x.1.2.2.2.2.2.1,e4_),x.2)))
theorem aRx (d:Nat) (R:Type) (L:Pat.D FA->Option R) (e:Ah GJ Gz->Option R) (x:Pat.D FA) :
  Bz (cf [(126,⟨EM,EK,p315,f315⟩),(165,⟨E5,Fy,p155,f155⟩),(169,⟨Bt,Bs,p173,f173⟩)] [(307,4,LoopSpec.of Ff ZI IL Jv w324_4),(307,8,LoopSpec.of FA WF GJ Gz w324_8)]) (d+2) 307 (Bw Tryz.f307 8) FA WF GJ Gz (R:=R) L e x=UN p315 f315 p155 f155 p173 f173 L e x:=by kernel_rfl
theorem aAR (p315:ET) (f315:EQ) (p155:Df) (f155:C8) (p173:A7) (f173:A5):Bu fun L e x=>UN p315 f315 p155 f155 p173 f173 L e x:=by intro _ _ _ _ _ _ _ h0 hL he _; unfold UN; repeat' (first | exact h0 | exact hL _ | exact he _ | apply B3 | (apply BY h0; intro _) | (apply BV <;> intro _))
def Ux (p315:ET) (f315:EQ) (p155:Df) (f155:C8) (p173:A7) (f173:A5) (w324_8:Pat.D FA->Option (Ah GJ Gz)) {R:Type} (L:Pat.D Ff->Option R) (e:Ah IL Jv->Option R) (x:Pat.D Ff):Option R :=
 bif (decide (x.1.2.2.2.1<x.1.1)) then (bif ((decide ((0:Int)<=x.1.2.2.2.1))&&(decide (x.1.2.2.2.1<(x.1.2.1.length:Int)))) then (Vx.A3 (w324_8 (((x.1.2.2.1.length:Int),x.1.2.2.1,(x.1.2.1.getD (Int.toNat x.1.2.2.2.1) (0:Int)),(0:Int),x.1.2.2.2.1,(0:Int),x.1.2.2.2.1,x.1.1,x.1.2.1,x.1.2.2.1,(),()),x.2)) fun y2 =>
 Vx.A6 y2 (fun y3 =>
 bif ((decide ((0:Int)<=(IntKind.wrap .i64 (y3.1.1+(y3.1.2.2.2.2.2.1.length:Int)))))&&(decide ((IntKind.wrap .i64 (y3.1.1+(y3.1.2.2.2.2.2.1.length:Int)))<(y3.2.1.length:Int)))) then (((L ((y3.1.2.2.2.1,y3.1.2.2.2.2.1,y3.1.2.2.2.2.2.1,(IntKind.wrap .i64 (y3.1.2.2.1+(1:Int))),(),()),(y3.2.1.set (Int.toNat (IntKind.wrap .i64 (y3.1.1+(y3.1.2.2.2.2.2.1.length:Int)))) y3.1.2.1),()))))
 else none) (fun z3 =>
 none))
 else none)
 else (e (.inl (((),()),x.2)))
theorem aUm (d:Nat) (R:Type) (L:Pat.D Ff->Option R) (e:Ah IL Jv->Option R) (x:Pat.D Ff) :
  Bz (cf [(126,⟨EM,EK,p315,f315⟩),(165,⟨E5,Fy,p155,f155⟩),(169,⟨Bt,Bs,p173,f173⟩)] [(307,4,LoopSpec.of Ff ZI IL Jv w324_4),(307,8,LoopSpec.of FA WF GJ Gz w324_8)]) (d+2) 307 (Bw Tryz.f307 4) Ff ZI IL Jv (R:=R) L e x=Ux p315 f315 p155 f155 p173 f173 w324_8 L e x:=by kernel_rfl
theorem aBa (p315:ET) (f315:EQ) (p155:Df) (f155:C8) (p173:A7) (f173:A5) (w324_8:Pat.D FA->Option (Ah GJ Gz)):Bu fun L e x=>Ux p315 f315 p155 f155 p173 f173 w324_8 L e x:=by intro _ _ _ _ _ _ _ h0 hL he _; unfold Ux; repeat' (first | exact h0 | exact hL _ | exact he _ | apply B3 | (apply BY h0; intro _) | (apply BV <;> intro _))
def cA (p315:ET) (f315:EQ) (p155:Df) (f155:C8) (p173:A7) (f173:A5) (w324_4:Pat.D Ff->Option (Ah IL Jv)) (w324_8:Pat.D FA->Option (Ah GJ Gz)) (a0 a1:Aa (.slice (.int .u64))):Option (DenS O4) :=
 let e1_:=(IntKind.wrap .i64 (((f173 (a0,())).1.length:Int)+((f173 (a1,())).1.length:Int)))
 bif (p173 (a0,())) then (bif (p173 (a1,())) then (bif ((decide ((0:Int)<=e1_))&&(decide ((e1_*(8:Int))<=(140737488355328:Int)))) then (Vx.A3 (w324_4 ((((f173 (a0,())).1.length:Int),(f173 (a0,())).1,(f173 (a1,())).1,(0:Int),(),()),(List.replicate (Int.toNat e1_) (0:Int)),())) fun y3 =>
 Vx.A6 y3 (fun y4 =>
 bif (p173 y4.2) then (some (f173 y4.2))
 else none) (fun z4 =>
 none))
 else none)
 else none)
 else none
theorem aPF (x:DenS Pz):run (cf [(126,⟨EM,EK,p315,f315⟩),(165,⟨E5,Fy,p155,f155⟩),(169,⟨Bt,Bs,p173,f173⟩)] [(307,4,LoopSpec.of Ff ZI IL Jv w324_4),(307,8,LoopSpec.of FA WF GJ Gz w324_8)]) 9 307 Tryz.f307 Pz O4 x=cA p315 f315 p155 f155 p173 f173 w324_4 w324_8 x.1 x.2.1:=by kernel_rfl
def OV:FA.D->Option (Ah GJ Gz):=Bf fun L=>UN AP.pre AP.F Ay.pre Ay.F Ag.pre Ag.F L some
def X9:Ff.D->Option (Ah IL Jv):=Bf fun L=>Ux AP.pre AP.F Ay.pre Ay.F Ag.pre Ag.F OV L some
def YA (x:DenS Pz):Option (DenS O4):=cA AP.pre AP.F Ay.pre Ay.F Ag.pre Ag.F X9 OV x.1 x.2.1
def M9:Sum:=Al Pz O4 YA (DenS.dflt O4)
theorem aQZ:Sound Tryz.prog G1 307 M9:=sd (cf [(126,AP),(165,Ay),(169,Ag)] [(307,4,LoopSpec.of Ff ZI IL Jv X9),(307,8,LoopSpec.of FA WF GJ Gz OV)]) 307 Tryz.f307 ⟨iD,UK,Ek,trivial⟩ ⟨rfl,fun d=>BT (fun L e x=>Ux AP.pre AP.F Ay.pre Ay.F Ag.pre Ag.F OV L e x) (aBa AP.pre AP.F Ay.pre Ay.F Ag.pre Ag.F OV) (fun _ _ _ _=>aUm ..),⟨rfl,fun d=>BT (fun L e x=>UN AP.pre AP.F Ay.pre Ay.F Ag.pre Ag.F L e x) (aAR AP.pre AP.F Ay.pre Ay.F Ag.pre Ag.F) (fun _ _ _ _=>aRx ..),trivial⟩⟩ Pz O4 YA _ (fun _=>aPF ..)
abbrev aHS:=Ak Pz
abbrev aAD:=Aj Pz O4
variable (p324:aHS) (f324:aAD)
abbrev N3:Ab:=[(false,.slice (.int .u64)),(false,.slice (.int .u64))]
abbrev QF:Ab:=[(false,.slice (.int .u64)),(false,.int .i64)]
def Z5 (p324:aHS) (f324:aAD) (p185:Tv) (f185:Ui) (a0 a1:Aa (.slice (.int .u64))):Option (DenS QF) :=
 bif (p185 ((a0::(a1::[])),())) then (bif (f185 ((a0::(a1::[])),())).1 then (some ([],(5:Int),()))
 else bif (p324 (a0,a1,())) then (bif (p185 (((f324 (a0,a1,())).1::[]),())) then (bif (f185 (((f324 (a0,a1,())).1::[]),())).1 then (some ([],(5:Int),()))
 else some ((f324 (a0,a1,())).1,(0:Int),()))
 else none)
 else none)
 else none
theorem aNP (x:DenS N3):run (cf [(307,⟨Pz,O4,p324,f324⟩),(249,⟨IB,IQ,p185,f185⟩)] []) 9 263 Tryz.f263 N3 QF x=Z5 p324 f324 p185 f185 x.1 x.2.1:=by kernel_rfl
def Uo (x:DenS N3):Option (DenS QF):=Z5 M9.pre M9.F D6.pre D6.F x.1 x.2.1
def NG:Sum:=Al N3 QF Uo (DenS.dflt QF)
theorem aTU:Sound Tryz.prog G1 263 NG:=sd (cf [(307,M9),(249,D6)] []) 263 Tryz.f263 ⟨aQZ,uA,trivial⟩ trivial N3 QF Uo _ (fun _=>aNP ..)
abbrev yX:=Ak N3
abbrev aCf:=Aj N3 QF
variable (p325:yX) (f325:aCf)
abbrev JO:Ab:=[(true,.pair (.bool) (.pair (.slice (.int .u64)) (.pair (.int .i64) (.unit))))]
abbrev IJ:Ab:=[(true,.pair (.bool) (.pair (.slice (.int .u64)) (.pair (.int .i64) (.unit)))),(false,.int .i64)]
def eE (p100:X5) (f100:XX) (a0:Aa (.pair (.bool) (.pair (.slice (.int .u64)) (.pair (.int .i64) (.unit))))):Option (DenS IJ) :=
 bif (p100 ((a0.1,a0.2),())) then (bif (decide (((f100 ((a0.1,a0.2),())).1.2.1.length:Int)>(1024:Int))) then (some ((false,[],(0:Int),()),(5:Int),()))
 else bif ((decide ((f100 ((a0.1,a0.2),())).1.2.2.1<(-(40000:Int))))||(decide ((f100 ((a0.1,a0.2),())).1.2.2.1>(40000:Int)))) then (some ((false,[],(0:Int),()),(30:Int),()))
 else some ((f100 ((a0.1,a0.2),())).1,(0:Int),()))
 else none
theorem aIv (x:DenS JO):run (cf [(262,⟨Hf,HZ,p100,f100⟩)] []) 9 254 Tryz.f254 JO IJ x=eE p100 f100 x.1:=by kernel_rfl
def Pf (x:DenS JO):Option (DenS IJ):=eE CK.pre CK.F x.1
def D3:Sum:=Al JO IJ Pf (DenS.dflt IJ)
theorem mP:Sound Tryz.prog G1 254 D3:=sd (cf [(262,CK)] []) 254 Tryz.f254 ⟨mC,trivial⟩ trivial JO IJ Pf _ (fun _=>aIv ..)
abbrev gA:=Ak JO
abbrev bS:=Aj JO IJ
variable (p104:gA) (f104:bS)
abbrev Pj:Ab:=[(true,.pair (.bool) (.pair (.slice (.int .u64)) (.pair (.int .i64) (.unit)))),(true,.pair (.bool) (.pair (.slice (.int .u64)) (.pair (.int .i64) (.unit))))]
abbrev M0:Ab:=[(true,.pair (.bool) (.pair (.slice (.int .u64)) (.pair (.int .i64) (.unit)))),(false,.int .i64)]
def lW (p99:oT) (f99:vF) (p100:X5) (f100:XX) (p325:yX) (f325:aCf) (p104:gA) (f104:bS) (a0 a1:Aa (.pair (.bool) (.pair (.slice (.int .u64)) (.pair (.int .i64) (.unit))))):Option (DenS M0) :=
 let e4_:=((f100 ((a0.1,a0.2),())).1.2.1,(f100 ((a1.1,a1.2),())).1.2.1,())
 let e3_:=(f325 e4_)
 let e1_:=(((!((f100 ((a0.1,a0.2),())).1.1==(f100 ((a1.1,a1.2),())).1.1)),e3_.1,(IntKind.wrap .i64 ((f100 ((a0.1,a0.2),())).1.2.2.1+(f100 ((a1.1,a1.2),())).1.2.2.1)),()),())
 let e2_:=e3_
 bif (p99 ((a0.1,a0.2),(a1.1,a1.2),())) then (bif ((f99 ((a0.1,a0.2),(a1.1,a1.2),())).1 != (0:Int)) then (some ((false,[],(0:Int),()),(f99 ((a0.1,a0.2),(a1.1,a1.2),()))))
 else bif (p100 ((a0.1,a0.2),())) then (bif (p100 ((a1.1,a1.2),())) then (bif (p325 e4_) then (bif (e2_.2.1 != (0:Int)) then (some ((false,[],(0:Int),()),e2_.2))
 else bif (p104 e1_) then (some (f104 e1_))
 else none)
 else none)
 else none)
 else none)
 else none
theorem aTH (x:DenS Pj):run (cf [(260,⟨Mi,Lb,p99,f99⟩),(262,⟨Hf,HZ,p100,f100⟩),(263,⟨N3,QF,p325,f325⟩),(254,⟨JO,IJ,p104,f104⟩)] []) 9 197 Tryz.f197 Pj M0 x=lW p99 f99 p100 f100 p325 f325 p104 f104 x.1 x.2.1:=by kernel_rfl
def S8 (x:DenS Pj):Option (DenS M0):=lW FT.pre FT.F CK.pre CK.F NG.pre NG.F D3.pre D3.F x.1 x.2.1
def Jm:Sum:=Al Pj M0 S8 (DenS.dflt M0)
theorem aUf:Sound Tryz.prog G1 197 Jm:=sd (cf [(260,FT),(262,CK),(263,NG),(254,D3)] []) 197 Tryz.f197 ⟨aFm,mC,aTU,mP,trivial⟩ trivial Pj M0 S8 _ (fun _=>aTH ..)
abbrev aGh:=Ak Pj
abbrev aF7:=Aj Pj M0
variable (p360:aGh) (f360:aF7)
abbrev Rh:Ab:=[(false,.int .i64),(false,.int .u64),(false,.int .u64)]
abbrev Rr:Ab:=[(true,.pair (.bool) (.pair (.bool) (.pair (.bool) (.pair (.bool) (.pair (.bool) (.pair (.pair (.bool) (.pair (.slice (.int .u64)) (.pair (.int .i64) (.unit)))) (.unit)))))))]
def UM (p398:vQ) (f398:v7) (p47:oC) (f47:wD) (p360:aGh) (f360:aF7) (a0:Aa (.int .i64)) (a1 a2:Aa (.int .u64)):Option (DenS Rr) :=
 let e7_:=(((f398 (a0,a1,())).1.2.2.2.1&&(!(f398 (a0,a2,())).1.2.2.2.1))&&((f47 (f398 (a0,a2,())).1.2.2.2.2.2).1==(0:Int)))
 let e1_:=(e7_||(((f398 (a0,a2,())).1.2.2.2.1&&(!(f398 (a0,a1,())).1.2.2.2.1))&&((f47 (f398 (a0,a1,())).1.2.2.2.2.2).1==(0:Int))))
 let e8_:=(!((f398 (a0,a1,())).1.2.2.2.2.1==(f398 (a0,a2,())).1.2.2.2.2.1))
 let e2_:=(e8_,(false,[],(0:Int),()),())
 let e3_:=((f398 (a0,a1,())).1.2.2.2.2.2.1,(f398 (a0,a2,())).1.2.2.2.2.2)
 let e4_:=((f398 (a0,a1,())).1.2.2.2.1||(f398 (a0,a2,())).1.2.2.2.1)
 let e5_:=((f398 (a0,a1,())).1.2.1||(f398 (a0,a2,())).1.2.1)
 let e6_:=((f398 (a0,a1,())).1.1||(f398 (a0,a2,())).1.1)
 bif (p398 (a0,a1,())) then (bif (p398 (a0,a2,())) then (bif e6_ then (some ((e6_,e5_,false,false,e2_),()))
 else bif ((p47 (f398 (a0,a2,())).1.2.2.2.2.2)||(!(bif (f398 (a0,a1,())).1.2.2.2.1 then (!(f398 (a0,a2,())).1.2.2.2.1) else false))) then (bif ((p47 (f398 (a0,a1,())).1.2.2.2.2.2)||(!((bif e7_ then false else true)&&(bif (f398 (a0,a2,())).1.2.2.2.1 then (!(f398 (a0,a1,())).1.2.2.2.1) else false)))) then (bif (!e4_) then (bif (p360 e3_) then (some ((e6_,e5_,e1_,e4_,e8_,(f360 e3_).1,()),()))
 else none)
 else some ((e6_,e5_,e1_,e4_,e2_),()))
 else none)
 else none)
 else none)
 else none
theorem aJl (x:DenS Rh):run (cf [(141,⟨MA,LJ,p398,f398⟩),(196,⟨Lc,J0,p47,f47⟩),(197,⟨Pj,M0,p360,f360⟩)] []) 9 140 Tryz.f140 Rh Rr x=UM p398 f398 p47 f47 p360 f360 x.1 x.2.1 x.2.2.1:=by kernel_rfl
def U7 (x:DenS Rh):Option (DenS Rr):=UM EZ.pre EZ.F DK.pre DK.F Jm.pre Jm.F x.1 x.2.1 x.2.2.1
def RA:Sum:=Al Rh Rr U7 (DenS.dflt Rr)
theorem aLQ:Sound Tryz.prog G1 140 RA:=sd (cf [(141,EZ),(196,DK),(197,Jm)] []) 140 Tryz.f140 ⟨aFC,aEk,aUf,trivial⟩ trivial Rh Rr U7 _ (fun _=>aJl ..)
abbrev aHy:=Ak Rh
abbrev aDK:=Aj Rh Rr
variable (p399:aHy) (f399:aDK)
abbrev P2:Ab:=[(false,.slice (.int .u64)),(false,.int .i64)]
abbrev OW:Ab:=[(false,.slice (.int .u64))]
abbrev Hd:Pat:=⟨57,[(25,.one (.v .i64)),(24,.one (.sl (.int .u64))),(5,.one (.v .i64)),(6,.one (.v .u64)),(26,.one (.v .i64)),(7,.one (.own 0))],[.arr (.int .u64)]⟩
abbrev bC:List (Nat×Shape):=[]
abbrev Kr:List (Nat×Pat):=[(0,⟨57,[(7,.one (.own 0))],[.arr (.int .u64)]⟩)]
abbrev J9:Option Pat:=none
variable (w172_6:Pat.D Hd->Option (Ah Kr J9))
def TZ (p102:Gw) (f102:GD) {R:Type} (L:Pat.D Hd->Option R) (e:Ah Kr J9->Option R) (x:Pat.D Hd):Option R :=
 let e6_:=(IntKind.wrap .i64 (x.1.2.2.1+x.1.2.2.2.2.1))
 let e5_:=(Int.toNat e6_)
 let e7_:=(x.1.2.1.getD (Int.toNat x.1.2.2.2.2.1) (0:Int))
 let e1_:=(x.2.1.set e5_ (AX .u64 (x.2.1.getD e5_ (0:Int)) (AT .u64 e7_ x.1.2.2.2.1)))
 let e2_:=((decide ((0:Int)<=e6_))&&(decide (e6_<(x.2.1.length:Int))))
 let e3_:=(x.1.1,x.1.2.1,x.1.2.2.1,x.1.2.2.2.1,(IntKind.wrap .i64 (x.1.2.2.2.2.1+(1:Int))),(),())
 let e4_:=(IntKind.wrap .i64 (e6_+(1:Int)))
 bif (decide (x.1.2.2.2.2.1<x.1.1)) then (bif ((decide ((0:Int)<=x.1.2.2.2.2.1))&&(decide (x.1.2.2.2.2.1<(x.1.2.1.length:Int)))) then (bif e2_ then (bif e2_ then (bif (decide (x.1.2.2.2.1>(0:Int))) then (bif ((decide ((0:Int)<=e4_))&&(decide (e4_<(e1_.length:Int)))) then (((L (e3_,(e1_.set (Int.toNat e4_) (AJ .u64 e7_ (IntKind.wrap .u64 ((64:Int)-x.1.2.2.2.1)))),()))))
 else none)
 else (L (e3_,e1_,())))
 else none)
 else none)
 else none)
 else (e (.inl (((),()),x.2)))
theorem aKr (d:Nat) (R:Type) (L:Pat.D Hd->Option R) (e:Ah Kr J9->Option R) (x:Pat.D Hd) :
  Bz (cf [(122,⟨Fi,Fl,p102,f102⟩)] [(326,6,LoopSpec.of Hd bC Kr J9 w172_6)]) (d+2) 326 (Bw Tryz.f326 6) Hd bC Kr J9 (R:=R) L e x=TZ p102 f102 L e x:=by kernel_rfl
theorem zI (p102:Gw) (f102:GD):Bu fun L e x=>TZ p102 f102 L e x:=by intro _ _ _ _ _ _ _ h0 hL he _; unfold TZ; repeat' (first | exact h0 | exact hL _ | exact he _ | apply B3 | (apply BY h0; intro _) | (apply BV <;> intro _))
def fQ (p102:Gw) (f102:GD) (w172_6:Pat.D Hd->Option (Ah Kr J9)) (a0:Aa (.slice (.int .u64))) (a1:Aa (.int .i64)):Option (DenS OW) :=
 let e1_:=(IntKind.wrap .i64 ((IntKind.wrap .i64 ((BD .i64 a1 (64:Int))+(a0.length:Int)))+(1:Int)))
 bif ((a0.length:Int)==(0:Int)) then (some ([],()))
 else bif ((decide ((0:Int)<=e1_))&&(decide ((e1_*(8:Int))<=(140737488355328:Int)))) then (Vx.A3 (w172_6 (((a0.length:Int),a0,(BD .i64 a1 (64:Int)),(IntKind.wrap .u64 (Int.tmod a1 (64:Int))),(0:Int),(),()),(List.replicate (Int.toNat e1_) (0:Int)),())) fun y2 =>
 Vx.A6 y2 (fun y3 =>
 bif (p102 y3.2) then (some (f102 y3.2))
 else none) (fun z3 =>
 none))
 else none
theorem aTo (x:DenS P2):run (cf [(122,⟨Fi,Fl,p102,f102⟩)] [(326,6,LoopSpec.of Hd bC Kr J9 w172_6)]) 9 326 Tryz.f326 P2 OW x=fQ p102 f102 w172_6 x.1 x.2.1:=by kernel_rfl
def cX:Hd.D->Option (Ah Kr J9):=Bf fun L=>TZ Bh.pre Bh.F L some
def Zt (x:DenS P2):Option (DenS OW):=fQ Bh.pre Bh.F cX x.1 x.2.1
def Np:Sum:=Al P2 OW Zt (DenS.dflt OW)
theorem aU8:Sound Tryz.prog G1 326 Np:=sd (cf [(122,Bh)] [(326,6,LoopSpec.of Hd bC Kr J9 cX)]) 326 Tryz.f326 ⟨Y6,trivial⟩ ⟨rfl,fun d=>BT (fun L e x=>TZ Bh.pre Bh.F L e x) (zI Bh.pre Bh.F) (fun _ _ _ _=>aKr ..),trivial⟩ P2 OW Zt _ (fun _=>aTo ..)
abbrev aAW:=Ak P2
abbrev zQ:=Aj P2 OW
variable (p172:aAW) (f172:zQ)
abbrev MU:Ab:=[(true,.pair (.bool) (.pair (.slice (.int .u64)) (.pair (.int .i64) (.unit)))),(true,.pair (.bool) (.pair (.slice (.int .u64)) (.pair (.int .i64) (.unit))))]
abbrev PQ:Ab:=[(false,.slice (.int .u64)),(false,.slice (.int .u64)),(false,.int .i64)]
def iY (p172:aAW) (f172:zQ) (a0 a1:Aa (.pair (.bool) (.pair (.slice (.int .u64)) (.pair (.int .i64) (.unit))))):Option (DenS PQ) :=
 let e3_:=(if (a1.2.2.1<a0.2.2.1) then a1.2.2.1 else a0.2.2.1)
 let e1_:=(a0.2.1,(IntKind.wrap .i64 (a0.2.2.1-e3_)),())
 let e2_:=(a1.2.1,(IntKind.wrap .i64 (a1.2.2.1-e3_)),())
 bif (p172 e1_) then (bif (p172 e2_) then (some ((f172 e1_).1,(f172 e2_).1,e3_,()))
 else none)
 else none
theorem aKQ (x:DenS MU):run (cf [(326,⟨P2,OW,p172,f172⟩)] []) 9 306 Tryz.f306 MU PQ x=iY p172 f172 x.1 x.2.1:=by kernel_rfl
def TI (x:DenS MU):Option (DenS PQ):=iY Np.pre Np.F x.1 x.2.1
def GF:Sum:=Al MU PQ TI (DenS.dflt PQ)
theorem aOA:Sound Tryz.prog G1 306 GF:=sd (cf [(326,Np)] []) 306 Tryz.f306 ⟨aU8,trivial⟩ trivial MU PQ TI _ (fun _=>aKQ ..)
abbrev xV:=Ak MU
abbrev aE4:=Aj MU PQ
variable (p142:xV) (f142:aE4)
abbrev OT:Ab:=[(true,.pair (.bool) (.pair (.slice (.int .u64)) (.pair (.int .i64) (.unit)))),(true,.pair (.bool) (.pair (.slice (.int .u64)) (.pair (.int .i64) (.unit))))]
abbrev Po:Ab:=[(true,.pair (.bool) (.pair (.slice (.int .u64)) (.pair (.int .i64) (.unit))))]
def Pu (p142:xV) (f142:aE4) (p143:Px) (f143:NP) (p144:II) (f144:JC) (p145:Vi) (f145:Vj) (p100:X5) (f100:XX) (a0 a1:Aa (.pair (.bool) (.pair (.slice (.int .u64)) (.pair (.int .i64) (.unit))))):Option (DenS Po) :=
 let e5_:=((f142 ((a0.1,a0.2),(a1.1,a1.2),())).1,(f142 ((a0.1,a0.2),(a1.1,a1.2),())).2.1,())
 let e1_:=((a0.1,(f143 e5_).1,(f142 ((a0.1,a0.2),(a1.1,a1.2),())).2.2),())
 let e6_:=((f142 ((a0.1,a0.2),(a1.1,a1.2),())).2.1,(f142 ((a0.1,a0.2),(a1.1,a1.2),())).1,())
 let e2_:=((a1.1,(f145 e6_).1,(f142 ((a0.1,a0.2),(a1.1,a1.2),())).2.2),())
 let e3_:=((a0.1,(f145 e5_).1,(f142 ((a0.1,a0.2),(a1.1,a1.2),())).2.2),())
 let e4_:=e5_
 bif ((a0.2.1.length:Int)==(0:Int)) then (some ((a1.1,a1.2),()))
 else bif ((a1.2.1.length:Int)==(0:Int)) then (some ((a0.1,a0.2),()))
 else bif (p142 ((a0.1,a0.2),(a1.1,a1.2),())) then (bif (a0.1==a1.1) then (bif (p143 e4_) then (bif (p100 e1_) then (some (f100 e1_))
 else none)
 else none)
 else bif (p144 e4_) then (bif (decide ((f144 e4_).1<(0:Int))) then (bif (p145 e6_) then (bif (p100 e2_) then (some (f100 e2_))
 else none)
 else none)
 else bif (p145 e4_) then (bif (p100 e3_) then (some (f100 e3_))
 else none)
 else none)
 else none)
 else none
theorem aLF (x:DenS OT):run (cf [(306,⟨MU,PQ,p142,f142⟩),(176,⟨Hi,Gm,p143,f143⟩),(177,⟨FS,F8,p144,f144⟩),(178,⟨JU,Jr,p145,f145⟩),(262,⟨Hf,HZ,p100,f100⟩)] []) 9 261 Tryz.f261 OT Po x=Pu p142 f142 p143 f143 p144 f144 p145 f145 p100 f100 x.1 x.2.1:=by kernel_rfl
def Sr (x:DenS OT):Option (DenS Po):=Pu GF.pre GF.F CC.pre CC.F Bi.pre Bi.F CW.pre CW.F CK.pre CK.F x.1 x.2.1
def Rq:Sum:=Al OT Po Sr (DenS.dflt Po)
theorem aRm:Sound Tryz.prog G1 261 Rq:=sd (cf [(306,GF),(176,CC),(177,Bi),(178,CW),(262,CK)] []) 261 Tryz.f261 ⟨aOA,mV,dK,aHj,mC,trivial⟩ trivial OT Po Sr _ (fun _=>aLF ..)
abbrev aCe:=Ak OT
abbrev aCc:=Aj OT Po
variable (p101:aCe) (f101:aCc)
abbrev OS:Ab:=[(true,.pair (.bool) (.pair (.slice (.int .u64)) (.pair (.int .i64) (.unit)))),(true,.pair (.bool) (.pair (.slice (.int .u64)) (.pair (.int .i64) (.unit))))]
abbrev OX:Ab:=[(true,.pair (.bool) (.pair (.slice (.int .u64)) (.pair (.int .i64) (.unit)))),(false,.int .i64)]
def bG (p99:oT) (f99:vF) (p100:X5) (f100:XX) (p101:aCe) (f101:aCc) (p104:gA) (f104:bS) (a0 a1:Aa (.pair (.bool) (.pair (.slice (.int .u64)) (.pair (.int .i64) (.unit))))):Option (DenS OX) :=
 let e2_:=((f100 ((a0.1,a0.2),())).1,(f100 ((a1.1,a1.2),())))
 let e1_:=(f101 e2_)
 bif (p99 ((a0.1,a0.2),(a1.1,a1.2),())) then (bif ((f99 ((a0.1,a0.2),(a1.1,a1.2),())).1 != (0:Int)) then (some ((false,[],(0:Int),()),(f99 ((a0.1,a0.2),(a1.1,a1.2),()))))
 else bif (p100 ((a0.1,a0.2),())) then (bif (p100 ((a1.1,a1.2),())) then (bif (p101 e2_) then (bif (p104 e1_) then (some (f104 e1_))
 else none)
 else none)
 else none)
 else none)
 else none
theorem r49 (x:DenS OS):run (cf [(260,⟨Mi,Lb,p99,f99⟩),(262,⟨Hf,HZ,p100,f100⟩),(261,⟨OT,Po,p101,f101⟩),(254,⟨JO,IJ,p104,f104⟩)] []) 9 195 Tryz.f195 OS OX x=bG p99 f99 p100 f100 p101 f101 p104 f104 x.1 x.2.1:=by kernel_rfl
def Tn (x:DenS OS):Option (DenS OX):=bG FT.pre FT.F CK.pre CK.F Rq.pre Rq.F D3.pre D3.F x.1 x.2.1
def GV:Sum:=Al OS OX Tn (DenS.dflt OX)
theorem aLy:Sound Tryz.prog G1 195 GV:=sd (cf [(260,FT),(262,CK),(261,Rq),(254,D3)] []) 195 Tryz.f195 ⟨aFm,mC,aRm,mP,trivial⟩ trivial OS OX Tn _ (fun _=>r49 ..)
abbrev Y49:=Ak OS
abbrev zS:=Aj OS OX
variable (p49:Y49) (f49:zS)
abbrev MT:Ab:=[(true,.pair (.bool) (.pair (.slice (.int .u64)) (.pair (.int .i64) (.unit))))]
abbrev Nb:Ab:=[(true,.pair (.bool) (.pair (.slice (.int .u64)) (.pair (.int .i64) (.unit)))),(false,.int .i64)]
def dV (p103:wC) (f103:mU) (p104:gA) (f104:bS) (a0:Aa (.pair (.bool) (.pair (.slice (.int .u64)) (.pair (.int .i64) (.unit))))):Option (DenS Nb) :=
 bif (p103 ((a0.1,a0.2),())) then (bif ((f103 ((a0.1,a0.2),())).1 != (0:Int)) then (some ((false,[],(0:Int),()),(f103 ((a0.1,a0.2),()))))
 else bif (p104 ((a0.1,a0.2),())) then (some (f104 ((a0.1,a0.2),())))
 else none)
 else none
theorem aNj (x:DenS MT):run (cf [(253,⟨J3,KI,p103,f103⟩),(254,⟨JO,IJ,p104,f104⟩)] []) 9 179 Tryz.f179 MT Nb x=dV p103 f103 p104 f104 x.1:=by kernel_rfl
def Yu (x:DenS MT):Option (DenS Nb):=dV E3.pre E3.F D3.pre D3.F x.1
def MP:Sum:=Al MT Nb Yu (DenS.dflt Nb)
theorem aOc:Sound Tryz.prog G1 179 MP:=sd (cf [(253,E3),(254,D3)] []) 179 Tryz.f179 ⟨aDJ,mP,trivial⟩ trivial MT Nb Yu _ (fun _=>aNj ..)
abbrev aD4:=Ak MT
abbrev aCN:=Aj MT Nb
variable (p106:aD4) (f106:aCN)
abbrev JX:Ab:=[(false,.int .i64),(false,.int .i64),(true,.pair (.bool) (.pair (.slice (.int .u64)) (.pair (.int .i64) (.unit))))]
abbrev Iq:Ab:=[(false,.int .u64),(false,.int .i64),(false,.int .i64)]
def iI (p105:Tw) (f105:UO) (p106:aD4) (f106:aCN) (p107:TC) (f107:VQ) (a0 a1:Aa (.int .i64)) (a2:Aa (.pair (.bool) (.pair (.slice (.int .u64)) (.pair (.int .i64) (.unit))))):Option (DenS Iq) :=
 let e2_:=(((f106 ((a2.1,a2.2),())).1.1,(f106 ((a2.1,a2.2),())).1.2.1,(f106 ((a2.1,a2.2),())).1.2.2.1,false,()),a0,(f105 (a0,a1,())).1,a1,())
 let e1_:=(f107 e2_)
 bif (p105 (a0,a1,())) then (bif ((f105 (a0,a1,())).2.1 != (0:Int)) then (some ((0:Int),(0:Int),(f105 (a0,a1,())).2))
 else bif (p106 ((a2.1,a2.2),())) then (bif ((f106 ((a2.1,a2.2),())).2.1 != (0:Int)) then (some ((0:Int),(0:Int),(f106 ((a2.1,a2.2),())).2))
 else bif (((f106 ((a2.1,a2.2),())).1.2.1.length:Int)==(0:Int)) then (some ((0:Int),(0:Int),(0:Int),()))
 else bif (p107 e2_) then (some (e1_.1,e1_.2.1,(0:Int),()))
 else none)
 else none)
 else none
theorem r51 (x:DenS JX):run (cf [(121,⟨I3,JM,p105,f105⟩),(179,⟨MT,Nb,p106,f106⟩),(125,⟨I0,IG,p107,f107⟩)] []) 9 130 Tryz.f130 JX Iq x=iI p105 f105 p106 f106 p107 f107 x.1 x.2.1 x.2.2.1:=by kernel_rfl
def OA (x:DenS JX):Option (DenS Iq):=iI EL.pre EL.F MP.pre MP.F EO.pre EO.F x.1 x.2.1 x.2.2.1
def Dj:Sum:=Al JX Iq OA (DenS.dflt Iq)
theorem pA:Sound Tryz.prog G1 130 Dj:=sd (cf [(121,EL),(179,MP),(125,EO)] []) 130 Tryz.f130 ⟨qI,aOc,oN,trivial⟩ trivial JX Iq OA _ (fun _=>r51 ..)
abbrev bM:=Ak JX
abbrev fD:=Aj JX Iq
variable (p51:bM) (f51:fD)
abbrev Rf:Ab:=[(false,.int .i64),(false,.int .i64),(true,.pair (.bool) (.pair (.bool) (.pair (.bool) (.pair (.bool) (.pair (.bool) (.pair (.pair (.bool) (.pair (.slice (.int .u64)) (.pair (.int .i64) (.unit)))) (.unit))))))),(true,.pair (.bool) (.pair (.bool) (.pair (.bool) (.pair (.bool) (.pair (.bool) (.pair (.pair (.bool) (.pair (.slice (.int .u64)) (.pair (.int .i64) (.unit)))) (.unit)))))))]
abbrev Nf:Ab:=[(false,.int .u64),(false,.int .i64),(false,.int .i64)]
def Od (p70:D9) (f70:D4) (p97:ON) (f97:MO) (p49:Y49) (f49:zS) (p47:oC) (f47:wD) (p118:GT) (f118:GC) (p51:bM) (f51:fD) (a0 a1:Aa (.int .i64)) (a2:Aa (.pair (.bool) (.pair (.bool) (.pair (.bool) (.pair (.bool) (.pair (.bool) (.pair (.pair (.bool) (.pair (.slice (.int .u64)) (.pair (.int .i64) (.unit)))) (.unit)))))))) (a3:Aa (.pair (.bool) (.pair (.bool) (.pair (.bool) (.pair (.bool) (.pair (.bool) (.pair (.pair (.bool) (.pair (.slice (.int .u64)) (.pair (.int .i64) (.unit)))) (.unit)))))))):Option (DenS Nf) :=
 let e1_:=(a0,a1,(f49 (a2.2.2.2.2.2.1,a3.2.2.2.2.2)).1,())
 let e2_:=((f70 (a0,())).1,(1:Int),(0:Int),())
 bif (p70 (a0,())) then (bif (((a2.2.1||a3.2.1)||a2.2.2.1)||a3.2.2.1) then (some e2_)
 else bif (a2.1||a3.1) then (some ((f70 (a0,())).1,(0:Int),(0:Int),()))
 else bif ((a2.2.2.2.1&&a3.2.2.2.1)&&(!(a2.2.2.2.2.1==a3.2.2.2.2.1))) then (some e2_)
 else bif a2.2.2.2.1 then (bif (p97 (a0,a2.2.2.2.2.1,())) then (some ((f97 (a0,a2.2.2.2.2.1,())).1,(0:Int),(0:Int),()))
 else none)
 else bif a3.2.2.2.1 then (bif (p97 (a0,a3.2.2.2.2.1,())) then (some ((f97 (a0,a3.2.2.2.2.1,())).1,(0:Int),(0:Int),()))
 else none)
 else bif (p49 (a2.2.2.2.2.2.1,a3.2.2.2.2.2)) then (bif ((f49 (a2.2.2.2.2.2.1,a3.2.2.2.2.2)).2.1 != (0:Int)) then (some ((0:Int),(0:Int),(f49 (a2.2.2.2.2.2.1,a3.2.2.2.2.2)).2))
 else bif (p47 ((f49 (a2.2.2.2.2.2.1,a3.2.2.2.2.2)).1,())) then (bif ((f47 ((f49 (a2.2.2.2.2.2.1,a3.2.2.2.2.2)).1,())).1==(0:Int)) then (bif (p47 a2.2.2.2.2.2) then (bif ((p47 a3.2.2.2.2.2)||(!(decide ((f47 a2.2.2.2.2.2).1=(0:Int))))) then (bif ((((f47 a2.2.2.2.2.2).1==(0:Int))&&((f47 a3.2.2.2.2.2).1==(0:Int)))&&(a2.2.2.2.2.1==a3.2.2.2.2.1)) then (bif (p118 (a0,a2.2.2.2.2.1,())) then (some ((f118 (a0,a2.2.2.2.2.1,())).1,(0:Int),(0:Int),()))
 else none)
 else bif (p118 (a0,(a1==(4:Int)),())) then (some ((f118 (a0,(a1==(4:Int)),())).1,(0:Int),(0:Int),()))
 else none)
 else none)
 else none)
 else bif (p51 e1_) then (some (f51 e1_))
 else none)
 else none)
 else none)
 else none
theorem aI3 (x:DenS Rf):run (cf [(56,⟨DJ,DE,p70,f70⟩),(65,⟨GG,Gs,p97,f97⟩),(195,⟨OS,OX,p49,f49⟩),(196,⟨Lc,J0,p47,f47⟩),(38,⟨EI,E8,p118,f118⟩),(130,⟨JX,Iq,p51,f51⟩)] []) 9 139 Tryz.f139 Rf Nf x=Od p70 f70 p97 f97 p49 f49 p47 f47 p118 f118 p51 f51 x.1 x.2.1 x.2.2.1 x.2.2.2.1:=by kernel_rfl
def SX (x:DenS Rf):Option (DenS Nf):=Od AB.pre AB.F B6.pre B6.F GV.pre GV.F DK.pre DK.F A1.pre A1.F Dj.pre Dj.F x.1 x.2.1 x.2.2.1 x.2.2.2.1
def RE:Sum:=Al Rf Nf SX (DenS.dflt Nf)
theorem aPq:Sound Tryz.prog G1 139 RE:=sd (cf [(56,AB),(65,B6),(195,GV),(196,DK),(38,A1),(130,Dj)] []) 139 Tryz.f139 ⟨GM,Zp,aLy,aEk,RQ,pA,trivial⟩ trivial Rf Nf SX _ (fun _=>aI3 ..)
abbrev zD:=Ak Rf
abbrev aE6:=Aj Rf Nf
variable (p400:zD) (f400:aE6)
abbrev PH:Ab:=[(false,.int .i64),(false,.int .i64),(false,.int .u64),(false,.int .u64),(false,.int .u64)]
abbrev QW:Ab:=[(false,.int .u64),(false,.int .i64),(false,.int .i64)]
def iA (p397:aGo) (f397:aEc) (p399:aHy) (f399:aDK) (p398:vQ) (f398:v7) (p400:zD) (f400:aE6) (a0 a1:Aa (.int .i64)) (a2 a3 a4:Aa (.int .u64)):Option (DenS QW) :=
 let e1_:=(a0,a1,(f399 (a0,a2,a3,())).1,(f398 (a0,a4,())))
 let e2_:=(f397 (a0,a1,(a2::(a3::(a4::[]))),()))
 bif (p397 (a0,a1,(a2::(a3::(a4::[]))),())) then (bif (e2_.1 != (0:Int)) then (some ((0:Int),(0:Int),e2_))
 else bif (p399 (a0,a2,a3,())) then (bif (p398 (a0,a4,())) then (bif (p400 e1_) then (some (f400 e1_))
 else none)
 else none)
 else none)
 else none
theorem aRJ (x:DenS PH):run (cf [(138,⟨Qo,Of,p397,f397⟩),(140,⟨Rh,Rr,p399,f399⟩),(141,⟨MA,LJ,p398,f398⟩),(139,⟨Rf,Nf,p400,f400⟩)] []) 9 93 Tryz.f93 PH QW x=iA p397 f397 p399 f399 p398 f398 p400 f400 x.1 x.2.1 x.2.2.1 x.2.2.2.1 x.2.2.2.2.1:=by kernel_rfl
def Xd (x:DenS PH):Option (DenS QW):=iA RC.pre RC.F RA.pre RA.F EZ.pre EZ.F RE.pre RE.F x.1 x.2.1 x.2.2.1 x.2.2.2.1 x.2.2.2.2.1
def QK:Sum:=Al PH QW Xd (DenS.dflt QW)
theorem aNS:Sound Tryz.prog G1 93 QK:=sd (cf [(138,RC),(140,RA),(141,EZ),(139,RE)] []) 93 Tryz.f93 ⟨aRU,aLQ,aFC,aPq,trivial⟩ trivial PH QW Xd _ (fun _=>aRJ ..)
abbrev oS:=Ak PH
abbrev n7:=Aj PH QW
variable (p401:oS) (f401:n7)
abbrev Ri:Ab:=[(true,.pair (.int .i64) (.pair (.int .i64) (.pair (.int .u64) (.pair (.int .u64) (.pair (.int .u64) (.unit))))))]
abbrev Ot:Ab:=[(false,.int .u64),(false,.int .i64),(false,.int .i64)]
def kK (p401:oS) (f401:n7) (a0:Aa (.pair (.int .i64) (.pair (.int .i64) (.pair (.int .u64) (.pair (.int .u64) (.pair (.int .u64) (.unit))))))):Option (DenS Ot) :=
 bif (p401 (a0.2.1,a0.1,a0.2.2)) then (some (f401 (a0.2.1,a0.1,a0.2.2)))
 else none
theorem aMr (x:DenS Ri):run (cf [(93,⟨PH,QW,p401,f401⟩)] []) 9 182 Tryz.f182 Ri Ot x=kK p401 f401 x.1:=by kernel_rfl
def XI (x:DenS Ri):Option (DenS Ot):=kK QK.pre QK.F x.1
def KW:Sum:=Al Ri Ot XI (DenS.dflt Ot)
theorem aGe:Sound Tryz.prog G1 182 KW:=sd (cf [(93,QK)] []) 182 Tryz.f182 ⟨aNS,trivial⟩ trivial Ri Ot XI _ (fun _=>aMr ..)
abbrev o7:=Ak Ri
abbrev rQ:=Aj Ri Ot
variable (p402:o7) (f402:rQ)
abbrev I7:Ab:=[(false,.int .i64),(false,.int .i64)]
abbrev IE:Ab:=[(false,.int .i64)]
def jK (p69:BL) (f69:BO) (a0 a1:Aa (.int .i64)):Option (DenS IE) :=
 bif (p69 (a0,())) then (bif ((f69 (a0,())).2.1 != (0:Int)) then (some (f69 (a0,())).2)
 else bif ((decide (a1<(0:Int)))||(decide (a1>(5:Int)))) then (some ((3:Int),()))
 else some ((0:Int),()))
 else none
theorem aUY (x:DenS I7):run (cf [(54,⟨Cm,Cn,p69,f69⟩)] []) 9 80 Tryz.f80 I7 IE x=jK p69 f69 x.1 x.2.1:=by kernel_rfl
def XB (x:DenS I7):Option (DenS IE):=jK Aq.pre Aq.F x.1 x.2.1
def Ej:Sum:=Al I7 IE XB (DenS.dflt IE)
theorem vV:Sound Tryz.prog G1 80 Ej:=sd (cf [(54,Aq)] []) 80 Tryz.f80 ⟨Ep,trivial⟩ trivial I7 IE XB _ (fun _=>aUY ..)
abbrev gF:=Ak I7
abbrev fZ:=Aj I7 IE
variable (p403:gF) (f403:fZ)
abbrev LW:Ab:=[(false,.int .i64),(false,.int .u64)]
abbrev Lk:Ab:=[(true,.pair (.bool) (.pair (.int .u64) (.pair (.int .i64) (.unit))))]
def aB (p69:BL) (f69:BO) (p98:Ju) (f98:Iw) (a0:Aa (.int .i64)) (a1:Aa (.int .u64)):Option (DenS Lk) :=
 let e1_:=(IntKind.wrap .i64 ((IntKind.wrap .i64 ((f69 (a0,())).1.2.2.1-(f69 (a0,())).1.2.1))+(1:Int)))
 let e2_:=(IntKind.wrap .i64 ((f69 (a0,())).1.2.1-(1:Int)))
 bif (p69 (a0,())) then (bif (p98 (a0,a1,())) then (bif (decide ((f98 (a0,a1,())).2.1>(0:Int))) then (bif (decide ((0:Int)<=e2_)) then (some (((f98 (a0,a1,())).1,(AX .u64 (f98 (a0,a1,())).2.2.1 (AT .u64 (1:Int) e2_)),(IntKind.wrap .i64 (e1_+(IntKind.wrap .i64 ((IntKind.wrap .i64 (f98 (a0,a1,())).2.1)-(1:Int))))),()),()))
 else none)
 else some (((f98 (a0,a1,())).1,(f98 (a0,a1,())).2.2.1,e1_,()),()))
 else none)
 else none
theorem aQX (x:DenS LW):run (cf [(54,⟨Cm,Cn,p69,f69⟩),(119,⟨Fe,Fk,p98,f98⟩)] []) 9 81 Tryz.f81 LW Lk x=aB p69 f69 p98 f98 x.1 x.2.1:=by kernel_rfl
def ZE (x:DenS LW):Option (DenS Lk):=aB Aq.pre Aq.F Bq.pre Bq.F x.1 x.2.1
def FU:Sum:=Al LW Lk ZE (DenS.dflt Lk)
theorem aBg:Sound Tryz.prog G1 81 FU:=sd (cf [(54,Aq),(119,Bq)] []) 81 Tryz.f81 ⟨Ep,Sk,trivial⟩ trivial LW Lk ZE _ (fun _=>aQX ..)
abbrev nL:=Ak LW
abbrev t6:=Aj LW Lk
variable (p404:nL) (f404:t6)
abbrev LD:Ab:=[(false,.int .i64),(true,.pair (.bool) (.pair (.int .u64) (.pair (.int .i64) (.unit))))]
abbrev HR:Ab:=[(false,.int .u64),(false,.bool)]
def bA (a0:Aa (.int .i64)) (a1:Aa (.pair (.bool) (.pair (.int .u64) (.pair (.int .i64) (.unit))))):Option (DenS HR) :=
 let e10_:=(IntKind.wrap .i64 ((0:Int)-a1.2.2.1))
 let e9_:=(if ((63:Int)<e10_) then (63:Int) else e10_)
 let e8_:=(AJ .u64 a1.2.1 e9_)
 let e1_:=(IntKind.wrap .u64 (a1.2.1-(AT .u64 e8_ e9_)))
 let e2_:=((IntKind.wrap .u64 (e8_+(1:Int))),true,())
 let e3_:=(AT .u64 (1:Int) (IntKind.wrap .i64 (e9_-(1:Int))))
 let e4_:=(Int.tmod e8_ (2:Int))
 let e5_:=(e8_,true,())
 let e6_:=(decide ((0:Int)<=e9_))
 let e7_:=e9_
 bif e6_ then (bif e6_ then (bif (e1_==(0:Int)) then (some ((AJ .u64 a1.2.1 e7_),false,()))
 else bif (decide ((0:Int)<=(IntKind.wrap .i64 (e7_-(1:Int))))) then (bif (a0==(0:Int)) then (bif ((decide (e1_>e3_))||((e1_==e3_)&&(e4_==(1:Int)))) then (some e2_)
 else some e5_)
 else bif (a0==(1:Int)) then (bif (decide (e1_>=e3_)) then (some e2_)
 else some e5_)
 else bif (a0==(3:Int)) then (bif (!a1.1) then (some e2_)
 else some e5_)
 else bif (a0==(4:Int)) then (bif a1.1 then (some e2_)
 else some e5_)
 else bif (a0==(5:Int)) then (bif (e4_==(0:Int)) then (some e2_)
 else some e5_)
 else some e5_)
 else none)
 else none)
 else none
theorem aTD (x:DenS LD):run (cf [] []) 9 82 Tryz.f82 LD HR x=bA x.1 x.2.1:=by kernel_rfl
def YT (x:DenS LD):Option (DenS HR):=bA x.1 x.2.1
def Dn:Sum:=Al LD HR YT (DenS.dflt HR)
theorem aGf:Sound Tryz.prog G1 82 Dn:=sd (cf [] []) 82 Tryz.f82 trivial trivial LD HR YT _ (fun _=>aTD ..)
abbrev tX:=Ak LD
abbrev tC:=Aj LD HR
variable (p405:tX) (f405:tC)
abbrev O3:Ab:=[(false,.int .i64),(false,.int .i64),(false,.int .u64),(false,.bool)]
abbrev LL:Ab:=[(false,.int .u64),(false,.int .i64),(false,.int .i64)]
def f9 (p403:gF) (f403:fZ) (p65:Ey) (f65:Eq) (p70:D9) (f70:D4) (p404:nL) (f404:t6) (p405:tX) (f405:tC) (p122:Hj) (f122:H7) (a0 a1:Aa (.int .i64)) (a2:Aa (.int .u64)) (a3:Aa (.bool)):Option (DenS LL) :=
 let e7_:=(a0,a1,(f404 (a0,a2,())).1.1,((0:Int),(f405 (a1,(f404 (a0,a2,())))).1,()),(0:Int),false,())
 let e6_:=(f122 e7_)
 let e1_:=(e6_.1,(16:Int),e6_.2.2)
 let e2_:=(e6_.1,(0:Int),e6_.2.2)
 let e3_:=(p122 e7_)
 let e4_:=(decide ((f404 (a0,a2,())).1.2.2.1>=(0:Int)))
 let e5_:=((f405 (a1,(f404 (a0,a2,())))).2.1&&a3)
 let g1_:Option (DenS LL):=bif (p404 (a0,a2,())) then (bif e4_ then (some (a2,(0:Int),(0:Int),()))
 else bif (p405 (a1,(f404 (a0,a2,())))) then (bif e5_ then (bif e3_ then (some e1_)
 else none)
 else bif e3_ then (some e2_)
 else none)
 else none)
 else none
 bif (p403 (a0,a1,())) then (bif ((f403 (a0,a1,())).1 != (0:Int)) then (some ((0:Int),(0:Int),(f403 (a0,a1,()))))
 else bif (p65 (a0,a2,())) then (bif ((f65 (a0,a2,())).2.1 != (0:Int)) then (some ((0:Int),(0:Int),(f65 (a0,a2,())).2))
 else bif (p70 (a0,())) then (bif ((f65 (a0,a2,())).1==(0:Int)) then (some ((f70 (a0,())).1,(1:Int),(0:Int),()))
 else bif ((f65 (a0,a2,())).1==(1:Int)) then (some ((f70 (a0,())).1,(0:Int),(0:Int),()))
 else bif ((f65 (a0,a2,())).1==(2:Int)) then (bif ((f65 (a0,a2,())).1==(2:Int)) then (some (a2,(0:Int),(0:Int),()))
 else g1_)
 else bif ((f65 (a0,a2,())).1==(9:Int)) then (bif ((f65 (a0,a2,())).1==(9:Int)) then (some (a2,(0:Int),(0:Int),()))
 else g1_)
 else bif ((f65 (a0,a2,())).1==(5:Int)) then (bif ((f65 (a0,a2,())).1==(5:Int)) then (some (a2,(0:Int),(0:Int),()))
 else g1_)
 else bif ((f65 (a0,a2,())).1==(6:Int)) then (some (a2,(0:Int),(0:Int),()))
 else g1_)
 else none)
 else none)
 else none
theorem aKU (x:DenS O3):run (cf [(80,⟨I7,IE,p403,f403⟩),(55,⟨DL,DR,p65,f65⟩),(56,⟨DJ,DE,p70,f70⟩),(81,⟨LW,Lk,p404,f404⟩),(82,⟨LD,HR,p405,f405⟩),(66,⟨E1,Fv,p122,f122⟩)] []) 9 96 Tryz.f96 O3 LL x=f9 p403 f403 p65 f65 p70 f70 p404 f404 p405 f405 p122 f122 x.1 x.2.1 x.2.2.1 x.2.2.2.1:=by kernel_rfl
def X4 (x:DenS O3):Option (DenS LL):=f9 Ej.pre Ej.F AE.pre AE.F AB.pre AB.F FU.pre FU.F Dn.pre Dn.F A4.pre A4.F x.1 x.2.1 x.2.2.1 x.2.2.2.1
def QT:Sum:=Al O3 LL X4 (DenS.dflt LL)
theorem aTi:Sound Tryz.prog G1 96 QT:=sd (cf [(80,Ej),(55,AE),(56,AB),(81,FU),(82,Dn),(66,A4)] []) 96 Tryz.f96 ⟨vV,Hn,GM,aBg,aGf,UB,trivial⟩ trivial O3 LL X4 _ (fun _=>aKU ..)
abbrev rO:=Ak O3
abbrev pN:=Aj O3 LL
variable (p406:rO) (f406:pN)
abbrev Ql:Ab:=[(true,.pair (.int .i64) (.pair (.int .i64) (.pair (.int .u64) (.pair (.int .u64) (.pair (.int .u64) (.unit))))))]
abbrev MZ:Ab:=[(false,.int .u64),(false,.int .i64),(false,.int .i64)]
def dC (p406:rO) (f406:pN) (a0:Aa (.pair (.int .i64) (.pair (.int .i64) (.pair (.int .u64) (.pair (.int .u64) (.pair (.int .u64) (.unit))))))):Option (DenS MZ) :=
 bif (p406 (a0.2.1,a0.1,a0.2.2.1,true,())) then (some (f406 (a0.2.1,a0.1,a0.2.2.1,true,())))
 else none
theorem aKk (x:DenS Ql):run (cf [(96,⟨O3,LL,p406,f406⟩)] []) 9 184 Tryz.f184 Ql MZ x=dC p406 f406 x.1:=by kernel_rfl
def WR (x:DenS Ql):Option (DenS MZ):=dC QT.pre QT.F x.1
def LT:Sum:=Al Ql MZ WR (DenS.dflt MZ)
theorem aCy:Sound Tryz.prog G1 184 LT:=sd (cf [(96,QT)] []) 184 Tryz.f184 ⟨aTi,trivial⟩ trivial Ql MZ WR _ (fun _=>aKk ..)
abbrev tU:=Ak Ql
abbrev qB:=Aj Ql MZ
variable (p407:tU) (f407:qB)
abbrev N6:Ab:=[(false,.slice (.int .i64)),(false,.slice (.int .i64)),(false,.int .u64)]
abbrev Pm:Ab:=[(false,.int .i64)]
abbrev GZ:Pat:=⟨46,[(14,.one (.v .i64)),(13,.one (.sl (.int .i64))),(15,.one (.v .i64)),(1,.one (.sl (.int .i64))),(0,.one (.sl (.int .i64))),(2,.one (.v .u64))],[]⟩
abbrev XO:List (Nat×Shape):=[]
abbrev Jj:List (Nat×Pat):=[(0,⟨46,[(1,.one (.sl (.int .i64))),(0,.one (.sl (.int .i64))),(2,.one (.v .u64))],[]⟩)]
abbrev Ix:Option Pat:=(some ⟨46,[(6,.one (.v .i64))],[]⟩)
abbrev Gt:Pat:=⟨46,[(29,.one (.v .i64)),(28,.one (.sl (.int .i64))),(30,.one (.v .i64)),(0,.one (.sl (.int .i64))),(2,.one (.v .u64))],[]⟩
abbrev XM:List (Nat×Shape):=[]
abbrev I4:List (Nat×Pat):=[(2,⟨46,[(0,.one (.sl (.int .i64))),(2,.one (.v .u64))],[]⟩)]
abbrev JY:Option Pat:=(some ⟨46,[(6,.one (.v .i64))],[]⟩)
variable (w391_2:Pat.D GZ->Option (Ah Jj Ix)) (w391_9:Pat.D Gt->Option (Ah I4 JY))
def VJ (p69:BL) (f69:BO) (p66:Ck) (f66:Cl) {R:Type} (L:Pat.D Gt->Option R) (e:Ah I4 JY->Option R) (x:Pat.D Gt):Option R :=
 let e1_:=(x.1.2.1.getD (Int.toNat x.1.2.2.1) (0:Int))
 bif (decide (x.1.2.2.1<x.1.1)) then (bif ((decide ((0:Int)<=x.1.2.2.1))&&(decide (x.1.2.2.1<(x.1.2.1.length:Int)))) then (bif ((decide (e1_<(0:Int)))||(decide (e1_>(5:Int)))) then (((e (.inr (((3:Int),()),())))))
 else (L ((x.1.1,x.1.2.1,(IntKind.wrap .i64 (x.1.2.2.1+(1:Int))),x.1.2.2.2),())))
 else none)
 else (e (.inl (x.1.2.2.2,())))
theorem aSW (d:Nat) (R:Type) (L:Pat.D Gt->Option R) (e:Ah I4 JY->Option R) (x:Pat.D Gt) :
  Bz (cf [(54,⟨Cm,Cn,p69,f69⟩),(59,⟨CJ,CN,p66,f66⟩)] [(78,2,LoopSpec.of GZ XO Jj Ix w391_2),(78,9,LoopSpec.of Gt XM I4 JY w391_9)]) (d+2) 78 (Bw Tryz.f78 9) Gt XM I4 JY (R:=R) L e x=VJ p69 f69 p66 f66 L e x:=by kernel_rfl
theorem aGk (p69:BL) (f69:BO) (p66:Ck) (f66:Cl):Bu fun L e x=>VJ p69 f69 p66 f66 L e x:=by intro _ _ _ _ _ _ _ h0 hL he _; unfold VJ; repeat' (first | exact h0 | exact hL _ | exact he _ | apply B3 | (apply BY h0; intro _) | (apply BV <;> intro _))
def VC (p69:BL) (f69:BO) (p66:Ck) (f66:Cl) {R:Type} (L:Pat.D GZ->Option R) (e:Ah Jj Ix->Option R) (x:Pat.D GZ):Option R :=
 let e2_:=((x.1.2.1.getD (Int.toNat x.1.2.2.1) (0:Int)),())
 let e1_:=(f69 e2_)
 bif (decide (x.1.2.2.1<x.1.1)) then (bif ((decide ((0:Int)<=x.1.2.2.1))&&(decide (x.1.2.2.1<(x.1.2.1.length:Int)))) then (bif (p69 e2_) then (bif (e1_.2.1 != (0:Int)) then (((e (.inr (e1_.2,())))))
 else (L ((x.1.1,x.1.2.1,(IntKind.wrap .i64 (x.1.2.2.1+(1:Int))),x.1.2.2.2),())))
 else none)
 else none)
 else (e (.inl (x.1.2.2.2,())))
theorem aOl (d:Nat) (R:Type) (L:Pat.D GZ->Option R) (e:Ah Jj Ix->Option R) (x:Pat.D GZ) :
  Bz (cf [(54,⟨Cm,Cn,p69,f69⟩),(59,⟨CJ,CN,p66,f66⟩)] [(78,2,LoopSpec.of GZ XO Jj Ix w391_2),(78,9,LoopSpec.of Gt XM I4 JY w391_9)]) (d+2) 78 (Bw Tryz.f78 2) GZ XO Jj Ix (R:=R) L e x=VC p69 f69 p66 f66 L e x:=by kernel_rfl
theorem aFf (p69:BL) (f69:BO) (p66:Ck) (f66:Cl):Bu fun L e x=>VC p69 f69 p66 f66 L e x:=by intro _ _ _ _ _ _ _ h0 hL he _; unfold VC; repeat' (first | exact h0 | exact hL _ | exact he _ | apply B3 | (apply BY h0; intro _) | (apply BV <;> intro _))
def aW (p69:BL) (f69:BO) (p66:Ck) (f66:Cl) (w391_2:Pat.D GZ->Option (Ah Jj Ix)) (w391_9:Pat.D Gt->Option (Ah I4 JY)) (a0 a1:Aa (.slice (.int .i64))) (a2:Aa (.int .u64)):Option (DenS Pm) :=
 Vx.A3 (w391_2 (((a0.length:Int),a0,(0:Int),a1,a0,a2,()),())) fun y0 =>
 Vx.A6 y0 (fun y1 =>
 Vx.A3 (w391_9 (((y1.1.1.length:Int),y1.1.1,(0:Int),y1.1.2),())) fun y2 =>
 Vx.A6 y2 (fun y3 =>
 bif (decide ((0:Int)<(y3.1.1.length:Int))) then (bif (p66 ((y3.1.1.getD (Int.toNat (0:Int)) (0:Int)),y3.1.2)) then (some (f66 ((y3.1.1.getD (Int.toNat (0:Int)) (0:Int)),y3.1.2)))
 else none)
 else none) (fun z3 =>
 some z3.1)) (fun z1 =>
 some z1.1)
theorem aPi (x:DenS N6):run (cf [(54,⟨Cm,Cn,p69,f69⟩),(59,⟨CJ,CN,p66,f66⟩)] [(78,2,LoopSpec.of GZ XO Jj Ix w391_2),(78,9,LoopSpec.of Gt XM I4 JY w391_9)]) 9 78 Tryz.f78 N6 Pm x=aW p69 f69 p66 f66 w391_2 w391_9 x.1 x.2.1 x.2.2.1:=by kernel_rfl
def XZ:Gt.D->Option (Ah I4 JY):=Bf fun L=>VJ Aq.pre Aq.F Ar.pre Ar.F L some
def jT:GZ.D->Option (Ah Jj Ix):=Bf fun L=>VC Aq.pre Aq.F Ar.pre Ar.F L some
def Wm (x:DenS N6):Option (DenS Pm):=aW Aq.pre Aq.F Ar.pre Ar.F jT XZ x.1 x.2.1 x.2.2.1
def OM:Sum:=Al N6 Pm Wm (DenS.dflt Pm)
theorem aUg:Sound Tryz.prog G1 78 OM:=sd (cf [(54,Aq),(59,Ar)] [(78,2,LoopSpec.of GZ XO Jj Ix jT),(78,9,LoopSpec.of Gt XM I4 JY XZ)]) 78 Tryz.f78 ⟨Ep,F4,trivial⟩ ⟨rfl,fun d=>BT (fun L e x=>VC Aq.pre Aq.F Ar.pre Ar.F L e x) (aFf Aq.pre Aq.F Ar.pre Ar.F) (fun _ _ _ _=>aOl ..),⟨rfl,fun d=>BT (fun L e x=>VJ Aq.pre Aq.F Ar.pre Ar.F L e x) (aGk Aq.pre Aq.F Ar.pre Ar.F) (fun _ _ _ _=>aSW ..),trivial⟩⟩ N6 Pm Wm _ (fun _=>aPi ..)
abbrev aAG:=Ak N6
abbrev aEB:=Aj N6 Pm
variable (p391:aAG) (f391:aEB)
abbrev ML:Ab:=[(false,.int .i64),(false,.int .i64),(false,.int .i64),(false,.int .u64)]
abbrev Fr:Ab:=[(false,.int .u64),(false,.int .i64)]
def dF (p65:Ey) (f65:Eq) (p98:Ju) (f98:Iw) (p70:D9) (f70:D4) (p97:ON) (f97:MO) (p118:GT) (f118:GC) (p40:QU) (f40:Nv) (p51:bM) (f51:fD) (a0 a1 a2:Aa (.int .i64)) (a3:Aa (.int .u64)):Option (DenS Fr) :=
 let e5_:=(f51 (a1,a2,(f40 (a0,a3,())).1,()))
 let e1_:=(e5_.1,e5_.2.1,())
 let e2_:=((f118 (a1,(f98 (a0,a3,())).1,())).1,(0:Int),())
 let e3_:=((f97 (a1,(f98 (a0,a3,())).1,())).1,(0:Int),())
 let e4_:=(p51 (a1,a2,(f40 (a0,a3,())).1,()))
 let g6_:Option (DenS Fr):=bif (p97 (a1,(f98 (a0,a3,())).1,())) then (some e3_)
 else none
 let g5_:Option (DenS Fr):=bif (p118 (a1,(f98 (a0,a3,())).1,())) then (some e2_)
 else none
 let g4_:Option (DenS Fr):=bif (p40 (a0,a3,())) then (bif e4_ then (some e1_)
 else none)
 else none
 let g2_:Option (DenS Fr):=bif ((f65 (a0,a3,())).1==(6:Int)) then (bif ((f65 (a0,a3,())).1==(6:Int)) then (g5_)
 else g4_)
 else bif ((f65 (a0,a3,())).1==(5:Int)) then (g5_)
 else g4_
 let g1_:Option (DenS Fr):=bif ((f65 (a0,a3,())).1==(9:Int)) then (bif ((f65 (a0,a3,())).1==(9:Int)) then (g6_)
 else g2_)
 else bif ((f65 (a0,a3,())).1==(2:Int)) then (g6_)
 else g2_
 let g3_:Option (DenS Fr):=bif (p70 (a1,())) then (bif ((f65 (a0,a3,())).1==(0:Int)) then (some ((f70 (a1,())).1,(1:Int),()))
 else some ((f70 (a1,())).1,(0:Int),()))
 else none
 bif (p65 (a0,a3,())) then (bif (p98 (a0,a3,())) then (bif ((f65 (a0,a3,())).1==(0:Int)) then (bif ((f65 (a0,a3,())).1==(0:Int)) then (g3_)
 else g1_)
 else bif ((f65 (a0,a3,())).1==(1:Int)) then (g3_)
 else g1_)
 else none)
 else none
theorem aS2 (x:DenS ML):run (cf [(55,⟨DL,DR,p65,f65⟩),(119,⟨Fe,Fk,p98,f98⟩),(56,⟨DJ,DE,p70,f70⟩),(65,⟨GG,Gs,p97,f97⟩),(38,⟨EI,E8,p118,f118⟩),(71,⟨G8,GA,p40,f40⟩),(130,⟨JX,Iq,p51,f51⟩)] []) 9 79 Tryz.f79 ML Fr x=dF p65 f65 p98 f98 p70 f70 p97 f97 p118 f118 p40 f40 p51 f51 x.1 x.2.1 x.2.2.1 x.2.2.2.1:=by kernel_rfl
def Xj (x:DenS ML):Option (DenS Fr):=dF AE.pre AE.F Bq.pre Bq.F AB.pre AB.F B6.pre B6.F A1.pre A1.F CF.pre CF.F Dj.pre Dj.F x.1 x.2.1 x.2.2.1 x.2.2.2.1
def Ov:Sum:=Al ML Fr Xj (DenS.dflt Fr)
theorem aLE:Sound Tryz.prog G1 79 Ov:=sd (cf [(55,AE),(119,Bq),(56,AB),(65,B6),(38,A1),(71,CF),(130,Dj)] []) 79 Tryz.f79 ⟨Hn,Sk,GM,Zp,RQ,ZH,pA,trivial⟩ trivial ML Fr Xj _ (fun _=>aS2 ..)
abbrev aFs:=Ak ML
abbrev aG6:=Aj ML Fr
variable (p392:aFs) (f392:aG6)
abbrev OO:Ab:=[(false,.int .i64),(false,.int .i64),(false,.int .i64),(false,.int .u64)]
abbrev PD:Ab:=[(false,.int .u64),(false,.int .i64),(false,.int .i64)]
def kG (p391:aAG) (f391:aEB) (p392:aFs) (f392:aG6) (a0 a1 a2:Aa (.int .i64)) (a3:Aa (.int .u64)):Option (DenS PD) :=
 let e1_:=(f391 ((a0::(a1::[])),(a2::[]),a3,()))
 bif (p391 ((a0::(a1::[])),(a2::[]),a3,())) then (bif (e1_.1 != (0:Int)) then (some ((0:Int),(0:Int),e1_))
 else bif (p392 (a0,a1,a2,a3,())) then (some ((f392 (a0,a1,a2,a3,())).1,(f392 (a0,a1,a2,a3,())).2.1,(0:Int),()))
 else none)
 else none
theorem aQe (x:DenS OO):run (cf [(78,⟨N6,Pm,p391,f391⟩),(79,⟨ML,Fr,p392,f392⟩)] []) 9 23 Tryz.f23 OO PD x=kG p391 f391 p392 f392 x.1 x.2.1 x.2.2.1 x.2.2.2.1:=by kernel_rfl
def Xf (x:DenS OO):Option (DenS PD):=kG OM.pre OM.F Ov.pre Ov.F x.1 x.2.1 x.2.2.1 x.2.2.2.1
def PL:Sum:=Al OO PD Xf (DenS.dflt PD)
theorem aSU:Sound Tryz.prog G1 23 PL:=sd (cf [(78,OM),(79,Ov)] []) 23 Tryz.f23 ⟨aUg,aLE,trivial⟩ trivial OO PD Xf _ (fun _=>aQe ..)
abbrev qV:=Ak OO
abbrev wH:=Aj OO PD
variable (p393:qV) (f393:wH)
abbrev Oi:Ab:=[(true,.pair (.int .i64) (.pair (.int .i64) (.pair (.int .u64) (.pair (.int .u64) (.pair (.int .u64) (.unit))))))]
abbrev NV:Ab:=[(false,.int .u64),(false,.int .i64),(false,.int .i64)]
def aH (p393:qV) (f393:wH) (a0:Aa (.pair (.int .i64) (.pair (.int .i64) (.pair (.int .u64) (.pair (.int .u64) (.pair (.int .u64) (.unit))))))):Option (DenS NV) :=
 let e1_:=(a0.2.1,(IntKind.wrap .i64 a0.2.2.2.2.1),a0.1,a0.2.2.1,())
 bif (p393 e1_) then (some (f393 e1_))
 else none
theorem aKa (x:DenS Oi):run (cf [(23,⟨OO,PD,p393,f393⟩)] []) 9 185 Tryz.f185 Oi NV x=aH p393 f393 x.1:=by kernel_rfl
def Wt (x:DenS Oi):Option (DenS NV):=aH PL.pre PL.F x.1
def KA:Sum:=Al Oi NV Wt (DenS.dflt NV)
theorem aGg:Sound Tryz.prog G1 185 KA:=sd (cf [(23,PL)] []) 185 Tryz.f185 ⟨aSU,trivial⟩ trivial Oi NV Wt _ (fun _=>aKa ..)
abbrev vN:=Ak Oi
abbrev oP:=Aj Oi NV
variable (p408:vN) (f408:oP)
abbrev Pa:Ab:=[(true,.pair (.int .u64) (.pair (.int .u64) (.unit))),(false,.bool)]
abbrev Ny:Ab:=[(false,.int .u64)]
def aQ (a0:Aa (.pair (.int .u64) (.pair (.int .u64) (.unit)))) (a1:Aa (.bool)):Option (DenS Ny) :=
 bif a1 then (some ((IntKind.wrap .u64 ((0:Int)-a0.1)),()))
 else some a0.2
theorem aPY (x:DenS Pa):run (cf [] []) 9 84 Tryz.f84 Pa Ny x=aQ x.1 x.2.1:=by kernel_rfl
def Wq (x:DenS Pa):Option (DenS Ny):=aQ x.1 x.2.1
def PY:Sum:=Al Pa Ny Wq (DenS.dflt Ny)
theorem aNe:Sound Tryz.prog G1 84 PY:=sd (cf [] []) 84 Tryz.f84 trivial trivial Pa Ny Wq _ (fun _=>aPY ..)
abbrev aAd:=Ak Pa
abbrev aEZ:=Aj Pa Ny
variable (p409:aAd) (f409:aEZ)
abbrev O5:Ab:=[(false,.int .i64),(false,.int .i64),(false,.int .i64),(false,.int .u64)]
abbrev He:Ab:=[(false,.int .u64),(false,.int .i64),(false,.int .i64)]
def k8 (p403:gF) (f403:fZ) (p65:Ey) (f65:Eq) (p404:nL) (f404:t6) (p405:tX) (f405:tC) (p178:HO) (f178:In) (p409:aAd) (f409:aEZ) (a0 a1 a2:Aa (.int .i64)) (a3:Aa (.int .u64)):Option (DenS He) :=
 let e18_:=(AT .u64 (f404 (a0,a3,())).1.2.1 (f404 (a0,a3,())).1.2.2.1)
 let e19_:=(Vx.k_kinds.getD (Int.toNat a2) ((0:Int),(0:Int),()))
 let e1_:=(((!(f404 (a0,a3,())).1.1)&&(decide (e18_>e19_.2.1)))||((f404 (a0,a3,())).1.1&&(decide (e18_>e19_.1))))
 let e2_:=(((!(f404 (a0,a3,())).1.1)&&(decide ((f405 (a1,(f404 (a0,a3,())))).1>e19_.2.1)))||((f404 (a0,a3,())).1.1&&(decide ((f405 (a1,(f404 (a0,a3,())))).1>e19_.1))))
 let e3_:=((IntKind.wrap .u64 ((0:Int)-e18_)),(0:Int),(0:Int),())
 let e4_:=((IntKind.wrap .u64 ((0:Int)-e19_.1)),(1:Int),(0:Int),())
 let e16_:=(e19_,(f404 (a0,a3,())).1.1,())
 let e5_:=((f409 e16_).1,(1:Int),(0:Int),())
 let e6_:=(decide ((IntKind.wrap .i64 ((f178 ((f404 (a0,a3,())).1.2.1,())).1+(f404 (a0,a3,())).1.2.2.1))>(64:Int)))
 let e17_:=(IntKind.wrap .u64 ((0:Int)-(f405 (a1,(f404 (a0,a3,())))).1))
 let e7_:=(e17_,(16:Int),(0:Int),())
 let e8_:=(e17_,(0:Int),(0:Int),())
 let e9_:=(e18_,(0:Int),(0:Int),())
 let e10_:=(p409 e16_)
 let e11_:=(e19_.2.1,(1:Int),(0:Int),())
 let e12_:=((f405 (a1,(f404 (a0,a3,())))).1,(16:Int),(0:Int),())
 let e13_:=((f405 (a1,(f404 (a0,a3,())))).1,(0:Int),(0:Int),())
 let e14_:=(decide ((f404 (a0,a3,())).1.2.2.1<(0:Int)))
 let e15_:=(decide ((0:Int)<=(f404 (a0,a3,())).1.2.2.1))
 let g1_:Option (DenS He):=bif ((f65 (a0,a3,())).1==(2:Int)) then (some e4_)
 else bif (p404 (a0,a3,())) then (bif e14_ then (bif (p405 (a1,(f404 (a0,a3,())))) then (bif e2_ then (bif e10_ then (some e5_)
 else none)
 else bif (f404 (a0,a3,())).1.1 then (bif (f405 (a1,(f404 (a0,a3,())))).2.1 then (some e7_)
 else some e8_)
 else bif (f405 (a1,(f404 (a0,a3,())))).2.1 then (some e12_)
 else some e13_)
 else none)
 else bif (p178 ((f404 (a0,a3,())).1.2.1,())) then (bif e6_ then (bif e10_ then (some e5_)
 else none)
 else bif e15_ then (bif e1_ then (bif e10_ then (some e5_)
 else none)
 else bif (f404 (a0,a3,())).1.1 then (some e3_)
 else some e9_)
 else none)
 else none)
 else none
 bif (p403 (a0,a1,())) then (bif ((f403 (a0,a1,())).1 != (0:Int)) then (some ((0:Int),(0:Int),(f403 (a0,a1,()))))
 else bif ((decide (a2<(0:Int)))||(decide (a2>(3:Int)))) then (some ((0:Int),(0:Int),(9:Int),()))
 else bif (p65 (a0,a3,())) then (bif ((f65 (a0,a3,())).2.1 != (0:Int)) then (some ((0:Int),(0:Int),(f65 (a0,a3,())).2))
 else bif (bif (decide ((0:Int)<=a2)) then (decide (a2<((4:Nat):Int))) else false) then (bif ((f65 (a0,a3,())).1==(0:Int)) then (bif ((f65 (a0,a3,())).1==(0:Int)) then (some e11_)
 else g1_)
 else bif ((f65 (a0,a3,())).1==(1:Int)) then (bif ((f65 (a0,a3,())).1==(1:Int)) then (some e11_)
 else g1_)
 else bif ((f65 (a0,a3,())).1==(9:Int)) then (some e11_)
 else g1_)
 else none)
 else none)
 else none
theorem aSM (x:DenS O5):run (cf [(80,⟨I7,IE,p403,f403⟩),(55,⟨DL,DR,p65,f65⟩),(81,⟨LW,Lk,p404,f404⟩),(82,⟨LD,HR,p405,f405⟩),(83,⟨FO,Fo,p178,f178⟩),(84,⟨Pa,Ny,p409,f409⟩)] []) 9 28 Tryz.f28 O5 He x=k8 p403 f403 p65 f65 p404 f404 p405 f405 p178 f178 p409 f409 x.1 x.2.1 x.2.2.1 x.2.2.2.1:=by kernel_rfl
def Zg (x:DenS O5):Option (DenS He):=k8 Ej.pre Ej.F AE.pre AE.F FU.pre FU.F Dn.pre Dn.F Bx.pre Bx.F PY.pre PY.F x.1 x.2.1 x.2.2.1 x.2.2.2.1
def NQ:Sum:=Al O5 He Zg (DenS.dflt He)
theorem aLK:Sound Tryz.prog G1 28 NQ:=sd (cf [(80,Ej),(55,AE),(81,FU),(82,Dn),(83,Bx),(84,PY)] []) 28 Tryz.f28 ⟨vV,Hn,aBg,aGf,Zf,aNe,trivial⟩ trivial O5 He Zg _ (fun _=>aSM ..)
abbrev q7:=Ak O5
abbrev vO:=Aj O5 He
variable (p410:q7) (f410:vO)
abbrev Q9:Ab:=[(true,.pair (.int .i64) (.pair (.int .i64) (.pair (.int .u64) (.pair (.int .u64) (.pair (.int .u64) (.unit))))))]
abbrev Pd:Ab:=[(false,.int .u64),(false,.int .i64),(false,.int .i64)]
def i9 (p410:q7) (f410:vO) (a0:Aa (.pair (.int .i64) (.pair (.int .i64) (.pair (.int .u64) (.pair (.int .u64) (.pair (.int .u64) (.unit))))))):Option (DenS Pd) :=
 let e1_:=(a0.2.1,a0.1,(IntKind.wrap .i64 a0.2.2.2.2.1),a0.2.2.1,())
 bif (p410 e1_) then (some (f410 e1_))
 else none
theorem aST (x:DenS Q9):run (cf [(28,⟨O5,He,p410,f410⟩)] []) 9 186 Tryz.f186 Q9 Pd x=i9 p410 f410 x.1:=by kernel_rfl
def ZX (x:DenS Q9):Option (DenS Pd):=i9 NQ.pre NQ.F x.1
def LF:Sum:=Al Q9 Pd ZX (DenS.dflt Pd)
theorem yQ:Sound Tryz.prog G1 186 LF:=sd (cf [(28,NQ)] []) 186 Tryz.f186 ⟨aLK,trivial⟩ trivial Q9 Pd ZX _ (fun _=>aST ..)
abbrev uU:=Ak Q9
abbrev o0:=Aj Q9 Pd
variable (p411:uU) (f411:o0)
abbrev PO:Ab:=[(false,.int .i64),(false,.int .i64),(false,.int .i64),(false,.int .u64)]
abbrev Nn:Ab:=[(false,.int .u64),(false,.int .i64),(false,.int .i64)]
def eM (p403:gF) (f403:fZ) (p122:Hj) (f122:H7) (a0 a1 a2:Aa (.int .i64)) (a3:Aa (.int .u64)):Option (DenS Nn) :=
 let e8_:=(Vx.k_kinds.getD (Int.toNat a2) ((0:Int),(0:Int),()))
 let e7_:=((decide (e8_.1>(0:Int)))&&((AJ .u64 a3 (63:Int))==(1:Int)))
 let e9_:=(IntKind.wrap .u64 ((0:Int)-a3))
 let e1_:=(a0,a1,e7_,((0:Int),e9_,()),(0:Int),false,())
 let e2_:=(a0,a1,e7_,((0:Int),a3,()),(0:Int),false,())
 let e3_:=(!e7_)
 let e4_:=e7_
 let e5_:=e8_
 let e6_:=e9_
 bif (p403 (a0,a1,())) then (bif ((f403 (a0,a1,())).1 != (0:Int)) then (some ((0:Int),(0:Int),(f403 (a0,a1,()))))
 else bif ((decide (a2<(0:Int)))||(decide (a2>(3:Int)))) then (some ((0:Int),(0:Int),(9:Int),()))
 else bif (bif (decide ((0:Int)<=a2)) then (decide (a2<((4:Nat):Int))) else false) then (bif e4_ then (bif ((e3_&&(decide (e6_>e5_.2.1)))||(e4_&&(decide (e6_>e5_.1)))) then (some ((0:Int),(0:Int),(7:Int),()))
 else bif (p122 e1_) then (some (f122 e1_))
 else none)
 else bif ((e3_&&(decide (a3>e5_.2.1)))||(e4_&&(decide (a3>e5_.1)))) then (some ((0:Int),(0:Int),(7:Int),()))
 else bif (p122 e2_) then (some (f122 e2_))
 else none)
 else none)
 else none
theorem aRV (x:DenS PO):run (cf [(80,⟨I7,IE,p403,f403⟩),(66,⟨E1,Fv,p122,f122⟩)] []) 9 26 Tryz.f26 PO Nn x=eM p403 f403 p122 f122 x.1 x.2.1 x.2.2.1 x.2.2.2.1:=by kernel_rfl
def Wj (x:DenS PO):Option (DenS Nn):=eM Ej.pre Ej.F A4.pre A4.F x.1 x.2.1 x.2.2.1 x.2.2.2.1
def QX:Sum:=Al PO Nn Wj (DenS.dflt Nn)
theorem aKO:Sound Tryz.prog G1 26 QX:=sd (cf [(80,Ej),(66,A4)] []) 26 Tryz.f26 ⟨vV,UB,trivial⟩ trivial PO Nn Wj _ (fun _=>aRV ..)
abbrev rF:=Ak PO
abbrev nS:=Aj PO Nn
variable (p412:rF) (f412:nS)
abbrev QB:Ab:=[(true,.pair (.int .i64) (.pair (.int .i64) (.pair (.int .u64) (.pair (.int .u64) (.pair (.int .u64) (.unit))))))]
abbrev Ns:Ab:=[(false,.int .u64),(false,.int .i64),(false,.int .i64)]
def bF (p412:rF) (f412:nS) (a0:Aa (.pair (.int .i64) (.pair (.int .i64) (.pair (.int .u64) (.pair (.int .u64) (.pair (.int .u64) (.unit))))))):Option (DenS Ns) :=
 let e1_:=(a0.2.1,a0.1,(IntKind.wrap .i64 a0.2.2.2.2.1),a0.2.2.1,())
 bif (p412 e1_) then (some (f412 e1_))
 else none
theorem aNF (x:DenS QB):run (cf [(26,⟨PO,Nn,p412,f412⟩)] []) 9 187 Tryz.f187 QB Ns x=bF p412 f412 x.1:=by kernel_rfl
def WT (x:DenS QB):Option (DenS Ns):=bF QX.pre QX.F x.1
def K5:Sum:=Al QB Ns WT (DenS.dflt Ns)
theorem aGN:Sound Tryz.prog G1 187 K5:=sd (cf [(26,QX)] []) 187 Tryz.f187 ⟨aKO,trivial⟩ trivial QB Ns WT _ (fun _=>aNF ..)
abbrev mT:=Ak QB
abbrev tJ:=Aj QB Ns
variable (p413:mT) (f413:tJ)
abbrev Lp:Ab:=[(false,.int .i64),(false,.int .u64)]
abbrev Mm:Ab:=[(false,.int .u64),(false,.int .i64)]
def Vp (p66:Ck) (f66:Cl) (p115:ZV) (f115:Wn) (a0:Aa (.int .i64)) (a1:Aa (.int .u64)):Option (DenS Mm) :=
 bif (p66 (a0,a1,())) then (bif ((f66 (a0,a1,())).1 != (0:Int)) then (some ((0:Int),(f66 (a0,a1,()))))
 else bif (p115 (a0,())) then (some ((SU .u64 a1 (f115 (a0,())).1),(0:Int),()))
 else none)
 else none
theorem aR1 (x:DenS Lp):run (cf [(59,⟨CJ,CN,p66,f66⟩),(120,⟨IO,IC,p115,f115⟩)] []) 9 147 Tryz.f147 Lp Mm x=Vp p66 f66 p115 f115 x.1 x.2.1:=by kernel_rfl
def SJ (x:DenS Lp):Option (DenS Mm):=Vp Ar.pre Ar.F Do.pre Do.F x.1 x.2.1
def Eg:Sum:=Al Lp Mm SJ (DenS.dflt Mm)
theorem mQ:Sound Tryz.prog G1 147 Eg:=sd (cf [(59,Ar),(120,Do)] []) 147 Tryz.f147 ⟨F4,uH,trivial⟩ trivial Lp Mm SJ _ (fun _=>aR1 ..)
abbrev cY:=Ak Lp
abbrev eO:=Aj Lp Mm
variable (p112:cY) (f112:eO)
abbrev IF:Ab:=[(false,.int .i64),(false,.int .u64)]
abbrev Jc:Ab:=[(true,.pair (.int .i64) (.pair (.int .i64) (.unit))),(false,.int .i64)]
def UC (p65:Ey) (f65:Eq) (p112:cY) (f112:eO) (a0:Aa (.int .i64)) (a1:Aa (.int .u64)):Option (DenS Jc) :=
 let e1_:=(IntKind.wrap .i64 (f112 (a0,a1,())).1)
 bif (p65 (a0,a1,())) then (bif ((f65 (a0,a1,())).2.1 != (0:Int)) then (some (((0:Int),(0:Int),()),(f65 (a0,a1,())).2))
 else bif (p112 (a0,a1,())) then (bif ((f112 (a0,a1,())).1 != a1) then (some (((f65 (a0,a1,())).1,(IntKind.wrap .i64 ((0:Int)-e1_)),()),(0:Int),()))
 else some (((f65 (a0,a1,())).1,e1_,()),(0:Int),()))
 else none)
 else none
theorem r82 (x:DenS IF):run (cf [(55,⟨DL,DR,p65,f65⟩),(147,⟨Lp,Mm,p112,f112⟩)] []) 9 129 Tryz.f129 IF Jc x=UC p65 f65 p112 f112 x.1 x.2.1:=by kernel_rfl
def T8 (x:DenS IF):Option (DenS Jc):=UC AE.pre AE.F Eg.pre Eg.F x.1 x.2.1
def DG:Sum:=Al IF Jc T8 (DenS.dflt Jc)
theorem qD:Sound Tryz.prog G1 129 DG:=sd (cf [(55,AE),(147,Eg)] []) 129 Tryz.f129 ⟨Hn,mQ,trivial⟩ trivial IF Jc T8 _ (fun _=>r82 ..)
abbrev ZJ:=Ak IF
abbrev Xs:=Aj IF Jc
variable (p82:ZJ) (f82:Xs)
abbrev GK:Ab:=[(true,.pair (.int .i64) (.pair (.int .i64) (.unit)))]
abbrev GB:Ab:=[(false,.bool)]
def t53 (a0:Aa (.pair (.int .i64) (.pair (.int .i64) (.unit)))):Option (DenS GB) :=
 some (((a0.1==(1:Int))||(a0.1==(0:Int))),())
theorem r53 (x:DenS GK):run (cf [] []) 9 75 Tryz.f75 GK GB x=t53 x.1:=by kernel_rfl
def Xq (x:DenS GK):Option (DenS GB):=t53 x.1
def CI:Sum:=Al GK GB Xq (DenS.dflt GB)
theorem X6:Sound Tryz.prog G1 75 CI:=sd (cf [] []) 75 Tryz.f75 trivial trivial GK GB Xq _ (fun _=>r53 ..)
abbrev Sl:=Ak GK
abbrev SP:=Aj GK GB
variable (p53:Sl) (f53:SP)
abbrev Gu:Ab:=[(true,.pair (.int .i64) (.pair (.int .i64) (.unit))),(true,.pair (.int .i64) (.pair (.int .i64) (.unit)))]
abbrev Hb:Ab:=[(false,.int .i64)]
def eG (a0 a1:Aa (.pair (.int .i64) (.pair (.int .i64) (.unit)))):Option (DenS Hb) :=
 bif ((a0.1==(0:Int))||(a1.1==(0:Int))) then (some ((1:Int),()))
 else some ((0:Int),())
theorem r54 (x:DenS Gu):run (cf [] []) 9 76 Tryz.f76 Gu Hb x=eG x.1 x.2.1:=by kernel_rfl
def XQ (x:DenS Gu):Option (DenS Hb):=eG x.1 x.2.1
def CH:Sum:=Al Gu Hb XQ (DenS.dflt Hb)
theorem X3:Sound Tryz.prog G1 76 CH:=sd (cf [] []) 76 Tryz.f76 trivial trivial Gu Hb XQ _ (fun _=>r54 ..)
abbrev RO:=Ak Gu
abbrev Sn:=Aj Gu Hb
variable (p54:RO) (f54:Sn)
abbrev P6:Ab:=[(false,.int .i64),(false,.int .u64),(false,.int .i64)]
abbrev Rm:Ab:=[(false,.int .u64),(false,.int .i64),(false,.int .i64)]
def iQ (p82:ZJ) (f82:Xs) (p53:Sl) (f53:SP) (p70:D9) (f70:D4) (p54:RO) (f54:Sn) (p64:Tl) (f64:Vs) (a0:Aa (.int .i64)) (a1:Aa (.int .u64)) (a2:Aa (.int .i64)):Option (DenS Rm) :=
 let e4_:=(IntKind.wrap .i64 ((f82 (a0,a1,())).1.2.1+a2))
 let e1_:=(f64 (a0,(IntKind.wrap .u64 (IntKind.wrap .i64 ((0:Int)-e4_))),()))
 let e2_:=e4_
 let e3_:=((f82 (a0,a1,())).1,(f82 (a0,a1,())).1,())
 bif (p82 (a0,a1,())) then (bif ((f82 (a0,a1,())).2.1 != (0:Int)) then (some ((0:Int),(0:Int),(f82 (a0,a1,())).2))
 else bif (p53 ((f82 (a0,a1,())).1,())) then (bif (f53 ((f82 (a0,a1,())).1,())).1 then (bif (p70 (a0,())) then (bif (p54 e3_) then (some ((f70 (a0,())).1,(f54 e3_).1,(0:Int),()))
 else none)
 else none)
 else bif ((((f82 (a0,a1,())).1.1==(9:Int))&&(decide (a2>(0:Int))))||(((f82 (a0,a1,())).1.1==(2:Int))&&(decide (a2<(0:Int))))) then (some (a1,(0:Int),(0:Int),()))
 else bif ((decide (e2_>(0:Int)))||((e2_==(0:Int))&&(decide (a2<(0:Int))))) then (some ((IntKind.wrap .u64 e2_),(0:Int),(0:Int),()))
 else bif (p64 (a0,(IntKind.wrap .u64 (IntKind.wrap .i64 ((0:Int)-e2_))),())) then (some (e1_.1,(0:Int),e1_.2))
 else none)
 else none)
 else none
theorem r93 (x:DenS P6):run (cf [(129,⟨IF,Jc,p82,f82⟩),(75,⟨GK,GB,p53,f53⟩),(56,⟨DJ,DE,p70,f70⟩),(76,⟨Gu,Hb,p54,f54⟩),(60,⟨JN,I9,p64,f64⟩)] []) 9 146 Tryz.f146 P6 Rm x=iQ p82 f82 p53 f53 p70 f70 p54 f54 p64 f64 x.1 x.2.1 x.2.2.1:=by kernel_rfl
def Zn (x:DenS P6):Option (DenS Rm):=iQ DG.pre DG.F CI.pre CI.F AB.pre AB.F CH.pre CH.F DO.pre DO.F x.1 x.2.1 x.2.2.1
def OI:Sum:=Al P6 Rm Zn (DenS.dflt Rm)
theorem aKK:Sound Tryz.prog G1 146 OI:=sd (cf [(129,DG),(75,CI),(56,AB),(76,CH),(60,DO)] []) 146 Tryz.f146 ⟨qD,X6,GM,X3,kC,trivial⟩ trivial P6 Rm Zn _ (fun _=>r93 ..)
abbrev Y93:=Ak P6
abbrev Z93:=Aj P6 Rm
variable (p93:Y93) (f93:Z93)
abbrev MN:Ab:=[(false,.int .i64),(false,.int .u64)]
abbrev N4:Ab:=[(false,.int .u64),(false,.int .i64),(false,.int .i64)]
def aV (p93:Y93) (f93:Z93) (a0:Aa (.int .i64)) (a1:Aa (.int .u64)):Option (DenS N4) :=
 bif (p93 (a0,a1,(1:Int),())) then (some (f93 (a0,a1,(1:Int),())))
 else none
theorem r41 (x:DenS MN):run (cf [(146,⟨P6,Rm,p93,f93⟩)] []) 9 99 Tryz.f99 MN N4 x=aV p93 f93 x.1 x.2.1:=by kernel_rfl
def Zd (x:DenS MN):Option (DenS N4):=aV OI.pre OI.F x.1 x.2.1
def Oq:Sum:=Al MN N4 Zd (DenS.dflt N4)
theorem aIf:Sound Tryz.prog G1 99 Oq:=sd (cf [(146,OI)] []) 99 Tryz.f99 ⟨aKK,trivial⟩ trivial MN N4 Zd _ (fun _=>r41 ..)
abbrev rC:=Ak MN
abbrev tR:=Aj MN N4
variable (p41:rC) (f41:tR)
abbrev NR:Ab:=[(true,.pair (.int .i64) (.pair (.int .i64) (.pair (.int .u64) (.pair (.int .u64) (.pair (.int .u64) (.unit))))))]
abbrev Q7:Ab:=[(false,.int .u64),(false,.int .i64),(false,.int .i64)]
def dU (p41:rC) (f41:tR) (a0:Aa (.pair (.int .i64) (.pair (.int .i64) (.pair (.int .u64) (.pair (.int .u64) (.pair (.int .u64) (.unit))))))):Option (DenS Q7) :=
 bif (p41 (a0.2.1,a0.2.2.1,())) then (some (f41 (a0.2.1,a0.2.2.1,())))
 else none
theorem aSt (x:DenS NR):run (cf [(99,⟨MN,N4,p41,f41⟩)] []) 9 190 Tryz.f190 NR Q7 x=dU p41 f41 x.1:=by kernel_rfl
def YZ (x:DenS NR):Option (DenS Q7):=dU Oq.pre Oq.F x.1
def Lw:Sum:=Al NR Q7 YZ (DenS.dflt Q7)
theorem aAO:Sound Tryz.prog G1 190 Lw:=sd (cf [(99,Oq)] []) 190 Tryz.f190 ⟨aIf,trivial⟩ trivial NR Q7 YZ _ (fun _=>aSt ..)
abbrev sL:=Ak NR
abbrev pX:=Aj NR Q7
variable (p414:sL) (f414:pX)
abbrev Nr:Ab:=[(false,.int .i64),(false,.int .i64),(false,.int .u64),(false,.int .i64)]
abbrev KC:Ab:=[(false,.int .u64),(false,.int .i64),(false,.int .i64)]
def iV (p69:BL) (f69:BO) (p82:ZJ) (f82:Xs) (p53:Sl) (f53:SP) (p70:D9) (f70:D4) (p54:RO) (f54:Sn) (p40:QU) (f40:Nv) (p51:bM) (f51:fD) (a0 a1:Aa (.int .i64)) (a2:Aa (.int .u64)) (a3:Aa (.int .i64)):Option (DenS KC) :=
 let e3_:=(if ((10000:Int)<a3) then (10000:Int) else a3)
 let e1_:=(a0,a1,((f40 (a0,a2,())).1.1,(f40 (a0,a2,())).1.2.1,(IntKind.wrap .i64 ((f40 (a0,a2,())).1.2.2.1+(if (e3_>(-(10000:Int))) then e3_ else (-(10000:Int))))),()),())
 let e2_:=((f82 (a0,a2,())).1,(f82 (a0,a2,())).1,())
 bif (p69 (a0,())) then (bif ((f69 (a0,())).2.1 != (0:Int)) then (some ((0:Int),(0:Int),(f69 (a0,())).2))
 else bif ((decide (a1<(0:Int)))||(decide (a1>(5:Int)))) then (some ((0:Int),(0:Int),(3:Int),()))
 else bif (p82 (a0,a2,())) then (bif ((f82 (a0,a2,())).2.1 != (0:Int)) then (some ((0:Int),(0:Int),(f82 (a0,a2,())).2))
 else bif (p53 ((f82 (a0,a2,())).1,())) then (bif (f53 ((f82 (a0,a2,())).1,())).1 then (bif (p70 (a0,())) then (bif (p54 e2_) then (some ((f70 (a0,())).1,(f54 e2_).1,(0:Int),()))
 else none)
 else none)
 else bif (p40 (a0,a2,())) then (bif (((f40 (a0,a2,())).2.1 != (0:Int))||((f82 (a0,a2,())).1.2.1==(0:Int))) then (some (a2,(0:Int),(0:Int),()))
 else bif (p51 e1_) then (some (f51 e1_))
 else none)
 else none)
 else none)
 else none)
 else none
theorem r38 (x:DenS Nr):run (cf [(54,⟨Cm,Cn,p69,f69⟩),(129,⟨IF,Jc,p82,f82⟩),(75,⟨GK,GB,p53,f53⟩),(56,⟨DJ,DE,p70,f70⟩),(76,⟨Gu,Hb,p54,f54⟩),(71,⟨G8,GA,p40,f40⟩),(130,⟨JX,Iq,p51,f51⟩)] []) 9 100 Tryz.f100 Nr KC x=iV p69 f69 p82 f82 p53 f53 p70 f70 p54 f54 p40 f40 p51 f51 x.1 x.2.1 x.2.2.1 x.2.2.2.1:=by kernel_rfl
def ZD (x:DenS Nr):Option (DenS KC):=iV Aq.pre Aq.F DG.pre DG.F CI.pre CI.F AB.pre AB.F CH.pre CH.F CF.pre CF.F Dj.pre Dj.F x.1 x.2.1 x.2.2.1 x.2.2.2.1
def NE:Sum:=Al Nr KC ZD (DenS.dflt KC)
theorem aIA:Sound Tryz.prog G1 100 NE:=sd (cf [(54,Aq),(129,DG),(75,CI),(56,AB),(76,CH),(71,CF),(130,Dj)] []) 100 Tryz.f100 ⟨Ep,qD,X6,GM,X3,ZH,pA,trivial⟩ trivial Nr KC ZD _ (fun _=>r38 ..)
abbrev nE:=Ak Nr
abbrev vZ:=Aj Nr KC
variable (p38:nE) (f38:vZ)
abbrev QQ:Ab:=[(true,.pair (.int .i64) (.pair (.int .i64) (.pair (.int .u64) (.pair (.int .u64) (.pair (.int .u64) (.unit))))))]
abbrev Qr:Ab:=[(false,.int .u64),(false,.int .i64),(false,.int .i64)]
def gU (p38:nE) (f38:vZ) (a0:Aa (.pair (.int .i64) (.pair (.int .i64) (.pair (.int .u64) (.pair (.int .u64) (.pair (.int .u64) (.unit))))))):Option (DenS Qr) :=
 let e1_:=(a0.2.1,a0.1,a0.2.2.1,(IntKind.wrap .i64 a0.2.2.2.1),())
 bif (p38 e1_) then (some (f38 e1_))
 else none
theorem aOm (x:DenS QQ):run (cf [(100,⟨Nr,KC,p38,f38⟩)] []) 9 191 Tryz.f191 QQ Qr x=gU p38 f38 x.1:=by kernel_rfl
def XG (x:DenS QQ):Option (DenS Qr):=gU NE.pre NE.F x.1
def KF:Sum:=Al QQ Qr XG (DenS.dflt Qr)
theorem xY:Sound Tryz.prog G1 191 KF:=sd (cf [(100,NE)] []) 191 Tryz.f191 ⟨aIA,trivial⟩ trivial QQ Qr XG _ (fun _=>aOm ..)
abbrev pY:=Ak QQ
abbrev t5:=Aj QQ Qr
variable (p415:pY) (f415:t5)
abbrev Ry:Ab:=[(true,.pair (.int .i64) (.pair (.int .i64) (.pair (.int .u64) (.pair (.int .u64) (.pair (.int .u64) (.unit))))))]
abbrev OL:Ab:=[(false,.int .u64),(false,.int .i64),(false,.int .i64)]
def bE (p65:Ey) (f65:Eq) (a0:Aa (.pair (.int .i64) (.pair (.int .i64) (.pair (.int .u64) (.pair (.int .u64) (.pair (.int .u64) (.unit))))))):Option (DenS OL) :=
 bif (p65 (a0.2.1,a0.2.2.1,())) then (some ((IntKind.wrap .u64 (f65 (a0.2.1,a0.2.2.1,())).1),(0:Int),(f65 (a0.2.1,a0.2.2.1,())).2))
 else none
theorem aNw (x:DenS Ry):run (cf [(55,⟨DL,DR,p65,f65⟩)] []) 9 192 Tryz.f192 Ry OL x=bE p65 f65 x.1:=by kernel_rfl
def XU (x:DenS Ry):Option (DenS OL):=bE AE.pre AE.F x.1
def J7:Sum:=Al Ry OL XU (DenS.dflt OL)
theorem aEH:Sound Tryz.prog G1 192 J7:=sd (cf [(55,AE)] []) 192 Tryz.f192 ⟨Hn,trivial⟩ trivial Ry OL XU _ (fun _=>aNw ..)
abbrev rW:=Ak Ry
abbrev vM:=Aj Ry OL
variable (p416:rW) (f416:vM)
abbrev Ru:Ab:=[(false,.int .i64),(false,.int .u64),(false,.int .u64)]
abbrev Pg:Ab:=[(false,.int .u64),(false,.int .i64)]
def fV (p66:Ck) (f66:Cl) (p115:ZV) (f115:Wn) (a0:Aa (.int .i64)) (a1 a2:Aa (.int .u64)):Option (DenS Pg) :=
 bif (p66 (a0,a1,())) then (bif ((f66 (a0,a1,())).1 != (0:Int)) then (some ((0:Int),(f66 (a0,a1,()))))
 else bif (p66 (a0,a2,())) then (bif ((f66 (a0,a2,())).1 != (0:Int)) then (some ((0:Int),(f66 (a0,a2,()))))
 else bif (p115 (a0,())) then (bif (p115 (a0,())) then (some ((AX .u64 (SU .u64 a1 (f115 (a0,())).1) (AQ .u64 a2 (f115 (a0,())).1)),(0:Int),()))
 else none)
 else none)
 else none)
 else none
theorem aJG (x:DenS Ru):run (cf [(59,⟨CJ,CN,p66,f66⟩),(120,⟨IO,IC,p115,f115⟩)] []) 9 148 Tryz.f148 Ru Pg x=fV p66 f66 p115 f115 x.1 x.2.1 x.2.2.1:=by kernel_rfl
def Y8 (x:DenS Ru):Option (DenS Pg):=fV Ar.pre Ar.F Do.pre Do.F x.1 x.2.1 x.2.2.1
def Rz:Sum:=Al Ru Pg Y8 (DenS.dflt Pg)
theorem aM9:Sound Tryz.prog G1 148 Rz:=sd (cf [(59,Ar),(120,Do)] []) 148 Tryz.f148 ⟨F4,uH,trivial⟩ trivial Ru Pg Y8 _ (fun _=>aJG ..)
abbrev nF:=Ak Ru
abbrev uY:=Aj Ru Pg
variable (p417:nF) (f417:uY)
abbrev Q0:Ab:=[(true,.pair (.int .i64) (.pair (.int .i64) (.pair (.int .u64) (.pair (.int .u64) (.pair (.int .u64) (.unit))))))]
abbrev RD:Ab:=[(false,.int .u64),(false,.int .i64),(false,.int .i64)]
def iJ (p417:nF) (f417:uY) (a0:Aa (.pair (.int .i64) (.pair (.int .i64) (.pair (.int .u64) (.pair (.int .u64) (.pair (.int .u64) (.unit))))))):Option (DenS RD) :=
 bif (p417 (a0.2.1,a0.2.2.1,a0.2.2.2.1,())) then (some ((f417 (a0.2.1,a0.2.2.1,a0.2.2.2.1,())).1,(0:Int),(f417 (a0.2.1,a0.2.2.1,a0.2.2.2.1,())).2))
 else none
theorem aJO (x:DenS Q0):run (cf [(148,⟨Ru,Pg,p417,f417⟩)] []) 9 194 Tryz.f194 Q0 RD x=iJ p417 f417 x.1:=by kernel_rfl
def ZM (x:DenS Q0):Option (DenS RD):=iJ Rz.pre Rz.F x.1
def LR:Sum:=Al Q0 RD ZM (DenS.dflt RD)
theorem aGV:Sound Tryz.prog G1 194 LR:=sd (cf [(148,Rz)] []) 194 Tryz.f194 ⟨aM9,trivial⟩ trivial Q0 RD ZM _ (fun _=>aJO ..)
abbrev qT:=Ak Q0
abbrev sI:=Aj Q0 RD
variable (p418:qT) (f418:sI)
end Vx
namespace Vx
open Go Go.Proofs
variable (p69:BL) (f69:BO) (p66:Ck) (f66:Cl) (p65:Ey) (f65:Eq) (p70:D9) (f70:D4) (p118:GT) (f118:GC) (p178:HO) (f178:In) (p122:Hj) (f122:H7) (p27:eN) (f27:bD) (p64:Tl) (f64:Vs) (p25:tN) (f25:r6) (p354:nH) (f354:pU) (p40:QU) (f40:Nv) (p328:ER) (f328:EF) (p381:vK) (f381:uZ) (p395:qY) (f395:nY) (p318:t9) (f318:v3) (p396:pZ) (f396:oW) (p401:oS) (f401:n7) (p402:o7) (f402:rQ) (p406:rO) (f406:pN) (p407:tU) (f407:qB) (p393:qV) (f393:wH) (p408:vN) (f408:oP) (p410:q7) (f410:vO) (p411:uU) (f411:o0) (p412:rF) (f412:nS) (p413:mT) (f413:tJ) (p112:cY) (f112:eO) (p82:ZJ) (f82:Xs) (p53:Sl) (f53:SP) (p54:RO) (f54:Sn) (p41:rC) (f41:tR) (p414:sL) (f414:pX) (p38:nE) (f38:vZ) (p415:pY) (f415:t5) (p416:rW) (f416:vM) (p417:nF) (f417:uY) (p418:qT) (f418:sI)
abbrev QZ:Ab:=[(false,.int .i64),(false,.int .u64),(false,.int .u64)]
abbrev P4:Ab:=[(false,.int .u64),(false,.int .i64),(false,.bool),(false,.int .i64)]
abbrev HK:Pat:=⟨109,[(32,.one (.v .i64)),(31,.one (.sl (.int .u64))),(33,.one (.v .i64)),(2,.one (.v .u64)),(0,.one (.v .i64)),(1,.one (.v .u64))],[]⟩
abbrev hZ:List (Nat×Shape):=[]
abbrev LY:List (Nat×Pat):=[(0,⟨109,[(2,.one (.v .u64)),(0,.one (.v .i64)),(1,.one (.v .u64))],[]⟩)]
abbrev KZ:Option Pat:=(some ⟨109,[(6,.one (.v .u64)),(7,.one (.v .i64)),(8,.one (.bool)),(9,.one (.v .i64))],[]⟩)
variable (w419_5:Pat.D HK->Option (Ah LY KZ))
def U2 (p69:BL) (f69:BO) (p66:Ck) (f66:Cl) (p65:Ey) (f65:Eq) (p70:D9) (f70:D4) {R:Type} (L:Pat.D HK->Option R) (e:Ah LY KZ->Option R) (x:Pat.D HK):Option R :=
 let e2_:=(x.1.2.2.2.2.1,(x.1.2.1.getD (Int.toNat x.1.2.2.1) (0:Int)),())
 let e1_:=(f66 e2_)
 bif (decide (x.1.2.2.1<x.1.1)) then (bif ((decide ((0:Int)<=x.1.2.2.1))&&(decide (x.1.2.2.1<(x.1.2.1.length:Int)))) then (bif (p66 e2_) then (bif (e1_.1 != (0:Int)) then (((e (.inr (((0:Int),(0:Int),true,e1_),())))))
 else (L ((x.1.1,x.1.2.1,(IntKind.wrap .i64 (x.1.2.2.1+(1:Int))),x.1.2.2.2),())))
 else none)
 else none)
 else (e (.inl (x.1.2.2.2,())))
theorem aRR (d:Nat) (R:Type) (L:Pat.D HK->Option R) (e:Ah LY KZ->Option R) (x:Pat.D HK) :
  Bz (cf [(54,⟨Cm,Cn,p69,f69⟩),(59,⟨CJ,CN,p66,f66⟩),(55,⟨DL,DR,p65,f65⟩),(56,⟨DJ,DE,p70,f70⟩)] [(198,5,LoopSpec.of HK hZ LY KZ w419_5)]) (d+2) 198 (Bw Tryz.f198 5) HK hZ LY KZ (R:=R) L e x=U2 p69 f69 p66 f66 p65 f65 p70 f70 L e x:=by kernel_rfl
theorem aFe (p69:BL) (f69:BO) (p66:Ck) (f66:Cl) (p65:Ey) (f65:Eq) (p70:D9) (f70:D4):Bu fun L e x=>U2 p69 f69 p66 f66 p65 f65 p70 f70 L e x:=by intro _ _ _ _ _ _ _ h0 hL he _; unfold U2; repeat' (first | exact h0 | exact hL _ | exact he _ | apply B3 | (apply BY h0; intro _) | (apply BV <;> intro _))
def kT (p69:BL) (f69:BO) (p66:Ck) (f66:Cl) (p65:Ey) (f65:Eq) (p70:D9) (f70:D4) (w419_5:Pat.D HK->Option (Ah LY KZ)) (a0:Aa (.int .i64)) (a1 a2:Aa (.int .u64)):Option (DenS P4) :=
 bif (p69 (a0,())) then (bif ((f69 (a0,())).2.1 != (0:Int)) then (some ((0:Int),(0:Int),true,(f69 (a0,())).2))
 else Vx.A3 (w419_5 ((((a1::(a2::[])).length:Int),(a1::(a2::[])),(0:Int),a2,a0,a1,()),())) fun y2 =>
 Vx.A6 y2 (fun y3 =>
 bif (p65 y3.1.2) then (bif (p65 (y3.1.2.1,y3.1.1,())) then (bif (p70 (y3.1.2.1,())) then (bif (((f65 y3.1.2).1==(0:Int))||((f65 (y3.1.2.1,y3.1.1,())).1==(0:Int))) then (some ((f70 (y3.1.2.1,())).1,(1:Int),true,(0:Int),()))
 else bif (((f65 y3.1.2).1==(1:Int))||((f65 (y3.1.2.1,y3.1.1,())).1==(1:Int))) then (some ((f70 (y3.1.2.1,())).1,(0:Int),true,(0:Int),()))
 else bif (((((f65 y3.1.2).1==(9:Int))||((f65 y3.1.2).1==(2:Int)))||((f65 (y3.1.2.1,y3.1.1,())).1==(6:Int)))||((f65 (y3.1.2.1,y3.1.1,())).1==(5:Int))) then (some ((f70 (y3.1.2.1,())).1,(1:Int),true,(0:Int),()))
 else bif (((((f65 (y3.1.2.1,y3.1.1,())).1==(9:Int))||((f65 (y3.1.2.1,y3.1.1,())).1==(2:Int)))||((f65 y3.1.2).1==(6:Int)))||((f65 y3.1.2).1==(5:Int))) then (some (y3.1.2.2.1,(0:Int),true,(0:Int),()))
 else some ((0:Int),(0:Int),false,(0:Int),()))
 else none)
 else none)
 else none) (fun z3 =>
 some z3.1))
 else none
theorem aTS (x:DenS QZ):run (cf [(54,⟨Cm,Cn,p69,f69⟩),(59,⟨CJ,CN,p66,f66⟩),(55,⟨DL,DR,p65,f65⟩),(56,⟨DJ,DE,p70,f70⟩)] [(198,5,LoopSpec.of HK hZ LY KZ w419_5)]) 9 198 Tryz.f198 QZ P4 x=kT p69 f69 p66 f66 p65 f65 p70 f70 w419_5 x.1 x.2.1 x.2.2.1:=by kernel_rfl
def UR:HK.D->Option (Ah LY KZ):=Bf fun L=>U2 Aq.pre Aq.F Ar.pre Ar.F AE.pre AE.F AB.pre AB.F L some
def WS (x:DenS QZ):Option (DenS P4):=kT Aq.pre Aq.F Ar.pre Ar.F AE.pre AE.F AB.pre AB.F UR x.1 x.2.1 x.2.2.1
def NA:Sum:=Al QZ P4 WS (DenS.dflt P4)
theorem aQd:Sound Tryz.prog G1 198 NA:=sd (cf [(54,Aq),(59,Ar),(55,AE),(56,AB)] [(198,5,LoopSpec.of HK hZ LY KZ UR)]) 198 Tryz.f198 ⟨Ep,F4,Hn,GM,trivial⟩ ⟨rfl,fun d=>BT (fun L e x=>U2 Aq.pre Aq.F Ar.pre Ar.F AE.pre AE.F AB.pre AB.F L e x) (aFe Aq.pre Aq.F Ar.pre Ar.F AE.pre AE.F AB.pre AB.F) (fun _ _ _ _=>aRR ..),trivial⟩ QZ P4 WS _ (fun _=>aTS ..)
abbrev aEQ:=Ak QZ
abbrev xC:=Aj QZ P4
variable (p419:aEQ) (f419:xC)
abbrev N7:Ab:=[(true,.pair (.bool) (.pair (.slice (.int .u64)) (.pair (.int .i64) (.unit)))),(true,.pair (.bool) (.pair (.slice (.int .u64)) (.pair (.int .i64) (.unit))))]
abbrev OF:Ab:=[(true,.pair (.int .u64) (.pair (.int .u64) (.pair (.int .i64) (.pair (.int .u64) (.unit)))))]
abbrev HB:Pat:=⟨104,[(6,.one (.v .u64)),(9,.one (.v .i64)),(8,.one (.ptr 3 0)),(4,.one (.ptr 2 0))],[.gone,.gone,.raw [.v .u64,.v .u64,.v .i64,.v .u64],.raw [.v .u64,.v .u64,.v .i64,.v .u64]]⟩
abbrev gQ:List (Nat×Shape):=[]
abbrev MI:List (Nat×Pat):=[(0,⟨104,[(8,.one (.ptr 3 0)),(4,.one (.ptr 2 0))],[.gone,.gone,.raw [.v .u64,.v .u64,.v .i64,.v .u64],.raw [.v .u64,.v .u64,.v .i64,.v .u64]]⟩)]
abbrev LC:Option Pat:=none
variable (w420_10:Pat.D HB->Option (Ah MI LC))
def VH (p178:HO) (f178:In) (p328:ER) (f328:EF) {R:Type} (L:Pat.D HB->Option R) (e:Ah MI LC->Option R) (x:Pat.D HB):Option R :=
 let e6_:=(if ((64:Int)<x.1.2.1) then (64:Int) else x.1.2.1)
 let e5_:=(IntKind.wrap .i64 ((64:Int)-e6_))
 let e1_:=(f328 ((AJ .u64 x.2.2.2.2.1.1 e5_),(AT .u64 x.2.2.2.2.1.1 e6_),x.1.1,()))
 let e2_:=e5_
 let e3_:=(decide ((0:Int)<=e6_))
 let e4_:=e6_
 bif (decide (x.1.2.1>(0:Int))) then (bif (decide ((0:Int)<=e2_)) then (bif e3_ then (bif (p328 ((AJ .u64 x.2.2.2.2.1.1 e2_),(AT .u64 x.2.2.2.2.1.1 e4_),x.1.1,())) then (bif e3_ then (((L ((x.1.1,(IntKind.wrap .i64 (x.1.2.1-e4_)),(),(),()),(),(),x.2.2.2.1,(e1_.2.1,x.2.2.2.2.1.2.1,x.2.2.2.2.1.2.2.1,(IntKind.wrap .u64 ((AT .u64 x.2.2.2.2.1.2.2.2.1 e4_)+e1_.1)),()),()))))
 else none)
 else none)
 else none)
 else none)
 else (e (.inl (((),(),()),(),(),x.2.2.2)))
theorem aQN (d:Nat) (R:Type) (L:Pat.D HB->Option R) (e:Ah MI LC->Option R) (x:Pat.D HB) :
  Bz (cf [(83,⟨FO,Fo,p178,f178⟩),(264,⟨EV,EX,p328,f328⟩)] [(199,10,LoopSpec.of HB gQ MI LC w420_10)]) (d+2) 199 (Bw Tryz.f199 10) HB gQ MI LC (R:=R) L e x=VH p178 f178 p328 f328 L e x:=by kernel_rfl
theorem aB0 (p178:HO) (f178:In) (p328:ER) (f328:EF):Bu fun L e x=>VH p178 f178 p328 f328 L e x:=by intro _ _ _ _ _ _ _ h0 hL he _; unfold VH; repeat' (first | exact h0 | exact hL _ | exact he _ | apply B3 | (apply BY h0; intro _) | (apply BV <;> intro _))
def d0 (p178:HO) (f178:In) (p328:ER) (f328:EF) (w420_10:Pat.D HB->Option (Ah MI LC)) (a0 a1:Aa (.pair (.bool) (.pair (.slice (.int .u64)) (.pair (.int .i64) (.unit))))):Option (DenS OF) :=
 let e8_:=(IntKind.wrap .i64 (a1.2.2.1-a0.2.2.1))
 let e7_:=(AT .u64 (a1.2.1.getD (Int.toNat (0:Int)) (0:Int)) e8_)
 let e1_:=(e7_ != (0:Int))
 let e2_:=e7_
 let e3_:=((a1.2.1.getD (Int.toNat (0:Int)) (0:Int)) != (0:Int))
 let e4_:=e8_
 let e5_:=((a1.2.1.getD (Int.toNat (0:Int)) (0:Int)),())
 let e6_:=((a0.2.1.getD (Int.toNat (0:Int)) (0:Int)),())
 bif (decide ((0:Int)<(a0.2.1.length:Int))) then (bif (decide ((0:Int)<(a1.2.1.length:Int))) then (bif (decide (a1.2.2.1>a0.2.2.1)) then (bif (p178 e5_) then (bif (p178 e6_) then (bif (decide ((IntKind.wrap .i64 ((f178 e5_).1+e4_))>(IntKind.wrap .i64 ((f178 e6_).1+(1:Int))))) then (some (((a0.2.1.getD (Int.toNat (0:Int)) (0:Int)),(0:Int),a0.2.2.1,(0:Int),()),()))
 else bif (decide ((0:Int)<=e4_)) then (bif e1_ then (bif e1_ then (some (((Int.tmod (a0.2.1.getD (Int.toNat (0:Int)) (0:Int)) e2_),e2_,a0.2.2.1,(BD .u64 (a0.2.1.getD (Int.toNat (0:Int)) (0:Int)) e2_),()),()))
 else none)
 else none)
 else none)
 else none)
 else none)
 else bif e3_ then (bif e3_ then (Vx.A3 (w420_10 (((a1.2.1.getD (Int.toNat (0:Int)) (0:Int)),(IntKind.wrap .i64 (a0.2.2.1-a1.2.2.1)),(),(),()),(),(),((0:Int),(0:Int),(0:Int),(0:Int),()),((Int.tmod (a0.2.1.getD (Int.toNat (0:Int)) (0:Int)) (a1.2.1.getD (Int.toNat (0:Int)) (0:Int))),(a1.2.1.getD (Int.toNat (0:Int)) (0:Int)),a1.2.2.1,(BD .u64 (a0.2.1.getD (Int.toNat (0:Int)) (0:Int)) (a1.2.1.getD (Int.toNat (0:Int)) (0:Int))),()),())) fun y5 =>
 Vx.A6 y5 (fun y6 =>
 some y6.2.2.2.2) (fun z6 =>
 none))
 else none)
 else none)
 else none)
 else none
theorem aIK (x:DenS N7):run (cf [(83,⟨FO,Fo,p178,f178⟩),(264,⟨EV,EX,p328,f328⟩)] [(199,10,LoopSpec.of HB gQ MI LC w420_10)]) 9 199 Tryz.f199 N7 OF x=d0 p178 f178 p328 f328 w420_10 x.1 x.2.1:=by kernel_rfl
def eY:HB.D->Option (Ah MI LC):=Bf fun L=>VH Bx.pre Bx.F AS.pre AS.F L some
def RX (x:DenS N7):Option (DenS OF):=d0 Bx.pre Bx.F AS.pre AS.F eY x.1 x.2.1
def QM:Sum:=Al N7 OF RX (DenS.dflt OF)
theorem aTT:Sound Tryz.prog G1 199 QM:=sd (cf [(83,Bx),(264,AS)] [(199,10,LoopSpec.of HB gQ MI LC eY)]) 199 Tryz.f199 ⟨Zf,cI,trivial⟩ ⟨rfl,fun d=>BT (fun L e x=>VH Bx.pre Bx.F AS.pre AS.F L e x) (aB0 Bx.pre Bx.F AS.pre AS.F) (fun _ _ _ _=>aQN ..),trivial⟩ N7 OF RX _ (fun _=>aIK ..)
abbrev aBI:=Ak N7
abbrev aC2:=Aj N7 OF
variable (p420:aBI) (f420:aC2)
abbrev J6:Ab:=[(false,.int .i64),(false,.int .u64),(false,.int .u64),(false,.bool)]
abbrev Hu:Ab:=[(false,.int .u64),(false,.int .i64),(false,.int .i64),(false,.int .i64)]
def gY (p419:aEQ) (f419:xC) (p40:QU) (f40:Nv) (p420:aBI) (f420:aC2) (p122:Hj) (f122:H7) (a0:Aa (.int .i64)) (a1 a2:Aa (.int .u64)) (a3:Aa (.bool)):Option (DenS Hu) :=
 let e24_:=((f40 (a0,a1,())).1,(f40 (a0,a2,())).1,())
 let e23_:=(f420 e24_)
 let e20_:=(IntKind.wrap .u64 (e23_.1.2.1-e23_.1.1))
 let e22_:=(e23_.1.2.2.1,false,())
 let e14_:=(((0:Int),e20_,()),e22_)
 let e13_:=(a0,(2:Int),(f40 (a0,a1,())).1.1,e14_)
 let e12_:=(f122 e13_)
 let e1_:=(e12_.1,(IntKind.wrap .i64 (AQ .u64 (IntKind.wrap .u64 (e23_.1.2.2.2.1+(1:Int))) (7:Int))),(0:Int),e12_.2.2)
 let e19_:=(((0:Int),e23_.1.1,()),e22_)
 let e17_:=(a0,(2:Int),(!(f40 (a0,a1,())).1.1),e19_)
 let e15_:=(f122 e17_)
 let e21_:=(IntKind.wrap .i64 (AQ .u64 e23_.1.2.2.2.1 (7:Int)))
 let e2_:=(e15_.1,e21_,(0:Int),e15_.2.2)
 let e18_:=(a0,(2:Int),(f40 (a0,a1,())).1.1,e19_)
 let e16_:=(f122 e18_)
 let e3_:=(e16_.1,e21_,(0:Int),e16_.2.2)
 let e4_:=(f122 (a0,(2:Int),(!(f40 (a0,a1,())).1.1),e14_))
 let e5_:=(p122 e13_)
 let e6_:=(p122 e17_)
 let e7_:=(p122 e18_)
 let e8_:=(e20_==(0:Int))
 let e9_:=(IntKind.wrap .u64 ((2:Int)*e23_.1.1))
 let e10_:=(e23_.1.1==(0:Int))
 let e11_:=e23_
 let g1_:Option (DenS Hu):=bif (a3&&false) then (bif e10_ then (bif e7_ then (some e3_)
 else none)
 else bif e6_ then (some e2_)
 else none)
 else bif e10_ then (bif e7_ then (some e3_)
 else none)
 else bif e7_ then (some e3_)
 else none
 bif (p419 (a0,a1,a2,())) then (bif (f419 (a0,a1,a2,())).2.2.1 then (some ((f419 (a0,a1,a2,())).1,(0:Int),(f419 (a0,a1,a2,())).2.1,(f419 (a0,a1,a2,())).2.2.2))
 else bif (p40 (a0,a1,())) then (bif (p40 (a0,a2,())) then (bif (p420 e24_) then (bif a3 then (bif (((e11_.1.2.1==(0:Int))||(decide (e9_<e11_.1.2.1)))||((e9_==e11_.1.2.1)&&((AQ .u64 e11_.1.2.2.2.1 (1:Int))==(0:Int)))) then (g1_)
 else bif (a3&&true) then (bif e8_ then (bif e5_ then (some e1_)
 else none)
 else bif (p122 (a0,(2:Int),(!(f40 (a0,a1,())).1.1),((0:Int),(IntKind.wrap .u64 (e11_.1.2.1-e11_.1.1)),()),e11_.1.2.2.1,false,())) then (some (e4_.1,(IntKind.wrap .i64 (AQ .u64 (IntKind.wrap .u64 (e11_.1.2.2.2.1+(1:Int))) (7:Int))),(0:Int),e4_.2.2))
 else none)
 else bif e8_ then (bif e5_ then (some e1_)
 else none)
 else bif e5_ then (some e1_)
 else none)
 else g1_)
 else none)
 else none)
 else none)
 else none
theorem aQl (x:DenS J6):run (cf [(198,⟨QZ,P4,p419,f419⟩),(71,⟨G8,GA,p40,f40⟩),(199,⟨N7,OF,p420,f420⟩),(66,⟨E1,Fv,p122,f122⟩)] []) 9 142 Tryz.f142 J6 Hu x=gY p419 f419 p40 f40 p420 f420 p122 f122 x.1 x.2.1 x.2.2.1 x.2.2.2.1:=by kernel_rfl
def WU (x:DenS J6):Option (DenS Hu):=gY NA.pre NA.F CF.pre CF.F QM.pre QM.F A4.pre A4.F x.1 x.2.1 x.2.2.1 x.2.2.2.1
def FW:Sum:=Al J6 Hu WU (DenS.dflt Hu)
theorem aAc:Sound Tryz.prog G1 142 FW:=sd (cf [(198,NA),(71,CF),(199,QM),(66,A4)] []) 142 Tryz.f142 ⟨aQd,ZH,aTT,UB,trivial⟩ trivial J6 Hu WU _ (fun _=>aQl ..)
abbrev rR:=Ak J6
abbrev mZ:=Aj J6 Hu
variable (p421:rR) (f421:mZ)
abbrev Qt:Ab:=[(false,.int .i64),(false,.int .u64),(false,.int .u64)]
abbrev Qa:Ab:=[(false,.int .u64),(false,.int .i64),(false,.int .i64),(false,.int .i64)]
def bH (p421:rR) (f421:mZ) (a0:Aa (.int .i64)) (a1 a2:Aa (.int .u64)):Option (DenS Qa) :=
 bif (p421 (a0,a1,a2,true,())) then (some (f421 (a0,a1,a2,true,())))
 else none
theorem aQC (x:DenS Qt):run (cf [(142,⟨J6,Hu,p421,f421⟩)] []) 9 94 Tryz.f94 Qt Qa x=bH p421 f421 x.1 x.2.1 x.2.2.1:=by kernel_rfl
def WQ (x:DenS Qt):Option (DenS Qa):=bH FW.pre FW.F x.1 x.2.1 x.2.2.1
def Mg:Sum:=Al Qt Qa WQ (DenS.dflt Qa)
theorem aDe:Sound Tryz.prog G1 94 Mg:=sd (cf [(142,FW)] []) 94 Tryz.f94 ⟨aAc,trivial⟩ trivial Qt Qa WQ _ (fun _=>aQC ..)
abbrev aCs:=Ak Qt
abbrev aBo:=Aj Qt Qa
variable (p422:aCs) (f422:aBo)
abbrev MW:Ab:=[(false,.int .i64),(false,.int .u64),(false,.int .u64)]
abbrev Pk:Ab:=[(false,.int .u64),(false,.int .i64),(false,.int .i64),(false,.int .i64)]
def Z3 (p421:rR) (f421:mZ) (a0:Aa (.int .i64)) (a1 a2:Aa (.int .u64)):Option (DenS Pk) :=
 bif (p421 (a0,a1,a2,false,())) then (some (f421 (a0,a1,a2,false,())))
 else none
theorem aTO (x:DenS MW):run (cf [(142,⟨J6,Hu,p421,f421⟩)] []) 9 95 Tryz.f95 MW Pk x=Z3 p421 f421 x.1 x.2.1 x.2.2.1:=by kernel_rfl
def W7 (x:DenS MW):Option (DenS Pk):=Z3 FW.pre FW.F x.1 x.2.1 x.2.2.1
def Mv:Sum:=Al MW Pk W7 (DenS.dflt Pk)
theorem yE:Sound Tryz.prog G1 95 Mv:=sd (cf [(142,FW)] []) 95 Tryz.f95 ⟨aAc,trivial⟩ trivial MW Pk W7 _ (fun _=>aTO ..)
abbrev aGW:=Ak MW
abbrev aAl:=Aj MW Pk
variable (p423:aGW) (f423:aAl)
abbrev gH:Ab:=[(false,.int .i64),(false,.int .u64),(false,.int .u64)]
abbrev iM:Ab:=[(false,.int .u64),(false,.int .i64),(false,.int .i64),(false,.int .i64)]
def MY:SumF:=Jq gH iM [(94,[],Mg),(95,[],Mv)]
theorem aSi:Km Tryz.prog G1 MY:=Ub ⟨DH aDe,⟨DH yE,trivial⟩⟩
abbrev aAv:=Option (Nat×List Nat)->Ak gH
abbrev aB9:=Option (Nat×List Nat)->Aj gH iM
variable (p100004:aAv) (f100004:aB9)
abbrev Rc:Ab:=[(true,.pair (.int .i64) (.pair (.int .i64) (.pair (.int .u64) (.pair (.int .u64) (.pair (.int .u64) .unit))))),(false,.box (.pfn))]
abbrev PW:Ab:=[(false,.int .u64),(false,.int .i64),(false,.int .i64)]
def kA (p100004:aAv) (f100004:aB9) (a0:Aa (.pair (.int .i64) (.pair (.int .i64) (.pair (.int .u64) (.pair (.int .u64) (.pair (.int .u64) .unit)))))) (a1:Aa (.box (.pfn))):Option (DenS PW) :=
 let e1_:=(f100004 (some (a1,[])) (a0.2.1,a0.2.2.1,a0.2.2.2.1,()))
 bif (p100004 (some (a1,[])) (a0.2.1,a0.2.2.1,a0.2.2.2.1,())) then (some (e1_.1,e1_.2.2))
 else none
theorem aRY (x:DenS Rc):run ({ cf [] [] with fns:=[(186,⟨gH,iM,p100004,f100004⟩)] }) 9 256 Tryz.f256 Rc PW x=kA p100004 f100004 x.1 x.2.1:=by kernel_rfl
def Xz (x:DenS Rc):Option (DenS PW):=kA MY.pre MY.F x.1 x.2.1
def FF:Sum:=Al Rc PW Xz (DenS.dflt PW)
theorem oK:Sound Tryz.prog G1 256 FF:=sd ({ cf [] [] with fns:=[(186,MY)] }) 256 Tryz.f256 trivial trivial Rc PW Xz _ (fun _=>aRY ..) (hfs:=⟨aSi,trivial⟩)
abbrev aGi:=Ak Rc
abbrev aFo:=Aj Rc PW
variable (p424:aGi) (f424:aFo)
abbrev Q2:Ab:=[(false,.int .i64),(false,.int .i64)]
abbrev On:Ab:=[(false,.bool)]
def t61 (a0 a1:Aa (.int .i64)):Option (DenS On) :=
 some ((decide (a1<a0)),())
theorem r61 (x:DenS Q2):run (cf [] []) 9 144 Tryz.f144 Q2 On x=t61 x.1 x.2.1:=by kernel_rfl
def XJ (x:DenS Q2):Option (DenS On):=t61 x.1 x.2.1
def QN:Sum:=Al Q2 On XJ (DenS.dflt On)
theorem aQH:Sound Tryz.prog G1 144 QN:=sd (cf [] []) 144 Tryz.f144 trivial trivial Q2 On XJ _ (fun _=>r61 ..)
abbrev Y61:=Ak Q2
abbrev Z61:=Aj Q2 On
variable (p61:Y61) (f61:Z61)
abbrev JH:Ab:=[(false,.int .i64),(false,.int .u64),(false,.int .u64)]
abbrev JF:Ab:=[(true,.pair (.int .i64) (.pair (.int .i64) (.unit))),(true,.pair (.int .i64) (.pair (.int .i64) (.unit))),(false,.int .i64)]
def TT (p82:ZJ) (f82:Xs) (a0:Aa (.int .i64)) (a1 a2:Aa (.int .u64)):Option (DenS JF) :=
 bif (p82 (a0,a1,())) then (bif ((f82 (a0,a1,())).2.1 != (0:Int)) then (some ((f82 (a0,a1,())).1,((0:Int),(0:Int),()),(f82 (a0,a1,())).2))
 else bif (p82 (a0,a2,())) then (some ((f82 (a0,a1,())).1,(f82 (a0,a2,()))))
 else none)
 else none
theorem r52 (x:DenS JH):run (cf [(129,⟨IF,Jc,p82,f82⟩)] []) 9 74 Tryz.f74 JH JF x=TT p82 f82 x.1 x.2.1 x.2.2.1:=by kernel_rfl
def U3 (x:DenS JH):Option (DenS JF):=TT DG.pre DG.F x.1 x.2.1 x.2.2.1
def D0:Sum:=Al JH JF U3 (DenS.dflt JF)
theorem v6:Sound Tryz.prog G1 74 D0:=sd (cf [(129,DG)] []) 74 Tryz.f74 ⟨qD,trivial⟩ trivial JH JF U3 _ (fun _=>r52 ..)
abbrev cD:=Ak JH
abbrev mD:=Aj JH JF
variable (p52:cD) (f52:mD)
abbrev QH:Ab:=[(false,.int .i64),(false,.int .u64),(false,.int .u64)]
abbrev QJ:Ab:=[(false,.int .u64),(false,.int .i64),(false,.int .i64)]
def aF (p61:Y61) (f61:Z61) (p52:cD) (f52:mD) (p54:RO) (f54:Sn) (p70:D9) (f70:D4) (p53:Sl) (f53:SP) (a0:Aa (.int .i64)) (a1 a2:Aa (.int .u64)):Option (DenS QJ) :=
 let e3_:=((f52 (a0,a1,a2,())).1,(f52 (a0,a1,a2,())).2.1,())
 let e1_:=((f54 e3_).1,(0:Int),())
 let e2_:=((f52 (a0,a1,a2,())).1.2.1,(f52 (a0,a1,a2,())).2.1.2)
 bif (p52 (a0,a1,a2,())) then (bif ((f52 (a0,a1,a2,())).2.2.1 != (0:Int)) then (some ((0:Int),(0:Int),(f52 (a0,a1,a2,())).2.2))
 else bif (p54 e3_) then (bif (p53 ((f52 (a0,a1,a2,())).1,())) then (bif ((p53 ((f52 (a0,a1,a2,())).2.1,()))||(!(f53 ((f52 (a0,a1,a2,())).1,())).1)) then (bif ((f53 ((f52 (a0,a1,a2,())).1,())).1&&(f53 ((f52 (a0,a1,a2,())).2.1,())).1) then (bif (p70 (a0,())) then (some ((f70 (a0,())).1,e1_))
 else none)
 else bif (p53 ((f52 (a0,a1,a2,())).1,())) then (bif ((p53 ((f52 (a0,a1,a2,())).2.1,()))||(!(bif (f53 ((f52 (a0,a1,a2,())).1,())).1 then false else true))) then (bif ((p61 e2_)||(!((bif (f53 ((f52 (a0,a1,a2,())).1,())).1 then false else true)&&(bif (f53 ((f52 (a0,a1,a2,())).2.1,())).1 then false else true)))) then (bif ((f53 ((f52 (a0,a1,a2,())).1,())).1||((!(f53 ((f52 (a0,a1,a2,())).2.1,())).1)&&((f61 e2_).1||(((f52 (a0,a1,a2,())).1.2.1==(0:Int))&&((f52 (a0,a1,a2,())).2.1.1==(5:Int)))))) then (some (a2,e1_))
 else some (a1,e1_))
 else none)
 else none)
 else none)
 else none)
 else none)
 else none)
 else none
theorem r19 (x:DenS QH):run (cf [(144,⟨Q2,On,p61,f61⟩),(74,⟨JH,JF,p52,f52⟩),(76,⟨Gu,Hb,p54,f54⟩),(56,⟨DJ,DE,p70,f70⟩),(75,⟨GK,GB,p53,f53⟩)] []) 9 97 Tryz.f97 QH QJ x=aF p61 f61 p52 f52 p54 f54 p70 f70 p53 f53 x.1 x.2.1 x.2.2.1:=by kernel_rfl
def Yk (x:DenS QH):Option (DenS QJ):=aF QN.pre QN.F D0.pre D0.F CH.pre CH.F AB.pre AB.F CI.pre CI.F x.1 x.2.1 x.2.2.1
def K3:Sum:=Al QH QJ Yk (DenS.dflt QJ)
theorem aCi:Sound Tryz.prog G1 97 K3:=sd (cf [(144,QN),(74,D0),(76,CH),(56,AB),(75,CI)] []) 97 Tryz.f97 ⟨aQH,v6,X3,GM,X6,trivial⟩ trivial QH QJ Yk _ (fun _=>r19 ..)
abbrev Y19:=Ak QH
abbrev Z19:=Aj QH QJ
variable (p19:Y19) (f19:Z19)
abbrev Qx:Ab:=[(false,.int .i64),(false,.int .i64)]
abbrev Nt:Ab:=[(false,.bool)]
def t63 (a0 a1:Aa (.int .i64)):Option (DenS Nt) :=
 some ((decide (a1>a0)),())
theorem r63 (x:DenS Qx):run (cf [] []) 9 145 Tryz.f145 Qx Nt x=t63 x.1 x.2.1:=by kernel_rfl
def Wc (x:DenS Qx):Option (DenS Nt):=t63 x.1 x.2.1
def NS:Sum:=Al Qx Nt Wc (DenS.dflt Nt)
theorem aN7:Sound Tryz.prog G1 145 NS:=sd (cf [] []) 145 Tryz.f145 trivial trivial Qx Nt Wc _ (fun _=>r63 ..)
abbrev Y63:=Ak Qx
abbrev xO:=Aj Qx Nt
variable (p63:Y63) (f63:xO)
abbrev Py:Ab:=[(false,.int .i64),(false,.int .u64),(false,.int .u64)]
abbrev NU:Ab:=[(false,.int .u64),(false,.int .i64),(false,.int .i64)]
def fE (p63:Y63) (f63:xO) (p52:cD) (f52:mD) (p54:RO) (f54:Sn) (p70:D9) (f70:D4) (p53:Sl) (f53:SP) (a0:Aa (.int .i64)) (a1 a2:Aa (.int .u64)):Option (DenS NU) :=
 let e3_:=((f52 (a0,a1,a2,())).1,(f52 (a0,a1,a2,())).2.1,())
 let e1_:=((f54 e3_).1,(0:Int),())
 let e2_:=((f52 (a0,a1,a2,())).1.2.1,(f52 (a0,a1,a2,())).2.1.2)
 bif (p52 (a0,a1,a2,())) then (bif ((f52 (a0,a1,a2,())).2.2.1 != (0:Int)) then (some ((0:Int),(0:Int),(f52 (a0,a1,a2,())).2.2))
 else bif (p54 e3_) then (bif (p53 ((f52 (a0,a1,a2,())).1,())) then (bif ((p53 ((f52 (a0,a1,a2,())).2.1,()))||(!(f53 ((f52 (a0,a1,a2,())).1,())).1)) then (bif ((f53 ((f52 (a0,a1,a2,())).1,())).1&&(f53 ((f52 (a0,a1,a2,())).2.1,())).1) then (bif (p70 (a0,())) then (some ((f70 (a0,())).1,e1_))
 else none)
 else bif (p53 ((f52 (a0,a1,a2,())).1,())) then (bif ((p53 ((f52 (a0,a1,a2,())).2.1,()))||(!(bif (f53 ((f52 (a0,a1,a2,())).1,())).1 then false else true))) then (bif ((p63 e2_)||(!((bif (f53 ((f52 (a0,a1,a2,())).1,())).1 then false else true)&&(bif (f53 ((f52 (a0,a1,a2,())).2.1,())).1 then false else true)))) then (bif ((f53 ((f52 (a0,a1,a2,())).1,())).1||((!(f53 ((f52 (a0,a1,a2,())).2.1,())).1)&&((f63 e2_).1||(((f52 (a0,a1,a2,())).1.2.1==(0:Int))&&((f52 (a0,a1,a2,())).2.1.1==(6:Int)))))) then (some (a2,e1_))
 else some (a1,e1_))
 else none)
 else none)
 else none)
 else none)
 else none)
 else none)
 else none
theorem r21 (x:DenS Py):run (cf [(145,⟨Qx,Nt,p63,f63⟩),(74,⟨JH,JF,p52,f52⟩),(76,⟨Gu,Hb,p54,f54⟩),(56,⟨DJ,DE,p70,f70⟩),(75,⟨GK,GB,p53,f53⟩)] []) 9 98 Tryz.f98 Py NU x=fE p63 f63 p52 f52 p54 f54 p70 f70 p53 f53 x.1 x.2.1 x.2.2.1:=by kernel_rfl
def XA (x:DenS Py):Option (DenS NU):=fE NS.pre NS.F D0.pre D0.F CH.pre CH.F AB.pre AB.F CI.pre CI.F x.1 x.2.1 x.2.2.1
def K0:Sum:=Al Py NU XA (DenS.dflt NU)
theorem aGU:Sound Tryz.prog G1 98 K0:=sd (cf [(145,NS),(74,D0),(76,CH),(56,AB),(75,CI)] []) 98 Tryz.f98 ⟨aN7,v6,X3,GM,X6,trivial⟩ trivial Py NU XA _ (fun _=>r21 ..)
abbrev Y21:=Ak Py
abbrev Z21:=Aj Py NU
variable (p21:Y21) (f21:Z21)
abbrev eP:Ab:=[(false,.int .i64),(false,.int .u64),(false,.int .u64)]
abbrev vP:Ab:=[(false,.int .u64),(false,.int .i64),(false,.int .i64)]
def NM:SumF:=Jq eP vP [(97,[],K3),(98,[],K0)]
theorem aKj:Km Tryz.prog G1 NM:=Ub ⟨DH aCi,⟨DH aGU,trivial⟩⟩
abbrev aAX:=Option (Nat×List Nat)->Ak eP
abbrev xR:=Option (Nat×List Nat)->Aj eP vP
variable (p100003:aAX) (f100003:xR)
abbrev Q3:Ab:=[(true,.pair (.int .i64) (.pair (.int .i64) (.pair (.int .u64) (.pair (.int .u64) (.pair (.int .u64) .unit))))),(false,.box (.pfn))]
abbrev Kq:Ab:=[(false,.int .u64),(false,.int .i64),(false,.int .i64)]
def eJ (p100003:aAX) (f100003:xR) (a0:Aa (.pair (.int .i64) (.pair (.int .i64) (.pair (.int .u64) (.pair (.int .u64) (.pair (.int .u64) .unit)))))) (a1:Aa (.box (.pfn))):Option (DenS Kq) :=
 bif (p100003 (some (a1,[])) (a0.2.1,a0.2.2.1,a0.2.2.2.1,())) then (some (f100003 (some (a1,[])) (a0.2.1,a0.2.2.1,a0.2.2.2.1,())))
 else none
theorem aNG (x:DenS Q3):run ({ cf [] [] with fns:=[(31,⟨eP,vP,p100003,f100003⟩)] }) 9 257 Tryz.f257 Q3 Kq x=eJ p100003 f100003 x.1 x.2.1:=by kernel_rfl
def Yb (x:DenS Q3):Option (DenS Kq):=eJ NM.pre NM.F x.1 x.2.1
def FG:Sum:=Al Q3 Kq Yb (DenS.dflt Kq)
theorem qK:Sound Tryz.prog G1 257 FG:=sd ({ cf [] [] with fns:=[(31,NM)] }) 257 Tryz.f257 trivial trivial Q3 Kq Yb _ (fun _=>aNG ..) (hfs:=⟨aKj,trivial⟩)
abbrev aFy:=Ak Q3
abbrev zP:=Aj Q3 Kq
variable (p425:aFy) (f425:zP)
abbrev M5:Ab:=[(false,.int .i64),(false,.int .u64),(false,.int .u64),(false,.bool)]
abbrev Om:Ab:=[(false,.int .i64),(false,.int .i64),(false,.int .i64)]
def iP (p52:cD) (f52:mD) (p53:Sl) (f53:SP) (p54:RO) (f54:Sn) (a0:Aa (.int .i64)) (a1 a2:Aa (.int .u64)) (a3:Aa (.bool)):Option (DenS Om) :=
 let e1_:=((f52 (a0,a1,a2,())).1,(f52 (a0,a1,a2,())).2.1,())
 bif (p52 (a0,a1,a2,())) then (bif ((f52 (a0,a1,a2,())).2.2.1 != (0:Int)) then (some ((0:Int),(0:Int),(f52 (a0,a1,a2,())).2.2))
 else bif (p53 ((f52 (a0,a1,a2,())).1,())) then (bif ((p53 ((f52 (a0,a1,a2,())).2.1,()))||(!(bif (f53 ((f52 (a0,a1,a2,())).1,())).1 then false else true))) then (bif ((f53 ((f52 (a0,a1,a2,())).1,())).1||(f53 ((f52 (a0,a1,a2,())).2.1,())).1) then (bif (p54 e1_) then (bif a3 then (some ((3:Int),(1:Int),(0:Int),()))
 else some ((3:Int),(f54 e1_).1,(0:Int),()))
 else none)
 else bif (decide ((f52 (a0,a1,a2,())).1.2.1<(f52 (a0,a1,a2,())).2.1.2.1)) then (some ((0:Int),(0:Int),(0:Int),()))
 else bif (decide ((f52 (a0,a1,a2,())).1.2.1>(f52 (a0,a1,a2,())).2.1.2.1)) then (some ((2:Int),(0:Int),(0:Int),()))
 else some ((1:Int),(0:Int),(0:Int),()))
 else none)
 else none)
 else none
theorem r14 (x:DenS M5):run (cf [(74,⟨JH,JF,p52,f52⟩),(75,⟨GK,GB,p53,f53⟩),(76,⟨Gu,Hb,p54,f54⟩)] []) 9 21 Tryz.f21 M5 Om x=iP p52 f52 p53 f53 p54 f54 x.1 x.2.1 x.2.2.1 x.2.2.2.1:=by kernel_rfl
def YX (x:DenS M5):Option (DenS Om):=iP D0.pre D0.F CI.pre CI.F CH.pre CH.F x.1 x.2.1 x.2.2.1 x.2.2.2.1
def I8:Sum:=Al M5 Om YX (DenS.dflt Om)
theorem aSv:Sound Tryz.prog G1 21 I8:=sd (cf [(74,D0),(75,CI),(76,CH)] []) 21 Tryz.f21 ⟨v6,X6,X3,trivial⟩ trivial M5 Om YX _ (fun _=>r14 ..)
abbrev Y14:=Ak M5
abbrev Z14:=Aj M5 Om
variable (p14:Y14) (f14:Z14)
abbrev Qz:Ab:=[(true,.pair (.int .i64) (.pair (.int .i64) (.pair (.int .u64) (.pair (.int .u64) (.pair (.int .u64) .unit))))),(false,.box (.bool))]
abbrev OQ:Ab:=[(false,.int .u64),(false,.int .i64),(false,.int .i64)]
def UT (p14:Y14) (f14:Z14) (a0:Aa (.pair (.int .i64) (.pair (.int .i64) (.pair (.int .u64) (.pair (.int .u64) (.pair (.int .u64) .unit)))))) (a1:Aa (.box (.bool))):Option (DenS OQ) :=
 let e1_:=(f14 (a0.2.1,a0.2.2.1,a0.2.2.2.1,a1,()))
 bif (p14 (a0.2.1,a0.2.2.1,a0.2.2.2.1,a1,())) then (some ((IntKind.wrap .u64 e1_.1),e1_.2))
 else none
theorem aQz (x:DenS Qz):run (cf [(21,⟨M5,Om,p14,f14⟩)] []) 9 258 Tryz.f258 Qz OQ x=UT p14 f14 x.1 x.2.1:=by kernel_rfl
def UI (x:DenS Qz):Option (DenS OQ):=UT I8.pre I8.F x.1 x.2.1
def FH:Sum:=Al Qz OQ UI (DenS.dflt OQ)
theorem rV:Sound Tryz.prog G1 258 FH:=sd (cf [(21,I8)] []) 258 Tryz.f258 ⟨aSv,trivial⟩ trivial Qz OQ UI _ (fun _=>aQz ..)
abbrev aAp:=Ak Qz
abbrev aC3:=Aj Qz OQ
variable (p426:aAp) (f426:aC3)
abbrev iK:Ab:=[(false,.int .i64),(false,.int .u64)]
abbrev j2:Ab:=[(false,.int .u64),(false,.int .i64)]
def Rx:SumF:=Jq iK j2 [(60,[],DO),(147,[],Eg)]
theorem aMi:Km Tryz.prog G1 Rx:=Ub ⟨DH kC,⟨DH mQ,trivial⟩⟩
abbrev aCR:=Option (Nat×List Nat)->Ak iK
abbrev aFc:=Option (Nat×List Nat)->Aj iK j2
variable (p100005:aCR) (f100005:aFc)
abbrev OE:Ab:=[(true,.pair (.int .i64) (.pair (.int .i64) (.pair (.int .u64) (.pair (.int .u64) (.pair (.int .u64) .unit))))),(false,.box (.pfn))]
abbrev Qq:Ab:=[(false,.int .u64),(false,.int .i64),(false,.int .i64)]
def jL (p100005:aCR) (f100005:aFc) (a0:Aa (.pair (.int .i64) (.pair (.int .i64) (.pair (.int .u64) (.pair (.int .u64) (.pair (.int .u64) .unit)))))) (a1:Aa (.box (.pfn))):Option (DenS Qq) :=
 let e1_:=(f100005 (some (a1,[])) (a0.2.1,a0.2.2.1,()))
 bif (p100005 (some (a1,[])) (a0.2.1,a0.2.2.1,())) then (some (e1_.1,(0:Int),e1_.2))
 else none
theorem aSI (x:DenS OE):run ({ cf [] [] with fns:=[(35,⟨iK,j2,p100005,f100005⟩)] }) 9 259 Tryz.f259 OE Qq x=jL p100005 f100005 x.1 x.2.1:=by kernel_rfl
def Ww (x:DenS OE):Option (DenS Qq):=jL Rx.pre Rx.F x.1 x.2.1
def FM:Sum:=Al OE Qq Ww (DenS.dflt Qq)
theorem nM:Sound Tryz.prog G1 259 FM:=sd ({ cf [] [] with fns:=[(35,Rx)] }) 259 Tryz.f259 trivial trivial OE Qq Ww _ (fun _=>aSI ..) (hfs:=⟨aMi,trivial⟩)
abbrev aA0:=Ak OE
abbrev aFA:=Aj OE Qq
variable (p427:aA0) (f427:aFA)
abbrev EA:Ab:=[(true,.pair (.int .i64) (.pair (.int .i64) (.pair (.int .u64) (.pair (.int .u64) (.pair (.int .u64) .unit)))))]
abbrev Ed:Ab:=[(false,.int .u64),(false,.int .i64),(false,.int .i64)]
def Jd:SumF:=Jq EA Ed [(255,[17],HM EA Ed Di.pre Di.F 15),(255,[18],HM EA Ed Di.pre Di.F 16),(255,[19],HM EA Ed Di.pre Di.F 17),(255,[20],HM EA Ed Di.pre Di.F 18),(181,[],Kb),(182,[],KW),(184,[],LT),(185,[],KA),(186,[],LF),(187,[],K5),(190,[],Lw),(191,[],KF),(192,[],J7),(194,[],LR),(256,[96],HM EA Ed FF.pre FF.F 94),(256,[97],HM EA Ed FF.pre FF.F 95),(257,[99],HM EA Ed FG.pre FG.F 97),(257,[100],HM EA Ed FG.pre FG.F 98),(258,[0],vB EA Ed FH.pre FH.F false),(258,[1],vB EA Ed FH.pre FH.F true),(259,[62],HM EA Ed FM.pre FM.F 60),(259,[149],HM EA Ed FM.pre FM.F 147)]
theorem aQL:Km Tryz.prog G1 Jd:=Ub ⟨IH Yq 15,⟨IH Yq 16,⟨IH Yq 17,⟨IH Yq 18,⟨DH yK,⟨DH aGe,⟨DH aCy,⟨DH aGg,⟨DH yQ,⟨DH aGN,⟨DH aAO,⟨DH xY,⟨DH aEH,⟨DH aGV,⟨IH oK 94,⟨IH oK 95,⟨IH qK 97,⟨IH qK 98,⟨aFQ rV false,⟨aFQ rV true,⟨IH nM 60,⟨IH nM 147,trivial⟩⟩⟩⟩⟩⟩⟩⟩⟩⟩⟩⟩⟩⟩⟩⟩⟩⟩⟩⟩⟩⟩
abbrev aAM:=Option (Nat×List Nat)->Ak EA
abbrev aHs:=Option (Nat×List Nat)->Aj EA Ed
variable (p100001:aAM) (f100001:aHs)
abbrev Pq:Ab:=[(false,.int .i64)]
abbrev Og:Ab:=[(false,.bool)]
def xT (a0:Aa (.int .i64)):Option (DenS Og) :=
 some (((SU .i64 a0 (31:Int))==(0:Int)),())
theorem aM6 (x:DenS Pq):run (cf [] []) 9 108 Tryz.f108 Pq Og x=xT x.1:=by kernel_rfl
def VD (x:DenS Pq):Option (DenS Og):=xT x.1
def Qh:Sum:=Al Pq Og VD (DenS.dflt Og)
theorem aNs:Sound Tryz.prog G1 108 Qh:=sd (cf [] []) 108 Tryz.f108 trivial trivial Pq Og VD _ (fun _=>aM6 ..)
abbrev aF5:=Ak Pq
abbrev zK:=Aj Pq Og
variable (p428:aF5) (f428:zK)
abbrev P1:Ab:=[(true,.pair (.int .i64) (.pair (.int .i64) (.pair (.int .i64) (.unit))))]
abbrev NK:Ab:=[(false,.int .i64)]
def iB (p428:aF5) (f428:zK) (a0:Aa (.pair (.int .i64) (.pair (.int .i64) (.pair (.int .i64) (.unit))))):Option (DenS NK) :=
 bif ((decide (a0.1<(0:Int)))||(decide (a0.1>(5:Int)))) then (some ((3:Int),()))
 else bif (p428 (a0.2.1,())) then (bif ((p428 a0.2.2)||(!(bif (!(f428 (a0.2.1,())).1) then false else true))) then (bif ((!(f428 (a0.2.1,())).1)||(!(f428 a0.2.2).1)) then (some ((7:Int),()))
 else some ((0:Int),()))
 else none)
 else none
theorem aOw (x:DenS P1):run (cf [(108,⟨Pq,Og,p428,f428⟩)] []) 9 89 Tryz.f89 P1 NK x=iB p428 f428 x.1:=by kernel_rfl
def VE (x:DenS P1):Option (DenS NK):=iB Qh.pre Qh.F x.1
def Oj:Sum:=Al P1 NK VE (DenS.dflt NK)
theorem aNQ:Sound Tryz.prog G1 89 Oj:=sd (cf [(108,Qh)] []) 89 Tryz.f89 ⟨aNs,trivial⟩ trivial P1 NK VE _ (fun _=>aOw ..)
abbrev aDa:=Ak P1
abbrev aFH:=Aj P1 NK
variable (p429:aDa) (f429:aFH)
abbrev Ox:Ab:=[(false,.pfn)]
abbrev QA:Ab:=[(true,.pair (.int .i64) (.pair .fn .unit))]
def aHm (p395:qY) (f395:nY) (a0:Aa (.pfn)):Option (DenS QA) :=
 some (((2:Int),(some ((255:Nat),((a0+(2:Nat))::[]))),()),())
theorem aJg (x:DenS Ox):run (cf [(255,⟨Qp,Kt,p395,f395⟩)] []) 9 180 Tryz.f180 Ox QA x=aHm p395 f395 x.1:=by kernel_rfl
def aDq (x:DenS Ox):Option (DenS QA):=aHm Di.pre Di.F x.1
def bV:Sum:=Al Ox QA aDq (DenS.dflt QA)
theorem aKy:Sound Tryz.prog G1 180 bV:=sd (cf [(255,Di)] []) 180 Tryz.f180 ⟨Yq,trivial⟩ trivial Ox QA aDq _ (fun _=>aJg ..)
abbrev aDn:=Ak Ox
abbrev aDh:=Aj Ox QA
variable (p430:aDn) (f430:aDh)
abbrev Q6:Ab:=[(false,.pfn)]
abbrev PF:Ab:=[(true,.pair (.int .i64) (.pair .fn .unit))]
def aAP (p424:aGi) (f424:aFo) (a0:Aa (.pfn)):Option (DenS PF) :=
 some (((2:Int),(some ((256:Nat),((a0+(2:Nat))::[]))),()),())
theorem aSF (x:DenS Q6):run (cf [(256,⟨Rc,PW,p424,f424⟩)] []) 9 183 Tryz.f183 Q6 PF x=aAP p424 f424 x.1:=by kernel_rfl
def aDi (x:DenS Q6):Option (DenS PF):=aAP FF.pre FF.F x.1
def lA:Sum:=Al Q6 PF aDi (DenS.dflt PF)
theorem aJQ:Sound Tryz.prog G1 183 lA:=sd (cf [(256,FF)] []) 183 Tryz.f183 ⟨oK,trivial⟩ trivial Q6 PF aDi _ (fun _=>aSF ..)
abbrev aA3:=Ak Q6
abbrev yS:=Aj Q6 PF
variable (p431:aA3) (f431:yS)
abbrev Ou:Ab:=[(false,.pfn)]
abbrev PS:Ab:=[(true,.pair (.int .i64) (.pair .fn .unit))]
def x8 (p425:aFy) (f425:zP) (a0:Aa (.pfn)):Option (DenS PS) :=
 some (((2:Int),(some ((257:Nat),((a0+(2:Nat))::[]))),()),())
theorem aTX (x:DenS Ou):run (cf [(257,⟨Q3,Kq,p425,f425⟩)] []) 9 188 Tryz.f188 Ou PS x=x8 p425 f425 x.1:=by kernel_rfl
def aCA (x:DenS Ou):Option (DenS PS):=x8 FG.pre FG.F x.1
def lB:Sum:=Al Ou PS aCA (DenS.dflt PS)
theorem aOI:Sound Tryz.prog G1 188 lB:=sd (cf [(257,FG)] []) 188 Tryz.f188 ⟨qK,trivial⟩ trivial Ou PS aCA _ (fun _=>aTX ..)
abbrev aCn:=Ak Ou
abbrev yC:=Aj Ou PS
variable (p432:aCn) (f432:yC)
abbrev Ol:Ab:=[(false,.bool)]
abbrev M2:Ab:=[(true,.pair (.int .i64) (.pair .fn .unit))]
def aEU (p426:aAp) (f426:aC3) (a0:Aa (.bool)):Option (DenS M2) :=
 some (((2:Int),(some ((258:Nat),((bif a0 then (1:Nat) else (0:Nat))::[]))),()),())
theorem aJ4 (x:DenS Ol):run (cf [(258,⟨Qz,OQ,p426,f426⟩)] []) 9 189 Tryz.f189 Ol M2 x=aEU p426 f426 x.1:=by kernel_rfl
def aFD (x:DenS Ol):Option (DenS M2):=aEU FH.pre FH.F x.1
def f0:Sum:=Al Ol M2 aFD (DenS.dflt M2)
theorem aOS:Sound Tryz.prog G1 189 f0:=sd (cf [(258,FH)] []) 189 Tryz.f189 ⟨rV,trivial⟩ trivial Ol M2 aFD _ (fun _=>aJ4 ..)
abbrev aGA:=Ak Ol
abbrev aBM:=Aj Ol M2
variable (p433:aGA) (f433:aBM)
abbrev Oe:Ab:=[(false,.pfn)]
abbrev PA:Ab:=[(true,.pair (.int .i64) (.pair .fn .unit))]
def aHl (p427:aA0) (f427:aFA) (a0:Aa (.pfn)):Option (DenS PA) :=
 some (((1:Int),(some ((259:Nat),((a0+(2:Nat))::[]))),()),())
theorem aJF (x:DenS Oe):run (cf [(259,⟨OE,Qq,p427,f427⟩)] []) 9 193 Tryz.f193 Oe PA x=aHl p427 f427 x.1:=by kernel_rfl
def yD (x:DenS Oe):Option (DenS PA):=aHl FM.pre FM.F x.1
def jF:Sum:=Al Oe PA yD (DenS.dflt PA)
theorem aSL:Sound Tryz.prog G1 193 jF:=sd (cf [(259,FM)] []) 193 Tryz.f193 ⟨nM,trivial⟩ trivial Oe PA yD _ (fun _=>aJF ..)
abbrev aCH:=Ak Oe
abbrev aGT:=Aj Oe PA
variable (p434:aCH) (f434:aGT)
abbrev Qe:Ab:=[]
abbrev QL:Ab:=[(false,.slice (.pair (.int .i64) (.pair .fn .unit)))]
def aEA (p27:eN) (f27:bD) (p25:tN) (f25:r6) (p354:nH) (f354:pU) (p381:vK) (f381:uZ) (p430:aDn) (f430:aDh) (p396:pZ) (f396:oW) (p402:o7) (f402:rQ) (p422:aCs) (f422:aBo) (p423:aGW) (f423:aAl) (p431:aA3) (f431:yS) (p407:tU) (f407:qB) (p408:vN) (f408:oP) (p411:uU) (f411:o0) (p413:mT) (f413:tJ) (p19:Y19) (f19:Z19) (p21:Y21) (f21:Z21) (p432:aCn) (f432:yC) (p433:aGA) (f433:aBM) (p414:sL) (f414:pX) (p415:pY) (f415:t5) (p416:rW) (f416:vM) (p64:Tl) (f64:Vs) (p112:cY) (f112:eO) (p434:aCH) (f434:aGT) (p418:qT) (f418:sI):Option (DenS QL) :=
 bif (p430 ((15:Nat),())) then (bif (p430 ((16:Nat),())) then (bif (p430 ((17:Nat),())) then (bif (p430 ((18:Nat),())) then (bif (p431 ((94:Nat),())) then (bif (p431 ((95:Nat),())) then (bif (p432 ((97:Nat),())) then (bif (p432 ((98:Nat),())) then (bif (p433 (false,())) then (bif (p433 (true,())) then (bif (p434 ((60:Nat),())) then (bif (p434 ((147:Nat),())) then (some ((((0:Int),none,())::((f430 ((15:Nat),())).1::((f430 ((16:Nat),())).1::((f430 ((17:Nat),())).1::((f430 ((18:Nat),())).1::(((1:Int),(some ((181:Nat),[])),())::(((3:Int),(some ((182:Nat),[])),())::((f431 ((94:Nat),())).1::((f431 ((95:Nat),())).1::(((1:Int),(some ((184:Nat),[])),())::(((1:Int),(some ((185:Nat),[])),())::(((1:Int),(some ((186:Nat),[])),())::(((0:Int),(some ((187:Nat),[])),())::((f432 ((97:Nat),())).1::((f432 ((98:Nat),())).1::((f433 (false,())).1::((f433 (true,())).1::(((1:Int),(some ((190:Nat),[])),())::(((1:Int),(some ((191:Nat),[])),())::(((1:Int),(some ((192:Nat),[])),())::((f434 ((60:Nat),())).1::((f434 ((147:Nat),())).1::(((2:Int),(some ((194:Nat),[])),())::[]))))))))))))))))))))))),()))
 else none)
 else none)
 else none)
 else none)
 else none)
 else none)
 else none)
 else none)
 else none)
 else none)
 else none)
 else none
theorem aJk (x:DenS Qe):run (cf [(15,⟨MF,Mb,p27,f27⟩),(16,⟨Nu,Qd,p25,f25⟩),(17,⟨Ro,PR,p354,f354⟩),(18,⟨PK,KL,p381,f381⟩),(180,⟨Ox,QA,p430,f430⟩),(181,⟨P8,QD,p396,f396⟩),(182,⟨Ri,Ot,p402,f402⟩),(94,⟨Qt,Qa,p422,f422⟩),(95,⟨MW,Pk,p423,f423⟩),(183,⟨Q6,PF,p431,f431⟩),(184,⟨Ql,MZ,p407,f407⟩),(185,⟨Oi,NV,p408,f408⟩),(186,⟨Q9,Pd,p411,f411⟩),(187,⟨QB,Ns,p413,f413⟩),(97,⟨QH,QJ,p19,f19⟩),(98,⟨Py,NU,p21,f21⟩),(188,⟨Ou,PS,p432,f432⟩),(189,⟨Ol,M2,p433,f433⟩),(190,⟨NR,Q7,p414,f414⟩),(191,⟨QQ,Qr,p415,f415⟩),(192,⟨Ry,OL,p416,f416⟩),(60,⟨JN,I9,p64,f64⟩),(147,⟨Lp,Mm,p112,f112⟩),(193,⟨Oe,PA,p434,f434⟩),(194,⟨Q0,RD,p418,f418⟩)] []) 9 132 Tryz.f132 Qe QL x=aEA p27 f27 p25 f25 p354 f354 p381 f381 p430 f430 p396 f396 p402 f402 p422 f422 p423 f423 p431 f431 p407 f407 p408 f408 p411 f411 p413 f413 p19 f19 p21 f21 p432 f432 p433 f433 p414 f414 p415 f415 p416 f416 p64 f64 p112 f112 p434 f434 p418 f418:=by kernel_rfl
def aFZ (x:DenS Qe):Option (DenS QL):=aEA FJ.pre FJ.F Mu.pre Mu.F Kj.pre Kj.F Ln.pre Ln.F bV.pre bV.F Kb.pre Kb.F KW.pre KW.F Mg.pre Mg.F Mv.pre Mv.F lA.pre lA.F LT.pre LT.F KA.pre KA.F LF.pre LF.F K5.pre K5.F K3.pre K3.F K0.pre K0.F lB.pre lB.F f0.pre f0.F Lw.pre Lw.F KF.pre KF.F J7.pre J7.F DO.pre DO.F Eg.pre Eg.F jF.pre jF.F LR.pre LR.F
def F0:Sum:=Al Qe QL aFZ (DenS.dflt QL)
theorem aLT:Sound Tryz.prog G1 132 F0:=sd (cf [(15,FJ),(16,Mu),(17,Kj),(18,Ln),(180,bV),(181,Kb),(182,KW),(94,Mg),(95,Mv),(183,lA),(184,LT),(185,KA),(186,LF),(187,K5),(97,K3),(98,K0),(188,lB),(189,f0),(190,Lw),(191,KF),(192,J7),(60,DO),(147,Eg),(193,jF),(194,LR)] []) 132 Tryz.f132 ⟨uG,xQ,aFE,aEq,aKy,yK,aGe,aDe,yE,aJQ,aCy,aGg,yQ,aGN,aCi,aGU,aOI,aOS,aAO,xY,aEH,kC,mQ,aSL,aGV,trivial⟩ trivial Qe QL aFZ _ (fun _=>aJk ..)
abbrev aC9:=Ak Qe
abbrev aBf:=Aj Qe QL
variable (p435:aC9) (f435:aBf)
abbrev Pl:Ab:=[(false,.int .i64)]
abbrev RB:Ab:=[(true,.pair (.int .i64) (.pair .fn .unit)),(false,.int .i64)]
def U8 (p435:aC9) (f435:aBf) (a0:Aa (.int .i64)):Option (DenS RB) :=
 bif (p435 ()) then (bif ((decide (a0<(1:Int)))||(decide (a0>=((f435 ()).1.length:Int)))) then (some (((0:Int),none,()),(190:Int),()))
 else bif ((decide ((0:Int)<=a0))&&(decide (a0<((f435 ()).1.length:Int)))) then (some (((f435 ()).1.getD (Int.toNat a0) ((0:Int),none,())),(0:Int),()))
 else none)
 else none
theorem aJz (x:DenS Pl):run (cf [(132,⟨Qe,QL,p435,f435⟩)] []) 9 90 Tryz.f90 Pl RB x=U8 p435 f435 x.1:=by kernel_rfl
def Rg (x:DenS Pl):Option (DenS RB):=U8 F0.pre F0.F x.1
def Mw:Sum:=Al Pl RB Rg (DenS.dflt RB)
theorem aJt:Sound Tryz.prog G1 90 Mw:=sd (cf [(132,F0)] []) 90 Tryz.f90 ⟨aLT,trivial⟩ trivial Pl RB Rg _ (fun _=>aJz ..)
abbrev aG4:=Ak Pl
abbrev aCb:=Aj Pl RB
variable (p436:aG4) (f436:aCb)
abbrev NH:Ab:=[(false,.int .i64),(true,.pair (.int .i64) (.pair .fn .unit)),(true,.pair (.int .i64) (.pair (.int .i64) (.pair (.int .u64) (.pair (.int .u64) (.pair (.int .u64) .unit)))))]
abbrev IT:Ab:=[(false,.int .i64)]
abbrev Ia:Pat:=⟨84,[(43,.one (.v .i64)),(42,.one (.sl (.int .u64))),(44,.one (.v .i64)),(0,.one (.v .i64)),(5,.one (.ptr 1 0))],[.gone,.raw [.v .i64,.v .i64,.v .u64,.v .u64,.v .u64]]⟩
abbrev lK:List (Nat×Shape):=[]
abbrev Lq:List (Nat×Pat):=[(1,⟨84,[(0,.one (.v .i64)),(5,.one (.ptr 1 0))],[.gone,.raw [.v .i64,.v .i64,.v .u64,.v .u64,.v .u64]]⟩)]
abbrev Lg:Option Pat:=(some ⟨84,[(6,.one (.v .i64))],[]⟩)
variable (w437_13:Pat.D Ia->Option (Ah Lq Lg))
def Uf (p69:BL) (f69:BO) (p66:Ck) (f66:Cl) {R:Type} (L:Pat.D Ia->Option R) (e:Ah Lq Lg->Option R) (x:Pat.D Ia):Option R :=
 let e2_:=(x.2.2.1.2.1,(x.1.2.1.getD (Int.toNat x.1.2.2.1) (0:Int)),())
 let e1_:=(f66 e2_)
 bif (decide (x.1.2.2.1<x.1.1)) then (bif ((decide ((0:Int)<=x.1.2.2.1))&&(decide (x.1.2.2.1<(x.1.2.1.length:Int)))) then (bif (p66 e2_) then (bif (e1_.1 != (0:Int)) then (((e (.inr (e1_,())))))
 else (L ((x.1.1,x.1.2.1,(IntKind.wrap .i64 (x.1.2.2.1+(1:Int))),x.1.2.2.2.1,(),()),(),x.2.2)))
 else none)
 else none)
 else (e (.inl ((x.1.2.2.2.1,(),()),(),x.2.2)))
theorem aOU (d:Nat) (R:Type) (L:Pat.D Ia->Option R) (e:Ah Lq Lg->Option R) (x:Pat.D Ia) :
  Bz (cf [(54,⟨Cm,Cn,p69,f69⟩),(59,⟨CJ,CN,p66,f66⟩)] [(91,13,LoopSpec.of Ia lK Lq Lg w437_13)]) (d+2) 91 (Bw Tryz.f91 13) Ia lK Lq Lg (R:=R) L e x=Uf p69 f69 p66 f66 L e x:=by kernel_rfl
theorem aCG (p69:BL) (f69:BO) (p66:Ck) (f66:Cl):Bu fun L e x=>Uf p69 f69 p66 f66 L e x:=by intro _ _ _ _ _ _ _ h0 hL he _; unfold Uf; repeat' (first | exact h0 | exact hL _ | exact he _ | apply B3 | (apply BY h0; intro _) | (apply BV <;> intro _))
def dA (p69:BL) (f69:BO) (p66:Ck) (f66:Cl) (w437_13:Pat.D Ia->Option (Ah Lq Lg)) (a0:Aa (.int .i64)) (a1:Aa (.pair (.int .i64) (.pair .fn .unit))) (a2:Aa (.pair (.int .i64) (.pair (.int .i64) (.pair (.int .u64) (.pair (.int .u64) (.pair (.int .u64) .unit)))))):Option (DenS IT) :=
 let e4_:=(a2.2.2.1::(a2.2.2.2.1::(a2.2.2.2.2.1::[])))
 let e3_:=((e4_.take (Int.toNat a1.1)).drop (Int.toNat (0:Int)))
 let e1_:=(w437_13 (((e3_.length:Int),e3_,(0:Int),a0,(),()),(),(a2.1,a2.2),()))
 let e2_:=((decide ((0:Int)<=a1.1))&&(decide (a1.1<=(e4_.length:Int))))
 let g1_:Option (DenS IT):=bif (decide (a2.2.2.2.2.1>(3:Int))) then (some ((9:Int),()))
 else bif e2_ then (Vx.A3 e1_ fun y7 =>
 Vx.A6 y7 (fun y8 =>
 bif (y8.1.1==(12:Int)) then (bif ((((IntKind.wrap .i64 y8.2.2.1.2.2.2.2.1)==(0:Int))&&((IntKind.wrap .u64 (IntKind.wrap .i64 (IntKind.wrap .i32 y8.2.2.1.2.2.1))) != y8.2.2.1.2.2.1))||(((IntKind.wrap .i64 y8.2.2.1.2.2.2.2.1)==(2:Int))&&((AJ .u64 y8.2.2.1.2.2.1 (32:Int)) != (0:Int)))) then (some ((4:Int),()))
 else some ((0:Int),()))
 else some ((0:Int),())) (fun z8 =>
 some z8.1))
 else none
 let g2_:Option (DenS IT):=bif e2_ then (Vx.A3 e1_ fun y6 =>
 Vx.A6 y6 (fun y7 =>
 bif (y7.1.1==(12:Int)) then (bif ((((IntKind.wrap .i64 y7.2.2.1.2.2.2.2.1)==(0:Int))&&((IntKind.wrap .u64 (IntKind.wrap .i64 (IntKind.wrap .i32 y7.2.2.1.2.2.1))) != y7.2.2.1.2.2.1))||(((IntKind.wrap .i64 y7.2.2.1.2.2.2.2.1)==(2:Int))&&((AJ .u64 y7.2.2.1.2.2.1 (32:Int)) != (0:Int)))) then (some ((4:Int),()))
 else some ((0:Int),()))
 else some ((0:Int),())) (fun z7 =>
 some z7.1))
 else none
 bif (p69 (a2.2.1,())) then (bif ((f69 (a2.2.1,())).2.1 != (0:Int)) then (some (f69 (a2.2.1,())).2)
 else bif (a0==(10:Int)) then (bif (decide (a2.2.2.2.2.1>(3:Int))) then (some ((2:Int),()))
 else bif e2_ then (Vx.A3 e1_ fun y5 =>
 Vx.A6 y5 (fun y6 =>
 bif (y6.1.1==(12:Int)) then (bif ((((IntKind.wrap .i64 y6.2.2.1.2.2.2.2.1)==(0:Int))&&((IntKind.wrap .u64 (IntKind.wrap .i64 (IntKind.wrap .i32 y6.2.2.1.2.2.1))) != y6.2.2.1.2.2.1))||(((IntKind.wrap .i64 y6.2.2.1.2.2.2.2.1)==(2:Int))&&((AJ .u64 y6.2.2.1.2.2.1 (32:Int)) != (0:Int)))) then (some ((4:Int),()))
 else some ((0:Int),()))
 else some ((0:Int),())) (fun z6 =>
 some z6.1))
 else none)
 else bif (a0==(11:Int)) then (bif (a0==(11:Int)) then (g1_)
 else g2_)
 else bif (a0==(12:Int)) then (g1_)
 else g2_)
 else none
theorem aSn (x:DenS NH):run (cf [(54,⟨Cm,Cn,p69,f69⟩),(59,⟨CJ,CN,p66,f66⟩)] [(91,13,LoopSpec.of Ia lK Lq Lg w437_13)]) 9 91 Tryz.f91 NH IT x=dA p69 f69 p66 f66 w437_13 x.1 x.2.1 x.2.2.1:=by kernel_rfl
def dG:Ia.D->Option (Ah Lq Lg):=Bf fun L=>Uf Aq.pre Aq.F Ar.pre Ar.F L some
def V7 (x:DenS NH):Option (DenS IT):=dA Aq.pre Aq.F Ar.pre Ar.F dG x.1 x.2.1 x.2.2.1
def Nj:Sum:=Al NH IT V7 (DenS.dflt IT)
theorem aRz:Sound Tryz.prog G1 91 Nj:=sd (cf [(54,Aq),(59,Ar)] [(91,13,LoopSpec.of Ia lK Lq Lg dG)]) 91 Tryz.f91 ⟨Ep,F4,trivial⟩ ⟨rfl,fun d=>BT (fun L e x=>Uf Aq.pre Aq.F Ar.pre Ar.F L e x) (aCG Aq.pre Aq.F Ar.pre Ar.F) (fun _ _ _ _=>aOU ..),trivial⟩ NH IT V7 _ (fun _=>aSn ..)
abbrev aF9:=Ak NH
abbrev aF4:=Aj NH IT
variable (p437:aF9) (f437:aF4)
abbrev Ja:Ab:=[(true,.pair (.int .i64) (.pair (.int .i64) (.pair (.int .i64) (.unit)))),(false,.int .i64),(false,.int .i64),(false,.int .u64),(false,.int .u64),(false,.int .u64)]
abbrev IU:Ab:=[(true,.pair (.int .u64) (.pair (.int .i64) (.pair (.int .i64) (.pair (.pair (.int .i64) (.pair (.int .i64) (.pair (.int .i64) (.unit)))) (.unit))))),(false,.int .i64)]
def jU (p429:aDa) (f429:aFH) (p436:aG4) (f436:aCb) (p437:aF9) (f437:aF4) (p100001:aAM) (f100001:aHs) (a0:Aa (.pair (.int .i64) (.pair (.int .i64) (.pair (.int .i64) (.unit))))) (a1 a2:Aa (.int .i64)) (a3 a4 a5:Aa (.int .u64)):Option (DenS IU) :=
 let e5_:=(f100001 (f436 (a1,())).1.2.1 ((a0.1,a2,a3,a4,a5,()),()))
 let e1_:=(AQ .i64 e5_.2.1 a0.2.2.1)
 let e2_:=((0:Int),(0:Int),(0:Int),((0:Int),(0:Int),(0:Int),()),())
 let e6_:=(a1,(f436 (a1,())).1,(a0.1,a2,a3,a4,a5,()),())
 let e3_:=(f437 e6_)
 let e4_:=e5_
 bif (p429 ((a0.1,a0.2),())) then (bif ((f429 ((a0.1,a0.2),())).1 != (0:Int)) then (some (e2_,(f429 ((a0.1,a0.2),()))))
 else bif (p436 (a1,())) then (bif ((f436 (a1,())).2.1 != (0:Int)) then (some (e2_,(f436 (a1,())).2))
 else bif (p437 e6_) then (bif (e3_.1 != (0:Int)) then (some (e2_,e3_))
 else bif (p100001 (f436 (a1,())).1.2.1 ((a0.1,a2,a3,a4,a5,()),())) then (bif (e4_.2.2.1 != (0:Int)) then (some (e2_,e4_.2.2))
 else bif (e1_ != (0:Int)) then (some (((0:Int),e4_.2.1,(AQ .i64 e1_ (IntKind.wrap .i64 ((0:Int)-e1_))),(a0.1,a0.2),()),(0:Int),()))
 else some ((e4_.1,e4_.2.1,(0:Int),(a0.1,(AX .i64 a0.2.1 e4_.2.1),a0.2.2),()),(0:Int),()))
 else none)
 else none)
 else none)
 else none
theorem aUD (x:DenS Ja):run ({ cf [(89,⟨P1,NK,p429,f429⟩),(90,⟨Pl,RB,p436,f436⟩),(91,⟨NH,IT,p437,f437⟩)] [] with fns:=[(31,⟨EA,Ed,p100001,f100001⟩)] }) 9 36 Tryz.f36 Ja IU x=jU p429 f429 p436 f436 p437 f437 p100001 f100001 x.1 x.2.1 x.2.2.1 x.2.2.2.1 x.2.2.2.2.1 x.2.2.2.2.2.1:=by kernel_rfl
def R7 (x:DenS Ja):Option (DenS IU):=jU Oj.pre Oj.F Mw.pre Mw.F Nj.pre Nj.F Jd.pre Jd.F x.1 x.2.1 x.2.2.1 x.2.2.2.1 x.2.2.2.2.1 x.2.2.2.2.2.1
def Ec:Sum:=Al Ja IU R7 (DenS.dflt IU)
theorem nP:Sound Tryz.prog G1 36 Ec:=sd ({ cf [(89,Oj),(90,Mw),(91,Nj)] [] with fns:=[(31,Jd)] }) 36 Tryz.f36 ⟨aNQ,aJt,aRz,trivial⟩ trivial Ja IU R7 _ (fun _=>aUD ..) (hfs:=⟨aQL,trivial⟩)
abbrev cQ:=Ak Ja
abbrev eB:=Aj Ja IU
variable (p438:cQ) (f438:eB)
abbrev Kz:Ab:=[]
abbrev JZ:Ab:=[(false,.bool)]
def aD (p438:cQ) (f438:eB):Option (DenS JZ) :=
 let e2_:=(((0:Int),(0:Int),(2:Int),()),(4:Int),(0:Int),(15360:Int),(0:Int),(7:Int),())
 let e1_:=(f438 e2_)
 bif (p438 e2_) then (some (((e1_.2.1==(0:Int))&&((e1_.1.1==(0:Int))&&((e1_.1.2.1==(2:Int))&&((e1_.1.2.2.1==(2:Int))&&((e1_.1.2.2.2.1.1==(0:Int))&&((e1_.1.2.2.2.1.2.1==(0:Int))&&(e1_.1.2.2.2.1.2.2.1==(2:Int)))))))),()))
 else none
theorem aR6 (x:DenS Kz):run (cf [(36,⟨Ja,IU,p438,f438⟩)] []) 9 35 Tryz.f35 Kz JZ x=aD p438 f438:=by kernel_rfl
def X7 (x:DenS Kz):Option (DenS JZ):=aD Ec.pre Ec.F
def FV:Sum:=Al Kz JZ X7 (DenS.dflt JZ)
theorem yL:Sound Tryz.prog G1 35 FV:=sd (cf [(36,Ec)] []) 35 Tryz.f35 ⟨nP,trivial⟩ trivial Kz JZ X7 _ (fun _=>aR6 ..)
abbrev wO:=Ak Kz
abbrev tS:=Aj Kz JZ
variable (p439:wO) (f439:tS)
abbrev aAg:Ab:=[(false,.int .i64),(false,.int .i64),(false,.int .u64),(false,.int .u64)]
abbrev aJu:Ab:=[(false,.int .u64),(false,.int .i64),(false,.int .i64),(false,.bool)]
abbrev aJ6:=Ak aAg
abbrev aQD:=Aj aAg aJu
variable (p440:aJ6) (f440:aQD)
abbrev aDU:Ab:=[(false,.int .i64),(false,.int .i64),(false,.int .i64),(false,.int .u64),(false,.int .u64),(false,.int .u64)]
abbrev aME:Ab:=[(false,.int .u64),(false,.int .i64),(false,.int .i64),(false,.bool)]
abbrev aId:=Ak aDU
abbrev aK8:=Aj aDU aME
variable (p441:aId) (f441:aK8)
abbrev aCZ:Ab:=[(true,.pair (.pair (.int .i64) (.pair (.int .i64) (.pair (.int .i64) (.unit)))) (.pair (.int .i64) (.pair (.int .i64) (.pair (.int .u64) (.pair (.int .u64) (.pair (.int .u64) (.unit)))))))]
abbrev aMZ:Ab:=[(false,.bool)]
abbrev aP9:=Ak aCZ
abbrev aSX:=Aj aCZ aMZ
variable (p442:aP9) (f442:aSX)
abbrev I443:Ab:=[(true,.pair (.pair (.int .i64) (.pair (.int .i64) (.pair (.int .i64) (.unit)))) (.pair (.int .i64) (.pair (.int .i64) (.pair (.int .u64) (.pair (.int .u64) (.pair (.int .u64) (.unit)))))))]
abbrev S3:Ab:=[(false,.bool)]
def dR (p439:wO) (f439:tS) (p438:cQ) (f438:eB) (a0:Aa (.pair (.pair (.int .i64) (.pair (.int .i64) (.pair (.int .i64) (.unit)))) (.pair (.int .i64) (.pair (.int .i64) (.pair (.int .u64) (.pair (.int .u64) (.pair (.int .u64) (.unit)))))))):Option (DenS S3) :=
 let e4_:=(f438 ((a0.1.1,a0.1.2.1,(0:Int),()),a0.2))
 let e1_:=(AQ .i64 e4_.1.2.1 a0.1.2.2.1)
 let e2_:=e4_
 let e3_:=((f438 (a0.1,a0.2)).1.2.2.2.1.2.2.1==a0.1.2.2.1)
 bif (p439 ()) then (bif (!(f439 ()).1) then (some (false,()))
 else bif (p438 (a0.1,a0.2)) then (bif (p438 ((a0.1.1,a0.1.2.1,(0:Int),()),a0.2)) then (bif ((f438 (a0.1,a0.2)).2.1 != (0:Int)) then (some (((((f438 (a0.1,a0.2)).1.1==(0:Int))&&(((f438 (a0.1,a0.2)).1.2.1==(0:Int))&&(((f438 (a0.1,a0.2)).1.2.2.1==(0:Int))&&(((f438 (a0.1,a0.2)).1.2.2.2.1.1==(0:Int))&&(((f438 (a0.1,a0.2)).1.2.2.2.1.2.1==(0:Int))&&((f438 (a0.1,a0.2)).1.2.2.2.1.2.2.1==(0:Int)))))))&&((e2_.2.1==(f438 (a0.1,a0.2)).2.1)||((f438 (a0.1,a0.2)).2.1==(7:Int)))),()))
 else bif ((e2_.2.1 != (0:Int))||((f438 (a0.1,a0.2)).1.2.1 != e2_.1.2.1)) then (some (false,()))
 else bif (e1_==(0:Int)) then (some ((((f438 (a0.1,a0.2)).1.1==e2_.1.1)&&(((f438 (a0.1,a0.2)).1.2.1==e2_.1.2.1)&&(((f438 (a0.1,a0.2)).1.2.2.1==e2_.1.2.2.1)&&(((f438 (a0.1,a0.2)).1.2.2.2.1.1==e2_.1.2.2.2.1.1)&&(((f438 (a0.1,a0.2)).1.2.2.2.1.2.1==e2_.1.2.2.2.1.2.1)&&e3_))))),()))
 else some (((((f438 (a0.1,a0.2)).1.1==(0:Int))&&((f438 (a0.1,a0.2)).1.2.2.1==(AQ .i64 e1_ (IntKind.wrap .i64 ((0:Int)-e1_)))))&&(((f438 (a0.1,a0.2)).1.2.2.2.1.1==a0.1.1)&&(((f438 (a0.1,a0.2)).1.2.2.2.1.2.1==a0.1.2.1)&&e3_))),()))
 else none)
 else none)
 else none
theorem aSa (x:DenS I443):run (cf [(35,⟨Kz,JZ,p439,f439⟩),(36,⟨Ja,IU,p438,f438⟩)] []) 9 6 Tryz.f6 I443 S3 x=dR p439 f439 p438 f438 x.1:=by kernel_rfl
def T443 (x:DenS I443):Option (DenS S3):=dR FV.pre FV.F Ec.pre Ec.F x.1
def aNk:Sum:=Al I443 S3 T443 (DenS.dflt S3)
theorem S443_sound:Sound Tryz.prog G1 6 aNk:=sd (cf [(35,FV),(36,Ec)] []) 6 Tryz.f6 ⟨yL,nP,trivial⟩ trivial I443 S3 T443 _ (fun _=>aSa ..)
abbrev aMW:=Ak I443
abbrev aNU:=Aj I443 S3
variable (p443:aMW) (f443:aNU)
abbrev I444:Ab:=[(true,.pair (.pair (.int .i64) (.pair (.int .i64) (.pair (.int .i64) (.unit)))) (.pair (.int .i64) (.pair (.int .i64) (.pair (.int .u64) (.pair (.int .u64) (.pair (.int .u64) (.unit))))))),(false,.int .i64)]
abbrev RZ:Ab:=[(false,.bool)]
def cU (p439:wO) (f439:tS) (p438:cQ) (f438:eB) (p118:GT) (f118:GC) (a0:Aa (.pair (.pair (.int .i64) (.pair (.int .i64) (.pair (.int .i64) (.unit)))) (.pair (.int .i64) (.pair (.int .i64) (.pair (.int .u64) (.pair (.int .u64) (.pair (.int .u64) (.unit)))))))) (a1:Aa (.int .i64)):Option (DenS RZ) :=
 let e4_:=(((IntKind.wrap .i64 (Int.tmod (IntKind.wrap .u64 a1) (6:Int))),a0.1.2.1,(0:Int),()),a0.2)
 let e1_:=(f438 e4_)
 let e5_:=(f438 ((a0.1.1,a0.1.2.1,(0:Int),()),a0.2))
 let e2_:=((AQ .i64 e5_.1.2.1 (16:Int)) != (0:Int))
 let e3_:=e5_
 bif (p439 ()) then (bif (!(f439 ()).1) then (some (false,()))
 else bif (p438 ((a0.1.1,a0.1.2.1,(0:Int),()),a0.2)) then (bif (p438 e4_) then (bif (e3_.2.1 != (0:Int)) then (some ((((e3_.1.1==(0:Int))&&((e3_.1.2.1==(0:Int))&&((e3_.1.2.2.1==(0:Int))&&((e3_.1.2.2.2.1.1==(0:Int))&&((e3_.1.2.2.2.1.2.1==(0:Int))&&(e3_.1.2.2.2.1.2.2.1==(0:Int)))))))&&((e1_.2.1==e3_.2.1)||(e3_.2.1==(3:Int)))),()))
 else bif ((e1_.2.1 != (0:Int))||((!(e2_==((AQ .i64 e1_.1.2.1 (16:Int)) != (0:Int))))&&(a0.2.1 != (11:Int)))) then (some (false,()))
 else bif ((((AQ .i64 (AX .i64 e3_.1.2.1 e1_.1.2.1) (17:Int)) != (0:Int))&&(a0.2.1==(11:Int)))||e2_) then (some (true,()))
 else bif (e3_.1.2.1 != e1_.1.2.1) then (some (false,()))
 else bif (p118 (a0.2.2.1,true,())) then (some ((((f118 (a0.2.2.1,true,())).2.1==(0:Int))&&((e3_.1.1==e1_.1.1)||(((((a0.2.1==(1:Int))||(a0.2.1==(2:Int)))||(a0.2.1==(6:Int)))&&((AX .u64 e3_.1.1 e1_.1.1)==(f118 (a0.2.2.1,true,())).1))&&((AQ .u64 e3_.1.1 e1_.1.1)==(0:Int))))),()))
 else none)
 else none)
 else none)
 else none
theorem aNH (x:DenS I444):run (cf [(35,⟨Kz,JZ,p439,f439⟩),(36,⟨Ja,IU,p438,f438⟩),(38,⟨EI,E8,p118,f118⟩)] []) 9 7 Tryz.f7 I444 RZ x=cU p439 f439 p438 f438 p118 f118 x.1 x.2.1:=by kernel_rfl
def T444 (x:DenS I444):Option (DenS RZ):=cU FV.pre FV.F Ec.pre Ec.F A1.pre A1.F x.1 x.2.1
def aN4:Sum:=Al I444 RZ T444 (DenS.dflt RZ)
theorem S444_sound:Sound Tryz.prog G1 7 aN4:=sd (cf [(35,FV),(36,Ec),(38,A1)] []) 7 Tryz.f7 ⟨yL,nP,RQ,trivial⟩ trivial I444 RZ T444 _ (fun _=>aNH ..)
abbrev aNh:=Ak I444
abbrev aQE:=Aj I444 RZ
variable (p444:aNh) (f444:aQE)
end Vx
namespace Vx
open Go
theorem Ao {I O:Ab} {T:DenS I->Option (DenS O)} {d:DenS O} {x:DenS I} {y:DenS O} (h:T x=some y):(Al I O T d).pre x=true:=by
 show (T x).isSome=true
 rw [h]; rfl
theorem Ap {I O:Ab} {T:DenS I->Option (DenS O)} {d:DenS O} {x:DenS I} {y:DenS O} (h:T x=some y):(Al I O T d).F x=y:=by
 show (T x).getD d=y
 rw [h]; rfl
theorem rG {k:LK} {I O:Ab} {T:k.D×DenS I->Option (k.B×DenS O)} {d:k.B×DenS O} {x:k.D×DenS I} {y:k.B×DenS O} (h:T x=some y):(Qn k I O T d).pre x=true:=by
 show (T x).isSome=true
 rw [h]; rfl
theorem sN {k:LK} {I O:Ab} {T:k.D×DenS I->Option (k.B×DenS O)} {d:k.B×DenS O} {x:k.D×DenS I} {y:k.B×DenS O} (h:T x=some y):(Qn k I O T d).F x=y:=by
 show (T x).getD d=y
 rw [h]; rfl
theorem Dc {x y} (h:RU x=some y):Aq.pre x=true:=Ao h
theorem Dg {x y} (h:RU x=some y):Aq.F x=y:=Ap h
theorem Dv {x y} (h:WO x=some y):Ar.pre x=true:=Ao h
theorem Dy {x y} (h:WO x=some y):Ar.F x=y:=Ap h
theorem W0 {x y} (h:Zx x=some y):Bo.pre x=true:=Ao h
theorem Zm {x y} (h:Zx x=some y):Bo.F x=y:=Ap h
theorem eR {x y} (h:W9 x=some y):Dr.pre x=true:=Ao h
theorem kS {x y} (h:W9 x=some y):Dr.F x=y:=Ap h
theorem Dx {x y} (h:UJ x=some y):AE.pre x=true:=Ao h
theorem Du {x y} (h:UJ x=some y):AE.F x=y:=Ap h
theorem Fx {x y} (h:YL x=some y):AB.pre x=true:=Ao h
theorem Fp {x y} (h:YL x=some y):AB.F x=y:=Ap h
theorem RW {x y} (h:WG x=some y):Bq.pre x=true:=Ao h
theorem Sq {x y} (h:WG x=some y):Bq.F x=y:=Ap h
theorem yF {x y} (h:W6 x=some y):P3.pre x=true:=Ao h
theorem aG2 {x y} (h:W6 x=some y):P3.F x=y:=Ap h
theorem iX {x y} (h:O1 x=some y):AG.pre x=true:=Ao h
theorem lL {x y} (h:O1 x=some y):AG.F x=y:=Ap h
theorem aOQ {x y} (h:Ur x=some y):AL.pre x=true:=Ao h
theorem aMU {x y} (h:Ur x=some y):AL.F x=y:=Ap h
theorem aJJ {x y} (h:XW x=some y):MC.pre x=true:=Ao h
theorem aQ9 {x y} (h:XW x=some y):MC.F x=y:=Ap h
theorem aE5 {x y} (h:Yn x=some y):Dz.pre x=true:=Ao h
theorem aDl {x y} (h:Yn x=some y):Dz.F x=y:=Ap h
theorem wI {x y} (h:ZY x=some y):BF.pre x=true:=Ao h
theorem sW {x y} (h:ZY x=some y):BF.F x=y:=Ap h
theorem LE {x y} (h:WC x=some y):A1.pre x=true:=Ao h
theorem Mz {x y} (h:WC x=some y):A1.F x=y:=Ap h
theorem aLp {x y} (h:ZO x=some y):P9.pre x=true:=Ao h
theorem aUV {x y} (h:ZO x=some y):P9.F x=y:=Ap h
theorem tF {x y} (h:WK x=some y):EL.pre x=true:=Ao h
theorem qC {x y} (h:WK x=some y):EL.F x=y:=Ap h
theorem CX {x y} (h:SG x=some y):Ag.pre x=true:=Ao h
theorem CV {x y} (h:SG x=some y):Ag.F x=y:=Ap h
theorem aPd {x y} (h:YJ x=some y):CR.pre x=true:=Ao h
theorem aLd {x y} (h:YJ x=some y):CR.F x=y:=Ap h
theorem Ue {x y} (h:SZ x=some y):Bh.pre x=true:=Ao h
theorem Tu {x y} (h:SZ x=some y):Bh.F x=y:=Ap h
theorem UZ {x y} (h:ZC x=some y):Bx.pre x=true:=Ao h
theorem UD {x y} (h:ZC x=some y):Bx.F x=y:=Ap h
theorem SY {x y} (h:TF x=some y):Ch.pre x=true:=Ao h
theorem SA {x y} (h:TF x=some y):Ch.F x=y:=Ap h
theorem aQ0 {x y} (h:Zo x=some y):Hr.pre x=true:=Ao h
theorem aKw {x y} (h:Zo x=some y):Hr.F x=y:=Ap h
theorem aIu {x y} (h:YE x=some y):UH.pre x=true:=Ao h
theorem aUq {x y} (h:YE x=some y):UH.F x=y:=Ap h
theorem aB4 {x y} (h:X1 x=some y):Cf.pre x=true:=Ao h
theorem aHx {x y} (h:X1 x=some y):Cf.F x=y:=Ap h
theorem aTb {x y} (h:ZS x=some y):Rj.pre x=true:=Ao h
theorem aUA {x y} (h:ZS x=some y):Rj.F x=y:=Ap h
theorem aBU {x y} (h:Tg x=some y):CS.pre x=true:=Ao h
theorem aFw {x y} (h:Tg x=some y):CS.F x=y:=Ap h
theorem jO {x y} (h:Yo x=some y):BK.pre x=true:=Ao h
theorem cE {x y} (h:Yo x=some y):BK.F x=y:=Ap h
theorem aPr {x y} (h:VY x=some y):Qk.pre x=true:=Ao h
theorem aPQ {x y} (h:VY x=some y):Qk.F x=y:=Ap h
theorem cS {x y} (h:TE x=some y):Vy.pre x=true:=Ao h
theorem lQ {x y} (h:TE x=some y):Vy.F x=y:=Ap h
theorem mS {x y} (h:RP x=some y):DB.pre x=true:=Ao h
theorem oZ {x y} (h:RP x=some y):DB.F x=y:=Ap h
theorem Wz {x y} (h:JG x=some y):D6.pre x=true:=Ao h
theorem ZA {x y} (h:JG x=some y):D6.F x=y:=Ap h
theorem Zz {x y} (h:Sz x=some y):DS.pre x=true:=Ao h
theorem YB {x y} (h:Sz x=some y):DS.F x=y:=Ap h
theorem Kv {x y} (h:Nl x=some y):DT.pre x=true:=Ao h
theorem KG {x y} (h:Nl x=some y):DT.F x=y:=Ap h
theorem TR {x y} (h:RH x=some y):VF.pre x=true:=Ao h
theorem TO {x y} (h:RH x=some y):VF.F x=y:=Ap h
theorem Io {x y} (h:RV x=some y):CC.pre x=true:=Ao h
theorem Jt {x y} (h:RV x=some y):CC.F x=y:=Ap h
theorem aGB {x y} (h:TK x=some y):HC.pre x=true:=Ao h
theorem aGm {x y} (h:TK x=some y):HC.F x=y:=Ap h
theorem Te {x y} (h:W8 x=some y):B6.pre x=true:=Ao h
theorem T9 {x y} (h:W8 x=some y):B6.F x=y:=Ap h
theorem aTq {x y} (h:Yf x=some y):JP.pre x=true:=Ao h
theorem aSb {x y} (h:Yf x=some y):JP.F x=y:=Ap h
theorem sE {x y} (h:ZW x=some y):Vq.pre x=true:=Ao h
theorem uL {x y} (h:ZW x=some y):Vq.F x=y:=Ap h
theorem aF1 {x y} (h:Zi x=some y):VX.pre x=true:=Ao h
theorem aHe {x y} (h:Zi x=some y):VX.F x=y:=Ap h
theorem mY {x y} (h:Zh x=some y):EO.pre x=true:=Ao h
theorem pT {x y} (h:Zh x=some y):EO.F x=y:=Ap h
theorem HA {x y} (h:SD x=some y):A4.pre x=true:=Ao h
theorem Hc {x y} (h:SD x=some y):A4.F x=y:=Ap h
theorem aOx {x y} (h:U9 x=some y):Rl.pre x=true:=Ao h
theorem aRG {x y} (h:U9 x=some y):Rl.F x=y:=Ap h
theorem oE {x y} (h:WV x=some y):FJ.pre x=true:=Ao h
theorem pK {x y} (h:WV x=some y):FJ.F x=y:=Ap h
theorem pQ {x y} (h:Wu x=some y):Do.pre x=true:=Ao h
theorem oH {x y} (h:Wu x=some y):Do.F x=y:=Ap h
theorem wF {x y} (h:SI x=some y):DO.pre x=true:=Ao h
theorem vU {x y} (h:SI x=some y):DO.F x=y:=Ap h
theorem aO7 {x y} (h:XC x=some y):Mu.pre x=true:=Ao h
theorem aH9 {x y} (h:XC x=some y):Mu.F x=y:=Ap h
theorem kF {x y} (h:U5 x=some y):Pb.pre x=true:=Ao h
theorem bL {x y} (h:U5 x=some y):Pb.F x=y:=Ap h
theorem aGd {x y} (h:Ya x=some y):PZ.pre x=true:=Ao h
theorem aCu {x y} (h:Ya x=some y):PZ.F x=y:=Ap h
theorem aDw {x y} (h:Zj x=some y):N2.pre x=true:=Ao h
theorem aEh {x y} (h:Zj x=some y):N2.F x=y:=Ap h
theorem aD6 {x y} (h:Zr x=some y):QG.pre x=true:=Ao h
theorem aGw {x y} (h:Zr x=some y):QG.F x=y:=Ap h
theorem j7 {x y} (h:Yt x=some y):AP.pre x=true:=Ao h
theorem cO {x y} (h:Yt x=some y):AP.F x=y:=Ap h
theorem vE {x y} (h:V4 x=some y):C2.pre x=true:=Ao h
theorem oV {x y} (h:V4 x=some y):C2.F x=y:=Ap h
theorem aSA {x y} (h:ZG x=some y):Kj.pre x=true:=Ao h
theorem aIx {x y} (h:ZG x=some y):Kj.F x=y:=Ap h
theorem aSq {x y} (h:Tq x=some y):M4.pre x=true:=Ao h
theorem aRp {x y} (h:Tq x=some y):M4.F x=y:=Ap h
theorem yT {x y} (h:Zy x=some y):NF.pre x=true:=Ao h
theorem aEv {x y} (h:Zy x=some y):NF.F x=y:=Ap h
theorem aDf {x y} (h:ZZ x=some y):Nh.pre x=true:=Ao h
theorem yU {x y} (h:ZZ x=some y):Nh.F x=y:=Ap h
theorem Rw {x y} (h:SM x=some y):CF.pre x=true:=Ao h
theorem Rv {x y} (h:SM x=some y):CF.F x=y:=Ap h
theorem qA {x y} (h:Sv x=some y):DC.pre x=true:=Ao h
theorem nJ {x y} (h:Sv x=some y):DC.F x=y:=Ap h
theorem aHR {x y} (h:W1 x=some y):BB.pre x=true:=Ao h
theorem aBQ {x y} (h:W1 x=some y):BB.F x=y:=Ap h
theorem sX {x y} (h:Xp x=some y):AS.pre x=true:=Ao h
theorem uB {x y} (h:Xp x=some y):AS.F x=y:=Ap h
theorem aTf {x y} (h:Wg x=some y):EP.pre x=true:=Ao h
theorem aTt {x y} (h:Wg x=some y):EP.F x=y:=Ap h
theorem V8 {x y} (h:ZU x=some y):Bi.pre x=true:=Ao h
theorem W2 {x y} (h:ZU x=some y):Bi.F x=y:=Ap h
theorem aMF {x y} (h:XR x=some y):Cs.pre x=true:=rG h
theorem aSr {x y} (h:XR x=some y):Cs.F x=y:=sN h
theorem aQU {x y} (h:ZF x=some y):C1.pre x=true:=rG h
theorem aLv {x y} (h:ZF x=some y):C1.F x=y:=sN h
theorem aLe {x y} (h:Wa x=some y):EB.pre x=true:=rG h
theorem aUN {x y} (h:Wa x=some y):EB.F x=y:=sN h
theorem aKB {x y} (h:Y7 x=some y):Ni.pre x=true:=Ao h
theorem aLu {x y} (h:Y7 x=some y):Ni.F x=y:=Ap h
theorem aVf {x y} (h:Y9 x=some y):EH.pre x=true:=Ao h
theorem aMS {x y} (h:Y9 x=some y):EH.F x=y:=Ap h
theorem aRL {x y} (h:Wy x=some y):QO.pre x=true:=Ao h
theorem aM2 {x y} (h:Wy x=some y):QO.F x=y:=Ap h
theorem vH {x y} (h:YK x=some y):CW.pre x=true:=Ao h
theorem tP {x y} (h:YK x=some y):CW.F x=y:=Ap h
theorem aRe {x y} (h:YH x=some y):NB.pre x=true:=Ao h
theorem aNO {x y} (h:YH x=some y):NB.F x=y:=Ap h
theorem aQm {x y} (h:Xb x=some y):O2.pre x=true:=Ao h
theorem aU6 {x y} (h:Xb x=some y):O2.F x=y:=Ap h
theorem aMB {x y} (h:V3 x=some y):Ln.pre x=true:=Ao h
theorem aKD {x y} (h:V3 x=some y):Ln.F x=y:=Ap h
theorem lT {x y} (h:Wv x=some y):Di.pre x=true:=Ao h
theorem lH {x y} (h:Wv x=some y):Di.F x=y:=Ap h
theorem u6 {x y} (h:TY x=some y):Qu.pre x=true:=Ao h
theorem pE {x y} (h:TY x=some y):Qu.F x=y:=Ap h
theorem aIn {x y} (h:Y2 x=some y):Rk.pre x=true:=Ao h
theorem aIC {x y} (h:Y2 x=some y):Rk.F x=y:=Ap h
theorem aRO {x y} (h:ZQ x=some y):ND.pre x=true:=Ao h
theorem aID {x y} (h:ZQ x=some y):ND.F x=y:=Ap h
theorem aLi {x y} (h:Xu x=some y):Qm.pre x=true:=Ao h
theorem aRX {x y} (h:Xu x=some y):Qm.F x=y:=Ap h
theorem zG {x y} (h:Vl x=some y):Qc.pre x=true:=Ao h
theorem aAA {x y} (h:Vl x=some y):Qc.F x=y:=Ap h
theorem aOr {x y} (h:Ze x=some y):PE.pre x=true:=Ao h
theorem aT9 {x y} (h:Ze x=some y):PE.F x=y:=Ap h
theorem aN9 {x y} (h:Y3 x=some y):Kb.pre x=true:=Ao h
theorem aQa {x y} (h:Y3 x=some y):Kb.F x=y:=Ap h
theorem oO {x y} (h:UQ x=some y):RC.pre x=true:=Ao h
theorem nI {x y} (h:UQ x=some y):RC.F x=y:=Ap h
theorem Tr {x y} (h:XS x=some y):EZ.pre x=true:=Ao h
theorem VG {x y} (h:XS x=some y):EZ.F x=y:=Ap h
theorem WE {x y} (h:TD x=some y):DK.pre x=true:=Ao h
theorem Zu {x y} (h:TD x=some y):DK.F x=y:=Ap h
theorem WL {x y} (h:HW x=some y):E3.pre x=true:=Ao h
theorem Ye {x y} (h:HW x=some y):E3.F x=y:=Ap h
theorem aFS {x y} (h:Oz x=some y):FT.pre x=true:=Ao h
theorem aGP {x y} (h:Oz x=some y):FT.F x=y:=Ap h
theorem Oc {x y} (h:E2 x=some y):CK.pre x=true:=Ao h
theorem Nk {x y} (h:E2 x=some y):CK.F x=y:=Ap h
theorem aH8 {x y} (h:YA x=some y):M9.pre x=true:=Ao h
theorem aUU {x y} (h:YA x=some y):M9.F x=y:=Ap h
theorem aOt {x y} (h:Uo x=some y):NG.pre x=true:=Ao h
theorem aJ9 {x y} (h:Uo x=some y):NG.F x=y:=Ap h
theorem vR {x y} (h:Pf x=some y):D3.pre x=true:=Ao h
theorem v4 {x y} (h:Pf x=some y):D3.F x=y:=Ap h
theorem aRf {x y} (h:S8 x=some y):Jm.pre x=true:=Ao h
theorem aM4 {x y} (h:S8 x=some y):Jm.F x=y:=Ap h
theorem aAx {x y} (h:U7 x=some y):RA.pre x=true:=Ao h
theorem aE7 {x y} (h:U7 x=some y):RA.F x=y:=Ap h
theorem wY {x y} (h:Zt x=some y):Np.pre x=true:=Ao h
theorem aGs {x y} (h:Zt x=some y):Np.F x=y:=Ap h
theorem aNJ {x y} (h:TI x=some y):GF.pre x=true:=Ao h
theorem aMc {x y} (h:TI x=some y):GF.F x=y:=Ap h
theorem aMO {x y} (h:Sr x=some y):Rq.pre x=true:=Ao h
theorem aR3 {x y} (h:Sr x=some y):Rq.F x=y:=Ap h
theorem aPz {x y} (h:Tn x=some y):GV.pre x=true:=Ao h
theorem aKo {x y} (h:Tn x=some y):GV.F x=y:=Ap h
theorem aM8 {x y} (h:Yu x=some y):MP.pre x=true:=Ao h
theorem aUF {x y} (h:Yu x=some y):MP.F x=y:=Ap h
theorem sH {x y} (h:OA x=some y):Dj.pre x=true:=Ao h
theorem rL {x y} (h:OA x=some y):Dj.F x=y:=Ap h
theorem WP {x y} (h:SX x=some y):RE.pre x=true:=Ao h
theorem WW {x y} (h:SX x=some y):RE.F x=y:=Ap h
theorem aSe {x y} (h:Xd x=some y):QK.pre x=true:=Ao h
theorem aT3 {x y} (h:Xd x=some y):QK.F x=y:=Ap h
theorem aQg {x y} (h:XI x=some y):KW.pre x=true:=Ao h
theorem aT4 {x y} (h:XI x=some y):KW.F x=y:=Ap h
theorem IP {x y} (h:XB x=some y):Ej.pre x=true:=Ao h
theorem JR {x y} (h:XB x=some y):Ej.F x=y:=Ap h
theorem aBl {x y} (h:ZE x=some y):FU.pre x=true:=Ao h
theorem aDt {x y} (h:ZE x=some y):FU.F x=y:=Ap h
theorem aBX {x y} (h:YT x=some y):Dn.pre x=true:=Ao h
theorem aGR {x y} (h:YT x=some y):Dn.F x=y:=Ap h
theorem aSD {x y} (h:X4 x=some y):QT.pre x=true:=Ao h
theorem aIB {x y} (h:X4 x=some y):QT.F x=y:=Ap h
theorem aNA {x y} (h:WR x=some y):LT.pre x=true:=Ao h
theorem aTK {x y} (h:WR x=some y):LT.F x=y:=Ap h
theorem zZ {x y} (h:Wm x=some y):OM.pre x=true:=Ao h
theorem aAK {x y} (h:Wm x=some y):OM.F x=y:=Ap h
theorem aUI {x y} (h:Xj x=some y):Ov.pre x=true:=Ao h
theorem aUv {x y} (h:Xj x=some y):Ov.F x=y:=Ap h
theorem aLL {x y} (h:Xf x=some y):PL.pre x=true:=Ao h
theorem aUp {x y} (h:Xf x=some y):PL.F x=y:=Ap h
theorem aMI {x y} (h:Wt x=some y):KA.pre x=true:=Ao h
theorem aR8 {x y} (h:Wt x=some y):KA.F x=y:=Ap h
theorem aUR {x y} (h:Wq x=some y):PY.pre x=true:=Ao h
theorem aN1 {x y} (h:Wq x=some y):PY.F x=y:=Ap h
theorem aPK {x y} (h:Zg x=some y):NQ.pre x=true:=Ao h
theorem aNt {x y} (h:Zg x=some y):NQ.F x=y:=Ap h
theorem aKx {x y} (h:ZX x=some y):LF.pre x=true:=Ao h
theorem aUO {x y} (h:ZX x=some y):LF.F x=y:=Ap h
theorem aLa {x y} (h:Wj x=some y):QX.pre x=true:=Ao h
theorem aSZ {x y} (h:Wj x=some y):QX.F x=y:=Ap h
theorem aPZ {x y} (h:WT x=some y):K5.pre x=true:=Ao h
theorem aOj {x y} (h:WT x=some y):K5.F x=y:=Ap h
theorem aDN {x y} (h:SJ x=some y):Eg.pre x=true:=Ao h
theorem qG {x y} (h:SJ x=some y):Eg.F x=y:=Ap h
theorem KE {x y} (h:T8 x=some y):DG.pre x=true:=Ao h
theorem Kf {x y} (h:T8 x=some y):DG.F x=y:=Ap h
theorem V5 {x y} (h:Xq x=some y):CI.pre x=true:=Ao h
theorem XH {x y} (h:Xq x=some y):CI.F x=y:=Ap h
theorem Wk {x y} (h:XQ x=some y):CH.pre x=true:=Ao h
theorem Xe {x y} (h:XQ x=some y):CH.F x=y:=Ap h
theorem aH6 {x y} (h:Zn x=some y):OI.pre x=true:=Ao h
theorem aJn {x y} (h:Zn x=some y):OI.F x=y:=Ap h
theorem aLZ {x y} (h:Zd x=some y):Oq.pre x=true:=Ao h
theorem aSj {x y} (h:Zd x=some y):Oq.F x=y:=Ap h
theorem aLM {x y} (h:YZ x=some y):Lw.pre x=true:=Ao h
theorem aNK {x y} (h:YZ x=some y):Lw.F x=y:=Ap h
theorem aOe {x y} (h:ZD x=some y):NE.pre x=true:=Ao h
theorem aRS {x y} (h:ZD x=some y):NE.F x=y:=Ap h
theorem aKW {x y} (h:XG x=some y):KF.pre x=true:=Ao h
theorem aU0 {x y} (h:XG x=some y):KF.F x=y:=Ap h
theorem aIZ {x y} (h:XU x=some y):J7.pre x=true:=Ao h
theorem aLX {x y} (h:XU x=some y):J7.F x=y:=Ap h
theorem aK7 {x y} (h:Y8 x=some y):Rz.pre x=true:=Ao h
theorem aLx {x y} (h:Y8 x=some y):Rz.F x=y:=Ap h
theorem aUL {x y} (h:ZM x=some y):LR.pre x=true:=Ao h
theorem aRM {x y} (h:ZM x=some y):LR.F x=y:=Ap h
theorem zE {x y} (h:WS x=some y):NA.pre x=true:=Ao h
theorem aAZ {x y} (h:WS x=some y):NA.F x=y:=Ap h
theorem aJU {x y} (h:RX x=some y):QM.pre x=true:=Ao h
theorem aJD {x y} (h:RX x=some y):QM.F x=y:=Ap h
theorem zL {x y} (h:WU x=some y):FW.pre x=true:=Ao h
theorem zH {x y} (h:WU x=some y):FW.F x=y:=Ap h
theorem aOR {x y} (h:WQ x=some y):Mg.pre x=true:=Ao h
theorem aIk {x y} (h:WQ x=some y):Mg.F x=y:=Ap h
theorem aNc {x y} (h:W7 x=some y):Mv.pre x=true:=Ao h
theorem aTw {x y} (h:W7 x=some y):Mv.F x=y:=Ap h
theorem aBJ {x y} (h:Xz x=some y):FF.pre x=true:=Ao h
theorem x6 {x y} (h:Xz x=some y):FF.F x=y:=Ap h
theorem aU7 {x y} (h:XJ x=some y):QN.pre x=true:=Ao h
theorem aOC {x y} (h:XJ x=some y):QN.F x=y:=Ap h
theorem To {x y} (h:U3 x=some y):D0.pre x=true:=Ao h
theorem T3 {x y} (h:U3 x=some y):D0.F x=y:=Ap h
theorem aMy {x y} (h:Yk x=some y):K3.pre x=true:=Ao h
theorem aTW {x y} (h:Yk x=some y):K3.F x=y:=Ap h
theorem aLR {x y} (h:Wc x=some y):NS.pre x=true:=Ao h
theorem aSy {x y} (h:Wc x=some y):NS.F x=y:=Ap h
theorem aTg {x y} (h:XA x=some y):K0.pre x=true:=Ao h
theorem aSJ {x y} (h:XA x=some y):K0.F x=y:=Ap h
theorem yG {x y} (h:Yb x=some y):FG.pre x=true:=Ao h
theorem yR {x y} (h:Yb x=some y):FG.F x=y:=Ap h
theorem aF0 {x y} (h:YX x=some y):I8.pre x=true:=Ao h
theorem aFT {x y} (h:YX x=some y):I8.F x=y:=Ap h
theorem xE {x y} (h:UI x=some y):FH.pre x=true:=Ao h
theorem aG0 {x y} (h:UI x=some y):FH.F x=y:=Ap h
theorem aDk {x y} (h:Ww x=some y):FM.pre x=true:=Ao h
theorem aEy {x y} (h:Ww x=some y):FM.F x=y:=Ap h
theorem aDA {x y} (h:VD x=some y):Qh.pre x=true:=Ao h
theorem aEg {x y} (h:VD x=some y):Qh.F x=y:=Ap h
theorem aLP {x y} (h:VE x=some y):Oj.pre x=true:=Ao h
theorem aMz {x y} (h:VE x=some y):Oj.F x=y:=Ap h
theorem aFu {x y} (h:Rg x=some y):Mw.pre x=true:=Ao h
theorem fR {x y} (h:Rg x=some y):Mw.F x=y:=Ap h
theorem aP5 {x y} (h:V7 x=some y):Nj.pre x=true:=Ao h
theorem aRv {x y} (h:V7 x=some y):Nj.F x=y:=Ap h
theorem WJ {x y} (h:R7 x=some y):Ec.pre x=true:=Ao h
theorem WH {x y} (h:R7 x=some y):Ec.F x=y:=Ap h
theorem aEN {x y} (h:X7 x=some y):FV.pre x=true:=Ao h
theorem aAa {x y} (h:X7 x=some y):FV.F x=y:=Ap h
end Vx
namespace Vx
open Go
theorem aBk {a:Int} (n:Nat) (hn:n<=64):AJ .u64 a (n:Int)=a/2^n:=by
 unfold AJ
 rw [Int.fdiv_eq_ediv_of_nonneg]
 ·congr 2
  simp [IntKind.bits]
  omega
 ·exact Int.pow_nonneg (by omega)
theorem G3 {m:Nat} (h:m<2^64):(BitVec.ofInt 64 (m:Int)).toNat=m:=by
 rw [BitVec.toNat_ofInt]
 omega
theorem UY {m n:Nat} (h:m<2^64) (hn:n<=64):AQ .u64 (m:Int) ((2^n-1:Nat):Int)=((m%2^n:Nat):Int):=by
 have h2:2^n<=2^64:=Nat.pow_le_pow_right (by omega) hn
 have h3:0<2^n:=Nat.two_pow_pos n
 have hlt:m%2^n<2^n:=Nat.mod_lt _ h3
 have key:(BitVec.ofInt 64 (m:Int) &&& BitVec.ofInt 64 ((2^n-1:Nat):Int)).toNat=m%2^n:=by
  rw [BitVec.toNat_and,G3 h,G3 (by omega),Nat.and_two_pow_sub_one_eq_mod]
 show IntKind.u64.wrap (((BitVec.ofInt 64 (m:Int) &&& BitVec.ofInt 64 ((2^n-1:Nat):Int)).toNat:Nat):Int)=_
 rw [key]
 exact IntWalk.u64_in _ (by omega)
theorem KT {n:Nat} (hn:n<=63):AT .u64 1 (n:Int)=((2^n:Nat):Int):=by
 have h2:2^n<=2^63:=Nat.pow_le_pow_right (by omega) hn
 have:(min (n:Int).toNat IntKind.u64.bits)=n:=by simp [IntKind.bits]; omega
 unfold AT
 rw [this,Int.one_mul]
 have e:(2:Int)^n=((2^n:Nat):Int):=by simp
 rw [e]
 refine IntWalk.u64_in _ ⟨Int.natCast_nonneg _,?_⟩
 have:((2^n:Nat):Int)<=((2^63:Nat):Int):=Int.ofNat_le.2 h2
 exact Int.le_trans this (by decide)
theorem aFh {m n:Nat} (hn:n<=63) (h:m<2^(n+1)):SU .u64 (m:Int) ((2^n:Nat):Int)=((m%2^n:Nat):Int):=by
 have h1:2^(n+1)<=2^64:=Nat.pow_le_pow_right (by omega) (by omega)
 have h2:2^n<2^64:=Nat.pow_lt_pow_right (by omega) (by omega)
 have hlt:m%2^n<2^n:=Nat.mod_lt _ (Nat.two_pow_pos n)
 have key:(BitVec.ofInt 64 (m:Int) &&& ~~~(BitVec.ofInt 64 ((2^n:Nat):Int))).toNat=m%2^n:=by
  apply Nat.eq_of_testBit_eq
  intro i
  rw [BitVec.toNat_and,Nat.testBit_and,G3 (by omega),Nat.testBit_mod_two_pow]
  have e:(~~~(BitVec.ofInt 64 ((2^n:Nat):Int))).toNat.testBit i=(decide (i<64)&&!decide (n=i)):=by
   rw [← BitVec.getLsbD,BitVec.getLsbD_not,BitVec.getLsbD,G3 h2,Nat.testBit_two_pow]
  rw [e]
  rcases Nat.lt_trichotomy i n with hi | hi | hi
  ·have:i<64:=by omega
   have hne:¬ n=i:=by omega
   simp [this,hne,hi]
  ·subst hi; simp
  ·have hz:m.testBit i=false:=Nat.testBit_lt_two_pow (Nat.lt_of_lt_of_le h (Nat.pow_le_pow_right (by omega) (by omega)))
   simp [hz]
 show IntKind.u64.wrap (((BitVec.ofInt 64 (m:Int) &&& ~~~(BitVec.ofInt 64 ((2^n:Nat):Int))).toNat:Nat):Int)=_
 rw [key]
 exact IntWalk.u64_in _ (by omega)
end Vx
namespace VL
open Go Vx
def Fm (f:Int):Prop:=0<=f/\f<4
instance (f:Int):Decidable (Fm f):=by unfold Fm; infer_instance
def fW (f:Int):Nat:=if f=0 then 16 else if f=1 then 16 else if f=2 then 32 else 64
def fP (f:Int):Nat:=if f=0 then 11 else if f=1 then 8 else if f=2 then 24 else 53
def fX (f:Int):Nat:=if f=0 then 15 else if f=1 then 127 else if f=2 then 127 else 1023
def Br (f:Int):Aa rowsSh:=((fW f:Int),((fP f:Int),((1-(fX f:Int)),((fX f:Int),()))))
theorem C5 {f:Int} (h:Fm f):f=0∨f=1∨f=2∨f=3:=by
 obtain ⟨h1,h2⟩:=h
 omega
theorem dE {f:Int} (h:Fm f) (d:Aa rowsSh):k_rows.getD (Int.toNat f) d=Br f:=by
 rcases C5 h with rfl | rfl | rfl | rfl <;> rfl
theorem Dq {f:Int} (h:Fm f):8<=fP f:=by
 rcases C5 h with rfl | rfl | rfl | rfl <;> decide
theorem EC {f:Int} (h:Fm f):fP f+5<=fW f:=by
 rcases C5 h with rfl | rfl | rfl | rfl <;> decide
theorem D5 {f:Int} (h:Fm f):fW f<=64:=by
 rcases C5 h with rfl | rfl | rfl | rfl <;> decide
theorem Ho {f:Int} (h:Fm f):fX f<=1023:=by
 rcases C5 h with rfl | rfl | rfl | rfl <;> decide
theorem aGG {f:Int} (h:Fm f):2*fX f+1=2^(fW f-fP f)-1:=by
 rcases C5 h with rfl | rfl | rfl | rfl <;> decide
theorem As {n:Int} (h:-9223372036854775808<=n/\n<9223372036854775808):IntKind.wrap .i64 n=n:=IntWalk.i64_in n ⟨h.1,by omega⟩
theorem DW {n:Int} (h:0<=n/\n<18446744073709551616):IntKind.wrap .u64 n=n:=IntWalk.u64_in n ⟨h.1,by omega⟩
theorem DD (a n:Nat) (hn:n<=64):AJ .u64 (a:Int) (n:Int)=((a/2^n:Nat):Int):=by
 rw [aBk n hn]
 simp
theorem Eu (m n:Nat) (h:n<=m) (hm:m<=4611686018427387904):IntKind.wrap .i64 ((m:Int)-(n:Int))=((m-n:Nat):Int):=by
 rw [As (by omega)]
 omega
theorem Hw (m n:Nat):((m:Int)==(n:Int))=(m==n):=by
 rw [Bool.eq_iff_iff]; simp only [beq_iff_eq]; omega
theorem Fq (m:Nat):((m:Int)==0)=(m==0):=Hw m 0
theorem aDV (m n:Nat):((m:Int) != (n:Int))=(m != n):=by
 show (!((m:Int)==(n:Int)))=!(m==n)
 rw [Hw]
theorem Tk (m:Nat):((m:Int) != 0)=(m != 0):=aDV m 0
theorem uW (m n:Nat):(decide ((m:Int)<(n:Int)))=decide (m<n):=by
 rw [Bool.eq_iff_iff]; simp
theorem AW (m:Nat):(decide (0<=(m:Int)))=true:=by simp
def Am (f:Int) (a:Nat):Int:=if Fm f then (if a<2^fW f then 0 else 4) else 2
def eF (f:Int) (a:Nat):Nat:=a/2^(fP f-1)%2^(fW f-fP f)
def mF (f:Int) (a:Nat):Nat:=a%2^(fP f-1)
def sF (f:Int) (a:Nat):Bool:=a/2^(fW f-1) != 0
def BG (f:Int):Nat:=2^(fW f-fP f)-1
def Bv (f:Int) (a:Nat):Nat:=a%2^(fW f-1)
theorem FE {f:Int} (h:Fm f):RU (f,())=some (Br f,0,()):=by
 rcases C5 h with rfl | rfl | rfl | rfl <;> kernel_rfl
theorem GH {f:Int} (h:¬ Fm f):RU (f,())=some ((0,0,0,0,()),2,()):=by
 show j5 f=_
 unfold j5
 have:(decide (f<(0:Int))||decide (f>=(4:Int)))=true:=by
  simp only [Fm] at h
  simp only [Bool.or_eq_true,decide_eq_true_eq]
  omega
 rw [this]
 rfl
theorem aIT {f:Int} (h:¬ Fm f) (a:Nat):Am f a=2:=by unfold Am; rw [if_neg h]
theorem aCV {f:Int} (h:Fm f) {a:Nat} (ha:a<2^fW f):Am f a=0:=by unfold Am; rw [if_pos h,if_pos ha]
theorem aP7 {f:Int} (h:Fm f) {a:Nat} (ha:¬ a<2^fW f):Am f a=4:=by unfold Am; rw [if_pos h,if_neg ha]
theorem CT {f:Int} {a:Nat} (h:Am f a=0):Fm f/\a<2^fW f:=by
 unfold Am at h
 split at h
 ·split at h
  ·exact ⟨by assumption,by assumption⟩
  ·cases h
 ·cases h
theorem gO {a n:Nat}:(a/2^n != 0)=decide (2^n<=a):=by
 rw [Bool.eq_iff_iff]
 simp [Nat.div_eq_zero_iff,Nat.two_pow_pos]
theorem Ex (f:Int) (a:Nat) (ha:a<2^64):WO (f,(a:Int),())=some (Am f a,()):=by
 show mH Aq.pre Aq.F f a=_
 unfold mH
 by_cases hf:Fm f
 ·simp only [Dc (FE hf),Dg (FE hf),cond_true,Br,AW,Bool.true_or]
  rw [DD _ _ (D5 hf),Tk,gO]
  show (bif decide ((fW f:Int)<((64:Nat):Int))&&_ then _ else _)=_
  rw [uW]
  have hw:=D5 hf
  by_cases h:a<2^fW f
  ·have:(decide (fW f<64)&&decide (2^fW f<=a))=false:=by simp; intro _; exact h
   rw [this,aCV hf h]; rfl
  ·have:(decide (fW f<64)&&decide (2^fW f<=a))=true:=by
    simp only [Bool.and_eq_true,decide_eq_true_eq]
    refine ⟨?_,by omega⟩
    rcases Nat.lt_or_ge (fW f) 64 with h1 | h1
    ·exact h1
    ·have:fW f=64:=by omega
     rw [this] at h; omega
   rw [this,aP7 hf h]; rfl
 ·simp only [Dc (GH hf),Dg (GH hf),cond_true,aIT hf]
  rfl
theorem WN (n:Nat) (hn:n<=63):Zx ((n:Int),())=some (((2^n-1:Nat):Int),()):=by
 show bU n=_
 unfold bU
 have h2:2^n<=2^63:=Nat.pow_le_pow_right (by omega) hn
 have h1:0<2^n:=Nat.two_pow_pos n
 rw [AW,cond_true,KT hn]
 generalize 2^n=c at *
 rw [DW (by omega)]
 have:(c:Int)-1=((c-1:Nat):Int):=by omega
 rw [this]
theorem mB {f:Int} (hf:Fm f) (a:Nat) (ha:a<2^64):W9 (Br f,(a:Int),())=some (sF f a,(eF f a:Int),(mF f a:Int),()):=by
 show jC Bo.pre Bo.F (Br f) a=_
 unfold jC
 have h1:=Dq hf
 have h2:=EC hf
 have h3:=D5 hf
 have e1:IntKind.wrap .i64 ((Br f).1-1)=((fW f-1:Nat):Int):=Eu (fW f) 1 (by omega) (by omega)
 have e2:IntKind.wrap .i64 ((Br f).2.1-1)=((fP f-1:Nat):Int):=Eu (fP f) 1 (by omega) (by omega)
 have e3:IntKind.wrap .i64 ((Br f).1-(Br f).2.1)=((fW f-fP f:Nat):Int):=Eu (fW f) (fP f) (by omega) (by omega)
 have p1:=WN (fW f-fP f) (by omega)
 have p2:=WN (fP f-1) (by omega)
 rw [e1,e2,e3]
 simp only [AW,cond_true,W0 p1,W0 p2,Zm p1,Zm p2]
 rw [DD _ _ (by omega),DD _ _ (by omega),UY (Nat.lt_of_le_of_lt (Nat.div_le_self _ _) ha) (by omega),UY ha (by omega),Tk]
 rfl
def Av (f:Int) (a:Nat):Int :=
 bif eF f a==BG f&&mF f a==0 then (bif sF f a then 2 else 9)
 else bif eF f a==BG f&&mF f a/2^(fP f-2) != 0 then 1
 else bif eF f a==BG f then 0
 else bif eF f a==0&&mF f a==0 then (bif sF f a then 5 else 6)
 else bif eF f a==0 then (bif sF f a then 4 else 7)
 else (bif sF f a then 3 else 8)
theorem FR {f:Int} {a:Nat} (ha:a<2^64) (h:Am f a=0):UJ (f,(a:Int),())=some (Av f a,0,()):=by
 obtain ⟨hf,h0⟩:=CT h
 show UV Ar.pre Ar.F Dr.pre Dr.F Bo.pre Bo.F f a=_
 unfold UV
 have h1:=Dq hf
 have h2:=EC hf
 have h3:=D5 hf
 have e3:IntKind.wrap .i64 ((Br f).1-(Br f).2.1)=((fW f-fP f:Nat):Int):=Eu (fW f) (fP f) (by omega) (by omega)
 have e4:IntKind.wrap .i64 ((Br f).2.1-2)=((fP f-2:Nat):Int):=Eu (fP f) 2 (by omega) (by omega)
 have p0:=Ex f a ha
 have p1:=WN (fW f-fP f) (by omega)
 have p2:=mB hf a ha
 have hr:(decide (0<=f)&&decide (f<((4:Nat):Int)))=true:=by
  simp only [Bool.and_eq_true,decide_eq_true_eq]; exact hf
 simp only [dE hf,e3,e4,hr,Dv p0,Dy p0,W0 p1,Zm p1,eR p2,kS p2,h,cond_true,AW,Bool.true_or,bne_self_eq_false,cond_false]
 rw [DD _ _ (by omega),Hw,Fq,Fq,Tk]
 unfold Av BG
 generalize (eF f a==2^(fW f-fP f)-1)=b1
 generalize (mF f a==0)=b2
 generalize (mF f a/2^(fP f-2) != 0)=b3
 generalize (eF f a==0)=b4
 generalize sF f a=b5
 cases b1 <;> cases b2 <;> cases b3 <;> cases b4 <;> cases b5 <;> rfl
theorem SF {f:Int} {a:Nat} (ha:a<2^64) (h:Am f a≠0):UJ (f,(a:Int),())=some (0,Am f a,()):=by
 show UV Ar.pre Ar.F Dr.pre Dr.F Bo.pre Bo.F f a=_
 unfold UV
 have p0:=Ex f a ha
 have:(Am f a != 0)=true:=by simpa using h
 simp only [Dv p0,Dy p0,this,cond_true]
theorem nO {f:Int} (hf:Fm f):Wu (f,())=some (((2^(fW f-1):Nat):Int),()):=by
 rcases C5 hf with rfl | rfl | rfl | rfl <;> kernel_rfl
theorem aGx {f:Int} {a:Nat} (ha:a<2^64) (h:Am f a=0):SJ (f,(a:Int),())=some ((Bv f a:Int),0,()):=by
 obtain ⟨hf,h0⟩:=CT h
 show Vp Ar.pre Ar.F Do.pre Do.F f a=_
 unfold Vp
 have h2:=EC hf
 have h3:=D5 hf
 have p0:=Ex f a ha
 have p1:=nO hf
 simp only [Dv p0,Dy p0,pQ p1,oH p1,h,cond_true,bne_self_eq_false,cond_false]
 rw [aFh (by omega) (by rw [Nat.sub_add_cancel (by omega)]; exact h0)]
 rfl
def At (f:Int) (a:Nat):Int:=bif sF f a then -(Bv f a:Int) else Bv f a
theorem aTE (f:Int) (hf:Fm f) (a:Nat):Bv f a<2^63:=by
 have h3:=D5 hf
 exact Nat.lt_of_lt_of_le (Nat.mod_lt _ (Nat.two_pow_pos _)) (Nat.pow_le_pow_right (by omega) (by omega))
theorem aKE {f:Int} (a:Nat):((Bv f a:Int) != (a:Int))=sF f a:=by
 rw [aDV]
 unfold Bv sF
 rw [gO,Bool.eq_iff_iff]
 simp only [bne_iff_ne,ne_eq,decide_eq_true_eq]
 constructor
 ·intro h
  rcases Nat.lt_or_ge a (2^(fW f-1)) with h1 | h1
  ·exact absurd (Nat.mod_eq_of_lt h1) h
  ·exact h1
 ·intro h h1
  have:=Nat.mod_lt a (Nat.two_pow_pos (fW f-1))
  omega
theorem Wh {f:Int} {a:Nat} (ha:a<2^64) (h:Am f a=0):T8 (f,(a:Int),())=some ((Av f a,At f a,()),0,()):=by
 show UC AE.pre AE.F Eg.pre Eg.F f a=_
 unfold UC
 have hl:=aTE f (CT h).1 a
 have p0:=FR ha h
 have p1:=aGx ha h
 simp only [Dx p0,Du p0,aDN p1,qG p1,cond_true,bne_self_eq_false,cond_false,aKE]
 rw [As (n:=(Bv f a:Int)) (by omega),As (by omega)]
 unfold At
 cases sF f a
 ·rfl
 ·simp
theorem gC {f:Int} {a:Nat} (ha:a<2^64) (h:Am f a≠0):T8 (f,(a:Int),())=some ((0,0,()),Am f a,()):=by
 show UC AE.pre AE.F Eg.pre Eg.F f a=_
 unfold UC
 have p0:=SF ha h
 have:(Am f a != 0)=true:=by simpa using h
 simp only [Dx p0,Du p0,this,cond_true]
def Eh (f:Int) (a b:Nat):Int:=if Am f a=0 then Am f b else Am f a
theorem pR {f:Int} {a b:Nat} (ha:a<2^64) (hb:b<2^64) (h:Am f a=0) (h':Am f b=0):U3 (f,(a:Int),(b:Int),())=some ((Av f a,At f a,()),(Av f b,At f b,()),0,()):=by
 show TT DG.pre DG.F f a b=_
 unfold TT
 have p0:=Wh ha h
 have p1:=Wh hb h'
 simp only [KE p0,Kf p0,KE p1,Kf p1,cond_true,bne_self_eq_false,cond_false]
theorem uI {f:Int} {a b:Nat} (ha:a<2^64) (hb:b<2^64) (h:Eh f a b≠0):∃ x y,U3 (f,(a:Int),(b:Int),())=some (x,y,Eh f a b,()):=by
 show ∃ x y,TT DG.pre DG.F f a b=_
 unfold TT
 unfold Eh at h ⊢
 split at h
 ·rename_i h0
  have p0:=Wh ha h0
  have p1:=gC hb h
  refine ⟨(Av f a,At f a,()),(0,0,()),?_⟩
  simp only [KE p0,Kf p0,KE p1,Kf p1,cond_true,bne_self_eq_false,cond_false,if_pos h0]
 ·rename_i h0
  have p0:=gC ha h0
  have:(Am f a != 0)=true:=by simpa using h
  refine ⟨(0,0,()),(0,0,()),?_⟩
  simp only [KE p0,Kf p0,cond_true,this,if_neg h0]
def nan (f:Int) (a:Nat):Bool:=eF f a==BG f&&mF f a != 0
def AK (f:Int) (a:Nat):Bool:=nan f a&&mF f a/2^(fP f-2)==0
theorem G9 (f:Int) (a:Nat):(Av f a==1||Av f a==0)=nan f a:=by
 unfold Av nan
 simp only [bne]
 cases eF f a==BG f <;> cases mF f a==0 <;> cases sF f a <;> cases eF f a==0 <;> cases mF f a/2^(fP f-2)==0 <;> rfl
theorem E0 (f:Int) (a:Nat):(Av f a==0)=AK f a:=by
 unfold Av AK nan
 simp only [bne]
 cases eF f a==BG f <;> cases hm:mF f a==0 <;> cases sF f a <;> cases eF f a==0 <;> cases mF f a/2^(fP f-2)==0 <;> rfl
def FD (f:Int) (a b:Nat) (signal:Bool):Int×Int×Int×Unit :=
 if Eh f a b≠0 then (0,0,Eh f a b,())
 else bif nan f a||nan f b then (3,(bif signal then 1 else bif AK f a||AK f b then 1 else 0),0,())
 else if At f a<At f b then (0,0,0,())
 else if At f a>At f b then (2,0,0,())
 else (1,0,0,())
theorem uP {f:Int} {a b:Nat} (h:Eh f a b=0):Am f a=0/\Am f b=0:=by
 unfold Eh at h
 split at h
 ·exact ⟨by assumption,h⟩
 ·exact absurd h (by assumption)
theorem Kh (x:Aa (.pair (.int .i64) (.pair (.int .i64) .unit))):Xq (x,())=some ((x.1==1||x.1==0),()):=rfl
theorem KS (x y:Aa (.pair (.int .i64) (.pair (.int .i64) .unit))):XQ (x,y,())=some ((bif x.1==0||y.1==0 then 1 else 0),()):=by
 show eG x y=_
 unfold eG
 cases (x.1==(0:Int)||y.1==(0:Int)) <;> rfl
theorem aFO {f:Int} {a b:Nat} (ha:a<2^64) (hb:b<2^64) (s:Bool):YX (f,(a:Int),(b:Int),s,())=some (FD f a b s):=by
 show iP D0.pre D0.F CI.pre CI.F CH.pre CH.F f a b s=_
 unfold iP FD
 by_cases h:Eh f a b=0
 ·obtain ⟨h1,h2⟩:=uP h
  have p0:=pR ha hb h1 h2
  simp only [To p0,T3 p0,V5 (Kh _),XH (Kh _),Wk (KS _ _),Xe (KS _ _),cond_true,bne_self_eq_false,cond_false,G9,Bool.true_or,h,ne_eq,not_true_eq_false,if_false,gt_iff_lt]
  simp only [E0]
  cases nan f a||nan f b <;> cases s <;> by_cases hlt:At f a<At f b <;> by_cases hgt:At f b<At f a <;> simp [hlt,hgt]
 ·obtain ⟨x,y,p0⟩:=uI ha hb h
  have:(Eh f a b != 0)=true:=by simpa using h
  simp only [To p0,T3 p0,cond_true,this,if_pos (show Eh f a b≠0 from h)]
end VL
namespace VL
open Go Vx
theorem cV {f:Int} {a:Nat} (h:nan f a=false):AK f a=false:=by
 unfold AK; rw [h]; rfl
end VL
namespace VL
open Go Vx
theorem aVg {f:Int} (hf:Fm f):2^(fW f-1)=2^(fP f-1)*2^(fW f-fP f):=by
 have h1:=Dq hf
 have h2:=EC hf
 rw [← Nat.pow_add]
 congr 1
 omega
theorem Xc {f:Int} (hf:Fm f) (a:Nat):Bv f a=mF f a+2^(fP f-1)*eF f a:=by
 unfold Bv mF eF
 rw [aVg hf,Nat.mod_mul]
theorem bK {f:Int} {a:Nat} (h:Am f a=0):a=Bv f a+(bif sF f a then 2^(fW f-1) else 0):=by
 obtain ⟨hf,h0⟩:=CT h
 have h2:=EC hf
 have e:2^fW f=2*2^(fW f-1):=by rw [← Nat.pow_succ']; congr 1; omega
 unfold Bv sF
 rw [gO]
 by_cases hc:2^(fW f-1)<=a
 ·rw [decide_eq_true hc]
  simp only [cond_true]
  have:a%2^(fW f-1)=a-2^(fW f-1):=by
   rw [Nat.mod_eq_sub_mod hc,Nat.mod_eq_of_lt (by omega)]
  omega
 ·rw [decide_eq_false hc]
  simp only [cond_false]
  rw [Nat.mod_eq_of_lt (by omega)]
  rfl
theorem kW {f:Int} (a:Nat):Bv f a<2^(fW f-1):=Nat.mod_lt _ (Nat.two_pow_pos _)
theorem OR {f:Int} (hf:Fm f):0<BG f:=by
 rcases C5 hf with rfl | rfl | rfl | rfl <;> decide
theorem pL {f:Int} (hf:Fm f) (a:Nat):Bv f a=0↔eF f a=0/\mF f a=0:=by
 rw [Xc hf]
 have:=Nat.two_pow_pos (fP f-1)
 constructor
 ·intro h
  have h1:2^(fP f-1)*eF f a=0:=by omega
  rcases Nat.mul_eq_zero.1 h1 with h2 | h2
  ·omega
  ·exact ⟨h2,by omega⟩
 ·rintro ⟨h1,h2⟩
  rw [h1,h2]; rfl
theorem aQW {f:Int} (hf:Fm f) {a:Nat} (h:Bv f a=0):Av f a=bif sF f a then 5 else 6:=by
 obtain ⟨h1,h2⟩:=(pL hf a).1 h
 have h3:=OR hf
 unfold Av
 have e1:(eF f a==BG f)=false:=by rw [h1]; simp; omega
 have e2:(eF f a==0)=true:=by rw [h1]; rfl
 have e3:(mF f a==0)=true:=by rw [h2]; rfl
 rw [e1,e2,e3]
 rfl
theorem aE3 {f:Int} (hf:Fm f) {a:Nat} {c:Int} (hc:c=5∨c=6) (h:Av f a=c):Bv f a=0:=by
 rw [pL hf]
 unfold Av at h
 cases e1:eF f a==BG f <;> cases e2:eF f a==0 <;> cases e3:mF f a==0 <;> cases e4:sF f a <;> cases e5:mF f a/2^(fP f-2) != 0 <;>
  simp [e1,e2,e3,e4,e5] at h <;> first | (exfalso; omega) | (exact ⟨by simpa using e2,by simpa using e3⟩)
def CE (f:Int):Nat:=2^(fW f-1)-2^(fP f-2)
def sV (f:Int) (neg:Bool):Nat:=bif neg then 2^(fW f-1) else 0
theorem En {f:Int} (hf:Fm f):YL (f,())=some ((CE f:Int),0,()):=by
 rcases C5 hf with rfl | rfl | rfl | rfl <;> kernel_rfl
def wN (f:Int) (a b:Nat) (g:Bool):Nat :=
 if At f a=At f b/\a≠b then sV f (!g)
 else if (At f b<At f a/\g=false)∨(At f a<At f b/\g=true) then b else a
theorem aIs {f:Int} {a b:Nat} (h1:Am f a=0) (h2:Am f b=0) (hp:At f a=At f b) (hne:a≠b):Bv f a=0/\Bv f b=0/\sF f a=!sF f b:=by
 have ea:=bK h1
 have eb:=bK h2
 unfold At at hp
 cases hs:sF f a <;> cases hs':sF f b <;> rw [hs] at ea hp <;> rw [hs'] at eb hp <;> simp only [cond_true,cond_false] at ea eb hp
 ·omega
 ·exact ⟨by omega,by omega,rfl⟩
 ·exact ⟨by omega,by omega,rfl⟩
 ·omega
theorem aEF {f:Int} {a:Nat} (h:Am f a=0) (hz:Bv f a=0):a=sV f (sF f a):=by
 have:=bK h
 unfold sV
 rw [hz] at this
 omega
theorem x5 {f:Int} {a b:Nat} (h1:Am f a=0) (h2:Am f b=0) (g:Bool) :
  (bif (bif g then decide (At f a<At f b) else decide (At f b<At f a))||(At f a==0&&Av f b==(bif g then 6 else 5)) then b else a)=wN f a b g:=by
 have hf:=(CT h1).1
 unfold wN
 by_cases hab:a=b
 ·subst hab
  have:¬ ((At f a<At f a/\g=false)∨(At f a<At f a/\g=true)):=by omega
  simp only [ne_eq,not_true_eq_false,and_false,if_false,if_neg this]
  cases ((bif g then decide (At f a<At f a) else decide (At f a<At f a))||(At f a==0&&Av f a==(bif g then 6 else 5))) <;> rfl
 ·rcases Int.lt_trichotomy (At f a) (At f b) with hlt | heq | hgt
  ·have n0:¬ (At f a=At f b/\a≠b):=by omega
   rw [if_neg n0]
   cases g
   ·have n1:¬ ((At f b<At f a/\false=false)∨(At f a<At f b/\false=true)):=by simp; omega
    have n2:¬ At f b<At f a:=by omega
    rw [if_neg n1]
    simp only [cond_false,decide_eq_false n2,Bool.false_or]
    cases e1:At f a==0 <;> cases e2:Av f b==5
    ·rfl
    ·rfl
    ·rfl
    ·exfalso
     have z:=aE3 hf (.inl rfl) (by simpa using e2)
     have e3:At f a=0:=by simpa using e1
     have:At f b=0:=by unfold At; rw [z]; cases sF f b <;> rfl
     omega
   ·rw [if_pos (.inr ⟨hlt,rfl⟩)]
    simp only [cond_true,decide_eq_true hlt,Bool.true_or]
  ·obtain ⟨z1,z2,z3⟩:=aIs h1 h2 heq hab
   rw [if_pos ⟨heq,hab⟩]
   have e0:At f a=0:=by unfold At; rw [z1]; cases sF f a <;> rfl
   have c2:=aQW hf z2
   have za:=aEF h1 z1
   have zb:=aEF h2 z2
   have e1:(At f a==0)=true:=by simpa using e0
   have e2:At f b=0:=heq ▸ e0
   have n3:((bif g then decide (At f a<At f b) else decide (At f b<At f a)))=false:=by
    cases g <;> simp [e0,e2]
   rw [n3,e1,c2]
   cases g <;> cases hs:sF f b <;> rw [hs] at z3 zb <;> rw [z3] at za <;> first | exact za | exact zb
  ·have n0:¬ (At f a=At f b/\a≠b):=by omega
   rw [if_neg n0]
   cases g
   ·rw [if_pos (.inl ⟨hgt,rfl⟩)]
    simp only [cond_false,decide_eq_true hgt,Bool.true_or,cond_true]
   ·have n1:¬ ((At f b<At f a/\true=false)∨(At f a<At f b/\true=true)):=by simp; omega
    have n2:¬ At f a<At f b:=by omega
    rw [if_neg n1]
    simp only [cond_true,decide_eq_false n2,Bool.false_or]
    cases e1:At f a==0 <;> cases e2:Av f b==6
    ·rfl
    ·rfl
    ·rfl
    ·exfalso
     have z:=aE3 hf (.inr rfl) (by simpa using e2)
     have e3:At f a=0:=by simpa using e1
     have:At f b=0:=by unfold At; rw [z]; cases sF f b <;> rfl
     omega
def R1 (f:Int) (a b:Nat):Int:=bif AK f a||AK f b then 1 else 0
def PN (f:Int) (a b:Nat) (g:Bool):Int×Int×Int×Unit :=
 if Eh f a b≠0 then (0,0,Eh f a b,())
 else bif nan f a&&nan f b then ((CE f:Int),R1 f a b,0,())
 else bif nan f a then ((b:Int),R1 f a b,0,())
 else bif nan f b then ((a:Int),R1 f a b,0,())
 else ((wN f a b g:Int),0,0,())
theorem aFX {f:Int} {a b:Nat} (h1:nan f a=false) (h2:nan f b=false):R1 f a b=0:=by
 unfold R1; rw [cV h1,cV h2]; rfl
theorem aBc (x y:Int):XJ (x,y,())=some (decide (y<x),()):=rfl
theorem aCI (x y:Int):Wc (x,y,())=some (decide (y>x),()):=rfl
theorem aQI {f:Int} {a b:Nat} (ha:a<2^64) (hb:b<2^64):Yk (f,(a:Int),(b:Int),())=some (PN f a b false):=by
 show aF QN.pre QN.F D0.pre D0.F CH.pre CH.F AB.pre AB.F CI.pre CI.F f a b=_
 unfold aF PN
 by_cases h:Eh f a b=0
 ·obtain ⟨h1,h2⟩:=uP h
  have hf:=(CT h1).1
  have p0:=pR ha hb h1 h2
  have key:=x5 h1 h2 false
  simp only [To p0,T3 p0,V5 (Kh _),XH (Kh _),Wk (KS _ _),Xe (KS _ _),aU7 (aBc _ _),aOC (aBc _ _),Fx (En hf),Fp (En hf),
   cond_true,bne_self_eq_false,cond_false,G9,Bool.true_or,h,ne_eq,not_true_eq_false,if_false]
  simp only [E0]
  have fl:(bif AK f a||AK f b then (1:Int) else 0)=R1 f a b:=rfl
  simp only [fl]
  cases n1:nan f a <;> cases n2:nan f b <;> simp only [Bool.not_true,Bool.not_false,Bool.true_or,Bool.false_or,Bool.true_and,Bool.false_and,Bool.and_true,Bool.and_false,Bool.or_true,Bool.or_false,cond_true,cond_false]
  rw [aFX n1 n2,← key]
  simp only [cond_false]
  cases (decide (At f b<At f a)||(At f a==0&&Av f b==5)) <;> rfl
 ·obtain ⟨x,y,p0⟩:=uI ha hb h
  have:(Eh f a b != 0)=true:=by simpa using h
  simp only [To p0,T3 p0,cond_true,this,if_pos (show Eh f a b≠0 from h)]
theorem aRP {f:Int} {a b:Nat} (ha:a<2^64) (hb:b<2^64):XA (f,(a:Int),(b:Int),())=some (PN f a b true):=by
 show fE NS.pre NS.F D0.pre D0.F CH.pre CH.F AB.pre AB.F CI.pre CI.F f a b=_
 unfold fE PN
 by_cases h:Eh f a b=0
 ·obtain ⟨h1,h2⟩:=uP h
  have hf:=(CT h1).1
  have p0:=pR ha hb h1 h2
  have key:=x5 h1 h2 true
  simp only [To p0,T3 p0,V5 (Kh _),XH (Kh _),Wk (KS _ _),Xe (KS _ _),aLR (aCI _ _),aSy (aCI _ _),Fx (En hf),Fp (En hf),
   cond_true,bne_self_eq_false,cond_false,G9,Bool.true_or,h,ne_eq,not_true_eq_false,if_false]
  simp only [E0]
  have fl:(bif AK f a||AK f b then (1:Int) else 0)=R1 f a b:=rfl
  simp only [fl]
  cases n1:nan f a <;> cases n2:nan f b <;> simp only [Bool.not_true,Bool.not_false,Bool.true_or,Bool.false_or,Bool.true_and,Bool.false_and,Bool.and_true,Bool.and_false,Bool.or_true,Bool.or_false,cond_true,cond_false]
  rw [aFX n1 n2,← key]
  simp only [cond_true,gt_iff_lt]
  cases (decide (At f a<At f b)||(At f a==0&&Av f b==6)) <;> rfl
 ·obtain ⟨x,y,p0⟩:=uI ha hb h
  have:(Eh f a b != 0)=true:=by simpa using h
  simp only [To p0,T3 p0,cond_true,this,if_pos (show Eh f a b≠0 from h)]
end VL
namespace VL
open Go Vx
theorem aEI (k:Nat):Nat.testBit 1 k=decide (k=0):=by
 rw [Bool.eq_iff_iff]
 simp [Nat.testBit_one_eq_true_iff_self_eq_zero]
theorem aNL {m n:Nat} (h:m<2^(n+1)):m ^^^ 2^n=if m<2^n then m+2^n else m-2^n:=by
 apply Nat.eq_of_testBit_eq
 intro i
 rw [Nat.testBit_xor,Nat.testBit_two_pow]
 have h2:2^(n+1)=2*2^n:=Nat.pow_succ'
 split
 ·rename_i hm
  have:m+2^n=2^n*1+m:=by omega
  rw [this,Nat.testBit_two_pow_mul_add _ hm]
  by_cases hi:i<n
  ·have:¬ n=i:=by omega
   simp [hi,this]
  ·rw [if_neg hi,Nat.testBit_lt_two_pow (Nat.lt_of_lt_of_le hm (Nat.pow_le_pow_right (by omega) (by omega)))]
   rw [aEI]
   by_cases hn:n=i
   ·subst hn; simp
   ·have:¬ i-n=0:=by omega
    simp [hn,this]
 ·rename_i hm
  have e:m=2^n*1+(m-2^n):=by omega
  have hr:m-2^n<2^n:=by omega
  rw [e,Nat.testBit_two_pow_mul_add _ hr]
  have e2:2^n*1+(m-2^n)-2^n=m-2^n:=by omega
  rw [e2]
  by_cases hi:i<n
  ·have:¬ n=i:=by omega
   simp [hi,this]
  ·rw [if_neg hi,Nat.testBit_lt_two_pow (x:=m-2^n) (Nat.lt_of_lt_of_le hr (Nat.pow_le_pow_right (by omega) (by omega))),aEI]
   by_cases hn:n=i
   ·subst hn; simp
   ·have:¬ i-n=0:=by omega
    simp [hn,this]
theorem aPA {m n:Nat} (hn:n<=63) (h:m<2^(n+1)):jY .u64 (m:Int) ((2^n:Nat):Int)=((if m<2^n then m+2^n else m-2^n:Nat):Int):=by
 have h1:2^(n+1)<=2^64:=Nat.pow_le_pow_right (by omega) (by omega)
 have h2:2^n<2^64:=Nat.pow_lt_pow_right (by omega) (by omega)
 have h3:2^(n+1)=2*2^n:=Nat.pow_succ'
 have key:(BitVec.ofInt 64 (m:Int) ^^^ BitVec.ofInt 64 ((2^n:Nat):Int)).toNat=if m<2^n then m+2^n else m-2^n:=by
  rw [BitVec.toNat_xor,G3 (by omega),G3 h2,aNL h]
 show IntKind.u64.wrap (((BitVec.ofInt 64 (m:Int) ^^^ BitVec.ofInt 64 ((2^n:Nat):Int)).toNat:Nat):Int)=_
 rw [key]
 refine DW ⟨Int.natCast_nonneg _,?_⟩
 split <;> omega
def F9 (f:Int) (s:Bool) (n:Nat):Nat:=n+(bif s then 2^(fW f-1) else 0)
theorem aRc {f:Int} (hf:Fm f):2^fW f=2*2^(fW f-1):=by
 have h2:=EC hf
 rw [← Nat.pow_succ']; congr 1; omega
theorem aCa {f:Int} (hf:Fm f) (s:Bool) {n:Nat} (hn:n<2^(fW f-1)):Am f (F9 f s n)=0:=by
 apply aCV hf
 rw [aRc hf]
 unfold F9
 cases s <;> simp <;> omega
theorem aKL {f:Int} (s:Bool) {n:Nat} (hn:n<2^(fW f-1)):Bv f (F9 f s n)=n:=by
 unfold Bv F9
 cases s
 ·simp only [cond_false,Nat.add_zero]; exact Nat.mod_eq_of_lt hn
 ·simp only [cond_true,Nat.add_mod_right]; exact Nat.mod_eq_of_lt hn
theorem aKe {f:Int} (s:Bool) {n:Nat} (hn:n<2^(fW f-1)):sF f (F9 f s n)=s:=by
 unfold sF F9
 rw [gO]
 cases s
 ·simp only [cond_false,Nat.add_zero,decide_eq_false_iff_not]; omega
 ·simp
theorem yZ {f:Int} {a:Nat} (h:Am f a=0):a=F9 f (sF f a) (Bv f a):=bK h
theorem J4 {f:Int} {a:Nat} (h:Am f a=0):a<2^64:=by
 obtain ⟨hf,h0⟩:=CT h
 exact Nat.lt_of_lt_of_le h0 (Nat.pow_le_pow_right (by omega) (D5 hf))
theorem aQT {f:Int} (hf:Fm f) (a:Nat):eF f a=Bv f a/2^(fP f-1):=by
 rw [Xc hf,Nat.add_mul_div_left _ _ (Nat.two_pow_pos _)]
 have:mF f a/2^(fP f-1)=0:=Nat.div_eq_of_lt (Nat.mod_lt _ (Nat.two_pow_pos _))
 omega
theorem aKn {f:Int} (hf:Fm f) (a:Nat):mF f a=Bv f a%2^(fP f-1):=by
 rw [Xc hf,Nat.add_mul_mod_self_left]
 exact (Nat.mod_eq_of_lt (Nat.mod_lt _ (Nat.two_pow_pos _))).symm
def Gg (f:Int):Nat:=2^(fP f-1)*BG f
theorem aQn {f:Int} (hf:Fm f):Gg f+128<=2^(fW f-1):=by
 rcases C5 hf with rfl | rfl | rfl | rfl <;> decide
theorem aGZ {f:Int} (a:Nat):eF f a<=BG f:=by
 have:eF f a<2^(fW f-fP f):=Nat.mod_lt _ (Nat.two_pow_pos _)
 unfold BG; omega
theorem aSg {f:Int} (hf:Fm f) {a:Nat} (h:nan f a=false):Bv f a<=Gg f:=by
 rw [Xc hf]
 have h1:=aGZ (f:=f) a
 have hm:mF f a<2^(fP f-1):=Nat.mod_lt _ (Nat.two_pow_pos _)
 unfold nan at h
 unfold Gg
 rcases Nat.lt_or_ge (eF f a) (BG f) with h2 | h2
 ·have:2^(fP f-1)*(eF f a+1)<=2^(fP f-1)*BG f:=Nat.mul_le_mul_left _ h2
  rw [Nat.mul_add] at this
  omega
 ·have e:eF f a=BG f:=by omega
  rw [e] at h ⊢
  simp at h
  omega
theorem aTz {f:Int} (hf:Fm f) (a:Nat):Bv f a=Gg f↔eF f a=BG f/\mF f a=0:=by
 have hp:=Nat.two_pow_pos (fP f-1)
 constructor
 ·intro h
  rw [aQT hf,aKn hf,h]
  unfold Gg
  exact ⟨Nat.mul_div_cancel_left _ hp,Nat.mul_mod_right _ _⟩
 ·rintro ⟨h1,h2⟩
  rw [Xc hf,h1,h2]
  unfold Gg; omega
theorem aON {f:Int} (hf:Fm f) {a:Nat} (h:Bv f a=Gg f):Av f a=bif sF f a then 2 else 9:=by
 obtain ⟨h1,h2⟩:=(aTz hf a).1 h
 unfold Av
 rw [h1,h2]
 simp
def Ii (f:Int) (a:Nat):Nat:=F9 f (!sF f a) (Bv f a)
theorem aPg {f:Int} (hf:Fm f) (a:Nat):Am f (Ii f a)=0:=aCa hf _ (kW a)
theorem neg_neg {f:Int} {a:Nat} (h:Am f a=0):Ii f (Ii f a)=a:=by
 unfold Ii
 rw [aKL _ (kW a),aKe _ (kW a),Bool.not_not]
 exact (yZ h).symm
theorem nG {f:Int} {a:Nat} (h:Am f a=0):SI (f,(a:Int),())=some ((Ii f a:Int),0,()):=by
 obtain ⟨hf,h0⟩:=CT h
 show UF Ar.pre Ar.F Do.pre Do.F f a=_
 unfold UF
 have h2:=EC hf
 have h3:=D5 hf
 have p0:=Ex f a (J4 h)
 have p1:=nO hf
 simp only [Dv p0,Dy p0,pQ p1,oH p1,h,cond_true,bne_self_eq_false,cond_false]
 rw [aPA (by omega) (by rw [Nat.sub_add_cancel (by omega)]; exact h0)]
 have e:(if a<2^(fW f-1) then a+2^(fW f-1) else a-2^(fW f-1))=Ii f a:=by
  have hp:=yZ h
  have hl:=kW (f:=f) a
  unfold Ii
  unfold F9 at hp ⊢
  cases hs:sF f a <;> rw [hs] at hp <;> simp only [cond_true,cond_false,Bool.not_true,Bool.not_false] at hp ⊢
  ·rw [if_pos (by omega)]; omega
  ·rw [if_neg (by omega)]; omega
 rw [e]
theorem aJ2 {f:Int} {a:Nat} (ha:a<2^64) (h:Am f a≠0):SI (f,(a:Int),())=some (0,Am f a,()):=by
 show UF Ar.pre Ar.F Do.pre Do.F f a=_
 unfold UF
 have p0:=Ex f a ha
 have:(Am f a != 0)=true:=by simpa using h
 simp only [Dv p0,Dy p0,this,cond_true]
def wS (f:Int) (a:Nat) (w:Int):Nat :=
 bif (Av f a==9&&decide (w>0))||(Av f a==2&&decide (w<0)) then a
 else if At f a+w>0∨(At f a+w=0/\w<0) then (At f a+w).toNat
 else Ii f (-(At f a+w)).toNat
def zU (f:Int) (a:Nat) (w:Int):Nat:=bif nan f a then CE f else wS f a w
def Uk (f:Int) (a:Nat) (w:Int):Int×Int×Int×Unit :=
 if Am f a≠0 then (0,0,Am f a,()) else ((zU f a w:Int),(bif AK f a then 1 else 0),0,())
theorem aJV {f:Int} {a:Nat} (h:Am f a=0) (hn:nan f a=false) {w:Int} (hw:w=1∨w=-1) (hi:((Av f a==9&&decide (w>0))||(Av f a==2&&decide (w<0)))=false) :
  -(Gg f:Int)<=At f a+w/\At f a+w<=Gg f:=by
 have hf:=(CT h).1
 have hl:=aSg hf hn
 rcases Nat.lt_or_ge (Bv f a) (Gg f) with h1 | h1
 ·unfold At
  cases sF f a <;> simp only [cond_true,cond_false] <;> omega
 ·have e:Bv f a=Gg f:=by omega
  have hc:=aON hf e
  have hpos:0<Gg f:=Nat.mul_pos (Nat.two_pow_pos _) (OR hf)
  unfold At
  rw [hc] at hi
  cases hs:sF f a <;> rw [hs] at hi <;> rcases hw with rfl | rfl <;> simp at hi <;> simp only [cond_true,cond_false] <;> rw [e] <;> constructor <;> omega
theorem aRW {f:Int} {a:Nat} (ha:a<2^64) {w:Int} (hw:w=1∨w=-1):Zn (f,(a:Int),w,())=some (Uk f a w):=by
 show iQ DG.pre DG.F CI.pre CI.F AB.pre AB.F CH.pre CH.F DO.pre DO.F f a w=_
 unfold iQ Uk
 by_cases h:Am f a=0
 ·have hf:=(CT h).1
  have p0:=Wh ha h
  simp only [KE p0,Kf p0,V5 (Kh _),XH (Kh _),Wk (KS _ _),Xe (KS _ _),Fx (En hf),Fp (En hf),cond_true,bne_self_eq_false,cond_false,G9,h,ne_eq,not_true_eq_false,if_false]
  simp only [E0,Bool.or_self]
  unfold zU
  cases hn:nan f a
  ·have hs:=cV hn
   rw [hs]
   simp only [cond_false]
   unfold wS
   cases hi:(Av f a==9&&decide (w>0))||(Av f a==2&&decide (w<0))
   ·obtain ⟨r1,r2⟩:=aJV h hn hw hi
    have hroom:=aQn hf
    have hW:=D5 hf
    have h63:2^(fW f-1)<=2^63:=Nat.pow_le_pow_right (by omega) (by omega)
    have e1:IntKind.wrap .i64 (At f a+w)=At f a+w:=As (by omega)
    simp only [cond_false,e1]
    by_cases ht:At f a+w>0∨(At f a+w=0/\w<0)
    ·have:(decide (At f a+w>0)||(At f a+w==0&&decide (w<0)))=true:=by
      simp only [Bool.or_eq_true,decide_eq_true_eq,Bool.and_eq_true,beq_iff_eq]; exact ht
     rw [this,if_pos ht,cond_true,DW (by omega)]
     have:((At f a+w).toNat:Int)=At f a+w:=by omega
     rw [this]
    ·have:(decide (At f a+w>0)||(At f a+w==0&&decide (w<0)))=false:=by
      rw [Bool.eq_false_iff]
      simp only [ne_eq,Bool.or_eq_true,decide_eq_true_eq,Bool.and_eq_true,beq_iff_eq]; exact ht
     rw [this,if_neg ht,cond_false]
     have e2:IntKind.wrap .u64 (IntKind.wrap .i64 (0-(At f a+w)))=(((-(At f a+w)).toNat:Nat):Int):=by
      rw [As (by omega),DW (by omega)]; omega
     rw [e2]
     have hc:Am f (-(At f a+w)).toNat=0:=by
      have:=aCa hf false (n:=(-(At f a+w)).toNat) (by omega)
      simpa [F9] using this
     have p1:=nG hc
     simp only [wF p1,vU p1,cond_true]
   ·simp only [cond_true]
  ·simp only [cond_true]
 ·have p0:=gC ha h
  have:(Am f a != 0)=true:=by simpa using h
  simp only [KE p0,Kf p0,this,cond_true,if_pos (show Am f a≠0 from h)]
theorem aLr {f:Int} {a:Nat} (ha:a<2^64):Zd (f,(a:Int),())=some (Uk f a 1):=by
 show aV OI.pre OI.F f a=_
 unfold aV
 have p:=aRW (f:=f) ha (.inl rfl)
 simp only [aH6 p,aJn p,cond_true]
end VL
namespace VL
open Go Vx
def nv (B:Nat):List Nat->Nat
 | []=>0
 | x::r=>x+B*nv B r
def Ai:List Nat->List Nat
 | []=>[]
 | x::r=>match Ai r with
  | []=>if x=0 then [] else [x]
  | y::t=>x::y::t
def dg (B:Nat) (n:Nat):List Nat :=
 if h:n=0∨B<2 then [] else n%B::dg B (n/B)
termination_by n
decreasing_by exact Nat.div_lt_self (by omega) (by omega)
theorem Ev (B:Nat):dg B 0=[]:=by rw [dg]; simp
theorem F7 {B n:Nat} (hB:2<=B) (hn:0<n):dg B n=n%B::dg B (n/B):=by
 rw [dg]; rw [dif_neg (by omega)]
theorem Ga {B:Nat} (hB:2<=B):∀ (n:Nat),∀ x∈dg B n,x<B:=by
 intro n
 induction n using Nat.strongRecOn with
 | ind n ih =>
  intro x hx
  rcases Nat.eq_zero_or_pos n with rfl | hn
  ·rw [Ev] at hx; simp at hx
  ·rw [F7 hB hn] at hx
   rcases List.mem_cons.1 hx with rfl | hx
   ·exact Nat.mod_lt _ (by omega)
   ·exact ih (n/B) (Nat.div_lt_self hn (by omega)) x hx
theorem lV {B:Nat} (hB:2<=B):∀ (n:Nat),nv B (dg B n)=n:=by
 intro n
 induction n using Nat.strongRecOn with
 | ind n ih =>
  rcases Nat.eq_zero_or_pos n with rfl | hn
  ·rw [Ev]; rfl
  ·rw [F7 hB hn]
   simp only [nv]
   rw [ih (n/B) (Nat.div_lt_self hn (by omega))]
   exact Nat.mod_add_div n B
theorem aCl {B x v:Nat} (hB:2<=B) (hx:x<B) (h:0<x+B*v):dg B (x+B*v)=x::dg B v:=by
 rw [F7 hB h,Nat.add_mul_mod_self_left,Nat.mod_eq_of_lt hx,Nat.add_mul_div_left _ _ (by omega),Nat.div_eq_of_lt hx,Nat.zero_add]
theorem G0 {B:Nat} (hB:2<=B):∀ (l:List Nat),(∀ x∈l,x<B)->Ai l=dg B (nv B l)
 | [],_=>by simp only [nv]; rw [Ev]; rfl
 | x::r,h=>by
  have ih:=G0 hB r fun y hy=>h y (by simp [hy])
  simp only [Ai,nv]
  rcases Nat.eq_zero_or_pos (nv B r) with h0 | h0
  ·rw [ih,h0,Ev,Nat.mul_zero,Nat.add_zero]
   simp only
   rcases Nat.eq_zero_or_pos x with rfl | hx
   ·rw [Ev]; rfl
   ·rw [if_neg (by omega)]
    have:=aCl (v:=0) hB (h x (by simp)) (by omega)
    rw [Nat.mul_zero,Nat.add_zero,Ev] at this
    exact this.symm
  ·have hp:0<B*nv B r:=Nat.mul_pos (by omega) h0
   rw [aCl hB (h x (by simp)) (by omega),ih]
   rw [F7 hB h0]
theorem D7:∀ (l:List Nat),(Ai l).length<=l.length/\Ai l=l.take (Ai l).length
 | []=>⟨Nat.le_refl _,rfl⟩
 | x::r=>by
  obtain ⟨h1,h2⟩:=D7 r
  simp only [Ai]
  cases e:Ai r with
  | nil =>
   simp only
   split
   ·exact ⟨by simp,rfl⟩
   ·exact ⟨by simp,rfl⟩
  | cons y t =>
   rw [e] at h1 h2
   simp only
   refine ⟨by simp at h1 ⊢; omega,?_⟩
   simp only [List.length_cons,List.take_succ_cons]
   congr 1
theorem nA:∀ (l:List Nat) (i:Nat),(Ai l).length<=i->l.getD i 0=0
 | [],i,_=>by simp
 | x::r,i,h=>by
  have ih:=nA r
  simp only [Ai] at h
  cases e:Ai r with
  | nil =>
   rw [e] at h ih
   simp only at h
   cases i with
   | zero =>
    split at h
    ·rename_i hx; simp [hx]
    ·simp at h
   | succ i=>simpa using ih i (by simp)
  | cons y t =>
   rw [e] at h ih
   simp only at h
   cases i with
   | zero=>simp at h
   | succ i=>simpa using ih i (by simpa using h)
theorem Yi:∀ (l:List Nat),0<(Ai l).length->l.getD ((Ai l).length-1) 0≠0
 | [],h=>by simp [Ai] at h
 | x::r,h=>by
  have ih:=Yi r
  simp only [Ai] at h ⊢
  cases e:Ai r with
  | nil =>
   rw [e] at h
   simp only at h ⊢
   split at h
   ·simp at h
   ·rename_i hx; rw [if_neg hx]; simpa using hx
  | cons y t =>
   rw [e] at ih
   simp only [List.length_cons] at ih ⊢
   have:=ih (by simp)
   simpa using this
def Wd (l:List Nat):List Int:=l.map fun n:Nat=>(n:Int)
theorem AA (l:List Nat):(Wd l).length=l.length:=by simp [Wd]
theorem B9 (l:List Nat) (i:Nat):(Wd l).getD i 0=((l.getD i 0:Nat):Int):=by
 unfold Wd
 rw [List.getD_eq_getElem?_getD,List.getD_eq_getElem?_getD,List.getElem?_map]
 cases l[i]? <;> simp
theorem j9 (l:List Nat) (n:Nat):(Wd l).take n=Wd (l.take n):=by simp [Wd,List.map_take]
theorem aOa (l:List Nat) (n:Nat):(Wd l).drop n=Wd (l.drop n):=by simp [Wd,List.map_drop]
theorem Ee (l:List Nat) (i n:Nat):(Wd l).set i (n:Int)=Wd (l.set i n):=by simp [Wd,List.map_set]
theorem RI (n:Nat):List.replicate n (0:Int)=Wd (List.replicate n 0):=by simp [Wd]
end VL
namespace VL
open Go Vx
def Ws (l:List Nat):Prop:=(∀ x∈l,x<2^64)/\l.length<=1000000
theorem aUw (l:List Nat) (hl:l.length<=1000000) (n:Nat) (hn:n<=l.length) (ht:(Ai l).length<=n) :
  lM ((Wd l,((n:Int),())),())=some (.inl ((Wd l,(((Ai l).length:Int),())),())):=by
 have key:=Dm zR (fun x=>x.1.2.1.toNat)
  (fun x=>∃ n:Nat,n<=l.length/\(Ai l).length<=n/\x=((Wd l,((n:Int),())),()))
  (fun _=>.inl ((Wd l,(((Ai l).length:Int),())),())) ?_ ((Wd l,((n:Int),())),()) ⟨n,hn,ht,rfl⟩
 ·exact key
 intro L x hx hL
 obtain ⟨n,hn,ht,rfl⟩:=hx
 unfold Tj
 rcases Nat.eq_zero_or_pos n with rfl | hpos
 ·have e1:decide (((0:Nat):Int)>0)=false:=rfl
  simp only [e1,Bool.not_false,Bool.or_true,cond_true,Bool.false_and,cond_false]
  have:(Ai l).length=0:=by omega
  rw [this]
 ·have e0:IntKind.wrap .i64 ((n:Int)-1)=((n-1:Nat):Int):=Eu n 1 (by omega) (by omega)
  have e1:decide ((n:Int)>0)=true:=by simp; omega
  have e2:(decide ((0:Int)<=((n-1:Nat):Int))&&decide (((n-1:Nat):Int)<((Wd l).length:Int)))=true:=by
   rw [AA]; simp; omega
  simp only [e0,e1,e2,Bool.true_or,cond_true,Bool.true_and,Int.toNat_natCast,B9,Fq]
  cases hz:(l.getD (n-1) 0==0) with
  | true =>
   simp only [cond_true]
   refine hL _ ⟨n-1,by omega,?_,rfl⟩ (by simp only [Int.toNat_natCast]; omega)
   rcases Nat.lt_or_ge (n-1) (Ai l).length with h | h
   ·exfalso
    have e:n=(Ai l).length:=by omega
    have:=Yi l (by omega)
    rw [← e] at this
    exact this (by simpa using hz)
   ·exact h
  | false =>
   simp only [cond_false]
   have:(Ai l).length=n:=by
    rcases Nat.lt_or_ge (n-1) (Ai l).length with h | h
    ·omega
    ·exfalso
     have:=nA l (n-1) h
     rw [this] at hz
     simp at hz
   rw [this]
theorem Ef (l:List Nat) (hl:l.length<=1000000):SG (Wd l,())=some (Wd (Ai l),()):=by
 show aY lM (Wd l)=_
 unfold aY
 have h:=aUw l hl l.length (Nat.le_refl _) (D7 l).1
 rw [AA]
 rw [h]
 have e:(decide ((0:Int)<=((Ai l).length:Int))&&decide (((Ai l).length:Int)<=((Wd l).length:Int)))=true:=by
  rw [AA]; have:=(D7 l).1; simp; omega
 show (bif (decide ((0:Int)<=((Ai l).length:Int))&&decide (((Ai l).length:Int)<=((Wd l).length:Int))) then some (List.drop (Int.toNat 0) (List.take (Int.toNat ((Ai l).length:Int)) (Wd l)),()) else none)=_
 rw [e,cond_true,Int.toNat_natCast,Int.toNat_zero,List.drop_zero,j9]
 have:=(D7 l).2
 rw [← this]
def An (n:Nat):Nat:=if n=0 then 0 else Nat.log2 n+1
theorem G2 (n:Nat):n<2^An n:=by
 unfold An
 split
 ·subst_vars; decide
 ·exact Nat.lt_log2_self
theorem Ir {n:Nat} (h:n≠0):2^(An n-1)<=n:=by
 unfold An
 rw [if_neg h]
 exact Nat.log2_self_le h
theorem aU5 {n k:Nat} (h1:2^k<=n) (h2:n<2^(k+1)):An n=k+1:=by
 have hp:=Nat.two_pow_pos k
 have hn:n≠0:=by omega
 have a1:=G2 n
 have a2:=Ir hn
 have b1:An n-1<k+1:=(Nat.pow_lt_pow_iff_right (by decide)).1 (Nat.lt_of_le_of_lt a2 h2)
 have b2:k<An n:=(Nat.pow_lt_pow_iff_right (by decide)).1 (Nat.lt_of_le_of_lt h1 a1)
 omega
theorem nW {n k:Nat} (h:2^k<=n):An n=k+An (n/2^k):=by
 have hp:=Nat.two_pow_pos k
 have hq:0<n/2^k:=Nat.div_pos h hp
 have a1:=G2 (n/2^k)
 have a2:=Ir (n:=n/2^k) (by omega)
 have hb:0<An (n/2^k):=by unfold An; rw [if_neg (by omega)]; omega
 have h1:2^(k+(An (n/2^k)-1))<=n:=by
  rw [Nat.pow_add]
  calc 2^k*2^(An (n/2^k)-1)<=2^k*(n/2^k):=Nat.mul_le_mul_left _ a2
   _<=n:=Nat.mul_div_le n _
 have h2:n<2^(k+(An (n/2^k)-1)+1):=by
  rw [show k+(An (n/2^k)-1)+1=k+An (n/2^k) by omega,Nat.pow_add,Nat.mul_comm]
  exact (Nat.div_lt_iff_lt_mul hp).1 a1
 have:=aU5 h1 h2
 omega
theorem yJ:∀ i:Nat,i<256->(HY.getD i 0).toNat=An i:=by
 have h:((List.range 256).all fun i=>decide ((HY.getD i 0).toNat=An i))=true:=by decide +kernel
 intro i hi
 have:=List.all_eq_true.1 h i (List.mem_range.2 hi)
 simpa using this
theorem Vk (n:Nat) (hn:n<2^64):ZC ((n:Int),())=some ((An n:Int),()):=by
 have hs:∀ m k:Nat,k<=64->AJ .u64 (m:Int) (k:Int)=((m/2^k:Nat):Int):=fun m k hk=>DD m k hk
 have S2:∀ m:Nat,AJ .u64 (m:Int) 32=((m/2^32:Nat):Int):=fun m=>hs m 32 (by decide)
 have s16:∀ m:Nat,AJ .u64 (m:Int) 16=((m/2^16:Nat):Int):=fun m=>hs m 16 (by decide)
 have s8:∀ m:Nat,AJ .u64 (m:Int) 8=((m/2^8:Nat):Int):=fun m=>hs m 8 (by decide)
 have ge:∀ m k:Nat,decide ((m:Int)>=(k:Int))=decide (k<=m):=fun m k=>by rw [Bool.eq_iff_iff]; simp
 have g32:∀ m:Nat,decide ((m:Int)>=4294967296)=decide (2^32<=m):=fun m=>ge m (2^32)
 have g16:∀ m:Nat,decide ((m:Int)>=65536)=decide (2^16<=m):=fun m=>ge m (2^16)
 have g8:∀ m:Nat,decide ((m:Int)>=256)=decide (2^8<=m):=fun m=>ge m (2^8)
 have tab:∀ m:Nat,m<256->IntKind.wrap .u8 (m:Int)=(m:Int):=fun m hm=>IntWalk.u8_in _ (by omega)
 have look:∀ (m:Nat) (c:Int) (d:Nat),m<256->c=(d:Int)->d<=56->(bif (decide ((0:Int)<=IntKind.wrap .u8 (m:Int))&&decide (IntKind.wrap .u8 (m:Int)<(256:Int))) then (some (IntKind.wrap .i64 (c+IntKind.wrap .i64 ((UInt8.toNat (HY.getD (Int.toNat (IntKind.wrap .u8 (m:Int))) 0):Nat):Int)),()):Option (DenS Fo)) else none)=some (((d+An m:Nat):Int),()):=fun m c d hm hc hd=>by
  have e:(decide ((0:Int)<=(m:Int))&&decide ((m:Int)<(256:Int)))=true:=by simp; omega
  have hb:An m<=8:=by
   have:=yJ m hm
   rcases Nat.eq_zero_or_pos m with rfl | hpos
   ·decide
   ·have:=Ir (n:=m) (by omega)
    have h8:An m-1<8:=(Nat.pow_lt_pow_iff_right (a:=2) (by decide)).1 (Nat.lt_of_le_of_lt this hm)
    omega
  rw [tab m hm,e,cond_true,Int.toNat_natCast,yJ m hm,hc,As (n:=((An m:Nat):Int)) (by omega),As (by omega)]
  rfl
 show fU n=_
 unfold fU
 have BS:∀ (k:Nat),2^k<=n->k+An (n/2^k)=An n:=fun k h=>(nW h).symm
 have dd:∀ a b:Nat,n/2^a/2^b=n/2^(a+b):=fun a b=>by rw [Nat.div_div_eq_div_mul,← Nat.pow_add]
 have up:∀ a b:Nat,2^b<=n/2^a->2^(a+b)<=n:=fun a b h=>by
  rw [Nat.pow_add,Nat.mul_comm]
  exact (Nat.le_div_iff_mul_le (Nat.two_pow_pos a)).1 h
 have down:∀ a b:Nat,n/2^a<2^b->n<2^(a+b):=fun a b h=>by
  rw [Nat.pow_add,Nat.mul_comm]
  exact (Nat.div_lt_iff_lt_mul (Nat.two_pow_pos a)).1 h
 have small:∀ a:Nat,n<2^(a+8)->n/2^a<256:=fun a h=>by
  rw [Nat.div_lt_iff_lt_mul (Nat.two_pow_pos a),Nat.mul_comm]
  rw [Nat.pow_add] at h; exact h
 simp only [S2,s16,s8,g32,g16,g8]
 by_cases h1:2^32<=n
 ·rw [decide_eq_true h1,cond_true]
  by_cases h2:2^16<=n/2^32
  ·rw [decide_eq_true h2,cond_true]
   by_cases h3:2^8<=n/2^32/2^16
   ·rw [decide_eq_true h3,cond_true]
    rw [dd 32 16] at h3
    have hm:n/2^32/2^16/2^8=n/2^56:=by rw [dd 32 16,dd 48 8]
    refine (look (n/2^32/2^16/2^8) _ 56 (by rw [hm]; exact small 56 hn) rfl (by decide)).trans ?_
    rw [hm,BS 56 (up 48 8 h3)]
   ·rw [decide_eq_false h3,cond_false]
    rw [dd 32 16] at h3
    refine (look (n/2^32/2^16) _ 48 (by rw [dd 32 16]; exact small 48 (down 48 8 (by omega))) rfl (by decide)).trans ?_
    rw [dd 32 16,BS 48 (up 32 16 h2)]
  ·rw [decide_eq_false h2,cond_false]
   by_cases h3:2^8<=n/2^32
   ·rw [decide_eq_true h3,cond_true]
    refine (look (n/2^32/2^8) _ 40 (by rw [dd 32 8]; exact small 40 (down 32 16 (by omega))) rfl (by decide)).trans ?_
    rw [dd 32 8,BS 40 (up 32 8 h3)]
   ·rw [decide_eq_false h3,cond_false]
    refine (look (n/2^32) _ 32 (small 32 (down 32 8 (by omega))) rfl (by decide)).trans ?_
    rw [BS 32 h1]
 ·rw [decide_eq_false h1,cond_false]
  by_cases h2:2^16<=n
  ·rw [decide_eq_true h2,cond_true]
   by_cases h3:2^8<=n/2^16
   ·rw [decide_eq_true h3,cond_true]
    refine (look (n/2^16/2^8) _ 24 (by rw [dd 16 8]; exact small 24 (by omega)) rfl (by decide)).trans ?_
    rw [dd 16 8,BS 24 (up 16 8 h3)]
   ·rw [decide_eq_false h3,cond_false]
    refine (look (n/2^16) _ 16 (small 16 (down 16 8 (by omega))) rfl (by decide)).trans ?_
    rw [BS 16 h2]
  ·rw [decide_eq_false h2,cond_false]
   by_cases h3:2^8<=n
   ·rw [decide_eq_true h3,cond_true]
    refine (look (n/2^8) _ 8 (small 8 (by omega)) rfl (by decide)).trans ?_
    rw [BS 8 h3]
   ·rw [decide_eq_false h3,cond_false]
    refine (look n 0 0 (by omega) rfl (by decide)).trans ?_
    rw [Nat.zero_add]
end VL
namespace VL
open Go Vx
theorem S7 (B:Nat):∀ (l m:List Nat),nv B (l++m)=nv B l+B^l.length*nv B m
 | [],m=>by simp [nv]
 | x::r,m=>by
  simp only [List.cons_append,nv,List.length_cons]
  rw [S7 B r m,Nat.pow_succ,Nat.mul_add,Nat.add_assoc]
  congr 2
  rw [Nat.mul_comm (B^r.length) B,Nat.mul_assoc]
theorem DU {B:Nat} (hB:2<=B):∀ (l:List Nat),(∀ x∈l,x<B)->nv B l<B^l.length
 | [],_=>by simp [nv]
 | x::r,h=>by
  have ih:=DU hB r fun y hy=>h y (by simp [hy])
  have hx:=h x (by simp)
  simp only [nv,List.length_cons,Nat.pow_succ]
  have:B*nv B r<=B*(B^r.length-1):=Nat.mul_le_mul_left _ (by omega)
  have hp:0<B^r.length:=Nat.pow_pos (by omega)
  rw [Nat.mul_sub] at this
  have h1:B*1<=B*B^r.length:=Nat.mul_le_mul_left _ hp
  rw [Nat.mul_comm (B^r.length) B]
  omega
theorem LS (B:Nat) (l:List Nat) (i:Nat) (h:i<=l.length):nv B l=nv B (l.take i)+B^i*nv B (l.drop i):=by
 conv=>lhs; rw [← List.take_append_drop i l]
 rw [S7]
 simp [h]
theorem I5 {B:Nat} (hB:2<=B) {l:List Nat} (h:∀ x∈l,x<B):nv B (Ai l)=nv B l:=by
 rw [G0 hB l h,lV hB]
theorem R2 {l:List Nat} {x:Nat} (h:x∈Ai l):x∈l:=by
 rw [(D7 l).2] at h
 exact List.mem_of_mem_take h
theorem aAH {l:List Nat} {i:Nat} (h:i<(Ai l).length):(Ai l)[i]? = l[i]?:=by
 have:(Ai l)[i]? = (l.take (Ai l).length)[i]?:=congrArg (fun t:List Nat=>t[i]?) (D7 l).2
 rw [this,List.getElem?_take_of_lt h]
theorem aRZ {a b k:Nat} (ha:a<2^k) (hb:0<b):An (a+2^k*b)=k+An b:=by
 have hp:=Nat.two_pow_pos k
 have h1:2^k*1<=2^k*b:=Nat.mul_le_mul_left _ hb
 rw [nW (n:=a+2^k*b) (k:=k) (by omega),Nat.add_mul_div_left _ _ hp,Nat.div_eq_of_lt ha,Nat.zero_add]
theorem Cu (i:Nat):(2^64)^i=2^(64*i):=by rw [← Nat.pow_mul]
theorem aGL {l:List Nat} (h:∀ x∈l,x<2^64) (hl:0<(Ai l).length):An (nv (2^64) l)=64*((Ai l).length-1)+An (l.getD ((Ai l).length-1) 0):=by
 have hlast:=Yi l hl
 have hle:=(D7 l).1
 rw [← I5 (by decide) h]
 have hm:∀ x∈Ai l,x<2^64:=fun x hx=>h x (R2 hx)
 rw [LS _ (Ai l) ((Ai l).length-1) (by omega),Cu]
 have hd:(Ai l).drop ((Ai l).length-1)=[l.getD ((Ai l).length-1) 0]:=by
  have hlt:(Ai l).length-1<(Ai l).length:=by omega
  rw [List.drop_eq_getElem_cons hlt]
  have e1:(Ai l).length-1+1=(Ai l).length:=by omega
  rw [e1,List.drop_length]
  congr 1
  have:(Ai l)[(Ai l).length-1]? = l[(Ai l).length-1]?:=aAH hlt
  rw [List.getElem?_eq_getElem hlt] at this
  rw [List.getD_eq_getElem?_getD,← this]
  rfl
 rw [hd]
 have hlow:=DU (B:=2^64) (by decide) ((Ai l).take ((Ai l).length-1)) fun x hx=>hm x (List.mem_of_mem_take hx)
 rw [List.length_take,Nat.min_eq_left (by omega),Cu] at hlow
 have:nv (2^64) [l.getD ((Ai l).length-1) 0]=l.getD ((Ai l).length-1) 0:=by simp [nv]
 rw [this]
 exact aRZ hlow (by omega)
theorem aBB {l:List Nat} (h:∀ x∈l,x<2^64) (h0:(Ai l).length=0):nv (2^64) l=0:=by
 have:Ai l=[]:=List.eq_nil_of_length_eq_zero h0
 rw [← I5 (by decide) h,this]; rfl
theorem Cq {l:List Nat} {B:Nat} (hB:0<B) (h:∀ x∈l,x<B) (i:Nat):l.getD i 0<B:=by
 rw [List.getD_eq_getElem?_getD]
 cases e:l[i]? with
 | none=>exact hB
 | some x=>exact h x (List.mem_of_getElem? e)
theorem aHY (l:List Nat) (hl:Ws l):TF (Wd l,())=some ((An (nv (2^64) l):Int),()):=by
 obtain ⟨h,hlen⟩:=hl
 show dD Ag.pre Ag.F Bx.pre Bx.F (Wd l)=_
 unfold dD
 have p0:=Ef l hlen
 have hle:=(D7 l).1
 simp only [CX p0,CV p0,cond_true,AA]
 rcases Nat.eq_zero_or_pos (Ai l).length with h0 | h0
 ·rw [h0,aBB h h0]; rfl
 ·have e0:(((Ai l).length:Int)==0)=false:=by rw [Fq]; exact beq_false_of_ne (by omega)
  have e1:IntKind.wrap .i64 (((Ai l).length:Int)-1)=(((Ai l).length-1:Nat):Int):=Eu (Ai l).length 1 (by omega) (by omega)
  have e2:(decide ((0:Int)<=(((Ai l).length-1:Nat):Int))&&decide ((((Ai l).length-1:Nat):Int)<((Ai l).length:Int)))=true:=by simp only [Bool.and_eq_true,decide_eq_true_eq]; omega
  have e3:(Wd (Ai l)).getD ((Ai l).length-1) 0=((l.getD ((Ai l).length-1) 0:Nat):Int):=by
   rw [B9]
   congr 1
   rw [List.getD_eq_getElem?_getD,List.getD_eq_getElem?_getD]
   rw [aAH (by omega)]
  have hd:=Cq (by decide) h ((Ai l).length-1)
  have p1:=Vk _ hd
  have hb:An (l.getD ((Ai l).length-1) 0)<=64:=by
   rcases Nat.eq_zero_or_pos (l.getD ((Ai l).length-1) 0) with z | z
   ·rw [z]; decide
   ·have:=Ir (n:=l.getD ((Ai l).length-1) 0) (by omega)
    have:An (l.getD ((Ai l).length-1) 0)-1<64:=(Nat.pow_lt_pow_iff_right (a:=2) (by decide)).1 (Nat.lt_of_le_of_lt this hd)
    omega
  rw [e0,e1,e2,cond_false,cond_true,Int.toNat_natCast,e3]
  simp only [UZ p1,UD p1,cond_true]
  rw [aGL h h0,As (n:=64*(((Ai l).length-1:Nat):Int)) (by omega),As (by omega)]
  congr 2
end VL
namespace VL
open Go Vx
theorem Ji (x:Nat):IntKind.wrap .u64 (x:Int)=((x%2^64:Nat):Int):=by
 simp [IntKind.wrap,IntKind.bits,IntKind.signed]
 try omega
theorem El (x n:Nat) (hn:n<=64):AT .u64 (x:Int) (n:Int)=((x*2^n%2^64:Nat):Int):=by
 have hm:(min (n:Int).toNat IntKind.u64.bits)=n:=by simp [IntKind.bits]; omega
 unfold AT
 rw [hm]
 have e:(x:Int)*2^n=((x*2^n:Nat):Int):=by simp
 rw [e]
 exact Ji _
theorem Fc {a b k:Nat} (ha:a<2^k) (h:a+b*2^k<2^64):AX .u64 (a:Int) ((b*2^k:Nat):Int)=((a+b*2^k:Nat):Int):=by
 have key:(BitVec.ofInt 64 (a:Int) ||| BitVec.ofInt 64 ((b*2^k:Nat):Int)).toNat=a+b*2^k:=by
  rw [BitVec.toNat_or,G3 (by omega),G3 (by omega),Nat.mul_comm b,Nat.or_comm,← Nat.two_pow_add_eq_or_of_lt ha]
  omega
 show IntKind.u64.wrap (((BitVec.ofInt 64 (a:Int) ||| BitVec.ofInt 64 ((b*2^k:Nat):Int)).toNat:Nat):Int)=_
 rw [key]
 exact DW (by omega)
def Bb (s:Nat):List Nat->List Nat
 | []=>[]
 | x::r=>(x/2^s+(r.getD 0 0%2^s)*2^(64-s))::Bb s r
theorem Kl (s:Nat):∀ l,(Bb s l).length=l.length
 | []=>rfl
 | _::r=>by simp [Bb,Kl s r]
theorem V9 (s:Nat):∀ (l:List Nat) (i:Nat),i<l.length->(Bb s l)[i]? = some (l.getD i 0/2^s+(l.getD (i+1) 0%2^s)*2^(64-s))
 | [],i,h=>by simp at h
 | x::r,0,_=>by simp [Bb]
 | x::r,i+1,h=>by
  simp only [Bb,List.getElem?_cons_succ]
  rw [V9 s r i (by simpa using h)]
  simp
theorem UP {s:Nat} (hs:s<=64):2^64=2^s*2^(64-s):=by rw [← Nat.pow_add]; congr 1; omega
theorem dO {s:Nat} (hs:s<=64) {x y:Nat} (hx:x<2^64):x/2^s<2^(64-s)/\x/2^s+(y%2^s)*2^(64-s)<2^64:=by
 have hp:=Nat.two_pow_pos s
 have h1:x/2^s<2^(64-s):=by
  rw [Nat.div_lt_iff_lt_mul hp,Nat.mul_comm,← UP hs]; exact hx
 refine ⟨h1,?_⟩
 have h2:y%2^s+1<=2^s:=Nat.mod_lt _ hp
 have h3:=Nat.mul_le_mul_right (2^(64-s)) h2
 rw [← UP hs,Nat.add_mul,Nat.one_mul] at h3
 omega
theorem aO6 {B:Nat} {s:Nat} (hB:B%2^s=0):∀ l:List Nat,nv B l%2^s=l.getD 0 0%2^s
 | []=>by simp [nv]
 | x::r=>by
  simp only [nv,List.getD_cons_zero]
  obtain ⟨c,hc⟩:=Nat.dvd_of_mod_eq_zero hB
  rw [hc,Nat.mul_assoc,Nat.add_mul_mod_self_left]
theorem qW {s:Nat} (hs:s<=64):∀ l:List Nat,nv (2^64) (Bb s l)=nv (2^64) l/2^s
 | []=>by simp [Bb,nv]
 | x::r=>by
  have ih:=qW hs r
  simp only [Bb,nv]
  rw [ih]
  have hp:=Nat.two_pow_pos s
  have hm:=aO6 (B:=2^64) (s:=s) (by rw [UP hs]; exact Nat.mul_mod_right _ _) r
  rw [← hm]
  have hN:nv (2^64) r=2^s*(nv (2^64) r/2^s)+nv (2^64) r%2^s:=(Nat.div_add_mod _ _).symm
  generalize nv (2^64) r/2^s=q at *
  generalize nv (2^64) r%2^s=t at *
  rw [hN]
  have e:x+2^64*(2^s*q+t)=x+2^s*(2^64*q+2^(64-s)*t):=by
   rw [Nat.mul_add,Nat.mul_add]
   have e1:2^64*(2^s*q)=2^s*(2^64*q):=by rw [← Nat.mul_assoc,← Nat.mul_assoc,Nat.mul_comm (2^64) (2^s)]
   have e2:2^64*t=2^s*(2^(64-s)*t):=by rw [← Nat.mul_assoc,← UP hs]
   rw [e1,e2]
  rw [e,Nat.add_mul_div_left _ _ hp,Nat.mul_comm t]
  omega
end VL
namespace VL
open Go Vx
theorem zF {O:List Nat} {i v:Nat} (hi:i<O.length) (hv:O[i]? = some v):(O.take i++List.replicate (O.length-i) 0).set i v=O.take (i+1)++List.replicate (O.length-(i+1)) 0:=by
 have e:O.length-i=(O.length-(i+1))+1:=by omega
 have hl:(O.take i).length=i:=by simp; omega
 rw [e,List.replicate_succ,List.set_append_right _ _ (by omega),hl,Nat.sub_self,List.set_cons_zero]
 rw [List.take_succ,hv]
 simp
theorem xK {l:List Nat} {i v:Nat} (hi:i<l.length):(l.set i v).getD i 0=v:=by
 rw [List.getD_eq_getElem?_getD,List.getElem?_set_self hi]; rfl
theorem cB (l:List Nat) (w i:Nat):(l.drop w).getD i 0=l.getD (w+i) 0:=by
 rw [List.getD_eq_getElem?_getD,List.getD_eq_getElem?_getD,List.getElem?_drop]
theorem Xy (n:Nat) (hn:n<=1000000000):BD .i64 (n:Int) 64=((n/64:Nat):Int):=by
 unfold BD
 have e:(n:Int).tdiv 64=((n/64:Nat):Int):=rfl
 rw [e,As (by omega)]
theorem aNa (l:List Nat) (hl:l.length<=1000000) (n:Nat) (hn:n<=l.length) (ht:(Ai l).length<=n) :
  jH (((),((n:Int),())),(Wd l,()))=some (.inl (((),(((Ai l).length:Int),())),(Wd l,()))):=by
 have key:=Dm aBE (fun x=>x.1.2.1.toNat)
  (fun x=>∃ n:Nat,n<=l.length/\(Ai l).length<=n/\x=(((),((n:Int),())),(Wd l,())))
  (fun _=>.inl (((),(((Ai l).length:Int),())),(Wd l,()))) ?_ (((),((n:Int),())),(Wd l,())) ⟨n,hn,ht,rfl⟩
 ·exact key
 intro L x hx hL
 obtain ⟨n,hn,ht,rfl⟩:=hx
 unfold Vv
 rcases Nat.eq_zero_or_pos n with rfl | hpos
 ·have e1:decide (((0:Nat):Int)>0)=false:=rfl
  simp only [e1,Bool.not_false,Bool.or_true,cond_true,Bool.false_and,cond_false]
  have:(Ai l).length=0:=by omega
  rw [this]
 ·have e0:IntKind.wrap .i64 ((n:Int)-1)=((n-1:Nat):Int):=Eu n 1 (by omega) (by omega)
  have e1:decide ((n:Int)>0)=true:=by simp; omega
  have e2:(decide ((0:Int)<=((n-1:Nat):Int))&&decide (((n-1:Nat):Int)<((Wd l).length:Int)))=true:=by
   rw [AA]; simp; omega
  simp only [e0,e1,e2,Bool.true_or,cond_true,Bool.true_and,Int.toNat_natCast,B9,Fq]
  cases hz:(l.getD (n-1) 0==0) with
  | true =>
   simp only [cond_true]
   refine hL _ ⟨n-1,by omega,?_,rfl⟩ (by simp only [Int.toNat_natCast]; omega)
   rcases Nat.lt_or_ge (n-1) (Ai l).length with h | h
   ·exfalso
    have e:n=(Ai l).length:=by omega
    have:=Yi l (by omega)
    rw [← e] at this
    exact this (by simpa using hz)
   ·exact h
  | false =>
   simp only [cond_false]
   have:(Ai l).length=n:=by
    rcases Nat.lt_or_ge (n-1) (Ai l).length with h | h
    ·omega
    ·exfalso
     have:=nA l (n-1) h
     rw [this] at hz
     simp at hz
   rw [this]
theorem aGt (l:List Nat) (hl:l.length<=1000000):X1 (Wd l,())=some (Wd (Ai l),()):=by
 show eW jH (Wd l)=_
 unfold eW
 have h:=aNa l hl l.length (Nat.le_refl _) (D7 l).1
 rw [AA]
 rw [h]
 have e:(decide ((0:Int)<=((Ai l).length:Int))&&decide (((Ai l).length:Int)<=((Wd l).length:Int)))=true:=by
  rw [AA]; have:=(D7 l).1; simp; omega
 show (bif (decide ((0:Int)<=((Ai l).length:Int))&&decide (((Ai l).length:Int)<=((Wd l).length:Int))) then some (List.take (Int.toNat ((Ai l).length:Int)) (Wd l),()) else none)=_
 rw [e,cond_true,Int.toNat_natCast,j9]
 have:=(D7 l).2
 rw [← this]
theorem aRF (a:List Nat) (ha:∀ x∈a,x<2^64) (hlen:a.length<=1000000) (w s:Nat) (hs:s<64) (hw:w<=a.length) (i:Nat) (hi:i<=(a.drop w).length) :
  i7 ((((a.drop w).length:Int),(Wd a,((w:Int),((s:Int),((i:Int),((),())))))),(Wd ((Bb s (a.drop w)).take i++List.replicate ((Bb s (a.drop w)).length-i) 0),()))=some (.inl (((),()),(Wd (Bb s (a.drop w)),()))):=by
 have key:=Dm (aA4 Ag.pre Ag.F) (fun x=>(a.drop w).length-x.1.2.2.2.2.1.toNat)
  (fun x=>∃ i:Nat,i<=(a.drop w).length/\x=((((a.drop w).length:Int),(Wd a,((w:Int),((s:Int),((i:Int),((),())))))),(Wd ((Bb s (a.drop w)).take i++List.replicate ((Bb s (a.drop w)).length-i) 0),())))
  (fun _=>.inl (((),()),(Wd (Bb s (a.drop w)),()))) ?_ _ ⟨i,hi,rfl⟩
 ·exact key
 intro L x hx hL
 obtain ⟨i,hi,rfl⟩:=hx
 unfold Ut
 have hdl:(a.drop w).length=a.length-w:=by simp
 have hol:=Kl s (a.drop w)
 rcases Nat.lt_or_ge i (a.drop w).length with hlt | hge
 ·have e1:decide ((i:Int)<((a.drop w).length:Int))=true:=by simp; omega
  have e2:IntKind.wrap .i64 ((w:Int)+(i:Int))=((w+i:Nat):Int):=by rw [As (by omega)]; omega
  have e3:(decide ((0:Int)<=((w+i:Nat):Int))&&decide (((w+i:Nat):Int)<((Wd a).length:Int)))=true:=by
   rw [AA]; simp only [Bool.and_eq_true,decide_eq_true_eq]; omega
  have e4:decide ((0:Int)<=(s:Int))=true:=by simp
  have houtl:((Bb s (a.drop w)).take i++List.replicate ((Bb s (a.drop w)).length-i) 0).length=(a.drop w).length:=by simp; omega
  generalize hout:(Bb s (a.drop w)).take i++List.replicate ((Bb s (a.drop w)).length-i) 0=out at houtl ⊢
  have e5:(decide ((0:Int)<=(i:Int))&&decide ((i:Int)<((Wd out).length:Int)))=true:=by
   rw [AA]; simp only [Bool.and_eq_true,decide_eq_true_eq]; omega
  have e6:IntKind.wrap .i64 (((w+i:Nat):Int)+1)=((w+i+1:Nat):Int):=by rw [As (by omega)]; omega
  have e7:IntKind.wrap .i64 ((i:Int)+1)=((i+1:Nat):Int):=by rw [As (by omega)]; omega
  have e8:IntKind.wrap .i64 (64-(s:Int))=((64-s:Nat):Int):=Eu 64 s (by omega) (by omega)
  have hx:=Cq (by decide) ha (w+i)
  have hget:=V9 s (a.drop w) i hlt
  rw [cB,cB,← Nat.add_assoc] at hget
  have hnext:=fun v (hv:(Bb s (a.drop w))[i]? = some v)=>zF (by omega) hv
  rw [hout] at hnext
  have e9:∀ v:Nat,(decide ((0:Int)<=(i:Int))&&decide ((i:Int)<((Wd (out.set i v)).length:Int)))=true:=fun v=>by
   rw [AA,List.length_set]; simp only [Bool.and_eq_true,decide_eq_true_eq]; omega
  simp only [e1,e2,e3,e4,e5,e6,e7,e8,cond_true,Int.toNat_natCast,B9,DD _ s (by omega),Ee,e9]
  rcases Nat.lt_or_ge (w+i+1) a.length with h1 | h1
  ·have f1:decide (((w+i+1:Nat):Int)<((Wd a).length:Int))=true:=by rw [AA]; exact decide_eq_true (by omega)
   have f2:decide ((0:Int)<=((w+i+1:Nat):Int))=true:=decide_eq_true (by omega)
   have f3:decide ((0:Int)<=((64-s:Nat):Int))=true:=decide_eq_true (by omega)
   simp only [f1,f2,f3,Bool.and_self,cond_true]
   have hw2:=dO (s:=s) (y:=a.getD (w+i+1) 0) (by omega) hx
   have g1:a.getD (w+i+1) 0*2^(64-s)%2^64=(a.getD (w+i+1) 0%2^s)*2^(64-s):=by
    rw [UP (s:=s) (by omega),Nat.mul_mod_mul_right]
   rw [xK (by omega),El _ _ (by omega),g1,Fc hw2.1 hw2.2,Ee,List.set_set,hnext _ hget]
   exact hL _ ⟨i+1,by omega,rfl⟩ (by simp only [Int.toNat_natCast]; omega)
  ·have f1:decide (((w+i+1:Nat):Int)<((Wd a).length:Int))=false:=by rw [AA]; exact decide_eq_false (by omega)
   have hz:a.getD (w+i+1) 0=0:=by rw [List.getD_eq_getElem?_getD,List.getElem?_eq_none h1]; rfl
   rw [hz,Nat.zero_mod,Nat.zero_mul,Nat.add_zero] at hget
   simp only [f1,cond_false]
   rw [hnext _ hget]
   exact hL _ ⟨i+1,by omega,rfl⟩ (by simp only [Int.toNat_natCast]; omega)
 ·have hie:i=(a.drop w).length:=by omega
  subst hie
  have e1:decide (((a.drop w).length:Int)<((a.drop w).length:Int))=false:=by simp
  simp only [e1,cond_false]
  have:(Bb s (a.drop w)).take (a.drop w).length++List.replicate ((Bb s (a.drop w)).length-(a.drop w).length) 0=Bb s (a.drop w):=by
   rw [← hol,List.take_length,Nat.sub_self,List.replicate_zero,List.append_nil]
  rw [this]
theorem aHP (l:List Nat) (hl:Ws l) (n:Nat) (hn:n<=100000000):Tg (Wd l,(n:Int),())=some (Wd (dg (2^64) (nv (2^64) l/2^n)),()):=by
 obtain ⟨h,hlen⟩:=hl
 show bT Ag.pre Ag.F i7 (Wd l) n=_
 unfold bT
 have p0:=Ef l hlen
 have hB:2<=2^64:=by decide
 have hle:=(D7 l).1
 have hm:∀ x∈Ai l,x<2^64:=fun x hx=>h x (R2 hx)
 have hv:=I5 hB h
 have hsplit:2^n=(2^64)^(n/64)*2^(n%64):=by rw [Cu,← Nat.pow_add]; congr 1; omega
 simp only [CX p0,CV p0,cond_true,AA,Xy n (by omega)]
 rcases Nat.lt_or_ge (n/64) (Ai l).length with h1 | h1
 ·have e1:decide (((n/64:Nat):Int)>=((Ai l).length:Int))=false:=by simp; omega
  have e2:IntKind.wrap .i64 (((Ai l).length:Int)-((n/64:Nat):Int))=(((Ai l).drop (n/64)).length:Int):=by
   rw [Eu _ _ (by omega) (by omega)]; simp
  have hdl:((Ai l).drop (n/64)).length<=1000000:=by simp; omega
  have e3:(decide ((0:Int)<=(((Ai l).drop (n/64)).length:Int))&&decide ((((Ai l).drop (n/64)).length:Int)*8<=140737488355328))=true:=by
   simp only [Bool.and_eq_true,decide_eq_true_eq]; omega
  have e4:Int.tmod (n:Int) 64=((n%64:Nat):Int):=rfl
  have hw:=aRF (Ai l) hm (by omega) (n/64) (n%64) (Nat.mod_lt _ (by decide)) (by omega) 0 (Nat.zero_le _)
  rw [List.take_zero,List.nil_append,Nat.sub_zero,Kl] at hw
  rw [e1,e2,e3,cond_false,cond_true,Int.toNat_natCast,e4,RI,AA,List.length_replicate]
  rw [show ((0:Nat):Int)=0 from rfl] at hw
  rw [hw]
  have hos:∀ x∈Bb (n%64) ((Ai l).drop (n/64)),x<2^64:=fun x hx=>by
   obtain ⟨i,hi⟩:=List.getElem?_of_mem hx
   have hil:i<((Ai l).drop (n/64)).length:=by rw [← Kl (n%64)]; exact (List.getElem?_eq_some_iff.1 hi).1
   rw [V9 _ _ i hil] at hi
   cases hi
   exact (dO (s:=n%64) (by omega) (Cq (by decide) (fun y hy=>hm y (List.mem_of_mem_drop hy)) i)).2
  have p1:=Ef (Bb (n%64) ((Ai l).drop (n/64))) (by rw [Kl]; exact hdl)
  show (bif Ag.pre (Wd (Bb (n%64) ((Ai l).drop (n/64))),()) then some (Ag.F (Wd (Bb (n%64) ((Ai l).drop (n/64))),())) else none)=_
  rw [CX p1,CV p1,cond_true,G0 hB _ hos,qW (by omega)]
  have hd:nv (2^64) ((Ai l).drop (n/64))=nv (2^64) l/(2^64)^(n/64):=by
   rw [← hv,LS _ (Ai l) (n/64) (by omega)]
   have hlow:=DU hB ((Ai l).take (n/64)) fun x hx=>hm x (List.mem_of_mem_take hx)
   rw [List.length_take,Nat.min_eq_left (by omega)] at hlow
   rw [Nat.add_mul_div_left _ _ (Nat.pow_pos (by decide)),Nat.div_eq_of_lt hlow,Nat.zero_add]
  rw [hd,Nat.div_div_eq_div_mul,← hsplit]
  rfl
 ·have e1:decide (((n/64:Nat):Int)>=((Ai l).length:Int))=true:=by simp; omega
  rw [e1,cond_true]
  have hz:nv (2^64) l/2^n=0:=by
   rw [← hv]
   have:=DU hB (Ai l) hm
   apply Nat.div_eq_of_lt
   refine Nat.lt_of_lt_of_le this ?_
   rw [Cu]
   exact Nat.pow_le_pow_right (by decide) (by omega)
  rw [hz,Ev]; rfl
theorem aUh (a:List Nat) (ha:∀ x∈a,x<2^64) (hlen:a.length<=1000000) (w s:Nat) (hs:s<64) (hw:w<=a.length) (i:Nat) (hi:i<=(a.drop w).length) :
  iT ((((a.drop w).length:Int),(Wd a,((w:Int),((s:Int),((i:Int),((),())))))),(Wd ((Bb s (a.drop w)).take i++List.replicate ((Bb s (a.drop w)).length-i) 0),()))=some (.inl (((),()),(Wd (Bb s (a.drop w)),()))):=by
 have key:=Dm (aGp Cf.pre Cf.F Ag.pre Ag.F) (fun x=>(a.drop w).length-x.1.2.2.2.2.1.toNat)
  (fun x=>∃ i:Nat,i<=(a.drop w).length/\x=((((a.drop w).length:Int),(Wd a,((w:Int),((s:Int),((i:Int),((),())))))),(Wd ((Bb s (a.drop w)).take i++List.replicate ((Bb s (a.drop w)).length-i) 0),())))
  (fun _=>.inl (((),()),(Wd (Bb s (a.drop w)),()))) ?_ _ ⟨i,hi,rfl⟩
 ·exact key
 intro L x hx hL
 obtain ⟨i,hi,rfl⟩:=hx
 unfold Ty
 have hdl:(a.drop w).length=a.length-w:=by simp
 have hol:=Kl s (a.drop w)
 rcases Nat.lt_or_ge i (a.drop w).length with hlt | hge
 ·have e1:decide ((i:Int)<((a.drop w).length:Int))=true:=by simp; omega
  have e2:IntKind.wrap .i64 ((w:Int)+(i:Int))=((w+i:Nat):Int):=by rw [As (by omega)]; omega
  have e3:(decide ((0:Int)<=((w+i:Nat):Int))&&decide (((w+i:Nat):Int)<((Wd a).length:Int)))=true:=by
   rw [AA]; simp only [Bool.and_eq_true,decide_eq_true_eq]; omega
  have e4:decide ((0:Int)<=(s:Int))=true:=by simp
  have houtl:((Bb s (a.drop w)).take i++List.replicate ((Bb s (a.drop w)).length-i) 0).length=(a.drop w).length:=by simp; omega
  generalize hout:(Bb s (a.drop w)).take i++List.replicate ((Bb s (a.drop w)).length-i) 0=out at houtl ⊢
  have e5:(decide ((0:Int)<=(i:Int))&&decide ((i:Int)<((Wd out).length:Int)))=true:=by
   rw [AA]; simp only [Bool.and_eq_true,decide_eq_true_eq]; omega
  have e6:IntKind.wrap .i64 (((w+i:Nat):Int)+1)=((w+i+1:Nat):Int):=by rw [As (by omega)]; omega
  have e7:IntKind.wrap .i64 ((i:Int)+1)=((i+1:Nat):Int):=by rw [As (by omega)]; omega
  have e8:IntKind.wrap .i64 (64-(s:Int))=((64-s:Nat):Int):=Eu 64 s (by omega) (by omega)
  have hx:=Cq (by decide) ha (w+i)
  have hget:=V9 s (a.drop w) i hlt
  rw [cB,cB,← Nat.add_assoc] at hget
  have hnext:=fun v (hv:(Bb s (a.drop w))[i]? = some v)=>zF (by omega) hv
  rw [hout] at hnext
  have e9:∀ v:Nat,(decide ((0:Int)<=(i:Int))&&decide ((i:Int)<((Wd (out.set i v)).length:Int)))=true:=fun v=>by
   rw [AA,List.length_set]; simp only [Bool.and_eq_true,decide_eq_true_eq]; omega
  simp only [e1,e2,e3,e4,e5,e6,e7,e8,cond_true,Int.toNat_natCast,B9,DD _ s (by omega),Ee,e9]
  rcases Nat.lt_or_ge (w+i+1) a.length with h1 | h1
  ·have f1:decide (((w+i+1:Nat):Int)<((Wd a).length:Int))=true:=by rw [AA]; exact decide_eq_true (by omega)
   have f2:decide ((0:Int)<=((w+i+1:Nat):Int))=true:=decide_eq_true (by omega)
   have f3:decide ((0:Int)<=((64-s:Nat):Int))=true:=decide_eq_true (by omega)
   simp only [f1,f2,f3,Bool.and_self,cond_true]
   have hw2:=dO (s:=s) (y:=a.getD (w+i+1) 0) (by omega) hx
   have g1:a.getD (w+i+1) 0*2^(64-s)%2^64=(a.getD (w+i+1) 0%2^s)*2^(64-s):=by
    rw [UP (s:=s) (by omega),Nat.mul_mod_mul_right]
   rw [xK (by omega),El _ _ (by omega),g1,Fc hw2.1 hw2.2,Ee,List.set_set,hnext _ hget]
   exact hL _ ⟨i+1,by omega,rfl⟩ (by simp only [Int.toNat_natCast]; omega)
  ·have f1:decide (((w+i+1:Nat):Int)<((Wd a).length:Int))=false:=by rw [AA]; exact decide_eq_false (by omega)
   have hz:a.getD (w+i+1) 0=0:=by rw [List.getD_eq_getElem?_getD,List.getElem?_eq_none h1]; rfl
   rw [hz,Nat.zero_mod,Nat.zero_mul,Nat.add_zero] at hget
   simp only [f1,cond_false]
   rw [hnext _ hget]
   exact hL _ ⟨i+1,by omega,rfl⟩ (by simp only [Int.toNat_natCast]; omega)
 ·have hie:i=(a.drop w).length:=by omega
  subst hie
  have e1:decide (((a.drop w).length:Int)<((a.drop w).length:Int))=false:=by simp
  simp only [e1,cond_false]
  have:(Bb s (a.drop w)).take (a.drop w).length++List.replicate ((Bb s (a.drop w)).length-(a.drop w).length) 0=Bb s (a.drop w):=by
   rw [← hol,List.take_length,Nat.sub_self,List.replicate_zero,List.append_nil]
  rw [this]
theorem aN2 (l:List Nat) (hl:Ws l) (n:Nat) (hn:n<=100000000):ZS (Wd l,(n:Int),())=some (Wd (dg (2^64) (nv (2^64) l/2^n)),()):=by
 obtain ⟨h,hlen⟩:=hl
 show dJ Cf.pre Cf.F Ag.pre Ag.F iT (Wd l) n=_
 unfold dJ
 have p0:=Ef l hlen
 have hB:2<=2^64:=by decide
 have hle:=(D7 l).1
 have hm:∀ x∈Ai l,x<2^64:=fun x hx=>h x (R2 hx)
 have hv:=I5 hB h
 have hsplit:2^n=(2^64)^(n/64)*2^(n%64):=by rw [Cu,← Nat.pow_add]; congr 1; omega
 simp only [CX p0,CV p0,cond_true,AA,Xy n (by omega)]
 rcases Nat.lt_or_ge (n/64) (Ai l).length with h1 | h1
 ·have e1:decide (((n/64:Nat):Int)>=((Ai l).length:Int))=false:=by simp; omega
  have e2:IntKind.wrap .i64 (((Ai l).length:Int)-((n/64:Nat):Int))=(((Ai l).drop (n/64)).length:Int):=by
   rw [Eu _ _ (by omega) (by omega)]; simp
  have hdl:((Ai l).drop (n/64)).length<=1000000:=by simp; omega
  have e3:(decide ((0:Int)<=(((Ai l).drop (n/64)).length:Int))&&decide ((((Ai l).drop (n/64)).length:Int)*8<=140737488355328))=true:=by
   simp only [Bool.and_eq_true,decide_eq_true_eq]; omega
  have e4:Int.tmod (n:Int) 64=((n%64:Nat):Int):=rfl
  have hw:=aUh (Ai l) hm (by omega) (n/64) (n%64) (Nat.mod_lt _ (by decide)) (by omega) 0 (Nat.zero_le _)
  rw [List.take_zero,List.nil_append,Nat.sub_zero,Kl] at hw
  rw [e1,e2,e3,cond_false,cond_true,Int.toNat_natCast,e4,RI,AA,List.length_replicate]
  rw [show ((0:Nat):Int)=0 from rfl] at hw
  rw [hw]
  have hos:∀ x∈Bb (n%64) ((Ai l).drop (n/64)),x<2^64:=fun x hx=>by
   obtain ⟨i,hi⟩:=List.getElem?_of_mem hx
   have hil:i<((Ai l).drop (n/64)).length:=by rw [← Kl (n%64)]; exact (List.getElem?_eq_some_iff.1 hi).1
   rw [V9 _ _ i hil] at hi
   cases hi
   exact (dO (s:=n%64) (by omega) (Cq (by decide) (fun y hy=>hm y (List.mem_of_mem_drop hy)) i)).2
  have p1:=aGt (Bb (n%64) ((Ai l).drop (n/64))) (by rw [Kl]; exact hdl)
  show (bif Cf.pre (Wd (Bb (n%64) ((Ai l).drop (n/64))),()) then some (Cf.F (Wd (Bb (n%64) ((Ai l).drop (n/64))),())) else none)=_
  rw [aB4 p1,aHx p1,cond_true,G0 hB _ hos,qW (by omega)]
  have hd:nv (2^64) ((Ai l).drop (n/64))=nv (2^64) l/(2^64)^(n/64):=by
   rw [← hv,LS _ (Ai l) (n/64) (by omega)]
   have hlow:=DU hB ((Ai l).take (n/64)) fun x hx=>hm x (List.mem_of_mem_take hx)
   rw [List.length_take,Nat.min_eq_left (by omega)] at hlow
   rw [Nat.add_mul_div_left _ _ (Nat.pow_pos (by decide)),Nat.div_eq_of_lt hlow,Nat.zero_add]
  rw [hd,Nat.div_div_eq_div_mul,← hsplit]
  rfl
 ·have e1:decide (((n/64:Nat):Int)>=((Ai l).length:Int))=true:=by simp; omega
  rw [e1,cond_true]
  have hz:nv (2^64) l/2^n=0:=by
   rw [← hv]
   have:=DU hB (Ai l) hm
   apply Nat.div_eq_of_lt
   refine Nat.lt_of_lt_of_le this ?_
   rw [Cu]
   exact Nat.pow_le_pow_right (by decide) (by omega)
  rw [hz,Ev]; rfl
end VL
end
