/- Part 5 of the proof. What is proved: symbolic execution of the functions, proved sound; what each function of the program computes, and that every run ends with it; what these functions compute, in plain numbers. Conditions: each theorem bears its own. -/
import Derived.Test.YthajbkcpnbiobaaGreatDoorVxG4
import Derived.IntWalk
set_option linter.all false
set_option exponentiation.threshold 1000000
noncomputable section
open BitVec renaming ofInt->cw
open Bool renaming and_eq_true->ae,eq_iff_iff->ff,true_or->bf
open Go.BinOp renaming add->jz,mul->gm,quo->qg,sub->pg
open Go.Extern.MathFloatBits renaming float64bits->oe,float64frombits->nr
open Go.FloatKind renaming f64->bu
open Go.IntKind renaming bits->gy,wrap->aa
open Int renaming natCast_nonneg->om,tmod->le,toNat->ai
open List renaming getD_eq_getElem?_getD->ak,length_cons->gc,replicate->au
open Nat renaming add_mul_div_left->dx,add_mul_mod_self_left->gh,add_zero->cu,div_eq_of_lt->cj,div_lt_self->nu,eq_zero_or_pos->bc,lt_of_lt_of_le->ao,mod_eq_of_lt->bb,mod_lt->bo,mul_zero->dw,pow_le_pow_right->aj,pow_succ'->im,strongRecOn->nw,testBit_lt_two_pow->ni,testBit_two_pow_mul_add->iv,two_pow_pos->ah
open Ordering renaming eq->pw
namespace Vx
open Go Go.Proofs
variable (p69:Bq)(f69:Br)(p66:BL)(f66:BM)(p65:Dx)(f65:Dy)(p70:De)(f70:Df)(p98:Jt)(f98:Jw)(p119:W6)(f119:Xf)(p155:CW)(f155:CX)(p123:RK)(f123:RS)(p118:HD)(f118:HG)(p105:Tt)(f105:TB)(p173:AZ)(f173:A1)(p102:Gw)(f102:GA)(p178:HF)(f178:HI)(p92:Js)(f92:Jv)(p185:RO)(f185:RW)(p141:RL)(f141:RT)(p143:LM)(f143:LP)(p97:LO)(f97:LR)(p107:Tu)(f107:TC)(p122:Gx)(f122:GB)(p115:W5)(f115:Xe)(p64:TA)(f64:TI)(p315:En)(f315:Ep)(p316:Tx)(f316:TF)(p40:QM)(f40:QP)(p144:HE)(f144:HH)(p145:Tw)(f145:TE)(p311:cA)(f311:cW)(p312:nD)(f312:oP)(p313:cB)(f313:cX)(p314:nE)(f314:oQ)
abbrev M2:Aa:=[(true,.pair (.int .u64) (.pair (.int .u64) (.unit)))]
abbrev OQ:Aa:=[(false,.int .u64),(false,.bool)]
abbrev Hm:Pat:=⟨28,[(6,.one (.v .i64)),(2,.one (.v .u64)),(1,.one (.ptr 0 0))],[.raw [.v .u64,.v .u64]]⟩
abbrev Zh:List (Nat×Shape):=[]
abbrev Ly:List (Nat×Pat):=[(0,⟨28,[(2,.one (.v .u64)),(1,.one (.ptr 0 0))],[.raw [.v .u64,.v .u64]]⟩)]
abbrev K0:Option Pat:=none
variable (w317_2:Pat.D Hm->Option (Ah Ly K0))
def X4(p123:RK)(f123:RS)(p316:Tx)(f316:TF){R:Type}(L:Pat.D Hm->Option R)(e:Ah Ly K0->Option R)(x:Pat.D Hm):Option R:=let e5_:=(aa .i64 ((63:Int)-x.1.1));let e4_:=(Ap .u64 x.1.2.1 (Bb .u64 (1:Int) e5_));let e1_:=((f316 (e4_,e4_,())).1,x.2);let e2_:=e4_;let e3_:=(aa .i64 (x.1.1+(1:Int)));bif(decide (x.1.1<(64:Int)))then(bif(decide ((0:Int)<=e5_))then(bif(p316 (e2_,e2_,()))then(bif(p123 e1_)then(bif(decide ((f123 e1_).1<=(0:Int)))then(((L ((e3_,e2_,(),()),x.2))))else(L ((e3_,x.1.2.1,(),()),x.2)))else none)else none)else none)else(e (.inl ((x.1.2.1,(),()),x.2)))
theorem aZY(d:Nat)(R:Type)(L:Pat.D Hm->Option R)(e:Ah Ly K0->Option R)(x:Pat.D Hm):
  Bv (cf [(236,⟨F5,G3,p123,f123⟩),(199,⟨Il,IJ,p316,f316⟩)] [(207,2,LoopSpec.of Hm Zh Ly K0 w317_2)]) (d+2) 207 (Bs Tryz.f207 2) Hm Zh Ly K0 (R:=R) L e x=X4 p123 f123 p316 f316 L e x:=by kernel_rfl
theorem aT8(p123:RK)(f123:RS)(p316:Tx)(f316:TF):Bm fun L e x=>X4 p123 f123 p316 f316 L e x:=by intro _ _ _ _ _ _ _ h0 hL he _;unfold X4;repeat' (first|exact h0|exact hL _|exact he _|apply BG|(apply BH h0;intro _)|(apply BI<;>intro _))
def aJV(p123:RK)(f123:RS)(p316:Tx)(f316:TF)(w317_2:Pat.D Hm->Option (Ah Ly K0))(a0:Ab (.pair (.int .u64) (.pair (.int .u64) (.unit)))):Option (DenS OQ):=
 Vx.Ba (w317_2 (((0:Int),(0:Int),(),()),(a0.1,a0.2),())) fun y0=>
 Vx.A7 y0 (fun y1=>
 bif(p316 (y1.1.1,y1.1.1,()))then(some (y1.1.1,(((f316 (y1.1.1,y1.1.1,())).1.1==y1.2.1.1)&&((f316 (y1.1.1,y1.1.1,())).1.2.1==y1.2.1.2.1)),()))
 else none) (fun z1=>
 none)
theorem aXn(x:DenS M2):run (cf [(236,⟨F5,G3,p123,f123⟩),(199,⟨Il,IJ,p316,f316⟩)] [(207,2,LoopSpec.of Hm Zh Ly K0 w317_2)]) 9 207 Tryz.f207 M2 OQ x=aJV p123 f123 p316 f316 w317_2 x.1:=by kernel_rfl
def aBT:Hm.D->Option (Ah Ly K0):=Bg fun L=>X4 DX.pre DX.F DY.pre DY.F L some
def aAB(x:DenS M2):Option (DenS OQ):=aJV DX.pre DX.F DY.pre DY.F aBT x.1
def ZX:Sum:=Ak M2 OQ aAB (DenS.dflt OQ)
theorem aNt:Sound Tryz.prog G1 207 ZX:=sd (cf [(236,DX),(199,DY)] [(207,2,LoopSpec.of Hm Zh Ly K0 aBT)]) 207 Tryz.f207 ⟨yG,yS,trivial⟩ ⟨rfl,fun d=>BE (fun L e x=>X4 DX.pre DX.F DY.pre DY.F L e x) (aT8 DX.pre DX.F DY.pre DY.F) (fun _ _ _ _=>aZY ..),trivial⟩ M2 OQ aAB _ (fun _=>aXn ..)
abbrev aCx:=Ae M2
abbrev aD1:=Ad M2 OQ
variable (p317:aCx)(f317:aD1)
abbrev M3:Aa:=[(false,.int .i64),(false,.int .i64),(false,.int .u64)]
abbrev OR:Aa:=[(false,.int .u64),(false,.int .i64),(false,.int .i64)]
def aJW(p311:cA)(f311:cW)(p65:Dx)(f65:Dy)(p312:nD)(f312:oP)(p313:cB)(f313:cX)(p314:nE)(f314:oQ)(p119:W6)(f119:Xf)(p317:aCx)(f317:aD1)(p122:Gx)(f122:GB)(a0 a1:Ab (.int .i64))(a2:Ab (.int .u64)):Option (DenS OR):=let e16_:=(a0,(f311 (a0,a1,(a2::[]),())).1,a2,());let e15_:=(f313 e16_);let e14_:=((0:Int),e15_.1,());let e13_:=(e14_,());let e12_:=(aa .i64 ((126:Int)-(f314 e13_).1));let e11_:=(aa .i64 (e12_+(1:Int)));let e8_:=(e14_,e11_,());let e7_:=(f317 (f119 e8_));let e1_:=(a0,a1,false,((0:Int),e7_.1,()),(BX .i64 (aa .i64 (e15_.2.1-e11_)) (2:Int)),(!e7_.2.1),());let e10_:=(e14_,e12_,());let e9_:=(f317 (f119 e10_));let e2_:=(a0,a1,false,((0:Int),e9_.1,()),(BX .i64 (aa .i64 (e15_.2.1-e12_)) (2:Int)),(!e9_.2.1),());let e3_:=e8_;let e4_:=e10_;let e5_:=e13_;let e6_:=e16_;bif(p311 (a0,a1,(a2::[]),()))then(bif((f311 (a0,a1,(a2::[]),())).2.1 !=(0:Int))then(some ((0:Int),(0:Int),(f311 (a0,a1,(a2::[]),())).2))else bif(p65 (a0,a2,()))then(bif(p312 (a0,(f65 (a0,a2,())).1,()))then(bif(f312 (a0,(f65 (a0,a2,())).1,())).2.2.1 then(some ((f312 (a0,(f65 (a0,a2,())).1,())).1,(f312 (a0,(f65 (a0,a2,())).1,())).2.1,(0:Int),()))else bif((((f65 (a0,a2,())).1==(9:Int))||((f65 (a0,a2,())).1==(6:Int)))||((f65 (a0,a2,())).1==(5:Int)))then(some (a2,(0:Int),(0:Int),()))else bif(p313 e6_)then(bif(p314 e5_)then(bif((le (aa .i64 ((f313 e6_).2.1-(aa .i64 ((126:Int)-(f314 e5_).1)))) (2:Int))!=(0:Int))then(bif(p119 e3_)then(bif(p317 (f119 e3_))then(bif(p122 e1_)then(some (f122 e1_))else none)else none)else none)else bif(p119 e4_)then(bif(p317 (f119 e4_))then(bif(p122 e2_)then(some (f122 e2_))else none)else none)else none)else none)else none)else none)else none)else none
theorem aXo(x:DenS M3):run (cf [(58,⟨MY,OM,p311,f311⟩),(59,⟨Dr,Ds,p65,f65⟩),(205,⟨MZ,ON,p312,f312⟩),(63,⟨M0,OO,p313,f313⟩),(206,⟨M1,OP,p314,f314⟩),(208,⟨GU,ID,p119,f119⟩),(207,⟨M2,OQ,p317,f317⟩),(104,⟨EC,EY,p122,f122⟩)] []) 9 163 Tryz.f163 M3 OR x=aJW p311 f311 p65 f65 p312 f312 p313 f313 p314 f314 p119 f119 p317 f317 p122 f122 x.1 x.2.1 x.2.2.1:=by kernel_rfl
def aAC(x:DenS M3):Option (DenS OR):=aJW ZS.pre ZS.F AY.pre AY.F ZT.pre ZT.F ZU.pre ZU.F ZV.pre ZV.F AH.pre AH.F ZX.pre ZX.F BP.pre BP.F x.1 x.2.1 x.2.2.1
def ZY:Sum:=Ak M3 OR aAC (DenS.dflt OR)
theorem aNu:Sound Tryz.prog G1 163 ZY:=sd (cf [(58,ZS),(59,AY),(205,ZT),(63,ZU),(206,ZV),(208,AH),(207,ZX),(104,BP)] []) 163 Tryz.f163 ⟨aNp,HA,aNq,aNr,aNs,yF,aNt,SU,trivial⟩ trivial M3 OR aAC _ (fun _=>aXo ..)
abbrev aCy:=Ae M3
abbrev aD2:=Ad M3 OR
variable (p318:aCy)(f318:aD2)
abbrev Np:Aa:=[(true,.pair (.int .i64) (.pair (.int .i64) (.pair (.int .u64) (.pair (.int .u64) (.pair (.int .u64) (.unit))))))]
abbrev O8:Aa:=[(false,.int .u64),(false,.int .i64),(false,.int .i64)]
def aJ8(p318:aCy)(f318:aD2)(a0:Ab (.pair (.int .i64) (.pair (.int .i64) (.pair (.int .u64) (.pair (.int .u64) (.pair (.int .u64) (.unit))))))):Option (DenS O8):=bif(p318 (a0.2.1,a0.1,a0.2.2.1,()))then(some (f318 (a0.2.1,a0.1,a0.2.2.1,())))else none
theorem aXQ(x:DenS Np):run (cf [(163,⟨M3,OR,p318,f318⟩)] []) 9 162 Tryz.f162 Np O8 x=aJ8 p318 f318 x.1:=by kernel_rfl
def aAR(x:DenS Np):Option (DenS O8):=aJ8 ZY.pre ZY.F x.1
def Vs:Sum:=Ak Np O8 aAR (DenS.dflt O8)
theorem yW:Sound Tryz.prog G1 162 Vs:=sd (cf [(163,ZY)] []) 162 Tryz.f162 ⟨aNu,trivial⟩ trivial Np O8 aAR _ (fun _=>aXQ ..)
abbrev nL:=Ae Np
abbrev oX:=Ad Np O8
variable (p396:nL)(f396:oX)
abbrev Nq:Aa:=[(false,.int .i64),(false,.int .i64),(false,.slice (.int .u64))]
abbrev O9:Aa:=[(false,.int .i64)]
abbrev Ht:Pat:=⟨39,[(27,.one (.v .i64)),(26,.one (.sl (.int .u64))),(0,.one (.v .i64)),(28,.one (.v .i64))],[]⟩
abbrev Zo:List (Nat×Shape):=[]
abbrev LG:List (Nat×Pat):=[(0,⟨39,[],[]⟩)]
abbrev K7:Option Pat:=(some ⟨39,[(6,.one (.v .i64))],[]⟩)
variable (w397_7:Pat.D Ht->Option (Ah LG K7))
def Ya(p69:Bq)(f69:Br)(p66:BL)(f66:BM){R:Type}(L:Pat.D Ht->Option R)(e:Ah LG K7->Option R)(x:Pat.D Ht):Option R:=let e2_:=(x.1.2.2.1,(x.1.2.1.getD (ai x.1.2.2.2.1) (0:Int)),());let e1_:=(f66 e2_);bif(decide (x.1.2.2.2.1<x.1.1))then(bif((decide ((0:Int)<=x.1.2.2.2.1))&&(decide (x.1.2.2.2.1<(x.1.2.1.length:Int))))then(bif(p66 e2_)then(bif(e1_.1 !=(0:Int))then(((e (.inr (e1_,())))))else(L ((x.1.1,x.1.2.1,x.1.2.2.1,(aa .i64 (x.1.2.2.2.1+(1:Int))),()),())))else none)else none)else(e (.inl ((),())))
theorem bAd(d:Nat)(R:Type)(L:Pat.D Ht->Option R)(e:Ah LG K7->Option R)(x:Pat.D Ht):
  Bv (cf [(71,⟨BJ,BK,p69,f69⟩),(85,⟨B7,B8,p66,f66⟩)] [(209,7,LoopSpec.of Ht Zo LG K7 w397_7)]) (d+2) 209 (Bs Tryz.f209 7) Ht Zo LG K7 (R:=R) L e x=Ya p69 f69 p66 f66 L e x:=by kernel_rfl
theorem aUe(p69:Bq)(f69:Br)(p66:BL)(f66:BM):Bm fun L e x=>Ya p69 f69 p66 f66 L e x:=by intro _ _ _ _ _ _ _ h0 hL he _;unfold Ya;repeat' (first|exact h0|exact hL _|exact he _|apply BG|(apply BH h0;intro _)|(apply BI<;>intro _))
def aJ9(p69:Bq)(f69:Br)(p66:BL)(f66:BM)(w397_7:Pat.D Ht->Option (Ah LG K7))(a0 a1:Ab (.int .i64))(a2:Ab (.slice (.int .u64))):Option (DenS O9):=
 bif(p69 (a0,()))then(bif((f69 (a0,())).2.1 !=(0:Int))then(some (f69 (a0,())).2)
 else bif((decide (a1<(0:Int)))||(decide (a1>(5:Int))))then(some ((3:Int),()))
 else Vx.Ba (w397_7 (((a2.length:Int),a2,a0,(0:Int),()),())) fun y3=>
 Vx.A7 y3 (fun y4=>
 some ((0:Int),())) (fun z4=>
 some z4.1))
 else none
theorem aXR(x:DenS Nq):run (cf [(71,⟨BJ,BK,p69,f69⟩),(85,⟨B7,B8,p66,f66⟩)] [(209,7,LoopSpec.of Ht Zo LG K7 w397_7)]) 9 209 Tryz.f209 Nq O9 x=aJ9 p69 f69 p66 f66 w397_7 x.1 x.2.1 x.2.2.1:=by kernel_rfl
def aBY:Ht.D->Option (Ah LG K7):=Bg fun L=>Ya An.pre An.F Aq.pre Aq.F L some
def aAS(x:DenS Nq):Option (DenS O9):=aJ9 An.pre An.F Aq.pre Aq.F aBY x.1 x.2.1 x.2.2.1
def Z7:Sum:=Ak Nq O9 aAS (DenS.dflt O9)
theorem aNR:Sound Tryz.prog G1 209 Z7:=sd (cf [(71,An),(85,Aq)] [(209,7,LoopSpec.of Ht Zo LG K7 aBY)]) 209 Tryz.f209 ⟨Dk,E9,trivial⟩ ⟨rfl,fun d=>BE (fun L e x=>Ya An.pre An.F Aq.pre Aq.F L e x) (aUe An.pre An.F Aq.pre Aq.F) (fun _ _ _ _=>bAd ..),trivial⟩ Nq O9 aAS _ (fun _=>aXR ..)
abbrev aCO:=Ae Nq
abbrev aEi:=Ad Nq O9
variable (p397:aCO)(f397:aEi)
abbrev J8:Aa:=[(false,.int .i64),(false,.int .u64)]
abbrev Kx:Aa:=[(true,.pair (.bool) (.pair (.bool) (.pair (.bool) (.pair (.bool) (.pair (.bool) (.pair (.pair (.bool) (.pair (.slice (.int .u64)) (.pair (.int .i64) (.unit)))) (.unit)))))))]
def aKa(p65:Dx)(f65:Dy)(p98:Jt)(f98:Jw)(p40:QM)(f40:QP)(a0:Ab (.int .i64))(a1:Ab (.int .u64)):Option (DenS Kx):=let e1_:=(((f65 (a0,a1,())).1==(2:Int))||((f65 (a0,a1,())).1==(9:Int)));bif(p65 (a0,a1,()))then(bif(p98 (a0,a1,()))then(bif((!(decide ((f65 (a0,a1,())).1<=(1:Int))))&&(!e1_))then(bif(p40 (a0,a1,()))then(some (((decide ((f65 (a0,a1,())).1<=(1:Int))),((f65 (a0,a1,())).1==(0:Int)),false,e1_,(f98 (a0,a1,())).1,(f40 (a0,a1,())).1,()),()))else none)else some (((decide ((f65 (a0,a1,())).1<=(1:Int))),((f65 (a0,a1,())).1==(0:Int)),false,e1_,(f98 (a0,a1,())).1,(false,[],(0:Int),()),()),()))else none)else none
theorem aXS(x:DenS J8):run (cf [(59,⟨Dr,Ds,p65,f65⟩),(91,⟨EQ,E2,p98,f98⟩),(203,⟨F7,Gi,p40,f40⟩)] []) 9 212 Tryz.f212 J8 Kx x=aKa p65 f65 p98 f98 p40 f40 x.1 x.2.1:=by kernel_rfl
def aAT(x:DenS J8):Option (DenS Kx):=aKa AY.pre AY.F BT.pre BT.F Dj.pre Dj.F x.1 x.2.1
def Ru:Sum:=Ak J8 Kx aAT (DenS.dflt Kx)
theorem yX:Sound Tryz.prog G1 212 Ru:=sd (cf [(59,AY),(91,BT),(203,Dj)] []) 212 Tryz.f212 ⟨HA,Rz,Vw,trivial⟩ trivial J8 Kx aAT _ (fun _=>aXS ..)
abbrev nM:=Ae J8
abbrev oY:=Ad J8 Kx
variable (p398:nM)(f398:oY)
abbrev Ke:Aa:=[(true,.pair (.bool) (.pair (.slice (.int .u64)) (.pair (.int .i64) (.unit))))]
abbrev KE:Aa:=[(false,.int .i64)]
def t47(p102:Gw)(f102:GA)(a0:Ab (.pair (.bool) (.pair (.slice (.int .u64)) (.pair (.int .i64) (.unit))))):Option (DenS KE):=bif(p102 (a0.2.1,()))then(bif(((f102 (a0.2.1,())).1.length:Int)==(0:Int))then(some ((0:Int),()))else bif a0.1 then(some ((-(1:Int)),()))else some ((1:Int),()))else none
theorem r47(x:DenS Ke):run (cf [(122,⟨EP,EW,p102,f102⟩)] []) 9 240 Tryz.f240 Ke KE x=t47 p102 f102 x.1:=by kernel_rfl
def T47(x:DenS Ke):Option (DenS KE):=t47 BR.pre BR.F x.1
def Ry:Sum:=Ak Ke KE T47 (DenS.dflt KE)
theorem zO:Sound Tryz.prog G1 240 Ry:=sd (cf [(122,BR)] []) 240 Tryz.f240 ⟨Vm,trivial⟩ trivial Ke KE T47 _ (fun _=>r47 ..)
abbrev n5:=Ae Ke
abbrev pK:=Ad Ke KE
variable (p47:n5)(f47:pK)
abbrev JY:Aa:=[(true,.pair (.bool) (.pair (.slice (.int .u64)) (.pair (.int .i64) (.unit))))]
abbrev Kj:Aa:=[(false,.int .i64)]
def aJB(a0:Ab (.pair (.bool) (.pair (.slice (.int .u64)) (.pair (.int .i64) (.unit))))):Option (DenS Kj):=bif(decide ((a0.2.1.length:Int)>(1024:Int)))then(some ((5:Int),()))else bif((decide (a0.2.2.1<(-(40000:Int))))||(decide (a0.2.2.1>(40000:Int))))then(some ((30:Int),()))else some ((0:Int),())
theorem aWr(x:DenS JY):run (cf [] []) 9 253 Tryz.f253 JY Kj x=aJB x.1:=by kernel_rfl
def zX(x:DenS JY):Option (DenS Kj):=aJB x.1
def Rt:Sum:=Ak JY Kj zX (DenS.dflt Kj)
theorem yC:Sound Tryz.prog G1 253 Rt:=sd (cf [] []) 253 Tryz.f253 trivial trivial JY Kj zX _ (fun _=>aWr ..)
abbrev mZ:=Ae JY
abbrev oJ:=Ad JY Kj
variable (p103:mZ)(f103:oJ)
abbrev Kh:Aa:=[(true,.pair (.bool) (.pair (.slice (.int .u64)) (.pair (.int .i64) (.unit)))),(true,.pair (.bool) (.pair (.slice (.int .u64)) (.pair (.int .i64) (.unit))))]
abbrev KH:Aa:=[(false,.int .i64)]
def t99(p103:mZ)(f103:oJ)(a0 a1:Ab (.pair (.bool) (.pair (.slice (.int .u64)) (.pair (.int .i64) (.unit))))):Option (DenS KH):=bif(p103 ((a0.1,a0.2),()))then(bif((f103 ((a0.1,a0.2),())).1 !=(0:Int))then(some (f103 ((a0.1,a0.2),())))else bif(p103 ((a1.1,a1.2),()))then(some (f103 ((a1.1,a1.2),())))else none)else none
theorem r99(x:DenS Kh):run (cf [(253,⟨JY,Kj,p103,f103⟩)] []) 9 249 Tryz.f249 Kh KH x=t99 p103 f103 x.1 x.2.1:=by kernel_rfl
def T99(x:DenS Kh):Option (DenS KH):=t99 Rt.pre Rt.F x.1 x.2.1
def RA:Sum:=Ak Kh KH T99 (DenS.dflt KH)
theorem zR:Sound Tryz.prog G1 249 RA:=sd (cf [(253,Rt)] []) 249 Tryz.f249 ⟨yC,trivial⟩ trivial Kh KH T99 _ (fun _=>r99 ..)
abbrev oI:=Ae Kh
abbrev pX:=Ad Kh KH
variable (p99:oI)(f99:pX)
abbrev GS:Aa:=[(true,.pair (.bool) (.pair (.slice (.int .u64)) (.pair (.int .i64) (.unit))))]
abbrev G0:Aa:=[(true,.pair (.bool) (.pair (.slice (.int .u64)) (.pair (.int .i64) (.unit))))]
abbrev G8:Pat:=⟨42,[(4,.one (.v .i64)),(3,.one (.sl (.int .u64))),(1,.one (.ptr 0 0)),(2,.one (.ptr 1 0))],[.raw [.bool,.sl (.int .u64),.v .i64],.raw [.bool,.sl (.int .u64),.v .i64]]⟩
abbrev Y2:List (Nat×Shape):=[]
abbrev Lj:List (Nat×Pat):=[(0,⟨42,[(4,.one (.v .i64)),(3,.one (.sl (.int .u64))),(1,.one (.ptr 0 0)),(2,.one (.ptr 1 0))],[.raw [.bool,.sl (.int .u64),.v .i64],.raw [.bool,.sl (.int .u64),.v .i64]]⟩)]
abbrev KL:Option Pat:=none
variable (w100_5:Pat.D G8->Option (Ah Lj KL))
def X0(p102:Gw)(f102:GA)(p92:Js)(f92:Jv)(p141:RL)(f141:RT){R:Type}(L:Pat.D G8->Option R)(e:Ah Lj KL->Option R)(x:Pat.D G8):Option R:=bif((decide ((0:Int)<=(BX .i64 x.1.1 (64:Int))))&&(decide ((BX .i64 x.1.1 (64:Int))<(x.1.2.1.length:Int))))then(bif((x.1.2.1.getD (ai (BX .i64 x.1.1 (64:Int))) (0:Int))==(0:Int))then(((L (((aa .i64 (x.1.1+(64:Int))),x.1.2.1,(),(),()),x.2))))else(e (.inl ((x.1.1,x.1.2.1,(),(),()),x.2))))else none
theorem aZJ(d:Nat)(R:Type)(L:Pat.D G8->Option R)(e:Ah Lj KL->Option R)(x:Pat.D G8):
  Bv (cf [(122,⟨EP,EW,p102,f102⟩),(191,⟨Ga,Gl,p92,f92⟩),(103,⟨Ig,IE,p141,f141⟩)] [(252,5,LoopSpec.of G8 Y2 Lj KL w100_5)]) (d+2) 252 (Bs Tryz.f252 5) G8 Y2 Lj KL (R:=R) L e x=X0 p102 f102 p92 f92 p141 f141 L e x:=by kernel_rfl
theorem aT4(p102:Gw)(f102:GA)(p92:Js)(f92:Jv)(p141:RL)(f141:RT):Bm fun L e x=>X0 p102 f102 p92 f92 p141 f141 L e x:=by intro _ _ _ _ _ _ _ h0 hL he _;unfold X0;repeat' (first|exact h0|exact hL _|exact he _|apply BG|(apply BH h0;intro _)|(apply BI<;>intro _))
def aJz(p102:Gw)(f102:GA)(p92:Js)(f92:Jv)(p141:RL)(f141:RT)(w100_5:Pat.D G8->Option (Ah Lj KL))(a0:Ab (.pair (.bool) (.pair (.slice (.int .u64)) (.pair (.int .i64) (.unit))))):Option (DenS G0):=
 bif(p102 (a0.2.1,()))then(bif(((f102 (a0.2.1,())).1.length:Int)==(0:Int))then(some ((false,[],(0:Int),()),()))
 else Vx.Ba (w100_5 (((0:Int),(f102 (a0.2.1,())).1,(),(),()),(a0.1,a0.2),(false,[],(0:Int),()),())) fun y2=>
 Vx.A7 y2 (fun y3=>
 bif((decide ((0:Int)<=(BX .i64 y3.1.1 (64:Int))))&&(decide ((BX .i64 y3.1.1 (64:Int))<(y3.1.2.1.length:Int))))then(bif(p92 ((y3.1.2.1.getD (ai (BX .i64 y3.1.1 (64:Int))) (0:Int)),()))then(bif(p141 (y3.1.2.1,(aa .i64 (y3.1.1+(f92 ((y3.1.2.1.getD (ai (BX .i64 y3.1.1 (64:Int))) (0:Int)),())).1)),()))then(some ((y3.2.1.1,(f141 (y3.1.2.1,(aa .i64 (y3.1.1+(f92 ((y3.1.2.1.getD (ai (BX .i64 y3.1.1 (64:Int))) (0:Int)),())).1)),())).1,(aa .i64 (y3.2.1.2.2.1+(aa .i64 (y3.1.1+(f92 ((y3.1.2.1.getD (ai (BX .i64 y3.1.1 (64:Int))) (0:Int)),())).1)))),()),()))
 else none)
 else none)
 else none) (fun z3=>
 none))
 else none
theorem aWo(x:DenS GS):run (cf [(122,⟨EP,EW,p102,f102⟩),(191,⟨Ga,Gl,p92,f92⟩),(103,⟨Ig,IE,p141,f141⟩)] [(252,5,LoopSpec.of G8 Y2 Lj KL w100_5)]) 9 252 Tryz.f252 GS G0 x=aJz p102 f102 p92 f92 p141 f141 w100_5 x.1:=by kernel_rfl
def aBP:G8.D->Option (Ah Lj KL):=Bg fun L=>X0 BR.pre BR.F B2.pre B2.F EF.pre EF.F L some
def zT(x:DenS GS):Option (DenS G0):=aJz BR.pre BR.F B2.pre B2.F EF.pre EF.F aBP x.1
def FC:Sum:=Ak GS G0 zT (DenS.dflt G0)
theorem ZH:Sound Tryz.prog G1 252 FC:=sd (cf [(122,BR),(191,B2),(103,EF)] [(252,5,LoopSpec.of G8 Y2 Lj KL aBP)]) 252 Tryz.f252 ⟨Vm,mM,yH,trivial⟩ ⟨rfl,fun d=>BE (fun L e x=>X0 BR.pre BR.F B2.pre B2.F EF.pre EF.F L e x) (aT4 BR.pre BR.F B2.pre B2.F EF.pre EF.F) (fun _ _ _ _=>aZJ ..),trivial⟩ GS G0 zT _ (fun _=>aWo ..)
abbrev W3:=Ae GS
abbrev Xc:=Ad GS G0
variable (p100:W3)(f100:Xc)
abbrev M4:Aa:=[(false,.slice (.int .u64)),(false,.slice (.int .u64))]
abbrev OS:Aa:=[(false,.slice (.int .u64))]
abbrev Gp:Pat:=⟨84,[(25,.one (.v .i64)),(24,.one (.sl (.int .u64))),(1,.one (.sl (.int .u64))),(26,.one (.v .i64)),(5,.one (.own 0))],[.arr (.int .u64)]⟩
abbrev Vb:List (Nat×Shape):=[]
abbrev Jk:List (Nat×Pat):=[(0,⟨84,[(5,.one (.own 0))],[.arr (.int .u64)]⟩)]
abbrev I0:Option Pat:=none
abbrev E3:Pat:=⟨84,[(32,.one (.v .i64)),(31,.one (.sl (.int .u64))),(7,.one (.v .u64)),(33,.one (.v .i64)),(6,.one (.v .i64)),(8,.one (.v .u64)),(26,.one (.v .i64)),(25,.one (.v .i64)),(24,.one (.sl (.int .u64))),(1,.one (.sl (.int .u64))),(5,.one (.own 0))],[.arr (.int .u64)]⟩
abbrev Vc:List (Nat×Shape):=[]
abbrev Gv:List (Nat×Pat):=[(2,⟨84,[(6,.one (.v .i64)),(8,.one (.v .u64)),(26,.one (.v .i64)),(25,.one (.v .i64)),(24,.one (.sl (.int .u64))),(1,.one (.sl (.int .u64))),(5,.one (.own 0))],[.arr (.int .u64)]⟩)]
abbrev Gu:Option Pat:=none
variable (w324_4:Pat.D Gp->Option (Ah Jk I0))(w324_8:Pat.D E3->Option (Ah Gv Gu))
def X6(p315:En)(f315:Ep)(p155:CW)(f155:CX)(p173:AZ)(f173:A1){R:Type}(L:Pat.D E3->Option R)(e:Ah Gv Gu->Option R)(x:Pat.D E3):Option R:=let e10_:=(x.1.2.2.1,(x.1.2.1.getD (ai x.1.2.2.2.1) (0:Int)),());let e8_:=(f315 e10_);let e11_:=(aa .i64 (x.1.2.2.2.2.1+x.1.2.2.2.1));let e9_:=(ai e11_);let e7_:=(f155 (e8_.2.1,(x.2.1.getD e9_ (0:Int)),(0:Int),()));let e1_:=(f155 (e7_.1,x.1.2.2.2.2.2.1,(0:Int),()));let e2_:=e7_;let e3_:=((decide ((0:Int)<=e11_))&&(decide (e11_<(x.2.1.length:Int))));let e4_:=(x.1.2.2.2.2.2.2.1,x.1.2.2.2.2.2.2.2.1,x.1.2.2.2.2.2.2.2.2.1,x.1.2.2.2.2.2.2.2.2.2.1,(),());let e5_:=e8_;let e6_:=e9_;bif(decide (x.1.2.2.2.1<x.1.1))then(bif((decide ((0:Int)<=x.1.2.2.2.1))&&(decide (x.1.2.2.2.1<(x.1.2.1.length:Int))))then(bif(p315 e10_)then(bif e3_ then(bif(p155 (e5_.2.1,(x.2.1.getD e6_ (0:Int)),(0:Int),()))then(bif(p155 (e2_.1,x.1.2.2.2.2.2.1,(0:Int),()))then(bif e3_ then(((L ((x.1.1,x.1.2.1,x.1.2.2.1,(aa .i64 (x.1.2.2.2.1+(1:Int))),x.1.2.2.2.2.1,(aa .u64 ((aa .u64 (e5_.1+e2_.2.1))+e1_.2.1)),e4_),(x.2.1.set e6_ e1_.1),()))))else none)else none)else none)else none)else none)else none)else(e (.inl ((x.1.2.2.2.2.1,x.1.2.2.2.2.2.1,e4_),x.2)))
theorem aZ0(d:Nat)(R:Type)(L:Pat.D E3->Option R)(e:Ah Gv Gu->Option R)(x:Pat.D E3):
  Bv (cf [(120,⟨Ea,Ee,p315,f315⟩),(94,⟨ED,EZ,p155,f155⟩),(93,⟨Bo,Bp,p173,f173⟩)] [(102,4,LoopSpec.of Gp Vb Jk I0 w324_4),(102,8,LoopSpec.of E3 Vc Gv Gu w324_8)]) (d+2) 102 (Bs Tryz.f102 8) E3 Vc Gv Gu (R:=R) L e x=X6 p315 f315 p155 f155 p173 f173 L e x:=by kernel_rfl
theorem aUa(p315:En)(f315:Ep)(p155:CW)(f155:CX)(p173:AZ)(f173:A1):Bm fun L e x=>X6 p315 f315 p155 f155 p173 f173 L e x:=by intro _ _ _ _ _ _ _ h0 hL he _;unfold X6;repeat' (first|exact h0|exact hL _|exact he _|apply BG|(apply BH h0;intro _)|(apply BI<;>intro _))
def X5(p315:En)(f315:Ep)(p155:CW)(f155:CX)(p173:AZ)(f173:A1)(w324_8:Pat.D E3->Option (Ah Gv Gu)){R:Type}(L:Pat.D Gp->Option R)(e:Ah Jk I0->Option R)(x:Pat.D Gp):Option R:=
 bif(decide (x.1.2.2.2.1<x.1.1))then(bif((decide ((0:Int)<=x.1.2.2.2.1))&&(decide (x.1.2.2.2.1<(x.1.2.1.length:Int))))then(Vx.Ba (w324_8 (((x.1.2.2.1.length:Int),x.1.2.2.1,(x.1.2.1.getD (ai x.1.2.2.2.1) (0:Int)),(0:Int),x.1.2.2.2.1,(0:Int),x.1.2.2.2.1,x.1.1,x.1.2.1,x.1.2.2.1,(),()),x.2)) fun y2=>
 Vx.A7 y2 (fun y3=>
 bif((decide ((0:Int)<=(aa .i64 (y3.1.1+(y3.1.2.2.2.2.2.1.length:Int)))))&&(decide ((aa .i64 (y3.1.1+(y3.1.2.2.2.2.2.1.length:Int)))<(y3.2.1.length:Int))))then(((L ((y3.1.2.2.2.1,y3.1.2.2.2.2.1,y3.1.2.2.2.2.2.1,(aa .i64 (y3.1.2.2.1+(1:Int))),(),()),(y3.2.1.set (ai (aa .i64 (y3.1.1+(y3.1.2.2.2.2.2.1.length:Int)))) y3.1.2.1),()))))
 else none) (fun z3=>
 none))
 else none)
 else(e (.inl (((),()),x.2)))
theorem aZZ(d:Nat)(R:Type)(L:Pat.D Gp->Option R)(e:Ah Jk I0->Option R)(x:Pat.D Gp):
  Bv (cf [(120,⟨Ea,Ee,p315,f315⟩),(94,⟨ED,EZ,p155,f155⟩),(93,⟨Bo,Bp,p173,f173⟩)] [(102,4,LoopSpec.of Gp Vb Jk I0 w324_4),(102,8,LoopSpec.of E3 Vc Gv Gu w324_8)]) (d+2) 102 (Bs Tryz.f102 4) Gp Vb Jk I0 (R:=R) L e x=X5 p315 f315 p155 f155 p173 f173 w324_8 L e x:=by kernel_rfl
theorem aT9(p315:En)(f315:Ep)(p155:CW)(f155:CX)(p173:AZ)(f173:A1)(w324_8:Pat.D E3->Option (Ah Gv Gu)):Bm fun L e x=>X5 p315 f315 p155 f155 p173 f173 w324_8 L e x:=by intro _ _ _ _ _ _ _ h0 hL he _;unfold X5;repeat' (first|exact h0|exact hL _|exact he _|apply BG|(apply BH h0;intro _)|(apply BI<;>intro _))
def aJX(p315:En)(f315:Ep)(p155:CW)(f155:CX)(p173:AZ)(f173:A1)(w324_4:Pat.D Gp->Option (Ah Jk I0))(w324_8:Pat.D E3->Option (Ah Gv Gu))(a0 a1:Ab (.slice (.int .u64))):Option (DenS OS):=
 let e1_:=(aa .i64 (((f173 (a0,())).1.length:Int)+((f173 (a1,())).1.length:Int)))
 bif(p173 (a0,()))then(bif(p173 (a1,()))then(bif((decide ((0:Int)<=e1_))&&(decide ((e1_*(8:Int))<=(140737488355328:Int))))then(Vx.Ba (w324_4 ((((f173 (a0,())).1.length:Int),(f173 (a0,())).1,(f173 (a1,())).1,(0:Int),(),()),(au (ai e1_) (0:Int)),())) fun y3=>
 Vx.A7 y3 (fun y4=>
 bif(p173 y4.2)then(some (f173 y4.2))
 else none) (fun z4=>
 none))
 else none)
 else none)
 else none
theorem aXp(x:DenS M4):run (cf [(120,⟨Ea,Ee,p315,f315⟩),(94,⟨ED,EZ,p155,f155⟩),(93,⟨Bo,Bp,p173,f173⟩)] [(102,4,LoopSpec.of Gp Vb Jk I0 w324_4),(102,8,LoopSpec.of E3 Vc Gv Gu w324_8)]) 9 102 Tryz.f102 M4 OS x=aJX p315 f315 p155 f155 p173 f173 w324_4 w324_8 x.1 x.2.1:=by kernel_rfl
def WY:E3.D->Option (Ah Gv Gu):=Bg fun L=>X6 AQ.pre AQ.F Au.pre Au.F Ai.pre Ai.F L some
def aBU:Gp.D->Option (Ah Jk I0):=Bg fun L=>X5 AQ.pre AQ.F Au.pre Au.F Ai.pre Ai.F WY L some
def aAD(x:DenS M4):Option (DenS OS):=aJX AQ.pre AQ.F Au.pre Au.F Ai.pre Ai.F aBU WY x.1 x.2.1
def ZZ:Sum:=Ak M4 OS aAD (DenS.dflt OS)
theorem aNv:Sound Tryz.prog G1 102 ZZ:=sd (cf [(120,AQ),(94,Au),(93,Ai)] [(102,4,LoopSpec.of Gp Vb Jk I0 aBU),(102,8,LoopSpec.of E3 Vc Gv Gu WY)]) 102 Tryz.f102 ⟨ZW,SZ,DO,trivial⟩ ⟨rfl,fun d=>BE (fun L e x=>X5 AQ.pre AQ.F Au.pre Au.F Ai.pre Ai.F WY L e x) (aT9 AQ.pre AQ.F Au.pre Au.F Ai.pre Ai.F WY) (fun _ _ _ _=>aZZ ..),⟨rfl,fun d=>BE (fun L e x=>X6 AQ.pre AQ.F Au.pre Au.F Ai.pre Ai.F L e x) (aUa AQ.pre AQ.F Au.pre Au.F Ai.pre Ai.F) (fun _ _ _ _=>aZ0 ..),trivial⟩⟩ M4 OS aAD _ (fun _=>aXp ..)
abbrev nF:=Ae M4
abbrev oR:=Ad M4 OS
variable (p324:nF)(f324:oR)
abbrev M5:Aa:=[(false,.slice (.int .u64)),(false,.slice (.int .u64))]
abbrev OT:Aa:=[(false,.slice (.int .u64)),(false,.int .i64)]
def aJY(p324:nF)(f324:oR)(p185:RO)(f185:RW)(a0 a1:Ab (.slice (.int .u64))):Option (DenS OT):=bif(p185 ((a0::(a1::[])),()))then(bif(f185 ((a0::(a1::[])),())).1 then(some ([],(5:Int),()))else bif(p324 (a0,a1,()))then(bif(p185 (((f324 (a0,a1,())).1::[]),()))then(bif(f185 (((f324 (a0,a1,())).1::[]),())).1 then(some ([],(5:Int),()))else some ((f324 (a0,a1,())).1,(0:Int),()))else none)else none)else none
theorem aXq(x:DenS M5):run (cf [(102,⟨M4,OS,p324,f324⟩),(96,⟨Ij,IH,p185,f185⟩)] []) 9 95 Tryz.f95 M5 OT x=aJY p324 f324 p185 f185 x.1 x.2.1:=by kernel_rfl
def aAE(x:DenS M5):Option (DenS OT):=aJY ZZ.pre ZZ.F Ei.pre Ei.F x.1 x.2.1
def Z0:Sum:=Ak M5 OT aAE (DenS.dflt OT)
theorem aNw:Sound Tryz.prog G1 95 Z0:=sd (cf [(102,ZZ),(96,Ei)] []) 95 Tryz.f95 ⟨aNv,lX,trivial⟩ trivial M5 OT aAE _ (fun _=>aXq ..)
abbrev nG:=Ae M5
abbrev oS:=Ad M5 OT
variable (p325:nG)(f325:oS)
abbrev H6:Aa:=[(true,.pair (.bool) (.pair (.slice (.int .u64)) (.pair (.int .i64) (.unit))))]
abbrev Ix:Aa:=[(true,.pair (.bool) (.pair (.slice (.int .u64)) (.pair (.int .i64) (.unit)))),(false,.int .i64)]
def aJC(p100:W3)(f100:Xc)(a0:Ab (.pair (.bool) (.pair (.slice (.int .u64)) (.pair (.int .i64) (.unit))))):Option (DenS Ix):=bif(p100 ((a0.1,a0.2),()))then(bif(decide (((f100 ((a0.1,a0.2),())).1.2.1.length:Int)>(1024:Int)))then(some ((false,[],(0:Int),()),(5:Int),()))else bif((decide ((f100 ((a0.1,a0.2),())).1.2.2.1<(-(40000:Int))))||(decide ((f100 ((a0.1,a0.2),())).1.2.2.1>(40000:Int))))then(some ((false,[],(0:Int),()),(30:Int),()))else some ((f100 ((a0.1,a0.2),())).1,(0:Int),()))else none
theorem aWs(x:DenS H6):run (cf [(252,⟨GS,G0,p100,f100⟩)] []) 9 250 Tryz.f250 H6 Ix x=aJC p100 f100 x.1:=by kernel_rfl
def zY(x:DenS H6):Option (DenS Ix):=aJC FC.pre FC.F x.1
def I8:Sum:=Ak H6 Ix zY (DenS.dflt Ix)
theorem lO:Sound Tryz.prog G1 250 I8:=sd (cf [(252,FC)] []) 250 Tryz.f250 ⟨ZH,trivial⟩ trivial H6 Ix zY _ (fun _=>aWs ..)
abbrev bS:=Ae H6
abbrev cO:=Ad H6 Ix
variable (p104:bS)(f104:cO)
abbrev Nc:Aa:=[(true,.pair (.bool) (.pair (.slice (.int .u64)) (.pair (.int .i64) (.unit)))),(true,.pair (.bool) (.pair (.slice (.int .u64)) (.pair (.int .i64) (.unit))))]
abbrev O0:Aa:=[(true,.pair (.bool) (.pair (.slice (.int .u64)) (.pair (.int .i64) (.unit)))),(false,.int .i64)]
def aJ3(p99:oI)(f99:pX)(p100:W3)(f100:Xc)(p325:nG)(f325:oS)(p104:bS)(f104:cO)(a0 a1:Ab (.pair (.bool) (.pair (.slice (.int .u64)) (.pair (.int .i64) (.unit))))):Option (DenS O0):=let e4_:=((f100 ((a0.1,a0.2),())).1.2.1,(f100 ((a1.1,a1.2),())).1.2.1,());let e3_:=(f325 e4_);let e1_:=(((!((f100 ((a0.1,a0.2),())).1.1==(f100 ((a1.1,a1.2),())).1.1)),e3_.1,(aa .i64 ((f100 ((a0.1,a0.2),())).1.2.2.1+(f100 ((a1.1,a1.2),())).1.2.2.1)),()),());let e2_:=e3_;bif(p99 ((a0.1,a0.2),(a1.1,a1.2),()))then(bif((f99 ((a0.1,a0.2),(a1.1,a1.2),())).1 !=(0:Int))then(some ((false,[],(0:Int),()),(f99 ((a0.1,a0.2),(a1.1,a1.2),()))))else bif(p100 ((a0.1,a0.2),()))then(bif(p100 ((a1.1,a1.2),()))then(bif(p325 e4_)then(bif(e2_.2.1 !=(0:Int))then(some ((false,[],(0:Int),()),e2_.2))else bif(p104 e1_)then(some (f104 e1_))else none)else none)else none)else none)else none
theorem aXE(x:DenS Nc):run (cf [(249,⟨Kh,KH,p99,f99⟩),(252,⟨GS,G0,p100,f100⟩),(95,⟨M5,OT,p325,f325⟩),(250,⟨H6,Ix,p104,f104⟩)] []) 9 241 Tryz.f241 Nc O0 x=aJ3 p99 f99 p100 f100 p325 f325 p104 f104 x.1 x.2.1:=by kernel_rfl
def aAK(x:DenS Nc):Option (DenS O0):=aJ3 RA.pre RA.F FC.pre FC.F Z0.pre Z0.F I8.pre I8.F x.1 x.2.1
def Z2:Sum:=Ak Nc O0 aAK (DenS.dflt O0)
theorem aNH:Sound Tryz.prog G1 241 Z2:=sd (cf [(249,RA),(252,FC),(95,Z0),(250,I8)] []) 241 Tryz.f241 ⟨zR,ZH,aNw,lO,trivial⟩ trivial Nc O0 aAK _ (fun _=>aXE ..)
abbrev aCE:=Ae Nc
abbrev aD8:=Ad Nc O0
variable (p360:aCE)(f360:aD8)
abbrev Nr:Aa:=[(false,.int .i64),(false,.int .u64),(false,.int .u64)]
abbrev Pa:Aa:=[(true,.pair (.bool) (.pair (.bool) (.pair (.bool) (.pair (.bool) (.pair (.bool) (.pair (.pair (.bool) (.pair (.slice (.int .u64)) (.pair (.int .i64) (.unit)))) (.unit)))))))]
def aKb(p398:nM)(f398:oY)(p47:n5)(f47:pK)(p360:aCE)(f360:aD8)(a0:Ab (.int .i64))(a1 a2:Ab (.int .u64)):Option (DenS Pa):=let e7_:=(((f398 (a0,a1,())).1.2.2.2.1&&(!(f398 (a0,a2,())).1.2.2.2.1))&&((f47 (f398 (a0,a2,())).1.2.2.2.2.2).1==(0:Int)));let e1_:=(e7_||(((f398 (a0,a2,())).1.2.2.2.1&&(!(f398 (a0,a1,())).1.2.2.2.1))&&((f47 (f398 (a0,a1,())).1.2.2.2.2.2).1==(0:Int))));let e8_:=(!((f398 (a0,a1,())).1.2.2.2.2.1==(f398 (a0,a2,())).1.2.2.2.2.1));let e2_:=(e8_,(false,[],(0:Int),()),());let e3_:=((f398 (a0,a1,())).1.2.2.2.2.2.1,(f398 (a0,a2,())).1.2.2.2.2.2);let e4_:=((f398 (a0,a1,())).1.2.2.2.1||(f398 (a0,a2,())).1.2.2.2.1);let e5_:=((f398 (a0,a1,())).1.2.1||(f398 (a0,a2,())).1.2.1);let e6_:=((f398 (a0,a1,())).1.1||(f398 (a0,a2,())).1.1);bif(p398 (a0,a1,()))then(bif(p398 (a0,a2,()))then(bif e6_ then(some ((e6_,e5_,false,false,e2_),()))else bif((p47 (f398 (a0,a2,())).1.2.2.2.2.2)||(!(bif(f398 (a0,a1,())).1.2.2.2.1 then(!(f398 (a0,a2,())).1.2.2.2.1)else false)))then(bif((p47 (f398 (a0,a1,())).1.2.2.2.2.2)||(!((bif e7_ then false else true)&&(bif(f398 (a0,a2,())).1.2.2.2.1 then(!(f398 (a0,a1,())).1.2.2.2.1)else false))))then(bif(!e4_)then(bif(p360 e3_)then(some ((e6_,e5_,e1_,e4_,e8_,(f360 e3_).1,()),()))else none)else some ((e6_,e5_,e1_,e4_,e2_),()))else none)else none)else none)else none
theorem aXT(x:DenS Nr):run (cf [(212,⟨J8,Kx,p398,f398⟩),(240,⟨Ke,KE,p47,f47⟩),(241,⟨Nc,O0,p360,f360⟩)] []) 9 211 Tryz.f211 Nr Pa x=aKb p398 f398 p47 f47 p360 f360 x.1 x.2.1 x.2.2.1:=by kernel_rfl
def aAU(x:DenS Nr):Option (DenS Pa):=aKb Ru.pre Ru.F Ry.pre Ry.F Z2.pre Z2.F x.1 x.2.1 x.2.2.1
def Z8:Sum:=Ak Nr Pa aAU (DenS.dflt Pa)
theorem aNS:Sound Tryz.prog G1 211 Z8:=sd (cf [(212,Ru),(240,Ry),(241,Z2)] []) 211 Tryz.f211 ⟨yX,zO,aNH,trivial⟩ trivial Nr Pa aAU _ (fun _=>aXT ..)
abbrev aCP:=Ae Nr
abbrev aEj:=Ad Nr Pa
variable (p399:aCP)(f399:aEj)
abbrev MQ:Aa:=[(false,.slice (.int .u64)),(false,.int .i64)]
abbrev OE:Aa:=[(false,.slice (.int .u64))]
abbrev Hf:Pat:=⟨57,[(25,.one (.v .i64)),(24,.one (.sl (.int .u64))),(5,.one (.v .i64)),(6,.one (.v .u64)),(26,.one (.v .i64)),(7,.one (.own 0))],[.arr (.int .u64)]⟩
abbrev Za:List (Nat×Shape):=[]
abbrev Lr:List (Nat×Pat):=[(0,⟨57,[(7,.one (.own 0))],[.arr (.int .u64)]⟩)]
abbrev KT:Option Pat:=none
variable (w172_6:Pat.D Hf->Option (Ah Lr KT))
def X1(p102:Gw)(f102:GA){R:Type}(L:Pat.D Hf->Option R)(e:Ah Lr KT->Option R)(x:Pat.D Hf):Option R:=let e6_:=(aa .i64 (x.1.2.2.1+x.1.2.2.2.2.1));let e5_:=(ai e6_);let e7_:=(x.1.2.1.getD (ai x.1.2.2.2.2.1) (0:Int));let e1_:=(x.2.1.set e5_ (Ap .u64 (x.2.1.getD e5_ (0:Int)) (Bb .u64 e7_ x.1.2.2.2.1)));let e2_:=((decide ((0:Int)<=e6_))&&(decide (e6_<(x.2.1.length:Int))));let e3_:=(x.1.1,x.1.2.1,x.1.2.2.1,x.1.2.2.2.1,(aa .i64 (x.1.2.2.2.2.1+(1:Int))),(),());let e4_:=(aa .i64 (e6_+(1:Int)));bif(decide (x.1.2.2.2.2.1<x.1.1))then(bif((decide ((0:Int)<=x.1.2.2.2.2.1))&&(decide (x.1.2.2.2.2.1<(x.1.2.1.length:Int))))then(bif e2_ then(bif e2_ then(bif(decide (x.1.2.2.2.1>(0:Int)))then(bif((decide ((0:Int)<=e4_))&&(decide (e4_<(e1_.length:Int))))then(((L (e3_,(e1_.set (ai e4_) (AL .u64 e7_ (aa .u64 ((64:Int)-x.1.2.2.2.1)))),()))))else none)else(L (e3_,e1_,())))else none)else none)else none)else(e (.inl (((),()),x.2)))
theorem aZR(d:Nat)(R:Type)(L:Pat.D Hf->Option R)(e:Ah Lr KT->Option R)(x:Pat.D Hf):
  Bv (cf [(122,⟨EP,EW,p102,f102⟩)] [(256,6,LoopSpec.of Hf Za Lr KT w172_6)]) (d+2) 256 (Bs Tryz.f256 6) Hf Za Lr KT (R:=R) L e x=X1 p102 f102 L e x:=by kernel_rfl
theorem aT5(p102:Gw)(f102:GA):Bm fun L e x=>X1 p102 f102 L e x:=by intro _ _ _ _ _ _ _ h0 hL he _;unfold X1;repeat' (first|exact h0|exact hL _|exact he _|apply BG|(apply BH h0;intro _)|(apply BI<;>intro _))
def aJN(p102:Gw)(f102:GA)(w172_6:Pat.D Hf->Option (Ah Lr KT))(a0:Ab (.slice (.int .u64)))(a1:Ab (.int .i64)):Option (DenS OE):=
 let e1_:=(aa .i64 ((aa .i64 ((BX .i64 a1 (64:Int))+(a0.length:Int)))+(1:Int)))
 bif((a0.length:Int)==(0:Int))then(some ([],()))
 else bif((decide ((0:Int)<=e1_))&&(decide ((e1_*(8:Int))<=(140737488355328:Int))))then(Vx.Ba (w172_6 (((a0.length:Int),a0,(BX .i64 a1 (64:Int)),(aa .u64 (le a1 (64:Int))),(0:Int),(),()),(au (ai e1_) (0:Int)),())) fun y2=>
 Vx.A7 y2 (fun y3=>
 bif(p102 y3.2)then(some (f102 y3.2))
 else none) (fun z3=>
 none))
 else none
theorem aW3(x:DenS MQ):run (cf [(122,⟨EP,EW,p102,f102⟩)] [(256,6,LoopSpec.of Hf Za Lr KT w172_6)]) 9 256 Tryz.f256 MQ OE x=aJN p102 f102 w172_6 x.1 x.2.1:=by kernel_rfl
def aBQ:Hf.D->Option (Ah Lr KT):=Bg fun L=>X1 BR.pre BR.F L some
def aAp(x:DenS MQ):Option (DenS OE):=aJN BR.pre BR.F aBQ x.1 x.2.1
def ZR:Sum:=Ak MQ OE aAp (DenS.dflt OE)
theorem aNk:Sound Tryz.prog G1 256 ZR:=sd (cf [(122,BR)] [(256,6,LoopSpec.of Hf Za Lr KT aBQ)]) 256 Tryz.f256 ⟨Vm,trivial⟩ ⟨rfl,fun d=>BE (fun L e x=>X1 BR.pre BR.F L e x) (aT5 BR.pre BR.F) (fun _ _ _ _=>aZR ..),trivial⟩ MQ OE aAp _ (fun _=>aW3 ..)
abbrev aCq:=Ae MQ
abbrev aDU:=Ad MQ OE
variable (p172:aCq)(f172:aDU)
abbrev MK:Aa:=[(true,.pair (.bool) (.pair (.slice (.int .u64)) (.pair (.int .i64) (.unit)))),(true,.pair (.bool) (.pair (.slice (.int .u64)) (.pair (.int .i64) (.unit))))]
abbrev Ox:Aa:=[(false,.slice (.int .u64)),(false,.slice (.int .u64)),(false,.int .i64)]
def aJL(p172:aCq)(f172:aDU)(a0 a1:Ab (.pair (.bool) (.pair (.slice (.int .u64)) (.pair (.int .i64) (.unit))))):Option (DenS Ox):=let e3_:=(if(a1.2.2.1<a0.2.2.1)then a1.2.2.1 else a0.2.2.1);let e1_:=(a0.2.1,(aa .i64 (a0.2.2.1-e3_)),());let e2_:=(a1.2.1,(aa .i64 (a1.2.2.1-e3_)),());bif(p172 e1_)then(bif(p172 e2_)then(some ((f172 e1_).1,(f172 e2_).1,e3_,()))else none)else none
theorem aWP(x:DenS MK):run (cf [(256,⟨MQ,OE,p172,f172⟩)] []) 9 255 Tryz.f255 MK Ox x=aJL p172 f172 x.1 x.2.1:=by kernel_rfl
def aAk(x:DenS MK):Option (DenS Ox):=aJL ZR.pre ZR.F x.1 x.2.1
def ZN:Sum:=Ak MK Ox aAk (DenS.dflt Ox)
theorem aNd:Sound Tryz.prog G1 255 ZN:=sd (cf [(256,ZR)] []) 255 Tryz.f255 ⟨aNk,trivial⟩ trivial MK Ox aAk _ (fun _=>aWP ..)
abbrev aCj:=Ae MK
abbrev aDN:=Ad MK Ox
variable (p142:aCj)(f142:aDN)
abbrev ME:Aa:=[(true,.pair (.bool) (.pair (.slice (.int .u64)) (.pair (.int .i64) (.unit)))),(true,.pair (.bool) (.pair (.slice (.int .u64)) (.pair (.int .i64) (.unit))))]
abbrev Oo:Aa:=[(true,.pair (.bool) (.pair (.slice (.int .u64)) (.pair (.int .i64) (.unit))))]
def aJA(p142:aCj)(f142:aDN)(p143:LM)(f143:LP)(p144:HE)(f144:HH)(p145:Tw)(f145:TE)(p100:W3)(f100:Xc)(a0 a1:Ab (.pair (.bool) (.pair (.slice (.int .u64)) (.pair (.int .i64) (.unit))))):Option (DenS Oo):=let e5_:=((f142 ((a0.1,a0.2),(a1.1,a1.2),())).1,(f142 ((a0.1,a0.2),(a1.1,a1.2),())).2.1,());let e1_:=((a0.1,(f143 e5_).1,(f142 ((a0.1,a0.2),(a1.1,a1.2),())).2.2),());let e6_:=((f142 ((a0.1,a0.2),(a1.1,a1.2),())).2.1,(f142 ((a0.1,a0.2),(a1.1,a1.2),())).1,());let e2_:=((a1.1,(f145 e6_).1,(f142 ((a0.1,a0.2),(a1.1,a1.2),())).2.2),());let e3_:=((a0.1,(f145 e5_).1,(f142 ((a0.1,a0.2),(a1.1,a1.2),())).2.2),());let e4_:=e5_;bif((a0.2.1.length:Int)==(0:Int))then(some ((a1.1,a1.2),()))else bif((a1.2.1.length:Int)==(0:Int))then(some ((a0.1,a0.2),()))else bif(p142 ((a0.1,a0.2),(a1.1,a1.2),()))then(bif(a0.1==a1.1)then(bif(p143 e4_)then(bif(p100 e1_)then(some (f100 e1_))else none)else none)else bif(p144 e4_)then(bif(decide ((f144 e4_).1<(0:Int)))then(bif(p145 e6_)then(bif(p100 e2_)then(some (f100 e2_))else none)else none)else bif(p145 e4_)then(bif(p100 e3_)then(some (f100 e3_))else none)else none)else none)else none
theorem aWp(x:DenS ME):run (cf [(255,⟨MK,Ox,p142,f142⟩),(65,⟨GW,Gg,p143,f143⟩),(101,⟨Fp,Fu,p144,f144⟩),(248,⟨Ih,IF,p145,f145⟩),(252,⟨GS,G0,p100,f100⟩)] []) 9 251 Tryz.f251 ME Oo x=aJA p142 f142 p143 f143 p144 f144 p145 f145 p100 f100 x.1 x.2.1:=by kernel_rfl
def zU(x:DenS ME):Option (DenS Oo):=aJA ZN.pre ZN.F C5.pre C5.F By.pre By.F Du.pre Du.F FC.pre FC.F x.1 x.2.1
def ZI:Sum:=Ak ME Oo zU (DenS.dflt Oo)
theorem aM4:Sound Tryz.prog G1 251 ZI:=sd (cf [(255,ZN),(65,C5),(101,By),(248,Du),(252,FC)] []) 251 Tryz.f251 ⟨aNd,lU,ZO,yI,ZH,trivial⟩ trivial ME Oo zU _ (fun _=>aWp ..)
abbrev aCa:=Ae ME
abbrev aDE:=Ad ME Oo
variable (p101:aCa)(f101:aDE)
abbrev Oa:Aa:=[(true,.pair (.bool) (.pair (.slice (.int .u64)) (.pair (.int .i64) (.unit)))),(true,.pair (.bool) (.pair (.slice (.int .u64)) (.pair (.int .i64) (.unit))))]
abbrev PS:Aa:=[(true,.pair (.bool) (.pair (.slice (.int .u64)) (.pair (.int .i64) (.unit)))),(false,.int .i64)]
def t49(p99:oI)(f99:pX)(p100:W3)(f100:Xc)(p101:aCa)(f101:aDE)(p104:bS)(f104:cO)(a0 a1:Ab (.pair (.bool) (.pair (.slice (.int .u64)) (.pair (.int .i64) (.unit))))):Option (DenS PS):=let e2_:=((f100 ((a0.1,a0.2),())).1,(f100 ((a1.1,a1.2),())));let e1_:=(f101 e2_);bif(p99 ((a0.1,a0.2),(a1.1,a1.2),()))then(bif((f99 ((a0.1,a0.2),(a1.1,a1.2),())).1 !=(0:Int))then(some ((false,[],(0:Int),()),(f99 ((a0.1,a0.2),(a1.1,a1.2),()))))else bif(p100 ((a0.1,a0.2),()))then(bif(p100 ((a1.1,a1.2),()))then(bif(p101 e2_)then(bif(p104 e1_)then(some (f104 e1_))else none)else none)else none)else none)else none
theorem r49(x:DenS Oa):run (cf [(249,⟨Kh,KH,p99,f99⟩),(252,⟨GS,G0,p100,f100⟩),(251,⟨ME,Oo,p101,f101⟩),(250,⟨H6,Ix,p104,f104⟩)] []) 9 239 Tryz.f239 Oa PS x=t49 p99 f99 p100 f100 p101 f101 p104 f104 x.1 x.2.1:=by kernel_rfl
def T49(x:DenS Oa):Option (DenS PS):=t49 RA.pre RA.F FC.pre FC.F ZI.pre ZI.F I8.pre I8.F x.1 x.2.1
def aP:Sum:=Ak Oa PS T49 (DenS.dflt PS)
theorem aOp:Sound Tryz.prog G1 239 aP:=sd (cf [(249,RA),(252,FC),(251,ZI),(250,I8)] []) 239 Tryz.f239 ⟨zR,ZH,aM4,lO,trivial⟩ trivial Oa PS T49 _ (fun _=>r49 ..)
abbrev Y49:=Ae Oa
abbrev Z49:=Ad Oa PS
variable (p49:Y49)(f49:Z49)
abbrev MF:Aa:=[(true,.pair (.bool) (.pair (.slice (.int .u64)) (.pair (.int .i64) (.unit))))]
abbrev Oq:Aa:=[(true,.pair (.bool) (.pair (.slice (.int .u64)) (.pair (.int .i64) (.unit)))),(false,.int .i64)]
def aJD(p103:mZ)(f103:oJ)(p104:bS)(f104:cO)(a0:Ab (.pair (.bool) (.pair (.slice (.int .u64)) (.pair (.int .i64) (.unit))))):Option (DenS Oq):=bif(p103 ((a0.1,a0.2),()))then(bif((f103 ((a0.1,a0.2),())).1 !=(0:Int))then(some ((false,[],(0:Int),()),(f103 ((a0.1,a0.2),()))))else bif(p104 ((a0.1,a0.2),()))then(some (f104 ((a0.1,a0.2),())))else none)else none
theorem aWu(x:DenS MF):run (cf [(253,⟨JY,Kj,p103,f103⟩),(250,⟨H6,Ix,p104,f104⟩)] []) 9 246 Tryz.f246 MF Oq x=aJD p103 f103 p104 f104 x.1:=by kernel_rfl
def aAa(x:DenS MF):Option (DenS Oq):=aJD Rt.pre Rt.F I8.pre I8.F x.1
def ZJ:Sum:=Ak MF Oq aAa (DenS.dflt Oq)
theorem aM5:Sound Tryz.prog G1 246 ZJ:=sd (cf [(253,Rt),(250,I8)] []) 246 Tryz.f246 ⟨yC,lO,trivial⟩ trivial MF Oq aAa _ (fun _=>aWu ..)
abbrev aCb:=Ae MF
abbrev aDF:=Ad MF Oq
variable (p106:aCb)(f106:aDF)
abbrev Is:Aa:=[(false,.int .i64),(false,.int .i64),(true,.pair (.bool) (.pair (.slice (.int .u64)) (.pair (.int .i64) (.unit))))]
abbrev IU:Aa:=[(false,.int .u64),(false,.int .i64),(false,.int .i64)]
def t51(p105:Tt)(f105:TB)(p106:aCb)(f106:aDF)(p107:Tu)(f107:TC)(a0 a1:Ab (.int .i64))(a2:Ab (.pair (.bool) (.pair (.slice (.int .u64)) (.pair (.int .i64) (.unit))))):Option (DenS IU):=let e2_:=(((f106 ((a2.1,a2.2),())).1.1,(f106 ((a2.1,a2.2),())).1.2.1,(f106 ((a2.1,a2.2),())).1.2.2.1,false,()),a0,(f105 (a0,a1,())).1,a1,());let e1_:=(f107 e2_);bif(p105 (a0,a1,()))then(bif((f105 (a0,a1,())).2.1 !=(0:Int))then(some ((0:Int),(0:Int),(f105 (a0,a1,())).2))else bif(p106 ((a2.1,a2.2),()))then(bif((f106 ((a2.1,a2.2),())).2.1 !=(0:Int))then(some ((0:Int),(0:Int),(f106 ((a2.1,a2.2),())).2))else bif(((f106 ((a2.1,a2.2),())).1.2.1.length:Int)==(0:Int))then(some ((0:Int),(0:Int),(0:Int),()))else bif(p107 e2_)then(some (e1_.1,e1_.2.1,(0:Int),()))else none)else none)else none
theorem r51(x:DenS Is):run (cf [(121,⟨H7,Iy,p105,f105⟩),(246,⟨MF,Oq,p106,f106⟩),(124,⟨H8,Iz,p107,f107⟩)] []) 9 231 Tryz.f231 Is IU x=t51 p105 f105 p106 f106 p107 f107 x.1 x.2.1 x.2.2.1:=by kernel_rfl
def T51(x:DenS Is):Option (DenS IU):=t51 E4.pre E4.F ZJ.pre ZJ.F E5.pre E5.F x.1 x.2.1 x.2.2.1
def Je:Sum:=Ak Is IU T51 (DenS.dflt IU)
theorem mI:Sound Tryz.prog G1 231 Je:=sd (cf [(121,E4),(246,ZJ),(124,E5)] []) 231 Tryz.f231 ⟨lP,aM5,lQ,trivial⟩ trivial Is IU T51 _ (fun _=>r51 ..)
abbrev cM:=Ae Is
abbrev dH:=Ad Is IU
variable (p51:cM)(f51:dH)
abbrev Ns:Aa:=[(false,.int .i64),(false,.int .i64),(true,.pair (.bool) (.pair (.bool) (.pair (.bool) (.pair (.bool) (.pair (.bool) (.pair (.pair (.bool) (.pair (.slice (.int .u64)) (.pair (.int .i64) (.unit)))) (.unit))))))),(true,.pair (.bool) (.pair (.bool) (.pair (.bool) (.pair (.bool) (.pair (.bool) (.pair (.pair (.bool) (.pair (.slice (.int .u64)) (.pair (.int .i64) (.unit)))) (.unit)))))))]
abbrev Pb:Aa:=[(false,.int .u64),(false,.int .i64),(false,.int .i64)]
def aKc(p70:De)(f70:Df)(p97:LO)(f97:LR)(p49:Y49)(f49:Z49)(p47:n5)(f47:pK)(p118:HD)(f118:HG)(p51:cM)(f51:dH)(a0 a1:Ab (.int .i64))(a2:Ab (.pair (.bool) (.pair (.bool) (.pair (.bool) (.pair (.bool) (.pair (.bool) (.pair (.pair (.bool) (.pair (.slice (.int .u64)) (.pair (.int .i64) (.unit)))) (.unit))))))))(a3:Ab (.pair (.bool) (.pair (.bool) (.pair (.bool) (.pair (.bool) (.pair (.bool) (.pair (.pair (.bool) (.pair (.slice (.int .u64)) (.pair (.int .i64) (.unit)))) (.unit)))))))):Option (DenS Pb):=let e1_:=(a0,a1,(f49 (a2.2.2.2.2.2.1,a3.2.2.2.2.2)).1,());let e2_:=((f70 (a0,())).1,(1:Int),(0:Int),());bif(p70 (a0,()))then(bif(((a2.2.1||a3.2.1)||a2.2.2.1)||a3.2.2.1)then(some e2_)else bif(a2.1||a3.1)then(some ((f70 (a0,())).1,(0:Int),(0:Int),()))else bif((a2.2.2.2.1&&a3.2.2.2.1)&&(!(a2.2.2.2.2.1==a3.2.2.2.2.1)))then(some e2_)else bif a2.2.2.2.1 then(bif(p97 (a0,a2.2.2.2.2.1,()))then(some ((f97 (a0,a2.2.2.2.2.1,())).1,(0:Int),(0:Int),()))else none)else bif a3.2.2.2.1 then(bif(p97 (a0,a3.2.2.2.2.1,()))then(some ((f97 (a0,a3.2.2.2.2.1,())).1,(0:Int),(0:Int),()))else none)else bif(p49 (a2.2.2.2.2.2.1,a3.2.2.2.2.2))then(bif((f49 (a2.2.2.2.2.2.1,a3.2.2.2.2.2)).2.1 !=(0:Int))then(some ((0:Int),(0:Int),(f49 (a2.2.2.2.2.2.1,a3.2.2.2.2.2)).2))else bif(p47 ((f49 (a2.2.2.2.2.2.1,a3.2.2.2.2.2)).1,()))then(bif((f47 ((f49 (a2.2.2.2.2.2.1,a3.2.2.2.2.2)).1,())).1==(0:Int))then(bif(p47 a2.2.2.2.2.2)then(bif((p47 a3.2.2.2.2.2)||(!(decide ((f47 a2.2.2.2.2.2).1=(0:Int)))))then(bif((((f47 a2.2.2.2.2.2).1==(0:Int))&&((f47 a3.2.2.2.2.2).1==(0:Int)))&&(a2.2.2.2.2.1==a3.2.2.2.2.1))then(bif(p118 (a0,a2.2.2.2.2.1,()))then(some ((f118 (a0,a2.2.2.2.2.1,())).1,(0:Int),(0:Int),()))else none)else bif(p118 (a0,(a1==(4:Int)),()))then(some ((f118 (a0,(a1==(4:Int)),())).1,(0:Int),(0:Int),()))else none)else none)else none)else bif(p51 e1_)then(some (f51 e1_))else none)else none)else none)else none
theorem aXV(x:DenS Ns):run (cf [(61,⟨Da,Db,p70,f70⟩),(62,⟨Gb,Gm,p97,f97⟩),(239,⟨Oa,PS,p49,f49⟩),(240,⟨Ke,KE,p47,f47⟩),(64,⟨EB,EX,p118,f118⟩),(231,⟨Is,IU,p51,f51⟩)] []) 9 210 Tryz.f210 Ns Pb x=aKc p70 f70 p97 f97 p49 f49 p47 f47 p118 f118 p51 f51 x.1 x.2.1 x.2.2.1 x.2.2.2.1:=by kernel_rfl
def aAV(x:DenS Ns):Option (DenS Pb):=aKc AR.pre AR.F CC.pre CC.F aP.pre aP.F Ry.pre Ry.F Bx.pre Bx.F Je.pre Je.F x.1 x.2.1 x.2.2.1 x.2.2.2.1
def Z9:Sum:=Ak Ns Pb aAV (DenS.dflt Pb)
theorem aNT:Sound Tryz.prog G1 210 Z9:=sd (cf [(61,AR),(62,CC),(239,aP),(240,Ry),(64,Bx),(231,Je)] []) 210 Tryz.f210 ⟨FK,VI,aOp,zO,SS,mI,trivial⟩ trivial Ns Pb aAV _ (fun _=>aXV ..)
abbrev aCQ:=Ae Ns
abbrev aEk:=Ad Ns Pb
variable (p400:aCQ)(f400:aEk)
abbrev Nt:Aa:=[(false,.int .i64),(false,.int .i64),(false,.int .u64),(false,.int .u64),(false,.int .u64)]
abbrev Pc:Aa:=[(false,.int .u64),(false,.int .i64),(false,.int .i64)]
def aKd(p397:aCO)(f397:aEi)(p399:aCP)(f399:aEj)(p398:nM)(f398:oY)(p400:aCQ)(f400:aEk)(a0 a1:Ab (.int .i64))(a2 a3 a4:Ab (.int .u64)):Option (DenS Pc):=let e1_:=(a0,a1,(f399 (a0,a2,a3,())).1,(f398 (a0,a4,())));let e2_:=(f397 (a0,a1,(a2::(a3::(a4::[]))),()));bif(p397 (a0,a1,(a2::(a3::(a4::[]))),()))then(bif(e2_.1 !=(0:Int))then(some ((0:Int),(0:Int),e2_))else bif(p399 (a0,a2,a3,()))then(bif(p398 (a0,a4,()))then(bif(p400 e1_)then(some (f400 e1_))else none)else none)else none)else none
theorem aXW(x:DenS Nt):run (cf [(209,⟨Nq,O9,p397,f397⟩),(211,⟨Nr,Pa,p399,f399⟩),(212,⟨J8,Kx,p398,f398⟩),(210,⟨Ns,Pb,p400,f400⟩)] []) 9 165 Tryz.f165 Nt Pc x=aKd p397 f397 p399 f399 p398 f398 p400 f400 x.1 x.2.1 x.2.2.1 x.2.2.2.1 x.2.2.2.2.1:=by kernel_rfl
def aAW(x:DenS Nt):Option (DenS Pc):=aKd Z7.pre Z7.F Z8.pre Z8.F Ru.pre Ru.F Z9.pre Z9.F x.1 x.2.1 x.2.2.1 x.2.2.2.1 x.2.2.2.2.1
def aA:Sum:=Ak Nt Pc aAW (DenS.dflt Pc)
theorem aNU:Sound Tryz.prog G1 165 aA:=sd (cf [(209,Z7),(211,Z8),(212,Ru),(210,Z9)] []) 165 Tryz.f165 ⟨aNR,aNS,yX,aNT,trivial⟩ trivial Nt Pc aAW _ (fun _=>aXW ..)
abbrev aCR:=Ae Nt
abbrev aEl:=Ad Nt Pc
variable (p401:aCR)(f401:aEl)
abbrev Nu:Aa:=[(true,.pair (.int .i64) (.pair (.int .i64) (.pair (.int .u64) (.pair (.int .u64) (.pair (.int .u64) (.unit))))))]
abbrev Pd:Aa:=[(false,.int .u64),(false,.int .i64),(false,.int .i64)]
def aKe(p401:aCR)(f401:aEl)(a0:Ab (.pair (.int .i64) (.pair (.int .i64) (.pair (.int .u64) (.pair (.int .u64) (.pair (.int .u64) (.unit))))))):Option (DenS Pd):=bif(p401 (a0.2.1,a0.1,a0.2.2))then(some (f401 (a0.2.1,a0.1,a0.2.2)))else none
theorem aXX(x:DenS Nu):run (cf [(165,⟨Nt,Pc,p401,f401⟩)] []) 9 164 Tryz.f164 Nu Pd x=aKe p401 f401 x.1:=by kernel_rfl
def aAX(x:DenS Nu):Option (DenS Pd):=aKe aA.pre aA.F x.1
def Vt:Sum:=Ak Nu Pd aAX (DenS.dflt Pd)
theorem yY:Sound Tryz.prog G1 164 Vt:=sd (cf [(165,aA)] []) 164 Tryz.f164 ⟨aNU,trivial⟩ trivial Nu Pd aAX _ (fun _=>aXX ..)
abbrev nN:=Ae Nu
abbrev oZ:=Ad Nu Pd
variable (p402:nN)(f402:oZ)
abbrev Io:Aa:=[(false,.int .i64),(false,.int .i64)]
abbrev IN:Aa:=[(false,.int .i64)]
def aKf(p69:Bq)(f69:Br)(a0 a1:Ab (.int .i64)):Option (DenS IN):=bif(p69 (a0,()))then(bif((f69 (a0,())).2.1 !=(0:Int))then(some (f69 (a0,())).2)else bif((decide (a1<(0:Int)))||(decide (a1>(5:Int))))then(some ((3:Int),()))else some ((0:Int),()))else none
theorem aXY(x:DenS Io):run (cf [(71,⟨BJ,BK,p69,f69⟩)] []) 9 215 Tryz.f215 Io IN x=aKf p69 f69 x.1 x.2.1:=by kernel_rfl
def aAY(x:DenS Io):Option (DenS IN):=aKf An.pre An.F x.1 x.2.1
def Jc:Sum:=Ak Io IN aAY (DenS.dflt IN)
theorem lZ:Sound Tryz.prog G1 215 Jc:=sd (cf [(71,An)] []) 215 Tryz.f215 ⟨Dk,trivial⟩ trivial Io IN aAY _ (fun _=>aXY ..)
abbrev cF:=Ae Io
abbrev dB:=Ad Io IN
variable (p403:cF)(f403:dB)
abbrev J9:Aa:=[(false,.int .i64),(false,.int .u64)]
abbrev Ky:Aa:=[(true,.pair (.bool) (.pair (.int .u64) (.pair (.int .i64) (.unit))))]
def aKg(p69:Bq)(f69:Br)(p98:Jt)(f98:Jw)(a0:Ab (.int .i64))(a1:Ab (.int .u64)):Option (DenS Ky):=let e1_:=(aa .i64 ((aa .i64 ((f69 (a0,())).1.2.2.1-(f69 (a0,())).1.2.1))+(1:Int)));let e2_:=(aa .i64 ((f69 (a0,())).1.2.1-(1:Int)));bif(p69 (a0,()))then(bif(p98 (a0,a1,()))then(bif(decide ((f98 (a0,a1,())).2.1>(0:Int)))then(bif(decide ((0:Int)<=e2_))then(some (((f98 (a0,a1,())).1,(Ap .u64 (f98 (a0,a1,())).2.2.1 (Bb .u64 (1:Int) e2_)),(aa .i64 (e1_+(aa .i64 ((aa .i64 (f98 (a0,a1,())).2.1)-(1:Int))))),()),()))else none)else some (((f98 (a0,a1,())).1,(f98 (a0,a1,())).2.2.1,e1_,()),()))else none)else none
theorem aXZ(x:DenS J9):run (cf [(71,⟨BJ,BK,p69,f69⟩),(91,⟨EQ,E2,p98,f98⟩)] []) 9 216 Tryz.f216 J9 Ky x=aKg p69 f69 p98 f98 x.1 x.2.1:=by kernel_rfl
def aAZ(x:DenS J9):Option (DenS Ky):=aKg An.pre An.F BT.pre BT.F x.1 x.2.1
def Rv:Sum:=Ak J9 Ky aAZ (DenS.dflt Ky)
theorem yZ:Sound Tryz.prog G1 216 Rv:=sd (cf [(71,An),(91,BT)] []) 216 Tryz.f216 ⟨Dk,Rz,trivial⟩ trivial J9 Ky aAZ _ (fun _=>aXZ ..)
abbrev nO:=Ae J9
abbrev o0:=Ad J9 Ky
variable (p404:nO)(f404:o0)
abbrev Ka:Aa:=[(false,.int .i64),(true,.pair (.bool) (.pair (.int .u64) (.pair (.int .i64) (.unit))))]
abbrev Kz:Aa:=[(false,.int .u64),(false,.bool)]
def aKh(a0:Ab (.int .i64))(a1:Ab (.pair (.bool) (.pair (.int .u64) (.pair (.int .i64) (.unit))))):Option (DenS Kz):=let e10_:=(aa .i64 ((0:Int)-a1.2.2.1));let e9_:=(if((63:Int)<e10_)then(63:Int)else e10_);let e8_:=(AL .u64 a1.2.1 e9_);let e1_:=(aa .u64 (a1.2.1-(Bb .u64 e8_ e9_)));let e2_:=((aa .u64 (e8_+(1:Int))),true,());let e3_:=(Bb .u64 (1:Int) (aa .i64 (e9_-(1:Int))));let e4_:=(le e8_ (2:Int));let e5_:=(e8_,true,());let e6_:=(decide ((0:Int)<=e9_));let e7_:=e9_;bif e6_ then(bif e6_ then(bif(e1_==(0:Int))then(some ((AL .u64 a1.2.1 e7_),false,()))else bif(decide ((0:Int)<=(aa .i64 (e7_-(1:Int)))))then(bif(a0==(0:Int))then(bif((decide (e1_>e3_))||((e1_==e3_)&&(e4_==(1:Int))))then(some e2_)else some e5_)else bif(a0==(1:Int))then(bif(decide (e1_>=e3_))then(some e2_)else some e5_)else bif(a0==(3:Int))then(bif(!a1.1)then(some e2_)else some e5_)else bif(a0==(4:Int))then(bif a1.1 then(some e2_)else some e5_)else bif(a0==(5:Int))then(bif(e4_==(0:Int))then(some e2_)else some e5_)else some e5_)else none)else none)else none
theorem aX0(x:DenS Ka):run (cf [] []) 9 217 Tryz.f217 Ka Kz x=aKh x.1 x.2.1:=by kernel_rfl
def aA0(x:DenS Ka):Option (DenS Kz):=aKh x.1 x.2.1
def Rw:Sum:=Ak Ka Kz aA0 (DenS.dflt Kz)
theorem zA:Sound Tryz.prog G1 217 Rw:=sd (cf [] []) 217 Tryz.f217 trivial trivial Ka Kz aA0 _ (fun _=>aX0 ..)
abbrev nP:=Ae Ka
abbrev o7:=Ad Ka Kz
variable (p405:nP)(f405:o7)
abbrev Nv:Aa:=[(false,.int .i64),(false,.int .i64),(false,.int .u64),(false,.bool)]
abbrev KA:Aa:=[(false,.int .u64),(false,.int .i64),(false,.int .i64)]
def aKi(p403:cF)(f403:dB)(p65:Dx)(f65:Dy)(p70:De)(f70:Df)(p404:nO)(f404:o0)(p405:nP)(f405:o7)(p122:Gx)(f122:GB)(a0 a1:Ab (.int .i64))(a2:Ab (.int .u64))(a3:Ab (.bool)):Option (DenS KA):=let e7_:=(a0,a1,(f404 (a0,a2,())).1.1,((0:Int),(f405 (a1,(f404 (a0,a2,())))).1,()),(0:Int),false,());let e6_:=(f122 e7_);let e1_:=(e6_.1,(16:Int),e6_.2.2);let e2_:=(e6_.1,(0:Int),e6_.2.2);let e3_:=(p122 e7_);let e4_:=(decide ((f404 (a0,a2,())).1.2.2.1>=(0:Int)));let e5_:=((f405 (a1,(f404 (a0,a2,())))).2.1&&a3);let g1_:Option (DenS KA):=bif(p404 (a0,a2,()))then(bif e4_ then(some (a2,(0:Int),(0:Int),()))else bif(p405 (a1,(f404 (a0,a2,()))))then(bif e5_ then(bif e3_ then(some e1_)else none)else bif e3_ then(some e2_)else none)else none)else none;bif(p403 (a0,a1,()))then(bif((f403 (a0,a1,())).1 !=(0:Int))then(some ((0:Int),(0:Int),(f403 (a0,a1,()))))else bif(p65 (a0,a2,()))then(bif((f65 (a0,a2,())).2.1 !=(0:Int))then(some ((0:Int),(0:Int),(f65 (a0,a2,())).2))else bif(p70 (a0,()))then(bif((f65 (a0,a2,())).1==(0:Int))then(some ((f70 (a0,())).1,(1:Int),(0:Int),()))else bif((f65 (a0,a2,())).1==(1:Int))then(some ((f70 (a0,())).1,(0:Int),(0:Int),()))else bif((f65 (a0,a2,())).1==(2:Int))then(bif((f65 (a0,a2,())).1==(2:Int))then(some (a2,(0:Int),(0:Int),()))else g1_)else bif((f65 (a0,a2,())).1==(9:Int))then(bif((f65 (a0,a2,())).1==(9:Int))then(some (a2,(0:Int),(0:Int),()))else g1_)else bif((f65 (a0,a2,())).1==(5:Int))then(bif((f65 (a0,a2,())).1==(5:Int))then(some (a2,(0:Int),(0:Int),()))else g1_)else bif((f65 (a0,a2,())).1==(6:Int))then(some (a2,(0:Int),(0:Int),()))else g1_)else none)else none)else none
theorem aX1(x:DenS Nv):run (cf [(215,⟨Io,IN,p403,f403⟩),(59,⟨Dr,Ds,p65,f65⟩),(61,⟨Da,Db,p70,f70⟩),(216,⟨J9,Ky,p404,f404⟩),(217,⟨Ka,Kz,p405,f405⟩),(104,⟨EC,EY,p122,f122⟩)] []) 9 170 Tryz.f170 Nv KA x=aKi p403 f403 p65 f65 p70 f70 p404 f404 p405 f405 p122 f122 x.1 x.2.1 x.2.2.1 x.2.2.2.1:=by kernel_rfl
def aA1(x:DenS Nv):Option (DenS KA):=aKi Jc.pre Jc.F AY.pre AY.F AR.pre AR.F Rv.pre Rv.F Rw.pre Rw.F BP.pre BP.F x.1 x.2.1 x.2.2.1 x.2.2.2.1
def aB:Sum:=Ak Nv KA aA1 (DenS.dflt KA)
theorem aNV:Sound Tryz.prog G1 170 aB:=sd (cf [(215,Jc),(59,AY),(61,AR),(216,Rv),(217,Rw),(104,BP)] []) 170 Tryz.f170 ⟨lZ,HA,FK,yZ,zA,SU,trivial⟩ trivial Nv KA aA1 _ (fun _=>aX1 ..)
abbrev aCS:=Ae Nv
abbrev aEm:=Ad Nv KA
variable (p406:aCS)(f406:aEm)
abbrev Nw:Aa:=[(true,.pair (.int .i64) (.pair (.int .i64) (.pair (.int .u64) (.pair (.int .u64) (.pair (.int .u64) (.unit))))))]
abbrev Pe:Aa:=[(false,.int .u64),(false,.int .i64),(false,.int .i64)]
def aKj(p406:aCS)(f406:aEm)(a0:Ab (.pair (.int .i64) (.pair (.int .i64) (.pair (.int .u64) (.pair (.int .u64) (.pair (.int .u64) (.unit))))))):Option (DenS Pe):=bif(p406 (a0.2.1,a0.1,a0.2.2.1,true,()))then(some (f406 (a0.2.1,a0.1,a0.2.2.1,true,())))else none
theorem aX2(x:DenS Nw):run (cf [(170,⟨Nv,KA,p406,f406⟩)] []) 9 169 Tryz.f169 Nw Pe x=aKj p406 f406 x.1:=by kernel_rfl
def aA2(x:DenS Nw):Option (DenS Pe):=aKj aB.pre aB.F x.1
def Vu:Sum:=Ak Nw Pe aA2 (DenS.dflt Pe)
theorem zB:Sound Tryz.prog G1 169 Vu:=sd (cf [(170,aB)] []) 169 Tryz.f169 ⟨aNV,trivial⟩ trivial Nw Pe aA2 _ (fun _=>aX2 ..)
abbrev nQ:=Ae Nw
abbrev o8:=Ad Nw Pe
variable (p407:nQ)(f407:o8)
abbrev Nl:Aa:=[(false,.slice (.int .i64)),(false,.slice (.int .i64)),(false,.int .u64)]
abbrev O6:Aa:=[(false,.int .i64)]
abbrev Gs:Pat:=⟨46,[(14,.one (.v .i64)),(13,.one (.sl (.int .i64))),(15,.one (.v .i64)),(1,.one (.sl (.int .i64))),(0,.one (.sl (.int .i64))),(2,.one (.v .u64))],[]⟩
abbrev Vh:List (Nat×Shape):=[]
abbrev Jp:List (Nat×Pat):=[(0,⟨46,[(1,.one (.sl (.int .i64))),(0,.one (.sl (.int .i64))),(2,.one (.v .u64))],[]⟩)]
abbrev I5:Option Pat:=(some ⟨46,[(6,.one (.v .i64))],[]⟩)
abbrev Gt:Pat:=⟨46,[(29,.one (.v .i64)),(28,.one (.sl (.int .i64))),(30,.one (.v .i64)),(0,.one (.sl (.int .i64))),(2,.one (.v .u64))],[]⟩
abbrev Vi:List (Nat×Shape):=[]
abbrev Jq:List (Nat×Pat):=[(2,⟨46,[(0,.one (.sl (.int .i64))),(2,.one (.v .u64))],[]⟩)]
abbrev I6:Option Pat:=(some ⟨46,[(6,.one (.v .i64))],[]⟩)
variable (w391_2:Pat.D Gs->Option (Ah Jp I5))(w391_9:Pat.D Gt->Option (Ah Jq I6))
def X9(p69:Bq)(f69:Br)(p66:BL)(f66:BM){R:Type}(L:Pat.D Gt->Option R)(e:Ah Jq I6->Option R)(x:Pat.D Gt):Option R:=let e1_:=(x.1.2.1.getD (ai x.1.2.2.1) (0:Int));bif(decide (x.1.2.2.1<x.1.1))then(bif((decide ((0:Int)<=x.1.2.2.1))&&(decide (x.1.2.2.1<(x.1.2.1.length:Int))))then(bif((decide (e1_<(0:Int)))||(decide (e1_>(5:Int))))then(((e (.inr (((3:Int),()),())))))else(L ((x.1.1,x.1.2.1,(aa .i64 (x.1.2.2.1+(1:Int))),x.1.2.2.2),())))else none)else(e (.inl (x.1.2.2.2,())))
theorem bAc(d:Nat)(R:Type)(L:Pat.D Gt->Option R)(e:Ah Jq I6->Option R)(x:Pat.D Gt):
  Bv (cf [(71,⟨BJ,BK,p69,f69⟩),(85,⟨B7,B8,p66,f66⟩)] [(218,2,LoopSpec.of Gs Vh Jp I5 w391_2),(218,9,LoopSpec.of Gt Vi Jq I6 w391_9)]) (d+2) 218 (Bs Tryz.f218 9) Gt Vi Jq I6 (R:=R) L e x=X9 p69 f69 p66 f66 L e x:=by kernel_rfl
theorem aUd(p69:Bq)(f69:Br)(p66:BL)(f66:BM):Bm fun L e x=>X9 p69 f69 p66 f66 L e x:=by intro _ _ _ _ _ _ _ h0 hL he _;unfold X9;repeat' (first|exact h0|exact hL _|exact he _|apply BG|(apply BH h0;intro _)|(apply BI<;>intro _))
def X8(p69:Bq)(f69:Br)(p66:BL)(f66:BM){R:Type}(L:Pat.D Gs->Option R)(e:Ah Jp I5->Option R)(x:Pat.D Gs):Option R:=let e2_:=((x.1.2.1.getD (ai x.1.2.2.1) (0:Int)),());let e1_:=(f69 e2_);bif(decide (x.1.2.2.1<x.1.1))then(bif((decide ((0:Int)<=x.1.2.2.1))&&(decide (x.1.2.2.1<(x.1.2.1.length:Int))))then(bif(p69 e2_)then(bif(e1_.2.1 !=(0:Int))then(((e (.inr (e1_.2,())))))else(L ((x.1.1,x.1.2.1,(aa .i64 (x.1.2.2.1+(1:Int))),x.1.2.2.2),())))else none)else none)else(e (.inl (x.1.2.2.2,())))
theorem bAb(d:Nat)(R:Type)(L:Pat.D Gs->Option R)(e:Ah Jp I5->Option R)(x:Pat.D Gs):
  Bv (cf [(71,⟨BJ,BK,p69,f69⟩),(85,⟨B7,B8,p66,f66⟩)] [(218,2,LoopSpec.of Gs Vh Jp I5 w391_2),(218,9,LoopSpec.of Gt Vi Jq I6 w391_9)]) (d+2) 218 (Bs Tryz.f218 2) Gs Vh Jp I5 (R:=R) L e x=X8 p69 f69 p66 f66 L e x:=by kernel_rfl
theorem aUc(p69:Bq)(f69:Br)(p66:BL)(f66:BM):Bm fun L e x=>X8 p69 f69 p66 f66 L e x:=by intro _ _ _ _ _ _ _ h0 hL he _;unfold X8;repeat' (first|exact h0|exact hL _|exact he _|apply BG|(apply BH h0;intro _)|(apply BI<;>intro _))
def aJ5(p69:Bq)(f69:Br)(p66:BL)(f66:BM)(w391_2:Pat.D Gs->Option (Ah Jp I5))(w391_9:Pat.D Gt->Option (Ah Jq I6))(a0 a1:Ab (.slice (.int .i64)))(a2:Ab (.int .u64)):Option (DenS O6):=
 Vx.Ba (w391_2 (((a0.length:Int),a0,(0:Int),a1,a0,a2,()),())) fun y0=>
 Vx.A7 y0 (fun y1=>
 Vx.Ba (w391_9 (((y1.1.1.length:Int),y1.1.1,(0:Int),y1.1.2),())) fun y2=>
 Vx.A7 y2 (fun y3=>
 bif(decide ((0:Int)<(y3.1.1.length:Int)))then(bif(p66 ((y3.1.1.getD (ai (0:Int)) (0:Int)),y3.1.2))then(some (f66 ((y3.1.1.getD (ai (0:Int)) (0:Int)),y3.1.2)))
 else none)
 else none) (fun z3=>
 some z3.1)) (fun z1=>
 some z1.1)
theorem aXM(x:DenS Nl):run (cf [(71,⟨BJ,BK,p69,f69⟩),(85,⟨B7,B8,p66,f66⟩)] [(218,2,LoopSpec.of Gs Vh Jp I5 w391_2),(218,9,LoopSpec.of Gt Vi Jq I6 w391_9)]) 9 218 Tryz.f218 Nl O6 x=aJ5 p69 f69 p66 f66 w391_2 w391_9 x.1 x.2.1 x.2.2.1:=by kernel_rfl
def aBX:Gt.D->Option (Ah Jq I6):=Bg fun L=>X9 An.pre An.F Aq.pre Aq.F L some
def aBW:Gs.D->Option (Ah Jp I5):=Bg fun L=>X8 An.pre An.F Aq.pre Aq.F L some
def aAO(x:DenS Nl):Option (DenS O6):=aJ5 An.pre An.F Aq.pre Aq.F aBW aBX x.1 x.2.1 x.2.2.1
def Z4:Sum:=Ak Nl O6 aAO (DenS.dflt O6)
theorem aNO:Sound Tryz.prog G1 218 Z4:=sd (cf [(71,An),(85,Aq)] [(218,2,LoopSpec.of Gs Vh Jp I5 aBW),(218,9,LoopSpec.of Gt Vi Jq I6 aBX)]) 218 Tryz.f218 ⟨Dk,E9,trivial⟩ ⟨rfl,fun d=>BE (fun L e x=>X8 An.pre An.F Aq.pre Aq.F L e x) (aUc An.pre An.F Aq.pre Aq.F) (fun _ _ _ _=>bAb ..),⟨rfl,fun d=>BE (fun L e x=>X9 An.pre An.F Aq.pre Aq.F L e x) (aUd An.pre An.F Aq.pre Aq.F) (fun _ _ _ _=>bAc ..),trivial⟩⟩ Nl O6 aAO _ (fun _=>aXM ..)
abbrev aCL:=Ae Nl
abbrev aEf:=Ad Nl O6
variable (p391:aCL)(f391:aEf)
abbrev Nm:Aa:=[(false,.int .i64),(false,.int .i64),(false,.int .i64),(false,.int .u64)]
abbrev E1:Aa:=[(false,.int .u64),(false,.int .i64)]
def aJ6(p65:Dx)(f65:Dy)(p98:Jt)(f98:Jw)(p70:De)(f70:Df)(p97:LO)(f97:LR)(p118:HD)(f118:HG)(p40:QM)(f40:QP)(p51:cM)(f51:dH)(a0 a1 a2:Ab (.int .i64))(a3:Ab (.int .u64)):Option (DenS E1):=let e5_:=(f51 (a1,a2,(f40 (a0,a3,())).1,()));let e1_:=(e5_.1,e5_.2.1,());let e2_:=((f118 (a1,(f98 (a0,a3,())).1,())).1,(0:Int),());let e3_:=((f97 (a1,(f98 (a0,a3,())).1,())).1,(0:Int),());let e4_:=(p51 (a1,a2,(f40 (a0,a3,())).1,()));let g6_:Option (DenS E1):=bif(p97 (a1,(f98 (a0,a3,())).1,()))then(some e3_)else none;let g5_:Option (DenS E1):=bif(p118 (a1,(f98 (a0,a3,())).1,()))then(some e2_)else none;let g4_:Option (DenS E1):=bif(p40 (a0,a3,()))then(bif e4_ then(some e1_)else none)else none;let g2_:Option (DenS E1):=bif((f65 (a0,a3,())).1==(6:Int))then(bif((f65 (a0,a3,())).1==(6:Int))then(g5_)else g4_)else bif((f65 (a0,a3,())).1==(5:Int))then(g5_)else g4_;let g1_:Option (DenS E1):=bif((f65 (a0,a3,())).1==(9:Int))then(bif((f65 (a0,a3,())).1==(9:Int))then(g6_)else g2_)else bif((f65 (a0,a3,())).1==(2:Int))then(g6_)else g2_;let g3_:Option (DenS E1):=bif(p70 (a1,()))then(bif((f65 (a0,a3,())).1==(0:Int))then(some ((f70 (a1,())).1,(1:Int),()))else some ((f70 (a1,())).1,(0:Int),()))else none;bif(p65 (a0,a3,()))then(bif(p98 (a0,a3,()))then(bif((f65 (a0,a3,())).1==(0:Int))then(bif((f65 (a0,a3,())).1==(0:Int))then(g3_)else g1_)else bif((f65 (a0,a3,())).1==(1:Int))then(g3_)else g1_)else none)else none
theorem aXN(x:DenS Nm):run (cf [(59,⟨Dr,Ds,p65,f65⟩),(91,⟨EQ,E2,p98,f98⟩),(61,⟨Da,Db,p70,f70⟩),(62,⟨Gb,Gm,p97,f97⟩),(64,⟨EB,EX,p118,f118⟩),(203,⟨F7,Gi,p40,f40⟩),(231,⟨Is,IU,p51,f51⟩)] []) 9 219 Tryz.f219 Nm E1 x=aJ6 p65 f65 p98 f98 p70 f70 p97 f97 p118 f118 p40 f40 p51 f51 x.1 x.2.1 x.2.2.1 x.2.2.2.1:=by kernel_rfl
def aAP(x:DenS Nm):Option (DenS E1):=aJ6 AY.pre AY.F BT.pre BT.F AR.pre AR.F CC.pre CC.F Bx.pre Bx.F Dj.pre Dj.F Je.pre Je.F x.1 x.2.1 x.2.2.1 x.2.2.2.1
def Z5:Sum:=Ak Nm E1 aAP (DenS.dflt E1)
theorem aNP:Sound Tryz.prog G1 219 Z5:=sd (cf [(59,AY),(91,BT),(61,AR),(62,CC),(64,Bx),(203,Dj),(231,Je)] []) 219 Tryz.f219 ⟨HA,Rz,FK,VI,SS,Vw,mI,trivial⟩ trivial Nm E1 aAP _ (fun _=>aXN ..)
abbrev aCM:=Ae Nm
abbrev aEg:=Ad Nm E1
variable (p392:aCM)(f392:aEg)
abbrev Nn:Aa:=[(false,.int .i64),(false,.int .i64),(false,.int .i64),(false,.int .u64)]
abbrev O7:Aa:=[(false,.int .u64),(false,.int .i64),(false,.int .i64)]
def aJ7(p391:aCL)(f391:aEf)(p392:aCM)(f392:aEg)(a0 a1 a2:Ab (.int .i64))(a3:Ab (.int .u64)):Option (DenS O7):=let e1_:=(f391 ((a0::(a1::[])),(a2::[]),a3,()));bif(p391 ((a0::(a1::[])),(a2::[]),a3,()))then(bif(e1_.1 !=(0:Int))then(some ((0:Int),(0:Int),e1_))else bif(p392 (a0,a1,a2,a3,()))then(some ((f392 (a0,a1,a2,a3,())).1,(f392 (a0,a1,a2,a3,())).2.1,(0:Int),()))else none)else none
theorem aXO(x:DenS Nn):run (cf [(218,⟨Nl,O6,p391,f391⟩),(219,⟨Nm,E1,p392,f392⟩)] []) 9 172 Tryz.f172 Nn O7 x=aJ7 p391 f391 p392 f392 x.1 x.2.1 x.2.2.1 x.2.2.2.1:=by kernel_rfl
def aAQ(x:DenS Nn):Option (DenS O7):=aJ7 Z4.pre Z4.F Z5.pre Z5.F x.1 x.2.1 x.2.2.1 x.2.2.2.1
def Z6:Sum:=Ak Nn O7 aAQ (DenS.dflt O7)
theorem aNQ:Sound Tryz.prog G1 172 Z6:=sd (cf [(218,Z4),(219,Z5)] []) 172 Tryz.f172 ⟨aNO,aNP,trivial⟩ trivial Nn O7 aAQ _ (fun _=>aXO ..)
abbrev aCN:=Ae Nn
abbrev aEh:=Ad Nn O7
variable (p393:aCN)(f393:aEh)
abbrev Nx:Aa:=[(true,.pair (.int .i64) (.pair (.int .i64) (.pair (.int .u64) (.pair (.int .u64) (.pair (.int .u64) (.unit))))))]
abbrev Pf:Aa:=[(false,.int .u64),(false,.int .i64),(false,.int .i64)]
def aKk(p393:aCN)(f393:aEh)(a0:Ab (.pair (.int .i64) (.pair (.int .i64) (.pair (.int .u64) (.pair (.int .u64) (.pair (.int .u64) (.unit))))))):Option (DenS Pf):=let e1_:=(a0.2.1,(aa .i64 a0.2.2.2.2.1),a0.1,a0.2.2.1,());bif(p393 e1_)then(some (f393 e1_))else none
theorem aX3(x:DenS Nx):run (cf [(172,⟨Nn,O7,p393,f393⟩)] []) 9 171 Tryz.f171 Nx Pf x=aKk p393 f393 x.1:=by kernel_rfl
def aA3(x:DenS Nx):Option (DenS Pf):=aKk Z6.pre Z6.F x.1
def Vv:Sum:=Ak Nx Pf aA3 (DenS.dflt Pf)
theorem zC:Sound Tryz.prog G1 171 Vv:=sd (cf [(172,Z6)] []) 171 Tryz.f171 ⟨aNQ,trivial⟩ trivial Nx Pf aA3 _ (fun _=>aX3 ..)
abbrev nR:=Ae Nx
abbrev o9:=Ad Nx Pf
variable (p408:nR)(f408:o9)
abbrev Ny:Aa:=[(true,.pair (.int .u64) (.pair (.int .u64) (.unit))),(false,.bool)]
abbrev Pg:Aa:=[(false,.int .u64)]
def aKl(a0:Ab (.pair (.int .u64) (.pair (.int .u64) (.unit))))(a1:Ab (.bool)):Option (DenS Pg):=bif a1 then(some ((aa .u64 ((0:Int)-a0.1)),()))else some a0.2
theorem aX4(x:DenS Ny):run (cf [] []) 9 220 Tryz.f220 Ny Pg x=aKl x.1 x.2.1:=by kernel_rfl
def aA4(x:DenS Ny):Option (DenS Pg):=aKl x.1 x.2.1
def aC:Sum:=Ak Ny Pg aA4 (DenS.dflt Pg)
theorem aNW:Sound Tryz.prog G1 220 aC:=sd (cf [] []) 220 Tryz.f220 trivial trivial Ny Pg aA4 _ (fun _=>aX4 ..)
abbrev aCT:=Ae Ny
abbrev aEn:=Ad Ny Pg
variable (p409:aCT)(f409:aEn)
abbrev NA:Aa:=[(false,.int .i64),(false,.int .i64),(false,.int .i64),(false,.int .u64)]
abbrev KB:Aa:=[(false,.int .u64),(false,.int .i64),(false,.int .i64)]
def aKn(p403:cF)(f403:dB)(p65:Dx)(f65:Dy)(p404:nO)(f404:o0)(p405:nP)(f405:o7)(p178:HF)(f178:HI)(p409:aCT)(f409:aEn)(a0 a1 a2:Ab (.int .i64))(a3:Ab (.int .u64)):Option (DenS KB):=let e18_:=(Bb .u64 (f404 (a0,a3,())).1.2.1 (f404 (a0,a3,())).1.2.2.1);let e19_:=(Vx.k_kinds.getD (ai a2) ((0:Int),(0:Int),()));let e1_:=(((!(f404 (a0,a3,())).1.1)&&(decide (e18_>e19_.2.1)))||((f404 (a0,a3,())).1.1&&(decide (e18_>e19_.1))));let e2_:=(((!(f404 (a0,a3,())).1.1)&&(decide ((f405 (a1,(f404 (a0,a3,())))).1>e19_.2.1)))||((f404 (a0,a3,())).1.1&&(decide ((f405 (a1,(f404 (a0,a3,())))).1>e19_.1))));let e3_:=((aa .u64 ((0:Int)-e18_)),(0:Int),(0:Int),());let e4_:=((aa .u64 ((0:Int)-e19_.1)),(1:Int),(0:Int),());let e16_:=(e19_,(f404 (a0,a3,())).1.1,());let e5_:=((f409 e16_).1,(1:Int),(0:Int),());let e6_:=(decide ((aa .i64 ((f178 ((f404 (a0,a3,())).1.2.1,())).1+(f404 (a0,a3,())).1.2.2.1))>(64:Int)));let e17_:=(aa .u64 ((0:Int)-(f405 (a1,(f404 (a0,a3,())))).1));let e7_:=(e17_,(16:Int),(0:Int),());let e8_:=(e17_,(0:Int),(0:Int),());let e9_:=(e18_,(0:Int),(0:Int),());let e10_:=(p409 e16_);let e11_:=(e19_.2.1,(1:Int),(0:Int),());let e12_:=((f405 (a1,(f404 (a0,a3,())))).1,(16:Int),(0:Int),());let e13_:=((f405 (a1,(f404 (a0,a3,())))).1,(0:Int),(0:Int),());let e14_:=(decide ((f404 (a0,a3,())).1.2.2.1<(0:Int)));let e15_:=(decide ((0:Int)<=(f404 (a0,a3,())).1.2.2.1));let g1_:Option (DenS KB):=bif((f65 (a0,a3,())).1==(2:Int))then(some e4_)else bif(p404 (a0,a3,()))then(bif e14_ then(bif(p405 (a1,(f404 (a0,a3,()))))then(bif e2_ then(bif e10_ then(some e5_)else none)else bif(f404 (a0,a3,())).1.1 then(bif(f405 (a1,(f404 (a0,a3,())))).2.1 then(some e7_)else some e8_)else bif(f405 (a1,(f404 (a0,a3,())))).2.1 then(some e12_)else some e13_)else none)else bif(p178 ((f404 (a0,a3,())).1.2.1,()))then(bif e6_ then(bif e10_ then(some e5_)else none)else bif e15_ then(bif e1_ then(bif e10_ then(some e5_)else none)else bif(f404 (a0,a3,())).1.1 then(some e3_)else some e9_)else none)else none)else none;bif(p403 (a0,a1,()))then(bif((f403 (a0,a1,())).1 !=(0:Int))then(some ((0:Int),(0:Int),(f403 (a0,a1,()))))else bif((decide (a2<(0:Int)))||(decide (a2>(3:Int))))then(some ((0:Int),(0:Int),(9:Int),()))else bif(p65 (a0,a3,()))then(bif((f65 (a0,a3,())).2.1 !=(0:Int))then(some ((0:Int),(0:Int),(f65 (a0,a3,())).2))else bif(bif(decide ((0:Int)<=a2))then(decide (a2<((4:Nat):Int)))else false)then(bif((f65 (a0,a3,())).1==(0:Int))then(bif((f65 (a0,a3,())).1==(0:Int))then(some e11_)else g1_)else bif((f65 (a0,a3,())).1==(1:Int))then(bif((f65 (a0,a3,())).1==(1:Int))then(some e11_)else g1_)else bif((f65 (a0,a3,())).1==(9:Int))then(some e11_)else g1_)else none)else none)else none
theorem aX6(x:DenS NA):run (cf [(215,⟨Io,IN,p403,f403⟩),(59,⟨Dr,Ds,p65,f65⟩),(216,⟨J9,Ky,p404,f404⟩),(217,⟨Ka,Kz,p405,f405⟩),(115,⟨Fr,E0,p178,f178⟩),(220,⟨Ny,Pg,p409,f409⟩)] []) 9 174 Tryz.f174 NA KB x=aKn p403 f403 p65 f65 p404 f404 p405 f405 p178 f178 p409 f409 x.1 x.2.1 x.2.2.1 x.2.2.2.1:=by kernel_rfl
def aA7(x:DenS NA):Option (DenS KB):=aKn Jc.pre Jc.F AY.pre AY.F Rv.pre Rv.F Rw.pre Rw.F Cd.pre Cd.F aC.pre aC.F x.1 x.2.1 x.2.2.1 x.2.2.2.1
def aE:Sum:=Ak NA KB aA7 (DenS.dflt KB)
theorem aNX:Sound Tryz.prog G1 174 aE:=sd (cf [(215,Jc),(59,AY),(216,Rv),(217,Rw),(115,Cd),(220,aC)] []) 174 Tryz.f174 ⟨lZ,HA,yZ,zA,Vo,aNW,trivial⟩ trivial NA KB aA7 _ (fun _=>aX6 ..)
abbrev aCV:=Ae NA
abbrev aEp:=Ad NA KB
variable (p410:aCV)(f410:aEp)
abbrev NB:Aa:=[(true,.pair (.int .i64) (.pair (.int .i64) (.pair (.int .u64) (.pair (.int .u64) (.pair (.int .u64) (.unit))))))]
abbrev Pi:Aa:=[(false,.int .u64),(false,.int .i64),(false,.int .i64)]
def aKo(p410:aCV)(f410:aEp)(a0:Ab (.pair (.int .i64) (.pair (.int .i64) (.pair (.int .u64) (.pair (.int .u64) (.pair (.int .u64) (.unit))))))):Option (DenS Pi):=let e1_:=(a0.2.1,a0.1,(aa .i64 a0.2.2.2.2.1),a0.2.2.1,());bif(p410 e1_)then(some (f410 e1_))else none
theorem aX7(x:DenS NB):run (cf [(174,⟨NA,KB,p410,f410⟩)] []) 9 173 Tryz.f173 NB Pi x=aKo p410 f410 x.1:=by kernel_rfl
def aA8(x:DenS NB):Option (DenS Pi):=aKo aE.pre aE.F x.1
def Vy:Sum:=Ak NB Pi aA8 (DenS.dflt Pi)
theorem zD:Sound Tryz.prog G1 173 Vy:=sd (cf [(174,aE)] []) 173 Tryz.f173 ⟨aNX,trivial⟩ trivial NB Pi aA8 _ (fun _=>aX7 ..)
abbrev nS:=Ae NB
abbrev pA:=Ad NB Pi
variable (p411:nS)(f411:pA)
abbrev NC:Aa:=[(false,.int .i64),(false,.int .i64),(false,.int .i64),(false,.int .u64)]
abbrev Pj:Aa:=[(false,.int .u64),(false,.int .i64),(false,.int .i64)]
def aKp(p403:cF)(f403:dB)(p122:Gx)(f122:GB)(a0 a1 a2:Ab (.int .i64))(a3:Ab (.int .u64)):Option (DenS Pj):=let e8_:=(Vx.k_kinds.getD (ai a2) ((0:Int),(0:Int),()));let e7_:=((decide (e8_.1>(0:Int)))&&((AL .u64 a3 (63:Int))==(1:Int)));let e9_:=(aa .u64 ((0:Int)-a3));let e1_:=(a0,a1,e7_,((0:Int),e9_,()),(0:Int),false,());let e2_:=(a0,a1,e7_,((0:Int),a3,()),(0:Int),false,());let e3_:=(!e7_);let e4_:=e7_;let e5_:=e8_;let e6_:=e9_;bif(p403 (a0,a1,()))then(bif((f403 (a0,a1,())).1 !=(0:Int))then(some ((0:Int),(0:Int),(f403 (a0,a1,()))))else bif((decide (a2<(0:Int)))||(decide (a2>(3:Int))))then(some ((0:Int),(0:Int),(9:Int),()))else bif(bif(decide ((0:Int)<=a2))then(decide (a2<((4:Nat):Int)))else false)then(bif e4_ then(bif((e3_&&(decide (e6_>e5_.2.1)))||(e4_&&(decide (e6_>e5_.1))))then(some ((0:Int),(0:Int),(7:Int),()))else bif(p122 e1_)then(some (f122 e1_))else none)else bif((e3_&&(decide (a3>e5_.2.1)))||(e4_&&(decide (a3>e5_.1))))then(some ((0:Int),(0:Int),(7:Int),()))else bif(p122 e2_)then(some (f122 e2_))else none)else none)else none
theorem aX8(x:DenS NC):run (cf [(215,⟨Io,IN,p403,f403⟩),(104,⟨EC,EY,p122,f122⟩)] []) 9 176 Tryz.f176 NC Pj x=aKp p403 f403 p122 f122 x.1 x.2.1 x.2.2.1 x.2.2.2.1:=by kernel_rfl
def aA9(x:DenS NC):Option (DenS Pj):=aKp Jc.pre Jc.F BP.pre BP.F x.1 x.2.1 x.2.2.1 x.2.2.2.1
def aF:Sum:=Ak NC Pj aA9 (DenS.dflt Pj)
theorem aNY:Sound Tryz.prog G1 176 aF:=sd (cf [(215,Jc),(104,BP)] []) 176 Tryz.f176 ⟨lZ,SU,trivial⟩ trivial NC Pj aA9 _ (fun _=>aX8 ..)
abbrev aCW:=Ae NC
abbrev aEq:=Ad NC Pj
variable (p412:aCW)(f412:aEq)
abbrev ND:Aa:=[(true,.pair (.int .i64) (.pair (.int .i64) (.pair (.int .u64) (.pair (.int .u64) (.pair (.int .u64) (.unit))))))]
abbrev Pk:Aa:=[(false,.int .u64),(false,.int .i64),(false,.int .i64)]
def aKq(p412:aCW)(f412:aEq)(a0:Ab (.pair (.int .i64) (.pair (.int .i64) (.pair (.int .u64) (.pair (.int .u64) (.pair (.int .u64) (.unit))))))):Option (DenS Pk):=let e1_:=(a0.2.1,a0.1,(aa .i64 a0.2.2.2.2.1),a0.2.2.1,());bif(p412 e1_)then(some (f412 e1_))else none
theorem aX9(x:DenS ND):run (cf [(176,⟨NC,Pj,p412,f412⟩)] []) 9 175 Tryz.f175 ND Pk x=aKq p412 f412 x.1:=by kernel_rfl
def aBa(x:DenS ND):Option (DenS Pk):=aKq aF.pre aF.F x.1
def Vz:Sum:=Ak ND Pk aBa (DenS.dflt Pk)
theorem zE:Sound Tryz.prog G1 175 Vz:=sd (cf [(176,aF)] []) 175 Tryz.f175 ⟨aNY,trivial⟩ trivial ND Pk aBa _ (fun _=>aX9 ..)
abbrev nT:=Ae ND
abbrev pB:=Ad ND Pk
variable (p413:nT)(f413:pB)
abbrev JZ:Aa:=[(false,.int .i64),(false,.int .u64)]
abbrev Kk:Aa:=[(false,.int .u64),(false,.int .i64)]
def aJE(p66:BL)(f66:BM)(p115:W5)(f115:Xe)(a0:Ab (.int .i64))(a1:Ab (.int .u64)):Option (DenS Kk):=bif(p66 (a0,a1,()))then(bif((f66 (a0,a1,())).1 !=(0:Int))then(some ((0:Int),(f66 (a0,a1,()))))else bif(p115 (a0,()))then(some ((Xt .u64 a1 (f115 (a0,())).1),(0:Int),()))else none)else none
theorem aWw(x:DenS JZ):run (cf [(85,⟨B7,B8,p66,f66⟩),(233,⟨Ia,IB,p115,f115⟩)] []) 9 188 Tryz.f188 JZ Kk x=aJE p66 f66 p115 f115 x.1 x.2.1:=by kernel_rfl
def aAc(x:DenS JZ):Option (DenS Kk):=aJE Aq.pre Aq.F E6.pre E6.F x.1 x.2.1
def I9:Sum:=Ak JZ Kk aAc (DenS.dflt Kk)
theorem lR:Sound Tryz.prog G1 188 I9:=sd (cf [(85,Aq),(233,E6)] []) 188 Tryz.f188 ⟨E9,lS,trivial⟩ trivial JZ Kk aAc _ (fun _=>aWw ..)
abbrev bT:=Ae JZ
abbrev cP:=Ad JZ Kk
variable (p112:bT)(f112:cP)
abbrev Iv:Aa:=[(false,.int .i64),(false,.int .u64)]
abbrev IY:Aa:=[(true,.pair (.int .i64) (.pair (.int .i64) (.unit))),(false,.int .i64)]
def t82(p65:Dx)(f65:Dy)(p112:bT)(f112:cP)(a0:Ab (.int .i64))(a1:Ab (.int .u64)):Option (DenS IY):=let e1_:=(aa .i64 (f112 (a0,a1,())).1);bif(p65 (a0,a1,()))then(bif((f65 (a0,a1,())).2.1 !=(0:Int))then(some (((0:Int),(0:Int),()),(f65 (a0,a1,())).2))else bif(p112 (a0,a1,()))then(bif((f112 (a0,a1,())).1 !=a1)then(some (((f65 (a0,a1,())).1,(aa .i64 ((0:Int)-e1_)),()),(0:Int),()))else some (((f65 (a0,a1,())).1,e1_,()),(0:Int),()))else none)else none
theorem r82(x:DenS Iv):run (cf [(59,⟨Dr,Ds,p65,f65⟩),(188,⟨JZ,Kk,p112,f112⟩)] []) 9 228 Tryz.f228 Iv IY x=t82 p65 f65 p112 f112 x.1 x.2.1:=by kernel_rfl
def T82(x:DenS Iv):Option (DenS IY):=t82 AY.pre AY.F I9.pre I9.F x.1 x.2.1
def Jg:Sum:=Ak Iv IY T82 (DenS.dflt IY)
theorem mK:Sound Tryz.prog G1 228 Jg:=sd (cf [(59,AY),(188,I9)] []) 228 Tryz.f228 ⟨HA,lR,trivial⟩ trivial Iv IY T82 _ (fun _=>r82 ..)
abbrev Xa:=Ae Iv
abbrev Xj:=Ad Iv IY
variable (p82:Xa)(f82:Xj)
abbrev F8:Aa:=[(true,.pair (.int .i64) (.pair (.int .i64) (.unit)))]
abbrev Gj:Aa:=[(false,.bool)]
def t53(a0:Ab (.pair (.int .i64) (.pair (.int .i64) (.unit)))):Option (DenS Gj):=some (((a0.1==(1:Int))||(a0.1==(0:Int))),())
theorem r53(x:DenS F8):run (cf [] []) 9 229 Tryz.f229 F8 Gj x=t53 x.1:=by kernel_rfl
def T53(x:DenS F8):Option (DenS Gj):=t53 x.1
def El:Sum:=Ak F8 Gj T53 (DenS.dflt Gj)
theorem VG:Sound Tryz.prog G1 229 El:=sd (cf [] []) 229 Tryz.f229 trivial trivial F8 Gj T53 _ (fun _=>r53 ..)
abbrev RQ:=Ae F8
abbrev RY:=Ad F8 Gj
variable (p53:RQ)(f53:RY)
abbrev F9:Aa:=[(true,.pair (.int .i64) (.pair (.int .i64) (.unit))),(true,.pair (.int .i64) (.pair (.int .i64) (.unit)))]
abbrev Gk:Aa:=[(false,.int .i64)]
def t54(a0 a1:Ab (.pair (.int .i64) (.pair (.int .i64) (.unit)))):Option (DenS Gk):=bif((a0.1==(0:Int))||(a1.1==(0:Int)))then(some ((1:Int),()))else some ((0:Int),())
theorem r54(x:DenS F9):run (cf [] []) 9 230 Tryz.f230 F9 Gk x=t54 x.1 x.2.1:=by kernel_rfl
def T54(x:DenS F9):Option (DenS Gk):=t54 x.1 x.2.1
def Em:Sum:=Ak F9 Gk T54 (DenS.dflt Gk)
theorem VH:Sound Tryz.prog G1 230 Em:=sd (cf [] []) 230 Tryz.f230 trivial trivial F9 Gk T54 _ (fun _=>r54 ..)
abbrev RR:=Ae F9
abbrev RZ:=Ad F9 Gk
variable (p54:RR)(f54:RZ)
abbrev Ol:Aa:=[(false,.int .i64),(false,.int .u64),(false,.int .i64)]
abbrev P2:Aa:=[(false,.int .u64),(false,.int .i64),(false,.int .i64)]
def t93(p82:Xa)(f82:Xj)(p53:RQ)(f53:RY)(p70:De)(f70:Df)(p54:RR)(f54:RZ)(p64:TA)(f64:TI)(a0:Ab (.int .i64))(a1:Ab (.int .u64))(a2:Ab (.int .i64)):Option (DenS P2):=let e4_:=(aa .i64 ((f82 (a0,a1,())).1.2.1+a2));let e1_:=(f64 (a0,(aa .u64 (aa .i64 ((0:Int)-e4_))),()));let e2_:=e4_;let e3_:=((f82 (a0,a1,())).1,(f82 (a0,a1,())).1,());bif(p82 (a0,a1,()))then(bif((f82 (a0,a1,())).2.1 !=(0:Int))then(some ((0:Int),(0:Int),(f82 (a0,a1,())).2))else bif(p53 ((f82 (a0,a1,())).1,()))then(bif(f53 ((f82 (a0,a1,())).1,())).1 then(bif(p70 (a0,()))then(bif(p54 e3_)then(some ((f70 (a0,())).1,(f54 e3_).1,(0:Int),()))else none)else none)else bif((((f82 (a0,a1,())).1.1==(9:Int))&&(decide (a2>(0:Int))))||(((f82 (a0,a1,())).1.1==(2:Int))&&(decide (a2<(0:Int)))))then(some (a1,(0:Int),(0:Int),()))else bif((decide (e2_>(0:Int)))||((e2_==(0:Int))&&(decide (a2<(0:Int)))))then(some ((aa .u64 e2_),(0:Int),(0:Int),()))else bif(p64 (a0,(aa .u64 (aa .i64 ((0:Int)-e2_))),()))then(some (e1_.1,(0:Int),e1_.2))else none)else none)else none
theorem r93(x:DenS Ol):run (cf [(228,⟨Iv,IY,p82,f82⟩),(229,⟨F8,Gj,p53,f53⟩),(61,⟨Da,Db,p70,f70⟩),(230,⟨F9,Gk,p54,f54⟩),(187,⟨Iu,IW,p64,f64⟩)] []) 9 227 Tryz.f227 Ol P2 x=t93 p82 f82 p53 f53 p70 f70 p54 f54 p64 f64 x.1 x.2.1 x.2.2.1:=by kernel_rfl
def T93(x:DenS Ol):Option (DenS P2):=t93 Jg.pre Jg.F El.pre El.F AR.pre AR.F Em.pre Em.F EG.pre EG.F x.1 x.2.1 x.2.2.1
def aT:Sum:=Ak Ol P2 T93 (DenS.dflt P2)
theorem aOx:Sound Tryz.prog G1 227 aT:=sd (cf [(228,Jg),(229,El),(61,AR),(230,Em),(187,EG)] []) 227 Tryz.f227 ⟨mK,VG,FK,VH,aS,trivial⟩ trivial Ol P2 T93 _ (fun _=>r93 ..)
abbrev Y93:=Ae Ol
abbrev Z93:=Ad Ol P2
variable (p93:Y93)(f93:Z93)
abbrev Nz:Aa:=[(false,.int .i64),(false,.int .u64)]
abbrev Ph:Aa:=[(false,.int .u64),(false,.int .i64),(false,.int .i64)]
def t41(p93:Y93)(f93:Z93)(a0:Ab (.int .i64))(a1:Ab (.int .u64)):Option (DenS Ph):=bif(p93 (a0,a1,(1:Int),()))then(some (f93 (a0,a1,(1:Int),())))else none
theorem r41(x:DenS Nz):run (cf [(227,⟨Ol,P2,p93,f93⟩)] []) 9 182 Tryz.f182 Nz Ph x=t41 p93 f93 x.1 x.2.1:=by kernel_rfl
def T41(x:DenS Nz):Option (DenS Ph):=t41 aT.pre aT.F x.1 x.2.1
def aD:Sum:=Ak Nz Ph T41 (DenS.dflt Ph)
theorem aN1:Sound Tryz.prog G1 182 aD:=sd (cf [(227,aT)] []) 182 Tryz.f182 ⟨aOx,trivial⟩ trivial Nz Ph T41 _ (fun _=>r41 ..)
abbrev Y41:=Ae Nz
abbrev Z41:=Ad Nz Ph
variable (p41:Y41)(f41:Z41)
abbrev NE:Aa:=[(true,.pair (.int .i64) (.pair (.int .i64) (.pair (.int .u64) (.pair (.int .u64) (.pair (.int .u64) (.unit))))))]
abbrev Pl:Aa:=[(false,.int .u64),(false,.int .i64),(false,.int .i64)]
def aKr(p41:Y41)(f41:Z41)(a0:Ab (.pair (.int .i64) (.pair (.int .i64) (.pair (.int .u64) (.pair (.int .u64) (.pair (.int .u64) (.unit))))))):Option (DenS Pl):=bif(p41 (a0.2.1,a0.2.2.1,()))then(some (f41 (a0.2.1,a0.2.2.1,())))else none
theorem aYa(x:DenS NE):run (cf [(182,⟨Nz,Ph,p41,f41⟩)] []) 9 181 Tryz.f181 NE Pl x=aKr p41 f41 x.1:=by kernel_rfl
def aBb(x:DenS NE):Option (DenS Pl):=aKr aD.pre aD.F x.1
def VA:Sum:=Ak NE Pl aBb (DenS.dflt Pl)
theorem zF:Sound Tryz.prog G1 181 VA:=sd (cf [(182,aD)] []) 181 Tryz.f181 ⟨aN1,trivial⟩ trivial NE Pl aBb _ (fun _=>aYa ..)
abbrev nU:=Ae NE
abbrev pC:=Ad NE Pl
variable (p414:nU)(f414:pC)
abbrev Ni:Aa:=[(false,.int .i64),(false,.int .i64),(false,.int .u64),(false,.int .i64)]
abbrev Ku:Aa:=[(false,.int .u64),(false,.int .i64),(false,.int .i64)]
def t38(p69:Bq)(f69:Br)(p82:Xa)(f82:Xj)(p53:RQ)(f53:RY)(p70:De)(f70:Df)(p54:RR)(f54:RZ)(p40:QM)(f40:QP)(p51:cM)(f51:dH)(a0 a1:Ab (.int .i64))(a2:Ab (.int .u64))(a3:Ab (.int .i64)):Option (DenS Ku):=let e3_:=(if((10000:Int)<a3)then(10000:Int)else a3);let e1_:=(a0,a1,((f40 (a0,a2,())).1.1,(f40 (a0,a2,())).1.2.1,(aa .i64 ((f40 (a0,a2,())).1.2.2.1+(if(e3_>(-(10000:Int)))then e3_ else(-(10000:Int))))),()),());let e2_:=((f82 (a0,a2,())).1,(f82 (a0,a2,())).1,());bif(p69 (a0,()))then(bif((f69 (a0,())).2.1 !=(0:Int))then(some ((0:Int),(0:Int),(f69 (a0,())).2))else bif((decide (a1<(0:Int)))||(decide (a1>(5:Int))))then(some ((0:Int),(0:Int),(3:Int),()))else bif(p82 (a0,a2,()))then(bif((f82 (a0,a2,())).2.1 !=(0:Int))then(some ((0:Int),(0:Int),(f82 (a0,a2,())).2))else bif(p53 ((f82 (a0,a2,())).1,()))then(bif(f53 ((f82 (a0,a2,())).1,())).1 then(bif(p70 (a0,()))then(bif(p54 e2_)then(some ((f70 (a0,())).1,(f54 e2_).1,(0:Int),()))else none)else none)else bif(p40 (a0,a2,()))then(bif(((f40 (a0,a2,())).2.1 !=(0:Int))||((f82 (a0,a2,())).1.2.1==(0:Int)))then(some (a2,(0:Int),(0:Int),()))else bif(p51 e1_)then(some (f51 e1_))else none)else none)else none)else none)else none
theorem r38(x:DenS Ni):run (cf [(71,⟨BJ,BK,p69,f69⟩),(228,⟨Iv,IY,p82,f82⟩),(229,⟨F8,Gj,p53,f53⟩),(61,⟨Da,Db,p70,f70⟩),(230,⟨F9,Gk,p54,f54⟩),(203,⟨F7,Gi,p40,f40⟩),(231,⟨Is,IU,p51,f51⟩)] []) 9 184 Tryz.f184 Ni Ku x=t38 p69 f69 p82 f82 p53 f53 p70 f70 p54 f54 p40 f40 p51 f51 x.1 x.2.1 x.2.2.1 x.2.2.2.1:=by kernel_rfl
def T38(x:DenS Ni):Option (DenS Ku):=t38 An.pre An.F Jg.pre Jg.F El.pre El.F AR.pre AR.F Em.pre Em.F Dj.pre Dj.F Je.pre Je.F x.1 x.2.1 x.2.2.1 x.2.2.2.1
def Z3:Sum:=Ak Ni Ku T38 (DenS.dflt Ku)
theorem aNN:Sound Tryz.prog G1 184 Z3:=sd (cf [(71,An),(228,Jg),(229,El),(61,AR),(230,Em),(203,Dj),(231,Je)] []) 184 Tryz.f184 ⟨Dk,mK,VG,FK,VH,Vw,mI,trivial⟩ trivial Ni Ku T38 _ (fun _=>r38 ..)
abbrev Y38:=Ae Ni
abbrev Z38:=Ad Ni Ku
variable (p38:Y38)(f38:Z38)
abbrev NF:Aa:=[(true,.pair (.int .i64) (.pair (.int .i64) (.pair (.int .u64) (.pair (.int .u64) (.pair (.int .u64) (.unit))))))]
abbrev Pm:Aa:=[(false,.int .u64),(false,.int .i64),(false,.int .i64)]
def aKs(p38:Y38)(f38:Z38)(a0:Ab (.pair (.int .i64) (.pair (.int .i64) (.pair (.int .u64) (.pair (.int .u64) (.pair (.int .u64) (.unit))))))):Option (DenS Pm):=let e1_:=(a0.2.1,a0.1,a0.2.2.1,(aa .i64 a0.2.2.2.1),());bif(p38 e1_)then(some (f38 e1_))else none
theorem aYb(x:DenS NF):run (cf [(184,⟨Ni,Ku,p38,f38⟩)] []) 9 183 Tryz.f183 NF Pm x=aKs p38 f38 x.1:=by kernel_rfl
def aBc(x:DenS NF):Option (DenS Pm):=aKs Z3.pre Z3.F x.1
def VB:Sum:=Ak NF Pm aBc (DenS.dflt Pm)
theorem zG:Sound Tryz.prog G1 183 VB:=sd (cf [(184,Z3)] []) 183 Tryz.f183 ⟨aNN,trivial⟩ trivial NF Pm aBc _ (fun _=>aYb ..)
abbrev nV:=Ae NF
abbrev pD:=Ad NF Pm
variable (p415:nV)(f415:pD)
abbrev NG:Aa:=[(true,.pair (.int .i64) (.pair (.int .i64) (.pair (.int .u64) (.pair (.int .u64) (.pair (.int .u64) (.unit))))))]
abbrev Pn:Aa:=[(false,.int .u64),(false,.int .i64),(false,.int .i64)]
def aKt(p65:Dx)(f65:Dy)(a0:Ab (.pair (.int .i64) (.pair (.int .i64) (.pair (.int .u64) (.pair (.int .u64) (.pair (.int .u64) (.unit))))))):Option (DenS Pn):=bif(p65 (a0.2.1,a0.2.2.1,()))then(some ((aa .u64 (f65 (a0.2.1,a0.2.2.1,())).1),(0:Int),(f65 (a0.2.1,a0.2.2.1,())).2))else none
theorem aYc(x:DenS NG):run (cf [(59,⟨Dr,Ds,p65,f65⟩)] []) 9 185 Tryz.f185 NG Pn x=aKt p65 f65 x.1:=by kernel_rfl
def aBd(x:DenS NG):Option (DenS Pn):=aKt AY.pre AY.F x.1
def VC:Sum:=Ak NG Pn aBd (DenS.dflt Pn)
theorem zH:Sound Tryz.prog G1 185 VC:=sd (cf [(59,AY)] []) 185 Tryz.f185 ⟨HA,trivial⟩ trivial NG Pn aBd _ (fun _=>aYc ..)
abbrev nW:=Ae NG
abbrev pE:=Ad NG Pn
variable (p416:nW)(f416:pE)
abbrev NH:Aa:=[(false,.int .i64),(false,.int .u64),(false,.int .u64)]
abbrev Po:Aa:=[(false,.int .u64),(false,.int .i64)]
def aKu(p66:BL)(f66:BM)(p115:W5)(f115:Xe)(a0:Ab (.int .i64))(a1 a2:Ab (.int .u64)):Option (DenS Po):=bif(p66 (a0,a1,()))then(bif((f66 (a0,a1,())).1 !=(0:Int))then(some ((0:Int),(f66 (a0,a1,()))))else bif(p66 (a0,a2,()))then(bif((f66 (a0,a2,())).1 !=(0:Int))then(some ((0:Int),(f66 (a0,a2,()))))else bif(p115 (a0,()))then(bif(p115 (a0,()))then(some ((Ap .u64 (Xt .u64 a1 (f115 (a0,())).1) (BA .u64 a2 (f115 (a0,())).1)),(0:Int),()))else none)else none)else none)else none
theorem aYd(x:DenS NH):run (cf [(85,⟨B7,B8,p66,f66⟩),(233,⟨Ia,IB,p115,f115⟩)] []) 9 190 Tryz.f190 NH Po x=aKu p66 f66 p115 f115 x.1 x.2.1 x.2.2.1:=by kernel_rfl
def aBe(x:DenS NH):Option (DenS Po):=aKu Aq.pre Aq.F E6.pre E6.F x.1 x.2.1 x.2.2.1
def aG:Sum:=Ak NH Po aBe (DenS.dflt Po)
theorem aNZ:Sound Tryz.prog G1 190 aG:=sd (cf [(85,Aq),(233,E6)] []) 190 Tryz.f190 ⟨E9,lS,trivial⟩ trivial NH Po aBe _ (fun _=>aYd ..)
abbrev aCX:=Ae NH
abbrev aEr:=Ad NH Po
variable (p417:aCX)(f417:aEr)
abbrev NI:Aa:=[(true,.pair (.int .i64) (.pair (.int .i64) (.pair (.int .u64) (.pair (.int .u64) (.pair (.int .u64) (.unit))))))]
abbrev Pp:Aa:=[(false,.int .u64),(false,.int .i64),(false,.int .i64)]
def aKv(p417:aCX)(f417:aEr)(a0:Ab (.pair (.int .i64) (.pair (.int .i64) (.pair (.int .u64) (.pair (.int .u64) (.pair (.int .u64) (.unit))))))):Option (DenS Pp):=bif(p417 (a0.2.1,a0.2.2.1,a0.2.2.2.1,()))then(some ((f417 (a0.2.1,a0.2.2.1,a0.2.2.2.1,())).1,(0:Int),(f417 (a0.2.1,a0.2.2.1,a0.2.2.2.1,())).2))else none
theorem aYe(x:DenS NI):run (cf [(190,⟨NH,Po,p417,f417⟩)] []) 9 189 Tryz.f189 NI Pp x=aKv p417 f417 x.1:=by kernel_rfl
def aBf(x:DenS NI):Option (DenS Pp):=aKv aG.pre aG.F x.1
def VD:Sum:=Ak NI Pp aBf (DenS.dflt Pp)
theorem zI:Sound Tryz.prog G1 189 VD:=sd (cf [(190,aG)] []) 189 Tryz.f189 ⟨aNZ,trivial⟩ trivial NI Pp aBf _ (fun _=>aYe ..)
abbrev nX:=Ae NI
abbrev pF:=Ad NI Pp
variable (p418:nX)(f418:pF)
end Vx
namespace Vx
open Go Go.Proofs
variable (p69:Bq)(f69:Br)(p66:BL)(f66:BM)(p65:Dx)(f65:Dy)(p70:De)(f70:Df)(p178:HF)(f178:HI)(p122:Gx)(f122:GB)(p27:bX)(f27:cT)(p64:TA)(f64:TI)(p25:nC)(f25:oO)(p354:nI)(f354:oU)(p40:QM)(f40:QP)(p328:Eo)(f328:Er)(p381:nJ)(f381:oV)(p395:nK)(f395:oW)(p396:nL)(f396:oX)(p402:nN)(f402:oZ)(p407:nQ)(f407:o8)(p408:nR)(f408:o9)(p411:nS)(f411:pA)(p413:nT)(f413:pB)(p112:bT)(f112:cP)(p82:Xa)(f82:Xj)(p53:RQ)(f53:RY)(p54:RR)(f54:RZ)(p414:nU)(f414:pC)(p415:nV)(f415:pD)(p416:nW)(f416:pE)(p418:nX)(f418:pF)
abbrev NJ:Aa:=[(false,.int .i64),(false,.int .u64),(false,.int .u64)]
abbrev Pq:Aa:=[(false,.int .u64),(false,.int .i64),(false,.bool),(false,.int .i64)]
abbrev Hu:Pat:=⟨109,[(32,.one (.v .i64)),(31,.one (.sl (.int .u64))),(33,.one (.v .i64)),(2,.one (.v .u64)),(0,.one (.v .i64)),(1,.one (.v .u64))],[]⟩
abbrev Zp:List (Nat×Shape):=[]
abbrev LH:List (Nat×Pat):=[(0,⟨109,[(2,.one (.v .u64)),(0,.one (.v .i64)),(1,.one (.v .u64))],[]⟩)]
abbrev K8:Option Pat:=(some ⟨109,[(6,.one (.v .u64)),(7,.one (.v .i64)),(8,.one (.bool)),(9,.one (.v .i64))],[]⟩)
variable (w419_5:Pat.D Hu->Option (Ah LH K8))
def Yb(p69:Bq)(f69:Br)(p66:BL)(f66:BM)(p65:Dx)(f65:Dy)(p70:De)(f70:Df){R:Type}(L:Pat.D Hu->Option R)(e:Ah LH K8->Option R)(x:Pat.D Hu):Option R:=let e2_:=(x.1.2.2.2.2.1,(x.1.2.1.getD (ai x.1.2.2.1) (0:Int)),());let e1_:=(f66 e2_);bif(decide (x.1.2.2.1<x.1.1))then(bif((decide ((0:Int)<=x.1.2.2.1))&&(decide (x.1.2.2.1<(x.1.2.1.length:Int))))then(bif(p66 e2_)then(bif(e1_.1 !=(0:Int))then(((e (.inr (((0:Int),(0:Int),true,e1_),())))))else(L ((x.1.1,x.1.2.1,(aa .i64 (x.1.2.2.1+(1:Int))),x.1.2.2.2),())))else none)else none)else(e (.inl (x.1.2.2.2,())))
theorem bAe(d:Nat)(R:Type)(L:Pat.D Hu->Option R)(e:Ah LH K8->Option R)(x:Pat.D Hu):
  Bv (cf [(71,⟨BJ,BK,p69,f69⟩),(85,⟨B7,B8,p66,f66⟩),(59,⟨Dr,Ds,p65,f65⟩),(61,⟨Da,Db,p70,f70⟩)] [(242,5,LoopSpec.of Hu Zp LH K8 w419_5)]) (d+2) 242 (Bs Tryz.f242 5) Hu Zp LH K8 (R:=R) L e x=Yb p69 f69 p66 f66 p65 f65 p70 f70 L e x:=by kernel_rfl
theorem aUf(p69:Bq)(f69:Br)(p66:BL)(f66:BM)(p65:Dx)(f65:Dy)(p70:De)(f70:Df):Bm fun L e x=>Yb p69 f69 p66 f66 p65 f65 p70 f70 L e x:=by intro _ _ _ _ _ _ _ h0 hL he _;unfold Yb;repeat' (first|exact h0|exact hL _|exact he _|apply BG|(apply BH h0;intro _)|(apply BI<;>intro _))
def aKw(p69:Bq)(f69:Br)(p66:BL)(f66:BM)(p65:Dx)(f65:Dy)(p70:De)(f70:Df)(w419_5:Pat.D Hu->Option (Ah LH K8))(a0:Ab (.int .i64))(a1 a2:Ab (.int .u64)):Option (DenS Pq):=
 bif(p69 (a0,()))then(bif((f69 (a0,())).2.1 !=(0:Int))then(some ((0:Int),(0:Int),true,(f69 (a0,())).2))
 else Vx.Ba (w419_5 ((((a1::(a2::[])).length:Int),(a1::(a2::[])),(0:Int),a2,a0,a1,()),())) fun y2=>
 Vx.A7 y2 (fun y3=>
 bif(p65 y3.1.2)then(bif(p65 (y3.1.2.1,y3.1.1,()))then(bif(p70 (y3.1.2.1,()))then(bif(((f65 y3.1.2).1==(0:Int))||((f65 (y3.1.2.1,y3.1.1,())).1==(0:Int)))then(some ((f70 (y3.1.2.1,())).1,(1:Int),true,(0:Int),()))
 else bif(((f65 y3.1.2).1==(1:Int))||((f65 (y3.1.2.1,y3.1.1,())).1==(1:Int)))then(some ((f70 (y3.1.2.1,())).1,(0:Int),true,(0:Int),()))
 else bif(((((f65 y3.1.2).1==(9:Int))||((f65 y3.1.2).1==(2:Int)))||((f65 (y3.1.2.1,y3.1.1,())).1==(6:Int)))||((f65 (y3.1.2.1,y3.1.1,())).1==(5:Int)))then(some ((f70 (y3.1.2.1,())).1,(1:Int),true,(0:Int),()))
 else bif(((((f65 (y3.1.2.1,y3.1.1,())).1==(9:Int))||((f65 (y3.1.2.1,y3.1.1,())).1==(2:Int)))||((f65 y3.1.2).1==(6:Int)))||((f65 y3.1.2).1==(5:Int)))then(some (y3.1.2.2.1,(0:Int),true,(0:Int),()))
 else some ((0:Int),(0:Int),false,(0:Int),()))
 else none)
 else none)
 else none) (fun z3=>
 some z3.1))
 else none
theorem aYf(x:DenS NJ):run (cf [(71,⟨BJ,BK,p69,f69⟩),(85,⟨B7,B8,p66,f66⟩),(59,⟨Dr,Ds,p65,f65⟩),(61,⟨Da,Db,p70,f70⟩)] [(242,5,LoopSpec.of Hu Zp LH K8 w419_5)]) 9 242 Tryz.f242 NJ Pq x=aKw p69 f69 p66 f66 p65 f65 p70 f70 w419_5 x.1 x.2.1 x.2.2.1:=by kernel_rfl
def aBZ:Hu.D->Option (Ah LH K8):=Bg fun L=>Yb An.pre An.F Aq.pre Aq.F AY.pre AY.F AR.pre AR.F L some
def aBg(x:DenS NJ):Option (DenS Pq):=aKw An.pre An.F Aq.pre Aq.F AY.pre AY.F AR.pre AR.F aBZ x.1 x.2.1 x.2.2.1
def aH:Sum:=Ak NJ Pq aBg (DenS.dflt Pq)
theorem aN0:Sound Tryz.prog G1 242 aH:=sd (cf [(71,An),(85,Aq),(59,AY),(61,AR)] [(242,5,LoopSpec.of Hu Zp LH K8 aBZ)]) 242 Tryz.f242 ⟨Dk,E9,HA,FK,trivial⟩ ⟨rfl,fun d=>BE (fun L e x=>Yb An.pre An.F Aq.pre Aq.F AY.pre AY.F AR.pre AR.F L e x) (aUf An.pre An.F Aq.pre Aq.F AY.pre AY.F AR.pre AR.F) (fun _ _ _ _=>bAe ..),trivial⟩ NJ Pq aBg _ (fun _=>aYf ..)
abbrev aCY:=Ae NJ
abbrev aEs:=Ad NJ Pq
variable (p419:aCY)(f419:aEs)
abbrev NK:Aa:=[(true,.pair (.bool) (.pair (.slice (.int .u64)) (.pair (.int .i64) (.unit)))),(true,.pair (.bool) (.pair (.slice (.int .u64)) (.pair (.int .i64) (.unit))))]
abbrev Pr:Aa:=[(true,.pair (.int .u64) (.pair (.int .u64) (.pair (.int .i64) (.pair (.int .u64) (.unit)))))]
abbrev Hv:Pat:=⟨104,[(6,.one (.v .u64)),(9,.one (.v .i64)),(8,.one (.ptr 3 0)),(4,.one (.ptr 2 0))],[.gone,.gone,.raw [.v .u64,.v .u64,.v .i64,.v .u64],.raw [.v .u64,.v .u64,.v .i64,.v .u64]]⟩
abbrev Zq:List (Nat×Shape):=[]
abbrev LI:List (Nat×Pat):=[(0,⟨104,[(8,.one (.ptr 3 0)),(4,.one (.ptr 2 0))],[.gone,.gone,.raw [.v .u64,.v .u64,.v .i64,.v .u64],.raw [.v .u64,.v .u64,.v .i64,.v .u64]]⟩)]
abbrev K9:Option Pat:=none
variable (w420_10:Pat.D Hv->Option (Ah LI K9))
def Yc(p178:HF)(f178:HI)(p328:Eo)(f328:Er){R:Type}(L:Pat.D Hv->Option R)(e:Ah LI K9->Option R)(x:Pat.D Hv):Option R:=let e6_:=(if((64:Int)<x.1.2.1)then(64:Int)else x.1.2.1);let e5_:=(aa .i64 ((64:Int)-e6_));let e1_:=(f328 ((AL .u64 x.2.2.2.2.1.1 e5_),(Bb .u64 x.2.2.2.2.1.1 e6_),x.1.1,()));let e2_:=e5_;let e3_:=(decide ((0:Int)<=e6_));let e4_:=e6_;bif(decide (x.1.2.1>(0:Int)))then(bif(decide ((0:Int)<=e2_))then(bif e3_ then(bif(p328 ((AL .u64 x.2.2.2.2.1.1 e2_),(Bb .u64 x.2.2.2.2.1.1 e4_),x.1.1,()))then(bif e3_ then(((L ((x.1.1,(aa .i64 (x.1.2.1-e4_)),(),(),()),(),(),x.2.2.2.1,(e1_.2.1,x.2.2.2.2.1.2.1,x.2.2.2.2.1.2.2.1,(aa .u64 ((Bb .u64 x.2.2.2.2.1.2.2.2.1 e4_)+e1_.1)),()),()))))else none)else none)else none)else none)else(e (.inl (((),(),()),(),(),x.2.2.2)))
theorem bAf(d:Nat)(R:Type)(L:Pat.D Hv->Option R)(e:Ah LI K9->Option R)(x:Pat.D Hv):
  Bv (cf [(115,⟨Fr,E0,p178,f178⟩),(136,⟨Eb,Ef,p328,f328⟩)] [(243,10,LoopSpec.of Hv Zq LI K9 w420_10)]) (d+2) 243 (Bs Tryz.f243 10) Hv Zq LI K9 (R:=R) L e x=Yc p178 f178 p328 f328 L e x:=by kernel_rfl
theorem aUg(p178:HF)(f178:HI)(p328:Eo)(f328:Er):Bm fun L e x=>Yc p178 f178 p328 f328 L e x:=by intro _ _ _ _ _ _ _ h0 hL he _;unfold Yc;repeat' (first|exact h0|exact hL _|exact he _|apply BG|(apply BH h0;intro _)|(apply BI<;>intro _))
def aKx(p178:HF)(f178:HI)(p328:Eo)(f328:Er)(w420_10:Pat.D Hv->Option (Ah LI K9))(a0 a1:Ab (.pair (.bool) (.pair (.slice (.int .u64)) (.pair (.int .i64) (.unit))))):Option (DenS Pr):=
 let e8_:=(aa .i64 (a1.2.2.1-a0.2.2.1))
 let e7_:=(Bb .u64 (a1.2.1.getD (ai (0:Int)) (0:Int)) e8_)
 let e1_:=(e7_ !=(0:Int))
 let e2_:=e7_
 let e3_:=((a1.2.1.getD (ai (0:Int)) (0:Int))!=(0:Int))
 let e4_:=e8_
 let e5_:=((a1.2.1.getD (ai (0:Int)) (0:Int)),())
 let e6_:=((a0.2.1.getD (ai (0:Int)) (0:Int)),())
 bif(decide ((0:Int)<(a0.2.1.length:Int)))then(bif(decide ((0:Int)<(a1.2.1.length:Int)))then(bif(decide (a1.2.2.1>a0.2.2.1))then(bif(p178 e5_)then(bif(p178 e6_)then(bif(decide ((aa .i64 ((f178 e5_).1+e4_))>(aa .i64 ((f178 e6_).1+(1:Int)))))then(some (((a0.2.1.getD (ai (0:Int)) (0:Int)),(0:Int),a0.2.2.1,(0:Int),()),()))
 else bif(decide ((0:Int)<=e4_))then(bif e1_ then(bif e1_ then(some (((le (a0.2.1.getD (ai (0:Int)) (0:Int)) e2_),e2_,a0.2.2.1,(BX .u64 (a0.2.1.getD (ai (0:Int)) (0:Int)) e2_),()),()))
 else none)
 else none)
 else none)
 else none)
 else none)
 else bif e3_ then(bif e3_ then(Vx.Ba (w420_10 (((a1.2.1.getD (ai (0:Int)) (0:Int)),(aa .i64 (a0.2.2.1-a1.2.2.1)),(),(),()),(),(),((0:Int),(0:Int),(0:Int),(0:Int),()),((le (a0.2.1.getD (ai (0:Int)) (0:Int)) (a1.2.1.getD (ai (0:Int)) (0:Int))),(a1.2.1.getD (ai (0:Int)) (0:Int)),a1.2.2.1,(BX .u64 (a0.2.1.getD (ai (0:Int)) (0:Int)) (a1.2.1.getD (ai (0:Int)) (0:Int))),()),())) fun y5=>
 Vx.A7 y5 (fun y6=>
 some y6.2.2.2.2) (fun z6=>
 none))
 else none)
 else none)
 else none)
 else none
theorem aYg(x:DenS NK):run (cf [(115,⟨Fr,E0,p178,f178⟩),(136,⟨Eb,Ef,p328,f328⟩)] [(243,10,LoopSpec.of Hv Zq LI K9 w420_10)]) 9 243 Tryz.f243 NK Pr x=aKx p178 f178 p328 f328 w420_10 x.1 x.2.1:=by kernel_rfl
def aB0:Hv.D->Option (Ah LI K9):=Bg fun L=>Yc Cd.pre Cd.F AS.pre AS.F L some
def aBh(x:DenS NK):Option (DenS Pr):=aKx Cd.pre Cd.F AS.pre AS.F aB0 x.1 x.2.1
def aI:Sum:=Ak NK Pr aBh (DenS.dflt Pr)
theorem aN2:Sound Tryz.prog G1 243 aI:=sd (cf [(115,Cd),(136,AS)] [(243,10,LoopSpec.of Hv Zq LI K9 aB0)]) 243 Tryz.f243 ⟨Vo,Z1,trivial⟩ ⟨rfl,fun d=>BE (fun L e x=>Yc Cd.pre Cd.F AS.pre AS.F L e x) (aUg Cd.pre Cd.F AS.pre AS.F) (fun _ _ _ _=>bAf ..),trivial⟩ NK Pr aBh _ (fun _=>aYg ..)
abbrev aCZ:=Ae NK
abbrev aEt:=Ad NK Pr
variable (p420:aCZ)(f420:aEt)
abbrev Kb:Aa:=[(false,.int .i64),(false,.int .u64),(false,.int .u64),(false,.bool)]
abbrev IP:Aa:=[(false,.int .u64),(false,.int .i64),(false,.int .i64),(false,.int .i64)]
def aKy(p419:aCY)(f419:aEs)(p40:QM)(f40:QP)(p420:aCZ)(f420:aEt)(p122:Gx)(f122:GB)(a0:Ab (.int .i64))(a1 a2:Ab (.int .u64))(a3:Ab (.bool)):Option (DenS IP):=let e24_:=((f40 (a0,a1,())).1,(f40 (a0,a2,())).1,());let e23_:=(f420 e24_);let e20_:=(aa .u64 (e23_.1.2.1-e23_.1.1));let e22_:=(e23_.1.2.2.1,false,());let e14_:=(((0:Int),e20_,()),e22_);let e13_:=(a0,(2:Int),(f40 (a0,a1,())).1.1,e14_);let e12_:=(f122 e13_);let e1_:=(e12_.1,(aa .i64 (BA .u64 (aa .u64 (e23_.1.2.2.2.1+(1:Int))) (7:Int))),(0:Int),e12_.2.2);let e19_:=(((0:Int),e23_.1.1,()),e22_);let e17_:=(a0,(2:Int),(!(f40 (a0,a1,())).1.1),e19_);let e15_:=(f122 e17_);let e21_:=(aa .i64 (BA .u64 e23_.1.2.2.2.1 (7:Int)));let e2_:=(e15_.1,e21_,(0:Int),e15_.2.2);let e18_:=(a0,(2:Int),(f40 (a0,a1,())).1.1,e19_);let e16_:=(f122 e18_);let e3_:=(e16_.1,e21_,(0:Int),e16_.2.2);let e4_:=(f122 (a0,(2:Int),(!(f40 (a0,a1,())).1.1),e14_));let e5_:=(p122 e13_);let e6_:=(p122 e17_);let e7_:=(p122 e18_);let e8_:=(e20_==(0:Int));let e9_:=(aa .u64 ((2:Int)*e23_.1.1));let e10_:=(e23_.1.1==(0:Int));let e11_:=e23_;let g1_:Option (DenS IP):=bif(a3&&false)then(bif e10_ then(bif e7_ then(some e3_)else none)else bif e6_ then(some e2_)else none)else bif e10_ then(bif e7_ then(some e3_)else none)else bif e7_ then(some e3_)else none;bif(p419 (a0,a1,a2,()))then(bif(f419 (a0,a1,a2,())).2.2.1 then(some ((f419 (a0,a1,a2,())).1,(0:Int),(f419 (a0,a1,a2,())).2.1,(f419 (a0,a1,a2,())).2.2.2))else bif(p40 (a0,a1,()))then(bif(p40 (a0,a2,()))then(bif(p420 e24_)then(bif a3 then(bif(((e11_.1.2.1==(0:Int))||(decide (e9_<e11_.1.2.1)))||((e9_==e11_.1.2.1)&&((BA .u64 e11_.1.2.2.2.1 (1:Int))==(0:Int))))then(g1_)else bif(a3&&true)then(bif e8_ then(bif e5_ then(some e1_)else none)else bif(p122 (a0,(2:Int),(!(f40 (a0,a1,())).1.1),((0:Int),(aa .u64 (e11_.1.2.1-e11_.1.1)),()),e11_.1.2.2.1,false,()))then(some (e4_.1,(aa .i64 (BA .u64 (aa .u64 (e11_.1.2.2.2.1+(1:Int))) (7:Int))),(0:Int),e4_.2.2))else none)else bif e8_ then(bif e5_ then(some e1_)else none)else bif e5_ then(some e1_)else none)else g1_)else none)else none)else none)else none
theorem aYh(x:DenS Kb):run (cf [(242,⟨NJ,Pq,p419,f419⟩),(203,⟨F7,Gi,p40,f40⟩),(243,⟨NK,Pr,p420,f420⟩),(104,⟨EC,EY,p122,f122⟩)] []) 9 214 Tryz.f214 Kb IP x=aKy p419 f419 p40 f40 p420 f420 p122 f122 x.1 x.2.1 x.2.2.1 x.2.2.2.1:=by kernel_rfl
def aBi(x:DenS Kb):Option (DenS IP):=aKy aH.pre aH.F Dj.pre Dj.F aI.pre aI.F BP.pre BP.F x.1 x.2.1 x.2.2.1 x.2.2.2.1
def Rx:Sum:=Ak Kb IP aBi (DenS.dflt IP)
theorem zJ:Sound Tryz.prog G1 214 Rx:=sd (cf [(242,aH),(203,Dj),(243,aI),(104,BP)] []) 214 Tryz.f214 ⟨aN0,Vw,aN2,SU,trivial⟩ trivial Kb IP aBi _ (fun _=>aYh ..)
abbrev nY:=Ae Kb
abbrev pG:=Ad Kb IP
variable (p421:nY)(f421:pG)
abbrev NL:Aa:=[(false,.int .i64),(false,.int .u64),(false,.int .u64)]
abbrev Ps:Aa:=[(false,.int .u64),(false,.int .i64),(false,.int .i64),(false,.int .i64)]
def aKz(p421:nY)(f421:pG)(a0:Ab (.int .i64))(a1 a2:Ab (.int .u64)):Option (DenS Ps):=bif(p421 (a0,a1,a2,true,()))then(some (f421 (a0,a1,a2,true,())))else none
theorem aYi(x:DenS NL):run (cf [(214,⟨Kb,IP,p421,f421⟩)] []) 9 167 Tryz.f167 NL Ps x=aKz p421 f421 x.1 x.2.1 x.2.2.1:=by kernel_rfl
def aBj(x:DenS NL):Option (DenS Ps):=aKz Rx.pre Rx.F x.1 x.2.1 x.2.2.1
def VE:Sum:=Ak NL Ps aBj (DenS.dflt Ps)
theorem zK:Sound Tryz.prog G1 167 VE:=sd (cf [(214,Rx)] []) 167 Tryz.f167 ⟨zJ,trivial⟩ trivial NL Ps aBj _ (fun _=>aYi ..)
abbrev aC0:=Ae NL
abbrev aEu:=Ad NL Ps
variable (p422:aC0)(f422:aEu)
abbrev NM:Aa:=[(false,.int .i64),(false,.int .u64),(false,.int .u64)]
abbrev Pt:Aa:=[(false,.int .u64),(false,.int .i64),(false,.int .i64),(false,.int .i64)]
def aKA(p421:nY)(f421:pG)(a0:Ab (.int .i64))(a1 a2:Ab (.int .u64)):Option (DenS Pt):=bif(p421 (a0,a1,a2,false,()))then(some (f421 (a0,a1,a2,false,())))else none
theorem aYj(x:DenS NM):run (cf [(214,⟨Kb,IP,p421,f421⟩)] []) 9 168 Tryz.f168 NM Pt x=aKA p421 f421 x.1 x.2.1 x.2.2.1:=by kernel_rfl
def aBk(x:DenS NM):Option (DenS Pt):=aKA Rx.pre Rx.F x.1 x.2.1 x.2.2.1
def VF:Sum:=Ak NM Pt aBk (DenS.dflt Pt)
theorem zL:Sound Tryz.prog G1 168 VF:=sd (cf [(214,Rx)] []) 168 Tryz.f168 ⟨zJ,trivial⟩ trivial NM Pt aBk _ (fun _=>aYj ..)
abbrev aC1:=Ae NM
abbrev aEv:=Ad NM Pt
variable (p423:aC1)(f423:aEv)
abbrev Zy:Aa:=[(false,.int .i64),(false,.int .u64),(false,.int .u64)]
abbrev lJ:Aa:=[(false,.int .u64),(false,.int .i64),(false,.int .i64),(false,.int .i64)]
def ZF:SumF:=JC Zy lJ [(167,[],VE),(168,[],VF)]
theorem aM2:JX Tryz.prog G1 ZF:=TT ⟨Dn zK,⟨Dn zL,trivial⟩⟩
abbrev aB8:=Option (Nat×List Nat)->Ae Zy
abbrev aDC:=Option (Nat×List Nat)->Ad Zy lJ
variable (p100004:aB8)(f100004:aDC)
abbrev NN:Aa:=[(true,.pair (.int .i64) (.pair (.int .i64) (.pair (.int .u64) (.pair (.int .u64) (.pair (.int .u64) .unit))))),(false,.box (.pfn))]
abbrev Pu:Aa:=[(false,.int .u64),(false,.int .i64),(false,.int .i64)]
def aKB(p100004:aB8)(f100004:aDC)(a0:Ab (.pair (.int .i64) (.pair (.int .i64) (.pair (.int .u64) (.pair (.int .u64) (.pair (.int .u64) .unit))))))(a1:Ab (.box (.pfn))):Option (DenS Pu):=let e1_:=(f100004 (some (a1,[])) (a0.2.1,a0.2.2.1,a0.2.2.2.1,()));bif(p100004 (some (a1,[])) (a0.2.1,a0.2.2.1,a0.2.2.2.1,()))then(some (e1_.1,e1_.2.2))else none
theorem aYk(x:DenS NN):run ({cf [] []with fns:=[(246,⟨Zy,lJ,p100004,f100004⟩)] }) 9 213 Tryz.f213 NN Pu x=aKB p100004 f100004 x.1 x.2.1:=by kernel_rfl
def aBl(x:DenS NN):Option (DenS Pu):=aKB ZF.pre ZF.F x.1 x.2.1
def Qk:Sum:=Ak NN Pu aBl (DenS.dflt Pu)
theorem mA:Sound Tryz.prog G1 213 Qk:=sd ({cf [] []with fns:=[(246,ZF)] }) 213 Tryz.f213 trivial trivial NN Pu aBl _ (fun _=>aYk ..) (hfs:=⟨aM2,trivial⟩)
abbrev aC2:=Ae NN
abbrev aEw:=Ad NN Pu
variable (p424:aC2)(f424:aEw)
abbrev Og:Aa:=[(false,.int .i64),(false,.int .i64)]
abbrev PZ:Aa:=[(false,.bool)]
def t61(a0 a1:Ab (.int .i64)):Option (DenS PZ):=some ((decide (a1<a0)),())
theorem r61(x:DenS Og):run (cf [] []) 9 223 Tryz.f223 Og PZ x=t61 x.1 x.2.1:=by kernel_rfl
def T61(x:DenS Og):Option (DenS PZ):=t61 x.1 x.2.1
def aQ:Sum:=Ak Og PZ T61 (DenS.dflt PZ)
theorem aOt:Sound Tryz.prog G1 223 aQ:=sd (cf [] []) 223 Tryz.f223 trivial trivial Og PZ T61 _ (fun _=>r61 ..)
abbrev Y61:=Ae Og
abbrev Z61:=Ad Og PZ
variable (p61:Y61)(f61:Z61)
abbrev It:Aa:=[(false,.int .i64),(false,.int .u64),(false,.int .u64)]
abbrev IV:Aa:=[(true,.pair (.int .i64) (.pair (.int .i64) (.unit))),(true,.pair (.int .i64) (.pair (.int .i64) (.unit))),(false,.int .i64)]
def t52(p82:Xa)(f82:Xj)(a0:Ab (.int .i64))(a1 a2:Ab (.int .u64)):Option (DenS IV):=bif(p82 (a0,a1,()))then(bif((f82 (a0,a1,())).2.1 !=(0:Int))then(some ((f82 (a0,a1,())).1,((0:Int),(0:Int),()),(f82 (a0,a1,())).2))else bif(p82 (a0,a2,()))then(some ((f82 (a0,a1,())).1,(f82 (a0,a2,()))))else none)else none
theorem r52(x:DenS It):run (cf [(228,⟨Iv,IY,p82,f82⟩)] []) 9 245 Tryz.f245 It IV x=t52 p82 f82 x.1 x.2.1 x.2.2.1:=by kernel_rfl
def T52(x:DenS It):Option (DenS IV):=t52 Jg.pre Jg.F x.1 x.2.1 x.2.2.1
def Jf:Sum:=Ak It IV T52 (DenS.dflt IV)
theorem mJ:Sound Tryz.prog G1 245 Jf:=sd (cf [(228,Jg)] []) 245 Tryz.f245 ⟨mK,trivial⟩ trivial It IV T52 _ (fun _=>r52 ..)
abbrev cN:=Ae It
abbrev dI:=Ad It IV
variable (p52:cN)(f52:dI)
abbrev MV:Aa:=[(false,.int .i64),(false,.int .u64),(false,.int .u64)]
abbrev OJ:Aa:=[(false,.int .u64),(false,.int .i64),(false,.int .i64)]
def t19(p61:Y61)(f61:Z61)(p52:cN)(f52:dI)(p54:RR)(f54:RZ)(p70:De)(f70:Df)(p53:RQ)(f53:RY)(a0:Ab (.int .i64))(a1 a2:Ab (.int .u64)):Option (DenS OJ):=let e3_:=((f52 (a0,a1,a2,())).1,(f52 (a0,a1,a2,())).2.1,());let e1_:=((f54 e3_).1,(0:Int),());let e2_:=((f52 (a0,a1,a2,())).1.2.1,(f52 (a0,a1,a2,())).2.1.2);bif(p52 (a0,a1,a2,()))then(bif((f52 (a0,a1,a2,())).2.2.1 !=(0:Int))then(some ((0:Int),(0:Int),(f52 (a0,a1,a2,())).2.2))else bif(p54 e3_)then(bif(p53 ((f52 (a0,a1,a2,())).1,()))then(bif((p53 ((f52 (a0,a1,a2,())).2.1,()))||(!(f53 ((f52 (a0,a1,a2,())).1,())).1))then(bif((f53 ((f52 (a0,a1,a2,())).1,())).1&&(f53 ((f52 (a0,a1,a2,())).2.1,())).1)then(bif(p70 (a0,()))then(some ((f70 (a0,())).1,e1_))else none)else bif(p53 ((f52 (a0,a1,a2,())).1,()))then(bif((p53 ((f52 (a0,a1,a2,())).2.1,()))||(!(bif(f53 ((f52 (a0,a1,a2,())).1,())).1 then false else true)))then(bif((p61 e2_)||(!((bif(f53 ((f52 (a0,a1,a2,())).1,())).1 then false else true)&&(bif(f53 ((f52 (a0,a1,a2,())).2.1,())).1 then false else true))))then(bif((f53 ((f52 (a0,a1,a2,())).1,())).1||((!(f53 ((f52 (a0,a1,a2,())).2.1,())).1)&&((f61 e2_).1||(((f52 (a0,a1,a2,())).1.2.1==(0:Int))&&((f52 (a0,a1,a2,())).2.1.1==(5:Int))))))then(some (a2,e1_))else some (a1,e1_))else none)else none)else none)else none)else none)else none)else none
theorem r19(x:DenS MV):run (cf [(223,⟨Og,PZ,p61,f61⟩),(245,⟨It,IV,p52,f52⟩),(230,⟨F9,Gk,p54,f54⟩),(61,⟨Da,Db,p70,f70⟩),(229,⟨F8,Gj,p53,f53⟩)] []) 9 178 Tryz.f178 MV OJ x=t19 p61 f61 p52 f52 p54 f54 p70 f70 p53 f53 x.1 x.2.1 x.2.2.1:=by kernel_rfl
def T19(x:DenS MV):Option (DenS OJ):=t19 aQ.pre aQ.F Jf.pre Jf.F Em.pre Em.F AR.pre AR.F El.pre El.F x.1 x.2.1 x.2.2.1
def Vp:Sum:=Ak MV OJ T19 (DenS.dflt OJ)
theorem yN:Sound Tryz.prog G1 178 Vp:=sd (cf [(223,aQ),(245,Jf),(230,Em),(61,AR),(229,El)] []) 178 Tryz.f178 ⟨aOt,mJ,VH,FK,VG,trivial⟩ trivial MV OJ T19 _ (fun _=>r19 ..)
abbrev Y19:=Ae MV
abbrev Z19:=Ad MV OJ
variable (p19:Y19)(f19:Z19)
abbrev Oh:Aa:=[(false,.int .i64),(false,.int .i64)]
abbrev P0:Aa:=[(false,.bool)]
def t63(a0 a1:Ab (.int .i64)):Option (DenS P0):=some ((decide (a1>a0)),())
theorem r63(x:DenS Oh):run (cf [] []) 9 224 Tryz.f224 Oh P0 x=t63 x.1 x.2.1:=by kernel_rfl
def T63(x:DenS Oh):Option (DenS P0):=t63 x.1 x.2.1
def aR:Sum:=Ak Oh P0 T63 (DenS.dflt P0)
theorem aOu:Sound Tryz.prog G1 224 aR:=sd (cf [] []) 224 Tryz.f224 trivial trivial Oh P0 T63 _ (fun _=>r63 ..)
abbrev Y63:=Ae Oh
abbrev Z63:=Ad Oh P0
variable (p63:Y63)(f63:Z63)
abbrev MW:Aa:=[(false,.int .i64),(false,.int .u64),(false,.int .u64)]
abbrev OK:Aa:=[(false,.int .u64),(false,.int .i64),(false,.int .i64)]
def t21(p63:Y63)(f63:Z63)(p52:cN)(f52:dI)(p54:RR)(f54:RZ)(p70:De)(f70:Df)(p53:RQ)(f53:RY)(a0:Ab (.int .i64))(a1 a2:Ab (.int .u64)):Option (DenS OK):=let e3_:=((f52 (a0,a1,a2,())).1,(f52 (a0,a1,a2,())).2.1,());let e1_:=((f54 e3_).1,(0:Int),());let e2_:=((f52 (a0,a1,a2,())).1.2.1,(f52 (a0,a1,a2,())).2.1.2);bif(p52 (a0,a1,a2,()))then(bif((f52 (a0,a1,a2,())).2.2.1 !=(0:Int))then(some ((0:Int),(0:Int),(f52 (a0,a1,a2,())).2.2))else bif(p54 e3_)then(bif(p53 ((f52 (a0,a1,a2,())).1,()))then(bif((p53 ((f52 (a0,a1,a2,())).2.1,()))||(!(f53 ((f52 (a0,a1,a2,())).1,())).1))then(bif((f53 ((f52 (a0,a1,a2,())).1,())).1&&(f53 ((f52 (a0,a1,a2,())).2.1,())).1)then(bif(p70 (a0,()))then(some ((f70 (a0,())).1,e1_))else none)else bif(p53 ((f52 (a0,a1,a2,())).1,()))then(bif((p53 ((f52 (a0,a1,a2,())).2.1,()))||(!(bif(f53 ((f52 (a0,a1,a2,())).1,())).1 then false else true)))then(bif((p63 e2_)||(!((bif(f53 ((f52 (a0,a1,a2,())).1,())).1 then false else true)&&(bif(f53 ((f52 (a0,a1,a2,())).2.1,())).1 then false else true))))then(bif((f53 ((f52 (a0,a1,a2,())).1,())).1||((!(f53 ((f52 (a0,a1,a2,())).2.1,())).1)&&((f63 e2_).1||(((f52 (a0,a1,a2,())).1.2.1==(0:Int))&&((f52 (a0,a1,a2,())).2.1.1==(6:Int))))))then(some (a2,e1_))else some (a1,e1_))else none)else none)else none)else none)else none)else none)else none
theorem r21(x:DenS MW):run (cf [(224,⟨Oh,P0,p63,f63⟩),(245,⟨It,IV,p52,f52⟩),(230,⟨F9,Gk,p54,f54⟩),(61,⟨Da,Db,p70,f70⟩),(229,⟨F8,Gj,p53,f53⟩)] []) 9 179 Tryz.f179 MW OK x=t21 p63 f63 p52 f52 p54 f54 p70 f70 p53 f53 x.1 x.2.1 x.2.2.1:=by kernel_rfl
def T21(x:DenS MW):Option (DenS OK):=t21 aR.pre aR.F Jf.pre Jf.F Em.pre Em.F AR.pre AR.F El.pre El.F x.1 x.2.1 x.2.2.1
def Vq:Sum:=Ak MW OK T21 (DenS.dflt OK)
theorem yO:Sound Tryz.prog G1 179 Vq:=sd (cf [(224,aR),(245,Jf),(230,Em),(61,AR),(229,El)] []) 179 Tryz.f179 ⟨aOu,mJ,VH,FK,VG,trivial⟩ trivial MW OK T21 _ (fun _=>r21 ..)
abbrev Y21:=Ae MW
abbrev Z21:=Ad MW OK
variable (p21:Y21)(f21:Z21)
abbrev Zx:Aa:=[(false,.int .i64),(false,.int .u64),(false,.int .u64)]
abbrev lI:Aa:=[(false,.int .u64),(false,.int .i64),(false,.int .i64)]
def ZE:SumF:=JC Zx lI [(178,[],Vp),(179,[],Vq)]
theorem aM1:JX Tryz.prog G1 ZE:=TT ⟨Dn yN,⟨Dn yO,trivial⟩⟩
abbrev aB7:=Option (Nat×List Nat)->Ae Zx
abbrev aDB:=Option (Nat×List Nat)->Ad Zx lI
variable (p100003:aB7)(f100003:aDB)
abbrev NO:Aa:=[(true,.pair (.int .i64) (.pair (.int .i64) (.pair (.int .u64) (.pair (.int .u64) (.pair (.int .u64) .unit))))),(false,.box (.pfn))]
abbrev Pv:Aa:=[(false,.int .u64),(false,.int .i64),(false,.int .i64)]
def aKC(p100003:aB7)(f100003:aDB)(a0:Ab (.pair (.int .i64) (.pair (.int .i64) (.pair (.int .u64) (.pair (.int .u64) (.pair (.int .u64) .unit))))))(a1:Ab (.box (.pfn))):Option (DenS Pv):=bif(p100003 (some (a1,[])) (a0.2.1,a0.2.2.1,a0.2.2.2.1,()))then(some (f100003 (some (a1,[])) (a0.2.1,a0.2.2.1,a0.2.2.2.1,())))else none
theorem aYl(x:DenS NO):run ({cf [] []with fns:=[(57,⟨Zx,lI,p100003,f100003⟩)] }) 9 221 Tryz.f221 NO Pv x=aKC p100003 f100003 x.1 x.2.1:=by kernel_rfl
def aBm(x:DenS NO):Option (DenS Pv):=aKC ZE.pre ZE.F x.1 x.2.1
def Ql:Sum:=Ak NO Pv aBm (DenS.dflt Pv)
theorem mB:Sound Tryz.prog G1 221 Ql:=sd ({cf [] []with fns:=[(57,ZE)] }) 221 Tryz.f221 trivial trivial NO Pv aBm _ (fun _=>aYl ..) (hfs:=⟨aM1,trivial⟩)
abbrev aC3:=Ae NO
abbrev aEx:=Ad NO Pv
variable (p425:aC3)(f425:aEx)
abbrev MJ:Aa:=[(false,.int .i64),(false,.int .u64),(false,.int .u64),(false,.bool)]
abbrev Ow:Aa:=[(false,.int .i64),(false,.int .i64),(false,.int .i64)]
def t14(p52:cN)(f52:dI)(p53:RQ)(f53:RY)(p54:RR)(f54:RZ)(a0:Ab (.int .i64))(a1 a2:Ab (.int .u64))(a3:Ab (.bool)):Option (DenS Ow):=let e1_:=((f52 (a0,a1,a2,())).1,(f52 (a0,a1,a2,())).2.1,());bif(p52 (a0,a1,a2,()))then(bif((f52 (a0,a1,a2,())).2.2.1 !=(0:Int))then(some ((0:Int),(0:Int),(f52 (a0,a1,a2,())).2.2))else bif(p53 ((f52 (a0,a1,a2,())).1,()))then(bif((p53 ((f52 (a0,a1,a2,())).2.1,()))||(!(bif(f53 ((f52 (a0,a1,a2,())).1,())).1 then false else true)))then(bif((f53 ((f52 (a0,a1,a2,())).1,())).1||(f53 ((f52 (a0,a1,a2,())).2.1,())).1)then(bif(p54 e1_)then(bif a3 then(some ((3:Int),(1:Int),(0:Int),()))else some ((3:Int),(f54 e1_).1,(0:Int),()))else none)else bif(decide ((f52 (a0,a1,a2,())).1.2.1<(f52 (a0,a1,a2,())).2.1.2.1))then(some ((0:Int),(0:Int),(0:Int),()))else bif(decide ((f52 (a0,a1,a2,())).1.2.1>(f52 (a0,a1,a2,())).2.1.2.1))then(some ((2:Int),(0:Int),(0:Int),()))else some ((1:Int),(0:Int),(0:Int),()))else none)else none)else none
theorem r14(x:DenS MJ):run (cf [(245,⟨It,IV,p52,f52⟩),(229,⟨F8,Gj,p53,f53⟩),(230,⟨F9,Gk,p54,f54⟩)] []) 9 226 Tryz.f226 MJ Ow x=t14 p52 f52 p53 f53 p54 f54 x.1 x.2.1 x.2.2.1 x.2.2.2.1:=by kernel_rfl
def T14(x:DenS MJ):Option (DenS Ow):=t14 Jf.pre Jf.F El.pre El.F Em.pre Em.F x.1 x.2.1 x.2.2.1 x.2.2.2.1
def ZL:Sum:=Ak MJ Ow T14 (DenS.dflt Ow)
theorem aNh:Sound Tryz.prog G1 226 ZL:=sd (cf [(245,Jf),(229,El),(230,Em)] []) 226 Tryz.f226 ⟨mJ,VG,VH,trivial⟩ trivial MJ Ow T14 _ (fun _=>r14 ..)
abbrev Y14:=Ae MJ
abbrev Z14:=Ad MJ Ow
variable (p14:Y14)(f14:Z14)
abbrev NP:Aa:=[(true,.pair (.int .i64) (.pair (.int .i64) (.pair (.int .u64) (.pair (.int .u64) (.pair (.int .u64) .unit))))),(false,.box (.bool))]
abbrev Pw:Aa:=[(false,.int .u64),(false,.int .i64),(false,.int .i64)]
def aKD(p14:Y14)(f14:Z14)(a0:Ab (.pair (.int .i64) (.pair (.int .i64) (.pair (.int .u64) (.pair (.int .u64) (.pair (.int .u64) .unit))))))(a1:Ab (.box (.bool))):Option (DenS Pw):=let e1_:=(f14 (a0.2.1,a0.2.2.1,a0.2.2.2.1,a1,()));bif(p14 (a0.2.1,a0.2.2.1,a0.2.2.2.1,a1,()))then(some ((aa .u64 e1_.1),e1_.2))else none
theorem aYm(x:DenS NP):run (cf [(226,⟨MJ,Ow,p14,f14⟩)] []) 9 225 Tryz.f225 NP Pw x=aKD p14 f14 x.1 x.2.1:=by kernel_rfl
def aBn(x:DenS NP):Option (DenS Pw):=aKD ZL.pre ZL.F x.1 x.2.1
def Qm:Sum:=Ak NP Pw aBn (DenS.dflt Pw)
theorem mC:Sound Tryz.prog G1 225 Qm:=sd (cf [(226,ZL)] []) 225 Tryz.f225 ⟨aNh,trivial⟩ trivial NP Pw aBn _ (fun _=>aYm ..)
abbrev aC4:=Ae NP
abbrev aEy:=Ad NP Pw
variable (p426:aC4)(f426:aEy)
abbrev Zz:Aa:=[(false,.int .i64),(false,.int .u64)]
abbrev lK:Aa:=[(false,.int .u64),(false,.int .i64)]
def ZG:SumF:=JC Zz lK [(187,[],EG),(188,[],I9)]
theorem aM3:JX Tryz.prog G1 ZG:=TT ⟨Dn aS,⟨Dn lR,trivial⟩⟩
abbrev aB9:=Option (Nat×List Nat)->Ae Zz
abbrev aDD:=Option (Nat×List Nat)->Ad Zz lK
variable (p100005:aB9)(f100005:aDD)
abbrev NQ:Aa:=[(true,.pair (.int .i64) (.pair (.int .i64) (.pair (.int .u64) (.pair (.int .u64) (.pair (.int .u64) .unit))))),(false,.box (.pfn))]
abbrev Px:Aa:=[(false,.int .u64),(false,.int .i64),(false,.int .i64)]
def aKE(p100005:aB9)(f100005:aDD)(a0:Ab (.pair (.int .i64) (.pair (.int .i64) (.pair (.int .u64) (.pair (.int .u64) (.pair (.int .u64) .unit))))))(a1:Ab (.box (.pfn))):Option (DenS Px):=let e1_:=(f100005 (some (a1,[])) (a0.2.1,a0.2.2.1,()));bif(p100005 (some (a1,[])) (a0.2.1,a0.2.2.1,()))then(some (e1_.1,(0:Int),e1_.2))else none
theorem aYn(x:DenS NQ):run ({cf [] []with fns:=[(64,⟨Zz,lK,p100005,f100005⟩)] }) 9 232 Tryz.f232 NQ Px x=aKE p100005 f100005 x.1 x.2.1:=by kernel_rfl
def aBo(x:DenS NQ):Option (DenS Px):=aKE ZG.pre ZG.F x.1 x.2.1
def Qn:Sum:=Ak NQ Px aBo (DenS.dflt Px)
theorem mD:Sound Tryz.prog G1 232 Qn:=sd ({cf [] []with fns:=[(64,ZG)] }) 232 Tryz.f232 trivial trivial NQ Px aBo _ (fun _=>aYn ..) (hfs:=⟨aM3,trivial⟩)
abbrev aC5:=Ae NQ
abbrev aEz:=Ad NQ Px
variable (p427:aC5)(f427:aEz)
abbrev D9:Aa:=[(true,.pair (.int .i64) (.pair (.int .i64) (.pair (.int .u64) (.pair (.int .u64) (.pair (.int .u64) .unit)))))]
abbrev DM:Aa:=[(false,.int .u64),(false,.int .i64),(false,.int .i64)]
def I7:SumF:=JC D9 DM [(192,[160],H5 D9 DM C6.pre C6.F 158),(192,[161],H5 D9 DM C6.pre C6.F 159),(192,[162],H5 D9 DM C6.pre C6.F 160),(192,[163],H5 D9 DM C6.pre C6.F 161),(162,[],Vs),(164,[],Vt),(169,[],Vu),(171,[],Vv),(173,[],Vy),(175,[],Vz),(181,[],VA),(183,[],VB),(185,[],VC),(189,[],VD),(213,[169],H5 D9 DM Qk.pre Qk.F 167),(213,[170],H5 D9 DM Qk.pre Qk.F 168),(221,[180],H5 D9 DM Ql.pre Ql.F 178),(221,[181],H5 D9 DM Ql.pre Ql.F 179),(225,[0],vY D9 DM Qm.pre Qm.F false),(225,[1],vY D9 DM Qm.pre Qm.F true),(232,[189],H5 D9 DM Qn.pre Qn.F 187),(232,[190],H5 D9 DM Qn.pre Qn.F 188)]
theorem aMZ:JX Tryz.prog G1 I7:=TT ⟨JH Vr 158,⟨JH Vr 159,⟨JH Vr 160,⟨JH Vr 161,⟨Dn yW,⟨Dn yY,⟨Dn zB,⟨Dn zC,⟨Dn zD,⟨Dn zE,⟨Dn zF,⟨Dn zG,⟨Dn zH,⟨Dn zI,⟨JH mA 167,⟨JH mA 168,⟨JH mB 178,⟨JH mB 179,⟨aGs mC false,⟨aGs mC true,⟨JH mD 187,⟨JH mD 188,trivial⟩⟩⟩⟩⟩⟩⟩⟩⟩⟩⟩⟩⟩⟩⟩⟩⟩⟩⟩⟩⟩⟩
abbrev aB5:=Option (Nat×List Nat)->Ae D9
abbrev aDz:=Option (Nat×List Nat)->Ad D9 DM
variable (p100001:aB5)(f100001:aDz)
abbrev NR:Aa:=[(false,.int .i64)]
abbrev Py:Aa:=[(false,.bool)]
def aKF(a0:Ab (.int .i64)):Option (DenS Py):=some (((Xt .i64 a0 (31:Int))==(0:Int)),())
theorem aYo(x:DenS NR):run (cf [] []) 9 152 Tryz.f152 NR Py x=aKF x.1:=by kernel_rfl
def Tf(x:DenS NR):Option (DenS Py):=aKF x.1
def Qo:Sum:=Ak NR Py Tf (DenS.dflt Py)
theorem aN3:Sound Tryz.prog G1 152 Qo:=sd (cf [] []) 152 Tryz.f152 trivial trivial NR Py Tf _ (fun _=>aYo ..)
abbrev aC6:=Ae NR
abbrev aEA:=Ad NR Py
variable (p428:aC6)(f428:aEA)
abbrev NS:Aa:=[(true,.pair (.int .i64) (.pair (.int .i64) (.pair (.int .i64) (.unit))))]
abbrev Pz:Aa:=[(false,.int .i64)]
def jN(p428:aC6)(f428:aEA)(a0:Ab (.pair (.int .i64) (.pair (.int .i64) (.pair (.int .i64) (.unit))))):Option (DenS Pz):=bif((decide (a0.1<(0:Int)))||(decide (a0.1>(5:Int))))then(some ((3:Int),()))else bif(p428 (a0.2.1,()))then(bif((p428 a0.2.2)||(!(bif(!(f428 (a0.2.1,())).1)then false else true)))then(bif((!(f428 (a0.2.1,())).1)||(!(f428 a0.2.2).1))then(some ((7:Int),()))else some ((0:Int),()))else none)else none
theorem aYp(x:DenS NS):run (cf [(152,⟨NR,Py,p428,f428⟩)] []) 9 144 Tryz.f144 NS Pz x=jN p428 f428 x.1:=by kernel_rfl
def Tg(x:DenS NS):Option (DenS Pz):=jN Qo.pre Qo.F x.1
def Qp:Sum:=Ak NS Pz Tg (DenS.dflt Pz)
theorem aN4:Sound Tryz.prog G1 144 Qp:=sd (cf [(152,Qo)] []) 144 Tryz.f144 ⟨aN3,trivial⟩ trivial NS Pz Tg _ (fun _=>aYp ..)
abbrev aC7:=Ae NS
abbrev aEB:=Ad NS Pz
variable (p429:aC7)(f429:aEB)
abbrev NU:Aa:=[(false,.pfn)]
abbrev PD:Aa:=[(true,.pair (.int .i64) (.pair .fn .unit))]
def aKH(p395:nK)(f395:oW)(a0:Ab (.pfn)):Option (DenS PD):=some (((2:Int),(some ((192:Nat),((a0+(2:Nat))::[]))),()),())
theorem aYr(x:DenS NU):run (cf [(192,⟨No,Kw,p395,f395⟩)] []) 9 157 Tryz.f157 NU PD x=aKH p395 f395 x.1:=by kernel_rfl
def aBq(x:DenS NU):Option (DenS PD):=aKH C6.pre C6.F x.1
def aJ:Sum:=Ak NU PD aBq (DenS.dflt PD)
theorem aN5:Sound Tryz.prog G1 157 aJ:=sd (cf [(192,C6)] []) 157 Tryz.f157 ⟨Vr,trivial⟩ trivial NU PD aBq _ (fun _=>aYr ..)
abbrev aC9:=Ae NU
abbrev aED:=Ad NU PD
variable (p430:aC9)(f430:aED)
abbrev NV:Aa:=[(false,.pfn)]
abbrev PE:Aa:=[(true,.pair (.int .i64) (.pair .fn .unit))]
def aKI(p424:aC2)(f424:aEw)(a0:Ab (.pfn)):Option (DenS PE):=some (((2:Int),(some ((213:Nat),((a0+(2:Nat))::[]))),()),())
theorem aYs(x:DenS NV):run (cf [(213,⟨NN,Pu,p424,f424⟩)] []) 9 166 Tryz.f166 NV PE x=aKI p424 f424 x.1:=by kernel_rfl
def aBr(x:DenS NV):Option (DenS PE):=aKI Qk.pre Qk.F x.1
def aK:Sum:=Ak NV PE aBr (DenS.dflt PE)
theorem aN6:Sound Tryz.prog G1 166 aK:=sd (cf [(213,Qk)] []) 166 Tryz.f166 ⟨mA,trivial⟩ trivial NV PE aBr _ (fun _=>aYs ..)
abbrev aDa:=Ae NV
abbrev aEE:=Ad NV PE
variable (p431:aDa)(f431:aEE)
abbrev NW:Aa:=[(false,.pfn)]
abbrev PF:Aa:=[(true,.pair (.int .i64) (.pair .fn .unit))]
def aKJ(p425:aC3)(f425:aEx)(a0:Ab (.pfn)):Option (DenS PF):=some (((2:Int),(some ((221:Nat),((a0+(2:Nat))::[]))),()),())
theorem aYt(x:DenS NW):run (cf [(221,⟨NO,Pv,p425,f425⟩)] []) 9 177 Tryz.f177 NW PF x=aKJ p425 f425 x.1:=by kernel_rfl
def aBs(x:DenS NW):Option (DenS PF):=aKJ Ql.pre Ql.F x.1
def aL:Sum:=Ak NW PF aBs (DenS.dflt PF)
theorem aN7:Sound Tryz.prog G1 177 aL:=sd (cf [(221,Ql)] []) 177 Tryz.f177 ⟨mB,trivial⟩ trivial NW PF aBs _ (fun _=>aYt ..)
abbrev aDb:=Ae NW
abbrev aEF:=Ad NW PF
variable (p432:aDb)(f432:aEF)
abbrev NX:Aa:=[(false,.bool)]
abbrev PG:Aa:=[(true,.pair (.int .i64) (.pair .fn .unit))]
def aKK(p426:aC4)(f426:aEy)(a0:Ab (.bool)):Option (DenS PG):=some (((2:Int),(some ((225:Nat),((bif a0 then(1:Nat)else(0:Nat))::[]))),()),())
theorem aYu(x:DenS NX):run (cf [(225,⟨NP,Pw,p426,f426⟩)] []) 9 180 Tryz.f180 NX PG x=aKK p426 f426 x.1:=by kernel_rfl
def aBt(x:DenS NX):Option (DenS PG):=aKK Qm.pre Qm.F x.1
def aM:Sum:=Ak NX PG aBt (DenS.dflt PG)
theorem aN8:Sound Tryz.prog G1 180 aM:=sd (cf [(225,Qm)] []) 180 Tryz.f180 ⟨mC,trivial⟩ trivial NX PG aBt _ (fun _=>aYu ..)
abbrev aDc:=Ae NX
abbrev aEG:=Ad NX PG
variable (p433:aDc)(f433:aEG)
abbrev NY:Aa:=[(false,.pfn)]
abbrev PH:Aa:=[(true,.pair (.int .i64) (.pair .fn .unit))]
def aKL(p427:aC5)(f427:aEz)(a0:Ab (.pfn)):Option (DenS PH):=some (((1:Int),(some ((232:Nat),((a0+(2:Nat))::[]))),()),())
theorem aYv(x:DenS NY):run (cf [(232,⟨NQ,Px,p427,f427⟩)] []) 9 186 Tryz.f186 NY PH x=aKL p427 f427 x.1:=by kernel_rfl
def aBu(x:DenS NY):Option (DenS PH):=aKL Qn.pre Qn.F x.1
def aN:Sum:=Ak NY PH aBu (DenS.dflt PH)
theorem aN9:Sound Tryz.prog G1 186 aN:=sd (cf [(232,Qn)] []) 186 Tryz.f186 ⟨mD,trivial⟩ trivial NY PH aBu _ (fun _=>aYv ..)
abbrev aDd:=Ae NY
abbrev aEH:=Ad NY PH
variable (p434:aDd)(f434:aEH)
abbrev NZ:Aa:=[]
abbrev PI:Aa:=[(false,.slice (.pair (.int .i64) (.pair .fn .unit)))]
def aKM(p27:bX)(f27:cT)(p25:nC)(f25:oO)(p354:nI)(f354:oU)(p381:nJ)(f381:oV)(p430:aC9)(f430:aED)(p396:nL)(f396:oX)(p402:nN)(f402:oZ)(p422:aC0)(f422:aEu)(p423:aC1)(f423:aEv)(p431:aDa)(f431:aEE)(p407:nQ)(f407:o8)(p408:nR)(f408:o9)(p411:nS)(f411:pA)(p413:nT)(f413:pB)(p19:Y19)(f19:Z19)(p21:Y21)(f21:Z21)(p432:aDb)(f432:aEF)(p433:aDc)(f433:aEG)(p414:nU)(f414:pC)(p415:nV)(f415:pD)(p416:nW)(f416:pE)(p64:TA)(f64:TI)(p112:bT)(f112:cP)(p434:aDd)(f434:aEH)(p418:nX)(f418:pF):Option (DenS PI):=bif(p430 ((158:Nat),()))then(bif(p430 ((159:Nat),()))then(bif(p430 ((160:Nat),()))then(bif(p430 ((161:Nat),()))then(bif(p431 ((167:Nat),()))then(bif(p431 ((168:Nat),()))then(bif(p432 ((178:Nat),()))then(bif(p432 ((179:Nat),()))then(bif(p433 (false,()))then(bif(p433 (true,()))then(bif(p434 ((187:Nat),()))then(bif(p434 ((188:Nat),()))then(some ((((0:Int),none,())::((f430 ((158:Nat),())).1::((f430 ((159:Nat),())).1::((f430 ((160:Nat),())).1::((f430 ((161:Nat),())).1::(((1:Int),(some ((162:Nat),[])),())::(((3:Int),(some ((164:Nat),[])),())::((f431 ((167:Nat),())).1::((f431 ((168:Nat),())).1::(((1:Int),(some ((169:Nat),[])),())::(((1:Int),(some ((171:Nat),[])),())::(((1:Int),(some ((173:Nat),[])),())::(((0:Int),(some ((175:Nat),[])),())::((f432 ((178:Nat),())).1::((f432 ((179:Nat),())).1::((f433 (false,())).1::((f433 (true,())).1::(((1:Int),(some ((181:Nat),[])),())::(((1:Int),(some ((183:Nat),[])),())::(((1:Int),(some ((185:Nat),[])),())::((f434 ((187:Nat),())).1::((f434 ((188:Nat),())).1::(((2:Int),(some ((189:Nat),[])),())::[]))))))))))))))))))))))),()))else none)else none)else none)else none)else none)else none)else none)else none)else none)else none)else none)else none
theorem aYw(x:DenS NZ):run (cf [(158,⟨J4,Kr,p27,f27⟩),(159,⟨MX,OL,p25,f25⟩),(160,⟨Nb,OZ,p354,f354⟩),(161,⟨Nk,Kv,p381,f381⟩),(157,⟨NU,PD,p430,f430⟩),(162,⟨Np,O8,p396,f396⟩),(164,⟨Nu,Pd,p402,f402⟩),(167,⟨NL,Ps,p422,f422⟩),(168,⟨NM,Pt,p423,f423⟩),(166,⟨NV,PE,p431,f431⟩),(169,⟨Nw,Pe,p407,f407⟩),(171,⟨Nx,Pf,p408,f408⟩),(173,⟨NB,Pi,p411,f411⟩),(175,⟨ND,Pk,p413,f413⟩),(178,⟨MV,OJ,p19,f19⟩),(179,⟨MW,OK,p21,f21⟩),(177,⟨NW,PF,p432,f432⟩),(180,⟨NX,PG,p433,f433⟩),(181,⟨NE,Pl,p414,f414⟩),(183,⟨NF,Pm,p415,f415⟩),(185,⟨NG,Pn,p416,f416⟩),(187,⟨Iu,IW,p64,f64⟩),(188,⟨JZ,Kk,p112,f112⟩),(186,⟨NY,PH,p434,f434⟩),(189,⟨NI,Pp,p418,f418⟩)] []) 9 153 Tryz.f153 NZ PI x=aKM p27 f27 p25 f25 p354 f354 p381 f381 p430 f430 p396 f396 p402 f402 p422 f422 p423 f423 p431 f431 p407 f407 p408 f408 p411 f411 p413 f413 p19 f19 p21 f21 p432 f432 p433 f433 p414 f414 p415 f415 p416 f416 p64 f64 p112 f112 p434 f434 p418 f418:=by kernel_rfl
def aBv(x:DenS NZ):Option (DenS PI):=aKM E7.pre E7.F Ld.pre Ld.F Le.pre Le.F Lf.pre Lf.F aJ.pre aJ.F Vs.pre Vs.F Vt.pre Vt.F VE.pre VE.F VF.pre VF.F aK.pre aK.F Vu.pre Vu.F Vv.pre Vv.F Vy.pre Vy.F Vz.pre Vz.F Vp.pre Vp.F Vq.pre Vq.F aL.pre aL.F aM.pre aM.F VA.pre VA.F VB.pre VB.F VC.pre VC.F EG.pre EG.F I9.pre I9.F aN.pre aN.F VD.pre VD.F
def FF:Sum:=Ak NZ PI aBv (DenS.dflt PI)
theorem aOa:Sound Tryz.prog G1 153 FF:=sd (cf [(158,E7),(159,Ld),(160,Le),(161,Lf),(157,aJ),(162,Vs),(164,Vt),(167,VE),(168,VF),(166,aK),(169,Vu),(171,Vv),(173,Vy),(175,Vz),(178,Vp),(179,Vq),(177,aL),(180,aM),(181,VA),(183,VB),(185,VC),(187,EG),(188,I9),(186,aN),(189,VD)] []) 153 Tryz.f153 ⟨lY,yP,yU,yV,aN5,yW,yY,zK,zL,aN6,zB,zC,zD,zE,yN,yO,aN7,aN8,zF,zG,zH,aS,lR,aN9,zI,trivial⟩ trivial NZ PI aBv _ (fun _=>aYw ..)
abbrev aDe:=Ae NZ
abbrev aEI:=Ad NZ PI
variable (p435:aDe)(f435:aEI)
abbrev N0:Aa:=[(false,.int .i64)]
abbrev PJ:Aa:=[(true,.pair (.int .i64) (.pair .fn .unit)),(false,.int .i64)]
def U4(p435:aDe)(f435:aEI)(a0:Ab (.int .i64)):Option (DenS PJ):=bif(p435 ())then(bif((decide (a0<(1:Int)))||(decide (a0>=((f435 ()).1.length:Int))))then(some (((0:Int),none,()),(190:Int),()))else bif((decide ((0:Int)<=a0))&&(decide (a0<((f435 ()).1.length:Int))))then(some (((f435 ()).1.getD (ai a0) ((0:Int),none,())),(0:Int),()))else none)else none
theorem aYx(x:DenS N0):run (cf [(153,⟨NZ,PI,p435,f435⟩)] []) 9 145 Tryz.f145 N0 PJ x=U4 p435 f435 x.1:=by kernel_rfl
def Li(x:DenS N0):Option (DenS PJ):=U4 FF.pre FF.F x.1
def Lg:Sum:=Ak N0 PJ Li (DenS.dflt PJ)
theorem aOb:Sound Tryz.prog G1 145 Lg:=sd (cf [(153,FF)] []) 145 Tryz.f145 ⟨aOa,trivial⟩ trivial N0 PJ Li _ (fun _=>aYx ..)
abbrev aDf:=Ae N0
abbrev aEJ:=Ad N0 PJ
variable (p436:aDf)(f436:aEJ)
abbrev N1:Aa:=[(false,.int .i64),(true,.pair (.int .i64) (.pair .fn .unit)),(true,.pair (.int .i64) (.pair (.int .i64) (.pair (.int .u64) (.pair (.int .u64) (.pair (.int .u64) .unit)))))]
abbrev IQ:Aa:=[(false,.int .i64)]
abbrev Hw:Pat:=⟨84,[(43,.one (.v .i64)),(42,.one (.sl (.int .u64))),(44,.one (.v .i64)),(0,.one (.v .i64)),(5,.one (.ptr 1 0))],[.gone,.raw [.v .i64,.v .i64,.v .u64,.v .u64,.v .u64]]⟩
abbrev Zr:List (Nat×Shape):=[]
abbrev LJ:List (Nat×Pat):=[(1,⟨84,[(0,.one (.v .i64)),(5,.one (.ptr 1 0))],[.gone,.raw [.v .i64,.v .i64,.v .u64,.v .u64,.v .u64]]⟩)]
abbrev La:Option Pat:=(some ⟨84,[(6,.one (.v .i64))],[]⟩)
variable (w437_13:Pat.D Hw->Option (Ah LJ La))
def Ut(p69:Bq)(f69:Br)(p66:BL)(f66:BM){R:Type}(L:Pat.D Hw->Option R)(e:Ah LJ La->Option R)(x:Pat.D Hw):Option R:=let e2_:=(x.2.2.1.2.1,(x.1.2.1.getD (ai x.1.2.2.1) (0:Int)),());let e1_:=(f66 e2_);bif(decide (x.1.2.2.1<x.1.1))then(bif((decide ((0:Int)<=x.1.2.2.1))&&(decide (x.1.2.2.1<(x.1.2.1.length:Int))))then(bif(p66 e2_)then(bif(e1_.1 !=(0:Int))then(((e (.inr (e1_,())))))else(L ((x.1.1,x.1.2.1,(aa .i64 (x.1.2.2.1+(1:Int))),x.1.2.2.2.1,(),()),(),x.2.2)))else none)else none)else(e (.inl ((x.1.2.2.2.1,(),()),(),x.2.2)))
theorem bAg(d:Nat)(R:Type)(L:Pat.D Hw->Option R)(e:Ah LJ La->Option R)(x:Pat.D Hw):
  Bv (cf [(71,⟨BJ,BK,p69,f69⟩),(85,⟨B7,B8,p66,f66⟩)] [(146,13,LoopSpec.of Hw Zr LJ La w437_13)]) (d+2) 146 (Bs Tryz.f146 13) Hw Zr LJ La (R:=R) L e x=Ut p69 f69 p66 f66 L e x:=by kernel_rfl
theorem aHO(p69:Bq)(f69:Br)(p66:BL)(f66:BM):Bm fun L e x=>Ut p69 f69 p66 f66 L e x:=by intro _ _ _ _ _ _ _ h0 hL he _;unfold Ut;repeat' (first|exact h0|exact hL _|exact he _|apply BG|(apply BH h0;intro _)|(apply BI<;>intro _))
def jO(p69:Bq)(f69:Br)(p66:BL)(f66:BM)(w437_13:Pat.D Hw->Option (Ah LJ La))(a0:Ab (.int .i64))(a1:Ab (.pair (.int .i64) (.pair .fn .unit)))(a2:Ab (.pair (.int .i64) (.pair (.int .i64) (.pair (.int .u64) (.pair (.int .u64) (.pair (.int .u64) .unit)))))):Option (DenS IQ):=
 let e4_:=(a2.2.2.1::(a2.2.2.2.1::(a2.2.2.2.2.1::[])))
 let e3_:=((e4_.take (ai a1.1)).drop (ai (0:Int)))
 let e1_:=(w437_13 (((e3_.length:Int),e3_,(0:Int),a0,(),()),(),(a2.1,a2.2),()))
 let e2_:=((decide ((0:Int)<=a1.1))&&(decide (a1.1<=(e4_.length:Int))))
 let g1_:Option (DenS IQ):=bif(decide (a2.2.2.2.2.1>(3:Int)))then(some ((9:Int),()))
 else bif e2_ then(Vx.Ba e1_ fun y7=>
 Vx.A7 y7 (fun y8=>
 bif(y8.1.1==(12:Int))then(bif((((aa .i64 y8.2.2.1.2.2.2.2.1)==(0:Int))&&((aa .u64 (aa .i64 (aa .i32 y8.2.2.1.2.2.1)))!=y8.2.2.1.2.2.1))||(((aa .i64 y8.2.2.1.2.2.2.2.1)==(2:Int))&&((AL .u64 y8.2.2.1.2.2.1 (32:Int))!=(0:Int))))then(some ((4:Int),()))
 else some ((0:Int),()))
 else some ((0:Int),())) (fun z8=>
 some z8.1))
 else none
 let g2_:Option (DenS IQ):=bif e2_ then(Vx.Ba e1_ fun y6=>
 Vx.A7 y6 (fun y7=>
 bif(y7.1.1==(12:Int))then(bif((((aa .i64 y7.2.2.1.2.2.2.2.1)==(0:Int))&&((aa .u64 (aa .i64 (aa .i32 y7.2.2.1.2.2.1)))!=y7.2.2.1.2.2.1))||(((aa .i64 y7.2.2.1.2.2.2.2.1)==(2:Int))&&((AL .u64 y7.2.2.1.2.2.1 (32:Int))!=(0:Int))))then(some ((4:Int),()))
 else some ((0:Int),()))
 else some ((0:Int),())) (fun z7=>
 some z7.1))
 else none
 bif(p69 (a2.2.1,()))then(bif((f69 (a2.2.1,())).2.1 !=(0:Int))then(some (f69 (a2.2.1,())).2)
 else bif(a0==(10:Int))then(bif(decide (a2.2.2.2.2.1>(3:Int)))then(some ((2:Int),()))
 else bif e2_ then(Vx.Ba e1_ fun y5=>
 Vx.A7 y5 (fun y6=>
 bif(y6.1.1==(12:Int))then(bif((((aa .i64 y6.2.2.1.2.2.2.2.1)==(0:Int))&&((aa .u64 (aa .i64 (aa .i32 y6.2.2.1.2.2.1)))!=y6.2.2.1.2.2.1))||(((aa .i64 y6.2.2.1.2.2.2.2.1)==(2:Int))&&((AL .u64 y6.2.2.1.2.2.1 (32:Int))!=(0:Int))))then(some ((4:Int),()))
 else some ((0:Int),()))
 else some ((0:Int),())) (fun z6=>
 some z6.1))
 else none)
 else bif(a0==(11:Int))then(bif(a0==(11:Int))then(g1_)
 else g2_)
 else bif(a0==(12:Int))then(g1_)
 else g2_)
 else none
theorem aYy(x:DenS N1):run (cf [(71,⟨BJ,BK,p69,f69⟩),(85,⟨B7,B8,p66,f66⟩)] [(146,13,LoopSpec.of Hw Zr LJ La w437_13)]) 9 146 Tryz.f146 N1 IQ x=jO p69 f69 p66 f66 w437_13 x.1 x.2.1 x.2.2.1:=by kernel_rfl
def bQ:Hw.D->Option (Ah LJ La):=Bg fun L=>Ut An.pre An.F Aq.pre Aq.F L some
def WA(x:DenS N1):Option (DenS IQ):=jO An.pre An.F Aq.pre Aq.F bQ x.1 x.2.1 x.2.2.1
def Qq:Sum:=Ak N1 IQ WA (DenS.dflt IQ)
theorem aOc:Sound Tryz.prog G1 146 Qq:=sd (cf [(71,An),(85,Aq)] [(146,13,LoopSpec.of Hw Zr LJ La bQ)]) 146 Tryz.f146 ⟨Dk,E9,trivial⟩ ⟨rfl,fun d=>BE (fun L e x=>Ut An.pre An.F Aq.pre Aq.F L e x) (aHO An.pre An.F Aq.pre Aq.F) (fun _ _ _ _=>bAg ..),trivial⟩ N1 IQ WA _ (fun _=>aYy ..)
abbrev aDg:=Ae N1
abbrev aEK:=Ad N1 IQ
variable (p437:aDg)(f437:aEK)
abbrev N2:Aa:=[(true,.pair (.int .i64) (.pair (.int .i64) (.pair (.int .i64) (.unit)))),(false,.int .i64),(false,.int .i64),(false,.int .u64),(false,.int .u64),(false,.int .u64)]
abbrev PK:Aa:=[(true,.pair (.int .u64) (.pair (.int .i64) (.pair (.int .i64) (.pair (.pair (.int .i64) (.pair (.int .i64) (.pair (.int .i64) (.unit)))) (.unit))))),(false,.int .i64)]
def jP(p429:aC7)(f429:aEB)(p436:aDf)(f436:aEJ)(p437:aDg)(f437:aEK)(p100001:aB5)(f100001:aDz)(a0:Ab (.pair (.int .i64) (.pair (.int .i64) (.pair (.int .i64) (.unit)))))(a1 a2:Ab (.int .i64))(a3 a4 a5:Ab (.int .u64)):Option (DenS PK):=let e5_:=(f100001 (f436 (a1,())).1.2.1 ((a0.1,a2,a3,a4,a5,()),()));let e1_:=(BA .i64 e5_.2.1 a0.2.2.1);let e2_:=((0:Int),(0:Int),(0:Int),((0:Int),(0:Int),(0:Int),()),());let e6_:=(a1,(f436 (a1,())).1,(a0.1,a2,a3,a4,a5,()),());let e3_:=(f437 e6_);let e4_:=e5_;bif(p429 ((a0.1,a0.2),()))then(bif((f429 ((a0.1,a0.2),())).1 !=(0:Int))then(some (e2_,(f429 ((a0.1,a0.2),()))))else bif(p436 (a1,()))then(bif((f436 (a1,())).2.1 !=(0:Int))then(some (e2_,(f436 (a1,())).2))else bif(p437 e6_)then(bif(e3_.1 !=(0:Int))then(some (e2_,e3_))else bif(p100001 (f436 (a1,())).1.2.1 ((a0.1,a2,a3,a4,a5,()),()))then(bif(e4_.2.2.1 !=(0:Int))then(some (e2_,e4_.2.2))else bif(e1_ !=(0:Int))then(some (((0:Int),e4_.2.1,(BA .i64 e1_ (aa .i64 ((0:Int)-e1_))),(a0.1,a0.2),()),(0:Int),()))else some ((e4_.1,e4_.2.1,(0:Int),(a0.1,(Ap .i64 a0.2.1 e4_.2.1),a0.2.2),()),(0:Int),()))else none)else none)else none)else none
theorem aYz(x:DenS N2):run ({cf [(144,⟨NS,Pz,p429,f429⟩),(145,⟨N0,PJ,p436,f436⟩),(146,⟨N1,IQ,p437,f437⟩)] []with fns:=[(57,⟨D9,DM,p100001,f100001⟩)] }) 9 125 Tryz.f125 N2 PK x=jP p429 f429 p436 f436 p437 f437 p100001 f100001 x.1 x.2.1 x.2.2.1 x.2.2.2.1 x.2.2.2.2.1 x.2.2.2.2.2.1:=by kernel_rfl
def QI(x:DenS N2):Option (DenS PK):=jP Qp.pre Qp.F Lg.pre Lg.F Qq.pre Qq.F I7.pre I7.F x.1 x.2.1 x.2.2.1 x.2.2.2.1 x.2.2.2.2.1 x.2.2.2.2.2.1
def Qr:Sum:=Ak N2 PK QI (DenS.dflt PK)
theorem aOd:Sound Tryz.prog G1 125 Qr:=sd ({cf [(144,Qp),(145,Lg),(146,Qq)] []with fns:=[(57,I7)] }) 125 Tryz.f125 ⟨aN4,aOb,aOc,trivial⟩ trivial N2 PK QI _ (fun _=>aYz ..) (hfs:=⟨aMZ,trivial⟩)
abbrev aDh:=Ae N2
abbrev aEL:=Ad N2 PK
variable (p438:aDh)(f438:aEL)
abbrev GZ:Aa:=[(false,.int .i64),(false,.int .u64),(false,.int .u64)]
abbrev G7:Aa:=[(false,.int .u64)]
abbrev EE:LK:=.ref (.pair (.int .i64) (.pair (.int .i64) (.pair (.int .i64) .unit)))
def jQ(p438:aDh)(f438:aEL)(l0:LK.D (.ref (.pair (.int .i64) (.pair (.int .i64) (.pair (.int .i64) .unit)))))(a0:Ab (.int .i64))(a1 a2:Ab (.int .u64)):Option (LK.B EE×DenS G7):=let e2_:=((l0.2.1,(0:Int),(0:Int),()),a0,l0.1,a1,a2,(0:Int),());let e1_:=(f438 e2_);bif(p438 e2_)then(some ((l0.1,l0.2.1,(Ap .i64 l0.2.2.1 e1_.1.2.1),()),e1_.1.1,()))else none
theorem aYA(x:LK.D EE×DenS GZ):D5 (cf [(125,⟨N2,PK,p438,f438⟩)] []) 9 106 Tryz.f106 EE GZ G7 x=jQ p438 f438 x.1 x.2.1 x.2.2.1 x.2.2.2.1:=by kernel_rfl
def WB(x:LK.D EE×DenS GZ):Option (LK.B EE×DenS G7):=jQ Qr.pre Qr.F x.1 x.2.1 x.2.2.1 x.2.2.2.1
def CV:SumL:=D7 EE GZ G7 WB (LK.dflt EE,DenS.dflt G7)
theorem aO:SoundL Tryz.prog G1 106 CV:=GM (cf [(125,Qr)] []) 106 Tryz.f106 ⟨aOd,trivial⟩ trivial EE GZ G7 WB _ (fun _=>aYA ..)
abbrev W7:=LK.D EE×DenS GZ->Bool
abbrev Xg:=LK.D EE×DenS GZ->LK.B EE×DenS G7
variable (p464:W7)(f464:Xg)
abbrev Kc:Aa:=[(false,.int .u64),(false,.int .u64)]
abbrev KC:Aa:=[(false,.int .u64)]
abbrev Fs:LK:=.ref (.pair (.int .i64) (.pair (.int .i64) (.pair (.int .i64) .unit)))
def jR(p464:W7)(f464:Xg)(l0:LK.D (.ref (.pair (.int .i64) (.pair (.int .i64) (.pair (.int .i64) .unit)))))(a0 a1:Ab (.int .u64)):Option (LK.B Fs×DenS KC):=bif(p464 ((l0.1,l0.2),(3:Int),a0,a1,()))then(some (f464 ((l0.1,l0.2),(3:Int),a0,a1,())))else none
theorem aYB(x:LK.D Fs×DenS Kc):D5 ({cf [] []with lsums:=[(106,⟨EE,GZ,G7,p464,f464⟩)] }) 9 79 Tryz.f79 Fs Kc KC x=jR p464 f464 x.1 x.2.1 x.2.2.1:=by kernel_rfl
def WC(x:LK.D Fs×DenS Kc):Option (LK.B Fs×DenS KC):=jR CV.pre CV.F x.1 x.2.1 x.2.2.1
def FG:SumL:=D7 Fs Kc KC WC (LK.dflt Fs,DenS.dflt KC)
theorem zM:SoundL Tryz.prog G1 79 FG:=GM ({cf [] []with lsums:=[(106,CV)] }) 79 Tryz.f79 trivial trivial Fs Kc KC WC _ (fun _=>aYB ..) (hls:=⟨aO,trivial⟩)
abbrev nZ:=LK.D Fs×DenS Kc->Bool
abbrev pH:=LK.D Fs×DenS Kc->LK.B Fs×DenS KC
variable (p465:nZ)(f465:pH)
abbrev Kd:Aa:=[(false,.int .u64),(false,.int .u64)]
abbrev KD:Aa:=[(false,.int .u64)]
abbrev Ft:LK:=.ref (.pair (.int .i64) (.pair (.int .i64) (.pair (.int .i64) .unit)))
def jS(p464:W7)(f464:Xg)(l0:LK.D (.ref (.pair (.int .i64) (.pair (.int .i64) (.pair (.int .i64) .unit)))))(a0 a1:Ab (.int .u64)):Option (LK.B Ft×DenS KD):=bif(p464 ((l0.1,l0.2),(2:Int),a0,a1,()))then(some (f464 ((l0.1,l0.2),(2:Int),a0,a1,())))else none
theorem aYC(x:LK.D Ft×DenS Kd):D5 ({cf [] []with lsums:=[(106,⟨EE,GZ,G7,p464,f464⟩)] }) 9 80 Tryz.f80 Ft Kd KD x=jS p464 f464 x.1 x.2.1 x.2.2.1:=by kernel_rfl
def WD(x:LK.D Ft×DenS Kd):Option (LK.B Ft×DenS KD):=jS CV.pre CV.F x.1 x.2.1 x.2.2.1
def FH:SumL:=D7 Ft Kd KD WD (LK.dflt Ft,DenS.dflt KD)
theorem zN:SoundL Tryz.prog G1 80 FH:=GM ({cf [] []with lsums:=[(106,CV)] }) 80 Tryz.f80 trivial trivial Ft Kd KD WD _ (fun _=>aYC ..) (hls:=⟨aO,trivial⟩)
abbrev n0:=LK.D Ft×DenS Kd->Bool
abbrev pI:=LK.D Ft×DenS Kd->LK.B Ft×DenS KD
variable (p466:n0)(f466:pI)
abbrev Ip:Aa:=[(false,.int .u64),(false,.int .u64)]
abbrev IR:Aa:=[(false,.int .u64)]
abbrev EU:LK:=.ref (.pair (.int .i64) (.pair (.int .i64) (.pair (.int .i64) .unit)))
def jT(p464:W7)(f464:Xg)(l0:LK.D (.ref (.pair (.int .i64) (.pair (.int .i64) (.pair (.int .i64) .unit)))))(a0 a1:Ab (.int .u64)):Option (LK.B EU×DenS IR):=bif(p464 ((l0.1,l0.2),(1:Int),a0,a1,()))then(some (f464 ((l0.1,l0.2),(1:Int),a0,a1,())))else none
theorem aYD(x:LK.D EU×DenS Ip):D5 ({cf [] []with lsums:=[(106,⟨EE,GZ,G7,p464,f464⟩)] }) 9 76 Tryz.f76 EU Ip IR x=jT p464 f464 x.1 x.2.1 x.2.2.1:=by kernel_rfl
def WE(x:LK.D EU×DenS Ip):Option (LK.B EU×DenS IR):=jT CV.pre CV.F x.1 x.2.1 x.2.2.1
def DP:SumL:=D7 EU Ip IR WE (LK.dflt EU,DenS.dflt IR)
theorem mE:SoundL Tryz.prog G1 76 DP:=GM ({cf [] []with lsums:=[(106,CV)] }) 76 Tryz.f76 trivial trivial EU Ip IR WE _ (fun _=>aYD ..) (hls:=⟨aO,trivial⟩)
abbrev cG:=LK.D EU×DenS Ip->Bool
abbrev dC:=LK.D EU×DenS Ip->LK.B EU×DenS IR
variable (p467:cG)(f467:dC)
abbrev N3:Aa:=[(true,.pair (.int .u64) (.pair (.int .u64) (.unit))),(true,.pair (.int .u64) (.pair (.int .u64) (.unit)))]
abbrev PL:Aa:=[(true,.pair (.int .u64) (.pair (.int .u64) (.unit)))]
abbrev Gc:LK:=.ref (.pair (.int .i64) (.pair (.int .i64) (.pair (.int .i64) .unit)))
def jU(p465:nZ)(f465:pH)(p466:n0)(f466:pI)(p467:cG)(f467:dC)(l0:LK.D (.ref (.pair (.int .i64) (.pair (.int .i64) (.pair (.int .i64) .unit)))))(a0 a1:Ab (.pair (.int .u64) (.pair (.int .u64) (.unit)))):Option (LK.B Gc×DenS PL):=let e10_:=((f465 ((l0.1,l0.2),a0.1,a1.1,())).1,a0.2.1,a1.2);let e9_:=(f465 e10_);let e8_:=(f465 (e9_.1,a0.1,a1.2));let e7_:=(f465 (e8_.1,a0.2.1,a1.1,()));let e6_:=(f466 (e7_.1,(f465 ((l0.1,l0.2),a0.1,a1.1,())).2.1,e9_.2));let e1_:=(f467 (e6_.1,e8_.2.1,e7_.2));let e2_:=e6_;let e3_:=e7_;let e4_:=e8_;let e5_:=e9_;bif(p465 ((l0.1,l0.2),a0.1,a1.1,()))then(bif(p465 e10_)then(bif(p465 (e5_.1,a0.1,a1.2))then(bif(p465 (e4_.1,a0.2.1,a1.1,()))then(bif(p466 (e3_.1,(f465 ((l0.1,l0.2),a0.1,a1.1,())).2.1,e5_.2))then(bif(p467 (e2_.1,e4_.2.1,e3_.2))then(some (e1_.1,(e2_.2.1,e1_.2),()))else none)else none)else none)else none)else none)else none
theorem aYE(x:LK.D Gc×DenS N3):D5 ({cf [] []with lsums:=[(79,⟨Fs,Kc,KC,p465,f465⟩),(80,⟨Ft,Kd,KD,p466,f466⟩),(76,⟨EU,Ip,IR,p467,f467⟩)] }) 9 42 Tryz.f42 Gc N3 PL x=jU p465 f465 p466 f466 p467 f467 x.1 x.2.1 x.2.2.1:=by kernel_rfl
def WG(x:LK.D Gc×DenS N3):Option (LK.B Gc×DenS PL):=jU FG.pre FG.F FH.pre FH.F DP.pre DP.F x.1 x.2.1 x.2.2.1
def Qs:SumL:=D7 Gc N3 PL WG (LK.dflt Gc,DenS.dflt PL)
theorem aOf:SoundL Tryz.prog G1 42 Qs:=GM ({cf [] []with lsums:=[(79,FG),(80,FH),(76,DP)] }) 42 Tryz.f42 trivial trivial Gc N3 PL WG _ (fun _=>aYE ..) (hls:=⟨zM,zN,mE,trivial⟩)
abbrev n4:=LK.D Gc×DenS N3->Bool
abbrev pJ:=LK.D Gc×DenS N3->LK.B Gc×DenS PL
variable (p468:n4)(f468:pJ)
abbrev Iq:Aa:=[(false,.slice (.pair (.int .u64) (.pair (.int .u64) (.unit))))]
abbrev IS:Aa:=[(false,.int .i64)]
abbrev EV:LK:=.ref (.pair (.int .i64) (.pair (.int .i64) (.pair (.int .i64) .unit)))
abbrev Hx:Pat:=⟨32,[(8,.one (.v .i64)),(7,.one (.sl (.pair (.int .u64) (.pair (.int .u64) (.unit))))),(0,.one (.ptr 0 0)),(9,.one (.v .i64))],[.raw [.v .i64,.v .i64,.v .i64]]⟩
abbrev Zs:List (Nat×Shape):=[]
abbrev LL:List (Nat×Pat):=[(0,⟨32,[],[.raw [.v .i64,.v .i64,.v .i64]]⟩)]
abbrev Lb:Option Pat:=(some ⟨32,[(4,.one (.v .i64))],[.raw [.v .i64,.v .i64,.v .i64]]⟩)
variable (w469_2:Pat.D Hx->Option (Ah LL Lb))
def Uu(p66:BL)(f66:BM){R:Type}(L:Pat.D Hx->Option R)(e:Ah LL Lb->Option R)(x:Pat.D Hx):Option R:=let e4_:=(x.1.2.1.getD (ai x.1.2.2.2.1) ((0:Int),(0:Int),()));let e3_:=(x.2.1.1,e4_.1,());let e1_:=((f66 e3_).1 !=(0:Int));let e2_:=(x.2.1.1,e4_.2);bif(decide (x.1.2.2.2.1<x.1.1))then(bif((decide ((0:Int)<=x.1.2.2.2.1))&&(decide (x.1.2.2.2.1<(x.1.2.1.length:Int))))then(bif(p66 e3_)then(bif((p66 e2_)||(!(bif e1_ then false else true)))then(bif(e1_||((f66 e2_).1 !=(0:Int)))then(((e (.inr (((4:Int),()),x.2)))))else(L ((x.1.1,x.1.2.1,(),(aa .i64 (x.1.2.2.2.1+(1:Int))),()),x.2)))else none)else none)else none)else(e (.inl ((),x.2)))
theorem bAh(d:Nat)(R:Type)(L:Pat.D Hx->Option R)(e:Ah LL Lb->Option R)(x:Pat.D Hx):
  Bv (cf [(85,⟨B7,B8,p66,f66⟩)] [(53,2,LoopSpec.of Hx Zs LL Lb w469_2 1)]) (d+2) 53 (Bs Tryz.f53 2) Hx Zs LL Lb (R:=R) L e x 1=Uu p66 f66 L e x:=by kernel_rfl
theorem aHP(p66:BL)(f66:BM):Bm fun L e x=>Uu p66 f66 L e x:=by intro _ _ _ _ _ _ _ h0 hL he _;unfold Uu;repeat' (first|exact h0|exact hL _|exact he _|apply BG|(apply BH h0;intro _)|(apply BI<;>intro _))
def jV(p66:BL)(f66:BM)(w469_2:Pat.D Hx->Option (Ah LL Lb))(l0:LK.D (.ref (.pair (.int .i64) (.pair (.int .i64) (.pair (.int .i64) .unit)))))(a0:Ab (.slice (.pair (.int .u64) (.pair (.int .u64) (.unit))))):Option (LK.B EV×DenS IS):=
 Vx.Ba (w469_2 (((a0.length:Int),a0,(),(0:Int),()),(l0.1,l0.2),())) fun y0=>
 Vx.A7 y0 (fun y1=>
 some (y1.2.1,(0:Int),())) (fun z1=>
 some (z1.2.1,z1.1))
theorem aYF(x:LK.D EV×DenS Iq):D5 (cf [(85,⟨B7,B8,p66,f66⟩)] [(53,2,LoopSpec.of Hx Zs LL Lb w469_2 1)]) 9 53 Tryz.f53 EV Iq IS x=jV p66 f66 w469_2 x.1 x.2.1:=by kernel_rfl
def W1:Hx.D->Option (Ah LL Lb):=Bg fun L=>Uu Aq.pre Aq.F L some
def QJ(x:LK.D EV×DenS Iq):Option (LK.B EV×DenS IS):=jV Aq.pre Aq.F W1 x.1 x.2.1
def DQ:SumL:=D7 EV Iq IS QJ (LK.dflt EV,DenS.dflt IS)
theorem mG:SoundL Tryz.prog G1 53 DQ:=GM (cf [(85,Aq)] [(53,2,LoopSpec.of Hx Zs LL Lb W1 1)]) 53 Tryz.f53 ⟨E9,trivial⟩ ⟨rfl,fun d=>BE (fun L e x=>Uu Aq.pre Aq.F L e x) (aHP Aq.pre Aq.F) (fun _ _ _ _=>bAh ..),trivial⟩ EV Iq IS QJ _ (fun _=>aYF ..)
abbrev W8:=LK.D EV×DenS Iq->Bool
abbrev Xh:=LK.D EV×DenS Iq->LK.B EV×DenS IS
variable (p469:W8)(f469:Xh)
abbrev N4:Aa:=[(false,.int .i64),(false,.int .i64),(true,.pair (.int .u64) (.pair (.int .u64) (.unit))),(true,.pair (.int .u64) (.pair (.int .u64) (.unit)))]
abbrev PM:Aa:=[(true,.pair (.int .u64) (.pair (.int .u64) (.unit))),(false,.int .i64),(false,.int .i64)]
def jW(p468:n4)(f468:pJ)(p69:Bq)(f69:Br)(p469:W8)(f469:Xh)(a0 a1:Ab (.int .i64))(a2 a3:Ab (.pair (.int .u64) (.pair (.int .u64) (.unit)))):Option (DenS PM):=let e4_:=((a0,a1,(0:Int),()),((a2.1,a2.2)::((a3.1,a3.2)::[])),());let e3_:=(f469 e4_);let e1_:=(f468 (e3_.1,(a2.1,a2.2),(a3.1,a3.2),()));let e2_:=e3_;bif(p69 (a0,()))then(bif((f69 (a0,())).2.1 !=(0:Int))then(bif((f69 (a0,())).2.1 !=(0:Int))then(some (((0:Int),(0:Int),()),(0:Int),(f69 (a0,())).2))else none)else bif((decide (a1<(0:Int)))||(decide (a1>(5:Int))))then(some (((0:Int),(0:Int),()),(0:Int),(3:Int),()))else bif(p469 e4_)then(bif(e2_.2.1 !=(0:Int))then(some (((0:Int),(0:Int),()),(0:Int),e2_.2))else bif(p468 (e2_.1,(a2.1,a2.2),(a3.1,a3.2),()))then(some (e1_.2.1,e1_.1.2.2.1,(0:Int),()))else none)else none)else none
theorem aYH(x:DenS N4):run ({cf [(71,⟨BJ,BK,p69,f69⟩)] []with lsums:=[(42,⟨Gc,N3,PL,p468,f468⟩),(53,⟨EV,Iq,IS,p469,f469⟩)] }) 9 13 Tryz.f13 N4 PM x=jW p468 f468 p69 f69 p469 f469 x.1 x.2.1 x.2.2.1 x.2.2.2.1:=by kernel_rfl
def Th(x:DenS N4):Option (DenS PM):=jW Qs.pre Qs.F An.pre An.F DQ.pre DQ.F x.1 x.2.1 x.2.2.1 x.2.2.2.1
def Qt:Sum:=Ak N4 PM Th (DenS.dflt PM)
theorem aOg:Sound Tryz.prog G1 13 Qt:=sd ({cf [(71,An)] []with lsums:=[(42,Qs),(53,DQ)] }) 13 Tryz.f13 ⟨Dk,trivial⟩ trivial N4 PM Th _ (fun _=>aYH ..) (hls:=⟨aOf,mG,trivial⟩)
abbrev cH:=Ae N4
abbrev dD:=Ad N4 PM
variable (p470:cH)(f470:dD)
abbrev N5:Aa:=[(false,.int .u64),(false,.int .u64)]
abbrev PN:Aa:=[(false,.int .u64)]
abbrev Gd:LK:=.ref (.pair (.int .i64) (.pair (.int .i64) (.pair (.int .i64) .unit)))
def jX(p464:W7)(f464:Xg)(l0:LK.D (.ref (.pair (.int .i64) (.pair (.int .i64) (.pair (.int .i64) .unit)))))(a0 a1:Ab (.int .u64)):Option (LK.B Gd×DenS PN):=bif(p464 ((l0.1,l0.2),(4:Int),a0,a1,()))then(some (f464 ((l0.1,l0.2),(4:Int),a0,a1,())))else none
theorem aYI(x:LK.D Gd×DenS N5):D5 ({cf [] []with lsums:=[(106,⟨EE,GZ,G7,p464,f464⟩)] }) 9 83 Tryz.f83 Gd N5 PN x=jX p464 f464 x.1 x.2.1 x.2.2.1:=by kernel_rfl
def WH(x:LK.D Gd×DenS N5):Option (LK.B Gd×DenS PN):=jX CV.pre CV.F x.1 x.2.1 x.2.2.1
def Qu:SumL:=D7 Gd N5 PN WH (LK.dflt Gd,DenS.dflt PN)
theorem aOh:SoundL Tryz.prog G1 83 Qu:=GM ({cf [] []with lsums:=[(106,CV)] }) 83 Tryz.f83 trivial trivial Gd N5 PN WH _ (fun _=>aYI ..) (hls:=⟨aO,trivial⟩)
abbrev aDi:=LK.D Gd×DenS N5->Bool
abbrev aEM:=LK.D Gd×DenS N5->LK.B Gd×DenS PN
variable (p471:aDi)(f471:aEM)
abbrev N6:Aa:=[(true,.pair (.int .u64) (.pair (.int .u64) (.unit))),(true,.pair (.int .u64) (.pair (.int .u64) (.unit)))]
abbrev PO:Aa:=[(true,.pair (.int .u64) (.pair (.int .u64) (.unit)))]
abbrev Ge:LK:=.ref (.pair (.int .i64) (.pair (.int .i64) (.pair (.int .i64) .unit)))
def jY(p467:cG)(f467:dC)(p465:nZ)(f465:pH)(p466:n0)(f466:pI)(p471:aDi)(f471:aEM)(l0:LK.D (.ref (.pair (.int .i64) (.pair (.int .i64) (.pair (.int .i64) .unit)))))(a0 a1:Ab (.pair (.int .u64) (.pair (.int .u64) (.unit)))):Option (LK.B Ge×DenS PO):=let c1_:=(f465 ((l0.1,l0.2),a1.1,a1.1,()));let c2_:=(f465 (c1_.1,a1.2.1,a1.2));let c3_:=(f467 (c2_.1,c1_.2.1,c2_.2));let c4_:=(f465 (c3_.1,a0.1,a1.1,()));let c5_:=(f465 (c4_.1,a0.2.1,a1.2));let c6_:=(f467 (c5_.1,c4_.2.1,c5_.2));let c7_:=(f465 (c6_.1,a0.2.1,a1.1,()));let c8_:=(f465 (c7_.1,a0.1,a1.2));let c9_:=(f466 (c8_.1,c7_.2.1,c8_.2));let c10_:=(f471 (c9_.1,c6_.2.1,c3_.2));let c11_:=(f471 (c10_.1,c9_.2.1,c3_.2));bif(p465 ((l0.1,l0.2),a1.1,a1.1,()))then(bif(p465 (c1_.1,a1.2.1,a1.2))then(bif(p467 (c2_.1,c1_.2.1,c2_.2))then(bif(p465 (c3_.1,a0.1,a1.1,()))then(bif(p465 (c4_.1,a0.2.1,a1.2))then(bif(p467 (c5_.1,c4_.2.1,c5_.2))then(bif(p465 (c6_.1,a0.2.1,a1.1,()))then(bif(p465 (c7_.1,a0.1,a1.2))then(bif(p466 (c8_.1,c7_.2.1,c8_.2))then(bif(p471 (c9_.1,c6_.2.1,c3_.2))then(bif(p471 (c10_.1,c9_.2.1,c3_.2))then(some (c11_.1,(c10_.2.1,c11_.2),()))else none)else none)else none)else none)else none)else none)else none)else none)else none)else none)else none
theorem aYJ(x:LK.D Ge×DenS N6):D5 ({cf [] []with lsums:=[(76,⟨EU,Ip,IR,p467,f467⟩),(79,⟨Fs,Kc,KC,p465,f465⟩),(80,⟨Ft,Kd,KD,p466,f466⟩),(83,⟨Gd,N5,PN,p471,f471⟩)] }) 9 45 Tryz.f45 Ge N6 PO x=jY p467 f467 p465 f465 p466 f466 p471 f471 x.1 x.2.1 x.2.2.1:=by kernel_rfl
def WI(x:LK.D Ge×DenS N6):Option (LK.B Ge×DenS PO):=jY DP.pre DP.F FG.pre FG.F FH.pre FH.F Qu.pre Qu.F x.1 x.2.1 x.2.2.1
def Qv:SumL:=D7 Ge N6 PO WI (LK.dflt Ge,DenS.dflt PO)
theorem aOi:SoundL Tryz.prog G1 45 Qv:=GM ({cf [] []with lsums:=[(76,DP),(79,FG),(80,FH),(83,Qu)] }) 45 Tryz.f45 trivial trivial Ge N6 PO WI _ (fun _=>aYJ ..) (hls:=⟨mE,zM,zN,aOh,trivial⟩)
abbrev aDj:=LK.D Ge×DenS N6->Bool
abbrev aEN:=LK.D Ge×DenS N6->LK.B Ge×DenS PO
variable (p472:aDj)(f472:aEN)
abbrev N7:Aa:=[(false,.int .i64),(false,.int .i64),(true,.pair (.int .u64) (.pair (.int .u64) (.unit))),(true,.pair (.int .u64) (.pair (.int .u64) (.unit)))]
abbrev PP:Aa:=[(true,.pair (.int .u64) (.pair (.int .u64) (.unit))),(false,.int .i64),(false,.int .i64)]
def jZ(p472:aDj)(f472:aEN)(p69:Bq)(f69:Br)(p469:W8)(f469:Xh)(a0 a1:Ab (.int .i64))(a2 a3:Ab (.pair (.int .u64) (.pair (.int .u64) (.unit)))):Option (DenS PP):=let e4_:=((a0,a1,(0:Int),()),((a2.1,a2.2)::((a3.1,a3.2)::[])),());let e3_:=(f469 e4_);let e1_:=(f472 (e3_.1,(a2.1,a2.2),(a3.1,a3.2),()));let e2_:=e3_;bif(p69 (a0,()))then(bif((f69 (a0,())).2.1 !=(0:Int))then(bif((f69 (a0,())).2.1 !=(0:Int))then(some (((0:Int),(0:Int),()),(0:Int),(f69 (a0,())).2))else none)else bif((decide (a1<(0:Int)))||(decide (a1>(5:Int))))then(some (((0:Int),(0:Int),()),(0:Int),(3:Int),()))else bif(p469 e4_)then(bif(e2_.2.1 !=(0:Int))then(some (((0:Int),(0:Int),()),(0:Int),e2_.2))else bif(p472 (e2_.1,(a2.1,a2.2),(a3.1,a3.2),()))then(some (e1_.2.1,e1_.1.2.2.1,(0:Int),()))else none)else none)else none
theorem aYK(x:DenS N7):run ({cf [(71,⟨BJ,BK,p69,f69⟩)] []with lsums:=[(45,⟨Ge,N6,PO,p472,f472⟩),(53,⟨EV,Iq,IS,p469,f469⟩)] }) 9 15 Tryz.f15 N7 PP x=jZ p472 f472 p69 f69 p469 f469 x.1 x.2.1 x.2.2.1 x.2.2.2.1:=by kernel_rfl
def Ti(x:DenS N7):Option (DenS PP):=jZ Qv.pre Qv.F An.pre An.F DQ.pre DQ.F x.1 x.2.1 x.2.2.1 x.2.2.2.1
def Qw:Sum:=Ak N7 PP Ti (DenS.dflt PP)
theorem aOj:Sound Tryz.prog G1 15 Qw:=sd ({cf [(71,An)] []with lsums:=[(45,Qv),(53,DQ)] }) 15 Tryz.f15 ⟨Dk,trivial⟩ trivial N7 PP Ti _ (fun _=>aYK ..) (hls:=⟨aOi,mG,trivial⟩)
abbrev cJ:=Ae N7
abbrev dE:=Ad N7 PP
variable (p473:cJ)(f473:dE)
abbrev wW:Aa:=[]
abbrev aLL:Aa:=[(false,.bool)]
abbrev n6:=Ae wW
abbrev pL:=Ad wW aLL
variable (p474:n6)(f474:pL)
abbrev N8:Aa:=[(true,.pair (.int .u64) (.pair (.int .u64) (.unit))),(true,.pair (.int .u64) (.pair (.int .u64) (.unit)))]
abbrev PQ:Aa:=[(true,.pair (.int .u64) (.pair (.int .u64) (.unit)))]
abbrev Gf:LK:=.ref (.pair (.int .i64) (.pair (.int .i64) (.pair (.int .i64) .unit)))
def j1(p467:cG)(f467:dC)(l0:LK.D (.ref (.pair (.int .i64) (.pair (.int .i64) (.pair (.int .i64) .unit)))))(a0 a1:Ab (.pair (.int .u64) (.pair (.int .u64) (.unit)))):Option (LK.B Gf×DenS PQ):=let e2_:=((f467 ((l0.1,l0.2),a0.1,a1.1,())).1,a0.2.1,a1.2);let e1_:=(f467 e2_);bif(p467 ((l0.1,l0.2),a0.1,a1.1,()))then(bif(p467 e2_)then(some (e1_.1,((f467 ((l0.1,l0.2),a0.1,a1.1,())).2.1,e1_.2),()))else none)else none
theorem aYL(x:LK.D Gf×DenS N8):D5 ({cf [] []with lsums:=[(76,⟨EU,Ip,IR,p467,f467⟩)] }) 9 38 Tryz.f38 Gf N8 PQ x=j1 p467 f467 x.1 x.2.1 x.2.2.1:=by kernel_rfl
def WJ(x:LK.D Gf×DenS N8):Option (LK.B Gf×DenS PQ):=j1 DP.pre DP.F x.1 x.2.1 x.2.2.1
def Qx:SumL:=D7 Gf N8 PQ WJ (LK.dflt Gf,DenS.dflt PQ)
theorem aOk:SoundL Tryz.prog G1 38 Qx:=GM ({cf [] []with lsums:=[(76,DP)] }) 38 Tryz.f38 trivial trivial Gf N8 PQ WJ _ (fun _=>aYL ..) (hls:=⟨mE,trivial⟩)
abbrev n7:=LK.D Gf×DenS N8->Bool
abbrev pM:=LK.D Gf×DenS N8->LK.B Gf×DenS PQ
variable (p475:n7)(f475:pM)
abbrev N9:Aa:=[(false,.int .i64),(false,.int .i64),(true,.pair (.int .u64) (.pair (.int .u64) (.unit))),(true,.pair (.int .u64) (.pair (.int .u64) (.unit)))]
abbrev PR:Aa:=[(true,.pair (.int .u64) (.pair (.int .u64) (.unit))),(false,.int .i64),(false,.int .i64)]
def j2(p475:n7)(f475:pM)(p69:Bq)(f69:Br)(p469:W8)(f469:Xh)(a0 a1:Ab (.int .i64))(a2 a3:Ab (.pair (.int .u64) (.pair (.int .u64) (.unit)))):Option (DenS PR):=let e4_:=((a0,a1,(0:Int),()),((a2.1,a2.2)::((a3.1,a3.2)::[])),());let e3_:=(f469 e4_);let e1_:=(f475 (e3_.1,(a2.1,a2.2),(a3.1,a3.2),()));let e2_:=e3_;bif(p69 (a0,()))then(bif((f69 (a0,())).2.1 !=(0:Int))then(bif((f69 (a0,())).2.1 !=(0:Int))then(some (((0:Int),(0:Int),()),(0:Int),(f69 (a0,())).2))else none)else bif((decide (a1<(0:Int)))||(decide (a1>(5:Int))))then(some (((0:Int),(0:Int),()),(0:Int),(3:Int),()))else bif(p469 e4_)then(bif(e2_.2.1 !=(0:Int))then(some (((0:Int),(0:Int),()),(0:Int),e2_.2))else bif(p475 (e2_.1,(a2.1,a2.2),(a3.1,a3.2),()))then(some (e1_.2.1,e1_.1.2.2.1,(0:Int),()))else none)else none)else none
theorem aYM(x:DenS N9):run ({cf [(71,⟨BJ,BK,p69,f69⟩)] []with lsums:=[(38,⟨Gf,N8,PQ,p475,f475⟩),(53,⟨EV,Iq,IS,p469,f469⟩)] }) 9 10 Tryz.f10 N9 PR x=j2 p475 f475 p69 f69 p469 f469 x.1 x.2.1 x.2.2.1 x.2.2.2.1:=by kernel_rfl
def Tj(x:DenS N9):Option (DenS PR):=j2 Qx.pre Qx.F An.pre An.F DQ.pre DQ.F x.1 x.2.1 x.2.2.1 x.2.2.2.1
def Qy:Sum:=Ak N9 PR Tj (DenS.dflt PR)
theorem aOl:Sound Tryz.prog G1 10 Qy:=sd ({cf [(71,An)] []with lsums:=[(38,Qx),(53,DQ)] }) 10 Tryz.f10 ⟨Dk,trivial⟩ trivial N9 PR Tj _ (fun _=>aYM ..) (hls:=⟨aOk,mG,trivial⟩)
abbrev cK:=Ae N9
abbrev dF:=Ad N9 PR
variable (p476:cK)(f476:dF)
abbrev xY:Aa:=[(false,.int .i64)]
abbrev O67:Aa:=[(false,.int .i64),(false,.int .i64),(false,.int .i64)]
abbrev oD:=Ae xY
abbrev pS:=Ad xY O67
variable (p67:oD)(f67:pS)
abbrev x5:Aa:=[(false,.int .i64),(false,.int .i64)]
abbrev O73:Aa:=[(false,.int .i64)]
abbrev Y73:=Ae x5
abbrev Z73:=Ad x5 O73
variable (p73:Y73)(f73:Z73)
abbrev xZ:Aa:=[(false,.int .i64),(false,.int .u64)]
abbrev O68:Aa:=[(false,.bool)]
abbrev Y68:=Ae xZ
abbrev Z68:=Ad xZ O68
variable (p68:Y68)(f68:Z68)
abbrev wX:Aa:=[(false,.int .i64),(false,.int .i64),(false,.slice (.pair (.int .u64) (.pair (.int .u64) (.unit))))]
abbrev aLM:Aa:=[(false,.int .i64)]
abbrev aMB:Pat:=⟨39,[(0,.one (.v .i64)),(2,.one (.sl (.pair (.int .u64) (.pair (.int .u64) (.unit))))),(8,.one (.v .i64))],[]⟩
abbrev aPO:List (Nat×Pat):=[(0,⟨39,[],[]⟩)]
abbrev aMS:Option Pat:=(some ⟨39,[(6,.one (.v .i64))],[]⟩)
variable (w477_5:Pat.D aMB->Option (Ah aPO aMS))
abbrev aDk:=Ae wX
abbrev aEO:=Ad wX aLM
variable (p477:aDk)(f477:aEO)
abbrev wF:Aa:=[(false,.slice (.int .u64))]
abbrev aLu:Aa:=[(false,.slice (.int .u64))]
abbrev aMw:Pat:=⟨21,[(0,.one (.sl (.int .u64))),(3,.one (.v .i64))],[]⟩
abbrev aPJ:List (Nat×Pat):=[(0,⟨21,[(0,.one (.sl (.int .u64))),(3,.one (.v .i64))],[]⟩)]
abbrev aMN:Option Pat:=none
variable (w158_2:Pat.D aMw->Option (Ah aPJ aMN))
abbrev aCp:=Ae wF
abbrev aDT:=Ad wF aLu
variable (p158:aCp)(f158:aDT)
abbrev v7:Aa:=[(false,.slice (.int .u64))]
abbrev aLo:Aa:=[(false,.slice (.int .u64))]
abbrev aMr:Pat:=⟨30,[(0,.one (.sl (.int .u64))),(4,.one (.v .i64)),(3,.one (.own 0))],[.acc (.int .u64)]⟩
abbrev aPE:List (Nat×Pat):=[(0,⟨30,[(3,.one (.own 0))],[.acc (.int .u64)]⟩)]
abbrev aMI:Option Pat:=none
variable (w125_3:Pat.D aMr->Option (Ah aPE aMI))
abbrev aPV:=Ae v7
abbrev aQI:=Ad v7 aLo
variable (p125:aPV)(f125:aQI)
abbrev x6:Aa:=[(false,.int .i64),(false,.int .u64)]
abbrev O74:Aa:=[(true,.pair (.bool) (.pair (.bool) (.pair (.bool) (.pair (.bool) (.pair (.pair (.bool) (.pair (.slice (.int .u64)) (.pair (.int .i64) (.unit)))) (.unit))))))]
abbrev oG:=Ae x6
abbrev pV:=Ad x6 O74
variable (p74:oG)(f74:pV)
abbrev x7:Aa:=[(false,.int .i64)]
abbrev O75:Aa:=[(false,.int .u64)]
abbrev Y75:=Ae x7
abbrev Z75:=Ad x7 O75
variable (p75:Y75)(f75:Z75)
abbrev x8:Aa:=[(true,.pair (.bool) (.pair (.bool) (.pair (.bool) (.pair (.bool) (.pair (.pair (.bool) (.pair (.slice (.int .u64)) (.pair (.int .i64) (.unit)))) (.unit))))))]
abbrev O76:Aa:=[(false,.bool)]
abbrev oH:=Ae x8
abbrev pW:=Ad x8 O76
variable (p76:oH)(f76:pW)
abbrev v9:Aa:=[(false,.slice (.int .u64)),(false,.int .i64)]
abbrev aLq:Aa:=[(false,.slice (.int .u64))]
abbrev aMs:Pat:=⟨49,[(0,.one (.sl (.int .u64))),(6,.one (.v .u64)),(8,.one (.v .i64)),(5,.one (.own 0)),(7,.one (.v .u64))],[.acc (.int .u64)]⟩
abbrev aPF:List (Nat×Pat):=[(0,⟨49,[(5,.one (.own 0)),(7,.one (.v .u64))],[.acc (.int .u64)]⟩)]
abbrev aMJ:Option Pat:=none
variable (w127_5:Pat.D aMs->Option (Ah aPF aMJ))
abbrev aCf:=Ae v9
abbrev aDJ:=Ad v9 aLq
variable (p127:aCf)(f127:aDJ)
abbrev wC:Aa:=[(false,.slice (.int .u64)),(false,.slice (.int .u64))]
abbrev aLr:Aa:=[(false,.slice (.int .u64))]
abbrev aMt:Pat:=⟨56,[(5,.one (.v .i64)),(0,.one (.sl (.int .u64))),(1,.one (.sl (.int .u64))),(8,.one (.v .i64)),(6,.one (.own 0)),(7,.one (.v .u64))],[.acc (.int .u64)]⟩
abbrev aPG:List (Nat×Pat):=[(0,⟨56,[(6,.one (.own 0)),(7,.one (.v .u64))],[.acc (.int .u64)]⟩)]
abbrev aMK:Option Pat:=none
variable (w128_5:Pat.D aMt->Option (Ah aPG aMK))
abbrev aCg:=Ae wC
abbrev aDK:=Ad wC aLr
variable (p128:aCg)(f128:aDK)
abbrev wD:Aa:=[(false,.slice (.int .u64)),(false,.slice (.int .u64))]
abbrev aLs:Aa:=[(false,.int .i64)]
abbrev aMu:Pat:=⟨41,[(0,.one (.sl (.int .u64))),(1,.one (.sl (.int .u64))),(5,.one (.v .i64))],[]⟩
abbrev aPH:List (Nat×Pat):=[(0,⟨41,[],[]⟩)]
abbrev aML:Option Pat:=(some ⟨41,[(4,.one (.v .i64))],[]⟩)
variable (w129_6:Pat.D aMu->Option (Ah aPH aML))
abbrev aCh:=Ae wD
abbrev aDL:=Ad wD aLs
variable (p129:aCh)(f129:aDL)
end Vx
namespace Vx
open Go Go.Proofs
variable (p65:Dx)(f65:Dy)(p70:De)(f70:Df)(p470:cH)(f470:dD)(p473:cJ)(f473:dE)(p474:n6)(f474:pL)(p476:cK)(f476:dF)(p67:oD)(f67:pS)(p73:Y73)(f73:Z73)(p68:Y68)(f68:Z68)(p477:aDk)(f477:aEO)(p158:aCp)(f158:aDT)(p74:oG)(f74:pV)(p75:Y75)(f75:Z75)(p76:oH)(f76:pW)(p127:aCf)(f127:aDJ)(p128:aCg)(f128:aDK)(p129:aCh)(f129:aDL)
abbrev wE:Aa:=[(false,.slice (.int .u64)),(false,.slice (.int .u64))]
abbrev aLt:Aa:=[(false,.slice (.int .u64))]
abbrev aMv:Pat:=⟨47,[(6,.one (.v .u64)),(1,.one (.sl (.int .u64))),(0,.one (.sl (.int .u64))),(7,.one (.v .i64)),(5,.one (.own 0))],[.arr (.int .u64)]⟩
abbrev aPI:List (Nat×Pat):=[(0,⟨47,[(5,.one (.own 0))],[.arr (.int .u64)]⟩)]
abbrev aMM:Option Pat:=none
variable (w130_4:Pat.D aMv->Option (Ah aPI aMM))
abbrev aPX:=Ae wE
abbrev aQK:=Ad wE aLt
variable (p130:aPX)(f130:aQK)
abbrev yA:Aa:=[(true,.pair (.bool) (.pair (.slice (.int .u64)) (.pair (.int .i64) (.unit)))),(true,.pair (.bool) (.pair (.slice (.int .u64)) (.pair (.int .i64) (.unit))))]
abbrev O78:Aa:=[(true,.pair (.bool) (.pair (.slice (.int .u64)) (.pair (.int .i64) (.unit))))]
abbrev Y78:=Ae yA
abbrev Z78:=Ad yA O78
variable (p78:Y78)(f78:Z78)
abbrev yB:Aa:=[(false,.int .i64),(false,.bool)]
abbrev O81:Aa:=[(false,.int .u64)]
abbrev Y81:=Ae yB
abbrev Z81:=Ad yB O81
variable (p81:Y81)(f81:Z81)
abbrev wV:Aa:=[(false,.int .i64),(false,.bool)]
abbrev O37:Aa:=[(false,.int .u64)]
abbrev Y37:=Ae wV
abbrev Z37:=Ad wV O37
variable (p37:Y37)(f37:Z37)
abbrev wK:Aa:=[(false,.int .i64),(false,.bool)]
abbrev aLz:Aa:=[(false,.int .u64)]
abbrev aP2:=Ae wK
abbrev aQP:=Ad wK aLz
variable (p179:aP2)(f179:aQP)
abbrev wH:Aa:=[(false,.int .i64),(false,.int .i64),(false,.bool)]
abbrev aLw:Aa:=[(false,.int .u64)]
abbrev aPZ:=Ae wH
abbrev aQM:=Ad wH aLw
variable (p160:aPZ)(f160:aQM)
abbrev wJ:Aa:=[(false,.slice (.int .u64))]
abbrev aLy:Aa:=[(false,.slice (.int .u64))]
abbrev aMy:Pat:=⟨41,[(0,.one (.sl (.int .u64))),(4,.one (.v .i64)),(3,.one (.own 0))],[.arr (.int .u64)]⟩
abbrev aPL:List (Nat×Pat):=[(0,⟨41,[(3,.one (.own 0))],[.arr (.int .u64)]⟩)]
abbrev aMP:Option Pat:=none
variable (w162_3:Pat.D aMy->Option (Ah aPL aMP))
abbrev aP1:=Ae wJ
abbrev aQO:=Ad wJ aLy
variable (p162:aP1)(f162:aQO)
abbrev wL:Aa:=[(false,.slice (.int .u64)),(false,.int .i64)]
abbrev aLA:Aa:=[(false,.slice (.int .u64))]
abbrev aMz:Pat:=⟨47,[(0,.one (.sl (.int .u64))),(6,.one (.v .u64)),(7,.one (.v .i64)),(5,.one (.own 0))],[.acc (.int .u64)]⟩
abbrev aPM:List (Nat×Pat):=[(0,⟨47,[(5,.one (.own 0))],[.acc (.int .u64)]⟩)]
abbrev aMQ:Option Pat:=none
variable (w180_4:Pat.D aMz->Option (Ah aPM aMQ))
abbrev aP3:=Ae wL
abbrev aQQ:=Ad wL aLA
variable (p180:aP3)(f180:aQQ)
abbrev wI:Aa:=[(false,.int .i64),(true,.pair (.bool) (.pair (.slice (.int .u64)) (.pair (.int .i64) (.unit)))),(false,.int .i64)]
abbrev aLx:Aa:=[(false,.slice (.int .u64)),(false,.bool)]
abbrev aP0:=Ae wI
abbrev aQN:=Ad wI aLx
variable (p161:aP0)(f161:aQN)
abbrev wG:Aa:=[(false,.slice (.int .u64))]
abbrev aLv:Aa:=[(false,.int .i64)]
abbrev aMx:Pat:=⟨27,[(4,.one (.v .u64)),(3,.one (.v .i64))],[]⟩
abbrev aPK:List (Nat×Pat):=[(0,⟨27,[(3,.one (.v .i64))],[]⟩)]
abbrev aMO:Option Pat:=none
variable (w159_6:Pat.D aMx->Option (Ah aPK aMO))
abbrev aPY:=Ae wG
abbrev aQL:=Ad wG aLv
variable (p159:aPY)(f159:aQL)
abbrev v8:Aa:=[(false,.int .i64),(false,.int .i64),(true,.pair (.bool) (.pair (.slice (.int .u64)) (.pair (.int .i64) (.unit))))]
abbrev aLp:Aa:=[(false,.int .u64),(false,.int .i64)]
abbrev aPW:=Ae v8
abbrev aQJ:=Ad v8 aLp
variable (p126:aPW)(f126:aQJ)
abbrev x9:Aa:=[(false,.int .i64),(false,.int .i64),(true,.pair (.bool) (.pair (.slice (.int .u64)) (.pair (.int .i64) (.unit)))),(false,.bool)]
abbrev O77:Aa:=[(false,.int .u64),(false,.int .i64)]
abbrev Y77:=Ae x9
abbrev Z77:=Ad x9 O77
variable (p77:Y77)(f77:Z77)
abbrev wN:Aa:=[(false,.int .i64),(false,.int .i64),(false,.int .u64),(false,.int .u64)]
abbrev O28:Aa:=[(false,.int .u64),(false,.int .i64),(false,.int .i64)]
abbrev Y28:=Ae wN
abbrev Z28:=Ad wN O28
variable (p28:Y28)(f28:Z28)
abbrev wY:Aa:=[(false,.int .u64),(false,.int .u64)]
abbrev aLN:Aa:=[(false,.int .u64)]
abbrev kY:LK:=.ref (.pair (.int .i64) (.pair (.int .i64) (.pair (.int .i64) .unit)))
abbrev aQd:=LK.D kY×DenS wY->Bool
abbrev aQ0:=LK.D kY×DenS wY->LK.B kY×DenS aLN
variable (p478:aQd)(f478:aQ0)
abbrev wZ:Aa:=[(true,.pair (.int .u64) (.pair (.int .u64) (.unit))),(true,.pair (.int .u64) (.pair (.int .u64) (.unit)))]
abbrev aLO:Aa:=[(true,.pair (.int .u64) (.pair (.int .u64) (.unit)))]
abbrev kZ:LK:=.ref (.pair (.int .i64) (.pair (.int .i64) (.pair (.int .i64) .unit)))
abbrev aQe:=LK.D kZ×DenS wZ->Bool
abbrev aQ1:=LK.D kZ×DenS wZ->LK.B kZ×DenS aLO
variable (p479:aQe)(f479:aQ1)
abbrev w0:Aa:=[(false,.int .i64),(false,.int .i64),(true,.pair (.int .u64) (.pair (.int .u64) (.unit))),(true,.pair (.int .u64) (.pair (.int .u64) (.unit)))]
abbrev aLP:Aa:=[(true,.pair (.int .u64) (.pair (.int .u64) (.unit))),(false,.int .i64),(false,.int .i64)]
abbrev aQf:=Ae w0
abbrev aQ2:=Ad w0 aLP
variable (p480:aQf)(f480:aQ2)
abbrev w6:Aa:=[(false,.slice (.int .u64)),(false,.slice (.int .u64))]
abbrev aLQ:Aa:=[(false,.slice (.int .u64))]
abbrev aMC:Pat:=⟨67,[(0,.one (.sl (.int .u64))),(1,.one (.sl (.int .u64))),(6,.one (.v .i64)),(5,.one (.own 0))],[.arr (.int .u64)]⟩
abbrev aPP:List (Nat×Pat):=[(0,⟨67,[(5,.one (.own 0))],[.arr (.int .u64)]⟩)]
abbrev aMT:Option Pat:=none
abbrev aMD:Pat:=⟨67,[(8,.one (.v .i64)),(7,.one (.v .u64)),(6,.one (.v .i64)),(0,.one (.sl (.int .u64))),(1,.one (.sl (.int .u64))),(5,.one (.own 0))],[.arr (.int .u64)]⟩
abbrev aPQ:List (Nat×Pat):=[(2,⟨67,[(7,.one (.v .u64)),(6,.one (.v .i64)),(0,.one (.sl (.int .u64))),(1,.one (.sl (.int .u64))),(5,.one (.own 0))],[.arr (.int .u64)]⟩)]
abbrev aMU:Option Pat:=none
variable (w481_3:Pat.D aMC->Option (Ah aPP aMT))(w481_7:Pat.D aMD->Option (Ah aPQ aMU))
abbrev aQg:=Ae w6
abbrev aQ3:=Ad w6 aLQ
variable (p481:aQg)(f481:aQ3)
abbrev w7:Aa:=[(true,.pair (.bool) (.pair (.bool) (.pair (.bool) (.pair (.bool) (.pair (.pair (.bool) (.pair (.slice (.int .u64)) (.pair (.int .i64) (.unit)))) (.unit)))))),(true,.pair (.bool) (.pair (.bool) (.pair (.bool) (.pair (.bool) (.pair (.pair (.bool) (.pair (.slice (.int .u64)) (.pair (.int .i64) (.unit)))) (.unit))))))]
abbrev aLR:Aa:=[(true,.pair (.bool) (.pair (.bool) (.pair (.bool) (.pair (.bool) (.pair (.bool) (.pair (.pair (.bool) (.pair (.slice (.int .u64)) (.pair (.int .i64) (.unit)))) (.unit)))))))]
abbrev aQh:=Ae w7
abbrev aQ4:=Ad w7 aLR
variable (p482:aQh)(f482:aQ4)
abbrev w8:Aa:=[(false,.int .u64),(false,.int .u64)]
abbrev aLS:Aa:=[(false,.int .u64)]
abbrev k8:LK:=.ref (.pair (.int .i64) (.pair (.int .i64) (.pair (.int .i64) .unit)))
abbrev aQi:=LK.D k8×DenS w8->Bool
abbrev aQ5:=LK.D k8×DenS w8->LK.B k8×DenS aLS
variable (p483:aQi)(f483:aQ5)
abbrev wO:Aa:=[(false,.int .i64),(false,.int .u64)]
abbrev O32:Aa:=[(false,.int .u64)]
abbrev Y32:=Ae wO
abbrev Z32:=Ad wO O32
variable (p32:Y32)(f32:Z32)
abbrev wM:Aa:=[(false,.int .i64),(false,.int .i64),(false,.int .u64),(false,.int .u64)]
abbrev O26:Aa:=[(false,.int .u64),(false,.int .i64),(false,.int .i64)]
abbrev Y26:=Ae wM
abbrev Z26:=Ad wM O26
variable (p26:Y26)(f26:Z26)
abbrev w9:Aa:=[(false,.int .u64),(false,.int .u64)]
abbrev aLT:Aa:=[(false,.int .u64)]
abbrev k9:LK:=.ref (.pair (.int .i64) (.pair (.int .i64) (.pair (.int .i64) .unit)))
abbrev aQj:=LK.D k9×DenS w9->Bool
abbrev aQ6:=LK.D k9×DenS w9->LK.B k9×DenS aLT
variable (p484:aQj)(f484:aQ6)
abbrev xA:Aa:=[(true,.pair (.int .u64) (.pair (.int .u64) (.unit))),(true,.pair (.int .u64) (.pair (.int .u64) (.unit)))]
abbrev aLU:Aa:=[(true,.pair (.int .u64) (.pair (.int .u64) (.unit)))]
abbrev lA:LK:=.ref (.pair (.int .i64) (.pair (.int .i64) (.pair (.int .i64) .unit)))
abbrev aQk:=LK.D lA×DenS xA->Bool
abbrev aQ7:=LK.D lA×DenS xA->LK.B lA×DenS aLU
variable (p485:aQk)(f485:aQ7)
abbrev xB:Aa:=[(false,.int .i64),(false,.int .i64),(true,.pair (.int .u64) (.pair (.int .u64) (.unit))),(true,.pair (.int .u64) (.pair (.int .u64) (.unit)))]
abbrev aLV:Aa:=[(true,.pair (.int .u64) (.pair (.int .u64) (.unit))),(false,.int .i64),(false,.int .i64)]
abbrev aQl:=Ae xB
abbrev aQ8:=Ad xB aLV
variable (p486:aQl)(f486:aQ8)
abbrev xC:Aa:=[(true,.pair (.int .u64) (.pair (.int .u64) (.unit)))]
abbrev aLW:Aa:=[(true,.pair (.int .u64) (.pair (.int .u64) (.unit)))]
abbrev aDl:=Ae xC
abbrev aEP:=Ad xC aLW
variable (p487:aDl)(f487:aEP)
abbrev xD:Aa:=[(true,.pair (.bool) (.pair (.slice (.int .u64)) (.pair (.int .i64) (.unit)))),(true,.pair (.bool) (.pair (.slice (.int .u64)) (.pair (.int .i64) (.unit)))),(false,.bool)]
abbrev aLX:Aa:=[(true,.pair (.bool) (.pair (.slice (.int .u64)) (.pair (.int .i64) (.unit))))]
abbrev aQm:=Ae xD
abbrev aQ9:=Ad xD aLX
variable (p488:aQm)(f488:aQ9)
abbrev xE:Aa:=[(false,.int .u64),(false,.int .u64)]
abbrev aLY:Aa:=[(false,.int .u64)]
abbrev lB:LK:=.ref (.pair (.int .i64) (.pair (.int .i64) (.pair (.int .i64) .unit)))
abbrev aQn:=LK.D lB×DenS xE->Bool
abbrev aRa:=LK.D lB×DenS xE->LK.B lB×DenS aLY
variable (p489:aQn)(f489:aRa)
abbrev xF:Aa:=[(true,.pair (.int .u64) (.pair (.int .u64) (.unit))),(true,.pair (.int .u64) (.pair (.int .u64) (.unit)))]
abbrev aLZ:Aa:=[(true,.pair (.int .u64) (.pair (.int .u64) (.unit)))]
abbrev lC:LK:=.ref (.pair (.int .i64) (.pair (.int .i64) (.pair (.int .i64) .unit)))
abbrev aQo:=LK.D lC×DenS xF->Bool
abbrev aRb:=LK.D lC×DenS xF->LK.B lC×DenS aLZ
variable (p490:aQo)(f490:aRb)
abbrev xG:Aa:=[(false,.int .i64),(false,.int .i64),(true,.pair (.int .u64) (.pair (.int .u64) (.unit))),(true,.pair (.int .u64) (.pair (.int .u64) (.unit)))]
abbrev aL0:Aa:=[(true,.pair (.int .u64) (.pair (.int .u64) (.unit))),(false,.int .i64),(false,.int .i64)]
abbrev aQp:=Ae xG
abbrev aRc:=Ad xG aL0
variable (p491:aQp)(f491:aRc)
abbrev xH:Aa:=[(true,.pair (.int .u64) (.pair (.int .u64) (.unit))),(true,.pair (.int .u64) (.pair (.int .u64) (.unit)))]
abbrev aL1:Aa:=[(false,.bool)]
abbrev aDn:=Ae xH
abbrev aER:=Ad xH aL1
variable (p492:aDn)(f492:aER)
abbrev xI:Aa:=[(false,.slice (.pair (.int .i64) (.pair (.int .i64) (.pair (.int .i64) (.pair (.pair (.int .u64) (.pair (.int .u64) (.unit))) (.pair (.pair (.int .u64) (.pair (.int .u64) (.unit))) (.unit)))))))]
abbrev aL2:Aa:=[(false,.bool)]
abbrev aME:Pat:=⟨129,[(0,.one (.sl (.pair (.int .i64) (.pair (.int .i64) (.pair (.int .i64) (.pair (.pair (.int .u64) (.pair (.int .u64) (.unit))) (.pair (.pair (.int .u64) (.pair (.int .u64) (.unit))) (.unit)))))))),(3,.one (.v .i64))],[]⟩
abbrev aPR:List (Nat×Pat):=[(0,⟨129,[],[]⟩)]
abbrev aMV:Option Pat:=(some ⟨129,[(2,.one (.bool))],[]⟩)
variable (w493_4:Pat.D aME->Option (Ah aPR aMV))
abbrev aQq:=Ae xI
abbrev aRd:=Ad xI aL2
variable (p493:aQq)(f493:aRd)
abbrev ZA:Aa:=[(false,.int .u64)]
abbrev lL:Aa:=[(false,.flt .f64)]
def Jb:Sum:=aGA .f64
theorem yQ:Sound Tryz.prog G1 18 Jb:=aSS (e:=nr) .f64 Tryz.func18 (by kernel_rfl) (by kernel_rfl) (by kernel_rfl) (by kernel_rfl) (fun _=>rfl)
abbrev bY:=Ae ZA
abbrev cU:=Ad ZA lL
variable (p301:bY)(f301:cU)
abbrev Ir:Aa:=[(true,.pair (.int .u64) (.pair (.int .u64) (.unit)))]
abbrev IT:Aa:=[(false,.cx .f64)]
def aKP(p301:bY)(f301:cU)(a0:Ab (.pair (.int .u64) (.pair (.int .u64) (.unit)))):Option (DenS IT):=bif(p301 (a0.1,()))then(bif(p301 a0.2)then(some (((f301 (a0.1,())).1,(f301 a0.2).1),()))else none)else none
theorem aYO(x:DenS Ir):run (cf [(18,⟨ZA,lL,p301,f301⟩)] []) 9 48 Tryz.f48 Ir IT x=aKP p301 f301 x.1:=by kernel_rfl
def HB(x:DenS Ir):Option (DenS IT):=aKP Jb.pre Jb.F x.1
def DR:Sum:=Ak Ir IT HB (DenS.dflt IT)
theorem mH:Sound Tryz.prog G1 48 DR:=sd (cf [(18,Jb)] []) 48 Tryz.f48 ⟨yQ,trivial⟩ trivial Ir IT HB _ (fun _=>aYO ..)
abbrev W9:=Ae Ir
abbrev Xi:=Ad Ir IT
variable (p494:W9)(f494:Xi)
abbrev ZB:Aa:=[(false,.flt .f64)]
abbrev lM:Aa:=[(false,.int .u64)]
def FE:Sum:=aFm .f64
theorem yR:Sound Tryz.prog G1 49 FE:=aRN (e:=oe) .f64 Tryz.func49 (by kernel_rfl) (by kernel_rfl) (by kernel_rfl) (by kernel_rfl) (fun _=>rfl)
abbrev bZ:=Ae ZB
abbrev cV:=Ad ZB lM
variable (p306:bZ)(f306:cV)
abbrev Kf:Aa:=[(false,.flt .f64)]
abbrev KF:Aa:=[(false,.int .u64)]
def j3(p70:De)(f70:Df)(p306:bZ)(f306:cV)(a0:Ab (.flt .f64)):Option (DenS KF):=bif((Vx.CI bu a0 a0)!=(some pw))then(bif(p70 ((3:Int),()))then(some ((f70 ((3:Int),())).1,()))else none)else bif(p306 (a0,()))then(some (f306 (a0,())))else none
theorem aYP(x:DenS Kf):run (cf [(61,⟨Da,Db,p70,f70⟩),(49,⟨ZB,lM,p306,f306⟩)] []) 9 51 Tryz.f51 Kf KF x=j3 p70 f70 p306 f306 x.1:=by kernel_rfl
def WK(x:DenS Kf):Option (DenS KF):=j3 AR.pre AR.F FE.pre FE.F x.1
def FI:Sum:=Ak Kf KF WK (DenS.dflt KF)
theorem zP:Sound Tryz.prog G1 51 FI:=sd (cf [(61,AR),(49,FE)] []) 51 Tryz.f51 ⟨FK,yR,trivial⟩ trivial Kf KF WK _ (fun _=>aYP ..)
abbrev n8:=Ae Kf
abbrev pN:=Ad Kf KF
variable (p495:n8)(f495:pN)
abbrev Kg:Aa:=[(false,.cx .f64)]
abbrev KG:Aa:=[(true,.pair (.int .u64) (.pair (.int .u64) (.unit)))]
def j5(p495:n8)(f495:pN)(a0:Ab (.cx .f64)):Option (DenS KG):=bif(p495 (a0.1,()))then(bif(p495 (a0.2,()))then(some (((f495 (a0.1,())).1,(f495 (a0.2,()))),()))else none)else none
theorem aYQ(x:DenS Kg):run (cf [(51,⟨Kf,KF,p495,f495⟩)] []) 9 47 Tryz.f47 Kg KG x=j5 p495 f495 x.1:=by kernel_rfl
def Tl(x:DenS Kg):Option (DenS KG):=j5 FI.pre FI.F x.1
def FJ:Sum:=Ak Kg KG Tl (DenS.dflt KG)
theorem zQ:Sound Tryz.prog G1 47 FJ:=sd (cf [(51,FI)] []) 47 Tryz.f47 ⟨zP,trivial⟩ trivial Kg KG Tl _ (fun _=>aYQ ..)
abbrev cL:=Ae Kg
abbrev dG:=Ad Kg KG
variable (p496:cL)(f496:dG)
abbrev Ob:Aa:=[(true,.pair (.int .u64) (.pair (.int .u64) (.unit))),(true,.pair (.int .u64) (.pair (.int .u64) (.unit)))]
abbrev PT:Aa:=[(true,.pair (.int .u64) (.pair (.int .u64) (.unit)))]
def j6(p494:W9)(f494:Xi)(p496:cL)(f496:dG)(a0 a1:Ab (.pair (.int .u64) (.pair (.int .u64) (.unit)))):Option (DenS PT):=let e1_:=(((Vx.AA jz bu (f494 ((a0.1,a0.2),())).1.1 (f494 ((a1.1,a1.2),())).1.1),(Vx.AA jz bu (f494 ((a0.1,a0.2),())).1.2 (f494 ((a1.1,a1.2),())).1.2)),());bif(p494 ((a0.1,a0.2),()))then(bif(p494 ((a1.1,a1.2),()))then(bif(p496 e1_)then(some (f496 e1_))else none)else none)else none
theorem aYR(x:DenS Ob):run (cf [(48,⟨Ir,IT,p494,f494⟩),(47,⟨Kg,KG,p496,f496⟩)] []) 9 19 Tryz.f19 Ob PT x=j6 p494 f494 p496 f496 x.1 x.2.1:=by kernel_rfl
def Tm(x:DenS Ob):Option (DenS PT):=j6 DR.pre DR.F FJ.pre FJ.F x.1 x.2.1
def Qz:Sum:=Ak Ob PT Tm (DenS.dflt PT)
theorem aOm:Sound Tryz.prog G1 19 Qz:=sd (cf [(48,DR),(47,FJ)] []) 19 Tryz.f19 ⟨mH,zQ,trivial⟩ trivial Ob PT Tm _ (fun _=>aYR ..)
abbrev n9:=Ae Ob
abbrev pO:=Ad Ob PT
variable (p497:n9)(f497:pO)
abbrev Oc:Aa:=[(false,.cx .f64),(false,.cx .f64)]
abbrev PU:Aa:=[(false,.cx .f64)]
def aKQ(a0 a1:Ab (.cx .f64)):Option (DenS PU):=some (((Vx.AA pg bu (Vx.AA gm bu a0.1 a1.1) (Vx.AA gm bu a0.2 a1.2)),(Vx.AA jz bu (Vx.AA gm bu a0.1 a1.2) (Vx.AA gm bu a0.2 a1.1))),())
theorem aYS(x:DenS Oc):run (cf [] []) 9 50 Tryz.f50 Oc PU x=aKQ x.1 x.2.1:=by kernel_rfl
def WL(x:DenS Oc):Option (DenS PU):=aKQ x.1 x.2.1
def QA:Sum:=Ak Oc PU WL (DenS.dflt PU)
theorem aOn:Sound Tryz.prog G1 50 QA:=sd (cf [] []) 50 Tryz.f50 trivial trivial Oc PU WL _ (fun _=>aYS ..)
abbrev oA:=Ae Oc
abbrev pP:=Ad Oc PU
variable (p498:oA)(f498:pP)
abbrev Od:Aa:=[(true,.pair (.int .u64) (.pair (.int .u64) (.unit))),(true,.pair (.int .u64) (.pair (.int .u64) (.unit)))]
abbrev PW:Aa:=[(true,.pair (.int .u64) (.pair (.int .u64) (.unit)))]
def j7(p494:W9)(f494:Xi)(p498:oA)(f498:pP)(p496:cL)(f496:dG)(a0 a1:Ab (.pair (.int .u64) (.pair (.int .u64) (.unit)))):Option (DenS PW):=let e2_:=((f494 ((a0.1,a0.2),())).1,(f494 ((a1.1,a1.2),())));let e1_:=(f498 e2_);bif(p494 ((a0.1,a0.2),()))then(bif(p494 ((a1.1,a1.2),()))then(bif(p498 e2_)then(bif(p496 e1_)then(some (f496 e1_))else none)else none)else none)else none
theorem aYT(x:DenS Od):run (cf [(48,⟨Ir,IT,p494,f494⟩),(50,⟨Oc,PU,p498,f498⟩),(47,⟨Kg,KG,p496,f496⟩)] []) 9 21 Tryz.f21 Od PW x=j7 p494 f494 p498 f498 p496 f496 x.1 x.2.1:=by kernel_rfl
def RJ(x:DenS Od):Option (DenS PW):=j7 DR.pre DR.F QA.pre QA.F FJ.pre FJ.F x.1 x.2.1
def QB:Sum:=Ak Od PW RJ (DenS.dflt PW)
theorem aOo:Sound Tryz.prog G1 21 QB:=sd (cf [(48,DR),(50,QA),(47,FJ)] []) 21 Tryz.f21 ⟨mH,aOn,zQ,trivial⟩ trivial Od PW RJ _ (fun _=>aYT ..)
abbrev oB:=Ae Od
abbrev pQ:=Ad Od PW
variable (p499:oB)(f499:pQ)
abbrev Oe:Aa:=[(true,.pair (.int .u64) (.pair (.int .u64) (.unit))),(true,.pair (.int .u64) (.pair (.int .u64) (.unit)))]
abbrev PX:Aa:=[(true,.pair (.int .u64) (.pair (.int .u64) (.unit)))]
def j8(p494:W9)(f494:Xi)(p495:n8)(f495:pN)(a0 a1:Ab (.pair (.int .u64) (.pair (.int .u64) (.unit)))):Option (DenS PX):=let e3_:=(Vx.AA jz bu (Vx.AA gm bu (f494 ((a1.1,a1.2),())).1.1 (f494 ((a1.1,a1.2),())).1.1) (Vx.AA gm bu (f494 ((a1.1,a1.2),())).1.2 (f494 ((a1.1,a1.2),())).1.2));let e1_:=((Vx.AA qg bu (Vx.AA jz bu (Vx.AA gm bu (f494 ((a0.1,a0.2),())).1.1 (f494 ((a1.1,a1.2),())).1.1) (Vx.AA gm bu (f494 ((a0.1,a0.2),())).1.2 (f494 ((a1.1,a1.2),())).1.2)) e3_),());let e2_:=((Vx.AA qg bu (Vx.AA pg bu (Vx.AA gm bu (f494 ((a0.1,a0.2),())).1.2 (f494 ((a1.1,a1.2),())).1.1) (Vx.AA gm bu (f494 ((a0.1,a0.2),())).1.1 (f494 ((a1.1,a1.2),())).1.2)) e3_),());bif(p494 ((a0.1,a0.2),()))then(bif(p494 ((a1.1,a1.2),()))then(bif(p495 e1_)then(bif(p495 e2_)then(some (((f495 e1_).1,(f495 e2_)),()))else none)else none)else none)else none
theorem aYU(x:DenS Oe):run (cf [(48,⟨Ir,IT,p494,f494⟩),(51,⟨Kf,KF,p495,f495⟩)] []) 9 22 Tryz.f22 Oe PX x=j8 p494 f494 p495 f495 x.1 x.2.1:=by kernel_rfl
def Tn(x:DenS Oe):Option (DenS PX):=j8 DR.pre DR.F FI.pre FI.F x.1 x.2.1
def QC:Sum:=Ak Oe PX Tn (DenS.dflt PX)
theorem aOq:Sound Tryz.prog G1 22 QC:=sd (cf [(48,DR),(51,FI)] []) 22 Tryz.f22 ⟨mH,zP,trivial⟩ trivial Oe PX Tn _ (fun _=>aYU ..)
abbrev oC:=Ae Oe
abbrev pR:=Ad Oe PX
variable (p500:oC)(f500:pR)
abbrev xJ:Aa:=[(false,.flt .f64)]
abbrev aL3:Aa:=[(false,.int .u64)]
abbrev aQr:=Ae xJ
abbrev aRe:=Ad xJ aL3
variable (p501:aQr)(f501:aRe)
abbrev xK:Aa:=[(true,.pair (.int .u64) (.pair (.int .u64) (.unit))),(true,.pair (.int .u64) (.pair (.int .u64) (.unit)))]
abbrev aL4:Aa:=[(false,.bool)]
abbrev aQs:=Ae xK
abbrev aRf:=Ad xK aL4
variable (p502:aQs)(f502:aRf)
abbrev xL:Aa:=[(true,.pair (.int .u64) (.pair (.int .u64) (.unit))),(true,.pair (.int .u64) (.pair (.int .u64) (.unit)))]
abbrev aL5:Aa:=[(false,.bool)]
abbrev aQt:=Ae xL
abbrev aRg:=Ad xL aL5
variable (p503:aQt)(f503:aRg)
abbrev xM:Aa:=[(false,.int .i64),(false,.int .u64)]
abbrev aL6:Aa:=[(false,.int .u64)]
abbrev aQu:=Ae xM
abbrev aRh:=Ad xM aL6
variable (p504:aQu)(f504:aRh)
abbrev xN:Aa:=[(false,.int .i64),(false,.int .i64),(false,.slice (.pair (.int .u64) (.pair (.int .u64) (.unit)))),(true,.pair (.int .u64) (.pair (.int .u64) (.unit)))]
abbrev aL7:Aa:=[(true,.pair (.int .u64) (.pair (.int .u64) (.unit))),(false,.int .i64),(false,.int .i64)]
abbrev aMF:Pat:=⟨79,[(7,.one (.ptr 0 0)),(2,.one (.sl (.pair (.int .u64) (.pair (.int .u64) (.unit))))),(14,.one (.v .i64)),(0,.one (.v .i64)),(13,.one (.ptr 3 0)),(12,.one (.ptr 2 0)),(8,.one (.ptr 1 0))],[.raw [.v .u64,.v .u64],.raw [.v .u64,.v .u64],.raw [.v .i64,.v .i64,.v .i64],.raw [.v .u64,.v .u64]]⟩
abbrev aPS:List (Nat×Pat):=[(0,⟨79,[(0,.one (.v .i64)),(13,.one (.ptr 3 0)),(12,.one (.ptr 2 0)),(8,.one (.ptr 1 0))],[.gone,.raw [.v .u64,.v .u64],.raw [.v .i64,.v .i64,.v .i64],.raw [.v .u64,.v .u64]]⟩)]
abbrev aMW:Option Pat:=none
variable (w505_14:Pat.D aMF->Option (Ah aPS aMW))
abbrev aDo:=Ae xN
abbrev aES:=Ad xN aL7
variable (p505:aDo)(f505:aES)
abbrev xO:Aa:=[(false,.int .u64)]
abbrev aL8:Aa:=[(false,.int .u64)]
abbrev lD:LK:=.ref (.pair (.int .i64) (.pair (.int .i64) (.pair (.int .i64) .unit)))
abbrev aDp:=LK.D lD×DenS xO->Bool
abbrev aET:=LK.D lD×DenS xO->LK.B lD×DenS aL8
variable (p506:aDp)(f506:aET)
end Vx
namespace Vx
open Go Go.Proofs
variable (p69:Bq)(f69:Br)(p91:Gz)(f91:GD)(p65:Dx)(f65:Dy)(p140:Tv)(f140:TD)(p70:De)(f70:Df)(p118:HD)(f118:HG)(p173:AZ)(f173:A1)(p151:Jr)(f151:Ju)(p171:QL)(f171:QO)(p186:RP)(f186:RX)(p185:RO)(f185:RW)(p176:RN)(f176:RV)(p141:RL)(f141:RT)(p143:LM)(f143:LP)(p97:LO)(f97:LR)(p122:Gx)(f122:GB)(p144:HE)(f144:HH)(p333:nH)(f333:oT)(p311:cA)(f311:cW)(p313:cB)(f313:cX)(p324:nF)(f324:oR)(p325:nG)(f325:oS)(p468:n4)(f468:pJ)(p469:W8)(f469:Xh)(p470:cH)(f470:dD)(p473:cJ)(f473:dE)(p474:n6)(f474:pL)(p475:n7)(f475:pM)(p476:cK)(f476:dF)(p67:oD)(f67:pS)(p74:oG)(f74:pV)(p76:oH)(f76:pW)(p32:Y32)(f32:Z32)(p487:aDl)(f487:aEP)(p492:aDn)(f492:aER)(p301:bY)(f301:cU)(p494:W9)(f494:Xi)(p306:bZ)(f306:cV)(p496:cL)(f496:dG)(p497:n9)(f497:pO)(p498:oA)(f498:pP)(p499:oB)(f499:pQ)(p500:oC)(f500:pR)(p505:aDo)(f505:aES)(p506:aDp)(f506:aET)
abbrev xP:Aa:=[(false,.int .i64),(false,.int .i64),(false,.slice (.pair (.int .u64) (.pair (.int .u64) (.unit)))),(true,.pair (.int .u64) (.pair (.int .u64) (.unit)))]
abbrev aL9:Aa:=[(true,.pair (.int .u64) (.pair (.int .u64) (.unit))),(false,.int .i64),(false,.int .i64)]
abbrev aMG:Pat:=⟨77,[(51,.one (.v .i64)),(50,.one (.sl (.pair (.int .u64) (.pair (.int .u64) (.unit))))),(7,.one (.ptr 0 0)),(52,.one (.v .i64)),(13,.one (.ptr 4 0)),(11,.one (.ptr 3 0)),(8,.one (.ptr 1 0))],[.raw [.v .u64,.v .u64],.raw [.v .u64,.v .u64],.gone,.raw [.v .i64,.v .i64,.v .i64],.raw [.v .u64,.v .u64]]⟩
abbrev aPT:List (Nat×Pat):=[(0,⟨77,[(13,.one (.ptr 4 0)),(11,.one (.ptr 3 0)),(8,.one (.ptr 1 0))],[.gone,.raw [.v .u64,.v .u64],.gone,.raw [.v .i64,.v .i64,.v .i64],.raw [.v .u64,.v .u64]]⟩)]
abbrev aMX:Option Pat:=none
variable (w507_12:Pat.D aMG->Option (Ah aPT aMX))
abbrev aQv:=Ae xP
abbrev aRi:=Ad xP aL9
variable (p507:aQv)(f507:aRi)
abbrev xQ:Aa:=[(false,.slice (.pair (.int .u64) (.pair (.int .u64) (.unit)))),(true,.pair (.int .u64) (.pair (.int .u64) (.unit)))]
abbrev aMa:Aa:=[(true,.pair (.int .u64) (.pair (.int .u64) (.unit))),(false,.int .i64)]
abbrev aMH:Pat:=⟨40,[(26,.one (.v .i64)),(25,.one (.sl (.pair (.int .u64) (.pair (.int .u64) (.unit))))),(7,.one (.cx .f64)),(27,.one (.v .i64)),(6,.one (.cx .f64)),(4,.one (.ptr 1 0))],[.gone,.raw [.v .u64,.v .u64]]⟩
abbrev aPU:List (Nat×Pat):=[(0,⟨40,[(6,.one (.cx .f64)),(4,.one (.ptr 1 0))],[.gone,.raw [.v .u64,.v .u64]]⟩)]
abbrev aMY:Option Pat:=none
variable (w508_7:Pat.D aMH->Option (Ah aPU aMY))
abbrev aQw:=Ae xQ
abbrev aRj:=Ad xQ aMa
variable (p508:aQw)(f508:aRj)
abbrev xR:Aa:=[(false,.int .i64),(false,.int .i64),(false,.slice (.pair (.int .u64) (.pair (.int .u64) (.unit)))),(true,.pair (.int .u64) (.pair (.int .u64) (.unit)))]
abbrev aMb:Aa:=[(false,.bool)]
abbrev aQx:=Ae xR
abbrev aRk:=Ad xR aMb
variable (p509:aQx)(f509:aRk)
abbrev xS:Aa:=[(false,.int .i64),(false,.int .i64)]
abbrev aMc:Aa:=[(false,.int .i64)]
abbrev aQy:=Ae xS
abbrev aRl:=Ad xS aMc
variable (p510:aQy)(f510:aRl)
abbrev xT:Aa:=[(true,.pair (.int .i64) (.pair (.int .i64) (.pair (.pair (.int .u64) (.pair (.int .u64) (.unit))) (.pair (.pair (.int .u64) (.pair (.int .u64) (.unit))) (.unit)))))]
abbrev aMd:Aa:=[(true,.pair (.int .i64) (.pair (.int .i64) (.pair (.pair (.int .u64) (.pair (.int .u64) (.unit))) (.pair (.pair (.int .u64) (.pair (.int .u64) (.unit))) (.unit)))))]
abbrev aQz:=Ae xT
abbrev aRm:=Ad xT aMd
variable (p511:aQz)(f511:aRm)
abbrev wP:Aa:=[(false,.int .i64)]
abbrev aLE:Aa:=[(false,.bool)]
abbrev aP6:=Ae wP
abbrev aQT:=Ad wP aLE
variable (p323:aP6)(f323:aQT)
abbrev wQ:Aa:=[(false,.int .u64),(false,.int .i64)]
abbrev aLF:Aa:=[(false,.slice (.int .u64))]
abbrev aP7:=Ae wQ
abbrev aQU:=Ad wQ aLF
variable (p326:aP7)(f326:aQU)
abbrev wR:Aa:=[(false,.slice (.int .u64))]
abbrev aLG:Aa:=[(false,.slice (.int .u64)),(false,.bool),(false,.int .i64)]
abbrev aMA:Pat:=⟨45,[(5,.one (.sl (.int .u64))),(0,.one (.sl (.int .u64)))],[]⟩
abbrev aPN:List (Nat×Pat):=[(0,⟨45,[(5,.one (.sl (.int .u64))),(0,.one (.sl (.int .u64)))],[]⟩)]
abbrev aMR:Option Pat:=none
variable (w334_7:Pat.D aMA->Option (Ah aPN aMR))
abbrev aP8:=Ae wR
abbrev aQV:=Ad wR aLG
variable (p334:aP8)(f334:aQV)
abbrev wS:Aa:=[(false,.int .i64),(false,.int .i64),(false,.slice (.int .u64)),(false,.int .i64),(false,.bool)]
abbrev aLH:Aa:=[(false,.int .u64),(false,.int .i64),(false,.int .i64)]
abbrev aP9:=Ae wS
abbrev aQW:=Ad wS aLH
variable (p335:aP9)(f335:aQW)
abbrev wT:Aa:=[(false,.int .i64),(false,.int .i64),(false,.int .u64),(false,.int .u64)]
abbrev aLI:Aa:=[(false,.int .u64),(false,.int .i64),(false,.int .i64)]
abbrev aQa:=Ae wT
abbrev aQX:=Ad wT aLI
variable (p336:aQa)(f336:aQX)
abbrev xU:Aa:=[(false,.int .i64),(false,.int .i64),(true,.pair (.int .u64) (.pair (.int .u64) (.unit)))]
abbrev aMe:Aa:=[(false,.int .u64),(false,.int .i64),(false,.int .i64)]
abbrev aQA:=Ae xU
abbrev aRn:=Ad xU aMe
variable (p512:aQA)(f512:aRn)
abbrev xV:Aa:=[(false,.int .i64),(false,.int .u64),(false,.int .u64)]
abbrev aMf:Aa:=[(false,.bool)]
abbrev aQB:=Ae xV
abbrev aRo:=Ad xV aMf
variable (p513:aQB)(f513:aRo)
abbrev xW:Aa:=[(false,.int .i64),(true,.pair (.int .u64) (.pair (.int .u64) (.unit))),(true,.pair (.int .u64) (.pair (.int .u64) (.unit)))]
abbrev aMg:Aa:=[(false,.bool)]
abbrev aQC:=Ae xW
abbrev aRp:=Ad xW aMg
variable (p514:aQC)(f514:aRp)
abbrev wU:Aa:=[(false,.int .i64),(false,.bool),(false,.int .u64),(false,.int .u64)]
abbrev aLJ:Aa:=[(false,.int .u64),(false,.int .i64)]
abbrev aQb:=Ae wU
abbrev aQY:=Ad wU aLJ
variable (p349:aQb)(f349:aQY)
abbrev xX:Aa:=[(true,.pair (.int .i64) (.pair (.int .i64) (.pair (.pair (.int .u64) (.pair (.int .u64) (.unit))) (.pair (.pair (.int .u64) (.pair (.int .u64) (.unit))) (.unit)))))]
abbrev aMh:Aa:=[(false,.bool)]
abbrev aQD:=Ae xX
abbrev aRq:=Ad xX aMh
variable (p515:aQD)(f515:aRq)
abbrev Of:Aa:=[(false,.flt .f64)]
abbrev PY:Aa:=[(false,.int .u64)]
def j9(p306:bZ)(f306:cV)(a0:Ab (.flt .f64)):Option (DenS PY):=bif((Vx.CI bu a0 a0)!=(some pw))then(some ((9221120237041090560:Int),()))else bif(p306 (a0,()))then(some (f306 (a0,())))else none
theorem aYW(x:DenS Of):run (cf [(49,⟨ZB,lM,p306,f306⟩)] []) 9 35 Tryz.f35 Of PY x=j9 p306 f306 x.1:=by kernel_rfl
def WM(x:DenS Of):Option (DenS PY):=j9 FE.pre FE.F x.1
def QD:Sum:=Ak Of PY WM (DenS.dflt PY)
theorem aOr:Sound Tryz.prog G1 35 QD:=sd (cf [(49,FE)] []) 35 Tryz.f35 ⟨yR,trivial⟩ trivial Of PY WM _ (fun _=>aYW ..)
abbrev aDq:=Ae Of
abbrev aEU:=Ad Of PY
variable (p516:aDq)(f516:aEU)
abbrev I517:Aa:=[(true,.pair (.int .u64) (.pair (.int .u64) (.pair (.int .u64) (.pair (.int .u64) (.unit)))))]
abbrev Rs:Aa:=[(false,.bool)]
def kA(p301:bY)(f301:cU)(p497:n9)(f497:pO)(p499:oB)(f499:pQ)(p516:aDq)(f516:aEU)(p476:cK)(f476:dF)(p470:cH)(f470:dD)(p473:cJ)(f473:dE)(p500:oC)(f500:pR)(a0:Ab (.pair (.int .u64) (.pair (.int .u64) (.pair (.int .u64) (.pair (.int .u64) (.unit)))))):Option (DenS Rs):=let e17_:=((3:Int),(0:Int),(a0.1,a0.2.1,()),a0.2.2,());let e13_:=(f476 e17_);let e14_:=(f470 e17_);let e15_:=(f473 e17_);let e1_:=((((e13_.2.2.1==(0:Int))&&(e14_.2.2.1==(0:Int)))&&(e15_.2.2.1==(0:Int)))&&((e13_.1.1==(f497 ((a0.1,a0.2.1,()),a0.2.2,())).1.1)&&(e13_.1.2.1==(f497 ((a0.1,a0.2.1,()),a0.2.2,())).1.2.1)));let e11_:=((Vx.AA pg bu (Vx.AA gm bu (f301 (a0.1,())).1 (f301 (a0.2.2.1,())).1) (Vx.AA gm bu (f301 (a0.2.1,())).1 (f301 a0.2.2.2).1)),());let e2_:=((f499 ((a0.1,a0.2.1,()),a0.2.2,())).1.1 !=(f516 e11_).1);let e3_:=((e14_.1.1==(f499 ((a0.1,a0.2.1,()),a0.2.2,())).1.1)&&(e14_.1.2.1==(f499 ((a0.1,a0.2.1,()),a0.2.2,())).1.2.1));let e4_:=((Vx.AA jz bu (Vx.AA gm bu (f301 (a0.1,())).1 (f301 a0.2.2.2).1) (Vx.AA gm bu (f301 (a0.2.1,())).1 (f301 (a0.2.2.1,())).1)),());let e12_:=((Vx.AA jz bu (f301 (a0.1,())).1 (f301 (a0.2.2.1,())).1),());let e5_:=((f497 ((a0.1,a0.2.1,()),a0.2.2,())).1.1 !=(f516 e12_).1);let e16_:=((4607182418800017408:Int),(4611686018427387904:Int),());let e6_:=(f499 (e16_,e16_,()));let e7_:=((Vx.AA jz bu (f301 (a0.2.1,())).1 (f301 a0.2.2.2).1),());let e8_:=e15_;let e9_:=e16_;let e10_:=e17_;bif(p499 (e9_,e9_,()))then(bif((e6_.1.1 !=(13837309855095848960:Int))||(e6_.1.2.1 !=(4616189618054758400:Int)))then(some (false,()))else bif(p301 (a0.1,()))then(bif(p301 (a0.2.1,()))then(bif(p301 (a0.2.2.1,()))then(bif(p301 a0.2.2.2)then(bif(p497 ((a0.1,a0.2.1,()),a0.2.2,()))then(bif(p499 ((a0.1,a0.2.1,()),a0.2.2,()))then(bif(p516 e12_)then(bif((p516 e7_)||(!(bif e5_ then false else true)))then(bif(e5_||((f497 ((a0.1,a0.2.1,()),a0.2.2,())).1.2.1 !=(f516 e7_).1))then(some (false,()))else bif(p516 e11_)then(bif((p516 e4_)||(!(bif e2_ then false else true)))then(bif(e2_||((f499 ((a0.1,a0.2.1,()),a0.2.2,())).1.2.1 !=(f516 e4_).1))then(some (false,()))else bif(p476 e10_)then(bif(p470 e10_)then(bif(p473 e10_)then(bif((p500 ((a0.1,a0.2.1,()),a0.2.2,()))||(!(bif e1_ then e3_ else false)))then(some (((e1_&&e3_)&&((e8_.1.1==(f500 ((a0.1,a0.2.1,()),a0.2.2,())).1.1)&&(e8_.1.2.1==(f500 ((a0.1,a0.2.1,()),a0.2.2,())).1.2.1))),()))else none)else none)else none)else none)else none)else none)else none)else none)else none)else none)else none)else none)else none)else none)else none
theorem aYX(x:DenS I517):run (cf [(18,⟨ZA,lL,p301,f301⟩),(19,⟨Ob,PT,p497,f497⟩),(21,⟨Od,PW,p499,f499⟩),(35,⟨Of,PY,p516,f516⟩),(10,⟨N9,PR,p476,f476⟩),(13,⟨N4,PM,p470,f470⟩),(15,⟨N7,PP,p473,f473⟩),(22,⟨Oe,PX,p500,f500⟩)] []) 9 8 Tryz.f8 I517 Rs x=kA p301 f301 p497 f497 p499 f499 p516 f516 p476 f476 p470 f470 p473 f473 p500 f500 x.1:=by kernel_rfl
def T517(x:DenS I517):Option (DenS Rs):=kA Jb.pre Jb.F Qz.pre Qz.F QB.pre QB.F QD.pre QD.F Qy.pre Qy.F Qt.pre Qt.F Qw.pre Qw.F QC.pre QC.F x.1
def aOs:Sum:=Ak I517 Rs T517 (DenS.dflt Rs)
theorem S517_sound:Sound Tryz.prog G1 8 aOs:=sd (cf [(18,Jb),(19,Qz),(21,QB),(35,QD),(10,Qy),(13,Qt),(15,Qw),(22,QC)] []) 8 Tryz.f8 ⟨yQ,aOm,aOo,aOr,aOl,aOg,aOj,aOq,trivial⟩ trivial I517 Rs T517 _ (fun _=>aYX ..)
abbrev aQE:=Ae I517
abbrev aRr:=Ad I517 Rs
variable (p517:aQE)(f517:aRr)
end Vx
namespace Vx
open Go
theorem Ay{I O:Aa}{T:DenS I->Option (DenS O)}{d:DenS O}{x:DenS I}{y:DenS O}(h:T x=some y):(Ak I O T d).pre x=true:=by
 show(T x).isSome=true;rw[h];rfl
theorem Ax{I O:Aa}{T:DenS I->Option (DenS O)}{d:DenS O}{x:DenS I}{y:DenS O}(h:T x=some y):(Ak I O T d).F x=y:=by
 show(T x).getD d=y;rw[h];rfl
theorem GO{k:LK}{I O:Aa}{T:k.D×DenS I->Option (k.B×DenS O)}{d:k.B×DenS O}{x:k.D×DenS I}{y:k.B×DenS O}(h:T x=some y):(D7 k I O T d).pre x=true:=by
 show(T x).isSome=true;rw[h];rfl
theorem GN{k:LK}{I O:Aa}{T:k.D×DenS I->Option (k.B×DenS O)}{d:k.B×DenS O}{x:k.D×DenS I}{y:k.B×DenS O}(h:T x=some y):(D7 k I O T d).F x=y:=by
 show(T x).getD d=y;rw[h];rfl
theorem CM{x y}(h:Tp x=some y):An.pre x=true:=Ay h
theorem CJ{x y}(h:Tp x=some y):An.F x=y:=Ax h
theorem HZ{x y}(h:WO x=some y):Aq.pre x=true:=Ay h
theorem HR{x y}(h:WO x=some y):Aq.F x=y:=Ax h
theorem gF{x y}(h:WR x=some y):Bu.pre x=true:=Ay h
theorem fE{x y}(h:WR x=some y):Bu.F x=y:=Ax h
theorem uI{x y}(h:WQ x=some y):Dl.pre x=true:=Ay h
theorem sI{x y}(h:WQ x=some y):Dl.F x=y:=Ax h
theorem Rf{x y}(h:To x=some y):AY.pre x=true:=Ay h
theorem Q6{x y}(h:To x=some y):AY.F x=y:=Ax h
theorem gE{x y}(h:Tq x=some y):AR.pre x=true:=Ay h
theorem fD{x y}(h:Tq x=some y):AR.F x=y:=Ax h
theorem uL{x y}(h:WU x=some y):BT.pre x=true:=Ay h
theorem sL{x y}(h:WU x=some y):BT.F x=y:=Ax h
theorem aIN{x y}(h:WP x=some y):QF.pre x=true:=Ay h
theorem aGZ{x y}(h:WP x=some y):QF.F x=y:=Ax h
theorem aIu{x y}(h:RC x=some y):AH.pre x=true:=Ay h
theorem aGH{x y}(h:RC x=some y):AH.F x=y:=Ax h
theorem aVB{x y}(h:S6 x=some y):AJ.pre x=true:=Ay h
theorem aS0{x y}(h:S6 x=some y):AJ.F x=y:=Ax h
theorem aVC{x y}(h:VS x=some y):Lc.pre x=true:=Ay h
theorem aS1{x y}(h:VS x=some y):Lc.F x=y:=Ax h
theorem aVD{x y}(h:VW x=some y):DX.pre x=true:=Ay h
theorem aS2{x y}(h:VW x=some y):DX.F x=y:=Ax h
theorem uB{x y}(h:VX x=some y):BB.pre x=true:=Ay h
theorem sA{x y}(h:VX x=some y):BB.F x=y:=Ax h
theorem Yt{x y}(h:VQ x=some y):Bx.pre x=true:=Ay h
theorem XS{x y}(h:VQ x=some y):Bx.F x=y:=Ax h
theorem aVH{x y}(h:V2 x=some y):P8.pre x=true:=Ay h
theorem aS6{x y}(h:V2 x=some y):P8.F x=y:=Ax h
theorem aIr{x y}(h:VJ x=some y):E4.pre x=true:=Ay h
theorem aGE{x y}(h:VJ x=some y):E4.F x=y:=Ax h
theorem C9{x y}(h:RF x=some y):Ai.pre x=true:=Ay h
theorem C7{x y}(h:RF x=some y):Ai.F x=y:=Ax h
theorem aVG{x y}(h:V1 x=some y):CA.pre x=true:=Ay h
theorem aS5{x y}(h:V1 x=some y):CA.F x=y:=Ax h
theorem t9{x y}(h:S5 x=some y):BR.pre x=true:=Ay h
theorem r8{x y}(h:S5 x=some y):BR.F x=y:=Ax h
theorem aIy{x y}(h:V7 x=some y):Cd.pre x=true:=Ay h
theorem aGL{x y}(h:V7 x=some y):Cd.F x=y:=Ax h
theorem Sv{x y}(h:S8 x=some y):BS.pre x=true:=Ay h
theorem Se{x y}(h:S8 x=some y):BS.F x=y:=Ax h
theorem aVJ{x y}(h:V6 x=some y):Hz.pre x=true:=Ay h
theorem aS8{x y}(h:V6 x=some y):Hz.F x=y:=Ax h
theorem aVI{x y}(h:V3 x=some y):SW.pre x=true:=Ay h
theorem aS7{x y}(h:V3 x=some y):SW.F x=y:=Ax h
theorem aIt{x y}(h:VO x=some y):BO.pre x=true:=Ay h
theorem aGG{x y}(h:VO x=some y):BO.F x=y:=Ax h
theorem aVz{x y}(h:VN x=some y):P6.pre x=true:=Ay h
theorem aSY{x y}(h:VN x=some y):P6.F x=y:=Ax h
theorem aIx{x y}(h:S9 x=some y):CB.pre x=true:=Ay h
theorem aGK{x y}(h:S9 x=some y):CB.F x=y:=Ax h
theorem uJ{x y}(h:WS x=some y):B2.pre x=true:=Ay h
theorem sJ{x y}(h:WS x=some y):B2.F x=y:=Ax h
theorem aVK{x y}(h:V8 x=some y):P9.pre x=true:=Ay h
theorem aS9{x y}(h:V8 x=some y):P9.F x=y:=Ax h
theorem f9{x y}(h:Tb x=some y):S3.pre x=true:=Ay h
theorem eX{x y}(h:Tb x=some y):S3.F x=y:=Ax h
theorem uF{x y}(h:RI x=some y):Dd.pre x=true:=Ay h
theorem sE{x y}(h:RI x=some y):Dd.F x=y:=Ax h
theorem uE{x y}(h:QH x=some y):Ei.pre x=true:=Ay h
theorem sD{x y}(h:QH x=some y):Ei.F x=y:=Ax h
theorem Yv{x y}(h:RG x=some y):Dv.pre x=true:=Ay h
theorem XU{x y}(h:RG x=some y):Dv.F x=y:=Ax h
theorem Re{x y}(h:QG x=some y):EF.pre x=true:=Ay h
theorem Q5{x y}(h:QG x=some y):EF.F x=y:=Ax h
theorem UR{x y}(h:RH x=some y):S4.pre x=true:=Ay h
theorem T5{x y}(h:RH x=some y):S4.F x=y:=Ax h
theorem Ms{x y}(h:RD x=some y):C5.pre x=true:=Ay h
theorem Mg{x y}(h:RD x=some y):C5.F x=y:=Ax h
theorem aIv{x y}(h:S7 x=some y):Hy.pre x=true:=Ay h
theorem aGI{x y}(h:S7 x=some y):Hy.F x=y:=Ax h
theorem uK{x y}(h:WT x=some y):CC.pre x=true:=Ay h
theorem sK{x y}(h:WT x=some y):CC.F x=y:=Ax h
theorem aVY{x y}(h:Wz x=some y):Jd.pre x=true:=Ay h
theorem aTn{x y}(h:Wz x=some y):Jd.F x=y:=Ax h
theorem uD{x y}(h:V4 x=some y):SX.pre x=true:=Ay h
theorem sC{x y}(h:V4 x=some y):SX.F x=y:=Ax h
theorem aIw{x y}(h:V5 x=some y):SY.pre x=true:=Ay h
theorem aGJ{x y}(h:V5 x=some y):SY.F x=y:=Ax h
theorem aIs{x y}(h:VK x=some y):E5.pre x=true:=Ay h
theorem aGF{x y}(h:VK x=some y):E5.F x=y:=Ax h
theorem Yu{x y}(h:VT x=some y):BP.pre x=true:=Ay h
theorem XT{x y}(h:VT x=some y):BP.F x=y:=Ax h
theorem aWc{x y}(h:Tr x=some y):QE.pre x=true:=Ay h
theorem aTB{x y}(h:Tr x=some y):QE.F x=y:=Ax h
theorem uG{x y}(h:Wa x=some y):E7.pre x=true:=Ay h
theorem sG{x y}(h:Wa x=some y):E7.F x=y:=Ax h
theorem aVy{x y}(h:VM x=some y):E6.pre x=true:=Ay h
theorem aSX{x y}(h:VM x=some y):E6.F x=y:=Ax h
theorem aWb{x y}(h:WN x=some y):EG.pre x=true:=Ay h
theorem aTA{x y}(h:WN x=some y):EG.F x=y:=Ax h
theorem aVL{x y}(h:V9 x=some y):Ld.pre x=true:=Ay h
theorem aTa{x y}(h:V9 x=some y):Ld.F x=y:=Ax h
theorem gA{x y}(h:Td x=some y):Qb.pre x=true:=Ay h
theorem eY{x y}(h:Td x=some y):Qb.F x=y:=Ax h
theorem aIB{x y}(h:Wm x=some y):Qc.pre x=true:=Ay h
theorem aGO{x y}(h:Wm x=some y):Qc.F x=y:=Ax h
theorem aIC{x y}(h:Wn x=some y):Qd.pre x=true:=Ay h
theorem aGP{x y}(h:Wn x=some y):Qd.F x=y:=Ax h
theorem aID{x y}(h:Wo x=some y):Qe.pre x=true:=Ay h
theorem aGQ{x y}(h:Wo x=some y):Qe.F x=y:=Ax h
theorem uH{x y}(h:Wb x=some y):AQ.pre x=true:=Ay h
theorem sH{x y}(h:Wb x=some y):AQ.F x=y:=Ax h
theorem aVM{x y}(h:Wc x=some y):DY.pre x=true:=Ay h
theorem aTb{x y}(h:Wc x=some y):DY.F x=y:=Ax h
theorem aVS{x y}(h:Wp x=some y):Le.pre x=true:=Ay h
theorem aTh{x y}(h:Wp x=some y):Le.F x=y:=Ax h
theorem aVT{x y}(h:Te x=some y):Qf.pre x=true:=Ay h
theorem aTi{x y}(h:Te x=some y):Qf.F x=y:=Ax h
theorem aIE{x y}(h:Wq x=some y):Qg.pre x=true:=Ay h
theorem aGR{x y}(h:Wq x=some y):Qg.F x=y:=Ax h
theorem aIF{x y}(h:Wt x=some y):Qh.pre x=true:=Ay h
theorem aGS{x y}(h:Wt x=some y):Qh.F x=y:=Ax h
theorem aIG{x y}(h:Wy x=some y):Dj.pre x=true:=Ay h
theorem aGT{x y}(h:Wy x=some y):Dj.F x=y:=Ax h
theorem uA{x y}(h:RB x=some y):Dc.pre x=true:=Ay h
theorem r9{x y}(h:RB x=some y):Dc.F x=y:=Ax h
theorem aIz{x y}(h:We x=some y):Bz.pre x=true:=Ay h
theorem aGM{x y}(h:We x=some y):Bz.F x=y:=Ax h
theorem aIA{x y}(h:Wf x=some y):AS.pre x=true:=Ay h
theorem aGN{x y}(h:Wf x=some y):AS.F x=y:=Ax h
theorem aVE{x y}(h:VY x=some y):Eh.pre x=true:=Ay h
theorem aS3{x y}(h:VY x=some y):Eh.F x=y:=Ax h
theorem uC{x y}(h:VZ x=some y):By.pre x=true:=Ay h
theorem sB{x y}(h:VZ x=some y):By.F x=y:=Ax h
theorem aVN{x y}(h:Wg x=some y):B1.pre x=true:=GO h
theorem aTc{x y}(h:Wg x=some y):B1.F x=y:=GN h
theorem aVO{x y}(h:Wh x=some y):CO.pre x=true:=GO h
theorem aTd{x y}(h:Wh x=some y):CO.F x=y:=GN h
theorem aVP{x y}(h:Wj x=some y):Ej.pre x=true:=GO h
theorem aTe{x y}(h:Wj x=some y):Ej.F x=y:=GN h
theorem aVQ{x y}(h:Wk x=some y):Qa.pre x=true:=Ay h
theorem aTf{x y}(h:Wk x=some y):Qa.F x=y:=Ax h
theorem aVR{x y}(h:Wl x=some y):Ek.pre x=true:=Ay h
theorem aTg{x y}(h:Wl x=some y):Ek.F x=y:=Ax h
theorem aVA{x y}(h:VP x=some y):P7.pre x=true:=Ay h
theorem aSZ{x y}(h:VP x=some y):P7.F x=y:=Ax h
theorem aVF{x y}(h:V0 x=some y):Du.pre x=true:=Ay h
theorem aS4{x y}(h:V0 x=some y):Du.F x=y:=Ax h
theorem aVU{x y}(h:Wu x=some y):Qi.pre x=true:=Ay h
theorem aTj{x y}(h:Wu x=some y):Qi.F x=y:=Ax h
theorem aVV{x y}(h:Wv x=some y):Qj.pre x=true:=Ay h
theorem aTk{x y}(h:Wv x=some y):Qj.F x=y:=Ax h
theorem aVW{x y}(h:Ww x=some y):Lf.pre x=true:=Ay h
theorem aTl{x y}(h:Ww x=some y):Lf.F x=y:=Ax h
theorem gB{x y}(h:Wx x=some y):C6.pre x=true:=Ay h
theorem eZ{x y}(h:Wx x=some y):C6.F x=y:=Ax h
theorem aIH{x y}(h:Tf x=some y):Qo.pre x=true:=Ay h
theorem aGU{x y}(h:Tf x=some y):Qo.F x=y:=Ax h
theorem aVX{x y}(h:Tg x=some y):Qp.pre x=true:=Ay h
theorem aTm{x y}(h:Tg x=some y):Qp.F x=y:=Ax h
theorem aII{x y}(h:Li x=some y):Lg.pre x=true:=Ay h
theorem fA{x y}(h:Li x=some y):Lg.F x=y:=Ax h
theorem aVZ{x y}(h:WA x=some y):Qq.pre x=true:=Ay h
theorem aTo{x y}(h:WA x=some y):Qq.F x=y:=Ax h
theorem aV0{x y}(h:QI x=some y):Qr.pre x=true:=Ay h
theorem aTp{x y}(h:QI x=some y):Qr.F x=y:=Ax h
theorem gC{x y}(h:WB x=some y):CV.pre x=true:=GO h
theorem fB{x y}(h:WB x=some y):CV.F x=y:=GN h
theorem JR{x y}(h:WC x=some y):FG.pre x=true:=GO h
theorem JI{x y}(h:WC x=some y):FG.F x=y:=GN h
theorem aIJ{x y}(h:WD x=some y):FH.pre x=true:=GO h
theorem aGV{x y}(h:WD x=some y):FH.F x=y:=GN h
theorem Yw{x y}(h:WE x=some y):DP.pre x=true:=GO h
theorem XV{x y}(h:WE x=some y):DP.F x=y:=GN h
theorem aV1{x y}(h:WG x=some y):Qs.pre x=true:=GO h
theorem aTq{x y}(h:WG x=some y):Qs.F x=y:=GN h
theorem US{x y}(h:QJ x=some y):DQ.pre x=true:=GO h
theorem T6{x y}(h:QJ x=some y):DQ.F x=y:=GN h
theorem aV2{x y}(h:Th x=some y):Qt.pre x=true:=Ay h
theorem aTr{x y}(h:Th x=some y):Qt.F x=y:=Ax h
theorem aIK{x y}(h:WH x=some y):Qu.pre x=true:=GO h
theorem aGW{x y}(h:WH x=some y):Qu.F x=y:=GN h
theorem aV3{x y}(h:WI x=some y):Qv.pre x=true:=GO h
theorem aTs{x y}(h:WI x=some y):Qv.F x=y:=GN h
theorem aV4{x y}(h:Ti x=some y):Qw.pre x=true:=Ay h
theorem aTt{x y}(h:Ti x=some y):Qw.F x=y:=Ax h
theorem aV5{x y}(h:WJ x=some y):Qx.pre x=true:=GO h
theorem aTu{x y}(h:WJ x=some y):Qx.F x=y:=GN h
theorem aV6{x y}(h:Tj x=some y):Qy.pre x=true:=Ay h
theorem aTv{x y}(h:Tj x=some y):Qy.F x=y:=Ax h
theorem UT{x y}(h:HB x=some y):DR.pre x=true:=Ay h
theorem T7{x y}(h:HB x=some y):DR.F x=y:=Ax h
theorem gD{x y}(h:WK x=some y):FI.pre x=true:=Ay h
theorem fC{x y}(h:WK x=some y):FI.F x=y:=Ax h
theorem aIL{x y}(h:Tl x=some y):FJ.pre x=true:=Ay h
theorem aGX{x y}(h:Tl x=some y):FJ.F x=y:=Ax h
theorem aV7{x y}(h:Tm x=some y):Qz.pre x=true:=Ay h
theorem aTw{x y}(h:Tm x=some y):Qz.F x=y:=Ax h
theorem aV8{x y}(h:WL x=some y):QA.pre x=true:=Ay h
theorem aTx{x y}(h:WL x=some y):QA.F x=y:=Ax h
theorem aIM{x y}(h:RJ x=some y):QB.pre x=true:=Ay h
theorem aGY{x y}(h:RJ x=some y):QB.F x=y:=Ax h
theorem aV9{x y}(h:Tn x=some y):QC.pre x=true:=Ay h
theorem aTy{x y}(h:Tn x=some y):QC.F x=y:=Ax h
theorem aWa{x y}(h:WM x=some y):QD.pre x=true:=Ay h
theorem aTz{x y}(h:WM x=some y):QD.F x=y:=Ax h
end Vx
namespace Vx
open Go
theorem aJp{a:Int}(n:Nat)(hn:n<=64):AL .u64 a (n:Int)=a/2^n:=by
 unfold AL;rw[Int.fdiv_eq_ediv_of_nonneg]
 ·congr 2;simp[gy];omega
 ·exact Int.pow_nonneg (by omega)
theorem JN{m:Nat}(h:m<2^64):(cw 64 (m:Int)).toNat=m:=by
 rw[BitVec.toNat_ofInt];omega
theorem Xs{m n:Nat}(h:m<2^64)(hn:n<=64):BA .u64 (m:Int) ((2^n-1:Nat):Int)=((m%2^n:Nat):Int):=by
 have h2:2^n<=2^64:=aj (by omega) hn;have h3:0<2^n:=ah n;have hlt:m%2^n<2^n:=bo _ h3;have key:(cw 64 (m:Int) &&& cw 64 ((2^n-1:Nat):Int)).toNat=m%2^n:=by
  rw[BitVec.toNat_and,JN h,JN (by omega),Nat.and_two_pow_sub_one_eq_mod]
 show IntKind.u64.wrap (((cw 64 (m:Int) &&& cw 64 ((2^n-1:Nat):Int)).toNat:Nat):Int)=_;rw[key];exact IntWalk.u64_in _ (by omega)
theorem YM{n:Nat}(hn:n<=63):Bb .u64 1 (n:Int)=((2^n:Nat):Int):=by
 have h2:2^n<=2^63:=aj (by omega) hn;have:(min (n:Int).toNat IntKind.u64.bits)=n:=by simp[gy];omega
 unfold Bb;rw[this,Int.one_mul];have e:(2:Int)^n=((2^n:Nat):Int):=by simp
 rw[e];refine IntWalk.u64_in _ ⟨om _,?_⟩;have:((2^n:Nat):Int)<=((2^63:Nat):Int):=Int.ofNat_le.2 h2;exact Int.le_trans this (by decide)
end Vx
namespace VL
open Go Vx
def Fm(f:Int):Prop:=0<=f/\f<4
instance (f:Int):Decidable (Fm f):=by unfold Fm;infer_instance
def fW(f:Int):Nat:=if f=0 then 16 else if f=1 then 16 else if f=2 then 32 else 64
def fP(f:Int):Nat:=if f=0 then 11 else if f=1 then 8 else if f=2 then 24 else 53
def fX(f:Int):Nat:=if f=0 then 15 else if f=1 then 127 else if f=2 then 127 else 1023
def BZ(f:Int):Ab rowsSh:=((fW f:Int),((fP f:Int),((1-(fX f:Int)),((fX f:Int),()))))
theorem C4{f:Int}(h:Fm f):f=0∨f=1∨f=2∨f=3:=by
 obtain⟨h1,h2⟩:=h;omega
theorem u6{f:Int}(h:Fm f)(d:Ab rowsSh):k_rows.getD (ai f) d=BZ f:=by
 rcases C4 h with rfl|rfl|rfl|rfl<;>rfl
theorem CZ{f:Int}(h:Fm f):8<=fP f:=by
 rcases C4 h with rfl|rfl|rfl|rfl<;>decide
theorem Fe{f:Int}(h:Fm f):fP f+5<=fW f:=by
 rcases C4 h with rfl|rfl|rfl|rfl<;>decide
theorem FS{f:Int}(h:Fm f):fW f<=64:=by
 rcases C4 h with rfl|rfl|rfl|rfl<;>decide
theorem Sa{f:Int}(h:Fm f):fX f<=1023:=by
 rcases C4 h with rfl|rfl|rfl|rfl<;>decide
theorem rJ{f:Int}(h:Fm f):2*fX f+1=2^(fW f-fP f)-1:=by
 rcases C4 h with rfl|rfl|rfl|rfl<;>decide
theorem AB{n:Int}(h:-9223372036854775808<=n/\n<9223372036854775808):aa .i64 n=n:=IntWalk.i64_in n ⟨h.1,by omega⟩
theorem EN{n:Int}(h:0<=n/\n<18446744073709551616):aa .u64 n=n:=IntWalk.u64_in n ⟨h.1,by omega⟩
theorem D6(a n:Nat)(hn:n<=64):AL .u64 (a:Int) (n:Int)=((a/2^n:Nat):Int):=by
 rw[aJp n hn];simp
theorem D8(m n:Nat)(h:n<=m)(hm:m<=4611686018427387904):aa .i64 ((m:Int)-(n:Int))=((m-n:Nat):Int):=by
 rw[AB (by omega)];omega
theorem Sn(m n:Nat):((m:Int)==(n:Int))=(m==n):=by
 rw[ff];simp only[beq_iff_eq];omega
theorem JL(m:Nat):((m:Int)==0)=(m==0):=Sn m 0
theorem aUw(m n:Nat):((m:Int)!=(n:Int))=(m !=n):=by
 show(!((m:Int)==(n:Int)))=!(m==n);rw[Sn]
theorem UE(m:Nat):((m:Int)!=0)=(m !=0):=aUw m 0
theorem tP(m n:Nat):(decide ((m:Int)<(n:Int)))=decide (m<n):=by
 rw[ff];simp
theorem Bi(m:Nat):(decide (0<=(m:Int)))=true:=by simp
def Aj(f:Int)(a:Nat):Int:=if Fm f then(if a<2^fW f then 0 else 4)else 2
def eF(f:Int)(a:Nat):Nat:=a/2^(fP f-1)%2^(fW f-fP f)
def mF(f:Int)(a:Nat):Nat:=a%2^(fP f-1)
def sF(f:Int)(a:Nat):Bool:=a/2^(fW f-1)!=0
def AM(f:Int):Nat:=2^(fW f-fP f)-1
def BU(f:Int)(a:Nat):Nat:=a%2^(fW f-1)
theorem HC{f:Int}(h:Fm f):Tp (f,())=some (BZ f,0,()):=by
 rcases C4 h with rfl|rfl|rfl|rfl<;>kernel_rfl
theorem Jj{f:Int}(h:¬Fm f):Tp (f,())=some ((0,0,0,0,()),2,()):=by
 show kD f=_;unfold kD;have:(decide (f<(0:Int))||decide (f>=(4:Int)))=true:=by
  simp only[Fm]at h;simp only[Bool.or_eq_true,decide_eq_true_eq];omega
 rw[this];rfl
theorem aRX{f:Int}(h:¬Fm f)(a:Nat):Aj f a=2:=by unfold Aj;rw[if_neg h]
theorem qU{f:Int}(h:Fm f){a:Nat}(ha:a<2^fW f):Aj f a=0:=by unfold Aj;rw[if_pos h,if_pos ha]
theorem aRY{f:Int}(h:Fm f){a:Nat}(ha:¬a<2^fW f):Aj f a=4:=by unfold Aj;rw[if_pos h,if_neg ha]
theorem FO{f:Int}{a:Nat}(h:Aj f a=0):Fm f/\a<2^fW f:=by
 unfold Aj at h;split at h
 ·split at h
  ·exact⟨by assumption,by assumption⟩
  ·cases h
 ·cases h
theorem rE{a n:Nat}:(a/2^n !=0)=decide (2^n<=a):=by
 rw[ff];simp[Nat.div_eq_zero_iff,ah]
theorem Ji(f:Int)(a:Nat)(ha:a<2^64):WO (f,(a:Int),())=some (Aj f a,()):=by
 show kC An.pre An.F f a=_;unfold kC;by_cases hf:Fm f
 ·simp only[CM (HC hf),CJ (HC hf),cond_true,BZ,Bi,bf];rw[D6 _ _ (FS hf),UE,rE];show(bif decide ((fW f:Int)<((64:Nat):Int))&&_ then _ else _)=_;rw[tP];have hw:=FS hf;by_cases h:a<2^fW f
  ·have:(decide (fW f<64)&&decide (2^fW f<=a))=false:=by simp;intro _;exact h
   rw[this,qU hf h];rfl
  ·have:(decide (fW f<64)&&decide (2^fW f<=a))=true:=by
    simp only[ae,decide_eq_true_eq];refine⟨?_,by omega⟩;rcases Nat.lt_or_ge (fW f) 64 with h1|h1
    ·exact h1
    ·have:fW f=64:=by omega
     rw[this]at h;omega
   rw[this,aRY hf h];rfl
 ·simp only[CM (Jj hf),CJ (Jj hf),cond_true,aRX hf];rfl
theorem bA(n:Nat)(hn:n<=63):WR ((n:Int),())=some (((2^n-1:Nat):Int),()):=by
 show kG n=_;unfold kG;have h2:2^n<=2^63:=aj (by omega) hn;have h1:0<2^n:=ah n;rw[Bi,cond_true,YM hn];generalize 2^n=c at *
 rw[EN (by omega)];have:(c:Int)-1=((c-1:Nat):Int):=by omega
 rw[this]
theorem mV{f:Int}(hf:Fm f)(a:Nat)(ha:a<2^64):WQ (BZ f,(a:Int),())=some (sF f a,(eF f a:Int),(mF f a:Int),()):=by
 show kF Bu.pre Bu.F (BZ f) a=_;unfold kF;have h1:=CZ hf;have h2:=Fe hf;have h3:=FS hf;have e1:aa .i64 ((BZ f).1-1)=((fW f-1:Nat):Int):=D8 (fW f) 1 (by omega) (by omega);have e2:aa .i64 ((BZ f).2.1-1)=((fP f-1:Nat):Int):=D8 (fP f) 1 (by omega) (by omega);have e3:aa .i64 ((BZ f).1-(BZ f).2.1)=((fW f-fP f:Nat):Int):=D8 (fW f) (fP f) (by omega) (by omega);have p1:=bA (fW f-fP f) (by omega);have p2:=bA (fP f-1) (by omega);rw[e1,e2,e3];simp only[Bi,cond_true,gF p1,gF p2,fE p1,fE p2];rw[D6 _ _ (by omega),D6 _ _ (by omega),Xs (Nat.lt_of_le_of_lt (Nat.div_le_self _ _) ha) (by omega),Xs ha (by omega),UE];rfl
def BV(f:Int)(a:Nat):Int:=bif eF f a==AM f&&mF f a==0 then(bif sF f a then 2 else 9)else bif eF f a==AM f&&mF f a/2^(fP f-2)!=0 then 1 else bif eF f a==AM f then 0 else bif eF f a==0&&mF f a==0 then(bif sF f a then 5 else 6)else bif eF f a==0 then(bif sF f a then 4 else 7)else(bif sF f a then 3 else 8)
theorem aY{f:Int}{a:Nat}(ha:a<2^64)(h:Aj f a=0):To (f,(a:Int),())=some (BV f a,0,()):=by
 obtain⟨hf,h0⟩:=FO h;show U5 Aq.pre Aq.F Dl.pre Dl.F Bu.pre Bu.F f a=_;unfold U5;have h1:=CZ hf;have h2:=Fe hf;have h3:=FS hf;have e3:aa .i64 ((BZ f).1-(BZ f).2.1)=((fW f-fP f:Nat):Int):=D8 (fW f) (fP f) (by omega) (by omega);have e4:aa .i64 ((BZ f).2.1-2)=((fP f-2:Nat):Int):=D8 (fP f) 2 (by omega) (by omega);have p0:=Ji f a ha;have p1:=bA (fW f-fP f) (by omega);have p2:=mV hf a ha;have hr:(decide (0<=f)&&decide (f<((4:Nat):Int)))=true:=by
  simp only[ae,decide_eq_true_eq];exact hf
 simp only[u6 hf,e3,e4,hr,HZ p0,HR p0,gF p1,fE p1,uI p2,sI p2,h,cond_true,Bi,bf,bne_self_eq_false,cond_false];rw[D6 _ _ (by omega),Sn,JL,JL,UE];unfold BV AM;generalize(eF f a==2^(fW f-fP f)-1)=b1;generalize(mF f a==0)=b2;generalize(mF f a/2^(fP f-2)!=0)=b3;generalize(eF f a==0)=b4;generalize sF f a=b5;cases b1<;>cases b2<;>cases b3<;>cases b4<;>cases b5<;>rfl
theorem mU{f:Int}{a:Nat}(ha:a<2^64)(h:Aj f a≠0):To (f,(a:Int),())=some (0,Aj f a,()):=by
 show U5 Aq.pre Aq.F Dl.pre Dl.F Bu.pre Bu.F f a=_;unfold U5;have p0:=Ji f a ha;have:(Aj f a !=0)=true:=by simpa using h
 simp only[HZ p0,HR p0,this,cond_true]
theorem aOA{f:Int}(hf:Fm f):VM (f,())=some (((2^(fW f-1):Nat):Int),()):=by
 rcases C4 hf with rfl|rfl|rfl|rfl<;>kernel_rfl
def Av(f:Int)(a:Nat):Int:=bif sF f a then -(BU f a:Int)else BU f a
def dW(f:Int)(a b:Nat):Int:=if Aj f a=0 then Aj f b else Aj f a
def nan(f:Int)(a:Nat):Bool:=eF f a==AM f&&mF f a !=0
def Be(f:Int)(a:Nat):Bool:=nan f a&&mF f a/2^(fP f-2)==0
theorem dX(f:Int)(a:Nat):(BV f a==1||BV f a==0)=nan f a:=by
 unfold BV nan;simp only[bne];cases eF f a==AM f<;>cases mF f a==0<;>cases sF f a<;>cases eF f a==0<;>cases mF f a/2^(fP f-2)==0<;>rfl
theorem dY(f:Int)(a:Nat):(BV f a==0)=Be f a:=by
 unfold BV Be nan;simp only[bne];cases eF f a==AM f<;>cases hm:mF f a==0<;>cases sF f a<;>cases eF f a==0<;>cases mF f a/2^(fP f-2)==0<;>rfl
def dZ(f:Int)(a b:Nat)(signal:Bool):Int×Int×Int×Unit:=if dW f a b≠0 then(0,0,dW f a b,())else bif nan f a||nan f b then(3,(bif signal then 1 else bif Be f a||Be f b then 1 else 0),0,())else if Av f a<Av f b then(0,0,0,())else if Av f a>Av f b then(2,0,0,())else(1,0,0,())
end VL
namespace VL
open Go Vx
def sgn(f:Int)(a:Nat):Nat:=a/2^(fW f-1)%2
theorem SE{f:Int}{a:Nat}(h:nan f a=false):Be f a=false:=by
 unfold Be;rw[h];rfl
theorem bAn{f:Int}{a:Nat}(h:Aj f a=0):(sgn f a==1)=sF f a:=by
 obtain⟨hf,h0⟩:=FO h;have h2:=Fe hf;unfold sgn sF;have:a/2^(fW f-1)<2:=by
  rw[Nat.div_lt_iff_lt_mul (ah _)];have:2^fW f=2*2^(fW f-1):=by rw[←im];congr 1;omega
  omega
 rw[bb this];generalize a/2^(fW f-1)=q at this⊢;match q,this with
 |0,_=>rfl
 |1,_=>rfl
end VL
namespace VL
open Go Vx
theorem aVx{f:Int}(hf:Fm f):2^(fW f-1)=2^(fP f-1)*2^(fW f-fP f):=by
 have h1:=CZ hf;have h2:=Fe hf;rw[←Nat.pow_add];congr 1;omega
theorem LS{f:Int}(hf:Fm f)(a:Nat):BU f a=mF f a+2^(fP f-1)*eF f a:=by
 unfold BU mF eF;rw[aVx hf,Nat.mod_mul]
theorem aIi{f:Int}{a:Nat}(h:Aj f a=0):a=BU f a+(bif sF f a then 2^(fW f-1)else 0):=by
 obtain⟨hf,h0⟩:=FO h;have h2:=Fe hf;have e:2^fW f=2*2^(fW f-1):=by rw[←im];congr 1;omega
 unfold BU sF;rw[rE];by_cases hc:2^(fW f-1)<=a
 ·rw[decide_eq_true hc];simp only[cond_true];have:a%2^(fW f-1)=a-2^(fW f-1):=by
   rw[Nat.mod_eq_sub_mod hc,bb (by omega)]
  omega
 ·rw[decide_eq_false hc];simp only[cond_false];rw[bb (by omega)];rfl
theorem dJ{f:Int}(a:Nat):BU f a<2^(fW f-1):=bo _ (ah _)
theorem XR{f:Int}(hf:Fm f):0<AM f:=by
 rcases C4 hf with rfl|rfl|rfl|rfl<;>decide
theorem aLj{f:Int}(hf:Fm f)(a:Nat):BU f a=0↔eF f a=0/\mF f a=0:=by
 rw[LS hf];have:=ah (fP f-1);constructor
 ·intro h;have h1:2^(fP f-1)*eF f a=0:=by omega
  rcases Nat.mul_eq_zero.1 h1 with h2|h2
  ·omega
  ·exact⟨h2,by omega⟩
 ·rintro ⟨h1,h2⟩;rw[h1,h2];rfl
def B5(f:Int):Nat:=2^(fW f-1)-2^(fP f-2)
def bBf(f:Int)(neg:Bool):Nat:=bif neg then 2^(fW f-1)else 0
theorem aZ{f:Int}(hf:Fm f):Tq (f,())=some ((B5 f:Int),0,()):=by
 rcases C4 hf with rfl|rfl|rfl|rfl<;>kernel_rfl
def aVr(f:Int)(a b:Nat)(g:Bool):Nat:=if Av f a=Av f b/\a≠b then bBf f (!g)else if(Av f b<Av f a/\g=false)∨(Av f a<Av f b/\g=true)then b else a
def rV(f:Int)(a b:Nat):Int:=bif Be f a||Be f b then 1 else 0
def aIn(f:Int)(a b:Nat)(g:Bool):Int×Int×Int×Unit:=if dW f a b≠0 then(0,0,dW f a b,())else bif nan f a&&nan f b then((B5 f:Int),rV f a b,0,())else bif nan f a then((b:Int),rV f a b,0,())else bif nan f b then((a:Int),rV f a b,0,())else((aVr f a b g:Int),0,0,())
end VL
namespace VL
open Go Vx
theorem aH9(k:Nat):Nat.testBit 1 k=decide (k=0):=by
 rw[ff];simp[Nat.testBit_one_eq_true_iff_self_eq_zero]
theorem bBc{m n:Nat}(h:m<2^(n+1)):m ^^^ 2^n=if m<2^n then m+2^n else m-2^n:=by
 apply Nat.eq_of_testBit_eq;intro i;rw[Nat.testBit_xor,Nat.testBit_two_pow];have h2:2^(n+1)=2*2^n:=im;split
 ·rename_i hm;have:m+2^n=2^n*1+m:=by omega
  rw[this,iv _ hm];by_cases hi:i<n
  ·have:¬n=i:=by omega
   simp[hi,this]
  ·rw[if_neg hi,ni (ao hm (aj (by omega) (by omega)))];rw[aH9];by_cases hn:n=i
   ·subst hn;simp
   ·have:¬i-n=0:=by omega
    simp[hn,this]
 ·rename_i hm;have e:m=2^n*1+(m-2^n):=by omega
  have hr:m-2^n<2^n:=by omega
  rw[e,iv _ hr];have e2:2^n*1+(m-2^n)-2^n=m-2^n:=by omega
  rw[e2];by_cases hi:i<n
  ·have:¬n=i:=by omega
   simp[hi,this]
  ·rw[if_neg hi,ni (x:=m-2^n) (ao hr (aj (by omega) (by omega))),aH9];by_cases hn:n=i
   ·subst hn;simp
   ·have:¬i-n=0:=by omega
    simp[hn,this]
theorem bBb{m n:Nat}(hn:n<=63)(h:m<2^(n+1)):kT .u64 (m:Int) ((2^n:Nat):Int)=((if m<2^n then m+2^n else m-2^n:Nat):Int):=by
 have h1:2^(n+1)<=2^64:=aj (by omega) (by omega);have h2:2^n<2^64:=Nat.pow_lt_pow_right (by omega) (by omega);have h3:2^(n+1)=2*2^n:=im;have key:(cw 64 (m:Int) ^^^ cw 64 ((2^n:Nat):Int)).toNat=if m<2^n then m+2^n else m-2^n:=by
  rw[BitVec.toNat_xor,JN (by omega),JN h2,bBc h]
 show IntKind.u64.wrap (((cw 64 (m:Int) ^^^ cw 64 ((2^n:Nat):Int)).toNat:Nat):Int)=_;rw[key];refine EN ⟨om _,?_⟩;split<;>omega
def Ch(f:Int)(s:Bool)(n:Nat):Nat:=n+(bif s then 2^(fW f-1)else 0)
theorem bAZ{f:Int}(hf:Fm f):2^fW f=2*2^(fW f-1):=by
 have h2:=Fe hf;rw[←im];congr 1;omega
theorem fL{f:Int}(hf:Fm f)(s:Bool){n:Nat}(hn:n<2^(fW f-1)):Aj f (Ch f s n)=0:=by
 apply qU hf;rw[bAZ hf];unfold Ch;cases s<;>simp<;>omega
theorem tK{f:Int}(s:Bool){n:Nat}(hn:n<2^(fW f-1)):BU f (Ch f s n)=n:=by
 unfold BU Ch;cases s
 ·simp only[cond_false,cu];exact bb hn
 ·simp only[cond_true,Nat.add_mod_right];exact bb hn
theorem aHX{f:Int}(s:Bool){n:Nat}(hn:n<2^(fW f-1)):sF f (Ch f s n)=s:=by
 unfold sF Ch;rw[rE];cases s
 ·simp only[cond_false,cu,decide_eq_false_iff_not];omega
 ·simp
theorem aIj{f:Int}{a:Nat}(h:Aj f a=0):a=Ch f (sF f a) (BU f a):=aIi h
theorem UM{f:Int}{a:Nat}(h:Aj f a=0):a<2^64:=by
 obtain⟨hf,h0⟩:=FO h;exact ao h0 (aj (by omega) (FS hf))
theorem rG{f:Int}(hf:Fm f)(a:Nat):eF f a=BU f a/2^(fP f-1):=by
 rw[LS hf,dx _ _ (ah _)];have:mF f a/2^(fP f-1)=0:=cj (bo _ (ah _));omega
theorem tH{f:Int}(hf:Fm f)(a:Nat):mF f a=BU f a%2^(fP f-1):=by
 rw[LS hf,gh];exact(bb (bo _ (ah _))).symm
def A2(f:Int):Nat:=2^(fP f-1)*AM f
theorem aHd{f:Int}(hf:Fm f):A2 f+128<=2^(fW f-1):=by
 rcases C4 hf with rfl|rfl|rfl|rfl<;>decide
theorem aSw{f:Int}(a:Nat):eF f a<=AM f:=by
 have:eF f a<2^(fW f-fP f):=bo _ (ah _);unfold AM;omega
def DV(f:Int)(a:Nat):Nat:=Ch f (!sF f a) (BU f a)
theorem fQ{f:Int}(hf:Fm f)(a:Nat):Aj f (DV f a)=0:=fL hf _ (dJ a)
theorem aUA{f:Int}(a:Nat):BU f (DV f a)=BU f a:=tK _ (dJ a)
theorem aUD{f:Int}(a:Nat):sF f (DV f a)=!sF f a:=aHX _ (dJ a)
theorem aPg{f:Int}{a:Nat}(h:Aj f a=0):WN (f,(a:Int),())=some ((DV f a:Int),0,()):=by
 obtain⟨hf,h0⟩:=FO h;show kB Aq.pre Aq.F E6.pre E6.F f a=_;unfold kB;have h2:=Fe hf;have h3:=FS hf;have p0:=Ji f a (UM h);have p1:=aOA hf;simp only[HZ p0,HR p0,aVy p1,aSX p1,h,cond_true,bne_self_eq_false,cond_false];rw[bBb (by omega) (by rw[Nat.sub_add_cancel (by omega)];exact h0)];have e:(if a<2^(fW f-1)then a+2^(fW f-1)else a-2^(fW f-1))=DV f a:=by
  have hp:=aIj h;have hl:=dJ (f:=f) a;unfold DV;unfold Ch at hp⊢;cases hs:sF f a<;>rw[hs]at hp<;>simp only[cond_true,cond_false,Bool.not_true,Bool.not_false]at hp⊢
  ·rw[if_pos (by omega)];omega
  ·rw[if_neg (by omega)];omega
 rw[e]
def aUE(f:Int)(a:Nat)(w:Int):Nat:=bif(BV f a==9&&decide (w>0))||(BV f a==2&&decide (w<0))then a else if Av f a+w>0∨(Av f a+w=0/\w<0)then(Av f a+w).toNat else DV f (-(Av f a+w)).toNat
def bAA(f:Int)(a:Nat)(w:Int):Nat:=bif nan f a then B5 f else aUE f a w
def bAz(f:Int)(a:Nat)(w:Int):Int×Int×Int×Unit:=if Aj f a≠0 then(0,0,Aj f a,())else((bAA f a w:Int),(bif Be f a then 1 else 0),0,())
theorem Ym{f:Int}(hf:Fm f):nan f (B5 f)=true/\Aj f (B5 f)=0:=by
 rcases C4 hf with rfl|rfl|rfl|rfl<;>decide
end VL
namespace VL
open Go Vx
def nv(B:Nat):List Nat->Nat
 | []=>0
 |x::r=>x+B*nv B r
def Al:List Nat->List Nat
 | []=>[]
 |x::r=>match Al r with
  | []=>if x=0 then[]else[x]
  |y::t=>x::y::t
def dg(B:Nat)(n:Nat):List Nat:=if h:n=0∨B<2 then[]else n%B::dg B (n/B)
termination_by n
decreasing_by exact nu (by omega) (by omega)
theorem D1(B:Nat):dg B 0=[]:=by rw[dg];simp
theorem FQ{B n:Nat}(hB:2<=B)(hn:0<n):dg B n=n%B::dg B (n/B):=by
 rw[dg];rw[dif_neg (by omega)]
theorem QV{B:Nat}(hB:2<=B):∀(n:Nat),∀x∈dg B n,x<B:=by
 intro n;induction n using nw with
 |ind n ih=>
  intro x hx;rcases bc n with rfl|hn
  ·rw[D1]at hx;simp at hx
  ·rw[FQ hB hn]at hx;rcases List.mem_cons.1 hx with rfl|hx
   ·exact bo _ (by omega)
   ·exact ih (n/B) (nu hn (by omega)) x hx
theorem fV{B:Nat}(hB:2<=B):∀(n:Nat),nv B (dg B n)=n:=by
 intro n;induction n using nw with
 |ind n ih=>
  rcases bc n with rfl|hn
  ·rw[D1];rfl
  ·rw[FQ hB hn];simp only[nv];rw[ih (n/B) (nu hn (by omega))];exact Nat.mod_add_div n B
theorem aFV{B x v:Nat}(hB:2<=B)(hx:x<B)(h:0<x+B*v):dg B (x+B*v)=x::dg B v:=by
 rw[FQ hB h,gh,bb hx,dx _ _ (by omega),cj hx,Nat.zero_add]
theorem GQ{B:Nat}(hB:2<=B):∀(l:List Nat),(∀x∈l,x<B)->Al l=dg B (nv B l)
 | [],_=>by simp only[nv];rw[D1];rfl
 |x::r,h=>by
  have ih:=GQ hB r fun y hy=>h y (by simp[hy])
  simp only[Al,nv]
  rcases bc (nv B r)with h0|h0
  ·rw[ih,h0,D1,dw,cu]
   simp only
   rcases bc x with rfl|hx
   ·rw[D1];rfl
   ·rw[if_neg (by omega)]
    have:=aFV (v:=0) hB (h x (by simp)) (by omega)
    rw[dw,cu,D1]at this
    exact this.symm
  ·have hp:0<B*nv B r:=Nat.mul_pos (by omega) h0
   rw[aFV hB (h x (by simp)) (by omega),ih]
   rw[FQ hB h0]
theorem DW:∀(l:List Nat),(Al l).length<=l.length/\Al l=l.take (Al l).length
 | []=>⟨Nat.le_refl _,rfl⟩
 |x::r=>by
  obtain⟨h1,h2⟩:=DW r
  simp only[Al]
  cases e:Al r with
  |nil=>
   simp only
   split
   ·exact⟨by simp,rfl⟩
   ·exact⟨by simp,rfl⟩
  |cons y t=>
   rw[e]at h1 h2
   simp only
   refine⟨by simp at h1⊢;omega,?_⟩
   simp only[gc,List.take_succ_cons]
   congr 1
theorem vT:∀(l:List Nat) (i:Nat),(Al l).length<=i->l.getD i 0=0
 | [],i,_=>by simp
 |x::r,i,h=>by
  have ih:=vT r
  simp only[Al]at h
  cases e:Al r with
  |nil=>
   rw[e]at h ih
   simp only at h
   cases i with
   |zero=>
    split at h
    ·rename_i hx;simp[hx]
    ·simp at h
   |succ i=>simpa using ih i (by simp)
  |cons y t=>
   rw[e]at h ih
   simp only at h
   cases i with
   |zero=>simp at h
   |succ i=>simpa using ih i (by simpa using h)
theorem YX:∀(l:List Nat),0<(Al l).length->l.getD ((Al l).length-1) 0≠0
 | [],h=>by simp[Al]at h
 |x::r,h=>by
  have ih:=YX r
  simp only[Al]at h⊢
  cases e:Al r with
  |nil=>
   rw[e]at h
   simp only at h⊢
   split at h
   ·simp at h
   ·rename_i hx;rw[if_neg hx];simpa using hx
  |cons y t=>
   rw[e]at ih
   simp only[gc]at ih⊢
   have:=ih (by simp)
   simpa using this
def Wd(l:List Nat):List Int:=l.map fun n:Nat=>(n:Int)
theorem AI(l:List Nat):(Wd l).length=l.length:=by simp[Wd]
theorem CP(l:List Nat)(i:Nat):(Wd l).getD i 0=((l.getD i 0:Nat):Int):=by
 unfold Wd;rw[ak,ak,List.getElem?_map];cases l[i]?<;>simp
theorem bR(l:List Nat)(n:Nat):(Wd l).take n=Wd (l.take n):=by simp[Wd,List.map_take]
theorem aPC(l:List Nat)(n:Nat):(Wd l).drop n=Wd (l.drop n):=by simp[Wd,List.map_drop]
theorem Fa(l:List Nat)(i n:Nat):(Wd l).set i (n:Int)=Wd (l.set i n):=by simp[Wd,List.map_set]
theorem W2(n:Nat):au n (0:Int)=Wd (au n 0):=by simp[Wd]
end VL
end
