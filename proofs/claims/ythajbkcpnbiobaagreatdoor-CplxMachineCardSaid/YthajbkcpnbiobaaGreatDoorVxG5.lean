/- Part 5 of the proof. What is proved: symbolic execution of the functions, proved sound; what each function of the program computes, and that every run ends with it; what these functions compute, in plain numbers. Conditions: each theorem bears its own. -/
import Derived.Test.YthajbkcpnbiobaaGreatDoorVxG4
import Derived.IntWalk
set_option linter.all false
set_option exponentiation.threshold 1000000
noncomputable section
open BitVec renaming ofInt->cu
open Bool renaming and_eq_true->ae,eq_iff_iff->ej,not_false->bp,true_or->bh
open Go.BinOp renaming add->gy,mul->fq,quo->mf,sub->me
open Go.Extern.MathFloatBits renaming float64bits->nn,float64frombits->ng
open Go.FloatKind renaming f64->az
open Go.IntKind renaming bits->gm,wrap->aa
open Int renaming natCast_nonneg->nw,tmod->ks,toNat->ah,toNat_natCast->ag
open List renaming getD_eq_getElem?_getD->ai,length_cons->fw,replicate->ap
open Nat renaming add_zero->dc,div_lt_iff_lt_mul->bm,div_lt_self->nh,eq_zero_or_pos->ba,le_refl->bf,lt_of_le_of_lt->ax,lt_of_lt_of_le->al,lt_or_ge->aq,mod_eq_of_lt->be,mod_lt->bv,mul_comm->ar,mul_zero->fi,pow_add->bb,pow_le_pow_right->ak,pow_lt_pow_iff_right->cd,pow_succ'->jw,strongRecOn->ni,testBit_lt_two_pow->mu,testBit_two_pow_mul_add->ii,two_pow_pos->aj,zero_add->dj
open Ordering renaming eq->pf
namespace Vx
open Go Go.Proofs
variable (p69:Bl)(f69:Bm)(p66:BB)(f66:BC)(p65:Dk)(f65:Dl)(p70:CZ)(f70:C0)(p98:I1)(f98:I4)(p119:Wh)(f119:Wq)(p155:CK)(f155:CL)(p123:Rc)(f123:Rk)(p118:Ha)(f118:Hd)(p105:SL)(f105:SU)(p173:AT)(f173:AU)(p102:F7)(f102:Gb)(p178:Hc)(f178:Hf)(p92:I0)(f92:I3)(p185:Rg)(f185:Ro)(p141:Rd)(f141:Rl)(p143:Ll)(f143:Lo)(p97:Ln)(f97:Lq)(p107:SM)(f107:SW)(p122:F8)(f122:Gc)(p115:Wg)(f115:Wp)(p64:SS)(f64:S4)(p315:D7)(f315:D9)(p316:SP)(f316:SZ)(p40:Qa)(f40:Qd)(p144:Hb)(f144:He)(p145:SO)(f145:SY)(p311:ZY)(f311:aJ)(p312:kP)(f312:mH)(p313:ZZ)(f313:aK)(p314:kQ)(f314:mI)
abbrev Mu:Aa:=[(true,.pair (.int .u64) (.pair (.int .u64) (.unit)))]
abbrev Od:Aa:=[(false,.int .u64),(false,.bool)]
abbrev GU:Pat:=⟨28,[(6,.one (.v .i64)),(2,.one (.v .u64)),(1,.one (.ptr 0 0))],[.raw [.v .u64,.v .u64]]⟩
abbrev Yg:List (Nat×Shape):=[]
abbrev K9:List (Nat×Pat):=[(0,⟨28,[(2,.one (.v .u64)),(1,.one (.ptr 0 0))],[.raw [.v .u64,.v .u64]]⟩)]
abbrev KA:Option Pat:=none
variable (w317_2:Pat.D GU->Option (Ag K9 KA))
def Xb(p123:Rc)(f123:Rk)(p316:SP)(f316:SZ){R:Type}(L:Pat.D GU->Option R)(e:Ag K9 KA->Option R)(x:Pat.D GU):Option R:=let e5_:=(aa .i64 ((63:Int)-x.1.1));let e4_:=(An .u64 x.1.2.1 (A4 .u64 (1:Int) e5_));let e1_:=((f316 (e4_,e4_,())).1,x.2);let e2_:=e4_;let e3_:=(aa .i64 (x.1.1+(1:Int)));bif(decide (x.1.1<(64:Int)))then(bif(decide ((0:Int)<=e5_))then(bif(p316 (e2_,e2_,()))then(bif(p123 e1_)then(bif(decide ((f123 e1_).1<=(0:Int)))then(((L ((e3_,e2_,(),()),x.2))))else(L ((e3_,x.1.2.1,(),()),x.2)))else none)else none)else none)else(e (.inl ((x.1.2.1,(),()),x.2)))
theorem aX5(d:Nat)(R:Type)(L:Pat.D GU->Option R)(e:Ag K9 KA->Option R)(x:Pat.D GU):
  Bn (cf [(236,⟨FF,GB,p123,f123⟩),(199,⟨HX,Ik,p316,f316⟩)] [(207,2,LoopSpec.of GU Yg K9 KA w317_2)]) (d+2) 207 (Bj Tryz.f207 2) GU Yg K9 KA (R:=R) L e x=Xb p123 f123 p316 f316 L e x:=by kernel_rfl
theorem aSD(p123:Rc)(f123:Rk)(p316:SP)(f316:SZ):Bf fun L e x=>Xb p123 f123 p316 f316 L e x:=by intro _ _ _ _ _ _ _ h0 hL he _;unfold Xb;repeat' (first|exact h0|exact hL _|exact he _|apply By|(apply Bz h0;intro _)|(apply BA<;>intro _))
def aIr(p123:Rc)(f123:Rk)(p316:SP)(f316:SZ)(w317_2:Pat.D GU->Option (Ag K9 KA))(a0:Ab (.pair (.int .u64) (.pair (.int .u64) (.unit)))):Option (DenS Od):=
 Vx.A3 (w317_2 (((0:Int),(0:Int),(),()),(a0.1,a0.2),())) fun y0=>
 Vx.A1 y0 (fun y1=>
 bif(p316 (y1.1.1,y1.1.1,()))then(some (y1.1.1,(((f316 (y1.1.1,y1.1.1,())).1.1==y1.2.1.1)&&((f316 (y1.1.1,y1.1.1,())).1.2.1==y1.2.1.2.1)),()))
 else none) (fun z1=>
 none)
theorem aVy(x:DenS Mu):run (cf [(236,⟨FF,GB,p123,f123⟩),(199,⟨HX,Ik,p316,f316⟩)] [(207,2,LoopSpec.of GU Yg K9 KA w317_2)]) 9 207 Tryz.f207 Mu Od x=aIr p123 f123 p316 f316 w317_2 x.1:=by kernel_rfl
def aAD:GU.D->Option (Ag K9 KA):=A6 fun L=>Xb DE.pre DE.F DF.pre DF.F L some
def yB(x:DenS Mu):Option (DenS Od):=aIr DE.pre DE.F DF.pre DF.F aAD x.1
def YV:Sum:=Ai Mu Od yB (DenS.dflt Od)
theorem aL0:Sound Tryz.prog G1 207 YV:=sd (cf [(236,DE),(199,DF)] [(207,2,LoopSpec.of GU Yg K9 KA aAD)]) 207 Tryz.f207 ⟨vU,v8,trivial⟩ ⟨rfl,fun d=>Bw (fun L e x=>Xb DE.pre DE.F DF.pre DF.F L e x) (aSD DE.pre DE.F DF.pre DF.F) (fun _ _ _ _=>aX5 ..),trivial⟩ Mu Od yB _ (fun _=>aVy ..)
abbrev aBh:=Ae Mu
abbrev aCM:=Ad Mu Od
variable (p317:aBh)(f317:aCM)
abbrev Mv:Aa:=[(false,.int .i64),(false,.int .i64),(false,.int .u64)]
abbrev Oe:Aa:=[(false,.int .u64),(false,.int .i64),(false,.int .i64)]
def aIs(p311:ZY)(f311:aJ)(p65:Dk)(f65:Dl)(p312:kP)(f312:mH)(p313:ZZ)(f313:aK)(p314:kQ)(f314:mI)(p119:Wh)(f119:Wq)(p317:aBh)(f317:aCM)(p122:F8)(f122:Gc)(a0 a1:Ab (.int .i64))(a2:Ab (.int .u64)):Option (DenS Oe):=let e16_:=(a0,(f311 (a0,a1,(a2::[]),())).1,a2,());let e15_:=(f313 e16_);let e14_:=((0:Int),e15_.1,());let e13_:=(e14_,());let e12_:=(aa .i64 ((126:Int)-(f314 e13_).1));let e11_:=(aa .i64 (e12_+(1:Int)));let e8_:=(e14_,e11_,());let e7_:=(f317 (f119 e8_));let e1_:=(a0,a1,false,((0:Int),e7_.1,()),(BQ .i64 (aa .i64 (e15_.2.1-e11_)) (2:Int)),(!e7_.2.1),());let e10_:=(e14_,e12_,());let e9_:=(f317 (f119 e10_));let e2_:=(a0,a1,false,((0:Int),e9_.1,()),(BQ .i64 (aa .i64 (e15_.2.1-e12_)) (2:Int)),(!e9_.2.1),());let e3_:=e8_;let e4_:=e10_;let e5_:=e13_;let e6_:=e16_;bif(p311 (a0,a1,(a2::[]),()))then(bif((f311 (a0,a1,(a2::[]),())).2.1 !=(0:Int))then(some ((0:Int),(0:Int),(f311 (a0,a1,(a2::[]),())).2))else bif(p65 (a0,a2,()))then(bif(p312 (a0,(f65 (a0,a2,())).1,()))then(bif(f312 (a0,(f65 (a0,a2,())).1,())).2.2.1 then(some ((f312 (a0,(f65 (a0,a2,())).1,())).1,(f312 (a0,(f65 (a0,a2,())).1,())).2.1,(0:Int),()))else bif((((f65 (a0,a2,())).1==(9:Int))||((f65 (a0,a2,())).1==(6:Int)))||((f65 (a0,a2,())).1==(5:Int)))then(some (a2,(0:Int),(0:Int),()))else bif(p313 e6_)then(bif(p314 e5_)then(bif((ks (aa .i64 ((f313 e6_).2.1-(aa .i64 ((126:Int)-(f314 e5_).1)))) (2:Int))!=(0:Int))then(bif(p119 e3_)then(bif(p317 (f119 e3_))then(bif(p122 e1_)then(some (f122 e1_))else none)else none)else none)else bif(p119 e4_)then(bif(p317 (f119 e4_))then(bif(p122 e2_)then(some (f122 e2_))else none)else none)else none)else none)else none)else none)else none)else none
theorem aVz(x:DenS Mv):run (cf [(58,⟨Mq,N9,p311,f311⟩),(59,⟨De,Df,p65,f65⟩),(205,⟨Mr,Oa,p312,f312⟩),(63,⟨Ms,Ob,p313,f313⟩),(206,⟨Mt,Oc,p314,f314⟩),(208,⟨Gt,Ie,p119,f119⟩),(207,⟨Mu,Od,p317,f317⟩),(104,⟨Ej,EE,p122,f122⟩)] []) 9 163 Tryz.f163 Mv Oe x=aIs p311 f311 p65 f65 p312 f312 p313 f313 p314 f314 p119 f119 p317 f317 p122 f122 x.1 x.2.1 x.2.2.1:=by kernel_rfl
def yC(x:DenS Mv):Option (DenS Oe):=aIs YQ.pre YQ.F AS.pre AS.F YR.pre YR.F YS.pre YS.F YT.pre YT.F AE.pre AE.F YV.pre YV.F BH.pre BH.F x.1 x.2.1 x.2.2.1
def YW:Sum:=Ai Mv Oe yC (DenS.dflt Oe)
theorem aL1:Sound Tryz.prog G1 163 YW:=sd (cf [(58,YQ),(59,AS),(205,YR),(63,YS),(206,YT),(208,AE),(207,YV),(104,BH)] []) 163 Tryz.f163 ⟨aLW,G8,aLX,aLY,aLZ,vT,aL0,Sf,trivial⟩ trivial Mv Oe yC _ (fun _=>aVz ..)
abbrev aBi:=Ae Mv
abbrev aCN:=Ad Mv Oe
variable (p318:aBi)(f318:aCN)
abbrev MQ:Aa:=[(true,.pair (.int .i64) (.pair (.int .i64) (.pair (.int .u64) (.pair (.int .u64) (.pair (.int .u64) (.unit))))))]
abbrev Oz:Aa:=[(false,.int .u64),(false,.int .i64),(false,.int .i64)]
def aIE(p318:aBi)(f318:aCN)(a0:Ab (.pair (.int .i64) (.pair (.int .i64) (.pair (.int .u64) (.pair (.int .u64) (.pair (.int .u64) (.unit))))))):Option (DenS Oz):=bif(p318 (a0.2.1,a0.1,a0.2.2.1,()))then(some (f318 (a0.2.1,a0.1,a0.2.2.1,())))else none
theorem aV1(x:DenS MQ):run (cf [(163,⟨Mv,Oe,p318,f318⟩)] []) 9 162 Tryz.f162 MQ Oz x=aIE p318 f318 x.1:=by kernel_rfl
def yR(x:DenS MQ):Option (DenS Oz):=aIE YW.pre YW.F x.1
def UH:Sum:=Ai MQ Oz yR (DenS.dflt Oz)
theorem wE:Sound Tryz.prog G1 162 UH:=sd (cf [(163,YW)] []) 162 Tryz.f162 ⟨aL1,trivial⟩ trivial MQ Oz yR _ (fun _=>aV1 ..)
abbrev kX:=Ae MQ
abbrev mP:=Ad MQ Oz
variable (p396:kX)(f396:mP)
abbrev MR:Aa:=[(false,.int .i64),(false,.int .i64),(false,.slice (.int .u64))]
abbrev OA:Aa:=[(false,.int .i64)]
abbrev G0:Pat:=⟨39,[(27,.one (.v .i64)),(26,.one (.sl (.int .u64))),(0,.one (.v .i64)),(28,.one (.v .i64))],[]⟩
abbrev Yn:List (Nat×Shape):=[]
abbrev Lg:List (Nat×Pat):=[(0,⟨39,[],[]⟩)]
abbrev KH:Option Pat:=(some ⟨39,[(6,.one (.v .i64))],[]⟩)
variable (w397_7:Pat.D G0->Option (Ag Lg KH))
def Xh(p69:Bl)(f69:Bm)(p66:BB)(f66:BC){R:Type}(L:Pat.D G0->Option R)(e:Ag Lg KH->Option R)(x:Pat.D G0):Option R:=let e2_:=(x.1.2.2.1,(x.1.2.1.getD (ah x.1.2.2.2.1) (0:Int)),());let e1_:=(f66 e2_);bif(decide (x.1.2.2.2.1<x.1.1))then(bif((decide ((0:Int)<=x.1.2.2.2.1))&&(decide (x.1.2.2.2.1<(x.1.2.1.length:Int))))then(bif(p66 e2_)then(bif(e1_.1 !=(0:Int))then(((e (.inr (e1_,())))))else(L ((x.1.1,x.1.2.1,x.1.2.2.1,(aa .i64 (x.1.2.2.2.1+(1:Int))),()),())))else none)else none)else(e (.inl ((),())))
theorem aYk(d:Nat)(R:Type)(L:Pat.D G0->Option R)(e:Ag Lg KH->Option R)(x:Pat.D G0):
  Bn (cf [(71,⟨BE,BF,p69,f69⟩),(85,⟨BY,BZ,p66,f66⟩)] [(209,7,LoopSpec.of G0 Yn Lg KH w397_7)]) (d+2) 209 (Bj Tryz.f209 7) G0 Yn Lg KH (R:=R) L e x=Xh p69 f69 p66 f66 L e x:=by kernel_rfl
theorem aSJ(p69:Bl)(f69:Bm)(p66:BB)(f66:BC):Bf fun L e x=>Xh p69 f69 p66 f66 L e x:=by intro _ _ _ _ _ _ _ h0 hL he _;unfold Xh;repeat' (first|exact h0|exact hL _|exact he _|apply By|(apply Bz h0;intro _)|(apply BA<;>intro _))
def aIF(p69:Bl)(f69:Bm)(p66:BB)(f66:BC)(w397_7:Pat.D G0->Option (Ag Lg KH))(a0 a1:Ab (.int .i64))(a2:Ab (.slice (.int .u64))):Option (DenS OA):=
 bif(p69 (a0,()))then(bif((f69 (a0,())).2.1 !=(0:Int))then(some (f69 (a0,())).2)
 else bif((decide (a1<(0:Int)))||(decide (a1>(5:Int))))then(some ((3:Int),()))
 else Vx.A3 (w397_7 (((a2.length:Int),a2,a0,(0:Int),()),())) fun y3=>
 Vx.A1 y3 (fun y4=>
 some ((0:Int),())) (fun z4=>
 some z4.1))
 else none
theorem aV2(x:DenS MR):run (cf [(71,⟨BE,BF,p69,f69⟩),(85,⟨BY,BZ,p66,f66⟩)] [(209,7,LoopSpec.of G0 Yn Lg KH w397_7)]) 9 209 Tryz.f209 MR OA x=aIF p69 f69 p66 f66 w397_7 x.1 x.2.1 x.2.2.1:=by kernel_rfl
def aAI:G0.D->Option (Ag Lg KH):=A6 fun L=>Xh Al.pre Al.F Ao.pre Ao.F L some
def yS(x:DenS MR):Option (DenS OA):=aIF Al.pre Al.F Ao.pre Ao.F aAI x.1 x.2.1 x.2.2.1
def Y5:Sum:=Ai MR OA yS (DenS.dflt OA)
theorem aMo:Sound Tryz.prog G1 209 Y5:=sd (cf [(71,Al),(85,Ao)] [(209,7,LoopSpec.of G0 Yn Lg KH aAI)]) 209 Tryz.f209 ⟨Dj,EP,trivial⟩ ⟨rfl,fun d=>Bw (fun L e x=>Xh Al.pre Al.F Ao.pre Ao.F L e x) (aSJ Al.pre Al.F Ao.pre Ao.F) (fun _ _ _ _=>aYk ..),trivial⟩ MR OA yS _ (fun _=>aV2 ..)
abbrev aBy:=Ae MR
abbrev aC3:=Ad MR OA
variable (p397:aBy)(f397:aC3)
abbrev JE:Aa:=[(false,.int .i64),(false,.int .u64)]
abbrev J5:Aa:=[(true,.pair (.bool) (.pair (.bool) (.pair (.bool) (.pair (.bool) (.pair (.bool) (.pair (.pair (.bool) (.pair (.slice (.int .u64)) (.pair (.int .i64) (.unit)))) (.unit)))))))]
def aIG(p65:Dk)(f65:Dl)(p98:I1)(f98:I4)(p40:Qa)(f40:Qd)(a0:Ab (.int .i64))(a1:Ab (.int .u64)):Option (DenS J5):=let e1_:=(((f65 (a0,a1,())).1==(2:Int))||((f65 (a0,a1,())).1==(9:Int)));bif(p65 (a0,a1,()))then(bif(p98 (a0,a1,()))then(bif((!(decide ((f65 (a0,a1,())).1<=(1:Int))))&&(!e1_))then(bif(p40 (a0,a1,()))then(some (((decide ((f65 (a0,a1,())).1<=(1:Int))),((f65 (a0,a1,())).1==(0:Int)),false,e1_,(f98 (a0,a1,())).1,(f40 (a0,a1,())).1,()),()))else none)else some (((decide ((f65 (a0,a1,())).1<=(1:Int))),((f65 (a0,a1,())).1==(0:Int)),false,e1_,(f98 (a0,a1,())).1,(false,[],(0:Int),()),()),()))else none)else none
theorem aV3(x:DenS JE):run (cf [(59,⟨De,Df,p65,f65⟩),(91,⟨Ey,EI,p98,f98⟩),(203,⟨FH,FS,p40,f40⟩)] []) 9 212 Tryz.f212 JE J5 x=aIG p65 f65 p98 f98 p40 f40 x.1 x.2.1:=by kernel_rfl
def yT(x:DenS JE):Option (DenS J5):=aIG AS.pre AS.F BM.pre BM.F C8.pre C8.F x.1 x.2.1
def QU:Sum:=Ai JE J5 yT (DenS.dflt J5)
theorem wF:Sound Tryz.prog G1 212 QU:=sd (cf [(59,AS),(91,BM),(203,C8)] []) 212 Tryz.f212 ⟨G8,QZ,UL,trivial⟩ trivial JE J5 yT _ (fun _=>aV3 ..)
abbrev kY:=Ae JE
abbrev mQ:=Ad JE J5
variable (p398:kY)(f398:mQ)
abbrev JM:Aa:=[(true,.pair (.bool) (.pair (.slice (.int .u64)) (.pair (.int .i64) (.unit))))]
abbrev Ke:Aa:=[(false,.int .i64)]
def t47(p102:F7)(f102:Gb)(a0:Ab (.pair (.bool) (.pair (.slice (.int .u64)) (.pair (.int .i64) (.unit))))):Option (DenS Ke):=bif(p102 (a0.2.1,()))then(bif(((f102 (a0.2.1,())).1.length:Int)==(0:Int))then(some ((0:Int),()))else bif a0.1 then(some ((-(1:Int)),()))else some ((1:Int),()))else none
theorem r47(x:DenS JM):run (cf [(122,⟨Ex,EC,p102,f102⟩)] []) 9 240 Tryz.f240 JM Ke x=t47 p102 f102 x.1:=by kernel_rfl
def T47(x:DenS JM):Option (DenS Ke):=t47 BK.pre BK.F x.1
def QY:Sum:=Ai JM Ke T47 (DenS.dflt Ke)
theorem wY:Sound Tryz.prog G1 240 QY:=sd (cf [(122,BK)] []) 240 Tryz.f240 ⟨UB,trivial⟩ trivial JM Ke T47 _ (fun _=>r47 ..)
abbrev lN:=Ae JM
abbrev nF:=Ad JM Ke
variable (p47:lN)(f47:nF)
abbrev Ju:Aa:=[(true,.pair (.bool) (.pair (.slice (.int .u64)) (.pair (.int .i64) (.unit))))]
abbrev JR:Aa:=[(false,.int .i64)]
def aH7(a0:Ab (.pair (.bool) (.pair (.slice (.int .u64)) (.pair (.int .i64) (.unit))))):Option (DenS JR):=bif(decide ((a0.2.1.length:Int)>(1024:Int)))then(some ((5:Int),()))else bif((decide (a0.2.2.1<(-(40000:Int))))||(decide (a0.2.2.1>(40000:Int))))then(some ((30:Int),()))else some ((0:Int),())
theorem aUC(x:DenS Ju):run (cf [] []) 9 253 Tryz.f253 Ju JR x=aH7 x.1:=by kernel_rfl
def xC(x:DenS Ju):Option (DenS JR):=aH7 x.1
def QT:Sum:=Ai Ju JR xC (DenS.dflt JR)
theorem vQ:Sound Tryz.prog G1 253 QT:=sd (cf [] []) 253 Tryz.f253 trivial trivial Ju JR xC _ (fun _=>aUC ..)
abbrev kJ:=Ae Ju
abbrev mA:=Ad Ju JR
variable (p103:kJ)(f103:mA)
abbrev JP:Aa:=[(true,.pair (.bool) (.pair (.slice (.int .u64)) (.pair (.int .i64) (.unit)))),(true,.pair (.bool) (.pair (.slice (.int .u64)) (.pair (.int .i64) (.unit))))]
abbrev Kh:Aa:=[(false,.int .i64)]
def t99(p103:kJ)(f103:mA)(a0 a1:Ab (.pair (.bool) (.pair (.slice (.int .u64)) (.pair (.int .i64) (.unit))))):Option (DenS Kh):=bif(p103 ((a0.1,a0.2),()))then(bif((f103 ((a0.1,a0.2),())).1 !=(0:Int))then(some (f103 ((a0.1,a0.2),())))else bif(p103 ((a1.1,a1.2),()))then(some (f103 ((a1.1,a1.2),())))else none)else none
theorem r99(x:DenS JP):run (cf [(253,⟨Ju,JR,p103,f103⟩)] []) 9 249 Tryz.f249 JP Kh x=t99 p103 f103 x.1 x.2.1:=by kernel_rfl
def T99(x:DenS JP):Option (DenS Kh):=t99 QT.pre QT.F x.1 x.2.1
def Q0:Sum:=Ai JP Kh T99 (DenS.dflt Kh)
theorem w6:Sound Tryz.prog G1 249 Q0:=sd (cf [(253,QT)] []) 249 Tryz.f249 ⟨vQ,trivial⟩ trivial JP Kh T99 _ (fun _=>r99 ..)
abbrev lZ:=Ae JP
abbrev nR:=Ad JP Kh
variable (p99:lZ)(f99:nR)
abbrev Gr:Aa:=[(true,.pair (.bool) (.pair (.slice (.int .u64)) (.pair (.int .i64) (.unit))))]
abbrev Gz:Aa:=[(true,.pair (.bool) (.pair (.slice (.int .u64)) (.pair (.int .i64) (.unit))))]
abbrev GG:Pat:=⟨42,[(4,.one (.v .i64)),(3,.one (.sl (.int .u64))),(1,.one (.ptr 0 0)),(2,.one (.ptr 1 0))],[.raw [.bool,.sl (.int .u64),.v .i64],.raw [.bool,.sl (.int .u64),.v .i64]]⟩
abbrev X1:List (Nat×Shape):=[]
abbrev KU:List (Nat×Pat):=[(0,⟨42,[(4,.one (.v .i64)),(3,.one (.sl (.int .u64))),(1,.one (.ptr 0 0)),(2,.one (.ptr 1 0))],[.raw [.bool,.sl (.int .u64),.v .i64],.raw [.bool,.sl (.int .u64),.v .i64]]⟩)]
abbrev Kl:Option Pat:=none
variable (w100_5:Pat.D GG->Option (Ag KU Kl))
def W7(p102:F7)(f102:Gb)(p92:I0)(f92:I3)(p141:Rd)(f141:Rl){R:Type}(L:Pat.D GG->Option R)(e:Ag KU Kl->Option R)(x:Pat.D GG):Option R:=bif((decide ((0:Int)<=(BQ .i64 x.1.1 (64:Int))))&&(decide ((BQ .i64 x.1.1 (64:Int))<(x.1.2.1.length:Int))))then(bif((x.1.2.1.getD (ah (BQ .i64 x.1.1 (64:Int))) (0:Int))==(0:Int))then(((L (((aa .i64 (x.1.1+(64:Int))),x.1.2.1,(),(),()),x.2))))else(e (.inl ((x.1.1,x.1.2.1,(),(),()),x.2))))else none
theorem aXQ(d:Nat)(R:Type)(L:Pat.D GG->Option R)(e:Ag KU Kl->Option R)(x:Pat.D GG):
  Bn (cf [(122,⟨Ex,EC,p102,f102⟩),(191,⟨FK,FV,p92,f92⟩),(103,⟨HS,If,p141,f141⟩)] [(252,5,LoopSpec.of GG X1 KU Kl w100_5)]) (d+2) 252 (Bj Tryz.f252 5) GG X1 KU Kl (R:=R) L e x=W7 p102 f102 p92 f92 p141 f141 L e x:=by kernel_rfl
theorem aSz(p102:F7)(f102:Gb)(p92:I0)(f92:I3)(p141:Rd)(f141:Rl):Bf fun L e x=>W7 p102 f102 p92 f92 p141 f141 L e x:=by intro _ _ _ _ _ _ _ h0 hL he _;unfold W7;repeat' (first|exact h0|exact hL _|exact he _|apply By|(apply Bz h0;intro _)|(apply BA<;>intro _))
def aH5(p102:F7)(f102:Gb)(p92:I0)(f92:I3)(p141:Rd)(f141:Rl)(w100_5:Pat.D GG->Option (Ag KU Kl))(a0:Ab (.pair (.bool) (.pair (.slice (.int .u64)) (.pair (.int .i64) (.unit))))):Option (DenS Gz):=
 bif(p102 (a0.2.1,()))then(bif(((f102 (a0.2.1,())).1.length:Int)==(0:Int))then(some ((false,[],(0:Int),()),()))
 else Vx.A3 (w100_5 (((0:Int),(f102 (a0.2.1,())).1,(),(),()),(a0.1,a0.2),(false,[],(0:Int),()),())) fun y2=>
 Vx.A1 y2 (fun y3=>
 bif((decide ((0:Int)<=(BQ .i64 y3.1.1 (64:Int))))&&(decide ((BQ .i64 y3.1.1 (64:Int))<(y3.1.2.1.length:Int))))then(bif(p92 ((y3.1.2.1.getD (ah (BQ .i64 y3.1.1 (64:Int))) (0:Int)),()))then(bif(p141 (y3.1.2.1,(aa .i64 (y3.1.1+(f92 ((y3.1.2.1.getD (ah (BQ .i64 y3.1.1 (64:Int))) (0:Int)),())).1)),()))then(some ((y3.2.1.1,(f141 (y3.1.2.1,(aa .i64 (y3.1.1+(f92 ((y3.1.2.1.getD (ah (BQ .i64 y3.1.1 (64:Int))) (0:Int)),())).1)),())).1,(aa .i64 (y3.2.1.2.2.1+(aa .i64 (y3.1.1+(f92 ((y3.1.2.1.getD (ah (BQ .i64 y3.1.1 (64:Int))) (0:Int)),())).1)))),()),()))
 else none)
 else none)
 else none) (fun z3=>
 none))
 else none
theorem aUz(x:DenS Gr):run (cf [(122,⟨Ex,EC,p102,f102⟩),(191,⟨FK,FV,p92,f92⟩),(103,⟨HS,If,p141,f141⟩)] [(252,5,LoopSpec.of GG X1 KU Kl w100_5)]) 9 252 Tryz.f252 Gr Gz x=aH5 p102 f102 p92 f92 p141 f141 w100_5 x.1:=by kernel_rfl
def aAz:GG.D->Option (Ag KU Kl):=A6 fun L=>W7 BK.pre BK.F BW.pre BW.F Em.pre Em.F L some
def w8(x:DenS Gr):Option (DenS Gz):=aH5 BK.pre BK.F BW.pre BW.F Em.pre Em.F aAz x.1
def Fh:Sum:=Ai Gr Gz w8 (DenS.dflt Gz)
theorem YF:Sound Tryz.prog G1 252 Fh:=sd (cf [(122,BK),(191,BW),(103,Em)] [(252,5,LoopSpec.of GG X1 KU Kl aAz)]) 252 Tryz.f252 ⟨UB,j6,vV,trivial⟩ ⟨rfl,fun d=>Bw (fun L e x=>W7 BK.pre BK.F BW.pre BW.F Em.pre Em.F L e x) (aSz BK.pre BK.F BW.pre BW.F Em.pre Em.F) (fun _ _ _ _=>aXQ ..),trivial⟩ Gr Gz w8 _ (fun _=>aUz ..)
abbrev We:=Ae Gr
abbrev Wn:=Ad Gr Gz
variable (p100:We)(f100:Wn)
abbrev Mw:Aa:=[(false,.slice (.int .u64)),(false,.slice (.int .u64))]
abbrev Of:Aa:=[(false,.slice (.int .u64))]
abbrev FY:Pat:=⟨84,[(25,.one (.v .i64)),(24,.one (.sl (.int .u64))),(1,.one (.sl (.int .u64))),(26,.one (.v .i64)),(5,.one (.own 0))],[.arr (.int .u64)]⟩
abbrev Uq:List (Nat×Shape):=[]
abbrev IS:List (Nat×Pat):=[(0,⟨84,[(5,.one (.own 0))],[.arr (.int .u64)]⟩)]
abbrev Iy:Option Pat:=none
abbrev EJ:Pat:=⟨84,[(32,.one (.v .i64)),(31,.one (.sl (.int .u64))),(7,.one (.v .u64)),(33,.one (.v .i64)),(6,.one (.v .i64)),(8,.one (.v .u64)),(26,.one (.v .i64)),(25,.one (.v .i64)),(24,.one (.sl (.int .u64))),(1,.one (.sl (.int .u64))),(5,.one (.own 0))],[.arr (.int .u64)]⟩
abbrev Ur:List (Nat×Shape):=[]
abbrev F6:List (Nat×Pat):=[(2,⟨84,[(6,.one (.v .i64)),(8,.one (.v .u64)),(26,.one (.v .i64)),(25,.one (.v .i64)),(24,.one (.sl (.int .u64))),(1,.one (.sl (.int .u64))),(5,.one (.own 0))],[.arr (.int .u64)]⟩)]
abbrev F4:Option Pat:=none
variable (w324_4:Pat.D FY->Option (Ag IS Iy))(w324_8:Pat.D EJ->Option (Ag F6 F4))
def Xd(p315:D7)(f315:D9)(p155:CK)(f155:CL)(p173:AT)(f173:AU){R:Type}(L:Pat.D EJ->Option R)(e:Ag F6 F4->Option R)(x:Pat.D EJ):Option R:=let e10_:=(x.1.2.2.1,(x.1.2.1.getD (ah x.1.2.2.2.1) (0:Int)),());let e8_:=(f315 e10_);let e11_:=(aa .i64 (x.1.2.2.2.2.1+x.1.2.2.2.1));let e9_:=(ah e11_);let e7_:=(f155 (e8_.2.1,(x.2.1.getD e9_ (0:Int)),(0:Int),()));let e1_:=(f155 (e7_.1,x.1.2.2.2.2.2.1,(0:Int),()));let e2_:=e7_;let e3_:=((decide ((0:Int)<=e11_))&&(decide (e11_<(x.2.1.length:Int))));let e4_:=(x.1.2.2.2.2.2.2.1,x.1.2.2.2.2.2.2.2.1,x.1.2.2.2.2.2.2.2.2.1,x.1.2.2.2.2.2.2.2.2.2.1,(),());let e5_:=e8_;let e6_:=e9_;bif(decide (x.1.2.2.2.1<x.1.1))then(bif((decide ((0:Int)<=x.1.2.2.2.1))&&(decide (x.1.2.2.2.1<(x.1.2.1.length:Int))))then(bif(p315 e10_)then(bif e3_ then(bif(p155 (e5_.2.1,(x.2.1.getD e6_ (0:Int)),(0:Int),()))then(bif(p155 (e2_.1,x.1.2.2.2.2.2.1,(0:Int),()))then(bif e3_ then(((L ((x.1.1,x.1.2.1,x.1.2.2.1,(aa .i64 (x.1.2.2.2.1+(1:Int))),x.1.2.2.2.2.1,(aa .u64 ((aa .u64 (e5_.1+e2_.2.1))+e1_.2.1)),e4_),(x.2.1.set e6_ e1_.1),()))))else none)else none)else none)else none)else none)else none)else(e (.inl ((x.1.2.2.2.2.1,x.1.2.2.2.2.2.1,e4_),x.2)))
theorem aX7(d:Nat)(R:Type)(L:Pat.D EJ->Option R)(e:Ag F6 F4->Option R)(x:Pat.D EJ):
  Bn (cf [(120,⟨DU,DY,p315,f315⟩),(94,⟨Ek,EF,p155,f155⟩),(93,⟨Bg,Bh,p173,f173⟩)] [(102,4,LoopSpec.of FY Uq IS Iy w324_4),(102,8,LoopSpec.of EJ Ur F6 F4 w324_8)]) (d+2) 102 (Bj Tryz.f102 8) EJ Ur F6 F4 (R:=R) L e x=Xd p315 f315 p155 f155 p173 f173 L e x:=by kernel_rfl
theorem aSF(p315:D7)(f315:D9)(p155:CK)(f155:CL)(p173:AT)(f173:AU):Bf fun L e x=>Xd p315 f315 p155 f155 p173 f173 L e x:=by intro _ _ _ _ _ _ _ h0 hL he _;unfold Xd;repeat' (first|exact h0|exact hL _|exact he _|apply By|(apply Bz h0;intro _)|(apply BA<;>intro _))
def Xc(p315:D7)(f315:D9)(p155:CK)(f155:CL)(p173:AT)(f173:AU)(w324_8:Pat.D EJ->Option (Ag F6 F4)){R:Type}(L:Pat.D FY->Option R)(e:Ag IS Iy->Option R)(x:Pat.D FY):Option R:=
 bif(decide (x.1.2.2.2.1<x.1.1))then(bif((decide ((0:Int)<=x.1.2.2.2.1))&&(decide (x.1.2.2.2.1<(x.1.2.1.length:Int))))then(Vx.A3 (w324_8 (((x.1.2.2.1.length:Int),x.1.2.2.1,(x.1.2.1.getD (ah x.1.2.2.2.1) (0:Int)),(0:Int),x.1.2.2.2.1,(0:Int),x.1.2.2.2.1,x.1.1,x.1.2.1,x.1.2.2.1,(),()),x.2)) fun y2=>
 Vx.A1 y2 (fun y3=>
 bif((decide ((0:Int)<=(aa .i64 (y3.1.1+(y3.1.2.2.2.2.2.1.length:Int)))))&&(decide ((aa .i64 (y3.1.1+(y3.1.2.2.2.2.2.1.length:Int)))<(y3.2.1.length:Int))))then(((L ((y3.1.2.2.2.1,y3.1.2.2.2.2.1,y3.1.2.2.2.2.2.1,(aa .i64 (y3.1.2.2.1+(1:Int))),(),()),(y3.2.1.set (ah (aa .i64 (y3.1.1+(y3.1.2.2.2.2.2.1.length:Int)))) y3.1.2.1),()))))
 else none) (fun z3=>
 none))
 else none)
 else(e (.inl (((),()),x.2)))
theorem aX6(d:Nat)(R:Type)(L:Pat.D FY->Option R)(e:Ag IS Iy->Option R)(x:Pat.D FY):
  Bn (cf [(120,⟨DU,DY,p315,f315⟩),(94,⟨Ek,EF,p155,f155⟩),(93,⟨Bg,Bh,p173,f173⟩)] [(102,4,LoopSpec.of FY Uq IS Iy w324_4),(102,8,LoopSpec.of EJ Ur F6 F4 w324_8)]) (d+2) 102 (Bj Tryz.f102 4) FY Uq IS Iy (R:=R) L e x=Xc p315 f315 p155 f155 p173 f173 w324_8 L e x:=by kernel_rfl
theorem aSE(p315:D7)(f315:D9)(p155:CK)(f155:CL)(p173:AT)(f173:AU)(w324_8:Pat.D EJ->Option (Ag F6 F4)):Bf fun L e x=>Xc p315 f315 p155 f155 p173 f173 w324_8 L e x:=by intro _ _ _ _ _ _ _ h0 hL he _;unfold Xc;repeat' (first|exact h0|exact hL _|exact he _|apply By|(apply Bz h0;intro _)|(apply BA<;>intro _))
def aIt(p315:D7)(f315:D9)(p155:CK)(f155:CL)(p173:AT)(f173:AU)(w324_4:Pat.D FY->Option (Ag IS Iy))(w324_8:Pat.D EJ->Option (Ag F6 F4))(a0 a1:Ab (.slice (.int .u64))):Option (DenS Of):=
 let e1_:=(aa .i64 (((f173 (a0,())).1.length:Int)+((f173 (a1,())).1.length:Int)))
 bif(p173 (a0,()))then(bif(p173 (a1,()))then(bif((decide ((0:Int)<=e1_))&&(decide ((e1_*(8:Int))<=(140737488355328:Int))))then(Vx.A3 (w324_4 ((((f173 (a0,())).1.length:Int),(f173 (a0,())).1,(f173 (a1,())).1,(0:Int),(),()),(ap (ah e1_) (0:Int)),())) fun y3=>
 Vx.A1 y3 (fun y4=>
 bif(p173 y4.2)then(some (f173 y4.2))
 else none) (fun z4=>
 none))
 else none)
 else none)
 else none
theorem aVA(x:DenS Mw):run (cf [(120,⟨DU,DY,p315,f315⟩),(94,⟨Ek,EF,p155,f155⟩),(93,⟨Bg,Bh,p173,f173⟩)] [(102,4,LoopSpec.of FY Uq IS Iy w324_4),(102,8,LoopSpec.of EJ Ur F6 F4 w324_8)]) 9 102 Tryz.f102 Mw Of x=aIt p315 f315 p155 f155 p173 f173 w324_4 w324_8 x.1 x.2.1:=by kernel_rfl
def V8:EJ.D->Option (Ag F6 F4):=A6 fun L=>Xd AN.pre AN.F Ar.pre Ar.F Ah.pre Ah.F L some
def aAE:FY.D->Option (Ag IS Iy):=A6 fun L=>Xc AN.pre AN.F Ar.pre Ar.F Ah.pre Ah.F V8 L some
def yD(x:DenS Mw):Option (DenS Of):=aIt AN.pre AN.F Ar.pre Ar.F Ah.pre Ah.F aAE V8 x.1 x.2.1
def YX:Sum:=Ai Mw Of yD (DenS.dflt Of)
theorem aL2:Sound Tryz.prog G1 102 YX:=sd (cf [(120,AN),(94,Ar),(93,Ah)] [(102,4,LoopSpec.of FY Uq IS Iy aAE),(102,8,LoopSpec.of EJ Ur F6 F4 V8)]) 102 Tryz.f102 ⟨YU,Sj,Dy,trivial⟩ ⟨rfl,fun d=>Bw (fun L e x=>Xc AN.pre AN.F Ar.pre Ar.F Ah.pre Ah.F V8 L e x) (aSE AN.pre AN.F Ar.pre Ar.F Ah.pre Ah.F V8) (fun _ _ _ _=>aX6 ..),⟨rfl,fun d=>Bw (fun L e x=>Xd AN.pre AN.F Ar.pre Ar.F Ah.pre Ah.F L e x) (aSF AN.pre AN.F Ar.pre Ar.F Ah.pre Ah.F) (fun _ _ _ _=>aX7 ..),trivial⟩⟩ Mw Of yD _ (fun _=>aVA ..)
abbrev kR:=Ae Mw
abbrev mJ:=Ad Mw Of
variable (p324:kR)(f324:mJ)
abbrev Mx:Aa:=[(false,.slice (.int .u64)),(false,.slice (.int .u64))]
abbrev Og:Aa:=[(false,.slice (.int .u64)),(false,.int .i64)]
def aIu(p324:kR)(f324:mJ)(p185:Rg)(f185:Ro)(a0 a1:Ab (.slice (.int .u64))):Option (DenS Og):=bif(p185 ((a0::(a1::[])),()))then(bif(f185 ((a0::(a1::[])),())).1 then(some ([],(5:Int),()))else bif(p324 (a0,a1,()))then(bif(p185 (((f324 (a0,a1,())).1::[]),()))then(bif(f185 (((f324 (a0,a1,())).1::[]),())).1 then(some ([],(5:Int),()))else some ((f324 (a0,a1,())).1,(0:Int),()))else none)else none)else none
theorem aVB(x:DenS Mx):run (cf [(102,⟨Mw,Of,p324,f324⟩),(96,⟨HV,Ii,p185,f185⟩)] []) 9 95 Tryz.f95 Mx Og x=aIu p324 f324 p185 f185 x.1 x.2.1:=by kernel_rfl
def yE(x:DenS Mx):Option (DenS Og):=aIu YX.pre YX.F D2.pre D2.F x.1 x.2.1
def YY:Sum:=Ai Mx Og yE (DenS.dflt Og)
theorem aL3:Sound Tryz.prog G1 95 YY:=sd (cf [(102,YX),(96,D2)] []) 95 Tryz.f95 ⟨aL2,jS,trivial⟩ trivial Mx Og yE _ (fun _=>aVB ..)
abbrev kS:=Ae Mx
abbrev mK:=Ad Mx Og
variable (p325:kS)(f325:mK)
abbrev HJ:Aa:=[(true,.pair (.bool) (.pair (.slice (.int .u64)) (.pair (.int .i64) (.unit))))]
abbrev H7:Aa:=[(true,.pair (.bool) (.pair (.slice (.int .u64)) (.pair (.int .i64) (.unit)))),(false,.int .i64)]
def aH8(p100:We)(f100:Wn)(a0:Ab (.pair (.bool) (.pair (.slice (.int .u64)) (.pair (.int .i64) (.unit))))):Option (DenS H7):=bif(p100 ((a0.1,a0.2),()))then(bif(decide (((f100 ((a0.1,a0.2),())).1.2.1.length:Int)>(1024:Int)))then(some ((false,[],(0:Int),()),(5:Int),()))else bif((decide ((f100 ((a0.1,a0.2),())).1.2.2.1<(-(40000:Int))))||(decide ((f100 ((a0.1,a0.2),())).1.2.2.1>(40000:Int))))then(some ((false,[],(0:Int),()),(30:Int),()))else some ((f100 ((a0.1,a0.2),())).1,(0:Int),()))else none
theorem aUD(x:DenS HJ):run (cf [(252,⟨Gr,Gz,p100,f100⟩)] []) 9 250 Tryz.f250 HJ H7 x=aH8 p100 f100 x.1:=by kernel_rfl
def xD(x:DenS HJ):Option (DenS H7):=aH8 Fh.pre Fh.F x.1
def IG:Sum:=Ai HJ H7 xD (DenS.dflt H7)
theorem jJ:Sound Tryz.prog G1 250 IG:=sd (cf [(252,Fh)] []) 250 Tryz.f250 ⟨YF,trivial⟩ trivial HJ H7 xD _ (fun _=>aUD ..)
abbrev ZQ:=Ae HJ
abbrev aB:=Ad HJ H7
variable (p104:ZQ)(f104:aB)
abbrev ME:Aa:=[(true,.pair (.bool) (.pair (.slice (.int .u64)) (.pair (.int .i64) (.unit)))),(true,.pair (.bool) (.pair (.slice (.int .u64)) (.pair (.int .i64) (.unit))))]
abbrev Oo:Aa:=[(true,.pair (.bool) (.pair (.slice (.int .u64)) (.pair (.int .i64) (.unit)))),(false,.int .i64)]
def aIz(p99:lZ)(f99:nR)(p100:We)(f100:Wn)(p325:kS)(f325:mK)(p104:ZQ)(f104:aB)(a0 a1:Ab (.pair (.bool) (.pair (.slice (.int .u64)) (.pair (.int .i64) (.unit))))):Option (DenS Oo):=let e4_:=((f100 ((a0.1,a0.2),())).1.2.1,(f100 ((a1.1,a1.2),())).1.2.1,());let e3_:=(f325 e4_);let e1_:=(((!((f100 ((a0.1,a0.2),())).1.1==(f100 ((a1.1,a1.2),())).1.1)),e3_.1,(aa .i64 ((f100 ((a0.1,a0.2),())).1.2.2.1+(f100 ((a1.1,a1.2),())).1.2.2.1)),()),());let e2_:=e3_;bif(p99 ((a0.1,a0.2),(a1.1,a1.2),()))then(bif((f99 ((a0.1,a0.2),(a1.1,a1.2),())).1 !=(0:Int))then(some ((false,[],(0:Int),()),(f99 ((a0.1,a0.2),(a1.1,a1.2),()))))else bif(p100 ((a0.1,a0.2),()))then(bif(p100 ((a1.1,a1.2),()))then(bif(p325 e4_)then(bif(e2_.2.1 !=(0:Int))then(some ((false,[],(0:Int),()),e2_.2))else bif(p104 e1_)then(some (f104 e1_))else none)else none)else none)else none)else none
theorem aVP(x:DenS ME):run (cf [(249,⟨JP,Kh,p99,f99⟩),(252,⟨Gr,Gz,p100,f100⟩),(95,⟨Mx,Og,p325,f325⟩),(250,⟨HJ,H7,p104,f104⟩)] []) 9 241 Tryz.f241 ME Oo x=aIz p99 f99 p100 f100 p325 f325 p104 f104 x.1 x.2.1:=by kernel_rfl
def yK(x:DenS ME):Option (DenS Oo):=aIz Q0.pre Q0.F Fh.pre Fh.F YY.pre YY.F IG.pre IG.F x.1 x.2.1
def Y0:Sum:=Ai ME Oo yK (DenS.dflt Oo)
theorem aMe:Sound Tryz.prog G1 241 Y0:=sd (cf [(249,Q0),(252,Fh),(95,YY),(250,IG)] []) 241 Tryz.f241 ⟨w6,YF,aL3,jJ,trivial⟩ trivial ME Oo yK _ (fun _=>aVP ..)
abbrev aBo:=Ae ME
abbrev aCT:=Ad ME Oo
variable (p360:aBo)(f360:aCT)
abbrev MS:Aa:=[(false,.int .i64),(false,.int .u64),(false,.int .u64)]
abbrev OB:Aa:=[(true,.pair (.bool) (.pair (.bool) (.pair (.bool) (.pair (.bool) (.pair (.bool) (.pair (.pair (.bool) (.pair (.slice (.int .u64)) (.pair (.int .i64) (.unit)))) (.unit)))))))]
def aIH(p398:kY)(f398:mQ)(p47:lN)(f47:nF)(p360:aBo)(f360:aCT)(a0:Ab (.int .i64))(a1 a2:Ab (.int .u64)):Option (DenS OB):=let e7_:=(((f398 (a0,a1,())).1.2.2.2.1&&(!(f398 (a0,a2,())).1.2.2.2.1))&&((f47 (f398 (a0,a2,())).1.2.2.2.2.2).1==(0:Int)));let e1_:=(e7_||(((f398 (a0,a2,())).1.2.2.2.1&&(!(f398 (a0,a1,())).1.2.2.2.1))&&((f47 (f398 (a0,a1,())).1.2.2.2.2.2).1==(0:Int))));let e8_:=(!((f398 (a0,a1,())).1.2.2.2.2.1==(f398 (a0,a2,())).1.2.2.2.2.1));let e2_:=(e8_,(false,[],(0:Int),()),());let e3_:=((f398 (a0,a1,())).1.2.2.2.2.2.1,(f398 (a0,a2,())).1.2.2.2.2.2);let e4_:=((f398 (a0,a1,())).1.2.2.2.1||(f398 (a0,a2,())).1.2.2.2.1);let e5_:=((f398 (a0,a1,())).1.2.1||(f398 (a0,a2,())).1.2.1);let e6_:=((f398 (a0,a1,())).1.1||(f398 (a0,a2,())).1.1);bif(p398 (a0,a1,()))then(bif(p398 (a0,a2,()))then(bif e6_ then(some ((e6_,e5_,false,false,e2_),()))else bif((p47 (f398 (a0,a2,())).1.2.2.2.2.2)||(!(bif(f398 (a0,a1,())).1.2.2.2.1 then(!(f398 (a0,a2,())).1.2.2.2.1)else false)))then(bif((p47 (f398 (a0,a1,())).1.2.2.2.2.2)||(!((bif e7_ then false else true)&&(bif(f398 (a0,a2,())).1.2.2.2.1 then(!(f398 (a0,a1,())).1.2.2.2.1)else false))))then(bif(!e4_)then(bif(p360 e3_)then(some ((e6_,e5_,e1_,e4_,e8_,(f360 e3_).1,()),()))else none)else some ((e6_,e5_,e1_,e4_,e2_),()))else none)else none)else none)else none
theorem aV4(x:DenS MS):run (cf [(212,⟨JE,J5,p398,f398⟩),(240,⟨JM,Ke,p47,f47⟩),(241,⟨ME,Oo,p360,f360⟩)] []) 9 211 Tryz.f211 MS OB x=aIH p398 f398 p47 f47 p360 f360 x.1 x.2.1 x.2.2.1:=by kernel_rfl
def yU(x:DenS MS):Option (DenS OB):=aIH QU.pre QU.F QY.pre QY.F Y0.pre Y0.F x.1 x.2.1 x.2.2.1
def Y6:Sum:=Ai MS OB yU (DenS.dflt OB)
theorem aMp:Sound Tryz.prog G1 211 Y6:=sd (cf [(212,QU),(240,QY),(241,Y0)] []) 211 Tryz.f211 ⟨wF,wY,aMe,trivial⟩ trivial MS OB yU _ (fun _=>aV4 ..)
abbrev aBz:=Ae MS
abbrev aC4:=Ad MS OB
variable (p399:aBz)(f399:aC4)
abbrev Mi:Aa:=[(false,.slice (.int .u64)),(false,.int .i64)]
abbrev N1:Aa:=[(false,.slice (.int .u64))]
abbrev GN:Pat:=⟨57,[(25,.one (.v .i64)),(24,.one (.sl (.int .u64))),(5,.one (.v .i64)),(6,.one (.v .u64)),(26,.one (.v .i64)),(7,.one (.own 0))],[.arr (.int .u64)]⟩
abbrev X9:List (Nat×Shape):=[]
abbrev K2:List (Nat×Pat):=[(0,⟨57,[(7,.one (.own 0))],[.arr (.int .u64)]⟩)]
abbrev Kt:Option Pat:=none
variable (w172_6:Pat.D GN->Option (Ag K2 Kt))
def W8(p102:F7)(f102:Gb){R:Type}(L:Pat.D GN->Option R)(e:Ag K2 Kt->Option R)(x:Pat.D GN):Option R:=let e6_:=(aa .i64 (x.1.2.2.1+x.1.2.2.2.2.1));let e5_:=(ah e6_);let e7_:=(x.1.2.1.getD (ah x.1.2.2.2.2.1) (0:Int));let e1_:=(x.2.1.set e5_ (An .u64 (x.2.1.getD e5_ (0:Int)) (A4 .u64 e7_ x.1.2.2.2.1)));let e2_:=((decide ((0:Int)<=e6_))&&(decide (e6_<(x.2.1.length:Int))));let e3_:=(x.1.1,x.1.2.1,x.1.2.2.1,x.1.2.2.2.1,(aa .i64 (x.1.2.2.2.2.1+(1:Int))),(),());let e4_:=(aa .i64 (e6_+(1:Int)));bif(decide (x.1.2.2.2.2.1<x.1.1))then(bif((decide ((0:Int)<=x.1.2.2.2.2.1))&&(decide (x.1.2.2.2.2.1<(x.1.2.1.length:Int))))then(bif e2_ then(bif e2_ then(bif(decide (x.1.2.2.2.1>(0:Int)))then(bif((decide ((0:Int)<=e4_))&&(decide (e4_<(e1_.length:Int))))then(((L (e3_,(e1_.set (ah e4_) (AJ .u64 e7_ (aa .u64 ((64:Int)-x.1.2.2.2.1)))),()))))else none)else(L (e3_,e1_,())))else none)else none)else none)else(e (.inl (((),()),x.2)))
theorem aXY(d:Nat)(R:Type)(L:Pat.D GN->Option R)(e:Ag K2 Kt->Option R)(x:Pat.D GN):
  Bn (cf [(122,⟨Ex,EC,p102,f102⟩)] [(256,6,LoopSpec.of GN X9 K2 Kt w172_6)]) (d+2) 256 (Bj Tryz.f256 6) GN X9 K2 Kt (R:=R) L e x=W8 p102 f102 L e x:=by kernel_rfl
theorem aSA(p102:F7)(f102:Gb):Bf fun L e x=>W8 p102 f102 L e x:=by intro _ _ _ _ _ _ _ h0 hL he _;unfold W8;repeat' (first|exact h0|exact hL _|exact he _|apply By|(apply Bz h0;intro _)|(apply BA<;>intro _))
def aIj(p102:F7)(f102:Gb)(w172_6:Pat.D GN->Option (Ag K2 Kt))(a0:Ab (.slice (.int .u64)))(a1:Ab (.int .i64)):Option (DenS N1):=
 let e1_:=(aa .i64 ((aa .i64 ((BQ .i64 a1 (64:Int))+(a0.length:Int)))+(1:Int)))
 bif((a0.length:Int)==(0:Int))then(some ([],()))
 else bif((decide ((0:Int)<=e1_))&&(decide ((e1_*(8:Int))<=(140737488355328:Int))))then(Vx.A3 (w172_6 (((a0.length:Int),a0,(BQ .i64 a1 (64:Int)),(aa .u64 (ks a1 (64:Int))),(0:Int),(),()),(ap (ah e1_) (0:Int)),())) fun y2=>
 Vx.A1 y2 (fun y3=>
 bif(p102 y3.2)then(some (f102 y3.2))
 else none) (fun z3=>
 none))
 else none
theorem aVe(x:DenS Mi):run (cf [(122,⟨Ex,EC,p102,f102⟩)] [(256,6,LoopSpec.of GN X9 K2 Kt w172_6)]) 9 256 Tryz.f256 Mi N1 x=aIj p102 f102 w172_6 x.1 x.2.1:=by kernel_rfl
def aAA:GN.D->Option (Ag K2 Kt):=A6 fun L=>W8 BK.pre BK.F L some
def xU(x:DenS Mi):Option (DenS N1):=aIj BK.pre BK.F aAA x.1 x.2.1
def YP:Sum:=Ai Mi N1 xU (DenS.dflt N1)
theorem aLR:Sound Tryz.prog G1 256 YP:=sd (cf [(122,BK)] [(256,6,LoopSpec.of GN X9 K2 Kt aAA)]) 256 Tryz.f256 ⟨UB,trivial⟩ ⟨rfl,fun d=>Bw (fun L e x=>W8 BK.pre BK.F L e x) (aSA BK.pre BK.F) (fun _ _ _ _=>aXY ..),trivial⟩ Mi N1 xU _ (fun _=>aVe ..)
abbrev aBa:=Ae Mi
abbrev aCF:=Ad Mi N1
variable (p172:aBa)(f172:aCF)
abbrev Mc:Aa:=[(true,.pair (.bool) (.pair (.slice (.int .u64)) (.pair (.int .i64) (.unit)))),(true,.pair (.bool) (.pair (.slice (.int .u64)) (.pair (.int .i64) (.unit))))]
abbrev NU:Aa:=[(false,.slice (.int .u64)),(false,.slice (.int .u64)),(false,.int .i64)]
def aIh(p172:aBa)(f172:aCF)(a0 a1:Ab (.pair (.bool) (.pair (.slice (.int .u64)) (.pair (.int .i64) (.unit))))):Option (DenS NU):=let e3_:=(if(a1.2.2.1<a0.2.2.1)then a1.2.2.1 else a0.2.2.1);let e1_:=(a0.2.1,(aa .i64 (a0.2.2.1-e3_)),());let e2_:=(a1.2.1,(aa .i64 (a1.2.2.1-e3_)),());bif(p172 e1_)then(bif(p172 e2_)then(some ((f172 e1_).1,(f172 e2_).1,e3_,()))else none)else none
theorem aU0(x:DenS Mc):run (cf [(256,⟨Mi,N1,p172,f172⟩)] []) 9 255 Tryz.f255 Mc NU x=aIh p172 f172 x.1 x.2.1:=by kernel_rfl
def xP(x:DenS Mc):Option (DenS NU):=aIh YP.pre YP.F x.1 x.2.1
def YL:Sum:=Ai Mc NU xP (DenS.dflt NU)
theorem aLK:Sound Tryz.prog G1 255 YL:=sd (cf [(256,YP)] []) 255 Tryz.f255 ⟨aLR,trivial⟩ trivial Mc NU xP _ (fun _=>aU0 ..)
abbrev aA3:=Ae Mc
abbrev aCy:=Ad Mc NU
variable (p142:aA3)(f142:aCy)
abbrev L6:Aa:=[(true,.pair (.bool) (.pair (.slice (.int .u64)) (.pair (.int .i64) (.unit)))),(true,.pair (.bool) (.pair (.slice (.int .u64)) (.pair (.int .i64) (.unit))))]
abbrev NO:Aa:=[(true,.pair (.bool) (.pair (.slice (.int .u64)) (.pair (.int .i64) (.unit))))]
def aH6(p142:aA3)(f142:aCy)(p143:Ll)(f143:Lo)(p144:Hb)(f144:He)(p145:SO)(f145:SY)(p100:We)(f100:Wn)(a0 a1:Ab (.pair (.bool) (.pair (.slice (.int .u64)) (.pair (.int .i64) (.unit))))):Option (DenS NO):=let e5_:=((f142 ((a0.1,a0.2),(a1.1,a1.2),())).1,(f142 ((a0.1,a0.2),(a1.1,a1.2),())).2.1,());let e1_:=((a0.1,(f143 e5_).1,(f142 ((a0.1,a0.2),(a1.1,a1.2),())).2.2),());let e6_:=((f142 ((a0.1,a0.2),(a1.1,a1.2),())).2.1,(f142 ((a0.1,a0.2),(a1.1,a1.2),())).1,());let e2_:=((a1.1,(f145 e6_).1,(f142 ((a0.1,a0.2),(a1.1,a1.2),())).2.2),());let e3_:=((a0.1,(f145 e5_).1,(f142 ((a0.1,a0.2),(a1.1,a1.2),())).2.2),());let e4_:=e5_;bif((a0.2.1.length:Int)==(0:Int))then(some ((a1.1,a1.2),()))else bif((a1.2.1.length:Int)==(0:Int))then(some ((a0.1,a0.2),()))else bif(p142 ((a0.1,a0.2),(a1.1,a1.2),()))then(bif(a0.1==a1.1)then(bif(p143 e4_)then(bif(p100 e1_)then(some (f100 e1_))else none)else none)else bif(p144 e4_)then(bif(decide ((f144 e4_).1<(0:Int)))then(bif(p145 e6_)then(bif(p100 e2_)then(some (f100 e2_))else none)else none)else bif(p145 e4_)then(bif(p100 e3_)then(some (f100 e3_))else none)else none)else none)else none
theorem aUA(x:DenS L6):run (cf [(255,⟨Mc,NU,p142,f142⟩),(65,⟨Gv,FQ,p143,f143⟩),(101,⟨E1,E8,p144,f144⟩),(248,⟨HT,Ig,p145,f145⟩),(252,⟨Gr,Gz,p100,f100⟩)] []) 9 251 Tryz.f251 L6 NO x=aH6 p142 f142 p143 f143 p144 f144 p145 f145 p100 f100 x.1 x.2.1:=by kernel_rfl
def w9(x:DenS L6):Option (DenS NO):=aH6 YL.pre YL.F CQ.pre CQ.F Bq.pre Bq.F Dh.pre Dh.F Fh.pre Fh.F x.1 x.2.1
def YG:Sum:=Ai L6 NO w9 (DenS.dflt NO)
theorem aLB:Sound Tryz.prog G1 251 YG:=sd (cf [(255,YL),(65,CQ),(101,Bq),(248,Dh),(252,Fh)] []) 251 Tryz.f251 ⟨aLK,jP,YM,vW,YF,trivial⟩ trivial L6 NO w9 _ (fun _=>aUA ..)
abbrev aAU:=Ae L6
abbrev aCp:=Ad L6 NO
variable (p101:aAU)(f101:aCp)
abbrev NB:Aa:=[(true,.pair (.bool) (.pair (.slice (.int .u64)) (.pair (.int .i64) (.unit)))),(true,.pair (.bool) (.pair (.slice (.int .u64)) (.pair (.int .i64) (.unit))))]
abbrev Pg:Aa:=[(true,.pair (.bool) (.pair (.slice (.int .u64)) (.pair (.int .i64) (.unit)))),(false,.int .i64)]
def t49(p99:lZ)(f99:nR)(p100:We)(f100:Wn)(p101:aAU)(f101:aCp)(p104:ZQ)(f104:aB)(a0 a1:Ab (.pair (.bool) (.pair (.slice (.int .u64)) (.pair (.int .i64) (.unit))))):Option (DenS Pg):=let e2_:=((f100 ((a0.1,a0.2),())).1,(f100 ((a1.1,a1.2),())));let e1_:=(f101 e2_);bif(p99 ((a0.1,a0.2),(a1.1,a1.2),()))then(bif((f99 ((a0.1,a0.2),(a1.1,a1.2),())).1 !=(0:Int))then(some ((false,[],(0:Int),()),(f99 ((a0.1,a0.2),(a1.1,a1.2),()))))else bif(p100 ((a0.1,a0.2),()))then(bif(p100 ((a1.1,a1.2),()))then(bif(p101 e2_)then(bif(p104 e1_)then(some (f104 e1_))else none)else none)else none)else none)else none
theorem r49(x:DenS NB):run (cf [(249,⟨JP,Kh,p99,f99⟩),(252,⟨Gr,Gz,p100,f100⟩),(251,⟨L6,NO,p101,f101⟩),(250,⟨HJ,H7,p104,f104⟩)] []) 9 239 Tryz.f239 NB Pg x=t49 p99 f99 p100 f100 p101 f101 p104 f104 x.1 x.2.1:=by kernel_rfl
def T49(x:DenS NB):Option (DenS Pg):=t49 Q0.pre Q0.F Fh.pre Fh.F YG.pre YG.F IG.pre IG.F x.1 x.2.1
def Zn:Sum:=Ai NB Pg T49 (DenS.dflt Pg)
theorem aMV:Sound Tryz.prog G1 239 Zn:=sd (cf [(249,Q0),(252,Fh),(251,YG),(250,IG)] []) 239 Tryz.f239 ⟨w6,YF,aLB,jJ,trivial⟩ trivial NB Pg T49 _ (fun _=>r49 ..)
abbrev Y49:=Ae NB
abbrev Z49:=Ad NB Pg
variable (p49:Y49)(f49:Z49)
abbrev L7:Aa:=[(true,.pair (.bool) (.pair (.slice (.int .u64)) (.pair (.int .i64) (.unit))))]
abbrev NP:Aa:=[(true,.pair (.bool) (.pair (.slice (.int .u64)) (.pair (.int .i64) (.unit)))),(false,.int .i64)]
def aH9(p103:kJ)(f103:mA)(p104:ZQ)(f104:aB)(a0:Ab (.pair (.bool) (.pair (.slice (.int .u64)) (.pair (.int .i64) (.unit))))):Option (DenS NP):=bif(p103 ((a0.1,a0.2),()))then(bif((f103 ((a0.1,a0.2),())).1 !=(0:Int))then(some ((false,[],(0:Int),()),(f103 ((a0.1,a0.2),()))))else bif(p104 ((a0.1,a0.2),()))then(some (f104 ((a0.1,a0.2),())))else none)else none
theorem aUF(x:DenS L7):run (cf [(253,⟨Ju,JR,p103,f103⟩),(250,⟨HJ,H7,p104,f104⟩)] []) 9 246 Tryz.f246 L7 NP x=aH9 p103 f103 p104 f104 x.1:=by kernel_rfl
def xF(x:DenS L7):Option (DenS NP):=aH9 QT.pre QT.F IG.pre IG.F x.1
def YH:Sum:=Ai L7 NP xF (DenS.dflt NP)
theorem aLC:Sound Tryz.prog G1 246 YH:=sd (cf [(253,QT),(250,IG)] []) 246 Tryz.f246 ⟨vQ,jJ,trivial⟩ trivial L7 NP xF _ (fun _=>aUF ..)
abbrev aAV:=Ae L7
abbrev aCq:=Ad L7 NP
variable (p106:aAV)(f106:aCq)
abbrev H2:Aa:=[(false,.int .i64),(false,.int .i64),(true,.pair (.bool) (.pair (.slice (.int .u64)) (.pair (.int .i64) (.unit))))]
abbrev Is:Aa:=[(false,.int .u64),(false,.int .i64),(false,.int .i64)]
def t51(p105:SL)(f105:SU)(p106:aAV)(f106:aCq)(p107:SM)(f107:SW)(a0 a1:Ab (.int .i64))(a2:Ab (.pair (.bool) (.pair (.slice (.int .u64)) (.pair (.int .i64) (.unit))))):Option (DenS Is):=let e2_:=(((f106 ((a2.1,a2.2),())).1.1,(f106 ((a2.1,a2.2),())).1.2.1,(f106 ((a2.1,a2.2),())).1.2.2.1,false,()),a0,(f105 (a0,a1,())).1,a1,());let e1_:=(f107 e2_);bif(p105 (a0,a1,()))then(bif((f105 (a0,a1,())).2.1 !=(0:Int))then(some ((0:Int),(0:Int),(f105 (a0,a1,())).2))else bif(p106 ((a2.1,a2.2),()))then(bif((f106 ((a2.1,a2.2),())).2.1 !=(0:Int))then(some ((0:Int),(0:Int),(f106 ((a2.1,a2.2),())).2))else bif(((f106 ((a2.1,a2.2),())).1.2.1.length:Int)==(0:Int))then(some ((0:Int),(0:Int),(0:Int),()))else bif(p107 e2_)then(some (e1_.1,e1_.2.1,(0:Int),()))else none)else none)else none
theorem r51(x:DenS H2):run (cf [(121,⟨HK,H8,p105,f105⟩),(246,⟨L7,NP,p106,f106⟩),(124,⟨HL,H9,p107,f107⟩)] []) 9 231 Tryz.f231 H2 Is x=t51 p105 f105 p106 f106 p107 f107 x.1 x.2.1 x.2.2.1:=by kernel_rfl
def T51(x:DenS H2):Option (DenS Is):=t51 EK.pre EK.F YH.pre YH.F EL.pre EL.F x.1 x.2.1 x.2.2.1
def IL:Sum:=Ai H2 Is T51 (DenS.dflt Is)
theorem j1:Sound Tryz.prog G1 231 IL:=sd (cf [(121,EK),(246,YH),(124,EL)] []) 231 Tryz.f231 ⟨jK,aLC,jL,trivial⟩ trivial H2 Is T51 _ (fun _=>r51 ..)
abbrev Z9:=Ae H2
abbrev aU:=Ad H2 Is
variable (p51:Z9)(f51:aU)
abbrev MT:Aa:=[(false,.int .i64),(false,.int .i64),(true,.pair (.bool) (.pair (.bool) (.pair (.bool) (.pair (.bool) (.pair (.bool) (.pair (.pair (.bool) (.pair (.slice (.int .u64)) (.pair (.int .i64) (.unit)))) (.unit))))))),(true,.pair (.bool) (.pair (.bool) (.pair (.bool) (.pair (.bool) (.pair (.bool) (.pair (.pair (.bool) (.pair (.slice (.int .u64)) (.pair (.int .i64) (.unit)))) (.unit)))))))]
abbrev OC:Aa:=[(false,.int .u64),(false,.int .i64),(false,.int .i64)]
def aII(p70:CZ)(f70:C0)(p97:Ln)(f97:Lq)(p49:Y49)(f49:Z49)(p47:lN)(f47:nF)(p118:Ha)(f118:Hd)(p51:Z9)(f51:aU)(a0 a1:Ab (.int .i64))(a2:Ab (.pair (.bool) (.pair (.bool) (.pair (.bool) (.pair (.bool) (.pair (.bool) (.pair (.pair (.bool) (.pair (.slice (.int .u64)) (.pair (.int .i64) (.unit)))) (.unit))))))))(a3:Ab (.pair (.bool) (.pair (.bool) (.pair (.bool) (.pair (.bool) (.pair (.bool) (.pair (.pair (.bool) (.pair (.slice (.int .u64)) (.pair (.int .i64) (.unit)))) (.unit)))))))):Option (DenS OC):=let e1_:=(a0,a1,(f49 (a2.2.2.2.2.2.1,a3.2.2.2.2.2)).1,());let e2_:=((f70 (a0,())).1,(1:Int),(0:Int),());bif(p70 (a0,()))then(bif(((a2.2.1||a3.2.1)||a2.2.2.1)||a3.2.2.1)then(some e2_)else bif(a2.1||a3.1)then(some ((f70 (a0,())).1,(0:Int),(0:Int),()))else bif((a2.2.2.2.1&&a3.2.2.2.1)&&(!(a2.2.2.2.2.1==a3.2.2.2.2.1)))then(some e2_)else bif a2.2.2.2.1 then(bif(p97 (a0,a2.2.2.2.2.1,()))then(some ((f97 (a0,a2.2.2.2.2.1,())).1,(0:Int),(0:Int),()))else none)else bif a3.2.2.2.1 then(bif(p97 (a0,a3.2.2.2.2.1,()))then(some ((f97 (a0,a3.2.2.2.2.1,())).1,(0:Int),(0:Int),()))else none)else bif(p49 (a2.2.2.2.2.2.1,a3.2.2.2.2.2))then(bif((f49 (a2.2.2.2.2.2.1,a3.2.2.2.2.2)).2.1 !=(0:Int))then(some ((0:Int),(0:Int),(f49 (a2.2.2.2.2.2.1,a3.2.2.2.2.2)).2))else bif(p47 ((f49 (a2.2.2.2.2.2.1,a3.2.2.2.2.2)).1,()))then(bif((f47 ((f49 (a2.2.2.2.2.2.1,a3.2.2.2.2.2)).1,())).1==(0:Int))then(bif(p47 a2.2.2.2.2.2)then(bif((p47 a3.2.2.2.2.2)||(!(decide ((f47 a2.2.2.2.2.2).1=(0:Int)))))then(bif((((f47 a2.2.2.2.2.2).1==(0:Int))&&((f47 a3.2.2.2.2.2).1==(0:Int)))&&(a2.2.2.2.2.1==a3.2.2.2.2.1))then(bif(p118 (a0,a2.2.2.2.2.1,()))then(some ((f118 (a0,a2.2.2.2.2.1,())).1,(0:Int),(0:Int),()))else none)else bif(p118 (a0,(a1==(4:Int)),()))then(some ((f118 (a0,(a1==(4:Int)),())).1,(0:Int),(0:Int),()))else none)else none)else none)else bif(p51 e1_)then(some (f51 e1_))else none)else none)else none)else none
theorem aV6(x:DenS MT):run (cf [(61,⟨CV,CW,p70,f70⟩),(62,⟨FL,FW,p97,f97⟩),(239,⟨NB,Pg,p49,f49⟩),(240,⟨JM,Ke,p47,f47⟩),(64,⟨Ei,ED,p118,f118⟩),(231,⟨H2,Is,p51,f51⟩)] []) 9 210 Tryz.f210 MT OC x=aII p70 f70 p97 f97 p49 f49 p47 f47 p118 f118 p51 f51 x.1 x.2.1 x.2.2.1 x.2.2.2.1:=by kernel_rfl
def yV(x:DenS MT):Option (DenS OC):=aII AO.pre AO.F Cv.pre Cv.F Zn.pre Zn.F QY.pre QY.F Bp.pre Bp.F IL.pre IL.F x.1 x.2.1 x.2.2.1 x.2.2.2.1
def Y7:Sum:=Ai MT OC yV (DenS.dflt OC)
theorem aMq:Sound Tryz.prog G1 210 Y7:=sd (cf [(61,AO),(62,Cv),(239,Zn),(240,QY),(64,Bp),(231,IL)] []) 210 Tryz.f210 ⟨Ft,UW,aMV,wY,Se,j1,trivial⟩ trivial MT OC yV _ (fun _=>aV6 ..)
abbrev aBA:=Ae MT
abbrev aC5:=Ad MT OC
variable (p400:aBA)(f400:aC5)
abbrev MU:Aa:=[(false,.int .i64),(false,.int .i64),(false,.int .u64),(false,.int .u64),(false,.int .u64)]
abbrev OD:Aa:=[(false,.int .u64),(false,.int .i64),(false,.int .i64)]
def aIJ(p397:aBy)(f397:aC3)(p399:aBz)(f399:aC4)(p398:kY)(f398:mQ)(p400:aBA)(f400:aC5)(a0 a1:Ab (.int .i64))(a2 a3 a4:Ab (.int .u64)):Option (DenS OD):=let e1_:=(a0,a1,(f399 (a0,a2,a3,())).1,(f398 (a0,a4,())));let e2_:=(f397 (a0,a1,(a2::(a3::(a4::[]))),()));bif(p397 (a0,a1,(a2::(a3::(a4::[]))),()))then(bif(e2_.1 !=(0:Int))then(some ((0:Int),(0:Int),e2_))else bif(p399 (a0,a2,a3,()))then(bif(p398 (a0,a4,()))then(bif(p400 e1_)then(some (f400 e1_))else none)else none)else none)else none
theorem aV7(x:DenS MU):run (cf [(209,⟨MR,OA,p397,f397⟩),(211,⟨MS,OB,p399,f399⟩),(212,⟨JE,J5,p398,f398⟩),(210,⟨MT,OC,p400,f400⟩)] []) 9 165 Tryz.f165 MU OD x=aIJ p397 f397 p399 f399 p398 f398 p400 f400 x.1 x.2.1 x.2.2.1 x.2.2.2.1 x.2.2.2.2.1:=by kernel_rfl
def yW(x:DenS MU):Option (DenS OD):=aIJ Y5.pre Y5.F Y6.pre Y6.F QU.pre QU.F Y7.pre Y7.F x.1 x.2.1 x.2.2.1 x.2.2.2.1 x.2.2.2.2.1
def Y8:Sum:=Ai MU OD yW (DenS.dflt OD)
theorem aMr:Sound Tryz.prog G1 165 Y8:=sd (cf [(209,Y5),(211,Y6),(212,QU),(210,Y7)] []) 165 Tryz.f165 ⟨aMo,aMp,wF,aMq,trivial⟩ trivial MU OD yW _ (fun _=>aV7 ..)
abbrev aBB:=Ae MU
abbrev aC6:=Ad MU OD
variable (p401:aBB)(f401:aC6)
abbrev MV:Aa:=[(true,.pair (.int .i64) (.pair (.int .i64) (.pair (.int .u64) (.pair (.int .u64) (.pair (.int .u64) (.unit))))))]
abbrev OE:Aa:=[(false,.int .u64),(false,.int .i64),(false,.int .i64)]
def aIK(p401:aBB)(f401:aC6)(a0:Ab (.pair (.int .i64) (.pair (.int .i64) (.pair (.int .u64) (.pair (.int .u64) (.pair (.int .u64) (.unit))))))):Option (DenS OE):=bif(p401 (a0.2.1,a0.1,a0.2.2))then(some (f401 (a0.2.1,a0.1,a0.2.2)))else none
theorem aV8(x:DenS MV):run (cf [(165,⟨MU,OD,p401,f401⟩)] []) 9 164 Tryz.f164 MV OE x=aIK p401 f401 x.1:=by kernel_rfl
def yX(x:DenS MV):Option (DenS OE):=aIK Y8.pre Y8.F x.1
def UI:Sum:=Ai MV OE yX (DenS.dflt OE)
theorem wG:Sound Tryz.prog G1 164 UI:=sd (cf [(165,Y8)] []) 164 Tryz.f164 ⟨aMr,trivial⟩ trivial MV OE yX _ (fun _=>aV8 ..)
abbrev kZ:=Ae MV
abbrev mR:=Ad MV OE
variable (p402:kZ)(f402:mR)
abbrev H0:Aa:=[(false,.int .i64),(false,.int .i64)]
abbrev Io:Aa:=[(false,.int .i64)]
def aIL(p69:Bl)(f69:Bm)(a0 a1:Ab (.int .i64)):Option (DenS Io):=bif(p69 (a0,()))then(bif((f69 (a0,())).2.1 !=(0:Int))then(some (f69 (a0,())).2)else bif((decide (a1<(0:Int)))||(decide (a1>(5:Int))))then(some ((3:Int),()))else some ((0:Int),()))else none
theorem aV9(x:DenS H0):run (cf [(71,⟨BE,BF,p69,f69⟩)] []) 9 215 Tryz.f215 H0 Io x=aIL p69 f69 x.1 x.2.1:=by kernel_rfl
def yY(x:DenS H0):Option (DenS Io):=aIL Al.pre Al.F x.1 x.2.1
def IJ:Sum:=Ai H0 Io yY (DenS.dflt Io)
theorem jU:Sound Tryz.prog G1 215 IJ:=sd (cf [(71,Al)] []) 215 Tryz.f215 ⟨Dj,trivial⟩ trivial H0 Io yY _ (fun _=>aV9 ..)
abbrev Z3:=Ae H0
abbrev aO:=Ad H0 Io
variable (p403:Z3)(f403:aO)
abbrev JF:Aa:=[(false,.int .i64),(false,.int .u64)]
abbrev J6:Aa:=[(true,.pair (.bool) (.pair (.int .u64) (.pair (.int .i64) (.unit))))]
def aIM(p69:Bl)(f69:Bm)(p98:I1)(f98:I4)(a0:Ab (.int .i64))(a1:Ab (.int .u64)):Option (DenS J6):=let e1_:=(aa .i64 ((aa .i64 ((f69 (a0,())).1.2.2.1-(f69 (a0,())).1.2.1))+(1:Int)));let e2_:=(aa .i64 ((f69 (a0,())).1.2.1-(1:Int)));bif(p69 (a0,()))then(bif(p98 (a0,a1,()))then(bif(decide ((f98 (a0,a1,())).2.1>(0:Int)))then(bif(decide ((0:Int)<=e2_))then(some (((f98 (a0,a1,())).1,(An .u64 (f98 (a0,a1,())).2.2.1 (A4 .u64 (1:Int) e2_)),(aa .i64 (e1_+(aa .i64 ((aa .i64 (f98 (a0,a1,())).2.1)-(1:Int))))),()),()))else none)else some (((f98 (a0,a1,())).1,(f98 (a0,a1,())).2.2.1,e1_,()),()))else none)else none
theorem aWa(x:DenS JF):run (cf [(71,⟨BE,BF,p69,f69⟩),(91,⟨Ey,EI,p98,f98⟩)] []) 9 216 Tryz.f216 JF J6 x=aIM p69 f69 p98 f98 x.1 x.2.1:=by kernel_rfl
def yZ(x:DenS JF):Option (DenS J6):=aIM Al.pre Al.F BM.pre BM.F x.1 x.2.1
def QV:Sum:=Ai JF J6 yZ (DenS.dflt J6)
theorem wH:Sound Tryz.prog G1 216 QV:=sd (cf [(71,Al),(91,BM)] []) 216 Tryz.f216 ⟨Dj,QZ,trivial⟩ trivial JF J6 yZ _ (fun _=>aWa ..)
abbrev k8:=Ae JF
abbrev mS:=Ad JF J6
variable (p404:k8)(f404:mS)
abbrev JG:Aa:=[(false,.int .i64),(true,.pair (.bool) (.pair (.int .u64) (.pair (.int .i64) (.unit))))]
abbrev J7:Aa:=[(false,.int .u64),(false,.bool)]
def aIN(a0:Ab (.int .i64))(a1:Ab (.pair (.bool) (.pair (.int .u64) (.pair (.int .i64) (.unit))))):Option (DenS J7):=let e10_:=(aa .i64 ((0:Int)-a1.2.2.1));let e9_:=(if((63:Int)<e10_)then(63:Int)else e10_);let e8_:=(AJ .u64 a1.2.1 e9_);let e1_:=(aa .u64 (a1.2.1-(A4 .u64 e8_ e9_)));let e2_:=((aa .u64 (e8_+(1:Int))),true,());let e3_:=(A4 .u64 (1:Int) (aa .i64 (e9_-(1:Int))));let e4_:=(ks e8_ (2:Int));let e5_:=(e8_,true,());let e6_:=(decide ((0:Int)<=e9_));let e7_:=e9_;bif e6_ then(bif e6_ then(bif(e1_==(0:Int))then(some ((AJ .u64 a1.2.1 e7_),false,()))else bif(decide ((0:Int)<=(aa .i64 (e7_-(1:Int)))))then(bif(a0==(0:Int))then(bif((decide (e1_>e3_))||((e1_==e3_)&&(e4_==(1:Int))))then(some e2_)else some e5_)else bif(a0==(1:Int))then(bif(decide (e1_>=e3_))then(some e2_)else some e5_)else bif(a0==(3:Int))then(bif(!a1.1)then(some e2_)else some e5_)else bif(a0==(4:Int))then(bif a1.1 then(some e2_)else some e5_)else bif(a0==(5:Int))then(bif(e4_==(0:Int))then(some e2_)else some e5_)else some e5_)else none)else none)else none
theorem aWb(x:DenS JG):run (cf [] []) 9 217 Tryz.f217 JG J7 x=aIN x.1 x.2.1:=by kernel_rfl
def zA(x:DenS JG):Option (DenS J7):=aIN x.1 x.2.1
def QW:Sum:=Ai JG J7 zA (DenS.dflt J7)
theorem wI:Sound Tryz.prog G1 217 QW:=sd (cf [] []) 217 Tryz.f217 trivial trivial JG J7 zA _ (fun _=>aWb ..)
abbrev k9:=Ae JG
abbrev mT:=Ad JG J7
variable (p405:k9)(f405:mT)
abbrev MW:Aa:=[(false,.int .i64),(false,.int .i64),(false,.int .u64),(false,.bool)]
abbrev J8:Aa:=[(false,.int .u64),(false,.int .i64),(false,.int .i64)]
def aIO(p403:Z3)(f403:aO)(p65:Dk)(f65:Dl)(p70:CZ)(f70:C0)(p404:k8)(f404:mS)(p405:k9)(f405:mT)(p122:F8)(f122:Gc)(a0 a1:Ab (.int .i64))(a2:Ab (.int .u64))(a3:Ab (.bool)):Option (DenS J8):=let e7_:=(a0,a1,(f404 (a0,a2,())).1.1,((0:Int),(f405 (a1,(f404 (a0,a2,())))).1,()),(0:Int),false,());let e6_:=(f122 e7_);let e1_:=(e6_.1,(16:Int),e6_.2.2);let e2_:=(e6_.1,(0:Int),e6_.2.2);let e3_:=(p122 e7_);let e4_:=(decide ((f404 (a0,a2,())).1.2.2.1>=(0:Int)));let e5_:=((f405 (a1,(f404 (a0,a2,())))).2.1&&a3);let g1_:Option (DenS J8):=bif(p404 (a0,a2,()))then(bif e4_ then(some (a2,(0:Int),(0:Int),()))else bif(p405 (a1,(f404 (a0,a2,()))))then(bif e5_ then(bif e3_ then(some e1_)else none)else bif e3_ then(some e2_)else none)else none)else none;bif(p403 (a0,a1,()))then(bif((f403 (a0,a1,())).1 !=(0:Int))then(some ((0:Int),(0:Int),(f403 (a0,a1,()))))else bif(p65 (a0,a2,()))then(bif((f65 (a0,a2,())).2.1 !=(0:Int))then(some ((0:Int),(0:Int),(f65 (a0,a2,())).2))else bif(p70 (a0,()))then(bif((f65 (a0,a2,())).1==(0:Int))then(some ((f70 (a0,())).1,(1:Int),(0:Int),()))else bif((f65 (a0,a2,())).1==(1:Int))then(some ((f70 (a0,())).1,(0:Int),(0:Int),()))else bif((f65 (a0,a2,())).1==(2:Int))then(bif((f65 (a0,a2,())).1==(2:Int))then(some (a2,(0:Int),(0:Int),()))else g1_)else bif((f65 (a0,a2,())).1==(9:Int))then(bif((f65 (a0,a2,())).1==(9:Int))then(some (a2,(0:Int),(0:Int),()))else g1_)else bif((f65 (a0,a2,())).1==(5:Int))then(bif((f65 (a0,a2,())).1==(5:Int))then(some (a2,(0:Int),(0:Int),()))else g1_)else bif((f65 (a0,a2,())).1==(6:Int))then(some (a2,(0:Int),(0:Int),()))else g1_)else none)else none)else none
theorem aWc(x:DenS MW):run (cf [(215,⟨H0,Io,p403,f403⟩),(59,⟨De,Df,p65,f65⟩),(61,⟨CV,CW,p70,f70⟩),(216,⟨JF,J6,p404,f404⟩),(217,⟨JG,J7,p405,f405⟩),(104,⟨Ej,EE,p122,f122⟩)] []) 9 170 Tryz.f170 MW J8 x=aIO p403 f403 p65 f65 p70 f70 p404 f404 p405 f405 p122 f122 x.1 x.2.1 x.2.2.1 x.2.2.2.1:=by kernel_rfl
def zB(x:DenS MW):Option (DenS J8):=aIO IJ.pre IJ.F AS.pre AS.F AO.pre AO.F QV.pre QV.F QW.pre QW.F BH.pre BH.F x.1 x.2.1 x.2.2.1 x.2.2.2.1
def Y9:Sum:=Ai MW J8 zB (DenS.dflt J8)
theorem aMs:Sound Tryz.prog G1 170 Y9:=sd (cf [(215,IJ),(59,AS),(61,AO),(216,QV),(217,QW),(104,BH)] []) 170 Tryz.f170 ⟨jU,G8,Ft,wH,wI,Sf,trivial⟩ trivial MW J8 zB _ (fun _=>aWc ..)
abbrev aBC:=Ae MW
abbrev aC7:=Ad MW J8
variable (p406:aBC)(f406:aC7)
abbrev MX:Aa:=[(true,.pair (.int .i64) (.pair (.int .i64) (.pair (.int .u64) (.pair (.int .u64) (.pair (.int .u64) (.unit))))))]
abbrev OF:Aa:=[(false,.int .u64),(false,.int .i64),(false,.int .i64)]
def aIP(p406:aBC)(f406:aC7)(a0:Ab (.pair (.int .i64) (.pair (.int .i64) (.pair (.int .u64) (.pair (.int .u64) (.pair (.int .u64) (.unit))))))):Option (DenS OF):=bif(p406 (a0.2.1,a0.1,a0.2.2.1,true,()))then(some (f406 (a0.2.1,a0.1,a0.2.2.1,true,())))else none
theorem aWd(x:DenS MX):run (cf [(170,⟨MW,J8,p406,f406⟩)] []) 9 169 Tryz.f169 MX OF x=aIP p406 f406 x.1:=by kernel_rfl
def zC(x:DenS MX):Option (DenS OF):=aIP Y9.pre Y9.F x.1
def UJ:Sum:=Ai MX OF zC (DenS.dflt OF)
theorem wJ:Sound Tryz.prog G1 169 UJ:=sd (cf [(170,Y9)] []) 169 Tryz.f169 ⟨aMs,trivial⟩ trivial MX OF zC _ (fun _=>aWd ..)
abbrev lA:=Ae MX
abbrev mU:=Ad MX OF
variable (p407:lA)(f407:mU)
abbrev MM:Aa:=[(false,.slice (.int .i64)),(false,.slice (.int .i64)),(false,.int .u64)]
abbrev Ox:Aa:=[(false,.int .i64)]
abbrev F2:Pat:=⟨46,[(14,.one (.v .i64)),(13,.one (.sl (.int .i64))),(15,.one (.v .i64)),(1,.one (.sl (.int .i64))),(0,.one (.sl (.int .i64))),(2,.one (.v .u64))],[]⟩
abbrev Uw:List (Nat×Shape):=[]
abbrev IX:List (Nat×Pat):=[(0,⟨46,[(1,.one (.sl (.int .i64))),(0,.one (.sl (.int .i64))),(2,.one (.v .u64))],[]⟩)]
abbrev ID:Option Pat:=(some ⟨46,[(6,.one (.v .i64))],[]⟩)
abbrev F3:Pat:=⟨46,[(29,.one (.v .i64)),(28,.one (.sl (.int .i64))),(30,.one (.v .i64)),(0,.one (.sl (.int .i64))),(2,.one (.v .u64))],[]⟩
abbrev Ux:List (Nat×Shape):=[]
abbrev IY:List (Nat×Pat):=[(2,⟨46,[(0,.one (.sl (.int .i64))),(2,.one (.v .u64))],[]⟩)]
abbrev IE:Option Pat:=(some ⟨46,[(6,.one (.v .i64))],[]⟩)
variable (w391_2:Pat.D F2->Option (Ag IX ID))(w391_9:Pat.D F3->Option (Ag IY IE))
def Xg(p69:Bl)(f69:Bm)(p66:BB)(f66:BC){R:Type}(L:Pat.D F3->Option R)(e:Ag IY IE->Option R)(x:Pat.D F3):Option R:=let e1_:=(x.1.2.1.getD (ah x.1.2.2.1) (0:Int));bif(decide (x.1.2.2.1<x.1.1))then(bif((decide ((0:Int)<=x.1.2.2.1))&&(decide (x.1.2.2.1<(x.1.2.1.length:Int))))then(bif((decide (e1_<(0:Int)))||(decide (e1_>(5:Int))))then(((e (.inr (((3:Int),()),())))))else(L ((x.1.1,x.1.2.1,(aa .i64 (x.1.2.2.1+(1:Int))),x.1.2.2.2),())))else none)else(e (.inl (x.1.2.2.2,())))
theorem aYj(d:Nat)(R:Type)(L:Pat.D F3->Option R)(e:Ag IY IE->Option R)(x:Pat.D F3):
  Bn (cf [(71,⟨BE,BF,p69,f69⟩),(85,⟨BY,BZ,p66,f66⟩)] [(218,2,LoopSpec.of F2 Uw IX ID w391_2),(218,9,LoopSpec.of F3 Ux IY IE w391_9)]) (d+2) 218 (Bj Tryz.f218 9) F3 Ux IY IE (R:=R) L e x=Xg p69 f69 p66 f66 L e x:=by kernel_rfl
theorem aSI(p69:Bl)(f69:Bm)(p66:BB)(f66:BC):Bf fun L e x=>Xg p69 f69 p66 f66 L e x:=by intro _ _ _ _ _ _ _ h0 hL he _;unfold Xg;repeat' (first|exact h0|exact hL _|exact he _|apply By|(apply Bz h0;intro _)|(apply BA<;>intro _))
def Xf(p69:Bl)(f69:Bm)(p66:BB)(f66:BC){R:Type}(L:Pat.D F2->Option R)(e:Ag IX ID->Option R)(x:Pat.D F2):Option R:=let e2_:=((x.1.2.1.getD (ah x.1.2.2.1) (0:Int)),());let e1_:=(f69 e2_);bif(decide (x.1.2.2.1<x.1.1))then(bif((decide ((0:Int)<=x.1.2.2.1))&&(decide (x.1.2.2.1<(x.1.2.1.length:Int))))then(bif(p69 e2_)then(bif(e1_.2.1 !=(0:Int))then(((e (.inr (e1_.2,())))))else(L ((x.1.1,x.1.2.1,(aa .i64 (x.1.2.2.1+(1:Int))),x.1.2.2.2),())))else none)else none)else(e (.inl (x.1.2.2.2,())))
theorem aYi(d:Nat)(R:Type)(L:Pat.D F2->Option R)(e:Ag IX ID->Option R)(x:Pat.D F2):
  Bn (cf [(71,⟨BE,BF,p69,f69⟩),(85,⟨BY,BZ,p66,f66⟩)] [(218,2,LoopSpec.of F2 Uw IX ID w391_2),(218,9,LoopSpec.of F3 Ux IY IE w391_9)]) (d+2) 218 (Bj Tryz.f218 2) F2 Uw IX ID (R:=R) L e x=Xf p69 f69 p66 f66 L e x:=by kernel_rfl
theorem aSH(p69:Bl)(f69:Bm)(p66:BB)(f66:BC):Bf fun L e x=>Xf p69 f69 p66 f66 L e x:=by intro _ _ _ _ _ _ _ h0 hL he _;unfold Xf;repeat' (first|exact h0|exact hL _|exact he _|apply By|(apply Bz h0;intro _)|(apply BA<;>intro _))
def aIB(p69:Bl)(f69:Bm)(p66:BB)(f66:BC)(w391_2:Pat.D F2->Option (Ag IX ID))(w391_9:Pat.D F3->Option (Ag IY IE))(a0 a1:Ab (.slice (.int .i64)))(a2:Ab (.int .u64)):Option (DenS Ox):=
 Vx.A3 (w391_2 (((a0.length:Int),a0,(0:Int),a1,a0,a2,()),())) fun y0=>
 Vx.A1 y0 (fun y1=>
 Vx.A3 (w391_9 (((y1.1.1.length:Int),y1.1.1,(0:Int),y1.1.2),())) fun y2=>
 Vx.A1 y2 (fun y3=>
 bif(decide ((0:Int)<(y3.1.1.length:Int)))then(bif(p66 ((y3.1.1.getD (ah (0:Int)) (0:Int)),y3.1.2))then(some (f66 ((y3.1.1.getD (ah (0:Int)) (0:Int)),y3.1.2)))
 else none)
 else none) (fun z3=>
 some z3.1)) (fun z1=>
 some z1.1)
theorem aVX(x:DenS MM):run (cf [(71,⟨BE,BF,p69,f69⟩),(85,⟨BY,BZ,p66,f66⟩)] [(218,2,LoopSpec.of F2 Uw IX ID w391_2),(218,9,LoopSpec.of F3 Ux IY IE w391_9)]) 9 218 Tryz.f218 MM Ox x=aIB p69 f69 p66 f66 w391_2 w391_9 x.1 x.2.1 x.2.2.1:=by kernel_rfl
def aAH:F3.D->Option (Ag IY IE):=A6 fun L=>Xg Al.pre Al.F Ao.pre Ao.F L some
def aAG:F2.D->Option (Ag IX ID):=A6 fun L=>Xf Al.pre Al.F Ao.pre Ao.F L some
def yO(x:DenS MM):Option (DenS Ox):=aIB Al.pre Al.F Ao.pre Ao.F aAG aAH x.1 x.2.1 x.2.2.1
def Y2:Sum:=Ai MM Ox yO (DenS.dflt Ox)
theorem aMl:Sound Tryz.prog G1 218 Y2:=sd (cf [(71,Al),(85,Ao)] [(218,2,LoopSpec.of F2 Uw IX ID aAG),(218,9,LoopSpec.of F3 Ux IY IE aAH)]) 218 Tryz.f218 ⟨Dj,EP,trivial⟩ ⟨rfl,fun d=>Bw (fun L e x=>Xf Al.pre Al.F Ao.pre Ao.F L e x) (aSH Al.pre Al.F Ao.pre Ao.F) (fun _ _ _ _=>aYi ..),⟨rfl,fun d=>Bw (fun L e x=>Xg Al.pre Al.F Ao.pre Ao.F L e x) (aSI Al.pre Al.F Ao.pre Ao.F) (fun _ _ _ _=>aYj ..),trivial⟩⟩ MM Ox yO _ (fun _=>aVX ..)
abbrev aBv:=Ae MM
abbrev aC0:=Ad MM Ox
variable (p391:aBv)(f391:aC0)
abbrev MN:Aa:=[(false,.int .i64),(false,.int .i64),(false,.int .i64),(false,.int .u64)]
abbrev EH:Aa:=[(false,.int .u64),(false,.int .i64)]
def aIC(p65:Dk)(f65:Dl)(p98:I1)(f98:I4)(p70:CZ)(f70:C0)(p97:Ln)(f97:Lq)(p118:Ha)(f118:Hd)(p40:Qa)(f40:Qd)(p51:Z9)(f51:aU)(a0 a1 a2:Ab (.int .i64))(a3:Ab (.int .u64)):Option (DenS EH):=let e5_:=(f51 (a1,a2,(f40 (a0,a3,())).1,()));let e1_:=(e5_.1,e5_.2.1,());let e2_:=((f118 (a1,(f98 (a0,a3,())).1,())).1,(0:Int),());let e3_:=((f97 (a1,(f98 (a0,a3,())).1,())).1,(0:Int),());let e4_:=(p51 (a1,a2,(f40 (a0,a3,())).1,()));let g6_:Option (DenS EH):=bif(p97 (a1,(f98 (a0,a3,())).1,()))then(some e3_)else none;let g5_:Option (DenS EH):=bif(p118 (a1,(f98 (a0,a3,())).1,()))then(some e2_)else none;let g4_:Option (DenS EH):=bif(p40 (a0,a3,()))then(bif e4_ then(some e1_)else none)else none;let g2_:Option (DenS EH):=bif((f65 (a0,a3,())).1==(6:Int))then(bif((f65 (a0,a3,())).1==(6:Int))then(g5_)else g4_)else bif((f65 (a0,a3,())).1==(5:Int))then(g5_)else g4_;let g1_:Option (DenS EH):=bif((f65 (a0,a3,())).1==(9:Int))then(bif((f65 (a0,a3,())).1==(9:Int))then(g6_)else g2_)else bif((f65 (a0,a3,())).1==(2:Int))then(g6_)else g2_;let g3_:Option (DenS EH):=bif(p70 (a1,()))then(bif((f65 (a0,a3,())).1==(0:Int))then(some ((f70 (a1,())).1,(1:Int),()))else some ((f70 (a1,())).1,(0:Int),()))else none;bif(p65 (a0,a3,()))then(bif(p98 (a0,a3,()))then(bif((f65 (a0,a3,())).1==(0:Int))then(bif((f65 (a0,a3,())).1==(0:Int))then(g3_)else g1_)else bif((f65 (a0,a3,())).1==(1:Int))then(g3_)else g1_)else none)else none
theorem aVY(x:DenS MN):run (cf [(59,⟨De,Df,p65,f65⟩),(91,⟨Ey,EI,p98,f98⟩),(61,⟨CV,CW,p70,f70⟩),(62,⟨FL,FW,p97,f97⟩),(64,⟨Ei,ED,p118,f118⟩),(203,⟨FH,FS,p40,f40⟩),(231,⟨H2,Is,p51,f51⟩)] []) 9 219 Tryz.f219 MN EH x=aIC p65 f65 p98 f98 p70 f70 p97 f97 p118 f118 p40 f40 p51 f51 x.1 x.2.1 x.2.2.1 x.2.2.2.1:=by kernel_rfl
def yP(x:DenS MN):Option (DenS EH):=aIC AS.pre AS.F BM.pre BM.F AO.pre AO.F Cv.pre Cv.F Bp.pre Bp.F C8.pre C8.F IL.pre IL.F x.1 x.2.1 x.2.2.1 x.2.2.2.1
def Y3:Sum:=Ai MN EH yP (DenS.dflt EH)
theorem aMm:Sound Tryz.prog G1 219 Y3:=sd (cf [(59,AS),(91,BM),(61,AO),(62,Cv),(64,Bp),(203,C8),(231,IL)] []) 219 Tryz.f219 ⟨G8,QZ,Ft,UW,Se,UL,j1,trivial⟩ trivial MN EH yP _ (fun _=>aVY ..)
abbrev aBw:=Ae MN
abbrev aC1:=Ad MN EH
variable (p392:aBw)(f392:aC1)
abbrev MO:Aa:=[(false,.int .i64),(false,.int .i64),(false,.int .i64),(false,.int .u64)]
abbrev Oy:Aa:=[(false,.int .u64),(false,.int .i64),(false,.int .i64)]
def aID(p391:aBv)(f391:aC0)(p392:aBw)(f392:aC1)(a0 a1 a2:Ab (.int .i64))(a3:Ab (.int .u64)):Option (DenS Oy):=let e1_:=(f391 ((a0::(a1::[])),(a2::[]),a3,()));bif(p391 ((a0::(a1::[])),(a2::[]),a3,()))then(bif(e1_.1 !=(0:Int))then(some ((0:Int),(0:Int),e1_))else bif(p392 (a0,a1,a2,a3,()))then(some ((f392 (a0,a1,a2,a3,())).1,(f392 (a0,a1,a2,a3,())).2.1,(0:Int),()))else none)else none
theorem aVZ(x:DenS MO):run (cf [(218,⟨MM,Ox,p391,f391⟩),(219,⟨MN,EH,p392,f392⟩)] []) 9 172 Tryz.f172 MO Oy x=aID p391 f391 p392 f392 x.1 x.2.1 x.2.2.1 x.2.2.2.1:=by kernel_rfl
def yQ(x:DenS MO):Option (DenS Oy):=aID Y2.pre Y2.F Y3.pre Y3.F x.1 x.2.1 x.2.2.1 x.2.2.2.1
def Y4:Sum:=Ai MO Oy yQ (DenS.dflt Oy)
theorem aMn:Sound Tryz.prog G1 172 Y4:=sd (cf [(218,Y2),(219,Y3)] []) 172 Tryz.f172 ⟨aMl,aMm,trivial⟩ trivial MO Oy yQ _ (fun _=>aVZ ..)
abbrev aBx:=Ae MO
abbrev aC2:=Ad MO Oy
variable (p393:aBx)(f393:aC2)
abbrev MY:Aa:=[(true,.pair (.int .i64) (.pair (.int .i64) (.pair (.int .u64) (.pair (.int .u64) (.pair (.int .u64) (.unit))))))]
abbrev OG:Aa:=[(false,.int .u64),(false,.int .i64),(false,.int .i64)]
def aIQ(p393:aBx)(f393:aC2)(a0:Ab (.pair (.int .i64) (.pair (.int .i64) (.pair (.int .u64) (.pair (.int .u64) (.pair (.int .u64) (.unit))))))):Option (DenS OG):=let e1_:=(a0.2.1,(aa .i64 a0.2.2.2.2.1),a0.1,a0.2.2.1,());bif(p393 e1_)then(some (f393 e1_))else none
theorem aWe(x:DenS MY):run (cf [(172,⟨MO,Oy,p393,f393⟩)] []) 9 171 Tryz.f171 MY OG x=aIQ p393 f393 x.1:=by kernel_rfl
def zD(x:DenS MY):Option (DenS OG):=aIQ Y4.pre Y4.F x.1
def UK:Sum:=Ai MY OG zD (DenS.dflt OG)
theorem wK:Sound Tryz.prog G1 171 UK:=sd (cf [(172,Y4)] []) 171 Tryz.f171 ⟨aMn,trivial⟩ trivial MY OG zD _ (fun _=>aWe ..)
abbrev lB:=Ae MY
abbrev mV:=Ad MY OG
variable (p408:lB)(f408:mV)
abbrev MZ:Aa:=[(true,.pair (.int .u64) (.pair (.int .u64) (.unit))),(false,.bool)]
abbrev OH:Aa:=[(false,.int .u64)]
def aIR(a0:Ab (.pair (.int .u64) (.pair (.int .u64) (.unit))))(a1:Ab (.bool)):Option (DenS OH):=bif a1 then(some ((aa .u64 ((0:Int)-a0.1)),()))else some a0.2
theorem aWf(x:DenS MZ):run (cf [] []) 9 220 Tryz.f220 MZ OH x=aIR x.1 x.2.1:=by kernel_rfl
def zE(x:DenS MZ):Option (DenS OH):=aIR x.1 x.2.1
def Za:Sum:=Ai MZ OH zE (DenS.dflt OH)
theorem aMt:Sound Tryz.prog G1 220 Za:=sd (cf [] []) 220 Tryz.f220 trivial trivial MZ OH zE _ (fun _=>aWf ..)
abbrev aBD:=Ae MZ
abbrev aC8:=Ad MZ OH
variable (p409:aBD)(f409:aC8)
abbrev M1:Aa:=[(false,.int .i64),(false,.int .i64),(false,.int .i64),(false,.int .u64)]
abbrev J9:Aa:=[(false,.int .u64),(false,.int .i64),(false,.int .i64)]
def aIT(p403:Z3)(f403:aO)(p65:Dk)(f65:Dl)(p404:k8)(f404:mS)(p405:k9)(f405:mT)(p178:Hc)(f178:Hf)(p409:aBD)(f409:aC8)(a0 a1 a2:Ab (.int .i64))(a3:Ab (.int .u64)):Option (DenS J9):=let e18_:=(A4 .u64 (f404 (a0,a3,())).1.2.1 (f404 (a0,a3,())).1.2.2.1);let e19_:=(Vx.k_kinds.getD (ah a2) ((0:Int),(0:Int),()));let e1_:=(((!(f404 (a0,a3,())).1.1)&&(decide (e18_>e19_.2.1)))||((f404 (a0,a3,())).1.1&&(decide (e18_>e19_.1))));let e2_:=(((!(f404 (a0,a3,())).1.1)&&(decide ((f405 (a1,(f404 (a0,a3,())))).1>e19_.2.1)))||((f404 (a0,a3,())).1.1&&(decide ((f405 (a1,(f404 (a0,a3,())))).1>e19_.1))));let e3_:=((aa .u64 ((0:Int)-e18_)),(0:Int),(0:Int),());let e4_:=((aa .u64 ((0:Int)-e19_.1)),(1:Int),(0:Int),());let e16_:=(e19_,(f404 (a0,a3,())).1.1,());let e5_:=((f409 e16_).1,(1:Int),(0:Int),());let e6_:=(decide ((aa .i64 ((f178 ((f404 (a0,a3,())).1.2.1,())).1+(f404 (a0,a3,())).1.2.2.1))>(64:Int)));let e17_:=(aa .u64 ((0:Int)-(f405 (a1,(f404 (a0,a3,())))).1));let e7_:=(e17_,(16:Int),(0:Int),());let e8_:=(e17_,(0:Int),(0:Int),());let e9_:=(e18_,(0:Int),(0:Int),());let e10_:=(p409 e16_);let e11_:=(e19_.2.1,(1:Int),(0:Int),());let e12_:=((f405 (a1,(f404 (a0,a3,())))).1,(16:Int),(0:Int),());let e13_:=((f405 (a1,(f404 (a0,a3,())))).1,(0:Int),(0:Int),());let e14_:=(decide ((f404 (a0,a3,())).1.2.2.1<(0:Int)));let e15_:=(decide ((0:Int)<=(f404 (a0,a3,())).1.2.2.1));let g1_:Option (DenS J9):=bif((f65 (a0,a3,())).1==(2:Int))then(some e4_)else bif(p404 (a0,a3,()))then(bif e14_ then(bif(p405 (a1,(f404 (a0,a3,()))))then(bif e2_ then(bif e10_ then(some e5_)else none)else bif(f404 (a0,a3,())).1.1 then(bif(f405 (a1,(f404 (a0,a3,())))).2.1 then(some e7_)else some e8_)else bif(f405 (a1,(f404 (a0,a3,())))).2.1 then(some e12_)else some e13_)else none)else bif(p178 ((f404 (a0,a3,())).1.2.1,()))then(bif e6_ then(bif e10_ then(some e5_)else none)else bif e15_ then(bif e1_ then(bif e10_ then(some e5_)else none)else bif(f404 (a0,a3,())).1.1 then(some e3_)else some e9_)else none)else none)else none;bif(p403 (a0,a1,()))then(bif((f403 (a0,a1,())).1 !=(0:Int))then(some ((0:Int),(0:Int),(f403 (a0,a1,()))))else bif((decide (a2<(0:Int)))||(decide (a2>(3:Int))))then(some ((0:Int),(0:Int),(9:Int),()))else bif(p65 (a0,a3,()))then(bif((f65 (a0,a3,())).2.1 !=(0:Int))then(some ((0:Int),(0:Int),(f65 (a0,a3,())).2))else bif(bif(decide ((0:Int)<=a2))then(decide (a2<((4:Nat):Int)))else false)then(bif((f65 (a0,a3,())).1==(0:Int))then(bif((f65 (a0,a3,())).1==(0:Int))then(some e11_)else g1_)else bif((f65 (a0,a3,())).1==(1:Int))then(bif((f65 (a0,a3,())).1==(1:Int))then(some e11_)else g1_)else bif((f65 (a0,a3,())).1==(9:Int))then(some e11_)else g1_)else none)else none)else none
theorem aWh(x:DenS M1):run (cf [(215,⟨H0,Io,p403,f403⟩),(59,⟨De,Df,p65,f65⟩),(216,⟨JF,J6,p404,f404⟩),(217,⟨JG,J7,p405,f405⟩),(115,⟨E3,EG,p178,f178⟩),(220,⟨MZ,OH,p409,f409⟩)] []) 9 174 Tryz.f174 M1 J9 x=aIT p403 f403 p65 f65 p404 f404 p405 f405 p178 f178 p409 f409 x.1 x.2.1 x.2.2.1 x.2.2.2.1:=by kernel_rfl
def zH(x:DenS M1):Option (DenS J9):=aIT IJ.pre IJ.F AS.pre AS.F QV.pre QV.F QW.pre QW.F B4.pre B4.F Za.pre Za.F x.1 x.2.1 x.2.2.1 x.2.2.2.1
def Zc:Sum:=Ai M1 J9 zH (DenS.dflt J9)
theorem aMu:Sound Tryz.prog G1 174 Zc:=sd (cf [(215,IJ),(59,AS),(216,QV),(217,QW),(115,B4),(220,Za)] []) 174 Tryz.f174 ⟨jU,G8,wH,wI,UD,aMt,trivial⟩ trivial M1 J9 zH _ (fun _=>aWh ..)
abbrev aBF:=Ae M1
abbrev aDa:=Ad M1 J9
variable (p410:aBF)(f410:aDa)
abbrev M2:Aa:=[(true,.pair (.int .i64) (.pair (.int .i64) (.pair (.int .u64) (.pair (.int .u64) (.pair (.int .u64) (.unit))))))]
abbrev OJ:Aa:=[(false,.int .u64),(false,.int .i64),(false,.int .i64)]
def aIU(p410:aBF)(f410:aDa)(a0:Ab (.pair (.int .i64) (.pair (.int .i64) (.pair (.int .u64) (.pair (.int .u64) (.pair (.int .u64) (.unit))))))):Option (DenS OJ):=let e1_:=(a0.2.1,a0.1,(aa .i64 a0.2.2.2.2.1),a0.2.2.1,());bif(p410 e1_)then(some (f410 e1_))else none
theorem aWi(x:DenS M2):run (cf [(174,⟨M1,J9,p410,f410⟩)] []) 9 173 Tryz.f173 M2 OJ x=aIU p410 f410 x.1:=by kernel_rfl
def zI(x:DenS M2):Option (DenS OJ):=aIU Zc.pre Zc.F x.1
def UM:Sum:=Ai M2 OJ zI (DenS.dflt OJ)
theorem wL:Sound Tryz.prog G1 173 UM:=sd (cf [(174,Zc)] []) 173 Tryz.f173 ⟨aMu,trivial⟩ trivial M2 OJ zI _ (fun _=>aWi ..)
abbrev lC:=Ae M2
abbrev mW:=Ad M2 OJ
variable (p411:lC)(f411:mW)
abbrev M3:Aa:=[(false,.int .i64),(false,.int .i64),(false,.int .i64),(false,.int .u64)]
abbrev OK:Aa:=[(false,.int .u64),(false,.int .i64),(false,.int .i64)]
def aIV(p403:Z3)(f403:aO)(p122:F8)(f122:Gc)(a0 a1 a2:Ab (.int .i64))(a3:Ab (.int .u64)):Option (DenS OK):=let e8_:=(Vx.k_kinds.getD (ah a2) ((0:Int),(0:Int),()));let e7_:=((decide (e8_.1>(0:Int)))&&((AJ .u64 a3 (63:Int))==(1:Int)));let e9_:=(aa .u64 ((0:Int)-a3));let e1_:=(a0,a1,e7_,((0:Int),e9_,()),(0:Int),false,());let e2_:=(a0,a1,e7_,((0:Int),a3,()),(0:Int),false,());let e3_:=(!e7_);let e4_:=e7_;let e5_:=e8_;let e6_:=e9_;bif(p403 (a0,a1,()))then(bif((f403 (a0,a1,())).1 !=(0:Int))then(some ((0:Int),(0:Int),(f403 (a0,a1,()))))else bif((decide (a2<(0:Int)))||(decide (a2>(3:Int))))then(some ((0:Int),(0:Int),(9:Int),()))else bif(bif(decide ((0:Int)<=a2))then(decide (a2<((4:Nat):Int)))else false)then(bif e4_ then(bif((e3_&&(decide (e6_>e5_.2.1)))||(e4_&&(decide (e6_>e5_.1))))then(some ((0:Int),(0:Int),(7:Int),()))else bif(p122 e1_)then(some (f122 e1_))else none)else bif((e3_&&(decide (a3>e5_.2.1)))||(e4_&&(decide (a3>e5_.1))))then(some ((0:Int),(0:Int),(7:Int),()))else bif(p122 e2_)then(some (f122 e2_))else none)else none)else none
theorem aWj(x:DenS M3):run (cf [(215,⟨H0,Io,p403,f403⟩),(104,⟨Ej,EE,p122,f122⟩)] []) 9 176 Tryz.f176 M3 OK x=aIV p403 f403 p122 f122 x.1 x.2.1 x.2.2.1 x.2.2.2.1:=by kernel_rfl
def zJ(x:DenS M3):Option (DenS OK):=aIV IJ.pre IJ.F BH.pre BH.F x.1 x.2.1 x.2.2.1 x.2.2.2.1
def Zd:Sum:=Ai M3 OK zJ (DenS.dflt OK)
theorem aMv:Sound Tryz.prog G1 176 Zd:=sd (cf [(215,IJ),(104,BH)] []) 176 Tryz.f176 ⟨jU,Sf,trivial⟩ trivial M3 OK zJ _ (fun _=>aWj ..)
abbrev aBG:=Ae M3
abbrev aDb:=Ad M3 OK
variable (p412:aBG)(f412:aDb)
abbrev M4:Aa:=[(true,.pair (.int .i64) (.pair (.int .i64) (.pair (.int .u64) (.pair (.int .u64) (.pair (.int .u64) (.unit))))))]
abbrev OL:Aa:=[(false,.int .u64),(false,.int .i64),(false,.int .i64)]
def aIW(p412:aBG)(f412:aDb)(a0:Ab (.pair (.int .i64) (.pair (.int .i64) (.pair (.int .u64) (.pair (.int .u64) (.pair (.int .u64) (.unit))))))):Option (DenS OL):=let e1_:=(a0.2.1,a0.1,(aa .i64 a0.2.2.2.2.1),a0.2.2.1,());bif(p412 e1_)then(some (f412 e1_))else none
theorem aWk(x:DenS M4):run (cf [(176,⟨M3,OK,p412,f412⟩)] []) 9 175 Tryz.f175 M4 OL x=aIW p412 f412 x.1:=by kernel_rfl
def zK(x:DenS M4):Option (DenS OL):=aIW Zd.pre Zd.F x.1
def UN:Sum:=Ai M4 OL zK (DenS.dflt OL)
theorem wM:Sound Tryz.prog G1 175 UN:=sd (cf [(176,Zd)] []) 175 Tryz.f175 ⟨aMv,trivial⟩ trivial M4 OL zK _ (fun _=>aWk ..)
abbrev lD:=Ae M4
abbrev mX:=Ad M4 OL
variable (p413:lD)(f413:mX)
abbrev Jv:Aa:=[(false,.int .i64),(false,.int .u64)]
abbrev JS:Aa:=[(false,.int .u64),(false,.int .i64)]
def aIa(p66:BB)(f66:BC)(p115:Wg)(f115:Wp)(a0:Ab (.int .i64))(a1:Ab (.int .u64)):Option (DenS JS):=bif(p66 (a0,a1,()))then(bif((f66 (a0,a1,())).1 !=(0:Int))then(some ((0:Int),(f66 (a0,a1,()))))else bif(p115 (a0,()))then(some ((WE .u64 a1 (f115 (a0,())).1),(0:Int),()))else none)else none
theorem aUH(x:DenS Jv):run (cf [(85,⟨BY,BZ,p66,f66⟩),(233,⟨HN,Ib,p115,f115⟩)] []) 9 188 Tryz.f188 Jv JS x=aIa p66 f66 p115 f115 x.1 x.2.1:=by kernel_rfl
def xH(x:DenS Jv):Option (DenS JS):=aIa Ao.pre Ao.F EM.pre EM.F x.1 x.2.1
def IH:Sum:=Ai Jv JS xH (DenS.dflt JS)
theorem jM:Sound Tryz.prog G1 188 IH:=sd (cf [(85,Ao),(233,EM)] []) 188 Tryz.f188 ⟨EP,jN,trivial⟩ trivial Jv JS xH _ (fun _=>aUH ..)
abbrev ZR:=Ae Jv
abbrev aC:=Ad Jv JS
variable (p112:ZR)(f112:aC)
abbrev H5:Aa:=[(false,.int .i64),(false,.int .u64)]
abbrev Iw:Aa:=[(true,.pair (.int .i64) (.pair (.int .i64) (.unit))),(false,.int .i64)]
def t82(p65:Dk)(f65:Dl)(p112:ZR)(f112:aC)(a0:Ab (.int .i64))(a1:Ab (.int .u64)):Option (DenS Iw):=let e1_:=(aa .i64 (f112 (a0,a1,())).1);bif(p65 (a0,a1,()))then(bif((f65 (a0,a1,())).2.1 !=(0:Int))then(some (((0:Int),(0:Int),()),(f65 (a0,a1,())).2))else bif(p112 (a0,a1,()))then(bif((f112 (a0,a1,())).1 !=a1)then(some (((f65 (a0,a1,())).1,(aa .i64 ((0:Int)-e1_)),()),(0:Int),()))else some (((f65 (a0,a1,())).1,e1_,()),(0:Int),()))else none)else none
theorem r82(x:DenS H5):run (cf [(59,⟨De,Df,p65,f65⟩),(188,⟨Jv,JS,p112,f112⟩)] []) 9 228 Tryz.f228 H5 Iw x=t82 p65 f65 p112 f112 x.1 x.2.1:=by kernel_rfl
def T82(x:DenS H5):Option (DenS Iw):=t82 AS.pre AS.F IH.pre IH.F x.1 x.2.1
def IN:Sum:=Ai H5 Iw T82 (DenS.dflt Iw)
theorem j3:Sound Tryz.prog G1 228 IN:=sd (cf [(59,AS),(188,IH)] []) 228 Tryz.f228 ⟨G8,jM,trivial⟩ trivial H5 Iw T82 _ (fun _=>r82 ..)
abbrev Wl:=Ae H5
abbrev Wv:=Ad H5 Iw
variable (p82:Wl)(f82:Wv)
abbrev FI:Aa:=[(true,.pair (.int .i64) (.pair (.int .i64) (.unit)))]
abbrev FT:Aa:=[(false,.bool)]
def t53(a0:Ab (.pair (.int .i64) (.pair (.int .i64) (.unit)))):Option (DenS FT):=some (((a0.1==(1:Int))||(a0.1==(0:Int))),())
theorem r53(x:DenS FI):run (cf [] []) 9 229 Tryz.f229 FI FT x=t53 x.1:=by kernel_rfl
def T53(x:DenS FI):Option (DenS FT):=t53 x.1
def D5:Sum:=Ai FI FT T53 (DenS.dflt FT)
theorem UU:Sound Tryz.prog G1 229 D5:=sd (cf [] []) 229 Tryz.f229 trivial trivial FI FT T53 _ (fun _=>r53 ..)
abbrev Ri:=Ae FI
abbrev Rq:=Ad FI FT
variable (p53:Ri)(f53:Rq)
abbrev FJ:Aa:=[(true,.pair (.int .i64) (.pair (.int .i64) (.unit))),(true,.pair (.int .i64) (.pair (.int .i64) (.unit)))]
abbrev FU:Aa:=[(false,.int .i64)]
def t54(a0 a1:Ab (.pair (.int .i64) (.pair (.int .i64) (.unit)))):Option (DenS FU):=bif((a0.1==(0:Int))||(a1.1==(0:Int)))then(some ((1:Int),()))else some ((0:Int),())
theorem r54(x:DenS FJ):run (cf [] []) 9 230 Tryz.f230 FJ FU x=t54 x.1 x.2.1:=by kernel_rfl
def T54(x:DenS FJ):Option (DenS FU):=t54 x.1 x.2.1
def D6:Sum:=Ai FJ FU T54 (DenS.dflt FU)
theorem UV:Sound Tryz.prog G1 230 D6:=sd (cf [] []) 230 Tryz.f230 trivial trivial FJ FU T54 _ (fun _=>r54 ..)
abbrev Rj:=Ae FJ
abbrev Rr:=Ad FJ FU
variable (p54:Rj)(f54:Rr)
abbrev NL:Aa:=[(false,.int .i64),(false,.int .u64),(false,.int .i64)]
abbrev Pp:Aa:=[(false,.int .u64),(false,.int .i64),(false,.int .i64)]
def t93(p82:Wl)(f82:Wv)(p53:Ri)(f53:Rq)(p70:CZ)(f70:C0)(p54:Rj)(f54:Rr)(p64:SS)(f64:S4)(a0:Ab (.int .i64))(a1:Ab (.int .u64))(a2:Ab (.int .i64)):Option (DenS Pp):=let e4_:=(aa .i64 ((f82 (a0,a1,())).1.2.1+a2));let e1_:=(f64 (a0,(aa .u64 (aa .i64 ((0:Int)-e4_))),()));let e2_:=e4_;let e3_:=((f82 (a0,a1,())).1,(f82 (a0,a1,())).1,());bif(p82 (a0,a1,()))then(bif((f82 (a0,a1,())).2.1 !=(0:Int))then(some ((0:Int),(0:Int),(f82 (a0,a1,())).2))else bif(p53 ((f82 (a0,a1,())).1,()))then(bif(f53 ((f82 (a0,a1,())).1,())).1 then(bif(p70 (a0,()))then(bif(p54 e3_)then(some ((f70 (a0,())).1,(f54 e3_).1,(0:Int),()))else none)else none)else bif((((f82 (a0,a1,())).1.1==(9:Int))&&(decide (a2>(0:Int))))||(((f82 (a0,a1,())).1.1==(2:Int))&&(decide (a2<(0:Int)))))then(some (a1,(0:Int),(0:Int),()))else bif((decide (e2_>(0:Int)))||((e2_==(0:Int))&&(decide (a2<(0:Int)))))then(some ((aa .u64 e2_),(0:Int),(0:Int),()))else bif(p64 (a0,(aa .u64 (aa .i64 ((0:Int)-e2_))),()))then(some (e1_.1,(0:Int),e1_.2))else none)else none)else none
theorem r93(x:DenS NL):run (cf [(228,⟨H5,Iw,p82,f82⟩),(229,⟨FI,FT,p53,f53⟩),(61,⟨CV,CW,p70,f70⟩),(230,⟨FJ,FU,p54,f54⟩),(187,⟨H4,Iu,p64,f64⟩)] []) 9 227 Tryz.f227 NL Pp x=t93 p82 f82 p53 f53 p70 f70 p54 f54 p64 f64 x.1 x.2.1 x.2.2.1:=by kernel_rfl
def T93(x:DenS NL):Option (DenS Pp):=t93 IN.pre IN.F D5.pre D5.F AO.pre AO.F D6.pre D6.F En.pre En.F x.1 x.2.1 x.2.2.1
def Zr:Sum:=Ai NL Pp T93 (DenS.dflt Pp)
theorem aM3:Sound Tryz.prog G1 227 Zr:=sd (cf [(228,IN),(229,D5),(61,AO),(230,D6),(187,En)] []) 227 Tryz.f227 ⟨j3,UU,Ft,UV,Zq,trivial⟩ trivial NL Pp T93 _ (fun _=>r93 ..)
abbrev Y93:=Ae NL
abbrev Z93:=Ad NL Pp
variable (p93:Y93)(f93:Z93)
abbrev M0:Aa:=[(false,.int .i64),(false,.int .u64)]
abbrev OI:Aa:=[(false,.int .u64),(false,.int .i64),(false,.int .i64)]
def t41(p93:Y93)(f93:Z93)(a0:Ab (.int .i64))(a1:Ab (.int .u64)):Option (DenS OI):=bif(p93 (a0,a1,(1:Int),()))then(some (f93 (a0,a1,(1:Int),())))else none
theorem r41(x:DenS M0):run (cf [(227,⟨NL,Pp,p93,f93⟩)] []) 9 182 Tryz.f182 M0 OI x=t41 p93 f93 x.1 x.2.1:=by kernel_rfl
def zG(x:DenS M0):Option (DenS OI):=t41 Zr.pre Zr.F x.1 x.2.1
def Zb:Sum:=Ai M0 OI zG (DenS.dflt OI)
theorem aMy:Sound Tryz.prog G1 182 Zb:=sd (cf [(227,Zr)] []) 182 Tryz.f182 ⟨aM3,trivial⟩ trivial M0 OI zG _ (fun _=>r41 ..)
abbrev Y41:=Ae M0
abbrev Z41:=Ad M0 OI
variable (p41:Y41)(f41:Z41)
abbrev M5:Aa:=[(true,.pair (.int .i64) (.pair (.int .i64) (.pair (.int .u64) (.pair (.int .u64) (.pair (.int .u64) (.unit))))))]
abbrev OM:Aa:=[(false,.int .u64),(false,.int .i64),(false,.int .i64)]
def aIX(p41:Y41)(f41:Z41)(a0:Ab (.pair (.int .i64) (.pair (.int .i64) (.pair (.int .u64) (.pair (.int .u64) (.pair (.int .u64) (.unit))))))):Option (DenS OM):=bif(p41 (a0.2.1,a0.2.2.1,()))then(some (f41 (a0.2.1,a0.2.2.1,())))else none
theorem aWl(x:DenS M5):run (cf [(182,⟨M0,OI,p41,f41⟩)] []) 9 181 Tryz.f181 M5 OM x=aIX p41 f41 x.1:=by kernel_rfl
def zL(x:DenS M5):Option (DenS OM):=aIX Zb.pre Zb.F x.1
def UO:Sum:=Ai M5 OM zL (DenS.dflt OM)
theorem wN:Sound Tryz.prog G1 181 UO:=sd (cf [(182,Zb)] []) 181 Tryz.f181 ⟨aMy,trivial⟩ trivial M5 OM zL _ (fun _=>aWl ..)
abbrev lE:=Ae M5
abbrev mY:=Ad M5 OM
variable (p414:lE)(f414:mY)
abbrev MJ:Aa:=[(false,.int .i64),(false,.int .i64),(false,.int .u64),(false,.int .i64)]
abbrev J2:Aa:=[(false,.int .u64),(false,.int .i64),(false,.int .i64)]
def t38(p69:Bl)(f69:Bm)(p82:Wl)(f82:Wv)(p53:Ri)(f53:Rq)(p70:CZ)(f70:C0)(p54:Rj)(f54:Rr)(p40:Qa)(f40:Qd)(p51:Z9)(f51:aU)(a0 a1:Ab (.int .i64))(a2:Ab (.int .u64))(a3:Ab (.int .i64)):Option (DenS J2):=let e3_:=(if((10000:Int)<a3)then(10000:Int)else a3);let e1_:=(a0,a1,((f40 (a0,a2,())).1.1,(f40 (a0,a2,())).1.2.1,(aa .i64 ((f40 (a0,a2,())).1.2.2.1+(if(e3_>(-(10000:Int)))then e3_ else(-(10000:Int))))),()),());let e2_:=((f82 (a0,a2,())).1,(f82 (a0,a2,())).1,());bif(p69 (a0,()))then(bif((f69 (a0,())).2.1 !=(0:Int))then(some ((0:Int),(0:Int),(f69 (a0,())).2))else bif((decide (a1<(0:Int)))||(decide (a1>(5:Int))))then(some ((0:Int),(0:Int),(3:Int),()))else bif(p82 (a0,a2,()))then(bif((f82 (a0,a2,())).2.1 !=(0:Int))then(some ((0:Int),(0:Int),(f82 (a0,a2,())).2))else bif(p53 ((f82 (a0,a2,())).1,()))then(bif(f53 ((f82 (a0,a2,())).1,())).1 then(bif(p70 (a0,()))then(bif(p54 e2_)then(some ((f70 (a0,())).1,(f54 e2_).1,(0:Int),()))else none)else none)else bif(p40 (a0,a2,()))then(bif(((f40 (a0,a2,())).2.1 !=(0:Int))||((f82 (a0,a2,())).1.2.1==(0:Int)))then(some (a2,(0:Int),(0:Int),()))else bif(p51 e1_)then(some (f51 e1_))else none)else none)else none)else none)else none
theorem r38(x:DenS MJ):run (cf [(71,⟨BE,BF,p69,f69⟩),(228,⟨H5,Iw,p82,f82⟩),(229,⟨FI,FT,p53,f53⟩),(61,⟨CV,CW,p70,f70⟩),(230,⟨FJ,FU,p54,f54⟩),(203,⟨FH,FS,p40,f40⟩),(231,⟨H2,Is,p51,f51⟩)] []) 9 184 Tryz.f184 MJ J2 x=t38 p69 f69 p82 f82 p53 f53 p70 f70 p54 f54 p40 f40 p51 f51 x.1 x.2.1 x.2.2.1 x.2.2.2.1:=by kernel_rfl
def yN(x:DenS MJ):Option (DenS J2):=t38 Al.pre Al.F IN.pre IN.F D5.pre D5.F AO.pre AO.F D6.pre D6.F C8.pre C8.F IL.pre IL.F x.1 x.2.1 x.2.2.1 x.2.2.2.1
def Y1:Sum:=Ai MJ J2 yN (DenS.dflt J2)
theorem aMk:Sound Tryz.prog G1 184 Y1:=sd (cf [(71,Al),(228,IN),(229,D5),(61,AO),(230,D6),(203,C8),(231,IL)] []) 184 Tryz.f184 ⟨Dj,j3,UU,Ft,UV,UL,j1,trivial⟩ trivial MJ J2 yN _ (fun _=>r38 ..)
abbrev Y38:=Ae MJ
abbrev Z38:=Ad MJ J2
variable (p38:Y38)(f38:Z38)
abbrev M6:Aa:=[(true,.pair (.int .i64) (.pair (.int .i64) (.pair (.int .u64) (.pair (.int .u64) (.pair (.int .u64) (.unit))))))]
abbrev ON:Aa:=[(false,.int .u64),(false,.int .i64),(false,.int .i64)]
def aIY(p38:Y38)(f38:Z38)(a0:Ab (.pair (.int .i64) (.pair (.int .i64) (.pair (.int .u64) (.pair (.int .u64) (.pair (.int .u64) (.unit))))))):Option (DenS ON):=let e1_:=(a0.2.1,a0.1,a0.2.2.1,(aa .i64 a0.2.2.2.1),());bif(p38 e1_)then(some (f38 e1_))else none
theorem aWm(x:DenS M6):run (cf [(184,⟨MJ,J2,p38,f38⟩)] []) 9 183 Tryz.f183 M6 ON x=aIY p38 f38 x.1:=by kernel_rfl
def zM(x:DenS M6):Option (DenS ON):=aIY Y1.pre Y1.F x.1
def UP:Sum:=Ai M6 ON zM (DenS.dflt ON)
theorem wO:Sound Tryz.prog G1 183 UP:=sd (cf [(184,Y1)] []) 183 Tryz.f183 ⟨aMk,trivial⟩ trivial M6 ON zM _ (fun _=>aWm ..)
abbrev lF:=Ae M6
abbrev mZ:=Ad M6 ON
variable (p415:lF)(f415:mZ)
abbrev M7:Aa:=[(true,.pair (.int .i64) (.pair (.int .i64) (.pair (.int .u64) (.pair (.int .u64) (.pair (.int .u64) (.unit))))))]
abbrev OO:Aa:=[(false,.int .u64),(false,.int .i64),(false,.int .i64)]
def aIZ(p65:Dk)(f65:Dl)(a0:Ab (.pair (.int .i64) (.pair (.int .i64) (.pair (.int .u64) (.pair (.int .u64) (.pair (.int .u64) (.unit))))))):Option (DenS OO):=bif(p65 (a0.2.1,a0.2.2.1,()))then(some ((aa .u64 (f65 (a0.2.1,a0.2.2.1,())).1),(0:Int),(f65 (a0.2.1,a0.2.2.1,())).2))else none
theorem aWn(x:DenS M7):run (cf [(59,⟨De,Df,p65,f65⟩)] []) 9 185 Tryz.f185 M7 OO x=aIZ p65 f65 x.1:=by kernel_rfl
def zN(x:DenS M7):Option (DenS OO):=aIZ AS.pre AS.F x.1
def UQ:Sum:=Ai M7 OO zN (DenS.dflt OO)
theorem wP:Sound Tryz.prog G1 185 UQ:=sd (cf [(59,AS)] []) 185 Tryz.f185 ⟨G8,trivial⟩ trivial M7 OO zN _ (fun _=>aWn ..)
abbrev lG:=Ae M7
abbrev m8:=Ad M7 OO
variable (p416:lG)(f416:m8)
abbrev M8:Aa:=[(false,.int .i64),(false,.int .u64),(false,.int .u64)]
abbrev OP:Aa:=[(false,.int .u64),(false,.int .i64)]
def aI0(p66:BB)(f66:BC)(p115:Wg)(f115:Wp)(a0:Ab (.int .i64))(a1 a2:Ab (.int .u64)):Option (DenS OP):=bif(p66 (a0,a1,()))then(bif((f66 (a0,a1,())).1 !=(0:Int))then(some ((0:Int),(f66 (a0,a1,()))))else bif(p66 (a0,a2,()))then(bif((f66 (a0,a2,())).1 !=(0:Int))then(some ((0:Int),(f66 (a0,a2,()))))else bif(p115 (a0,()))then(bif(p115 (a0,()))then(some ((An .u64 (WE .u64 a1 (f115 (a0,())).1) (Bs .u64 a2 (f115 (a0,())).1)),(0:Int),()))else none)else none)else none)else none
theorem aWo(x:DenS M8):run (cf [(85,⟨BY,BZ,p66,f66⟩),(233,⟨HN,Ib,p115,f115⟩)] []) 9 190 Tryz.f190 M8 OP x=aI0 p66 f66 p115 f115 x.1 x.2.1 x.2.2.1:=by kernel_rfl
def zO(x:DenS M8):Option (DenS OP):=aI0 Ao.pre Ao.F EM.pre EM.F x.1 x.2.1 x.2.2.1
def Ze:Sum:=Ai M8 OP zO (DenS.dflt OP)
theorem aMw:Sound Tryz.prog G1 190 Ze:=sd (cf [(85,Ao),(233,EM)] []) 190 Tryz.f190 ⟨EP,jN,trivial⟩ trivial M8 OP zO _ (fun _=>aWo ..)
abbrev aBH:=Ae M8
abbrev aDc:=Ad M8 OP
variable (p417:aBH)(f417:aDc)
abbrev M9:Aa:=[(true,.pair (.int .i64) (.pair (.int .i64) (.pair (.int .u64) (.pair (.int .u64) (.pair (.int .u64) (.unit))))))]
abbrev OQ:Aa:=[(false,.int .u64),(false,.int .i64),(false,.int .i64)]
def aI1(p417:aBH)(f417:aDc)(a0:Ab (.pair (.int .i64) (.pair (.int .i64) (.pair (.int .u64) (.pair (.int .u64) (.pair (.int .u64) (.unit))))))):Option (DenS OQ):=bif(p417 (a0.2.1,a0.2.2.1,a0.2.2.2.1,()))then(some ((f417 (a0.2.1,a0.2.2.1,a0.2.2.2.1,())).1,(0:Int),(f417 (a0.2.1,a0.2.2.1,a0.2.2.2.1,())).2))else none
theorem aWp(x:DenS M9):run (cf [(190,⟨M8,OP,p417,f417⟩)] []) 9 189 Tryz.f189 M9 OQ x=aI1 p417 f417 x.1:=by kernel_rfl
def zP(x:DenS M9):Option (DenS OQ):=aI1 Ze.pre Ze.F x.1
def UR:Sum:=Ai M9 OQ zP (DenS.dflt OQ)
theorem wQ:Sound Tryz.prog G1 189 UR:=sd (cf [(190,Ze)] []) 189 Tryz.f189 ⟨aMw,trivial⟩ trivial M9 OQ zP _ (fun _=>aWp ..)
abbrev lH:=Ae M9
abbrev m9:=Ad M9 OQ
variable (p418:lH)(f418:m9)
end Vx
namespace Vx
open Go Go.Proofs
variable (p69:Bl)(f69:Bm)(p66:BB)(f66:BC)(p65:Dk)(f65:Dl)(p70:CZ)(f70:C0)(p178:Hc)(f178:Hf)(p122:F8)(f122:Gc)(p27:ZV)(f27:aG)(p64:SS)(f64:S4)(p25:kO)(f25:mG)(p354:kU)(f354:mM)(p40:Qa)(f40:Qd)(p328:D8)(f328:Ea)(p381:kV)(f381:mN)(p395:kW)(f395:mO)(p396:kX)(f396:mP)(p402:kZ)(f402:mR)(p407:lA)(f407:mU)(p408:lB)(f408:mV)(p411:lC)(f411:mW)(p413:lD)(f413:mX)(p112:ZR)(f112:aC)(p82:Wl)(f82:Wv)(p53:Ri)(f53:Rq)(p54:Rj)(f54:Rr)(p414:lE)(f414:mY)(p415:lF)(f415:mZ)(p416:lG)(f416:m8)(p418:lH)(f418:m9)
abbrev Na:Aa:=[(false,.int .i64),(false,.int .u64),(false,.int .u64)]
abbrev OR:Aa:=[(false,.int .u64),(false,.int .i64),(false,.bool),(false,.int .i64)]
abbrev G2:Pat:=⟨109,[(32,.one (.v .i64)),(31,.one (.sl (.int .u64))),(33,.one (.v .i64)),(2,.one (.v .u64)),(0,.one (.v .i64)),(1,.one (.v .u64))],[]⟩
abbrev Yo:List (Nat×Shape):=[]
abbrev Lh:List (Nat×Pat):=[(0,⟨109,[(2,.one (.v .u64)),(0,.one (.v .i64)),(1,.one (.v .u64))],[]⟩)]
abbrev KI:Option Pat:=(some ⟨109,[(6,.one (.v .u64)),(7,.one (.v .i64)),(8,.one (.bool)),(9,.one (.v .i64))],[]⟩)
variable (w419_5:Pat.D G2->Option (Ag Lh KI))
def Xi(p69:Bl)(f69:Bm)(p66:BB)(f66:BC)(p65:Dk)(f65:Dl)(p70:CZ)(f70:C0){R:Type}(L:Pat.D G2->Option R)(e:Ag Lh KI->Option R)(x:Pat.D G2):Option R:=let e2_:=(x.1.2.2.2.2.1,(x.1.2.1.getD (ah x.1.2.2.1) (0:Int)),());let e1_:=(f66 e2_);bif(decide (x.1.2.2.1<x.1.1))then(bif((decide ((0:Int)<=x.1.2.2.1))&&(decide (x.1.2.2.1<(x.1.2.1.length:Int))))then(bif(p66 e2_)then(bif(e1_.1 !=(0:Int))then(((e (.inr (((0:Int),(0:Int),true,e1_),())))))else(L ((x.1.1,x.1.2.1,(aa .i64 (x.1.2.2.1+(1:Int))),x.1.2.2.2),())))else none)else none)else(e (.inl (x.1.2.2.2,())))
theorem aYl(d:Nat)(R:Type)(L:Pat.D G2->Option R)(e:Ag Lh KI->Option R)(x:Pat.D G2):
  Bn (cf [(71,⟨BE,BF,p69,f69⟩),(85,⟨BY,BZ,p66,f66⟩),(59,⟨De,Df,p65,f65⟩),(61,⟨CV,CW,p70,f70⟩)] [(242,5,LoopSpec.of G2 Yo Lh KI w419_5)]) (d+2) 242 (Bj Tryz.f242 5) G2 Yo Lh KI (R:=R) L e x=Xi p69 f69 p66 f66 p65 f65 p70 f70 L e x:=by kernel_rfl
theorem aSK(p69:Bl)(f69:Bm)(p66:BB)(f66:BC)(p65:Dk)(f65:Dl)(p70:CZ)(f70:C0):Bf fun L e x=>Xi p69 f69 p66 f66 p65 f65 p70 f70 L e x:=by intro _ _ _ _ _ _ _ h0 hL he _;unfold Xi;repeat' (first|exact h0|exact hL _|exact he _|apply By|(apply Bz h0;intro _)|(apply BA<;>intro _))
def aI2(p69:Bl)(f69:Bm)(p66:BB)(f66:BC)(p65:Dk)(f65:Dl)(p70:CZ)(f70:C0)(w419_5:Pat.D G2->Option (Ag Lh KI))(a0:Ab (.int .i64))(a1 a2:Ab (.int .u64)):Option (DenS OR):=
 bif(p69 (a0,()))then(bif((f69 (a0,())).2.1 !=(0:Int))then(some ((0:Int),(0:Int),true,(f69 (a0,())).2))
 else Vx.A3 (w419_5 ((((a1::(a2::[])).length:Int),(a1::(a2::[])),(0:Int),a2,a0,a1,()),())) fun y2=>
 Vx.A1 y2 (fun y3=>
 bif(p65 y3.1.2)then(bif(p65 (y3.1.2.1,y3.1.1,()))then(bif(p70 (y3.1.2.1,()))then(bif(((f65 y3.1.2).1==(0:Int))||((f65 (y3.1.2.1,y3.1.1,())).1==(0:Int)))then(some ((f70 (y3.1.2.1,())).1,(1:Int),true,(0:Int),()))
 else bif(((f65 y3.1.2).1==(1:Int))||((f65 (y3.1.2.1,y3.1.1,())).1==(1:Int)))then(some ((f70 (y3.1.2.1,())).1,(0:Int),true,(0:Int),()))
 else bif(((((f65 y3.1.2).1==(9:Int))||((f65 y3.1.2).1==(2:Int)))||((f65 (y3.1.2.1,y3.1.1,())).1==(6:Int)))||((f65 (y3.1.2.1,y3.1.1,())).1==(5:Int)))then(some ((f70 (y3.1.2.1,())).1,(1:Int),true,(0:Int),()))
 else bif(((((f65 (y3.1.2.1,y3.1.1,())).1==(9:Int))||((f65 (y3.1.2.1,y3.1.1,())).1==(2:Int)))||((f65 y3.1.2).1==(6:Int)))||((f65 y3.1.2).1==(5:Int)))then(some (y3.1.2.2.1,(0:Int),true,(0:Int),()))
 else some ((0:Int),(0:Int),false,(0:Int),()))
 else none)
 else none)
 else none) (fun z3=>
 some z3.1))
 else none
theorem aWq(x:DenS Na):run (cf [(71,⟨BE,BF,p69,f69⟩),(85,⟨BY,BZ,p66,f66⟩),(59,⟨De,Df,p65,f65⟩),(61,⟨CV,CW,p70,f70⟩)] [(242,5,LoopSpec.of G2 Yo Lh KI w419_5)]) 9 242 Tryz.f242 Na OR x=aI2 p69 f69 p66 f66 p65 f65 p70 f70 w419_5 x.1 x.2.1 x.2.2.1:=by kernel_rfl
def aAJ:G2.D->Option (Ag Lh KI):=A6 fun L=>Xi Al.pre Al.F Ao.pre Ao.F AS.pre AS.F AO.pre AO.F L some
def zQ(x:DenS Na):Option (DenS OR):=aI2 Al.pre Al.F Ao.pre Ao.F AS.pre AS.F AO.pre AO.F aAJ x.1 x.2.1 x.2.2.1
def Zf:Sum:=Ai Na OR zQ (DenS.dflt OR)
theorem aMx:Sound Tryz.prog G1 242 Zf:=sd (cf [(71,Al),(85,Ao),(59,AS),(61,AO)] [(242,5,LoopSpec.of G2 Yo Lh KI aAJ)]) 242 Tryz.f242 ⟨Dj,EP,G8,Ft,trivial⟩ ⟨rfl,fun d=>Bw (fun L e x=>Xi Al.pre Al.F Ao.pre Ao.F AS.pre AS.F AO.pre AO.F L e x) (aSK Al.pre Al.F Ao.pre Ao.F AS.pre AS.F AO.pre AO.F) (fun _ _ _ _=>aYl ..),trivial⟩ Na OR zQ _ (fun _=>aWq ..)
abbrev aBI:=Ae Na
abbrev aDd:=Ad Na OR
variable (p419:aBI)(f419:aDd)
abbrev Nb:Aa:=[(true,.pair (.bool) (.pair (.slice (.int .u64)) (.pair (.int .i64) (.unit)))),(true,.pair (.bool) (.pair (.slice (.int .u64)) (.pair (.int .i64) (.unit))))]
abbrev OS:Aa:=[(true,.pair (.int .u64) (.pair (.int .u64) (.pair (.int .i64) (.pair (.int .u64) (.unit)))))]
abbrev G3:Pat:=⟨104,[(6,.one (.v .u64)),(9,.one (.v .i64)),(8,.one (.ptr 3 0)),(4,.one (.ptr 2 0))],[.gone,.gone,.raw [.v .u64,.v .u64,.v .i64,.v .u64],.raw [.v .u64,.v .u64,.v .i64,.v .u64]]⟩
abbrev Yp:List (Nat×Shape):=[]
abbrev Li:List (Nat×Pat):=[(0,⟨104,[(8,.one (.ptr 3 0)),(4,.one (.ptr 2 0))],[.gone,.gone,.raw [.v .u64,.v .u64,.v .i64,.v .u64],.raw [.v .u64,.v .u64,.v .i64,.v .u64]]⟩)]
abbrev KJ:Option Pat:=none
variable (w420_10:Pat.D G3->Option (Ag Li KJ))
def Xj(p178:Hc)(f178:Hf)(p328:D8)(f328:Ea){R:Type}(L:Pat.D G3->Option R)(e:Ag Li KJ->Option R)(x:Pat.D G3):Option R:=let e6_:=(if((64:Int)<x.1.2.1)then(64:Int)else x.1.2.1);let e5_:=(aa .i64 ((64:Int)-e6_));let e1_:=(f328 ((AJ .u64 x.2.2.2.2.1.1 e5_),(A4 .u64 x.2.2.2.2.1.1 e6_),x.1.1,()));let e2_:=e5_;let e3_:=(decide ((0:Int)<=e6_));let e4_:=e6_;bif(decide (x.1.2.1>(0:Int)))then(bif(decide ((0:Int)<=e2_))then(bif e3_ then(bif(p328 ((AJ .u64 x.2.2.2.2.1.1 e2_),(A4 .u64 x.2.2.2.2.1.1 e4_),x.1.1,()))then(bif e3_ then(((L ((x.1.1,(aa .i64 (x.1.2.1-e4_)),(),(),()),(),(),x.2.2.2.1,(e1_.2.1,x.2.2.2.2.1.2.1,x.2.2.2.2.1.2.2.1,(aa .u64 ((A4 .u64 x.2.2.2.2.1.2.2.2.1 e4_)+e1_.1)),()),()))))else none)else none)else none)else none)else(e (.inl (((),(),()),(),(),x.2.2.2)))
theorem aYm(d:Nat)(R:Type)(L:Pat.D G3->Option R)(e:Ag Li KJ->Option R)(x:Pat.D G3):
  Bn (cf [(115,⟨E3,EG,p178,f178⟩),(136,⟨DV,DZ,p328,f328⟩)] [(243,10,LoopSpec.of G3 Yp Li KJ w420_10)]) (d+2) 243 (Bj Tryz.f243 10) G3 Yp Li KJ (R:=R) L e x=Xj p178 f178 p328 f328 L e x:=by kernel_rfl
theorem aSL(p178:Hc)(f178:Hf)(p328:D8)(f328:Ea):Bf fun L e x=>Xj p178 f178 p328 f328 L e x:=by intro _ _ _ _ _ _ _ h0 hL he _;unfold Xj;repeat' (first|exact h0|exact hL _|exact he _|apply By|(apply Bz h0;intro _)|(apply BA<;>intro _))
def aI3(p178:Hc)(f178:Hf)(p328:D8)(f328:Ea)(w420_10:Pat.D G3->Option (Ag Li KJ))(a0 a1:Ab (.pair (.bool) (.pair (.slice (.int .u64)) (.pair (.int .i64) (.unit))))):Option (DenS OS):=
 let e8_:=(aa .i64 (a1.2.2.1-a0.2.2.1))
 let e7_:=(A4 .u64 (a1.2.1.getD (ah (0:Int)) (0:Int)) e8_)
 let e1_:=(e7_ !=(0:Int))
 let e2_:=e7_
 let e3_:=((a1.2.1.getD (ah (0:Int)) (0:Int))!=(0:Int))
 let e4_:=e8_
 let e5_:=((a1.2.1.getD (ah (0:Int)) (0:Int)),())
 let e6_:=((a0.2.1.getD (ah (0:Int)) (0:Int)),())
 bif(decide ((0:Int)<(a0.2.1.length:Int)))then(bif(decide ((0:Int)<(a1.2.1.length:Int)))then(bif(decide (a1.2.2.1>a0.2.2.1))then(bif(p178 e5_)then(bif(p178 e6_)then(bif(decide ((aa .i64 ((f178 e5_).1+e4_))>(aa .i64 ((f178 e6_).1+(1:Int)))))then(some (((a0.2.1.getD (ah (0:Int)) (0:Int)),(0:Int),a0.2.2.1,(0:Int),()),()))
 else bif(decide ((0:Int)<=e4_))then(bif e1_ then(bif e1_ then(some (((ks (a0.2.1.getD (ah (0:Int)) (0:Int)) e2_),e2_,a0.2.2.1,(BQ .u64 (a0.2.1.getD (ah (0:Int)) (0:Int)) e2_),()),()))
 else none)
 else none)
 else none)
 else none)
 else none)
 else bif e3_ then(bif e3_ then(Vx.A3 (w420_10 (((a1.2.1.getD (ah (0:Int)) (0:Int)),(aa .i64 (a0.2.2.1-a1.2.2.1)),(),(),()),(),(),((0:Int),(0:Int),(0:Int),(0:Int),()),((ks (a0.2.1.getD (ah (0:Int)) (0:Int)) (a1.2.1.getD (ah (0:Int)) (0:Int))),(a1.2.1.getD (ah (0:Int)) (0:Int)),a1.2.2.1,(BQ .u64 (a0.2.1.getD (ah (0:Int)) (0:Int)) (a1.2.1.getD (ah (0:Int)) (0:Int))),()),())) fun y5=>
 Vx.A1 y5 (fun y6=>
 some y6.2.2.2.2) (fun z6=>
 none))
 else none)
 else none)
 else none)
 else none
theorem aWr(x:DenS Nb):run (cf [(115,⟨E3,EG,p178,f178⟩),(136,⟨DV,DZ,p328,f328⟩)] [(243,10,LoopSpec.of G3 Yp Li KJ w420_10)]) 9 243 Tryz.f243 Nb OS x=aI3 p178 f178 p328 f328 w420_10 x.1 x.2.1:=by kernel_rfl
def aAK:G3.D->Option (Ag Li KJ):=A6 fun L=>Xj B4.pre B4.F AP.pre AP.F L some
def zR(x:DenS Nb):Option (DenS OS):=aI3 B4.pre B4.F AP.pre AP.F aAK x.1 x.2.1
def Zg:Sum:=Ai Nb OS zR (DenS.dflt OS)
theorem aMz:Sound Tryz.prog G1 243 Zg:=sd (cf [(115,B4),(136,AP)] [(243,10,LoopSpec.of G3 Yp Li KJ aAK)]) 243 Tryz.f243 ⟨UD,YZ,trivial⟩ ⟨rfl,fun d=>Bw (fun L e x=>Xj B4.pre B4.F AP.pre AP.F L e x) (aSL B4.pre B4.F AP.pre AP.F) (fun _ _ _ _=>aYm ..),trivial⟩ Nb OS zR _ (fun _=>aWr ..)
abbrev aBJ:=Ae Nb
abbrev aDe:=Ad Nb OS
variable (p420:aBJ)(f420:aDe)
abbrev JH:Aa:=[(false,.int .i64),(false,.int .u64),(false,.int .u64),(false,.bool)]
abbrev Ip:Aa:=[(false,.int .u64),(false,.int .i64),(false,.int .i64),(false,.int .i64)]
def aI4(p419:aBI)(f419:aDd)(p40:Qa)(f40:Qd)(p420:aBJ)(f420:aDe)(p122:F8)(f122:Gc)(a0:Ab (.int .i64))(a1 a2:Ab (.int .u64))(a3:Ab (.bool)):Option (DenS Ip):=let e24_:=((f40 (a0,a1,())).1,(f40 (a0,a2,())).1,());let e23_:=(f420 e24_);let e20_:=(aa .u64 (e23_.1.2.1-e23_.1.1));let e22_:=(e23_.1.2.2.1,false,());let e14_:=(((0:Int),e20_,()),e22_);let e13_:=(a0,(2:Int),(f40 (a0,a1,())).1.1,e14_);let e12_:=(f122 e13_);let e1_:=(e12_.1,(aa .i64 (Bs .u64 (aa .u64 (e23_.1.2.2.2.1+(1:Int))) (7:Int))),(0:Int),e12_.2.2);let e19_:=(((0:Int),e23_.1.1,()),e22_);let e17_:=(a0,(2:Int),(!(f40 (a0,a1,())).1.1),e19_);let e15_:=(f122 e17_);let e21_:=(aa .i64 (Bs .u64 e23_.1.2.2.2.1 (7:Int)));let e2_:=(e15_.1,e21_,(0:Int),e15_.2.2);let e18_:=(a0,(2:Int),(f40 (a0,a1,())).1.1,e19_);let e16_:=(f122 e18_);let e3_:=(e16_.1,e21_,(0:Int),e16_.2.2);let e4_:=(f122 (a0,(2:Int),(!(f40 (a0,a1,())).1.1),e14_));let e5_:=(p122 e13_);let e6_:=(p122 e17_);let e7_:=(p122 e18_);let e8_:=(e20_==(0:Int));let e9_:=(aa .u64 ((2:Int)*e23_.1.1));let e10_:=(e23_.1.1==(0:Int));let e11_:=e23_;let g1_:Option (DenS Ip):=bif(a3&&false)then(bif e10_ then(bif e7_ then(some e3_)else none)else bif e6_ then(some e2_)else none)else bif e10_ then(bif e7_ then(some e3_)else none)else bif e7_ then(some e3_)else none;bif(p419 (a0,a1,a2,()))then(bif(f419 (a0,a1,a2,())).2.2.1 then(some ((f419 (a0,a1,a2,())).1,(0:Int),(f419 (a0,a1,a2,())).2.1,(f419 (a0,a1,a2,())).2.2.2))else bif(p40 (a0,a1,()))then(bif(p40 (a0,a2,()))then(bif(p420 e24_)then(bif a3 then(bif(((e11_.1.2.1==(0:Int))||(decide (e9_<e11_.1.2.1)))||((e9_==e11_.1.2.1)&&((Bs .u64 e11_.1.2.2.2.1 (1:Int))==(0:Int))))then(g1_)else bif(a3&&true)then(bif e8_ then(bif e5_ then(some e1_)else none)else bif(p122 (a0,(2:Int),(!(f40 (a0,a1,())).1.1),((0:Int),(aa .u64 (e11_.1.2.1-e11_.1.1)),()),e11_.1.2.2.1,false,()))then(some (e4_.1,(aa .i64 (Bs .u64 (aa .u64 (e11_.1.2.2.2.1+(1:Int))) (7:Int))),(0:Int),e4_.2.2))else none)else bif e8_ then(bif e5_ then(some e1_)else none)else bif e5_ then(some e1_)else none)else g1_)else none)else none)else none)else none
theorem aWs(x:DenS JH):run (cf [(242,⟨Na,OR,p419,f419⟩),(203,⟨FH,FS,p40,f40⟩),(243,⟨Nb,OS,p420,f420⟩),(104,⟨Ej,EE,p122,f122⟩)] []) 9 214 Tryz.f214 JH Ip x=aI4 p419 f419 p40 f40 p420 f420 p122 f122 x.1 x.2.1 x.2.2.1 x.2.2.2.1:=by kernel_rfl
def zS(x:DenS JH):Option (DenS Ip):=aI4 Zf.pre Zf.F C8.pre C8.F Zg.pre Zg.F BH.pre BH.F x.1 x.2.1 x.2.2.1 x.2.2.2.1
def QX:Sum:=Ai JH Ip zS (DenS.dflt Ip)
theorem wR:Sound Tryz.prog G1 214 QX:=sd (cf [(242,Zf),(203,C8),(243,Zg),(104,BH)] []) 214 Tryz.f214 ⟨aMx,UL,aMz,Sf,trivial⟩ trivial JH Ip zS _ (fun _=>aWs ..)
abbrev lI:=Ae JH
abbrev nA:=Ad JH Ip
variable (p421:lI)(f421:nA)
abbrev Nc:Aa:=[(false,.int .i64),(false,.int .u64),(false,.int .u64)]
abbrev OT:Aa:=[(false,.int .u64),(false,.int .i64),(false,.int .i64),(false,.int .i64)]
def aI5(p421:lI)(f421:nA)(a0:Ab (.int .i64))(a1 a2:Ab (.int .u64)):Option (DenS OT):=bif(p421 (a0,a1,a2,true,()))then(some (f421 (a0,a1,a2,true,())))else none
theorem aWt(x:DenS Nc):run (cf [(214,⟨JH,Ip,p421,f421⟩)] []) 9 167 Tryz.f167 Nc OT x=aI5 p421 f421 x.1 x.2.1 x.2.2.1:=by kernel_rfl
def zT(x:DenS Nc):Option (DenS OT):=aI5 QX.pre QX.F x.1 x.2.1 x.2.2.1
def US:Sum:=Ai Nc OT zT (DenS.dflt OT)
theorem wS:Sound Tryz.prog G1 167 US:=sd (cf [(214,QX)] []) 167 Tryz.f167 ⟨wR,trivial⟩ trivial Nc OT zT _ (fun _=>aWt ..)
abbrev aBK:=Ae Nc
abbrev aDf:=Ad Nc OT
variable (p422:aBK)(f422:aDf)
abbrev Nd:Aa:=[(false,.int .i64),(false,.int .u64),(false,.int .u64)]
abbrev OU:Aa:=[(false,.int .u64),(false,.int .i64),(false,.int .i64),(false,.int .i64)]
def aI6(p421:lI)(f421:nA)(a0:Ab (.int .i64))(a1 a2:Ab (.int .u64)):Option (DenS OU):=bif(p421 (a0,a1,a2,false,()))then(some (f421 (a0,a1,a2,false,())))else none
theorem aWu(x:DenS Nd):run (cf [(214,⟨JH,Ip,p421,f421⟩)] []) 9 168 Tryz.f168 Nd OU x=aI6 p421 f421 x.1 x.2.1 x.2.2.1:=by kernel_rfl
def zU(x:DenS Nd):Option (DenS OU):=aI6 QX.pre QX.F x.1 x.2.1 x.2.2.1
def UT:Sum:=Ai Nd OU zU (DenS.dflt OU)
theorem wT:Sound Tryz.prog G1 168 UT:=sd (cf [(214,QX)] []) 168 Tryz.f168 ⟨wR,trivial⟩ trivial Nd OU zU _ (fun _=>aWu ..)
abbrev aBL:=Ae Nd
abbrev aDg:=Ad Nd OU
variable (p423:aBL)(f423:aDg)
abbrev Yx:Aa:=[(false,.int .i64),(false,.int .u64),(false,.int .u64)]
abbrev jE:Aa:=[(false,.int .u64),(false,.int .i64),(false,.int .i64),(false,.int .i64)]
def YD:SumF:=Jb Yx jE [(167,[],US),(168,[],UT)]
theorem aLz:Jt Tryz.prog G1 YD:=Te ⟨Db wS,⟨Db wT,trivial⟩⟩
abbrev aAS:=Option (Nat×List Nat)->Ae Yx
abbrev aCn:=Option (Nat×List Nat)->Ad Yx jE
variable (p100004:aAS)(f100004:aCn)
abbrev Nf:Aa:=[(true,.pair (.int .i64) (.pair (.int .i64) (.pair (.int .u64) (.pair (.int .u64) (.pair (.int .u64) .unit))))),(false,.box (.pfn))]
abbrev OV:Aa:=[(false,.int .u64),(false,.int .i64),(false,.int .i64)]
def aI7(p100004:aAS)(f100004:aCn)(a0:Ab (.pair (.int .i64) (.pair (.int .i64) (.pair (.int .u64) (.pair (.int .u64) (.pair (.int .u64) .unit))))))(a1:Ab (.box (.pfn))):Option (DenS OV):=let e1_:=(f100004 (some (a1,[])) (a0.2.1,a0.2.2.1,a0.2.2.2.1,()));bif(p100004 (some (a1,[])) (a0.2.1,a0.2.2.1,a0.2.2.2.1,()))then(some (e1_.1,e1_.2.2))else none
theorem aWv(x:DenS Nf):run ({cf [] []with fns:=[(246,⟨Yx,jE,p100004,f100004⟩)] }) 9 213 Tryz.f213 Nf OV x=aI7 p100004 f100004 x.1 x.2.1:=by kernel_rfl
def zV(x:DenS Nf):Option (DenS OV):=aI7 YD.pre YD.F x.1 x.2.1
def PJ:Sum:=Ai Nf OV zV (DenS.dflt OV)
theorem jV:Sound Tryz.prog G1 213 PJ:=sd ({cf [] []with fns:=[(246,YD)] }) 213 Tryz.f213 trivial trivial Nf OV zV _ (fun _=>aWv ..) (hfs:=⟨aLz,trivial⟩)
abbrev aBM:=Ae Nf
abbrev aDh:=Ad Nf OV
variable (p424:aBM)(f424:aDh)
abbrev NH:Aa:=[(false,.int .i64),(false,.int .i64)]
abbrev Pm:Aa:=[(false,.bool)]
def t61(a0 a1:Ab (.int .i64)):Option (DenS Pm):=some ((decide (a1<a0)),())
theorem r61(x:DenS NH):run (cf [] []) 9 223 Tryz.f223 NH Pm x=t61 x.1 x.2.1:=by kernel_rfl
def T61(x:DenS NH):Option (DenS Pm):=t61 x.1 x.2.1
def Zo:Sum:=Ai NH Pm T61 (DenS.dflt Pm)
theorem aMZ:Sound Tryz.prog G1 223 Zo:=sd (cf [] []) 223 Tryz.f223 trivial trivial NH Pm T61 _ (fun _=>r61 ..)
abbrev Y61:=Ae NH
abbrev Z61:=Ad NH Pm
variable (p61:Y61)(f61:Z61)
abbrev H3:Aa:=[(false,.int .i64),(false,.int .u64),(false,.int .u64)]
abbrev It:Aa:=[(true,.pair (.int .i64) (.pair (.int .i64) (.unit))),(true,.pair (.int .i64) (.pair (.int .i64) (.unit))),(false,.int .i64)]
def t52(p82:Wl)(f82:Wv)(a0:Ab (.int .i64))(a1 a2:Ab (.int .u64)):Option (DenS It):=bif(p82 (a0,a1,()))then(bif((f82 (a0,a1,())).2.1 !=(0:Int))then(some ((f82 (a0,a1,())).1,((0:Int),(0:Int),()),(f82 (a0,a1,())).2))else bif(p82 (a0,a2,()))then(some ((f82 (a0,a1,())).1,(f82 (a0,a2,()))))else none)else none
theorem r52(x:DenS H3):run (cf [(228,⟨H5,Iw,p82,f82⟩)] []) 9 245 Tryz.f245 H3 It x=t52 p82 f82 x.1 x.2.1 x.2.2.1:=by kernel_rfl
def T52(x:DenS H3):Option (DenS It):=t52 IN.pre IN.F x.1 x.2.1 x.2.2.1
def IM:Sum:=Ai H3 It T52 (DenS.dflt It)
theorem j2:Sound Tryz.prog G1 245 IM:=sd (cf [(228,IN)] []) 245 Tryz.f245 ⟨j3,trivial⟩ trivial H3 It T52 _ (fun _=>r52 ..)
abbrev aA:=Ae H3
abbrev aV:=Ad H3 It
variable (p52:aA)(f52:aV)
abbrev Mn:Aa:=[(false,.int .i64),(false,.int .u64),(false,.int .u64)]
abbrev N6:Aa:=[(false,.int .u64),(false,.int .i64),(false,.int .i64)]
def t19(p61:Y61)(f61:Z61)(p52:aA)(f52:aV)(p54:Rj)(f54:Rr)(p70:CZ)(f70:C0)(p53:Ri)(f53:Rq)(a0:Ab (.int .i64))(a1 a2:Ab (.int .u64)):Option (DenS N6):=let e3_:=((f52 (a0,a1,a2,())).1,(f52 (a0,a1,a2,())).2.1,());let e1_:=((f54 e3_).1,(0:Int),());let e2_:=((f52 (a0,a1,a2,())).1.2.1,(f52 (a0,a1,a2,())).2.1.2);bif(p52 (a0,a1,a2,()))then(bif((f52 (a0,a1,a2,())).2.2.1 !=(0:Int))then(some ((0:Int),(0:Int),(f52 (a0,a1,a2,())).2.2))else bif(p54 e3_)then(bif(p53 ((f52 (a0,a1,a2,())).1,()))then(bif((p53 ((f52 (a0,a1,a2,())).2.1,()))||(!(f53 ((f52 (a0,a1,a2,())).1,())).1))then(bif((f53 ((f52 (a0,a1,a2,())).1,())).1&&(f53 ((f52 (a0,a1,a2,())).2.1,())).1)then(bif(p70 (a0,()))then(some ((f70 (a0,())).1,e1_))else none)else bif(p53 ((f52 (a0,a1,a2,())).1,()))then(bif((p53 ((f52 (a0,a1,a2,())).2.1,()))||(!(bif(f53 ((f52 (a0,a1,a2,())).1,())).1 then false else true)))then(bif((p61 e2_)||(!((bif(f53 ((f52 (a0,a1,a2,())).1,())).1 then false else true)&&(bif(f53 ((f52 (a0,a1,a2,())).2.1,())).1 then false else true))))then(bif((f53 ((f52 (a0,a1,a2,())).1,())).1||((!(f53 ((f52 (a0,a1,a2,())).2.1,())).1)&&((f61 e2_).1||(((f52 (a0,a1,a2,())).1.2.1==(0:Int))&&((f52 (a0,a1,a2,())).2.1.1==(5:Int))))))then(some (a2,e1_))else some (a1,e1_))else none)else none)else none)else none)else none)else none)else none
theorem r19(x:DenS Mn):run (cf [(223,⟨NH,Pm,p61,f61⟩),(245,⟨H3,It,p52,f52⟩),(230,⟨FJ,FU,p54,f54⟩),(61,⟨CV,CW,p70,f70⟩),(229,⟨FI,FT,p53,f53⟩)] []) 9 178 Tryz.f178 Mn N6 x=t19 p61 f61 p52 f52 p54 f54 p70 f70 p53 f53 x.1 x.2.1 x.2.2.1:=by kernel_rfl
def x5(x:DenS Mn):Option (DenS N6):=t19 Zo.pre Zo.F IM.pre IM.F D6.pre D6.F AO.pre AO.F D5.pre D5.F x.1 x.2.1 x.2.2.1
def UE:Sum:=Ai Mn N6 x5 (DenS.dflt N6)
theorem v3:Sound Tryz.prog G1 178 UE:=sd (cf [(223,Zo),(245,IM),(230,D6),(61,AO),(229,D5)] []) 178 Tryz.f178 ⟨aMZ,j2,UV,Ft,UU,trivial⟩ trivial Mn N6 x5 _ (fun _=>r19 ..)
abbrev Y19:=Ae Mn
abbrev Z19:=Ad Mn N6
variable (p19:Y19)(f19:Z19)
abbrev NI:Aa:=[(false,.int .i64),(false,.int .i64)]
abbrev Pn:Aa:=[(false,.bool)]
def t63(a0 a1:Ab (.int .i64)):Option (DenS Pn):=some ((decide (a1>a0)),())
theorem r63(x:DenS NI):run (cf [] []) 9 224 Tryz.f224 NI Pn x=t63 x.1 x.2.1:=by kernel_rfl
def T63(x:DenS NI):Option (DenS Pn):=t63 x.1 x.2.1
def Zp:Sum:=Ai NI Pn T63 (DenS.dflt Pn)
theorem aM0:Sound Tryz.prog G1 224 Zp:=sd (cf [] []) 224 Tryz.f224 trivial trivial NI Pn T63 _ (fun _=>r63 ..)
abbrev Y63:=Ae NI
abbrev Z63:=Ad NI Pn
variable (p63:Y63)(f63:Z63)
abbrev Mo:Aa:=[(false,.int .i64),(false,.int .u64),(false,.int .u64)]
abbrev N7:Aa:=[(false,.int .u64),(false,.int .i64),(false,.int .i64)]
def t21(p63:Y63)(f63:Z63)(p52:aA)(f52:aV)(p54:Rj)(f54:Rr)(p70:CZ)(f70:C0)(p53:Ri)(f53:Rq)(a0:Ab (.int .i64))(a1 a2:Ab (.int .u64)):Option (DenS N7):=let e3_:=((f52 (a0,a1,a2,())).1,(f52 (a0,a1,a2,())).2.1,());let e1_:=((f54 e3_).1,(0:Int),());let e2_:=((f52 (a0,a1,a2,())).1.2.1,(f52 (a0,a1,a2,())).2.1.2);bif(p52 (a0,a1,a2,()))then(bif((f52 (a0,a1,a2,())).2.2.1 !=(0:Int))then(some ((0:Int),(0:Int),(f52 (a0,a1,a2,())).2.2))else bif(p54 e3_)then(bif(p53 ((f52 (a0,a1,a2,())).1,()))then(bif((p53 ((f52 (a0,a1,a2,())).2.1,()))||(!(f53 ((f52 (a0,a1,a2,())).1,())).1))then(bif((f53 ((f52 (a0,a1,a2,())).1,())).1&&(f53 ((f52 (a0,a1,a2,())).2.1,())).1)then(bif(p70 (a0,()))then(some ((f70 (a0,())).1,e1_))else none)else bif(p53 ((f52 (a0,a1,a2,())).1,()))then(bif((p53 ((f52 (a0,a1,a2,())).2.1,()))||(!(bif(f53 ((f52 (a0,a1,a2,())).1,())).1 then false else true)))then(bif((p63 e2_)||(!((bif(f53 ((f52 (a0,a1,a2,())).1,())).1 then false else true)&&(bif(f53 ((f52 (a0,a1,a2,())).2.1,())).1 then false else true))))then(bif((f53 ((f52 (a0,a1,a2,())).1,())).1||((!(f53 ((f52 (a0,a1,a2,())).2.1,())).1)&&((f63 e2_).1||(((f52 (a0,a1,a2,())).1.2.1==(0:Int))&&((f52 (a0,a1,a2,())).2.1.1==(6:Int))))))then(some (a2,e1_))else some (a1,e1_))else none)else none)else none)else none)else none)else none)else none
theorem r21(x:DenS Mo):run (cf [(224,⟨NI,Pn,p63,f63⟩),(245,⟨H3,It,p52,f52⟩),(230,⟨FJ,FU,p54,f54⟩),(61,⟨CV,CW,p70,f70⟩),(229,⟨FI,FT,p53,f53⟩)] []) 9 179 Tryz.f179 Mo N7 x=t21 p63 f63 p52 f52 p54 f54 p70 f70 p53 f53 x.1 x.2.1 x.2.2.1:=by kernel_rfl
def x6(x:DenS Mo):Option (DenS N7):=t21 Zp.pre Zp.F IM.pre IM.F D6.pre D6.F AO.pre AO.F D5.pre D5.F x.1 x.2.1 x.2.2.1
def UF:Sum:=Ai Mo N7 x6 (DenS.dflt N7)
theorem v4:Sound Tryz.prog G1 179 UF:=sd (cf [(224,Zp),(245,IM),(230,D6),(61,AO),(229,D5)] []) 179 Tryz.f179 ⟨aM0,j2,UV,Ft,UU,trivial⟩ trivial Mo N7 x6 _ (fun _=>r21 ..)
abbrev Y21:=Ae Mo
abbrev Z21:=Ad Mo N7
variable (p21:Y21)(f21:Z21)
abbrev Yw:Aa:=[(false,.int .i64),(false,.int .u64),(false,.int .u64)]
abbrev jD:Aa:=[(false,.int .u64),(false,.int .i64),(false,.int .i64)]
def YC:SumF:=Jb Yw jD [(178,[],UE),(179,[],UF)]
theorem aLy:Jt Tryz.prog G1 YC:=Te ⟨Db v3,⟨Db v4,trivial⟩⟩
abbrev aAR:=Option (Nat×List Nat)->Ae Yw
abbrev aCm:=Option (Nat×List Nat)->Ad Yw jD
variable (p100003:aAR)(f100003:aCm)
abbrev Ng:Aa:=[(true,.pair (.int .i64) (.pair (.int .i64) (.pair (.int .u64) (.pair (.int .u64) (.pair (.int .u64) .unit))))),(false,.box (.pfn))]
abbrev OW:Aa:=[(false,.int .u64),(false,.int .i64),(false,.int .i64)]
def aI8(p100003:aAR)(f100003:aCm)(a0:Ab (.pair (.int .i64) (.pair (.int .i64) (.pair (.int .u64) (.pair (.int .u64) (.pair (.int .u64) .unit))))))(a1:Ab (.box (.pfn))):Option (DenS OW):=bif(p100003 (some (a1,[])) (a0.2.1,a0.2.2.1,a0.2.2.2.1,()))then(some (f100003 (some (a1,[])) (a0.2.1,a0.2.2.1,a0.2.2.2.1,())))else none
theorem aWw(x:DenS Ng):run ({cf [] []with fns:=[(57,⟨Yw,jD,p100003,f100003⟩)] }) 9 221 Tryz.f221 Ng OW x=aI8 p100003 f100003 x.1 x.2.1:=by kernel_rfl
def zW(x:DenS Ng):Option (DenS OW):=aI8 YC.pre YC.F x.1 x.2.1
def PK:Sum:=Ai Ng OW zW (DenS.dflt OW)
theorem jW:Sound Tryz.prog G1 221 PK:=sd ({cf [] []with fns:=[(57,YC)] }) 221 Tryz.f221 trivial trivial Ng OW zW _ (fun _=>aWw ..) (hfs:=⟨aLy,trivial⟩)
abbrev aBN:=Ae Ng
abbrev aDi:=Ad Ng OW
variable (p425:aBN)(f425:aDi)
abbrev Mb:Aa:=[(false,.int .i64),(false,.int .u64),(false,.int .u64),(false,.bool)]
abbrev NT:Aa:=[(false,.int .i64),(false,.int .i64),(false,.int .i64)]
def t14(p52:aA)(f52:aV)(p53:Ri)(f53:Rq)(p54:Rj)(f54:Rr)(a0:Ab (.int .i64))(a1 a2:Ab (.int .u64))(a3:Ab (.bool)):Option (DenS NT):=let e1_:=((f52 (a0,a1,a2,())).1,(f52 (a0,a1,a2,())).2.1,());bif(p52 (a0,a1,a2,()))then(bif((f52 (a0,a1,a2,())).2.2.1 !=(0:Int))then(some ((0:Int),(0:Int),(f52 (a0,a1,a2,())).2.2))else bif(p53 ((f52 (a0,a1,a2,())).1,()))then(bif((p53 ((f52 (a0,a1,a2,())).2.1,()))||(!(bif(f53 ((f52 (a0,a1,a2,())).1,())).1 then false else true)))then(bif((f53 ((f52 (a0,a1,a2,())).1,())).1||(f53 ((f52 (a0,a1,a2,())).2.1,())).1)then(bif(p54 e1_)then(bif a3 then(some ((3:Int),(1:Int),(0:Int),()))else some ((3:Int),(f54 e1_).1,(0:Int),()))else none)else bif(decide ((f52 (a0,a1,a2,())).1.2.1<(f52 (a0,a1,a2,())).2.1.2.1))then(some ((0:Int),(0:Int),(0:Int),()))else bif(decide ((f52 (a0,a1,a2,())).1.2.1>(f52 (a0,a1,a2,())).2.1.2.1))then(some ((2:Int),(0:Int),(0:Int),()))else some ((1:Int),(0:Int),(0:Int),()))else none)else none)else none
theorem r14(x:DenS Mb):run (cf [(245,⟨H3,It,p52,f52⟩),(229,⟨FI,FT,p53,f53⟩),(230,⟨FJ,FU,p54,f54⟩)] []) 9 226 Tryz.f226 Mb NT x=t14 p52 f52 p53 f53 p54 f54 x.1 x.2.1 x.2.2.1 x.2.2.2.1:=by kernel_rfl
def xN(x:DenS Mb):Option (DenS NT):=t14 IM.pre IM.F D5.pre D5.F D6.pre D6.F x.1 x.2.1 x.2.2.1 x.2.2.2.1
def YJ:Sum:=Ai Mb NT xN (DenS.dflt NT)
theorem aLO:Sound Tryz.prog G1 226 YJ:=sd (cf [(245,IM),(229,D5),(230,D6)] []) 226 Tryz.f226 ⟨j2,UU,UV,trivial⟩ trivial Mb NT xN _ (fun _=>r14 ..)
abbrev Y14:=Ae Mb
abbrev Z14:=Ad Mb NT
variable (p14:Y14)(f14:Z14)
abbrev Nh:Aa:=[(true,.pair (.int .i64) (.pair (.int .i64) (.pair (.int .u64) (.pair (.int .u64) (.pair (.int .u64) .unit))))),(false,.box (.bool))]
abbrev OX:Aa:=[(false,.int .u64),(false,.int .i64),(false,.int .i64)]
def aI9(p14:Y14)(f14:Z14)(a0:Ab (.pair (.int .i64) (.pair (.int .i64) (.pair (.int .u64) (.pair (.int .u64) (.pair (.int .u64) .unit))))))(a1:Ab (.box (.bool))):Option (DenS OX):=let e1_:=(f14 (a0.2.1,a0.2.2.1,a0.2.2.2.1,a1,()));bif(p14 (a0.2.1,a0.2.2.1,a0.2.2.2.1,a1,()))then(some ((aa .u64 e1_.1),e1_.2))else none
theorem aWx(x:DenS Nh):run (cf [(226,⟨Mb,NT,p14,f14⟩)] []) 9 225 Tryz.f225 Nh OX x=aI9 p14 f14 x.1 x.2.1:=by kernel_rfl
def zX(x:DenS Nh):Option (DenS OX):=aI9 YJ.pre YJ.F x.1 x.2.1
def PL:Sum:=Ai Nh OX zX (DenS.dflt OX)
theorem jX:Sound Tryz.prog G1 225 PL:=sd (cf [(226,YJ)] []) 225 Tryz.f225 ⟨aLO,trivial⟩ trivial Nh OX zX _ (fun _=>aWx ..)
abbrev aBO:=Ae Nh
abbrev aDj:=Ad Nh OX
variable (p426:aBO)(f426:aDj)
abbrev Yy:Aa:=[(false,.int .i64),(false,.int .u64)]
abbrev jF:Aa:=[(false,.int .u64),(false,.int .i64)]
def YE:SumF:=Jb Yy jF [(187,[],En),(188,[],IH)]
theorem aLA:Jt Tryz.prog G1 YE:=Te ⟨Db Zq,⟨Db jM,trivial⟩⟩
abbrev aAT:=Option (Nat×List Nat)->Ae Yy
abbrev aCo:=Option (Nat×List Nat)->Ad Yy jF
variable (p100005:aAT)(f100005:aCo)
abbrev Ni:Aa:=[(true,.pair (.int .i64) (.pair (.int .i64) (.pair (.int .u64) (.pair (.int .u64) (.pair (.int .u64) .unit))))),(false,.box (.pfn))]
abbrev OY:Aa:=[(false,.int .u64),(false,.int .i64),(false,.int .i64)]
def aJa(p100005:aAT)(f100005:aCo)(a0:Ab (.pair (.int .i64) (.pair (.int .i64) (.pair (.int .u64) (.pair (.int .u64) (.pair (.int .u64) .unit))))))(a1:Ab (.box (.pfn))):Option (DenS OY):=let e1_:=(f100005 (some (a1,[])) (a0.2.1,a0.2.2.1,()));bif(p100005 (some (a1,[])) (a0.2.1,a0.2.2.1,()))then(some (e1_.1,(0:Int),e1_.2))else none
theorem aWy(x:DenS Ni):run ({cf [] []with fns:=[(64,⟨Yy,jF,p100005,f100005⟩)] }) 9 232 Tryz.f232 Ni OY x=aJa p100005 f100005 x.1 x.2.1:=by kernel_rfl
def zY(x:DenS Ni):Option (DenS OY):=aJa YE.pre YE.F x.1 x.2.1
def PM:Sum:=Ai Ni OY zY (DenS.dflt OY)
theorem jY:Sound Tryz.prog G1 232 PM:=sd ({cf [] []with fns:=[(64,YE)] }) 232 Tryz.f232 trivial trivial Ni OY zY _ (fun _=>aWy ..) (hfs:=⟨aLA,trivial⟩)
abbrev aBP:=Ae Ni
abbrev aDk:=Ad Ni OY
variable (p427:aBP)(f427:aDk)
abbrev DT:Aa:=[(true,.pair (.int .i64) (.pair (.int .i64) (.pair (.int .u64) (.pair (.int .u64) (.pair (.int .u64) .unit)))))]
abbrev Dv:Aa:=[(false,.int .u64),(false,.int .i64),(false,.int .i64)]
def IF:SumF:=Jb DT Dv [(192,[160],HI DT Dv CR.pre CR.F 158),(192,[161],HI DT Dv CR.pre CR.F 159),(192,[162],HI DT Dv CR.pre CR.F 160),(192,[163],HI DT Dv CR.pre CR.F 161),(162,[],UH),(164,[],UI),(169,[],UJ),(171,[],UK),(173,[],UM),(175,[],UN),(181,[],UO),(183,[],UP),(185,[],UQ),(189,[],UR),(213,[169],HI DT Dv PJ.pre PJ.F 167),(213,[170],HI DT Dv PJ.pre PJ.F 168),(221,[180],HI DT Dv PK.pre PK.F 178),(221,[181],HI DT Dv PK.pre PK.F 179),(225,[0],tD DT Dv PL.pre PL.F false),(225,[1],tD DT Dv PL.pre PL.F true),(232,[189],HI DT Dv PM.pre PM.F 187),(232,[190],HI DT Dv PM.pre PM.F 188)]
theorem aLw:Jt Tryz.prog G1 IF:=Te ⟨Jf UG 158,⟨Jf UG 159,⟨Jf UG 160,⟨Jf UG 161,⟨Db wE,⟨Db wG,⟨Db wJ,⟨Db wK,⟨Db wL,⟨Db wM,⟨Db wN,⟨Db wO,⟨Db wP,⟨Db wQ,⟨Jf jV 167,⟨Jf jV 168,⟨Jf jW 178,⟨Jf jW 179,⟨aFd jX false,⟨aFd jX true,⟨Jf jY 187,⟨Jf jY 188,trivial⟩⟩⟩⟩⟩⟩⟩⟩⟩⟩⟩⟩⟩⟩⟩⟩⟩⟩⟩⟩⟩⟩
abbrev aAP:=Option (Nat×List Nat)->Ae DT
abbrev aCk:=Option (Nat×List Nat)->Ad DT Dv
variable (p100001:aAP)(f100001:aCk)
abbrev Nj:Aa:=[(false,.int .i64)]
abbrev OZ:Aa:=[(false,.bool)]
def aJb(a0:Ab (.int .i64)):Option (DenS OZ):=some (((WE .i64 a0 (31:Int))==(0:Int)),())
theorem aWz(x:DenS Nj):run (cf [] []) 9 152 Tryz.f152 Nj OZ x=aJb x.1:=by kernel_rfl
def Sy(x:DenS Nj):Option (DenS OZ):=aJb x.1
def PN:Sum:=Ai Nj OZ Sy (DenS.dflt OZ)
theorem aMA:Sound Tryz.prog G1 152 PN:=sd (cf [] []) 152 Tryz.f152 trivial trivial Nj OZ Sy _ (fun _=>aWz ..)
abbrev aBQ:=Ae Nj
abbrev aDl:=Ad Nj OZ
variable (p428:aBQ)(f428:aDl)
abbrev Nk:Aa:=[(true,.pair (.int .i64) (.pair (.int .i64) (.pair (.int .i64) (.unit))))]
abbrev O0:Aa:=[(false,.int .i64)]
def gM(p428:aBQ)(f428:aDl)(a0:Ab (.pair (.int .i64) (.pair (.int .i64) (.pair (.int .i64) (.unit))))):Option (DenS O0):=bif((decide (a0.1<(0:Int)))||(decide (a0.1>(5:Int))))then(some ((3:Int),()))else bif(p428 (a0.2.1,()))then(bif((p428 a0.2.2)||(!(bif(!(f428 (a0.2.1,())).1)then false else true)))then(bif((!(f428 (a0.2.1,())).1)||(!(f428 a0.2.2).1))then(some ((7:Int),()))else some ((0:Int),()))else none)else none
theorem aWA(x:DenS Nk):run (cf [(152,⟨Nj,OZ,p428,f428⟩)] []) 9 144 Tryz.f144 Nk O0 x=gM p428 f428 x.1:=by kernel_rfl
def Sz(x:DenS Nk):Option (DenS O0):=gM PN.pre PN.F x.1
def PO:Sum:=Ai Nk O0 Sz (DenS.dflt O0)
theorem aMB:Sound Tryz.prog G1 144 PO:=sd (cf [(152,PN)] []) 144 Tryz.f144 ⟨aMA,trivial⟩ trivial Nk O0 Sz _ (fun _=>aWA ..)
abbrev aBR:=Ae Nk
abbrev aDm:=Ad Nk O0
variable (p429:aBR)(f429:aDm)
abbrev Nm:Aa:=[(false,.pfn)]
abbrev O2:Aa:=[(true,.pair (.int .i64) (.pair .fn .unit))]
def aJd(p395:kW)(f395:mO)(a0:Ab (.pfn)):Option (DenS O2):=some (((2:Int),(some ((192:Nat),((a0+(2:Nat))::[]))),()),())
theorem aWC(x:DenS Nm):run (cf [(192,⟨MP,J4,p395,f395⟩)] []) 9 157 Tryz.f157 Nm O2 x=aJd p395 f395 x.1:=by kernel_rfl
def aAa(x:DenS Nm):Option (DenS O2):=aJd CR.pre CR.F x.1
def Zh:Sum:=Ai Nm O2 aAa (DenS.dflt O2)
theorem aMC:Sound Tryz.prog G1 157 Zh:=sd (cf [(192,CR)] []) 157 Tryz.f157 ⟨UG,trivial⟩ trivial Nm O2 aAa _ (fun _=>aWC ..)
abbrev aBT:=Ae Nm
abbrev aDo:=Ad Nm O2
variable (p430:aBT)(f430:aDo)
abbrev Nn:Aa:=[(false,.pfn)]
abbrev O3:Aa:=[(true,.pair (.int .i64) (.pair .fn .unit))]
def aJe(p424:aBM)(f424:aDh)(a0:Ab (.pfn)):Option (DenS O3):=some (((2:Int),(some ((213:Nat),((a0+(2:Nat))::[]))),()),())
theorem aWD(x:DenS Nn):run (cf [(213,⟨Nf,OV,p424,f424⟩)] []) 9 166 Tryz.f166 Nn O3 x=aJe p424 f424 x.1:=by kernel_rfl
def aAb(x:DenS Nn):Option (DenS O3):=aJe PJ.pre PJ.F x.1
def Zi:Sum:=Ai Nn O3 aAb (DenS.dflt O3)
theorem aMD:Sound Tryz.prog G1 166 Zi:=sd (cf [(213,PJ)] []) 166 Tryz.f166 ⟨jV,trivial⟩ trivial Nn O3 aAb _ (fun _=>aWD ..)
abbrev aBU:=Ae Nn
abbrev aDp:=Ad Nn O3
variable (p431:aBU)(f431:aDp)
abbrev No:Aa:=[(false,.pfn)]
abbrev O4:Aa:=[(true,.pair (.int .i64) (.pair .fn .unit))]
def aJf(p425:aBN)(f425:aDi)(a0:Ab (.pfn)):Option (DenS O4):=some (((2:Int),(some ((221:Nat),((a0+(2:Nat))::[]))),()),())
theorem aWE(x:DenS No):run (cf [(221,⟨Ng,OW,p425,f425⟩)] []) 9 177 Tryz.f177 No O4 x=aJf p425 f425 x.1:=by kernel_rfl
def aAc(x:DenS No):Option (DenS O4):=aJf PK.pre PK.F x.1
def Zj:Sum:=Ai No O4 aAc (DenS.dflt O4)
theorem aME:Sound Tryz.prog G1 177 Zj:=sd (cf [(221,PK)] []) 177 Tryz.f177 ⟨jW,trivial⟩ trivial No O4 aAc _ (fun _=>aWE ..)
abbrev aBV:=Ae No
abbrev aDq:=Ad No O4
variable (p432:aBV)(f432:aDq)
abbrev Np:Aa:=[(false,.bool)]
abbrev O5:Aa:=[(true,.pair (.int .i64) (.pair .fn .unit))]
def aJg(p426:aBO)(f426:aDj)(a0:Ab (.bool)):Option (DenS O5):=some (((2:Int),(some ((225:Nat),((bif a0 then(1:Nat)else(0:Nat))::[]))),()),())
theorem aWF(x:DenS Np):run (cf [(225,⟨Nh,OX,p426,f426⟩)] []) 9 180 Tryz.f180 Np O5 x=aJg p426 f426 x.1:=by kernel_rfl
def aAd(x:DenS Np):Option (DenS O5):=aJg PL.pre PL.F x.1
def Zk:Sum:=Ai Np O5 aAd (DenS.dflt O5)
theorem aMF:Sound Tryz.prog G1 180 Zk:=sd (cf [(225,PL)] []) 180 Tryz.f180 ⟨jX,trivial⟩ trivial Np O5 aAd _ (fun _=>aWF ..)
abbrev aBW:=Ae Np
abbrev aDr:=Ad Np O5
variable (p433:aBW)(f433:aDr)
abbrev Nq:Aa:=[(false,.pfn)]
abbrev O6:Aa:=[(true,.pair (.int .i64) (.pair .fn .unit))]
def aJh(p427:aBP)(f427:aDk)(a0:Ab (.pfn)):Option (DenS O6):=some (((1:Int),(some ((232:Nat),((a0+(2:Nat))::[]))),()),())
theorem aWG(x:DenS Nq):run (cf [(232,⟨Ni,OY,p427,f427⟩)] []) 9 186 Tryz.f186 Nq O6 x=aJh p427 f427 x.1:=by kernel_rfl
def aAe(x:DenS Nq):Option (DenS O6):=aJh PM.pre PM.F x.1
def Zl:Sum:=Ai Nq O6 aAe (DenS.dflt O6)
theorem aMG:Sound Tryz.prog G1 186 Zl:=sd (cf [(232,PM)] []) 186 Tryz.f186 ⟨jY,trivial⟩ trivial Nq O6 aAe _ (fun _=>aWG ..)
abbrev aBX:=Ae Nq
abbrev aDs:=Ad Nq O6
variable (p434:aBX)(f434:aDs)
abbrev Nr:Aa:=[]
abbrev O7:Aa:=[(false,.slice (.pair (.int .i64) (.pair .fn .unit)))]
def aJi(p27:ZV)(f27:aG)(p25:kO)(f25:mG)(p354:kU)(f354:mM)(p381:kV)(f381:mN)(p430:aBT)(f430:aDo)(p396:kX)(f396:mP)(p402:kZ)(f402:mR)(p422:aBK)(f422:aDf)(p423:aBL)(f423:aDg)(p431:aBU)(f431:aDp)(p407:lA)(f407:mU)(p408:lB)(f408:mV)(p411:lC)(f411:mW)(p413:lD)(f413:mX)(p19:Y19)(f19:Z19)(p21:Y21)(f21:Z21)(p432:aBV)(f432:aDq)(p433:aBW)(f433:aDr)(p414:lE)(f414:mY)(p415:lF)(f415:mZ)(p416:lG)(f416:m8)(p64:SS)(f64:S4)(p112:ZR)(f112:aC)(p434:aBX)(f434:aDs)(p418:lH)(f418:m9):Option (DenS O7):=bif(p430 ((158:Nat),()))then(bif(p430 ((159:Nat),()))then(bif(p430 ((160:Nat),()))then(bif(p430 ((161:Nat),()))then(bif(p431 ((167:Nat),()))then(bif(p431 ((168:Nat),()))then(bif(p432 ((178:Nat),()))then(bif(p432 ((179:Nat),()))then(bif(p433 (false,()))then(bif(p433 (true,()))then(bif(p434 ((187:Nat),()))then(bif(p434 ((188:Nat),()))then(some ((((0:Int),none,())::((f430 ((158:Nat),())).1::((f430 ((159:Nat),())).1::((f430 ((160:Nat),())).1::((f430 ((161:Nat),())).1::(((1:Int),(some ((162:Nat),[])),())::(((3:Int),(some ((164:Nat),[])),())::((f431 ((167:Nat),())).1::((f431 ((168:Nat),())).1::(((1:Int),(some ((169:Nat),[])),())::(((1:Int),(some ((171:Nat),[])),())::(((1:Int),(some ((173:Nat),[])),())::(((0:Int),(some ((175:Nat),[])),())::((f432 ((178:Nat),())).1::((f432 ((179:Nat),())).1::((f433 (false,())).1::((f433 (true,())).1::(((1:Int),(some ((181:Nat),[])),())::(((1:Int),(some ((183:Nat),[])),())::(((1:Int),(some ((185:Nat),[])),())::((f434 ((187:Nat),())).1::((f434 ((188:Nat),())).1::(((2:Int),(some ((189:Nat),[])),())::[]))))))))))))))))))))))),()))else none)else none)else none)else none)else none)else none)else none)else none)else none)else none)else none)else none
theorem aWH(x:DenS Nr):run (cf [(158,⟨JA,JZ,p27,f27⟩),(159,⟨Mp,N8,p25,f25⟩),(160,⟨MD,On,p354,f354⟩),(161,⟨ML,J3,p381,f381⟩),(157,⟨Nm,O2,p430,f430⟩),(162,⟨MQ,Oz,p396,f396⟩),(164,⟨MV,OE,p402,f402⟩),(167,⟨Nc,OT,p422,f422⟩),(168,⟨Nd,OU,p423,f423⟩),(166,⟨Nn,O3,p431,f431⟩),(169,⟨MX,OF,p407,f407⟩),(171,⟨MY,OG,p408,f408⟩),(173,⟨M2,OJ,p411,f411⟩),(175,⟨M4,OL,p413,f413⟩),(178,⟨Mn,N6,p19,f19⟩),(179,⟨Mo,N7,p21,f21⟩),(177,⟨No,O4,p432,f432⟩),(180,⟨Np,O5,p433,f433⟩),(181,⟨M5,OM,p414,f414⟩),(183,⟨M6,ON,p415,f415⟩),(185,⟨M7,OO,p416,f416⟩),(187,⟨H4,Iu,p64,f64⟩),(188,⟨Jv,JS,p112,f112⟩),(186,⟨Nq,O6,p434,f434⟩),(189,⟨M9,OQ,p418,f418⟩)] []) 9 153 Tryz.f153 Nr O7 x=aJi p27 f27 p25 f25 p354 f354 p381 f381 p430 f430 p396 f396 p402 f402 p422 f422 p423 f423 p431 f431 p407 f407 p408 f408 p411 f411 p413 f413 p19 f19 p21 f21 p432 f432 p433 f433 p414 f414 p415 f415 p416 f416 p64 f64 p112 f112 p434 f434 p418 f418:=by kernel_rfl
def aAf(x:DenS Nr):Option (DenS O7):=aJi EN.pre EN.F KN.pre KN.F KO.pre KO.F KP.pre KP.F Zh.pre Zh.F UH.pre UH.F UI.pre UI.F US.pre US.F UT.pre UT.F Zi.pre Zi.F UJ.pre UJ.F UK.pre UK.F UM.pre UM.F UN.pre UN.F UE.pre UE.F UF.pre UF.F Zj.pre Zj.F Zk.pre Zk.F UO.pre UO.F UP.pre UP.F UQ.pre UQ.F En.pre En.F IH.pre IH.F Zl.pre Zl.F UR.pre UR.F
def Fk:Sum:=Ai Nr O7 aAf (DenS.dflt O7)
theorem aMH:Sound Tryz.prog G1 153 Fk:=sd (cf [(158,EN),(159,KN),(160,KO),(161,KP),(157,Zh),(162,UH),(164,UI),(167,US),(168,UT),(166,Zi),(169,UJ),(171,UK),(173,UM),(175,UN),(178,UE),(179,UF),(177,Zj),(180,Zk),(181,UO),(183,UP),(185,UQ),(187,En),(188,IH),(186,Zl),(189,UR)] []) 153 Tryz.f153 ⟨jT,v5,wC,wD,aMC,wE,wG,wS,wT,aMD,wJ,wK,wL,wM,v3,v4,aME,aMF,wN,wO,wP,Zq,jM,aMG,wQ,trivial⟩ trivial Nr O7 aAf _ (fun _=>aWH ..)
abbrev aBY:=Ae Nr
abbrev aDt:=Ad Nr O7
variable (p435:aBY)(f435:aDt)
abbrev Ns:Aa:=[(false,.int .i64)]
abbrev O8:Aa:=[(true,.pair (.int .i64) (.pair .fn .unit)),(false,.int .i64)]
def Uj(p435:aBY)(f435:aDt)(a0:Ab (.int .i64)):Option (DenS O8):=bif(p435 ())then(bif((decide (a0<(1:Int)))||(decide (a0>=((f435 ()).1.length:Int))))then(some (((0:Int),none,()),(190:Int),()))else bif((decide ((0:Int)<=a0))&&(decide (a0<((f435 ()).1.length:Int))))then(some (((f435 ()).1.getD (ah a0) ((0:Int),none,())),(0:Int),()))else none)else none
theorem aWI(x:DenS Ns):run (cf [(153,⟨Nr,O7,p435,f435⟩)] []) 9 145 Tryz.f145 Ns O8 x=Uj p435 f435 x.1:=by kernel_rfl
def KS(x:DenS Ns):Option (DenS O8):=Uj Fk.pre Fk.F x.1
def KQ:Sum:=Ai Ns O8 KS (DenS.dflt O8)
theorem aMI:Sound Tryz.prog G1 145 KQ:=sd (cf [(153,Fk)] []) 145 Tryz.f145 ⟨aMH,trivial⟩ trivial Ns O8 KS _ (fun _=>aWI ..)
abbrev aBZ:=Ae Ns
abbrev aDu:=Ad Ns O8
variable (p436:aBZ)(f436:aDu)
abbrev Nt:Aa:=[(false,.int .i64),(true,.pair (.int .i64) (.pair .fn .unit)),(true,.pair (.int .i64) (.pair (.int .i64) (.pair (.int .u64) (.pair (.int .u64) (.pair (.int .u64) .unit)))))]
abbrev Iq:Aa:=[(false,.int .i64)]
abbrev G4:Pat:=⟨84,[(43,.one (.v .i64)),(42,.one (.sl (.int .u64))),(44,.one (.v .i64)),(0,.one (.v .i64)),(5,.one (.ptr 1 0))],[.gone,.raw [.v .i64,.v .i64,.v .u64,.v .u64,.v .u64]]⟩
abbrev Yq:List (Nat×Shape):=[]
abbrev Lj:List (Nat×Pat):=[(1,⟨84,[(0,.one (.v .i64)),(5,.one (.ptr 1 0))],[.gone,.raw [.v .i64,.v .i64,.v .u64,.v .u64,.v .u64]]⟩)]
abbrev KK:Option Pat:=(some ⟨84,[(6,.one (.v .i64))],[]⟩)
variable (w437_13:Pat.D G4->Option (Ag Lj KK))
def TL(p69:Bl)(f69:Bm)(p66:BB)(f66:BC){R:Type}(L:Pat.D G4->Option R)(e:Ag Lj KK->Option R)(x:Pat.D G4):Option R:=let e2_:=(x.2.2.1.2.1,(x.1.2.1.getD (ah x.1.2.2.1) (0:Int)),());let e1_:=(f66 e2_);bif(decide (x.1.2.2.1<x.1.1))then(bif((decide ((0:Int)<=x.1.2.2.1))&&(decide (x.1.2.2.1<(x.1.2.1.length:Int))))then(bif(p66 e2_)then(bif(e1_.1 !=(0:Int))then(((e (.inr (e1_,())))))else(L ((x.1.1,x.1.2.1,(aa .i64 (x.1.2.2.1+(1:Int))),x.1.2.2.2.1,(),()),(),x.2.2)))else none)else none)else(e (.inl ((x.1.2.2.2.1,(),()),(),x.2.2)))
theorem aYn(d:Nat)(R:Type)(L:Pat.D G4->Option R)(e:Ag Lj KK->Option R)(x:Pat.D G4):
  Bn (cf [(71,⟨BE,BF,p69,f69⟩),(85,⟨BY,BZ,p66,f66⟩)] [(146,13,LoopSpec.of G4 Yq Lj KK w437_13)]) (d+2) 146 (Bj Tryz.f146 13) G4 Yq Lj KK (R:=R) L e x=TL p69 f69 p66 f66 L e x:=by kernel_rfl
theorem aGv(p69:Bl)(f69:Bm)(p66:BB)(f66:BC):Bf fun L e x=>TL p69 f69 p66 f66 L e x:=by intro _ _ _ _ _ _ _ h0 hL he _;unfold TL;repeat' (first|exact h0|exact hL _|exact he _|apply By|(apply Bz h0;intro _)|(apply BA<;>intro _))
def gN(p69:Bl)(f69:Bm)(p66:BB)(f66:BC)(w437_13:Pat.D G4->Option (Ag Lj KK))(a0:Ab (.int .i64))(a1:Ab (.pair (.int .i64) (.pair .fn .unit)))(a2:Ab (.pair (.int .i64) (.pair (.int .i64) (.pair (.int .u64) (.pair (.int .u64) (.pair (.int .u64) .unit)))))):Option (DenS Iq):=
 let e4_:=(a2.2.2.1::(a2.2.2.2.1::(a2.2.2.2.2.1::[])))
 let e3_:=((e4_.take (ah a1.1)).drop (ah (0:Int)))
 let e1_:=(w437_13 (((e3_.length:Int),e3_,(0:Int),a0,(),()),(),(a2.1,a2.2),()))
 let e2_:=((decide ((0:Int)<=a1.1))&&(decide (a1.1<=(e4_.length:Int))))
 let g1_:Option (DenS Iq):=bif(decide (a2.2.2.2.2.1>(3:Int)))then(some ((9:Int),()))
 else bif e2_ then(Vx.A3 e1_ fun y7=>
 Vx.A1 y7 (fun y8=>
 bif(y8.1.1==(12:Int))then(bif((((aa .i64 y8.2.2.1.2.2.2.2.1)==(0:Int))&&((aa .u64 (aa .i64 (aa .i32 y8.2.2.1.2.2.1)))!=y8.2.2.1.2.2.1))||(((aa .i64 y8.2.2.1.2.2.2.2.1)==(2:Int))&&((AJ .u64 y8.2.2.1.2.2.1 (32:Int))!=(0:Int))))then(some ((4:Int),()))
 else some ((0:Int),()))
 else some ((0:Int),())) (fun z8=>
 some z8.1))
 else none
 let g2_:Option (DenS Iq):=bif e2_ then(Vx.A3 e1_ fun y6=>
 Vx.A1 y6 (fun y7=>
 bif(y7.1.1==(12:Int))then(bif((((aa .i64 y7.2.2.1.2.2.2.2.1)==(0:Int))&&((aa .u64 (aa .i64 (aa .i32 y7.2.2.1.2.2.1)))!=y7.2.2.1.2.2.1))||(((aa .i64 y7.2.2.1.2.2.2.2.1)==(2:Int))&&((AJ .u64 y7.2.2.1.2.2.1 (32:Int))!=(0:Int))))then(some ((4:Int),()))
 else some ((0:Int),()))
 else some ((0:Int),())) (fun z7=>
 some z7.1))
 else none
 bif(p69 (a2.2.1,()))then(bif((f69 (a2.2.1,())).2.1 !=(0:Int))then(some (f69 (a2.2.1,())).2)
 else bif(a0==(10:Int))then(bif(decide (a2.2.2.2.2.1>(3:Int)))then(some ((2:Int),()))
 else bif e2_ then(Vx.A3 e1_ fun y5=>
 Vx.A1 y5 (fun y6=>
 bif(y6.1.1==(12:Int))then(bif((((aa .i64 y6.2.2.1.2.2.2.2.1)==(0:Int))&&((aa .u64 (aa .i64 (aa .i32 y6.2.2.1.2.2.1)))!=y6.2.2.1.2.2.1))||(((aa .i64 y6.2.2.1.2.2.2.2.1)==(2:Int))&&((AJ .u64 y6.2.2.1.2.2.1 (32:Int))!=(0:Int))))then(some ((4:Int),()))
 else some ((0:Int),()))
 else some ((0:Int),())) (fun z6=>
 some z6.1))
 else none)
 else bif(a0==(11:Int))then(bif(a0==(11:Int))then(g1_)
 else g2_)
 else bif(a0==(12:Int))then(g1_)
 else g2_)
 else none
theorem aWJ(x:DenS Nt):run (cf [(71,⟨BE,BF,p69,f69⟩),(85,⟨BY,BZ,p66,f66⟩)] [(146,13,LoopSpec.of G4 Yq Lj KK w437_13)]) 9 146 Tryz.f146 Nt Iq x=gN p69 f69 p66 f66 w437_13 x.1 x.2.1 x.2.2.1:=by kernel_rfl
def ZO:G4.D->Option (Ag Lj KK):=A6 fun L=>TL Al.pre Al.F Ao.pre Ao.F L some
def VJ(x:DenS Nt):Option (DenS Iq):=gN Al.pre Al.F Ao.pre Ao.F ZO x.1 x.2.1 x.2.2.1
def PP:Sum:=Ai Nt Iq VJ (DenS.dflt Iq)
theorem aMJ:Sound Tryz.prog G1 146 PP:=sd (cf [(71,Al),(85,Ao)] [(146,13,LoopSpec.of G4 Yq Lj KK ZO)]) 146 Tryz.f146 ⟨Dj,EP,trivial⟩ ⟨rfl,fun d=>Bw (fun L e x=>TL Al.pre Al.F Ao.pre Ao.F L e x) (aGv Al.pre Al.F Ao.pre Ao.F) (fun _ _ _ _=>aYn ..),trivial⟩ Nt Iq VJ _ (fun _=>aWJ ..)
abbrev aB0:=Ae Nt
abbrev aDv:=Ad Nt Iq
variable (p437:aB0)(f437:aDv)
abbrev Nu:Aa:=[(true,.pair (.int .i64) (.pair (.int .i64) (.pair (.int .i64) (.unit)))),(false,.int .i64),(false,.int .i64),(false,.int .u64),(false,.int .u64),(false,.int .u64)]
abbrev O9:Aa:=[(true,.pair (.int .u64) (.pair (.int .i64) (.pair (.int .i64) (.pair (.pair (.int .i64) (.pair (.int .i64) (.pair (.int .i64) (.unit)))) (.unit))))),(false,.int .i64)]
def gO(p429:aBR)(f429:aDm)(p436:aBZ)(f436:aDu)(p437:aB0)(f437:aDv)(p100001:aAP)(f100001:aCk)(a0:Ab (.pair (.int .i64) (.pair (.int .i64) (.pair (.int .i64) (.unit)))))(a1 a2:Ab (.int .i64))(a3 a4 a5:Ab (.int .u64)):Option (DenS O9):=let e5_:=(f100001 (f436 (a1,())).1.2.1 ((a0.1,a2,a3,a4,a5,()),()));let e1_:=(Bs .i64 e5_.2.1 a0.2.2.1);let e2_:=((0:Int),(0:Int),(0:Int),((0:Int),(0:Int),(0:Int),()),());let e6_:=(a1,(f436 (a1,())).1,(a0.1,a2,a3,a4,a5,()),());let e3_:=(f437 e6_);let e4_:=e5_;bif(p429 ((a0.1,a0.2),()))then(bif((f429 ((a0.1,a0.2),())).1 !=(0:Int))then(some (e2_,(f429 ((a0.1,a0.2),()))))else bif(p436 (a1,()))then(bif((f436 (a1,())).2.1 !=(0:Int))then(some (e2_,(f436 (a1,())).2))else bif(p437 e6_)then(bif(e3_.1 !=(0:Int))then(some (e2_,e3_))else bif(p100001 (f436 (a1,())).1.2.1 ((a0.1,a2,a3,a4,a5,()),()))then(bif(e4_.2.2.1 !=(0:Int))then(some (e2_,e4_.2.2))else bif(e1_ !=(0:Int))then(some (((0:Int),e4_.2.1,(Bs .i64 e1_ (aa .i64 ((0:Int)-e1_))),(a0.1,a0.2),()),(0:Int),()))else some ((e4_.1,e4_.2.1,(0:Int),(a0.1,(An .i64 a0.2.1 e4_.2.1),a0.2.2),()),(0:Int),()))else none)else none)else none)else none
theorem aWK(x:DenS Nu):run ({cf [(144,⟨Nk,O0,p429,f429⟩),(145,⟨Ns,O8,p436,f436⟩),(146,⟨Nt,Iq,p437,f437⟩)] []with fns:=[(57,⟨DT,Dv,p100001,f100001⟩)] }) 9 125 Tryz.f125 Nu O9 x=gO p429 f429 p436 f436 p437 f437 p100001 f100001 x.1 x.2.1 x.2.2.1 x.2.2.2.1 x.2.2.2.2.1 x.2.2.2.2.2.1:=by kernel_rfl
def P7(x:DenS Nu):Option (DenS O9):=gO PO.pre PO.F KQ.pre KQ.F PP.pre PP.F IF.pre IF.F x.1 x.2.1 x.2.2.1 x.2.2.2.1 x.2.2.2.2.1 x.2.2.2.2.2.1
def PQ:Sum:=Ai Nu O9 P7 (DenS.dflt O9)
theorem aMK:Sound Tryz.prog G1 125 PQ:=sd ({cf [(144,PO),(145,KQ),(146,PP)] []with fns:=[(57,IF)] }) 125 Tryz.f125 ⟨aMB,aMI,aMJ,trivial⟩ trivial Nu O9 P7 _ (fun _=>aWK ..) (hfs:=⟨aLw,trivial⟩)
abbrev aB1:=Ae Nu
abbrev aDw:=Ad Nu O9
variable (p438:aB1)(f438:aDw)
abbrev Gy:Aa:=[(false,.int .i64),(false,.int .u64),(false,.int .u64)]
abbrev GF:Aa:=[(false,.int .u64)]
abbrev El:LK:=.ref (.pair (.int .i64) (.pair (.int .i64) (.pair (.int .i64) .unit)))
def gP(p438:aB1)(f438:aDw)(l0:LK.D (.ref (.pair (.int .i64) (.pair (.int .i64) (.pair (.int .i64) .unit)))))(a0:Ab (.int .i64))(a1 a2:Ab (.int .u64)):Option (LK.B El×DenS GF):=let e2_:=((l0.2.1,(0:Int),(0:Int),()),a0,l0.1,a1,a2,(0:Int),());let e1_:=(f438 e2_);bif(p438 e2_)then(some ((l0.1,l0.2.1,(An .i64 l0.2.2.1 e1_.1.2.1),()),e1_.1.1,()))else none
theorem aWL(x:LK.D El×DenS Gy):Eg (cf [(125,⟨Nu,O9,p438,f438⟩)] []) 9 106 Tryz.f106 El Gy GF x=gP p438 f438 x.1 x.2.1 x.2.2.1 x.2.2.2.1:=by kernel_rfl
def VK(x:LK.D El×DenS Gy):Option (LK.B El×DenS GF):=gP PQ.pre PQ.F x.1 x.2.1 x.2.2.1 x.2.2.2.1
def CJ:SumL:=Eh El Gy GF VK (LK.dflt El,DenS.dflt GF)
theorem Zm:SoundL Tryz.prog G1 106 CJ:=HB (cf [(125,PQ)] []) 106 Tryz.f106 ⟨aMK,trivial⟩ trivial El Gy GF VK _ (fun _=>aWL ..)
abbrev Wj:=LK.D El×DenS Gy->Bool
abbrev Wt:=LK.D El×DenS Gy->LK.B El×DenS GF
variable (p464:Wj)(f464:Wt)
abbrev JI:Aa:=[(false,.int .u64),(false,.int .u64)]
abbrev Ka:Aa:=[(false,.int .u64)]
abbrev E4:LK:=.ref (.pair (.int .i64) (.pair (.int .i64) (.pair (.int .i64) .unit)))
def gQ(p464:Wj)(f464:Wt)(l0:LK.D (.ref (.pair (.int .i64) (.pair (.int .i64) (.pair (.int .i64) .unit)))))(a0 a1:Ab (.int .u64)):Option (LK.B E4×DenS Ka):=bif(p464 ((l0.1,l0.2),(3:Int),a0,a1,()))then(some (f464 ((l0.1,l0.2),(3:Int),a0,a1,())))else none
theorem aWM(x:LK.D E4×DenS JI):Eg ({cf [] []with lsums:=[(106,⟨El,Gy,GF,p464,f464⟩)] }) 9 79 Tryz.f79 E4 JI Ka x=gQ p464 f464 x.1 x.2.1 x.2.2.1:=by kernel_rfl
def VM(x:LK.D E4×DenS JI):Option (LK.B E4×DenS Ka):=gQ CJ.pre CJ.F x.1 x.2.1 x.2.2.1
def Fl:SumL:=Eh E4 JI Ka VM (LK.dflt E4,DenS.dflt Ka)
theorem wU:SoundL Tryz.prog G1 79 Fl:=HB ({cf [] []with lsums:=[(106,CJ)] }) 79 Tryz.f79 trivial trivial E4 JI Ka VM _ (fun _=>aWM ..) (hls:=⟨Zm,trivial⟩)
abbrev lJ:=LK.D E4×DenS JI->Bool
abbrev nB:=LK.D E4×DenS JI->LK.B E4×DenS Ka
variable (p465:lJ)(f465:nB)
abbrev JJ:Aa:=[(false,.int .u64),(false,.int .u64)]
abbrev Kb:Aa:=[(false,.int .u64)]
abbrev E5:LK:=.ref (.pair (.int .i64) (.pair (.int .i64) (.pair (.int .i64) .unit)))
def gR(p464:Wj)(f464:Wt)(l0:LK.D (.ref (.pair (.int .i64) (.pair (.int .i64) (.pair (.int .i64) .unit)))))(a0 a1:Ab (.int .u64)):Option (LK.B E5×DenS Kb):=bif(p464 ((l0.1,l0.2),(2:Int),a0,a1,()))then(some (f464 ((l0.1,l0.2),(2:Int),a0,a1,())))else none
theorem aWN(x:LK.D E5×DenS JJ):Eg ({cf [] []with lsums:=[(106,⟨El,Gy,GF,p464,f464⟩)] }) 9 80 Tryz.f80 E5 JJ Kb x=gR p464 f464 x.1 x.2.1 x.2.2.1:=by kernel_rfl
def VN(x:LK.D E5×DenS JJ):Option (LK.B E5×DenS Kb):=gR CJ.pre CJ.F x.1 x.2.1 x.2.2.1
def Fo:SumL:=Eh E5 JJ Kb VN (LK.dflt E5,DenS.dflt Kb)
theorem wV:SoundL Tryz.prog G1 80 Fo:=HB ({cf [] []with lsums:=[(106,CJ)] }) 80 Tryz.f80 trivial trivial E5 JJ Kb VN _ (fun _=>aWN ..) (hls:=⟨Zm,trivial⟩)
abbrev lK:=LK.D E5×DenS JJ->Bool
abbrev nC:=LK.D E5×DenS JJ->LK.B E5×DenS Kb
variable (p466:lK)(f466:nC)
abbrev JK:Aa:=[(false,.int .u64),(false,.int .u64)]
abbrev Kc:Aa:=[(false,.int .u64)]
abbrev E6:LK:=.ref (.pair (.int .i64) (.pair (.int .i64) (.pair (.int .i64) .unit)))
def gS(p464:Wj)(f464:Wt)(l0:LK.D (.ref (.pair (.int .i64) (.pair (.int .i64) (.pair (.int .i64) .unit)))))(a0 a1:Ab (.int .u64)):Option (LK.B E6×DenS Kc):=bif(p464 ((l0.1,l0.2),(1:Int),a0,a1,()))then(some (f464 ((l0.1,l0.2),(1:Int),a0,a1,())))else none
theorem aWO(x:LK.D E6×DenS JK):Eg ({cf [] []with lsums:=[(106,⟨El,Gy,GF,p464,f464⟩)] }) 9 76 Tryz.f76 E6 JK Kc x=gS p464 f464 x.1 x.2.1 x.2.2.1:=by kernel_rfl
def VO(x:LK.D E6×DenS JK):Option (LK.B E6×DenS Kc):=gS CJ.pre CJ.F x.1 x.2.1 x.2.2.1
def Fp:SumL:=Eh E6 JK Kc VO (LK.dflt E6,DenS.dflt Kc)
theorem wW:SoundL Tryz.prog G1 76 Fp:=HB ({cf [] []with lsums:=[(106,CJ)] }) 76 Tryz.f76 trivial trivial E6 JK Kc VO _ (fun _=>aWO ..) (hls:=⟨Zm,trivial⟩)
abbrev lL:=LK.D E6×DenS JK->Bool
abbrev nD:=LK.D E6×DenS JK->LK.B E6×DenS Kc
variable (p467:lL)(f467:nD)
abbrev Nv:Aa:=[(true,.pair (.int .u64) (.pair (.int .u64) (.unit))),(true,.pair (.int .u64) (.pair (.int .u64) (.unit)))]
abbrev Pa:Aa:=[(true,.pair (.int .u64) (.pair (.int .u64) (.unit)))]
abbrev FM:LK:=.ref (.pair (.int .i64) (.pair (.int .i64) (.pair (.int .i64) .unit)))
def gT(p465:lJ)(f465:nB)(p466:lK)(f466:nC)(p467:lL)(f467:nD)(l0:LK.D (.ref (.pair (.int .i64) (.pair (.int .i64) (.pair (.int .i64) .unit)))))(a0 a1:Ab (.pair (.int .u64) (.pair (.int .u64) (.unit)))):Option (LK.B FM×DenS Pa):=let e10_:=((f465 ((l0.1,l0.2),a0.1,a1.1,())).1,a0.2.1,a1.2);let e9_:=(f465 e10_);let e8_:=(f465 (e9_.1,a0.1,a1.2));let e7_:=(f465 (e8_.1,a0.2.1,a1.1,()));let e6_:=(f466 (e7_.1,(f465 ((l0.1,l0.2),a0.1,a1.1,())).2.1,e9_.2));let e1_:=(f467 (e6_.1,e8_.2.1,e7_.2));let e2_:=e6_;let e3_:=e7_;let e4_:=e8_;let e5_:=e9_;bif(p465 ((l0.1,l0.2),a0.1,a1.1,()))then(bif(p465 e10_)then(bif(p465 (e5_.1,a0.1,a1.2))then(bif(p465 (e4_.1,a0.2.1,a1.1,()))then(bif(p466 (e3_.1,(f465 ((l0.1,l0.2),a0.1,a1.1,())).2.1,e5_.2))then(bif(p467 (e2_.1,e4_.2.1,e3_.2))then(some (e1_.1,(e2_.2.1,e1_.2),()))else none)else none)else none)else none)else none)else none
theorem aWP(x:LK.D FM×DenS Nv):Eg ({cf [] []with lsums:=[(79,⟨E4,JI,Ka,p465,f465⟩),(80,⟨E5,JJ,Kb,p466,f466⟩),(76,⟨E6,JK,Kc,p467,f467⟩)] }) 9 42 Tryz.f42 FM Nv Pa x=gT p465 f465 p466 f466 p467 f467 x.1 x.2.1 x.2.2.1:=by kernel_rfl
def VP(x:LK.D FM×DenS Nv):Option (LK.B FM×DenS Pa):=gT Fl.pre Fl.F Fo.pre Fo.F Fp.pre Fp.F x.1 x.2.1 x.2.2.1
def PR:SumL:=Eh FM Nv Pa VP (LK.dflt FM,DenS.dflt Pa)
theorem aMM:SoundL Tryz.prog G1 42 PR:=HB ({cf [] []with lsums:=[(79,Fl),(80,Fo),(76,Fp)] }) 42 Tryz.f42 trivial trivial FM Nv Pa VP _ (fun _=>aWP ..) (hls:=⟨wU,wV,wW,trivial⟩)
abbrev lM:=LK.D FM×DenS Nv->Bool
abbrev nE:=LK.D FM×DenS Nv->LK.B FM×DenS Pa
variable (p468:lM)(f468:nE)
abbrev JL:Aa:=[(false,.slice (.pair (.int .u64) (.pair (.int .u64) (.unit))))]
abbrev Kd:Aa:=[(false,.int .i64)]
abbrev E7:LK:=.ref (.pair (.int .i64) (.pair (.int .i64) (.pair (.int .i64) .unit)))
abbrev G5:Pat:=⟨32,[(8,.one (.v .i64)),(7,.one (.sl (.pair (.int .u64) (.pair (.int .u64) (.unit))))),(0,.one (.ptr 0 0)),(9,.one (.v .i64))],[.raw [.v .i64,.v .i64,.v .i64]]⟩
abbrev Yr:List (Nat×Shape):=[]
abbrev Lk:List (Nat×Pat):=[(0,⟨32,[],[.raw [.v .i64,.v .i64,.v .i64]]⟩)]
abbrev KL:Option Pat:=(some ⟨32,[(4,.one (.v .i64))],[.raw [.v .i64,.v .i64,.v .i64]]⟩)
variable (w469_2:Pat.D G5->Option (Ag Lk KL))
def TM(p66:BB)(f66:BC){R:Type}(L:Pat.D G5->Option R)(e:Ag Lk KL->Option R)(x:Pat.D G5):Option R:=let e4_:=(x.1.2.1.getD (ah x.1.2.2.2.1) ((0:Int),(0:Int),()));let e3_:=(x.2.1.1,e4_.1,());let e1_:=((f66 e3_).1 !=(0:Int));let e2_:=(x.2.1.1,e4_.2);bif(decide (x.1.2.2.2.1<x.1.1))then(bif((decide ((0:Int)<=x.1.2.2.2.1))&&(decide (x.1.2.2.2.1<(x.1.2.1.length:Int))))then(bif(p66 e3_)then(bif((p66 e2_)||(!(bif e1_ then false else true)))then(bif(e1_||((f66 e2_).1 !=(0:Int)))then(((e (.inr (((4:Int),()),x.2)))))else(L ((x.1.1,x.1.2.1,(),(aa .i64 (x.1.2.2.2.1+(1:Int))),()),x.2)))else none)else none)else none)else(e (.inl ((),x.2)))
theorem aYo(d:Nat)(R:Type)(L:Pat.D G5->Option R)(e:Ag Lk KL->Option R)(x:Pat.D G5):
  Bn (cf [(85,⟨BY,BZ,p66,f66⟩)] [(53,2,LoopSpec.of G5 Yr Lk KL w469_2 1)]) (d+2) 53 (Bj Tryz.f53 2) G5 Yr Lk KL (R:=R) L e x 1=TM p66 f66 L e x:=by kernel_rfl
theorem aGw(p66:BB)(f66:BC):Bf fun L e x=>TM p66 f66 L e x:=by intro _ _ _ _ _ _ _ h0 hL he _;unfold TM;repeat' (first|exact h0|exact hL _|exact he _|apply By|(apply Bz h0;intro _)|(apply BA<;>intro _))
def gU(p66:BB)(f66:BC)(w469_2:Pat.D G5->Option (Ag Lk KL))(l0:LK.D (.ref (.pair (.int .i64) (.pair (.int .i64) (.pair (.int .i64) .unit)))))(a0:Ab (.slice (.pair (.int .u64) (.pair (.int .u64) (.unit))))):Option (LK.B E7×DenS Kd):=
 Vx.A3 (w469_2 (((a0.length:Int),a0,(),(0:Int),()),(l0.1,l0.2),())) fun y0=>
 Vx.A1 y0 (fun y1=>
 some (y1.2.1,(0:Int),())) (fun z1=>
 some (z1.2.1,z1.1))
theorem aWQ(x:LK.D E7×DenS JL):Eg (cf [(85,⟨BY,BZ,p66,f66⟩)] [(53,2,LoopSpec.of G5 Yr Lk KL w469_2 1)]) 9 53 Tryz.f53 E7 JL Kd x=gU p66 f66 w469_2 x.1 x.2.1:=by kernel_rfl
def Wb:G5.D->Option (Ag Lk KL):=A6 fun L=>TM Ao.pre Ao.F L some
def Q9(x:LK.D E7×DenS JL):Option (LK.B E7×DenS Kd):=gU Ao.pre Ao.F Wb x.1 x.2.1
def Fq:SumL:=Eh E7 JL Kd Q9 (LK.dflt E7,DenS.dflt Kd)
theorem wX:SoundL Tryz.prog G1 53 Fq:=HB (cf [(85,Ao)] [(53,2,LoopSpec.of G5 Yr Lk KL Wb 1)]) 53 Tryz.f53 ⟨EP,trivial⟩ ⟨rfl,fun d=>Bw (fun L e x=>TM Ao.pre Ao.F L e x) (aGw Ao.pre Ao.F) (fun _ _ _ _=>aYo ..),trivial⟩ E7 JL Kd Q9 _ (fun _=>aWQ ..)
abbrev Z4:=LK.D E7×DenS JL->Bool
abbrev aP:=LK.D E7×DenS JL->LK.B E7×DenS Kd
variable (p469:Z4)(f469:aP)
abbrev Nw:Aa:=[(false,.int .i64),(false,.int .i64),(true,.pair (.int .u64) (.pair (.int .u64) (.unit))),(true,.pair (.int .u64) (.pair (.int .u64) (.unit)))]
abbrev Pb:Aa:=[(true,.pair (.int .u64) (.pair (.int .u64) (.unit))),(false,.int .i64),(false,.int .i64)]
def gV(p468:lM)(f468:nE)(p69:Bl)(f69:Bm)(p469:Z4)(f469:aP)(a0 a1:Ab (.int .i64))(a2 a3:Ab (.pair (.int .u64) (.pair (.int .u64) (.unit)))):Option (DenS Pb):=let e4_:=((a0,a1,(0:Int),()),((a2.1,a2.2)::((a3.1,a3.2)::[])),());let e3_:=(f469 e4_);let e1_:=(f468 (e3_.1,(a2.1,a2.2),(a3.1,a3.2),()));let e2_:=e3_;bif(p69 (a0,()))then(bif((f69 (a0,())).2.1 !=(0:Int))then(bif((f69 (a0,())).2.1 !=(0:Int))then(some (((0:Int),(0:Int),()),(0:Int),(f69 (a0,())).2))else none)else bif((decide (a1<(0:Int)))||(decide (a1>(5:Int))))then(some (((0:Int),(0:Int),()),(0:Int),(3:Int),()))else bif(p469 e4_)then(bif(e2_.2.1 !=(0:Int))then(some (((0:Int),(0:Int),()),(0:Int),e2_.2))else bif(p468 (e2_.1,(a2.1,a2.2),(a3.1,a3.2),()))then(some (e1_.2.1,e1_.1.2.2.1,(0:Int),()))else none)else none)else none
theorem aWS(x:DenS Nw):run ({cf [(71,⟨BE,BF,p69,f69⟩)] []with lsums:=[(42,⟨FM,Nv,Pa,p468,f468⟩),(53,⟨E7,JL,Kd,p469,f469⟩)] }) 9 13 Tryz.f13 Nw Pb x=gV p468 f468 p69 f69 p469 f469 x.1 x.2.1 x.2.2.1 x.2.2.2.1:=by kernel_rfl
def Ra(x:DenS Nw):Option (DenS Pb):=gV PR.pre PR.F Al.pre Al.F Fq.pre Fq.F x.1 x.2.1 x.2.2.1 x.2.2.2.1
def PS:Sum:=Ai Nw Pb Ra (DenS.dflt Pb)
theorem aMN:Sound Tryz.prog G1 13 PS:=sd ({cf [(71,Al)] []with lsums:=[(42,PR),(53,Fq)] }) 13 Tryz.f13 ⟨Dj,trivial⟩ trivial Nw Pb Ra _ (fun _=>aWS ..) (hls:=⟨aMM,wX,trivial⟩)
abbrev Z5:=Ae Nw
abbrev aQ:=Ad Nw Pb
variable (p470:Z5)(f470:aQ)
abbrev Nx:Aa:=[(false,.int .u64),(false,.int .u64)]
abbrev Pc:Aa:=[(false,.int .u64)]
abbrev FN:LK:=.ref (.pair (.int .i64) (.pair (.int .i64) (.pair (.int .i64) .unit)))
def gW(p464:Wj)(f464:Wt)(l0:LK.D (.ref (.pair (.int .i64) (.pair (.int .i64) (.pair (.int .i64) .unit)))))(a0 a1:Ab (.int .u64)):Option (LK.B FN×DenS Pc):=bif(p464 ((l0.1,l0.2),(4:Int),a0,a1,()))then(some (f464 ((l0.1,l0.2),(4:Int),a0,a1,())))else none
theorem aWT(x:LK.D FN×DenS Nx):Eg ({cf [] []with lsums:=[(106,⟨El,Gy,GF,p464,f464⟩)] }) 9 83 Tryz.f83 FN Nx Pc x=gW p464 f464 x.1 x.2.1 x.2.2.1:=by kernel_rfl
def VQ(x:LK.D FN×DenS Nx):Option (LK.B FN×DenS Pc):=gW CJ.pre CJ.F x.1 x.2.1 x.2.2.1
def PT:SumL:=Eh FN Nx Pc VQ (LK.dflt FN,DenS.dflt Pc)
theorem aMO:SoundL Tryz.prog G1 83 PT:=HB ({cf [] []with lsums:=[(106,CJ)] }) 83 Tryz.f83 trivial trivial FN Nx Pc VQ _ (fun _=>aWT ..) (hls:=⟨Zm,trivial⟩)
abbrev aB2:=LK.D FN×DenS Nx->Bool
abbrev aDx:=LK.D FN×DenS Nx->LK.B FN×DenS Pc
variable (p471:aB2)(f471:aDx)
abbrev Ny:Aa:=[(true,.pair (.int .u64) (.pair (.int .u64) (.unit))),(true,.pair (.int .u64) (.pair (.int .u64) (.unit)))]
abbrev Pd:Aa:=[(true,.pair (.int .u64) (.pair (.int .u64) (.unit)))]
abbrev FO:LK:=.ref (.pair (.int .i64) (.pair (.int .i64) (.pair (.int .i64) .unit)))
def gX(p467:lL)(f467:nD)(p465:lJ)(f465:nB)(p466:lK)(f466:nC)(p471:aB2)(f471:aDx)(l0:LK.D (.ref (.pair (.int .i64) (.pair (.int .i64) (.pair (.int .i64) .unit)))))(a0 a1:Ab (.pair (.int .u64) (.pair (.int .u64) (.unit)))):Option (LK.B FO×DenS Pd):=let c1_:=(f465 ((l0.1,l0.2),a1.1,a1.1,()));let c2_:=(f465 (c1_.1,a1.2.1,a1.2));let c3_:=(f467 (c2_.1,c1_.2.1,c2_.2));let c4_:=(f465 (c3_.1,a0.1,a1.1,()));let c5_:=(f465 (c4_.1,a0.2.1,a1.2));let c6_:=(f467 (c5_.1,c4_.2.1,c5_.2));let c7_:=(f465 (c6_.1,a0.2.1,a1.1,()));let c8_:=(f465 (c7_.1,a0.1,a1.2));let c9_:=(f466 (c8_.1,c7_.2.1,c8_.2));let c10_:=(f471 (c9_.1,c6_.2.1,c3_.2));let c11_:=(f471 (c10_.1,c9_.2.1,c3_.2));bif(p465 ((l0.1,l0.2),a1.1,a1.1,()))then(bif(p465 (c1_.1,a1.2.1,a1.2))then(bif(p467 (c2_.1,c1_.2.1,c2_.2))then(bif(p465 (c3_.1,a0.1,a1.1,()))then(bif(p465 (c4_.1,a0.2.1,a1.2))then(bif(p467 (c5_.1,c4_.2.1,c5_.2))then(bif(p465 (c6_.1,a0.2.1,a1.1,()))then(bif(p465 (c7_.1,a0.1,a1.2))then(bif(p466 (c8_.1,c7_.2.1,c8_.2))then(bif(p471 (c9_.1,c6_.2.1,c3_.2))then(bif(p471 (c10_.1,c9_.2.1,c3_.2))then(some (c11_.1,(c10_.2.1,c11_.2),()))else none)else none)else none)else none)else none)else none)else none)else none)else none)else none)else none
theorem aWU(x:LK.D FO×DenS Ny):Eg ({cf [] []with lsums:=[(76,⟨E6,JK,Kc,p467,f467⟩),(79,⟨E4,JI,Ka,p465,f465⟩),(80,⟨E5,JJ,Kb,p466,f466⟩),(83,⟨FN,Nx,Pc,p471,f471⟩)] }) 9 45 Tryz.f45 FO Ny Pd x=gX p467 f467 p465 f465 p466 f466 p471 f471 x.1 x.2.1 x.2.2.1:=by kernel_rfl
def VR(x:LK.D FO×DenS Ny):Option (LK.B FO×DenS Pd):=gX Fp.pre Fp.F Fl.pre Fl.F Fo.pre Fo.F PT.pre PT.F x.1 x.2.1 x.2.2.1
def PU:SumL:=Eh FO Ny Pd VR (LK.dflt FO,DenS.dflt Pd)
theorem aMP:SoundL Tryz.prog G1 45 PU:=HB ({cf [] []with lsums:=[(76,Fp),(79,Fl),(80,Fo),(83,PT)] }) 45 Tryz.f45 trivial trivial FO Ny Pd VR _ (fun _=>aWU ..) (hls:=⟨wW,wU,wV,aMO,trivial⟩)
abbrev aB3:=LK.D FO×DenS Ny->Bool
abbrev aDy:=LK.D FO×DenS Ny->LK.B FO×DenS Pd
variable (p472:aB3)(f472:aDy)
abbrev Nz:Aa:=[(false,.int .i64),(false,.int .i64),(true,.pair (.int .u64) (.pair (.int .u64) (.unit))),(true,.pair (.int .u64) (.pair (.int .u64) (.unit)))]
abbrev Pe:Aa:=[(true,.pair (.int .u64) (.pair (.int .u64) (.unit))),(false,.int .i64),(false,.int .i64)]
def gY(p472:aB3)(f472:aDy)(p69:Bl)(f69:Bm)(p469:Z4)(f469:aP)(a0 a1:Ab (.int .i64))(a2 a3:Ab (.pair (.int .u64) (.pair (.int .u64) (.unit)))):Option (DenS Pe):=let e4_:=((a0,a1,(0:Int),()),((a2.1,a2.2)::((a3.1,a3.2)::[])),());let e3_:=(f469 e4_);let e1_:=(f472 (e3_.1,(a2.1,a2.2),(a3.1,a3.2),()));let e2_:=e3_;bif(p69 (a0,()))then(bif((f69 (a0,())).2.1 !=(0:Int))then(bif((f69 (a0,())).2.1 !=(0:Int))then(some (((0:Int),(0:Int),()),(0:Int),(f69 (a0,())).2))else none)else bif((decide (a1<(0:Int)))||(decide (a1>(5:Int))))then(some (((0:Int),(0:Int),()),(0:Int),(3:Int),()))else bif(p469 e4_)then(bif(e2_.2.1 !=(0:Int))then(some (((0:Int),(0:Int),()),(0:Int),e2_.2))else bif(p472 (e2_.1,(a2.1,a2.2),(a3.1,a3.2),()))then(some (e1_.2.1,e1_.1.2.2.1,(0:Int),()))else none)else none)else none
theorem aWV(x:DenS Nz):run ({cf [(71,⟨BE,BF,p69,f69⟩)] []with lsums:=[(45,⟨FO,Ny,Pd,p472,f472⟩),(53,⟨E7,JL,Kd,p469,f469⟩)] }) 9 15 Tryz.f15 Nz Pe x=gY p472 f472 p69 f69 p469 f469 x.1 x.2.1 x.2.2.1 x.2.2.2.1:=by kernel_rfl
def Rb(x:DenS Nz):Option (DenS Pe):=gY PU.pre PU.F Al.pre Al.F Fq.pre Fq.F x.1 x.2.1 x.2.2.1 x.2.2.2.1
def PW:Sum:=Ai Nz Pe Rb (DenS.dflt Pe)
theorem aMQ:Sound Tryz.prog G1 15 PW:=sd ({cf [(71,Al)] []with lsums:=[(45,PU),(53,Fq)] }) 15 Tryz.f15 ⟨Dj,trivial⟩ trivial Nz Pe Rb _ (fun _=>aWV ..) (hls:=⟨aMP,wX,trivial⟩)
abbrev Z6:=Ae Nz
abbrev aR:=Ad Nz Pe
variable (p473:Z6)(f473:aR)
abbrev NA:Aa:=[]
abbrev Pf:Aa:=[(false,.bool)]
def gZ(p470:Z5)(f470:aQ)(p473:Z6)(f473:aR):Option (DenS Pf):=let e5_:=((1065353216:Int),(1073741824:Int),());let e1_:=(f470 ((2:Int),(0:Int),e5_,e5_,()));let e4_:=(((1065353216:Int),(1065353216:Int),()),());let e2_:=(f473 ((2:Int),(0:Int),e5_,e4_));let e3_:=e5_;bif(p470 ((2:Int),(0:Int),e3_,e3_,()))then(bif(p473 ((2:Int),(0:Int),e3_,e4_))then(bif((((e1_.2.2.1 !=(0:Int))||(e2_.2.2.1 !=(0:Int)))||(e1_.2.1 !=(0:Int)))||(e2_.2.1 !=(0:Int)))then(some (false,()))else some (((((e1_.1.1==(3225419776:Int))&&(e1_.1.2.1==(1082130432:Int)))&&(e2_.1.1==(1069547520:Int)))&&(e2_.1.2.1==(1056964608:Int))),()))else none)else none
theorem aWW(x:DenS NA):run (cf [(13,⟨Nw,Pb,p470,f470⟩),(15,⟨Nz,Pe,p473,f473⟩)] []) 9 9 Tryz.f9 NA Pf x=gZ p470 f470 p473 f473:=by kernel_rfl
def VS(x:DenS NA):Option (DenS Pf):=gZ PS.pre PS.F PW.pre PW.F
def PX:Sum:=Ai NA Pf VS (DenS.dflt Pf)
theorem aMR:Sound Tryz.prog G1 9 PX:=sd (cf [(13,PS),(15,PW)] []) 9 Tryz.f9 ⟨aMN,aMQ,trivial⟩ trivial NA Pf VS _ (fun _=>aWW ..)
abbrev Z7:=Ae NA
abbrev aS:=Ad NA Pf
variable (p474:Z7)(f474:aS)
abbrev uB:Aa:=[(true,.pair (.int .u64) (.pair (.int .u64) (.unit))),(true,.pair (.int .u64) (.pair (.int .u64) (.unit)))]
abbrev aKh:Aa:=[(true,.pair (.int .u64) (.pair (.int .u64) (.unit)))]
abbrev iZ:LK:=.ref (.pair (.int .i64) (.pair (.int .i64) (.pair (.int .i64) .unit)))
abbrev aB4:=LK.D iZ×DenS uB->Bool
abbrev aDz:=LK.D iZ×DenS uB->LK.B iZ×DenS aKh
variable (p475:aB4)(f475:aDz)
abbrev uC:Aa:=[(false,.int .i64),(false,.int .i64),(true,.pair (.int .u64) (.pair (.int .u64) (.unit))),(true,.pair (.int .u64) (.pair (.int .u64) (.unit)))]
abbrev aKi:Aa:=[(true,.pair (.int .u64) (.pair (.int .u64) (.unit))),(false,.int .i64),(false,.int .i64)]
abbrev lO:=Ae uC
abbrev nG:=Ad uC aKi
variable (p476:lO)(f476:nG)
abbrev vG:Aa:=[(false,.int .i64)]
abbrev O67:Aa:=[(false,.int .i64),(false,.int .i64),(false,.int .i64)]
abbrev lU:=Ae vG
abbrev nM:=Ad vG O67
variable (p67:lU)(f67:nM)
abbrev vJ:Aa:=[(false,.int .i64),(false,.int .i64)]
abbrev O73:Aa:=[(false,.int .i64)]
abbrev Y73:=Ae vJ
abbrev Z73:=Ad vJ O73
variable (p73:Y73)(f73:Z73)
abbrev vH:Aa:=[(false,.int .i64),(false,.int .u64)]
abbrev O68:Aa:=[(false,.bool)]
abbrev Y68:=Ae vH
abbrev Z68:=Ad vH O68
variable (p68:Y68)(f68:Z68)
abbrev uD:Aa:=[(false,.int .i64),(false,.int .i64),(false,.slice (.pair (.int .u64) (.pair (.int .u64) (.unit))))]
abbrev aKj:Aa:=[(false,.int .i64)]
abbrev aK8:Pat:=⟨39,[(0,.one (.v .i64)),(2,.one (.sl (.pair (.int .u64) (.pair (.int .u64) (.unit))))),(8,.one (.v .i64))],[]⟩
abbrev aOj:List (Nat×Pat):=[(0,⟨39,[],[]⟩)]
abbrev aLp:Option Pat:=(some ⟨39,[(6,.one (.v .i64))],[]⟩)
variable (w477_5:Pat.D aK8->Option (Ag aOj aLp))
abbrev aB5:=Ae uD
abbrev aDA:=Ad uD aKj
variable (p477:aB5)(f477:aDA)
abbrev tQ:Aa:=[(false,.slice (.int .u64))]
abbrev aJ0:Aa:=[(false,.slice (.int .u64))]
abbrev aK3:Pat:=⟨21,[(0,.one (.sl (.int .u64))),(3,.one (.v .i64))],[]⟩
abbrev aOe:List (Nat×Pat):=[(0,⟨21,[(0,.one (.sl (.int .u64))),(3,.one (.v .i64))],[]⟩)]
abbrev aLk:Option Pat:=none
variable (w158_2:Pat.D aK3->Option (Ag aOe aLk))
abbrev aA9:=Ae tQ
abbrev aCE:=Ad tQ aJ0
variable (p158:aA9)(f158:aCE)
abbrev tK:Aa:=[(false,.slice (.int .u64))]
abbrev aJU:Aa:=[(false,.slice (.int .u64))]
abbrev aKY:Pat:=⟨30,[(0,.one (.sl (.int .u64))),(4,.one (.v .i64)),(3,.one (.own 0))],[.acc (.int .u64)]⟩
abbrev aN9:List (Nat×Pat):=[(0,⟨30,[(3,.one (.own 0))],[.acc (.int .u64)]⟩)]
abbrev aLf:Option Pat:=none
variable (w125_3:Pat.D aKY->Option (Ag aN9 aLf))
abbrev aOq:=Ae tK
abbrev aPd:=Ad tK aJU
variable (p125:aOq)(f125:aPd)
abbrev vK:Aa:=[(false,.int .i64),(false,.int .u64)]
abbrev O74:Aa:=[(true,.pair (.bool) (.pair (.bool) (.pair (.bool) (.pair (.bool) (.pair (.pair (.bool) (.pair (.slice (.int .u64)) (.pair (.int .i64) (.unit)))) (.unit))))))]
abbrev lX:=Ae vK
abbrev nP:=Ad vK O74
variable (p74:lX)(f74:nP)
abbrev vL:Aa:=[(false,.int .i64)]
abbrev O75:Aa:=[(false,.int .u64)]
abbrev Y75:=Ae vL
abbrev Z75:=Ad vL O75
variable (p75:Y75)(f75:Z75)
abbrev vM:Aa:=[(true,.pair (.bool) (.pair (.bool) (.pair (.bool) (.pair (.bool) (.pair (.pair (.bool) (.pair (.slice (.int .u64)) (.pair (.int .i64) (.unit)))) (.unit))))))]
abbrev O76:Aa:=[(false,.bool)]
abbrev lY:=Ae vM
abbrev nQ:=Ad vM O76
variable (p76:lY)(f76:nQ)
abbrev tM:Aa:=[(false,.slice (.int .u64)),(false,.int .i64)]
abbrev aJW:Aa:=[(false,.slice (.int .u64))]
abbrev aKZ:Pat:=⟨49,[(0,.one (.sl (.int .u64))),(6,.one (.v .u64)),(8,.one (.v .i64)),(5,.one (.own 0)),(7,.one (.v .u64))],[.acc (.int .u64)]⟩
abbrev aOa:List (Nat×Pat):=[(0,⟨49,[(5,.one (.own 0)),(7,.one (.v .u64))],[.acc (.int .u64)]⟩)]
abbrev aLg:Option Pat:=none
variable (w127_5:Pat.D aKZ->Option (Ag aOa aLg))
abbrev aAZ:=Ae tM
abbrev aCu:=Ad tM aJW
variable (p127:aAZ)(f127:aCu)
abbrev tN:Aa:=[(false,.slice (.int .u64)),(false,.slice (.int .u64))]
abbrev aJX:Aa:=[(false,.slice (.int .u64))]
abbrev aK0:Pat:=⟨56,[(5,.one (.v .i64)),(0,.one (.sl (.int .u64))),(1,.one (.sl (.int .u64))),(8,.one (.v .i64)),(6,.one (.own 0)),(7,.one (.v .u64))],[.acc (.int .u64)]⟩
abbrev aOb:List (Nat×Pat):=[(0,⟨56,[(6,.one (.own 0)),(7,.one (.v .u64))],[.acc (.int .u64)]⟩)]
abbrev aLh:Option Pat:=none
variable (w128_5:Pat.D aK0->Option (Ag aOb aLh))
abbrev aA0:=Ae tN
abbrev aCv:=Ad tN aJX
variable (p128:aA0)(f128:aCv)
abbrev tO:Aa:=[(false,.slice (.int .u64)),(false,.slice (.int .u64))]
abbrev aJY:Aa:=[(false,.int .i64)]
abbrev aK1:Pat:=⟨41,[(0,.one (.sl (.int .u64))),(1,.one (.sl (.int .u64))),(5,.one (.v .i64))],[]⟩
abbrev aOc:List (Nat×Pat):=[(0,⟨41,[],[]⟩)]
abbrev aLi:Option Pat:=(some ⟨41,[(4,.one (.v .i64))],[]⟩)
variable (w129_6:Pat.D aK1->Option (Ag aOc aLi))
abbrev aA1:=Ae tO
abbrev aCw:=Ad tO aJY
variable (p129:aA1)(f129:aCw)
end Vx
namespace Vx
open Go Go.Proofs
variable (p65:Dk)(f65:Dl)(p70:CZ)(f70:C0)(p470:Z5)(f470:aQ)(p473:Z6)(f473:aR)(p474:Z7)(f474:aS)(p476:lO)(f476:nG)(p67:lU)(f67:nM)(p73:Y73)(f73:Z73)(p68:Y68)(f68:Z68)(p477:aB5)(f477:aDA)(p158:aA9)(f158:aCE)(p74:lX)(f74:nP)(p75:Y75)(f75:Z75)(p76:lY)(f76:nQ)(p127:aAZ)(f127:aCu)(p128:aA0)(f128:aCv)(p129:aA1)(f129:aCw)
abbrev tP:Aa:=[(false,.slice (.int .u64)),(false,.slice (.int .u64))]
abbrev aJZ:Aa:=[(false,.slice (.int .u64))]
abbrev aK2:Pat:=⟨47,[(6,.one (.v .u64)),(1,.one (.sl (.int .u64))),(0,.one (.sl (.int .u64))),(7,.one (.v .i64)),(5,.one (.own 0))],[.arr (.int .u64)]⟩
abbrev aOd:List (Nat×Pat):=[(0,⟨47,[(5,.one (.own 0))],[.arr (.int .u64)]⟩)]
abbrev aLj:Option Pat:=none
variable (w130_4:Pat.D aK2->Option (Ag aOd aLj))
abbrev aOs:=Ae tP
abbrev aPf:=Ad tP aJZ
variable (p130:aOs)(f130:aPf)
abbrev vO:Aa:=[(true,.pair (.bool) (.pair (.slice (.int .u64)) (.pair (.int .i64) (.unit)))),(true,.pair (.bool) (.pair (.slice (.int .u64)) (.pair (.int .i64) (.unit))))]
abbrev O78:Aa:=[(true,.pair (.bool) (.pair (.slice (.int .u64)) (.pair (.int .i64) (.unit))))]
abbrev Y78:=Ae vO
abbrev Z78:=Ad vO O78
variable (p78:Y78)(f78:Z78)
abbrev vP:Aa:=[(false,.int .i64),(false,.bool)]
abbrev O81:Aa:=[(false,.int .u64)]
abbrev Y81:=Ae vP
abbrev Z81:=Ad vP O81
variable (p81:Y81)(f81:Z81)
abbrev uA:Aa:=[(false,.int .i64),(false,.bool)]
abbrev O37:Aa:=[(false,.int .u64)]
abbrev Y37:=Ae uA
abbrev Z37:=Ad uA O37
variable (p37:Y37)(f37:Z37)
abbrev tV:Aa:=[(false,.int .i64),(false,.bool)]
abbrev aJ5:Aa:=[(false,.int .u64)]
abbrev aOx:=Ae tV
abbrev aPk:=Ad tV aJ5
variable (p179:aOx)(f179:aPk)
abbrev tS:Aa:=[(false,.int .i64),(false,.int .i64),(false,.bool)]
abbrev aJ2:Aa:=[(false,.int .u64)]
abbrev aOu:=Ae tS
abbrev aPh:=Ad tS aJ2
variable (p160:aOu)(f160:aPh)
abbrev tU:Aa:=[(false,.slice (.int .u64))]
abbrev aJ4:Aa:=[(false,.slice (.int .u64))]
abbrev aK5:Pat:=⟨41,[(0,.one (.sl (.int .u64))),(4,.one (.v .i64)),(3,.one (.own 0))],[.arr (.int .u64)]⟩
abbrev aOg:List (Nat×Pat):=[(0,⟨41,[(3,.one (.own 0))],[.arr (.int .u64)]⟩)]
abbrev aLm:Option Pat:=none
variable (w162_3:Pat.D aK5->Option (Ag aOg aLm))
abbrev aOw:=Ae tU
abbrev aPj:=Ad tU aJ4
variable (p162:aOw)(f162:aPj)
abbrev tW:Aa:=[(false,.slice (.int .u64)),(false,.int .i64)]
abbrev aJ6:Aa:=[(false,.slice (.int .u64))]
abbrev aK6:Pat:=⟨47,[(0,.one (.sl (.int .u64))),(6,.one (.v .u64)),(7,.one (.v .i64)),(5,.one (.own 0))],[.acc (.int .u64)]⟩
abbrev aOh:List (Nat×Pat):=[(0,⟨47,[(5,.one (.own 0))],[.acc (.int .u64)]⟩)]
abbrev aLn:Option Pat:=none
variable (w180_4:Pat.D aK6->Option (Ag aOh aLn))
abbrev aOy:=Ae tW
abbrev aPl:=Ad tW aJ6
variable (p180:aOy)(f180:aPl)
abbrev tT:Aa:=[(false,.int .i64),(true,.pair (.bool) (.pair (.slice (.int .u64)) (.pair (.int .i64) (.unit)))),(false,.int .i64)]
abbrev aJ3:Aa:=[(false,.slice (.int .u64)),(false,.bool)]
abbrev aOv:=Ae tT
abbrev aPi:=Ad tT aJ3
variable (p161:aOv)(f161:aPi)
abbrev tR:Aa:=[(false,.slice (.int .u64))]
abbrev aJ1:Aa:=[(false,.int .i64)]
abbrev aK4:Pat:=⟨27,[(4,.one (.v .u64)),(3,.one (.v .i64))],[]⟩
abbrev aOf:List (Nat×Pat):=[(0,⟨27,[(3,.one (.v .i64))],[]⟩)]
abbrev aLl:Option Pat:=none
variable (w159_6:Pat.D aK4->Option (Ag aOf aLl))
abbrev aOt:=Ae tR
abbrev aPg:=Ad tR aJ1
variable (p159:aOt)(f159:aPg)
abbrev tL:Aa:=[(false,.int .i64),(false,.int .i64),(true,.pair (.bool) (.pair (.slice (.int .u64)) (.pair (.int .i64) (.unit))))]
abbrev aJV:Aa:=[(false,.int .u64),(false,.int .i64)]
abbrev aOr:=Ae tL
abbrev aPe:=Ad tL aJV
variable (p126:aOr)(f126:aPe)
abbrev vN:Aa:=[(false,.int .i64),(false,.int .i64),(true,.pair (.bool) (.pair (.slice (.int .u64)) (.pair (.int .i64) (.unit)))),(false,.bool)]
abbrev O77:Aa:=[(false,.int .u64),(false,.int .i64)]
abbrev Y77:=Ae vN
abbrev Z77:=Ad vN O77
variable (p77:Y77)(f77:Z77)
abbrev tY:Aa:=[(false,.int .i64),(false,.int .i64),(false,.int .u64),(false,.int .u64)]
abbrev O28:Aa:=[(false,.int .u64),(false,.int .i64),(false,.int .i64)]
abbrev Y28:=Ae tY
abbrev Z28:=Ad tY O28
variable (p28:Y28)(f28:Z28)
abbrev uE:Aa:=[(false,.int .u64),(false,.int .u64)]
abbrev aKk:Aa:=[(false,.int .u64)]
abbrev i0:LK:=.ref (.pair (.int .i64) (.pair (.int .i64) (.pair (.int .i64) .unit)))
abbrev aOI:=LK.D i0×DenS uE->Bool
abbrev aPv:=LK.D i0×DenS uE->LK.B i0×DenS aKk
variable (p478:aOI)(f478:aPv)
abbrev uF:Aa:=[(true,.pair (.int .u64) (.pair (.int .u64) (.unit))),(true,.pair (.int .u64) (.pair (.int .u64) (.unit)))]
abbrev aKl:Aa:=[(true,.pair (.int .u64) (.pair (.int .u64) (.unit)))]
abbrev i1:LK:=.ref (.pair (.int .i64) (.pair (.int .i64) (.pair (.int .i64) .unit)))
abbrev aOJ:=LK.D i1×DenS uF->Bool
abbrev aPw:=LK.D i1×DenS uF->LK.B i1×DenS aKl
variable (p479:aOJ)(f479:aPw)
abbrev uG:Aa:=[(false,.int .i64),(false,.int .i64),(true,.pair (.int .u64) (.pair (.int .u64) (.unit))),(true,.pair (.int .u64) (.pair (.int .u64) (.unit)))]
abbrev aKm:Aa:=[(true,.pair (.int .u64) (.pair (.int .u64) (.unit))),(false,.int .i64),(false,.int .i64)]
abbrev aOK:=Ae uG
abbrev aPx:=Ad uG aKm
variable (p480:aOK)(f480:aPx)
abbrev uH:Aa:=[(false,.slice (.int .u64)),(false,.slice (.int .u64))]
abbrev aKn:Aa:=[(false,.slice (.int .u64))]
abbrev aK9:Pat:=⟨67,[(0,.one (.sl (.int .u64))),(1,.one (.sl (.int .u64))),(6,.one (.v .i64)),(5,.one (.own 0))],[.arr (.int .u64)]⟩
abbrev aOk:List (Nat×Pat):=[(0,⟨67,[(5,.one (.own 0))],[.arr (.int .u64)]⟩)]
abbrev aLq:Option Pat:=none
abbrev aLa:Pat:=⟨67,[(8,.one (.v .i64)),(7,.one (.v .u64)),(6,.one (.v .i64)),(0,.one (.sl (.int .u64))),(1,.one (.sl (.int .u64))),(5,.one (.own 0))],[.arr (.int .u64)]⟩
abbrev aOl:List (Nat×Pat):=[(2,⟨67,[(7,.one (.v .u64)),(6,.one (.v .i64)),(0,.one (.sl (.int .u64))),(1,.one (.sl (.int .u64))),(5,.one (.own 0))],[.arr (.int .u64)]⟩)]
abbrev aLr:Option Pat:=none
variable (w481_3:Pat.D aK9->Option (Ag aOk aLq))(w481_7:Pat.D aLa->Option (Ag aOl aLr))
abbrev aOL:=Ae uH
abbrev aPy:=Ad uH aKn
variable (p481:aOL)(f481:aPy)
abbrev uI:Aa:=[(true,.pair (.bool) (.pair (.bool) (.pair (.bool) (.pair (.bool) (.pair (.pair (.bool) (.pair (.slice (.int .u64)) (.pair (.int .i64) (.unit)))) (.unit)))))),(true,.pair (.bool) (.pair (.bool) (.pair (.bool) (.pair (.bool) (.pair (.pair (.bool) (.pair (.slice (.int .u64)) (.pair (.int .i64) (.unit)))) (.unit))))))]
abbrev aKo:Aa:=[(true,.pair (.bool) (.pair (.bool) (.pair (.bool) (.pair (.bool) (.pair (.bool) (.pair (.pair (.bool) (.pair (.slice (.int .u64)) (.pair (.int .i64) (.unit)))) (.unit)))))))]
abbrev aOM:=Ae uI
abbrev aPz:=Ad uI aKo
variable (p482:aOM)(f482:aPz)
abbrev uJ:Aa:=[(false,.int .u64),(false,.int .u64)]
abbrev aKp:Aa:=[(false,.int .u64)]
abbrev i2:LK:=.ref (.pair (.int .i64) (.pair (.int .i64) (.pair (.int .i64) .unit)))
abbrev aON:=LK.D i2×DenS uJ->Bool
abbrev aPA:=LK.D i2×DenS uJ->LK.B i2×DenS aKp
variable (p483:aON)(f483:aPA)
abbrev tZ:Aa:=[(false,.int .i64),(false,.int .u64)]
abbrev O32:Aa:=[(false,.int .u64)]
abbrev Y32:=Ae tZ
abbrev Z32:=Ad tZ O32
variable (p32:Y32)(f32:Z32)
abbrev tX:Aa:=[(false,.int .i64),(false,.int .i64),(false,.int .u64),(false,.int .u64)]
abbrev O26:Aa:=[(false,.int .u64),(false,.int .i64),(false,.int .i64)]
abbrev Y26:=Ae tX
abbrev Z26:=Ad tX O26
variable (p26:Y26)(f26:Z26)
abbrev uK:Aa:=[(false,.int .u64),(false,.int .u64)]
abbrev aKq:Aa:=[(false,.int .u64)]
abbrev i3:LK:=.ref (.pair (.int .i64) (.pair (.int .i64) (.pair (.int .i64) .unit)))
abbrev aOO:=LK.D i3×DenS uK->Bool
abbrev aPB:=LK.D i3×DenS uK->LK.B i3×DenS aKq
variable (p484:aOO)(f484:aPB)
abbrev uL:Aa:=[(true,.pair (.int .u64) (.pair (.int .u64) (.unit))),(true,.pair (.int .u64) (.pair (.int .u64) (.unit)))]
abbrev aKr:Aa:=[(true,.pair (.int .u64) (.pair (.int .u64) (.unit)))]
abbrev i4:LK:=.ref (.pair (.int .i64) (.pair (.int .i64) (.pair (.int .i64) .unit)))
abbrev aOP:=LK.D i4×DenS uL->Bool
abbrev aPC:=LK.D i4×DenS uL->LK.B i4×DenS aKr
variable (p485:aOP)(f485:aPC)
abbrev uM:Aa:=[(false,.int .i64),(false,.int .i64),(true,.pair (.int .u64) (.pair (.int .u64) (.unit))),(true,.pair (.int .u64) (.pair (.int .u64) (.unit)))]
abbrev aKs:Aa:=[(true,.pair (.int .u64) (.pair (.int .u64) (.unit))),(false,.int .i64),(false,.int .i64)]
abbrev aOQ:=Ae uM
abbrev aPD:=Ad uM aKs
variable (p486:aOQ)(f486:aPD)
abbrev uN:Aa:=[(true,.pair (.int .u64) (.pair (.int .u64) (.unit)))]
abbrev aKt:Aa:=[(true,.pair (.int .u64) (.pair (.int .u64) (.unit)))]
abbrev aB6:=Ae uN
abbrev aDB:=Ad uN aKt
variable (p487:aB6)(f487:aDB)
abbrev uO:Aa:=[(true,.pair (.bool) (.pair (.slice (.int .u64)) (.pair (.int .i64) (.unit)))),(true,.pair (.bool) (.pair (.slice (.int .u64)) (.pair (.int .i64) (.unit)))),(false,.bool)]
abbrev aKu:Aa:=[(true,.pair (.bool) (.pair (.slice (.int .u64)) (.pair (.int .i64) (.unit))))]
abbrev aOR:=Ae uO
abbrev aPE:=Ad uO aKu
variable (p488:aOR)(f488:aPE)
abbrev uP:Aa:=[(false,.int .u64),(false,.int .u64)]
abbrev aKv:Aa:=[(false,.int .u64)]
abbrev i5:LK:=.ref (.pair (.int .i64) (.pair (.int .i64) (.pair (.int .i64) .unit)))
abbrev aOS:=LK.D i5×DenS uP->Bool
abbrev aPF:=LK.D i5×DenS uP->LK.B i5×DenS aKv
variable (p489:aOS)(f489:aPF)
abbrev uQ:Aa:=[(true,.pair (.int .u64) (.pair (.int .u64) (.unit))),(true,.pair (.int .u64) (.pair (.int .u64) (.unit)))]
abbrev aKw:Aa:=[(true,.pair (.int .u64) (.pair (.int .u64) (.unit)))]
abbrev i6:LK:=.ref (.pair (.int .i64) (.pair (.int .i64) (.pair (.int .i64) .unit)))
abbrev aOT:=LK.D i6×DenS uQ->Bool
abbrev aPG:=LK.D i6×DenS uQ->LK.B i6×DenS aKw
variable (p490:aOT)(f490:aPG)
abbrev uR:Aa:=[(false,.int .i64),(false,.int .i64),(true,.pair (.int .u64) (.pair (.int .u64) (.unit))),(true,.pair (.int .u64) (.pair (.int .u64) (.unit)))]
abbrev aKx:Aa:=[(true,.pair (.int .u64) (.pair (.int .u64) (.unit))),(false,.int .i64),(false,.int .i64)]
abbrev aOU:=Ae uR
abbrev aPH:=Ad uR aKx
variable (p491:aOU)(f491:aPH)
abbrev uS:Aa:=[(true,.pair (.int .u64) (.pair (.int .u64) (.unit))),(true,.pair (.int .u64) (.pair (.int .u64) (.unit)))]
abbrev aKy:Aa:=[(false,.bool)]
abbrev aB8:=Ae uS
abbrev aDD:=Ad uS aKy
variable (p492:aB8)(f492:aDD)
abbrev uT:Aa:=[(false,.slice (.pair (.int .i64) (.pair (.int .i64) (.pair (.int .i64) (.pair (.pair (.int .u64) (.pair (.int .u64) (.unit))) (.pair (.pair (.int .u64) (.pair (.int .u64) (.unit))) (.unit)))))))]
abbrev aKz:Aa:=[(false,.bool)]
abbrev aLb:Pat:=⟨129,[(0,.one (.sl (.pair (.int .i64) (.pair (.int .i64) (.pair (.int .i64) (.pair (.pair (.int .u64) (.pair (.int .u64) (.unit))) (.pair (.pair (.int .u64) (.pair (.int .u64) (.unit))) (.unit)))))))),(3,.one (.v .i64))],[]⟩
abbrev aOm:List (Nat×Pat):=[(0,⟨129,[],[]⟩)]
abbrev aLs:Option Pat:=(some ⟨129,[(2,.one (.bool))],[]⟩)
variable (w493_4:Pat.D aLb->Option (Ag aOm aLs))
abbrev aOV:=Ae uT
abbrev aPI:=Ad uT aKz
variable (p493:aOV)(f493:aPI)
abbrev Yz:Aa:=[(false,.int .u64)]
abbrev jG:Aa:=[(false,.flt .f64)]
def F5:Sum:=aFl .f64
theorem v6:Sound Tryz.prog G1 18 F5:=aRj (e:=ng) .f64 Tryz.func18 (by kernel_rfl) (by kernel_rfl) (by kernel_rfl) (by kernel_rfl) (fun _=>rfl)
abbrev ZW:=Ae Yz
abbrev aH:=Ad Yz jG
variable (p301:ZW)(f301:aH)
abbrev H1:Aa:=[(true,.pair (.int .u64) (.pair (.int .u64) (.unit)))]
abbrev Ir:Aa:=[(false,.cx .f64)]
def aJl(p301:ZW)(f301:aH)(a0:Ab (.pair (.int .u64) (.pair (.int .u64) (.unit)))):Option (DenS Ir):=bif(p301 (a0.1,()))then(bif(p301 a0.2)then(some (((f301 (a0.1,())).1,(f301 a0.2).1),()))else none)else none
theorem aWY(x:DenS H1):run (cf [(18,⟨Yz,jG,p301,f301⟩)] []) 9 48 Tryz.f48 H1 Ir x=aJl p301 f301 x.1:=by kernel_rfl
def G9(x:DenS H1):Option (DenS Ir):=aJl F5.pre F5.F x.1
def Dz:Sum:=Ai H1 Ir G9 (DenS.dflt Ir)
theorem jZ:Sound Tryz.prog G1 48 Dz:=sd (cf [(18,F5)] []) 48 Tryz.f48 ⟨v6,trivial⟩ trivial H1 Ir G9 _ (fun _=>aWY ..)
abbrev Wk:=Ae H1
abbrev Wu:=Ad H1 Ir
variable (p494:Wk)(f494:Wu)
abbrev YA:Aa:=[(false,.flt .f64)]
abbrev jH:Aa:=[(false,.int .u64)]
def Fj:Sum:=aD7 .f64
theorem v7:Sound Tryz.prog G1 49 Fj:=aQl (e:=nn) .f64 Tryz.func49 (by kernel_rfl) (by kernel_rfl) (by kernel_rfl) (by kernel_rfl) (fun _=>rfl)
abbrev ZX:=Ae YA
abbrev aI:=Ad YA jH
variable (p306:ZX)(f306:aI)
abbrev JN:Aa:=[(false,.flt .f64)]
abbrev Kf:Aa:=[(false,.int .u64)]
def g9(p70:CZ)(f70:C0)(p306:ZX)(f306:aI)(a0:Ab (.flt .f64)):Option (DenS Kf):=bif((Vx.Da az a0 a0)!=(some pf))then(bif(p70 ((3:Int),()))then(some ((f70 ((3:Int),())).1,()))else none)else bif(p306 (a0,()))then(some (f306 (a0,())))else none
theorem aWZ(x:DenS JN):run (cf [(61,⟨CV,CW,p70,f70⟩),(49,⟨YA,jH,p306,f306⟩)] []) 9 51 Tryz.f51 JN Kf x=g9 p70 f70 p306 f306 x.1:=by kernel_rfl
def VT(x:DenS JN):Option (DenS Kf):=g9 AO.pre AO.F Fj.pre Fj.F x.1
def Fr:Sum:=Ai JN Kf VT (DenS.dflt Kf)
theorem wZ:Sound Tryz.prog G1 51 Fr:=sd (cf [(61,AO),(49,Fj)] []) 51 Tryz.f51 ⟨Ft,v7,trivial⟩ trivial JN Kf VT _ (fun _=>aWZ ..)
abbrev lP:=Ae JN
abbrev nH:=Ad JN Kf
variable (p495:lP)(f495:nH)
abbrev JO:Aa:=[(false,.cx .f64)]
abbrev Kg:Aa:=[(true,.pair (.int .u64) (.pair (.int .u64) (.unit)))]
def hJ(p495:lP)(f495:nH)(a0:Ab (.cx .f64)):Option (DenS Kg):=bif(p495 (a0.1,()))then(bif(p495 (a0.2,()))then(some (((f495 (a0.1,())).1,(f495 (a0.2,()))),()))else none)else none
theorem aW0(x:DenS JO):run (cf [(51,⟨JN,Kf,p495,f495⟩)] []) 9 47 Tryz.f47 JO Kg x=hJ p495 f495 x.1:=by kernel_rfl
def SD(x:DenS JO):Option (DenS Kg):=hJ Fr.pre Fr.F x.1
def Fs:Sum:=Ai JO Kg SD (DenS.dflt Kg)
theorem w0:Sound Tryz.prog G1 47 Fs:=sd (cf [(51,Fr)] []) 47 Tryz.f47 ⟨wZ,trivial⟩ trivial JO Kg SD _ (fun _=>aW0 ..)
abbrev Z8:=Ae JO
abbrev aT:=Ad JO Kg
variable (p496:Z8)(f496:aT)
abbrev NC:Aa:=[(true,.pair (.int .u64) (.pair (.int .u64) (.unit))),(true,.pair (.int .u64) (.pair (.int .u64) (.unit)))]
abbrev Ph:Aa:=[(true,.pair (.int .u64) (.pair (.int .u64) (.unit)))]
def hZ(p494:Wk)(f494:Wu)(p496:Z8)(f496:aT)(a0 a1:Ab (.pair (.int .u64) (.pair (.int .u64) (.unit)))):Option (DenS Ph):=let e1_:=(((Vx.AG gy az (f494 ((a0.1,a0.2),())).1.1 (f494 ((a1.1,a1.2),())).1.1),(Vx.AG gy az (f494 ((a0.1,a0.2),())).1.2 (f494 ((a1.1,a1.2),())).1.2)),());bif(p494 ((a0.1,a0.2),()))then(bif(p494 ((a1.1,a1.2),()))then(bif(p496 e1_)then(some (f496 e1_))else none)else none)else none
theorem aW1(x:DenS NC):run (cf [(48,⟨H1,Ir,p494,f494⟩),(47,⟨JO,Kg,p496,f496⟩)] []) 9 19 Tryz.f19 NC Ph x=hZ p494 f494 p496 f496 x.1 x.2.1:=by kernel_rfl
def SE(x:DenS NC):Option (DenS Ph):=hZ Dz.pre Dz.F Fs.pre Fs.F x.1 x.2.1
def PY:Sum:=Ai NC Ph SE (DenS.dflt Ph)
theorem aMS:Sound Tryz.prog G1 19 PY:=sd (cf [(48,Dz),(47,Fs)] []) 19 Tryz.f19 ⟨jZ,w0,trivial⟩ trivial NC Ph SE _ (fun _=>aW1 ..)
abbrev lQ:=Ae NC
abbrev nI:=Ad NC Ph
variable (p497:lQ)(f497:nI)
abbrev ND:Aa:=[(false,.cx .f64),(false,.cx .f64)]
abbrev Pi:Aa:=[(false,.cx .f64)]
def aJm(a0 a1:Ab (.cx .f64)):Option (DenS Pi):=some (((Vx.AG me az (Vx.AG fq az a0.1 a1.1) (Vx.AG fq az a0.2 a1.2)),(Vx.AG gy az (Vx.AG fq az a0.1 a1.2) (Vx.AG fq az a0.2 a1.1))),())
theorem aW2(x:DenS ND):run (cf [] []) 9 50 Tryz.f50 ND Pi x=aJm x.1 x.2.1:=by kernel_rfl
def VU(x:DenS ND):Option (DenS Pi):=aJm x.1 x.2.1
def PZ:Sum:=Ai ND Pi VU (DenS.dflt Pi)
theorem aMT:Sound Tryz.prog G1 50 PZ:=sd (cf [] []) 50 Tryz.f50 trivial trivial ND Pi VU _ (fun _=>aW2 ..)
abbrev lR:=Ae ND
abbrev nJ:=Ad ND Pi
variable (p498:lR)(f498:nJ)
abbrev NE:Aa:=[(true,.pair (.int .u64) (.pair (.int .u64) (.unit))),(true,.pair (.int .u64) (.pair (.int .u64) (.unit)))]
abbrev Pj:Aa:=[(true,.pair (.int .u64) (.pair (.int .u64) (.unit)))]
def h9(p494:Wk)(f494:Wu)(p498:lR)(f498:nJ)(p496:Z8)(f496:aT)(a0 a1:Ab (.pair (.int .u64) (.pair (.int .u64) (.unit)))):Option (DenS Pj):=let e2_:=((f494 ((a0.1,a0.2),())).1,(f494 ((a1.1,a1.2),())));let e1_:=(f498 e2_);bif(p494 ((a0.1,a0.2),()))then(bif(p494 ((a1.1,a1.2),()))then(bif(p498 e2_)then(bif(p496 e1_)then(some (f496 e1_))else none)else none)else none)else none
theorem aW3(x:DenS NE):run (cf [(48,⟨H1,Ir,p494,f494⟩),(50,⟨ND,Pi,p498,f498⟩),(47,⟨JO,Kg,p496,f496⟩)] []) 9 21 Tryz.f21 NE Pj x=h9 p494 f494 p498 f498 p496 f496 x.1 x.2.1:=by kernel_rfl
def SF(x:DenS NE):Option (DenS Pj):=h9 Dz.pre Dz.F PZ.pre PZ.F Fs.pre Fs.F x.1 x.2.1
def P0:Sum:=Ai NE Pj SF (DenS.dflt Pj)
theorem aMU:Sound Tryz.prog G1 21 P0:=sd (cf [(48,Dz),(50,PZ),(47,Fs)] []) 21 Tryz.f21 ⟨jZ,aMT,w0,trivial⟩ trivial NE Pj SF _ (fun _=>aW3 ..)
abbrev lS:=Ae NE
abbrev nK:=Ad NE Pj
variable (p499:lS)(f499:nK)
abbrev NF:Aa:=[(true,.pair (.int .u64) (.pair (.int .u64) (.unit))),(true,.pair (.int .u64) (.pair (.int .u64) (.unit)))]
abbrev Pk:Aa:=[(true,.pair (.int .u64) (.pair (.int .u64) (.unit)))]
def iA(p494:Wk)(f494:Wu)(p495:lP)(f495:nH)(a0 a1:Ab (.pair (.int .u64) (.pair (.int .u64) (.unit)))):Option (DenS Pk):=let e3_:=(Vx.AG gy az (Vx.AG fq az (f494 ((a1.1,a1.2),())).1.1 (f494 ((a1.1,a1.2),())).1.1) (Vx.AG fq az (f494 ((a1.1,a1.2),())).1.2 (f494 ((a1.1,a1.2),())).1.2));let e1_:=((Vx.AG mf az (Vx.AG gy az (Vx.AG fq az (f494 ((a0.1,a0.2),())).1.1 (f494 ((a1.1,a1.2),())).1.1) (Vx.AG fq az (f494 ((a0.1,a0.2),())).1.2 (f494 ((a1.1,a1.2),())).1.2)) e3_),());let e2_:=((Vx.AG mf az (Vx.AG me az (Vx.AG fq az (f494 ((a0.1,a0.2),())).1.2 (f494 ((a1.1,a1.2),())).1.1) (Vx.AG fq az (f494 ((a0.1,a0.2),())).1.1 (f494 ((a1.1,a1.2),())).1.2)) e3_),());bif(p494 ((a0.1,a0.2),()))then(bif(p494 ((a1.1,a1.2),()))then(bif(p495 e1_)then(bif(p495 e2_)then(some (((f495 e1_).1,(f495 e2_)),()))else none)else none)else none)else none
theorem aW4(x:DenS NF):run (cf [(48,⟨H1,Ir,p494,f494⟩),(51,⟨JN,Kf,p495,f495⟩)] []) 9 22 Tryz.f22 NF Pk x=iA p494 f494 p495 f495 x.1 x.2.1:=by kernel_rfl
def SG(x:DenS NF):Option (DenS Pk):=iA Dz.pre Dz.F Fr.pre Fr.F x.1 x.2.1
def P1:Sum:=Ai NF Pk SG (DenS.dflt Pk)
theorem aMW:Sound Tryz.prog G1 22 P1:=sd (cf [(48,Dz),(51,Fr)] []) 22 Tryz.f22 ⟨jZ,wZ,trivial⟩ trivial NF Pk SG _ (fun _=>aW4 ..)
abbrev lT:=Ae NF
abbrev nL:=Ad NF Pk
variable (p500:lT)(f500:nL)
abbrev NG:Aa:=[(false,.flt .f64)]
abbrev Pl:Aa:=[(false,.int .u64)]
def iB(p306:ZX)(f306:aI)(a0:Ab (.flt .f64)):Option (DenS Pl):=bif((Vx.Da az a0 a0)!=(some pf))then(some ((9221120237041090560:Int),()))else bif(p306 (a0,()))then(some (f306 (a0,())))else none
theorem aW5(x:DenS NG):run (cf [(49,⟨YA,jH,p306,f306⟩)] []) 9 20 Tryz.f20 NG Pl x=iB p306 f306 x.1:=by kernel_rfl
def VW(x:DenS NG):Option (DenS Pl):=iB Fj.pre Fj.F x.1
def P2:Sum:=Ai NG Pl VW (DenS.dflt Pl)
theorem aMX:Sound Tryz.prog G1 20 P2:=sd (cf [(49,Fj)] []) 20 Tryz.f20 ⟨v7,trivial⟩ trivial NG Pl VW _ (fun _=>aW5 ..)
abbrev aB9:=Ae NG
abbrev aDE:=Ad NG Pl
variable (p501:aB9)(f501:aDE)
abbrev I502:Aa:=[(true,.pair (.int .u64) (.pair (.int .u64) (.unit))),(true,.pair (.int .u64) (.pair (.int .u64) (.unit)))]
abbrev QS:Aa:=[(false,.bool)]
def iC(p474:Z7)(f474:aS)(p301:ZW)(f301:aH)(p497:lQ)(f497:nI)(p499:lS)(f499:nK)(p500:lT)(f500:nL)(p501:aB9)(f501:aDE)(a0 a1:Ab (.pair (.int .u64) (.pair (.int .u64) (.unit)))):Option (DenS QS):=let e11_:=(Vx.AG fq az (f301 (a0.1,())).1 (f301 (a1.1,())).1);let e14_:=(Vx.AG fq az (f301 a0.2).1 (f301 a1.2).1);let e9_:=(Vx.AG gy az (Vx.AG fq az (f301 (a1.1,())).1 (f301 (a1.1,())).1) (Vx.AG fq az (f301 a1.2).1 (f301 a1.2).1));let e1_:=(f501 ((Vx.AG mf az (Vx.AG gy az e11_ e14_) e9_),()));let e12_:=(Vx.AG fq az (f301 a0.2).1 (f301 (a1.1,())).1);let e13_:=(Vx.AG fq az (f301 (a0.1,())).1 (f301 a1.2).1);let e2_:=((Vx.AG mf az (Vx.AG me az e12_ e13_) e9_),());let e3_:=((f499 ((a0.1,a0.2),(a1.1,a1.2),())).1.1 !=(f501 ((Vx.AG me az e11_ e14_),())).1);let e4_:=((Vx.AG gy az e13_ e12_),());let e10_:=((Vx.AG gy az (f301 (a0.1,())).1 (f301 (a1.1,())).1),());let e5_:=((f497 ((a0.1,a0.2),(a1.1,a1.2),())).1.1 !=(f501 e10_).1);let e6_:=e11_;let e7_:=((Vx.AG gy az (f301 a0.2).1 (f301 a1.2).1),());let e8_:=e14_;bif(p474 ())then(bif(!(f474 ()).1)then(some (false,()))else bif(p301 (a0.1,()))then(bif(p301 a0.2)then(bif(p301 (a1.1,()))then(bif(p301 a1.2)then(bif(p497 ((a0.1,a0.2),(a1.1,a1.2),()))then(bif(p501 e10_)then(bif((p501 e7_)||(!(bif e5_ then false else true)))then(bif(e5_||((f497 ((a0.1,a0.2),(a1.1,a1.2),())).1.2.1 !=(f501 e7_).1))then(some (false,()))else bif(p499 ((a0.1,a0.2),(a1.1,a1.2),()))then(bif(p501 ((Vx.AG me az e6_ e8_),()))then(bif((p501 e4_)||(!(bif e3_ then false else true)))then(bif(e3_||((f499 ((a0.1,a0.2),(a1.1,a1.2),())).1.2.1 !=(f501 e4_).1))then(some (false,()))else bif(p500 ((a0.1,a0.2),(a1.1,a1.2),()))then(bif(p501 ((Vx.AG mf az (Vx.AG gy az e6_ e8_) e9_),()))then(bif((p501 e2_)||(!(decide ((f500 ((a0.1,a0.2),(a1.1,a1.2),())).1.1=e1_.1))))then(some ((((f500 ((a0.1,a0.2),(a1.1,a1.2),())).1.1==e1_.1)&&((f500 ((a0.1,a0.2),(a1.1,a1.2),())).1.2.1==(f501 e2_).1)),()))else none)else none)else none)else none)else none)else none)else none)else none)else none)else none)else none)else none)else none)else none
theorem aW6(x:DenS I502):run (cf [(9,⟨NA,Pf,p474,f474⟩),(18,⟨Yz,jG,p301,f301⟩),(19,⟨NC,Ph,p497,f497⟩),(21,⟨NE,Pj,p499,f499⟩),(22,⟨NF,Pk,p500,f500⟩),(20,⟨NG,Pl,p501,f501⟩)] []) 9 4 Tryz.f4 I502 QS x=iC p474 f474 p301 f301 p497 f497 p499 f499 p500 f500 p501 f501 x.1 x.2.1:=by kernel_rfl
def T502(x:DenS I502):Option (DenS QS):=iC PX.pre PX.F F5.pre F5.F PY.pre PY.F P0.pre P0.F P1.pre P1.F P2.pre P2.F x.1 x.2.1
def aMY:Sum:=Ai I502 QS T502 (DenS.dflt QS)
theorem S502_sound:Sound Tryz.prog G1 4 aMY:=sd (cf [(9,PX),(18,F5),(19,PY),(21,P0),(22,P1),(20,P2)] []) 4 Tryz.f4 ⟨aMR,v6,aMS,aMU,aMW,aMX,trivial⟩ trivial I502 QS T502 _ (fun _=>aW6 ..)
abbrev aOW:=Ae I502
abbrev aPJ:=Ad I502 QS
variable (p502:aOW)(f502:aPJ)
abbrev uU:Aa:=[(true,.pair (.int .u64) (.pair (.int .u64) (.unit))),(true,.pair (.int .u64) (.pair (.int .u64) (.unit)))]
abbrev aKA:Aa:=[(false,.bool)]
abbrev aOX:=Ae uU
abbrev aPK:=Ad uU aKA
variable (p503:aOX)(f503:aPK)
abbrev uV:Aa:=[(false,.int .i64),(false,.int .u64)]
abbrev aKB:Aa:=[(false,.int .u64)]
abbrev aOY:=Ae uV
abbrev aPL:=Ad uV aKB
variable (p504:aOY)(f504:aPL)
abbrev uW:Aa:=[(false,.int .i64),(false,.int .i64),(false,.slice (.pair (.int .u64) (.pair (.int .u64) (.unit)))),(true,.pair (.int .u64) (.pair (.int .u64) (.unit)))]
abbrev aKC:Aa:=[(true,.pair (.int .u64) (.pair (.int .u64) (.unit))),(false,.int .i64),(false,.int .i64)]
abbrev aLc:Pat:=⟨79,[(7,.one (.ptr 0 0)),(2,.one (.sl (.pair (.int .u64) (.pair (.int .u64) (.unit))))),(14,.one (.v .i64)),(0,.one (.v .i64)),(13,.one (.ptr 3 0)),(12,.one (.ptr 2 0)),(8,.one (.ptr 1 0))],[.raw [.v .u64,.v .u64],.raw [.v .u64,.v .u64],.raw [.v .i64,.v .i64,.v .i64],.raw [.v .u64,.v .u64]]⟩
abbrev aOn:List (Nat×Pat):=[(0,⟨79,[(0,.one (.v .i64)),(13,.one (.ptr 3 0)),(12,.one (.ptr 2 0)),(8,.one (.ptr 1 0))],[.gone,.raw [.v .u64,.v .u64],.raw [.v .i64,.v .i64,.v .i64],.raw [.v .u64,.v .u64]]⟩)]
abbrev aLt:Option Pat:=none
variable (w505_14:Pat.D aLc->Option (Ag aOn aLt))
abbrev aCa:=Ae uW
abbrev aDF:=Ad uW aKC
variable (p505:aCa)(f505:aDF)
abbrev uX:Aa:=[(false,.int .u64)]
abbrev aKD:Aa:=[(false,.int .u64)]
abbrev i7:LK:=.ref (.pair (.int .i64) (.pair (.int .i64) (.pair (.int .i64) .unit)))
abbrev aCb:=LK.D i7×DenS uX->Bool
abbrev aDG:=LK.D i7×DenS uX->LK.B i7×DenS aKD
variable (p506:aCb)(f506:aDG)
end Vx
namespace Vx
open Go Go.Proofs
variable (p69:Bl)(f69:Bm)(p91:Ga)(f91:Ge)(p65:Dk)(f65:Dl)(p140:SN)(f140:SX)(p70:CZ)(f70:C0)(p118:Ha)(f118:Hd)(p173:AT)(f173:AU)(p151:IZ)(f151:I2)(p171:P9)(f171:Qc)(p186:Rh)(f186:Rp)(p185:Rg)(f185:Ro)(p176:Rf)(f176:Rn)(p141:Rd)(f141:Rl)(p143:Ll)(f143:Lo)(p97:Ln)(f97:Lq)(p122:F8)(f122:Gc)(p144:Hb)(f144:He)(p333:kT)(f333:mL)(p311:ZY)(f311:aJ)(p313:ZZ)(f313:aK)(p324:kR)(f324:mJ)(p325:kS)(f325:mK)(p468:lM)(f468:nE)(p469:Z4)(f469:aP)(p470:Z5)(f470:aQ)(p473:Z6)(f473:aR)(p474:Z7)(f474:aS)(p475:aB4)(f475:aDz)(p476:lO)(f476:nG)(p67:lU)(f67:nM)(p74:lX)(f74:nP)(p76:lY)(f76:nQ)(p32:Y32)(f32:Z32)(p487:aB6)(f487:aDB)(p492:aB8)(f492:aDD)(p301:ZW)(f301:aH)(p494:Wk)(f494:Wu)(p306:ZX)(f306:aI)(p496:Z8)(f496:aT)(p497:lQ)(f497:nI)(p498:lR)(f498:nJ)(p499:lS)(f499:nK)(p500:lT)(f500:nL)(p505:aCa)(f505:aDF)(p506:aCb)(f506:aDG)
abbrev uY:Aa:=[(false,.int .i64),(false,.int .i64),(false,.slice (.pair (.int .u64) (.pair (.int .u64) (.unit)))),(true,.pair (.int .u64) (.pair (.int .u64) (.unit)))]
abbrev aKE:Aa:=[(true,.pair (.int .u64) (.pair (.int .u64) (.unit))),(false,.int .i64),(false,.int .i64)]
abbrev aLd:Pat:=⟨77,[(51,.one (.v .i64)),(50,.one (.sl (.pair (.int .u64) (.pair (.int .u64) (.unit))))),(7,.one (.ptr 0 0)),(52,.one (.v .i64)),(13,.one (.ptr 4 0)),(11,.one (.ptr 3 0)),(8,.one (.ptr 1 0))],[.raw [.v .u64,.v .u64],.raw [.v .u64,.v .u64],.gone,.raw [.v .i64,.v .i64,.v .i64],.raw [.v .u64,.v .u64]]⟩
abbrev aOo:List (Nat×Pat):=[(0,⟨77,[(13,.one (.ptr 4 0)),(11,.one (.ptr 3 0)),(8,.one (.ptr 1 0))],[.gone,.raw [.v .u64,.v .u64],.gone,.raw [.v .i64,.v .i64,.v .i64],.raw [.v .u64,.v .u64]]⟩)]
abbrev aLu:Option Pat:=none
variable (w507_12:Pat.D aLd->Option (Ag aOo aLu))
abbrev aOZ:=Ae uY
abbrev aPM:=Ad uY aKE
variable (p507:aOZ)(f507:aPM)
abbrev uZ:Aa:=[(false,.slice (.pair (.int .u64) (.pair (.int .u64) (.unit)))),(true,.pair (.int .u64) (.pair (.int .u64) (.unit)))]
abbrev aKF:Aa:=[(true,.pair (.int .u64) (.pair (.int .u64) (.unit))),(false,.int .i64)]
abbrev aLe:Pat:=⟨40,[(26,.one (.v .i64)),(25,.one (.sl (.pair (.int .u64) (.pair (.int .u64) (.unit))))),(7,.one (.cx .f64)),(27,.one (.v .i64)),(6,.one (.cx .f64)),(4,.one (.ptr 1 0))],[.gone,.raw [.v .u64,.v .u64]]⟩
abbrev aOp:List (Nat×Pat):=[(0,⟨40,[(6,.one (.cx .f64)),(4,.one (.ptr 1 0))],[.gone,.raw [.v .u64,.v .u64]]⟩)]
abbrev aLv:Option Pat:=none
variable (w508_7:Pat.D aLe->Option (Ag aOp aLv))
abbrev aO0:=Ae uZ
abbrev aPN:=Ad uZ aKF
variable (p508:aO0)(f508:aPN)
abbrev u5:Aa:=[(false,.int .i64),(false,.int .i64),(false,.slice (.pair (.int .u64) (.pair (.int .u64) (.unit)))),(true,.pair (.int .u64) (.pair (.int .u64) (.unit)))]
abbrev aKG:Aa:=[(false,.bool)]
abbrev aO1:=Ae u5
abbrev aPO:=Ad u5 aKG
variable (p509:aO1)(f509:aPO)
abbrev u6:Aa:=[(false,.int .i64),(false,.int .i64)]
abbrev aKH:Aa:=[(false,.int .i64)]
abbrev aO2:=Ae u6
abbrev aPP:=Ad u6 aKH
variable (p510:aO2)(f510:aPP)
abbrev u7:Aa:=[(true,.pair (.int .i64) (.pair (.int .i64) (.pair (.pair (.int .u64) (.pair (.int .u64) (.unit))) (.pair (.pair (.int .u64) (.pair (.int .u64) (.unit))) (.unit)))))]
abbrev aKI:Aa:=[(true,.pair (.int .i64) (.pair (.int .i64) (.pair (.pair (.int .u64) (.pair (.int .u64) (.unit))) (.pair (.pair (.int .u64) (.pair (.int .u64) (.unit))) (.unit)))))]
abbrev aO3:=Ae u7
abbrev aPQ:=Ad u7 aKI
variable (p511:aO3)(f511:aPQ)
abbrev t0:Aa:=[(false,.int .i64)]
abbrev aKa:Aa:=[(false,.bool)]
abbrev aOB:=Ae t0
abbrev aPo:=Ad t0 aKa
variable (p323:aOB)(f323:aPo)
abbrev t5:Aa:=[(false,.int .u64),(false,.int .i64)]
abbrev aKb:Aa:=[(false,.slice (.int .u64))]
abbrev aOC:=Ae t5
abbrev aPp:=Ad t5 aKb
variable (p326:aOC)(f326:aPp)
abbrev t6:Aa:=[(false,.slice (.int .u64))]
abbrev aKc:Aa:=[(false,.slice (.int .u64)),(false,.bool),(false,.int .i64)]
abbrev aK7:Pat:=⟨45,[(5,.one (.sl (.int .u64))),(0,.one (.sl (.int .u64)))],[]⟩
abbrev aOi:List (Nat×Pat):=[(0,⟨45,[(5,.one (.sl (.int .u64))),(0,.one (.sl (.int .u64)))],[]⟩)]
abbrev aLo:Option Pat:=none
variable (w334_7:Pat.D aK7->Option (Ag aOi aLo))
abbrev aOD:=Ae t6
abbrev aPq:=Ad t6 aKc
variable (p334:aOD)(f334:aPq)
abbrev t7:Aa:=[(false,.int .i64),(false,.int .i64),(false,.slice (.int .u64)),(false,.int .i64),(false,.bool)]
abbrev aKd:Aa:=[(false,.int .u64),(false,.int .i64),(false,.int .i64)]
abbrev aOE:=Ae t7
abbrev aPr:=Ad t7 aKd
variable (p335:aOE)(f335:aPr)
abbrev t8:Aa:=[(false,.int .i64),(false,.int .i64),(false,.int .u64),(false,.int .u64)]
abbrev aKe:Aa:=[(false,.int .u64),(false,.int .i64),(false,.int .i64)]
abbrev aOF:=Ae t8
abbrev aPs:=Ad t8 aKe
variable (p336:aOF)(f336:aPs)
abbrev u9:Aa:=[(false,.int .i64),(false,.int .i64),(true,.pair (.int .u64) (.pair (.int .u64) (.unit)))]
abbrev aKJ:Aa:=[(false,.int .u64),(false,.int .i64),(false,.int .i64)]
abbrev aO4:=Ae u9
abbrev aPR:=Ad u9 aKJ
variable (p512:aO4)(f512:aPR)
abbrev vB:Aa:=[(false,.int .i64),(false,.int .u64),(false,.int .u64)]
abbrev aKK:Aa:=[(false,.bool)]
abbrev aO5:=Ae vB
abbrev aPS:=Ad vB aKK
variable (p513:aO5)(f513:aPS)
abbrev vC:Aa:=[(false,.int .i64),(true,.pair (.int .u64) (.pair (.int .u64) (.unit))),(true,.pair (.int .u64) (.pair (.int .u64) (.unit)))]
abbrev aKL:Aa:=[(false,.bool)]
abbrev aO6:=Ae vC
abbrev aPT:=Ad vC aKL
variable (p514:aO6)(f514:aPT)
abbrev t9:Aa:=[(false,.int .i64),(false,.bool),(false,.int .u64),(false,.int .u64)]
abbrev aKf:Aa:=[(false,.int .u64),(false,.int .i64)]
abbrev aOG:=Ae t9
abbrev aPt:=Ad t9 aKf
variable (p349:aOG)(f349:aPt)
abbrev vD:Aa:=[(true,.pair (.int .i64) (.pair (.int .i64) (.pair (.pair (.int .u64) (.pair (.int .u64) (.unit))) (.pair (.pair (.int .u64) (.pair (.int .u64) (.unit))) (.unit)))))]
abbrev aKM:Aa:=[(false,.bool)]
abbrev aO7:=Ae vD
abbrev aPU:=Ad vD aKM
variable (p515:aO7)(f515:aPU)
abbrev vE:Aa:=[(false,.flt .f64)]
abbrev aKN:Aa:=[(false,.int .u64)]
abbrev aO8:=Ae vE
abbrev aPV:=Ad vE aKN
variable (p516:aO8)(f516:aPV)
abbrev vF:Aa:=[(true,.pair (.int .u64) (.pair (.int .u64) (.pair (.int .u64) (.pair (.int .u64) (.unit)))))]
abbrev aKO:Aa:=[(false,.bool)]
abbrev aO9:=Ae vF
abbrev aPW:=Ad vF aKO
variable (p517:aO9)(f517:aPW)
end Vx
namespace Vx
open Go
theorem At{I O:Aa}{T:DenS I->Option (DenS O)}{d:DenS O}{x:DenS I}{y:DenS O}(h:T x=some y):(Ai I O T d).pre x=true:=by
 show(T x).isSome=true;rw[h];rfl
theorem As{I O:Aa}{T:DenS I->Option (DenS O)}{d:DenS O}{x:DenS I}{y:DenS O}(h:T x=some y):(Ai I O T d).F x=y:=by
 show(T x).getD d=y;rw[h];rfl
theorem HE{k:LK}{I O:Aa}{T:k.D×DenS I->Option (k.B×DenS O)}{d:k.B×DenS O}{x:k.D×DenS I}{y:k.B×DenS O}(h:T x=some y):(Eh k I O T d).pre x=true:=by
 show(T x).isSome=true;rw[h];rfl
theorem HD{k:LK}{I O:Aa}{T:k.D×DenS I->Option (k.B×DenS O)}{d:k.B×DenS O}{x:k.D×DenS I}{y:k.B×DenS O}(h:T x=some y):(Eh k I O T d).F x=y:=by
 show(T x).getD d=y;rw[h];rfl
theorem C7{x y}(h:SI x=some y):Al.pre x=true:=At h
theorem C3{x y}(h:SI x=some y):Al.F x=y:=As h
theorem Hy{x y}(h:VY x=some y):Ao.pre x=true:=At h
theorem Hq{x y}(h:VY x=some y):Ao.F x=y:=As h
theorem dL{x y}(h:V1 x=some y):Bk.pre x=true:=At h
theorem cO{x y}(h:V1 x=some y):Bk.F x=y:=As h
theorem rO{x y}(h:V0 x=some y):C9.pre x=true:=At h
theorem pM{x y}(h:V0 x=some y):C9.F x=y:=As h
theorem QF{x y}(h:SH x=some y):AS.pre x=true:=At h
theorem Qw{x y}(h:SH x=some y):AS.F x=y:=As h
theorem dK{x y}(h:SJ x=some y):AO.pre x=true:=At h
theorem cN{x y}(h:SJ x=some y):AO.F x=y:=As h
theorem rR{x y}(h:V4 x=some y):BM.pre x=true:=At h
theorem pP{x y}(h:V4 x=some y):BM.F x=y:=As h
theorem aHo{x y}(h:VZ x=some y):P4.pre x=true:=At h
theorem aFJ{x y}(h:VZ x=some y):P4.F x=y:=As h
theorem aG6{x y}(h:Q2 x=some y):AE.pre x=true:=At h
theorem aFs{x y}(h:Q2 x=some y):AE.F x=y:=As h
theorem aTR{x y}(h:So x=some y):AH.pre x=true:=At h
theorem aRs{x y}(h:So x=some y):AH.F x=y:=As h
theorem aTS{x y}(h:U5 x=some y):KM.pre x=true:=At h
theorem aRt{x y}(h:U5 x=some y):KM.F x=y:=As h
theorem aTT{x y}(h:U8 x=some y):DE.pre x=true:=At h
theorem aRu{x y}(h:U8 x=some y):DE.F x=y:=As h
theorem rG{x y}(h:U9 x=some y):Bt.pre x=true:=At h
theorem pE{x y}(h:U9 x=some y):Bt.F x=y:=As h
theorem Xy{x y}(h:U3 x=some y):Bp.pre x=true:=At h
theorem W0{x y}(h:U3 x=some y):Bp.F x=y:=As h
theorem aTX{x y}(h:Ve x=some y):Pv.pre x=true:=At h
theorem aRy{x y}(h:Ve x=some y):Pv.F x=y:=As h
theorem aG3{x y}(h:UX x=some y):EK.pre x=true:=At h
theorem aFp{x y}(h:UX x=some y):EK.F x=y:=As h
theorem CU{x y}(h:Q5 x=some y):Ah.pre x=true:=At h
theorem CT{x y}(h:Q5 x=some y):Ah.F x=y:=As h
theorem aTW{x y}(h:Vd x=some y):Ct.pre x=true:=At h
theorem aRx{x y}(h:Vd x=some y):Ct.F x=y:=As h
theorem rE{x y}(h:Sn x=some y):BK.pre x=true:=At h
theorem pC{x y}(h:Sn x=some y):BK.F x=y:=As h
theorem aHa{x y}(h:Vj x=some y):B4.pre x=true:=At h
theorem aFw{x y}(h:Vj x=some y):B4.F x=y:=As h
theorem RT{x y}(h:Sq x=some y):BL.pre x=true:=At h
theorem RF{x y}(h:Sq x=some y):BL.F x=y:=As h
theorem aTZ{x y}(h:Vi x=some y):G7.pre x=true:=At h
theorem aRA{x y}(h:Vi x=some y):G7.F x=y:=As h
theorem aTY{x y}(h:Vf x=some y):Sg.pre x=true:=At h
theorem aRz{x y}(h:Vf x=some y):Sg.F x=y:=As h
theorem aG5{x y}(h:U1 x=some y):BG.pre x=true:=At h
theorem aFr{x y}(h:U1 x=some y):BG.F x=y:=As h
theorem aTP{x y}(h:U0 x=some y):Pt.pre x=true:=At h
theorem aRq{x y}(h:U0 x=some y):Pt.F x=y:=As h
theorem aG9{x y}(h:Sr x=some y):Cu.pre x=true:=At h
theorem aFv{x y}(h:Sr x=some y):Cu.F x=y:=As h
theorem rP{x y}(h:V2 x=some y):BW.pre x=true:=At h
theorem pN{x y}(h:V2 x=some y):BW.F x=y:=As h
theorem aT0{x y}(h:Vk x=some y):Pw.pre x=true:=At h
theorem aRB{x y}(h:Vk x=some y):Pw.F x=y:=As h
theorem dE{x y}(h:Su x=some y):Sl.pre x=true:=At h
theorem cF{x y}(h:Su x=some y):Sl.F x=y:=As h
theorem rK{x y}(h:Q8 x=some y):CY.pre x=true:=At h
theorem pI{x y}(h:Q8 x=some y):CY.F x=y:=As h
theorem rJ{x y}(h:P6 x=some y):D2.pre x=true:=At h
theorem pH{x y}(h:P6 x=some y):D2.F x=y:=As h
theorem XA{x y}(h:Q6 x=some y):Di.pre x=true:=At h
theorem W2{x y}(h:Q6 x=some y):Di.F x=y:=As h
theorem QE{x y}(h:P5 x=some y):Em.pre x=true:=At h
theorem Qv{x y}(h:P5 x=some y):Em.F x=y:=As h
theorem Ua{x y}(h:Q7 x=some y):Sm.pre x=true:=At h
theorem Tn{x y}(h:Q7 x=some y):Sm.F x=y:=As h
theorem LS{x y}(h:Q3 x=some y):CQ.pre x=true:=At h
theorem LI{x y}(h:Q3 x=some y):CQ.F x=y:=As h
theorem aG7{x y}(h:Sp x=some y):G6.pre x=true:=At h
theorem aFt{x y}(h:Sp x=some y):G6.F x=y:=As h
theorem rQ{x y}(h:V3 x=some y):Cv.pre x=true:=At h
theorem pO{x y}(h:V3 x=some y):Cv.F x=y:=As h
theorem aUe{x y}(h:VI x=some y):IK.pre x=true:=At h
theorem aRP{x y}(h:VI x=some y):IK.F x=y:=As h
theorem rI{x y}(h:Vg x=some y):Sh.pre x=true:=At h
theorem pG{x y}(h:Vg x=some y):Sh.F x=y:=As h
theorem aG8{x y}(h:Vh x=some y):Si.pre x=true:=At h
theorem aFu{x y}(h:Vh x=some y):Si.F x=y:=As h
theorem aG4{x y}(h:UY x=some y):EL.pre x=true:=At h
theorem aFq{x y}(h:UY x=some y):EL.F x=y:=As h
theorem Xz{x y}(h:U6 x=some y):BH.pre x=true:=At h
theorem W1{x y}(h:U6 x=some y):BH.F x=y:=As h
theorem aUs{x y}(h:SK x=some y):P3.pre x=true:=At h
theorem aR3{x y}(h:SK x=some y):P3.F x=y:=As h
theorem rL{x y}(h:Vm x=some y):EN.pre x=true:=At h
theorem pJ{x y}(h:Vm x=some y):EN.F x=y:=As h
theorem aTO{x y}(h:UZ x=some y):EM.pre x=true:=At h
theorem aRp{x y}(h:UZ x=some y):EM.F x=y:=As h
theorem aUr{x y}(h:VX x=some y):En.pre x=true:=At h
theorem aR2{x y}(h:VX x=some y):En.F x=y:=As h
theorem aT1{x y}(h:Vl x=some y):KN.pre x=true:=At h
theorem aRC{x y}(h:Vl x=some y):KN.F x=y:=As h
theorem dF{x y}(h:Sw x=some y):Py.pre x=true:=At h
theorem cG{x y}(h:Sw x=some y):Py.F x=y:=As h
theorem aHd{x y}(h:Vw x=some y):Pz.pre x=true:=At h
theorem aFz{x y}(h:Vw x=some y):Pz.F x=y:=As h
theorem aHe{x y}(h:Vy x=some y):PA.pre x=true:=At h
theorem aFA{x y}(h:Vy x=some y):PA.F x=y:=As h
theorem aHf{x y}(h:Vz x=some y):PD.pre x=true:=At h
theorem aFB{x y}(h:Vz x=some y):PD.F x=y:=As h
theorem rM{x y}(h:Vn x=some y):AN.pre x=true:=At h
theorem pK{x y}(h:Vn x=some y):AN.F x=y:=As h
theorem aT2{x y}(h:Vo x=some y):DF.pre x=true:=At h
theorem aRD{x y}(h:Vo x=some y):DF.F x=y:=As h
theorem aT8{x y}(h:VA x=some y):KO.pre x=true:=At h
theorem aRJ{x y}(h:VA x=some y):KO.F x=y:=As h
theorem aT9{x y}(h:Sx x=some y):PE.pre x=true:=At h
theorem aRK{x y}(h:Sx x=some y):PE.F x=y:=As h
theorem aHg{x y}(h:VB x=some y):PF.pre x=true:=At h
theorem aFC{x y}(h:VB x=some y):PF.F x=y:=As h
theorem aHh{x y}(h:VC x=some y):PG.pre x=true:=At h
theorem aFD{x y}(h:VC x=some y):PG.F x=y:=As h
theorem aHi{x y}(h:VH x=some y):C8.pre x=true:=At h
theorem aFE{x y}(h:VH x=some y):C8.F x=y:=As h
theorem rF{x y}(h:Q1 x=some y):CX.pre x=true:=At h
theorem pD{x y}(h:Q1 x=some y):CX.F x=y:=As h
theorem aHb{x y}(h:Vp x=some y):Br.pre x=true:=At h
theorem aFx{x y}(h:Vp x=some y):Br.F x=y:=As h
theorem aHc{x y}(h:Vq x=some y):AP.pre x=true:=At h
theorem aFy{x y}(h:Vq x=some y):AP.F x=y:=As h
theorem aTU{x y}(h:Va x=some y):D1.pre x=true:=At h
theorem aRv{x y}(h:Va x=some y):D1.F x=y:=As h
theorem rH{x y}(h:Vb x=some y):Bq.pre x=true:=At h
theorem pF{x y}(h:Vb x=some y):Bq.F x=y:=As h
theorem aT3{x y}(h:Vr x=some y):BV.pre x=true:=HE h
theorem aRE{x y}(h:Vr x=some y):BV.F x=y:=HD h
theorem aT4{x y}(h:Vs x=some y):CC.pre x=true:=HE h
theorem aRF{x y}(h:Vs x=some y):CC.F x=y:=HD h
theorem aT5{x y}(h:Vt x=some y):D3.pre x=true:=HE h
theorem aRG{x y}(h:Vt x=some y):D3.F x=y:=HD h
theorem aT6{x y}(h:Vu x=some y):Px.pre x=true:=At h
theorem aRH{x y}(h:Vu x=some y):Px.F x=y:=As h
theorem aT7{x y}(h:Vv x=some y):D4.pre x=true:=At h
theorem aRI{x y}(h:Vv x=some y):D4.F x=y:=As h
theorem aTQ{x y}(h:U2 x=some y):Pu.pre x=true:=At h
theorem aRr{x y}(h:U2 x=some y):Pu.F x=y:=As h
theorem aTV{x y}(h:Vc x=some y):Dh.pre x=true:=At h
theorem aRw{x y}(h:Vc x=some y):Dh.F x=y:=As h
theorem aUa{x y}(h:VD x=some y):PH.pre x=true:=At h
theorem aRL{x y}(h:VD x=some y):PH.F x=y:=As h
theorem aUb{x y}(h:VE x=some y):PI.pre x=true:=At h
theorem aRM{x y}(h:VE x=some y):PI.F x=y:=As h
theorem aUc{x y}(h:VF x=some y):KP.pre x=true:=At h
theorem aRN{x y}(h:VF x=some y):KP.F x=y:=As h
theorem dG{x y}(h:VG x=some y):CR.pre x=true:=At h
theorem cH{x y}(h:VG x=some y):CR.F x=y:=As h
theorem aHj{x y}(h:Sy x=some y):PN.pre x=true:=At h
theorem aFF{x y}(h:Sy x=some y):PN.F x=y:=As h
theorem aUd{x y}(h:Sz x=some y):PO.pre x=true:=At h
theorem aRO{x y}(h:Sz x=some y):PO.F x=y:=As h
theorem aHk{x y}(h:KS x=some y):KQ.pre x=true:=At h
theorem cJ{x y}(h:KS x=some y):KQ.F x=y:=As h
theorem aUf{x y}(h:VJ x=some y):PP.pre x=true:=At h
theorem aRQ{x y}(h:VJ x=some y):PP.F x=y:=As h
theorem aUg{x y}(h:P7 x=some y):PQ.pre x=true:=At h
theorem aRR{x y}(h:P7 x=some y):PQ.F x=y:=As h
theorem dH{x y}(h:VK x=some y):CJ.pre x=true:=HE h
theorem cK{x y}(h:VK x=some y):CJ.F x=y:=HD h
theorem Jo{x y}(h:VM x=some y):Fl.pre x=true:=HE h
theorem Jg{x y}(h:VM x=some y):Fl.F x=y:=HD h
theorem aHl{x y}(h:VN x=some y):Fo.pre x=true:=HE h
theorem aFG{x y}(h:VN x=some y):Fo.F x=y:=HD h
theorem rN{x y}(h:VO x=some y):Fp.pre x=true:=HE h
theorem pL{x y}(h:VO x=some y):Fp.F x=y:=HD h
theorem aUh{x y}(h:VP x=some y):PR.pre x=true:=HE h
theorem aRS{x y}(h:VP x=some y):PR.F x=y:=HD h
theorem dI{x y}(h:Q9 x=some y):Fq.pre x=true:=HE h
theorem cL{x y}(h:Q9 x=some y):Fq.F x=y:=HD h
theorem aUi{x y}(h:Ra x=some y):PS.pre x=true:=At h
theorem aRT{x y}(h:Ra x=some y):PS.F x=y:=As h
theorem aHm{x y}(h:VQ x=some y):PT.pre x=true:=HE h
theorem aFH{x y}(h:VQ x=some y):PT.F x=y:=HD h
theorem aUj{x y}(h:VR x=some y):PU.pre x=true:=HE h
theorem aRU{x y}(h:VR x=some y):PU.F x=y:=HD h
theorem aUk{x y}(h:Rb x=some y):PW.pre x=true:=At h
theorem aRV{x y}(h:Rb x=some y):PW.F x=y:=As h
theorem aUl{x y}(h:VS x=some y):PX.pre x=true:=At h
theorem aRW{x y}(h:VS x=some y):PX.F x=y:=As h
theorem Ub{x y}(h:G9 x=some y):Dz.pre x=true:=At h
theorem To{x y}(h:G9 x=some y):Dz.F x=y:=As h
theorem dJ{x y}(h:VT x=some y):Fr.pre x=true:=At h
theorem cM{x y}(h:VT x=some y):Fr.F x=y:=As h
theorem aHn{x y}(h:SD x=some y):Fs.pre x=true:=At h
theorem aFI{x y}(h:SD x=some y):Fs.F x=y:=As h
theorem aUm{x y}(h:SE x=some y):PY.pre x=true:=At h
theorem aRX{x y}(h:SE x=some y):PY.F x=y:=As h
theorem aUn{x y}(h:VU x=some y):PZ.pre x=true:=At h
theorem aRY{x y}(h:VU x=some y):PZ.F x=y:=As h
theorem aUo{x y}(h:SF x=some y):P0.pre x=true:=At h
theorem aRZ{x y}(h:SF x=some y):P0.F x=y:=As h
theorem aUp{x y}(h:SG x=some y):P1.pre x=true:=At h
theorem aR0{x y}(h:SG x=some y):P1.F x=y:=As h
theorem aUq{x y}(h:VW x=some y):P2.pre x=true:=At h
theorem aR1{x y}(h:VW x=some y):P2.F x=y:=As h
end Vx
namespace Vx
open Go
theorem aHY{a:Int}(n:Nat)(hn:n<=64):AJ .u64 a (n:Int)=a/2^n:=by
 unfold AJ;rw[Int.fdiv_eq_ediv_of_nonneg]
 ·congr 2;simp[gm];omega
 ·exact Int.pow_nonneg (by omega)
theorem Jk{m:Nat}(h:m<2^64):(cu 64 (m:Int)).toNat=m:=by
 rw[BitVec.toNat_ofInt];omega
theorem WD{m n:Nat}(h:m<2^64)(hn:n<=64):Bs .u64 (m:Int) ((2^n-1:Nat):Int)=((m%2^n:Nat):Int):=by
 have h2:2^n<=2^64:=ak (by omega) hn;have h3:0<2^n:=aj n;have hlt:m%2^n<2^n:=bv _ h3;have key:(cu 64 (m:Int) &&& cu 64 ((2^n-1:Nat):Int)).toNat=m%2^n:=by
  rw[BitVec.toNat_and,Jk h,Jk (by omega),Nat.and_two_pow_sub_one_eq_mod]
 show IntKind.u64.wrap (((cu 64 (m:Int) &&& cu 64 ((2^n-1:Nat):Int)).toNat:Nat):Int)=_;rw[key];exact IntWalk.u64_in _ (by omega)
theorem XN{n:Nat}(hn:n<=63):A4 .u64 1 (n:Int)=((2^n:Nat):Int):=by
 have h2:2^n<=2^63:=ak (by omega) hn;have:(min (n:Int).toNat IntKind.u64.bits)=n:=by simp[gm];omega
 unfold A4;rw[this,Int.one_mul];have e:(2:Int)^n=((2^n:Nat):Int):=by simp
 rw[e];refine IntWalk.u64_in _ ⟨nw _,?_⟩;have:((2^n:Nat):Int)<=((2^63:Nat):Int):=Int.ofNat_le.2 h2;exact Int.le_trans this (by decide)
end Vx
namespace VL
open Go Vx
def Fm(f:Int):Prop:=0<=f/\f<4
instance (f:Int):Decidable (Fm f):=by unfold Fm;infer_instance
def fW(f:Int):Nat:=if f=0 then 16 else if f=1 then 16 else if f=2 then 32 else 64
def fP(f:Int):Nat:=if f=0 then 11 else if f=1 then 8 else if f=2 then 24 else 53
def fX(f:Int):Nat:=if f=0 then 15 else if f=1 then 127 else if f=2 then 127 else 1023
def BT(f:Int):Ab rowsSh:=((fW f:Int),((fP f:Int),((1-(fX f:Int)),((fX f:Int),()))))
theorem CP{f:Int}(h:Fm f):f=0∨f=1∨f=2∨f=3:=by
 obtain⟨h1,h2⟩:=h;omega
theorem sB{f:Int}(h:Fm f)(d:Ab rowsSh):k_rows.getD (ah f) d=BT f:=by
 rcases CP h with rfl|rfl|rfl|rfl<;>rfl
theorem Fx{f:Int}(h:Fm f):8<=fP f:=by
 rcases CP h with rfl|rfl|rfl|rfl<;>decide
theorem Gk{f:Int}(h:Fm f):fP f+5<=fW f:=by
 rcases CP h with rfl|rfl|rfl|rfl<;>decide
theorem Fy{f:Int}(h:Fm f):fW f<=64:=by
 rcases CP h with rfl|rfl|rfl|rfl<;>decide
theorem RC{f:Int}(h:Fm f):fX f<=1023:=by
 rcases CP h with rfl|rfl|rfl|rfl<;>decide
theorem aEX{f:Int}(h:Fm f):2*fX f+1=2^(fW f-fP f)-1:=by
 rcases CP h with rfl|rfl|rfl|rfl<;>decide
theorem Ax{n:Int}(h:-9223372036854775808<=n/\n<9223372036854775808):aa .i64 n=n:=IntWalk.i64_in n ⟨h.1,by omega⟩
theorem Ev{n:Int}(h:0<=n/\n<18446744073709551616):aa .u64 n=n:=IntWalk.u64_in n ⟨h.1,by omega⟩
theorem DP(a n:Nat)(hn:n<=64):AJ .u64 (a:Int) (n:Int)=((a/2^n:Nat):Int):=by
 rw[aHY n hn];simp
theorem DS(m n:Nat)(h:n<=m)(hm:m<=4611686018427387904):aa .i64 ((m:Int)-(n:Int))=((m-n:Nat):Int):=by
 rw[Ax (by omega)];omega
theorem RO(m n:Nat):((m:Int)==(n:Int))=(m==n):=by
 rw[ej];simp only[beq_iff_eq];omega
theorem Ji(m:Nat):((m:Int)==0)=(m==0):=RO m 0
theorem aSV(m n:Nat):((m:Int)!=(n:Int))=(m !=n):=by
 show(!((m:Int)==(n:Int)))=!(m==n);rw[RO]
theorem TX(m:Nat):((m:Int)!=0)=(m !=0):=aSV m 0
theorem qO(m n:Nat):(decide ((m:Int)<(n:Int)))=decide (m<n):=by
 rw[ej];simp
theorem A8(m:Nat):(decide (0<=(m:Int)))=true:=by simp
def Ak(f:Int)(a:Nat):Int:=if Fm f then(if a<2^fW f then 0 else 4)else 2
def eF(f:Int)(a:Nat):Nat:=a/2^(fP f-1)%2^(fW f-fP f)
def mF(f:Int)(a:Nat):Nat:=a%2^(fP f-1)
def sF(f:Int)(a:Nat):Bool:=a/2^(fW f-1)!=0
def C2(f:Int):Nat:=2^(fW f-fP f)-1
def Lr(f:Int)(a:Nat):Nat:=a%2^(fW f-1)
theorem IR{f:Int}(h:Fm f):SI (f,())=some (BT f,0,()):=by
 rcases CP h with rfl|rfl|rfl|rfl<;>kernel_rfl
theorem KT{f:Int}(h:¬Fm f):SI (f,())=some ((0,0,0,0,()),2,()):=by
 show iF f=_;unfold iF;have:(decide (f<(0:Int))||decide (f>=(4:Int)))=true:=by
  simp only[Fm]at h;simp only[Bool.or_eq_true,decide_eq_true_eq];omega
 rw[this];rfl
theorem aQv{f:Int}(h:¬Fm f)(a:Nat):Ak f a=2:=by unfold Ak;rw[if_neg h]
theorem aEs{f:Int}(h:Fm f){a:Nat}(ha:a<2^fW f):Ak f a=0:=by unfold Ak;rw[if_pos h,if_pos ha]
theorem aQw{f:Int}(h:Fm f){a:Nat}(ha:¬a<2^fW f):Ak f a=4:=by unfold Ak;rw[if_pos h,if_neg ha]
theorem Hl{f:Int}{a:Nat}(h:Ak f a=0):Fm f/\a<2^fW f:=by
 unfold Ak at h;split at h
 ·split at h
  ·exact⟨by assumption,by assumption⟩
  ·cases h
 ·cases h
theorem aEK{a n:Nat}:(a/2^n !=0)=decide (2^n<=a):=by
 rw[ej];simp[Nat.div_eq_zero_iff,aj]
theorem IQ(f:Int)(a:Nat)(ha:a<2^64):VY (f,(a:Int),())=some (Ak f a,()):=by
 show iE Al.pre Al.F f a=_;unfold iE;by_cases hf:Fm f
 ·simp only[C7 (IR hf),C3 (IR hf),cond_true,BT,A8,bh];rw[DP _ _ (Fy hf),TX,aEK];show(bif decide ((fW f:Int)<((64:Nat):Int))&&_ then _ else _)=_;rw[qO];have hw:=Fy hf;by_cases h:a<2^fW f
  ·have:(decide (fW f<64)&&decide (2^fW f<=a))=false:=by simp;intro _;exact h
   rw[this,aEs hf h];rfl
  ·have:(decide (fW f<64)&&decide (2^fW f<=a))=true:=by
    simp only[ae,decide_eq_true_eq];refine⟨?_,by omega⟩;rcases aq (fW f) 64 with h1|h1
    ·exact h1
    ·have:fW f=64:=by omega
     rw[this]at h;omega
   rw[this,aQw hf h];rfl
 ·simp only[C7 (KT hf),C3 (KT hf),cond_true,aQv hf];rfl
theorem Zy(n:Nat)(hn:n<=63):V1 ((n:Int),())=some (((2^n-1:Nat):Int),()):=by
 show iI n=_;unfold iI;have h2:2^n<=2^63:=ak (by omega) hn;have h1:0<2^n:=aj n;rw[A8,cond_true,XN hn];generalize 2^n=c at *
 rw[Ev (by omega)];have:(c:Int)-1=((c-1:Nat):Int):=by omega
 rw[this]
theorem kF{f:Int}(hf:Fm f)(a:Nat)(ha:a<2^64):V0 (BT f,(a:Int),())=some (sF f a,(eF f a:Int),(mF f a:Int),()):=by
 show iH Bk.pre Bk.F (BT f) a=_;unfold iH;have h1:=Fx hf;have h2:=Gk hf;have h3:=Fy hf;have e1:aa .i64 ((BT f).1-1)=((fW f-1:Nat):Int):=DS (fW f) 1 (by omega) (by omega);have e2:aa .i64 ((BT f).2.1-1)=((fP f-1:Nat):Int):=DS (fP f) 1 (by omega) (by omega);have e3:aa .i64 ((BT f).1-(BT f).2.1)=((fW f-fP f:Nat):Int):=DS (fW f) (fP f) (by omega) (by omega);have p1:=Zy (fW f-fP f) (by omega);have p2:=Zy (fP f-1) (by omega);rw[e1,e2,e3];simp only[A8,cond_true,dL p1,dL p2,cO p1,cO p2];rw[DP _ _ (by omega),DP _ _ (by omega),WD (ax (Nat.div_le_self _ _) ha) (by omega),WD ha (by omega),TX];rfl
def BN(f:Int)(a:Nat):Int:=bif eF f a==C2 f&&mF f a==0 then(bif sF f a then 2 else 9)else bif eF f a==C2 f&&mF f a/2^(fP f-2)!=0 then 1 else bif eF f a==C2 f then 0 else bif eF f a==0&&mF f a==0 then(bif sF f a then 5 else 6)else bif eF f a==0 then(bif sF f a then 4 else 7)else(bif sF f a then 3 else 8)
theorem Zw{f:Int}{a:Nat}(ha:a<2^64)(h:Ak f a=0):SH (f,(a:Int),())=some (BN f a,0,()):=by
 obtain⟨hf,h0⟩:=Hl h;show Uk Ao.pre Ao.F C9.pre C9.F Bk.pre Bk.F f a=_;unfold Uk;have h1:=Fx hf;have h2:=Gk hf;have h3:=Fy hf;have e3:aa .i64 ((BT f).1-(BT f).2.1)=((fW f-fP f:Nat):Int):=DS (fW f) (fP f) (by omega) (by omega);have e4:aa .i64 ((BT f).2.1-2)=((fP f-2:Nat):Int):=DS (fP f) 2 (by omega) (by omega);have p0:=IQ f a ha;have p1:=Zy (fW f-fP f) (by omega);have p2:=kF hf a ha;have hr:(decide (0<=f)&&decide (f<((4:Nat):Int)))=true:=by
  simp only[ae,decide_eq_true_eq];exact hf
 simp only[sB hf,e3,e4,hr,Hy p0,Hq p0,dL p1,cO p1,rO p2,pM p2,h,cond_true,A8,bh,bne_self_eq_false,cond_false];rw[DP _ _ (by omega),RO,Ji,Ji,TX];unfold BN C2;generalize(eF f a==2^(fW f-fP f)-1)=b1;generalize(mF f a==0)=b2;generalize(mF f a/2^(fP f-2)!=0)=b3;generalize(eF f a==0)=b4;generalize sF f a=b5;cases b1<;>cases b2<;>cases b3<;>cases b4<;>cases b5<;>rfl
theorem kE{f:Int}{a:Nat}(ha:a<2^64)(h:Ak f a≠0):SH (f,(a:Int),())=some (0,Ak f a,()):=by
 show Uk Ao.pre Ao.F C9.pre C9.F Bk.pre Bk.F f a=_;unfold Uk;have p0:=IQ f a ha;have:(Ak f a !=0)=true:=by simpa using h
 simp only[Hy p0,Hq p0,this,cond_true]
theorem aM6{f:Int}(hf:Fm f):UZ (f,())=some (((2^(fW f-1):Nat):Int),()):=by
 rcases CP hf with rfl|rfl|rfl|rfl<;>kernel_rfl
def BR(f:Int)(a:Nat):Int:=bif sF f a then -(Lr f a:Int)else Lr f a
def bK(f:Int)(a b:Nat):Int:=if Ak f a=0 then Ak f b else Ak f a
def nan(f:Int)(a:Nat):Bool:=eF f a==C2 f&&mF f a !=0
def Bu(f:Int)(a:Nat):Bool:=nan f a&&mF f a/2^(fP f-2)==0
theorem bL(f:Int)(a:Nat):(BN f a==1||BN f a==0)=nan f a:=by
 unfold BN nan;simp only[bne];cases eF f a==C2 f<;>cases mF f a==0<;>cases sF f a<;>cases eF f a==0<;>cases mF f a/2^(fP f-2)==0<;>rfl
theorem bM(f:Int)(a:Nat):(BN f a==0)=Bu f a:=by
 unfold BN Bu nan;simp only[bne];cases eF f a==C2 f<;>cases hm:mF f a==0<;>cases sF f a<;>cases eF f a==0<;>cases mF f a/2^(fP f-2)==0<;>rfl
def bN(f:Int)(a b:Nat)(signal:Bool):Int×Int×Int×Unit:=if bK f a b≠0 then(0,0,bK f a b,())else bif nan f a||nan f b then(3,(bif signal then 1 else bif Bu f a||Bu f b then 1 else 0),0,())else if BR f a<BR f b then(0,0,0,())else if BR f a>BR f b then(2,0,0,())else(1,0,0,())
end VL
namespace VL
open Go Vx
theorem aYv{f:Int}{a:Nat}(h:nan f a=false):Bu f a=false:=by
 unfold Bu;rw[h];rfl
end VL
namespace VL
open Go Vx
theorem aTK{f:Int}{a:Nat}(h:Ak f a=0):a=Lr f a+(bif sF f a then 2^(fW f-1)else 0):=by
 obtain⟨hf,h0⟩:=Hl h;have h2:=Gk hf;have e:2^fW f=2*2^(fW f-1):=by rw[←jw];congr 1;omega
 unfold Lr sF;rw[aEK];by_cases hc:2^(fW f-1)<=a
 ·rw[decide_eq_true hc];simp only[cond_true];have:a%2^(fW f-1)=a-2^(fW f-1):=by
   rw[Nat.mod_eq_sub_mod hc,be (by omega)]
  omega
 ·rw[decide_eq_false hc];simp only[cond_false];rw[be (by omega)];rfl
theorem aDP{f:Int}(a:Nat):Lr f a<2^(fW f-1):=bv _ (aj _)
theorem aRo{f:Int}(hf:Fm f):0<C2 f:=by
 rcases CP hf with rfl|rfl|rfl|rfl<;>decide
def Cp(f:Int):Nat:=2^(fW f-1)-2^(fP f-2)
def aZd(f:Int)(neg:Bool):Nat:=bif neg then 2^(fW f-1)else 0
theorem Zx{f:Int}(hf:Fm f):SJ (f,())=some ((Cp f:Int),0,()):=by
 rcases CP hf with rfl|rfl|rfl|rfl<;>kernel_rfl
def aTM(f:Int)(a b:Nat)(g:Bool):Nat:=if BR f a=BR f b/\a≠b then aZd f (!g)else if(BR f b<BR f a/\g=false)∨(BR f a<BR f b/\g=true)then b else a
def oZ(f:Int)(a b:Nat):Int:=bif Bu f a||Bu f b then 1 else 0
def aG1(f:Int)(a b:Nat)(g:Bool):Int×Int×Int×Unit:=if bK f a b≠0 then(0,0,bK f a b,())else bif nan f a&&nan f b then((Cp f:Int),oZ f a b,0,())else bif nan f a then((b:Int),oZ f a b,0,())else bif nan f b then((a:Int),oZ f a b,0,())else((aTM f a b g:Int),0,0,())
end VL
namespace VL
open Go Vx
theorem aGP(k:Nat):Nat.testBit 1 k=decide (k=0):=by
 rw[ej];simp[Nat.testBit_one_eq_true_iff_self_eq_zero]
theorem aZa{m n:Nat}(h:m<2^(n+1)):m ^^^ 2^n=if m<2^n then m+2^n else m-2^n:=by
 apply Nat.eq_of_testBit_eq;intro i;rw[Nat.testBit_xor,Nat.testBit_two_pow];have h2:2^(n+1)=2*2^n:=jw;split
 ·rename_i hm;have:m+2^n=2^n*1+m:=by omega
  rw[this,ii _ hm];by_cases hi:i<n
  ·have:¬n=i:=by omega
   simp[hi,this]
  ·rw[if_neg hi,mu (al hm (ak (by omega) (by omega)))];rw[aGP];by_cases hn:n=i
   ·subst hn;simp
   ·have:¬i-n=0:=by omega
    simp[hn,this]
 ·rename_i hm;have e:m=2^n*1+(m-2^n):=by omega
  have hr:m-2^n<2^n:=by omega
  rw[e,ii _ hr];have e2:2^n*1+(m-2^n)-2^n=m-2^n:=by omega
  rw[e2];by_cases hi:i<n
  ·have:¬n=i:=by omega
   simp[hi,this]
  ·rw[if_neg hi,mu (x:=m-2^n) (al hr (ak (by omega) (by omega))),aGP];by_cases hn:n=i
   ·subst hn;simp
   ·have:¬i-n=0:=by omega
    simp[hn,this]
theorem aY9{m n:Nat}(hn:n<=63)(h:m<2^(n+1)):iV .u64 (m:Int) ((2^n:Nat):Int)=((if m<2^n then m+2^n else m-2^n:Nat):Int):=by
 have h1:2^(n+1)<=2^64:=ak (by omega) (by omega);have h2:2^n<2^64:=Nat.pow_lt_pow_right (by omega) (by omega);have h3:2^(n+1)=2*2^n:=jw;have key:(cu 64 (m:Int) ^^^ cu 64 ((2^n:Nat):Int)).toNat=if m<2^n then m+2^n else m-2^n:=by
  rw[BitVec.toNat_xor,Jk (by omega),Jk h2,aZa h]
 show IntKind.u64.wrap (((cu 64 (m:Int) ^^^ cu 64 ((2^n:Nat):Int)).toNat:Nat):Int)=_;rw[key];refine Ev ⟨nw _,?_⟩;split<;>omega
def Es(f:Int)(s:Bool)(n:Nat):Nat:=n+(bif s then 2^(fW f-1)else 0)
theorem aY0{f:Int}(hf:Fm f):2^fW f=2*2^(fW f-1):=by
 have h2:=Gk hf;rw[←jw];congr 1;omega
theorem qK{f:Int}(hf:Fm f)(s:Bool){n:Nat}(hn:n<2^(fW f-1)):Ak f (Es f s n)=0:=by
 apply aEs hf;rw[aY0 hf];unfold Es;cases s<;>simp<;>omega
theorem aTL{f:Int}{a:Nat}(h:Ak f a=0):a=Es f (sF f a) (Lr f a):=aTK h
theorem T5{f:Int}{a:Nat}(h:Ak f a=0):a<2^64:=by
 obtain⟨hf,h0⟩:=Hl h;exact al h0 (ak (by omega) (Fy hf))
def DC(f:Int):Nat:=2^(fP f-1)*C2 f
theorem aSh{f:Int}(hf:Fm f):DC f+128<=2^(fW f-1):=by
 rcases CP hf with rfl|rfl|rfl|rfl<;>decide
def QA(f:Int)(a:Nat):Nat:=Es f (!sF f a) (Lr f a)
theorem aGH{f:Int}(hf:Fm f)(a:Nat):Ak f (QA f a)=0:=qK hf _ (aDP a)
theorem aNL{f:Int}{a:Nat}(h:Ak f a=0):VX (f,(a:Int),())=some ((QA f a:Int),0,()):=by
 obtain⟨hf,h0⟩:=Hl h;show iD Ao.pre Ao.F EM.pre EM.F f a=_;unfold iD;have h2:=Gk hf;have h3:=Fy hf;have p0:=IQ f a (T5 h);have p1:=aM6 hf;simp only[Hy p0,Hq p0,aTO p1,aRp p1,h,cond_true,bne_self_eq_false,cond_false];rw[aY9 (by omega) (by rw[Nat.sub_add_cancel (by omega)];exact h0)];have e:(if a<2^(fW f-1)then a+2^(fW f-1)else a-2^(fW f-1))=QA f a:=by
  have hp:=aTL h;have hl:=aDP (f:=f) a;unfold QA;unfold Es at hp⊢;cases hs:sF f a<;>rw[hs]at hp<;>simp only[cond_true,cond_false,Bool.not_true,bp]at hp⊢
  ·rw[if_pos (by omega)];omega
  ·rw[if_neg (by omega)];omega
 rw[e]
def aSY(f:Int)(a:Nat)(w:Int):Nat:=bif(BN f a==9&&decide (w>0))||(BN f a==2&&decide (w<0))then a else if BR f a+w>0∨(BR f a+w=0/\w<0)then(BR f a+w).toNat else QA f (-(BR f a+w)).toNat
def aYF(f:Int)(a:Nat)(w:Int):Nat:=bif nan f a then Cp f else aSY f a w
def aYE(f:Int)(a:Nat)(w:Int):Int×Int×Int×Unit:=if Ak f a≠0 then(0,0,Ak f a,())else((aYF f a w:Int),(bif Bu f a then 1 else 0),0,())
theorem Xr{f:Int}(hf:Fm f):nan f (Cp f)=true/\Ak f (Cp f)=0:=by
 rcases CP hf with rfl|rfl|rfl|rfl<;>decide
end VL
namespace VL
open Go Vx
def nv(B:Nat):List Nat->Nat
 | []=>0
 |x::r=>x+B*nv B r
def Aj:List Nat->List Nat
 | []=>[]
 |x::r=>match Aj r with
  | []=>if x=0 then[]else[x]
  |y::t=>x::y::t
def dg(B:Nat)(n:Nat):List Nat:=if h:n=0∨B<2 then[]else n%B::dg B (n/B)
termination_by n
decreasing_by exact nh (by omega) (by omega)
theorem DI(B:Nat):dg B 0=[]:=by rw[dg];simp
theorem Fw{B n:Nat}(hB:2<=B)(hn:0<n):dg B n=n%B::dg B (n/B):=by
 rw[dg];rw[dif_neg (by omega)]
theorem Qk{B:Nat}(hB:2<=B):∀(n:Nat),∀x∈dg B n,x<B:=by
 intro n;induction n using ni with
 |ind n ih=>
  intro x hx;rcases ba n with rfl|hn
  ·rw[DI]at hx;simp at hx
  ·rw[Fw hB hn]at hx;rcases List.mem_cons.1 hx with rfl|hx
   ·exact bv _ (by omega)
   ·exact ih (n/B) (nh hn (by omega)) x hx
theorem cZ{B:Nat}(hB:2<=B):∀(n:Nat),nv B (dg B n)=n:=by
 intro n;induction n using ni with
 |ind n ih=>
  rcases ba n with rfl|hn
  ·rw[DI];rfl
  ·rw[Fw hB hn];simp only[nv];rw[ih (n/B) (nh hn (by omega))];exact Nat.mod_add_div n B
theorem aED{B x v:Nat}(hB:2<=B)(hx:x<B)(h:0<x+B*v):dg B (x+B*v)=x::dg B v:=by
 rw[Fw hB h,Nat.add_mul_mod_self_left,be hx,Nat.add_mul_div_left _ _ (by omega),Nat.div_eq_of_lt hx,dj]
theorem Gp{B:Nat}(hB:2<=B):∀(l:List Nat),(∀x∈l,x<B)->Aj l=dg B (nv B l)
 | [],_=>by simp only[nv];rw[DI];rfl
 |x::r,h=>by
  have ih:=Gp hB r fun y hy=>h y (by simp[hy])
  simp only[Aj,nv]
  rcases ba (nv B r)with h0|h0
  ·rw[ih,h0,DI,fi,dc]
   simp only
   rcases ba x with rfl|hx
   ·rw[DI];rfl
   ·rw[if_neg (by omega)]
    have:=aED (v:=0) hB (h x (by simp)) (by omega)
    rw[fi,dc,DI]at this
    exact this.symm
  ·have hp:0<B*nv B r:=Nat.mul_pos (by omega) h0
   rw[aED hB (h x (by simp)) (by omega),ih]
   rw[Fw hB h0]
theorem DD:∀(l:List Nat),(Aj l).length<=l.length/\Aj l=l.take (Aj l).length
 | []=>⟨bf _,rfl⟩
 |x::r=>by
  obtain⟨h1,h2⟩:=DD r
  simp only[Aj]
  cases e:Aj r with
  |nil=>
   simp only
   split
   ·exact⟨by simp,rfl⟩
   ·exact⟨by simp,rfl⟩
  |cons y t=>
   rw[e]at h1 h2
   simp only
   refine⟨by simp at h1⊢;omega,?_⟩
   simp only[fw,List.take_succ_cons]
   congr 1
theorem sZ:∀(l:List Nat) (i:Nat),(Aj l).length<=i->l.getD i 0=0
 | [],i,_=>by simp
 |x::r,i,h=>by
  have ih:=sZ r
  simp only[Aj]at h
  cases e:Aj r with
  |nil=>
   rw[e]at h ih
   simp only at h
   cases i with
   |zero=>
    split at h
    ·rename_i hx;simp[hx]
    ·simp at h
   |succ i=>simpa using ih i (by simp)
  |cons y t=>
   rw[e]at h ih
   simp only at h
   cases i with
   |zero=>simp at h
   |succ i=>simpa using ih i (by simpa using h)
theorem XY:∀(l:List Nat),0<(Aj l).length->l.getD ((Aj l).length-1) 0≠0
 | [],h=>by simp[Aj]at h
 |x::r,h=>by
  have ih:=XY r
  simp only[Aj]at h⊢
  cases e:Aj r with
  |nil=>
   rw[e]at h
   simp only at h⊢
   split at h
   ·simp at h
   ·rename_i hx;rw[if_neg hx];simpa using hx
  |cons y t=>
   rw[e]at ih
   simp only[fw]at ih⊢
   have:=ih (by simp)
   simpa using this
def Wd(l:List Nat):List Int:=l.map fun n:Nat=>(n:Int)
theorem AF(l:List Nat):(Wd l).length=l.length:=by simp[Wd]
theorem CD(l:List Nat)(i:Nat):(Wd l).getD i 0=((l.getD i 0:Nat):Int):=by
 unfold Wd;rw[ai,ai,List.getElem?_map];cases l[i]?<;>simp
theorem ZP(l:List Nat)(n:Nat):(Wd l).take n=Wd (l.take n):=by simp[Wd,List.map_take]
theorem aN7(l:List Nat)(n:Nat):(Wd l).drop n=Wd (l.drop n):=by simp[Wd,List.map_drop]
theorem EQ(l:List Nat)(i n:Nat):(Wd l).set i (n:Int)=Wd (l.set i n):=by simp[Wd,List.map_set]
theorem Wc(n:Nat):ap n (0:Int)=Wd (ap n 0):=by simp[Wd]
end VL
namespace VL
open Go Vx
def Ws(l:List Nat):Prop:=(∀x∈l,x<2^64)/\l.length<=1000000
theorem aNU(l:List Nat)(hl:l.length<=1000000)(n:Nat)(hn:n<=l.length)(ht:(Aj l).length<=n):
  ZD ((Wd l,((n:Int),())),())=some (.inl ((Wd l,(((Aj l).length:Int),())),())):=by
 have key:=Er aGi (fun x=>x.1.2.1.toNat)
  (fun x=>∃n:Nat,n<=l.length/\(Aj l).length<=n/\x=((Wd l,((n:Int),())),()))
  (fun _=>.inl ((Wd l,(((Aj l).length:Int),())),())) ?_ ((Wd l,((n:Int),())),()) ⟨n,hn,ht,rfl⟩
 ·exact key
 intro L x hx hL;obtain⟨n,hn,ht,rfl⟩:=hx;unfold Ty;rcases ba n with rfl|hpos
 ·have e1:decide (((0:Nat):Int)>0)=false:=rfl;simp only[e1,bp,Bool.or_true,cond_true,Bool.false_and,cond_false];have:(Aj l).length=0:=by omega
  rw[this]
 ·have e0:aa .i64 ((n:Int)-1)=((n-1:Nat):Int):=DS n 1 (by omega) (by omega);have e1:decide ((n:Int)>0)=true:=by simp;omega
  have e2:(decide ((0:Int)<=((n-1:Nat):Int))&&decide (((n-1:Nat):Int)<((Wd l).length:Int)))=true:=by
   rw[AF];simp;omega
  simp only[e0,e1,e2,bh,cond_true,Bool.true_and,ag,CD,Ji];cases hz:(l.getD (n-1) 0==0)with
  |true=>
   simp only[cond_true];refine hL _ ⟨n-1,by omega,?_,rfl⟩ (by simp only[ag];omega);rcases aq (n-1) (Aj l).length with h|h
   ·exfalso;have e:n=(Aj l).length:=by omega
    have:=XY l (by omega);rw[←e]at this;exact this (by simpa using hz)
   ·exact h
  |false=>
   simp only[cond_false];have:(Aj l).length=n:=by
    rcases aq (n-1) (Aj l).length with h|h
    ·omega
    ·exfalso;have:=sZ l (n-1) h;rw[this]at hz;simp at hz
   rw[this]
theorem DG(l:List Nat)(hl:l.length<=1000000):Q5 (Wd l,())=some (Wd (Aj l),()):=by
 show fI ZD (Wd l)=_;unfold fI;have h:=aNU l hl l.length (bf _) (DD l).1;rw[AF];rw[h];have e:(decide ((0:Int)<=((Aj l).length:Int))&&decide (((Aj l).length:Int)<=((Wd l).length:Int)))=true:=by
  rw[AF];have:=(DD l).1;simp;omega
 show(bif(decide ((0:Int)<=((Aj l).length:Int))&&decide (((Aj l).length:Int)<=((Wd l).length:Int)))then some (List.drop (ah 0) (List.take (ah ((Aj l).length:Int)) (Wd l)),())else none)=_;rw[e,cond_true,ag,Int.toNat_zero,List.drop_zero,ZP];have:=(DD l).2;rw[←this]
def Am(n:Nat):Nat:=if n=0 then 0 else Nat.log2 n+1
theorem Qg(n:Nat):n<2^Am n:=by
 unfold Am;split
 ·subst_vars;decide
 ·exact Nat.lt_log2_self
theorem Rw{n:Nat}(h:n≠0):2^(Am n-1)<=n:=by
 unfold Am;rw[if_neg h];exact Nat.log2_self_le h
theorem aQm{n k:Nat}(h1:2^k<=n)(h2:n<2^(k+1)):Am n=k+1:=by
 have hp:=aj k;have hn:n≠0:=by omega
 have a1:=Qg n;have a2:=Rw hn;have b1:Am n-1<k+1:=(cd (by decide)).1 (ax a2 h2);have b2:k<Am n:=(cd (by decide)).1 (ax h1 a1);omega
theorem nZ{n k:Nat}(h:2^k<=n):Am n=k+Am (n/2^k):=by
 have hp:=aj k;have hq:0<n/2^k:=Nat.div_pos h hp;have a1:=Qg (n/2^k);have a2:=Rw (n:=n/2^k) (by omega);have hb:0<Am (n/2^k):=by unfold Am;rw[if_neg (by omega)];omega
 have h1:2^(k+(Am (n/2^k)-1))<=n:=by
  rw[bb];calc 2^k*2^(Am (n/2^k)-1)<=2^k*(n/2^k):=Nat.mul_le_mul_left _ a2
   _<=n:=Nat.mul_div_le n _
 have h2:n<2^(k+(Am (n/2^k)-1)+1):=by
  rw[show k+(Am (n/2^k)-1)+1=k+Am (n/2^k) by omega,bb,ar];exact(bm hp).1 a1
 have:=aQm h1 h2;omega
theorem aF3:∀i:Nat,i<256->(Ht.getD i 0).toNat=Am i:=by
 have h:((List.range 256).all fun i=>decide ((Ht.getD i 0).toNat=Am i))=true:=by decide +kernel
 intro i hi;have:=List.all_eq_true.1 h i (List.mem_range.2 hi);simpa using this
theorem xX(n:Nat)(hn:n<2^64):Vj ((n:Int),())=some ((Am n:Int),()):=by
 have hs:∀m k:Nat,k<=64->AJ .u64 (m:Int) (k:Int)=((m/2^k:Nat):Int):=fun m k hk=>DP m k hk;have RY:∀m:Nat,AJ .u64 (m:Int) 32=((m/2^32:Nat):Int):=fun m=>hs m 32 (by decide);have s16:∀m:Nat,AJ .u64 (m:Int) 16=((m/2^16:Nat):Int):=fun m=>hs m 16 (by decide);have s8:∀m:Nat,AJ .u64 (m:Int) 8=((m/2^8:Nat):Int):=fun m=>hs m 8 (by decide);have ge:∀m k:Nat,decide ((m:Int)>=(k:Int))=decide (k<=m):=fun m k=>by rw[ej];simp
 have g32:∀m:Nat,decide ((m:Int)>=4294967296)=decide (2^32<=m):=fun m=>ge m (2^32);have g16:∀m:Nat,decide ((m:Int)>=65536)=decide (2^16<=m):=fun m=>ge m (2^16);have g8:∀m:Nat,decide ((m:Int)>=256)=decide (2^8<=m):=fun m=>ge m (2^8);have tab:∀m:Nat,m<256->aa .u8 (m:Int)=(m:Int):=fun m hm=>IntWalk.u8_in _ (by omega);have look:∀(m:Nat) (c:Int) (d:Nat),m<256->c=(d:Int)->d<=56->(bif(decide ((0:Int)<=aa .u8 (m:Int))&&decide (aa .u8 (m:Int)<(256:Int)))then(some (aa .i64 (c+aa .i64 ((UInt8.toNat (Ht.getD (ah (aa .u8 (m:Int))) 0):Nat):Int)),()):Option (DenS EG))else none)=some (((d+Am m:Nat):Int),()):=fun m c d hm hc hd=>by
  have e:(decide ((0:Int)<=(m:Int))&&decide ((m:Int)<(256:Int)))=true:=by simp;omega
  have hb:Am m<=8:=by
   have:=aF3 m hm;rcases ba m with rfl|hpos
   ·decide
   ·have:=Rw (n:=m) (by omega);have h8:Am m-1<8:=(cd (a:=2) (by decide)).1 (ax this hm);omega
  rw[tab m hm,e,cond_true,ag,aF3 m hm,hc,Ax (n:=((Am m:Nat):Int)) (by omega),Ax (by omega)];rfl
 show fM n=_;unfold fM;have Ce:∀(k:Nat),2^k<=n->k+Am (n/2^k)=Am n:=fun k h=>(nZ h).symm;have dd:∀a b:Nat,n/2^a/2^b=n/2^(a+b):=fun a b=>by rw[Nat.div_div_eq_div_mul,←bb]
 have up:∀a b:Nat,2^b<=n/2^a->2^(a+b)<=n:=fun a b h=>by
  rw[bb,ar];exact(Nat.le_div_iff_mul_le (aj a)).1 h
 have down:∀a b:Nat,n/2^a<2^b->n<2^(a+b):=fun a b h=>by
  rw[bb,ar];exact(bm (aj a)).1 h
 have small:∀a:Nat,n<2^(a+8)->n/2^a<256:=fun a h=>by
  rw[bm (aj a),ar];rw[bb]at h;exact h
 simp only[RY,s16,s8,g32,g16,g8];by_cases h1:2^32<=n
 ·rw[decide_eq_true h1,cond_true];by_cases h2:2^16<=n/2^32
  ·rw[decide_eq_true h2,cond_true];by_cases h3:2^8<=n/2^32/2^16
   ·rw[decide_eq_true h3,cond_true];rw[dd 32 16]at h3;have hm:n/2^32/2^16/2^8=n/2^56:=by rw[dd 32 16,dd 48 8]
    refine(look (n/2^32/2^16/2^8) _ 56 (by rw[hm];exact small 56 hn) rfl (by decide)).trans ?_;rw[hm,Ce 56 (up 48 8 h3)]
   ·rw[decide_eq_false h3,cond_false];rw[dd 32 16]at h3;refine(look (n/2^32/2^16) _ 48 (by rw[dd 32 16];exact small 48 (down 48 8 (by omega))) rfl (by decide)).trans ?_;rw[dd 32 16,Ce 48 (up 32 16 h2)]
  ·rw[decide_eq_false h2,cond_false];by_cases h3:2^8<=n/2^32
   ·rw[decide_eq_true h3,cond_true];refine(look (n/2^32/2^8) _ 40 (by rw[dd 32 8];exact small 40 (down 32 16 (by omega))) rfl (by decide)).trans ?_;rw[dd 32 8,Ce 40 (up 32 8 h3)]
   ·rw[decide_eq_false h3,cond_false];refine(look (n/2^32) _ 32 (small 32 (down 32 8 (by omega))) rfl (by decide)).trans ?_;rw[Ce 32 h1]
 ·rw[decide_eq_false h1,cond_false];by_cases h2:2^16<=n
  ·rw[decide_eq_true h2,cond_true];by_cases h3:2^8<=n/2^16
   ·rw[decide_eq_true h3,cond_true];refine(look (n/2^16/2^8) _ 24 (by rw[dd 16 8];exact small 24 (by omega)) rfl (by decide)).trans ?_;rw[dd 16 8,Ce 24 (up 16 8 h3)]
   ·rw[decide_eq_false h3,cond_false];refine(look (n/2^16) _ 16 (small 16 (down 16 8 (by omega))) rfl (by decide)).trans ?_;rw[Ce 16 h2]
  ·rw[decide_eq_false h2,cond_false];by_cases h3:2^8<=n
   ·rw[decide_eq_true h3,cond_true];refine(look (n/2^8) _ 8 (small 8 (by omega)) rfl (by decide)).trans ?_;rw[Ce 8 h3]
   ·rw[decide_eq_false h3,cond_false];refine(look n 0 0 (by omega) rfl (by decide)).trans ?_;rw[dj]
end VL
end
