/- Part 5 of the proof. What is proved: symbolic execution of the functions, proved sound; what each function of the program computes, and that every run ends with it; what these functions compute, in plain numbers. Conditions: each theorem bears its own. -/
import Derived.Test.YtkkidampbmfagaaGreatDoorVxG4
import Derived.IntWalk
set_option linter.all false
set_option exponentiation.threshold 1000000
noncomputable section
open BitVec renaming getLsbD->qj,ofInt->bv,toNat_and->mi
open Bool renaming and_eq_true->ai,and_false->bm,and_true->bw,eq_iff_iff->cu,false_and->az,false_or->bp,not_false->bd,not_true->bg,or_eq_true->dl,or_false->ci,or_true->br,true_and->bh,true_or->be
open Go.IntKind renaming bits->jk,wrap->aa
open Int renaming natCast_nonneg->ox,tmod->jp,toNat->aj,toNat_natCast->ab
open List renaming getD_eq_getElem?_getD->al,length_cons->gk,mem_of_mem_take->fd,replicate->ax
open Nat renaming add_mul_div_left->fq,add_mul_mod_self_left->im,add_zero->de,div_eq_of_lt->bu,div_lt_iff_lt_mul->cn,div_lt_self->nu,eq_of_testBit_eq->jq,eq_zero_or_pos->bj,le_refl->cg,lt_of_le_of_lt->av,lt_of_lt_of_le->ah,lt_or_ge->au,mod_eq_of_lt->ar,mod_lt->bo,mul_add->bt,mul_assoc->ao,mul_comm->aq,mul_le_mul_left->ce,mul_mod_right->kx,mul_pos->gd,mul_zero->fm,pow_add->ap,pow_le_pow_right->ae,pow_lt_pow_iff_right->ct,pow_lt_pow_right->du,pow_succ->df,pow_succ'->kw,strongRecOn->nw,sub_add_cancel->oy,testBit_lt_two_pow->lu,testBit_two_pow->jz,testBit_two_pow_mul_add->jg,two_pow_pos->ag,zero_add->dw
namespace Vx
open Go Go.Proofs
variable (p69:BK)(f69:BL)(p66:Cm)(f66:Cn)(p65:Ep)(f65:Er)(p70:Ec)(f70:Ed)(p98:JP)(f98:JT)(p119:YQ)(f119:YY)(p155:C5)(f155:C6)(p123:Sq)(f123:Sw)(p118:JM)(f118:JQ)(p105:Uj)(f105:Uv)(p173:A5)(f173:A6)(p102:G2)(f102:G4)(p178:H6)(f178:H9)(p92:JO)(f92:JS)(p185:Uo)(f185:UA)(p141:Ul)(f141:Ux)(p143:Rd)(f143:Rh)(p97:Rf)(f97:Rj)(p107:Uk)(f107:Uw)(p122:H5)(f122:H8)(p115:YP)(f115:YX)(p64:Uu)(f64:UG)(p315:ER)(f315:ET)(p316:Uq)(f316:UC)(p40:Re)(f40:Ri)(p144:JN)(f144:JR)(p145:Um)(f145:Uy)(p311:pW)(f311:q9)(p312:pX)(f312:rA)(p313:pY)(f313:rB)(p314:pZ)(f314:rC)
abbrev NF:Ab:=[(true,.pair (.int .u64) (.pair (.int .u64) (.unit)))]
abbrev Pd:Ab:=[(false,.int .u64),(false,.bool)]
abbrev GQ:Pat:=⟨28,[(6,.one (.v .i64)),(2,.one (.v .u64)),(1,.one (.ptr 0 0))],[.raw [.v .u64,.v .u64]]⟩
abbrev bP:List (Nat×Shape):=[]
abbrev Mg:List (Nat×Pat):=[(0,⟨28,[(2,.one (.v .u64)),(1,.one (.ptr 0 0))],[.raw [.v .u64,.v .u64]]⟩)]
abbrev Lm:Option Pat:=none
variable (w317_2:Pat.D GQ->Option (Ah Mg Lm))
def Vg(p123:Sq)(f123:Sw)(p316:Uq)(f316:UC){R:Type}(L:Pat.D GQ->Option R)(e:Ah Mg Lm->Option R)(x:Pat.D GQ):Option R:=let e5_:=(aa .i64 ((63:Int)-x.1.1));let e4_:=(A7 .u64 x.1.2.1 (AQ .u64 (1:Int) e5_));let e1_:=((f316 (e4_,e4_,())).1,x.2);let e2_:=e4_;let e3_:=(aa .i64 (x.1.1+(1:Int)));bif(decide (x.1.1<(64:Int)))then(bif(decide ((0:Int)<=e5_))then(bif(p316 (e2_,e2_,()))then(bif(p123 e1_)then(bif(decide ((f123 e1_).1<=(0:Int)))then(((L ((e3_,e2_,(),()),x.2))))else(L ((e3_,x.1.2.1,(),()),x.2)))else none)else none)else none)else(e (.inl ((x.1.2.1,(),()),x.2)))
theorem aUo(d:Nat)(R:Type)(L:Pat.D GQ->Option R)(e:Ah Mg Lm->Option R)(x:Pat.D GQ):
  BA (cf [(117,⟨GA,Hx,p123,f123⟩),(67,⟨IT,Jf,p316,f316⟩)] [(137,2,LoopSpec.of GQ bP Mg Lm w317_2)]) (d+2) 137 (Bw Tryz.f137 2) GQ bP Mg Lm (R:=R) L e x=Vg p123 f123 p316 f316 L e x:=by kernel_rfl
theorem aFM(p123:Sq)(f123:Sw)(p316:Uq)(f316:UC):Bp fun L e x=>Vg p123 f123 p316 f316 L e x:=by intro _ _ _ _ _ _ _ h0 hL he _;unfold Vg;repeat' (first|exact h0|exact hL _|exact he _|apply BT|(apply BU h0;intro _)|(apply BV<;>intro _))
def k8(p123:Sq)(f123:Sw)(p316:Uq)(f316:UC)(w317_2:Pat.D GQ->Option (Ah Mg Lm))(a0:Aa (.pair (.int .u64) (.pair (.int .u64) (.unit)))):Option (DenS Pd):=
 Vx.AY (w317_2 (((0:Int),(0:Int),(),()),(a0.1,a0.2),())) fun y0=>
 Vx.A1 y0 (fun y1=>
 bif(p316 (y1.1.1,y1.1.1,()))then(some (y1.1.1,(((f316 (y1.1.1,y1.1.1,())).1.1==y1.2.1.1)&&((f316 (y1.1.1,y1.1.1,())).1.2.1==y1.2.1.2.1)),()))
 else none) (fun z1=>
 none)
theorem aR5(x:DenS NF):run (cf [(117,⟨GA,Hx,p123,f123⟩),(67,⟨IT,Jf,p316,f316⟩)] [(137,2,LoopSpec.of GQ bP Mg Lm w317_2)]) 9 137 Tryz.f137 NF Pd x=k8 p123 f123 p316 f316 w317_2 x.1:=by kernel_rfl
def YH:GQ.D->Option (Ah Mg Lm):=Bf fun L=>Vg Du.pre Du.F C1.pre C1.F L some
def TZ(x:DenS NF):Option (DenS Pd):=k8 Du.pre Du.F C1.pre C1.F YH x.1
def Qr:Sum:=Aj NF Pd TZ (DenS.dflt Pd)
theorem aJa:Sound Tryz.prog G1 137 Qr:=sd (cf [(117,Du),(67,C1)] [(137,2,LoopSpec.of GQ bP Mg Lm YH)]) 137 Tryz.f137 ⟨xW,yB,trivial⟩ ⟨rfl,fun d=>BR (fun L e x=>Vg Du.pre Du.F C1.pre C1.F L e x) (aFM Du.pre Du.F C1.pre C1.F) (fun _ _ _ _=>aUo ..),trivial⟩ NF Pd TZ _ (fun _=>aR5 ..)
abbrev aAZ:=Al NF
abbrev aCd:=Ak NF Pd
variable (p317:aAZ)(f317:aCd)
abbrev NG:Ab:=[(false,.int .i64),(false,.int .i64),(false,.int .u64)]
abbrev Pe:Ab:=[(false,.int .u64),(false,.int .i64),(false,.int .i64)]
def k9(p311:pW)(f311:q9)(p65:Ep)(f65:Er)(p312:pX)(f312:rA)(p313:pY)(f313:rB)(p314:pZ)(f314:rC)(p119:YQ)(f119:YY)(p317:aAZ)(f317:aCd)(p122:H5)(f122:H8)(a0 a1:Aa (.int .i64))(a2:Aa (.int .u64)):Option (DenS Pe):=let e16_:=(a0,(f311 (a0,a1,(a2::[]),())).1,a2,());let e15_:=(f313 e16_);let e14_:=((0:Int),e15_.1,());let e13_:=(e14_,());let e12_:=(aa .i64 ((126:Int)-(f314 e13_).1));let e11_:=(aa .i64 (e12_+(1:Int)));let e8_:=(e14_,e11_,());let e7_:=(f317 (f119 e8_));let e1_:=(a0,a1,false,((0:Int),e7_.1,()),(BC .i64 (aa .i64 (e15_.2.1-e11_)) (2:Int)),(!e7_.2.1),());let e10_:=(e14_,e12_,());let e9_:=(f317 (f119 e10_));let e2_:=(a0,a1,false,((0:Int),e9_.1,()),(BC .i64 (aa .i64 (e15_.2.1-e12_)) (2:Int)),(!e9_.2.1),());let e3_:=e8_;let e4_:=e10_;let e5_:=e13_;let e6_:=e16_;bif(p311 (a0,a1,(a2::[]),()))then(bif((f311 (a0,a1,(a2::[]),())).2.1 !=(0:Int))then(some ((0:Int),(0:Int),(f311 (a0,a1,(a2::[]),())).2))else bif(p65 (a0,a2,()))then(bif(p312 (a0,(f65 (a0,a2,())).1,()))then(bif(f312 (a0,(f65 (a0,a2,())).1,())).2.2.1 then(some ((f312 (a0,(f65 (a0,a2,())).1,())).1,(f312 (a0,(f65 (a0,a2,())).1,())).2.1,(0:Int),()))else bif((((f65 (a0,a2,())).1==(9:Int))||((f65 (a0,a2,())).1==(6:Int)))||((f65 (a0,a2,())).1==(5:Int)))then(some (a2,(0:Int),(0:Int),()))else bif(p313 e6_)then(bif(p314 e5_)then(bif((jp (aa .i64 ((f313 e6_).2.1-(aa .i64 ((126:Int)-(f314 e5_).1)))) (2:Int))!=(0:Int))then(bif(p119 e3_)then(bif(p317 (f119 e3_))then(bif(p122 e1_)then(some (f122 e1_))else none)else none)else none)else bif(p119 e4_)then(bif(p317 (f119 e4_))then(bif(p122 e2_)then(some (f122 e2_))else none)else none)else none)else none)else none)else none)else none)else none
theorem aR6(x:DenS NG):run (cf [(133,⟨NB,O9,p311,f311⟩),(55,⟨DM,DN,p65,f65⟩),(134,⟨NC,Pa,p312,f312⟩),(135,⟨ND,Pb,p313,f313⟩),(136,⟨NE,Pc,p314,f314⟩),(114,⟨Ho,I9,p119,f119⟩),(137,⟨NF,Pd,p317,f317⟩),(66,⟨E5,Fr,p122,f122⟩)] []) 9 92 Tryz.f92 NG Pe x=k9 p311 f311 p65 f65 p312 f312 p313 f313 p314 f314 p119 f119 p317 f317 p122 f122 x.1 x.2.1 x.2.2.1:=by kernel_rfl
def Xr(x:DenS NG):Option (DenS Pe):=k9 Qn.pre Qn.F AD.pre AD.F Qo.pre Qo.F Qp.pre Qp.F Qq.pre Qq.F AE.pre AE.F Qr.pre Qr.F A3.pre A3.F x.1 x.2.1 x.2.2.1
def Qs:Sum:=Aj NG Pe Xr (DenS.dflt Pe)
theorem aJb:Sound Tryz.prog G1 92 Qs:=sd (cf [(133,Qn),(55,AD),(134,Qo),(135,Qp),(136,Qq),(114,AE),(137,Qr),(66,A3)] []) 92 Tryz.f92 ⟨aI6,H3,aI7,aI8,aI9,xV,aJa,TH,trivial⟩ trivial NG Pe Xr _ (fun _=>aR6 ..)
abbrev aA0:=Al NG
abbrev aCe:=Ak NG Pe
variable (p318:aA0)(f318:aCe)
abbrev N1:Ab:=[(true,.pair (.int .i64) (.pair (.int .i64) (.pair (.int .u64) (.pair (.int .u64) (.pair (.int .u64) (.unit))))))]
abbrev Pv:Ab:=[(false,.int .u64),(false,.int .i64),(false,.int .i64)]
def lW(p318:aA0)(f318:aCe)(a0:Aa (.pair (.int .i64) (.pair (.int .i64) (.pair (.int .u64) (.pair (.int .u64) (.pair (.int .u64) (.unit))))))):Option (DenS Pv):=bif(p318 (a0.2.1,a0.1,a0.2.2.1,()))then(some (f318 (a0.2.1,a0.1,a0.2.2.1,())))else none
theorem aSy(x:DenS N1):run (cf [(92,⟨NG,Pe,p318,f318⟩)] []) 9 181 Tryz.f181 N1 Pv x=lW p318 f318 x.1:=by kernel_rfl
def XO(x:DenS N1):Option (DenS Pv):=lW Qs.pre Qs.F x.1
def LF:Sum:=Aj N1 Pv XO (DenS.dflt Pv)
theorem yF:Sound Tryz.prog G1 181 LF:=sd (cf [(92,Qs)] []) 181 Tryz.f181 ⟨aJb,trivial⟩ trivial N1 Pv XO _ (fun _=>aSy ..)
abbrev qD:=Al N1
abbrev rG:=Ak N1 Pv
variable (p396:qD)(f396:rG)
abbrev N2:Ab:=[(false,.int .i64),(false,.int .i64),(false,.slice (.int .u64))]
abbrev Pw:Ab:=[(false,.int .i64)]
abbrev HW:Pat:=⟨39,[(27,.one (.v .i64)),(26,.one (.sl (.int .u64))),(0,.one (.v .i64)),(28,.one (.v .i64))],[]⟩
abbrev bW:List (Nat×Shape):=[]
abbrev Mn:List (Nat×Pat):=[(0,⟨39,[],[]⟩)]
abbrev Lt:Option Pat:=(some ⟨39,[(6,.one (.v .i64))],[]⟩)
variable (w397_7:Pat.D HW->Option (Ah Mn Lt))
def ZM(p69:BK)(f69:BL)(p66:Cm)(f66:Cn){R:Type}(L:Pat.D HW->Option R)(e:Ah Mn Lt->Option R)(x:Pat.D HW):Option R:=let e2_:=(x.1.2.2.1,(x.1.2.1.getD (aj x.1.2.2.2.1) (0:Int)),());let e1_:=(f66 e2_);bif(decide (x.1.2.2.2.1<x.1.1))then(bif((decide ((0:Int)<=x.1.2.2.2.1))&&(decide (x.1.2.2.2.1<(x.1.2.1.length:Int))))then(bif(p66 e2_)then(bif(e1_.1 !=(0:Int))then(((e (.inr (e1_,())))))else(L ((x.1.1,x.1.2.1,x.1.2.2.1,(aa .i64 (x.1.2.2.2.1+(1:Int))),()),())))else none)else none)else(e (.inl ((),())))
theorem aUD(d:Nat)(R:Type)(L:Pat.D HW->Option R)(e:Ah Mn Lt->Option R)(x:Pat.D HW):
  BA (cf [(54,⟨Ck,Cl,p69,f69⟩),(59,⟨CI,CJ,p66,f66⟩)] [(138,7,LoopSpec.of HW bW Mn Lt w397_7)]) (d+2) 138 (Bw Tryz.f138 7) HW bW Mn Lt (R:=R) L e x=ZM p69 f69 p66 f66 L e x:=by kernel_rfl
theorem aOR(p69:BK)(f69:BL)(p66:Cm)(f66:Cn):Bp fun L e x=>ZM p69 f69 p66 f66 L e x:=by intro _ _ _ _ _ _ _ h0 hL he _;unfold ZM;repeat' (first|exact h0|exact hL _|exact he _|apply BT|(apply BU h0;intro _)|(apply BV<;>intro _))
def aH4(p69:BK)(f69:BL)(p66:Cm)(f66:Cn)(w397_7:Pat.D HW->Option (Ah Mn Lt))(a0 a1:Aa (.int .i64))(a2:Aa (.slice (.int .u64))):Option (DenS Pw):=
 bif(p69 (a0,()))then(bif((f69 (a0,())).2.1 !=(0:Int))then(some (f69 (a0,())).2)
 else bif((decide (a1<(0:Int)))||(decide (a1>(5:Int))))then(some ((3:Int),()))
 else Vx.AY (w397_7 (((a2.length:Int),a2,a0,(0:Int),()),())) fun y3=>
 Vx.A1 y3 (fun y4=>
 some ((0:Int),())) (fun z4=>
 some z4.1))
 else none
theorem aSz(x:DenS N2):run (cf [(54,⟨Ck,Cl,p69,f69⟩),(59,⟨CI,CJ,p66,f66⟩)] [(138,7,LoopSpec.of HW bW Mn Lt w397_7)]) 9 138 Tryz.f138 N2 Pw x=aH4 p69 f69 p66 f66 w397_7 x.1 x.2.1 x.2.2.1:=by kernel_rfl
def aAw:HW.D->Option (Ah Mn Lt):=Bf fun L=>ZM Aq.pre Aq.F Ar.pre Ar.F L some
def T7(x:DenS N2):Option (DenS Pw):=aH4 Aq.pre Aq.F Ar.pre Ar.F aAw x.1 x.2.1 x.2.2.1
def QJ:Sum:=Aj N2 Pw T7 (DenS.dflt Pw)
theorem aJy:Sound Tryz.prog G1 138 QJ:=sd (cf [(54,Aq),(59,Ar)] [(138,7,LoopSpec.of HW bW Mn Lt aAw)]) 138 Tryz.f138 ⟨Em,Gl,trivial⟩ ⟨rfl,fun d=>BR (fun L e x=>ZM Aq.pre Aq.F Ar.pre Ar.F L e x) (aOR Aq.pre Aq.F Ar.pre Ar.F) (fun _ _ _ _=>aUD ..),trivial⟩ N2 Pw T7 _ (fun _=>aSz ..)
abbrev aBi:=Al N2
abbrev aCw:=Ak N2 Pw
variable (p397:aBi)(f397:aCw)
abbrev Kv:Ab:=[(false,.int .i64),(false,.int .u64)]
abbrev KV:Ab:=[(true,.pair (.bool) (.pair (.bool) (.pair (.bool) (.pair (.bool) (.pair (.bool) (.pair (.pair (.bool) (.pair (.slice (.int .u64)) (.pair (.int .i64) (.unit)))) (.unit)))))))]
def lX(p65:Ep)(f65:Er)(p98:JP)(f98:JT)(p40:Re)(f40:Ri)(a0:Aa (.int .i64))(a1:Aa (.int .u64)):Option (DenS KV):=let e1_:=(((f65 (a0,a1,())).1==(2:Int))||((f65 (a0,a1,())).1==(9:Int)));bif(p65 (a0,a1,()))then(bif(p98 (a0,a1,()))then(bif((!(decide ((f65 (a0,a1,())).1<=(1:Int))))&&(!e1_))then(bif(p40 (a0,a1,()))then(some (((decide ((f65 (a0,a1,())).1<=(1:Int))),((f65 (a0,a1,())).1==(0:Int)),false,e1_,(f98 (a0,a1,())).1,(f40 (a0,a1,())).1,()),()))else none)else some (((decide ((f65 (a0,a1,())).1<=(1:Int))),((f65 (a0,a1,())).1==(0:Int)),false,e1_,(f98 (a0,a1,())).1,(false,[],(0:Int),()),()),()))else none)else none
theorem aSA(x:DenS Kv):run (cf [(55,⟨DM,DN,p65,f65⟩),(119,⟨Fj,Fv,p98,f98⟩),(71,⟨GC,GJ,p40,f40⟩)] []) 9 141 Tryz.f141 Kv KV x=lX p65 f65 p98 f98 p40 f40 x.1 x.2.1:=by kernel_rfl
def XP(x:DenS Kv):Option (DenS KV):=lX AD.pre AD.F Br.pre Br.F Cy.pre Cy.F x.1 x.2.1
def E9:Sum:=Aj Kv KV XP (DenS.dflt KV)
theorem yG:Sound Tryz.prog G1 141 E9:=sd (cf [(55,AD),(119,Br),(71,Cy)] []) 141 Tryz.f141 ⟨H3,R3,WO,trivial⟩ trivial Kv KV XP _ (fun _=>aSA ..)
abbrev qE:=Al Kv
abbrev rH:=Ak Kv KV
variable (p398:qE)(f398:rH)
abbrev KE:Ab:=[(true,.pair (.bool) (.pair (.slice (.int .u64)) (.pair (.int .i64) (.unit))))]
abbrev K4:Ab:=[(false,.int .i64)]
def nE(p102:G2)(f102:G4)(a0:Aa (.pair (.bool) (.pair (.slice (.int .u64)) (.pair (.int .i64) (.unit))))):Option (DenS K4):=bif(p102 (a0.2.1,()))then(bif(((f102 (a0.2.1,())).1.length:Int)==(0:Int))then(some ((0:Int),()))else bif a0.1 then(some ((-(1:Int)),()))else some ((1:Int),()))else none
theorem r47(x:DenS KE):run (cf [(122,⟨Fi,Fp,p102,f102⟩)] []) 9 196 Tryz.f196 KE K4 x=nE p102 f102 x.1:=by kernel_rfl
def Ub(x:DenS KE):Option (DenS K4):=nE Bh.pre Bh.F x.1
def DQ:Sum:=Aj KE K4 Ub (DenS.dflt K4)
theorem yX:Sound Tryz.prog G1 196 DQ:=sd (cf [(122,Bh)] []) 196 Tryz.f196 ⟨WK,trivial⟩ trivial KE K4 Ub _ (fun _=>r47 ..)
abbrev qS:=Al KE
abbrev rV:=Ak KE K4
variable (p47:qS)(f47:rV)
abbrev Kl:Ab:=[(true,.pair (.bool) (.pair (.slice (.int .u64)) (.pair (.int .i64) (.unit))))]
abbrev KH:Ab:=[(false,.int .i64)]
def jL(a0:Aa (.pair (.bool) (.pair (.slice (.int .u64)) (.pair (.int .i64) (.unit))))):Option (DenS KH):=bif(decide ((a0.2.1.length:Int)>(1024:Int)))then(some ((5:Int),()))else bif((decide (a0.2.2.1<(-(40000:Int))))||(decide (a0.2.2.1>(40000:Int))))then(some ((30:Int),()))else some ((0:Int),())
theorem aQ9(x:DenS Kl):run (cf [] []) 9 253 Tryz.f253 Kl KH x=jL x.1:=by kernel_rfl
def H4(x:DenS Kl):Option (DenS KH):=jL x.1
def E8:Sum:=Aj Kl KH H4 (DenS.dflt KH)
theorem xS:Sound Tryz.prog G1 253 E8:=sd (cf [] []) 253 Tryz.f253 trivial trivial Kl KH H4 _ (fun _=>aQ9 ..)
abbrev pQ:=Al Kl
abbrev qW:=Ak Kl KH
variable (p103:pQ)(f103:qW)
abbrev KF:Ab:=[(true,.pair (.bool) (.pair (.slice (.int .u64)) (.pair (.int .i64) (.unit)))),(true,.pair (.bool) (.pair (.slice (.int .u64)) (.pair (.int .i64) (.unit))))]
abbrev K5:Ab:=[(false,.int .i64)]
def Wn(p103:pQ)(f103:qW)(a0 a1:Aa (.pair (.bool) (.pair (.slice (.int .u64)) (.pair (.int .i64) (.unit))))):Option (DenS K5):=bif(p103 ((a0.1,a0.2),()))then(bif((f103 ((a0.1,a0.2),())).1 !=(0:Int))then(some (f103 ((a0.1,a0.2),())))else bif(p103 ((a1.1,a1.2),()))then(some (f103 ((a1.1,a1.2),())))else none)else none
theorem r99(x:DenS KF):run (cf [(253,⟨Kl,KH,p103,f103⟩)] []) 9 260 Tryz.f260 KF K5 x=Wn p103 f103 x.1 x.2.1:=by kernel_rfl
def Ra(x:DenS KF):Option (DenS K5):=Wn E8.pre E8.F x.1 x.2.1
def Gm:Sum:=Aj KF K5 Ra (DenS.dflt K5)
theorem yY:Sound Tryz.prog G1 260 Gm:=sd (cf [(253,E8)] []) 260 Tryz.f260 ⟨xS,trivial⟩ trivial KF K5 Ra _ (fun _=>r99 ..)
abbrev qV:=Al KF
abbrev rY:=Ak KF K5
variable (p99:qV)(f99:rY)
abbrev Hm:Ab:=[(true,.pair (.bool) (.pair (.slice (.int .u64)) (.pair (.int .i64) (.unit))))]
abbrev Hv:Ab:=[(true,.pair (.bool) (.pair (.slice (.int .u64)) (.pair (.int .i64) (.unit))))]
abbrev GO:Pat:=⟨42,[(4,.one (.v .i64)),(3,.one (.sl (.int .u64))),(1,.one (.ptr 0 0)),(2,.one (.ptr 1 0))],[.raw [.bool,.sl (.int .u64),.v .i64],.raw [.bool,.sl (.int .u64),.v .i64]]⟩
abbrev bA:List (Nat×Shape):=[]
abbrev LY:List (Nat×Pat):=[(0,⟨42,[(4,.one (.v .i64)),(3,.one (.sl (.int .u64))),(1,.one (.ptr 0 0)),(2,.one (.ptr 1 0))],[.raw [.bool,.sl (.int .u64),.v .i64],.raw [.bool,.sl (.int .u64),.v .i64]]⟩)]
abbrev K7:Option Pat:=none
variable (w100_5:Pat.D GO->Option (Ah LY K7))
def U2(p102:G2)(f102:G4)(p92:JO)(f92:JS)(p141:Ul)(f141:Ux){R:Type}(L:Pat.D GO->Option R)(e:Ah LY K7->Option R)(x:Pat.D GO):Option R:=bif((decide ((0:Int)<=(BC .i64 x.1.1 (64:Int))))&&(decide ((BC .i64 x.1.1 (64:Int))<(x.1.2.1.length:Int))))then(bif((x.1.2.1.getD (aj (BC .i64 x.1.1 (64:Int))) (0:Int))==(0:Int))then(((L (((aa .i64 (x.1.1+(64:Int))),x.1.2.1,(),(),()),x.2))))else(e (.inl ((x.1.1,x.1.2.1,(),(),()),x.2))))else none
theorem aT9(d:Nat)(R:Type)(L:Pat.D GO->Option R)(e:Ah LY K7->Option R)(x:Pat.D GO):
  BA (cf [(122,⟨Fi,Fp,p102,f102⟩),(127,⟨GF,GM,p92,f92⟩),(247,⟨IN,Ja,p141,f141⟩)] [(262,5,LoopSpec.of GO bA LY K7 w100_5)]) (d+2) 262 (Bw Tryz.f262 5) GO bA LY K7 (R:=R) L e x=U2 p102 f102 p92 f92 p141 f141 L e x:=by kernel_rfl
theorem aFy(p102:G2)(f102:G4)(p92:JO)(f92:JS)(p141:Ul)(f141:Ux):Bp fun L e x=>U2 p102 f102 p92 f92 p141 f141 L e x:=by intro _ _ _ _ _ _ _ h0 hL he _;unfold U2;repeat' (first|exact h0|exact hL _|exact he _|apply BT|(apply BU h0;intro _)|(apply BV<;>intro _))
def jJ(p102:G2)(f102:G4)(p92:JO)(f92:JS)(p141:Ul)(f141:Ux)(w100_5:Pat.D GO->Option (Ah LY K7))(a0:Aa (.pair (.bool) (.pair (.slice (.int .u64)) (.pair (.int .i64) (.unit))))):Option (DenS Hv):=
 bif(p102 (a0.2.1,()))then(bif(((f102 (a0.2.1,())).1.length:Int)==(0:Int))then(some ((false,[],(0:Int),()),()))
 else Vx.AY (w100_5 (((0:Int),(f102 (a0.2.1,())).1,(),(),()),(a0.1,a0.2),(false,[],(0:Int),()),())) fun y2=>
 Vx.A1 y2 (fun y3=>
 bif((decide ((0:Int)<=(BC .i64 y3.1.1 (64:Int))))&&(decide ((BC .i64 y3.1.1 (64:Int))<(y3.1.2.1.length:Int))))then(bif(p92 ((y3.1.2.1.getD (aj (BC .i64 y3.1.1 (64:Int))) (0:Int)),()))then(bif(p141 (y3.1.2.1,(aa .i64 (y3.1.1+(f92 ((y3.1.2.1.getD (aj (BC .i64 y3.1.1 (64:Int))) (0:Int)),())).1)),()))then(some ((y3.2.1.1,(f141 (y3.1.2.1,(aa .i64 (y3.1.1+(f92 ((y3.1.2.1.getD (aj (BC .i64 y3.1.1 (64:Int))) (0:Int)),())).1)),())).1,(aa .i64 (y3.2.1.2.2.1+(aa .i64 (y3.1.1+(f92 ((y3.1.2.1.getD (aj (BC .i64 y3.1.1 (64:Int))) (0:Int)),())).1)))),()),()))
 else none)
 else none)
 else none) (fun z3=>
 none))
 else none
theorem aQ6(x:DenS Hm):run (cf [(122,⟨Fi,Fp,p102,f102⟩),(127,⟨GF,GM,p92,f92⟩),(247,⟨IN,Ja,p141,f141⟩)] [(262,5,LoopSpec.of GO bA LY K7 w100_5)]) 9 262 Tryz.f262 Hm Hv x=jJ p102 f102 p92 f92 p141 f141 w100_5 x.1:=by kernel_rfl
def YC:GO.D->Option (Ah LY K7):=Bf fun L=>U2 Bh.pre Bh.F BG.pre BG.F DO.pre DO.F L some
def Fa(x:DenS Hm):Option (DenS Hv):=jJ Bh.pre Bh.F BG.pre BG.F DO.pre DO.F YC x.1
def CK:Sum:=Aj Hm Hv Fa (DenS.dflt Hv)
theorem cN:Sound Tryz.prog G1 262 CK:=sd (cf [(122,Bh),(127,BG),(247,DO)] [(262,5,LoopSpec.of GO bA LY K7 YC)]) 262 Tryz.f262 ⟨WK,o8,xX,trivial⟩ ⟨rfl,fun d=>BR (fun L e x=>U2 Bh.pre Bh.F BG.pre BG.F DO.pre DO.F L e x) (aFy Bh.pre Bh.F BG.pre BG.F DO.pre DO.F) (fun _ _ _ _=>aT9 ..),trivial⟩ Hm Hv Fa _ (fun _=>aQ6 ..)
abbrev YN:=Al Hm
abbrev YV:=Ak Hm Hv
variable (p100:YN)(f100:YV)
abbrev NH:Ab:=[(false,.slice (.int .u64)),(false,.slice (.int .u64))]
abbrev Pf:Ab:=[(false,.slice (.int .u64))]
abbrev Fw:Pat:=⟨84,[(25,.one (.v .i64)),(24,.one (.sl (.int .u64))),(1,.one (.sl (.int .u64))),(26,.one (.v .i64)),(5,.one (.own 0))],[.arr (.int .u64)]⟩
abbrev Wx:List (Nat×Shape):=[]
abbrev JF:List (Nat×Pat):=[(0,⟨84,[(5,.one (.own 0))],[.arr (.int .u64)]⟩)]
abbrev Js:Option Pat:=none
abbrev Fx:Pat:=⟨84,[(32,.one (.v .i64)),(31,.one (.sl (.int .u64))),(7,.one (.v .u64)),(33,.one (.v .i64)),(6,.one (.v .i64)),(8,.one (.v .u64)),(26,.one (.v .i64)),(25,.one (.v .i64)),(24,.one (.sl (.int .u64))),(1,.one (.sl (.int .u64))),(5,.one (.own 0))],[.arr (.int .u64)]⟩
abbrev Wy:List (Nat×Shape):=[]
abbrev G0:List (Nat×Pat):=[(2,⟨84,[(6,.one (.v .i64)),(8,.one (.v .u64)),(26,.one (.v .i64)),(25,.one (.v .i64)),(24,.one (.sl (.int .u64))),(1,.one (.sl (.int .u64))),(5,.one (.own 0))],[.arr (.int .u64)]⟩)]
abbrev GV:Option Pat:=none
variable (w324_4:Pat.D Fw->Option (Ah JF Js))(w324_8:Pat.D Fx->Option (Ah G0 GV))
def Vi(p315:ER)(f315:ET)(p155:C5)(f155:C6)(p173:A5)(f173:A6){R:Type}(L:Pat.D Fx->Option R)(e:Ah G0 GV->Option R)(x:Pat.D Fx):Option R:=let e10_:=(x.1.2.2.1,(x.1.2.1.getD (aj x.1.2.2.2.1) (0:Int)),());let e8_:=(f315 e10_);let e11_:=(aa .i64 (x.1.2.2.2.2.1+x.1.2.2.2.1));let e9_:=(aj e11_);let e7_:=(f155 (e8_.2.1,(x.2.1.getD e9_ (0:Int)),(0:Int),()));let e1_:=(f155 (e7_.1,x.1.2.2.2.2.2.1,(0:Int),()));let e2_:=e7_;let e3_:=((decide ((0:Int)<=e11_))&&(decide (e11_<(x.2.1.length:Int))));let e4_:=(x.1.2.2.2.2.2.2.1,x.1.2.2.2.2.2.2.2.1,x.1.2.2.2.2.2.2.2.2.1,x.1.2.2.2.2.2.2.2.2.2.1,(),());let e5_:=e8_;let e6_:=e9_;bif(decide (x.1.2.2.2.1<x.1.1))then(bif((decide ((0:Int)<=x.1.2.2.2.1))&&(decide (x.1.2.2.2.1<(x.1.2.1.length:Int))))then(bif(p315 e10_)then(bif e3_ then(bif(p155 (e5_.2.1,(x.2.1.getD e6_ (0:Int)),(0:Int),()))then(bif(p155 (e2_.1,x.1.2.2.2.2.2.1,(0:Int),()))then(bif e3_ then(((L ((x.1.1,x.1.2.1,x.1.2.2.1,(aa .i64 (x.1.2.2.2.1+(1:Int))),x.1.2.2.2.2.1,(aa .u64 ((aa .u64 (e5_.1+e2_.2.1))+e1_.2.1)),e4_),(x.2.1.set e6_ e1_.1),()))))else none)else none)else none)else none)else none)else none)else(e (.inl ((x.1.2.2.2.2.1,x.1.2.2.2.2.2.1,e4_),x.2)))
theorem aUq(d:Nat)(R:Type)(L:Pat.D Fx->Option R)(e:Ah G0 GV->Option R)(x:Pat.D Fx):
  BA (cf [(126,⟨EC,EF,p315,f315⟩),(165,⟨E6,Fs,p155,f155⟩),(169,⟨Bu,Bv,p173,f173⟩)] [(307,4,LoopSpec.of Fw Wx JF Js w324_4),(307,8,LoopSpec.of Fx Wy G0 GV w324_8)]) (d+2) 307 (Bw Tryz.f307 8) Fx Wy G0 GV (R:=R) L e x=Vi p315 f315 p155 f155 p173 f173 L e x:=by kernel_rfl
theorem aFO(p315:ER)(f315:ET)(p155:C5)(f155:C6)(p173:A5)(f173:A6):Bp fun L e x=>Vi p315 f315 p155 f155 p173 f173 L e x:=by intro _ _ _ _ _ _ _ h0 hL he _;unfold Vi;repeat' (first|exact h0|exact hL _|exact he _|apply BT|(apply BU h0;intro _)|(apply BV<;>intro _))
def Vh(p315:ER)(f315:ET)(p155:C5)(f155:C6)(p173:A5)(f173:A6)(w324_8:Pat.D Fx->Option (Ah G0 GV)){R:Type}(L:Pat.D Fw->Option R)(e:Ah JF Js->Option R)(x:Pat.D Fw):Option R:=
 bif(decide (x.1.2.2.2.1<x.1.1))then(bif((decide ((0:Int)<=x.1.2.2.2.1))&&(decide (x.1.2.2.2.1<(x.1.2.1.length:Int))))then(Vx.AY (w324_8 (((x.1.2.2.1.length:Int),x.1.2.2.1,(x.1.2.1.getD (aj x.1.2.2.2.1) (0:Int)),(0:Int),x.1.2.2.2.1,(0:Int),x.1.2.2.2.1,x.1.1,x.1.2.1,x.1.2.2.1,(),()),x.2)) fun y2=>
 Vx.A1 y2 (fun y3=>
 bif((decide ((0:Int)<=(aa .i64 (y3.1.1+(y3.1.2.2.2.2.2.1.length:Int)))))&&(decide ((aa .i64 (y3.1.1+(y3.1.2.2.2.2.2.1.length:Int)))<(y3.2.1.length:Int))))then(((L ((y3.1.2.2.2.1,y3.1.2.2.2.2.1,y3.1.2.2.2.2.2.1,(aa .i64 (y3.1.2.2.1+(1:Int))),(),()),(y3.2.1.set (aj (aa .i64 (y3.1.1+(y3.1.2.2.2.2.2.1.length:Int)))) y3.1.2.1),()))))
 else none) (fun z3=>
 none))
 else none)
 else(e (.inl (((),()),x.2)))
theorem aUp(d:Nat)(R:Type)(L:Pat.D Fw->Option R)(e:Ah JF Js->Option R)(x:Pat.D Fw):
  BA (cf [(126,⟨EC,EF,p315,f315⟩),(165,⟨E6,Fs,p155,f155⟩),(169,⟨Bu,Bv,p173,f173⟩)] [(307,4,LoopSpec.of Fw Wx JF Js w324_4),(307,8,LoopSpec.of Fx Wy G0 GV w324_8)]) (d+2) 307 (Bw Tryz.f307 4) Fw Wx JF Js (R:=R) L e x=Vh p315 f315 p155 f155 p173 f173 w324_8 L e x:=by kernel_rfl
theorem aFN(p315:ER)(f315:ET)(p155:C5)(f155:C6)(p173:A5)(f173:A6)(w324_8:Pat.D Fx->Option (Ah G0 GV)):Bp fun L e x=>Vh p315 f315 p155 f155 p173 f173 w324_8 L e x:=by intro _ _ _ _ _ _ _ h0 hL he _;unfold Vh;repeat' (first|exact h0|exact hL _|exact he _|apply BT|(apply BU h0;intro _)|(apply BV<;>intro _))
def lA(p315:ER)(f315:ET)(p155:C5)(f155:C6)(p173:A5)(f173:A6)(w324_4:Pat.D Fw->Option (Ah JF Js))(w324_8:Pat.D Fx->Option (Ah G0 GV))(a0 a1:Aa (.slice (.int .u64))):Option (DenS Pf):=
 let e1_:=(aa .i64 (((f173 (a0,())).1.length:Int)+((f173 (a1,())).1.length:Int)))
 bif(p173 (a0,()))then(bif(p173 (a1,()))then(bif((decide ((0:Int)<=e1_))&&(decide ((e1_*(8:Int))<=(140737488355328:Int))))then(Vx.AY (w324_4 ((((f173 (a0,())).1.length:Int),(f173 (a0,())).1,(f173 (a1,())).1,(0:Int),(),()),(ax (aj e1_) (0:Int)),())) fun y3=>
 Vx.A1 y3 (fun y4=>
 bif(p173 y4.2)then(some (f173 y4.2))
 else none) (fun z4=>
 none))
 else none)
 else none)
 else none
theorem aR7(x:DenS NH):run (cf [(126,⟨EC,EF,p315,f315⟩),(165,⟨E6,Fs,p155,f155⟩),(169,⟨Bu,Bv,p173,f173⟩)] [(307,4,LoopSpec.of Fw Wx JF Js w324_4),(307,8,LoopSpec.of Fx Wy G0 GV w324_8)]) 9 307 Tryz.f307 NH Pf x=lA p315 f315 p155 f155 p173 f173 w324_4 w324_8 x.1 x.2.1:=by kernel_rfl
def Rb:Fx.D->Option (Ah G0 GV):=Bf fun L=>Vi AO.pre AO.F Ay.pre Ay.F Af.pre Af.F L some
def YI:Fw.D->Option (Ah JF Js):=Bf fun L=>Vh AO.pre AO.F Ay.pre Ay.F Af.pre Af.F Rb L some
def Xs(x:DenS NH):Option (DenS Pf):=lA AO.pre AO.F Ay.pre Ay.F Af.pre Af.F YI Rb x.1 x.2.1
def Qt:Sum:=Aj NH Pf Xs (DenS.dflt Pf)
theorem aJc:Sound Tryz.prog G1 307 Qt:=sd (cf [(126,AO),(165,Ay),(169,Af)] [(307,4,LoopSpec.of Fw Wx JF Js YI),(307,8,LoopSpec.of Fx Wy G0 GV Rb)]) 307 Tryz.f307 ⟨cT,TL,D6,trivial⟩ ⟨rfl,fun d=>BR (fun L e x=>Vh AO.pre AO.F Ay.pre Ay.F Af.pre Af.F Rb L e x) (aFN AO.pre AO.F Ay.pre Ay.F Af.pre Af.F Rb) (fun _ _ _ _=>aUp ..),⟨rfl,fun d=>BR (fun L e x=>Vi AO.pre AO.F Ay.pre Ay.F Af.pre Af.F L e x) (aFO AO.pre AO.F Ay.pre Ay.F Af.pre Af.F) (fun _ _ _ _=>aUq ..),trivial⟩⟩ NH Pf Xs _ (fun _=>aR7 ..)
abbrev aA1:=Al NH
abbrev aCf:=Ak NH Pf
variable (p324:aA1)(f324:aCf)
abbrev NI:Ab:=[(false,.slice (.int .u64)),(false,.slice (.int .u64))]
abbrev Pg:Ab:=[(false,.slice (.int .u64)),(false,.int .i64)]
def lB(p324:aA1)(f324:aCf)(p185:Uo)(f185:UA)(a0 a1:Aa (.slice (.int .u64))):Option (DenS Pg):=bif(p185 ((a0::(a1::[])),()))then(bif(f185 ((a0::(a1::[])),())).1 then(some ([],(5:Int),()))else bif(p324 (a0,a1,()))then(bif(p185 (((f324 (a0,a1,())).1::[]),()))then(bif(f185 (((f324 (a0,a1,())).1::[]),())).1 then(some ([],(5:Int),()))else some ((f324 (a0,a1,())).1,(0:Int),()))else none)else none)else none
theorem aR8(x:DenS NI):run (cf [(307,⟨NH,Pf,p324,f324⟩),(249,⟨IR,Jd,p185,f185⟩)] []) 9 263 Tryz.f263 NI Pg x=lB p324 f324 p185 f185 x.1 x.2.1:=by kernel_rfl
def T3(x:DenS NI):Option (DenS Pg):=lB Qt.pre Qt.F D7.pre D7.F x.1 x.2.1
def Qu:Sum:=Aj NI Pg T3 (DenS.dflt Pg)
theorem aJd:Sound Tryz.prog G1 263 Qu:=sd (cf [(307,Qt),(249,D7)] []) 263 Tryz.f263 ⟨aJc,oQ,trivial⟩ trivial NI Pg T3 _ (fun _=>aR8 ..)
abbrev aA2:=Al NI
abbrev aCg:=Ak NI Pg
variable (p325:aA2)(f325:aCg)
abbrev IE:Ab:=[(true,.pair (.bool) (.pair (.slice (.int .u64)) (.pair (.int .i64) (.unit))))]
abbrev I3:Ab:=[(true,.pair (.bool) (.pair (.slice (.int .u64)) (.pair (.int .i64) (.unit)))),(false,.int .i64)]
def jM(p100:YN)(f100:YV)(a0:Aa (.pair (.bool) (.pair (.slice (.int .u64)) (.pair (.int .i64) (.unit))))):Option (DenS I3):=bif(p100 ((a0.1,a0.2),()))then(bif(decide (((f100 ((a0.1,a0.2),())).1.2.1.length:Int)>(1024:Int)))then(some ((false,[],(0:Int),()),(5:Int),()))else bif((decide ((f100 ((a0.1,a0.2),())).1.2.2.1<(-(40000:Int))))||(decide ((f100 ((a0.1,a0.2),())).1.2.2.1>(40000:Int))))then(some ((false,[],(0:Int),()),(30:Int),()))else some ((f100 ((a0.1,a0.2),())).1,(0:Int),()))else none
theorem aRa(x:DenS IE):run (cf [(262,⟨Hm,Hv,p100,f100⟩)] []) 9 254 Tryz.f254 IE I3 x=jM p100 f100 x.1:=by kernel_rfl
def Q2(x:DenS IE):Option (DenS I3):=jM CK.pre CK.F x.1
def D4:Sum:=Aj IE I3 Q2 (DenS.dflt I3)
theorem oH:Sound Tryz.prog G1 254 D4:=sd (cf [(262,CK)] []) 254 Tryz.f254 ⟨cN,trivial⟩ trivial IE I3 Q2 _ (fun _=>aRa ..)
abbrev eE:=Al IE
abbrev eY:=Ak IE I3
variable (p104:eE)(f104:eY)
abbrev NP:Ab:=[(true,.pair (.bool) (.pair (.slice (.int .u64)) (.pair (.int .i64) (.unit)))),(true,.pair (.bool) (.pair (.slice (.int .u64)) (.pair (.int .i64) (.unit))))]
abbrev Pn:Ab:=[(true,.pair (.bool) (.pair (.slice (.int .u64)) (.pair (.int .i64) (.unit)))),(false,.int .i64)]
def lK(p99:qV)(f99:rY)(p100:YN)(f100:YV)(p325:aA2)(f325:aCg)(p104:eE)(f104:eY)(a0 a1:Aa (.pair (.bool) (.pair (.slice (.int .u64)) (.pair (.int .i64) (.unit))))):Option (DenS Pn):=let e4_:=((f100 ((a0.1,a0.2),())).1.2.1,(f100 ((a1.1,a1.2),())).1.2.1,());let e3_:=(f325 e4_);let e1_:=(((!((f100 ((a0.1,a0.2),())).1.1==(f100 ((a1.1,a1.2),())).1.1)),e3_.1,(aa .i64 ((f100 ((a0.1,a0.2),())).1.2.2.1+(f100 ((a1.1,a1.2),())).1.2.2.1)),()),());let e2_:=e3_;bif(p99 ((a0.1,a0.2),(a1.1,a1.2),()))then(bif((f99 ((a0.1,a0.2),(a1.1,a1.2),())).1 !=(0:Int))then(some ((false,[],(0:Int),()),(f99 ((a0.1,a0.2),(a1.1,a1.2),()))))else bif(p100 ((a0.1,a0.2),()))then(bif(p100 ((a1.1,a1.2),()))then(bif(p325 e4_)then(bif(e2_.2.1 !=(0:Int))then(some ((false,[],(0:Int),()),e2_.2))else bif(p104 e1_)then(some (f104 e1_))else none)else none)else none)else none)else none
theorem aSm(x:DenS NP):run (cf [(260,⟨KF,K5,p99,f99⟩),(262,⟨Hm,Hv,p100,f100⟩),(263,⟨NI,Pg,p325,f325⟩),(254,⟨IE,I3,p104,f104⟩)] []) 9 197 Tryz.f197 NP Pn x=lK p99 f99 p100 f100 p325 f325 p104 f104 x.1 x.2.1:=by kernel_rfl
def T5(x:DenS NP):Option (DenS Pn):=lK Gm.pre Gm.F CK.pre CK.F Qu.pre Qu.F D4.pre D4.F x.1 x.2.1
def JC:Sum:=Aj NP Pn T5 (DenS.dflt Pn)
theorem aJo:Sound Tryz.prog G1 197 JC:=sd (cf [(260,Gm),(262,CK),(263,Qu),(254,D4)] []) 197 Tryz.f197 ⟨yY,cN,aJd,oH,trivial⟩ trivial NP Pn T5 _ (fun _=>aSm ..)
abbrev aA8:=Al NP
abbrev aCm:=Ak NP Pn
variable (p360:aA8)(f360:aCm)
abbrev N3:Ab:=[(false,.int .i64),(false,.int .u64),(false,.int .u64)]
abbrev Px:Ab:=[(true,.pair (.bool) (.pair (.bool) (.pair (.bool) (.pair (.bool) (.pair (.bool) (.pair (.pair (.bool) (.pair (.slice (.int .u64)) (.pair (.int .i64) (.unit)))) (.unit)))))))]
def We(p398:qE)(f398:rH)(p47:qS)(f47:rV)(p360:aA8)(f360:aCm)(a0:Aa (.int .i64))(a1 a2:Aa (.int .u64)):Option (DenS Px):=let e7_:=(((f398 (a0,a1,())).1.2.2.2.1&&(!(f398 (a0,a2,())).1.2.2.2.1))&&((f47 (f398 (a0,a2,())).1.2.2.2.2.2).1==(0:Int)));let e1_:=(e7_||(((f398 (a0,a2,())).1.2.2.2.1&&(!(f398 (a0,a1,())).1.2.2.2.1))&&((f47 (f398 (a0,a1,())).1.2.2.2.2.2).1==(0:Int))));let e8_:=(!((f398 (a0,a1,())).1.2.2.2.2.1==(f398 (a0,a2,())).1.2.2.2.2.1));let e2_:=(e8_,(false,[],(0:Int),()),());let e3_:=((f398 (a0,a1,())).1.2.2.2.2.2.1,(f398 (a0,a2,())).1.2.2.2.2.2);let e4_:=((f398 (a0,a1,())).1.2.2.2.1||(f398 (a0,a2,())).1.2.2.2.1);let e5_:=((f398 (a0,a1,())).1.2.1||(f398 (a0,a2,())).1.2.1);let e6_:=((f398 (a0,a1,())).1.1||(f398 (a0,a2,())).1.1);bif(p398 (a0,a1,()))then(bif(p398 (a0,a2,()))then(bif e6_ then(some ((e6_,e5_,false,false,e2_),()))else bif((p47 (f398 (a0,a2,())).1.2.2.2.2.2)||(!(bif(f398 (a0,a1,())).1.2.2.2.1 then(!(f398 (a0,a2,())).1.2.2.2.1)else false)))then(bif((p47 (f398 (a0,a1,())).1.2.2.2.2.2)||(!((bif e7_ then false else true)&&(bif(f398 (a0,a2,())).1.2.2.2.1 then(!(f398 (a0,a1,())).1.2.2.2.1)else false))))then(bif(!e4_)then(bif(p360 e3_)then(some ((e6_,e5_,e1_,e4_,e8_,(f360 e3_).1,()),()))else none)else some ((e6_,e5_,e1_,e4_,e2_),()))else none)else none)else none)else none
theorem aSB(x:DenS N3):run (cf [(141,⟨Kv,KV,p398,f398⟩),(196,⟨KE,K4,p47,f47⟩),(197,⟨NP,Pn,p360,f360⟩)] []) 9 140 Tryz.f140 N3 Px x=We p398 f398 p47 f47 p360 f360 x.1 x.2.1 x.2.2.1:=by kernel_rfl
def T8(x:DenS N3):Option (DenS Px):=We E9.pre E9.F DQ.pre DQ.F JC.pre JC.F x.1 x.2.1 x.2.2.1
def QK:Sum:=Aj N3 Px T8 (DenS.dflt Px)
theorem aJz:Sound Tryz.prog G1 140 QK:=sd (cf [(141,E9),(196,DQ),(197,JC)] []) 140 Tryz.f140 ⟨yG,yX,aJo,trivial⟩ trivial N3 Px T8 _ (fun _=>aSB ..)
abbrev aBj:=Al N3
abbrev aCx:=Ak N3 Px
variable (p399:aBj)(f399:aCx)
abbrev Nt:Ab:=[(false,.slice (.int .u64)),(false,.int .i64)]
abbrev O1:Ab:=[(false,.slice (.int .u64))]
abbrev HL:Pat:=⟨57,[(25,.one (.v .i64)),(24,.one (.sl (.int .u64))),(5,.one (.v .i64)),(6,.one (.v .u64)),(26,.one (.v .i64)),(7,.one (.own 0))],[.arr (.int .u64)]⟩
abbrev bI:List (Nat×Shape):=[]
abbrev L9:List (Nat×Pat):=[(0,⟨57,[(7,.one (.own 0))],[.arr (.int .u64)]⟩)]
abbrev Lf:Option Pat:=none
variable (w172_6:Pat.D HL->Option (Ah L9 Lf))
def Va(p102:G2)(f102:G4){R:Type}(L:Pat.D HL->Option R)(e:Ah L9 Lf->Option R)(x:Pat.D HL):Option R:=let e6_:=(aa .i64 (x.1.2.2.1+x.1.2.2.2.2.1));let e5_:=(aj e6_);let e7_:=(x.1.2.1.getD (aj x.1.2.2.2.2.1) (0:Int));let e1_:=(x.2.1.set e5_ (A7 .u64 (x.2.1.getD e5_ (0:Int)) (AQ .u64 e7_ x.1.2.2.2.1)));let e2_:=((decide ((0:Int)<=e6_))&&(decide (e6_<(x.2.1.length:Int))));let e3_:=(x.1.1,x.1.2.1,x.1.2.2.1,x.1.2.2.2.1,(aa .i64 (x.1.2.2.2.2.1+(1:Int))),(),());let e4_:=(aa .i64 (e6_+(1:Int)));bif(decide (x.1.2.2.2.2.1<x.1.1))then(bif((decide ((0:Int)<=x.1.2.2.2.2.1))&&(decide (x.1.2.2.2.2.1<(x.1.2.1.length:Int))))then(bif e2_ then(bif e2_ then(bif(decide (x.1.2.2.2.1>(0:Int)))then(bif((decide ((0:Int)<=e4_))&&(decide (e4_<(e1_.length:Int))))then(((L (e3_,(e1_.set (aj e4_) (AJ .u64 e7_ (aa .u64 ((64:Int)-x.1.2.2.2.1)))),()))))else none)else(L (e3_,e1_,())))else none)else none)else none)else(e (.inl (((),()),x.2)))
theorem aUh(d:Nat)(R:Type)(L:Pat.D HL->Option R)(e:Ah L9 Lf->Option R)(x:Pat.D HL):
  BA (cf [(122,⟨Fi,Fp,p102,f102⟩)] [(326,6,LoopSpec.of HL bI L9 Lf w172_6)]) (d+2) 326 (Bw Tryz.f326 6) HL bI L9 Lf (R:=R) L e x=Va p102 f102 L e x:=by kernel_rfl
theorem aFG(p102:G2)(f102:G4):Bp fun L e x=>Va p102 f102 L e x:=by intro _ _ _ _ _ _ _ h0 hL he _;unfold Va;repeat' (first|exact h0|exact hL _|exact he _|apply BT|(apply BU h0;intro _)|(apply BV<;>intro _))
def kI(p102:G2)(f102:G4)(w172_6:Pat.D HL->Option (Ah L9 Lf))(a0:Aa (.slice (.int .u64)))(a1:Aa (.int .i64)):Option (DenS O1):=
 let e1_:=(aa .i64 ((aa .i64 ((BC .i64 a1 (64:Int))+(a0.length:Int)))+(1:Int)))
 bif((a0.length:Int)==(0:Int))then(some ([],()))
 else bif((decide ((0:Int)<=e1_))&&(decide ((e1_*(8:Int))<=(140737488355328:Int))))then(Vx.AY (w172_6 (((a0.length:Int),a0,(BC .i64 a1 (64:Int)),(aa .u64 (jp a1 (64:Int))),(0:Int),(),()),(ax (aj e1_) (0:Int)),())) fun y2=>
 Vx.A1 y2 (fun y3=>
 bif(p102 y3.2)then(some (f102 y3.2))
 else none) (fun z3=>
 none))
 else none
theorem aRL(x:DenS Nt):run (cf [(122,⟨Fi,Fp,p102,f102⟩)] [(326,6,LoopSpec.of HL bI L9 Lf w172_6)]) 9 326 Tryz.f326 Nt O1 x=kI p102 f102 w172_6 x.1 x.2.1:=by kernel_rfl
def dP:HL.D->Option (Ah L9 Lf):=Bf fun L=>Va Bh.pre Bh.F L some
def Xf(x:DenS Nt):Option (DenS O1):=kI Bh.pre Bh.F dP x.1 x.2.1
def Ql:Sum:=Aj Nt O1 Xf (DenS.dflt O1)
theorem aI1:Sound Tryz.prog G1 326 Ql:=sd (cf [(122,Bh)] [(326,6,LoopSpec.of HL bI L9 Lf dP)]) 326 Tryz.f326 ⟨WK,trivial⟩ ⟨rfl,fun d=>BR (fun L e x=>Va Bh.pre Bh.F L e x) (aFG Bh.pre Bh.F) (fun _ _ _ _=>aUh ..),trivial⟩ Nt O1 Xf _ (fun _=>aRL ..)
abbrev aAS:=Al Nt
abbrev aB6:=Ak Nt O1
variable (p172:aAS)(f172:aB6)
abbrev Nn:Ab:=[(true,.pair (.bool) (.pair (.slice (.int .u64)) (.pair (.int .i64) (.unit)))),(true,.pair (.bool) (.pair (.slice (.int .u64)) (.pair (.int .i64) (.unit))))]
abbrev OU:Ab:=[(false,.slice (.int .u64)),(false,.slice (.int .u64)),(false,.int .i64)]
def j5(p172:aAS)(f172:aB6)(a0 a1:Aa (.pair (.bool) (.pair (.slice (.int .u64)) (.pair (.int .i64) (.unit))))):Option (DenS OU):=let e3_:=(if(a1.2.2.1<a0.2.2.1)then a1.2.2.1 else a0.2.2.1);let e1_:=(a0.2.1,(aa .i64 (a0.2.2.1-e3_)),());let e2_:=(a1.2.1,(aa .i64 (a1.2.2.1-e3_)),());bif(p172 e1_)then(bif(p172 e2_)then(some ((f172 e1_).1,(f172 e2_).1,e3_,()))else none)else none
theorem aRx(x:DenS Nn):run (cf [(326,⟨Nt,O1,p172,f172⟩)] []) 9 306 Tryz.f306 Nn OU x=j5 p172 f172 x.1 x.2.1:=by kernel_rfl
def TQ(x:DenS Nn):Option (DenS OU):=j5 Ql.pre Ql.F x.1 x.2.1
def GW:Sum:=Aj Nn OU TQ (DenS.dflt OU)
theorem aIU:Sound Tryz.prog G1 306 GW:=sd (cf [(326,Ql)] []) 306 Tryz.f306 ⟨aI1,trivial⟩ trivial Nn OU TQ _ (fun _=>aRx ..)
abbrev aAM:=Al Nn
abbrev aB0:=Ak Nn OU
variable (p142:aAM)(f142:aB0)
abbrev Nh:Ab:=[(true,.pair (.bool) (.pair (.slice (.int .u64)) (.pair (.int .i64) (.unit)))),(true,.pair (.bool) (.pair (.slice (.int .u64)) (.pair (.int .i64) (.unit))))]
abbrev OO:Ab:=[(true,.pair (.bool) (.pair (.slice (.int .u64)) (.pair (.int .i64) (.unit))))]
def RU(p142:aAM)(f142:aB0)(p143:Rd)(f143:Rh)(p144:JN)(f144:JR)(p145:Um)(f145:Uy)(p100:YN)(f100:YV)(a0 a1:Aa (.pair (.bool) (.pair (.slice (.int .u64)) (.pair (.int .i64) (.unit))))):Option (DenS OO):=let e5_:=((f142 ((a0.1,a0.2),(a1.1,a1.2),())).1,(f142 ((a0.1,a0.2),(a1.1,a1.2),())).2.1,());let e1_:=((a0.1,(f143 e5_).1,(f142 ((a0.1,a0.2),(a1.1,a1.2),())).2.2),());let e6_:=((f142 ((a0.1,a0.2),(a1.1,a1.2),())).2.1,(f142 ((a0.1,a0.2),(a1.1,a1.2),())).1,());let e2_:=((a1.1,(f145 e6_).1,(f142 ((a0.1,a0.2),(a1.1,a1.2),())).2.2),());let e3_:=((a0.1,(f145 e5_).1,(f142 ((a0.1,a0.2),(a1.1,a1.2),())).2.2),());let e4_:=e5_;bif((a0.2.1.length:Int)==(0:Int))then(some ((a1.1,a1.2),()))else bif((a1.2.1.length:Int)==(0:Int))then(some ((a0.1,a0.2),()))else bif(p142 ((a0.1,a0.2),(a1.1,a1.2),()))then(bif(a0.1==a1.1)then(bif(p143 e4_)then(bif(p100 e1_)then(some (f100 e1_))else none)else none)else bif(p144 e4_)then(bif(decide ((f144 e4_).1<(0:Int)))then(bif(p145 e6_)then(bif(p100 e2_)then(some (f100 e2_))else none)else none)else bif(p145 e4_)then(bif(p100 e3_)then(some (f100 e3_))else none)else none)else none)else none
theorem aQ7(x:DenS Nh):run (cf [(306,⟨Nn,OU,p142,f142⟩),(176,⟨Hq,GH,p143,f143⟩),(177,⟨F0,F7,p144,f144⟩),(178,⟨IP,Jb,p145,f145⟩),(262,⟨Hm,Hv,p100,f100⟩)] []) 9 261 Tryz.f261 Nh OO x=RU p142 f142 p143 f143 p144 f144 p145 f145 p100 f100 x.1 x.2.1:=by kernel_rfl
def R4(x:DenS Nh):Option (DenS OO):=RU GW.pre GW.F Cx.pre Cx.F Bk.pre Bk.F CV.pre CV.F CK.pre CK.F x.1 x.2.1
def Qg:Sum:=Aj Nh OO R4 (DenS.dflt OO)
theorem aIL:Sound Tryz.prog G1 261 Qg:=sd (cf [(306,GW),(176,Cx),(177,Bk),(178,CV),(262,CK)] []) 261 Tryz.f261 ⟨aIU,oN,cQ,xY,cN,trivial⟩ trivial Nh OO R4 _ (fun _=>aQ7 ..)
abbrev aAG:=Al Nh
abbrev aBU:=Ak Nh OO
variable (p101:aAG)(f101:aBU)
abbrev OG:Ab:=[(true,.pair (.bool) (.pair (.slice (.int .u64)) (.pair (.int .i64) (.unit)))),(true,.pair (.bool) (.pair (.slice (.int .u64)) (.pair (.int .i64) (.unit))))]
abbrev P5:Ab:=[(true,.pair (.bool) (.pair (.slice (.int .u64)) (.pair (.int .i64) (.unit)))),(false,.int .i64)]
def nF(p99:qV)(f99:rY)(p100:YN)(f100:YV)(p101:aAG)(f101:aBU)(p104:eE)(f104:eY)(a0 a1:Aa (.pair (.bool) (.pair (.slice (.int .u64)) (.pair (.int .i64) (.unit))))):Option (DenS P5):=let e2_:=((f100 ((a0.1,a0.2),())).1,(f100 ((a1.1,a1.2),())));let e1_:=(f101 e2_);bif(p99 ((a0.1,a0.2),(a1.1,a1.2),()))then(bif((f99 ((a0.1,a0.2),(a1.1,a1.2),())).1 !=(0:Int))then(some ((false,[],(0:Int),()),(f99 ((a0.1,a0.2),(a1.1,a1.2),()))))else bif(p100 ((a0.1,a0.2),()))then(bif(p100 ((a1.1,a1.2),()))then(bif(p101 e2_)then(bif(p104 e1_)then(some (f104 e1_))else none)else none)else none)else none)else none
theorem r49(x:DenS OG):run (cf [(260,⟨KF,K5,p99,f99⟩),(262,⟨Hm,Hv,p100,f100⟩),(261,⟨Nh,OO,p101,f101⟩),(254,⟨IE,I3,p104,f104⟩)] []) 9 195 Tryz.f195 OG P5 x=nF p99 f99 p100 f100 p101 f101 p104 f104 x.1 x.2.1:=by kernel_rfl
def Uc(x:DenS OG):Option (DenS P5):=nF Gm.pre Gm.F CK.pre CK.F Qg.pre Qg.F D4.pre D4.F x.1 x.2.1
def GX:Sum:=Aj OG P5 Uc (DenS.dflt P5)
theorem aJY:Sound Tryz.prog G1 195 GX:=sd (cf [(260,Gm),(262,CK),(261,Qg),(254,D4)] []) 195 Tryz.f195 ⟨yY,cN,aIL,oH,trivial⟩ trivial OG P5 Uc _ (fun _=>r49 ..)
abbrev Y49:=Al OG
abbrev Z49:=Ak OG P5
variable (p49:Y49)(f49:Z49)
abbrev Ni:Ab:=[(true,.pair (.bool) (.pair (.slice (.int .u64)) (.pair (.int .i64) (.unit))))]
abbrev OP:Ab:=[(true,.pair (.bool) (.pair (.slice (.int .u64)) (.pair (.int .i64) (.unit)))),(false,.int .i64)]
def jO(p103:pQ)(f103:qW)(p104:eE)(f104:eY)(a0:Aa (.pair (.bool) (.pair (.slice (.int .u64)) (.pair (.int .i64) (.unit))))):Option (DenS OP):=bif(p103 ((a0.1,a0.2),()))then(bif((f103 ((a0.1,a0.2),())).1 !=(0:Int))then(some ((false,[],(0:Int),()),(f103 ((a0.1,a0.2),()))))else bif(p104 ((a0.1,a0.2),()))then(some (f104 ((a0.1,a0.2),())))else none)else none
theorem aRc(x:DenS Ni):run (cf [(253,⟨Kl,KH,p103,f103⟩),(254,⟨IE,I3,p104,f104⟩)] []) 9 179 Tryz.f179 Ni OP x=jO p103 f103 p104 f104 x.1:=by kernel_rfl
def WV(x:DenS Ni):Option (DenS OP):=jO E8.pre E8.F D4.pre D4.F x.1
def Qh:Sum:=Aj Ni OP WV (DenS.dflt OP)
theorem aIM:Sound Tryz.prog G1 179 Qh:=sd (cf [(253,E8),(254,D4)] []) 179 Tryz.f179 ⟨xS,oH,trivial⟩ trivial Ni OP WV _ (fun _=>aRc ..)
abbrev aAH:=Al Ni
abbrev aBV:=Ak Ni OP
variable (p106:aAH)(f106:aBV)
abbrev IY:Ab:=[(false,.int .i64),(false,.int .i64),(true,.pair (.bool) (.pair (.slice (.int .u64)) (.pair (.int .i64) (.unit))))]
abbrev Jm:Ab:=[(false,.int .u64),(false,.int .i64),(false,.int .i64)]
def nG(p105:Uj)(f105:Uv)(p106:aAH)(f106:aBV)(p107:Uk)(f107:Uw)(a0 a1:Aa (.int .i64))(a2:Aa (.pair (.bool) (.pair (.slice (.int .u64)) (.pair (.int .i64) (.unit))))):Option (DenS Jm):=let e2_:=(((f106 ((a2.1,a2.2),())).1.1,(f106 ((a2.1,a2.2),())).1.2.1,(f106 ((a2.1,a2.2),())).1.2.2.1,false,()),a0,(f105 (a0,a1,())).1,a1,());let e1_:=(f107 e2_);bif(p105 (a0,a1,()))then(bif((f105 (a0,a1,())).2.1 !=(0:Int))then(some ((0:Int),(0:Int),(f105 (a0,a1,())).2))else bif(p106 ((a2.1,a2.2),()))then(bif((f106 ((a2.1,a2.2),())).2.1 !=(0:Int))then(some ((0:Int),(0:Int),(f106 ((a2.1,a2.2),())).2))else bif(((f106 ((a2.1,a2.2),())).1.2.1.length:Int)==(0:Int))then(some ((0:Int),(0:Int),(0:Int),()))else bif(p107 e2_)then(some (e1_.1,e1_.2.1,(0:Int),()))else none)else none)else none
theorem r51(x:DenS IY):run (cf [(121,⟨IF,I4,p105,f105⟩),(179,⟨Ni,OP,p106,f106⟩),(125,⟨IG,I5,p107,f107⟩)] []) 9 130 Tryz.f130 IY Jm x=nG p105 f105 p106 f106 p107 f107 x.1 x.2.1 x.2.2.1:=by kernel_rfl
def Q9(x:DenS IY):Option (DenS Jm):=nG EI.pre EI.F Qh.pre Qh.F EJ.pre EJ.F x.1 x.2.1 x.2.2.1
def Dn:Sum:=Aj IY Jm Q9 (DenS.dflt Jm)
theorem oY:Sound Tryz.prog G1 130 Dn:=sd (cf [(121,EI),(179,Qh),(125,EJ)] []) 130 Tryz.f130 ⟨oI,aIM,oJ,trivial⟩ trivial IY Jm Q9 _ (fun _=>r51 ..)
abbrev eW:=Al IY
abbrev fM:=Ak IY Jm
variable (p51:eW)(f51:fM)
abbrev N4:Ab:=[(false,.int .i64),(false,.int .i64),(true,.pair (.bool) (.pair (.bool) (.pair (.bool) (.pair (.bool) (.pair (.bool) (.pair (.pair (.bool) (.pair (.slice (.int .u64)) (.pair (.int .i64) (.unit)))) (.unit))))))),(true,.pair (.bool) (.pair (.bool) (.pair (.bool) (.pair (.bool) (.pair (.bool) (.pair (.pair (.bool) (.pair (.slice (.int .u64)) (.pair (.int .i64) (.unit)))) (.unit)))))))]
abbrev Py:Ab:=[(false,.int .u64),(false,.int .i64),(false,.int .i64)]
def RV(p70:Ec)(f70:Ed)(p97:Rf)(f97:Rj)(p49:Y49)(f49:Z49)(p47:qS)(f47:rV)(p118:JM)(f118:JQ)(p51:eW)(f51:fM)(a0 a1:Aa (.int .i64))(a2:Aa (.pair (.bool) (.pair (.bool) (.pair (.bool) (.pair (.bool) (.pair (.bool) (.pair (.pair (.bool) (.pair (.slice (.int .u64)) (.pair (.int .i64) (.unit)))) (.unit))))))))(a3:Aa (.pair (.bool) (.pair (.bool) (.pair (.bool) (.pair (.bool) (.pair (.bool) (.pair (.pair (.bool) (.pair (.slice (.int .u64)) (.pair (.int .i64) (.unit)))) (.unit)))))))):Option (DenS Py):=let e1_:=(a0,a1,(f49 (a2.2.2.2.2.2.1,a3.2.2.2.2.2)).1,());let e2_:=((f70 (a0,())).1,(1:Int),(0:Int),());bif(p70 (a0,()))then(bif(((a2.2.1||a3.2.1)||a2.2.2.1)||a3.2.2.1)then(some e2_)else bif(a2.1||a3.1)then(some ((f70 (a0,())).1,(0:Int),(0:Int),()))else bif((a2.2.2.2.1&&a3.2.2.2.1)&&(!(a2.2.2.2.2.1==a3.2.2.2.2.1)))then(some e2_)else bif a2.2.2.2.1 then(bif(p97 (a0,a2.2.2.2.2.1,()))then(some ((f97 (a0,a2.2.2.2.2.1,())).1,(0:Int),(0:Int),()))else none)else bif a3.2.2.2.1 then(bif(p97 (a0,a3.2.2.2.2.1,()))then(some ((f97 (a0,a3.2.2.2.2.1,())).1,(0:Int),(0:Int),()))else none)else bif(p49 (a2.2.2.2.2.2.1,a3.2.2.2.2.2))then(bif((f49 (a2.2.2.2.2.2.1,a3.2.2.2.2.2)).2.1 !=(0:Int))then(some ((0:Int),(0:Int),(f49 (a2.2.2.2.2.2.1,a3.2.2.2.2.2)).2))else bif(p47 ((f49 (a2.2.2.2.2.2.1,a3.2.2.2.2.2)).1,()))then(bif((f47 ((f49 (a2.2.2.2.2.2.1,a3.2.2.2.2.2)).1,())).1==(0:Int))then(bif(p47 a2.2.2.2.2.2)then(bif((p47 a3.2.2.2.2.2)||(!(decide ((f47 a2.2.2.2.2.2).1=(0:Int)))))then(bif((((f47 a2.2.2.2.2.2).1==(0:Int))&&((f47 a3.2.2.2.2.2).1==(0:Int)))&&(a2.2.2.2.2.1==a3.2.2.2.2.1))then(bif(p118 (a0,a2.2.2.2.2.1,()))then(some ((f118 (a0,a2.2.2.2.2.1,())).1,(0:Int),(0:Int),()))else none)else bif(p118 (a0,(a1==(4:Int)),()))then(some ((f118 (a0,(a1==(4:Int)),())).1,(0:Int),(0:Int),()))else none)else none)else none)else bif(p51 e1_)then(some (f51 e1_))else none)else none)else none)else none
theorem aSD(x:DenS N4):run (cf [(56,⟨DE,DF,p70,f70⟩),(65,⟨GG,GN,p97,f97⟩),(195,⟨OG,P5,p49,f49⟩),(196,⟨KE,K4,p47,f47⟩),(38,⟨E4,Fq,p118,f118⟩),(130,⟨IY,Jm,p51,f51⟩)] []) 9 139 Tryz.f139 N4 Py x=RV p70 f70 p97 f97 p49 f49 p47 f47 p118 f118 p51 f51 x.1 x.2.1 x.2.2.1 x.2.2.2.1:=by kernel_rfl
def Sh(x:DenS N4):Option (DenS Py):=RV AB.pre AB.F BY.pre BY.F GX.pre GX.F DQ.pre DQ.F Bb.pre Bb.F Dn.pre Dn.F x.1 x.2.1 x.2.2.1 x.2.2.2.1
def QL:Sum:=Aj N4 Py Sh (DenS.dflt Py)
theorem aJA:Sound Tryz.prog G1 139 QL:=sd (cf [(56,AB),(65,BY),(195,GX),(196,DQ),(38,Bb),(130,Dn)] []) 139 Tryz.f139 ⟨GY,WR,aJY,yX,TG,oY,trivial⟩ trivial N4 Py Sh _ (fun _=>aSD ..)
abbrev aBk:=Al N4
abbrev aCy:=Ak N4 Py
variable (p400:aBk)(f400:aCy)
abbrev N5:Ab:=[(false,.int .i64),(false,.int .i64),(false,.int .u64),(false,.int .u64),(false,.int .u64)]
abbrev Pz:Ab:=[(false,.int .u64),(false,.int .i64),(false,.int .i64)]
def lY(p397:aBi)(f397:aCw)(p399:aBj)(f399:aCx)(p398:qE)(f398:rH)(p400:aBk)(f400:aCy)(a0 a1:Aa (.int .i64))(a2 a3 a4:Aa (.int .u64)):Option (DenS Pz):=let e1_:=(a0,a1,(f399 (a0,a2,a3,())).1,(f398 (a0,a4,())));let e2_:=(f397 (a0,a1,(a2::(a3::(a4::[]))),()));bif(p397 (a0,a1,(a2::(a3::(a4::[]))),()))then(bif(e2_.1 !=(0:Int))then(some ((0:Int),(0:Int),e2_))else bif(p399 (a0,a2,a3,()))then(bif(p398 (a0,a4,()))then(bif(p400 e1_)then(some (f400 e1_))else none)else none)else none)else none
theorem aSE(x:DenS N5):run (cf [(138,⟨N2,Pw,p397,f397⟩),(140,⟨N3,Px,p399,f399⟩),(141,⟨Kv,KV,p398,f398⟩),(139,⟨N4,Py,p400,f400⟩)] []) 9 93 Tryz.f93 N5 Pz x=lY p397 f397 p399 f399 p398 f398 p400 f400 x.1 x.2.1 x.2.2.1 x.2.2.2.1 x.2.2.2.2.1:=by kernel_rfl
def XR(x:DenS N5):Option (DenS Pz):=lY QJ.pre QJ.F QK.pre QK.F E9.pre E9.F QL.pre QL.F x.1 x.2.1 x.2.2.1 x.2.2.2.1 x.2.2.2.2.1
def QM:Sum:=Aj N5 Pz XR (DenS.dflt Pz)
theorem aJB:Sound Tryz.prog G1 93 QM:=sd (cf [(138,QJ),(140,QK),(141,E9),(139,QL)] []) 93 Tryz.f93 ⟨aJy,aJz,yG,aJA,trivial⟩ trivial N5 Pz XR _ (fun _=>aSE ..)
abbrev aBl:=Al N5
abbrev aCz:=Ak N5 Pz
variable (p401:aBl)(f401:aCz)
abbrev N6:Ab:=[(true,.pair (.int .i64) (.pair (.int .i64) (.pair (.int .u64) (.pair (.int .u64) (.pair (.int .u64) (.unit))))))]
abbrev PA:Ab:=[(false,.int .u64),(false,.int .i64),(false,.int .i64)]
def lZ(p401:aBl)(f401:aCz)(a0:Aa (.pair (.int .i64) (.pair (.int .i64) (.pair (.int .u64) (.pair (.int .u64) (.pair (.int .u64) (.unit))))))):Option (DenS PA):=bif(p401 (a0.2.1,a0.1,a0.2.2))then(some (f401 (a0.2.1,a0.1,a0.2.2)))else none
theorem aSF(x:DenS N6):run (cf [(93,⟨N5,Pz,p401,f401⟩)] []) 9 182 Tryz.f182 N6 PA x=lZ p401 f401 x.1:=by kernel_rfl
def XS(x:DenS N6):Option (DenS PA):=lZ QM.pre QM.F x.1
def LG:Sum:=Aj N6 PA XS (DenS.dflt PA)
theorem yH:Sound Tryz.prog G1 182 LG:=sd (cf [(93,QM)] []) 182 Tryz.f182 ⟨aJB,trivial⟩ trivial N6 PA XS _ (fun _=>aSF ..)
abbrev qF:=Al N6
abbrev rI:=Ak N6 PA
variable (p402:qF)(f402:rI)
abbrev IW:Ab:=[(false,.int .i64),(false,.int .i64)]
abbrev Jj:Ab:=[(false,.int .i64)]
def mA(p69:BK)(f69:BL)(a0 a1:Aa (.int .i64)):Option (DenS Jj):=bif(p69 (a0,()))then(bif((f69 (a0,())).2.1 !=(0:Int))then(some (f69 (a0,())).2)else bif((decide (a1<(0:Int)))||(decide (a1>(5:Int))))then(some ((3:Int),()))else some ((0:Int),()))else none
theorem aSG(x:DenS IW):run (cf [(54,⟨Ck,Cl,p69,f69⟩)] []) 9 80 Tryz.f80 IW Jj x=mA p69 f69 x.1 x.2.1:=by kernel_rfl
def XT(x:DenS IW):Option (DenS Jj):=mA Aq.pre Aq.F x.1 x.2.1
def D8:Sum:=Aj IW Jj XT (DenS.dflt Jj)
theorem oS:Sound Tryz.prog G1 80 D8:=sd (cf [(54,Aq)] []) 80 Tryz.f80 ⟨Em,trivial⟩ trivial IW Jj XT _ (fun _=>aSG ..)
abbrev eP:=Al IW
abbrev fH:=Ak IW Jj
variable (p403:eP)(f403:fH)
abbrev Kw:Ab:=[(false,.int .i64),(false,.int .u64)]
abbrev KW:Ab:=[(true,.pair (.bool) (.pair (.int .u64) (.pair (.int .i64) (.unit))))]
def mB(p69:BK)(f69:BL)(p98:JP)(f98:JT)(a0:Aa (.int .i64))(a1:Aa (.int .u64)):Option (DenS KW):=let e1_:=(aa .i64 ((aa .i64 ((f69 (a0,())).1.2.2.1-(f69 (a0,())).1.2.1))+(1:Int)));let e2_:=(aa .i64 ((f69 (a0,())).1.2.1-(1:Int)));bif(p69 (a0,()))then(bif(p98 (a0,a1,()))then(bif(decide ((f98 (a0,a1,())).2.1>(0:Int)))then(bif(decide ((0:Int)<=e2_))then(some (((f98 (a0,a1,())).1,(A7 .u64 (f98 (a0,a1,())).2.2.1 (AQ .u64 (1:Int) e2_)),(aa .i64 (e1_+(aa .i64 ((aa .i64 (f98 (a0,a1,())).2.1)-(1:Int))))),()),()))else none)else some (((f98 (a0,a1,())).1,(f98 (a0,a1,())).2.2.1,e1_,()),()))else none)else none
theorem aSH(x:DenS Kw):run (cf [(54,⟨Ck,Cl,p69,f69⟩),(119,⟨Fj,Fv,p98,f98⟩)] []) 9 81 Tryz.f81 Kw KW x=mB p69 f69 p98 f98 x.1 x.2.1:=by kernel_rfl
def XU(x:DenS Kw):Option (DenS KW):=mB Aq.pre Aq.F Br.pre Br.F x.1 x.2.1
def Gh:Sum:=Aj Kw KW XU (DenS.dflt KW)
theorem yI:Sound Tryz.prog G1 81 Gh:=sd (cf [(54,Aq),(119,Br)] []) 81 Tryz.f81 ⟨Em,R3,trivial⟩ trivial Kw KW XU _ (fun _=>aSH ..)
abbrev qG:=Al Kw
abbrev rJ:=Ak Kw KW
variable (p404:qG)(f404:rJ)
abbrev Kx:Ab:=[(false,.int .i64),(true,.pair (.bool) (.pair (.int .u64) (.pair (.int .i64) (.unit))))]
abbrev HB:Ab:=[(false,.int .u64),(false,.bool)]
def mC(a0:Aa (.int .i64))(a1:Aa (.pair (.bool) (.pair (.int .u64) (.pair (.int .i64) (.unit))))):Option (DenS HB):=let e10_:=(aa .i64 ((0:Int)-a1.2.2.1));let e9_:=(if((63:Int)<e10_)then(63:Int)else e10_);let e8_:=(AJ .u64 a1.2.1 e9_);let e1_:=(aa .u64 (a1.2.1-(AQ .u64 e8_ e9_)));let e2_:=((aa .u64 (e8_+(1:Int))),true,());let e3_:=(AQ .u64 (1:Int) (aa .i64 (e9_-(1:Int))));let e4_:=(jp e8_ (2:Int));let e5_:=(e8_,true,());let e6_:=(decide ((0:Int)<=e9_));let e7_:=e9_;bif e6_ then(bif e6_ then(bif(e1_==(0:Int))then(some ((AJ .u64 a1.2.1 e7_),false,()))else bif(decide ((0:Int)<=(aa .i64 (e7_-(1:Int)))))then(bif(a0==(0:Int))then(bif((decide (e1_>e3_))||((e1_==e3_)&&(e4_==(1:Int))))then(some e2_)else some e5_)else bif(a0==(1:Int))then(bif(decide (e1_>=e3_))then(some e2_)else some e5_)else bif(a0==(3:Int))then(bif(!a1.1)then(some e2_)else some e5_)else bif(a0==(4:Int))then(bif a1.1 then(some e2_)else some e5_)else bif(a0==(5:Int))then(bif(e4_==(0:Int))then(some e2_)else some e5_)else some e5_)else none)else none)else none
theorem aSI(x:DenS Kx):run (cf [] []) 9 82 Tryz.f82 Kx HB x=mC x.1 x.2.1:=by kernel_rfl
def XV(x:DenS Kx):Option (DenS HB):=mC x.1 x.2.1
def Dm:Sum:=Aj Kx HB XV (DenS.dflt HB)
theorem yJ:Sound Tryz.prog G1 82 Dm:=sd (cf [] []) 82 Tryz.f82 trivial trivial Kx HB XV _ (fun _=>aSI ..)
abbrev qH:=Al Kx
abbrev rK:=Ak Kx HB
variable (p405:qH)(f405:rK)
abbrev N7:Ab:=[(false,.int .i64),(false,.int .i64),(false,.int .u64),(false,.bool)]
abbrev KX:Ab:=[(false,.int .u64),(false,.int .i64),(false,.int .i64)]
def mD(p403:eP)(f403:fH)(p65:Ep)(f65:Er)(p70:Ec)(f70:Ed)(p404:qG)(f404:rJ)(p405:qH)(f405:rK)(p122:H5)(f122:H8)(a0 a1:Aa (.int .i64))(a2:Aa (.int .u64))(a3:Aa (.bool)):Option (DenS KX):=let e7_:=(a0,a1,(f404 (a0,a2,())).1.1,((0:Int),(f405 (a1,(f404 (a0,a2,())))).1,()),(0:Int),false,());let e6_:=(f122 e7_);let e1_:=(e6_.1,(16:Int),e6_.2.2);let e2_:=(e6_.1,(0:Int),e6_.2.2);let e3_:=(p122 e7_);let e4_:=(decide ((f404 (a0,a2,())).1.2.2.1>=(0:Int)));let e5_:=((f405 (a1,(f404 (a0,a2,())))).2.1&&a3);let g1_:Option (DenS KX):=bif(p404 (a0,a2,()))then(bif e4_ then(some (a2,(0:Int),(0:Int),()))else bif(p405 (a1,(f404 (a0,a2,()))))then(bif e5_ then(bif e3_ then(some e1_)else none)else bif e3_ then(some e2_)else none)else none)else none;bif(p403 (a0,a1,()))then(bif((f403 (a0,a1,())).1 !=(0:Int))then(some ((0:Int),(0:Int),(f403 (a0,a1,()))))else bif(p65 (a0,a2,()))then(bif((f65 (a0,a2,())).2.1 !=(0:Int))then(some ((0:Int),(0:Int),(f65 (a0,a2,())).2))else bif(p70 (a0,()))then(bif((f65 (a0,a2,())).1==(0:Int))then(some ((f70 (a0,())).1,(1:Int),(0:Int),()))else bif((f65 (a0,a2,())).1==(1:Int))then(some ((f70 (a0,())).1,(0:Int),(0:Int),()))else bif((f65 (a0,a2,())).1==(2:Int))then(bif((f65 (a0,a2,())).1==(2:Int))then(some (a2,(0:Int),(0:Int),()))else g1_)else bif((f65 (a0,a2,())).1==(9:Int))then(bif((f65 (a0,a2,())).1==(9:Int))then(some (a2,(0:Int),(0:Int),()))else g1_)else bif((f65 (a0,a2,())).1==(5:Int))then(bif((f65 (a0,a2,())).1==(5:Int))then(some (a2,(0:Int),(0:Int),()))else g1_)else bif((f65 (a0,a2,())).1==(6:Int))then(some (a2,(0:Int),(0:Int),()))else g1_)else none)else none)else none
theorem aSJ(x:DenS N7):run (cf [(80,⟨IW,Jj,p403,f403⟩),(55,⟨DM,DN,p65,f65⟩),(56,⟨DE,DF,p70,f70⟩),(81,⟨Kw,KW,p404,f404⟩),(82,⟨Kx,HB,p405,f405⟩),(66,⟨E5,Fr,p122,f122⟩)] []) 9 96 Tryz.f96 N7 KX x=mD p403 f403 p65 f65 p70 f70 p404 f404 p405 f405 p122 f122 x.1 x.2.1 x.2.2.1 x.2.2.2.1:=by kernel_rfl
def XW(x:DenS N7):Option (DenS KX):=mD D8.pre D8.F AD.pre AD.F AB.pre AB.F Gh.pre Gh.F Dm.pre Dm.F A3.pre A3.F x.1 x.2.1 x.2.2.1 x.2.2.2.1
def QN:Sum:=Aj N7 KX XW (DenS.dflt KX)
theorem aJC:Sound Tryz.prog G1 96 QN:=sd (cf [(80,D8),(55,AD),(56,AB),(81,Gh),(82,Dm),(66,A3)] []) 96 Tryz.f96 ⟨oS,H3,GY,yI,yJ,TH,trivial⟩ trivial N7 KX XW _ (fun _=>aSJ ..)
abbrev aBm:=Al N7
abbrev aCA:=Ak N7 KX
variable (p406:aBm)(f406:aCA)
abbrev N8:Ab:=[(true,.pair (.int .i64) (.pair (.int .i64) (.pair (.int .u64) (.pair (.int .u64) (.pair (.int .u64) (.unit))))))]
abbrev PD:Ab:=[(false,.int .u64),(false,.int .i64),(false,.int .i64)]
def mE(p406:aBm)(f406:aCA)(a0:Aa (.pair (.int .i64) (.pair (.int .i64) (.pair (.int .u64) (.pair (.int .u64) (.pair (.int .u64) (.unit))))))):Option (DenS PD):=bif(p406 (a0.2.1,a0.1,a0.2.2.1,true,()))then(some (f406 (a0.2.1,a0.1,a0.2.2.1,true,())))else none
theorem aSK(x:DenS N8):run (cf [(96,⟨N7,KX,p406,f406⟩)] []) 9 184 Tryz.f184 N8 PD x=mE p406 f406 x.1:=by kernel_rfl
def XX(x:DenS N8):Option (DenS PD):=mE QN.pre QN.F x.1
def LH:Sum:=Aj N8 PD XX (DenS.dflt PD)
theorem yK:Sound Tryz.prog G1 184 LH:=sd (cf [(96,QN)] []) 184 Tryz.f184 ⟨aJC,trivial⟩ trivial N8 PD XX _ (fun _=>aSK ..)
abbrev qI:=Al N8
abbrev rL:=Ak N8 PD
variable (p407:qI)(f407:rL)
abbrev NX:Ab:=[(false,.slice (.int .i64)),(false,.slice (.int .i64)),(false,.int .u64)]
abbrev Pt:Ab:=[(false,.int .i64)]
abbrev GT:Pat:=⟨46,[(14,.one (.v .i64)),(13,.one (.sl (.int .i64))),(15,.one (.v .i64)),(1,.one (.sl (.int .i64))),(0,.one (.sl (.int .i64))),(2,.one (.v .u64))],[]⟩
abbrev WD:List (Nat×Shape):=[]
abbrev JK:List (Nat×Pat):=[(0,⟨46,[(1,.one (.sl (.int .i64))),(0,.one (.sl (.int .i64))),(2,.one (.v .u64))],[]⟩)]
abbrev Jx:Option Pat:=(some ⟨46,[(6,.one (.v .i64))],[]⟩)
abbrev GU:Pat:=⟨46,[(29,.one (.v .i64)),(28,.one (.sl (.int .i64))),(30,.one (.v .i64)),(0,.one (.sl (.int .i64))),(2,.one (.v .u64))],[]⟩
abbrev WE:List (Nat×Shape):=[]
abbrev JL:List (Nat×Pat):=[(2,⟨46,[(0,.one (.sl (.int .i64))),(2,.one (.v .u64))],[]⟩)]
abbrev Jy:Option Pat:=(some ⟨46,[(6,.one (.v .i64))],[]⟩)
variable (w391_2:Pat.D GT->Option (Ah JK Jx))(w391_9:Pat.D GU->Option (Ah JL Jy))
def Vt(p69:BK)(f69:BL)(p66:Cm)(f66:Cn){R:Type}(L:Pat.D GU->Option R)(e:Ah JL Jy->Option R)(x:Pat.D GU):Option R:=let e1_:=(x.1.2.1.getD (aj x.1.2.2.1) (0:Int));bif(decide (x.1.2.2.1<x.1.1))then(bif((decide ((0:Int)<=x.1.2.2.1))&&(decide (x.1.2.2.1<(x.1.2.1.length:Int))))then(bif((decide (e1_<(0:Int)))||(decide (e1_>(5:Int))))then(((e (.inr (((3:Int),()),())))))else(L ((x.1.1,x.1.2.1,(aa .i64 (x.1.2.2.1+(1:Int))),x.1.2.2.2),())))else none)else(e (.inl (x.1.2.2.2,())))
theorem aUC(d:Nat)(R:Type)(L:Pat.D GU->Option R)(e:Ah JL Jy->Option R)(x:Pat.D GU):
  BA (cf [(54,⟨Ck,Cl,p69,f69⟩),(59,⟨CI,CJ,p66,f66⟩)] [(78,2,LoopSpec.of GT WD JK Jx w391_2),(78,9,LoopSpec.of GU WE JL Jy w391_9)]) (d+2) 78 (Bw Tryz.f78 9) GU WE JL Jy (R:=R) L e x=Vt p69 f69 p66 f66 L e x:=by kernel_rfl
theorem aFZ(p69:BK)(f69:BL)(p66:Cm)(f66:Cn):Bp fun L e x=>Vt p69 f69 p66 f66 L e x:=by intro _ _ _ _ _ _ _ h0 hL he _;unfold Vt;repeat' (first|exact h0|exact hL _|exact he _|apply BT|(apply BU h0;intro _)|(apply BV<;>intro _))
def Vs(p69:BK)(f69:BL)(p66:Cm)(f66:Cn){R:Type}(L:Pat.D GT->Option R)(e:Ah JK Jx->Option R)(x:Pat.D GT):Option R:=let e2_:=((x.1.2.1.getD (aj x.1.2.2.1) (0:Int)),());let e1_:=(f69 e2_);bif(decide (x.1.2.2.1<x.1.1))then(bif((decide ((0:Int)<=x.1.2.2.1))&&(decide (x.1.2.2.1<(x.1.2.1.length:Int))))then(bif(p69 e2_)then(bif(e1_.2.1 !=(0:Int))then(((e (.inr (e1_.2,())))))else(L ((x.1.1,x.1.2.1,(aa .i64 (x.1.2.2.1+(1:Int))),x.1.2.2.2),())))else none)else none)else(e (.inl (x.1.2.2.2,())))
theorem aUB(d:Nat)(R:Type)(L:Pat.D GT->Option R)(e:Ah JK Jx->Option R)(x:Pat.D GT):
  BA (cf [(54,⟨Ck,Cl,p69,f69⟩),(59,⟨CI,CJ,p66,f66⟩)] [(78,2,LoopSpec.of GT WD JK Jx w391_2),(78,9,LoopSpec.of GU WE JL Jy w391_9)]) (d+2) 78 (Bw Tryz.f78 2) GT WD JK Jx (R:=R) L e x=Vs p69 f69 p66 f66 L e x:=by kernel_rfl
theorem aFY(p69:BK)(f69:BL)(p66:Cm)(f66:Cn):Bp fun L e x=>Vs p69 f69 p66 f66 L e x:=by intro _ _ _ _ _ _ _ h0 hL he _;unfold Vs;repeat' (first|exact h0|exact hL _|exact he _|apply BT|(apply BU h0;intro _)|(apply BV<;>intro _))
def lS(p69:BK)(f69:BL)(p66:Cm)(f66:Cn)(w391_2:Pat.D GT->Option (Ah JK Jx))(w391_9:Pat.D GU->Option (Ah JL Jy))(a0 a1:Aa (.slice (.int .i64)))(a2:Aa (.int .u64)):Option (DenS Pt):=
 Vx.AY (w391_2 (((a0.length:Int),a0,(0:Int),a1,a0,a2,()),())) fun y0=>
 Vx.A1 y0 (fun y1=>
 Vx.AY (w391_9 (((y1.1.1.length:Int),y1.1.1,(0:Int),y1.1.2),())) fun y2=>
 Vx.A1 y2 (fun y3=>
 bif(decide ((0:Int)<(y3.1.1.length:Int)))then(bif(p66 ((y3.1.1.getD (aj (0:Int)) (0:Int)),y3.1.2))then(some (f66 ((y3.1.1.getD (aj (0:Int)) (0:Int)),y3.1.2)))
 else none)
 else none) (fun z3=>
 some z3.1)) (fun z1=>
 some z1.1)
theorem aSu(x:DenS NX):run (cf [(54,⟨Ck,Cl,p69,f69⟩),(59,⟨CI,CJ,p66,f66⟩)] [(78,2,LoopSpec.of GT WD JK Jx w391_2),(78,9,LoopSpec.of GU WE JL Jy w391_9)]) 9 78 Tryz.f78 NX Pt x=lS p69 f69 p66 f66 w391_2 w391_9 x.1 x.2.1 x.2.2.1:=by kernel_rfl
def YL:GU.D->Option (Ah JL Jy):=Bf fun L=>Vt Aq.pre Aq.F Ar.pre Ar.F L some
def eA:GT.D->Option (Ah JK Jx):=Bf fun L=>Vs Aq.pre Aq.F Ar.pre Ar.F L some
def XK(x:DenS NX):Option (DenS Pt):=lS Aq.pre Aq.F Ar.pre Ar.F eA YL x.1 x.2.1 x.2.2.1
def QG:Sum:=Aj NX Pt XK (DenS.dflt Pt)
theorem aJv:Sound Tryz.prog G1 78 QG:=sd (cf [(54,Aq),(59,Ar)] [(78,2,LoopSpec.of GT WD JK Jx eA),(78,9,LoopSpec.of GU WE JL Jy YL)]) 78 Tryz.f78 ⟨Em,Gl,trivial⟩ ⟨rfl,fun d=>BR (fun L e x=>Vs Aq.pre Aq.F Ar.pre Ar.F L e x) (aFY Aq.pre Aq.F Ar.pre Ar.F) (fun _ _ _ _=>aUB ..),⟨rfl,fun d=>BR (fun L e x=>Vt Aq.pre Aq.F Ar.pre Ar.F L e x) (aFZ Aq.pre Aq.F Ar.pre Ar.F) (fun _ _ _ _=>aUC ..),trivial⟩⟩ NX Pt XK _ (fun _=>aSu ..)
abbrev aBf:=Al NX
abbrev aCt:=Ak NX Pt
variable (p391:aBf)(f391:aCt)
abbrev NY:Ab:=[(false,.int .i64),(false,.int .i64),(false,.int .i64),(false,.int .u64)]
abbrev Fu:Ab:=[(false,.int .u64),(false,.int .i64)]
def lT(p65:Ep)(f65:Er)(p98:JP)(f98:JT)(p70:Ec)(f70:Ed)(p97:Rf)(f97:Rj)(p118:JM)(f118:JQ)(p40:Re)(f40:Ri)(p51:eW)(f51:fM)(a0 a1 a2:Aa (.int .i64))(a3:Aa (.int .u64)):Option (DenS Fu):=let e5_:=(f51 (a1,a2,(f40 (a0,a3,())).1,()));let e1_:=(e5_.1,e5_.2.1,());let e2_:=((f118 (a1,(f98 (a0,a3,())).1,())).1,(0:Int),());let e3_:=((f97 (a1,(f98 (a0,a3,())).1,())).1,(0:Int),());let e4_:=(p51 (a1,a2,(f40 (a0,a3,())).1,()));let g6_:Option (DenS Fu):=bif(p97 (a1,(f98 (a0,a3,())).1,()))then(some e3_)else none;let g5_:Option (DenS Fu):=bif(p118 (a1,(f98 (a0,a3,())).1,()))then(some e2_)else none;let g4_:Option (DenS Fu):=bif(p40 (a0,a3,()))then(bif e4_ then(some e1_)else none)else none;let g2_:Option (DenS Fu):=bif((f65 (a0,a3,())).1==(6:Int))then(bif((f65 (a0,a3,())).1==(6:Int))then(g5_)else g4_)else bif((f65 (a0,a3,())).1==(5:Int))then(g5_)else g4_;let g1_:Option (DenS Fu):=bif((f65 (a0,a3,())).1==(9:Int))then(bif((f65 (a0,a3,())).1==(9:Int))then(g6_)else g2_)else bif((f65 (a0,a3,())).1==(2:Int))then(g6_)else g2_;let g3_:Option (DenS Fu):=bif(p70 (a1,()))then(bif((f65 (a0,a3,())).1==(0:Int))then(some ((f70 (a1,())).1,(1:Int),()))else some ((f70 (a1,())).1,(0:Int),()))else none;bif(p65 (a0,a3,()))then(bif(p98 (a0,a3,()))then(bif((f65 (a0,a3,())).1==(0:Int))then(bif((f65 (a0,a3,())).1==(0:Int))then(g3_)else g1_)else bif((f65 (a0,a3,())).1==(1:Int))then(g3_)else g1_)else none)else none
theorem aSv(x:DenS NY):run (cf [(55,⟨DM,DN,p65,f65⟩),(119,⟨Fj,Fv,p98,f98⟩),(56,⟨DE,DF,p70,f70⟩),(65,⟨GG,GN,p97,f97⟩),(38,⟨E4,Fq,p118,f118⟩),(71,⟨GC,GJ,p40,f40⟩),(130,⟨IY,Jm,p51,f51⟩)] []) 9 79 Tryz.f79 NY Fu x=lT p65 f65 p98 f98 p70 f70 p97 f97 p118 f118 p40 f40 p51 f51 x.1 x.2.1 x.2.2.1 x.2.2.2.1:=by kernel_rfl
def XL(x:DenS NY):Option (DenS Fu):=lT AD.pre AD.F Br.pre Br.F AB.pre AB.F BY.pre BY.F Bb.pre Bb.F Cy.pre Cy.F Dn.pre Dn.F x.1 x.2.1 x.2.2.1 x.2.2.2.1
def QH:Sum:=Aj NY Fu XL (DenS.dflt Fu)
theorem aJw:Sound Tryz.prog G1 79 QH:=sd (cf [(55,AD),(119,Br),(56,AB),(65,BY),(38,Bb),(71,Cy),(130,Dn)] []) 79 Tryz.f79 ⟨H3,R3,GY,WR,TG,WO,oY,trivial⟩ trivial NY Fu XL _ (fun _=>aSv ..)
abbrev aBg:=Al NY
abbrev aCu:=Ak NY Fu
variable (p392:aBg)(f392:aCu)
abbrev NZ:Ab:=[(false,.int .i64),(false,.int .i64),(false,.int .i64),(false,.int .u64)]
abbrev Pu:Ab:=[(false,.int .u64),(false,.int .i64),(false,.int .i64)]
def lU(p391:aBf)(f391:aCt)(p392:aBg)(f392:aCu)(a0 a1 a2:Aa (.int .i64))(a3:Aa (.int .u64)):Option (DenS Pu):=let e1_:=(f391 ((a0::(a1::[])),(a2::[]),a3,()));bif(p391 ((a0::(a1::[])),(a2::[]),a3,()))then(bif(e1_.1 !=(0:Int))then(some ((0:Int),(0:Int),e1_))else bif(p392 (a0,a1,a2,a3,()))then(some ((f392 (a0,a1,a2,a3,())).1,(f392 (a0,a1,a2,a3,())).2.1,(0:Int),()))else none)else none
theorem aSw(x:DenS NZ):run (cf [(78,⟨NX,Pt,p391,f391⟩),(79,⟨NY,Fu,p392,f392⟩)] []) 9 23 Tryz.f23 NZ Pu x=lU p391 f391 p392 f392 x.1 x.2.1 x.2.2.1 x.2.2.2.1:=by kernel_rfl
def XM(x:DenS NZ):Option (DenS Pu):=lU QG.pre QG.F QH.pre QH.F x.1 x.2.1 x.2.2.1 x.2.2.2.1
def QI:Sum:=Aj NZ Pu XM (DenS.dflt Pu)
theorem aJx:Sound Tryz.prog G1 23 QI:=sd (cf [(78,QG),(79,QH)] []) 23 Tryz.f23 ⟨aJv,aJw,trivial⟩ trivial NZ Pu XM _ (fun _=>aSw ..)
abbrev aBh:=Al NZ
abbrev aCv:=Ak NZ Pu
variable (p393:aBh)(f393:aCv)
abbrev N9:Ab:=[(true,.pair (.int .i64) (.pair (.int .i64) (.pair (.int .u64) (.pair (.int .u64) (.pair (.int .u64) (.unit))))))]
abbrev PE:Ab:=[(false,.int .u64),(false,.int .i64),(false,.int .i64)]
def mG(p393:aBh)(f393:aCv)(a0:Aa (.pair (.int .i64) (.pair (.int .i64) (.pair (.int .u64) (.pair (.int .u64) (.pair (.int .u64) (.unit))))))):Option (DenS PE):=let e1_:=(a0.2.1,(aa .i64 a0.2.2.2.2.1),a0.1,a0.2.2.1,());bif(p393 e1_)then(some (f393 e1_))else none
theorem aSL(x:DenS N9):run (cf [(23,⟨NZ,Pu,p393,f393⟩)] []) 9 185 Tryz.f185 N9 PE x=mG p393 f393 x.1:=by kernel_rfl
def XY(x:DenS N9):Option (DenS PE):=mG QI.pre QI.F x.1
def LI:Sum:=Aj N9 PE XY (DenS.dflt PE)
theorem yL:Sound Tryz.prog G1 185 LI:=sd (cf [(23,QI)] []) 185 Tryz.f185 ⟨aJx,trivial⟩ trivial N9 PE XY _ (fun _=>aSL ..)
abbrev qJ:=Al N9
abbrev rM:=Ak N9 PE
variable (p408:qJ)(f408:rM)
abbrev Oa:Ab:=[(true,.pair (.int .u64) (.pair (.int .u64) (.unit))),(false,.bool)]
abbrev PF:Ab:=[(false,.int .u64)]
def mH(a0:Aa (.pair (.int .u64) (.pair (.int .u64) (.unit))))(a1:Aa (.bool)):Option (DenS PF):=bif a1 then(some ((aa .u64 ((0:Int)-a0.1)),()))else some a0.2
theorem aSM(x:DenS Oa):run (cf [] []) 9 84 Tryz.f84 Oa PF x=mH x.1 x.2.1:=by kernel_rfl
def XZ(x:DenS Oa):Option (DenS PF):=mH x.1 x.2.1
def QO:Sum:=Aj Oa PF XZ (DenS.dflt PF)
theorem aJD:Sound Tryz.prog G1 84 QO:=sd (cf [] []) 84 Tryz.f84 trivial trivial Oa PF XZ _ (fun _=>aSM ..)
abbrev aBn:=Al Oa
abbrev aCB:=Ak Oa PF
variable (p409:aBn)(f409:aCB)
abbrev Oc:Ab:=[(false,.int .i64),(false,.int .i64),(false,.int .i64),(false,.int .u64)]
abbrev HC:Ab:=[(false,.int .u64),(false,.int .i64),(false,.int .i64)]
def mJ(p403:eP)(f403:fH)(p65:Ep)(f65:Er)(p404:qG)(f404:rJ)(p405:qH)(f405:rK)(p178:H6)(f178:H9)(p409:aBn)(f409:aCB)(a0 a1 a2:Aa (.int .i64))(a3:Aa (.int .u64)):Option (DenS HC):=let e18_:=(AQ .u64 (f404 (a0,a3,())).1.2.1 (f404 (a0,a3,())).1.2.2.1);let e19_:=(Vx.k_kinds.getD (aj a2) ((0:Int),(0:Int),()));let e1_:=(((!(f404 (a0,a3,())).1.1)&&(decide (e18_>e19_.2.1)))||((f404 (a0,a3,())).1.1&&(decide (e18_>e19_.1))));let e2_:=(((!(f404 (a0,a3,())).1.1)&&(decide ((f405 (a1,(f404 (a0,a3,())))).1>e19_.2.1)))||((f404 (a0,a3,())).1.1&&(decide ((f405 (a1,(f404 (a0,a3,())))).1>e19_.1))));let e3_:=((aa .u64 ((0:Int)-e18_)),(0:Int),(0:Int),());let e4_:=((aa .u64 ((0:Int)-e19_.1)),(1:Int),(0:Int),());let e16_:=(e19_,(f404 (a0,a3,())).1.1,());let e5_:=((f409 e16_).1,(1:Int),(0:Int),());let e6_:=(decide ((aa .i64 ((f178 ((f404 (a0,a3,())).1.2.1,())).1+(f404 (a0,a3,())).1.2.2.1))>(64:Int)));let e17_:=(aa .u64 ((0:Int)-(f405 (a1,(f404 (a0,a3,())))).1));let e7_:=(e17_,(16:Int),(0:Int),());let e8_:=(e17_,(0:Int),(0:Int),());let e9_:=(e18_,(0:Int),(0:Int),());let e10_:=(p409 e16_);let e11_:=(e19_.2.1,(1:Int),(0:Int),());let e12_:=((f405 (a1,(f404 (a0,a3,())))).1,(16:Int),(0:Int),());let e13_:=((f405 (a1,(f404 (a0,a3,())))).1,(0:Int),(0:Int),());let e14_:=(decide ((f404 (a0,a3,())).1.2.2.1<(0:Int)));let e15_:=(decide ((0:Int)<=(f404 (a0,a3,())).1.2.2.1));let g1_:Option (DenS HC):=bif((f65 (a0,a3,())).1==(2:Int))then(some e4_)else bif(p404 (a0,a3,()))then(bif e14_ then(bif(p405 (a1,(f404 (a0,a3,()))))then(bif e2_ then(bif e10_ then(some e5_)else none)else bif(f404 (a0,a3,())).1.1 then(bif(f405 (a1,(f404 (a0,a3,())))).2.1 then(some e7_)else some e8_)else bif(f405 (a1,(f404 (a0,a3,())))).2.1 then(some e12_)else some e13_)else none)else bif(p178 ((f404 (a0,a3,())).1.2.1,()))then(bif e6_ then(bif e10_ then(some e5_)else none)else bif e15_ then(bif e1_ then(bif e10_ then(some e5_)else none)else bif(f404 (a0,a3,())).1.1 then(some e3_)else some e9_)else none)else none)else none;bif(p403 (a0,a1,()))then(bif((f403 (a0,a1,())).1 !=(0:Int))then(some ((0:Int),(0:Int),(f403 (a0,a1,()))))else bif((decide (a2<(0:Int)))||(decide (a2>(3:Int))))then(some ((0:Int),(0:Int),(9:Int),()))else bif(p65 (a0,a3,()))then(bif((f65 (a0,a3,())).2.1 !=(0:Int))then(some ((0:Int),(0:Int),(f65 (a0,a3,())).2))else bif(bif(decide ((0:Int)<=a2))then(decide (a2<((4:Nat):Int)))else false)then(bif((f65 (a0,a3,())).1==(0:Int))then(bif((f65 (a0,a3,())).1==(0:Int))then(some e11_)else g1_)else bif((f65 (a0,a3,())).1==(1:Int))then(bif((f65 (a0,a3,())).1==(1:Int))then(some e11_)else g1_)else bif((f65 (a0,a3,())).1==(9:Int))then(some e11_)else g1_)else none)else none)else none
theorem aSO(x:DenS Oc):run (cf [(80,⟨IW,Jj,p403,f403⟩),(55,⟨DM,DN,p65,f65⟩),(81,⟨Kw,KW,p404,f404⟩),(82,⟨Kx,HB,p405,f405⟩),(83,⟨F3,Ft,p178,f178⟩),(84,⟨Oa,PF,p409,f409⟩)] []) 9 28 Tryz.f28 Oc HC x=mJ p403 f403 p65 f65 p404 f404 p405 f405 p178 f178 p409 f409 x.1 x.2.1 x.2.2.1 x.2.2.2.1:=by kernel_rfl
def X1(x:DenS Oc):Option (DenS HC):=mJ D8.pre D8.F AD.pre AD.F Gh.pre Gh.F Dm.pre Dm.F Bx.pre Bx.F QO.pre QO.F x.1 x.2.1 x.2.2.1 x.2.2.2.1
def QQ:Sum:=Aj Oc HC X1 (DenS.dflt HC)
theorem aJE:Sound Tryz.prog G1 28 QQ:=sd (cf [(80,D8),(55,AD),(81,Gh),(82,Dm),(83,Bx),(84,QO)] []) 28 Tryz.f28 ⟨oS,H3,yI,yJ,WM,aJD,trivial⟩ trivial Oc HC X1 _ (fun _=>aSO ..)
abbrev aBp:=Al Oc
abbrev aCD:=Ak Oc HC
variable (p410:aBp)(f410:aCD)
abbrev Od:Ab:=[(true,.pair (.int .i64) (.pair (.int .i64) (.pair (.int .u64) (.pair (.int .u64) (.pair (.int .u64) (.unit))))))]
abbrev PH:Ab:=[(false,.int .u64),(false,.int .i64),(false,.int .i64)]
def mK(p410:aBp)(f410:aCD)(a0:Aa (.pair (.int .i64) (.pair (.int .i64) (.pair (.int .u64) (.pair (.int .u64) (.pair (.int .u64) (.unit))))))):Option (DenS PH):=let e1_:=(a0.2.1,a0.1,(aa .i64 a0.2.2.2.2.1),a0.2.2.1,());bif(p410 e1_)then(some (f410 e1_))else none
theorem aSP(x:DenS Od):run (cf [(28,⟨Oc,HC,p410,f410⟩)] []) 9 186 Tryz.f186 Od PH x=mK p410 f410 x.1:=by kernel_rfl
def X2(x:DenS Od):Option (DenS PH):=mK QQ.pre QQ.F x.1
def LJ:Sum:=Aj Od PH X2 (DenS.dflt PH)
theorem yM:Sound Tryz.prog G1 186 LJ:=sd (cf [(28,QQ)] []) 186 Tryz.f186 ⟨aJE,trivial⟩ trivial Od PH X2 _ (fun _=>aSP ..)
abbrev qK:=Al Od
abbrev rN:=Ak Od PH
variable (p411:qK)(f411:rN)
abbrev Oe:Ab:=[(false,.int .i64),(false,.int .i64),(false,.int .i64),(false,.int .u64)]
abbrev PI:Ab:=[(false,.int .u64),(false,.int .i64),(false,.int .i64)]
def mL(p403:eP)(f403:fH)(p122:H5)(f122:H8)(a0 a1 a2:Aa (.int .i64))(a3:Aa (.int .u64)):Option (DenS PI):=let e8_:=(Vx.k_kinds.getD (aj a2) ((0:Int),(0:Int),()));let e7_:=((decide (e8_.1>(0:Int)))&&((AJ .u64 a3 (63:Int))==(1:Int)));let e9_:=(aa .u64 ((0:Int)-a3));let e1_:=(a0,a1,e7_,((0:Int),e9_,()),(0:Int),false,());let e2_:=(a0,a1,e7_,((0:Int),a3,()),(0:Int),false,());let e3_:=(!e7_);let e4_:=e7_;let e5_:=e8_;let e6_:=e9_;bif(p403 (a0,a1,()))then(bif((f403 (a0,a1,())).1 !=(0:Int))then(some ((0:Int),(0:Int),(f403 (a0,a1,()))))else bif((decide (a2<(0:Int)))||(decide (a2>(3:Int))))then(some ((0:Int),(0:Int),(9:Int),()))else bif(bif(decide ((0:Int)<=a2))then(decide (a2<((4:Nat):Int)))else false)then(bif e4_ then(bif((e3_&&(decide (e6_>e5_.2.1)))||(e4_&&(decide (e6_>e5_.1))))then(some ((0:Int),(0:Int),(7:Int),()))else bif(p122 e1_)then(some (f122 e1_))else none)else bif((e3_&&(decide (a3>e5_.2.1)))||(e4_&&(decide (a3>e5_.1))))then(some ((0:Int),(0:Int),(7:Int),()))else bif(p122 e2_)then(some (f122 e2_))else none)else none)else none
theorem aSQ(x:DenS Oe):run (cf [(80,⟨IW,Jj,p403,f403⟩),(66,⟨E5,Fr,p122,f122⟩)] []) 9 26 Tryz.f26 Oe PI x=mL p403 f403 p122 f122 x.1 x.2.1 x.2.2.1 x.2.2.2.1:=by kernel_rfl
def X3(x:DenS Oe):Option (DenS PI):=mL D8.pre D8.F A3.pre A3.F x.1 x.2.1 x.2.2.1 x.2.2.2.1
def QR:Sum:=Aj Oe PI X3 (DenS.dflt PI)
theorem aJF:Sound Tryz.prog G1 26 QR:=sd (cf [(80,D8),(66,A3)] []) 26 Tryz.f26 ⟨oS,TH,trivial⟩ trivial Oe PI X3 _ (fun _=>aSQ ..)
abbrev aBq:=Al Oe
abbrev aCE:=Ak Oe PI
variable (p412:aBq)(f412:aCE)
abbrev Of:Ab:=[(true,.pair (.int .i64) (.pair (.int .i64) (.pair (.int .u64) (.pair (.int .u64) (.pair (.int .u64) (.unit))))))]
abbrev PJ:Ab:=[(false,.int .u64),(false,.int .i64),(false,.int .i64)]
def mM(p412:aBq)(f412:aCE)(a0:Aa (.pair (.int .i64) (.pair (.int .i64) (.pair (.int .u64) (.pair (.int .u64) (.pair (.int .u64) (.unit))))))):Option (DenS PJ):=let e1_:=(a0.2.1,a0.1,(aa .i64 a0.2.2.2.2.1),a0.2.2.1,());bif(p412 e1_)then(some (f412 e1_))else none
theorem aSR(x:DenS Of):run (cf [(26,⟨Oe,PI,p412,f412⟩)] []) 9 187 Tryz.f187 Of PJ x=mM p412 f412 x.1:=by kernel_rfl
def X4(x:DenS Of):Option (DenS PJ):=mM QR.pre QR.F x.1
def LL:Sum:=Aj Of PJ X4 (DenS.dflt PJ)
theorem yN:Sound Tryz.prog G1 187 LL:=sd (cf [(26,QR)] []) 187 Tryz.f187 ⟨aJF,trivial⟩ trivial Of PJ X4 _ (fun _=>aSR ..)
abbrev qL:=Al Of
abbrev rO:=Ak Of PJ
variable (p413:qL)(f413:rO)
abbrev Km:Ab:=[(false,.int .i64),(false,.int .u64)]
abbrev KI:Ab:=[(false,.int .u64),(false,.int .i64)]
def Wa(p66:Cm)(f66:Cn)(p115:YP)(f115:YX)(a0:Aa (.int .i64))(a1:Aa (.int .u64)):Option (DenS KI):=bif(p66 (a0,a1,()))then(bif((f66 (a0,a1,())).1 !=(0:Int))then(some ((0:Int),(f66 (a0,a1,()))))else bif(p115 (a0,()))then(some ((JW .u64 a1 (f115 (a0,())).1),(0:Int),()))else none)else none
theorem aRe(x:DenS Km):run (cf [(59,⟨CI,CJ,p66,f66⟩),(120,⟨II,I7,p115,f115⟩)] []) 9 147 Tryz.f147 Km KI x=Wa p66 f66 p115 f115 x.1 x.2.1:=by kernel_rfl
def R7(x:DenS Km):Option (DenS KI):=Wa Ar.pre Ar.F Dk.pre Dk.F x.1 x.2.1
def D5:Sum:=Aj Km KI R7 (DenS.dflt KI)
theorem oK:Sound Tryz.prog G1 147 D5:=sd (cf [(59,Ar),(120,Dk)] []) 147 Tryz.f147 ⟨Gl,oL,trivial⟩ trivial Km KI R7 _ (fun _=>aRe ..)
abbrev eG:=Al Km
abbrev eZ:=Ak Km KI
variable (p112:eG)(f112:eZ)
abbrev I1:Ab:=[(false,.int .i64),(false,.int .u64)]
abbrev Jq:Ab:=[(true,.pair (.int .i64) (.pair (.int .i64) (.unit))),(false,.int .i64)]
def Wm(p65:Ep)(f65:Er)(p112:eG)(f112:eZ)(a0:Aa (.int .i64))(a1:Aa (.int .u64)):Option (DenS Jq):=let e1_:=(aa .i64 (f112 (a0,a1,())).1);bif(p65 (a0,a1,()))then(bif((f65 (a0,a1,())).2.1 !=(0:Int))then(some (((0:Int),(0:Int),()),(f65 (a0,a1,())).2))else bif(p112 (a0,a1,()))then(bif((f112 (a0,a1,())).1 !=a1)then(some (((f65 (a0,a1,())).1,(aa .i64 ((0:Int)-e1_)),()),(0:Int),()))else some (((f65 (a0,a1,())).1,e1_,()),(0:Int),()))else none)else none
theorem r82(x:DenS I1):run (cf [(55,⟨DM,DN,p65,f65⟩),(147,⟨Km,KI,p112,f112⟩)] []) 9 129 Tryz.f129 I1 Jq x=Wm p65 f65 p112 f112 x.1 x.2.1:=by kernel_rfl
def Ug(x:DenS I1):Option (DenS Jq):=Wm AD.pre AD.F D5.pre D5.F x.1 x.2.1
def DG:Sum:=Aj I1 Jq Ug (DenS.dflt Jq)
theorem o0:Sound Tryz.prog G1 129 DG:=sd (cf [(55,AD),(147,D5)] []) 129 Tryz.f129 ⟨H3,oK,trivial⟩ trivial I1 Jq Ug _ (fun _=>r82 ..)
abbrev YT:=Al I1
abbrev Y1:=Ak I1 Jq
variable (p82:YT)(f82:Y1)
abbrev GD:Ab:=[(true,.pair (.int .i64) (.pair (.int .i64) (.unit)))]
abbrev GK:Ab:=[(false,.bool)]
def t53(a0:Aa (.pair (.int .i64) (.pair (.int .i64) (.unit)))):Option (DenS GK):=some (((a0.1==(1:Int))||(a0.1==(0:Int))),())
theorem r53(x:DenS GD):run (cf [] []) 9 75 Tryz.f75 GD GK x=t53 x.1:=by kernel_rfl
def Yn(x:DenS GD):Option (DenS GK):=t53 x.1
def Cz:Sum:=Aj GD GK Yn (DenS.dflt GK)
theorem WP:Sound Tryz.prog G1 75 Cz:=sd (cf [] []) 75 Tryz.f75 trivial trivial GD GK Yn _ (fun _=>r53 ..)
abbrev Su:=Al GD
abbrev Sz:=Ak GD GK
variable (p53:Su)(f53:Sz)
abbrev GE:Ab:=[(true,.pair (.int .i64) (.pair (.int .i64) (.unit))),(true,.pair (.int .i64) (.pair (.int .i64) (.unit)))]
abbrev GL:Ab:=[(false,.int .i64)]
def nH(a0 a1:Aa (.pair (.int .i64) (.pair (.int .i64) (.unit)))):Option (DenS GL):=bif((a0.1==(0:Int))||(a1.1==(0:Int)))then(some ((1:Int),()))else some ((0:Int),())
theorem r54(x:DenS GE):run (cf [] []) 9 76 Tryz.f76 GE GL x=nH x.1 x.2.1:=by kernel_rfl
def Yo(x:DenS GE):Option (DenS GL):=nH x.1 x.2.1
def CA:Sum:=Aj GE GL Yo (DenS.dflt GL)
theorem WQ:Sound Tryz.prog G1 76 CA:=sd (cf [] []) 76 Tryz.f76 trivial trivial GE GL Yo _ (fun _=>r54 ..)
abbrev Sv:=Al GE
abbrev SA:=Ak GE GL
variable (p54:Sv)(f54:SA)
abbrev OL:Ab:=[(false,.int .i64),(false,.int .u64),(false,.int .i64)]
abbrev P9:Ab:=[(false,.int .u64),(false,.int .i64),(false,.int .i64)]
def nO(p82:YT)(f82:Y1)(p53:Su)(f53:Sz)(p70:Ec)(f70:Ed)(p54:Sv)(f54:SA)(p64:Uu)(f64:UG)(a0:Aa (.int .i64))(a1:Aa (.int .u64))(a2:Aa (.int .i64)):Option (DenS P9):=let e4_:=(aa .i64 ((f82 (a0,a1,())).1.2.1+a2));let e1_:=(f64 (a0,(aa .u64 (aa .i64 ((0:Int)-e4_))),()));let e2_:=e4_;let e3_:=((f82 (a0,a1,())).1,(f82 (a0,a1,())).1,());bif(p82 (a0,a1,()))then(bif((f82 (a0,a1,())).2.1 !=(0:Int))then(some ((0:Int),(0:Int),(f82 (a0,a1,())).2))else bif(p53 ((f82 (a0,a1,())).1,()))then(bif(f53 ((f82 (a0,a1,())).1,())).1 then(bif(p70 (a0,()))then(bif(p54 e3_)then(some ((f70 (a0,())).1,(f54 e3_).1,(0:Int),()))else none)else none)else bif((((f82 (a0,a1,())).1.1==(9:Int))&&(decide (a2>(0:Int))))||(((f82 (a0,a1,())).1.1==(2:Int))&&(decide (a2<(0:Int)))))then(some (a1,(0:Int),(0:Int),()))else bif((decide (e2_>(0:Int)))||((e2_==(0:Int))&&(decide (a2<(0:Int)))))then(some ((aa .u64 e2_),(0:Int),(0:Int),()))else bif(p64 (a0,(aa .u64 (aa .i64 ((0:Int)-e2_))),()))then(some (e1_.1,(0:Int),e1_.2))else none)else none)else none
theorem r93(x:DenS OL):run (cf [(129,⟨I1,Jq,p82,f82⟩),(75,⟨GD,GK,p53,f53⟩),(56,⟨DE,DF,p70,f70⟩),(76,⟨GE,GL,p54,f54⟩),(60,⟨I0,Jo,p64,f64⟩)] []) 9 146 Tryz.f146 OL P9 x=nO p82 f82 p53 f53 p70 f70 p54 f54 p64 f64 x.1 x.2.1 x.2.2.1:=by kernel_rfl
def Yz(x:DenS OL):Option (DenS P9):=nO DG.pre DG.F Cz.pre Cz.F AB.pre AB.F CA.pre CA.F DR.pre DR.F x.1 x.2.1 x.2.2.1
def Q0:Sum:=Aj OL P9 Yz (DenS.dflt P9)
theorem aJ3:Sound Tryz.prog G1 146 Q0:=sd (cf [(129,DG),(75,Cz),(56,AB),(76,CA),(60,DR)] []) 146 Tryz.f146 ⟨o0,WP,GY,WQ,dA,trivial⟩ trivial OL P9 Yz _ (fun _=>r93 ..)
abbrev Y93:=Al OL
abbrev Z93:=Ak OL P9
variable (p93:Y93)(f93:Z93)
abbrev Ob:Ab:=[(false,.int .i64),(false,.int .u64)]
abbrev PG:Ab:=[(false,.int .u64),(false,.int .i64),(false,.int .i64)]
def mI(p93:Y93)(f93:Z93)(a0:Aa (.int .i64))(a1:Aa (.int .u64)):Option (DenS PG):=bif(p93 (a0,a1,(1:Int),()))then(some (f93 (a0,a1,(1:Int),())))else none
theorem r41(x:DenS Ob):run (cf [(146,⟨OL,P9,p93,f93⟩)] []) 9 99 Tryz.f99 Ob PG x=mI p93 f93 x.1 x.2.1:=by kernel_rfl
def X0(x:DenS Ob):Option (DenS PG):=mI Q0.pre Q0.F x.1 x.2.1
def QP:Sum:=Aj Ob PG X0 (DenS.dflt PG)
theorem aJI:Sound Tryz.prog G1 99 QP:=sd (cf [(146,Q0)] []) 99 Tryz.f99 ⟨aJ3,trivial⟩ trivial Ob PG X0 _ (fun _=>r41 ..)
abbrev Y41:=Al Ob
abbrev Z41:=Ak Ob PG
variable (p41:Y41)(f41:Z41)
abbrev Og:Ab:=[(true,.pair (.int .i64) (.pair (.int .i64) (.pair (.int .u64) (.pair (.int .u64) (.pair (.int .u64) (.unit))))))]
abbrev PK:Ab:=[(false,.int .u64),(false,.int .i64),(false,.int .i64)]
def mN(p41:Y41)(f41:Z41)(a0:Aa (.pair (.int .i64) (.pair (.int .i64) (.pair (.int .u64) (.pair (.int .u64) (.pair (.int .u64) (.unit))))))):Option (DenS PK):=bif(p41 (a0.2.1,a0.2.2.1,()))then(some (f41 (a0.2.1,a0.2.2.1,())))else none
theorem aSS(x:DenS Og):run (cf [(99,⟨Ob,PG,p41,f41⟩)] []) 9 190 Tryz.f190 Og PK x=mN p41 f41 x.1:=by kernel_rfl
def X5(x:DenS Og):Option (DenS PK):=mN QP.pre QP.F x.1
def LM:Sum:=Aj Og PK X5 (DenS.dflt PK)
theorem yO:Sound Tryz.prog G1 190 LM:=sd (cf [(99,QP)] []) 190 Tryz.f190 ⟨aJI,trivial⟩ trivial Og PK X5 _ (fun _=>aSS ..)
abbrev qM:=Al Og
abbrev rP:=Ak Og PK
variable (p414:qM)(f414:rP)
abbrev NU:Ab:=[(false,.int .i64),(false,.int .i64),(false,.int .u64),(false,.int .i64)]
abbrev KS:Ab:=[(false,.int .u64),(false,.int .i64),(false,.int .i64)]
def lP(p69:BK)(f69:BL)(p82:YT)(f82:Y1)(p53:Su)(f53:Sz)(p70:Ec)(f70:Ed)(p54:Sv)(f54:SA)(p40:Re)(f40:Ri)(p51:eW)(f51:fM)(a0 a1:Aa (.int .i64))(a2:Aa (.int .u64))(a3:Aa (.int .i64)):Option (DenS KS):=let e3_:=(if((10000:Int)<a3)then(10000:Int)else a3);let e1_:=(a0,a1,((f40 (a0,a2,())).1.1,(f40 (a0,a2,())).1.2.1,(aa .i64 ((f40 (a0,a2,())).1.2.2.1+(if(e3_>(-(10000:Int)))then e3_ else(-(10000:Int))))),()),());let e2_:=((f82 (a0,a2,())).1,(f82 (a0,a2,())).1,());bif(p69 (a0,()))then(bif((f69 (a0,())).2.1 !=(0:Int))then(some ((0:Int),(0:Int),(f69 (a0,())).2))else bif((decide (a1<(0:Int)))||(decide (a1>(5:Int))))then(some ((0:Int),(0:Int),(3:Int),()))else bif(p82 (a0,a2,()))then(bif((f82 (a0,a2,())).2.1 !=(0:Int))then(some ((0:Int),(0:Int),(f82 (a0,a2,())).2))else bif(p53 ((f82 (a0,a2,())).1,()))then(bif(f53 ((f82 (a0,a2,())).1,())).1 then(bif(p70 (a0,()))then(bif(p54 e2_)then(some ((f70 (a0,())).1,(f54 e2_).1,(0:Int),()))else none)else none)else bif(p40 (a0,a2,()))then(bif(((f40 (a0,a2,())).2.1 !=(0:Int))||((f82 (a0,a2,())).1.2.1==(0:Int)))then(some (a2,(0:Int),(0:Int),()))else bif(p51 e1_)then(some (f51 e1_))else none)else none)else none)else none)else none
theorem r38(x:DenS NU):run (cf [(54,⟨Ck,Cl,p69,f69⟩),(129,⟨I1,Jq,p82,f82⟩),(75,⟨GD,GK,p53,f53⟩),(56,⟨DE,DF,p70,f70⟩),(76,⟨GE,GL,p54,f54⟩),(71,⟨GC,GJ,p40,f40⟩),(130,⟨IY,Jm,p51,f51⟩)] []) 9 100 Tryz.f100 NU KS x=lP p69 f69 p82 f82 p53 f53 p70 f70 p54 f54 p40 f40 p51 f51 x.1 x.2.1 x.2.2.1 x.2.2.2.1:=by kernel_rfl
def XH(x:DenS NU):Option (DenS KS):=lP Aq.pre Aq.F DG.pre DG.F Cz.pre Cz.F AB.pre AB.F CA.pre CA.F Cy.pre Cy.F Dn.pre Dn.F x.1 x.2.1 x.2.2.1 x.2.2.2.1
def QE:Sum:=Aj NU KS XH (DenS.dflt KS)
theorem aJu:Sound Tryz.prog G1 100 QE:=sd (cf [(54,Aq),(129,DG),(75,Cz),(56,AB),(76,CA),(71,Cy),(130,Dn)] []) 100 Tryz.f100 ⟨Em,o0,WP,GY,WQ,WO,oY,trivial⟩ trivial NU KS XH _ (fun _=>r38 ..)
abbrev Y38:=Al NU
abbrev Z38:=Ak NU KS
variable (p38:Y38)(f38:Z38)
abbrev Oh:Ab:=[(true,.pair (.int .i64) (.pair (.int .i64) (.pair (.int .u64) (.pair (.int .u64) (.pair (.int .u64) (.unit))))))]
abbrev PL:Ab:=[(false,.int .u64),(false,.int .i64),(false,.int .i64)]
def mO(p38:Y38)(f38:Z38)(a0:Aa (.pair (.int .i64) (.pair (.int .i64) (.pair (.int .u64) (.pair (.int .u64) (.pair (.int .u64) (.unit))))))):Option (DenS PL):=let e1_:=(a0.2.1,a0.1,a0.2.2.1,(aa .i64 a0.2.2.2.1),());bif(p38 e1_)then(some (f38 e1_))else none
theorem aST(x:DenS Oh):run (cf [(100,⟨NU,KS,p38,f38⟩)] []) 9 191 Tryz.f191 Oh PL x=mO p38 f38 x.1:=by kernel_rfl
def X6(x:DenS Oh):Option (DenS PL):=mO QE.pre QE.F x.1
def LN:Sum:=Aj Oh PL X6 (DenS.dflt PL)
theorem yP:Sound Tryz.prog G1 191 LN:=sd (cf [(100,QE)] []) 191 Tryz.f191 ⟨aJu,trivial⟩ trivial Oh PL X6 _ (fun _=>aST ..)
abbrev qN:=Al Oh
abbrev rQ:=Ak Oh PL
variable (p415:qN)(f415:rQ)
abbrev Oi:Ab:=[(true,.pair (.int .i64) (.pair (.int .i64) (.pair (.int .u64) (.pair (.int .u64) (.pair (.int .u64) (.unit))))))]
abbrev PM:Ab:=[(false,.int .u64),(false,.int .i64),(false,.int .i64)]
def mP(p65:Ep)(f65:Er)(a0:Aa (.pair (.int .i64) (.pair (.int .i64) (.pair (.int .u64) (.pair (.int .u64) (.pair (.int .u64) (.unit))))))):Option (DenS PM):=bif(p65 (a0.2.1,a0.2.2.1,()))then(some ((aa .u64 (f65 (a0.2.1,a0.2.2.1,())).1),(0:Int),(f65 (a0.2.1,a0.2.2.1,())).2))else none
theorem aSU(x:DenS Oi):run (cf [(55,⟨DM,DN,p65,f65⟩)] []) 9 192 Tryz.f192 Oi PM x=mP p65 f65 x.1:=by kernel_rfl
def X7(x:DenS Oi):Option (DenS PM):=mP AD.pre AD.F x.1
def LO:Sum:=Aj Oi PM X7 (DenS.dflt PM)
theorem yQ:Sound Tryz.prog G1 192 LO:=sd (cf [(55,AD)] []) 192 Tryz.f192 ⟨H3,trivial⟩ trivial Oi PM X7 _ (fun _=>aSU ..)
abbrev qO:=Al Oi
abbrev rR:=Ak Oi PM
variable (p416:qO)(f416:rR)
abbrev Oj:Ab:=[(false,.int .i64),(false,.int .u64),(false,.int .u64)]
abbrev PN:Ab:=[(false,.int .u64),(false,.int .i64)]
def mQ(p66:Cm)(f66:Cn)(p115:YP)(f115:YX)(a0:Aa (.int .i64))(a1 a2:Aa (.int .u64)):Option (DenS PN):=bif(p66 (a0,a1,()))then(bif((f66 (a0,a1,())).1 !=(0:Int))then(some ((0:Int),(f66 (a0,a1,()))))else bif(p66 (a0,a2,()))then(bif((f66 (a0,a2,())).1 !=(0:Int))then(some ((0:Int),(f66 (a0,a2,()))))else bif(p115 (a0,()))then(bif(p115 (a0,()))then(some ((A7 .u64 (JW .u64 a1 (f115 (a0,())).1) (A9 .u64 a2 (f115 (a0,())).1)),(0:Int),()))else none)else none)else none)else none
theorem aSV(x:DenS Oj):run (cf [(59,⟨CI,CJ,p66,f66⟩),(120,⟨II,I7,p115,f115⟩)] []) 9 148 Tryz.f148 Oj PN x=mQ p66 f66 p115 f115 x.1 x.2.1 x.2.2.1:=by kernel_rfl
def X8(x:DenS Oj):Option (DenS PN):=mQ Ar.pre Ar.F Dk.pre Dk.F x.1 x.2.1 x.2.2.1
def QS:Sum:=Aj Oj PN X8 (DenS.dflt PN)
theorem aJG:Sound Tryz.prog G1 148 QS:=sd (cf [(59,Ar),(120,Dk)] []) 148 Tryz.f148 ⟨Gl,oL,trivial⟩ trivial Oj PN X8 _ (fun _=>aSV ..)
abbrev aBr:=Al Oj
abbrev aCF:=Ak Oj PN
variable (p417:aBr)(f417:aCF)
abbrev Ol:Ab:=[(true,.pair (.int .i64) (.pair (.int .i64) (.pair (.int .u64) (.pair (.int .u64) (.pair (.int .u64) (.unit))))))]
abbrev PO:Ab:=[(false,.int .u64),(false,.int .i64),(false,.int .i64)]
def mR(p417:aBr)(f417:aCF)(a0:Aa (.pair (.int .i64) (.pair (.int .i64) (.pair (.int .u64) (.pair (.int .u64) (.pair (.int .u64) (.unit))))))):Option (DenS PO):=bif(p417 (a0.2.1,a0.2.2.1,a0.2.2.2.1,()))then(some ((f417 (a0.2.1,a0.2.2.1,a0.2.2.2.1,())).1,(0:Int),(f417 (a0.2.1,a0.2.2.1,a0.2.2.2.1,())).2))else none
theorem aSW(x:DenS Ol):run (cf [(148,⟨Oj,PN,p417,f417⟩)] []) 9 194 Tryz.f194 Ol PO x=mR p417 f417 x.1:=by kernel_rfl
def X9(x:DenS Ol):Option (DenS PO):=mR QS.pre QS.F x.1
def LP:Sum:=Aj Ol PO X9 (DenS.dflt PO)
theorem yR:Sound Tryz.prog G1 194 LP:=sd (cf [(148,QS)] []) 194 Tryz.f194 ⟨aJG,trivial⟩ trivial Ol PO X9 _ (fun _=>aSW ..)
abbrev qP:=Al Ol
abbrev rS:=Ak Ol PO
variable (p418:qP)(f418:rS)
end Vx
namespace Vx
open Go Go.Proofs
variable (p69:BK)(f69:BL)(p66:Cm)(f66:Cn)(p65:Ep)(f65:Er)(p70:Ec)(f70:Ed)(p178:H6)(f178:H9)(p122:H5)(f122:H8)(p27:eK)(f27:fD)(p64:Uu)(f64:UG)(p25:pV)(f25:q8)(p354:qA)(f354:rD)(p40:Re)(f40:Ri)(p328:ES)(f328:EU)(p381:qB)(f381:rE)(p395:qC)(f395:rF)(p396:qD)(f396:rG)(p402:qF)(f402:rI)(p407:qI)(f407:rL)(p408:qJ)(f408:rM)(p411:qK)(f411:rN)(p413:qL)(f413:rO)(p112:eG)(f112:eZ)(p82:YT)(f82:Y1)(p53:Su)(f53:Sz)(p54:Sv)(f54:SA)(p414:qM)(f414:rP)(p415:qN)(f415:rQ)(p416:qO)(f416:rR)(p418:qP)(f418:rS)
abbrev Om:Ab:=[(false,.int .i64),(false,.int .u64),(false,.int .u64)]
abbrev PP:Ab:=[(false,.int .u64),(false,.int .i64),(false,.bool),(false,.int .i64)]
abbrev HX:Pat:=⟨109,[(32,.one (.v .i64)),(31,.one (.sl (.int .u64))),(33,.one (.v .i64)),(2,.one (.v .u64)),(0,.one (.v .i64)),(1,.one (.v .u64))],[]⟩
abbrev bX:List (Nat×Shape):=[]
abbrev Mo:List (Nat×Pat):=[(0,⟨109,[(2,.one (.v .u64)),(0,.one (.v .i64)),(1,.one (.v .u64))],[]⟩)]
abbrev Lu:Option Pat:=(some ⟨109,[(6,.one (.v .u64)),(7,.one (.v .i64)),(8,.one (.bool)),(9,.one (.v .i64))],[]⟩)
variable (w419_5:Pat.D HX->Option (Ah Mo Lu))
def Vu(p69:BK)(f69:BL)(p66:Cm)(f66:Cn)(p65:Ep)(f65:Er)(p70:Ec)(f70:Ed){R:Type}(L:Pat.D HX->Option R)(e:Ah Mo Lu->Option R)(x:Pat.D HX):Option R:=let e2_:=(x.1.2.2.2.2.1,(x.1.2.1.getD (aj x.1.2.2.1) (0:Int)),());let e1_:=(f66 e2_);bif(decide (x.1.2.2.1<x.1.1))then(bif((decide ((0:Int)<=x.1.2.2.1))&&(decide (x.1.2.2.1<(x.1.2.1.length:Int))))then(bif(p66 e2_)then(bif(e1_.1 !=(0:Int))then(((e (.inr (((0:Int),(0:Int),true,e1_),())))))else(L ((x.1.1,x.1.2.1,(aa .i64 (x.1.2.2.1+(1:Int))),x.1.2.2.2),())))else none)else none)else(e (.inl (x.1.2.2.2,())))
theorem aUE(d:Nat)(R:Type)(L:Pat.D HX->Option R)(e:Ah Mo Lu->Option R)(x:Pat.D HX):
  BA (cf [(54,⟨Ck,Cl,p69,f69⟩),(59,⟨CI,CJ,p66,f66⟩),(55,⟨DM,DN,p65,f65⟩),(56,⟨DE,DF,p70,f70⟩)] [(198,5,LoopSpec.of HX bX Mo Lu w419_5)]) (d+2) 198 (Bw Tryz.f198 5) HX bX Mo Lu (R:=R) L e x=Vu p69 f69 p66 f66 p65 f65 p70 f70 L e x:=by kernel_rfl
theorem aF0(p69:BK)(f69:BL)(p66:Cm)(f66:Cn)(p65:Ep)(f65:Er)(p70:Ec)(f70:Ed):Bp fun L e x=>Vu p69 f69 p66 f66 p65 f65 p70 f70 L e x:=by intro _ _ _ _ _ _ _ h0 hL he _;unfold Vu;repeat' (first|exact h0|exact hL _|exact he _|apply BT|(apply BU h0;intro _)|(apply BV<;>intro _))
def mS(p69:BK)(f69:BL)(p66:Cm)(f66:Cn)(p65:Ep)(f65:Er)(p70:Ec)(f70:Ed)(w419_5:Pat.D HX->Option (Ah Mo Lu))(a0:Aa (.int .i64))(a1 a2:Aa (.int .u64)):Option (DenS PP):=
 bif(p69 (a0,()))then(bif((f69 (a0,())).2.1 !=(0:Int))then(some ((0:Int),(0:Int),true,(f69 (a0,())).2))
 else Vx.AY (w419_5 ((((a1::(a2::[])).length:Int),(a1::(a2::[])),(0:Int),a2,a0,a1,()),())) fun y2=>
 Vx.A1 y2 (fun y3=>
 bif(p65 y3.1.2)then(bif(p65 (y3.1.2.1,y3.1.1,()))then(bif(p70 (y3.1.2.1,()))then(bif(((f65 y3.1.2).1==(0:Int))||((f65 (y3.1.2.1,y3.1.1,())).1==(0:Int)))then(some ((f70 (y3.1.2.1,())).1,(1:Int),true,(0:Int),()))
 else bif(((f65 y3.1.2).1==(1:Int))||((f65 (y3.1.2.1,y3.1.1,())).1==(1:Int)))then(some ((f70 (y3.1.2.1,())).1,(0:Int),true,(0:Int),()))
 else bif(((((f65 y3.1.2).1==(9:Int))||((f65 y3.1.2).1==(2:Int)))||((f65 (y3.1.2.1,y3.1.1,())).1==(6:Int)))||((f65 (y3.1.2.1,y3.1.1,())).1==(5:Int)))then(some ((f70 (y3.1.2.1,())).1,(1:Int),true,(0:Int),()))
 else bif(((((f65 (y3.1.2.1,y3.1.1,())).1==(9:Int))||((f65 (y3.1.2.1,y3.1.1,())).1==(2:Int)))||((f65 y3.1.2).1==(6:Int)))||((f65 y3.1.2).1==(5:Int)))then(some (y3.1.2.2.1,(0:Int),true,(0:Int),()))
 else some ((0:Int),(0:Int),false,(0:Int),()))
 else none)
 else none)
 else none) (fun z3=>
 some z3.1))
 else none
theorem aSX(x:DenS Om):run (cf [(54,⟨Ck,Cl,p69,f69⟩),(59,⟨CI,CJ,p66,f66⟩),(55,⟨DM,DN,p65,f65⟩),(56,⟨DE,DF,p70,f70⟩)] [(198,5,LoopSpec.of HX bX Mo Lu w419_5)]) 9 198 Tryz.f198 Om PP x=mS p69 f69 p66 f66 p65 f65 p70 f70 w419_5 x.1 x.2.1 x.2.2.1:=by kernel_rfl
def Ui:HX.D->Option (Ah Mo Lu):=Bf fun L=>Vu Aq.pre Aq.F Ar.pre Ar.F AD.pre AD.F AB.pre AB.F L some
def Ya(x:DenS Om):Option (DenS PP):=mS Aq.pre Aq.F Ar.pre Ar.F AD.pre AD.F AB.pre AB.F Ui x.1 x.2.1 x.2.2.1
def QT:Sum:=Aj Om PP Ya (DenS.dflt PP)
theorem aJH:Sound Tryz.prog G1 198 QT:=sd (cf [(54,Aq),(59,Ar),(55,AD),(56,AB)] [(198,5,LoopSpec.of HX bX Mo Lu Ui)]) 198 Tryz.f198 ⟨Em,Gl,H3,GY,trivial⟩ ⟨rfl,fun d=>BR (fun L e x=>Vu Aq.pre Aq.F Ar.pre Ar.F AD.pre AD.F AB.pre AB.F L e x) (aF0 Aq.pre Aq.F Ar.pre Ar.F AD.pre AD.F AB.pre AB.F) (fun _ _ _ _=>aUE ..),trivial⟩ Om PP Ya _ (fun _=>aSX ..)
abbrev aBs:=Al Om
abbrev aCG:=Ak Om PP
variable (p419:aBs)(f419:aCG)
abbrev On:Ab:=[(true,.pair (.bool) (.pair (.slice (.int .u64)) (.pair (.int .i64) (.unit)))),(true,.pair (.bool) (.pair (.slice (.int .u64)) (.pair (.int .i64) (.unit))))]
abbrev PQ:Ab:=[(true,.pair (.int .u64) (.pair (.int .u64) (.pair (.int .i64) (.pair (.int .u64) (.unit)))))]
abbrev HY:Pat:=⟨104,[(6,.one (.v .u64)),(9,.one (.v .i64)),(8,.one (.ptr 3 0)),(4,.one (.ptr 2 0))],[.gone,.gone,.raw [.v .u64,.v .u64,.v .i64,.v .u64],.raw [.v .u64,.v .u64,.v .i64,.v .u64]]⟩
abbrev bY:List (Nat×Shape):=[]
abbrev Mp:List (Nat×Pat):=[(0,⟨104,[(8,.one (.ptr 3 0)),(4,.one (.ptr 2 0))],[.gone,.gone,.raw [.v .u64,.v .u64,.v .i64,.v .u64],.raw [.v .u64,.v .u64,.v .i64,.v .u64]]⟩)]
abbrev Lv:Option Pat:=none
variable (w420_10:Pat.D HY->Option (Ah Mp Lv))
def Vv(p178:H6)(f178:H9)(p328:ES)(f328:EU){R:Type}(L:Pat.D HY->Option R)(e:Ah Mp Lv->Option R)(x:Pat.D HY):Option R:=let e6_:=(if((64:Int)<x.1.2.1)then(64:Int)else x.1.2.1);let e5_:=(aa .i64 ((64:Int)-e6_));let e1_:=(f328 ((AJ .u64 x.2.2.2.2.1.1 e5_),(AQ .u64 x.2.2.2.2.1.1 e6_),x.1.1,()));let e2_:=e5_;let e3_:=(decide ((0:Int)<=e6_));let e4_:=e6_;bif(decide (x.1.2.1>(0:Int)))then(bif(decide ((0:Int)<=e2_))then(bif e3_ then(bif(p328 ((AJ .u64 x.2.2.2.2.1.1 e2_),(AQ .u64 x.2.2.2.2.1.1 e4_),x.1.1,()))then(bif e3_ then(((L ((x.1.1,(aa .i64 (x.1.2.1-e4_)),(),(),()),(),(),x.2.2.2.1,(e1_.2.1,x.2.2.2.2.1.2.1,x.2.2.2.2.1.2.2.1,(aa .u64 ((AQ .u64 x.2.2.2.2.1.2.2.2.1 e4_)+e1_.1)),()),()))))else none)else none)else none)else none)else(e (.inl (((),(),()),(),(),x.2.2.2)))
theorem aUF(d:Nat)(R:Type)(L:Pat.D HY->Option R)(e:Ah Mp Lv->Option R)(x:Pat.D HY):
  BA (cf [(83,⟨F3,Ft,p178,f178⟩),(264,⟨ED,EG,p328,f328⟩)] [(199,10,LoopSpec.of HY bY Mp Lv w420_10)]) (d+2) 199 (Bw Tryz.f199 10) HY bY Mp Lv (R:=R) L e x=Vv p178 f178 p328 f328 L e x:=by kernel_rfl
theorem aF1(p178:H6)(f178:H9)(p328:ES)(f328:EU):Bp fun L e x=>Vv p178 f178 p328 f328 L e x:=by intro _ _ _ _ _ _ _ h0 hL he _;unfold Vv;repeat' (first|exact h0|exact hL _|exact he _|apply BT|(apply BU h0;intro _)|(apply BV<;>intro _))
def mT(p178:H6)(f178:H9)(p328:ES)(f328:EU)(w420_10:Pat.D HY->Option (Ah Mp Lv))(a0 a1:Aa (.pair (.bool) (.pair (.slice (.int .u64)) (.pair (.int .i64) (.unit))))):Option (DenS PQ):=
 let e8_:=(aa .i64 (a1.2.2.1-a0.2.2.1))
 let e7_:=(AQ .u64 (a1.2.1.getD (aj (0:Int)) (0:Int)) e8_)
 let e1_:=(e7_ !=(0:Int))
 let e2_:=e7_
 let e3_:=((a1.2.1.getD (aj (0:Int)) (0:Int))!=(0:Int))
 let e4_:=e8_
 let e5_:=((a1.2.1.getD (aj (0:Int)) (0:Int)),())
 let e6_:=((a0.2.1.getD (aj (0:Int)) (0:Int)),())
 bif(decide ((0:Int)<(a0.2.1.length:Int)))then(bif(decide ((0:Int)<(a1.2.1.length:Int)))then(bif(decide (a1.2.2.1>a0.2.2.1))then(bif(p178 e5_)then(bif(p178 e6_)then(bif(decide ((aa .i64 ((f178 e5_).1+e4_))>(aa .i64 ((f178 e6_).1+(1:Int)))))then(some (((a0.2.1.getD (aj (0:Int)) (0:Int)),(0:Int),a0.2.2.1,(0:Int),()),()))
 else bif(decide ((0:Int)<=e4_))then(bif e1_ then(bif e1_ then(some (((jp (a0.2.1.getD (aj (0:Int)) (0:Int)) e2_),e2_,a0.2.2.1,(BC .u64 (a0.2.1.getD (aj (0:Int)) (0:Int)) e2_),()),()))
 else none)
 else none)
 else none)
 else none)
 else none)
 else bif e3_ then(bif e3_ then(Vx.AY (w420_10 (((a1.2.1.getD (aj (0:Int)) (0:Int)),(aa .i64 (a0.2.2.1-a1.2.2.1)),(),(),()),(),(),((0:Int),(0:Int),(0:Int),(0:Int),()),((jp (a0.2.1.getD (aj (0:Int)) (0:Int)) (a1.2.1.getD (aj (0:Int)) (0:Int))),(a1.2.1.getD (aj (0:Int)) (0:Int)),a1.2.2.1,(BC .u64 (a0.2.1.getD (aj (0:Int)) (0:Int)) (a1.2.1.getD (aj (0:Int)) (0:Int))),()),())) fun y5=>
 Vx.A1 y5 (fun y6=>
 some y6.2.2.2.2) (fun z6=>
 none))
 else none)
 else none)
 else none)
 else none
theorem aSY(x:DenS On):run (cf [(83,⟨F3,Ft,p178,f178⟩),(264,⟨ED,EG,p328,f328⟩)] [(199,10,LoopSpec.of HY bY Mp Lv w420_10)]) 9 199 Tryz.f199 On PQ x=mT p178 f178 p328 f328 w420_10 x.1 x.2.1:=by kernel_rfl
def eB:HY.D->Option (Ah Mp Lv):=Bf fun L=>Vv Bx.pre Bx.F AP.pre AP.F L some
def Sj(x:DenS On):Option (DenS PQ):=mT Bx.pre Bx.F AP.pre AP.F eB x.1 x.2.1
def QU:Sum:=Aj On PQ Sj (DenS.dflt PQ)
theorem aJJ:Sound Tryz.prog G1 199 QU:=sd (cf [(83,Bx),(264,AP)] [(199,10,LoopSpec.of HY bY Mp Lv eB)]) 199 Tryz.f199 ⟨WM,cU,trivial⟩ ⟨rfl,fun d=>BR (fun L e x=>Vv Bx.pre Bx.F AP.pre AP.F L e x) (aF1 Bx.pre Bx.F AP.pre AP.F) (fun _ _ _ _=>aUF ..),trivial⟩ On PQ Sj _ (fun _=>aSY ..)
abbrev aBt:=Al On
abbrev aCH:=Ak On PQ
variable (p420:aBt)(f420:aCH)
abbrev Ky:Ab:=[(false,.int .i64),(false,.int .u64),(false,.int .u64),(false,.bool)]
abbrev HD:Ab:=[(false,.int .u64),(false,.int .i64),(false,.int .i64),(false,.int .i64)]
def mU(p419:aBs)(f419:aCG)(p40:Re)(f40:Ri)(p420:aBt)(f420:aCH)(p122:H5)(f122:H8)(a0:Aa (.int .i64))(a1 a2:Aa (.int .u64))(a3:Aa (.bool)):Option (DenS HD):=let e24_:=((f40 (a0,a1,())).1,(f40 (a0,a2,())).1,());let e23_:=(f420 e24_);let e20_:=(aa .u64 (e23_.1.2.1-e23_.1.1));let e22_:=(e23_.1.2.2.1,false,());let e14_:=(((0:Int),e20_,()),e22_);let e13_:=(a0,(2:Int),(f40 (a0,a1,())).1.1,e14_);let e12_:=(f122 e13_);let e1_:=(e12_.1,(aa .i64 (A9 .u64 (aa .u64 (e23_.1.2.2.2.1+(1:Int))) (7:Int))),(0:Int),e12_.2.2);let e19_:=(((0:Int),e23_.1.1,()),e22_);let e17_:=(a0,(2:Int),(!(f40 (a0,a1,())).1.1),e19_);let e15_:=(f122 e17_);let e21_:=(aa .i64 (A9 .u64 e23_.1.2.2.2.1 (7:Int)));let e2_:=(e15_.1,e21_,(0:Int),e15_.2.2);let e18_:=(a0,(2:Int),(f40 (a0,a1,())).1.1,e19_);let e16_:=(f122 e18_);let e3_:=(e16_.1,e21_,(0:Int),e16_.2.2);let e4_:=(f122 (a0,(2:Int),(!(f40 (a0,a1,())).1.1),e14_));let e5_:=(p122 e13_);let e6_:=(p122 e17_);let e7_:=(p122 e18_);let e8_:=(e20_==(0:Int));let e9_:=(aa .u64 ((2:Int)*e23_.1.1));let e10_:=(e23_.1.1==(0:Int));let e11_:=e23_;let g1_:Option (DenS HD):=bif(a3&&false)then(bif e10_ then(bif e7_ then(some e3_)else none)else bif e6_ then(some e2_)else none)else bif e10_ then(bif e7_ then(some e3_)else none)else bif e7_ then(some e3_)else none;bif(p419 (a0,a1,a2,()))then(bif(f419 (a0,a1,a2,())).2.2.1 then(some ((f419 (a0,a1,a2,())).1,(0:Int),(f419 (a0,a1,a2,())).2.1,(f419 (a0,a1,a2,())).2.2.2))else bif(p40 (a0,a1,()))then(bif(p40 (a0,a2,()))then(bif(p420 e24_)then(bif a3 then(bif(((e11_.1.2.1==(0:Int))||(decide (e9_<e11_.1.2.1)))||((e9_==e11_.1.2.1)&&((A9 .u64 e11_.1.2.2.2.1 (1:Int))==(0:Int))))then(g1_)else bif(a3&&true)then(bif e8_ then(bif e5_ then(some e1_)else none)else bif(p122 (a0,(2:Int),(!(f40 (a0,a1,())).1.1),((0:Int),(aa .u64 (e11_.1.2.1-e11_.1.1)),()),e11_.1.2.2.1,false,()))then(some (e4_.1,(aa .i64 (A9 .u64 (aa .u64 (e11_.1.2.2.2.1+(1:Int))) (7:Int))),(0:Int),e4_.2.2))else none)else bif e8_ then(bif e5_ then(some e1_)else none)else bif e5_ then(some e1_)else none)else g1_)else none)else none)else none)else none
theorem aSZ(x:DenS Ky):run (cf [(198,⟨Om,PP,p419,f419⟩),(71,⟨GC,GJ,p40,f40⟩),(199,⟨On,PQ,p420,f420⟩),(66,⟨E5,Fr,p122,f122⟩)] []) 9 142 Tryz.f142 Ky HD x=mU p419 f419 p40 f40 p420 f420 p122 f122 x.1 x.2.1 x.2.2.1 x.2.2.2.1:=by kernel_rfl
def Yb(x:DenS Ky):Option (DenS HD):=mU QT.pre QT.F Cy.pre Cy.F QU.pre QU.F A3.pre A3.F x.1 x.2.1 x.2.2.1 x.2.2.2.1
def Gi:Sum:=Aj Ky HD Yb (DenS.dflt HD)
theorem yS:Sound Tryz.prog G1 142 Gi:=sd (cf [(198,QT),(71,Cy),(199,QU),(66,A3)] []) 142 Tryz.f142 ⟨aJH,WO,aJJ,TH,trivial⟩ trivial Ky HD Yb _ (fun _=>aSZ ..)
abbrev qQ:=Al Ky
abbrev rT:=Ak Ky HD
variable (p421:qQ)(f421:rT)
abbrev Oo:Ab:=[(false,.int .i64),(false,.int .u64),(false,.int .u64)]
abbrev PR:Ab:=[(false,.int .u64),(false,.int .i64),(false,.int .i64),(false,.int .i64)]
def mV(p421:qQ)(f421:rT)(a0:Aa (.int .i64))(a1 a2:Aa (.int .u64)):Option (DenS PR):=bif(p421 (a0,a1,a2,true,()))then(some (f421 (a0,a1,a2,true,())))else none
theorem aS0(x:DenS Oo):run (cf [(142,⟨Ky,HD,p421,f421⟩)] []) 9 94 Tryz.f94 Oo PR x=mV p421 f421 x.1 x.2.1 x.2.2.1:=by kernel_rfl
def Yc(x:DenS Oo):Option (DenS PR):=mV Gi.pre Gi.F x.1 x.2.1 x.2.2.1
def LQ:Sum:=Aj Oo PR Yc (DenS.dflt PR)
theorem yT:Sound Tryz.prog G1 94 LQ:=sd (cf [(142,Gi)] []) 94 Tryz.f94 ⟨yS,trivial⟩ trivial Oo PR Yc _ (fun _=>aS0 ..)
abbrev aBu:=Al Oo
abbrev aCI:=Ak Oo PR
variable (p422:aBu)(f422:aCI)
abbrev Oq:Ab:=[(false,.int .i64),(false,.int .u64),(false,.int .u64)]
abbrev PS:Ab:=[(false,.int .u64),(false,.int .i64),(false,.int .i64),(false,.int .i64)]
def mW(p421:qQ)(f421:rT)(a0:Aa (.int .i64))(a1 a2:Aa (.int .u64)):Option (DenS PS):=bif(p421 (a0,a1,a2,false,()))then(some (f421 (a0,a1,a2,false,())))else none
theorem aS1(x:DenS Oq):run (cf [(142,⟨Ky,HD,p421,f421⟩)] []) 9 95 Tryz.f95 Oq PS x=mW p421 f421 x.1 x.2.1 x.2.2.1:=by kernel_rfl
def Yd(x:DenS Oq):Option (DenS PS):=mW Gi.pre Gi.F x.1 x.2.1 x.2.2.1
def LR:Sum:=Aj Oq PS Yd (DenS.dflt PS)
theorem yU:Sound Tryz.prog G1 95 LR:=sd (cf [(142,Gi)] []) 95 Tryz.f95 ⟨yS,trivial⟩ trivial Oq PS Yd _ (fun _=>aS1 ..)
abbrev aBv:=Al Oq
abbrev aCJ:=Ak Oq PS
variable (p423:aBv)(f423:aCJ)
abbrev cH:Ab:=[(false,.int .i64),(false,.int .u64),(false,.int .u64)]
abbrev cK:Ab:=[(false,.int .u64),(false,.int .i64),(false,.int .i64),(false,.int .i64)]
def Qe:SumF:=J0 cH cK [(94,[],LQ),(95,[],LR)]
theorem aIJ:Kk Tryz.prog G1 Qe:=UQ ⟨DK yT,⟨DK yU,trivial⟩⟩
abbrev aAE:=Option (Nat×List Nat)->Al cH
abbrev aBS:=Option (Nat×List Nat)->Ak cH cK
variable (p100004:aAE)(f100004:aBS)
abbrev Ot:Ab:=[(true,.pair (.int .i64) (.pair (.int .i64) (.pair (.int .u64) (.pair (.int .u64) (.pair (.int .u64) .unit))))),(false,.box (.pfn))]
abbrev PT:Ab:=[(false,.int .u64),(false,.int .i64),(false,.int .i64)]
def mX(p100004:aAE)(f100004:aBS)(a0:Aa (.pair (.int .i64) (.pair (.int .i64) (.pair (.int .u64) (.pair (.int .u64) (.pair (.int .u64) .unit))))))(a1:Aa (.box (.pfn))):Option (DenS PT):=let e1_:=(f100004 (some (a1,[])) (a0.2.1,a0.2.2.1,a0.2.2.2.1,()));bif(p100004 (some (a1,[])) (a0.2.1,a0.2.2.1,a0.2.2.2.1,()))then(some (e1_.1,e1_.2.2))else none
theorem aS2(x:DenS Ot):run ({cf [] []with fns:=[(186,⟨cH,cK,p100004,f100004⟩)] }) 9 256 Tryz.f256 Ot PT x=mX p100004 f100004 x.1 x.2.1:=by kernel_rfl
def Ye(x:DenS Ot):Option (DenS PT):=mX Qe.pre Qe.F x.1 x.2.1
def FA:Sum:=Aj Ot PT Ye (DenS.dflt PT)
theorem oT:Sound Tryz.prog G1 256 FA:=sd ({cf [] []with fns:=[(186,Qe)] }) 256 Tryz.f256 trivial trivial Ot PT Ye _ (fun _=>aS2 ..) (hfs:=⟨aIJ,trivial⟩)
abbrev aBw:=Al Ot
abbrev aCK:=Ak Ot PT
variable (p424:aBw)(f424:aCK)
abbrev OH:Ab:=[(false,.int .i64),(false,.int .i64)]
abbrev P6:Ab:=[(false,.bool)]
def t61(a0 a1:Aa (.int .i64)):Option (DenS P6):=some ((decide (a1<a0)),())
theorem r61(x:DenS OH):run (cf [] []) 9 144 Tryz.f144 OH P6 x=t61 x.1 x.2.1:=by kernel_rfl
def Yp(x:DenS OH):Option (DenS P6):=t61 x.1 x.2.1
def QW:Sum:=Aj OH P6 Yp (DenS.dflt P6)
theorem aJZ:Sound Tryz.prog G1 144 QW:=sd (cf [] []) 144 Tryz.f144 trivial trivial OH P6 Yp _ (fun _=>r61 ..)
abbrev Y61:=Al OH
abbrev Z61:=Ak OH P6
variable (p61:Y61)(f61:Z61)
abbrev IZ:Ab:=[(false,.int .i64),(false,.int .u64),(false,.int .u64)]
abbrev Jn:Ab:=[(true,.pair (.int .i64) (.pair (.int .i64) (.unit))),(true,.pair (.int .i64) (.pair (.int .i64) (.unit))),(false,.int .i64)]
def Wj(p82:YT)(f82:Y1)(a0:Aa (.int .i64))(a1 a2:Aa (.int .u64)):Option (DenS Jn):=bif(p82 (a0,a1,()))then(bif((f82 (a0,a1,())).2.1 !=(0:Int))then(some ((f82 (a0,a1,())).1,((0:Int),(0:Int),()),(f82 (a0,a1,())).2))else bif(p82 (a0,a2,()))then(some ((f82 (a0,a1,())).1,(f82 (a0,a2,()))))else none)else none
theorem r52(x:DenS IZ):run (cf [(129,⟨I1,Jq,p82,f82⟩)] []) 9 74 Tryz.f74 IZ Jn x=Wj p82 f82 x.1 x.2.1 x.2.2.1:=by kernel_rfl
def Ud(x:DenS IZ):Option (DenS Jn):=Wj DG.pre DG.F x.1 x.2.1 x.2.2.1
def D9:Sum:=Aj IZ Jn Ud (DenS.dflt Jn)
theorem oZ:Sound Tryz.prog G1 74 D9:=sd (cf [(129,DG)] []) 74 Tryz.f74 ⟨o0,trivial⟩ trivial IZ Jn Ud _ (fun _=>r52 ..)
abbrev eX:=Al IZ
abbrev fN:=Ak IZ Jn
variable (p52:eX)(f52:fN)
abbrev Ny:Ab:=[(false,.int .i64),(false,.int .u64),(false,.int .u64)]
abbrev O6:Ab:=[(false,.int .u64),(false,.int .i64),(false,.int .i64)]
def kR(p61:Y61)(f61:Z61)(p52:eX)(f52:fN)(p54:Sv)(f54:SA)(p70:Ec)(f70:Ed)(p53:Su)(f53:Sz)(a0:Aa (.int .i64))(a1 a2:Aa (.int .u64)):Option (DenS O6):=let e3_:=((f52 (a0,a1,a2,())).1,(f52 (a0,a1,a2,())).2.1,());let e1_:=((f54 e3_).1,(0:Int),());let e2_:=((f52 (a0,a1,a2,())).1.2.1,(f52 (a0,a1,a2,())).2.1.2);bif(p52 (a0,a1,a2,()))then(bif((f52 (a0,a1,a2,())).2.2.1 !=(0:Int))then(some ((0:Int),(0:Int),(f52 (a0,a1,a2,())).2.2))else bif(p54 e3_)then(bif(p53 ((f52 (a0,a1,a2,())).1,()))then(bif((p53 ((f52 (a0,a1,a2,())).2.1,()))||(!(f53 ((f52 (a0,a1,a2,())).1,())).1))then(bif((f53 ((f52 (a0,a1,a2,())).1,())).1&&(f53 ((f52 (a0,a1,a2,())).2.1,())).1)then(bif(p70 (a0,()))then(some ((f70 (a0,())).1,e1_))else none)else bif(p53 ((f52 (a0,a1,a2,())).1,()))then(bif((p53 ((f52 (a0,a1,a2,())).2.1,()))||(!(bif(f53 ((f52 (a0,a1,a2,())).1,())).1 then false else true)))then(bif((p61 e2_)||(!((bif(f53 ((f52 (a0,a1,a2,())).1,())).1 then false else true)&&(bif(f53 ((f52 (a0,a1,a2,())).2.1,())).1 then false else true))))then(bif((f53 ((f52 (a0,a1,a2,())).1,())).1||((!(f53 ((f52 (a0,a1,a2,())).2.1,())).1)&&((f61 e2_).1||(((f52 (a0,a1,a2,())).1.2.1==(0:Int))&&((f52 (a0,a1,a2,())).2.1.1==(5:Int))))))then(some (a2,e1_))else some (a1,e1_))else none)else none)else none)else none)else none)else none)else none
theorem r19(x:DenS Ny):run (cf [(144,⟨OH,P6,p61,f61⟩),(74,⟨IZ,Jn,p52,f52⟩),(76,⟨GE,GL,p54,f54⟩),(56,⟨DE,DF,p70,f70⟩),(75,⟨GD,GK,p53,f53⟩)] []) 9 97 Tryz.f97 Ny O6 x=kR p61 f61 p52 f52 p54 f54 p70 f70 p53 f53 x.1 x.2.1 x.2.2.1:=by kernel_rfl
def Xi(x:DenS Ny):Option (DenS O6):=kR QW.pre QW.F D9.pre D9.F CA.pre CA.F AB.pre AB.F Cz.pre Cz.F x.1 x.2.1 x.2.2.1
def Lz:Sum:=Aj Ny O6 Xi (DenS.dflt O6)
theorem x8:Sound Tryz.prog G1 97 Lz:=sd (cf [(144,QW),(74,D9),(76,CA),(56,AB),(75,Cz)] []) 97 Tryz.f97 ⟨aJZ,oZ,WQ,GY,WP,trivial⟩ trivial Ny O6 Xi _ (fun _=>r19 ..)
abbrev Y19:=Al Ny
abbrev Z19:=Ak Ny O6
variable (p19:Y19)(f19:Z19)
abbrev OI:Ab:=[(false,.int .i64),(false,.int .i64)]
abbrev P7:Ab:=[(false,.bool)]
def t63(a0 a1:Aa (.int .i64)):Option (DenS P7):=some ((decide (a1>a0)),())
theorem r63(x:DenS OI):run (cf [] []) 9 145 Tryz.f145 OI P7 x=t63 x.1 x.2.1:=by kernel_rfl
def Yq(x:DenS OI):Option (DenS P7):=t63 x.1 x.2.1
def QX:Sum:=Aj OI P7 Yq (DenS.dflt P7)
theorem aJ0:Sound Tryz.prog G1 145 QX:=sd (cf [] []) 145 Tryz.f145 trivial trivial OI P7 Yq _ (fun _=>r63 ..)
abbrev Y63:=Al OI
abbrev Z63:=Ak OI P7
variable (p63:Y63)(f63:Z63)
abbrev Nz:Ab:=[(false,.int .i64),(false,.int .u64),(false,.int .u64)]
abbrev O7:Ab:=[(false,.int .u64),(false,.int .i64),(false,.int .i64)]
def kS(p63:Y63)(f63:Z63)(p52:eX)(f52:fN)(p54:Sv)(f54:SA)(p70:Ec)(f70:Ed)(p53:Su)(f53:Sz)(a0:Aa (.int .i64))(a1 a2:Aa (.int .u64)):Option (DenS O7):=let e3_:=((f52 (a0,a1,a2,())).1,(f52 (a0,a1,a2,())).2.1,());let e1_:=((f54 e3_).1,(0:Int),());let e2_:=((f52 (a0,a1,a2,())).1.2.1,(f52 (a0,a1,a2,())).2.1.2);bif(p52 (a0,a1,a2,()))then(bif((f52 (a0,a1,a2,())).2.2.1 !=(0:Int))then(some ((0:Int),(0:Int),(f52 (a0,a1,a2,())).2.2))else bif(p54 e3_)then(bif(p53 ((f52 (a0,a1,a2,())).1,()))then(bif((p53 ((f52 (a0,a1,a2,())).2.1,()))||(!(f53 ((f52 (a0,a1,a2,())).1,())).1))then(bif((f53 ((f52 (a0,a1,a2,())).1,())).1&&(f53 ((f52 (a0,a1,a2,())).2.1,())).1)then(bif(p70 (a0,()))then(some ((f70 (a0,())).1,e1_))else none)else bif(p53 ((f52 (a0,a1,a2,())).1,()))then(bif((p53 ((f52 (a0,a1,a2,())).2.1,()))||(!(bif(f53 ((f52 (a0,a1,a2,())).1,())).1 then false else true)))then(bif((p63 e2_)||(!((bif(f53 ((f52 (a0,a1,a2,())).1,())).1 then false else true)&&(bif(f53 ((f52 (a0,a1,a2,())).2.1,())).1 then false else true))))then(bif((f53 ((f52 (a0,a1,a2,())).1,())).1||((!(f53 ((f52 (a0,a1,a2,())).2.1,())).1)&&((f63 e2_).1||(((f52 (a0,a1,a2,())).1.2.1==(0:Int))&&((f52 (a0,a1,a2,())).2.1.1==(6:Int))))))then(some (a2,e1_))else some (a1,e1_))else none)else none)else none)else none)else none)else none)else none
theorem r21(x:DenS Nz):run (cf [(145,⟨OI,P7,p63,f63⟩),(74,⟨IZ,Jn,p52,f52⟩),(76,⟨GE,GL,p54,f54⟩),(56,⟨DE,DF,p70,f70⟩),(75,⟨GD,GK,p53,f53⟩)] []) 9 98 Tryz.f98 Nz O7 x=kS p63 f63 p52 f52 p54 f54 p70 f70 p53 f53 x.1 x.2.1 x.2.2.1:=by kernel_rfl
def Xj(x:DenS Nz):Option (DenS O7):=kS QX.pre QX.F D9.pre D9.F CA.pre CA.F AB.pre AB.F Cz.pre Cz.F x.1 x.2.1 x.2.2.1
def LA:Sum:=Aj Nz O7 Xj (DenS.dflt O7)
theorem x9:Sound Tryz.prog G1 98 LA:=sd (cf [(145,QX),(74,D9),(76,CA),(56,AB),(75,Cz)] []) 98 Tryz.f98 ⟨aJ0,oZ,WQ,GY,WP,trivial⟩ trivial Nz O7 Xj _ (fun _=>r21 ..)
abbrev Y21:=Al Nz
abbrev Z21:=Ak Nz O7
variable (p21:Y21)(f21:Z21)
abbrev cG:Ab:=[(false,.int .i64),(false,.int .u64),(false,.int .u64)]
abbrev oF:Ab:=[(false,.int .u64),(false,.int .i64),(false,.int .i64)]
def Qd:SumF:=J0 cG oF [(97,[],Lz),(98,[],LA)]
theorem aII:Kk Tryz.prog G1 Qd:=UQ ⟨DK x8,⟨DK x9,trivial⟩⟩
abbrev aAD:=Option (Nat×List Nat)->Al cG
abbrev aBR:=Option (Nat×List Nat)->Ak cG oF
variable (p100003:aAD)(f100003:aBR)
abbrev Ou:Ab:=[(true,.pair (.int .i64) (.pair (.int .i64) (.pair (.int .u64) (.pair (.int .u64) (.pair (.int .u64) .unit))))),(false,.box (.pfn))]
abbrev KY:Ab:=[(false,.int .u64),(false,.int .i64),(false,.int .i64)]
def mY(p100003:aAD)(f100003:aBR)(a0:Aa (.pair (.int .i64) (.pair (.int .i64) (.pair (.int .u64) (.pair (.int .u64) (.pair (.int .u64) .unit))))))(a1:Aa (.box (.pfn))):Option (DenS KY):=bif(p100003 (some (a1,[])) (a0.2.1,a0.2.2.1,a0.2.2.2.1,()))then(some (f100003 (some (a1,[])) (a0.2.1,a0.2.2.1,a0.2.2.2.1,())))else none
theorem aS3(x:DenS Ou):run ({cf [] []with fns:=[(31,⟨cG,oF,p100003,f100003⟩)] }) 9 257 Tryz.f257 Ou KY x=mY p100003 f100003 x.1 x.2.1:=by kernel_rfl
def Yf(x:DenS Ou):Option (DenS KY):=mY Qd.pre Qd.F x.1 x.2.1
def FB:Sum:=Aj Ou KY Yf (DenS.dflt KY)
theorem oU:Sound Tryz.prog G1 257 FB:=sd ({cf [] []with fns:=[(31,Qd)] }) 257 Tryz.f257 trivial trivial Ou KY Yf _ (fun _=>aS3 ..) (hfs:=⟨aII,trivial⟩)
abbrev aBx:=Al Ou
abbrev aCL:=Ak Ou KY
variable (p425:aBx)(f425:aCL)
abbrev Nm:Ab:=[(false,.int .i64),(false,.int .u64),(false,.int .u64),(false,.bool)]
abbrev OT:Ab:=[(false,.int .i64),(false,.int .i64),(false,.int .i64)]
def j2(p52:eX)(f52:fN)(p53:Su)(f53:Sz)(p54:Sv)(f54:SA)(a0:Aa (.int .i64))(a1 a2:Aa (.int .u64))(a3:Aa (.bool)):Option (DenS OT):=let e1_:=((f52 (a0,a1,a2,())).1,(f52 (a0,a1,a2,())).2.1,());bif(p52 (a0,a1,a2,()))then(bif((f52 (a0,a1,a2,())).2.2.1 !=(0:Int))then(some ((0:Int),(0:Int),(f52 (a0,a1,a2,())).2.2))else bif(p53 ((f52 (a0,a1,a2,())).1,()))then(bif((p53 ((f52 (a0,a1,a2,())).2.1,()))||(!(bif(f53 ((f52 (a0,a1,a2,())).1,())).1 then false else true)))then(bif((f53 ((f52 (a0,a1,a2,())).1,())).1||(f53 ((f52 (a0,a1,a2,())).2.1,())).1)then(bif(p54 e1_)then(bif a3 then(some ((3:Int),(1:Int),(0:Int),()))else some ((3:Int),(f54 e1_).1,(0:Int),()))else none)else bif(decide ((f52 (a0,a1,a2,())).1.2.1<(f52 (a0,a1,a2,())).2.1.2.1))then(some ((0:Int),(0:Int),(0:Int),()))else bif(decide ((f52 (a0,a1,a2,())).1.2.1>(f52 (a0,a1,a2,())).2.1.2.1))then(some ((2:Int),(0:Int),(0:Int),()))else some ((1:Int),(0:Int),(0:Int),()))else none)else none)else none
theorem r14(x:DenS Nm):run (cf [(74,⟨IZ,Jn,p52,f52⟩),(75,⟨GD,GK,p53,f53⟩),(76,⟨GE,GL,p54,f54⟩)] []) 9 21 Tryz.f21 Nm OT x=j2 p52 f52 p53 f53 p54 f54 x.1 x.2.1 x.2.2.1 x.2.2.2.1:=by kernel_rfl
def W6(x:DenS Nm):Option (DenS OT):=j2 D9.pre D9.F Cz.pre Cz.F CA.pre CA.F x.1 x.2.1 x.2.2.1 x.2.2.2.1
def JB:Sum:=Aj Nm OT W6 (DenS.dflt OT)
theorem aIY:Sound Tryz.prog G1 21 JB:=sd (cf [(74,D9),(75,Cz),(76,CA)] []) 21 Tryz.f21 ⟨oZ,WP,WQ,trivial⟩ trivial Nm OT W6 _ (fun _=>r14 ..)
abbrev Y14:=Al Nm
abbrev Z14:=Ak Nm OT
variable (p14:Y14)(f14:Z14)
abbrev Ov:Ab:=[(true,.pair (.int .i64) (.pair (.int .i64) (.pair (.int .u64) (.pair (.int .u64) (.pair (.int .u64) .unit))))),(false,.box (.bool))]
abbrev PU:Ab:=[(false,.int .u64),(false,.int .i64),(false,.int .i64)]
def Wg(p14:Y14)(f14:Z14)(a0:Aa (.pair (.int .i64) (.pair (.int .i64) (.pair (.int .u64) (.pair (.int .u64) (.pair (.int .u64) .unit))))))(a1:Aa (.box (.bool))):Option (DenS PU):=let e1_:=(f14 (a0.2.1,a0.2.2.1,a0.2.2.2.1,a1,()));bif(p14 (a0.2.1,a0.2.2.1,a0.2.2.2.1,a1,()))then(some ((aa .u64 e1_.1),e1_.2))else none
theorem aS4(x:DenS Ov):run (cf [(21,⟨Nm,OT,p14,f14⟩)] []) 9 258 Tryz.f258 Ov PU x=Wg p14 f14 x.1 x.2.1:=by kernel_rfl
def T9(x:DenS Ov):Option (DenS PU):=Wg JB.pre JB.F x.1 x.2.1
def FC:Sum:=Aj Ov PU T9 (DenS.dflt PU)
theorem oV:Sound Tryz.prog G1 258 FC:=sd (cf [(21,JB)] []) 258 Tryz.f258 ⟨aIY,trivial⟩ trivial Ov PU T9 _ (fun _=>aS4 ..)
abbrev aBy:=Al Ov
abbrev aCM:=Ak Ov PU
variable (p426:aBy)(f426:aCM)
abbrev cI:Ab:=[(false,.int .i64),(false,.int .u64)]
abbrev cL:Ab:=[(false,.int .u64),(false,.int .i64)]
def Qf:SumF:=J0 cI cL [(60,[],DR),(147,[],D5)]
theorem aIK:Kk Tryz.prog G1 Qf:=UQ ⟨DK dA,⟨DK oK,trivial⟩⟩
abbrev aAF:=Option (Nat×List Nat)->Al cI
abbrev aBT:=Option (Nat×List Nat)->Ak cI cL
variable (p100005:aAF)(f100005:aBT)
abbrev Ow:Ab:=[(true,.pair (.int .i64) (.pair (.int .i64) (.pair (.int .u64) (.pair (.int .u64) (.pair (.int .u64) .unit))))),(false,.box (.pfn))]
abbrev PW:Ab:=[(false,.int .u64),(false,.int .i64),(false,.int .i64)]
def mZ(p100005:aAF)(f100005:aBT)(a0:Aa (.pair (.int .i64) (.pair (.int .i64) (.pair (.int .u64) (.pair (.int .u64) (.pair (.int .u64) .unit))))))(a1:Aa (.box (.pfn))):Option (DenS PW):=let e1_:=(f100005 (some (a1,[])) (a0.2.1,a0.2.2.1,()));bif(p100005 (some (a1,[])) (a0.2.1,a0.2.2.1,()))then(some (e1_.1,(0:Int),e1_.2))else none
theorem aS5(x:DenS Ow):run ({cf [] []with fns:=[(35,⟨cI,cL,p100005,f100005⟩)] }) 9 259 Tryz.f259 Ow PW x=mZ p100005 f100005 x.1 x.2.1:=by kernel_rfl
def Yg(x:DenS Ow):Option (DenS PW):=mZ Qf.pre Qf.F x.1 x.2.1
def FD:Sum:=Aj Ow PW Yg (DenS.dflt PW)
theorem oW:Sound Tryz.prog G1 259 FD:=sd ({cf [] []with fns:=[(35,Qf)] }) 259 Tryz.f259 trivial trivial Ow PW Yg _ (fun _=>aS5 ..) (hfs:=⟨aIK,trivial⟩)
abbrev aBz:=Al Ow
abbrev aCN:=Ak Ow PW
variable (p427:aBz)(f427:aCN)
abbrev EB:Ab:=[(true,.pair (.int .i64) (.pair (.int .i64) (.pair (.int .u64) (.pair (.int .u64) (.pair (.int .u64) .unit)))))]
abbrev DZ:Ab:=[(false,.int .u64),(false,.int .i64),(false,.int .i64)]
def Jz:SumF:=J0 EB DZ [(255,[17],IC EB DZ Dl.pre Dl.F 15),(255,[18],IC EB DZ Dl.pre Dl.F 16),(255,[19],IC EB DZ Dl.pre Dl.F 17),(255,[20],IC EB DZ Dl.pre Dl.F 18),(181,[],LF),(182,[],LG),(184,[],LH),(185,[],LI),(186,[],LJ),(187,[],LL),(190,[],LM),(191,[],LN),(192,[],LO),(194,[],LP),(256,[96],IC EB DZ FA.pre FA.F 94),(256,[97],IC EB DZ FA.pre FA.F 95),(257,[99],IC EB DZ FB.pre FB.F 97),(257,[100],IC EB DZ FB.pre FB.F 98),(258,[0],xL EB DZ FC.pre FC.F false),(258,[1],xL EB DZ FC.pre FC.F true),(259,[62],IC EB DZ FD.pre FD.F 60),(259,[149],IC EB DZ FD.pre FD.F 147)]
theorem aIG:Kk Tryz.prog G1 Jz:=UQ ⟨J4 WN 15,⟨J4 WN 16,⟨J4 WN 17,⟨J4 WN 18,⟨DK yF,⟨DK yH,⟨DK yK,⟨DK yL,⟨DK yM,⟨DK yN,⟨DK yO,⟨DK yP,⟨DK yQ,⟨DK yR,⟨J4 oT 94,⟨J4 oT 95,⟨J4 oU 97,⟨J4 oU 98,⟨aEo oV false,⟨aEo oV true,⟨J4 oW 60,⟨J4 oW 147,trivial⟩⟩⟩⟩⟩⟩⟩⟩⟩⟩⟩⟩⟩⟩⟩⟩⟩⟩⟩⟩⟩⟩
abbrev aAB:=Option (Nat×List Nat)->Al EB
abbrev aBP:=Option (Nat×List Nat)->Ak EB DZ
variable (p100001:aAB)(f100001:aBP)
abbrev Kz:Ab:=[(false,.int .i64)]
abbrev KZ:Ab:=[(false,.bool)]
def aH5(a0:Aa (.int .i64)):Option (DenS KZ):=some (((JW .i64 a0 (31:Int))==(0:Int)),())
theorem aS6(x:DenS Kz):run (cf [] []) 9 108 Tryz.f108 Kz KZ x=aH5 x.1:=by kernel_rfl
def Ua(x:DenS Kz):Option (DenS KZ):=aH5 x.1
def Gj:Sum:=Aj Kz KZ Ua (DenS.dflt KZ)
theorem yV:Sound Tryz.prog G1 108 Gj:=sd (cf [] []) 108 Tryz.f108 trivial trivial Kz KZ Ua _ (fun _=>aS6 ..)
abbrev qR:=Al Kz
abbrev rU:=Ak Kz KZ
variable (p428:qR)(f428:rU)
abbrev IX:Ab:=[(true,.pair (.int .i64) (.pair (.int .i64) (.pair (.int .i64) (.unit))))]
abbrev Jk:Ab:=[(false,.int .i64)]
def m7(p428:qR)(f428:rU)(a0:Aa (.pair (.int .i64) (.pair (.int .i64) (.pair (.int .i64) (.unit))))):Option (DenS Jk):=bif((decide (a0.1<(0:Int)))||(decide (a0.1>(5:Int))))then(some ((3:Int),()))else bif(p428 (a0.2.1,()))then(bif((p428 a0.2.2)||(!(bif(!(f428 (a0.2.1,())).1)then false else true)))then(bif((!(f428 (a0.2.1,())).1)||(!(f428 a0.2.2).1))then(some ((7:Int),()))else some ((0:Int),()))else none)else none
theorem aS7(x:DenS IX):run (cf [(108,⟨Kz,KZ,p428,f428⟩)] []) 9 89 Tryz.f89 IX Jk x=m7 p428 f428 x.1:=by kernel_rfl
def Sk(x:DenS IX):Option (DenS Jk):=m7 Gj.pre Gj.F x.1
def Dx:Sum:=Aj IX Jk Sk (DenS.dflt Jk)
theorem yW:Sound Tryz.prog G1 89 Dx:=sd (cf [(108,Gj)] []) 89 Tryz.f89 ⟨yV,trivial⟩ trivial IX Jk Sk _ (fun _=>aS7 ..)
abbrev YS:=Al IX
abbrev Y0:=Ak IX Jk
variable (p429:YS)(f429:Y0)
abbrev Oy:Ab:=[(false,.pfn)]
abbrev PY:Ab:=[(true,.pair (.int .i64) (.pair .fn .unit))]
def aH7(p395:qC)(f395:rF)(a0:Aa (.pfn)):Option (DenS PY):=some (((2:Int),(some ((255:Nat),((a0+(2:Nat))::[]))),()),())
theorem aS9(x:DenS Oy):run (cf [(255,⟨N0,KU,p395,f395⟩)] []) 9 180 Tryz.f180 Oy PY x=aH7 p395 f395 x.1:=by kernel_rfl
def aAg(x:DenS Oy):Option (DenS PY):=aH7 Dl.pre Dl.F x.1
def cV:Sum:=Aj Oy PY aAg (DenS.dflt PY)
theorem aJK:Sound Tryz.prog G1 180 cV:=sd (cf [(255,Dl)] []) 180 Tryz.f180 ⟨WN,trivial⟩ trivial Oy PY aAg _ (fun _=>aS9 ..)
abbrev aBB:=Al Oy
abbrev aCP:=Ak Oy PY
variable (p430:aBB)(f430:aCP)
abbrev Oz:Ab:=[(false,.pfn)]
abbrev PZ:Ab:=[(true,.pair (.int .i64) (.pair .fn .unit))]
def aH8(p424:aBw)(f424:aCK)(a0:Aa (.pfn)):Option (DenS PZ):=some (((2:Int),(some ((256:Nat),((a0+(2:Nat))::[]))),()),())
theorem aTa(x:DenS Oz):run (cf [(256,⟨Ot,PT,p424,f424⟩)] []) 9 183 Tryz.f183 Oz PZ x=aH8 p424 f424 x.1:=by kernel_rfl
def aAh(x:DenS Oz):Option (DenS PZ):=aH8 FA.pre FA.F x.1
def cW:Sum:=Aj Oz PZ aAh (DenS.dflt PZ)
theorem aJL:Sound Tryz.prog G1 183 cW:=sd (cf [(256,FA)] []) 183 Tryz.f183 ⟨oT,trivial⟩ trivial Oz PZ aAh _ (fun _=>aTa ..)
abbrev aBC:=Al Oz
abbrev aCQ:=Ak Oz PZ
variable (p431:aBC)(f431:aCQ)
abbrev OA:Ab:=[(false,.pfn)]
abbrev P0:Ab:=[(true,.pair (.int .i64) (.pair .fn .unit))]
def aH9(p425:aBx)(f425:aCL)(a0:Aa (.pfn)):Option (DenS P0):=some (((2:Int),(some ((257:Nat),((a0+(2:Nat))::[]))),()),())
theorem aTb(x:DenS OA):run (cf [(257,⟨Ou,KY,p425,f425⟩)] []) 9 188 Tryz.f188 OA P0 x=aH9 p425 f425 x.1:=by kernel_rfl
def aAi(x:DenS OA):Option (DenS P0):=aH9 FB.pre FB.F x.1
def cX:Sum:=Aj OA P0 aAi (DenS.dflt P0)
theorem aJM:Sound Tryz.prog G1 188 cX:=sd (cf [(257,FB)] []) 188 Tryz.f188 ⟨oU,trivial⟩ trivial OA P0 aAi _ (fun _=>aTb ..)
abbrev aBD:=Al OA
abbrev aCR:=Ak OA P0
variable (p432:aBD)(f432:aCR)
abbrev OB:Ab:=[(false,.bool)]
abbrev P1:Ab:=[(true,.pair (.int .i64) (.pair .fn .unit))]
def aIa(p426:aBy)(f426:aCM)(a0:Aa (.bool)):Option (DenS P1):=some (((2:Int),(some ((258:Nat),((bif a0 then(1:Nat)else(0:Nat))::[]))),()),())
theorem aTc(x:DenS OB):run (cf [(258,⟨Ov,PU,p426,f426⟩)] []) 9 189 Tryz.f189 OB P1 x=aIa p426 f426 x.1:=by kernel_rfl
def aAj(x:DenS OB):Option (DenS P1):=aIa FC.pre FC.F x.1
def cY:Sum:=Aj OB P1 aAj (DenS.dflt P1)
theorem aJN:Sound Tryz.prog G1 189 cY:=sd (cf [(258,FC)] []) 189 Tryz.f189 ⟨oV,trivial⟩ trivial OB P1 aAj _ (fun _=>aTc ..)
abbrev aBE:=Al OB
abbrev aCS:=Ak OB P1
variable (p433:aBE)(f433:aCS)
abbrev OC:Ab:=[(false,.pfn)]
abbrev P2:Ab:=[(true,.pair (.int .i64) (.pair .fn .unit))]
def aIb(p427:aBz)(f427:aCN)(a0:Aa (.pfn)):Option (DenS P2):=some (((1:Int),(some ((259:Nat),((a0+(2:Nat))::[]))),()),())
theorem aTd(x:DenS OC):run (cf [(259,⟨Ow,PW,p427,f427⟩)] []) 9 193 Tryz.f193 OC P2 x=aIb p427 f427 x.1:=by kernel_rfl
def aAk(x:DenS OC):Option (DenS P2):=aIb FD.pre FD.F x.1
def cZ:Sum:=Aj OC P2 aAk (DenS.dflt P2)
theorem aJO:Sound Tryz.prog G1 193 cZ:=sd (cf [(259,FD)] []) 193 Tryz.f193 ⟨oW,trivial⟩ trivial OC P2 aAk _ (fun _=>aTd ..)
abbrev aBF:=Al OC
abbrev aCT:=Ak OC P2
variable (p434:aBF)(f434:aCT)
abbrev OD:Ab:=[]
abbrev P3:Ab:=[(false,.slice (.pair (.int .i64) (.pair .fn .unit)))]
def aIc(p27:eK)(f27:fD)(p25:pV)(f25:q8)(p354:qA)(f354:rD)(p381:qB)(f381:rE)(p430:aBB)(f430:aCP)(p396:qD)(f396:rG)(p402:qF)(f402:rI)(p422:aBu)(f422:aCI)(p423:aBv)(f423:aCJ)(p431:aBC)(f431:aCQ)(p407:qI)(f407:rL)(p408:qJ)(f408:rM)(p411:qK)(f411:rN)(p413:qL)(f413:rO)(p19:Y19)(f19:Z19)(p21:Y21)(f21:Z21)(p432:aBD)(f432:aCR)(p433:aBE)(f433:aCS)(p414:qM)(f414:rP)(p415:qN)(f415:rQ)(p416:qO)(f416:rR)(p64:Uu)(f64:UG)(p112:eG)(f112:eZ)(p434:aBF)(f434:aCT)(p418:qP)(f418:rS):Option (DenS P3):=bif(p430 ((15:Nat),()))then(bif(p430 ((16:Nat),()))then(bif(p430 ((17:Nat),()))then(bif(p430 ((18:Nat),()))then(bif(p431 ((94:Nat),()))then(bif(p431 ((95:Nat),()))then(bif(p432 ((97:Nat),()))then(bif(p432 ((98:Nat),()))then(bif(p433 (false,()))then(bif(p433 (true,()))then(bif(p434 ((60:Nat),()))then(bif(p434 ((147:Nat),()))then(some ((((0:Int),none,())::((f430 ((15:Nat),())).1::((f430 ((16:Nat),())).1::((f430 ((17:Nat),())).1::((f430 ((18:Nat),())).1::(((1:Int),(some ((181:Nat),[])),())::(((3:Int),(some ((182:Nat),[])),())::((f431 ((94:Nat),())).1::((f431 ((95:Nat),())).1::(((1:Int),(some ((184:Nat),[])),())::(((1:Int),(some ((185:Nat),[])),())::(((1:Int),(some ((186:Nat),[])),())::(((0:Int),(some ((187:Nat),[])),())::((f432 ((97:Nat),())).1::((f432 ((98:Nat),())).1::((f433 (false,())).1::((f433 (true,())).1::(((1:Int),(some ((190:Nat),[])),())::(((1:Int),(some ((191:Nat),[])),())::(((1:Int),(some ((192:Nat),[])),())::((f434 ((60:Nat),())).1::((f434 ((147:Nat),())).1::(((2:Int),(some ((194:Nat),[])),())::[]))))))))))))))))))))))),()))else none)else none)else none)else none)else none)else none)else none)else none)else none)else none)else none)else none
theorem aTe(x:DenS OD):run (cf [(15,⟨Kr,KP,p27,f27⟩),(16,⟨NA,O8,p25,f25⟩),(17,⟨NO,Pm,p354,f354⟩),(18,⟨NW,KT,p381,f381⟩),(180,⟨Oy,PY,p430,f430⟩),(181,⟨N1,Pv,p396,f396⟩),(182,⟨N6,PA,p402,f402⟩),(94,⟨Oo,PR,p422,f422⟩),(95,⟨Oq,PS,p423,f423⟩),(183,⟨Oz,PZ,p431,f431⟩),(184,⟨N8,PD,p407,f407⟩),(185,⟨N9,PE,p408,f408⟩),(186,⟨Od,PH,p411,f411⟩),(187,⟨Of,PJ,p413,f413⟩),(97,⟨Ny,O6,p19,f19⟩),(98,⟨Nz,O7,p21,f21⟩),(188,⟨OA,P0,p432,f432⟩),(189,⟨OB,P1,p433,f433⟩),(190,⟨Og,PK,p414,f414⟩),(191,⟨Oh,PL,p415,f415⟩),(192,⟨Oi,PM,p416,f416⟩),(60,⟨I0,Jo,p64,f64⟩),(147,⟨Km,KI,p112,f112⟩),(193,⟨OC,P2,p434,f434⟩),(194,⟨Ol,PO,p418,f418⟩)] []) 9 132 Tryz.f132 OD P3 x=aIc p27 f27 p25 f25 p354 f354 p381 f381 p430 f430 p396 f396 p402 f402 p422 f422 p423 f423 p431 f431 p407 f407 p408 f408 p411 f411 p413 f413 p19 f19 p21 f21 p432 f432 p433 f433 p414 f414 p415 f415 p416 f416 p64 f64 p112 f112 p434 f434 p418 f418:=by kernel_rfl
def aAl(x:DenS OD):Option (DenS P3):=aIc Fy.pre Fy.F LB.pre LB.F LC.pre LC.F LD.pre LD.F cV.pre cV.F LF.pre LF.F LG.pre LG.F LQ.pre LQ.F LR.pre LR.F cW.pre cW.F LH.pre LH.F LI.pre LI.F LJ.pre LJ.F LL.pre LL.F Lz.pre Lz.F LA.pre LA.F cX.pre cX.F cY.pre cY.F LM.pre LM.F LN.pre LN.F LO.pre LO.F DR.pre DR.F D5.pre D5.F cZ.pre cZ.F LP.pre LP.F
def Gk:Sum:=Aj OD P3 aAl (DenS.dflt P3)
theorem aJP:Sound Tryz.prog G1 132 Gk:=sd (cf [(15,Fy),(16,LB),(17,LC),(18,LD),(180,cV),(181,LF),(182,LG),(94,LQ),(95,LR),(183,cW),(184,LH),(185,LI),(186,LJ),(187,LL),(97,Lz),(98,LA),(188,cX),(189,cY),(190,LM),(191,LN),(192,LO),(60,DR),(147,D5),(193,cZ),(194,LP)] []) 132 Tryz.f132 ⟨oR,yA,yD,yE,aJK,yF,yH,yT,yU,aJL,yK,yL,yM,yN,x8,x9,aJM,aJN,yO,yP,yQ,dA,oK,aJO,yR,trivial⟩ trivial OD P3 aAl _ (fun _=>aTe ..)
abbrev aBG:=Al OD
abbrev aCU:=Ak OD P3
variable (p435:aBG)(f435:aCU)
abbrev OE:Ab:=[(false,.int .i64)]
abbrev P4:Ab:=[(true,.pair (.int .i64) (.pair .fn .unit)),(false,.int .i64)]
def Wh(p435:aBG)(f435:aCU)(a0:Aa (.int .i64)):Option (DenS P4):=bif(p435 ())then(bif((decide (a0<(1:Int)))||(decide (a0>=((f435 ()).1.length:Int))))then(some (((0:Int),none,()),(190:Int),()))else bif((decide ((0:Int)<=a0))&&(decide (a0<((f435 ()).1.length:Int))))then(some (((f435 ()).1.getD (aj a0) ((0:Int),none,())),(0:Int),()))else none)else none
theorem aTf(x:DenS OE):run (cf [(132,⟨OD,P3,p435,f435⟩)] []) 9 90 Tryz.f90 OE P4 x=Wh p435 f435 x.1:=by kernel_rfl
def Q7(x:DenS OE):Option (DenS P4):=Wh Gk.pre Gk.F x.1
def LS:Sum:=Aj OE P4 Q7 (DenS.dflt P4)
theorem aJQ:Sound Tryz.prog G1 90 LS:=sd (cf [(132,Gk)] []) 90 Tryz.f90 ⟨aJP,trivial⟩ trivial OE P4 Q7 _ (fun _=>aTf ..)
abbrev aBH:=Al OE
abbrev aCV:=Ak OE P4
variable (p436:aBH)(f436:aCV)
abbrev OF:Ab:=[(false,.int .i64),(true,.pair (.int .i64) (.pair .fn .unit)),(true,.pair (.int .i64) (.pair (.int .i64) (.pair (.int .u64) (.pair (.int .u64) (.pair (.int .u64) .unit)))))]
abbrev Jl:Ab:=[(false,.int .i64)]
abbrev HZ:Pat:=⟨84,[(43,.one (.v .i64)),(42,.one (.sl (.int .u64))),(44,.one (.v .i64)),(0,.one (.v .i64)),(5,.one (.ptr 1 0))],[.gone,.raw [.v .i64,.v .i64,.v .u64,.v .u64,.v .u64]]⟩
abbrev bZ:List (Nat×Shape):=[]
abbrev Mq:List (Nat×Pat):=[(1,⟨84,[(0,.one (.v .i64)),(5,.one (.ptr 1 0))],[.gone,.raw [.v .i64,.v .i64,.v .u64,.v .u64,.v .u64]]⟩)]
abbrev Lw:Option Pat:=(some ⟨84,[(6,.one (.v .i64))],[]⟩)
variable (w437_13:Pat.D HZ->Option (Ah Mq Lw))
def Vw(p69:BK)(f69:BL)(p66:Cm)(f66:Cn){R:Type}(L:Pat.D HZ->Option R)(e:Ah Mq Lw->Option R)(x:Pat.D HZ):Option R:=let e2_:=(x.2.2.1.2.1,(x.1.2.1.getD (aj x.1.2.2.1) (0:Int)),());let e1_:=(f66 e2_);bif(decide (x.1.2.2.1<x.1.1))then(bif((decide ((0:Int)<=x.1.2.2.1))&&(decide (x.1.2.2.1<(x.1.2.1.length:Int))))then(bif(p66 e2_)then(bif(e1_.1 !=(0:Int))then(((e (.inr (e1_,())))))else(L ((x.1.1,x.1.2.1,(aa .i64 (x.1.2.2.1+(1:Int))),x.1.2.2.2.1,(),()),(),x.2.2)))else none)else none)else(e (.inl ((x.1.2.2.2.1,(),()),(),x.2.2)))
theorem aUG(d:Nat)(R:Type)(L:Pat.D HZ->Option R)(e:Ah Mq Lw->Option R)(x:Pat.D HZ):
  BA (cf [(54,⟨Ck,Cl,p69,f69⟩),(59,⟨CI,CJ,p66,f66⟩)] [(91,13,LoopSpec.of HZ bZ Mq Lw w437_13)]) (d+2) 91 (Bw Tryz.f91 13) HZ bZ Mq Lw (R:=R) L e x=Vw p69 f69 p66 f66 L e x:=by kernel_rfl
theorem aF2(p69:BK)(f69:BL)(p66:Cm)(f66:Cn):Bp fun L e x=>Vw p69 f69 p66 f66 L e x:=by intro _ _ _ _ _ _ _ h0 hL he _;unfold Vw;repeat' (first|exact h0|exact hL _|exact he _|apply BT|(apply BU h0;intro _)|(apply BV<;>intro _))
def m8(p69:BK)(f69:BL)(p66:Cm)(f66:Cn)(w437_13:Pat.D HZ->Option (Ah Mq Lw))(a0:Aa (.int .i64))(a1:Aa (.pair (.int .i64) (.pair .fn .unit)))(a2:Aa (.pair (.int .i64) (.pair (.int .i64) (.pair (.int .u64) (.pair (.int .u64) (.pair (.int .u64) .unit)))))):Option (DenS Jl):=
 let e4_:=(a2.2.2.1::(a2.2.2.2.1::(a2.2.2.2.2.1::[])))
 let e3_:=((e4_.take (aj a1.1)).drop (aj (0:Int)))
 let e1_:=(w437_13 (((e3_.length:Int),e3_,(0:Int),a0,(),()),(),(a2.1,a2.2),()))
 let e2_:=((decide ((0:Int)<=a1.1))&&(decide (a1.1<=(e4_.length:Int))))
 let g1_:Option (DenS Jl):=bif(decide (a2.2.2.2.2.1>(3:Int)))then(some ((9:Int),()))
 else bif e2_ then(Vx.AY e1_ fun y7=>
 Vx.A1 y7 (fun y8=>
 bif(y8.1.1==(12:Int))then(bif((((aa .i64 y8.2.2.1.2.2.2.2.1)==(0:Int))&&((aa .u64 (aa .i64 (aa .i32 y8.2.2.1.2.2.1)))!=y8.2.2.1.2.2.1))||(((aa .i64 y8.2.2.1.2.2.2.2.1)==(2:Int))&&((AJ .u64 y8.2.2.1.2.2.1 (32:Int))!=(0:Int))))then(some ((4:Int),()))
 else some ((0:Int),()))
 else some ((0:Int),())) (fun z8=>
 some z8.1))
 else none
 let g2_:Option (DenS Jl):=bif e2_ then(Vx.AY e1_ fun y6=>
 Vx.A1 y6 (fun y7=>
 bif(y7.1.1==(12:Int))then(bif((((aa .i64 y7.2.2.1.2.2.2.2.1)==(0:Int))&&((aa .u64 (aa .i64 (aa .i32 y7.2.2.1.2.2.1)))!=y7.2.2.1.2.2.1))||(((aa .i64 y7.2.2.1.2.2.2.2.1)==(2:Int))&&((AJ .u64 y7.2.2.1.2.2.1 (32:Int))!=(0:Int))))then(some ((4:Int),()))
 else some ((0:Int),()))
 else some ((0:Int),())) (fun z7=>
 some z7.1))
 else none
 bif(p69 (a2.2.1,()))then(bif((f69 (a2.2.1,())).2.1 !=(0:Int))then(some (f69 (a2.2.1,())).2)
 else bif(a0==(10:Int))then(bif(decide (a2.2.2.2.2.1>(3:Int)))then(some ((2:Int),()))
 else bif e2_ then(Vx.AY e1_ fun y5=>
 Vx.A1 y5 (fun y6=>
 bif(y6.1.1==(12:Int))then(bif((((aa .i64 y6.2.2.1.2.2.2.2.1)==(0:Int))&&((aa .u64 (aa .i64 (aa .i32 y6.2.2.1.2.2.1)))!=y6.2.2.1.2.2.1))||(((aa .i64 y6.2.2.1.2.2.2.2.1)==(2:Int))&&((AJ .u64 y6.2.2.1.2.2.1 (32:Int))!=(0:Int))))then(some ((4:Int),()))
 else some ((0:Int),()))
 else some ((0:Int),())) (fun z6=>
 some z6.1))
 else none)
 else bif(a0==(11:Int))then(bif(a0==(11:Int))then(g1_)
 else g2_)
 else bif(a0==(12:Int))then(g1_)
 else g2_)
 else none
theorem aTg(x:DenS OF):run (cf [(54,⟨Ck,Cl,p69,f69⟩),(59,⟨CI,CJ,p66,f66⟩)] [(91,13,LoopSpec.of HZ bZ Mq Lw w437_13)]) 9 91 Tryz.f91 OF Jl x=m8 p69 f69 p66 f66 w437_13 x.1 x.2.1 x.2.2.1:=by kernel_rfl
def eC:HZ.D->Option (Ah Mq Lw):=Bf fun L=>Vw Aq.pre Aq.F Ar.pre Ar.F L some
def Yi(x:DenS OF):Option (DenS Jl):=m8 Aq.pre Aq.F Ar.pre Ar.F eC x.1 x.2.1 x.2.2.1
def QV:Sum:=Aj OF Jl Yi (DenS.dflt Jl)
theorem aJR:Sound Tryz.prog G1 91 QV:=sd (cf [(54,Aq),(59,Ar)] [(91,13,LoopSpec.of HZ bZ Mq Lw eC)]) 91 Tryz.f91 ⟨Em,Gl,trivial⟩ ⟨rfl,fun d=>BR (fun L e x=>Vw Aq.pre Aq.F Ar.pre Ar.F L e x) (aF2 Aq.pre Aq.F Ar.pre Ar.F) (fun _ _ _ _=>aUG ..),trivial⟩ OF Jl Yi _ (fun _=>aTg ..)
abbrev aBI:=Al OF
abbrev aCW:=Ak OF Jl
variable (p437:aBI)(f437:aCW)
abbrev Hu:Ab:=[(true,.pair (.int .i64) (.pair (.int .i64) (.pair (.int .i64) (.unit)))),(false,.int .i64),(false,.int .i64),(false,.int .u64),(false,.int .u64),(false,.int .u64)]
abbrev HE:Ab:=[(true,.pair (.int .u64) (.pair (.int .i64) (.pair (.int .i64) (.pair (.pair (.int .i64) (.pair (.int .i64) (.pair (.int .i64) (.unit)))) (.unit))))),(false,.int .i64)]
def m9(p429:YS)(f429:Y0)(p436:aBH)(f436:aCV)(p437:aBI)(f437:aCW)(p100001:aAB)(f100001:aBP)(a0:Aa (.pair (.int .i64) (.pair (.int .i64) (.pair (.int .i64) (.unit)))))(a1 a2:Aa (.int .i64))(a3 a4 a5:Aa (.int .u64)):Option (DenS HE):=let e5_:=(f100001 (f436 (a1,())).1.2.1 ((a0.1,a2,a3,a4,a5,()),()));let e1_:=(A9 .i64 e5_.2.1 a0.2.2.1);let e2_:=((0:Int),(0:Int),(0:Int),((0:Int),(0:Int),(0:Int),()),());let e6_:=(a1,(f436 (a1,())).1,(a0.1,a2,a3,a4,a5,()),());let e3_:=(f437 e6_);let e4_:=e5_;bif(p429 ((a0.1,a0.2),()))then(bif((f429 ((a0.1,a0.2),())).1 !=(0:Int))then(some (e2_,(f429 ((a0.1,a0.2),()))))else bif(p436 (a1,()))then(bif((f436 (a1,())).2.1 !=(0:Int))then(some (e2_,(f436 (a1,())).2))else bif(p437 e6_)then(bif(e3_.1 !=(0:Int))then(some (e2_,e3_))else bif(p100001 (f436 (a1,())).1.2.1 ((a0.1,a2,a3,a4,a5,()),()))then(bif(e4_.2.2.1 !=(0:Int))then(some (e2_,e4_.2.2))else bif(e1_ !=(0:Int))then(some (((0:Int),e4_.2.1,(A9 .i64 e1_ (aa .i64 ((0:Int)-e1_))),(a0.1,a0.2),()),(0:Int),()))else some ((e4_.1,e4_.2.1,(0:Int),(a0.1,(A7 .i64 a0.2.1 e4_.2.1),a0.2.2),()),(0:Int),()))else none)else none)else none)else none
theorem aTh(x:DenS Hu):run ({cf [(89,⟨IX,Jk,p429,f429⟩),(90,⟨OE,P4,p436,f436⟩),(91,⟨OF,Jl,p437,f437⟩)] []with fns:=[(31,⟨EB,DZ,p100001,f100001⟩)] }) 9 36 Tryz.f36 Hu HE x=m9 p429 f429 p436 f436 p437 f437 p100001 f100001 x.1 x.2.1 x.2.2.1 x.2.2.2.1 x.2.2.2.2.1 x.2.2.2.2.2.1:=by kernel_rfl
def Q8(x:DenS Hu):Option (DenS HE):=m9 Dx.pre Dx.F LS.pre LS.F QV.pre QV.F Jz.pre Jz.F x.1 x.2.1 x.2.2.1 x.2.2.2.1 x.2.2.2.2.1 x.2.2.2.2.2.1
def CR:Sum:=Aj Hu HE Q8 (DenS.dflt HE)
theorem oX:Sound Tryz.prog G1 36 CR:=sd ({cf [(89,Dx),(90,LS),(91,QV)] []with fns:=[(31,Jz)] }) 36 Tryz.f36 ⟨yW,aJQ,aJR,trivial⟩ trivial Hu HE Q8 _ (fun _=>aTh ..) (hfs:=⟨aIG,trivial⟩)
abbrev Ut:=Al Hu
abbrev UF:=Ak Hu HE
variable (p438:Ut)(f438:UF)
abbrev KA:Ab:=[]
abbrev K0:Ab:=[(false,.bool)]
def nA(p438:Ut)(f438:UF):Option (DenS K0):=let e2_:=(((0:Int),(0:Int),(2:Int),()),(4:Int),(0:Int),(15360:Int),(0:Int),(7:Int),());let e1_:=(f438 e2_);bif(p438 e2_)then(some (((e1_.2.1==(0:Int))&&((e1_.1.1==(0:Int))&&((e1_.1.2.1==(2:Int))&&((e1_.1.2.2.1==(2:Int))&&((e1_.1.2.2.2.1.1==(0:Int))&&((e1_.1.2.2.2.1.2.1==(0:Int))&&(e1_.1.2.2.2.1.2.2.1==(2:Int)))))))),()))else none
theorem aTi(x:DenS KA):run (cf [(36,⟨Hu,HE,p438,f438⟩)] []) 9 35 Tryz.f35 KA K0 x=nA p438 f438:=by kernel_rfl
def Yj(x:DenS KA):Option (DenS K0):=nA CR.pre CR.F
def EN:Sum:=Aj KA K0 Yj (DenS.dflt K0)
theorem aJS:Sound Tryz.prog G1 35 EN:=sd (cf [(36,CR)] []) 35 Tryz.f35 ⟨oX,trivial⟩ trivial KA K0 Yj _ (fun _=>aTi ..)
abbrev eQ:=Al KA
abbrev fI:=Ak KA K0
variable (p439:eQ)(f439:fI)
abbrev KB:Ab:=[(false,.int .i64),(false,.int .i64),(false,.int .u64),(false,.int .u64),(false,.int .u64)]
abbrev K1:Ab:=[(true,.pair (.int .u64) (.pair (.int .i64) (.pair (.int .i64) (.pair (.pair (.int .i64) (.pair (.int .i64) (.pair (.int .i64) (.unit)))) (.unit))))),(false,.int .i64)]
abbrev F4:LK:=.ref (.pair (.pair (.int .i64) (.pair (.int .i64) (.pair (.int .i64) .unit))) .unit)
def nB(p438:Ut)(f438:UF)(l0:LK.D (.ref (.pair (.pair (.int .i64) (.pair (.int .i64) (.pair (.int .i64) .unit))) .unit)))(a0 a1:Aa (.int .i64))(a2 a3 a4:Aa (.int .u64)):Option (LK.B F4×DenS K1):=let e1_:=(f438 (l0.1,a0,a1,a2,a3,a4,()));bif(p438 (l0.1,a0,a1,a2,a3,a4,()))then(bif(e1_.2.1==(0:Int))then(some (e1_.1.2.2.2,e1_))else some ((l0.1,()),e1_))else none
theorem aTj(x:LK.D F4×DenS KB):Iy (cf [(36,⟨Hu,HE,p438,f438⟩)] []) 9 48 Tryz.f48 F4 KB K1 x=nB p438 f438 x.1 x.2.1 x.2.2.1 x.2.2.2.1 x.2.2.2.2.1 x.2.2.2.2.2.1:=by kernel_rfl
def Yk(x:LK.D F4×DenS KB):Option (LK.B F4×DenS K1):=nB CR.pre CR.F x.1 x.2.1 x.2.2.1 x.2.2.2.1 x.2.2.2.2.1 x.2.2.2.2.2.1
def EO:SumL:=Iz F4 KB K1 Yk (LK.dflt F4,DenS.dflt K1)
theorem aJU:SoundL Tryz.prog G1 48 EO:=V5 (cf [(36,CR)] []) 48 Tryz.f48 ⟨oX,trivial⟩ trivial F4 KB K1 Yk _ (fun _=>aTj ..)
abbrev eR:=LK.D F4×DenS KB->Bool
abbrev fJ:=LK.D F4×DenS KB->LK.B F4×DenS K1
variable (p460:eR)(f460:fJ)
abbrev KC:Ab:=[(false,.int .i64)]
abbrev K2:Ab:=[(false,.int .i64),(false,.int .i64)]
abbrev F5:LK:=.ref (.pair (.pair (.int .i64) (.pair (.int .i64) (.pair (.int .i64) .unit))) .unit)
def nC(p428:qR)(f428:rU)(l0:LK.D (.ref (.pair (.pair (.int .i64) (.pair (.int .i64) (.pair (.int .i64) .unit))) .unit)))(a0:Aa (.int .i64)):Option (LK.B F5×DenS K2):=bif(p428 (a0,()))then(bif(!(f428 (a0,())).1)then(some ((l0.1,()),(0:Int),(7:Int),()))else some (((l0.1.1,(JW .i64 l0.1.2.1 a0),l0.1.2.2),()),l0.1.2.1,(0:Int),()))else none
theorem aTk(x:LK.D F5×DenS KC):Iy (cf [(108,⟨Kz,KZ,p428,f428⟩)] []) 9 50 Tryz.f50 F5 KC K2 x=nC p428 f428 x.1 x.2.1:=by kernel_rfl
def Yl(x:LK.D F5×DenS KC):Option (LK.B F5×DenS K2):=nC Gj.pre Gj.F x.1 x.2.1
def EP:SumL:=Iz F5 KC K2 Yl (LK.dflt F5,DenS.dflt K2)
theorem aJV:SoundL Tryz.prog G1 50 EP:=V5 (cf [(108,Gj)] []) 50 Tryz.f50 ⟨yV,trivial⟩ trivial F5 KC K2 Yl _ (fun _=>aTk ..)
abbrev eU:=LK.D F5×DenS KC->Bool
abbrev fK:=LK.D F5×DenS KC->LK.B F5×DenS K2
variable (p461:eU)(f461:fK)
abbrev KD:Ab:=[]
abbrev K3:Ab:=[(true,.pair (.int .i64) (.pair (.int .i64) (.pair (.int .i64) (.unit)))),(false,.int .i64)]
abbrev F6:LK:=.ref (.pair (.pair (.int .i64) (.pair (.int .i64) (.pair (.int .i64) .unit))) .unit)
def aId(l0:LK.D (.ref (.pair (.pair (.int .i64) (.pair (.int .i64) (.pair (.int .i64) .unit))) .unit))):Option (LK.B F6×DenS K3):=some ((l0.1,()),l0.1,(0:Int),())
theorem aTl(x:LK.D F6×DenS KD):Iy (cf [] []) 9 49 Tryz.f49 F6 KD K3 x=aId x.1:=by kernel_rfl
def Ym(x:LK.D F6×DenS KD):Option (LK.B F6×DenS K3):=aId x.1
def EQ:SumL:=Iz F6 KD K3 Ym (LK.dflt F6,DenS.dflt K3)
theorem aJW:SoundL Tryz.prog G1 49 EQ:=V5 (cf [] []) 49 Tryz.f49 trivial trivial F6 KD K3 Ym _ (fun _=>aTl ..)
abbrev eV:=LK.D F6×DenS KD->Bool
abbrev fL:=LK.D F6×DenS KD->LK.B F6×DenS K3
variable (p462:eV)(f462:fL)
abbrev I463:Ab:=[(true,.pair (.int .i64) (.pair (.int .i64) (.pair (.int .i64) (.unit)))),(false,.slice (.pair (.int .i64) (.pair (.bool) (.pair (.int .i64) (.pair (.int .i64) (.pair (.int .u64) (.pair (.int .u64) (.pair (.int .u64) (.unit)))))))))]
abbrev R1:Ab:=[(false,.bool)]
abbrev H0:Pat:=⟨155,[(37,.one (.v .i64)),(36,.one (.sl (.pair (.int .i64) (.pair (.bool) (.pair (.int .i64) (.pair (.int .i64) (.pair (.int .u64) (.pair (.int .u64) (.pair (.int .u64) (.unit)))))))))),(8,.one (.ptr 3 0)),(38,.one (.v .i64)),(5,.one (.ptr 2 0)),(7,.one (.v .i64)),(2,.one (.ptr 0 0))],[.raw [.v .i64,.v .i64,.v .i64],.gone,.raw [.v .i64,.v .i64,.v .i64],.raw [.v .i64,.v .i64,.v .i64]]⟩
abbrev cA:List (Nat×Shape):=[]
abbrev Mr:List (Nat×Pat):=[(0,⟨155,[(5,.one (.ptr 2 0)),(7,.one (.v .i64)),(2,.one (.ptr 0 0))],[.raw [.v .i64,.v .i64,.v .i64],.gone,.raw [.v .i64,.v .i64,.v .i64]]⟩)]
abbrev Lx:Option Pat:=(some ⟨155,[(4,.one (.bool))],[]⟩)
variable (w463_10:Pat.D H0->Option (Ah Mr Lx))
def Vy(p439:eQ)(f439:fI)(p429:YS)(f429:Y0)(p460:eR)(f460:fJ)(p438:Ut)(f438:UF)(p461:eU)(f461:fK)(p462:eV)(f462:fL){R:Type}(L:Pat.D H0->Option R)(e:Ah Mr Lx->Option R)(x:Pat.D H0):Option R:=let e11_:=(x.1.2.1.getD (aj x.1.2.2.2.1) ((0:Int),false,(0:Int),(0:Int),(0:Int),(0:Int),(0:Int),()));let e10_:=(f460 ((x.2.2.2.1,()),e11_.2.2));let e9_:=(f462 (e10_.1,()));let e1_:=(x.2.1,(),e9_.1.1,e9_.2.1,());let e2_:=(A7 .i64 x.1.2.2.2.2.2.1 e10_.2.1.2.1);let e3_:=(e10_.2.2.1==(0:Int));let e4_:=e9_;let e5_:=e10_;let e6_:=(f438 (x.2.2.2.2.1,e11_.2.2));let e7_:=e11_;let e8_:=(aa .i64 (x.1.2.2.2.1+(1:Int)));bif(decide (x.1.2.2.2.1<x.1.1))then(bif((decide ((0:Int)<=x.1.2.2.2.1))&&(decide (x.1.2.2.2.1<(x.1.2.1.length:Int))))then(bif(p460 ((x.2.2.2.1,()),e7_.2.2))then(bif(p438 (x.2.2.2.2.1,e7_.2.2))then(bif(p462 (e5_.1,()))then(bif(((((!((e5_.2.1.1==e6_.1.1)&&((e5_.2.1.2.1==e6_.1.2.1)&&((e5_.2.1.2.2.1==e6_.1.2.2.1)&&((e5_.2.1.2.2.2.1.1==e6_.1.2.2.2.1.1)&&((e5_.2.1.2.2.2.1.2.1==e6_.1.2.2.2.1.2.1)&&(e5_.2.1.2.2.2.1.2.2.1==e6_.1.2.2.2.1.2.2.1)))))))||(e5_.2.2.1 !=e6_.2.1))||(e4_.2.2.1 !=(0:Int)))||((e5_.2.2.1 !=(0:Int))&&(!((e4_.2.1.1==x.2.2.2.2.1.1)&&((e4_.2.1.2.1==x.2.2.2.2.1.2.1)&&(e4_.2.1.2.2.1==x.2.2.2.2.1.2.2.1))))))||(e3_&&(!((e4_.2.1.1==e5_.2.1.2.2.2.1.1)&&((e4_.2.1.2.1==e5_.2.1.2.2.2.1.2.1)&&(e4_.2.1.2.2.1==e5_.2.1.2.2.2.1.2.2.1))))))then(((e (.inr ((false,()),())))))else bif(e3_&&(e5_.2.1.2.2.1==(0:Int)))then(bif(e4_.2.1.2.1 !=e2_)then(((e (.inr ((false,()),())))))else(L ((x.1.1,x.1.2.1,(),e8_,(),e2_,(),()),e1_)))else bif(e4_.2.1.2.1 !=x.1.2.2.2.2.2.1)then(((e (.inr ((false,()),())))))else(L ((x.1.1,x.1.2.1,(),e8_,(),x.1.2.2.2.2.2.1,(),()),e1_)))else none)else none)else none)else none)else(e (.inl (((),x.1.2.2.2.2.2.1,(),()),x.2.1,(),x.2.2.2.1,())))
theorem aUH(d:Nat)(R:Type)(L:Pat.D H0->Option R)(e:Ah Mr Lx->Option R)(x:Pat.D H0):
  BA ({cf [(35,⟨KA,K0,p439,f439⟩),(89,⟨IX,Jk,p429,f429⟩),(36,⟨Hu,HE,p438,f438⟩)] [(10,10,LoopSpec.of H0 cA Mr Lx w463_10)]with lsums:=[(48,⟨F4,KB,K1,p460,f460⟩),(50,⟨F5,KC,K2,p461,f461⟩),(49,⟨F6,KD,K3,p462,f462⟩)] }) (d+2) 10 (Bw Tryz.f10 10) H0 cA Mr Lx (R:=R) L e x=Vy p439 f439 p429 f429 p460 f460 p438 f438 p461 f461 p462 f462 L e x:=by kernel_rfl
theorem aF3(p439:eQ)(f439:fI)(p429:YS)(f429:Y0)(p460:eR)(f460:fJ)(p438:Ut)(f438:UF)(p461:eU)(f461:fK)(p462:eV)(f462:fL):Bp fun L e x=>Vy p439 f439 p429 f429 p460 f460 p438 f438 p461 f461 p462 f462 L e x:=by intro _ _ _ _ _ _ _ h0 hL he _;unfold Vy;repeat' (first|exact h0|exact hL _|exact he _|apply BT|(apply BU h0;intro _)|(apply BV<;>intro _))
def nD(p439:eQ)(f439:fI)(p429:YS)(f429:Y0)(p460:eR)(f460:fJ)(p438:Ut)(f438:UF)(p461:eU)(f461:fK)(p462:eV)(f462:fL)(w463_10:Pat.D H0->Option (Ah Mr Lx))(a0:Aa (.pair (.int .i64) (.pair (.int .i64) (.pair (.int .i64) (.unit)))))(a1:Aa (.slice (.pair (.int .i64) (.pair (.bool) (.pair (.int .i64) (.pair (.int .i64) (.pair (.int .u64) (.pair (.int .u64) (.pair (.int .u64) (.unit)))))))))):Option (DenS R1):=
 bif(p439 ())then(bif(!(f439 ()).1)then(some (false,()))
 else bif(p429 ((a0.1,a0.2),()))then(bif((f429 ((a0.1,a0.2),())).1 !=(0:Int))then(bif((f429 ((a0.1,a0.2),())).1 !=(0:Int))then(some (true,()))
 else some (false,()))
 else Vx.AY (w463_10 (((a1.length:Int),a1,(),(0:Int),(),a0.2.1,(),()),(a0.1,a0.2),(),(a0.1,a0.2),(a0.1,a0.2),())) fun y4=>
 Vx.A1 y4 (fun y5=>
 bif(p461 (y5.2.2.2,(31:Int),()))then(bif(p462 ((f461 (y5.2.2.2,(31:Int),())).1,()))then(some ((((((f461 (y5.2.2.2,(31:Int),())).2.1==y5.1.2.1)&&((f461 (y5.2.2.2,(31:Int),())).2.2.1==(0:Int)))&&((f462 ((f461 (y5.2.2.2,(31:Int),())).1,())).2.2.1==(0:Int)))&&(((f462 ((f461 (y5.2.2.2,(31:Int),())).1,())).2.1.1==y5.2.1.1)&&(((f462 ((f461 (y5.2.2.2,(31:Int),())).1,())).2.1.2.1==(0:Int))&&((f462 ((f461 (y5.2.2.2,(31:Int),())).1,())).2.1.2.2.1==y5.2.1.2.2.1)))),()))
 else none)
 else none) (fun z5=>
 some z5.1))
 else none)
 else none
theorem aTm(x:DenS I463):run ({cf [(35,⟨KA,K0,p439,f439⟩),(89,⟨IX,Jk,p429,f429⟩),(36,⟨Hu,HE,p438,f438⟩)] [(10,10,LoopSpec.of H0 cA Mr Lx w463_10)]with lsums:=[(48,⟨F4,KB,K1,p460,f460⟩),(50,⟨F5,KC,K2,p461,f461⟩),(49,⟨F6,KD,K3,p462,f462⟩)] }) 9 10 Tryz.f10 I463 R1 x=nD p439 f439 p429 f429 p460 f460 p438 f438 p461 f461 p462 f462 w463_10 x.1 x.2.1:=by kernel_rfl
def YM:H0.D->Option (Ah Mr Lx):=Bf fun L=>Vy EN.pre EN.F Dx.pre Dx.F EO.pre EO.F CR.pre CR.F EP.pre EP.F EQ.pre EQ.F L some
def T463(x:DenS I463):Option (DenS R1):=nD EN.pre EN.F Dx.pre Dx.F EO.pre EO.F CR.pre CR.F EP.pre EP.F EQ.pre EQ.F YM x.1 x.2.1
def aJX:Sum:=Aj I463 R1 T463 (DenS.dflt R1)
theorem S463_sound:Sound Tryz.prog G1 10 aJX:=sd ({cf [(35,EN),(89,Dx),(36,CR)] [(10,10,LoopSpec.of H0 cA Mr Lx YM)]with lsums:=[(48,EO),(50,EP),(49,EQ)] }) 10 Tryz.f10 ⟨aJS,yW,oX,trivial⟩ ⟨rfl,fun d=>BR (fun L e x=>Vy EN.pre EN.F Dx.pre Dx.F EO.pre EO.F CR.pre CR.F EP.pre EP.F EQ.pre EQ.F L e x) (aF3 EN.pre EN.F Dx.pre Dx.F EO.pre EO.F CR.pre CR.F EP.pre EP.F EQ.pre EQ.F) (fun _ _ _ _=>aUH ..),trivial⟩ I463 R1 T463 _ (fun _=>aTm ..) (hls:=⟨aJU,aJV,aJW,trivial⟩)
abbrev aLL:=Al I463
abbrev aLM:=Ak I463 R1
variable (p463:aLL)(f463:aLM)
end Vx
namespace Vx
open Go
theorem Ap{I O:Ab}{T:DenS I->Option (DenS O)}{d:DenS O}{x:DenS I}{y:DenS O}(h:T x=some y):(Aj I O T d).pre x=true:=by
 show(T x).isSome=true;rw[h];rfl
theorem Ao{I O:Ab}{T:DenS I->Option (DenS O)}{d:DenS O}{x:DenS I}{y:DenS O}(h:T x=some y):(Aj I O T d).F x=y:=by
 show(T x).getD d=y;rw[h];rfl
theorem V9{k:LK}{I O:Ab}{T:k.D×DenS I->Option (k.B×DenS O)}{d:k.B×DenS O}{x:k.D×DenS I}{y:k.B×DenS O}(h:T x=some y):(Iz k I O T d).pre x=true:=by
 show(T x).isSome=true;rw[h];rfl
theorem V8{k:LK}{I O:Ab}{T:k.D×DenS I->Option (k.B×DenS O)}{d:k.B×DenS O}{x:k.D×DenS I}{y:k.B×DenS O}(h:T x=some y):(Iz k I O T d).F x=y:=by
 show(T x).getD d=y;rw[h];rfl
theorem Dd{x y}(h:Sn x=some y):Aq.pre x=true:=Ap h
theorem C9{x y}(h:Sn x=some y):Aq.F x=y:=Ao h
theorem DC{x y}(h:Yr x=some y):Ar.pre x=true:=Ap h
theorem Dz{x y}(h:Yr x=some y):Ar.F x=y:=Ao h
theorem aB{x y}(h:Yw x=some y):Bq.pre x=true:=Ap h
theorem ZF{x y}(h:Yw x=some y):Bq.F x=y:=Ao h
theorem iU{x y}(h:Yv x=some y):Do.pre x=true:=Ap h
theorem hZ{x y}(h:Yv x=some y):Do.F x=y:=Ao h
theorem DB{x y}(h:Ue x=some y):AD.pre x=true:=Ap h
theorem Dy{x y}(h:Ue x=some y):AD.F x=y:=Ao h
theorem FS{x y}(h:Ys x=some y):AB.pre x=true:=Ap h
theorem FI{x y}(h:Ys x=some y):AB.F x=y:=Ao h
theorem Tj{x y}(h:YB x=some y):Br.pre x=true:=Ap h
theorem S6{x y}(h:YB x=some y):Br.F x=y:=Ao h
theorem aG8{x y}(h:Yt x=some y):QZ.pre x=true:=Ap h
theorem aEZ{x y}(h:Yt x=some y):QZ.F x=y:=Ao h
theorem iP{x y}(h:Q4 x=some y):AE.pre x=true:=Ap h
theorem gW{x y}(h:Q4 x=some y):AE.F x=y:=Ao h
theorem aPZ{x y}(h:TP x=some y):AL.pre x=true:=Ap h
theorem aNn{x y}(h:TP x=some y):AL.F x=y:=Ao h
theorem aP0{x y}(h:W2 x=some y):Ly.pre x=true:=Ap h
theorem aNo{x y}(h:W2 x=some y):Ly.F x=y:=Ao h
theorem aGI{x y}(h:W3 x=some y):Du.pre x=true:=Ap h
theorem aEA{x y}(h:W3 x=some y):Du.F x=y:=Ao h
theorem vV{x y}(h:W4 x=some y):BF.pre x=true:=Ap h
theorem tW{x y}(h:W4 x=some y):BF.F x=y:=Ao h
theorem RL{x y}(h:W1 x=some y):Bb.pre x=true:=Ap h
theorem RF{x y}(h:W1 x=some y):Bb.F x=y:=Ao h
theorem aP4{x y}(h:Xa x=some y):Qk.pre x=true:=Ap h
theorem aNs{x y}(h:Xa x=some y):Qk.F x=y:=Ao h
theorem vR{x y}(h:WU x=some y):EI.pre x=true:=Ap h
theorem tR{x y}(h:WU x=some y):EI.F x=y:=Ao h
theorem CZ{x y}(h:Sc x=some y):Af.pre x=true:=Ap h
theorem CX{x y}(h:Sc x=some y):Af.F x=y:=Ao h
theorem aP3{x y}(h:W9 x=some y):CP.pre x=true:=Ap h
theorem aNr{x y}(h:W9 x=some y):CP.F x=y:=Ao h
theorem VU{x y}(h:R6 x=some y):Bh.pre x=true:=Ap h
theorem UU{x y}(h:R6 x=some y):Bh.F x=y:=Ao h
theorem VX{x y}(h:Xg x=some y):Bx.pre x=true:=Ap h
theorem UW{x y}(h:Xg x=some y):Bx.F x=y:=Ao h
theorem Ti{x y}(h:TS x=some y):Ch.pre x=true:=Ap h
theorem S5{x y}(h:TS x=some y):Ch.F x=y:=Ao h
theorem aP6{x y}(h:Xe x=some y):H2.pre x=true:=Ap h
theorem aNu{x y}(h:Xe x=some y):H2.F x=y:=Ao h
theorem aP5{x y}(h:Xb x=some y):TI.pre x=true:=Ap h
theorem aNt{x y}(h:Xb x=some y):TI.F x=y:=Ao h
theorem aGH{x y}(h:WZ x=some y):Ce.pre x=true:=Ap h
theorem aEz{x y}(h:WZ x=some y):Ce.F x=y:=Ao h
theorem aPX{x y}(h:WY x=some y):Qi.pre x=true:=Ap h
theorem aNl{x y}(h:WY x=some y):Qi.F x=y:=Ao h
theorem aGM{x y}(h:TT x=some y):CQ.pre x=true:=Ap h
theorem aEE{x y}(h:TT x=some y):CQ.F x=y:=Ao h
theorem iV{x y}(h:Yy x=some y):BG.pre x=true:=Ap h
theorem h9{x y}(h:Yy x=some y):BG.F x=y:=Ao h
theorem aP7{x y}(h:Xh x=some y):Qm.pre x=true:=Ap h
theorem aNv{x y}(h:Xh x=some y):Qm.F x=y:=Ao h
theorem iQ{x y}(h:TU x=some y):TN.pre x=true:=Ap h
theorem gX{x y}(h:TU x=some y):TN.F x=y:=Ao h
theorem vY{x y}(h:Sf x=some y):Dv.pre x=true:=Ap h
theorem tZ{x y}(h:Sf x=some y):Dv.F x=y:=Ao h
theorem Z6{x y}(h:JE x=some y):D7.pre x=true:=Ap h
theorem ZA{x y}(h:JE x=some y):D7.F x=y:=Ao h
theorem Z5{x y}(h:Sd x=some y):DP.pre x=true:=Ap h
theorem Zz{x y}(h:Sd x=some y):DP.F x=y:=Ao h
theorem M1{x y}(h:Q5 x=some y):DO.pre x=true:=Ap h
theorem MN{x y}(h:Q5 x=some y):DO.F x=y:=Ao h
theorem VW{x y}(h:Se x=some y):TO.pre x=true:=Ap h
theorem UV{x y}(h:Se x=some y):TO.F x=y:=Ao h
theorem Kc{x y}(h:Sa x=some y):Cx.pre x=true:=Ap h
theorem J5{x y}(h:Sa x=some y):Cx.F x=y:=Ao h
theorem aGK{x y}(h:TR x=some y):H1.pre x=true:=Ap h
theorem aEC{x y}(h:TR x=some y):H1.F x=y:=Ao h
theorem V0{x y}(h:YA x=some y):BY.pre x=true:=Ap h
theorem UZ{x y}(h:YA x=some y):BY.F x=y:=Ao h
theorem aQP{x y}(h:Yh x=some y):JD.pre x=true:=Ap h
theorem aOd{x y}(h:Yh x=some y):JD.F x=y:=Ao h
theorem vX{x y}(h:Xc x=some y):TJ.pre x=true:=Ap h
theorem tY{x y}(h:Xc x=some y):TJ.F x=y:=Ao h
theorem aGL{x y}(h:Xd x=some y):TK.pre x=true:=Ap h
theorem aED{x y}(h:Xd x=some y):TK.F x=y:=Ao h
theorem vS{x y}(h:WW x=some y):EJ.pre x=true:=Ap h
theorem tS{x y}(h:WW x=some y):EJ.F x=y:=Ao h
theorem Ix{x y}(h:R9 x=some y):A3.pre x=true:=Ap h
theorem In{x y}(h:R9 x=some y):A3.F x=y:=Ao h
theorem aQX{x y}(h:Uf x=some y):QY.pre x=true:=Ap h
theorem aOl{x y}(h:Uf x=some y):QY.F x=y:=Ao h
theorem vZ{x y}(h:Xl x=some y):Fy.pre x=true:=Ap h
theorem t0{x y}(h:Xl x=some y):Fy.F x=y:=Ao h
theorem vU{x y}(h:WX x=some y):Dk.pre x=true:=Ap h
theorem tV{x y}(h:WX x=some y):Dk.F x=y:=Ao h
theorem v9{x y}(h:Sl x=some y):DR.pre x=true:=Ap h
theorem uC{x y}(h:Sl x=some y):DR.F x=y:=Ao h
theorem aQa{x y}(h:Xk x=some y):LB.pre x=true:=Ap h
theorem aNy{x y}(h:Xk x=some y):LB.F x=y:=Ao h
theorem iS{x y}(h:T4 x=some y):Qw.pre x=true:=Ap h
theorem gZ{x y}(h:T4 x=some y):Qw.F x=y:=Ao h
theorem aGQ{x y}(h:XA x=some y):Qx.pre x=true:=Ap h
theorem aEI{x y}(h:XA x=some y):Qx.F x=y:=Ao h
theorem aGR{x y}(h:XB x=some y):Qy.pre x=true:=Ap h
theorem aEJ{x y}(h:XB x=some y):Qy.F x=y:=Ao h
theorem aGS{x y}(h:XC x=some y):Qz.pre x=true:=Ap h
theorem aEK{x y}(h:XC x=some y):Qz.F x=y:=Ao h
theorem iR{x y}(h:Xp x=some y):AO.pre x=true:=Ap h
theorem gY{x y}(h:Xp x=some y):AO.F x=y:=Ao h
theorem v3{x y}(h:Xq x=some y):C1.pre x=true:=Ap h
theorem t6{x y}(h:Xq x=some y):C1.F x=y:=Ao h
theorem aQm{x y}(h:XD x=some y):LC.pre x=true:=Ap h
theorem aNK{x y}(h:XD x=some y):LC.F x=y:=Ao h
theorem aQo{x y}(h:T6 x=some y):QA.pre x=true:=Ap h
theorem aNM{x y}(h:T6 x=some y):QA.F x=y:=Ao h
theorem aGT{x y}(h:XE x=some y):QB.pre x=true:=Ap h
theorem aEL{x y}(h:XE x=some y):QB.F x=y:=Ao h
theorem aGU{x y}(h:XF x=some y):QC.pre x=true:=Ap h
theorem aEM{x y}(h:XF x=some y):QC.F x=y:=Ao h
theorem RM{x y}(h:Sg x=some y):Cy.pre x=true:=Ap h
theorem RG{x y}(h:Sg x=some y):Cy.F x=y:=Ao h
theorem vT{x y}(h:R8 x=some y):Dt.pre x=true:=Ap h
theorem tU{x y}(h:R8 x=some y):Dt.F x=y:=Ao h
theorem aGP{x y}(h:Xt x=some y):BB.pre x=true:=Ap h
theorem aEH{x y}(h:Xt x=some y):BB.F x=y:=Ao h
theorem v4{x y}(h:Xu x=some y):AP.pre x=true:=Ap h
theorem t7{x y}(h:Xu x=some y):AP.F x=y:=Ao h
theorem aP1{x y}(h:W5 x=some y):EK.pre x=true:=Ap h
theorem aNp{x y}(h:W5 x=some y):EK.F x=y:=Ao h
theorem Z4{x y}(h:W7 x=some y):Bk.pre x=true:=Ap h
theorem Zy{x y}(h:W7 x=some y):Bk.F x=y:=Ao h
theorem aQh{x y}(h:Xv x=some y):Cp.pre x=true:=V9 h
theorem aNF{x y}(h:Xv x=some y):Cp.F x=y:=V8 h
theorem aQi{x y}(h:Xw x=some y):C2.pre x=true:=V9 h
theorem aNG{x y}(h:Xw x=some y):C2.F x=y:=V8 h
theorem aQj{x y}(h:Xx x=some y):EL.pre x=true:=V9 h
theorem aNH{x y}(h:Xx x=some y):EL.F x=y:=V8 h
theorem aQk{x y}(h:Xy x=some y):Qv.pre x=true:=Ap h
theorem aNI{x y}(h:Xy x=some y):Qv.F x=y:=Ao h
theorem aQl{x y}(h:Xz x=some y):EM.pre x=true:=Ap h
theorem aNJ{x y}(h:Xz x=some y):EM.F x=y:=Ao h
theorem aPY{x y}(h:W0 x=some y):Qj.pre x=true:=Ap h
theorem aNm{x y}(h:W0 x=some y):Qj.F x=y:=Ao h
theorem vW{x y}(h:W8 x=some y):CV.pre x=true:=Ap h
theorem tX{x y}(h:W8 x=some y):CV.F x=y:=Ao h
theorem aQp{x y}(h:XG x=some y):QD.pre x=true:=Ap h
theorem aNN{x y}(h:XG x=some y):QD.F x=y:=Ao h
theorem aQr{x y}(h:XI x=some y):QF.pre x=true:=Ap h
theorem aNP{x y}(h:XI x=some y):QF.F x=y:=Ao h
theorem aQs{x y}(h:XJ x=some y):LD.pre x=true:=Ap h
theorem aNQ{x y}(h:XJ x=some y):LD.F x=y:=Ao h
theorem iT{x y}(h:XN x=some y):Dl.pre x=true:=Ap h
theorem g9{x y}(h:XN x=some y):Dl.F x=y:=Ao h
theorem v0{x y}(h:TY x=some y):Qn.pre x=true:=Ap h
theorem t5{x y}(h:TY x=some y):Qn.F x=y:=Ao h
theorem aQb{x y}(h:Xm x=some y):Qo.pre x=true:=Ap h
theorem aNz{x y}(h:Xm x=some y):Qo.F x=y:=Ao h
theorem aQc{x y}(h:Xn x=some y):Qp.pre x=true:=Ap h
theorem aNA{x y}(h:Xn x=some y):Qp.F x=y:=Ao h
theorem aQd{x y}(h:Xo x=some y):Qq.pre x=true:=Ap h
theorem aNB{x y}(h:Xo x=some y):Qq.F x=y:=Ao h
theorem aGO{x y}(h:TZ x=some y):Qr.pre x=true:=Ap h
theorem aEG{x y}(h:TZ x=some y):Qr.F x=y:=Ao h
theorem aQe{x y}(h:Xr x=some y):Qs.pre x=true:=Ap h
theorem aNC{x y}(h:Xr x=some y):Qs.F x=y:=Ao h
theorem aQv{x y}(h:XO x=some y):LF.pre x=true:=Ap h
theorem aNT{x y}(h:XO x=some y):LF.F x=y:=Ao h
theorem v5{x y}(h:T7 x=some y):QJ.pre x=true:=Ap h
theorem t8{x y}(h:T7 x=some y):QJ.F x=y:=Ao h
theorem VY{x y}(h:XP x=some y):E9.pre x=true:=Ap h
theorem UX{x y}(h:XP x=some y):E9.F x=y:=Ao h
theorem Z8{x y}(h:Ub x=some y):DQ.pre x=true:=Ap h
theorem ZC{x y}(h:Ub x=some y):DQ.F x=y:=Ao h
theorem Z3{x y}(h:H4 x=some y):E8.pre x=true:=Ap h
theorem Zx{x y}(h:H4 x=some y):E8.F x=y:=Ao h
theorem aG9{x y}(h:Ra x=some y):Gm.pre x=true:=Ap h
theorem aE0{x y}(h:Ra x=some y):Gm.F x=y:=Ao h
theorem RK{x y}(h:Fa x=some y):CK.pre x=true:=Ap h
theorem RE{x y}(h:Fa x=some y):CK.F x=y:=Ao h
theorem aQf{x y}(h:Xs x=some y):Qt.pre x=true:=Ap h
theorem aND{x y}(h:Xs x=some y):Qt.F x=y:=Ao h
theorem aQg{x y}(h:T3 x=some y):Qu.pre x=true:=Ap h
theorem aNE{x y}(h:T3 x=some y):Qu.F x=y:=Ao h
theorem vQ{x y}(h:Q2 x=some y):D4.pre x=true:=Ap h
theorem tQ{x y}(h:Q2 x=some y):D4.F x=y:=Ao h
theorem aQn{x y}(h:T5 x=some y):JC.pre x=true:=Ap h
theorem aNL{x y}(h:T5 x=some y):JC.F x=y:=Ao h
theorem aGW{x y}(h:T8 x=some y):QK.pre x=true:=Ap h
theorem aEO{x y}(h:T8 x=some y):QK.F x=y:=Ao h
theorem aGN{x y}(h:Xf x=some y):Ql.pre x=true:=Ap h
theorem aEF{x y}(h:Xf x=some y):Ql.F x=y:=Ao h
theorem aP2{x y}(h:TQ x=some y):GW.pre x=true:=Ap h
theorem aNq{x y}(h:TQ x=some y):GW.F x=y:=Ao h
theorem aPV{x y}(h:R4 x=some y):Qg.pre x=true:=Ap h
theorem aNj{x y}(h:R4 x=some y):Qg.F x=y:=Ao h
theorem aQU{x y}(h:Uc x=some y):GX.pre x=true:=Ap h
theorem aOi{x y}(h:Uc x=some y):GX.F x=y:=Ao h
theorem aPW{x y}(h:WV x=some y):Qh.pre x=true:=Ap h
theorem aNk{x y}(h:WV x=some y):Qh.F x=y:=Ao h
theorem v8{x y}(h:Q9 x=some y):Dn.pre x=true:=Ap h
theorem uB{x y}(h:Q9 x=some y):Dn.F x=y:=Ao h
theorem Z7{x y}(h:Sh x=some y):QL.pre x=true:=Ap h
theorem ZB{x y}(h:Sh x=some y):QL.F x=y:=Ao h
theorem aQw{x y}(h:XR x=some y):QM.pre x=true:=Ap h
theorem aNU{x y}(h:XR x=some y):QM.F x=y:=Ao h
theorem aQx{x y}(h:XS x=some y):LG.pre x=true:=Ap h
theorem aNV{x y}(h:XS x=some y):LG.F x=y:=Ao h
theorem Kd{x y}(h:XT x=some y):D8.pre x=true:=Ap h
theorem J6{x y}(h:XT x=some y):D8.F x=y:=Ao h
theorem aGX{x y}(h:XU x=some y):Gh.pre x=true:=Ap h
theorem aEP{x y}(h:XU x=some y):Gh.F x=y:=Ao h
theorem aGY{x y}(h:XV x=some y):Dm.pre x=true:=Ap h
theorem aEQ{x y}(h:XV x=some y):Dm.F x=y:=Ao h
theorem aQy{x y}(h:XW x=some y):QN.pre x=true:=Ap h
theorem aNW{x y}(h:XW x=some y):QN.F x=y:=Ao h
theorem aQz{x y}(h:XX x=some y):LH.pre x=true:=Ap h
theorem aNX{x y}(h:XX x=some y):LH.F x=y:=Ao h
theorem aGV{x y}(h:XK x=some y):QG.pre x=true:=Ap h
theorem aEN{x y}(h:XK x=some y):QG.F x=y:=Ao h
theorem aQt{x y}(h:XL x=some y):QH.pre x=true:=Ap h
theorem aNR{x y}(h:XL x=some y):QH.F x=y:=Ao h
theorem aQu{x y}(h:XM x=some y):QI.pre x=true:=Ap h
theorem aNS{x y}(h:XM x=some y):QI.F x=y:=Ao h
theorem aQA{x y}(h:XY x=some y):LI.pre x=true:=Ap h
theorem aNY{x y}(h:XY x=some y):LI.F x=y:=Ao h
theorem aQB{x y}(h:XZ x=some y):QO.pre x=true:=Ap h
theorem aNZ{x y}(h:XZ x=some y):QO.F x=y:=Ao h
theorem aQD{x y}(h:X1 x=some y):QQ.pre x=true:=Ap h
theorem aN1{x y}(h:X1 x=some y):QQ.F x=y:=Ao h
theorem aQE{x y}(h:X2 x=some y):LJ.pre x=true:=Ap h
theorem aN2{x y}(h:X2 x=some y):LJ.F x=y:=Ao h
theorem aQF{x y}(h:X3 x=some y):QR.pre x=true:=Ap h
theorem aN3{x y}(h:X3 x=some y):QR.F x=y:=Ao h
theorem aQG{x y}(h:X4 x=some y):LL.pre x=true:=Ap h
theorem aN4{x y}(h:X4 x=some y):LL.F x=y:=Ao h
theorem aGG{x y}(h:R7 x=some y):D5.pre x=true:=Ap h
theorem tT{x y}(h:R7 x=some y):D5.F x=y:=Ao h
theorem M2{x y}(h:Ug x=some y):DG.pre x=true:=Ap h
theorem MO{x y}(h:Ug x=some y):DG.F x=y:=Ao h
theorem Z9{x y}(h:Yn x=some y):Cz.pre x=true:=Ap h
theorem ZD{x y}(h:Yn x=some y):Cz.F x=y:=Ao h
theorem aA{x y}(h:Yo x=some y):CA.pre x=true:=Ap h
theorem ZE{x y}(h:Yo x=some y):CA.F x=y:=Ao h
theorem aQY{x y}(h:Yz x=some y):Q0.pre x=true:=Ap h
theorem aOm{x y}(h:Yz x=some y):Q0.F x=y:=Ao h
theorem aQC{x y}(h:X0 x=some y):QP.pre x=true:=Ap h
theorem aN0{x y}(h:X0 x=some y):QP.F x=y:=Ao h
theorem aQH{x y}(h:X5 x=some y):LM.pre x=true:=Ap h
theorem aN5{x y}(h:X5 x=some y):LM.F x=y:=Ao h
theorem aQq{x y}(h:XH x=some y):QE.pre x=true:=Ap h
theorem aNO{x y}(h:XH x=some y):QE.F x=y:=Ao h
theorem aQI{x y}(h:X6 x=some y):LN.pre x=true:=Ap h
theorem aN6{x y}(h:X6 x=some y):LN.F x=y:=Ao h
theorem aQJ{x y}(h:X7 x=some y):LO.pre x=true:=Ap h
theorem aN7{x y}(h:X7 x=some y):LO.F x=y:=Ao h
theorem aQK{x y}(h:X8 x=some y):QS.pre x=true:=Ap h
theorem aN8{x y}(h:X8 x=some y):QS.F x=y:=Ao h
theorem aQL{x y}(h:X9 x=some y):LP.pre x=true:=Ap h
theorem aN9{x y}(h:X9 x=some y):LP.F x=y:=Ao h
theorem aGZ{x y}(h:Ya x=some y):QT.pre x=true:=Ap h
theorem aER{x y}(h:Ya x=some y):QT.F x=y:=Ao h
theorem aQM{x y}(h:Sj x=some y):QU.pre x=true:=Ap h
theorem aOa{x y}(h:Sj x=some y):QU.F x=y:=Ao h
theorem aG0{x y}(h:Yb x=some y):Gi.pre x=true:=Ap h
theorem aES{x y}(h:Yb x=some y):Gi.F x=y:=Ao h
theorem aQN{x y}(h:Yc x=some y):LQ.pre x=true:=Ap h
theorem aOb{x y}(h:Yc x=some y):LQ.F x=y:=Ao h
theorem aQO{x y}(h:Yd x=some y):LR.pre x=true:=Ap h
theorem aOc{x y}(h:Yd x=some y):LR.F x=y:=Ao h
theorem aG1{x y}(h:Ye x=some y):FA.pre x=true:=Ap h
theorem aET{x y}(h:Ye x=some y):FA.F x=y:=Ao h
theorem aQV{x y}(h:Yp x=some y):QW.pre x=true:=Ap h
theorem aOj{x y}(h:Yp x=some y):QW.F x=y:=Ao h
theorem VZ{x y}(h:Ud x=some y):D9.pre x=true:=Ap h
theorem UY{x y}(h:Ud x=some y):D9.F x=y:=Ao h
theorem aP8{x y}(h:Xi x=some y):Lz.pre x=true:=Ap h
theorem aNw{x y}(h:Xi x=some y):Lz.F x=y:=Ao h
theorem aQW{x y}(h:Yq x=some y):QX.pre x=true:=Ap h
theorem aOk{x y}(h:Yq x=some y):QX.F x=y:=Ao h
theorem aP9{x y}(h:Xj x=some y):LA.pre x=true:=Ap h
theorem aNx{x y}(h:Xj x=some y):LA.F x=y:=Ao h
theorem aG2{x y}(h:Yf x=some y):FB.pre x=true:=Ap h
theorem aEU{x y}(h:Yf x=some y):FB.F x=y:=Ao h
theorem aGJ{x y}(h:W6 x=some y):JB.pre x=true:=Ap h
theorem aEB{x y}(h:W6 x=some y):JB.F x=y:=Ao h
theorem aG3{x y}(h:T9 x=some y):FC.pre x=true:=Ap h
theorem aEV{x y}(h:T9 x=some y):FC.F x=y:=Ao h
theorem aG4{x y}(h:Yg x=some y):FD.pre x=true:=Ap h
theorem aEW{x y}(h:Yg x=some y):FD.F x=y:=Ao h
theorem v6{x y}(h:Ua x=some y):Gj.pre x=true:=Ap h
theorem t9{x y}(h:Ua x=some y):Gj.F x=y:=Ao h
theorem aG5{x y}(h:Sk x=some y):Dx.pre x=true:=Ap h
theorem aEX{x y}(h:Sk x=some y):Dx.F x=y:=Ao h
theorem aG6{x y}(h:Q7 x=some y):LS.pre x=true:=Ap h
theorem hJ{x y}(h:Q7 x=some y):LS.F x=y:=Ao h
theorem aQQ{x y}(h:Yi x=some y):QV.pre x=true:=Ap h
theorem aOe{x y}(h:Yi x=some y):QV.F x=y:=Ao h
theorem v7{x y}(h:Q8 x=some y):CR.pre x=true:=Ap h
theorem uA{x y}(h:Q8 x=some y):CR.F x=y:=Ao h
theorem aQR{x y}(h:Yj x=some y):EN.pre x=true:=Ap h
theorem aOf{x y}(h:Yj x=some y):EN.F x=y:=Ao h
theorem aQS{x y}(h:Yk x=some y):EO.pre x=true:=V9 h
theorem aOg{x y}(h:Yk x=some y):EO.F x=y:=V8 h
theorem aQT{x y}(h:Yl x=some y):EP.pre x=true:=V9 h
theorem aOh{x y}(h:Yl x=some y):EP.F x=y:=V8 h
theorem aG7{x y}(h:Ym x=some y):EQ.pre x=true:=V9 h
theorem aEY{x y}(h:Ym x=some y):EQ.F x=y:=V8 h
end Vx
namespace Vx
open Go
theorem aHL{a:Int}(n:Nat)(hn:n<=64):AJ .u64 a (n:Int)=a/2^n:=by
 unfold AJ;rw[Int.fdiv_eq_ediv_of_nonneg]
 ·congr 2;simp[jk];omega
 ·exact Int.pow_nonneg (by omega)
theorem Hg{m:Nat}(h:m<2^64):(bv 64 (m:Int)).toNat=m:=by
 rw[BitVec.toNat_ofInt];omega
theorem UI{m n:Nat}(h:m<2^64)(hn:n<=64):A9 .u64 (m:Int) ((2^n-1:Nat):Int)=((m%2^n:Nat):Int):=by
 have h2:2^n<=2^64:=ae (by omega) hn;have h3:0<2^n:=ag n;have hlt:m%2^n<2^n:=bo _ h3;have key:(bv 64 (m:Int) &&& bv 64 ((2^n-1:Nat):Int)).toNat=m%2^n:=by
  rw[mi,Hg h,Hg (by omega),Nat.and_two_pow_sub_one_eq_mod]
 show IntKind.u64.wrap (((bv 64 (m:Int) &&& bv 64 ((2^n-1:Nat):Int)).toNat:Nat):Int)=_;rw[key];exact IntWalk.u64_in _ (by omega)
theorem M9{n:Nat}(hn:n<=63):AQ .u64 1 (n:Int)=((2^n:Nat):Int):=by
 have h2:2^n<=2^63:=ae (by omega) hn;have:(min (n:Int).toNat IntKind.u64.bits)=n:=by simp[jk];omega
 unfold AQ;rw[this,Int.one_mul];have e:(2:Int)^n=((2^n:Nat):Int):=by simp
 rw[e];refine IntWalk.u64_in _ ⟨ox _,?_⟩;have:((2^n:Nat):Int)<=((2^63:Nat):Int):=Int.ofNat_le.2 h2;exact Int.le_trans this (by decide)
theorem aDe{m n:Nat}(hn:n<=63)(h:m<2^(n+1)):JW .u64 (m:Int) ((2^n:Nat):Int)=((m%2^n:Nat):Int):=by
 have h1:2^(n+1)<=2^64:=ae (by omega) (by omega);have h2:2^n<2^64:=du (by omega) (by omega);have hlt:m%2^n<2^n:=bo _ (ag n);have key:(bv 64 (m:Int) &&& ~~~(bv 64 ((2^n:Nat):Int))).toNat=m%2^n:=by
  apply jq;intro i;rw[mi,Nat.testBit_and,Hg (by omega),Nat.testBit_mod_two_pow];have e:(~~~(bv 64 ((2^n:Nat):Int))).toNat.testBit i=(decide (i<64)&&!decide (n=i)):=by
   rw[←qj,BitVec.getLsbD_not,qj,Hg h2,jz]
  rw[e];rcases Nat.lt_trichotomy i n with hi|hi|hi
  ·have:i<64:=by omega
   have hne:¬n=i:=by omega
   simp[this,hne,hi]
  ·subst hi;simp
  ·have hz:m.testBit i=false:=lu (ah h (ae (by omega) (by omega)));simp[hz]
 show IntKind.u64.wrap (((bv 64 (m:Int) &&& ~~~(bv 64 ((2^n:Nat):Int))).toNat:Nat):Int)=_;rw[key];exact IntWalk.u64_in _ (by omega)
end Vx
namespace VL
open Go Vx
def Fm(f:Int):Prop:=0<=f/\f<4
instance (f:Int):Decidable (Fm f):=by unfold Fm;infer_instance
def fW(f:Int):Nat:=if f=0 then 16 else if f=1 then 16 else if f=2 then 32 else 64
def fP(f:Int):Nat:=if f=0 then 11 else if f=1 then 8 else if f=2 then 24 else 53
def fX(f:Int):Nat:=if f=0 then 15 else if f=1 then 127 else if f=2 then 127 else 1023
def Bt(f:Int):Aa rowsSh:=((fW f:Int),((fP f:Int),((1-(fX f:Int)),((fX f:Int),()))))
theorem Ds{f:Int}(h:Fm f):f=0∨f=1∨f=2∨f=3:=by
 obtain⟨h1,h2⟩:=h;omega
theorem i6{f:Int}(h:Fm f)(d:Aa rowsSh):k_rows.getD (aj f) d=Bt f:=by
 rcases Ds h with rfl|rfl|rfl|rfl<;>rfl
theorem DJ{f:Int}(h:Fm f):8<=fP f:=by
 rcases Ds h with rfl|rfl|rfl|rfl<;>decide
theorem EX{f:Int}(h:Fm f):fP f+5<=fW f:=by
 rcases Ds h with rfl|rfl|rfl|rfl<;>decide
theorem Eg{f:Int}(h:Fm f):fW f<=64:=by
 rcases Ds h with rfl|rfl|rfl|rfl<;>decide
theorem Ik{f:Int}(h:Fm f):fX f<=1023:=by
 rcases Ds h with rfl|rfl|rfl|rfl<;>decide
theorem aD8{f:Int}(h:Fm f):2*fX f+1=2^(fW f-fP f)-1:=by
 rcases Ds h with rfl|rfl|rfl|rfl<;>decide
theorem As{n:Int}(h:-9223372036854775808<=n/\n<9223372036854775808):aa .i64 n=n:=IntWalk.i64_in n ⟨h.1,by omega⟩
theorem El{n:Int}(h:0<=n/\n<18446744073709551616):aa .u64 n=n:=IntWalk.u64_in n ⟨h.1,by omega⟩
theorem DD(a n:Nat)(hn:n<=64):AJ .u64 (a:Int) (n:Int)=((a/2^n:Nat):Int):=by
 rw[aHL n hn];simp
theorem EA(m n:Nat)(h:n<=m)(hm:m<=4611686018427387904):aa .i64 ((m:Int)-(n:Int))=((m-n:Nat):Int):=by
 rw[As (by omega)];omega
theorem Is(m n:Nat):((m:Int)==(n:Int))=(m==n):=by
 rw[cu];simp only[beq_iff_eq];omega
theorem FM(m:Nat):((m:Int)==0)=(m==0):=Is m 0
theorem aGh(m n:Nat):((m:Int)!=(n:Int))=(m !=n):=by
 show(!((m:Int)==(n:Int)))=!(m==n);rw[Is]
theorem VK(m:Nat):((m:Int)!=0)=(m !=0):=aGh m 0
theorem u9(m n:Nat):(decide ((m:Int)<(n:Int)))=decide (m<n):=by
 rw[cu];simp
theorem AV(m:Nat):(decide (0<=(m:Int)))=true:=by simp
def Am(f:Int)(a:Nat):Int:=if Fm f then(if a<2^fW f then 0 else 4)else 2
def eF(f:Int)(a:Nat):Nat:=a/2^(fP f-1)%2^(fW f-fP f)
def mF(f:Int)(a:Nat):Nat:=a%2^(fP f-1)
def sF(f:Int)(a:Nat):Bool:=a/2^(fW f-1)!=0
def BI(f:Int):Nat:=2^(fW f-fP f)-1
def By(f:Int)(a:Nat):Nat:=a%2^(fW f-1)
theorem FE{f:Int}(h:Fm f):Sn (f,())=some (Bt f,0,()):=by
 rcases Ds h with rfl|rfl|rfl|rfl<;>kernel_rfl
theorem GZ{f:Int}(h:¬Fm f):Sn (f,())=some ((0,0,0,0,()),2,()):=by
 show nJ f=_;unfold nJ;have:(decide (f<(0:Int))||decide (f>=(4:Int)))=true:=by
  simp only[Fm]at h;simp only[dl,decide_eq_true_eq];omega
 rw[this];rfl
theorem aMl{f:Int}(h:¬Fm f)(a:Nat):Am f a=2:=by unfold Am;rw[if_neg h]
theorem aDC{f:Int}(h:Fm f){a:Nat}(ha:a<2^fW f):Am f a=0:=by unfold Am;rw[if_pos h,if_pos ha]
theorem aMm{f:Int}(h:Fm f){a:Nat}(ha:¬a<2^fW f):Am f a=4:=by unfold Am;rw[if_pos h,if_neg ha]
theorem CT{f:Int}{a:Nat}(h:Am f a=0):Fm f/\a<2^fW f:=by
 unfold Am at h;split at h
 ·split at h
  ·exact⟨by assumption,by assumption⟩
  ·cases h
 ·cases h
theorem gJ{a n:Nat}:(a/2^n !=0)=decide (2^n<=a):=by
 rw[cu];simp[Nat.div_eq_zero_iff,ag]
theorem En(f:Int)(a:Nat)(ha:a<2^64):Yr (f,(a:Int),())=some (Am f a,()):=by
 show nI Aq.pre Aq.F f a=_;unfold nI;by_cases hf:Fm f
 ·simp only[Dd (FE hf),C9 (FE hf),cond_true,Bt,AV,be];rw[DD _ _ (Eg hf),VK,gJ];show(bif decide ((fW f:Int)<((64:Nat):Int))&&_ then _ else _)=_;rw[u9];have hw:=Eg hf;by_cases h:a<2^fW f
  ·have:(decide (fW f<64)&&decide (2^fW f<=a))=false:=by simp;intro _;exact h
   rw[this,aDC hf h];rfl
  ·have:(decide (fW f<64)&&decide (2^fW f<=a))=true:=by
    simp only[ai,decide_eq_true_eq];refine⟨?_,by omega⟩;rcases au (fW f) 64 with h1|h1
    ·exact h1
    ·have:fW f=64:=by omega
     rw[this]at h;omega
   rw[this,aMm hf h];rfl
 ·simp only[Dd (GZ hf),C9 (GZ hf),cond_true,aMl hf];rfl
theorem Yx(n:Nat)(hn:n<=63):Yw ((n:Int),())=some (((2^n-1:Nat):Int),()):=by
 show nM n=_;unfold nM;have h2:2^n<=2^63:=ae (by omega) hn;have h1:0<2^n:=ag n;rw[AV,cond_true,M9 hn];generalize 2^n=c at *
 rw[El (by omega)];have:(c:Int)-1=((c-1:Nat):Int):=by omega
 rw[this]
theorem dJ{f:Int}(hf:Fm f)(a:Nat)(ha:a<2^64):Yv (Bt f,(a:Int),())=some (sF f a,(eF f a:Int),(mF f a:Int),()):=by
 show nL Bq.pre Bq.F (Bt f) a=_;unfold nL;have h1:=DJ hf;have h2:=EX hf;have h3:=Eg hf;have e1:aa .i64 ((Bt f).1-1)=((fW f-1:Nat):Int):=EA (fW f) 1 (by omega) (by omega);have e2:aa .i64 ((Bt f).2.1-1)=((fP f-1:Nat):Int):=EA (fP f) 1 (by omega) (by omega);have e3:aa .i64 ((Bt f).1-(Bt f).2.1)=((fW f-fP f:Nat):Int):=EA (fW f) (fP f) (by omega) (by omega);have p1:=Yx (fW f-fP f) (by omega);have p2:=Yx (fP f-1) (by omega);rw[e1,e2,e3];simp only[AV,cond_true,aB p1,aB p2,ZF p1,ZF p2];rw[DD _ _ (by omega),DD _ _ (by omega),UI (av (Nat.div_le_self _ _) ha) (by omega),UI ha (by omega),VK];rfl
def Av(f:Int)(a:Nat):Int:=bif eF f a==BI f&&mF f a==0 then(bif sF f a then 2 else 9)else bif eF f a==BI f&&mF f a/2^(fP f-2)!=0 then 1 else bif eF f a==BI f then 0 else bif eF f a==0&&mF f a==0 then(bif sF f a then 5 else 6)else bif eF f a==0 then(bif sF f a then 4 else 7)else(bif sF f a then 3 else 8)
theorem Gn{f:Int}{a:Nat}(ha:a<2^64)(h:Am f a=0):Ue (f,(a:Int),())=some (Av f a,0,()):=by
 obtain⟨hf,h0⟩:=CT h;show Wl Ar.pre Ar.F Do.pre Do.F Bq.pre Bq.F f a=_;unfold Wl;have h1:=DJ hf;have h2:=EX hf;have h3:=Eg hf;have e3:aa .i64 ((Bt f).1-(Bt f).2.1)=((fW f-fP f:Nat):Int):=EA (fW f) (fP f) (by omega) (by omega);have e4:aa .i64 ((Bt f).2.1-2)=((fP f-2:Nat):Int):=EA (fP f) 2 (by omega) (by omega);have p0:=En f a ha;have p1:=Yx (fW f-fP f) (by omega);have p2:=dJ hf a ha;have hr:(decide (0<=f)&&decide (f<((4:Nat):Int)))=true:=by
  simp only[ai,decide_eq_true_eq];exact hf
 simp only[i6 hf,e3,e4,hr,DC p0,Dz p0,aB p1,ZF p1,iU p2,hZ p2,h,cond_true,AV,be,bne_self_eq_false,cond_false];rw[DD _ _ (by omega),Is,FM,FM,VK];unfold Av BI;generalize(eF f a==2^(fW f-fP f)-1)=b1;generalize(mF f a==0)=b2;generalize(mF f a/2^(fP f-2)!=0)=b3;generalize(eF f a==0)=b4;generalize sF f a=b5;cases b1<;>cases b2<;>cases b3<;>cases b4<;>cases b5<;>rfl
theorem Sm{f:Int}{a:Nat}(ha:a<2^64)(h:Am f a≠0):Ue (f,(a:Int),())=some (0,Am f a,()):=by
 show Wl Ar.pre Ar.F Do.pre Do.F Bq.pre Bq.F f a=_;unfold Wl;have p0:=En f a ha;have:(Am f a !=0)=true:=by simpa using h
 simp only[DC p0,Dz p0,this,cond_true]
theorem pC{f:Int}(hf:Fm f):WX (f,())=some (((2^(fW f-1):Nat):Int),()):=by
 rcases Ds hf with rfl|rfl|rfl|rfl<;>kernel_rfl
theorem zB{f:Int}{a:Nat}(ha:a<2^64)(h:Am f a=0):R7 (f,(a:Int),())=some ((By f a:Int),0,()):=by
 obtain⟨hf,h0⟩:=CT h;show Wa Ar.pre Ar.F Dk.pre Dk.F f a=_;unfold Wa;have h2:=EX hf;have h3:=Eg hf;have p0:=En f a ha;have p1:=pC hf;simp only[DC p0,Dz p0,vU p1,tV p1,h,cond_true,bne_self_eq_false,cond_false];rw[aDe (by omega) (by rw[oy (by omega)];exact h0)];rfl
def At(f:Int)(a:Nat):Int:=bif sF f a then -(By f a:Int)else By f a
theorem aLO(f:Int)(hf:Fm f)(a:Nat):By f a<2^63:=by
 have h3:=Eg hf;exact ah (bo _ (ag _)) (ae (by omega) (by omega))
theorem aLP{f:Int}(a:Nat):((By f a:Int)!=(a:Int))=sF f a:=by
 rw[aGh];unfold By sF;rw[gJ,cu];simp only[bne_iff_ne,ne_eq,decide_eq_true_eq];constructor
 ·intro h;rcases au a (2^(fW f-1))with h1|h1
  ·exact absurd (ar h1) h
  ·exact h1
 ·intro h h1;have:=bo a (ag (fW f-1));omega
theorem Yu{f:Int}{a:Nat}(ha:a<2^64)(h:Am f a=0):Ug (f,(a:Int),())=some ((Av f a,At f a,()),0,()):=by
 show Wm AD.pre AD.F D5.pre D5.F f a=_;unfold Wm;have hl:=aLO f (CT h).1 a;have p0:=Gn ha h;have p1:=zB ha h;simp only[DB p0,Dy p0,aGG p1,tT p1,cond_true,bne_self_eq_false,cond_false,aLP];rw[As (n:=(By f a:Int)) (by omega),As (by omega)];unfold At;cases sF f a
 ·rfl
 ·simp
theorem dI{f:Int}{a:Nat}(ha:a<2^64)(h:Am f a≠0):Ug (f,(a:Int),())=some ((0,0,()),Am f a,()):=by
 show Wm AD.pre AD.F D5.pre D5.F f a=_;unfold Wm;have p0:=Sm ha h;have:(Am f a !=0)=true:=by simpa using h
 simp only[DB p0,Dy p0,this,cond_true]
def Ee(f:Int)(a b:Nat):Int:=if Am f a=0 then Am f b else Am f a
theorem pO{f:Int}{a b:Nat}(ha:a<2^64)(hb:b<2^64)(h:Am f a=0)(h':Am f b=0):Ud (f,(a:Int),(b:Int),())=some ((Av f a,At f a,()),(Av f b,At f b,()),0,()):=by
 show Wj DG.pre DG.F f a b=_;unfold Wj;have p0:=Yu ha h;have p1:=Yu hb h';simp only[M2 p0,MO p0,M2 p1,MO p1,cond_true,bne_self_eq_false,cond_false]
theorem pN{f:Int}{a b:Nat}(ha:a<2^64)(hb:b<2^64)(h:Ee f a b≠0):∃x y,Ud (f,(a:Int),(b:Int),())=some (x,y,Ee f a b,()):=by
 show ∃x y,Wj DG.pre DG.F f a b=_;unfold Wj;unfold Ee at h⊢;split at h
 ·rename_i h0;have p0:=Yu ha h0;have p1:=dI hb h;refine⟨(Av f a,At f a,()),(0,0,()),?_⟩;simp only[M2 p0,MO p0,M2 p1,MO p1,cond_true,bne_self_eq_false,cond_false,if_pos h0]
 ·rename_i h0;have p0:=dI ha h0;have:(Am f a !=0)=true:=by simpa using h
  refine⟨(0,0,()),(0,0,()),?_⟩;simp only[M2 p0,MO p0,cond_true,this,if_neg h0]
def nan(f:Int)(a:Nat):Bool:=eF f a==BI f&&mF f a !=0
def AG(f:Int)(a:Nat):Bool:=nan f a&&mF f a/2^(fP f-2)==0
theorem Hb(f:Int)(a:Nat):(Av f a==1||Av f a==0)=nan f a:=by
 unfold Av nan;simp only[bne];cases eF f a==BI f<;>cases mF f a==0<;>cases sF f a<;>cases eF f a==0<;>cases mF f a/2^(fP f-2)==0<;>rfl
theorem Fc(f:Int)(a:Nat):(Av f a==0)=AG f a:=by
 unfold Av AG nan;simp only[bne];cases eF f a==BI f<;>cases hm:mF f a==0<;>cases sF f a<;>cases eF f a==0<;>cases mF f a/2^(fP f-2)==0<;>rfl
def EV(f:Int)(a b:Nat)(signal:Bool):Int×Int×Int×Unit:=if Ee f a b≠0 then(0,0,Ee f a b,())else bif nan f a||nan f b then(3,(bif signal then 1 else bif AG f a||AG f b then 1 else 0),0,())else if At f a<At f b then(0,0,0,())else if At f a>At f b then(2,0,0,())else(1,0,0,())
theorem sR{f:Int}{a b:Nat}(h:Ee f a b=0):Am f a=0/\Am f b=0:=by
 unfold Ee at h;split at h
 ·exact⟨by assumption,h⟩
 ·exact absurd h (by assumption)
theorem LW(x:Aa (.pair (.int .i64) (.pair (.int .i64) .unit))):Yn (x,())=some ((x.1==1||x.1==0),()):=rfl
theorem LX(x y:Aa (.pair (.int .i64) (.pair (.int .i64) .unit))):Yo (x,y,())=some ((bif x.1==0||y.1==0 then 1 else 0),()):=by
 show nH x y=_;unfold nH;cases(x.1==(0:Int)||y.1==(0:Int))<;>rfl
theorem zK{f:Int}{a b:Nat}(ha:a<2^64)(hb:b<2^64)(s:Bool):W6 (f,(a:Int),(b:Int),s,())=some (EV f a b s):=by
 show j2 D9.pre D9.F Cz.pre Cz.F CA.pre CA.F f a b s=_;unfold j2 EV;by_cases h:Ee f a b=0
 ·obtain⟨h1,h2⟩:=sR h;have p0:=pO ha hb h1 h2;simp only[VZ p0,UY p0,Z9 (LW _),ZD (LW _),aA (LX _ _),ZE (LX _ _),cond_true,bne_self_eq_false,cond_false,Hb,be,h,ne_eq,not_true_eq_false,if_false,gt_iff_lt];simp only[Fc];cases nan f a||nan f b<;>cases s<;>by_cases hlt:At f a<At f b<;>by_cases hgt:At f b<At f a<;>simp[hlt,hgt]
 ·obtain⟨x,y,p0⟩:=pN ha hb h;have:(Ee f a b !=0)=true:=by simpa using h
  simp only[VZ p0,UY p0,cond_true,this,if_pos (show Ee f a b≠0 from h)]
end VL
namespace VL
open Go Vx
theorem jC{f:Int}{a:Nat}(h:nan f a=false):AG f a=false:=by
 unfold AG;rw[h];rfl
end VL
namespace VL
open Go Vx
theorem aPU{f:Int}(hf:Fm f):2^(fW f-1)=2^(fP f-1)*2^(fW f-fP f):=by
 have h1:=DJ hf;have h2:=EX hf;rw[←ap];congr 1;omega
theorem Y4{f:Int}(hf:Fm f)(a:Nat):By f a=mF f a+2^(fP f-1)*eF f a:=by
 unfold By mF eF;rw[aPU hf,Nat.mod_mul]
theorem iN{f:Int}{a:Nat}(h:Am f a=0):a=By f a+(bif sF f a then 2^(fW f-1)else 0):=by
 obtain⟨hf,h0⟩:=CT h;have h2:=EX hf;have e:2^fW f=2*2^(fW f-1):=by rw[←kw];congr 1;omega
 unfold By sF;rw[gJ];by_cases hc:2^(fW f-1)<=a
 ·rw[decide_eq_true hc];simp only[cond_true];have:a%2^(fW f-1)=a-2^(fW f-1):=by
   rw[Nat.mod_eq_sub_mod hc,ar (by omega)]
  omega
 ·rw[decide_eq_false hc];simp only[cond_false];rw[ar (by omega)];rfl
theorem fO{f:Int}(a:Nat):By f a<2^(fW f-1):=bo _ (ag _)
theorem RD{f:Int}(hf:Fm f):0<BI f:=by
 rcases Ds hf with rfl|rfl|rfl|rfl<;>decide
theorem xP{f:Int}(hf:Fm f)(a:Nat):By f a=0↔eF f a=0/\mF f a=0:=by
 rw[Y4 hf];have:=ag (fP f-1);constructor
 ·intro h;have h1:2^(fP f-1)*eF f a=0:=by omega
  rcases Nat.mul_eq_zero.1 h1 with h2|h2
  ·omega
  ·exact⟨h2,by omega⟩
 ·rintro ⟨h1,h2⟩;rw[h1,h2];rfl
theorem aMv{f:Int}(hf:Fm f){a:Nat}(h:By f a=0):Av f a=bif sF f a then 5 else 6:=by
 obtain⟨h1,h2⟩:=(xP hf a).1 h;have h3:=RD hf;unfold Av;have e1:(eF f a==BI f)=false:=by rw[h1];simp;omega
 have e2:(eF f a==0)=true:=by rw[h1];rfl
 have e3:(mF f a==0)=true:=by rw[h2];rfl
 rw[e1,e2,e3];rfl
theorem aDG{f:Int}(hf:Fm f){a:Nat}{c:Int}(hc:c=5∨c=6)(h:Av f a=c):By f a=0:=by
 rw[xP hf];unfold Av at h;cases e1:eF f a==BI f<;>cases e2:eF f a==0<;>cases e3:mF f a==0<;>cases e4:sF f a<;>cases e5:mF f a/2^(fP f-2)!=0<;>
  simp[e1,e2,e3,e4,e5]at h<;>first|(exfalso;omega)|(exact⟨by simpa using e2,by simpa using e3⟩)
def CC(f:Int):Nat:=2^(fW f-1)-2^(fP f-2)
def xN(f:Int)(neg:Bool):Nat:=bif neg then 2^(fW f-1)else 0
theorem Eo{f:Int}(hf:Fm f):Ys (f,())=some ((CC f:Int),0,()):=by
 rcases Ds hf with rfl|rfl|rfl|rfl<;>kernel_rfl
def vP(f:Int)(a b:Nat)(g:Bool):Nat:=if At f a=At f b/\a≠b then xN f (!g)else if(At f b<At f a/\g=false)∨(At f a<At f b/\g=true)then b else a
theorem aPS{f:Int}{a b:Nat}(h1:Am f a=0)(h2:Am f b=0)(hp:At f a=At f b)(hne:a≠b):By f a=0/\By f b=0/\sF f a=!sF f b:=by
 have ea:=iN h1;have eb:=iN h2;unfold At at hp;cases hs:sF f a<;>cases hs':sF f b<;>rw[hs]at ea hp<;>rw[hs']at eb hp<;>simp only[cond_true,cond_false]at ea eb hp
 ·omega
 ·exact⟨by omega,by omega,rfl⟩
 ·exact⟨by omega,by omega,rfl⟩
 ·omega
theorem aIC{f:Int}{a:Nat}(h:Am f a=0)(hz:By f a=0):a=xN f (sF f a):=by
 have:=iN h;unfold xN;rw[hz]at this;omega
theorem aDF{f:Int}{a b:Nat}(h1:Am f a=0)(h2:Am f b=0)(g:Bool):
  (bif(bif g then decide (At f a<At f b)else decide (At f b<At f a))||(At f a==0&&Av f b==(bif g then 6 else 5))then b else a)=vP f a b g:=by
 have hf:=(CT h1).1;unfold vP;by_cases hab:a=b
 ·subst hab;have:¬((At f a<At f a/\g=false)∨(At f a<At f a/\g=true)):=by omega
  simp only[ne_eq,not_true_eq_false,and_false,if_false,if_neg this];cases((bif g then decide (At f a<At f a)else decide (At f a<At f a))||(At f a==0&&Av f a==(bif g then 6 else 5)))<;>rfl
 ·rcases Int.lt_trichotomy (At f a) (At f b)with hlt|heq|hgt
  ·have n0:¬(At f a=At f b/\a≠b):=by omega
   rw[if_neg n0];cases g
   ·have n1:¬((At f b<At f a/\false=false)∨(At f a<At f b/\false=true)):=by simp;omega
    have n2:¬At f b<At f a:=by omega
    rw[if_neg n1];simp only[cond_false,decide_eq_false n2,bp];cases e1:At f a==0<;>cases e2:Av f b==5
    ·rfl
    ·rfl
    ·rfl
    ·exfalso;have z:=aDG hf (.inl rfl) (by simpa using e2);have e3:At f a=0:=by simpa using e1
     have:At f b=0:=by unfold At;rw[z];cases sF f b<;>rfl
     omega
   ·rw[if_pos (.inr ⟨hlt,rfl⟩)];simp only[cond_true,decide_eq_true hlt,be]
  ·obtain⟨z1,z2,z3⟩:=aPS h1 h2 heq hab;rw[if_pos ⟨heq,hab⟩];have e0:At f a=0:=by unfold At;rw[z1];cases sF f a<;>rfl
   have c2:=aMv hf z2;have za:=aIC h1 z1;have zb:=aIC h2 z2;have e1:(At f a==0)=true:=by simpa using e0
   have e2:At f b=0:=heq▸e0;have n3:((bif g then decide (At f a<At f b)else decide (At f b<At f a)))=false:=by
    cases g<;>simp[e0,e2]
   rw[n3,e1,c2];cases g<;>cases hs:sF f b<;>rw[hs]at z3 zb<;>rw[z3]at za<;>first|exact za|exact zb
  ·have n0:¬(At f a=At f b/\a≠b):=by omega
   rw[if_neg n0];cases g
   ·rw[if_pos (.inl ⟨hgt,rfl⟩)];simp only[cond_false,decide_eq_true hgt,be,cond_true]
   ·have n1:¬((At f b<At f a/\true=false)∨(At f a<At f b/\true=true)):=by simp;omega
    have n2:¬At f a<At f b:=by omega
    rw[if_neg n1];simp only[cond_true,decide_eq_false n2,bp];cases e1:At f a==0<;>cases e2:Av f b==6
    ·rfl
    ·rfl
    ·rfl
    ·exfalso;have z:=aDG hf (.inr rfl) (by simpa using e2);have e3:At f a=0:=by simpa using e1
     have:At f b=0:=by unfold At;rw[z];cases sF f b<;>rfl
     omega
def RA(f:Int)(a b:Nat):Int:=bif AG f a||AG f b then 1 else 0
def Kb(f:Int)(a b:Nat)(g:Bool):Int×Int×Int×Unit:=if Ee f a b≠0 then(0,0,Ee f a b,())else bif nan f a&&nan f b then((CC f:Int),RA f a b,0,())else bif nan f a then((b:Int),RA f a b,0,())else bif nan f b then((a:Int),RA f a b,0,())else((vP f a b g:Int),0,0,())
theorem aEl{f:Int}{a b:Nat}(h1:nan f a=false)(h2:nan f b=false):RA f a b=0:=by
 unfold RA;rw[jC h1,jC h2];rfl
theorem aAp(x y:Int):Yp (x,y,())=some (decide (y<x),()):=rfl
theorem aAq(x y:Int):Yq (x,y,())=some (decide (y>x),()):=rfl
theorem aKo{f:Int}{a b:Nat}(ha:a<2^64)(hb:b<2^64):Xi (f,(a:Int),(b:Int),())=some (Kb f a b false):=by
 show kR QW.pre QW.F D9.pre D9.F CA.pre CA.F AB.pre AB.F Cz.pre Cz.F f a b=_;unfold kR Kb;by_cases h:Ee f a b=0
 ·obtain⟨h1,h2⟩:=sR h;have hf:=(CT h1).1;have p0:=pO ha hb h1 h2;have key:=aDF h1 h2 false;simp only[VZ p0,UY p0,Z9 (LW _),ZD (LW _),aA (LX _ _),ZE (LX _ _),aQV (aAp _ _),aOj (aAp _ _),FS (Eo hf),FI (Eo hf),
   cond_true,bne_self_eq_false,cond_false,Hb,be,h,ne_eq,not_true_eq_false,if_false]
  simp only[Fc];have fl:(bif AG f a||AG f b then(1:Int)else 0)=RA f a b:=rfl;simp only[fl];cases n1:nan f a<;>cases n2:nan f b<;>simp only[bg,bd,be,bp,bh,az,bw,bm,br,ci,cond_true,cond_false];rw[aEl n1 n2,←key];simp only[cond_false];cases(decide (At f b<At f a)||(At f a==0&&Av f b==5))<;>rfl
 ·obtain⟨x,y,p0⟩:=pN ha hb h;have:(Ee f a b !=0)=true:=by simpa using h
  simp only[VZ p0,UY p0,cond_true,this,if_pos (show Ee f a b≠0 from h)]
theorem aKp{f:Int}{a b:Nat}(ha:a<2^64)(hb:b<2^64):Xj (f,(a:Int),(b:Int),())=some (Kb f a b true):=by
 show kS QX.pre QX.F D9.pre D9.F CA.pre CA.F AB.pre AB.F Cz.pre Cz.F f a b=_;unfold kS Kb;by_cases h:Ee f a b=0
 ·obtain⟨h1,h2⟩:=sR h;have hf:=(CT h1).1;have p0:=pO ha hb h1 h2;have key:=aDF h1 h2 true;simp only[VZ p0,UY p0,Z9 (LW _),ZD (LW _),aA (LX _ _),ZE (LX _ _),aQW (aAq _ _),aOk (aAq _ _),FS (Eo hf),FI (Eo hf),
   cond_true,bne_self_eq_false,cond_false,Hb,be,h,ne_eq,not_true_eq_false,if_false]
  simp only[Fc];have fl:(bif AG f a||AG f b then(1:Int)else 0)=RA f a b:=rfl;simp only[fl];cases n1:nan f a<;>cases n2:nan f b<;>simp only[bg,bd,be,bp,bh,az,bw,bm,br,ci,cond_true,cond_false];rw[aEl n1 n2,←key];simp only[cond_true,gt_iff_lt];cases(decide (At f a<At f b)||(At f a==0&&Av f b==6))<;>rfl
 ·obtain⟨x,y,p0⟩:=pN ha hb h;have:(Ee f a b !=0)=true:=by simpa using h
  simp only[VZ p0,UY p0,cond_true,this,if_pos (show Ee f a b≠0 from h)]
end VL
namespace VL
open Go Vx
theorem aGt(k:Nat):Nat.testBit 1 k=decide (k=0):=by
 rw[cu];simp[Nat.testBit_one_eq_true_iff_self_eq_zero]
theorem aVS{m n:Nat}(h:m<2^(n+1)):m ^^^ 2^n=if m<2^n then m+2^n else m-2^n:=by
 apply jq;intro i;rw[Nat.testBit_xor,jz];have h2:2^(n+1)=2*2^n:=kw;split
 ·rename_i hm;have:m+2^n=2^n*1+m:=by omega
  rw[this,jg _ hm];by_cases hi:i<n
  ·have:¬n=i:=by omega
   simp[hi,this]
  ·rw[if_neg hi,lu (ah hm (ae (by omega) (by omega)))];rw[aGt];by_cases hn:n=i
   ·subst hn;simp
   ·have:¬i-n=0:=by omega
    simp[hn,this]
 ·rename_i hm;have e:m=2^n*1+(m-2^n):=by omega
  have hr:m-2^n<2^n:=by omega
  rw[e,jg _ hr];have e2:2^n*1+(m-2^n)-2^n=m-2^n:=by omega
  rw[e2];by_cases hi:i<n
  ·have:¬n=i:=by omega
   simp[hi,this]
  ·rw[if_neg hi,lu (x:=m-2^n) (ah hr (ae (by omega) (by omega))),aGt];by_cases hn:n=i
   ·subst hn;simp
   ·have:¬i-n=0:=by omega
    simp[hn,this]
theorem aVR{m n:Nat}(hn:n<=63)(h:m<2^(n+1)):n7 .u64 (m:Int) ((2^n:Nat):Int)=((if m<2^n then m+2^n else m-2^n:Nat):Int):=by
 have h1:2^(n+1)<=2^64:=ae (by omega) (by omega);have h2:2^n<2^64:=du (by omega) (by omega);have h3:2^(n+1)=2*2^n:=kw;have key:(bv 64 (m:Int) ^^^ bv 64 ((2^n:Nat):Int)).toNat=if m<2^n then m+2^n else m-2^n:=by
  rw[BitVec.toNat_xor,Hg (by omega),Hg h2,aVS h]
 show IntKind.u64.wrap (((bv 64 (m:Int) ^^^ bv 64 ((2^n:Nat):Int)).toNat:Nat):Int)=_;rw[key];refine El ⟨ox _,?_⟩;split<;>omega
def Gw(f:Int)(s:Bool)(n:Nat):Nat:=n+(bif s then 2^(fW f-1)else 0)
theorem aVl{f:Int}(hf:Fm f):2^fW f=2*2^(fW f-1):=by
 have h2:=EX hf;rw[←kw];congr 1;omega
theorem aGa{f:Int}(hf:Fm f)(s:Bool){n:Nat}(hn:n<2^(fW f-1)):Am f (Gw f s n)=0:=by
 apply aDC hf;rw[aVl hf];unfold Gw;cases s<;>simp<;>omega
theorem aOV{f:Int}(s:Bool){n:Nat}(hn:n<2^(fW f-1)):By f (Gw f s n)=n:=by
 unfold By Gw;cases s
 ·simp only[cond_false,de];exact ar hn
 ·simp only[cond_true,Nat.add_mod_right];exact ar hn
theorem aOW{f:Int}(s:Bool){n:Nat}(hn:n<2^(fW f-1)):sF f (Gw f s n)=s:=by
 unfold sF Gw;rw[gJ];cases s
 ·simp only[cond_false,de,decide_eq_false_iff_not];omega
 ·simp
theorem aGB{f:Int}{a:Nat}(h:Am f a=0):a=Gw f (sF f a) (By f a):=iN h
theorem M0{f:Int}{a:Nat}(h:Am f a=0):a<2^64:=by
 obtain⟨hf,h0⟩:=CT h;exact ah h0 (ae (by omega) (Eg hf))
theorem aMR{f:Int}(hf:Fm f)(a:Nat):eF f a=By f a/2^(fP f-1):=by
 rw[Y4 hf,fq _ _ (ag _)];have:mF f a/2^(fP f-1)=0:=bu (bo _ (ag _));omega
theorem aOS{f:Int}(hf:Fm f)(a:Nat):mF f a=By f a%2^(fP f-1):=by
 rw[Y4 hf,im];exact(ar (bo _ (ag _))).symm
def Gv(f:Int):Nat:=2^(fP f-1)*BI f
theorem aOv{f:Int}(hf:Fm f):Gv f+128<=2^(fW f-1):=by
 rcases Ds hf with rfl|rfl|rfl|rfl<;>decide
theorem aD4{f:Int}(a:Nat):eF f a<=BI f:=by
 have:eF f a<2^(fW f-fP f):=bo _ (ag _);unfold BI;omega
theorem aPb{f:Int}(hf:Fm f){a:Nat}(h:nan f a=false):By f a<=Gv f:=by
 rw[Y4 hf];have h1:=aD4 (f:=f) a;have hm:mF f a<2^(fP f-1):=bo _ (ag _);unfold nan at h;unfold Gv;rcases au (eF f a) (BI f)with h2|h2
 ·have:2^(fP f-1)*(eF f a+1)<=2^(fP f-1)*BI f:=ce _ h2;rw[bt]at this;omega
 ·have e:eF f a=BI f:=by omega
  rw[e]at h⊢;simp at h;omega
theorem aOu{f:Int}(hf:Fm f)(a:Nat):By f a=Gv f↔eF f a=BI f/\mF f a=0:=by
 have hp:=ag (fP f-1);constructor
 ·intro h;rw[aMR hf,aOS hf,h];unfold Gv;exact⟨Nat.mul_div_cancel_left _ hp,kx _ _⟩
 ·rintro ⟨h1,h2⟩;rw[Y4 hf,h1,h2];unfold Gv;omega
theorem aMq{f:Int}(hf:Fm f){a:Nat}(h:By f a=Gv f):Av f a=bif sF f a then 2 else 9:=by
 obtain⟨h1,h2⟩:=(aOu hf a).1 h;unfold Av;rw[h1,h2];simp
def It(f:Int)(a:Nat):Nat:=Gw f (!sF f a) (By f a)
theorem aO7{f:Int}(hf:Fm f)(a:Nat):Am f (It f a)=0:=aGa hf _ (fO a)
theorem neg_neg{f:Int}{a:Nat}(h:Am f a=0):It f (It f a)=a:=by
 unfold It;rw[aOV _ (fO a),aOW _ (fO a),Bool.not_not];exact(aGB h).symm
theorem pP{f:Int}{a:Nat}(h:Am f a=0):Sl (f,(a:Int),())=some ((It f a:Int),0,()):=by
 obtain⟨hf,h0⟩:=CT h;show Wk Ar.pre Ar.F Dk.pre Dk.F f a=_;unfold Wk;have h2:=EX hf;have h3:=Eg hf;have p0:=En f a (M0 h);have p1:=pC hf;simp only[DC p0,Dz p0,vU p1,tV p1,h,cond_true,bne_self_eq_false,cond_false];rw[aVR (by omega) (by rw[oy (by omega)];exact h0)];have e:(if a<2^(fW f-1)then a+2^(fW f-1)else a-2^(fW f-1))=It f a:=by
  have hp:=aGB h;have hl:=fO (f:=f) a;unfold It;unfold Gw at hp⊢;cases hs:sF f a<;>rw[hs]at hp<;>simp only[cond_true,cond_false,bg,bd]at hp⊢
  ·rw[if_pos (by omega)];omega
  ·rw[if_neg (by omega)];omega
 rw[e]
theorem aK9{f:Int}{a:Nat}(ha:a<2^64)(h:Am f a≠0):Sl (f,(a:Int),())=some (0,Am f a,()):=by
 show Wk Ar.pre Ar.F Dk.pre Dk.F f a=_;unfold Wk;have p0:=En f a ha;have:(Am f a !=0)=true:=by simpa using h
 simp only[DC p0,Dz p0,this,cond_true]
def aGi(f:Int)(a:Nat)(w:Int):Nat:=bif(Av f a==9&&decide (w>0))||(Av f a==2&&decide (w<0))then a else if At f a+w>0∨(At f a+w=0/\w<0)then(At f a+w).toNat else It f (-(At f a+w)).toNat
def aHO(f:Int)(a:Nat)(w:Int):Nat:=bif nan f a then CC f else aGi f a w
def RT(f:Int)(a:Nat)(w:Int):Int×Int×Int×Unit:=if Am f a≠0 then(0,0,Am f a,())else((aHO f a w:Int),(bif AG f a then 1 else 0),0,())
theorem aU2{f:Int}{a:Nat}(h:Am f a=0)(hn:nan f a=false){w:Int}(hw:w=1∨w=-1)(hi:((Av f a==9&&decide (w>0))||(Av f a==2&&decide (w<0)))=false):
  -(Gv f:Int)<=At f a+w/\At f a+w<=Gv f:=by
 have hf:=(CT h).1;have hl:=aPb hf hn;rcases au (By f a) (Gv f)with h1|h1
 ·unfold At;cases sF f a<;>simp only[cond_true,cond_false]<;>omega
 ·have e:By f a=Gv f:=by omega
  have hc:=aMq hf e;have hpos:0<Gv f:=gd (ag _) (RD hf);unfold At;rw[hc]at hi;cases hs:sF f a<;>rw[hs]at hi<;>rcases hw with rfl|rfl<;>simp at hi<;>simp only[cond_true,cond_false]<;>rw[e]<;>constructor<;>omega
theorem aLc{f:Int}{a:Nat}(ha:a<2^64){w:Int}(hw:w=1∨w=-1):Yz (f,(a:Int),w,())=some (RT f a w):=by
 show nO DG.pre DG.F Cz.pre Cz.F AB.pre AB.F CA.pre CA.F DR.pre DR.F f a w=_;unfold nO RT;by_cases h:Am f a=0
 ·have hf:=(CT h).1;have p0:=Yu ha h;simp only[M2 p0,MO p0,Z9 (LW _),ZD (LW _),aA (LX _ _),ZE (LX _ _),FS (Eo hf),FI (Eo hf),cond_true,bne_self_eq_false,cond_false,Hb,h,ne_eq,not_true_eq_false,if_false];simp only[Fc,Bool.or_self];unfold aHO;cases hn:nan f a
  ·have hs:=jC hn;rw[hs];simp only[cond_false];unfold aGi;cases hi:(Av f a==9&&decide (w>0))||(Av f a==2&&decide (w<0))
   ·obtain⟨r1,r2⟩:=aU2 h hn hw hi;have hroom:=aOv hf;have hW:=Eg hf;have h63:2^(fW f-1)<=2^63:=ae (by omega) (by omega);have e1:aa .i64 (At f a+w)=At f a+w:=As (by omega);simp only[cond_false,e1];by_cases ht:At f a+w>0∨(At f a+w=0/\w<0)
    ·have:(decide (At f a+w>0)||(At f a+w==0&&decide (w<0)))=true:=by
      simp only[dl,decide_eq_true_eq,ai,beq_iff_eq];exact ht
     rw[this,if_pos ht,cond_true,El (by omega)];have:((At f a+w).toNat:Int)=At f a+w:=by omega
     rw[this]
    ·have:(decide (At f a+w>0)||(At f a+w==0&&decide (w<0)))=false:=by
      rw[Bool.eq_false_iff];simp only[ne_eq,dl,decide_eq_true_eq,ai,beq_iff_eq];exact ht
     rw[this,if_neg ht,cond_false];have e2:aa .u64 (aa .i64 (0-(At f a+w)))=(((-(At f a+w)).toNat:Nat):Int):=by
      rw[As (by omega),El (by omega)];omega
     rw[e2];have hc:Am f (-(At f a+w)).toNat=0:=by
      have:=aGa hf false (n:=(-(At f a+w)).toNat) (by omega);simpa[Gw]using this
     have p1:=pP hc;simp only[v9 p1,uC p1,cond_true]
   ·simp only[cond_true]
  ·simp only[cond_true]
 ·have p0:=dI ha h;have:(Am f a !=0)=true:=by simpa using h
  simp only[M2 p0,MO p0,this,cond_true,if_pos (show Am f a≠0 from h)]
theorem aKZ{f:Int}{a:Nat}(ha:a<2^64):X0 (f,(a:Int),())=some (RT f a 1):=by
 show mI Q0.pre Q0.F f a=_;unfold mI;have p:=aLc (f:=f) ha (.inl rfl);simp only[aQY p,aOm p,cond_true]
end VL
namespace VL
open Go Vx
def nv(B:Nat):List Nat->Nat
 | []=>0
 |x::r=>x+B*nv B r
def Ai:List Nat->List Nat
 | []=>[]
 |x::r=>match Ai r with
  | []=>if x=0 then[]else[x]
  |y::t=>x::y::t
def dg(B:Nat)(n:Nat):List Nat:=if h:n=0∨B<2 then[]else n%B::dg B (n/B)
termination_by n
decreasing_by exact nu (by omega) (by omega)
theorem Es(B:Nat):dg B 0=[]:=by rw[dg];simp
theorem Gr{B n:Nat}(hB:2<=B)(hn:0<n):dg B n=n%B::dg B (n/B):=by
 rw[dg];rw[dif_neg (by omega)]
theorem Gq{B:Nat}(hB:2<=B):∀(n:Nat),∀x∈dg B n,x<B:=by
 intro n;induction n using nw with
 |ind n ih=>
  intro x hx;rcases bj n with rfl|hn
  ·rw[Es]at hx;simp at hx
  ·rw[Gr hB hn]at hx;rcases List.mem_cons.1 hx with rfl|hx
   ·exact bo _ (by omega)
   ·exact ih (n/B) (nu hn (by omega)) x hx
theorem iI{B:Nat}(hB:2<=B):∀(n:Nat),nv B (dg B n)=n:=by
 intro n;induction n using nw with
 |ind n ih=>
  rcases bj n with rfl|hn
  ·rw[Es];rfl
  ·rw[Gr hB hn];simp only[nv];rw[ih (n/B) (nu hn (by omega))];exact Nat.mod_add_div n B
theorem aDK{B x v:Nat}(hB:2<=B)(hx:x<B)(h:0<x+B*v):dg B (x+B*v)=x::dg B v:=by
 rw[Gr hB h,im,ar hx,fq _ _ (by omega),bu hx,dw]
theorem Hj{B:Nat}(hB:2<=B):∀(l:List Nat),(∀x∈l,x<B)->Ai l=dg B (nv B l)
 | [],_=>by simp only[nv];rw[Es];rfl
 |x::r,h=>by
  have ih:=Hj hB r fun y hy=>h y (by simp[hy])
  simp only[Ai,nv]
  rcases bj (nv B r)with h0|h0
  ·rw[ih,h0,Es,fm,de]
   simp only
   rcases bj x with rfl|hx
   ·rw[Es];rfl
   ·rw[if_neg (by omega)]
    have:=aDK (v:=0) hB (h x (by simp)) (by omega)
    rw[fm,de,Es]at this
    exact this.symm
  ·have hp:0<B*nv B r:=gd (by omega) h0
   rw[aDK hB (h x (by simp)) (by omega),ih]
   rw[Gr hB h0]
theorem Ek:∀(l:List Nat),(Ai l).length<=l.length/\Ai l=l.take (Ai l).length
 | []=>⟨cg _,rfl⟩
 |x::r=>by
  obtain⟨h1,h2⟩:=Ek r
  simp only[Ai]
  cases e:Ai r with
  |nil=>
   simp only
   split
   ·exact⟨by simp,rfl⟩
   ·exact⟨by simp,rfl⟩
  |cons y t=>
   rw[e]at h1 h2
   simp only
   refine⟨by simp at h1⊢;omega,?_⟩
   simp only[gk,List.take_succ_cons]
   congr 1
theorem xG:∀(l:List Nat) (i:Nat),(Ai l).length<=i->l.getD i 0=0
 | [],i,_=>by simp
 |x::r,i,h=>by
  have ih:=xG r
  simp only[Ai]at h
  cases e:Ai r with
  |nil=>
   rw[e]at h ih
   simp only at h
   cases i with
   |zero=>
    split at h
    ·rename_i hx;simp[hx]
    ·simp at h
   |succ i=>simpa using ih i (by simp)
  |cons y t=>
   rw[e]at h ih
   simp only at h
   cases i with
   |zero=>simp at h
   |succ i=>simpa using ih i (by simpa using h)
theorem aW:∀(l:List Nat),0<(Ai l).length->l.getD ((Ai l).length-1) 0≠0
 | [],h=>by simp[Ai]at h
 |x::r,h=>by
  have ih:=aW r
  simp only[Ai]at h⊢
  cases e:Ai r with
  |nil=>
   rw[e]at h
   simp only at h⊢
   split at h
   ·simp at h
   ·rename_i hx;rw[if_neg hx];simpa using hx
  |cons y t=>
   rw[e]at ih
   simp only[gk]at ih⊢
   have:=ih (by simp)
   simpa using this
def Wd(l:List Nat):List Int:=l.map fun n:Nat=>(n:Int)
theorem Az(l:List Nat):(Wd l).length=l.length:=by simp[Wd]
theorem BZ(l:List Nat)(i:Nat):(Wd l).getD i 0=((l.getD i 0:Nat):Int):=by
 unfold Wd;rw[al,al,List.getElem?_map];cases l[i]?<;>simp
theorem eD(l:List Nat)(n:Nat):(Wd l).take n=Wd (l.take n):=by simp[Wd,List.map_take]
theorem aLI(l:List Nat)(n:Nat):(Wd l).drop n=Wd (l.drop n):=by simp[Wd,List.map_drop]
theorem Eb(l:List Nat)(i n:Nat):(Wd l).set i (n:Int)=Wd (l.set i n):=by simp[Wd,List.map_set]
theorem Sp(n:Nat):ax n (0:Int)=Wd (ax n 0):=by simp[Wd]
end VL
namespace VL
open Go Vx
def Ws(l:List Nat):Prop:=(∀x∈l,x<2^64)/\l.length<=1000000
theorem aLn(l:List Nat)(hl:l.length<=1000000)(n:Nat)(hn:n<=l.length)(ht:(Ai l).length<=n):
  dQ ((Wd l,((n:Int),())),())=some (.inl ((Wd l,(((Ai l).length:Int),())),())):=by
 have key:=Dc aFH (fun x=>x.1.2.1.toNat)
  (fun x=>∃n:Nat,n<=l.length/\(Ai l).length<=n/\x=((Wd l,((n:Int),())),()))
  (fun _=>.inl ((Wd l,(((Ai l).length:Int),())),())) ?_ ((Wd l,((n:Int),())),()) ⟨n,hn,ht,rfl⟩
 ·exact key
 intro L x hx hL;obtain⟨n,hn,ht,rfl⟩:=hx;unfold Vb;rcases bj n with rfl|hpos
 ·have e1:decide (((0:Nat):Int)>0)=false:=rfl;simp only[e1,bd,br,cond_true,az,cond_false];have:(Ai l).length=0:=by omega
  rw[this]
 ·have e0:aa .i64 ((n:Int)-1)=((n-1:Nat):Int):=EA n 1 (by omega) (by omega);have e1:decide ((n:Int)>0)=true:=by simp;omega
  have e2:(decide ((0:Int)<=((n-1:Nat):Int))&&decide (((n-1:Nat):Int)<((Wd l).length:Int)))=true:=by
   rw[Az];simp;omega
  simp only[e0,e1,e2,be,cond_true,bh,ab,BZ,FM];cases hz:(l.getD (n-1) 0==0)with
  |true=>
   simp only[cond_true];refine hL _ ⟨n-1,by omega,?_,rfl⟩ (by simp only[ab];omega);rcases au (n-1) (Ai l).length with h|h
   ·exfalso;have e:n=(Ai l).length:=by omega
    have:=aW l (by omega);rw[←e]at this;exact this (by simpa using hz)
   ·exact h
  |false=>
   simp only[cond_false];have:(Ai l).length=n:=by
    rcases au (n-1) (Ai l).length with h|h
    ·omega
    ·exfalso;have:=xG l (n-1) h;rw[this]at hz;simp at hz
   rw[this]
theorem Ea(l:List Nat)(hl:l.length<=1000000):Sc (Wd l,())=some (Wd (Ai l),()):=by
 show kJ dQ (Wd l)=_;unfold kJ;have h:=aLn l hl l.length (cg _) (Ek l).1;rw[Az];rw[h];have e:(decide ((0:Int)<=((Ai l).length:Int))&&decide (((Ai l).length:Int)<=((Wd l).length:Int)))=true:=by
  rw[Az];have:=(Ek l).1;simp;omega
 show(bif(decide ((0:Int)<=((Ai l).length:Int))&&decide (((Ai l).length:Int)<=((Wd l).length:Int)))then some (List.drop (aj 0) (List.take (aj ((Ai l).length:Int)) (Wd l)),())else none)=_;rw[e,cond_true,ab,Int.toNat_zero,List.drop_zero,eD];have:=(Ek l).2;rw[←this]
def An(n:Nat):Nat:=if n=0 then 0 else Nat.log2 n+1
theorem G8(n:Nat):n<2^An n:=by
 unfold An;split
 ·subst_vars;decide
 ·exact Nat.lt_log2_self
theorem JY{n:Nat}(h:n≠0):2^(An n-1)<=n:=by
 unfold An;rw[if_neg h];exact Nat.log2_self_le h
theorem aL5{n k:Nat}(h1:2^k<=n)(h2:n<2^(k+1)):An n=k+1:=by
 have hp:=ag k;have hn:n≠0:=by omega
 have a1:=G8 n;have a2:=JY hn;have b1:An n-1<k+1:=(ct (by decide)).1 (av a2 h2);have b2:k<An n:=(ct (by decide)).1 (av h1 a1);omega
theorem sC{n k:Nat}(h:2^k<=n):An n=k+An (n/2^k):=by
 have hp:=ag k;have hq:0<n/2^k:=Nat.div_pos h hp;have a1:=G8 (n/2^k);have a2:=JY (n:=n/2^k) (by omega);have hb:0<An (n/2^k):=by unfold An;rw[if_neg (by omega)];omega
 have h1:2^(k+(An (n/2^k)-1))<=n:=by
  rw[ap];calc 2^k*2^(An (n/2^k)-1)<=2^k*(n/2^k):=ce _ a2
   _<=n:=Nat.mul_div_le n _
 have h2:n<2^(k+(An (n/2^k)-1)+1):=by
  rw[show k+(An (n/2^k)-1)+1=k+An (n/2^k) by omega,ap,aq];exact(cn hp).1 a1
 have:=aL5 h1 h2;omega
theorem aFr:∀i:Nat,i<256->(Iq.getD i 0).toNat=An i:=by
 have h:((List.range 256).all fun i=>decide ((Iq.getD i 0).toNat=An i))=true:=by decide +kernel
 intro i hi;have:=List.all_eq_true.1 h i (List.mem_range.2 hi);simpa using this
theorem TX(n:Nat)(hn:n<2^64):Xg ((n:Int),())=some ((An n:Int),()):=by
 have hs:∀m k:Nat,k<=64->AJ .u64 (m:Int) (k:Int)=((m/2^k:Nat):Int):=fun m k hk=>DD m k hk;have To:∀m:Nat,AJ .u64 (m:Int) 32=((m/2^32:Nat):Int):=fun m=>hs m 32 (by decide);have s16:∀m:Nat,AJ .u64 (m:Int) 16=((m/2^16:Nat):Int):=fun m=>hs m 16 (by decide);have s8:∀m:Nat,AJ .u64 (m:Int) 8=((m/2^8:Nat):Int):=fun m=>hs m 8 (by decide);have ge:∀m k:Nat,decide ((m:Int)>=(k:Int))=decide (k<=m):=fun m k=>by rw[cu];simp
 have g32:∀m:Nat,decide ((m:Int)>=4294967296)=decide (2^32<=m):=fun m=>ge m (2^32);have U0:∀m:Nat,decide ((m:Int)>=65536)=decide (2^16<=m):=fun m=>ge m (2^16);have g8:∀m:Nat,decide ((m:Int)>=256)=decide (2^8<=m):=fun m=>ge m (2^8);have tab:∀m:Nat,m<256->aa .u8 (m:Int)=(m:Int):=fun m hm=>IntWalk.u8_in _ (by omega);have look:∀(m:Nat) (c:Int) (d:Nat),m<256->c=(d:Int)->d<=56->(bif(decide ((0:Int)<=aa .u8 (m:Int))&&decide (aa .u8 (m:Int)<(256:Int)))then(some (aa .i64 (c+aa .i64 ((UInt8.toNat (Iq.getD (aj (aa .u8 (m:Int))) 0):Nat):Int)),()):Option (DenS Ft))else none)=some (((d+An m:Nat):Int),()):=fun m c d hm hc hd=>by
  have e:(decide ((0:Int)<=(m:Int))&&decide ((m:Int)<(256:Int)))=true:=by simp;omega
  have hb:An m<=8:=by
   have:=aFr m hm;rcases bj m with rfl|hpos
   ·decide
   ·have:=JY (n:=m) (by omega);have h8:An m-1<8:=(ct (a:=2) (by decide)).1 (av this hm);omega
  rw[tab m hm,e,cond_true,ab,aFr m hm,hc,As (n:=((An m:Nat):Int)) (by omega),As (by omega)];rfl
 show kN n=_;unfold kN;have BM:∀(k:Nat),2^k<=n->k+An (n/2^k)=An n:=fun k h=>(sC h).symm;have dd:∀a b:Nat,n/2^a/2^b=n/2^(a+b):=fun a b=>by rw[Nat.div_div_eq_div_mul,←ap]
 have up:∀a b:Nat,2^b<=n/2^a->2^(a+b)<=n:=fun a b h=>by
  rw[ap,aq];exact(Nat.le_div_iff_mul_le (ag a)).1 h
 have down:∀a b:Nat,n/2^a<2^b->n<2^(a+b):=fun a b h=>by
  rw[ap,aq];exact(cn (ag a)).1 h
 have small:∀a:Nat,n<2^(a+8)->n/2^a<256:=fun a h=>by
  rw[cn (ag a),aq];rw[ap]at h;exact h
 simp only[To,s16,s8,g32,U0,g8];by_cases h1:2^32<=n
 ·rw[decide_eq_true h1,cond_true];by_cases h2:2^16<=n/2^32
  ·rw[decide_eq_true h2,cond_true];by_cases h3:2^8<=n/2^32/2^16
   ·rw[decide_eq_true h3,cond_true];rw[dd 32 16]at h3;have hm:n/2^32/2^16/2^8=n/2^56:=by rw[dd 32 16,dd 48 8]
    refine(look (n/2^32/2^16/2^8) _ 56 (by rw[hm];exact small 56 hn) rfl (by decide)).trans ?_;rw[hm,BM 56 (up 48 8 h3)]
   ·rw[decide_eq_false h3,cond_false];rw[dd 32 16]at h3;refine(look (n/2^32/2^16) _ 48 (by rw[dd 32 16];exact small 48 (down 48 8 (by omega))) rfl (by decide)).trans ?_;rw[dd 32 16,BM 48 (up 32 16 h2)]
  ·rw[decide_eq_false h2,cond_false];by_cases h3:2^8<=n/2^32
   ·rw[decide_eq_true h3,cond_true];refine(look (n/2^32/2^8) _ 40 (by rw[dd 32 8];exact small 40 (down 32 16 (by omega))) rfl (by decide)).trans ?_;rw[dd 32 8,BM 40 (up 32 8 h3)]
   ·rw[decide_eq_false h3,cond_false];refine(look (n/2^32) _ 32 (small 32 (down 32 8 (by omega))) rfl (by decide)).trans ?_;rw[BM 32 h1]
 ·rw[decide_eq_false h1,cond_false];by_cases h2:2^16<=n
  ·rw[decide_eq_true h2,cond_true];by_cases h3:2^8<=n/2^16
   ·rw[decide_eq_true h3,cond_true];refine(look (n/2^16/2^8) _ 24 (by rw[dd 16 8];exact small 24 (by omega)) rfl (by decide)).trans ?_;rw[dd 16 8,BM 24 (up 16 8 h3)]
   ·rw[decide_eq_false h3,cond_false];refine(look (n/2^16) _ 16 (small 16 (down 16 8 (by omega))) rfl (by decide)).trans ?_;rw[BM 16 h2]
  ·rw[decide_eq_false h2,cond_false];by_cases h3:2^8<=n
   ·rw[decide_eq_true h3,cond_true];refine(look (n/2^8) _ 8 (small 8 (by omega)) rfl (by decide)).trans ?_;rw[BM 8 h3]
   ·rw[decide_eq_false h3,cond_false];refine(look n 0 0 (by omega) rfl (by decide)).trans ?_;rw[dw]
end VL
namespace VL
open Go Vx
theorem Td(B:Nat):∀(l m:List Nat),nv B (l++m)=nv B l+B^l.length*nv B m
 | [],m=>by simp[nv]
 |x::r,m=>by
  simp only[List.cons_append,nv,gk]
  rw[Td B r m,df,bt,Nat.add_assoc]
  congr 2
  rw[aq (B^r.length) B,ao]
theorem DV{B:Nat}(hB:2<=B):∀(l:List Nat),(∀x∈l,x<B)->nv B l<B^l.length
 | [],_=>by simp[nv]
 |x::r,h=>by
  have ih:=DV hB r fun y hy=>h y (by simp[hy])
  have hx:=h x (by simp)
  simp only[nv,gk,df]
  have:B*nv B r<=B*(B^r.length-1):=ce _ (by omega)
  have hp:0<B^r.length:=Nat.pow_pos (by omega)
  rw[Nat.mul_sub]at this
  have h1:B*1<=B*B^r.length:=ce _ hp
  rw[aq (B^r.length) B]
  omega
theorem MY(B:Nat)(l:List Nat)(i:Nat)(h:i<=l.length):nv B l=nv B (l.take i)+B^i*nv B (l.drop i):=by
 conv=>lhs;rw[←List.take_append_drop i l]
 rw[Td];simp[h]
theorem J7{B:Nat}(hB:2<=B){l:List Nat}(h:∀x∈l,x<B):nv B (Ai l)=nv B l:=by
 rw[Hj hB l h,iI hB]
theorem Tu{l:List Nat}{x:Nat}(h:x∈Ai l):x∈l:=by
 rw[(Ek l).2]at h;exact fd h
theorem aIr{l:List Nat}{i:Nat}(h:i<(Ai l).length):(Ai l)[i]? = l[i]?:=by
 have:(Ai l)[i]? = (l.take (Ai l).length)[i]?:=congrArg (fun t:List Nat=>t[i]?) (Ek l).2;rw[this,List.getElem?_take_of_lt h]
theorem aL6{a b k:Nat}(ha:a<2^k)(hb:0<b):An (a+2^k*b)=k+An b:=by
 have hp:=ag k;have h1:2^k*1<=2^k*b:=ce _ hb;rw[sC (n:=a+2^k*b) (k:=k) (by omega),fq _ _ hp,bu ha,dw]
theorem Cw(i:Nat):(2^64)^i=2^(64*i):=by rw[←Nat.pow_mul]
theorem aDm{l:List Nat}(h:∀x∈l,x<2^64)(hl:0<(Ai l).length):An (nv (2^64) l)=64*((Ai l).length-1)+An (l.getD ((Ai l).length-1) 0):=by
 have hlast:=aW l hl;have hle:=(Ek l).1;rw[←J7 (by decide) h];have hm:∀x∈Ai l,x<2^64:=fun x hx=>h x (Tu hx);rw[MY _ (Ai l) ((Ai l).length-1) (by omega),Cw];have hd:(Ai l).drop ((Ai l).length-1)=[l.getD ((Ai l).length-1) 0]:=by
  have hlt:(Ai l).length-1<(Ai l).length:=by omega
  rw[List.drop_eq_getElem_cons hlt];have e1:(Ai l).length-1+1=(Ai l).length:=by omega
  rw[e1,List.drop_length];congr 1;have:(Ai l)[(Ai l).length-1]? = l[(Ai l).length-1]?:=aIr hlt;rw[List.getElem?_eq_getElem hlt]at this;rw[al,←this];rfl
 rw[hd];have hlow:=DV (B:=2^64) (by decide) ((Ai l).take ((Ai l).length-1)) fun x hx=>hm x (fd hx);rw[List.length_take,Nat.min_eq_left (by omega),Cw]at hlow;have:nv (2^64) [l.getD ((Ai l).length-1) 0]=l.getD ((Ai l).length-1) 0:=by simp[nv]
 rw[this];exact aL6 hlow (by omega)
theorem aIs{l:List Nat}(h:∀x∈l,x<2^64)(h0:(Ai l).length=0):nv (2^64) l=0:=by
 have:Ai l=[]:=List.eq_nil_of_length_eq_zero h0;rw[←J7 (by decide) h,this];rfl
theorem Cr{l:List Nat}{B:Nat}(hB:0<B)(h:∀x∈l,x<B)(i:Nat):l.getD i 0<B:=by
 rw[al];cases e:l[i]? with
 |none=>exact hB
 |some x=>exact h x (List.mem_of_getElem? e)
theorem aKj(l:List Nat)(hl:Ws l):TS (Wd l,())=some ((An (nv (2^64) l):Int),()):=by
 obtain⟨h,hlen⟩:=hl;show kE Af.pre Af.F Bx.pre Bx.F (Wd l)=_;unfold kE;have p0:=Ea l hlen;have hle:=(Ek l).1;simp only[CZ p0,CX p0,cond_true,Az];rcases bj (Ai l).length with h0|h0
 ·rw[h0,aIs h h0];rfl
 ·have e0:(((Ai l).length:Int)==0)=false:=by rw[FM];exact beq_false_of_ne (by omega)
  have e1:aa .i64 (((Ai l).length:Int)-1)=(((Ai l).length-1:Nat):Int):=EA (Ai l).length 1 (by omega) (by omega);have e2:(decide ((0:Int)<=(((Ai l).length-1:Nat):Int))&&decide ((((Ai l).length-1:Nat):Int)<((Ai l).length:Int)))=true:=by simp only[ai,decide_eq_true_eq];omega
  have e3:(Wd (Ai l)).getD ((Ai l).length-1) 0=((l.getD ((Ai l).length-1) 0:Nat):Int):=by
   rw[BZ];congr 1;rw[al,al];rw[aIr (by omega)]
  have hd:=Cr (by decide) h ((Ai l).length-1);have p1:=TX _ hd;have hb:An (l.getD ((Ai l).length-1) 0)<=64:=by
   rcases bj (l.getD ((Ai l).length-1) 0)with z|z
   ·rw[z];decide
   ·have:=JY (n:=l.getD ((Ai l).length-1) 0) (by omega);have:An (l.getD ((Ai l).length-1) 0)-1<64:=(ct (a:=2) (by decide)).1 (av this hd);omega
  rw[e0,e1,e2,cond_false,cond_true,ab,e3];simp only[VX p1,UW p1,cond_true];rw[aDm h h0,As (n:=64*(((Ai l).length-1:Nat):Int)) (by omega),As (by omega)];congr 2
end VL
namespace VL
open Go Vx
theorem Kg(x:Nat):aa .u64 (x:Int)=((x%2^64:Nat):Int):=by
 simp[aa,jk,IntKind.signed];try omega
theorem Ej(x n:Nat)(hn:n<=64):AQ .u64 (x:Int) (n:Int)=((x*2^n%2^64:Nat):Int):=by
 have hm:(min (n:Int).toNat IntKind.u64.bits)=n:=by simp[jk];omega
 unfold AQ;rw[hm];have e:(x:Int)*2^n=((x*2^n:Nat):Int):=by simp
 rw[e];exact Kg _
theorem FR{a b k:Nat}(ha:a<2^k)(h:a+b*2^k<2^64):A7 .u64 (a:Int) ((b*2^k:Nat):Int)=((a+b*2^k:Nat):Int):=by
 have key:(bv 64 (a:Int) ||| bv 64 ((b*2^k:Nat):Int)).toNat=a+b*2^k:=by
  rw[BitVec.toNat_or,Hg (by omega),Hg (by omega),aq b,Nat.or_comm,←Nat.two_pow_add_eq_or_of_lt ha];omega
 show IntKind.u64.wrap (((bv 64 (a:Int) ||| bv 64 ((b*2^k:Nat):Int)).toNat:Nat):Int)=_;rw[key];exact El (by omega)
def Bg(s:Nat):List Nat->List Nat
 | []=>[]
 |x::r=>(x/2^s+(r.getD 0 0%2^s)*2^(64-s))::Bg s r
theorem Na(s:Nat):∀l,(Bg s l).length=l.length
 | []=>rfl
 |_::r=>by simp[Bg,Na s r]
theorem aN(s:Nat):∀(l:List Nat) (i:Nat),i<l.length->(Bg s l)[i]? = some (l.getD i 0/2^s+(l.getD (i+1) 0%2^s)*2^(64-s))
 | [],i,h=>by simp at h
 |x::r,0,_=>by simp[Bg]
 |x::r,i+1,h=>by
  simp only[Bg,List.getElem?_cons_succ]
  rw[aN s r i (by simpa using h)]
  simp
theorem VT{s:Nat}(hs:s<=64):2^64=2^s*2^(64-s):=by rw[←ap];congr 1;omega
theorem jB{s:Nat}(hs:s<=64){x y:Nat}(hx:x<2^64):x/2^s<2^(64-s)/\x/2^s+(y%2^s)*2^(64-s)<2^64:=by
 have hp:=ag s;have h1:x/2^s<2^(64-s):=by
  rw[cn hp,aq,←VT hs];exact hx
 refine⟨h1,?_⟩;have h2:y%2^s+1<=2^s:=bo _ hp;have h3:=Nat.mul_le_mul_right (2^(64-s)) h2;rw[←VT hs,Nat.add_mul,Nat.one_mul]at h3;omega
theorem aPc{B:Nat}{s:Nat}(hB:B%2^s=0):∀l:List Nat,nv B l%2^s=l.getD 0 0%2^s
 | []=>by simp[nv]
 |x::r=>by
  simp only[nv,List.getD_cons_zero]
  obtain⟨c,hc⟩:=Nat.dvd_of_mod_eq_zero hB
  rw[hc,ao,im]
theorem vH{s:Nat}(hs:s<=64):∀l:List Nat,nv (2^64) (Bg s l)=nv (2^64) l/2^s
 | []=>by simp[Bg,nv]
 |x::r=>by
  have ih:=vH hs r
  simp only[Bg,nv]
  rw[ih]
  have hp:=ag s
  have hm:=aPc (B:=2^64) (s:=s) (by rw[VT hs];exact kx _ _) r
  rw[←hm]
  have hN:nv (2^64) r=2^s*(nv (2^64) r/2^s)+nv (2^64) r%2^s:=(Nat.div_add_mod _ _).symm
  generalize nv (2^64) r/2^s=q at *
  generalize nv (2^64) r%2^s=t at *
  rw[hN]
  have e:x+2^64*(2^s*q+t)=x+2^s*(2^64*q+2^(64-s)*t):=by
   rw[bt,bt]
   have e1:2^64*(2^s*q)=2^s*(2^64*q):=by rw[←ao,←ao,aq (2^64) (2^s)]
   have e2:2^64*t=2^s*(2^(64-s)*t):=by rw[←ao,←VT hs]
   rw[e1,e2]
  rw[e,fq _ _ hp,aq t]
  omega
end VL
end
