/- Part 6 of the proof. What is proved: symbolic execution of the functions, proved sound; what each function of the program computes, and that every run ends with it; what these functions compute, in plain numbers. Conditions: each theorem bears its own. -/
import Derived.Test.YthajbkcpnbiobaaGreatDoorVxG5
import Derived.IntWalk
set_option linter.all false
set_option exponentiation.threshold 1000000
noncomputable section
open BitVec renaming ofInt->co,toNat_and->pf,toNat_or->po
open Bool renaming and_eq_false_iff->lm,and_eq_true->ag,and_false->ay,and_self->av,and_true->bg,eq_iff_iff->fi,false_and->ao,false_or->bd,not_false->ar,not_true->au,or_eq_true->dv,or_false->bi,or_self->bb,or_true->ba,true_and->az,true_or->aw
open Go.IntKind renaming bits->im,signed->jf,wrap->aa
open Int renaming eq_ofNat_of_zero_le->cd,natCast_nonneg->og,natCast_zero->ij,tmod->gj,toNat->af,toNat_natCast->ab,toNat_zero->ap
open List renaming all_eq_true->lv,append_nil->dk,drop->qf,drop_eq_getElem_cons->dz,drop_replicate->kw,getD_cons_succ->nz,getD_cons_zero->nw,getD_eq_getElem?_getD->ak,getElem?_eq_getElem->bo,getElem?_eq_none->df,getElem?_eq_some_iff->bf,getElem?_map->ko,getElem?_of_mem->lz,length_cons->dh,length_map->js,length_nil->ee,length_replicate->gc,length_set->ip,length_take->gx,mem_append->cw,mem_cons->cy,mem_of_mem_drop->kt,mem_of_mem_take->fg,mem_range->ku,nil_append->mh,range->ig,replicate->aq,replicate_succ->jh,replicate_zero->il,set_append_right->ga,set_cons_zero->jn,set_set->nj,take->kh,take_length->dp,take_of_length_le->ck,take_succ->qb,take_zero->mq
open Nat renaming add_assoc->gm,add_comm->io,add_mul->cm,add_mul_div_left->fc,add_mul_mod_self_left->gv,add_sub_cancel_left->je,add_zero->cz,div_add_mod->ct,div_div_eq_div_mul->dj,div_eq_of_lt->ci,div_le_self->dw,div_lt_iff_lt_mul->bv,div_lt_self->nm,eq_of_testBit_eq->ly,eq_zero_or_pos->br,le_refl->bu,lt_of_le_of_lt->bl,lt_of_lt_of_le->al,lt_or_ge->ax,lt_trans->fm,lt_trichotomy->fh,min_eq_left->gu,mod_add_div->iq,mod_eq_of_lt->bt,mod_lt->ca,mod_mod->qj,mod_mul->my,mod_two_eq_zero_or_one->jk,mul_add->bw,mul_assoc->bh,mul_comm->be,mul_div_cancel->iy,mul_eq_zero->pp,mul_le_mul_left->cp,mul_le_mul_right->bc,mul_lt_mul_of_pos_left->ml,mul_lt_mul_of_pos_right->cj,mul_mod->qk,mul_mod_left->lx,mul_mod_mul_right->fj,mul_mod_right->lh,mul_one->gq,mul_pos->gz,mul_right_comm->jo,mul_zero->fd,one_mul->fw,or_comm->qi,pow_add->bj,pow_le_pow_right->ai,pow_lt_pow_iff_right->cu,pow_lt_pow_right->bq,pow_pos->go,pow_succ->dl,pow_succ'->jd,pow_zero->iu,strongRecOn->nn,sub_self->gr,sub_zero->mo,testBit_lt_two_pow->nd,testBit_succ->kv,testBit_two_pow->nu,testBit_two_pow_mul_add->ji,two_pow_pos->aj,zero_add->de,zero_le->dq,zero_mod->mm,zero_mul->ff
namespace Vx
open Go Go.Proofs
variable (p65:DW)(f65:DX)(p70:DE)(f70:DF)(p470:Vb)(f470:Vp)(p473:Vc)(f473:Vq)(p474:Xa)(f474:Xo)(p476:Xb)(f476:Xp)(p67:IJ)(f67:IN)(p73:Xd)(f73:Xr)(p68:Vf)(f68:Vt)(p477:eP)(f477:fF)(p158:Cv)(f158:Cw)(p74:Xe)(f74:Xs)(p75:eU)(f75:fI)(p76:Xf)(f76:Xt)(p127:U3)(f127:Vh)(p128:U4)(f128:Vi)(p129:U5)(f129:Vj)
abbrev HF:Aa:=[(false,Ze),(false,Ze)]
abbrev HT:Aa:=[(false,Ze)]
abbrev H8:Pat:=⟨47,[(6,.one (.v .u64)),(1,.one (.sl Zb)),(0,.one (.sl Zb)),(7,.one (.v .i64)),(5,.one (.own 0))],[.arr Zb]⟩
abbrev kG:List (Nat×Shape):=[]
abbrev NO:List (Nat×Pat):=[(0,⟨47,[(5,.one (.own 0))],[.arr Zb]⟩)]
abbrev M0:Option Pat:=none
variable (w130_4:Pat.D H8->Option (Ad NO M0))
def XZ(p158:Cv)(f158:Cw){R:Type}(L:Pat.D H8->Option R)(e:Ad NO M0->Option R)(x:Pat.D H8):Option R:=let e9_:=(x.1.2.1,x.1.2.2.1,(aa .i64 (x.1.2.2.2.1+(1:Int))),(),());let e1_:=((1:Int),e9_);let e2_:=((0:Int),e9_);let e10_:=(x.1.2.2.1.getD (af x.1.2.2.2.1) (0:Int));let e3_:=(aa .u64 (e10_+(4294967296:Int)));let e4_:=(aa .u64 (x.1.1+(x.1.2.1.getD (af x.1.2.2.2.1) (0:Int))));let e11_:=(decide (x.1.2.2.2.1<(x.1.2.2.1.length:Int)));let e5_:=((decide ((0:Int)<=x.1.2.2.2.1))&&e11_);let e6_:=((decide ((0:Int)<=x.1.2.2.2.1))&&(decide (x.1.2.2.2.1<(x.2.1.length:Int))));let e7_:=e10_;let e8_:=(decide (x.1.2.2.2.1<(x.1.2.1.length:Int)));bif e11_ then(bif e8_ then(bif((decide ((0:Int)<=x.1.2.2.2.1))&&e8_)then(bif e5_ then(bif(decide (e7_<e4_))then(bif e6_ then(((L (e1_,(x.2.1.set (af x.1.2.2.2.1) (aa .u64 (e3_-e4_))),()))))else none)else bif e6_ then(((L (e2_,(x.2.1.set (af x.1.2.2.2.1) (aa .u64 (e7_-e4_))),()))))else none)else none)else none)else bif e5_ then(bif(decide (e7_<x.1.1))then(bif e6_ then(((L (e1_,(x.2.1.set (af x.1.2.2.2.1) (aa .u64 (e3_-x.1.1))),()))))else none)else bif e6_ then(((L (e2_,(x.2.1.set (af x.1.2.2.2.1) (aa .u64 (e7_-x.1.1))),()))))else none)else none)else(e (.inl (((),()),x.2)))
theorem bFW(d:Nat)(R:Type)(L:Pat.D H8->Option R)(e:Ad NO M0->Option R)(x:Pat.D H8):
  Br (cf [(105,⟨CV,CW,p158,f158⟩)] [(134,4,LoopSpec.of H8 kG NO M0 w130_4)]) (d+2) 134 (Bq Tryz.f134 4) H8 kG NO M0 (R:=R) L e x=XZ p158 f158 L e x:=by kernel_rfl
theorem aNJ(p158:Cv)(f158:Cw):Bo fun L e x=>XZ p158 f158 L e x:=by intro _ _ _ _ _ _ _ h0 hL he _;unfold XZ;repeat' (first|exact h0|exact hL _|exact he _|apply BB|(apply BC h0;intro _)|(apply BD<;>intro _))
def uL(p158:Cv)(f158:Cw)(w130_4:Pat.D H8->Option (Ad NO M0))(a0 a1:Ab Ze):Option (DenS HT):=
 bif((decide ((0:Int)<=(a0.length:Int)))&&(decide (((a0.length:Int)*(8:Int))<=(140737488355328:Int))))then(Vx.Ba (w130_4 (((0:Int),a1,a0,(0:Int),(),()),(aq (af (a0.length:Int)) (0:Int)),())) fun y1=>
 Vx.A9 y1 (fun y2=>
 bif(p158 y2.2)then(some (f158 y2.2))
 else none) (fun z2=>
 none))
 else none
theorem bCj(x:DenS HF):run (cf [(105,⟨CV,CW,p158,f158⟩)] [(134,4,LoopSpec.of H8 kG NO M0 w130_4)]) 9 134 Tryz.f134 HF HT x=uL p158 f158 w130_4 x.1 x.2.1:=by kernel_rfl
def oB:H8.D->Option (Ad NO M0):=Bf fun L=>XZ Ap.pre Ap.F L some
def WF(x:DenS HF):Option (DenS HT):=uL Ap.pre Ap.F oB x.1 x.2.1
def CI:Sum:=Ah HF HT WF (DenS.dflt HT)
theorem yU:Sound Tryz.prog G1 134 CI:=sd (cf [(105,Ap)] [(134,4,LoopSpec.of H8 kG NO M0 oB)]) 134 Tryz.f134 ⟨S3,trivial⟩ ⟨rfl,fun d=>BA (fun L e x=>XZ Ap.pre Ap.F L e x) (aNJ Ap.pre Ap.F) (fun _ _ _ _=>bFW ..),trivial⟩ HF HT WF _ (fun _=>bCj ..)
abbrev W4:=Af HF
abbrev Xi:=Ae HF HT
variable (p130:W4)(f130:Xi)
abbrev Q3:Aa:=[(true,Zs),(true,Zs)]
abbrev SQ:Aa:=[(true,Zs)]
def xO(p127:U3)(f127:Vh)(p128:U4)(f128:Vi)(p129:U5)(f129:Vj)(p130:W4)(f130:Xi)(a0 a1:Ab Zs):Option (DenS SQ):=let e7_:=(if(a1.2.2.1<a0.2.2.1)then a1.2.2.1 else a0.2.2.1);let e5_:=(f127 (a0.2.1,(aa .i64 (a0.2.2.1-e7_)),()));let e6_:=(f127 (a1.2.1,(aa .i64 (a1.2.2.1-e7_)),()));let e1_:=(e5_.1,e6_);let e2_:=(e6_.1,e5_);let e3_:=(e7_,());let e4_:=e7_;bif((a0.2.1.length:Int)==(0:Int))then(some ((a1.1,a1.2),()))else bif((a1.2.1.length:Int)==(0:Int))then(some ((a0.1,a0.2),()))else bif(p127 (a0.2.1,(aa .i64 (a0.2.2.1-e4_)),()))then(bif(p127 (a1.2.1,(aa .i64 (a1.2.2.1-e4_)),()))then(bif(a0.1==a1.1)then(bif(p128 e1_)then(some ((a0.1,(f128 e1_).1,e3_),()))else none)else bif(p129 e1_)then(bif(decide ((f129 e1_).1>=(0:Int)))then(bif(p130 e1_)then(some ((a0.1,(f130 e1_).1,e3_),()))else none)else bif(p130 e2_)then(some ((a1.1,(f130 e2_).1,e3_),()))else none)else none)else none)else none
theorem r78(x:DenS Q3):run (cf [(132,⟨HC,HQ,p127,f127⟩),(135,⟨HD,HR,p128,f128⟩),(133,⟨HE,HS,p129,f129⟩),(134,⟨HF,HT,p130,f130⟩)] []) 9 126 Tryz.f126 Q3 SQ x=xO p127 f127 p128 f128 p129 f129 p130 f130 x.1 x.2.1:=by kernel_rfl
def dS(x:DenS Q3):Option (DenS SQ):=xO CF.pre CF.F CG.pre CG.F CH.pre CH.F CI.pre CI.F x.1 x.2.1
def TI:Sum:=Ah Q3 SQ dS (DenS.dflt SQ)
theorem aUl:Sound Tryz.prog G1 126 TI:=sd (cf [(132,CF),(135,CG),(133,CH),(134,CI)] []) 126 Tryz.f126 ⟨yR,yS,yT,yU,trivial⟩ trivial Q3 SQ dS _ (fun _=>r78 ..)
abbrev Y78:=Af Q3
abbrev Z78:=Ae Q3 SQ
variable (p78:Y78)(f78:Z78)
abbrev HM:Aa:=[(false,Za),(false,.bool)]
abbrev HZ:Aa:=[(false,Zb)]
def t81(p67:IJ)(f67:IN)(a0:Ab Za)(a1:Ab (.bool)):Option (DenS HZ):=bif(p67 (a0,()))then(bif a1 then(some ((Be .u64 (1:Int) (aa .u64 (aa .i64 ((f67 (a0,())).1-(1:Int))))),()))else some ((0:Int),()))else none
theorem r81(x:DenS HM):run (cf [(31,⟨Fe,Fg,p67,f67⟩)] []) 9 70 Tryz.f70 HM HZ x=t81 p67 f67 x.1 x.2.1:=by kernel_rfl
def dT(x:DenS HM):Option (DenS HZ):=t81 B3.pre B3.F x.1 x.2.1
def DV:Sum:=Ah HM HZ dT (DenS.dflt HZ)
theorem nQ:Sound Tryz.prog G1 70 DV:=sd (cf [(31,B3)] []) 70 Tryz.f70 ⟨TF,trivial⟩ trivial HM HZ dT _ (fun _=>r81 ..)
abbrev eV:=Af HM
abbrev fJ:=Ae HM HZ
variable (p81:eV)(f81:fJ)
abbrev LR:Aa:=[(false,Za),(false,.bool)]
abbrev Ms:Aa:=[(false,Zb)]
def t37(p81:eV)(f81:fJ)(a0:Ab Za)(a1:Ab (.bool)):Option (DenS Ms):=bif(p81 (a0,a1,()))then(some (f81 (a0,a1,())))else none
theorem r37(x:DenS LR):run (cf [(70,⟨HM,HZ,p81,f81⟩)] []) 9 112 Tryz.f112 LR Ms x=t37 p81 f81 x.1 x.2.1:=by kernel_rfl
def bZ(x:DenS LR):Option (DenS Ms):=t37 DV.pre DV.F x.1 x.2.1
def Gl:Sum:=Ah LR Ms bZ (DenS.dflt Ms)
theorem aFd:Sound Tryz.prog G1 112 Gl:=sd (cf [(70,DV)] []) 112 Tryz.f112 ⟨nQ,trivial⟩ trivial LR Ms bZ _ (fun _=>r37 ..)
abbrev Y37:=Af LR
abbrev Z37:=Ae LR Ms
variable (p37:Y37)(f37:Z37)
abbrev Jw:Aa:=[(false,Za),(false,.bool)]
abbrev J3:Aa:=[(false,Zb)]
def aP6(p67:IJ)(f67:IN)(p81:eV)(f81:fJ)(a0:Ab Za)(a1:Ab (.bool)):Option (DenS J3):=bif(p67 (a0,()))then(bif(p81 (a0,a1,()))then(some ((aa .u64 ((aa .u64 ((Be .u64 (1:Int) (aa .u64 (aa .i64 ((f67 (a0,())).1-(1:Int)))))-(Be .u64 (1:Int) (aa .u64 (aa .i64 ((f67 (a0,())).2.1-(1:Int)))))))+(f81 (a0,a1,())).1)),()))else none)else none
theorem bCO(x:DenS Jw):run (cf [(31,⟨Fe,Fg,p67,f67⟩),(70,⟨HM,HZ,p81,f81⟩)] []) 9 109 Tryz.f109 Jw J3 x=aP6 p67 f67 p81 f81 x.1 x.2.1:=by kernel_rfl
def bG(x:DenS Jw):Option (DenS J3):=aP6 B3.pre B3.F DV.pre DV.F x.1 x.2.1
def Eh:Sum:=Ah Jw J3 bG (DenS.dflt J3)
theorem yY:Sound Tryz.prog G1 109 Eh:=sd (cf [(31,B3),(70,DV)] []) 109 Tryz.f109 ⟨TF,nQ,trivial⟩ trivial Jw J3 bG _ (fun _=>bCO ..)
abbrev o9:=Af Jw
abbrev pX:=Ae Jw J3
variable (p179:o9)(f179:pX)
abbrev Pr:Aa:=[(false,Za),(false,Za),(false,.bool)]
abbrev Rl:Aa:=[(false,Zb)]
def u6(p179:o9)(f179:pX)(a0 a1:Ab Za)(a2:Ab (.bool)):Option (DenS Rl):=bif((((a1==(0:Int))||(a1==(1:Int)))||((a1==(3:Int))&&(!a2)))||((a1==(4:Int))&&a2))then(bif(p179 (a0,a2,()))then(some (f179 (a0,a2,())))else none)else bif(p179 (a0,a2,()))then(some ((aa .u64 ((f179 (a0,a2,())).1-(1:Int))),()))else none
theorem bCD(x:DenS Pr):run (cf [(109,⟨Jw,J3,p179,f179⟩)] []) 9 129 Tryz.f129 Pr Rl x=u6 p179 f179 x.1 x.2.1 x.2.2.1:=by kernel_rfl
def bD(x:DenS Pr):Option (DenS Rl):=u6 Eh.pre Eh.F x.1 x.2.1 x.2.2.1
def S4:Sum:=Ah Pr Rl bD (DenS.dflt Rl)
theorem aSW:Sound Tryz.prog G1 129 S4:=sd (cf [(109,Eh)] []) 129 Tryz.f129 ⟨yY,trivial⟩ trivial Pr Rl bD _ (fun _=>bCD ..)
abbrev aIa:=Af Pr
abbrev aJO:=Ae Pr Rl
variable (p160:aIa)(f160:aJO)
abbrev Pt:Aa:=[(false,Ze)]
abbrev Rn:Aa:=[(false,Ze)]
abbrev Ie:Pat:=⟨41,[(0,.one (.sl Zb)),(4,.one (.v .i64)),(3,.one (.own 0))],[.arr Zb]⟩
abbrev kM:List (Nat×Shape):=[]
abbrev NU:List (Nat×Pat):=[(0,⟨41,[(3,.one (.own 0))],[.arr Zb]⟩)]
abbrev M6:Option Pat:=none
variable (w162_3:Pat.D Ie->Option (Ad NU M6))
def X5(p158:Cv)(f158:Cw){R:Type}(L:Pat.D Ie->Option R)(e:Ad NU M6->Option R)(x:Pat.D Ie):Option R:=let e1_:=((decide ((0:Int)<=(Bg .i64 x.1.2.1 (2:Int))))&&(decide ((Bg .i64 x.1.2.1 (2:Int))<(x.2.1.length:Int))));let e2_:=((decide ((0:Int)<=x.1.2.1))&&(decide (x.1.2.1<(x.1.1.length:Int))));let e3_:=(x.1.1,(aa .i64 (x.1.2.1+(1:Int))),(),());let e4_:=(af (Bg .i64 x.1.2.1 (2:Int)));bif(decide (x.1.2.1<(x.1.1.length:Int)))then(bif((gj x.1.2.1 (2:Int))==(0:Int))then(bif e2_ then(bif e1_ then(((L (e3_,(x.2.1.set e4_ (x.1.1.getD (af x.1.2.1) (0:Int))),()))))else none)else none)else bif e1_ then(bif e2_ then(bif e1_ then(((L (e3_,(x.2.1.set e4_ (aa .u64 ((x.2.1.getD e4_ (0:Int))+(aa .u64 ((x.1.1.getD (af x.1.2.1) (0:Int))*(4294967296:Int)))))),()))))else none)else none)else none)else(e (.inl (((),()),x.2)))
theorem bF2(d:Nat)(R:Type)(L:Pat.D Ie->Option R)(e:Ad NU M6->Option R)(x:Pat.D Ie):
  Br (cf [(105,⟨CV,CW,p158,f158⟩)] [(131,3,LoopSpec.of Ie kM NU M6 w162_3)]) (d+2) 131 (Bq Tryz.f131 3) Ie kM NU M6 (R:=R) L e x=X5 p158 f158 L e x:=by kernel_rfl
theorem aNP(p158:Cv)(f158:Cw):Bo fun L e x=>X5 p158 f158 L e x:=by intro _ _ _ _ _ _ _ h0 hL he _;unfold X5;repeat' (first|exact h0|exact hL _|exact he _|apply BB|(apply BC h0;intro _)|(apply BD<;>intro _))
def u9(p158:Cv)(f158:Cw)(w162_3:Pat.D Ie->Option (Ad NU M6))(a0:Ab Ze):Option (DenS Rn):=
 let e1_:=(Bg .i64 (aa .i64 ((a0.length:Int)+(1:Int))) (2:Int))
 bif((decide ((0:Int)<=e1_))&&(decide ((e1_*(8:Int))<=(140737488355328:Int))))then(Vx.Ba (w162_3 ((a0,(0:Int),(),()),(aq (af e1_) (0:Int)),())) fun y1=>
 Vx.A9 y1 (fun y2=>
 bif(p158 y2.2)then(some (f158 y2.2))
 else none) (fun z2=>
 none))
 else none
theorem bCF(x:DenS Pt):run (cf [(105,⟨CV,CW,p158,f158⟩)] [(131,3,LoopSpec.of Ie kM NU M6 w162_3)]) 9 131 Tryz.f131 Pt Rn x=u9 p158 f158 w162_3 x.1:=by kernel_rfl
def oF:Ie.D->Option (Ad NU M6):=Bf fun L=>X5 Ap.pre Ap.F L some
def WJ(x:DenS Pt):Option (DenS Rn):=u9 Ap.pre Ap.F oF x.1
def S6:Sum:=Ah Pt Rn WJ (DenS.dflt Rn)
theorem aSY:Sound Tryz.prog G1 131 S6:=sd (cf [(105,Ap)] [(131,3,LoopSpec.of Ie kM NU M6 oF)]) 131 Tryz.f131 ⟨S3,trivial⟩ ⟨rfl,fun d=>BA (fun L e x=>X5 Ap.pre Ap.F L e x) (aNP Ap.pre Ap.F) (fun _ _ _ _=>bF2 ..),trivial⟩ Pt Rn WJ _ (fun _=>bCF ..)
abbrev aIc:=Af Pt
abbrev aJQ:=Ae Pt Rn
variable (p162:aIc)(f162:aJQ)
abbrev Py:Aa:=[(false,Ze),(false,Za)]
abbrev Rs:Aa:=[(false,Ze)]
abbrev Ij:Pat:=⟨47,[(0,.one (.sl Zb)),(6,.one (.v .u64)),(7,.one (.v .i64)),(5,.one (.own 0))],[.acc Zb]⟩
abbrev kR:List (Nat×Shape):=[(5,Zb)]
abbrev NZ:List (Nat×Pat):=[(0,⟨47,[(5,.one (.own 0))],[.acc Zb]⟩)]
abbrev Nb:Option Pat:=none
variable (w180_4:Pat.D Ij->Option (Ad NZ Nb))
def X8(p158:Cv)(f158:Cw){R:Type}(L:Pat.D Ij->Option R)(e:Ad NZ Nb->Option R)(x:Pat.D Ij):Option R:=let e5_:=(aa .i64 (x.1.2.2.1+(1:Int)));let e1_:=((gj (Bg .u64 (aa .u64 ((x.1.1.getD (af x.1.2.2.1) (0:Int))+(aa .u64 ((x.1.1.getD (af e5_) (0:Int))*(4294967296:Int))))) x.1.2.1) (4294967296:Int))::[]);let e2_:=((gj (Bg .u64 (x.1.1.getD (af x.1.2.2.1) (0:Int)) x.1.2.1) (4294967296:Int))::[]);let e3_:=(decide (e5_<(x.1.1.length:Int)));let e4_:=(x.1.1,x.1.2.1,e5_,(),());bif(decide (x.1.2.2.1<(x.1.1.length:Int)))then(bif((decide ((0:Int)<=x.1.2.2.1))&&(decide (x.1.2.2.1<(x.1.1.length:Int))))then(bif e3_ then(bif((decide ((0:Int)<=e5_))&&e3_)then(bif(x.1.2.1 !=(0:Int))then(bif(((Vx.ED (x.2.1.length+e1_.length) 8)&&true)&&true)then(((L (e4_,(x.2.1++e1_),()))))else none)else none)else none)else bif(x.1.2.1 !=(0:Int))then(bif(((Vx.ED (x.2.1.length+e2_.length) 8)&&true)&&true)then(((L (e4_,(x.2.1++e2_),()))))else none)else none)else none)else(e (.inl (((),()),x.2)))
theorem bF7(d:Nat)(R:Type)(L:Pat.D Ij->Option R)(e:Ad NZ Nb->Option R)(x:Pat.D Ij):
  Br (cf [(105,⟨CV,CW,p158,f158⟩)] [(147,4,LoopSpec.of Ij kR NZ Nb w180_4)]) (d+2) 147 (Bq Tryz.f147 4) Ij kR NZ Nb (R:=R) L e x=X8 p158 f158 L e x:=by kernel_rfl
theorem aNS(p158:Cv)(f158:Cw):Bo fun L e x=>X8 p158 f158 L e x:=by intro _ _ _ _ _ _ _ h0 hL he _;unfold X8;repeat' (first|exact h0|exact hL _|exact he _|apply BB|(apply BC h0;intro _)|(apply BD<;>intro _))
def vH(p158:Cv)(f158:Cw)(w180_4:Pat.D Ij->Option (Ad NZ Nb))(a0:Ab Ze)(a1:Ab Za):Option (DenS Rs):=
 Vx.Ba (w180_4 ((a0,(Be .u64 (1:Int) (aa .u64 (gj a1 (32:Int)))),(Bg .i64 a1 (32:Int)),(),()),[],())) fun y0=>
 Vx.A9 y0 (fun y1=>
 bif(p158 y1.2)then(some (f158 y1.2))
 else none) (fun z1=>
 none)
theorem bCP(x:DenS Py):run (cf [(105,⟨CV,CW,p158,f158⟩)] [(147,4,LoopSpec.of Ij kR NZ Nb w180_4)]) 9 147 Tryz.f147 Py Rs x=vH p158 f158 w180_4 x.1 x.2.1:=by kernel_rfl
def oI:Ij.D->Option (Ad NZ Nb):=Bf fun L=>X8 Ap.pre Ap.F L some
def WO(x:DenS Py):Option (DenS Rs):=vH Ap.pre Ap.F oI x.1 x.2.1
def S7:Sum:=Ah Py Rs WO (DenS.dflt Rs)
theorem aS3:Sound Tryz.prog G1 147 S7:=sd (cf [(105,Ap)] [(147,4,LoopSpec.of Ij kR NZ Nb oI)]) 147 Tryz.f147 ⟨S3,trivial⟩ ⟨rfl,fun d=>BA (fun L e x=>X8 Ap.pre Ap.F L e x) (aNS Ap.pre Ap.F) (fun _ _ _ _=>bF7 ..),trivial⟩ Py Rs WO _ (fun _=>bCP ..)
abbrev aIh:=Af Py
abbrev aJV:=Ae Py Rs
variable (p180:aIh)(f180:aJV)
abbrev Ps:Aa:=[(false,Za),(true,Zs),(false,Za)]
abbrev Rm:Aa:=[(false,Ze),(false,.bool)]
def u7(p180:aIh)(f180:aJV)(p130:W4)(f130:Xi)(p127:U3)(f127:Vh)(p129:U5)(f129:Vj)(p128:U4)(f128:Vi)(a0:Ab Za)(a1:Ab Zs)(a2:Ab Za):Option (DenS Rm):=let e20_:=(aa .i64 (a2-a1.2.2.1));let e19_:=(e20_,());let e18_:=(a1.2.1,e19_);let e17_:=(f180 e18_);let e13_:=(e17_.1,e19_);let e12_:=(f130 (a1.2.1,(f127 e13_)));let e14_:=(((1:Int)::[]),(aa .i64 (e20_-(1:Int))),());let e1_:=(f129 (e12_.1,(f127 e14_)));let e16_:=(e17_.1.length:Int);let e2_:=((decide (e16_>(0:Int)))&&((gj (e17_.1.getD (af (0:Int)) (0:Int)) (2:Int))==(1:Int)));let e3_:=e12_;let e4_:=e13_;let e15_:=(e17_.1,((1:Int)::[]),());let e5_:=((f128 e15_).1,true,());let e6_:=e14_;let e7_:=(p128 e15_);let e8_:=e16_;let e9_:=(e17_.1,true,());let e10_:=(a1.2.1,(aa .i64 (a1.2.2.1-a2)),());let e11_:=e18_;bif(decide (a2<=a1.2.2.1))then(bif(p127 e10_)then(some ((f127 e10_).1,false,()))else none)else bif(p180 e11_)then(bif(p127 e4_)then(bif(p130 (a1.2.1,(f127 e4_)))then(bif((e3_.1.length:Int)==(0:Int))then(some ((f180 e11_).1,false,()))else bif(p127 e6_)then(bif(p129 (e3_.1,(f127 e6_)))then(bif((decide ((0:Int)<e8_))||(!(decide (e8_>(0:Int)))))then(bif(a0==(0:Int))then(bif((decide (e1_.1>(0:Int)))||((e1_.1==(0:Int))&&e2_))then(bif e7_ then(some e5_)else none)else some e9_)else bif(a0==(1:Int))then(bif(decide (e1_.1>=(0:Int)))then(bif e7_ then(some e5_)else none)else some e9_)else bif(a0==(3:Int))then(bif(!a1.1)then(bif e7_ then(some e5_)else none)else some e9_)else bif(a0==(4:Int))then(bif a1.1 then(bif e7_ then(some e5_)else none)else some e9_)else bif(a0==(5:Int))then(bif(!e2_)then(bif e7_ then(some e5_)else none)else some e9_)else some e9_)else none)else none)else none)else none)else none)else none
theorem bCE(x:DenS Ps):run (cf [(147,⟨Py,Rs,p180,f180⟩),(134,⟨HF,HT,p130,f130⟩),(132,⟨HC,HQ,p127,f127⟩),(133,⟨HE,HS,p129,f129⟩),(135,⟨HD,HR,p128,f128⟩)] []) 9 130 Tryz.f130 Ps Rm x=u7 p180 f180 p130 f130 p127 f127 p129 f129 p128 f128 x.1 x.2.1 x.2.2.1:=by kernel_rfl
def bE(x:DenS Ps):Option (DenS Rm):=u7 S7.pre S7.F CI.pre CI.F CF.pre CF.F CH.pre CH.F CG.pre CG.F x.1 x.2.1 x.2.2.1
def S5:Sum:=Ah Ps Rm bE (DenS.dflt Rm)
theorem aSX:Sound Tryz.prog G1 130 S5:=sd (cf [(147,S7),(134,CI),(132,CF),(133,CH),(135,CG)] []) 130 Tryz.f130 ⟨aS3,yU,yR,yT,yS,trivial⟩ trivial Ps Rm bE _ (fun _=>bCE ..)
abbrev aIb:=Af Ps
abbrev aJP:=Ae Ps Rm
variable (p161:aIb)(f161:aJP)
abbrev Ju:Aa:=[(false,Ze)]
abbrev J1:Aa:=[(false,Za)]
abbrev Ic:Pat:=⟨27,[(4,.one (.v .u64)),(3,.one (.v .i64))],[]⟩
abbrev kL:List (Nat×Shape):=[]
abbrev NT:List (Nat×Pat):=[(0,⟨27,[(3,.one (.v .i64))],[]⟩)]
abbrev M5:Option Pat:=none
variable (w159_6:Pat.D Ic->Option (Ad NT M5))
def X4(p158:Cv)(f158:Cw){R:Type}(L:Pat.D Ic->Option R)(e:Ad NT M5->Option R)(x:Pat.D Ic):Option R:=bif(decide (x.1.1>(0:Int)))then(((L (((Bg .u64 x.1.1 (2:Int)),(aa .i64 (x.1.2.1+(1:Int))),()),()))))else(e (.inl (x.1.2,())))
theorem bF1(d:Nat)(R:Type)(L:Pat.D Ic->Option R)(e:Ad NT M5->Option R)(x:Pat.D Ic):
  Br (cf [(105,⟨CV,CW,p158,f158⟩)] [(128,6,LoopSpec.of Ic kL NT M5 w159_6)]) (d+2) 128 (Bq Tryz.f128 6) Ic kL NT M5 (R:=R) L e x=X4 p158 f158 L e x:=by kernel_rfl
theorem aNO(p158:Cv)(f158:Cw):Bo fun L e x=>X4 p158 f158 L e x:=by intro _ _ _ _ _ _ _ h0 hL he _;unfold X4;repeat' (first|exact h0|exact hL _|exact he _|apply BB|(apply BC h0;intro _)|(apply BD<;>intro _))
def u5(p158:Cv)(f158:Cw)(w159_6:Pat.D Ic->Option (Ad NT M5))(a0:Ab Ze):Option (DenS J1):=
 let e1_:=(aa .i64 (((f158 (a0,())).1.length:Int)-(1:Int)))
 bif(p158 (a0,()))then(bif(((f158 (a0,())).1.length:Int)==(0:Int))then(some ((0:Int),()))
 else bif((decide ((0:Int)<=e1_))&&(decide (e1_<((f158 (a0,())).1.length:Int))))then(Vx.Ba (w159_6 ((((f158 (a0,())).1.getD (af e1_) (0:Int)),(aa .i64 ((32:Int)*e1_)),()),())) fun y3=>
 Vx.A9 y3 (fun y4=>
 some y4.1) (fun z4=>
 none))
 else none)
 else none
theorem bCC(x:DenS Ju):run (cf [(105,⟨CV,CW,p158,f158⟩)] [(128,6,LoopSpec.of Ic kL NT M5 w159_6)]) 9 128 Tryz.f128 Ju J1 x=u5 p158 f158 w159_6 x.1:=by kernel_rfl
def oE:Ic.D->Option (Ad NT M5):=Bf fun L=>X4 Ap.pre Ap.F L some
def bB(x:DenS Ju):Option (DenS J1):=u5 Ap.pre Ap.F oE x.1
def Dm:Sum:=Ah Ju J1 bB (DenS.dflt J1)
theorem aE3:Sound Tryz.prog G1 128 Dm:=sd (cf [(105,Ap)] [(128,6,LoopSpec.of Ic kL NT M5 oE)]) 128 Tryz.f128 ⟨S3,trivial⟩ ⟨rfl,fun d=>BA (fun L e x=>X4 Ap.pre Ap.F L e x) (aNO Ap.pre Ap.F) (fun _ _ _ _=>bF1 ..),trivial⟩ Ju J1 bB _ (fun _=>bCC ..)
abbrev eM:=Af Ju
abbrev fC:=Ae Ju J1
variable (p159:eM)(f159:fC)
abbrev LG:Aa:=[(false,Za),(false,Za),(true,Zs)]
abbrev Mk:Aa:=[(false,Zb),(false,Za)]
def uH(p67:IJ)(f67:IN)(p160:aIa)(f160:aJO)(p81:eV)(f81:fJ)(p162:aIc)(f162:aJQ)(p161:aIb)(f161:aJP)(p159:eM)(f159:fC)(a0 a1:Ab Za)(a2:Ab Zs):Option (DenS Mk):=let e22_:=(aa .i64 ((aa .i64 (a2.2.2.1+(f159 (a2.2.1,())).1))-(1:Int)));let e18_:=(aa .i64 ((aa .i64 ((if((f67 (a0,())).2.2.1>e22_)then(f67 (a0,())).2.2.1 else e22_)-(f67 (a0,())).2.1))+(1:Int)));let e17_:=(f161 (a1,(a2.1,a2.2),e18_,()));let e16_:=(e17_.1,());let e15_:=(f162 e16_);let e14_:=(aa .u64 ((f81 (a0,a2.1,())).1+(aa .u64 ((e15_.1.getD (af (0:Int)) (0:Int))+(Be .u64 (aa .u64 (aa .i64 (e18_-(aa .i64 ((aa .i64 ((f67 (a0,())).2.2.1-(f67 (a0,())).2.1))+(1:Int)))))) (aa .u64 (aa .i64 ((f67 (a0,())).2.1-(1:Int)))))))));let e1_:=(e14_,(16:Int),());let e2_:=e14_;let e21_:=(aa .i64 (e22_-(f67 (a0,())).2.1));let e20_:=(a1,(a2.1,a2.2),(aa .i64 (e21_+(1:Int))),());let e19_:=((f161 e20_).1,());let e3_:=(decide ((aa .i64 (e21_+(f159 e19_).1))<(f67 (a0,())).2.2.1));let e4_:=(e15_.1.length:Int);let e5_:=e16_;let e6_:=(!e17_.2.1);let e7_:=e18_;let e8_:=(p159 e19_);let e9_:=(p161 e20_);let e10_:=(decide (e22_<(f67 (a0,())).2.2.1));let e11_:=(aa .i64 ((1:Int)-(f67 (a0,())).2.2.1));let e12_:=((f160 (a0,a1,a2.1,())).1,(20:Int),());let e13_:=((Ai .i64 (16:Int) (8:Int)),());bif(p67 (a0,()))then(bif(p159 (a2.2.1,()))then(bif(decide (e22_>e11_))then(bif(p160 (a0,a1,a2.1,()))then(some e12_)else none)else bif(p161 (a1,(a2.1,a2.2),e7_,()))then(bif(p159 e5_)then(bif(decide ((aa .i64 ((aa .i64 (e7_+(f159 e5_).1))-(1:Int)))>e11_))then(bif(p160 (a0,a1,a2.1,()))then(some e12_)else none)else bif(p81 (a0,a2.1,()))then(bif(p162 e5_)then(bif(decide (e4_>(0:Int)))then(bif(decide ((0:Int)<e4_))then(bif e6_ then(some (e2_,(0:Int),()))else bif e10_ then(bif e9_ then(bif e8_ then(bif e3_ then(some (e2_,e13_))else some e1_)else none)else none)else some e1_)else none)else bif e6_ then(some ((f81 (a0,a2.1,())).1,(0:Int),()))else bif e10_ then(bif e9_ then(bif e8_ then(bif e3_ then(some ((f81 (a0,a2.1,())).1,e13_))else some ((f81 (a0,a2.1,())).1,(16:Int),()))else none)else none)else some ((f81 (a0,a2.1,())).1,(16:Int),()))else none)else none)else none)else none)else none)else none
theorem bCf(x:DenS LG):run (cf [(31,⟨Fe,Fg,p67,f67⟩),(129,⟨Pr,Rl,p160,f160⟩),(70,⟨HM,HZ,p81,f81⟩),(131,⟨Pt,Rn,p162,f162⟩),(130,⟨Ps,Rm,p161,f161⟩),(128,⟨Ju,J1,p159,f159⟩)] []) 9 113 Tryz.f113 LG Mk x=uH p67 f67 p160 f160 p81 f81 p162 f162 p161 f161 p159 f159 x.1 x.2.1 x.2.2.1:=by kernel_rfl
def aQ(x:DenS LG):Option (DenS Mk):=uH B3.pre B3.F S4.pre S4.F DV.pre DV.F S6.pre S6.F S5.pre S5.F Dm.pre Dm.F x.1 x.2.1 x.2.2.1
def Gi:Sum:=Ah LG Mk aQ (DenS.dflt Mk)
theorem aEY:Sound Tryz.prog G1 113 Gi:=sd (cf [(31,B3),(129,S4),(70,DV),(131,S6),(130,S5),(128,Dm)] []) 113 Tryz.f113 ⟨TF,aSW,nQ,aSY,aSX,aE3,trivial⟩ trivial LG Mk aQ _ (fun _=>bCf ..)
abbrev aAr:=Af LG
abbrev aA8:=Ae LG Mk
variable (p126:aAr)(f126:aA8)
abbrev Mc:Aa:=[(false,Za),(false,Za),(true,Zs),(false,.bool)]
abbrev MN:Aa:=[(false,Zb),(false,Za)]
def xN(p37:Y37)(f37:Z37)(p126:aAr)(f126:aA8)(a0 a1:Ab Za)(a2:Ab Zs)(a3:Ab (.bool)):Option (DenS MN):=bif((a2.2.1.length:Int)==(0:Int))then(bif(p37 (a0,a3,()))then(some ((f37 (a0,a3,())).1,(0:Int),()))else none)else bif(p126 (a0,a1,(a2.1,a2.2),()))then(some (f126 (a0,a1,(a2.1,a2.2),())))else none
theorem r77(x:DenS Mc):run (cf [(112,⟨LR,Ms,p37,f37⟩),(113,⟨LG,Mk,p126,f126⟩)] []) 9 110 Tryz.f110 Mc MN x=xN p37 f37 p126 f126 x.1 x.2.1 x.2.2.1 x.2.2.2.1:=by kernel_rfl
def dR(x:DenS Mc):Option (DenS MN):=xN Gl.pre Gl.F Gi.pre Gi.F x.1 x.2.1 x.2.2.1 x.2.2.2.1
def Gs:Sum:=Ah Mc MN dR (DenS.dflt MN)
theorem aFD:Sound Tryz.prog G1 110 Gs:=sd (cf [(112,Gl),(113,Gi)] []) 110 Tryz.f110 ⟨aFd,aEY,trivial⟩ trivial Mc MN dR _ (fun _=>r77 ..)
abbrev Y77:=Af Mc
abbrev Z77:=Ae Mc MN
variable (p77:Y77)(f77:Z77)
abbrev LN:Aa:=[(false,Za),(false,Za),(false,Zb),(false,Zb)]
abbrev Mp:Aa:=[(false,Zb),(false,Za),(false,Za)]
def vP(p73:Xd)(f73:Xr)(p68:Vf)(f68:Vt)(p74:Xe)(f74:Xs)(p75:eU)(f75:fI)(p76:Xf)(f76:Xt)(p78:Y78)(f78:Z78)(p77:Y77)(f77:Z77)(a0 a1:Ab Za)(a2 a3:Ab Zb):Option (DenS Mp):=let e8_:=((f74 (a0,a2,())).1.2.2.2.2.1,(f74 (a0,a3,())).1.2.2.2.2);let e7_:=(f78 e8_);let e1_:=(f77 (a0,a1,e7_.1,(f74 (a0,a2,())).1.2.2.2.1,()));let e2_:=(f77 (a0,a1,e7_.1,(a1==(4:Int)),()));let e3_:=(p78 e8_);let e4_:=e7_;let e5_:=((f74 (a0,a2,())).1.2.2.2.1==(f74 (a0,a3,())).1.2.2.2.1);let e6_:=((f75 (a0,())).1,(1:Int),(0:Int),());bif(p73 (a0,a1,()))then(bif((f73 (a0,a1,())).1 !=(0:Int))then(some ((0:Int),(0:Int),(f73 (a0,a1,()))))else bif(p68 (a0,a2,()))then(bif((p68 (a0,a3,()))||(!(bif(!(f68 (a0,a2,())).1)then false else true)))then(bif((!(f68 (a0,a2,())).1)||(!(f68 (a0,a3,())).1))then(some ((0:Int),(0:Int),(4:Int),()))else bif(p74 (a0,a2,()))then(bif(p74 (a0,a3,()))then(bif((f74 (a0,a2,())).1.2.1||(f74 (a0,a3,())).1.2.1)then(bif(p75 (a0,()))then(some e6_)else none)else bif((f74 (a0,a2,())).1.1||(f74 (a0,a3,())).1.1)then(bif(p75 (a0,()))then(some ((f75 (a0,())).1,(0:Int),(0:Int),()))else none)else bif(((f74 (a0,a2,())).1.2.2.1&&(f74 (a0,a3,())).1.2.2.1)&&(!e5_))then(bif(p75 (a0,()))then(some e6_)else none)else bif(f74 (a0,a2,())).1.2.2.1 then(some (a2,(0:Int),(0:Int),()))else bif(f74 (a0,a3,())).1.2.2.1 then(some (a3,(0:Int),(0:Int),()))else bif(p76 (f74 (a0,a2,())))then(bif((p76 (f74 (a0,a3,())))||(!(f76 (f74 (a0,a2,()))).1))then(bif(((f76 (f74 (a0,a2,()))).1&&(f76 (f74 (a0,a3,()))).1)&&e5_)then(bif e3_ then(bif(p77 (a0,a1,e4_.1,(f74 (a0,a2,())).1.2.2.2.1,()))then(some (e1_.1,e1_.2.1,(0:Int),()))else none)else none)else bif e3_ then(bif(p77 (a0,a1,e4_.1,(a1==(4:Int)),()))then(some (e2_.1,e2_.2.1,(0:Int),()))else none)else none)else none)else none)else none)else none)else none)else none)else none
theorem r28(x:DenS LN):run (cf [(55,⟨JM,Kn,p73,f73⟩),(77,⟨HL,HY,p68,f68⟩),(33,⟨JN,Ko,p74,f74⟩),(86,⟨JO,Kp,p75,f75⟩),(75,⟨JP,Kq,p76,f76⟩),(126,⟨Q3,SQ,p78,f78⟩),(110,⟨Mc,MN,p77,f77⟩)] []) 9 107 Tryz.f107 LN Mp x=vP p73 f73 p68 f68 p74 f74 p75 f75 p76 f76 p78 f78 p77 f77 x.1 x.2.1 x.2.2.1 x.2.2.2.1:=by kernel_rfl
def WQ(x:DenS LN):Option (DenS Mp):=vP Dq.pre Dq.F CL.pre CL.F Em.pre Em.F En.pre En.F Eo.pre Eo.F TI.pre TI.F Gs.pre Gs.F x.1 x.2.1 x.2.2.1 x.2.2.2.1
def Gk:Sum:=Ah LN Mp WQ (DenS.dflt Mp)
theorem aE9:Sound Tryz.prog G1 107 Gk:=sd (cf [(55,Dq),(77,CL),(33,Em),(86,En),(75,Eo),(126,TI),(110,Gs)] []) 107 Tryz.f107 ⟨aFC,zM,zN,zO,zP,aUl,aFD,trivial⟩ trivial LN Mp WQ _ (fun _=>r28 ..)
abbrev Y28:=Af LN
abbrev Z28:=Ae LN Mp
variable (p28:Y28)(f28:Z28)
abbrev JI:Aa:=[(false,Zb),(false,Zb)]
abbrev Ki:Aa:=[(false,Zb)]
abbrev Fx:LK:=.ref Zp
def wV(p28:Y28)(f28:Z28)(l0:LK.D (.ref Zp))(a0 a1:Ab Zb):Option (LK.B Fx×DenS Ki):=bif(p28 (l0.1,l0.2.1,a0,a1,()))then(some ((l0.1,l0.2.1,(Ai .i64 l0.2.2.1 (f28 (l0.1,l0.2.1,a0,a1,())).2.1),()),(f28 (l0.1,l0.2.1,a0,a1,())).1,()))else none
theorem bEz(x:LK.D Fx×DenS JI):C2 (cf [(107,⟨LN,Mp,p28,f28⟩)] []) 9 78 Tryz.f78 Fx JI Ki x=wV p28 f28 x.1 x.2.1 x.2.2.1:=by kernel_rfl
def cV(x:LK.D Fx×DenS JI):Option (LK.B Fx×DenS Ki):=wV Gk.pre Gk.F x.1 x.2.1 x.2.2.1
def El:SumL:=C3 Fx JI Ki cV (LK.dflt Fx,DenS.dflt Ki)
theorem zJ:SoundL Tryz.prog G1 78 El:=Ea (cf [(107,Gk)] []) 78 Tryz.f78 ⟨aE9,trivial⟩ trivial Fx JI Ki cV _ (fun _=>bEz ..)
abbrev pK:=LK.D Fx×DenS JI->Bool
abbrev qH:=LK.D Fx×DenS JI->LK.B Fx×DenS Ki
variable (p478:pK)(f478:qH)
abbrev QR:Aa:=[(true,Zj),(true,Zj)]
abbrev SF:Aa:=[(true,Zj)]
abbrev GM:LK:=.ref Zp
def wW(p478:pK)(f478:qH)(l0:LK.D (.ref Zp))(a0 a1:Ab Zj):Option (LK.B GM×DenS SF):=let e2_:=((f478 ((l0.1,l0.2),a0.1,a1.1,())).1,a0.2.1,a1.2);let e1_:=(f478 e2_);bif(p478 ((l0.1,l0.2),a0.1,a1.1,()))then(bif(p478 e2_)then(some (e1_.1,((f478 ((l0.1,l0.2),a0.1,a1.1,())).2.1,e1_.2),()))else none)else none
theorem bEA(x:LK.D GM×DenS QR):C2 ({cf [] []with lsums:=[(78,⟨Fx,JI,Ki,p478,f478⟩)] }) 9 40 Tryz.f40 GM QR SF x=wW p478 f478 x.1 x.2.1 x.2.2.1:=by kernel_rfl
def cX(x:LK.D GM×DenS QR):Option (LK.B GM×DenS SF):=wW El.pre El.F x.1 x.2.1 x.2.2.1
def Ty:SumL:=C3 GM QR SF cX (LK.dflt GM,DenS.dflt SF)
theorem aT3:SoundL Tryz.prog G1 40 Ty:=Ea ({cf [] []with lsums:=[(78,El)] }) 40 Tryz.f40 trivial trivial GM QR SF cX _ (fun _=>bEA ..) (hls:=⟨zJ,trivial⟩)
abbrev aJa:=LK.D GM×DenS QR->Bool
abbrev aKO:=LK.D GM×DenS QR->LK.B GM×DenS SF
variable (p479:aJa)(f479:aKO)
abbrev L5:Aa:=[(false,Za),(false,Za),(true,Zj),(true,Zj)]
abbrev MG:Aa:=[(true,Zj),(false,Za),(false,Za)]
def wX(p477:eP)(f477:fF)(p479:aJa)(f479:aKO)(a0 a1:Ab Za)(a2 a3:Ab Zj):Option (DenS MG):=let e3_:=((a0,a1,(0:Int),()),(a2.1,a2.2),(a3.1,a3.2),());let e1_:=(f479 e3_);let e4_:=(a0,a1,((a2.1,a2.2)::((a3.1,a3.2)::[])),());let e2_:=(f477 e4_);bif(p477 e4_)then(bif(e2_.1 !=(0:Int))then(some (((0:Int),(0:Int),()),(0:Int),e2_))else bif(p479 e3_)then(some (e1_.2.1,e1_.1.2.2.1,(0:Int),()))else none)else none
theorem bEB(x:DenS L5):run ({cf [(39,⟨JH,Kh,p477,f477⟩)] []with lsums:=[(40,⟨GM,QR,SF,p479,f479⟩)] }) 9 11 Tryz.f11 L5 MG x=wX p477 f477 p479 f479 x.1 x.2.1 x.2.2.1 x.2.2.2.1:=by kernel_rfl
def cY(x:DenS L5):Option (DenS MG):=wX Ek.pre Ek.F Ty.pre Ty.F x.1 x.2.1 x.2.2.1 x.2.2.2.1
def ET:Sum:=Ah L5 MG cY (DenS.dflt MG)
theorem aT4:Sound Tryz.prog G1 11 ET:=sd ({cf [(39,Ek)] []with lsums:=[(40,Ty)] }) 11 Tryz.f11 ⟨zI,trivial⟩ trivial L5 MG cY _ (fun _=>bEB ..) (hls:=⟨aT3,trivial⟩)
abbrev pL:=Af L5
abbrev qI:=Ae L5 MG
variable (p480:pL)(f480:qI)
abbrev QS:Aa:=[(false,Ze),(false,Ze)]
abbrev SG:Aa:=[(false,Ze)]
abbrev Gf:Pat:=⟨67,[(0,.one (.sl Zb)),(1,.one (.sl Zb)),(6,.one (.v .i64)),(5,.one (.own 0))],[.arr Zb]⟩
abbrev ZM:List (Nat×Shape):=[]
abbrev KW:List (Nat×Pat):=[(0,⟨67,[(5,.one (.own 0))],[.arr Zb]⟩)]
abbrev KA:Option Pat:=none
abbrev FG:Pat:=⟨67,[(8,.one (.v .i64)),(7,.one (.v .u64)),(6,.one (.v .i64)),(0,.one (.sl Zb)),(1,.one (.sl Zb)),(5,.one (.own 0))],[.arr Zb]⟩
abbrev ZN:List (Nat×Shape):=[]
abbrev G8:List (Nat×Pat):=[(2,⟨67,[(7,.one (.v .u64)),(6,.one (.v .i64)),(0,.one (.sl Zb)),(1,.one (.sl Zb)),(5,.one (.own 0))],[.arr Zb]⟩)]
abbrev G5:Option Pat:=none
variable (w481_3:Pat.D Gf->Option (Ad KW KA))(w481_7:Pat.D FG->Option (Ad G8 G5))
def Yp(p158:Cv)(f158:Cw){R:Type}(L:Pat.D FG->Option R)(e:Ad G8 G5->Option R)(x:Pat.D FG):Option R:=let e6_:=(aa .i64 (x.1.2.2.1+x.1.1));let e5_:=(af e6_);let e1_:=(aa .u64 ((aa .u64 ((x.2.1.getD e5_ (0:Int))+(aa .u64 ((x.1.2.2.2.1.getD (af x.1.2.2.1) (0:Int))*(x.1.2.2.2.2.1.getD (af x.1.1) (0:Int))))))+x.1.2.1));let e2_:=((decide ((0:Int)<=e6_))&&(decide (e6_<(x.2.1.length:Int))));let e3_:=(x.1.2.2.1,x.1.2.2.2.1,x.1.2.2.2.2.1,(),());let e4_:=(decide (x.1.1<(x.1.2.2.2.2.1.length:Int)));bif e4_ then(bif e2_ then(bif((decide ((0:Int)<=x.1.2.2.1))&&(decide (x.1.2.2.1<(x.1.2.2.2.1.length:Int))))then(bif((decide ((0:Int)<=x.1.1))&&e4_)then(bif e2_ then(((L (((aa .i64 (x.1.1+(1:Int))),(Bg .u64 e1_ (4294967296:Int)),e3_),(x.2.1.set e5_ (gj e1_ (4294967296:Int))),()))))else none)else none)else none)else none)else(e (.inl ((x.1.2.1,e3_),x.2)))
theorem bGy(d:Nat)(R:Type)(L:Pat.D FG->Option R)(e:Ad G8 G5->Option R)(x:Pat.D FG):
  Br (cf [(105,⟨CV,CW,p158,f158⟩)] [(127,3,LoopSpec.of Gf ZM KW KA w481_3),(127,7,LoopSpec.of FG ZN G8 G5 w481_7)]) (d+2) 127 (Bq Tryz.f127 7) FG ZN G8 G5 (R:=R) L e x=Yp p158 f158 L e x:=by kernel_rfl
theorem aN9(p158:Cv)(f158:Cw):Bo fun L e x=>Yp p158 f158 L e x:=by intro _ _ _ _ _ _ _ h0 hL he _;unfold Yp;repeat' (first|exact h0|exact hL _|exact he _|apply BB|(apply BC h0;intro _)|(apply BD<;>intro _))
def Yo(p158:Cv)(f158:Cw)(w481_7:Pat.D FG->Option (Ad G8 G5)){R:Type}(L:Pat.D Gf->Option R)(e:Ad KW KA->Option R)(x:Pat.D Gf):Option R:=
 bif(decide (x.1.2.2.1<(x.1.1.length:Int)))then(Vx.Ba (w481_7 (((0:Int),(0:Int),x.1.2.2.1,x.1.1,x.1.2.1,(),()),x.2)) fun y1=>
 Vx.A9 y1 (fun y2=>
 bif((decide ((0:Int)<=(aa .i64 (y2.1.2.1+(y2.1.2.2.2.1.length:Int)))))&&(decide ((aa .i64 (y2.1.2.1+(y2.1.2.2.2.1.length:Int)))<(y2.2.1.length:Int))))then(bif((decide ((0:Int)<=(aa .i64 (y2.1.2.1+(y2.1.2.2.2.1.length:Int)))))&&(decide ((aa .i64 (y2.1.2.1+(y2.1.2.2.2.1.length:Int)))<(y2.2.1.length:Int))))then(((L ((y2.1.2.2.1,y2.1.2.2.2.1,(aa .i64 (y2.1.2.1+(1:Int))),(),()),(y2.2.1.set (af (aa .i64 (y2.1.2.1+(y2.1.2.2.2.1.length:Int)))) (aa .u64 ((y2.2.1.getD (af (aa .i64 (y2.1.2.1+(y2.1.2.2.2.1.length:Int)))) (0:Int))+y2.1.1))),()))))
 else none)
 else none) (fun z2=>
 none))
 else(e (.inl (((),()),x.2)))
theorem bGx(d:Nat)(R:Type)(L:Pat.D Gf->Option R)(e:Ad KW KA->Option R)(x:Pat.D Gf):
  Br (cf [(105,⟨CV,CW,p158,f158⟩)] [(127,3,LoopSpec.of Gf ZM KW KA w481_3),(127,7,LoopSpec.of FG ZN G8 G5 w481_7)]) (d+2) 127 (Bq Tryz.f127 3) Gf ZM KW KA (R:=R) L e x=Yo p158 f158 w481_7 L e x:=by kernel_rfl
theorem aN8(p158:Cv)(f158:Cw)(w481_7:Pat.D FG->Option (Ad G8 G5)):Bo fun L e x=>Yo p158 f158 w481_7 L e x:=by intro _ _ _ _ _ _ _ h0 hL he _;unfold Yo;repeat' (first|exact h0|exact hL _|exact he _|apply BB|(apply BC h0;intro _)|(apply BD<;>intro _))
def wY(p158:Cv)(f158:Cw)(w481_3:Pat.D Gf->Option (Ad KW KA))(w481_7:Pat.D FG->Option (Ad G8 G5))(a0 a1:Ab Ze):Option (DenS SG):=
 let e1_:=(aa .i64 ((a0.length:Int)+(a1.length:Int)))
 bif((decide ((0:Int)<=e1_))&&(decide ((e1_*(8:Int))<=(140737488355328:Int))))then(Vx.Ba (w481_3 ((a0,a1,(0:Int),(),()),(aq (af e1_) (0:Int)),())) fun y1=>
 Vx.A9 y1 (fun y2=>
 bif(p158 y2.2)then(some (f158 y2.2))
 else none) (fun z2=>
 none))
 else none
theorem bEC(x:DenS QS):run (cf [(105,⟨CV,CW,p158,f158⟩)] [(127,3,LoopSpec.of Gf ZM KW KA w481_3),(127,7,LoopSpec.of FG ZN G8 G5 w481_7)]) 9 127 Tryz.f127 QS SG x=wY p158 f158 w481_3 w481_7 x.1 x.2.1:=by kernel_rfl
def TP:FG.D->Option (Ad G8 G5):=Bf fun L=>Yp Ap.pre Ap.F L some
def oV:Gf.D->Option (Ad KW KA):=Bf fun L=>Yo Ap.pre Ap.F TP L some
def cZ(x:DenS QS):Option (DenS SG):=wY Ap.pre Ap.F oV TP x.1 x.2.1
def Tz:Sum:=Ah QS SG cZ (DenS.dflt SG)
theorem aT5:Sound Tryz.prog G1 127 Tz:=sd (cf [(105,Ap)] [(127,3,LoopSpec.of Gf ZM KW KA oV),(127,7,LoopSpec.of FG ZN G8 G5 TP)]) 127 Tryz.f127 ⟨S3,trivial⟩ ⟨rfl,fun d=>BA (fun L e x=>Yo Ap.pre Ap.F TP L e x) (aN8 Ap.pre Ap.F TP) (fun _ _ _ _=>bGx ..),⟨rfl,fun d=>BA (fun L e x=>Yp Ap.pre Ap.F L e x) (aN9 Ap.pre Ap.F) (fun _ _ _ _=>bGy ..),trivial⟩⟩ QS SG cZ _ (fun _=>bEC ..)
abbrev aJb:=Af QS
abbrev aKP:=Ae QS SG
variable (p481:aJb)(f481:aKP)
abbrev QT:Aa:=[(true,ZE),(true,ZE)]
abbrev SH:Aa:=[(true,ZF)]
def wZ(p76:Xf)(f76:Xt)(p481:aJb)(f481:aKP)(a0:Ab ZE)(a1:Ab ZE):Option (DenS SH):=let e2_:=((!(a0.2.2.2.1==a1.2.2.2.1)),(false,[],(0:Int),()),());let e1_:=((a0.1||a1.1),(a0.2.1||a1.2.1),false,e2_);bif((p76 ((a1.1,a1.2),()))||(!a0.2.2.1))then(bif((p76 ((a0.1,a0.2),()))||(!(bif(a0.2.2.1&&(f76 ((a1.1,a1.2),())).1)then false else true)))then(bif((a0.2.2.1&&(f76 ((a1.1,a1.2),())).1)||((f76 ((a0.1,a0.2),())).1&&a1.2.2.1))then(some ((true,e1_),()))else bif(a0.1||a1.1)then(some ((false,e1_),()))else bif(a0.2.2.1||a1.2.2.1)then(some ((false,(a0.1||a1.1),(a0.2.1||a1.2.1),true,e2_),()))else bif(p481 (a0.2.2.2.2.1.2.1,a1.2.2.2.2.1.2.1,()))then(some ((false,(a0.1||a1.1),(a0.2.1||a1.2.1),false,(!(a0.2.2.2.1==a1.2.2.2.1)),((!(a0.2.2.2.1==a1.2.2.2.1)),(f481 (a0.2.2.2.2.1.2.1,a1.2.2.2.2.1.2.1,())).1,(aa .i64 (a0.2.2.2.2.1.2.2.1+a1.2.2.2.2.1.2.2.1)),()),()),()))else none)else none)else none
theorem bED(x:DenS QT):run (cf [(75,⟨JP,Kq,p76,f76⟩),(127,⟨QS,SG,p481,f481⟩)] []) 9 108 Tryz.f108 QT SH x=wZ p76 f76 p481 f481 x.1 x.2.1:=by kernel_rfl
def dA(x:DenS QT):Option (DenS SH):=wZ Eo.pre Eo.F Tz.pre Tz.F x.1 x.2.1
def TA:Sum:=Ah QT SH dA (DenS.dflt SH)
theorem aT6:Sound Tryz.prog G1 108 TA:=sd (cf [(75,Eo),(127,Tz)] []) 108 Tryz.f108 ⟨zP,aT5,trivial⟩ trivial QT SH dA _ (fun _=>bED ..)
abbrev aJc:=Af QT
abbrev aKQ:=Ae QT SH
variable (p482:aJc)(f482:aKQ)
abbrev L6:Aa:=[(false,Zb),(false,Zb)]
abbrev MH:Aa:=[(false,Zb)]
abbrev F6:LK:=.ref Zp
def w0(p74:Xe)(f74:Xs)(p482:aJc)(f482:aKQ)(p75:eU)(f75:fI)(p179:o9)(f179:pX)(p77:Y77)(f77:Z77)(l0:LK.D (.ref Zp))(a0 a1:Ab Zb):Option (LK.B F6×DenS MH):=let e6_:=((f74 (l0.1,a0,())).1,(f74 (l0.1,a1,())));let e5_:=(f482 e6_);let e4_:=(e5_.1.2.2.2.2.1,());let e1_:=(f77 (l0.1,l0.2.1,e5_.1.2.2.2.2.2.1,e4_));let e2_:=(l0.1,e4_);let e3_:=e5_;bif(p74 (l0.1,a0,()))then(bif(p74 (l0.1,a1,()))then(bif(p482 e6_)then(bif(e3_.1.1||e3_.1.2.2.1)then(bif(p75 (l0.1,()))then(some ((l0.1,l0.2.1,(Ai .i64 l0.2.2.1 (1:Int)),()),(f75 (l0.1,()))))else none)else bif e3_.1.2.1 then(bif(p75 (l0.1,()))then(some ((l0.1,l0.2),(f75 (l0.1,()))))else none)else bif e3_.1.2.2.2.1 then(bif(p179 e2_)then(some ((l0.1,l0.2),(f179 e2_)))else none)else bif(p77 (l0.1,l0.2.1,e3_.1.2.2.2.2.2.1,e3_.1.2.2.2.2.1,()))then(some ((l0.1,l0.2.1,(Ai .i64 l0.2.2.1 e1_.2.1),()),e1_.1,()))else none)else none)else none)else none
theorem bEE(x:LK.D F6×DenS L6):C2 (cf [(33,⟨JN,Ko,p74,f74⟩),(108,⟨QT,SH,p482,f482⟩),(86,⟨JO,Kp,p75,f75⟩),(109,⟨Jw,J3,p179,f179⟩),(110,⟨Mc,MN,p77,f77⟩)] []) 9 81 Tryz.f81 F6 L6 MH x=w0 p74 f74 p482 f482 p75 f75 p179 f179 p77 f77 x.1 x.2.1 x.2.2.1:=by kernel_rfl
def dB(x:LK.D F6×DenS L6):Option (LK.B F6×DenS MH):=w0 Em.pre Em.F TA.pre TA.F En.pre En.F Eh.pre Eh.F Gs.pre Gs.F x.1 x.2.1 x.2.2.1
def Gq:SumL:=C3 F6 L6 MH dB (LK.dflt F6,DenS.dflt MH)
theorem aFA:SoundL Tryz.prog G1 81 Gq:=Ea (cf [(33,Em),(108,TA),(86,En),(109,Eh),(110,Gs)] []) 81 Tryz.f81 ⟨zN,aT6,zO,yY,aFD,trivial⟩ trivial F6 L6 MH dB _ (fun _=>bEE ..)
abbrev aAY:=LK.D F6×DenS L6->Bool
abbrev aBF:=LK.D F6×DenS L6->LK.B F6×DenS MH
variable (p483:aAY)(f483:aBF)
abbrev PM:Aa:=[(false,Za),(false,Zb)]
abbrev RE:Aa:=[(false,Zb)]
def vS(p81:eV)(f81:fJ)(a0:Ab Za)(a1:Ab Zb):Option (DenS RE):=bif(p81 (a0,true,()))then(some ((j5 .u64 a1 (f81 (a0,true,())).1),()))else none
theorem r32(x:DenS PM):run (cf [(70,⟨HM,HZ,p81,f81⟩)] []) 9 29 Tryz.f29 PM RE x=vS p81 f81 x.1 x.2.1:=by kernel_rfl
def bM(x:DenS PM):Option (DenS RE):=vS DV.pre DV.F x.1 x.2.1
def Ta:Sum:=Ah PM RE bM (DenS.dflt RE)
theorem aTf:Sound Tryz.prog G1 29 Ta:=sd (cf [(70,DV)] []) 29 Tryz.f29 ⟨nQ,trivial⟩ trivial PM RE bM _ (fun _=>r32 ..)
abbrev Y32:=Af PM
abbrev Z32:=Ae PM RE
variable (p32:Y32)(f32:Z32)
abbrev PF:Aa:=[(false,Za),(false,Za),(false,Zb),(false,Zb)]
abbrev Rx:Aa:=[(false,Zb),(false,Za),(false,Za)]
def vN(p67:IJ)(f67:IN)(p68:Vf)(f68:Vt)(p32:Y32)(f32:Z32)(p28:Y28)(f28:Z28)(a0 a1:Ab Za)(a2 a3:Ab Zb):Option (DenS Rx):=bif(p67 (a0,()))then(bif((p68 (a0,a3,()))||(!(bif((f67 (a0,())).1==(0:Int))then false else true)))then(bif(((f67 (a0,())).1==(0:Int))||(!(f68 (a0,a3,())).1))then(bif(p28 (a0,a1,a2,a3,()))then(some (f28 (a0,a1,a2,a3,())))else none)else bif(p32 (a0,a3,()))then(bif(p28 (a0,a1,a2,(f32 (a0,a3,()))))then(some (f28 (a0,a1,a2,(f32 (a0,a3,())))))else none)else none)else none)else none
theorem r26(x:DenS PF):run (cf [(31,⟨Fe,Fg,p67,f67⟩),(77,⟨HL,HY,p68,f68⟩),(29,⟨PM,RE,p32,f32⟩),(107,⟨LN,Mp,p28,f28⟩)] []) 9 111 Tryz.f111 PF Rx x=vN p67 f67 p68 f68 p32 f32 p28 f28 x.1 x.2.1 x.2.2.1 x.2.2.2.1:=by kernel_rfl
def WP(x:DenS PF):Option (DenS Rx):=vN B3.pre B3.F CL.pre CL.F Ta.pre Ta.F Gk.pre Gk.F x.1 x.2.1 x.2.2.1 x.2.2.2.1
def S9:Sum:=Ah PF Rx WP (DenS.dflt Rx)
theorem aS5:Sound Tryz.prog G1 111 S9:=sd (cf [(31,B3),(77,CL),(29,Ta),(107,Gk)] []) 111 Tryz.f111 ⟨TF,zM,aTf,aE9,trivial⟩ trivial PF Rx WP _ (fun _=>r26 ..)
abbrev Y26:=Af PF
abbrev Z26:=Ae PF Rx
variable (p26:Y26)(f26:Z26)
abbrev L7:Aa:=[(false,Zb),(false,Zb)]
abbrev MI:Aa:=[(false,Zb)]
abbrev F7:LK:=.ref Zp
def w6(p26:Y26)(f26:Z26)(l0:LK.D (.ref Zp))(a0 a1:Ab Zb):Option (LK.B F7×DenS MI):=bif(p26 (l0.1,l0.2.1,a0,a1,()))then(some ((l0.1,l0.2.1,(Ai .i64 l0.2.2.1 (f26 (l0.1,l0.2.1,a0,a1,())).2.1),()),(f26 (l0.1,l0.2.1,a0,a1,())).1,()))else none
theorem bEF(x:LK.D F7×DenS L7):C2 (cf [(111,⟨PF,Rx,p26,f26⟩)] []) 9 82 Tryz.f82 F7 L7 MI x=w6 p26 f26 x.1 x.2.1 x.2.2.1:=by kernel_rfl
def dC(x:LK.D F7×DenS L7):Option (LK.B F7×DenS MI):=w6 S9.pre S9.F x.1 x.2.1 x.2.2.1
def Gr:SumL:=C3 F7 L7 MI dC (LK.dflt F7,DenS.dflt MI)
theorem aFB:SoundL Tryz.prog G1 82 Gr:=Ea (cf [(111,S9)] []) 82 Tryz.f82 ⟨aS5,trivial⟩ trivial F7 L7 MI dC _ (fun _=>bEF ..)
abbrev aAZ:=LK.D F7×DenS L7->Bool
abbrev aBG:=LK.D F7×DenS L7->LK.B F7×DenS MI
variable (p484:aAZ)(f484:aBG)
abbrev QU:Aa:=[(true,Zj),(true,Zj)]
abbrev SI:Aa:=[(true,Zj)]
abbrev GN:LK:=.ref Zp
def w7(p483:aAY)(f483:aBF)(p484:aAZ)(f484:aBG)(p478:pK)(f478:qH)(l0:LK.D (.ref Zp))(a0 a1:Ab Zj):Option (LK.B GN×DenS SI):=let e10_:=((f483 ((l0.1,l0.2),a0.1,a1.1,())).1,a0.2.1,a1.2);let e9_:=(f483 e10_);let e8_:=(f483 (e9_.1,a0.1,a1.2));let e7_:=(f483 (e8_.1,a0.2.1,a1.1,()));let e6_:=(f484 (e7_.1,(f483 ((l0.1,l0.2),a0.1,a1.1,())).2.1,e9_.2));let e1_:=(f478 (e6_.1,e8_.2.1,e7_.2));let e2_:=e6_;let e3_:=e7_;let e4_:=e8_;let e5_:=e9_;bif(p483 ((l0.1,l0.2),a0.1,a1.1,()))then(bif(p483 e10_)then(bif(p483 (e5_.1,a0.1,a1.2))then(bif(p483 (e4_.1,a0.2.1,a1.1,()))then(bif(p484 (e3_.1,(f483 ((l0.1,l0.2),a0.1,a1.1,())).2.1,e5_.2))then(bif(p478 (e2_.1,e4_.2.1,e3_.2))then(some (e1_.1,(e2_.2.1,e1_.2),()))else none)else none)else none)else none)else none)else none
theorem bEG(x:LK.D GN×DenS QU):C2 ({cf [] []with lsums:=[(81,⟨F6,L6,MH,p483,f483⟩),(82,⟨F7,L7,MI,p484,f484⟩),(78,⟨Fx,JI,Ki,p478,f478⟩)] }) 9 43 Tryz.f43 GN QU SI x=w7 p483 f483 p484 f484 p478 f478 x.1 x.2.1 x.2.2.1:=by kernel_rfl
def dD(x:LK.D GN×DenS QU):Option (LK.B GN×DenS SI):=w7 Gq.pre Gq.F Gr.pre Gr.F El.pre El.F x.1 x.2.1 x.2.2.1
def TB:SumL:=C3 GN QU SI dD (LK.dflt GN,DenS.dflt SI)
theorem aT7:SoundL Tryz.prog G1 43 TB:=Ea ({cf [] []with lsums:=[(81,Gq),(82,Gr),(78,El)] }) 43 Tryz.f43 trivial trivial GN QU SI dD _ (fun _=>bEG ..) (hls:=⟨aFA,aFB,zJ,trivial⟩)
abbrev aJd:=LK.D GN×DenS QU->Bool
abbrev aKR:=LK.D GN×DenS QU->LK.B GN×DenS SI
variable (p485:aJd)(f485:aKR)
abbrev L8:Aa:=[(false,Za),(false,Za),(true,Zj),(true,Zj)]
abbrev MJ:Aa:=[(true,Zj),(false,Za),(false,Za)]
def w8(p477:eP)(f477:fF)(p485:aJd)(f485:aKR)(a0 a1:Ab Za)(a2 a3:Ab Zj):Option (DenS MJ):=let e3_:=((a0,a1,(0:Int),()),(a2.1,a2.2),(a3.1,a3.2),());let e1_:=(f485 e3_);let e4_:=(a0,a1,((a2.1,a2.2)::((a3.1,a3.2)::[])),());let e2_:=(f477 e4_);bif(p477 e4_)then(bif(e2_.1 !=(0:Int))then(some (((0:Int),(0:Int),()),(0:Int),e2_))else bif(p485 e3_)then(some (e1_.2.1,e1_.1.2.2.1,(0:Int),()))else none)else none
theorem bEH(x:DenS L8):run ({cf [(39,⟨JH,Kh,p477,f477⟩)] []with lsums:=[(43,⟨GN,QU,SI,p485,f485⟩)] }) 9 14 Tryz.f14 L8 MJ x=w8 p477 f477 p485 f485 x.1 x.2.1 x.2.2.1 x.2.2.2.1:=by kernel_rfl
def dE(x:DenS L8):Option (DenS MJ):=w8 Ek.pre Ek.F TB.pre TB.F x.1 x.2.1 x.2.2.1 x.2.2.2.1
def EU:Sum:=Ah L8 MJ dE (DenS.dflt MJ)
theorem aT8:Sound Tryz.prog G1 14 EU:=sd ({cf [(39,Ek)] []with lsums:=[(43,TB)] }) 14 Tryz.f14 ⟨zI,trivial⟩ trivial L8 MJ dE _ (fun _=>bEH ..) (hls:=⟨aT7,trivial⟩)
abbrev pM:=Af L8
abbrev qJ:=Ae L8 MJ
variable (p486:pM)(f486:qJ)
abbrev L9:Aa:=[(true,Zj)]
abbrev MK:Aa:=[(true,Zj)]
def aQ7(a0:Ab Zj):Option (DenS MK):=some ((a0.1,a0.2),())
theorem bEI(x:DenS L9):run (cf [] []) 9 12 Tryz.f12 L9 MK x=aQ7 x.1:=by kernel_rfl
def WV(x:DenS L9):Option (DenS MK):=aQ7 x.1
def EV:Sum:=Ah L9 MK WV (DenS.dflt MK)
theorem aT9:Sound Tryz.prog G1 12 EV:=sd (cf [] []) 12 Tryz.f12 trivial trivial L9 MK WV _ (fun _=>bEI ..)
abbrev eQ:=Af L9
abbrev fG:=Ae L9 MK
variable (p487:eQ)(f487:fG)
abbrev QV:Aa:=[(true,Zs),(true,Zs),(false,.bool)]
abbrev SJ:Aa:=[(true,Zs)]
abbrev IA:Pat:=⟨59,[(9,.one (.v .i64)),(8,.one (.sl Zb)),(7,.one (.sl Zb)),(2,.one (.bool)),(3,.one (.ptr 0 0)),(4,.one (.ptr 1 0)),(6,.one (.ptr 2 0))],[.raw [.bool,.sl Zb,.v .i64],.raw [.bool,.sl Zb,.v .i64],.raw [.bool,.sl Zb,.v .i64]]⟩
abbrev lH:List (Nat×Shape):=[(8,.unit)]
abbrev Oi:List (Nat×Pat):=[(0,⟨59,[(8,.one (.sl Zb)),(7,.one (.sl Zb)),(2,.one (.bool)),(3,.one (.ptr 0 0)),(4,.one (.ptr 1 0)),(6,.one (.ptr 2 0))],[.raw [.bool,.sl Zb,.v .i64],.raw [.bool,.sl Zb,.v .i64],.raw [.bool,.sl Zb,.v .i64]]⟩)]
abbrev Nu:Option Pat:=none
variable (w488_4:Pat.D IA->Option (Ad Oi Nu))
def Yq(p159:eM)(f159:fC)(p129:U5)(f129:Vj)(p130:W4)(f130:Xi)(p127:U3)(f127:Vh)(p128:U4)(f128:Vi){R:Type}(L:Pat.D IA->Option R)(e:Ad Oi Nu->Option R)(x:Pat.D IA):Option R:=let e1_:=((f127 (x.1.2.1,(1:Int),())).1,((1:Int)::[]),());let e2_:=(aa .i64 (x.1.1-(1:Int)));let e3_:=(x.1.2.2.1,x.1.2.2.2.1,(),(),(),());let e4_:=(x.1.2.2.1,(f127 (x.2.2.1.2.1,x.1.1,())));bif(decide (x.1.1>=(0:Int)))then(bif(p127 (x.1.2.1,(1:Int),()))then(bif(p127 (x.2.2.1.2.1,x.1.1,()))then(bif(p129 e4_)then(bif(decide ((f129 e4_).1>=(0:Int)))then(bif(p130 e4_)then(bif(p128 e1_)then(((L ((e2_,(f128 e1_).1,(f130 e4_).1,x.1.2.2.2.1,(),(),(),()),x.2))))else none)else none)else(L ((e2_,(f127 (x.1.2.1,(1:Int),())).1,e3_),x.2)))else none)else none)else none)else(e (.inl ((x.1.2.1,e3_),x.2)))
theorem bGz(d:Nat)(R:Type)(L:Pat.D IA->Option R)(e:Ad Oi Nu->Option R)(x:Pat.D IA):
  Br (cf [(128,⟨Ju,J1,p159,f159⟩),(133,⟨HE,HS,p129,f129⟩),(134,⟨HF,HT,p130,f130⟩),(132,⟨HC,HQ,p127,f127⟩),(135,⟨HD,HR,p128,f128⟩)] [(114,4,LoopSpec.of IA lH Oi Nu w488_4)]) (d+2) 114 (Bq Tryz.f114 4) IA lH Oi Nu (R:=R) L e x=Yq p159 f159 p129 f129 p130 f130 p127 f127 p128 f128 L e x:=by kernel_rfl
theorem aOa(p159:eM)(f159:fC)(p129:U5)(f129:Vj)(p130:W4)(f130:Xi)(p127:U3)(f127:Vh)(p128:U4)(f128:Vi):Bo fun L e x=>Yq p159 f159 p129 f129 p130 f130 p127 f127 p128 f128 L e x:=by intro _ _ _ _ _ _ _ h0 hL he _;unfold Yq;repeat' (first|exact h0|exact hL _|exact he _|apply BB|(apply BC h0;intro _)|(apply BD<;>intro _))
def w9(p159:eM)(f159:fC)(p129:U5)(f129:Vj)(p130:W4)(f130:Xi)(p127:U3)(f127:Vh)(p128:U4)(f128:Vi)(w488_4:Pat.D IA->Option (Ad Oi Nu))(a0 a1:Ab Zs)(a2:Ab (.bool)):Option (DenS SJ):=
 bif(p127 (a0.2.1,(130:Int),()))then(bif(p159 (f127 (a0.2.1,(130:Int),())))then(bif(p159 (a1.2.1,()))then(Vx.Ba (w488_4 (((aa .i64 ((f159 (f127 (a0.2.1,(130:Int),()))).1-(f159 (a1.2.1,())).1)),[],(f127 (a0.2.1,(130:Int),())).1,a2,(),(),(),()),(a0.1,a0.2),(a1.1,a1.2),(false,[],(0:Int),()),())) fun y3=>
 Vx.A9 y3 (fun y4=>
 bif(p127 (y4.1.1,(1:Int),()))then(bif(decide ((y4.1.2.1.length:Int)>(0:Int)))then(bif(p128 ((f127 (y4.1.1,(1:Int),())).1,((1:Int)::[]),()))then(some ((y4.1.2.2.1,(f128 ((f127 (y4.1.1,(1:Int),())).1,((1:Int)::[]),())).1,(aa .i64 ((aa .i64 ((aa .i64 (y4.2.1.2.2.1-y4.2.2.1.2.2.1))-(130:Int)))-(1:Int))),()),()))
 else none)
 else some ((y4.1.2.2.1,(f127 (y4.1.1,(1:Int),())).1,(aa .i64 ((aa .i64 ((aa .i64 (y4.2.1.2.2.1-y4.2.2.1.2.2.1))-(130:Int)))-(1:Int))),()),()))
 else none) (fun z4=>
 none))
 else none)
 else none)
 else none
theorem bEJ(x:DenS QV):run (cf [(128,⟨Ju,J1,p159,f159⟩),(133,⟨HE,HS,p129,f129⟩),(134,⟨HF,HT,p130,f130⟩),(132,⟨HC,HQ,p127,f127⟩),(135,⟨HD,HR,p128,f128⟩)] [(114,4,LoopSpec.of IA lH Oi Nu w488_4)]) 9 114 Tryz.f114 QV SJ x=w9 p159 f159 p129 f129 p130 f130 p127 f127 p128 f128 w488_4 x.1 x.2.1 x.2.2.1:=by kernel_rfl
def oW:IA.D->Option (Ad Oi Nu):=Bf fun L=>Yq Dm.pre Dm.F CH.pre CH.F CI.pre CI.F CF.pre CF.F CG.pre CG.F L some
def dF(x:DenS QV):Option (DenS SJ):=w9 Dm.pre Dm.F CH.pre CH.F CI.pre CI.F CF.pre CF.F CG.pre CG.F oW x.1 x.2.1 x.2.2.1
def TC:Sum:=Ah QV SJ dF (DenS.dflt SJ)
theorem aUa:Sound Tryz.prog G1 114 TC:=sd (cf [(128,Dm),(133,CH),(134,CI),(132,CF),(135,CG)] [(114,4,LoopSpec.of IA lH Oi Nu oW)]) 114 Tryz.f114 ⟨aE3,yT,yU,yR,yS,trivial⟩ ⟨rfl,fun d=>BA (fun L e x=>Yq Dm.pre Dm.F CH.pre CH.F CI.pre CI.F CF.pre CF.F CG.pre CG.F L e x) (aOa Dm.pre Dm.F CH.pre CH.F CI.pre CI.F CF.pre CF.F CG.pre CG.F) (fun _ _ _ _=>bGz ..),trivial⟩ QV SJ dF _ (fun _=>bEJ ..)
abbrev aJe:=Af QV
abbrev aKS:=Ae QV SJ
variable (p488:aJe)(f488:aKS)
abbrev QW:Aa:=[(false,Zb),(false,Zb)]
abbrev SK:Aa:=[(false,Zb)]
abbrev GO:LK:=.ref Zp
def xA(p74:Xe)(f74:Xs)(p75:eU)(f75:fI)(p179:o9)(f179:pX)(p76:Xf)(f76:Xt)(p37:Y37)(f37:Z37)(p488:aJe)(f488:aKS)(p126:aAr)(f126:aA8)(l0:LK.D (.ref Zp))(a0 a1:Ab Zb):Option (LK.B GO×DenS SK):=let e10_:=((!((f74 (l0.1,a0,())).1.2.2.2.1==(f74 (l0.1,a1,())).1.2.2.2.1)),());let e8_:=((f74 (l0.1,a0,())).1.2.2.2.2.1,(f74 (l0.1,a1,())).1.2.2.2.2.1,e10_);let e1_:=(f126 (l0.1,l0.2.1,(f488 e8_)));let e2_:=e8_;let e9_:=(l0.1,e10_);let e3_:=(p179 e9_);let e4_:=(f179 e9_);let e5_:=e9_;let e6_:=((l0.1,l0.2.1,(Ai .i64 l0.2.2.1 (1:Int)),()),(f75 (l0.1,())));let e7_:=((f74 (l0.1,a0,())).1.2.2.1&&(f74 (l0.1,a1,())).1.2.2.1);bif(p74 (l0.1,a0,()))then(bif(p74 (l0.1,a1,()))then(bif((f74 (l0.1,a0,())).1.2.1||(f74 (l0.1,a1,())).1.2.1)then(bif(p75 (l0.1,()))then(some e6_)else none)else bif((f74 (l0.1,a0,())).1.1||(f74 (l0.1,a1,())).1.1)then(bif(p75 (l0.1,()))then(some ((l0.1,l0.2),(f75 (l0.1,()))))else none)else bif((p76 (f74 (l0.1,a0,())))||(!(bif e7_ then false else true)))then(bif((p76 (f74 (l0.1,a1,())))||(!((bif e7_ then false else true)&&(f76 (f74 (l0.1,a0,()))).1)))then(bif(e7_||((f76 (f74 (l0.1,a0,()))).1&&(f76 (f74 (l0.1,a1,()))).1))then(bif(p75 (l0.1,()))then(some e6_)else none)else bif(f74 (l0.1,a0,())).1.2.2.1 then(bif e3_ then(some ((l0.1,l0.2),e4_))else none)else bif(p76 (f74 (l0.1,a1,())))then(bif(f76 (f74 (l0.1,a1,()))).1 then(bif e3_ then(some ((l0.1,l0.2.1,(Ai .i64 l0.2.2.1 (2:Int)),()),e4_))else none)else bif((p76 (f74 (l0.1,a0,())))||(!(bif(f74 (l0.1,a1,())).1.2.2.1 then false else true)))then(bif((f74 (l0.1,a1,())).1.2.2.1||(f76 (f74 (l0.1,a0,()))).1)then(bif(p37 e5_)then(some ((l0.1,l0.2),(f37 e5_)))else none)else bif(p488 e2_)then(bif(p126 (l0.1,l0.2.1,(f488 e2_)))then(some ((l0.1,l0.2.1,(Ai .i64 l0.2.2.1 e1_.2.1),()),e1_.1,()))else none)else none)else none)else none)else none)else none)else none)else none
theorem bEK(x:LK.D GO×DenS QW):C2 (cf [(33,⟨JN,Ko,p74,f74⟩),(86,⟨JO,Kp,p75,f75⟩),(109,⟨Jw,J3,p179,f179⟩),(75,⟨JP,Kq,p76,f76⟩),(112,⟨LR,Ms,p37,f37⟩),(114,⟨QV,SJ,p488,f488⟩),(113,⟨LG,Mk,p126,f126⟩)] []) 9 84 Tryz.f84 GO QW SK x=xA p74 f74 p75 f75 p179 f179 p76 f76 p37 f37 p488 f488 p126 f126 x.1 x.2.1 x.2.2.1:=by kernel_rfl
def dG(x:LK.D GO×DenS QW):Option (LK.B GO×DenS SK):=xA Em.pre Em.F En.pre En.F Eh.pre Eh.F Eo.pre Eo.F Gl.pre Gl.F TC.pre TC.F Gi.pre Gi.F x.1 x.2.1 x.2.2.1
def TD:SumL:=C3 GO QW SK dG (LK.dflt GO,DenS.dflt SK)
theorem aUb:SoundL Tryz.prog G1 84 TD:=Ea (cf [(33,Em),(86,En),(109,Eh),(75,Eo),(112,Gl),(114,TC),(113,Gi)] []) 84 Tryz.f84 ⟨zN,zO,yY,zP,aFd,aUa,aEY,trivial⟩ trivial GO QW SK dG _ (fun _=>bEK ..)
abbrev aJf:=LK.D GO×DenS QW->Bool
abbrev aKT:=LK.D GO×DenS QW->LK.B GO×DenS SK
variable (p489:aJf)(f489:aKT)
abbrev QY:Aa:=[(true,Zj),(true,Zj)]
abbrev SM:Aa:=[(true,Zj)]
abbrev GP:LK:=.ref Zp
def xB(p478:pK)(f478:qH)(p483:aAY)(f483:aBF)(p484:aAZ)(f484:aBG)(p489:aJf)(f489:aKT)(l0:LK.D (.ref Zp))(a0 a1:Ab Zj):Option (LK.B GP×DenS SM):=let c1_:=(f483 ((l0.1,l0.2),a1.1,a1.1,()));let c2_:=(f483 (c1_.1,a1.2.1,a1.2));let c3_:=(f478 (c2_.1,c1_.2.1,c2_.2));let c4_:=(f483 (c3_.1,a0.1,a1.1,()));let c5_:=(f483 (c4_.1,a0.2.1,a1.2));let c6_:=(f478 (c5_.1,c4_.2.1,c5_.2));let c7_:=(f483 (c6_.1,a0.2.1,a1.1,()));let c8_:=(f483 (c7_.1,a0.1,a1.2));let c9_:=(f484 (c8_.1,c7_.2.1,c8_.2));let c10_:=(f489 (c9_.1,c6_.2.1,c3_.2));let c11_:=(f489 (c10_.1,c9_.2.1,c3_.2));bif(p483 ((l0.1,l0.2),a1.1,a1.1,()))then(bif(p483 (c1_.1,a1.2.1,a1.2))then(bif(p478 (c2_.1,c1_.2.1,c2_.2))then(bif(p483 (c3_.1,a0.1,a1.1,()))then(bif(p483 (c4_.1,a0.2.1,a1.2))then(bif(p478 (c5_.1,c4_.2.1,c5_.2))then(bif(p483 (c6_.1,a0.2.1,a1.1,()))then(bif(p483 (c7_.1,a0.1,a1.2))then(bif(p484 (c8_.1,c7_.2.1,c8_.2))then(bif(p489 (c9_.1,c6_.2.1,c3_.2))then(bif(p489 (c10_.1,c9_.2.1,c3_.2))then(some (c11_.1,(c10_.2.1,c11_.2),()))else none)else none)else none)else none)else none)else none)else none)else none)else none)else none)else none
theorem bEM(x:LK.D GP×DenS QY):C2 ({cf [] []with lsums:=[(78,⟨Fx,JI,Ki,p478,f478⟩),(81,⟨F6,L6,MH,p483,f483⟩),(82,⟨F7,L7,MI,p484,f484⟩),(84,⟨GO,QW,SK,p489,f489⟩)] }) 9 46 Tryz.f46 GP QY SM x=xB p478 f478 p483 f483 p484 f484 p489 f489 x.1 x.2.1 x.2.2.1:=by kernel_rfl
def dH(x:LK.D GP×DenS QY):Option (LK.B GP×DenS SM):=xB El.pre El.F Gq.pre Gq.F Gr.pre Gr.F TD.pre TD.F x.1 x.2.1 x.2.2.1
def TE:SumL:=C3 GP QY SM dH (LK.dflt GP,DenS.dflt SM)
theorem aUc:SoundL Tryz.prog G1 46 TE:=Ea ({cf [] []with lsums:=[(78,El),(81,Gq),(82,Gr),(84,TD)] }) 46 Tryz.f46 trivial trivial GP QY SM dH _ (fun _=>bEM ..) (hls:=⟨zJ,aFA,aFB,aUb,trivial⟩)
abbrev aJh:=LK.D GP×DenS QY->Bool
abbrev aKV:=LK.D GP×DenS QY->LK.B GP×DenS SM
variable (p490:aJh)(f490:aKV)
abbrev Ma:Aa:=[(false,Za),(false,Za),(true,Zj),(true,Zj)]
abbrev ML:Aa:=[(true,Zj),(false,Za),(false,Za)]
def xC(p477:eP)(f477:fF)(p490:aJh)(f490:aKV)(a0 a1:Ab Za)(a2 a3:Ab Zj):Option (DenS ML):=let e3_:=((a0,a1,(0:Int),()),(a2.1,a2.2),(a3.1,a3.2),());let e1_:=(f490 e3_);let e4_:=(a0,a1,((a2.1,a2.2)::((a3.1,a3.2)::[])),());let e2_:=(f477 e4_);bif(p477 e4_)then(bif(e2_.1 !=(0:Int))then(some (((0:Int),(0:Int),()),(0:Int),e2_))else bif(p490 e3_)then(some (e1_.2.1,e1_.1.2.2.1,(0:Int),()))else none)else none
theorem bEN(x:DenS Ma):run ({cf [(39,⟨JH,Kh,p477,f477⟩)] []with lsums:=[(46,⟨GP,QY,SM,p490,f490⟩)] }) 9 16 Tryz.f16 Ma ML x=xC p477 f477 p490 f490 x.1 x.2.1 x.2.2.1 x.2.2.2.1:=by kernel_rfl
def dI(x:DenS Ma):Option (DenS ML):=xC Ek.pre Ek.F TE.pre TE.F x.1 x.2.1 x.2.2.1 x.2.2.2.1
def EW:Sum:=Ah Ma ML dI (DenS.dflt ML)
theorem aUd:Sound Tryz.prog G1 16 EW:=sd ({cf [(39,Ek)] []with lsums:=[(46,TE)] }) 16 Tryz.f16 ⟨zI,trivial⟩ trivial Ma ML dI _ (fun _=>bEN ..) (hls:=⟨aUc,trivial⟩)
abbrev pN:=Af Ma
abbrev qK:=Ae Ma ML
variable (p491:pN)(f491:qK)
abbrev Mb:Aa:=[(true,Zj),(true,Zj)]
abbrev MM:Aa:=[(false,.bool)]
def xD(a0 a1:Ab Zj):Option (DenS MM):=some (((a0.1==a1.1)&&(a0.2.1==a1.2.1)),())
theorem bEO(x:DenS Mb):run (cf [] []) 9 17 Tryz.f17 Mb MM x=xD x.1 x.2.1:=by kernel_rfl
def WW(x:DenS Mb):Option (DenS MM):=xD x.1 x.2.1
def EX:Sum:=Ah Mb MM WW (DenS.dflt MM)
theorem aUe:Sound Tryz.prog G1 17 EX:=sd (cf [] []) 17 Tryz.f17 trivial trivial Mb MM WW _ (fun _=>bEO ..)
abbrev eR:=Af Mb
abbrev fH:=Ae Mb MM
variable (p492:eR)(f492:fH)
abbrev I493:Aa:=[(false,.slice ZH)]
abbrev UG:Aa:=[(false,.bool)]
abbrev IB:Pat:=⟨129,[(0,.one (.sl ZH)),(3,.one (.v .i64))],[]⟩
abbrev lI:List (Nat×Shape):=[]
abbrev Oj:List (Nat×Pat):=[(0,⟨129,[],[]⟩)]
abbrev Nv:Option Pat:=(some ⟨129,[(2,.one (.bool))],[]⟩)
variable (w493_4:Pat.D IB->Option (Ad Oj Nv))
def Yr(p474:Xa)(f474:Xo)(p476:Xb)(f476:Xp)(p480:pL)(f480:qI)(p470:Vb)(f470:Vp)(p486:pM)(f486:qJ)(p473:Vc)(f473:Vq)(p487:eQ)(f487:fG)(p491:pN)(f491:qK)(p492:eR)(f492:fH){R:Type}(L:Pat.D IB->Option R)(e:Ad Oj Nv->Option R)(x:Pat.D IB):Option R:=let e6_:=(((0:Int),(0:Int),()),((0:Int),(0:Int),()),());let e5_:=(x.1.1.getD (af x.1.2.1) ((0:Int),(0:Int),(0:Int),e6_));let e1_:=(p487 (e5_.2.2.2.1,()));let e2_:=(p487 e5_.2.2.2.2);let e3_:=e5_;let e4_:=e6_;let c1_:=(e (.inr ((false,()),())));let c2_:=(L ((x.1.1,(aa .i64 (x.1.2.1+(1:Int))),()),()));let c3_:=(f476 e3_.2);let c4_:=(f487 (e3_.2.2.2.1,()));let c5_:=(f487 e3_.2.2.2.2);let c6_:=(f480 (e3_.2.1,e3_.2.2.1,c4_.1,c5_));let c7_:=(f492 (c3_.1,c6_.1,()));let c8_:=(f470 e3_.2);let c9_:=(f486 (e3_.2.1,e3_.2.2.1,c4_.1,c5_));let c10_:=(f492 (c8_.1,c9_.1,()));let c11_:=(f473 e3_.2);let c12_:=(f491 (e3_.2.1,e3_.2.2.1,c4_.1,c5_));let c13_:=(f492 (c11_.1,c12_.1,()));let c14_:=(f492 e4_);let c15_:=(e (.inl ((),())));bif(decide (x.1.2.1<(x.1.1.length:Int)))then(bif((decide ((0:Int)<=x.1.2.1))&&(decide (x.1.2.1<(x.1.1.length:Int))))then(bif(e3_.1==(1:Int))then(bif(p476 e3_.2)then(bif e1_ then(bif e2_ then(bif(p480 (e3_.2.1,e3_.2.2.1,c4_.1,c5_))then(bif(p492 (c3_.1,c6_.1,()))then(bif(((!c7_.1)||(c3_.2.1 !=c6_.2.1))||(c3_.2.2.1 !=c6_.2.2.1))then((c1_))else c2_)else none)else none)else none)else none)else none)else bif(e3_.1==(2:Int))then(bif(p470 e3_.2)then(bif e1_ then(bif e2_ then(bif(p486 (e3_.2.1,e3_.2.2.1,c4_.1,c5_))then(bif(p492 (c8_.1,c9_.1,()))then(bif(((!c10_.1)||(c8_.2.1 !=c9_.2.1))||(c8_.2.2.1 !=c9_.2.2.1))then((c1_))else c2_)else none)else none)else none)else none)else none)else bif(e3_.1==(3:Int))then(bif(p473 e3_.2)then(bif e1_ then(bif e2_ then(bif(p491 (e3_.2.1,e3_.2.2.1,c4_.1,c5_))then(bif(p492 (c11_.1,c12_.1,()))then(bif(((!c13_.1)||(c11_.2.1 !=c12_.2.1))||(c11_.2.2.1 !=c12_.2.2.1))then((c1_))else c2_)else none)else none)else none)else none)else none)else bif(p492 e4_)then(bif(((!c14_.1)||false)||false)then((c1_))else c2_)else none)else none)else c15_
theorem bGA(d:Nat)(R:Type)(L:Pat.D IB->Option R)(e:Ad Oj Nv->Option R)(x:Pat.D IB):
  Br (cf [(9,⟨L3,ME,p474,f474⟩),(10,⟨L4,MF,p476,f476⟩),(11,⟨L5,MG,p480,f480⟩),(13,⟨JF,Kf,p470,f470⟩),(14,⟨L8,MJ,p486,f486⟩),(15,⟨JG,Kg,p473,f473⟩),(12,⟨L9,MK,p487,f487⟩),(16,⟨Ma,ML,p491,f491⟩),(17,⟨Mb,MM,p492,f492⟩)] [(3,4,LoopSpec.of IB lI Oj Nv w493_4)]) (d+2) 3 (Bq Tryz.f3 4) IB lI Oj Nv (R:=R) L e x=Yr p474 f474 p476 f476 p480 f480 p470 f470 p486 f486 p473 f473 p487 f487 p491 f491 p492 f492 L e x:=by kernel_rfl
theorem aOb(p474:Xa)(f474:Xo)(p476:Xb)(f476:Xp)(p480:pL)(f480:qI)(p470:Vb)(f470:Vp)(p486:pM)(f486:qJ)(p473:Vc)(f473:Vq)(p487:eQ)(f487:fG)(p491:pN)(f491:qK)(p492:eR)(f492:fH):Bo fun L e x=>Yr p474 f474 p476 f476 p480 f480 p470 f470 p486 f486 p473 f473 p487 f487 p491 f491 p492 f492 L e x:=by intro _ _ _ _ _ _ _ h0 hL he _;unfold Yr;repeat' (first|exact h0|exact hL _|exact he _|apply BB|(apply BC h0;intro _)|(apply BD<;>intro _))
def xE(p474:Xa)(f474:Xo)(p476:Xb)(f476:Xp)(p480:pL)(f480:qI)(p470:Vb)(f470:Vp)(p486:pM)(f486:qJ)(p473:Vc)(f473:Vq)(p487:eQ)(f487:fG)(p491:pN)(f491:qK)(p492:eR)(f492:fH)(w493_4:Pat.D IB->Option (Ad Oj Nv))(a0:Ab (.slice ZH)):Option (DenS UG):=
 let c1_:=(w493_4 ((a0,(0:Int),()),()))
 let c2_:=(f474 ())
 bif(p474 ())then(bif(!c2_.1)then(some (false,()))
 else Vx.Ba c1_ fun y2=>
 Vx.A9 y2 (fun y3=>
 some (true,())) (fun z3=>
 some z3.1))
 else none
theorem bEP(x:DenS I493):run (cf [(9,⟨L3,ME,p474,f474⟩),(10,⟨L4,MF,p476,f476⟩),(11,⟨L5,MG,p480,f480⟩),(13,⟨JF,Kf,p470,f470⟩),(14,⟨L8,MJ,p486,f486⟩),(15,⟨JG,Kg,p473,f473⟩),(12,⟨L9,MK,p487,f487⟩),(16,⟨Ma,ML,p491,f491⟩),(17,⟨Mb,MM,p492,f492⟩)] [(3,4,LoopSpec.of IB lI Oj Nv w493_4)]) 9 3 Tryz.f3 I493 UG x=xE p474 f474 p476 f476 p480 f480 p470 f470 p486 f486 p473 f473 p487 f487 p491 f491 p492 f492 w493_4 x.1:=by kernel_rfl
def oX:IB.D->Option (Ad Oj Nv):=Bf fun L=>Yr ER.pre ER.F ES.pre ES.F ET.pre ET.F Do.pre Do.F EU.pre EU.F Dp.pre Dp.F EV.pre EV.F EW.pre EW.F EX.pre EX.F L some
def T493(x:DenS I493):Option (DenS UG):=xE ER.pre ER.F ES.pre ES.F ET.pre ET.F Do.pre Do.F EU.pre EU.F Dp.pre Dp.F EV.pre EV.F EW.pre EW.F EX.pre EX.F oX x.1
def aUf:Sum:=Ah I493 UG T493 (DenS.dflt UG)
theorem S493_sound:Sound Tryz.prog G1 3 aUf:=sd (cf [(9,ER),(10,ES),(11,ET),(13,Do),(14,EU),(15,Dp),(12,EV),(16,EW),(17,EX)] [(3,4,LoopSpec.of IB lI Oj Nv oX)]) 3 Tryz.f3 ⟨aT0,aT2,aT4,aFx,aT8,aFy,aT9,aUd,aUe,trivial⟩ ⟨rfl,fun d=>BA (fun L e x=>Yr ER.pre ER.F ES.pre ES.F ET.pre ET.F Do.pre Do.F EU.pre EU.F Dp.pre Dp.F EV.pre EV.F EW.pre EW.F EX.pre EX.F L e x) (aOb ER.pre ER.F ES.pre ES.F ET.pre ET.F Do.pre Do.F EU.pre EU.F Dp.pre Dp.F EV.pre EV.F EW.pre EW.F EX.pre EX.F) (fun _ _ _ _=>bGA ..),trivial⟩ I493 UG T493 _ (fun _=>bEP ..)
abbrev aWc:=Af I493
abbrev aWz:=Ae I493 UG
variable (p493:aWc)(f493:aWz)
abbrev aEm:Aa:=[(false,Zb)]
abbrev aRQ:Aa:=[(false,.flt .f64)]
abbrev aIm:=Af aEm
abbrev aJ0:=Ae aEm aRQ
variable (p301:aIm)(f301:aJ0)
abbrev aEu:Aa:=[(true,Zj)]
abbrev aRY:Aa:=[(false,.cx .f64)]
abbrev aJi:=Af aEu
abbrev aKW:=Ae aEu aRY
variable (p494:aJi)(f494:aKW)
abbrev aEn:Aa:=[(false,.flt .f64)]
abbrev aRR:Aa:=[(false,Zb)]
abbrev aIn:=Af aEn
abbrev aJ1:=Ae aEn aRR
variable (p306:aIn)(f306:aJ1)
abbrev aEv:Aa:=[(false,.flt .f64)]
abbrev aRZ:Aa:=[(false,Zb)]
abbrev aWd:=Af aEv
abbrev aWA:=Ae aEv aRZ
variable (p495:aWd)(f495:aWA)
abbrev aEw:Aa:=[(false,.cx .f64)]
abbrev aR0:Aa:=[(true,Zj)]
abbrev aJj:=Af aEw
abbrev aKX:=Ae aEw aR0
variable (p496:aJj)(f496:aKX)
abbrev aEx:Aa:=[(true,Zj),(true,Zj)]
abbrev aR1:Aa:=[(true,Zj)]
abbrev aJk:=Af aEx
abbrev aKY:=Ae aEx aR1
variable (p497:aJk)(f497:aKY)
abbrev aEy:Aa:=[(false,.cx .f64),(false,.cx .f64)]
abbrev aR2:Aa:=[(false,.cx .f64)]
abbrev aJl:=Af aEy
abbrev aKZ:=Ae aEy aR2
variable (p498:aJl)(f498:aKZ)
abbrev aEz:Aa:=[(true,Zj),(true,Zj)]
abbrev aR3:Aa:=[(true,Zj)]
abbrev aJm:=Af aEz
abbrev aK0:=Ae aEz aR3
variable (p499:aJm)(f499:aK0)
abbrev aEA:Aa:=[(true,Zj),(true,Zj)]
abbrev aR4:Aa:=[(true,Zj)]
abbrev aJn:=Af aEA
abbrev aK1:=Ae aEA aR4
variable (p500:aJn)(f500:aK1)
abbrev aEB:Aa:=[(false,.flt .f64)]
abbrev aR5:Aa:=[(false,Zb)]
abbrev aWe:=Af aEB
abbrev aWB:=Ae aEB aR5
variable (p501:aWe)(f501:aWB)
abbrev aEC:Aa:=[(true,Zj),(true,Zj)]
abbrev aR6:Aa:=[(false,.bool)]
abbrev aWf:=Af aEC
abbrev aWC:=Ae aEC aR6
variable (p502:aWf)(f502:aWC)
abbrev aED:Aa:=[(true,Zj),(true,Zj)]
abbrev aR7:Aa:=[(false,.bool)]
abbrev aWg:=Af aED
abbrev aWD:=Ae aED aR7
variable (p503:aWg)(f503:aWD)
abbrev aEE:Aa:=[(false,Za),(false,Zb)]
abbrev aR8:Aa:=[(false,Zb)]
abbrev aWh:=Af aEE
abbrev aWE:=Ae aEE aR8
variable (p504:aWh)(f504:aWE)
abbrev aEF:Aa:=[(false,Za),(false,Za),(false,Zm),(true,Zj)]
abbrev aR9:Aa:=[(true,Zj),(false,Za),(false,Za)]
abbrev aSn:Pat:=⟨79,[(7,.one (.ptr 0 0)),(2,.one (.sl Zj)),(14,.one (.v .i64)),(0,.one (.v .i64)),(13,.one (.ptr 3 0)),(12,.one (.ptr 2 0)),(8,.one (.ptr 1 0))],[.raw [.v .u64,.v .u64],.raw [.v .u64,.v .u64],.raw [.v .i64,.v .i64,.v .i64],.raw [.v .u64,.v .u64]]⟩
abbrev aV0:List (Nat×Pat):=[(0,⟨79,[(0,.one (.v .i64)),(13,.one (.ptr 3 0)),(12,.one (.ptr 2 0)),(8,.one (.ptr 1 0))],[.gone,.raw [.v .u64,.v .u64],.raw [.v .i64,.v .i64,.v .i64],.raw [.v .u64,.v .u64]]⟩)]
abbrev aSu:Option Pat:=none
variable (w505_14:Pat.D aSn->Option (Ad aV0 aSu))
abbrev aJo:=Af aEF
abbrev aK2:=Ae aEF aR9
variable (p505:aJo)(f505:aK2)
abbrev aEG:Aa:=[(false,Zb)]
abbrev aSa:Aa:=[(false,Zb)]
abbrev yC:LK:=.ref Zp
abbrev aJp:=LK.D yC×DenS aEG->Bool
abbrev aK3:=LK.D yC×DenS aEG->LK.B yC×DenS aSa
variable (p506:aJp)(f506:aK3)
end Vx
namespace Vx
open Go Go.Proofs
variable (p69:BV)(f69:BW)(p91:Hc)(f91:Hg)(p65:DW)(f65:DX)(p140:W5)(f140:Xj)(p70:DE)(f70:DF)(p118:IG)(f118:IK)(p173:Bw)(f173:Bx)(p151:KX)(f151:K0)(p171:TR)(f171:TU)(p186:Va)(f186:Vo)(p185:U9)(f185:Vn)(p176:U8)(f176:Vm)(p141:U6)(f141:Vk)(p143:Ol)(f143:Oo)(p97:On)(f97:Ot)(p122:Ha)(f122:He)(p144:IH)(f144:IL)(p333:aAA)(f333:aBh)(p311:pD)(f311:qA)(p313:pE)(f313:qB)(p324:aAy)(f324:aBf)(p325:aAz)(f325:aBg)(p468:aAV)(f468:aBC)(p469:eO)(f469:fE)(p470:Vb)(f470:Vp)(p473:Vc)(f473:Vq)(p474:Xa)(f474:Xo)(p475:aAX)(f475:aBE)(p476:Xb)(f476:Xp)(p67:IJ)(f67:IN)(p74:Xe)(f74:Xs)(p76:Xf)(f76:Xt)(p32:Y32)(f32:Z32)(p487:eQ)(f487:fG)(p492:eR)(f492:fH)(p301:aIm)(f301:aJ0)(p494:aJi)(f494:aKW)(p306:aIn)(f306:aJ1)(p496:aJj)(f496:aKX)(p497:aJk)(f497:aKY)(p498:aJl)(f498:aKZ)(p499:aJm)(f499:aK0)(p500:aJn)(f500:aK1)(p505:aJo)(f505:aK2)(p506:aJp)(f506:aK3)
abbrev aEH:Aa:=[(false,Za),(false,Za),(false,Zm),(true,Zj)]
abbrev aSb:Aa:=[(true,Zj),(false,Za),(false,Za)]
abbrev aSo:Pat:=⟨77,[(51,.one (.v .i64)),(50,.one (.sl Zj)),(7,.one (.ptr 0 0)),(52,.one (.v .i64)),(13,.one (.ptr 4 0)),(11,.one (.ptr 3 0)),(8,.one (.ptr 1 0))],[.raw [.v .u64,.v .u64],.raw [.v .u64,.v .u64],.gone,.raw [.v .i64,.v .i64,.v .i64],.raw [.v .u64,.v .u64]]⟩
abbrev aV1:List (Nat×Pat):=[(0,⟨77,[(13,.one (.ptr 4 0)),(11,.one (.ptr 3 0)),(8,.one (.ptr 1 0))],[.gone,.raw [.v .u64,.v .u64],.gone,.raw [.v .i64,.v .i64,.v .i64],.raw [.v .u64,.v .u64]]⟩)]
abbrev aSv:Option Pat:=none
variable (w507_12:Pat.D aSo->Option (Ad aV1 aSv))
abbrev aWi:=Af aEH
abbrev aWF:=Ae aEH aSb
variable (p507:aWi)(f507:aWF)
abbrev aEI:Aa:=[(false,Zm),(true,Zj)]
abbrev aSc:Aa:=[(true,Zj),(false,Za)]
abbrev aSp:Pat:=⟨40,[(26,.one (.v .i64)),(25,.one (.sl Zj)),(7,.one (.cx .f64)),(27,.one (.v .i64)),(6,.one (.cx .f64)),(4,.one (.ptr 1 0))],[.gone,.raw [.v .u64,.v .u64]]⟩
abbrev aV2:List (Nat×Pat):=[(0,⟨40,[(6,.one (.cx .f64)),(4,.one (.ptr 1 0))],[.gone,.raw [.v .u64,.v .u64]]⟩)]
abbrev aSw:Option Pat:=none
variable (w508_7:Pat.D aSp->Option (Ad aV2 aSw))
abbrev aWj:=Af aEI
abbrev aWG:=Ae aEI aSc
variable (p508:aWj)(f508:aWG)
abbrev aEJ:Aa:=[(false,Za),(false,Za),(false,Zm),(true,Zj)]
abbrev aSd:Aa:=[(false,.bool)]
abbrev aSq:Pat:=⟨224,[(13,.one (.v .i64)),(12,.one (.own 3)),(11,.one (.sl Zj)),(2,.one (.sl Zj)),(10,.one (.ptr 2 0)),(0,.one (.v .i64)),(1,.one (.v .i64)),(9,.one (.sl Zj)),(7,.one (.ptr 0 0))],[.raw [.v .u64,.v .u64],.gone,.raw [.v .u64,.v .u64],.acc Zj]⟩
abbrev aV3:List (Nat×Pat):=[(0,⟨224,[(12,.one (.own 3)),(11,.one (.sl Zj)),(2,.one (.sl Zj)),(10,.one (.ptr 2 0)),(0,.one (.v .i64)),(1,.one (.v .i64)),(9,.one (.sl Zj)),(7,.one (.ptr 0 0))],[.raw [.v .u64,.v .u64],.gone,.raw [.v .u64,.v .u64],.acc Zj]⟩)]
abbrev aSx:Option Pat:=none
abbrev aSr:Pat:=⟨224,[(20,.one (.v .i64)),(11,.one (.sl Zj)),(2,.one (.sl Zj)),(10,.one (.ptr 2 0)),(0,.one (.v .i64)),(1,.one (.v .i64)),(9,.one (.sl Zj)),(7,.one (.ptr 0 0)),(14,.one (.ptr 4 0))],[.raw [.v .u64,.v .u64],.gone,.raw [.v .u64,.v .u64],.gone,.raw [.v .u64,.v .u64]]⟩
abbrev aV4:List (Nat×Pat):=[(2,⟨224,[(11,.one (.sl Zj)),(2,.one (.sl Zj)),(10,.one (.ptr 2 0)),(0,.one (.v .i64)),(1,.one (.v .i64)),(9,.one (.sl Zj)),(7,.one (.ptr 0 0)),(14,.one (.ptr 4 0))],[.raw [.v .u64,.v .u64],.gone,.raw [.v .u64,.v .u64],.gone,.raw [.v .u64,.v .u64]]⟩)]
abbrev aSy:Option Pat:=(some ⟨224,[(8,.one (.bool))],[]⟩)
abbrev aSs:Pat:=⟨224,[(21,.one (.v .i64)),(0,.one (.v .i64)),(1,.one (.v .i64)),(9,.one (.sl Zj)),(7,.one (.ptr 0 0)),(14,.one (.ptr 4 0))],[.raw [.v .u64,.v .u64],.gone,.gone,.gone,.raw [.v .u64,.v .u64]]⟩
abbrev aV5:List (Nat×Pat):=[(4,⟨224,[(0,.one (.v .i64)),(1,.one (.v .i64)),(9,.one (.sl Zj)),(7,.one (.ptr 0 0)),(14,.one (.ptr 4 0))],[.raw [.v .u64,.v .u64],.gone,.gone,.gone,.raw [.v .u64,.v .u64]]⟩)]
abbrev aSz:Option Pat:=none
variable (w509_10:Pat.D aSq->Option (Ad aV3 aSx))(w509_22:Pat.D aSr->Option (Ad aV4 aSy))(w509_29:Pat.D aSs->Option (Ad aV5 aSz))
abbrev aWk:=Af aEJ
abbrev aWH:=Ae aEJ aSd
variable (p509:aWk)(f509:aWH)
abbrev aEK:Aa:=[(false,Za),(false,Za)]
abbrev aSe:Aa:=[(false,Za)]
abbrev aWl:=Af aEK
abbrev aWI:=Ae aEK aSe
variable (p510:aWl)(f510:aWI)
abbrev aEL:Aa:=[(true,ZG)]
abbrev aSf:Aa:=[(true,ZG)]
abbrev aWm:=Af aEL
abbrev aWJ:=Ae aEL aSf
variable (p511:aWm)(f511:aWJ)
abbrev aEo:Aa:=[(false,Za)]
abbrev aRS:Aa:=[(false,.bool)]
abbrev aV6:=Af aEo
abbrev aWt:=Ae aEo aRS
variable (p323:aV6)(f323:aWt)
abbrev aEp:Aa:=[(false,Zb),(false,Za)]
abbrev aRT:Aa:=[(false,Ze)]
abbrev aV7:=Af aEp
abbrev aWu:=Ae aEp aRT
variable (p326:aV7)(f326:aWu)
abbrev aEq:Aa:=[(false,Ze)]
abbrev aRU:Aa:=[(false,Ze),(false,.bool),(false,Za)]
abbrev aSm:Pat:=⟨45,[(5,.one (.sl Zb)),(0,.one (.sl Zb))],[]⟩
abbrev aVZ:List (Nat×Pat):=[(0,⟨45,[(5,.one (.sl Zb)),(0,.one (.sl Zb))],[]⟩)]
abbrev aSt:Option Pat:=none
variable (w334_7:Pat.D aSm->Option (Ad aVZ aSt))
abbrev aV8:=Af aEq
abbrev aWv:=Ae aEq aRU
variable (p334:aV8)(f334:aWv)
abbrev aEr:Aa:=[(false,Za),(false,Za),(false,Ze),(false,Za),(false,.bool)]
abbrev aRV:Aa:=[(false,Zb),(false,Za),(false,Za)]
abbrev aV9:=Af aEr
abbrev aWw:=Ae aEr aRV
variable (p335:aV9)(f335:aWw)
abbrev aEs:Aa:=[(false,Za),(false,Za),(false,Zb),(false,Zb)]
abbrev aRW:Aa:=[(false,Zb),(false,Za),(false,Za)]
abbrev aWa:=Af aEs
abbrev aWx:=Ae aEs aRW
variable (p336:aWa)(f336:aWx)
abbrev aEM:Aa:=[(false,Za),(false,Za),(true,Zj)]
abbrev aSg:Aa:=[(false,Zb),(false,Za),(false,Za)]
abbrev aWn:=Af aEM
abbrev aWK:=Ae aEM aSg
variable (p512:aWn)(f512:aWK)
abbrev aEN:Aa:=[(false,Za),(false,Zb),(false,Zb)]
abbrev aSh:Aa:=[(false,.bool)]
abbrev aWo:=Af aEN
abbrev aWL:=Ae aEN aSh
variable (p513:aWo)(f513:aWL)
abbrev aEO:Aa:=[(false,Za),(true,Zj),(true,Zj)]
abbrev aSi:Aa:=[(false,.bool)]
abbrev aWp:=Af aEO
abbrev aWM:=Ae aEO aSi
variable (p514:aWp)(f514:aWM)
abbrev aEt:Aa:=[(false,Za),(false,.bool),(false,Zb),(false,Zb)]
abbrev aRX:Aa:=[(false,Zb),(false,Za)]
abbrev aWb:=Af aEt
abbrev aWy:=Ae aEt aRX
variable (p349:aWb)(f349:aWy)
abbrev aEP:Aa:=[(true,ZG)]
abbrev aSj:Aa:=[(false,.bool)]
abbrev aWq:=Af aEP
abbrev aWN:=Ae aEP aSj
variable (p515:aWq)(f515:aWN)
abbrev aEQ:Aa:=[(false,.flt .f64)]
abbrev aSk:Aa:=[(false,Zb)]
abbrev aWr:=Af aEQ
abbrev aWO:=Ae aEQ aSk
variable (p516:aWr)(f516:aWO)
abbrev aER:Aa:=[(true,.pair Zb Zq)]
abbrev aSl:Aa:=[(false,.bool)]
abbrev aWs:=Af aER
abbrev aWP:=Ae aER aSl
variable (p517:aWs)(f517:aWP)
end Vx
namespace Vx
open Go
theorem Ax{I O:Aa}{T:DenS I->Option (DenS O)}{d:DenS O}{x:DenS I}{y:DenS O}(h:T x=some y):(Ah I O T d).pre x=true:=by
 show(T x).isSome=true;rw[h];rfl
theorem Aw{I O:Aa}{T:DenS I->Option (DenS O)}{d:DenS O}{x:DenS I}{y:DenS O}(h:T x=some y):(Ah I O T d).F x=y:=by
 show(T x).getD d=y;rw[h];rfl
theorem Ec{k:LK}{I O:Aa}{T:k.D×DenS I->Option (k.B×DenS O)}{d:k.B×DenS O}{x:k.D×DenS I}{y:k.B×DenS O}(h:T x=some y):(C3 k I O T d).pre x=true:=by
 show(T x).isSome=true;rw[h];rfl
theorem Eb{k:LK}{I O:Aa}{T:k.D×DenS I->Option (k.B×DenS O)}{d:k.B×DenS O}{x:k.D×DenS I}{y:k.B×DenS O}(h:T x=some y):(C3 k I O T d).F x=y:=by
 show(T x).getD d=y;rw[h];rfl
theorem CT{x y}(h:WZ x=some y):Aq.pre x=true:=Ax h
theorem CQ{x y}(h:WZ x=some y):Aq.F x=y:=Aw h
theorem Jb{x y}(h:dK x=some y):Au.pre x=true:=Ax h
theorem I2{x y}(h:dK x=some y):Au.F x=y:=Aw h
theorem tC{x y}(h:dV x=some y):BY.pre x=true:=Ax h
theorem sB{x y}(h:dV x=some y):BY.F x=y:=Aw h
theorem aDz{x y}(h:dU x=some y):DD.pre x=true:=Ax h
theorem aCG{x y}(h:dU x=some y):DD.F x=y:=Aw h
theorem Uu{x y}(h:WX x=some y):Bv.pre x=true:=Ax h
theorem Ui{x y}(h:WX x=some y):Bv.F x=y:=Aw h
theorem aDx{x y}(h:dN x=some y):Bs.pre x=true:=Ax h
theorem aCE{x y}(h:dN x=some y):Bs.F x=y:=Aw h
theorem aDC{x y}(h:dY x=some y):Cg.pre x=true:=Ax h
theorem aCJ{x y}(h:dY x=some y):Cg.F x=y:=Aw h
theorem aPd{x y}(h:dO x=some y):TH.pre x=true:=Ax h
theorem aM7{x y}(h:dO x=some y):TH.F x=y:=Aw h
theorem aOO{x y}(h:UQ x=some y):AN.pre x=true:=Ax h
theorem aMJ{x y}(h:UQ x=some y):AN.F x=y:=Aw h
theorem bAX{x y}(h:WD x=some y):AU.pre x=true:=Ax h
theorem aYn{x y}(h:WD x=some y):AU.F x=y:=Aw h
theorem bAY{x y}(h:aL x=some y):Nw.pre x=true:=Ax h
theorem aYo{x y}(h:aL x=some y):Nw.F x=y:=Aw h
theorem bAZ{x y}(h:aO x=some y):Eu.pre x=true:=Ax h
theorem aYp{x y}(h:aO x=some y):Eu.F x=y:=Aw h
theorem aDq{x y}(h:aP x=some y):B4.pre x=true:=Ax h
theorem aCx{x y}(h:aP x=some y):B4.F x=y:=Aw h
theorem i9{x y}(h:aJ x=some y):B0.pre x=true:=Ax h
theorem gW{x y}(h:aJ x=some y):B0.F x=y:=Aw h
theorem bA3{x y}(h:aW x=some y):S2.pre x=true:=Ax h
theorem aYt{x y}(h:aW x=some y):S2.F x=y:=Aw h
theorem aOL{x y}(h:aD x=some y):FH.pre x=true:=Ax h
theorem aMG{x y}(h:aD x=some y):FH.F x=y:=Aw h
theorem Dj{x y}(h:UU x=some y):Aj.pre x=true:=Ax h
theorem De{x y}(h:UU x=some y):Aj.F x=y:=Aw h
theorem bA2{x y}(h:aV x=some y):CJ.pre x=true:=Ax h
theorem aYs{x y}(h:aV x=some y):CJ.F x=y:=Aw h
theorem aDo{x y}(h:WC x=some y):Ce.pre x=true:=Ax h
theorem aCv{x y}(h:WC x=some y):Ce.F x=y:=Aw h
theorem aOV{x y}(h:bF x=some y):Cu.pre x=true:=Ax h
theorem aMQ{x y}(h:bF x=some y):Cu.F x=y:=Aw h
theorem VW{x y}(h:WH x=some y):Cf.pre x=true:=Ax h
theorem VG{x y}(h:WH x=some y):Cf.F x=y:=Aw h
theorem bA5{x y}(h:bA x=some y):ID.pre x=true:=Ax h
theorem aYv{x y}(h:bA x=some y):ID.F x=y:=Aw h
theorem bA4{x y}(h:aX x=some y):Wv.pre x=true:=Ax h
theorem aYu{x y}(h:aX x=some y):Wv.F x=y:=Aw h
theorem aON{x y}(h:aH x=some y):Cc.pre x=true:=Ax h
theorem aMI{x y}(h:aH x=some y):Cc.F x=y:=Aw h
theorem bAV{x y}(h:aG x=some y):SX.pre x=true:=Ax h
theorem aYl{x y}(h:aG x=some y):SX.F x=y:=Aw h
theorem aOU{x y}(h:WK x=some y):CK.pre x=true:=Ax h
theorem aMP{x y}(h:WK x=some y):CK.F x=y:=Aw h
theorem aDA{x y}(h:dW x=some y):Co.pre x=true:=Ax h
theorem aCH{x y}(h:dW x=some y):Co.F x=y:=Aw h
theorem bA9{x y}(h:bH x=some y):S8.pre x=true:=Ax h
theorem aYz{x y}(h:bH x=some y):S8.F x=y:=Aw h
theorem sV{x y}(h:WM x=some y):WA.pre x=true:=Ax h
theorem rZ{x y}(h:WM x=some y):WA.F x=y:=Aw h
theorem aDu{x y}(h:UX x=some y):Dn.pre x=true:=Ax h
theorem aCB{x y}(h:UX x=some y):Dn.F x=y:=Aw h
theorem aDt{x y}(h:TL x=some y):EO.pre x=true:=Ax h
theorem aCA{x y}(h:TL x=some y):EO.F x=y:=Aw h
theorem jC{x y}(h:UV x=some y):DU.pre x=true:=Ax h
theorem gZ{x y}(h:UV x=some y):DU.F x=y:=Aw h
theorem Us{x y}(h:TK x=some y):Fh.pre x=true:=Ax h
theorem Ug{x y}(h:TK x=some y):Fh.F x=y:=Aw h
theorem YH{x y}(h:UW x=some y):WB.pre x=true:=Ax h
theorem XM{x y}(h:UW x=some y):WB.F x=y:=Aw h
theorem O0{x y}(h:UR x=some y):Db.pre x=true:=Ax h
theorem ON{x y}(h:UR x=some y):Db.F x=y:=Aw h
theorem aOR{x y}(h:WG x=some y):IC.pre x=true:=Ax h
theorem aMM{x y}(h:WG x=some y):IC.F x=y:=Aw h
theorem aDB{x y}(h:dX x=some y):CM.pre x=true:=Ax h
theorem aCI{x y}(h:dX x=some y):CM.F x=y:=Aw h
theorem bBp{x y}(h:cH x=some y):KH.pre x=true:=Ax h
theorem aYP{x y}(h:cH x=some y):KH.F x=y:=Aw h
theorem aDs{x y}(h:aY x=some y):Ww.pre x=true:=Ax h
theorem aCz{x y}(h:aY x=some y):Ww.F x=y:=Aw h
theorem aOS{x y}(h:aZ x=some y):Wx.pre x=true:=Ax h
theorem aMN{x y}(h:aZ x=some y):Wx.F x=y:=Aw h
theorem aOM{x y}(h:aE x=some y):FI.pre x=true:=Ax h
theorem aMH{x y}(h:aE x=some y):FI.F x=y:=Aw h
theorem jA{x y}(h:aM x=some y):Cd.pre x=true:=Ax h
theorem gX{x y}(h:aM x=some y):Cd.F x=y:=Aw h
theorem bBH{x y}(h:W0 x=some y):TG.pre x=true:=Ax h
theorem aY7{x y}(h:W0 x=some y):TG.F x=y:=Aw h
theorem aDv{x y}(h:bJ x=some y):FK.pre x=true:=Ax h
theorem aCC{x y}(h:bJ x=some y):FK.F x=y:=Aw h
theorem bAU{x y}(h:aF x=some y):FJ.pre x=true:=Ax h
theorem aYk{x y}(h:aF x=some y):FJ.F x=y:=Aw h
theorem bBG{x y}(h:dJ x=some y):Fi.pre x=true:=Ax h
theorem aY6{x y}(h:dJ x=some y):Fi.F x=y:=Aw h
theorem bBa{x y}(h:bI x=some y):Nx.pre x=true:=Ax h
theorem aYA{x y}(h:bI x=some y):Nx.F x=y:=Aw h
theorem sY{x y}(h:WR x=some y):Tc.pre x=true:=Ax h
theorem r6{x y}(h:WR x=some y):Tc.F x=y:=Aw h
theorem aOY{x y}(h:bU x=some y):Td.pre x=true:=Ax h
theorem aMT{x y}(h:bU x=some y):Td.F x=y:=Aw h
theorem aOZ{x y}(h:bV x=some y):Te.pre x=true:=Ax h
theorem aMU{x y}(h:bV x=some y):Te.F x=y:=Aw h
theorem aO0{x y}(h:bW x=some y):Tf.pre x=true:=Ax h
theorem aMV{x y}(h:bW x=some y):Tf.F x=y:=Aw h
theorem aDw{x y}(h:bK x=some y):Bi.pre x=true:=Ax h
theorem aCD{x y}(h:bK x=some y):Bi.F x=y:=Aw h
theorem bBc{x y}(h:bL x=some y):Ew.pre x=true:=Ax h
theorem aYC{x y}(h:bL x=some y):Ew.F x=y:=Aw h
theorem bBj{x y}(h:bY x=some y):Ny.pre x=true:=Ax h
theorem aYJ{x y}(h:bY x=some y):Ny.F x=y:=Aw h
theorem bBk{x y}(h:WS x=some y):Tg.pre x=true:=Ax h
theorem aYK{x y}(h:WS x=some y):Tg.F x=y:=Aw h
theorem aO2{x y}(h:cA x=some y):Th.pre x=true:=Ax h
theorem aMX{x y}(h:cA x=some y):Th.F x=y:=Aw h
theorem aO3{x y}(h:cB x=some y):Ti.pre x=true:=Ax h
theorem aMY{x y}(h:cB x=some y):Ti.F x=y:=Aw h
theorem aO4{x y}(h:cG x=some y):DB.pre x=true:=Ax h
theorem aMZ{x y}(h:cG x=some y):DB.F x=y:=Aw h
theorem aDp{x y}(h:UP x=some y):Dl.pre x=true:=Ax h
theorem aCw{x y}(h:UP x=some y):Dl.F x=y:=Aw h
theorem aOW{x y}(h:bN x=some y):B2.pre x=true:=Ax h
theorem aMR{x y}(h:bN x=some y):B2.F x=y:=Aw h
theorem aOX{x y}(h:bO x=some y):Bl.pre x=true:=Ax h
theorem aMS{x y}(h:bO x=some y):Bl.F x=y:=Aw h
theorem bA0{x y}(h:aS x=some y):EN.pre x=true:=Ax h
theorem aYq{x y}(h:aS x=some y):EN.F x=y:=Aw h
theorem aDr{x y}(h:aT x=some y):B1.pre x=true:=Ax h
theorem aCy{x y}(h:aT x=some y):B1.F x=y:=Aw h
theorem bBe{x y}(h:bP x=some y):Cn.pre x=true:=Ec h
theorem aYE{x y}(h:bP x=some y):Cn.F x=y:=Eb h
theorem bBf{x y}(h:bQ x=some y):CX.pre x=true:=Ec h
theorem aYF{x y}(h:bQ x=some y):CX.F x=y:=Eb h
theorem bBg{x y}(h:bR x=some y):EP.pre x=true:=Ec h
theorem aYG{x y}(h:bR x=some y):EP.F x=y:=Eb h
theorem bBh{x y}(h:bS x=some y):Tb.pre x=true:=Ax h
theorem aYH{x y}(h:bS x=some y):Tb.F x=y:=Aw h
theorem bBi{x y}(h:bT x=some y):EQ.pre x=true:=Ax h
theorem aYI{x y}(h:bT x=some y):EQ.F x=y:=Aw h
theorem bAW{x y}(h:aI x=some y):SY.pre x=true:=Ax h
theorem aYm{x y}(h:aI x=some y):SY.F x=y:=Aw h
theorem bA1{x y}(h:aU x=some y):DT.pre x=true:=Ax h
theorem aYr{x y}(h:aU x=some y):DT.F x=y:=Aw h
theorem bBl{x y}(h:cC x=some y):Tj.pre x=true:=Ax h
theorem aYL{x y}(h:cC x=some y):Tj.F x=y:=Aw h
theorem bBm{x y}(h:cD x=some y):Tk.pre x=true:=Ax h
theorem aYM{x y}(h:cD x=some y):Tk.F x=y:=Aw h
theorem bBn{x y}(h:cE x=some y):Nz.pre x=true:=Ax h
theorem aYN{x y}(h:cE x=some y):Nz.F x=y:=Aw h
theorem sZ{x y}(h:cF x=some y):Dc.pre x=true:=Ax h
theorem r7{x y}(h:cF x=some y):Dc.F x=y:=Aw h
theorem aO5{x y}(h:WT x=some y):Tp.pre x=true:=Ax h
theorem aM0{x y}(h:WT x=some y):Tp.F x=y:=Aw h
theorem bBo{x y}(h:WU x=some y):Tq.pre x=true:=Ax h
theorem aYO{x y}(h:WU x=some y):Tq.F x=y:=Aw h
theorem aO6{x y}(h:NE x=some y):NA.pre x=true:=Ax h
theorem r8{x y}(h:NE x=some y):NA.F x=y:=Aw h
theorem bBq{x y}(h:cJ x=some y):Tr.pre x=true:=Ax h
theorem aYQ{x y}(h:cJ x=some y):Tr.F x=y:=Aw h
theorem bBr{x y}(h:TM x=some y):Tt.pre x=true:=Ax h
theorem aYR{x y}(h:TM x=some y):Tt.F x=y:=Aw h
theorem tA{x y}(h:cK x=some y):C4.pre x=true:=Ec h
theorem r9{x y}(h:cK x=some y):C4.F x=y:=Eb h
theorem Ls{x y}(h:cL x=some y):Gn.pre x=true:=Ec h
theorem Lf{x y}(h:cL x=some y):Gn.F x=y:=Eb h
theorem aO7{x y}(h:cM x=some y):Gp.pre x=true:=Ec h
theorem aM1{x y}(h:cM x=some y):Gp.F x=y:=Eb h
theorem jD{x y}(h:cN x=some y):Ei.pre x=true:=Ec h
theorem g9{x y}(h:cN x=some y):Ei.F x=y:=Eb h
theorem bBs{x y}(h:cP x=some y):Tu.pre x=true:=Ec h
theorem aYS{x y}(h:cP x=some y):Tu.F x=y:=Eb h
theorem YI{x y}(h:TN x=some y):Ej.pre x=true:=Ec h
theorem XN{x y}(h:TN x=some y):Ej.F x=y:=Eb h
theorem aO8{x y}(h:UY x=some y):Do.pre x=true:=Ax h
theorem aM2{x y}(h:UY x=some y):Do.F x=y:=Aw h
theorem aO9{x y}(h:cQ x=some y):Tv.pre x=true:=Ec h
theorem aM3{x y}(h:cQ x=some y):Tv.F x=y:=Eb h
theorem bBt{x y}(h:cR x=some y):Tw.pre x=true:=Ec h
theorem aYT{x y}(h:cR x=some y):Tw.F x=y:=Eb h
theorem aPa{x y}(h:UZ x=some y):Dp.pre x=true:=Ax h
theorem aM4{x y}(h:UZ x=some y):Dp.F x=y:=Aw h
theorem bBu{x y}(h:cS x=some y):ER.pre x=true:=Ax h
theorem aYU{x y}(h:cS x=some y):ER.F x=y:=Aw h
theorem bBv{x y}(h:cT x=some y):Tx.pre x=true:=Ec h
theorem aYV{x y}(h:cT x=some y):Tx.F x=y:=Eb h
theorem bBw{x y}(h:cU x=some y):ES.pre x=true:=Ax h
theorem aYW{x y}(h:cU x=some y):ES.F x=y:=Aw h
theorem VX{x y}(h:WY x=some y):B3.pre x=true:=Ax h
theorem VH{x y}(h:WY x=some y):B3.F x=y:=Aw h
theorem YK{x y}(h:dP x=some y):Dq.pre x=true:=Ax h
theorem XP{x y}(h:dP x=some y):Dq.F x=y:=Aw h
theorem jF{x y}(h:dM x=some y):CL.pre x=true:=Ax h
theorem hZ{x y}(h:dM x=some y):CL.F x=y:=Aw h
theorem Hr{x y}(h:TO x=some y):Ek.pre x=true:=Ax h
theorem Hm{x y}(h:TO x=some y):Ek.F x=y:=Aw h
theorem Ut{x y}(h:WI x=some y):Ap.pre x=true:=Ax h
theorem Uh{x y}(h:WI x=some y):Ap.F x=y:=Aw h
theorem aOP{x y}(h:WE x=some y):SZ.pre x=true:=Ax h
theorem aMK{x y}(h:WE x=some y):SZ.F x=y:=Aw h
theorem Ht{x y}(h:W1 x=some y):Em.pre x=true:=Ax h
theorem Hn{x y}(h:W1 x=some y):Em.F x=y:=Aw h
theorem O1{x y}(h:dQ x=some y):En.pre x=true:=Ax h
theorem OO{x y}(h:dQ x=some y):En.F x=y:=Aw h
theorem YL{x y}(h:U0 x=some y):Eo.pre x=true:=Ax h
theorem XQ{x y}(h:U0 x=some y):Eo.F x=y:=Aw h
theorem Ja{x y}(h:NC x=some y):CF.pre x=true:=Ax h
theorem I1{x y}(h:NC x=some y):CF.F x=y:=Aw h
theorem sS{x y}(h:TJ x=some y):CG.pre x=true:=Ax h
theorem rW{x y}(h:TJ x=some y):CG.F x=y:=Aw h
theorem sT{x y}(h:aR x=some y):CH.pre x=true:=Ax h
theorem rX{x y}(h:aR x=some y):CH.F x=y:=Aw h
theorem sU{x y}(h:WF x=some y):CI.pre x=true:=Ax h
theorem rY{x y}(h:WF x=some y):CI.F x=y:=Aw h
theorem bBI{x y}(h:dS x=some y):TI.pre x=true:=Ax h
theorem aY8{x y}(h:dS x=some y):TI.F x=y:=Aw h
theorem aPe{x y}(h:dT x=some y):DV.pre x=true:=Ax h
theorem aM8{x y}(h:dT x=some y):DV.F x=y:=Aw h
theorem aO1{x y}(h:bZ x=some y):Gl.pre x=true:=Ax h
theorem aMW{x y}(h:bZ x=some y):Gl.F x=y:=Aw h
theorem sW{x y}(h:bG x=some y):Eh.pre x=true:=Ax h
theorem r4{x y}(h:bG x=some y):Eh.F x=y:=Aw h
theorem bA6{x y}(h:bD x=some y):S4.pre x=true:=Ax h
theorem aYw{x y}(h:bD x=some y):S4.F x=y:=Aw h
theorem bA7{x y}(h:WJ x=some y):S6.pre x=true:=Ax h
theorem aYx{x y}(h:WJ x=some y):S6.F x=y:=Aw h
theorem bA8{x y}(h:WO x=some y):S7.pre x=true:=Ax h
theorem aYy{x y}(h:WO x=some y):S7.F x=y:=Aw h
theorem aOT{x y}(h:bE x=some y):S5.pre x=true:=Ax h
theorem aMO{x y}(h:bE x=some y):S5.F x=y:=Aw h
theorem jB{x y}(h:bB x=some y):Dm.pre x=true:=Ax h
theorem gY{x y}(h:bB x=some y):Dm.F x=y:=Aw h
theorem aOQ{x y}(h:aQ x=some y):Gi.pre x=true:=Ax h
theorem aML{x y}(h:aQ x=some y):Gi.F x=y:=Aw h
theorem aDy{x y}(h:dR x=some y):Gs.pre x=true:=Ax h
theorem aCF{x y}(h:dR x=some y):Gs.F x=y:=Aw h
theorem sX{x y}(h:WQ x=some y):Gk.pre x=true:=Ax h
theorem r5{x y}(h:WQ x=some y):Gk.F x=y:=Aw h
theorem jE{x y}(h:cV x=some y):El.pre x=true:=Ec h
theorem hJ{x y}(h:cV x=some y):El.F x=y:=Eb h
theorem bBx{x y}(h:cX x=some y):Ty.pre x=true:=Ec h
theorem aYX{x y}(h:cX x=some y):Ty.F x=y:=Eb h
theorem bBy{x y}(h:cY x=some y):ET.pre x=true:=Ax h
theorem aYY{x y}(h:cY x=some y):ET.F x=y:=Aw h
theorem bBz{x y}(h:cZ x=some y):Tz.pre x=true:=Ax h
theorem aYZ{x y}(h:cZ x=some y):Tz.F x=y:=Aw h
theorem bBA{x y}(h:dA x=some y):TA.pre x=true:=Ax h
theorem aY0{x y}(h:dA x=some y):TA.F x=y:=Aw h
theorem Lt{x y}(h:dB x=some y):Gq.pre x=true:=Ec h
theorem Lg{x y}(h:dB x=some y):Gq.F x=y:=Eb h
theorem bBd{x y}(h:bM x=some y):Ta.pre x=true:=Ax h
theorem aYD{x y}(h:bM x=some y):Ta.F x=y:=Aw h
theorem bBb{x y}(h:WP x=some y):S9.pre x=true:=Ax h
theorem aYB{x y}(h:WP x=some y):S9.F x=y:=Aw h
theorem aPb{x y}(h:dC x=some y):Gr.pre x=true:=Ec h
theorem aM5{x y}(h:dC x=some y):Gr.F x=y:=Eb h
theorem bBB{x y}(h:dD x=some y):TB.pre x=true:=Ec h
theorem aY1{x y}(h:dD x=some y):TB.F x=y:=Eb h
theorem bBC{x y}(h:dE x=some y):EU.pre x=true:=Ax h
theorem aY2{x y}(h:dE x=some y):EU.F x=y:=Aw h
theorem YJ{x y}(h:WV x=some y):EV.pre x=true:=Ax h
theorem XO{x y}(h:WV x=some y):EV.F x=y:=Aw h
theorem bBD{x y}(h:dF x=some y):TC.pre x=true:=Ax h
theorem aY3{x y}(h:dF x=some y):TC.F x=y:=Aw h
theorem aPc{x y}(h:dG x=some y):TD.pre x=true:=Ec h
theorem aM6{x y}(h:dG x=some y):TD.F x=y:=Eb h
theorem bBE{x y}(h:dH x=some y):TE.pre x=true:=Ec h
theorem aY4{x y}(h:dH x=some y):TE.F x=y:=Eb h
theorem bBF{x y}(h:dI x=some y):EW.pre x=true:=Ax h
theorem aY5{x y}(h:dI x=some y):EW.F x=y:=Aw h
theorem tB{x y}(h:WW x=some y):EX.pre x=true:=Ax h
theorem sA{x y}(h:WW x=some y):EX.F x=y:=Aw h
end Vx
namespace Vx
open Go
theorem aPM{a:Int}(n:Nat)(hn:n<=64):AL .u64 a (n:Int)=a/2^n:=by
 unfold AL;rw[Int.fdiv_eq_ediv_of_nonneg]
 ·congr 2;simp[im];omega
 ·exact Int.pow_nonneg (by omega)
theorem Lo{m:Nat}(h:m<2^64):(co 64 (m:Int)).toNat=m:=by
 rw[BitVec.toNat_ofInt];omega
theorem TX{m n:Nat}(h:m<2^64)(hn:n<=64):BN .u64 (m:Int) ((2^n-1:Nat):Int)=((m%2^n:Nat):Int):=by
 have h2:2^n<=2^64:=ai (by omega) hn;have h3:0<2^n:=aj n;have hlt:m%2^n<2^n:=ca _ h3;have key:(co 64 (m:Int) &&& co 64 ((2^n-1:Nat):Int)).toNat=m%2^n:=by
  rw[pf,Lo h,Lo (by omega),Nat.and_two_pow_sub_one_eq_mod]
 show IntKind.u64.wrap (((co 64 (m:Int) &&& co 64 ((2^n-1:Nat):Int)).toNat:Nat):Int)=_;rw[key];exact IntWalk.u64_in _ (by omega)
theorem O4{n:Nat}(hn:n<=63):Be .u64 1 (n:Int)=((2^n:Nat):Int):=by
 have h2:2^n<=2^63:=ai (by omega) hn;have:(min (n:Int).toNat IntKind.u64.bits)=n:=by simp[im];omega
 unfold Be;rw[this,Int.one_mul];have e:(2:Int)^n=((2^n:Nat):Int):=by simp
 rw[e];refine IntWalk.u64_in _ ⟨og _,?_⟩;have:((2^n:Nat):Int)<=((2^63:Nat):Int):=Int.ofNat_le.2 h2;exact Int.le_trans this (by decide)
end Vx
namespace VL
open Go Vx
def Fm(f:Int):Prop:=0<=f/\f<4
instance (f:Int):Decidable (Fm f):=by unfold Fm;infer_instance
def fW(f:Int):Nat:=if f=0 then 16 else if f=1 then 16 else if f=2 then 32 else 64
def fP(f:Int):Nat:=if f=0 then 11 else if f=1 then 8 else if f=2 then 24 else 53
def fX(f:Int):Nat:=if f=0 then 15 else if f=1 then 127 else if f=2 then 127 else 1023
def Ck(f:Int):Ab rowsSh:=((fW f:Int),((fP f:Int),((1-(fX f:Int)),((fX f:Int),()))))
theorem Cm{f:Int}(h:Fm f):f=0∨f=1∨f=2∨f=3:=by
 obtain⟨h1,h2⟩:=h;omega
theorem aDO{f:Int}(h:Fm f)(d:Ab rowsSh):k_rows.getD (af f) d=Ck f:=by
 rcases Cm h with rfl|rfl|rfl|rfl<;>rfl
theorem DH{f:Int}(h:Fm f):8<=fP f:=by
 rcases Cm h with rfl|rfl|rfl|rfl<;>decide
theorem Et{f:Int}(h:Fm f):fP f+5<=fW f:=by
 rcases Cm h with rfl|rfl|rfl|rfl<;>decide
theorem Ez{f:Int}(h:Fm f):fW f<=64:=by
 rcases Cm h with rfl|rfl|rfl|rfl<;>decide
theorem Lc{f:Int}(h:Fm f):fX f<=1023:=by
 rcases Cm h with rfl|rfl|rfl|rfl<;>decide
theorem aCg{f:Int}(h:Fm f):2*fX f+1=2^(fW f-fP f)-1:=by
 rcases Cm h with rfl|rfl|rfl|rfl<;>decide
theorem At{n:Int}(h:-9223372036854775808<=n/\n<9223372036854775808):aa .i64 n=n:=IntWalk.i64_in n ⟨h.1,by omega⟩
theorem Dy{n:Int}(h:0<=n/\n<18446744073709551616):aa .u64 n=n:=IntWalk.u64_in n ⟨h.1,by omega⟩
theorem Dv(a n:Nat)(hn:n<=64):AL .u64 (a:Int) (n:Int)=((a/2^n:Nat):Int):=by
 rw[aPM n hn];simp
theorem EE(m n:Nat)(h:n<=m)(hm:m<=4611686018427387904):aa .i64 ((m:Int)-(n:Int))=((m-n:Nat):Int):=by
 rw[At (by omega)];omega
theorem Lj(m n:Nat):((m:Int)==(n:Int))=(m==n):=by
 rw[fi];simp only[beq_iff_eq];omega
theorem FT(m:Nat):((m:Int)==0)=(m==0):=Lj m 0
theorem sJ(m n:Nat):((m:Int)!=(n:Int))=(m !=n):=by
 show(!((m:Int)==(n:Int)))=!(m==n);rw[Lj]
theorem VQ(m:Nat):((m:Int)!=0)=(m !=0):=sJ m 0
theorem nlt(m n:Nat):(decide ((m:Int)<(n:Int)))=decide (m<n):=by
 rw[fi];simp
theorem AE(m:Nat):(decide (0<=(m:Int)))=true:=by simp
def Ak(f:Int)(a:Nat):Int:=if Fm f then(if a<2^fW f then 0 else 4)else 2
def eF(f:Int)(a:Nat):Nat:=a/2^(fP f-1)%2^(fW f-fP f)
def mF(f:Int)(a:Nat):Nat:=a%2^(fP f-1)
def sF(f:Int)(a:Nat):Bool:=a/2^(fW f-1)!=0
def BO(f:Int):Nat:=2^(fW f-fP f)-1
def Ou(f:Int)(a:Nat):Nat:=a%2^(fW f-1)
theorem IF{f:Int}(h:Fm f):WZ (f,())=some (Ck f,0,()):=by
 rcases Cm h with rfl|rfl|rfl|rfl<;>kernel_rfl
theorem KO{f:Int}(h:¬Fm f):WZ (f,())=some ((0,0,0,0,()),2,()):=by
 show xJ f=_;unfold xJ;have:(decide (f<(0:Int))||decide (f>=(4:Int)))=true:=by
  simp only[Fm]at h;simp only[dv,decide_eq_true_eq];omega
 rw[this];rfl
theorem aLK{f:Int}(h:¬Fm f)(a:Nat):Ak f a=2:=by unfold Ak;rw[if_neg h]
theorem aLL{f:Int}(h:Fm f){a:Nat}(ha:a<2^fW f):Ak f a=0:=by unfold Ak;rw[if_pos h,if_pos ha]
theorem aXl{f:Int}(h:Fm f){a:Nat}(ha:¬a<2^fW f):Ak f a=4:=by unfold Ak;rw[if_pos h,if_neg ha]
theorem Gv{f:Int}{a:Nat}(h:Ak f a=0):Fm f/\a<2^fW f:=by
 unfold Ak at h;split at h
 ·split at h
  ·exact⟨by assumption,by assumption⟩
  ·cases h
 ·cases h
theorem aL4{a n:Nat}:(a/2^n !=0)=decide (2^n<=a):=by
 rw[fi];simp[Nat.div_eq_zero_iff,aj]
theorem KN(f:Int)(a:Nat)(ha:a<2^64):dK (f,(a:Int),())=some (Ak f a,()):=by
 show xG Aq.pre Aq.F f a=_;unfold xG;by_cases hf:Fm f
 ·simp only[CT (IF hf),CQ (IF hf),cond_true,Ck,AE,aw];rw[Dv _ _ (Ez hf),VQ,aL4];show(bif decide ((fW f:Int)<((64:Nat):Int))&&_ then _ else _)=_;rw[nlt];have hw:=Ez hf;by_cases h:a<2^fW f
  ·have:(decide (fW f<64)&&decide (2^fW f<=a))=false:=by simp;intro _;exact h
   rw[this,aLL hf h];rfl
  ·have:(decide (fW f<64)&&decide (2^fW f<=a))=true:=by
    simp only[ag,decide_eq_true_eq];refine⟨?_,by omega⟩;rcases ax (fW f) 64 with h1|h1
    ·exact h1
    ·have:fW f=64:=by omega
     rw[this]at h;omega
   rw[this,aXl hf h];rfl
 ·simp only[CT (KO hf),CQ (KO hf),cond_true,aLK hf];rfl
theorem n4(n:Nat)(hn:n<=63):dV ((n:Int),())=some (((2^n-1:Nat):Int),()):=by
 show xQ n=_;unfold xQ;have h2:2^n<=2^63:=ai (by omega) hn;have h1:0<2^n:=aj n;rw[AE,cond_true,O4 hn];generalize 2^n=c at *
 rw[Dy (by omega)];have:(c:Int)-1=((c-1:Nat):Int):=by omega
 rw[this]
theorem aAj{f:Int}(hf:Fm f)(a:Nat)(ha:a<2^64):dU (Ck f,(a:Int),())=some (sF f a,(eF f a:Int),(mF f a:Int),()):=by
 show xP BY.pre BY.F (Ck f) a=_;unfold xP;have h1:=DH hf;have h2:=Et hf;have h3:=Ez hf;have e1:aa .i64 ((Ck f).1-1)=((fW f-1:Nat):Int):=EE (fW f) 1 (by omega) (by omega);have e2:aa .i64 ((Ck f).2.1-1)=((fP f-1:Nat):Int):=EE (fP f) 1 (by omega) (by omega);have e3:aa .i64 ((Ck f).1-(Ck f).2.1)=((fW f-fP f:Nat):Int):=EE (fW f) (fP f) (by omega) (by omega);have p1:=n4 (fW f-fP f) (by omega);have p2:=n4 (fP f-1) (by omega);rw[e1,e2,e3];simp only[AE,cond_true,tC p1,tC p2,sB p1,sB p2];rw[Dv _ _ (by omega),Dv _ _ (by omega),TX (bl (dw _ _) ha) (by omega),TX ha (by omega),VQ];rfl
def Ch(f:Int)(a:Nat):Int:=bif eF f a==BO f&&mF f a==0 then(bif sF f a then 2 else 9)else bif eF f a==BO f&&mF f a/2^(fP f-2)!=0 then 1 else bif eF f a==BO f then 0 else bif eF f a==0&&mF f a==0 then(bif sF f a then 5 else 6)else bif eF f a==0 then(bif sF f a then 4 else 7)else(bif sF f a then 3 else 8)
theorem nY{f:Int}{a:Nat}(ha:a<2^64)(h:Ak f a=0):WX (f,(a:Int),())=some (Ch f a,0,()):=by
 obtain⟨hf,h0⟩:=Gv h;show Y0 Au.pre Au.F DD.pre DD.F BY.pre BY.F f a=_;unfold Y0;have h1:=DH hf;have h2:=Et hf;have h3:=Ez hf;have e3:aa .i64 ((Ck f).1-(Ck f).2.1)=((fW f-fP f:Nat):Int):=EE (fW f) (fP f) (by omega) (by omega);have e4:aa .i64 ((Ck f).2.1-2)=((fP f-2:Nat):Int):=EE (fP f) 2 (by omega) (by omega);have p0:=KN f a ha;have p1:=n4 (fW f-fP f) (by omega);have p2:=aAj hf a ha;have hr:(decide (0<=f)&&decide (f<((4:Nat):Int)))=true:=by
  simp only[ag,decide_eq_true_eq];exact hf
 simp only[aDO hf,e3,e4,hr,Jb p0,I2 p0,tC p1,sB p1,aDz p2,aCG p2,h,cond_true,AE,aw,bne_self_eq_false,cond_false];rw[Dv _ _ (by omega),Lj,FT,FT,VQ];unfold Ch BO;generalize(eF f a==2^(fW f-fP f)-1)=b1;generalize(mF f a==0)=b2;generalize(mF f a/2^(fP f-2)!=0)=b3;generalize(eF f a==0)=b4;generalize sF f a=b5;cases b1<;>cases b2<;>cases b3<;>cases b4<;>cases b5<;>rfl
theorem aAe{f:Int}{a:Nat}(ha:a<2^64)(h:Ak f a≠0):WX (f,(a:Int),())=some (0,Ak f a,()):=by
 show Y0 Au.pre Au.F DD.pre DD.F BY.pre BY.F f a=_;unfold Y0;have p0:=KN f a ha;have:(Ak f a !=0)=true:=by simpa using h
 simp only[Jb p0,I2 p0,this,cond_true]
theorem aUp{f:Int}(hf:Fm f):aF (f,())=some (((2^(fW f-1):Nat):Int),()):=by
 rcases Cm hf with rfl|rfl|rfl|rfl<;>kernel_rfl
def Bp(f:Int)(a:Nat):Int:=bif sF f a then -(Ou f a:Int)else Ou f a
def qZ(f:Int)(a b:Nat):Int:=if Ak f a=0 then Ak f b else Ak f a
def nan(f:Int)(a:Nat):Bool:=eF f a==BO f&&mF f a !=0
def Bn(f:Int)(a:Nat):Bool:=nan f a&&mF f a/2^(fP f-2)==0
theorem rA(f:Int)(a:Nat):(Ch f a==1||Ch f a==0)=nan f a:=by
 unfold Ch nan;simp only[bne];cases eF f a==BO f<;>cases mF f a==0<;>cases sF f a<;>cases eF f a==0<;>cases mF f a/2^(fP f-2)==0<;>rfl
theorem rB(f:Int)(a:Nat):(Ch f a==0)=Bn f a:=by
 unfold Ch Bn nan;simp only[bne];cases eF f a==BO f<;>cases hm:mF f a==0<;>cases sF f a<;>cases eF f a==0<;>cases mF f a/2^(fP f-2)==0<;>rfl
def rC(f:Int)(a b:Nat)(signal:Bool):Int×Int×Int×Unit:=if qZ f a b≠0 then(0,0,qZ f a b,())else bif nan f a||nan f b then(3,(bif signal then 1 else bif Bn f a||Bn f b then 1 else 0),0,())else if Bp f a<Bp f b then(0,0,0,())else if Bp f a>Bp f b then(2,0,0,())else(1,0,0,())
end VL
namespace VL
open Go Vx
theorem aDW{f:Int}{a:Nat}(h:nan f a=false):Bn f a=false:=by
 unfold Bn;rw[h];rfl
end VL
namespace VL
open Go Vx
theorem bAQ{f:Int}{a:Nat}(h:Ak f a=0):a=Ou f a+(bif sF f a then 2^(fW f-1)else 0):=by
 obtain⟨hf,h0⟩:=Gv h;have h2:=Et hf;have e:2^fW f=2*2^(fW f-1):=by rw[←jd];congr 1;omega
 unfold Ou sF;rw[aL4];by_cases hc:2^(fW f-1)<=a
 ·rw[decide_eq_true hc];simp only[cond_true];have:a%2^(fW f-1)=a-2^(fW f-1):=by
   rw[Nat.mod_eq_sub_mod hc,bt (by omega)]
  omega
 ·rw[decide_eq_false hc];simp only[cond_false];rw[bt (by omega)];rfl
theorem aBL{f:Int}(a:Nat):Ou f a<2^(fW f-1):=ca _ (aj _)
theorem aCu{f:Int}(hf:Fm f):0<BO f:=by
 rcases Cm hf with rfl|rfl|rfl|rfl<;>decide
def Cz(f:Int):Nat:=2^(fW f-1)-2^(fP f-2)
def bHu(f:Int)(neg:Bool):Nat:=bif neg then 2^(fW f-1)else 0
theorem aAf{f:Int}(hf:Fm f):dN (f,())=some ((Cz f:Int),0,()):=by
 rcases Cm hf with rfl|rfl|rfl|rfl<;>kernel_rfl
def bAR(f:Int)(a b:Nat)(g:Bool):Nat:=if Bp f a=Bp f b/\a≠b then bHu f (!g)else if(Bp f b<Bp f a/\g=false)∨(Bp f a<Bp f b/\g=true)then b else a
def aCo(f:Int)(a b:Nat):Int:=bif Bn f a||Bn f b then 1 else 0
def aOJ(f:Int)(a b:Nat)(g:Bool):Int×Int×Int×Unit:=if qZ f a b≠0 then(0,0,qZ f a b,())else bif nan f a&&nan f b then((Cz f:Int),aCo f a b,0,())else bif nan f a then((b:Int),aCo f a b,0,())else bif nan f b then((a:Int),aCo f a b,0,())else((bAR f a b g:Int),0,0,())
end VL
namespace VL
open Go Vx
theorem aOx(k:Nat):Nat.testBit 1 k=decide (k=0):=by
 rw[fi];simp[Nat.testBit_one_eq_true_iff_self_eq_zero]
theorem bHr{m n:Nat}(h:m<2^(n+1)):m ^^^ 2^n=if m<2^n then m+2^n else m-2^n:=by
 apply ly;intro i;rw[Nat.testBit_xor,nu];have h2:2^(n+1)=2*2^n:=jd;split
 ·rename_i hm;have:m+2^n=2^n*1+m:=by omega
  rw[this,ji _ hm];by_cases hi:i<n
  ·have:¬n=i:=by omega
   simp[hi,this]
  ·rw[if_neg hi,nd (al hm (ai (by omega) (by omega)))];rw[aOx];by_cases hn:n=i
   ·subst hn;simp
   ·have:¬i-n=0:=by omega
    simp[hn,this]
 ·rename_i hm;have e:m=2^n*1+(m-2^n):=by omega
  have hr:m-2^n<2^n:=by omega
  rw[e,ji _ hr];have e2:2^n*1+(m-2^n)-2^n=m-2^n:=by omega
  rw[e2];by_cases hi:i<n
  ·have:¬n=i:=by omega
   simp[hi,this]
  ·rw[if_neg hi,nd (x:=m-2^n) (al hr (ai (by omega) (by omega))),aOx];by_cases hn:n=i
   ·subst hn;simp
   ·have:¬i-n=0:=by omega
    simp[hn,this]
theorem aRH{m n:Nat}(hn:n<=63)(h:m<2^(n+1)):j5 .u64 (m:Int) ((2^n:Nat):Int)=((if m<2^n then m+2^n else m-2^n:Nat):Int):=by
 have h1:2^(n+1)<=2^64:=ai (by omega) (by omega);have h2:2^n<2^64:=bq (by omega) (by omega);have h3:2^(n+1)=2*2^n:=jd;have key:(co 64 (m:Int) ^^^ co 64 ((2^n:Nat):Int)).toNat=if m<2^n then m+2^n else m-2^n:=by
  rw[BitVec.toNat_xor,Lo (by omega),Lo h2,bHr h]
 show IntKind.u64.wrap (((co 64 (m:Int) ^^^ co 64 ((2^n:Nat):Int)).toNat:Nat):Int)=_;rw[key];refine Dy ⟨og _,?_⟩;split<;>omega
def DK(f:Int)(s:Bool)(n:Nat):Nat:=n+(bif s then 2^(fW f-1)else 0)
theorem bHf{f:Int}(hf:Fm f):2^fW f=2*2^(fW f-1):=by
 have h2:=Et hf;rw[←jd];congr 1;omega
theorem aC6{f:Int}(hf:Fm f)(s:Bool){n:Nat}(hn:n<2^(fW f-1)):Ak f (DK f s n)=0:=by
 apply aLL hf;rw[bHf hf];unfold DK;cases s<;>simp<;>omega
theorem aOF{f:Int}{a:Nat}(h:Ak f a=0):a=DK f (sF f a) (Ou f a):=bAQ h
theorem VU{f:Int}{a:Nat}(h:Ak f a=0):a<2^64:=by
 obtain⟨hf,h0⟩:=Gv h;exact al h0 (ai (by omega) (Ez hf))
def Ct(f:Int):Nat:=2^(fP f-1)*BO f
theorem aZj{f:Int}(hf:Fm f):Ct f+128<=2^(fW f-1):=by
 rcases Cm hf with rfl|rfl|rfl|rfl<;>decide
theorem aXP{f:Int}(a:Nat):eF f a<=BO f:=by
 have:eF f a<2^(fW f-fP f):=ca _ (aj _);unfold BO;omega
def I7(f:Int)(a:Nat):Nat:=DK f (!sF f a) (Ou f a)
theorem aOn{f:Int}(hf:Fm f)(a:Nat):Ak f (I7 f a)=0:=aC6 hf _ (aBL a)
theorem aVl{f:Int}{a:Nat}(h:Ak f a=0):dJ (f,(a:Int),())=some ((I7 f a:Int),0,()):=by
 obtain⟨hf,h0⟩:=Gv h;show xF Au.pre Au.F FJ.pre FJ.F f a=_;unfold xF;have h2:=Et hf;have h3:=Ez hf;have p0:=KN f a (VU h);have p1:=aUp hf;simp only[Jb p0,I2 p0,bAU p1,aYk p1,h,cond_true,bne_self_eq_false,cond_false];rw[aRH (by omega) (by rw[Nat.sub_add_cancel (by omega)];exact h0)];have e:(if a<2^(fW f-1)then a+2^(fW f-1)else a-2^(fW f-1))=I7 f a:=by
  have hp:=aOF h;have hl:=aBL (f:=f) a;unfold I7;unfold DK at hp⊢;cases hs:sF f a<;>rw[hs]at hp<;>simp only[cond_true,cond_false,au,ar]at hp⊢
  ·rw[if_pos (by omega)];omega
  ·rw[if_neg (by omega)];omega
 rw[e]
def aZ3(f:Int)(a:Nat)(w:Int):Nat:=bif(Ch f a==9&&decide (w>0))||(Ch f a==2&&decide (w<0))then a else if Bp f a+w>0∨(Bp f a+w=0/\w<0)then(Bp f a+w).toNat else I7 f (-(Bp f a+w)).toNat
def bGT(f:Int)(a:Nat)(w:Int):Nat:=bif nan f a then Cz f else aZ3 f a w
def bGS(f:Int)(a:Nat)(w:Int):Int×Int×Int×Unit:=if Ak f a≠0 then(0,0,Ak f a,())else((bGT f a w:Int),(bif Bn f a then 1 else 0),0,())
theorem i0{f:Int}(hf:Fm f):nan f (Cz f)=true/\Ak f (Cz f)=0:=by
 rcases Cm hf with rfl|rfl|rfl|rfl<;>decide
end VL
namespace VL
open Go Vx
def nv(B:Nat):List Nat->Nat
 | []=>0
 |x::r=>x+B*nv B r
def Al:List Nat->List Nat
 | []=>[]
 |x::r=>match Al r with
  | []=>if x=0 then[]else[x]
  |y::t=>x::y::t
def dg(B:Nat)(n:Nat):List Nat:=if h:n=0∨B<2 then[]else n%B::dg B (n/B)
termination_by n
decreasing_by exact nm (by omega) (by omega)
theorem Dt(B:Nat):dg B 0=[]:=by rw[dg];simp
theorem Ep{B n:Nat}(hB:2<=B)(hn:0<n):dg B n=n%B::dg B (n/B):=by
 rw[dg];rw[dif_neg (by omega)]
theorem La{B:Nat}(hB:2<=B):∀(n:Nat),∀x∈dg B n,x<B:=by
 intro n;induction n using nn with
 |ind n ih=>
  intro x hx;rcases br n with rfl|hn
  ·rw[Dt]at hx;simp at hx
  ·rw[Ep hB hn]at hx;rcases cy.1 hx with rfl|hx
   ·exact ca _ (by omega)
   ·exact ih (n/B) (nm hn (by omega)) x hx
theorem i2{B:Nat}(hB:2<=B):∀(n:Nat),nv B (dg B n)=n:=by
 intro n;induction n using nn with
 |ind n ih=>
  rcases br n with rfl|hn
  ·rw[Dt];rfl
  ·rw[Ep hB hn];simp only[nv];rw[ih (n/B) (nm hn (by omega))];exact iq n B
theorem aLY{B x v:Nat}(hB:2<=B)(hx:x<B)(h:0<x+B*v):dg B (x+B*v)=x::dg B v:=by
 rw[Ep hB h,gv,bt hx,fc _ _ (by omega),ci hx,de]
theorem FW{B:Nat}(hB:2<=B):∀(l:List Nat),(∀x∈l,x<B)->Al l=dg B (nv B l)
 | [],_=>by simp only[nv];rw[Dt];rfl
 |x::r,h=>by
  have ih:=FW hB r fun y hy=>h y (by simp[hy])
  simp only[Al,nv]
  rcases br (nv B r)with h0|h0
  ·rw[ih,h0,Dt,fd,cz]
   simp only
   rcases br x with rfl|hx
   ·rw[Dt];rfl
   ·rw[if_neg (by omega)]
    have:=aLY (v:=0) hB (h x (by simp)) (by omega)
    rw[fd,cz,Dt]at this
    exact this.symm
  ·have hp:0<B*nv B r:=gz (by omega) h0
   rw[aLY hB (h x (by simp)) (by omega),ih]
   rw[Ep hB h0]
theorem Dx:∀(l:List Nat),(Al l).length<=l.length/\Al l=l.take (Al l).length
 | []=>⟨bu _,rfl⟩
 |x::r=>by
  obtain⟨h1,h2⟩:=Dx r
  simp only[Al]
  cases e:Al r with
  |nil=>
   simp only
   split
   ·exact⟨by simp,rfl⟩
   ·exact⟨by simp,rfl⟩
  |cons y t=>
   rw[e]at h1 h2
   simp only
   refine⟨by simp at h1⊢;omega,?_⟩
   simp only[dh,List.take_succ_cons]
   congr 1
theorem xW:∀(l:List Nat) (i:Nat),(Al l).length<=i->l.getD i 0=0
 | [],i,_=>by simp
 |x::r,i,h=>by
  have ih:=xW r
  simp only[Al]at h
  cases e:Al r with
  |nil=>
   rw[e]at h ih
   simp only at h
   cases i with
   |zero=>
    split at h
    ·rename_i hx;simp[hx]
    ·simp at h
   |succ i=>simpa using ih i (by simp)
  |cons y t=>
   rw[e]at h ih
   simp only at h
   cases i with
   |zero=>simp at h
   |succ i=>simpa using ih i (by simpa using h)
theorem V9:∀(l:List Nat),0<(Al l).length->l.getD ((Al l).length-1) 0≠0
 | [],h=>by simp[Al]at h
 |x::r,h=>by
  have ih:=V9 r
  simp only[Al]at h⊢
  cases e:Al r with
  |nil=>
   rw[e]at h
   simp only at h⊢
   split at h
   ·simp at h
   ·rename_i hx;rw[if_neg hx];simpa using hx
  |cons y t=>
   rw[e]at ih
   simp only[dh]at ih⊢
   have:=ih (by simp)
   simpa using this
def Wd(l:List Nat):List Int:=l.map fun n:Nat=>(n:Int)
theorem Ay(l:List Nat):(Wd l).length=l.length:=by simp[Wd]
theorem BH(l:List Nat)(i:Nat):(Wd l).getD i 0=((l.getD i 0:Nat):Int):=by
 unfold Wd;rw[ak,ak,ko];cases l[i]?<;>simp
theorem eG(l:List Nat)(n:Nat):(Wd l).take n=Wd (l.take n):=by simp[Wd,List.map_take]
theorem aVX(l:List Nat)(n:Nat):(Wd l).drop n=Wd (l.drop n):=by simp[Wd,List.map_drop]
theorem Dd(l:List Nat)(i n:Nat):(Wd l).set i (n:Int)=Wd (l.set i n):=by simp[Wd,List.map_set]
theorem NF(n:Nat):aq n (0:Int)=Wd (aq n 0):=by simp[Wd]
end VL
namespace VL
open Go Vx
def Ws(l:List Nat):Prop:=(∀x∈l,x<2^64)/\l.length<=1000000
theorem aVE(l:List Nat)(hl:l.length<=1000000)(n:Nat)(hn:n<=l.length)(ht:(Al l).length<=n):
  oH ((Wd l,((n:Int),())),())=some (.inl ((Wd l,(((Al l).length:Int),())),())):=by
 have key:=CD aNR (fun x=>x.1.2.1.toNat)
  (fun x=>∃n:Nat,n<=l.length/\(Al l).length<=n/\x=((Wd l,((n:Int),())),()))
  (fun _=>.inl ((Wd l,(((Al l).length:Int),())),())) ?_ ((Wd l,((n:Int),())),()) ⟨n,hn,ht,rfl⟩
 ·exact key
 intro L x hx hL;obtain⟨n,hn,ht,rfl⟩:=hx;unfold X7;rcases br n with rfl|hpos
 ·have e1:decide (((0:Nat):Int)>0)=false:=rfl;simp only[e1,ar,ba,cond_true,ao,cond_false];have:(Al l).length=0:=by omega
  rw[this]
 ·have e0:aa .i64 ((n:Int)-1)=((n-1:Nat):Int):=EE n 1 (by omega) (by omega);have e1:decide ((n:Int)>0)=true:=by simp;omega
  have e2:(decide ((0:Int)<=((n-1:Nat):Int))&&decide (((n-1:Nat):Int)<((Wd l).length:Int)))=true:=by
   rw[Ay];simp;omega
  simp only[e0,e1,e2,aw,cond_true,az,ab,BH,FT];cases hz:(l.getD (n-1) 0==0)with
  |true=>
   simp only[cond_true];refine hL _ ⟨n-1,by omega,?_,rfl⟩ (by simp only[ab];omega);rcases ax (n-1) (Al l).length with h|h
   ·exfalso;have e:n=(Al l).length:=by omega
    have:=V9 l (by omega);rw[←e]at this;exact this (by simpa using hz)
   ·exact h
  |false=>
   simp only[cond_false];have:(Al l).length=n:=by
    rcases ax (n-1) (Al l).length with h|h
    ·omega
    ·exfalso;have:=xW l (n-1) h;rw[this]at hz;simp at hz
   rw[this]
theorem Ex(l:List Nat)(hl:l.length<=1000000):UU (Wd l,())=some (Wd (Al l),()):=by
 show vC oH (Wd l)=_;unfold vC;have h:=aVE l hl l.length (bu _) (Dx l).1;rw[Ay];rw[h];have e:(decide ((0:Int)<=((Al l).length:Int))&&decide (((Al l).length:Int)<=((Wd l).length:Int)))=true:=by
  rw[Ay];have:=(Dx l).1;simp;omega
 show(bif(decide ((0:Int)<=((Al l).length:Int))&&decide (((Al l).length:Int)<=((Wd l).length:Int)))then some (qf (af 0) (kh (af ((Al l).length:Int)) (Wd l)),())else none)=_;rw[e,cond_true,ab,ap,List.drop_zero,eG];have:=(Dx l).2;rw[←this]
def Am(n:Nat):Nat:=if n=0 then 0 else Nat.log2 n+1
theorem Hj(n:Nat):n<2^Am n:=by
 unfold Am;split
 ·subst_vars;decide
 ·exact Nat.lt_log2_self
theorem Ox{n:Nat}(h:n≠0):2^(Am n-1)<=n:=by
 unfold Am;rw[if_neg h];exact Nat.log2_self_le h
theorem aXd{n k:Nat}(h1:2^k<=n)(h2:n<2^(k+1)):Am n=k+1:=by
 have hp:=aj k;have hn:n≠0:=by omega
 have a1:=Hj n;have a2:=Ox hn;have b1:Am n-1<k+1:=(cu (by decide)).1 (bl a2 h2);have b2:k<Am n:=(cu (by decide)).1 (bl h1 a1);omega
theorem qV{n k:Nat}(h:2^k<=n):Am n=k+Am (n/2^k):=by
 have hp:=aj k;have hq:0<n/2^k:=Nat.div_pos h hp;have a1:=Hj (n/2^k);have a2:=Ox (n:=n/2^k) (by omega);have hb:0<Am (n/2^k):=by unfold Am;rw[if_neg (by omega)];omega
 have h1:2^(k+(Am (n/2^k)-1))<=n:=by
  rw[bj];calc 2^k*2^(Am (n/2^k)-1)<=2^k*(n/2^k):=cp _ a2
   _<=n:=Nat.mul_div_le n _
 have h2:n<2^(k+(Am (n/2^k)-1)+1):=by
  rw[show k+(Am (n/2^k)-1)+1=k+Am (n/2^k) by omega,bj,be];exact(bv hp).1 a1
 have:=aXd h1 h2;omega
theorem aNt:∀i:Nat,i<256->(I4.getD i 0).toNat=Am i:=by
 have h:((ig 256).all fun i=>decide ((I4.getD i 0).toNat=Am i))=true:=by decide +kernel
 intro i hi;have:=lv.1 h i (ku.2 hi);simpa using this
theorem aF9(n:Nat)(hn:n<2^64):bF ((n:Int),())=some ((Am n:Int),()):=by
 have hs:∀m k:Nat,k<=64->AL .u64 (m:Int) (k:Int)=((m/2^k:Nat):Int):=fun m k hk=>Dv m k hk;have V5:∀m:Nat,AL .u64 (m:Int) 32=((m/2^32:Nat):Int):=fun m=>hs m 32 (by decide);have s16:∀m:Nat,AL .u64 (m:Int) 16=((m/2^16:Nat):Int):=fun m=>hs m 16 (by decide);have s8:∀m:Nat,AL .u64 (m:Int) 8=((m/2^8:Nat):Int):=fun m=>hs m 8 (by decide);have ge:∀m k:Nat,decide ((m:Int)>=(k:Int))=decide (k<=m):=fun m k=>by rw[fi];simp
 have g32:∀m:Nat,decide ((m:Int)>=4294967296)=decide (2^32<=m):=fun m=>ge m (2^32);have g16:∀m:Nat,decide ((m:Int)>=65536)=decide (2^16<=m):=fun m=>ge m (2^16);have g8:∀m:Nat,decide ((m:Int)>=256)=decide (2^8<=m):=fun m=>ge m (2^8);have tab:∀m:Nat,m<256->aa .u8 (m:Int)=(m:Int):=fun m hm=>IntWalk.u8_in _ (by omega);have look:∀(m:Nat) (c:Int) (d:Nat),m<256->c=(d:Int)->d<=56->(bif(decide ((0:Int)<=aa .u8 (m:Int))&&decide (aa .u8 (m:Int)<(256:Int)))then(some (aa .i64 (c+aa .i64 ((UInt8.toNat (I4.getD (af (aa .u8 (m:Int))) 0):Nat):Int)),()):Option (DenS FC))else none)=some (((d+Am m:Nat):Int),()):=fun m c d hm hc hd=>by
  have e:(decide ((0:Int)<=(m:Int))&&decide ((m:Int)<(256:Int)))=true:=by simp;omega
  have hb:Am m<=8:=by
   have:=aNt m hm;rcases br m with rfl|hpos
   ·decide
   ·have:=Ox (n:=m) (by omega);have h8:Am m-1<8:=(cu (a:=2) (by decide)).1 (bl this hm);omega
  rw[tab m hm,e,cond_true,ab,aNt m hm,hc,At (n:=((Am m:Nat):Int)) (by omega),At (by omega)];rfl
 show vG n=_;unfold vG;have CC:∀(k:Nat),2^k<=n->k+Am (n/2^k)=Am n:=fun k h=>(qV h).symm;have dd:∀a b:Nat,n/2^a/2^b=n/2^(a+b):=fun a b=>by rw[dj,←bj]
 have up:∀a b:Nat,2^b<=n/2^a->2^(a+b)<=n:=fun a b h=>by
  rw[bj,be];exact(Nat.le_div_iff_mul_le (aj a)).1 h
 have down:∀a b:Nat,n/2^a<2^b->n<2^(a+b):=fun a b h=>by
  rw[bj,be];exact(bv (aj a)).1 h
 have small:∀a:Nat,n<2^(a+8)->n/2^a<256:=fun a h=>by
  rw[bv (aj a),be];rw[bj]at h;exact h
 simp only[V5,s16,s8,g32,g16,g8];by_cases h1:2^32<=n
 ·rw[decide_eq_true h1,cond_true];by_cases h2:2^16<=n/2^32
  ·rw[decide_eq_true h2,cond_true];by_cases h3:2^8<=n/2^32/2^16
   ·rw[decide_eq_true h3,cond_true];rw[dd 32 16]at h3;have hm:n/2^32/2^16/2^8=n/2^56:=by rw[dd 32 16,dd 48 8]
    refine(look (n/2^32/2^16/2^8) _ 56 (by rw[hm];exact small 56 hn) rfl (by decide)).trans ?_;rw[hm,CC 56 (up 48 8 h3)]
   ·rw[decide_eq_false h3,cond_false];rw[dd 32 16]at h3;refine(look (n/2^32/2^16) _ 48 (by rw[dd 32 16];exact small 48 (down 48 8 (by omega))) rfl (by decide)).trans ?_;rw[dd 32 16,CC 48 (up 32 16 h2)]
  ·rw[decide_eq_false h2,cond_false];by_cases h3:2^8<=n/2^32
   ·rw[decide_eq_true h3,cond_true];refine(look (n/2^32/2^8) _ 40 (by rw[dd 32 8];exact small 40 (down 32 16 (by omega))) rfl (by decide)).trans ?_;rw[dd 32 8,CC 40 (up 32 8 h3)]
   ·rw[decide_eq_false h3,cond_false];refine(look (n/2^32) _ 32 (small 32 (down 32 8 (by omega))) rfl (by decide)).trans ?_;rw[CC 32 h1]
 ·rw[decide_eq_false h1,cond_false];by_cases h2:2^16<=n
  ·rw[decide_eq_true h2,cond_true];by_cases h3:2^8<=n/2^16
   ·rw[decide_eq_true h3,cond_true];refine(look (n/2^16/2^8) _ 24 (by rw[dd 16 8];exact small 24 (by omega)) rfl (by decide)).trans ?_;rw[dd 16 8,CC 24 (up 16 8 h3)]
   ·rw[decide_eq_false h3,cond_false];refine(look (n/2^16) _ 16 (small 16 (down 16 8 (by omega))) rfl (by decide)).trans ?_;rw[CC 16 h2]
  ·rw[decide_eq_false h2,cond_false];by_cases h3:2^8<=n
   ·rw[decide_eq_true h3,cond_true];refine(look (n/2^8) _ 8 (small 8 (by omega)) rfl (by decide)).trans ?_;rw[CC 8 h3]
   ·rw[decide_eq_false h3,cond_false];refine(look n 0 0 (by omega) rfl (by decide)).trans ?_;rw[de]
end VL
namespace VL
open Go Vx
theorem Uo(B:Nat):∀(l m:List Nat),nv B (l++m)=nv B l+B^l.length*nv B m
 | [],m=>by simp[nv]
 |x::r,m=>by
  simp only[List.cons_append,nv,dh]
  rw[Uo B r m,dl,bw,gm]
  congr 2
  rw[be (B^r.length) B,bh]
theorem CP{B:Nat}(hB:2<=B):∀(l:List Nat),(∀x∈l,x<B)->nv B l<B^l.length
 | [],_=>by simp[nv]
 |x::r,h=>by
  have ih:=CP hB r fun y hy=>h y (by simp[hy])
  have hx:=h x (by simp)
  simp only[nv,dh,dl]
  have:B*nv B r<=B*(B^r.length-1):=cp _ (by omega)
  have hp:0<B^r.length:=go (by omega)
  rw[Nat.mul_sub]at this
  have h1:B*1<=B*B^r.length:=cp _ hp
  rw[be (B^r.length) B]
  omega
theorem Lm(B:Nat)(l:List Nat)(i:Nat)(h:i<=l.length):nv B l=nv B (l.take i)+B^i*nv B (l.drop i):=by
 conv=>lhs;rw[←List.take_append_drop i l]
 rw[Uo];simp[h]
theorem Ln{B:Nat}(hB:2<=B){l:List Nat}(h:∀x∈l,x<B):nv B (Al l)=nv B l:=by
 rw[FW hB l h,i2 hB]
theorem Wa{l:List Nat}{x:Nat}(h:x∈Al l):x∈l:=by
 rw[(Dx l).2]at h;exact fg h
theorem aRv{l:List Nat}{i:Nat}(h:i<(Al l).length):(Al l)[i]? = l[i]?:=by
 have:(Al l)[i]? = (l.take (Al l).length)[i]?:=congrArg (fun t:List Nat=>t[i]?) (Dx l).2;rw[this,List.getElem?_take_of_lt h]
theorem aBS{a b k:Nat}(ha:a<2^k)(hb:0<b):Am (a+2^k*b)=k+Am b:=by
 have hp:=aj k;have h1:2^k*1<=2^k*b:=cp _ hb;rw[qV (n:=a+2^k*b) (k:=k) (by omega),fc _ _ hp,ci ha,de]
theorem Du(i:Nat):(2^64)^i=2^(64*i):=by rw[←Nat.pow_mul]
theorem aLr{l:List Nat}(h:∀x∈l,x<2^64)(hl:0<(Al l).length):Am (nv (2^64) l)=64*((Al l).length-1)+Am (l.getD ((Al l).length-1) 0):=by
 have hlast:=V9 l hl;have hle:=(Dx l).1;rw[←Ln (by decide) h];have hm:∀x∈Al l,x<2^64:=fun x hx=>h x (Wa hx);rw[Lm _ (Al l) ((Al l).length-1) (by omega),Du];have hd:(Al l).drop ((Al l).length-1)=[l.getD ((Al l).length-1) 0]:=by
  have hlt:(Al l).length-1<(Al l).length:=by omega
  rw[dz hlt];have e1:(Al l).length-1+1=(Al l).length:=by omega
  rw[e1,List.drop_length];congr 1;have:(Al l)[(Al l).length-1]? = l[(Al l).length-1]?:=aRv hlt;rw[bo hlt]at this;rw[ak,←this];rfl
 rw[hd];have hlow:=CP (B:=2^64) (by decide) ((Al l).take ((Al l).length-1)) fun x hx=>hm x (fg hx);rw[gx,gu (by omega),Du]at hlow;have:nv (2^64) [l.getD ((Al l).length-1) 0]=l.getD ((Al l).length-1) 0:=by simp[nv]
 rw[this];exact aBS hlow (by omega)
theorem aRw{l:List Nat}(h:∀x∈l,x<2^64)(h0:(Al l).length=0):nv (2^64) l=0:=by
 have:Al l=[]:=List.eq_nil_of_length_eq_zero h0;rw[←Ln (by decide) h,this];rfl
theorem BZ{l:List Nat}{B:Nat}(hB:0<B)(h:∀x∈l,x<B)(i:Nat):l.getD i 0<B:=by
 rw[ak];cases e:l[i]? with
 |none=>exact hB
 |some x=>exact h x (List.mem_of_getElem? e)
theorem aUF(l:List Nat)(hl:Ws l):WH (Wd l,())=some ((Am (nv (2^64) l):Int),()):=by
 obtain⟨h,hlen⟩:=hl;show uW Aj.pre Aj.F Cu.pre Cu.F (Wd l)=_;unfold uW;have p0:=Ex l hlen;have hle:=(Dx l).1;simp only[Dj p0,De p0,cond_true,Ay];rcases br (Al l).length with h0|h0
 ·rw[h0,aRw h h0];rfl
 ·have e0:(((Al l).length:Int)==0)=false:=by rw[FT];exact beq_false_of_ne (by omega)
  have e1:aa .i64 (((Al l).length:Int)-1)=(((Al l).length-1:Nat):Int):=EE (Al l).length 1 (by omega) (by omega);have e2:(decide ((0:Int)<=(((Al l).length-1:Nat):Int))&&decide ((((Al l).length-1:Nat):Int)<((Al l).length:Int)))=true:=by simp only[ag,decide_eq_true_eq];omega
  have e3:(Wd (Al l)).getD ((Al l).length-1) 0=((l.getD ((Al l).length-1) 0:Nat):Int):=by
   rw[BH];congr 1;rw[ak,ak];rw[aRv (by omega)]
  have hd:=BZ (by decide) h ((Al l).length-1);have p1:=aF9 _ hd;have hb:Am (l.getD ((Al l).length-1) 0)<=64:=by
   rcases br (l.getD ((Al l).length-1) 0)with z|z
   ·rw[z];decide
   ·have:=Ox (n:=l.getD ((Al l).length-1) 0) (by omega);have:Am (l.getD ((Al l).length-1) 0)-1<64:=(cu (a:=2) (by decide)).1 (bl this hd);omega
  rw[e0,e1,e2,cond_false,cond_true,ab,e3];simp only[aOV p1,aMQ p1,cond_true];rw[aLr h h0,At (n:=64*(((Al l).length-1:Nat):Int)) (by omega),At (by omega)];congr 2
end VL
namespace VL
open Go Vx
theorem x7(x:Nat):aa .u64 (x:Int)=((x%2^64:Nat):Int):=by
 simp[aa,im,jf];try omega
theorem Hw(x n:Nat)(hn:n<=64):Be .u64 (x:Int) (n:Int)=((x*2^n%2^64:Nat):Int):=by
 have hm:(min (n:Int).toNat IntKind.u64.bits)=n:=by simp[im];omega
 unfold Be;rw[hm];have e:(x:Int)*2^n=((x*2^n:Nat):Int):=by simp
 rw[e];exact x7 _
theorem OY{a b k:Nat}(ha:a<2^k)(h:a+b*2^k<2^64):Ai .u64 (a:Int) ((b*2^k:Nat):Int)=((a+b*2^k:Nat):Int):=by
 have key:(co 64 (a:Int) ||| co 64 ((b*2^k:Nat):Int)).toNat=a+b*2^k:=by
  rw[po,Lo (by omega),Lo (by omega),be b,qi,←Nat.two_pow_add_eq_or_of_lt ha];omega
 show IntKind.u64.wrap (((co 64 (a:Int) ||| co 64 ((b*2^k:Nat):Int)).toNat:Nat):Int)=_;rw[key];exact Dy (by omega)
def BM(s:Nat):List Nat->List Nat
 | []=>[]
 |x::r=>(x/2^s+(r.getD 0 0%2^s)*2^(64-s))::BM s r
theorem O5(s:Nat):∀l,(BM s l).length=l.length
 | []=>rfl
 |_::r=>by simp[BM,O5 s r]
theorem jS(s:Nat):∀(l:List Nat) (i:Nat),i<l.length->(BM s l)[i]? = some (l.getD i 0/2^s+(l.getD (i+1) 0%2^s)*2^(64-s))
 | [],i,h=>by simp at h
 |x::r,0,_=>by simp[BM]
 |x::r,i+1,h=>by
  simp only[BM,List.getElem?_cons_succ]
  rw[jS s r i (by simpa using h)]
  simp
theorem YG{s:Nat}(hs:s<=64):2^64=2^s*2^(64-s):=by rw[←bj];congr 1;omega
theorem tR{s:Nat}(hs:s<=64){x y:Nat}(hx:x<2^64):x/2^s<2^(64-s)/\x/2^s+(y%2^s)*2^(64-s)<2^64:=by
 have hp:=aj s;have h1:x/2^s<2^(64-s):=by
  rw[bv hp,be,←YG hs];exact hx
 refine⟨h1,?_⟩;have h2:y%2^s+1<=2^s:=ca _ hp;have h3:=bc (2^(64-s)) h2;rw[←YG hs,cm,fw]at h3;omega
theorem aZ7{B:Nat}{s:Nat}(hB:B%2^s=0):∀l:List Nat,nv B l%2^s=l.getD 0 0%2^s
 | []=>by simp[nv]
 |x::r=>by
  simp only[nv,nw]
  obtain⟨c,hc⟩:=Nat.dvd_of_mod_eq_zero hB
  rw[hc,bh,gv]
theorem aDf{s:Nat}(hs:s<=64):∀l:List Nat,nv (2^64) (BM s l)=nv (2^64) l/2^s
 | []=>by simp[BM,nv]
 |x::r=>by
  have ih:=aDf hs r
  simp only[BM,nv]
  rw[ih]
  have hp:=aj s
  have hm:=aZ7 (B:=2^64) (s:=s) (by rw[YG hs];exact lh _ _) r
  rw[←hm]
  have hN:nv (2^64) r=2^s*(nv (2^64) r/2^s)+nv (2^64) r%2^s:=(ct _ _).symm
  generalize nv (2^64) r/2^s=q at *
  generalize nv (2^64) r%2^s=t at *
  rw[hN]
  have e:x+2^64*(2^s*q+t)=x+2^s*(2^64*q+2^(64-s)*t):=by
   rw[bw,bw]
   have e1:2^64*(2^s*q)=2^s*(2^64*q):=by rw[←bh,←bh,be (2^64) (2^s)]
   have e2:2^64*t=2^s*(2^(64-s)*t):=by rw[←bh,←YG hs]
   rw[e1,e2]
  rw[e,fc _ _ hp,be t]
  omega
end VL
namespace VL
open Go Vx
theorem aPK{O:List Nat}{i v:Nat}(hi:i<O.length)(hv:O[i]? = some v):(O.take i++aq (O.length-i) 0).set i v=O.take (i+1)++aq (O.length-(i+1)) 0:=by
 have e:O.length-i=(O.length-(i+1))+1:=by omega
 have hl:(O.take i).length=i:=by simp;omega
 rw[e,jh,ga _ _ (by omega),hl,gr,jn];rw[qb,hv];simp
theorem aCK{l:List Nat}{i v:Nat}(hi:i<l.length):(l.set i v).getD i 0=v:=by
 rw[ak,List.getElem?_set_self hi];rfl
theorem rL(l:List Nat)(w i:Nat):(l.drop w).getD i 0=l.getD (w+i) 0:=by
 rw[ak,ak,List.getElem?_drop]
theorem aDH(n:Nat)(hn:n<=1000000000):Bg .i64 (n:Int) 64=((n/64:Nat):Int):=by
 unfold Bg;have e:(n:Int).tdiv 64=((n/64:Nat):Int):=rfl;rw[e,At (by omega)]
theorem aVq(l:List Nat)(hl:l.length<=1000000)(n:Nat)(hn:n<=l.length)(ht:(Al l).length<=n):
  n6 (((),((n:Int),())),(Wd l,()))=some (.inl (((),(((Al l).length:Int),())),(Wd l,()))):=by
 have key:=CD aND (fun x=>x.1.2.1.toNat)
  (fun x=>∃n:Nat,n<=l.length/\(Al l).length<=n/\x=(((),((n:Int),())),(Wd l,())))
  (fun _=>.inl (((),(((Al l).length:Int),())),(Wd l,()))) ?_ (((),((n:Int),())),(Wd l,())) ⟨n,hn,ht,rfl⟩
 ·exact key
 intro L x hx hL;obtain⟨n,hn,ht,rfl⟩:=hx;unfold XT;rcases br n with rfl|hpos
 ·have e1:decide (((0:Nat):Int)>0)=false:=rfl;simp only[e1,ar,ba,cond_true,ao,cond_false];have:(Al l).length=0:=by omega
  rw[this]
 ·have e0:aa .i64 ((n:Int)-1)=((n-1:Nat):Int):=EE n 1 (by omega) (by omega);have e1:decide ((n:Int)>0)=true:=by simp;omega
  have e2:(decide ((0:Int)<=((n-1:Nat):Int))&&decide (((n-1:Nat):Int)<((Wd l).length:Int)))=true:=by
   rw[Ay];simp;omega
  simp only[e0,e1,e2,aw,cond_true,az,ab,BH,FT];cases hz:(l.getD (n-1) 0==0)with
  |true=>
   simp only[cond_true];refine hL _ ⟨n-1,by omega,?_,rfl⟩ (by simp only[ab];omega);rcases ax (n-1) (Al l).length with h|h
   ·exfalso;have e:n=(Al l).length:=by omega
    have:=V9 l (by omega);rw[←e]at this;exact this (by simpa using hz)
   ·exact h
  |false=>
   simp only[cond_false];have:(Al l).length=n:=by
    rcases ax (n-1) (Al l).length with h|h
    ·omega
    ·exfalso;have:=xW l (n-1) h;rw[this]at hz;simp at hz
   rw[this]
theorem aFT(l:List Nat)(hl:l.length<=1000000):aH (Wd l,())=some (Wd (Al l),()):=by
 show t8 n6 (Wd l)=_;unfold t8;have h:=aVq l hl l.length (bu _) (Dx l).1;rw[Ay];rw[h];have e:(decide ((0:Int)<=((Al l).length:Int))&&decide (((Al l).length:Int)<=((Wd l).length:Int)))=true:=by
  rw[Ay];have:=(Dx l).1;simp;omega
 show(bif(decide ((0:Int)<=((Al l).length:Int))&&decide (((Al l).length:Int)<=((Wd l).length:Int)))then some (kh (af ((Al l).length:Int)) (Wd l),())else none)=_;rw[e,cond_true,ab,eG];have:=(Dx l).2;rw[←this]
theorem aVD(a:List Nat)(ha:∀x∈a,x<2^64)(hlen:a.length<=1000000)(w s:Nat)(hs:s<64)(hw:w<=a.length)(i:Nat)(hi:i<=(a.drop w).length):
  oG ((((a.drop w).length:Int),(Wd a,((w:Int),((s:Int),((i:Int),((),())))))),(Wd ((BM s (a.drop w)).take i++aq ((BM s (a.drop w)).length-i) 0),()))=some (.inl (((),()),(Wd (BM s (a.drop w)),()))):=by
 have key:=CD (aNQ Aj.pre Aj.F) (fun x=>(a.drop w).length-x.1.2.2.2.2.1.toNat)
  (fun x=>∃i:Nat,i<=(a.drop w).length/\x=((((a.drop w).length:Int),(Wd a,((w:Int),((s:Int),((i:Int),((),())))))),(Wd ((BM s (a.drop w)).take i++aq ((BM s (a.drop w)).length-i) 0),())))
  (fun _=>.inl (((),()),(Wd (BM s (a.drop w)),()))) ?_ _ ⟨i,hi,rfl⟩
 ·exact key
 intro L x hx hL;obtain⟨i,hi,rfl⟩:=hx;unfold X6;have hdl:(a.drop w).length=a.length-w:=by simp
 have hol:=O5 s (a.drop w);rcases ax i (a.drop w).length with hlt|hge
 ·have e1:decide ((i:Int)<((a.drop w).length:Int))=true:=by simp;omega
  have e2:aa .i64 ((w:Int)+(i:Int))=((w+i:Nat):Int):=by rw[At (by omega)];omega
  have e3:(decide ((0:Int)<=((w+i:Nat):Int))&&decide (((w+i:Nat):Int)<((Wd a).length:Int)))=true:=by
   rw[Ay];simp only[ag,decide_eq_true_eq];omega
  have e4:decide ((0:Int)<=(s:Int))=true:=by simp
  have houtl:((BM s (a.drop w)).take i++aq ((BM s (a.drop w)).length-i) 0).length=(a.drop w).length:=by simp;omega
  generalize hout:(BM s (a.drop w)).take i++aq ((BM s (a.drop w)).length-i) 0=out at houtl⊢;have e5:(decide ((0:Int)<=(i:Int))&&decide ((i:Int)<((Wd out).length:Int)))=true:=by
   rw[Ay];simp only[ag,decide_eq_true_eq];omega
  have e6:aa .i64 (((w+i:Nat):Int)+1)=((w+i+1:Nat):Int):=by rw[At (by omega)];omega
  have e7:aa .i64 ((i:Int)+1)=((i+1:Nat):Int):=by rw[At (by omega)];omega
  have e8:aa .i64 (64-(s:Int))=((64-s:Nat):Int):=EE 64 s (by omega) (by omega);have hx:=BZ (by decide) ha (w+i);have hget:=jS s (a.drop w) i hlt;rw[rL,rL,←gm]at hget;have hnext:=fun v (hv:(BM s (a.drop w))[i]? = some v)=>aPK (by omega) hv;rw[hout]at hnext;have e9:∀v:Nat,(decide ((0:Int)<=(i:Int))&&decide ((i:Int)<((Wd (out.set i v)).length:Int)))=true:=fun v=>by
   rw[Ay,ip];simp only[ag,decide_eq_true_eq];omega
  simp only[e1,e2,e3,e4,e5,e6,e7,e8,cond_true,ab,BH,Dv _ s (by omega),Dd,e9];rcases ax (w+i+1) a.length with h1|h1
  ·have f1:decide (((w+i+1:Nat):Int)<((Wd a).length:Int))=true:=by rw[Ay];exact decide_eq_true (by omega)
   have f2:decide ((0:Int)<=((w+i+1:Nat):Int))=true:=decide_eq_true (by omega);have f3:decide ((0:Int)<=((64-s:Nat):Int))=true:=decide_eq_true (by omega);simp only[f1,f2,f3,av,cond_true];have hw2:=tR (s:=s) (y:=a.getD (w+i+1) 0) (by omega) hx;have g1:a.getD (w+i+1) 0*2^(64-s)%2^64=(a.getD (w+i+1) 0%2^s)*2^(64-s):=by
    rw[YG (s:=s) (by omega),fj]
   rw[aCK (by omega),Hw _ _ (by omega),g1,OY hw2.1 hw2.2,Dd,nj,hnext _ hget];exact hL _ ⟨i+1,by omega,rfl⟩ (by simp only[ab];omega)
  ·have f1:decide (((w+i+1:Nat):Int)<((Wd a).length:Int))=false:=by rw[Ay];exact decide_eq_false (by omega)
   have hz:a.getD (w+i+1) 0=0:=by rw[ak,df h1];rfl
   rw[hz,mm,ff,cz]at hget;simp only[f1,cond_false];rw[hnext _ hget];exact hL _ ⟨i+1,by omega,rfl⟩ (by simp only[ab];omega)
 ·have hie:i=(a.drop w).length:=by omega
  subst hie;have e1:decide (((a.drop w).length:Int)<((a.drop w).length:Int))=false:=by simp
  simp only[e1,cond_false];have:(BM s (a.drop w)).take (a.drop w).length++aq ((BM s (a.drop w)).length-(a.drop w).length) 0=BM s (a.drop w):=by
   rw[←hol,dp,gr,il,dk]
  rw[this]
theorem aF5(l:List Nat)(hl:Ws l)(n:Nat)(hn:n<=100000000):WK (Wd l,(n:Int),())=some (Wd (dg (2^64) (nv (2^64) l/2^n)),()):=by
 obtain⟨h,hlen⟩:=hl;show vB Aj.pre Aj.F oG (Wd l) n=_;unfold vB;have p0:=Ex l hlen;have hB:2<=2^64:=by decide
 have hle:=(Dx l).1;have hm:∀x∈Al l,x<2^64:=fun x hx=>h x (Wa hx);have hv:=Ln hB h;have hsplit:2^n=(2^64)^(n/64)*2^(n%64):=by rw[Du,←bj];congr 1;omega
 simp only[Dj p0,De p0,cond_true,Ay,aDH n (by omega)];rcases ax (n/64) (Al l).length with h1|h1
 ·have e1:decide (((n/64:Nat):Int)>=((Al l).length:Int))=false:=by simp;omega
  have e2:aa .i64 (((Al l).length:Int)-((n/64:Nat):Int))=(((Al l).drop (n/64)).length:Int):=by
   rw[EE _ _ (by omega) (by omega)];simp
  have hdl:((Al l).drop (n/64)).length<=1000000:=by simp;omega
  have e3:(decide ((0:Int)<=(((Al l).drop (n/64)).length:Int))&&decide ((((Al l).drop (n/64)).length:Int)*8<=140737488355328))=true:=by
   simp only[ag,decide_eq_true_eq];omega
  have e4:gj (n:Int) 64=((n%64:Nat):Int):=rfl;have hw:=aVD (Al l) hm (by omega) (n/64) (n%64) (ca _ (by decide)) (by omega) 0 (dq _);rw[mq,mh,mo,O5]at hw;rw[e1,e2,e3,cond_false,cond_true,ab,e4,NF,Ay,gc];rw[show((0:Nat):Int)=0 from rfl]at hw;rw[hw];have hos:∀x∈BM (n%64) ((Al l).drop (n/64)),x<2^64:=fun x hx=>by
   obtain⟨i,hi⟩:=lz hx;have hil:i<((Al l).drop (n/64)).length:=by rw[←O5 (n%64)];exact(bf.1 hi).1
   rw[jS _ _ i hil]at hi;cases hi;exact(tR (s:=n%64) (by omega) (BZ (by decide) (fun y hy=>hm y (kt hy)) i)).2
  have p1:=Ex (BM (n%64) ((Al l).drop (n/64))) (by rw[O5];exact hdl);show(bif Aj.pre (Wd (BM (n%64) ((Al l).drop (n/64))),())then some (Aj.F (Wd (BM (n%64) ((Al l).drop (n/64))),()))else none)=_;rw[Dj p1,De p1,cond_true,FW hB _ hos,aDf (by omega)];have hd:nv (2^64) ((Al l).drop (n/64))=nv (2^64) l/(2^64)^(n/64):=by
   rw[←hv,Lm _ (Al l) (n/64) (by omega)];have hlow:=CP hB ((Al l).take (n/64)) fun x hx=>hm x (fg hx);rw[gx,gu (by omega)]at hlow;rw[fc _ _ (go (by decide)),ci hlow,de]
  rw[hd,dj,←hsplit];rfl
 ·have e1:decide (((n/64:Nat):Int)>=((Al l).length:Int))=true:=by simp;omega
  rw[e1,cond_true];have hz:nv (2^64) l/2^n=0:=by
   rw[←hv];have:=CP hB (Al l) hm;apply ci;refine al this ?_;rw[Du];exact ai (by decide) (by omega)
  rw[hz,Dt];rfl
theorem aVp(a:List Nat)(ha:∀x∈a,x<2^64)(hlen:a.length<=1000000)(w s:Nat)(hs:s<64)(hw:w<=a.length)(i:Nat)(hi:i<=(a.drop w).length):
  n5 ((((a.drop w).length:Int),(Wd a,((w:Int),((s:Int),((i:Int),((),())))))),(Wd ((BM s (a.drop w)).take i++aq ((BM s (a.drop w)).length-i) 0),()))=some (.inl (((),()),(Wd (BM s (a.drop w)),()))):=by
 have key:=CD (aNC Cc.pre Cc.F Aj.pre Aj.F) (fun x=>(a.drop w).length-x.1.2.2.2.2.1.toNat)
  (fun x=>∃i:Nat,i<=(a.drop w).length/\x=((((a.drop w).length:Int),(Wd a,((w:Int),((s:Int),((i:Int),((),())))))),(Wd ((BM s (a.drop w)).take i++aq ((BM s (a.drop w)).length-i) 0),())))
  (fun _=>.inl (((),()),(Wd (BM s (a.drop w)),()))) ?_ _ ⟨i,hi,rfl⟩
 ·exact key
 intro L x hx hL;obtain⟨i,hi,rfl⟩:=hx;unfold XS;have hdl:(a.drop w).length=a.length-w:=by simp
 have hol:=O5 s (a.drop w);rcases ax i (a.drop w).length with hlt|hge
 ·have e1:decide ((i:Int)<((a.drop w).length:Int))=true:=by simp;omega
  have e2:aa .i64 ((w:Int)+(i:Int))=((w+i:Nat):Int):=by rw[At (by omega)];omega
  have e3:(decide ((0:Int)<=((w+i:Nat):Int))&&decide (((w+i:Nat):Int)<((Wd a).length:Int)))=true:=by
   rw[Ay];simp only[ag,decide_eq_true_eq];omega
  have e4:decide ((0:Int)<=(s:Int))=true:=by simp
  have houtl:((BM s (a.drop w)).take i++aq ((BM s (a.drop w)).length-i) 0).length=(a.drop w).length:=by simp;omega
  generalize hout:(BM s (a.drop w)).take i++aq ((BM s (a.drop w)).length-i) 0=out at houtl⊢;have e5:(decide ((0:Int)<=(i:Int))&&decide ((i:Int)<((Wd out).length:Int)))=true:=by
   rw[Ay];simp only[ag,decide_eq_true_eq];omega
  have e6:aa .i64 (((w+i:Nat):Int)+1)=((w+i+1:Nat):Int):=by rw[At (by omega)];omega
  have e7:aa .i64 ((i:Int)+1)=((i+1:Nat):Int):=by rw[At (by omega)];omega
  have e8:aa .i64 (64-(s:Int))=((64-s:Nat):Int):=EE 64 s (by omega) (by omega);have hx:=BZ (by decide) ha (w+i);have hget:=jS s (a.drop w) i hlt;rw[rL,rL,←gm]at hget;have hnext:=fun v (hv:(BM s (a.drop w))[i]? = some v)=>aPK (by omega) hv;rw[hout]at hnext;have e9:∀v:Nat,(decide ((0:Int)<=(i:Int))&&decide ((i:Int)<((Wd (out.set i v)).length:Int)))=true:=fun v=>by
   rw[Ay,ip];simp only[ag,decide_eq_true_eq];omega
  simp only[e1,e2,e3,e4,e5,e6,e7,e8,cond_true,ab,BH,Dv _ s (by omega),Dd,e9];rcases ax (w+i+1) a.length with h1|h1
  ·have f1:decide (((w+i+1:Nat):Int)<((Wd a).length:Int))=true:=by rw[Ay];exact decide_eq_true (by omega)
   have f2:decide ((0:Int)<=((w+i+1:Nat):Int))=true:=decide_eq_true (by omega);have f3:decide ((0:Int)<=((64-s:Nat):Int))=true:=decide_eq_true (by omega);simp only[f1,f2,f3,av,cond_true];have hw2:=tR (s:=s) (y:=a.getD (w+i+1) 0) (by omega) hx;have g1:a.getD (w+i+1) 0*2^(64-s)%2^64=(a.getD (w+i+1) 0%2^s)*2^(64-s):=by
    rw[YG (s:=s) (by omega),fj]
   rw[aCK (by omega),Hw _ _ (by omega),g1,OY hw2.1 hw2.2,Dd,nj,hnext _ hget];exact hL _ ⟨i+1,by omega,rfl⟩ (by simp only[ab];omega)
  ·have f1:decide (((w+i+1:Nat):Int)<((Wd a).length:Int))=false:=by rw[Ay];exact decide_eq_false (by omega)
   have hz:a.getD (w+i+1) 0=0:=by rw[ak,df h1];rfl
   rw[hz,mm,ff,cz]at hget;simp only[f1,cond_false];rw[hnext _ hget];exact hL _ ⟨i+1,by omega,rfl⟩ (by simp only[ab];omega)
 ·have hie:i=(a.drop w).length:=by omega
  subst hie;have e1:decide (((a.drop w).length:Int)<((a.drop w).length:Int))=false:=by simp
  simp only[e1,cond_false];have:(BM s (a.drop w)).take (a.drop w).length++aq ((BM s (a.drop w)).length-(a.drop w).length) 0=BM s (a.drop w):=by
   rw[←hol,dp,gr,il,dk]
  rw[this]
theorem aUq(l:List Nat)(hl:Ws l)(n:Nat)(hn:n<=100000000):aG (Wd l,(n:Int),())=some (Wd (dg (2^64) (nv (2^64) l/2^n)),()):=by
 obtain⟨h,hlen⟩:=hl;show t7 Cc.pre Cc.F Aj.pre Aj.F n5 (Wd l) n=_;unfold t7;have p0:=Ex l hlen;have hB:2<=2^64:=by decide
 have hle:=(Dx l).1;have hm:∀x∈Al l,x<2^64:=fun x hx=>h x (Wa hx);have hv:=Ln hB h;have hsplit:2^n=(2^64)^(n/64)*2^(n%64):=by rw[Du,←bj];congr 1;omega
 simp only[Dj p0,De p0,cond_true,Ay,aDH n (by omega)];rcases ax (n/64) (Al l).length with h1|h1
 ·have e1:decide (((n/64:Nat):Int)>=((Al l).length:Int))=false:=by simp;omega
  have e2:aa .i64 (((Al l).length:Int)-((n/64:Nat):Int))=(((Al l).drop (n/64)).length:Int):=by
   rw[EE _ _ (by omega) (by omega)];simp
  have hdl:((Al l).drop (n/64)).length<=1000000:=by simp;omega
  have e3:(decide ((0:Int)<=(((Al l).drop (n/64)).length:Int))&&decide ((((Al l).drop (n/64)).length:Int)*8<=140737488355328))=true:=by
   simp only[ag,decide_eq_true_eq];omega
  have e4:gj (n:Int) 64=((n%64:Nat):Int):=rfl;have hw:=aVp (Al l) hm (by omega) (n/64) (n%64) (ca _ (by decide)) (by omega) 0 (dq _);rw[mq,mh,mo,O5]at hw;rw[e1,e2,e3,cond_false,cond_true,ab,e4,NF,Ay,gc];rw[show((0:Nat):Int)=0 from rfl]at hw;rw[hw];have hos:∀x∈BM (n%64) ((Al l).drop (n/64)),x<2^64:=fun x hx=>by
   obtain⟨i,hi⟩:=lz hx;have hil:i<((Al l).drop (n/64)).length:=by rw[←O5 (n%64)];exact(bf.1 hi).1
   rw[jS _ _ i hil]at hi;cases hi;exact(tR (s:=n%64) (by omega) (BZ (by decide) (fun y hy=>hm y (kt hy)) i)).2
  have p1:=aFT (BM (n%64) ((Al l).drop (n/64))) (by rw[O5];exact hdl);show(bif Cc.pre (Wd (BM (n%64) ((Al l).drop (n/64))),())then some (Cc.F (Wd (BM (n%64) ((Al l).drop (n/64))),()))else none)=_;rw[aON p1,aMI p1,cond_true,FW hB _ hos,aDf (by omega)];have hd:nv (2^64) ((Al l).drop (n/64))=nv (2^64) l/(2^64)^(n/64):=by
   rw[←hv,Lm _ (Al l) (n/64) (by omega)];have hlow:=CP hB ((Al l).take (n/64)) fun x hx=>hm x (fg hx);rw[gx,gu (by omega)]at hlow;rw[fc _ _ (go (by decide)),ci hlow,de]
  rw[hd,dj,←hsplit];rfl
 ·have e1:decide (((n/64:Nat):Int)>=((Al l).length:Int))=true:=by simp;omega
  rw[e1,cond_true];have hz:nv (2^64) l/2^n=0:=by
   rw[←hv];have:=CP hB (Al l) hm;apply ci;refine al this ?_;rw[Du];exact ai (by decide) (by omega)
  rw[hz,Dt];rfl
end VL
namespace VL
open Go Vx
theorem A5(a b:Nat)(h:a+b<2^62):aa .i64 ((a:Int)+(b:Int))=((a+b:Nat):Int):=by rw[At (by omega)];omega
theorem AT(a:Nat)(h:a<2^62):aa .i64 ((a:Int)+1)=((a+1:Nat):Int):=by rw[At (by omega)];omega
theorem A6(a:Nat)(h:a<2^56):aa .i64 (64*(a:Int))=((64*a:Nat):Int):=by rw[At (by omega)];omega
theorem A7(a:Nat)(h:a<2^56):aa .i64 ((a:Int)*64)=((64*a:Nat):Int):=by rw[At (by omega)];omega
theorem AQ(m n:Nat)(h:n<=m/\m<2^62):aa .i64 ((m:Int)-(n:Int))=((m-n:Nat):Int):=by rw[At (by omega)];omega
theorem AH(m:Nat)(h:1<=m/\m<2^62):aa .i64 ((m:Int)-1)=((m-1:Nat):Int):=by rw[At (by omega)];omega
theorem AS(a b:Nat)(h:a<b):decide ((a:Int)<(b:Int))=true:=decide_eq_true (by omega)
theorem AR(a b:Nat)(h:b<=a):decide ((a:Int)<(b:Int))=false:=decide_eq_false (by omega)
theorem A2(a b:Nat)(h:a<=b):decide ((a:Int)<=(b:Int))=true:=decide_eq_true (by omega)
theorem A1(a b:Nat)(h:b<a):decide ((a:Int)<=(b:Int))=false:=decide_eq_false (by omega)
theorem AZ(a b:Nat)(h:b<a):decide ((a:Int)>(b:Int))=true:=decide_eq_true (by omega)
theorem AY(a b:Nat)(h:a<=b):decide ((a:Int)>(b:Int))=false:=decide_eq_false (by omega)
theorem AW(a b:Nat)(h:b<=a):decide ((a:Int)>=(b:Int))=true:=decide_eq_true (by omega)
theorem AV(a b:Nat)(h:a<b):decide ((a:Int)>=(b:Int))=false:=decide_eq_false (by omega)
theorem A4(a:Nat)(h:0<a):decide ((0:Int)<(a:Int))=true:=decide_eq_true (by omega)
theorem A3(a:Nat)(h:a=0):decide ((0:Int)<(a:Int))=false:=decide_eq_false (by omega)
theorem AX(a:Nat)(h:0<a):decide ((a:Int)>0)=true:=decide_eq_true (by omega)
theorem AP(a:Nat)(h:a=0):decide ((a:Int)>0)=false:=decide_eq_false (by omega)
theorem aCR(a:Nat):decide ((a:Int)<0)=false:=decide_eq_false (by omega)
theorem AM(a:Nat)(h:a=0):((a:Int)==0)=true:=by rw[FT];simp[h]
theorem AF(a:Nat)(h:a≠0):((a:Int)==0)=false:=by rw[FT];simp[h]
theorem AI(a:Nat)(h:a≠0):((a:Int)!=0)=true:=by rw[VQ];simp[h]
theorem AO(a:Nat)(h:a=0):((a:Int)!=0)=false:=by rw[VQ];simp[h]
def pd(B:Nat):Nat->Nat->List Nat
 |0,_=>[]
 |k+1,v=>v%B::pd B k (v/B)
theorem Da(B:Nat):∀k v,(pd B k v).length=k
 |0,_=>rfl
 |k+1,v=>by simp[pd,Da B k]
theorem Hp{B:Nat}(hB:0<B):∀k v,∀x∈pd B k v,x<B
 |0,_,x,hx=>by simp[pd]at hx
 |k+1,v,x,hx=>by
  simp only[pd,cy]at hx
  rcases hx with rfl|hx
  ·exact ca _ hB
  ·exact Hp hB k _ x hx
theorem aOG{B:Nat}(hB:0<B):∀(l:List Nat),(∀x∈l,x<B)->l=pd B l.length (nv B l)
 | [],_=>rfl
 |x::r,h=>by
  have hx:=h x (by simp)
  simp only[dh,pd,nv]
  rw[gv,bt hx,fc _ _ hB,ci hx,de,←aOG hB r fun y hy=>h y (by simp[hy])]
theorem Uq{B:Nat}(hB:0<B){l:List Nat}{k v:Nat}(h:∀x∈l,x<B)(hl:l.length=k)(hv:nv B l=v):l=pd B k v:=by
 have:=aOG hB l h;rw[hl,hv]at this;exact this
theorem Hq{B:Nat}(hB:0<B):∀k v,v<B^k->nv B (pd B k v)=v
 |0,v,h=>by simp at h;subst h;rfl
 |k+1,v,h=>by
  simp only[pd,nv]
  rw[Hq hB k (v/B) (by rw[bv hB,←dl];exact h)]
  exact iq v B
theorem aDm(B:Nat):∀k v i,i<k->(pd B k v).getD i 0=v/B^i%B
 |0,_,_,h=>by omega
 |k+1,v,0,_=>by simp[pd]
 |k+1,v,i+1,h=>by
  simp only[pd,nz]
  rw[aDm B k (v/B) i (by omega),dj,←jd]
theorem aOI(B:Nat):∀k,pd B k 0=aq k 0
 |0=>rfl
 |k+1=>by simp[pd,aOI B k,jh]
theorem YA(B:Nat):∀(l:List Nat) (i x:Nat),i<l.length->nv B (l.set i x)+B^i*l.getD i 0=nv B l+B^i*x
 | [],_,_,h=>by simp at h
 |y::r,0,x,_=>by simp[nv];omega
 |y::r,i+1,x,h=>by
  have:=YA B r i x (by simpa using h)
  simp only[List.set_cons_succ,nv,nz,jd]
  rw[bh,bh,gm,gm,←bw,←bw,this]
theorem tO{B:Nat}{l:List Nat}(h:∀x∈l,x<B){i v:Nat}(hv:v<B):∀x∈l.set i v,x<B:=fun x hx=>by
 rcases List.mem_or_eq_of_mem_set hx with h1|h1
 ·exact h x h1
 ·rw[h1];exact hv
theorem OD{B:Nat}(hB:2<=B)(n:Nat):Al (dg B n)=dg B n:=by
 rw[FW hB _ (La hB n),i2 hB]
theorem aDg(B:Nat)(l:List Nat)(i:Nat)(h:i<l.length):nv B (l.take (i+1))=nv B (l.take i)+B^i*l.getD i 0:=by
 have hs:=Lm B (l.take (i+1)) i (by simp;omega);rw[hs,List.take_take,gu (by omega)];congr 2;rw[List.drop_take,je,ak];rw[dz h,bo h];show l[i]+B*0=l[i];rw[fd,cz]
theorem aRz{x:Nat}(h:0<x):∃t k,x=2^t*(2*k+1):=by
 induction x using nn with
 |ind x ih=>
  rcases jk x with h0|h1
  ·obtain⟨t,k,e⟩:=ih (x/2) (by omega) (by omega);refine⟨t+1,k,?_⟩;rw[dl,be (2^t) 2,bh,←e];omega
  ·exact⟨0,x/2,by simp;omega⟩
theorem aZ8{t k n:Nat}:(2^t*(2*k+1))%2^n=0↔n<=t:=by
 constructor
 ·intro h;rcases ax t n with hlt|hge
  ·exfalso;have e:n=t+(n-t-1)+1:=by omega
   rw[e,gm,bj,Nat.mul_mod_mul_left,dl]at h;have hp:=aj t;have h2:(2*k+1)%(2^(n-t-1)*2)=0:=by
    rcases pp.1 h with h|h
    ·omega
    ·exact h
   have:(2*k+1)%2=0:=by
    have:=Nat.mod_mod_of_dvd (2*k+1) (show 2 ∣ 2^(n-t-1)*2 from⟨_,be _ _⟩);rw[h2]at this;omega
   omega
  ·exact hge
 ·intro h;have e:t=n+(t-n):=by omega
  rw[e,bj,bh];exact lh _ _
theorem aWX{t k:Nat}(h:2^t*(2*k+1)<2^64):2^t*(2*k+1) &&& (2^64-2^t*(2*k+1))=2^t:=by
 have hp:=aj t;have ht:t<64:=by
  have:2^t*1<=2^t*(2*k+1):=cp _ (by omega);exact(cu (a:=2) (by decide)).1 (by omega)
 have hz:2^t*(2*k)+(2^t-1)+1=2^t*(2*k+1):=by rw[bw,gq];omega
 have hb:∀i,(2^64-2^t*(2*k+1)).testBit i=(decide (i<64)&&!(2^t*(2*k)+(2^t-1)).testBit i):=fun i=>by
  rw[←hz,Nat.testBit_two_pow_sub_succ (by omega)]
 apply ly;intro i;rw[Nat.testBit_and,hb,nu];have h1:(2^t*(2*k+1)).testBit i=(decide (t<=i)&&(2*k+1).testBit (i-t)):=by
  have:=ji (2*k+1) hp i;rw[cz]at this;rw[this];by_cases hi:i<t
  ·simp[hi];omega
  ·simp[hi];omega
 rw[h1,ji (2*k) (show 2^t-1<2^t by omega) i];rcases fh i t with hi|hi|hi
 ·simp[show ¬t<=i by omega,show ¬t=i by omega]
 ·subst hi;simp[ht]
 ·have e:i-t=(i-t-1)+1:=by omega
  simp only[show ¬i<t by omega,if_false,show ¬t=i by omega,decide_false];rw[e,kv,kv,show(2*k+1)/2=k by omega,show 2*k/2=k by omega];cases k.testBit (i-t-1)<;>simp
theorem aWW{a b:Nat}(ha:a<2^64)(hb:b<2^64):BN .u64 (a:Int) (b:Int)=((a &&& b:Nat):Int):=by
 have key:(co 64 (a:Int) &&& co 64 (b:Int)).toNat=a &&& b:=by
  rw[pf,Lo ha,Lo hb]
 show IntKind.u64.wrap (((co 64 (a:Int) &&& co 64 (b:Int)).toNat:Nat):Int)=_;rw[key];have:=Nat.and_le_left (n:=a) (m:=b);exact Dy (by omega)
theorem i5{a b:Nat}(ha:a<2^64)(hb:b<2^64):Ai .u64 (a:Int) (b:Int)=((a ||| b:Nat):Int):=by
 have key:(co 64 (a:Int) ||| co 64 (b:Int)).toNat=a ||| b:=by
  rw[po,Lo ha,Lo hb]
 show IntKind.u64.wrap (((co 64 (a:Int) ||| co 64 (b:Int)).toNat:Nat):Int)=_;rw[key];have:=Nat.or_lt_two_pow ha hb;exact Dy (by omega)
theorem deb:∀t:Nat,t<64->aa .i64 (k_deb.getD (2^t*285870213051353865%2^64/2^58) 0)=(t:Int):=by
 have h:((ig 64).all fun t=>decide (aa .i64 (k_deb.getD (2^t*285870213051353865%2^64/2^58) (0:Int))=(t:Int)))=true:=by decide +kernel
 intro t ht;have:=lv.1 h t (ku.2 ht);simpa using this
theorem aAk{t k:Nat}(h:2^t*(2*k+1)<2^64):dW (((2^t*(2*k+1):Nat):Int),())=some ((t:Int),()):=by
 have hp:=aj t;have h1:2^t*1<=2^t*(2*k+1):=cp _ (by omega);have ht:t<64:=(cu (a:=2) (by decide)).1 (by omega);have han:=aWX h;show xR ((2^t*(2*k+1):Nat):Int)=_;generalize hx:2^t*(2*k+1)=x at *
 unfold xR;try dsimp only
 have e1:aa .u64 ((0:Int)-(x:Int))=((2^64-x:Nat):Int):=by
  have:∀y:Int,aa .u64 y=y%18446744073709551616:=fun y=>by
   simp[aa,im,jf]
  rw[this];omega
 have e2:aa .u64 (((2^t:Nat):Int)*285870213051353865)=((2^t*285870213051353865%2^64:Nat):Int):=x7 (2^t*285870213051353865);have e3:AL .u64 ((2^t*285870213051353865%2^64:Nat):Int) 58=((2^t*285870213051353865%2^64/2^58:Nat):Int):=Dv _ 58 (by decide);have e4:2^t*285870213051353865%2^64/2^58<64:=by omega
 have e5:(decide ((0:Int)<=((2^t*285870213051353865%2^64/2^58:Nat):Int))&&decide (((2^t*285870213051353865%2^64/2^58:Nat):Int)<(64:Nat)))=true:=by
  rw[decide_eq_true (by omega),decide_eq_true (by omega)];rfl
 rw[e1,aWW h (by omega),han,e2,e3,e5,aPJ,cond_true,AF x (by omega),cond_false,ab,deb t ht]
end VL
namespace VL
open Go Vx
def Dw(n:Nat):List Int:=Wd (dg (2^64) n)
theorem aXD(n:Nat)(h:(dg (2^64) n).length<=1000000):Ws (dg (2^64) n):=⟨La (by decide) n,h⟩
theorem D0{B:Nat}(hB:2<=B):∀(k n:Nat),n<B^k->(dg B n).length<=k
 |0,n,h=>by simp at h;subst h;rw[Dt];simp
 |k+1,n,h=>by
  rcases br n with rfl|hn
  ·rw[Dt];simp
  ·rw[Ep hB hn]
   have:=D0 hB k (n/B) (by rw[bv (by omega),←dl];exact h)
   simp;omega
theorem gF{B:Nat}(hB:2<=B)(n:Nat):n<B^(dg B n).length:=by
 have:=CP hB _ (La hB n);rwa [i2 hB]at this
theorem aXI{x i t k r n:Nat}(hx:x=2^t*(2*k+1))(ht:t<64):((2^64)^i*(x+2^64*r))%2^n=0↔n<=64*i+t:=by
 have e:(2^64)^i*(x+2^64*r)=2^(64*i+t)*(2*(k+2^(64-t-1)*r)+1):=by
  have h1:2^64=2^t*(2^(64-t-1)*2):=by rw[←dl,←bj];congr 1;omega
  rw[Du,hx,bj,bh];congr 1;rw[h1,bh,←bw];congr 1;rw[bh,Nat.mul_left_comm];omega
 rw[e];exact aZ8
theorem aVG(a:List Nat)(ha:∀x∈a,x<2^64)(hlen:a.length<=1000000)(n:Nat)(hn:n<=1000000000)(i:Nat)(hi:i<=a.length)(hz:nv (2^64) (a.take i)=0):
  oJ (((a.length:Int),(Wd a,((n:Int),((i:Int),())))),())=some (if nv (2^64) a=0 then .inl ((),())else .inr ((decide (nv (2^64) a%2^n=0),()),())):=by
 have key:=CD (aNT Aj.pre Aj.F Co.pre Co.F) (fun x=>a.length-x.1.2.2.2.1.toNat)
  (fun x=>∃i:Nat,i<=a.length/\nv (2^64) (a.take i)=0/\x=(((a.length:Int),(Wd a,((n:Int),((i:Int),())))),()))
  (fun _=>if nv (2^64) a=0 then .inl ((),())else .inr ((decide (nv (2^64) a%2^n=0),()),())) ?_ _ ⟨i,hi,hz,rfl⟩
 ·exact key
 intro L x hx hL;obtain⟨i,hi,hz,rfl⟩:=hx;unfold X9;rcases ax i a.length with hlt|hge
 ·simp(disch:=omega) only[A5,AT,A6,AQ,AH,A7,AS,AR,A2,A1,AZ,AY,AW,AV,A4,A3,AX,AP,AE,AM,AF,AI,AO,ab,ap,cond_true,cond_false,av,az,bg,ao,ay,au,ar,bb,aw,ba,bd,bi,Ay,BH];have hxl:=BZ (by decide) ha i;rcases br (a.getD i 0)with h0|h0
  ·simp(disch:=omega) only[A5,AT,A6,AQ,AH,A7,AS,AR,A2,A1,AZ,AY,AW,AV,A4,A3,AX,AP,AE,AM,AF,AI,AO,ab,ap,cond_true,cond_false,av,az,bg,ao,ay,au,ar,bb,aw,ba,bd,bi];refine hL _ ⟨i+1,by omega,?_,rfl⟩ (by simp only[ab];omega);rw[aDg _ _ _ hlt,hz,h0,fd]
  ·obtain⟨t,k,e⟩:=aRz h0;have ht:t<64:=by
    have hp:=aj t;have h1:2^t*1<=2^t*(2*k+1):=cp _ (by omega);exact(cu (a:=2) (by decide)).1 (by omega)
   have p0:=aAk (t:=t) (k:=k) (by omega);rw[←e]at p0;have hv:nv (2^64) a=(2^64)^i*(a.getD i 0+2^64*nv (2^64) (a.drop (i+1))):=by
    rw[Lm _ a i hi,hz,de,dz hlt];simp only[nv];rw[ak,bo hlt];rfl
   have hne:nv (2^64) a≠0:=by
    rw[hv];have:0<(2^64)^i:=go (by decide);exact Nat.ne_of_gt (gz this (by omega))
   have hd:=aXI (i:=i) (r:=nv (2^64) (a.drop (i+1))) (n:=n) e ht;rw[←hv]at hd;simp(disch:=omega) only[A5,AT,A6,AQ,AH,A7,AS,AR,A2,A1,AZ,AY,AW,AV,A4,A3,AX,AP,AE,AM,AF,AI,AO,ab,ap,cond_true,cond_false,av,az,bg,ao,ay,au,ar,bb,aw,ba,bd,bi,aDA p0,aCH p0,if_neg hne];have:decide (((64*i+t:Nat):Int)>=(n:Int))=decide (nv (2^64) a%2^n=0):=by
    rw[fi,decide_eq_true_eq,decide_eq_true_eq,hd];omega
   rw[this]
 ·have e:i=a.length:=by omega
  subst e;rw[dp]at hz;simp(disch:=omega) only[A5,AT,A6,AQ,AH,A7,AS,AR,A2,A1,AZ,AY,AW,AV,A4,A3,AX,AP,AE,AM,AF,AI,AO,ab,ap,cond_true,cond_false,av,az,bg,ao,ay,au,ar,bb,aw,ba,bd,bi,if_pos hz]
theorem aUO(l:List Nat)(hl:Ws l)(n:Nat)(hn:n<=1000000000):bH (Wd l,(n:Int),())=some (decide (nv (2^64) l%2^n=0),()):=by
 obtain⟨h,hlen⟩:=hl;show vJ Aj.pre Aj.F Co.pre Co.F oJ (Wd l) n=_;unfold vJ;have p0:=Ex l hlen;have hm:∀x∈Al l,x<2^64:=fun x hx=>h x (Wa hx);have hle:=(Dx l).1;have hw:=aVG (Al l) hm (by omega) n hn 0 (dq _) rfl;rw[Ln (by decide) h]at hw;simp only[Dj p0,De p0,cond_true,Ay];rw[show((0:Nat):Int)=0 from rfl]at hw;rw[hw];by_cases h0:nv (2^64) l=0
 ·rw[if_pos h0,h0,mm];rfl
 ·rw[if_neg h0]
def OS(v n:Nat):Nat:=if v%2^n=0 then v/2^n else v/2^n/2*2+1
theorem aOB(w:Nat):w ||| 1=w/2*2+1:=by
 apply ly;intro i;rw[Nat.testBit_or];cases i with
 |zero=>simp[Nat.testBit_zero]
 |succ i=>
  rw[kv,kv,kv,show(w/2*2+1)/2=w/2 by omega,show 1/2=0 by rfl];simp
theorem aUL(l:List Nat)(hl:Ws l)(n:Nat)(hn:n<=100000000):WM (Wd l,(n:Int),())=some (Dw (OS (nv (2^64) l) n),0,()):=by
 show vD SX.pre SX.F CK.pre CK.F S8.pre S8.F (Wd l) n=_;unfold vD;have p0:=aUq l hl n hn;have p1:=aUO l hl n (by omega);simp only[aCR,cond_false,bAV p0,aYl p0,bA9 p1,aYz p1,cond_true,Ay];unfold OS;by_cases h0:nv (2^64) l%2^n=0
 ·rw[if_pos h0,decide_eq_true h0];rfl
 ·rw[if_neg h0,decide_eq_false h0];generalize nv (2^64) l/2^n=q;rcases br q with rfl|hq
  ·have e:Dw (0/2*2+1)=[1]:=by
    show Wd (dg (2^64) 1)=[1]
    rw[Ep (by decide) (by decide),Dt];rfl
   rw[e,Dt];rfl
  ·have hB:2<=2^64:=by decide
   have e:Dw (q/2*2+1)=Wd ((q%2^64/2*2+1)::dg (2^64) (q/2^64)):=by
    show Wd (dg (2^64) (q/2*2+1))=_;rw[Ep hB (by omega)];have e1:(q/2*2+1)%2^64=q%2^64/2*2+1:=by omega
    have e2:(q/2*2+1)/2^64=q/2^64:=by omega
    rw[e1,e2]
   have e2:Ai .u64 ((q%2^64:Nat):Int) 1=((q%2^64/2*2+1:Nat):Int):=by
    have:=i5 (a:=q%2^64) (b:=1) (by omega) (by decide);rw[aOB]at this;exact this
   rw[e,Ep hB hq];simp(disch:=omega) only[A5,AT,A6,AQ,AH,A7,AS,AR,A2,A1,AZ,AY,AW,AV,A4,A3,AX,AP,AE,AM,AF,AI,AO,ab,ap,cond_true,cond_false,av,az,bg,ao,ay,au,ar,bb,aw,ba,bd,bi,dh,BH,nw,e2,Dd,jn]
theorem aUz(l:List Nat)(hl:Ws l)(n:Nat)(hn:n<=100000000):TK (Wd l,(n:Int),())=some (Dw (nv (2^64) l/2^n),0,()):=by
 show uN CK.pre CK.F (Wd l) n=_;unfold uN;have p0:=aF5 l hl n hn;simp only[aCR,cond_false,aOU p0,aMP p0,cond_true];rfl
end VL
namespace VL
open Go Vx
theorem iB{l:List Nat}{i j v:Nat}(h:i≠j):(l.set i v).getD j 0=l.getD j 0:=by
 rw[ak,ak,List.getElem?_set_ne h]
theorem aZr{out:List Nat}{K V k s x:Nat}(hs:s<64)(ho:out=pd (2^64) K V)(hk:k+1<K)(hV:V<2^(64*k+s))(hx:x<2^64):
  (out.getD k 0<2^s)/\(out.getD k 0+x%2^(64-s)*2^s<2^64)/\((out.set k (out.getD k 0+x%2^(64-s)*2^s)).set (k+1) (x/2^(64-s))=pd (2^64) K (V+2^(64*k+s)*x)):=by
 have hB:0<2^64:=by decide
 have hps:=aj s;have hpk:=aj (64*k);have hlen:out.length=K:=by rw[ho,Da]
 have hc:out.getD k 0=V/(2^64)^k%2^64:=by rw[ho,aDm _ _ _ _ (by omega)]
 have hc2:V/(2^64)^k<2^s:=by
  rw[Du,bv hpk,be,←bj];exact hV
 have hc1:out.getD (k+1) 0=0:=by
  rw[ho,aDm _ _ _ _ hk,Du];have:V<2^(64*(k+1)):=al hV (ai (by decide) (by omega));rw[ci this]
 have h64:2^64=2^(64-s)*2^s:=by rw[←bj];congr 1;omega
 have hs64:2^s<=2^64:=ai (by decide) (by omega);have hce:V/(2^64)^k%2^64=V/(2^64)^k:=bt (by omega);have hcl:out.getD k 0<2^s:=by rw[hc,hce];exact hc2
 have hp1:=aj (64-s);have hm:x%2^(64-s)+1<=2^(64-s):=ca _ hp1;have hm2:=bc (2^s) hm;rw[←h64,cm,fw]at hm2;have hsum:out.getD k 0+x%2^(64-s)*2^s<2^64:=by omega
 refine⟨hcl,hsum,?_⟩;have hall:∀y∈out,y<2^64:=by rw[ho];exact Hp hB _ _
 have hxd:x/2^(64-s)<2^64:=bl (dw _ _) hx;refine Uq hB (tO (tO hall hsum) hxd) (by simp[hlen]) ?_;have g1:=YA (2^64) out k (out.getD k 0+x%2^(64-s)*2^s) (by omega);have g2:=YA (2^64) (out.set k (out.getD k 0+x%2^(64-s)*2^s)) (k+1) (x/2^(64-s)) (by rw[ip];omega);rw[iB (by omega),hc1,fd,cz]at g2;have hVK:V<(2^64)^K:=by
  rw[Du];exact al hV (ai (by decide) (by omega))
 have hnv:nv (2^64) out=V:=by rw[ho,Hq hB _ _ hVK]
 rw[hnv,bw]at g1;rw[g2];have hx2:2^(64*k+s)*x=(2^64)^k*(x%2^(64-s)*2^s)+(2^64)^(k+1)*(x/2^(64-s)):=by
  have hdm:=ct x (2^(64-s));generalize x/2^(64-s)=q at *
  generalize x%2^(64-s)=r at *
  rw[bj 2 (64*k) s,←Du,show(2^64)^(k+1)=(2^64)^k*2^64 from dl _ _,bh ((2^64)^k),bh ((2^64)^k),←bw,←hdm];congr 1;rw[bw,be r,io];congr 1;rw[←bh,be (2^s),←h64]
 omega
theorem aVI(a:List Nat)(ha:∀x∈a,x<2^64)(hlen:a.length<=1000000)(w s:Nat)(hs:s<64)(hw:w<=10000000)(i:Nat)(hi:i<=a.length):
  oL (((a.length:Int),(Wd a,((w:Int),((s:Int),((i:Int),((),())))))),(Wd (pd (2^64) (w+a.length+1) (2^(64*w+s)*nv (2^64) (a.take i))),()))=some (.inl (((),()),(Wd (pd (2^64) (w+a.length+1) (2^(64*w+s)*nv (2^64) a)),()))):=by
 have key:=CD (aNV Aj.pre Aj.F) (fun x=>a.length-x.1.2.2.2.2.1.toNat)
  (fun x=>∃i:Nat,i<=a.length/\x=(((a.length:Int),(Wd a,((w:Int),((s:Int),((i:Int),((),())))))),(Wd (pd (2^64) (w+a.length+1) (2^(64*w+s)*nv (2^64) (a.take i))),())))
  (fun _=>.inl (((),()),(Wd (pd (2^64) (w+a.length+1) (2^(64*w+s)*nv (2^64) a)),()))) ?_ _ ⟨i,hi,rfl⟩
 ·exact key
 intro L x hx hL;obtain⟨i,hi,rfl⟩:=hx;unfold Yb;rcases ax i a.length with hlt|hge
 ·have hxl:=BZ (by decide) ha i;have ht:=CP (B:=2^64) (by decide) (a.take i) fun x hx=>ha x (fg hx);rw[gx,gu (by omega),Du]at ht;have hV:2^(64*w+s)*nv (2^64) (a.take i)<2^(64*(w+i)+s):=by
   have e:64*(w+i)+s=(64*w+s)+64*i:=by omega
   rw[e,bj _ (64*w+s)];exact ml ht (aj _)
  have hnext:=aDg (2^64) a i hlt;have hgo:=hL (((a.length:Int),(Wd a,((w:Int),((s:Int),(((i+1:Nat):Int),((),())))))),(Wd (pd (2^64) (w+a.length+1) (2^(64*w+s)*nv (2^64) (a.take (i+1)))),())) ⟨i+1,by omega,rfl⟩ (by simp only[ab];omega);rw[hnext,bw,←bh,show 2^(64*w+s)*(2^64)^i=2^(64*(w+i)+s) by rw[Du,←bj];congr 1;omega]at hgo;generalize hout:pd (2^64) (w+a.length+1) (2^(64*w+s)*nv (2^64) (a.take i))=out at *
  obtain⟨q1,q2,q3⟩:=aZr (k:=w+i) hs hout.symm (by omega) hV hxl;have hol:out.length=w+a.length+1:=by rw[←hout,Da]
  have g1:a.getD i 0*2^s%2^64=(a.getD i 0%2^(64-s))*2^s:=by
   have:2^64=2^(64-s)*2^s:=by rw[←bj];congr 1;omega
   rw[this,fj]
  have e8:aa .i64 (64-(s:Int))=((64-s:Nat):Int):=EE 64 s (by omega) (by omega);simp(disch:=omega) only[A5,AT,A6,AQ,AH,A7,AS,AR,A2,A1,AZ,AY,AW,AV,A4,A3,AX,AP,AE,AM,AF,AI,AO,ab,ap,cond_true,cond_false,av,az,bg,ao,ay,au,ar,bb,aw,ba,bd,bi,Ay,BH,e8,Hw _ s (by omega),Dv _ (64-s) (by omega),g1,OY q1 q2,Dd,ip,q3];exact hgo
 ·have e:i=a.length:=by omega
  subst e;rw[dp];simp(disch:=omega) only[A5,AT,A6,AQ,AH,A7,AS,AR,A2,A1,AZ,AY,AW,AV,A4,A3,AX,AP,AE,AM,AF,AI,AO,ab,ap,cond_true,cond_false,av,az,bg,ao,ay,au,ar,bb,aw,ba,bd,bi]
theorem zY(l:List Nat)(hl:Ws l)(n:Nat)(hn:n/64+(Al l).length+1<=1000000):UX (Wd l,(n:Int),())=some (Dw (nv (2^64) l*2^n),()):=by
 obtain⟨h,hlen⟩:=hl;show vL Aj.pre Aj.F oL (Wd l) n=_;unfold vL;have hB:2<=2^64:=by decide
 have p0:=Ex l hlen;have hm:∀x∈Al l,x<2^64:=fun x hx=>h x (Wa hx);have hle:=(Dx l).1;have hv:=Ln hB h;simp only[Dj p0,De p0,cond_true,Ay];rcases br (Al l).length with h0|h0
 ·rw[h0,aRw h h0,ff];unfold Dw;rw[Dt];rfl
 ·have e4:gj (n:Int) 64=((n%64:Nat):Int):=rfl;have e3:decide (((n/64+(Al l).length+1:Nat):Int)*8<=140737488355328)=true:=decide_eq_true (by omega);have hw:=aVI (Al l) hm (by omega) (n/64) (n%64) (ca _ (by decide)) (by omega) 0 (dq _);rw[show nv (2^64) ((Al l).take 0)=0 by rfl,fd,aOI,show 64*(n/64)+n%64=n by omega,show((0:Nat):Int)=0 from rfl]at hw;simp(disch:=omega) only[A5,AT,A6,AQ,AH,A7,AS,AR,A2,A1,AZ,AY,AW,AV,A4,A3,AX,AP,AE,AM,AF,AI,AO,ab,ap,cond_true,cond_false,av,az,bg,ao,ay,au,ar,bb,aw,ba,bd,bi,aDH n (by omega),e4,e3,NF,hw];have hV:2^n*nv (2^64) (Al l)<(2^64)^(n/64+(Al l).length+1):=by
   have:=CP hB (Al l) hm;rw[Du]at this⊢;have h1:2^n*nv (2^64) (Al l)<2^n*2^(64*(Al l).length):=ml this (aj _);rw[←bj]at h1;exact al h1 (ai (by decide) (by omega))
  have p1:=Ex (pd (2^64) (n/64+(Al l).length+1) (2^n*nv (2^64) (Al l))) (by rw[Da];omega);rw[FW hB _ (Hp (by decide) _ _),Hq (by decide) _ _ hV,hv,be (2^n)]at p1;rw[hv,be (2^n)];generalize pd (2^64) (n/64+(Al l).length+1) (nv (2^64) l*2^n)=out at *
  show(bif Aj.pre (Wd out,())then some (Aj.F (Wd out,()))else none)=_;rw[Dj p1,De p1];rfl
theorem aVH(ls:List (List Nat))(hls:∀l∈ls,l.length<=1000000)(hn:ls.length<=1000000)(i:Nat)(hi:i<=ls.length)(hz:∀l∈ls.take i,(Al l).length<=1024):
  oK (((ls.length:Int),(ls.map Wd,((i:Int),()))),())=some (if(∀l∈ls,(Al l).length<=1024)then .inl ((),())else .inr ((true,()),())):=by
 have key:=CD (aNU Aj.pre Aj.F) (fun x=>ls.length-x.1.2.2.1.toNat)
  (fun x=>∃i:Nat,i<=ls.length/\(∀l∈ls.take i,(Al l).length<=1024)/\x=(((ls.length:Int),(ls.map Wd,((i:Int),()))),()))
  (fun _=>if(∀l∈ls,(Al l).length<=1024)then .inl ((),())else .inr ((true,()),())) ?_ _ ⟨i,hi,hz,rfl⟩
 ·exact key
 intro L x hx hL;obtain⟨i,hi,hz,rfl⟩:=hx;unfold Ya;rcases ax i ls.length with hlt|hge
 ·have eg:(ls.map Wd).getD i []=Wd (ls[i]):=by
   rw[ak,ko,bo hlt];rfl
  have hil:ls[i]∈ls:=List.getElem_mem hlt;have p0:=Ex ls[i] (hls _ hil);simp(disch:=omega) only[A5,AT,A6,AQ,AH,A7,AS,AR,A2,A1,AZ,AY,AW,AV,A4,A3,AX,AP,AE,AM,AF,AI,AO,ab,ap,cond_true,cond_false,av,az,bg,ao,ay,au,ar,bb,aw,ba,bd,bi,js,eg,Dj p0,De p0,Ay];rcases ax 1024 (Al ls[i]).length with hg|hg
  ·have e:decide (((Al ls[i]).length:Int)>1024)=true:=decide_eq_true (by omega);have hnot:¬∀l∈ls,(Al l).length<=1024:=fun hh=>by have:=hh _ hil;omega
   rw[e,cond_true,if_neg hnot]
  ·have e:decide (((Al ls[i]).length:Int)>1024)=false:=decide_eq_false (by omega);rw[e,cond_false];refine hL _ ⟨i+1,by omega,?_,rfl⟩ (by simp only[ab];omega);intro l hl;rw[qb,bo hlt]at hl;rcases cw.1 hl with hl|hl
   ·exact hz l hl
   ·have:l=ls[i]:=by simpa using hl
    rw[this];exact hg
 ·have e:i=ls.length:=by omega
  subst e;rw[dp]at hz;simp(disch:=omega) only[A5,AT,A6,AQ,AH,A7,AS,AR,A2,A1,AZ,AY,AW,AV,A4,A3,AX,AP,AE,AM,AF,AI,AO,ab,ap,cond_true,cond_false,av,az,bg,ao,ay,au,ar,bb,aw,ba,bd,bi,if_pos hz]
theorem aGa(ls:List (List Nat))(hls:∀l∈ls,l.length<=1000000)(hn:ls.length<=1000000):
  TL (ls.map Wd,())=some (!decide (∀l∈ls,(Al l).length<=1024),()):=by
 show vK Aj.pre Aj.F oK (ls.map Wd)=_;unfold vK;have hw:=aVH ls hls hn 0 (dq _) (fun l hl=>by simp at hl);rw[show((0:Nat):Int)=0 from rfl]at hw;rw[js,hw];by_cases h:∀l∈ls,(Al l).length<=1024
 ·rw[if_pos h,decide_eq_true h];rfl
 ·rw[if_neg h,decide_eq_false h];rfl
theorem aGb(l:List Nat)(hl:l.length<=1000000):TL ((Wd l::[]),())=some (!decide ((Al l).length<=1024),()):=by
 have:=aGa [l] (by simp;exact hl) (by simp);rw[show[l].map Wd=Wd l::[]from rfl]at this;rw[this];simp
theorem aF8(l:List Nat)(hl:Ws l)(n:Nat)(hn:n<=65536)(hv:nv (2^64) l*2^n<(2^64)^1024):UV (Wd l,(n:Int),())=some (Dw (nv (2^64) l*2^n),0,()):=by
 show vE Dn.pre Dn.F EO.pre EO.F (Wd l) n=_;unfold vE;have p0:=aGb l hl.2;have hB:2<=2^64:=by decide
 have h1:=D0 hB 1024 _ hv;have h0:(Al l).length<=1024:=by
  rw[FW hB _ hl.1];apply D0 hB;exact bl (Nat.le_mul_of_pos_right _ (aj _)) hv
 have p1:=zY l hl n (by omega);have p2:=aGb (dg (2^64) (nv (2^64) l*2^n)) (by omega);rw[OD hB]at p2;rw[decide_eq_true h0]at p0;rw[decide_eq_true h1]at p2;have e2:decide ((n:Int)>65536)=false:=decide_eq_false (by omega);simp only[aCR,e2,bb,cond_false,aDt p0,aCA p0,cond_true,au,aDu p1,aCB p1];unfold Dw;simp only[aDt p2,aCA p2,cond_true,au,cond_false]
end VL
namespace VL
open Go Vx
theorem C0(B:Nat)(l:List Nat)(i:Nat):nv B (l.take (i+1))=nv B (l.take i)+B^i*l.getD i 0:=by
 rcases ax i l.length with h|h
 ·exact aDg B l i h
 ·rw[ck (by omega),ck h,ak,df h];simp
def Cl(a b:List Nat)(i:Nat):Nat:=nv (2^64) (a.take i)+nv (2^64) (b.take i)
def D6(a b:List Nat)(i:Nat):List Nat:=pd (2^64) i (Cl a b i%(2^64)^i)++(a++[0]).drop i
theorem i3{l:List Nat}(h:∀x∈l,x<2^64)(i:Nat):nv (2^64) (l.take i)<(2^64)^i:=by
 have:=CP (B:=2^64) (by decide) (l.take i) fun x hx=>h x (fg hx);refine al this (ai (by decide) ?_);rw[gx];exact Nat.min_le_left _ _
theorem aLI{a b:List Nat}(ha:∀x∈a,x<2^64)(hb:∀x∈b,x<2^64)(i:Nat):Cl a b i/(2^64)^i<=1:=by
 have h1:=i3 ha i;have h2:=i3 hb i;have hp:0<(2^64)^i:=go (by decide);unfold Cl;have:(nv (2^64) (a.take i)+nv (2^64) (b.take i))/(2^64)^i<2:=by
  rw[bv hp];omega
 omega
theorem aPP(a b:List Nat)(i:Nat):Cl a b (i+1)=Cl a b i%(2^64)^i+(2^64)^i*(a.getD i 0+b.getD i 0+Cl a b i/(2^64)^i):=by
 have hdm:=ct (Cl a b i) ((2^64)^i);have h1:Cl a b (i+1)=Cl a b i+(2^64)^i*(a.getD i 0+b.getD i 0):=by
  unfold Cl;rw[C0,C0,bw];omega
 rw[h1,bw ((2^64)^i) (a.getD i 0+b.getD i 0)];omega
theorem bG3(a b:List Nat)(i:Nat):Cl a b (i+1)/(2^64)^(i+1)=(a.getD i 0+b.getD i 0+Cl a b i/(2^64)^i)/2^64:=by
 have hp:0<(2^64)^i:=go (by decide);rw[aPP,dl (2^64) i,←dj,fc _ _ hp,ci (ca _ hp),de]
theorem bG4(a b:List Nat)(i:Nat):Cl a b (i+1)%(2^64)^(i+1)=Cl a b i%(2^64)^i+(2^64)^i*((a.getD i 0+b.getD i 0+Cl a b i/(2^64)^i)%2^64):=by
 have hp:0<(2^64)^i:=go (by decide);rw[aPP a b i,dl (2^64) i,my,gv,qj,fc _ _ hp,ci (ca _ hp),de]
theorem aOH{k r v:Nat}(hr:r<(2^64)^k)(hv:v<2^64):pd (2^64) k r++[v]=pd (2^64) (k+1) (r+(2^64)^k*v):=by
 refine Uq (by decide) ?_ (by simp[Da]) ?_
 ·intro x hx;rcases cw.1 hx with hx|hx
  ·exact Hp (by decide) _ _ x hx
  ·have:x=v:=by simpa using hx
   rw[this];exact hv
 ·rw[Uo,Da,Hq (by decide) _ _ hr];simp[nv]
theorem bAM(a b:List Nat)(i:Nat)(hi:i<a.length):(D6 a b i).set i ((a.getD i 0+b.getD i 0+Cl a b i/(2^64)^i)%2^64)=D6 a b (i+1):=by
 have hp:0<(2^64)^i:=go (by decide);unfold D6;rw[bG4,←aOH (ca _ hp) (ca _ (by decide)),ga _ _ (by rw[Da];exact bu _),Da,gr,
  dz (l:=a++[0]) (i:=i) (by simp;omega),jn,List.append_assoc]
 rfl
theorem aOE(a b:List Nat)(i:Nat)(hi:i<=a.length):(D6 a b i).length=a.length+1:=by
 unfold D6;rw[List.length_append,Da];simp;omega
theorem aVy(a b:List Nat)(ha:∀x∈a,x<2^64)(hb:∀x∈b,x<2^64)(hlen:a.length<=1000000)(i:Nat)(hi:i<=a.length):
  eA (((a.length:Int),(Wd b,((i:Int),(Wd a,(((Cl a b i/(2^64)^i:Nat):Int),((),())))))),(Wd (D6 a b i),()))=some (.inl ((Wd a,(((Cl a b a.length/(2^64)^a.length:Nat):Int),((),()))),(Wd (D6 a b a.length),()))):=by
 have key:=CD (aNL AC.pre AC.F Aj.pre Aj.F) (fun x=>a.length-x.1.2.2.1.toNat)
  (fun x=>∃i:Nat,i<=a.length/\x=(((a.length:Int),(Wd b,((i:Int),(Wd a,(((Cl a b i/(2^64)^i:Nat):Int),((),())))))),(Wd (D6 a b i),())))
  (fun _=>.inl ((Wd a,(((Cl a b a.length/(2^64)^a.length:Nat):Int),((),()))),(Wd (D6 a b a.length),()))) ?_ _ ⟨i,hi,rfl⟩
 ·exact key
 intro L x hx hL;obtain⟨i,hi,rfl⟩:=hx;unfold X1;rcases ax i a.length with hlt|hge
 ·have hc:=aLI ha hb i;have hol:=aOE a b i hi;have hset:=bAM a b i hlt;have hgo:=hL (((a.length:Int),(Wd b,(((i+1:Nat):Int),(Wd a,(((Cl a b (i+1)/(2^64)^(i+1):Nat):Int),((),())))))),(Wd (D6 a b (i+1)),())) ⟨i+1,by omega,rfl⟩ (by simp only[ab];omega);rw[bG3,←hset]at hgo;have hF:∀x y c:Nat,AC.F ((x:Int),((y:Int),((c:Int),())))=(((((x+y+c)%2^64:Nat):Int)),((((x+y+c)/2^64:Nat):Int)),()):=fun x y c=>rfl;have hP:∀(x y:Int) (c:Nat),c<=1->AC.pre (x,(y,((c:Int),())))=true:=fun x y c h=>by
   show(decide ((0:Int)<=(c:Int))&&decide ((c:Int)<=1))=true;rw[decide_eq_true (by omega),decide_eq_true (by omega)];rfl
  generalize Cl a b i/(2^64)^i=c at *
  generalize D6 a b i=out at *
  rcases ax i b.length with hbl|hbl
  ·simp(disch:=omega) only[A5,AT,A6,AQ,AH,A7,AS,AR,A2,A1,AZ,AY,AW,AV,A4,A3,AX,AP,AE,AM,AF,AI,AO,ab,ap,cond_true,cond_false,av,az,bg,ao,ay,au,ar,bb,aw,ba,bd,bi,Ay,BH,hP _ _ c hc,hF,Dd];exact hgo
  ·have hbz:b.getD i 0=0:=by rw[ak,df hbl];rfl
   have hF0:AC.F (((a.getD i 0:Nat):Int),((0:Int),((c:Int),())))=((((a.getD i 0+b.getD i 0+c)%2^64:Nat):Int),(((a.getD i 0+b.getD i 0+c)/2^64:Nat):Int),()):=by rw[hbz];rfl
   simp(disch:=omega) only[A5,AT,A6,AQ,AH,A7,AS,AR,A2,A1,AZ,AY,AW,AV,A4,A3,AX,AP,AE,AM,AF,AI,AO,ab,ap,cond_true,cond_false,av,az,bg,ao,ay,au,ar,bb,aw,ba,bd,bi,Ay,BH,hP _ _ c hc,hF0,Dd];exact hgo
 ·have e:i=a.length:=by omega
  subst e;simp(disch:=omega) only[A5,AT,A6,AQ,AH,A7,AS,AR,A2,A1,AZ,AY,AW,AV,A4,A3,AX,AP,AE,AM,AF,AI,AO,ab,ap,cond_true,cond_false,av,az,bg,ao,ay,au,ar,bb,aw,ba,bd,bi]
theorem bG1(a b:List Nat)(ha:∀x∈a,x<2^64)(hb:∀x∈b,x<2^64)(hab:b.length<=a.length):
  (D6 a b a.length).set a.length (Cl a b a.length/(2^64)^a.length)=pd (2^64) (a.length+1) (nv (2^64) a+nv (2^64) b)/\nv (2^64) a+nv (2^64) b<(2^64)^(a.length+1):=by
 have hp:0<(2^64)^a.length:=go (by decide);have hc:=aLI ha hb a.length;have hs:Cl a b a.length=nv (2^64) a+nv (2^64) b:=by
  unfold Cl;rw[dp,ck hab]
 have hdm:=ct (Cl a b a.length) ((2^64)^a.length);refine⟨?_,?_⟩
 ·have hd:(a++[0]).drop a.length=[0]:=by simp
  unfold D6;rw[hd,ga _ _ (by rw[Da];exact bu _),Da,gr,jn,aOH (ca _ hp) (by omega),io (Cl a b a.length%(2^64)^a.length),hdm,hs]
 ·rw[←hs];have h1:=i3 ha a.length;have h2:=i3 hb a.length;unfold Cl;rw[dl (2^64) a.length];omega
theorem aWT{a:List Nat}:kh (aq (a.length+1) (0:Int)).length (Wd a)++qf a.length (aq (a.length+1) (0:Int))=Wd (D6 a ([]:List Nat) 0):=by
 rw[gc,kw,je,ck (by rw[Ay];omega)];unfold D6;simp[Wd,pd]
theorem bAN(a b c:List Nat):D6 a b 0=D6 a c 0:=by unfold D6;simp[pd]
theorem aLc(a b:List Nat)(ha:∀x∈a,x<2^64)(hb:∀x∈b,x<2^64)(hlen:a.length+1<=1000000)(hab:b.length<=a.length):
  (bif decide (0<=aa .i64 ((a.length:Int)+1))&&decide (aa .i64 ((a.length:Int)+1)*8<=140737488355328)then
   Ba (eA (((a.length:Int),(Wd b,((0:Int),(Wd a,((0:Int),((),())))))),(kh (aq (af (aa .i64 ((a.length:Int)+1))) (0:Int)).length (Wd a)++qf a.length (aq (af (aa .i64 ((a.length:Int)+1))) (0:Int)),()))) fun y4=>
    A9 y4 (fun y5=>bif decide (0<=((y5.1.1.length:Nat):Int))&&decide (((y5.1.1.length:Nat):Int)<((y5.2.1.length:Nat):Int))then
     (bif Aj.pre ((y5.2.1.set (af ((y5.1.1.length:Nat):Int)) y5.1.2.1),())then some (Aj.F ((y5.2.1.set (af ((y5.1.1.length:Nat):Int)) y5.1.2.1),()))else none)else none) fun _=>none
  else none:Option (DenS GQ))=some (Dw (nv (2^64) a+nv (2^64) b),()):=by
 have hw:=aVy a b ha hb (by omega) 0 (dq _)
 have h0:Cl a b 0/(2^64)^0=0:=by unfold Cl;simp[nv]
 rw[h0,show((0:Nat):Int)=0 from rfl,bAN a b [],←aWT]at hw
 have e3:decide (((a.length+1:Nat):Int)*8<=140737488355328)=true:=decide_eq_true (by omega)
 rw[AT _ (by omega),e3,AE,ab,hw]
 obtain⟨g1,g2⟩:=bG1 a b ha hb hab
 have hol:=aOE a b a.length (bu _)
 have p1:=Ex (pd (2^64) (a.length+1) (nv (2^64) a+nv (2^64) b)) (by rw[Da];exact hlen)
 rw[FW (by decide) _ (Hp (by decide) _ _),Hq (by decide) _ _ g2,←g1,←Dd]at p1
 generalize Cl a b a.length/(2^64)^a.length=c at *
 generalize D6 a b a.length=out at *
 show(bif decide (0<=(((Wd a).length:Nat):Int))&&decide ((((Wd a).length:Nat):Int)<(((Wd out).length:Nat):Int))then
     (bif Aj.pre ((Wd out).set (Wd a).length (c:Int),())then some (Aj.F ((Wd out).set (Wd a).length (c:Int),()))else none)else none)=_
 simp(disch:=omega) only[A5,AT,A6,AQ,AH,A7,AS,AR,A2,A1,AZ,AY,AW,AV,A4,A3,AX,AP,AE,AM,AF,AI,AO,ab,ap,cond_true,cond_false,av,az,bg,ao,ay,au,ar,bb,aw,ba,bd,bi,Ay,Dj p1,De p1]
 rfl
theorem aF0(l m:List Nat)(hl:Ws l)(hm:Ws m)(hl2:(Al l).length<1000000)(hm2:(Al m).length<1000000):UR (Wd l,Wd m,())=some (Dw (nv (2^64) l+nv (2^64) m),()):=by
 show uO AC.pre AC.F Aj.pre Aj.F eA (Wd l) (Wd m)=_;unfold uO;have p0:=Ex l hl.2;have p1:=Ex m hm.2;have h1:∀x∈Al l,x<2^64:=fun x hx=>hl.1 x (Wa hx);have h2:∀x∈Al m,x<2^64:=fun x hx=>hm.1 x (Wa hx);simp only[Dj p0,De p0,Dj p1,De p1,cond_true];rcases ax (Al l).length (Al m).length with h|h
 ·rw[Ay,Ay,AS _ _ h,cond_true];have:=aLc (Al m) (Al l) h2 h1 hm2 (by omega);rw[Ln (by decide) hl.1,Ln (by decide) hm.1,io]at this;exact this
 ·rw[Ay,Ay,AR _ _ h,cond_false];have:=aLc (Al l) (Al m) h1 h2 hl2 (by omega);rw[Ln (by decide) hl.1,Ln (by decide) hm.1]at this;exact this
theorem aUB(l:List Nat)(hl:Ws l):aV (Wd l,())=some (Dw (nv (2^64) l),()):=by
 show uR Aj.pre Aj.F (Wd l)=_;unfold uR;have p0:=Ex l hl.2;have hle:=(Dx l).1;have h2:=hl.2;have e3:decide ((((Al l).length:Nat):Int)*8<=140737488355328)=true:=decide_eq_true (by omega);simp(disch:=omega) only[A5,AT,A6,AQ,AH,A7,AS,AR,A2,A1,AZ,AY,AW,AV,A4,A3,AX,AP,AE,AM,AF,AI,AO,ab,ap,cond_true,cond_false,av,az,bg,ao,ay,au,ar,bb,aw,ba,bd,bi,Dj p0,De p0,Ay,e3,gc,kw,gr];rw[ck (by rw[Ay];exact bu _),il,dk,FW (by decide) l hl.1];rfl
theorem aFJ(l:List Nat)(hl:Ws l):WC (Wd l,())=some (Dw (nv (2^64) l),()):=by
 show tZ CJ.pre CJ.F (Wd l)=_;unfold tZ;have p0:=aUB l hl;simp only[bA2 p0,aYs p0,cond_true]
end VL
namespace VL
open Go Vx
def Wi(n:Nat):Ab (.pair (.int .u64) (.pair (.int .u64) .unit)):=(((n/2^64:Nat):Int),(((n%2^64:Nat):Int),()))
theorem aHO(k:Nat)(h:0<k):decide ((k:Int)<=0)=false:=decide_eq_false (by omega)
theorem aW0{A q R P:Nat}(g1:A%2^64=R)(g2:q<P)(g4:R+P<=2^64):(A+q)%2^64=q+R:=by omega
theorem aW1{X Y r:Nat}(h:X%2^64=Y)(hr:r<2^64):(2^64*X+r)%2^128=2^64*Y+r:=by omega
theorem aW2{X h q R P:Nat}(e:X=2^64*h+R+q)(g2:q<P)(g4:R+P<=2^64):X/2^64=h/\X%2^64=q+R:=by omega
theorem aFU(n k:Nat)(hn:n<2^128):UQ (Wi n,(k:Int),())=some (Wi (n*2^k%2^128),()):=by
 show uA (Wi n) k=_;unfold uA;rcases br k with rfl|hk
 ·have e:n*2^0%2^128=n:=by rw[iu,gq,bt hn]
  rw[e];rfl
 rw[aHO k hk,cond_false];rcases ax k 128 with h128|h128
 ·rw[show decide ((k:Int)>=128)=false from decide_eq_false (by omega),cond_false];have hlo:(n%2^64)<2^64:=ca _ (by decide);have hhi:n/2^64<2^64:=by omega
  have hsplit:n=2^64*(n/2^64)+n%2^64:=(ct n (2^64)).symm;rcases ax k 64 with h64|h64
  ·have e8:aa .i64 (64-(k:Int))=((64-k:Nat):Int):=EE 64 k (by omega) (by omega);rw[show decide ((k:Int)>=64)=false from decide_eq_false (by omega),cond_false,AE,cond_true,e8,AE,cond_true,cond_true];show some ((Ai .u64 (Be .u64 ((n/2^64:Nat):Int) k) (AL .u64 ((n%2^64:Nat):Int) ((64-k:Nat):Int)),(Be .u64 ((n%2^64:Nat):Int) k,())),())=_;rw[Hw _ k (by omega),Hw _ k (by omega),Dv _ (64-k) (by omega)];have hp:=aj k;have hp2:=aj (64-k);have h2:2^64=2^(64-k)*2^k:=by rw[←bj];congr 1;omega
   generalize n/2^64=hi at *
   generalize n%2^64=lo at *
   have g1:hi*2^k%2^64=(hi%2^(64-k))*2^k:=by rw[h2,fj]
   have g2:lo/2^(64-k)<2^k:=by rw[bv hp2,be,←h2];exact hlo
   have g3:hi%2^(64-k)+1<=2^(64-k):=ca _ hp2;have g4:=bc (2^k) g3;rw[←h2,cm,fw]at g4;have hor:Ai .u64 ((hi*2^k%2^64:Nat):Int) ((lo/2^(64-k):Nat):Int)=((lo/2^(64-k)+(hi%2^(64-k))*2^k:Nat):Int):=by
    have:=OY g2 (b:=hi%2^(64-k)) (by omega);rw[g1];have hc:∀a b:Nat,a<2^64->b<2^64->Ai .u64 (a:Int) (b:Int)=Ai .u64 (b:Int) (a:Int):=fun a b ha hb=>by
     rw[i5 ha hb,i5 hb ha,qi]
    rw[hc _ _ (by omega) (by omega)];exact this
   rw[hor];have hdm:=ct lo (2^(64-k));have v1:n*2^k=2^64*(hi*2^k+lo/2^(64-k))+lo*2^k%2^64:=by
    have g5:lo*2^k%2^64=(lo%2^(64-k))*2^k:=by rw[h2,fj]
    have g6:2^64*(lo/2^(64-k))=2^(64-k)*(lo/2^(64-k))*2^k:=by
     rw[jo,←h2]
    rw[hsplit,cm,bw,bh,gm,g6,g5,←cm,hdm]
   have v2:n*2^k%2^128=2^64*(lo/2^(64-k)+(hi%2^(64-k))*2^k)+lo*2^k%2^64:=by
    rw[v1];have hlo2:lo*2^k%2^64<2^64:=ca _ (by decide);exact aW1 (aW0 g1 g2 g4) hlo2
   have hlo2:lo*2^k%2^64<2^64:=ca _ (by decide);have e1:n*2^k%2^128/2^64=lo/2^(64-k)+(hi%2^(64-k))*2^k:=by rw[v2];omega
   have e2:n*2^k%2^128%2^64=lo*2^k%2^64:=by rw[v2];omega
   unfold Wi;rw[e1,e2]
  ·have e8:aa .i64 ((k:Int)-64)=((k-64:Nat):Int):=EE k 64 (by omega) (by omega);rw[show decide ((k:Int)>=64)=true from decide_eq_true (by omega),cond_true,e8,AE,cond_true];show some ((Be .u64 ((n%2^64:Nat):Int) ((k-64:Nat):Int),((0:Int),())),())=_;rw[Hw _ (k-64) (by omega)];have v1:n*2^k%2^128=2^64*(n%2^64*2^(k-64)%2^64):=by
    have h2:2^k=2^(k-64)*2^64:=by rw[←bj];congr 1;omega
    rw[h2,←bh,show 2^128=2^64*2^64 by decide,fj,be _ (2^64),qk n (2^(k-64)),qk (n%2^64) (2^(k-64)),qj]
   have e1:n*2^k%2^128/2^64=n%2^64*2^(k-64)%2^64:=by rw[v1];omega
   have e2:n*2^k%2^128%2^64=0:=by rw[v1];omega
   unfold Wi;rw[e1,e2];rfl
 ·rw[show decide ((k:Int)>=128)=true from decide_eq_true (by omega),cond_true];have e:n*2^k%2^128=0:=by
   rw[show k=(k-128)+128 by omega,bj,←bh];exact lx _ _
  rw[e];rfl
theorem aUr(n k:Nat)(hn:n<2^128):WD (Wi n,(k:Int),())=some (Wi (n/2^k),()):=by
 show uB (Wi n) k=_;unfold uB;rcases br k with rfl|hk
 ·have e:n/2^0=n:=by rw[iu,Nat.div_one]
  rw[e];rfl
 rw[aHO k hk,cond_false];rcases ax k 128 with h128|h128
 ·rw[show decide ((k:Int)>=128)=false from decide_eq_false (by omega),cond_false];have hlo:(n%2^64)<2^64:=ca _ (by decide);have hhi:n/2^64<2^64:=by omega
  rcases ax k 64 with h64|h64
  ·have e8:aa .i64 (64-(k:Int))=((64-k:Nat):Int):=EE 64 k (by omega) (by omega);rw[show decide ((k:Int)>=64)=false from decide_eq_false (by omega),cond_false,AE,cond_true,e8,AE,cond_true,cond_true];show some ((AL .u64 ((n/2^64:Nat):Int) k,(Ai .u64 (AL .u64 ((n%2^64:Nat):Int) k) (Be .u64 ((n/2^64:Nat):Int) ((64-k:Nat):Int)),())),())=_;rw[Hw _ (64-k) (by omega),Dv _ k (by omega),Dv _ k (by omega)];have hp:=aj k;have hp2:=aj (64-k);have h2:2^64=2^k*2^(64-k):=by rw[←bj];congr 1;omega
   have hsplit:n=2^64*(n/2^64)+n%2^64:=(ct n (2^64)).symm;generalize n/2^64=hi at *
   generalize n%2^64=lo at *
   have g1:hi*2^(64-k)%2^64=(hi%2^k)*2^(64-k):=by rw[h2,fj]
   have g2:lo/2^k<2^(64-k):=by rw[bv hp,be,←h2];exact hlo
   have g3:hi%2^k+1<=2^k:=ca _ hp;have g4:=bc (2^(64-k)) g3;rw[←h2,cm,fw]at g4;rw[g1,OY g2 (by omega)];have v1:n/2^k=hi*2^(64-k)+lo/2^k:=by
    have:n=lo+2^k*(hi*2^(64-k)):=by rw[hsplit,h2,bh,be hi];omega
    rw[this,fc _ _ hp,io]
   have hdm:=ct hi (2^k);have v2:hi*2^(64-k)=2^64*(hi/2^k)+(hi%2^k)*2^(64-k):=by
    rw[h2,jo,←cm,hdm]
   rw[v2]at v1;obtain⟨e1,e2⟩:=aW2 v1 g2 g4;unfold Wi;rw[e1,e2]
  ·have e8:aa .i64 ((k:Int)-64)=((k-64:Nat):Int):=EE k 64 (by omega) (by omega);rw[show decide ((k:Int)>=64)=true from decide_eq_true (by omega),cond_true,e8,AE,cond_true];show some (((0:Int),(AL .u64 ((n/2^64:Nat):Int) ((k-64:Nat):Int),())),())=_;rw[Dv _ (k-64) (by omega)];have v1:n/2^k=n/2^64/2^(k-64):=by
    rw[dj,←bj];congr 2;omega
   have hs:n/2^k<2^64:=by
    rw[v1];exact bl (dw _ _) hhi
   have e1:n/2^k/2^64=0:=ci hs;have e2:n/2^k%2^64=n/2^64/2^(k-64):=by rw[←v1];exact bt hs
   unfold Wi;rw[e1,e2];rfl
 ·rw[show decide ((k:Int)>=128)=true from decide_eq_true (by omega),cond_true];have e:n/2^k=0:=ci (al hn (ai (by decide) h128));rw[e];rfl
theorem Xu(x y c:Nat):AC.F ((x:Int),((y:Int),((c:Int),())))=(((((x+y+c)%2^64:Nat):Int)),((((x+y+c)/2^64:Nat):Int)),()):=rfl
theorem Xv(x y:Int)(c:Nat)(h:c<=1):AC.pre (x,(y,((c:Int),())))=true:=by
 show(decide ((0:Int)<=(c:Int))&&decide ((c:Int)<=1))=true;rw[decide_eq_true (by omega),decide_eq_true (by omega)];rfl
theorem jW(x y c:Nat)(h:c<=1)(hx:x<2^64)(hy:y<2^64):By.F ((x:Int),((y:Int),((c:Int),())))=(((((x+2^64-y-c)%2^64:Nat):Int)),((if x<y+c then 1 else 0:Nat):Int),()):=by
 show((((x:Int)-y-c)%18446744073709551616:Int),((if(x:Int)<y+c then 1 else 0:Int)),())=_;have e1:((x:Int)-y-c)%18446744073709551616=((x+2^64-y-c)%2^64:Nat):=by omega
 rw[e1];by_cases h:x<y+c
 ·rw[if_pos h,if_pos (by omega)];rfl
 ·rw[if_neg h,if_neg (by omega)];rfl
theorem jX(x y:Int)(c:Nat)(h:c<=1):By.pre (x,(y,((c:Int),())))=true:=by
 show(decide ((0:Int)<=(c:Int))&&decide ((c:Int)<=1))=true;rw[decide_eq_true (by omega),decide_eq_true (by omega)];rfl
theorem aUs(n m:Nat)(h:n+m<2^128):aL (Wi n,Wi m,())=some (Wi (n+m),0,()):=by
 show uC AC.pre AC.F (Wi n) (Wi m)=_;unfold uC;have c1:(n%2^64+m%2^64+0)/2^64<=1:=by omega
 have p1:AC.pre ((Wi n).2.1,((Wi m).2.1,((0:Int),())))=true:=Xv _ _ 0 (by decide);have q1:AC.F ((Wi n).2.1,((Wi m).2.1,((0:Int),())))=_:=Xu (n%2^64) (m%2^64) 0;rw[p1,q1,cond_true];have p2:AC.pre ((Wi n).1,((Wi m).1,((((n%2^64+m%2^64+0)/2^64:Nat):Int),())))=true:=Xv _ _ _ c1;have q2:AC.F ((Wi n).1,((Wi m).1,((((n%2^64+m%2^64+0)/2^64:Nat):Int),())))=_:=Xu (n/2^64) (m/2^64) ((n%2^64+m%2^64+0)/2^64);dsimp only;rw[p2,q2,cond_true];have e1:(n/2^64+m/2^64+(n%2^64+m%2^64+0)/2^64)%2^64=(n+m)/2^64:=by omega
 have e2:(n%2^64+m%2^64+0)%2^64=(n+m)%2^64:=by omega
 have e3:(n/2^64+m/2^64+(n%2^64+m%2^64+0)/2^64)/2^64=0:=by omega
 rw[e1,e2,e3];rfl
theorem zT(n m:Nat)(hn:n<2^128)(h:m<=n):aP (Wi n,Wi m,())=some (Wi (n-m),0,()):=by
 show uF By.pre By.F (Wi n) (Wi m)=_;unfold uF;have p1:By.pre ((Wi n).2.1,((Wi m).2.1,((0:Int),())))=true:=jX _ _ 0 (by decide);have q1:By.F ((Wi n).2.1,((Wi m).2.1,((0:Int),())))=_:=jW (n%2^64) (m%2^64) 0 (by decide) (by omega) (by omega);rw[p1,q1,cond_true];have c1:(if n%2^64<m%2^64+0 then 1 else 0)<=1:=by split<;>omega
 have p2:By.pre ((Wi n).1,((Wi m).1,(((if n%2^64<m%2^64+0 then 1 else 0:Nat):Int),())))=true:=jX _ _ _ c1;have q2:By.F ((Wi n).1,((Wi m).1,(((if n%2^64<m%2^64+0 then 1 else 0:Nat):Int),())))=_:=jW (n/2^64) (m/2^64) _ c1 (by omega) (by omega);dsimp only;rw[p2,q2,cond_true];have e2:(n%2^64+2^64-m%2^64-0)%2^64=(n-m)%2^64:=by omega
 rw[e2];by_cases hb:n%2^64<m%2^64+0
 ·rw[if_pos hb,if_neg (by omega)];have e1:(n/2^64+2^64-m/2^64-1)%2^64=(n-m)/2^64:=by omega
  rw[e1];rfl
 ·rw[if_neg hb,if_neg (by omega)];have e1:(n/2^64+2^64-m/2^64-0)%2^64=(n-m)/2^64:=by omega
  rw[e1];rfl
theorem aUt(n m:Nat):aO (Wi n,Wi m,())=some (if n=m then 0 else if n<m then -1 else 1,()):=by
 show uE (Wi n) (Wi m)=_;unfold uE;show(bif(((n/2^64:Nat):Int)==((m/2^64:Nat):Int)&&((n%2^64:Nat):Int)==((m%2^64:Nat):Int))then some ((0:Int),())
  else bif(decide (((n/2^64:Nat):Int)<((m/2^64:Nat):Int))||(((n/2^64:Nat):Int)==((m/2^64:Nat):Int)&&decide (((n%2^64:Nat):Int)<((m%2^64:Nat):Int))))then some ((-1:Int),())else some ((1:Int),()):Option (Int×Unit))=_
 rw[Lj,Lj,nlt,nlt];rcases fh n m with h|h|h
 ·have e1:(n/2^64==m/2^64&&n%2^64==m%2^64)=false:=by
   rw[lm,beq_eq_false_iff_ne,beq_eq_false_iff_ne];omega
  have e2:(decide (n/2^64<m/2^64)||(n/2^64==m/2^64&&decide (n%2^64<m%2^64)))=true:=by
   rw[dv,ag,decide_eq_true_eq,decide_eq_true_eq,beq_iff_eq];omega
  rw[e1,e2,if_neg (by omega),if_pos h];rfl
 ·subst h;rw[if_pos rfl];simp
 ·have e1:(n/2^64==m/2^64&&n%2^64==m%2^64)=false:=by
   rw[lm,beq_eq_false_iff_ne,beq_eq_false_iff_ne];omega
  have e2:(decide (n/2^64<m/2^64)||(n/2^64==m/2^64&&decide (n%2^64<m%2^64)))=false:=by
   rw[Bool.or_eq_false_iff,lm,decide_eq_false_iff_not,decide_eq_false_iff_not,beq_eq_false_iff_ne];omega
  rw[e1,e2,if_neg (by omega),if_neg (by omega)];rfl
end VL
namespace VL
open Go Vx
def Df(m:Int)(neg odd:Bool)(rest:Nat):Bool:=if m=4 then neg else if m=3 then !neg else if m=0 then(if rest=2 then odd else decide (2<=rest))else if m=1 then decide (2<=rest)else if m=5 then !odd else false
theorem VJ(a b:Int)(h:a≠b):(a==b)=false:=by simp[h]
theorem WN(m:Int)(neg odd:Bool)(rest:Nat):UW (m,neg,odd,(rest:Int),())=some (Df m neg odd rest,()):=by
 show vF m neg odd (rest:Int)=_;have e2:decide ((rest:Int)>=2)=decide (2<=rest):=by rw[fi,decide_eq_true_eq,decide_eq_true_eq];omega
 have e3:((rest:Int)==2)=decide (rest=2):=by rw[fi,decide_eq_true_eq,beq_iff_eq];omega
 unfold vF Df;rw[e2,e3];by_cases h4:m=4
 ·subst h4;cases neg<;>rfl
 rw[VJ m 4 h4,cond_false,if_neg h4];by_cases h3:m=3
 ·subst h3;rfl
 rw[VJ m 3 h3,cond_false,if_neg h3];by_cases h0:m=0
 ·subst h0;by_cases hr:rest=2
  ·subst hr;rfl
  ·rw[decide_eq_false hr,if_pos rfl,if_neg hr];rfl
 rw[VJ m 0 h0,cond_false,if_neg h0];by_cases h1:m=1
 ·subst h1;rfl
 rw[VJ m 1 h1,cond_false,if_neg h1];by_cases h5:m=5
 ·subst h5;rfl
 rw[VJ m 5 h5,cond_false,if_neg h5]
def Hu(n:Nat)(e q:Int):Nat:=if q<=e then n*2^(e-q).toNat else n/2^(q-e).toNat
def Cx(r s:Nat):Nat:=if r=0 then 0 else if r<2^(s-1)then 1 else if r=2^(s-1)then 2 else 3
def Uy(n:Nat)(e q:Int):Nat:=if q<=e then 0 else Cx (n%2^(q-e).toNat) (q-e).toNat
def j4(n:Nat)(e q:Int):Nat:=if 2<=q-e then OS n (q-e-2).toNat else n*2^(2-(q-e)).toNat
theorem aZn(n:Nat)(e q:Int):j4 n e q/4=Hu n e q/\j4 n e q%4=Uy n e q:=by
 unfold j4 Hu Uy;by_cases h2:2<=q-e
 ·rw[if_pos h2,if_neg (by omega),if_neg (by omega)];have es:(q-e).toNat=(q-e-2).toNat+2:=by omega
  rw[es];generalize(q-e-2).toNat=s;have hp:=aj s;have e1:2^(s+2)=2^s*4:=by rw[bj]
  have e2:2^(s+2-1)=2^s*2:=by rw[show s+2-1=s+1 by omega,dl]
  unfold OS Cx;rw[e2,e1,←dj,my];have hr:=ca n hp;generalize n%2^s=r at *
  generalize n/2^s=u at *
  have h4:u%4=0∨u%4=1∨u%4=2∨u%4=3:=by omega
  constructor
  ·split<;>omega
  ·rcases h4 with h|h|h|h<;>rw[h]<;>by_cases hz:r=0
   ·rw[if_pos hz,if_pos (by omega)];exact h
   ·rw[if_neg hz,if_neg (by omega),if_pos (by omega)];omega
   ·rw[if_pos hz,if_neg (by omega),if_pos (by omega)];exact h
   ·rw[if_neg hz,if_neg (by omega),if_pos (by omega)];omega
   ·rw[if_pos hz,if_neg (by omega),if_neg (by omega),if_pos (by omega)];exact h
   ·rw[if_neg hz,if_neg (by omega),if_neg (by omega),if_neg (by omega)];omega
   ·rw[if_pos hz,if_neg (by omega),if_neg (by omega),if_neg (by omega)];exact h
   ·rw[if_neg hz,if_neg (by omega),if_neg (by omega),if_neg (by omega)];omega
 ·rw[if_neg h2];by_cases h1:q<=e
  ·rw[if_pos h1,if_pos h1,show(2-(q-e)).toNat=(e-q).toNat+2 by omega,bj,←bh];generalize n*2^(e-q).toNat=x;omega
  ·rw[if_neg h1,if_neg h1,show(2-(q-e)).toNat=1 by omega,show(q-e).toNat=1 by omega];unfold Cx;rcases jk n with h|h
   ·rw[show n%2^1=0 from h,if_pos rfl];omega
   ·rw[show n%2^1=1 from h,if_neg (by omega),if_neg (by decide),if_pos (by decide)];omega
def Ds(n:Nat)(e q:Int)(more:Bool):Nat:=if more then Uy n e q/2*2+1 else Uy n e q
def BI(m:Int)(neg:Bool)(n:Nat)(e q:Int)(more:Bool):Nat:=if Ds n e q more≠0/\Df m neg (decide (Hu n e q%2=1)) (Ds n e q more)=true then Hu n e q+1 else Hu n e q
theorem E9:Dw 0=[]:=by unfold Dw;rw[Dt];rfl
theorem lK{n:Nat}(h:n≠0):0<(Dw n).length:=by
 unfold Dw;rw[Ay,Ep (by decide) (by omega)];simp
theorem LB{n:Nat}(h:n≠0):decide ((((Dw n).length:Nat):Int)>0)=true:=decide_eq_true (by have:=lK h;omega)
theorem Wm{n:Nat}(h:n≠0):decide ((0:Int)<(((Dw n).length:Nat):Int))=true:=decide_eq_true (by have:=lK h;omega)
theorem Pc(n:Nat):(Dw n).getD 0 0=((n%2^64:Nat):Int):=by
 unfold Dw;rw[BH];rcases br n with rfl|h
 ·rw[Dt];rfl
 ·rw[Ep (by decide) h];rfl
theorem aRO:Dw 1=(1:Int)::[]:=by
 unfold Dw;rw[Ep (by decide) (by decide),Dt];rfl
theorem Pd(n:Nat):(decide ((0:Int)<(((Dw n).length:Nat):Int))||!decide ((((Dw n).length:Nat):Int)>0))=true:=by
 by_cases h:0<(Dw n).length
 ·rw[decide_eq_true (by omega)];rfl
 ·rw[decide_eq_false (p:=(((Dw n).length:Nat):Int)>0) (by omega)];simp
theorem qS(n:Nat):BN .u64 ((n%2^64:Nat):Int) 3=((n%4:Nat):Int):=by
 have:=TX (m:=n%2^64) (n:=2) (ca _ (by decide)) (by decide);rw[show n%2^64%2^2=n%4 by omega]at this;exact this
theorem aWV(n:Nat):BN .u64 ((n%2^64:Nat):Int) 1=((n%2:Nat):Int):=by
 have:=TX (m:=n%2^64) (n:=1) (ca _ (by decide)) (by decide);rw[show n%2^64%2^1=n%2 by omega]at this;exact this
theorem or1(n:Nat)(h:n<2^64):Ai .u64 (n:Int) 1=((n/2*2+1:Nat):Int):=by
 have:=i5 (a:=n) (b:=1) h (by decide);rw[aOB]at this;exact this
theorem aOz:Ai .u64 0 1=1:=by decide
theorem YB(u:Nat):(decide ((((Dw u).length:Nat):Int)>0)&&(BN .u64 ((Dw u).getD 0 0) 1==1))=decide (u%2=1):=by
 rw[Pc,aWV];rcases br u with rfl|h
 ·rw[E9];rfl
 ·rw[LB (by omega),az,fi,decide_eq_true_eq,beq_iff_eq];omega
theorem DP{n:Nat}(h:n<(2^64)^5000):Ws (dg (2^64) n):=by
 have:=D0 (B:=2^64) (by decide) 5000 n h;exact aXD n (by omega)
theorem CS(n:Nat):nv (2^64) (dg (2^64) n)=n:=i2 (by decide) n
theorem aPL{j:Nat}(hj:Ws (dg (2^64) j)):TK (Dw j,(2:Int),())=some (Dw (j/4),0,()):=by
 have:=aUz (dg (2^64) j) hj 2 (by decide);rw[CS]at this;exact this
theorem aLa{u:Nat}(hu:Ws (dg (2^64) u))(hl:(dg (2^64) u).length<1000000):UR (Dw u,((1:Int)::[]),())=some (Dw (u+1),()):=by
 have:=aF0 (dg (2^64) u) [1] hu ⟨by simp,by simp⟩ (by rw[OD (by decide)];exact hl) (by simp[Al]);rw[CS,show nv (2^64) [1]=1 by rfl]at this;exact this
end VL
namespace VL
open Go Vx
theorem sE:decide ((0:Int)>0)=false:=rfl
theorem aUE(m:Int)(neg:Bool)(n:Nat)(e q:Int)(more:Bool)(hn:n<(2^64)^2000)(hq:q-e<=10000000)(he:-1000000000<=e/\e<=1000000000)(hqb:-1000000000<=q/\q<=1000000000)
  (hs:q-e<2->2-(q-e)<=65536/\n*2^(2-(q-e)).toNat<(2^64)^1024) :
  WG ((neg,Dw n,e,more,()),m,q,())=some (Dw (BI m neg n e q more),decide (Ds n e q more≠0),()):=by
 show uV _ _ _ _ _ _ _ _ _ _ (neg,Dw n,e,more,()) m q=_;unfold uV;have hnw:Ws (dg (2^64) n):=DP (fm hn (bq (by decide) (by decide)));have e0:aa .i64 (q-e)=q-e:=At (by omega);have hj4:=aZn n e q;dsimp only;rw[e0];by_cases h2:2<=q-e
 ·rw[show decide (q-e>=2)=true from decide_eq_true h2,cond_true];obtain⟨s,hs⟩:=cd (show 0<=q-e-2 by omega);have e1:aa .i64 (q-e-2)=(s:Int):=by rw[At (by omega)];exact hs
  have hj:j4 n e q=OS n s:=by unfold j4;rw[if_pos h2];congr 1;omega
  rw[hj]at hj4;have hjn:OS n s<=n+1:=by
   unfold OS;have:=dw n (2^s);split<;>omega
  have p0:=aUL (dg (2^64) n) hnw s (by omega);rw[CS]at p0;have hjl:OS n s<(2^64)^5000:=by
   have h1:(2^64)^2000<(2^64)^5000:=bq (by decide) (by decide);generalize(2^64)^2000=A at *
   generalize(2^64)^5000=B at *
   omega
  clear hj;generalize OS n s=j at *
  have hj:Ws (dg (2^64) j):=DP hjl;rw[e1];have p0:WM (Dw n,(s:Int),())=some (Dw j,0,()):=p0;have p1:=aPL hj;have hu:Ws (dg (2^64) (j/4)):=DP (bl (dw _ _) hjl);have hul:=D0 (B:=2^64) (by decide) 5000 (j/4) (bl (dw _ _) hjl);have p3:=aLa hu (by omega);have h4:j%4<4:=ca _ (by decide);unfold BI Ds;rw[←hj4.1,←hj4.2];rcases br j with hj0|hj0
  ·subst hj0;have pz:TK ([],(2:Int),())=some (Dw (0/4),0,()):=by rw[←E9];exact p1
   cases more with
   |true=>
    have p2:UW (m,neg,decide (0/4%2=1),(1:Int),())=some (Df m neg (decide (0/4%2=1)) 1,()):=WN m neg _ 1;simp only[sV p0,rZ p0,cond_true,E9,ee,AP,ij,cond_false,ap,sE,aOz,Us pz,Ug pz,Pd,YB,YH p2,XM p2,aw,ba,az];cases hf:Df m neg (decide (0/4%2=1)) 1 with
    |true=>simp only[cond_true,O0 p3,ON p3];have hf:Df m neg false 1=true:=hf;simp[hf]
    |false=>simp only[cond_false];have hf:Df m neg false 1=false:=hf;simp[hf]
   |false=>
    simp only[sV p0,rZ p0,cond_true,E9,ee,ij,cond_false,ap,sE,Us pz,Ug pz,Pd,ba];simp
  ·have hjn:j≠0:=by omega
   cases more with
   |true=>
    have p2:=WN m neg (decide (j/4%2=1)) (j%4/2*2+1);have hr:j%4/2*2+1≠0:=by omega
    simp only[sV p0,rZ p0,cond_true,LB hjn,Wm hjn,ap,Pc j,qS,or1 (j%4) (by omega),Us p1,Ug p1,Pd,YB,YH p2,XM p2,aw,ba,AI _ hr,az];cases hf:Df m neg (decide (j/4%2=1)) (j%4/2*2+1)with
    |true=>simp only[cond_true,O0 p3,ON p3];simp[hf]
    |false=>simp only[cond_false];simp[hf]
   |false=>
    have p2:=WN m neg (decide (j/4%2=1)) (j%4);simp only[sV p0,rZ p0,cond_true,cond_false,LB hjn,Wm hjn,ap,Pc j,qS,Us p1,Ug p1,Pd,YB,YH p2,XM p2,aw,ba];rcases br (j%4)with hz|hz
    ·rw[AO _ hz,ao,cond_false];simp[hz]
    ·have hr:j%4≠0:=by omega
     rw[AI _ hr,az];cases hf:Df m neg (decide (j/4%2=1)) (j%4)with
     |true=>simp only[cond_true,O0 p3,ON p3];simp[hf,hr]
     |false=>simp only[cond_false];simp[hf,hr]
 ·rw[show decide (q-e>=2)=false from decide_eq_false h2,cond_false];obtain⟨s,hse⟩:=cd (show 0<=2-(q-e) by omega);have e1:aa .i64 (2-(q-e))=(s:Int):=by rw[At (by omega)];exact hse
  have hj:j4 n e q=n*2^s:=by unfold j4;rw[if_neg h2];congr 2;omega
  rw[hj]at hj4;obtain⟨hs1,hs2⟩:=hs (by omega);rw[show(2-(q-e)).toNat=s by omega]at hs2;have p0:=aF8 (dg (2^64) n) hnw s (by omega) (by rw[CS];exact hs2);rw[CS]at p0;have hjl:n*2^s<(2^64)^5000:=fm hs2 (bq (by decide) (by decide));clear hj;generalize n*2^s=j at *
  have hj:Ws (dg (2^64) j):=DP hjl;rw[e1];have p0:UV (Dw n,(s:Int),())=some (Dw j,0,()):=p0;have p1:=aPL hj;have hu:Ws (dg (2^64) (j/4)):=DP (bl (dw _ _) hjl);have hul:=D0 (B:=2^64) (by decide) 5000 (j/4) (bl (dw _ _) hjl);have p3:=aLa hu (by omega);have h4:j%4<4:=ca _ (by decide);unfold BI Ds;rw[←hj4.1,←hj4.2];rcases br j with hj0|hj0
  ·subst hj0;have pz:TK ([],(2:Int),())=some (Dw (0/4),0,()):=by rw[←E9];exact p1
   cases more with
   |true=>
    have p2:UW (m,neg,decide (0/4%2=1),(1:Int),())=some (Df m neg (decide (0/4%2=1)) 1,()):=WN m neg _ 1;simp only[jC p0,gZ p0,cond_true,E9,ee,AP,ij,cond_false,ap,sE,aOz,Us pz,Ug pz,Pd,YB,YH p2,XM p2,aw,ba,az];cases hf:Df m neg (decide (0/4%2=1)) 1 with
    |true=>simp only[cond_true,O0 p3,ON p3];have hf:Df m neg false 1=true:=hf;simp[hf]
    |false=>simp only[cond_false];have hf:Df m neg false 1=false:=hf;simp[hf]
   |false=>
    simp only[jC p0,gZ p0,cond_true,E9,ee,ij,cond_false,ap,sE,Us pz,Ug pz,Pd,ba];simp
  ·have hjn:j≠0:=by omega
   cases more with
   |true=>
    have p2:=WN m neg (decide (j/4%2=1)) (j%4/2*2+1);have hr:j%4/2*2+1≠0:=by omega
    simp only[jC p0,gZ p0,cond_true,LB hjn,Wm hjn,ap,Pc j,qS,or1 (j%4) (by omega),Us p1,Ug p1,Pd,YB,YH p2,XM p2,aw,ba,AI _ hr,az];cases hf:Df m neg (decide (j/4%2=1)) (j%4/2*2+1)with
    |true=>simp only[cond_true,O0 p3,ON p3];simp[hf]
    |false=>simp only[cond_false];simp[hf]
   |false=>
    have p2:=WN m neg (decide (j/4%2=1)) (j%4);simp only[jC p0,gZ p0,cond_true,cond_false,LB hjn,Wm hjn,ap,Pc j,qS,Us p1,Ug p1,Pd,YB,YH p2,XM p2,aw,ba];rcases br (j%4)with hz|hz
    ·rw[AO _ hz,ao,cond_false];simp[hz]
    ·have hr:j%4≠0:=by omega
     rw[AI _ hr,az];cases hf:Df m neg (decide (j/4%2=1)) (j%4)with
     |true=>simp only[cond_true,O0 p3,ON p3];simp[hf,hr]
     |false=>simp only[cond_false];simp[hf,hr]
end VL
namespace VL
open Go Vx
def BK(f:Int)(neg:Bool):Nat:=if neg then 2^(fW f-1)else 0
def Dg(f:Int)(neg:Bool):Nat:=(2^(fW f-fP f)-1)*2^(fP f-1)+BK f neg
def Jf(m:Int)(neg:Bool):Bool:=((m==0||m==1)||(m==3&&!neg))||(m==4&&neg)
def TY(f m:Int)(neg:Bool):Nat:=if Jf m neg then Dg f neg else Dg f neg-1
theorem aAl{f:Int}(h:Fm f)(neg:Bool):dX (f,neg,())=some ((Dg f neg:Int),0,()):=by
 rcases Cm h with rfl|rfl|rfl|rfl<;>cases neg<;>kernel_rfl
theorem aU7{f:Int}(h:Fm f)(neg:Bool):cH (f,neg,())=some (((Dg f neg-1:Nat):Int),0,()):=by
 rcases Cm h with rfl|rfl|rfl|rfl<;>cases neg<;>kernel_rfl
theorem aK{f:Int}(h:Fm f)(neg:Bool):aJ (f,neg,())=some ((BK f neg:Int),0,()):=by
 rcases Cm h with rfl|rfl|rfl|rfl<;>cases neg<;>kernel_rfl
theorem aUD{f:Int}(h:Fm f)(m:Int)(neg:Bool):aY (f,m,neg,())=some ((TY f m neg:Int),()):=by
 show uU CM.pre CM.F KH.pre KH.F f m neg=_;have p0:=aAl h neg;have p1:=aU7 h neg;unfold uU TY;show(bif Jf m neg then(bif CM.pre (f,neg,())then some ((CM.F (f,neg,())).1,())else none)else(bif KH.pre (f,neg,())then some ((KH.F (f,neg,())).1,())else none))=_;rw[aDB p0,aCI p0,bBp p1,aYP p1];cases Jf m neg<;>rfl
def AA(n:Nat)(e:Int):Int:=e+(Am n:Int)-1
theorem DY{n k:Nat}(h:n<2^k):Am n<=k:=by
 rcases br n with rfl|hn
 ·exact dq _
 ·have:=Ox (n:=n) (by omega);have:Am n-1<k:=(cu (a:=2) (by decide)).1 (bl this h);omega
theorem gA{n:Nat}(h:n≠0):1<=Am n:=by unfold Am;rw[if_neg h];omega
theorem qU{n:Nat}(h:n<(2^64)^2000):Am n<=128000:=by
 apply DY;rw[Du]at h;exact h
theorem US{n:Nat}(h:n<(2^64)^5000):WH (Dw n,())=some ((Am n:Int),()):=by
 have:=aUF _ (DP h);rw[CS]at this;exact this
theorem aNB{n:Nat}(h:n<(2^64)^2000):n<(2^64)^5000:=fm h (bq (by decide) (by decide))
theorem aUC(neg:Bool)(n:Nat)(e:Int)(more:Bool)(hn:n<(2^64)^2000)(he:-1000000<=e/\e<=1000000):aX ((neg,Dw n,e,more,()),())=some (AA n e,()):=by
 show uT Cf.pre Cf.F (neg,Dw n,e,more,())=_;unfold uT;have p0:=US (aNB hn);have hb:=qU hn;simp only[VW p0,VG p0,cond_true];rw[At (n:=e+(Am n:Int)) (by omega),At (by omega)];rfl
theorem bBP{n:Nat}{e q:Int}{p:Nat}(h:AA n e-p+1<=q):Hu n e q<2^p:=by
 unfold AA at h;unfold Hu;have hb:=Hj n;by_cases hq:q<=e
 ·rw[if_pos hq];have h1:n*2^(e-q).toNat<2^Am n*2^(e-q).toNat:=cj hb (aj _);rw[←bj]at h1;exact al h1 (ai (by decide) (by omega))
 ·rw[if_neg hq,bv (aj _),←bj];exact al hb (ai (by decide) (by omega))
theorem aB9{m:Int}{neg:Bool}{n:Nat}{e q:Int}{more:Bool}{p:Nat}(h:AA n e-p+1<=q):BI m neg n e q more<=2^p:=by
 have:=bBP h;unfold BI;split<;>omega
theorem aF1(m:Int)(neg:Bool)(n:Nat)(e q:Int)(more:Bool)(hn:n<(2^64)^2000)(he:-1000000<=e/\e<=1000000){p:Nat}(hp:p<=60)(h1:AA n e-p+1<=q)(h2:q<=AA n e∨q<=1000):
  WG ((neg,Dw n,e,more,()),m,q,())=some (Dw (BI m neg n e q more),decide (Ds n e q more≠0),()):=by
 have hb:=qU hn;unfold AA at h1 h2;refine aUE m neg n e q more hn (by omega) (by omega) (by omega) fun hs=>?_;refine⟨by omega,?_⟩;have hl:=Hj n;have h3:n*2^(2-(q-e)).toNat<2^Am n*2^(2-(q-e)).toNat:=cj hl (aj _);rw[←bj]at h3;rw[Du];exact al h3 (ai (by decide) (by omega))
theorem aUG(neg:Bool)(n:Nat)(e:Int)(more:Bool)(f m:Int)(hf:Fm f)(hn:n<(2^64)^2000)(he:-1000000<=e/\e<=1000000):
  aZ ((neg,Dw n,e,more,()),Ck f,m,AA n e,())=some (decide (AA n e<1-(fX f:Int)/\AA n e-fP f+Am (BI m neg n e (AA n e-fP f+1) more)<1-(fX f:Int)),()):=by
 show uX IC.pre IC.F Cf.pre Cf.F (neg,Dw n,e,more,()) ((fW f:Int),((fP f:Int),((1-(fX f:Int)),((fX f:Int),())))) m (AA n e)=_;unfold uX;have hb:=qU hn;have hp:=Et hf;have hw:=Ez hf;have hx:=Lc hf;have hp8:=DH hf;have ht:AA n e=e+(Am n:Int)-1:=rfl;have p0:=aF1 m neg n e (AA n e-fP f+1) more hn he (p:=fP f) (by omega) (by omega) (by omega);have hc:=aB9 (m:=m) (neg:=neg) (more:=more) (n:=n) (e:=e) (q:=AA n e-fP f+1) (p:=fP f) (by omega);generalize BI m neg n e (AA n e-fP f+1) more=u at *
 have hu:u<(2^64)^5000:=by
  rw[Du];exact bl hc (bq (by decide) (by omega))
 have hub:Am u<=fP f+1:=DY (bl hc (bq (by decide) (by omega)));have p1:=US hu;have e1:aa .i64 (AA n e-(fP f:Int))=AA n e-(fP f:Int):=At (by omega);have e2:aa .i64 (AA n e-(fP f:Int)+1)=AA n e-(fP f:Int)+1:=At (by omega);have e3:aa .i64 (AA n e-(fP f:Int)+(Am u:Int))=AA n e-(fP f:Int)+(Am u:Int):=At (by omega);dsimp only;rw[e1,e2];by_cases h:AA n e>=1-(fX f:Int)
 ·rw[decide_eq_true h,cond_true,decide_eq_false (by omega)]
 ·rw[decide_eq_false h,cond_false];simp only[aOR p0,aMM p0,cond_true,VW p1,VG p1,e3];have:(AA n e<1-(fX f:Int)):=by omega
  simp only[this,true_and]
end VL
namespace VL
open Go Vx
def B5(f:Int)(t:Int):Int:=(if 1-(fX f:Int)>t then 1-(fX f:Int)else t)-fP f+1
def D3(f m:Int)(neg:Bool)(n:Nat)(e:Int)(more:Bool):Prop:=AA n e<1-(fX f:Int)/\AA n e-fP f+Am (BI m neg n e (AA n e-fP f+1) more)<1-(fX f:Int)
instance (f m:Int) (neg:Bool) (n:Nat) (e:Int) (more:Bool):Decidable (D3 f m neg n e more):=by unfold D3;infer_instance
def Bj(f m:Int)(neg:Bool)(n:Nat)(e:Int)(more:Bool):Nat×Nat:=
 if AA n e>fX f then(TY f m neg,20)
 else
  let q:=B5 f (AA n e)
  let u:=BI m neg n e q more
  if q+Am u-1>fX f then(TY f m neg,20)
  else((q-(1-(fX f:Int)-fP f+1)).toNat*2^(fP f-1)+u+BK f neg,
   if Ds n e q more=0 then 0 else if D3 f m neg n e more then 24 else 16)
theorem aNg{f:Int}(hf:Fm f):(2*fX f-1)*2^(fP f-1)+2^fP f+2^(fP f-1)=2^(fW f-1):=by
 rcases Cm hf with rfl|rfl|rfl|rfl<;>decide
theorem OH{f:Int}(hf:Fm f):15<=fX f:=by
 rcases Cm hf with rfl|rfl|rfl|rfl<;>decide
theorem aFO(neg:Bool)(n:Nat)(e:Int)(more:Bool)(f m:Int)(hf:Fm f)(hn:n<(2^64)^2000)(he:-1000000<=e/\e<=1000000):
  aE ((neg,Dw n,e,more,()),f,Ck f,m,())=some (((Bj f m neg n e more).1:Int),((Bj f m neg n e more).2:Int),()):=by
 show t5 _ _ _ _ _ _ _ _ _ _ (neg,Dw n,e,more,()) f ((fW f:Int),((fP f:Int),((1-(fX f:Int)),((fX f:Int),())))) m=_;unfold t5 Bj;have hb:=qU hn;have hp:=Et hf;have hp8:=DH hf;have hw:=Ez hf;have hx:=Lc hf;have hx15:=OH hf;have ht:AA n e=e+(Am n:Int)-1:=rfl;have pt:=aUC neg n e more hn he;have pb:=aUD hf m neg;have py:=aUG neg n e more f m hf hn he;have hrow:Ck f=((fW f:Int),((fP f:Int),((1-(fX f:Int)),((fX f:Int),())))):=rfl;rw[hrow]at py;simp only[bA4 pt,aYu pt,cond_true];by_cases h1:AA n e>(fX f:Int)
 ·rw[if_pos h1,decide_eq_true h1,cond_true];simp only[aDs pb,aCz pb,cond_true];rfl
 rw[if_neg h1,decide_eq_false h1,cond_false];have hM:∃M:Int,(if 1-(fX f:Int)>AA n e then 1-(fX f:Int)else AA n e)=M/\AA n e<=M/\1-(fX f:Int)<=M/\M<=fX f/\(M=AA n e∨M=1-(fX f:Int)):=by
  refine⟨_,rfl,?_⟩;split<;>omega
 obtain⟨M,hMe,m1,m2,m3,m4⟩:=hM;have hq:B5 f (AA n e)=M-fP f+1:=by unfold B5;rw[hMe]
 simp only[hMe,hq];have e1:aa .i64 (M-(fP f:Int))=M-(fP f:Int):=At (by omega);have e2:aa .i64 (M-(fP f:Int)+1)=M-(fP f:Int)+1:=At (by omega);simp only[e1,e2];have p0:=aF1 m neg n e (M-(fP f:Int)+1) more hn he (p:=fP f) (by omega) (by omega) (by omega);have hc:=aB9 (m:=m) (neg:=neg) (more:=more) (n:=n) (e:=e) (q:=M-(fP f:Int)+1) (p:=fP f) (by omega);generalize BI m neg n e (M-(fP f:Int)+1) more=u at *
 generalize Ds n e (M-(fP f:Int)+1) more=r at *
 have hP60:2^fP f<=2^60:=ai (by decide) (by omega);have hu:u<(2^64)^5000:=by
  rw[Du];exact bl hc (bq (by decide) (by omega))
 have hub:Am u<=fP f+1:=DY (bl hc (bq (by decide) (by omega)));have p1:=US hu;have e3:aa .i64 ((fP f:Int)-1)=((fP f-1:Nat):Int):=AH _ (by omega);have e4:aa .i64 ((fW f:Int)-1)=((fW f-1:Nat):Int):=AH _ (by omega);have e5:aa .i64 (M-(fP f:Int)+1+(Am u:Int))=M-(fP f:Int)+1+(Am u:Int):=At (by omega);have e6:aa .i64 (M-(fP f:Int)+1+(Am u:Int)-1)=M-(fP f:Int)+1+(Am u:Int)-1:=At (by omega);have e7:aa .i64 (1-(fX f:Int)-(fP f:Int))=1-(fX f:Int)-(fP f:Int):=At (by omega);have e8:aa .i64 (1-(fX f:Int)-(fP f:Int)+1)=1-(fX f:Int)-(fP f:Int)+1:=At (by omega);obtain⟨k,hk⟩:=cd (show 0<=M-(fP f:Int)+1-(1-(fX f:Int)-(fP f:Int)+1) by omega);have e9:aa .i64 (M-(fP f:Int)+1-(1-(fX f:Int)-(fP f:Int)+1))=(k:Int):=by rw[At (by omega)];exact hk
 have e10:aa .u64 (k:Int)=(k:Int):=Dy (by omega);have hkn:(M-(fP f:Int)+1-(1-(fX f:Int)-(fP f:Int)+1)).toNat=k:=by omega
 have hhalf:=aNg hf;have hk2:k<=2*fX f-1:=by omega
 have hk3:=bc (2^(fP f-1)) hk2;have hW64:2^(fW f-1)<=2^63:=ai (by decide) (by omega);have hpp:=aj (fP f-1);have e11:Be .u64 (k:Int) ((fP f-1:Nat):Int)=((k*2^(fP f-1):Nat):Int):=by
  rw[Hw _ _ (by omega),bt (by omega)]
 have e12:Be .u64 1 ((fW f-1:Nat):Int)=((1*2^(fW f-1):Nat):Int):=by rw[O4 (by omega),fw]
 generalize hA:k*2^(fP f-1)=A at *
 have hbits:A+u<2^(fW f-1):=by omega
 have e13:aa .u64 ((A:Int)+((u%2^64:Nat):Int))=((A+u:Nat):Int):=by
  rw[bt (by omega),Dy (by omega)];omega
 have hor:∀b:Nat,b<2^(fW f-1)->Ai .u64 (b:Int) ((1*2^(fW f-1):Nat):Int)=((b+2^(fW f-1):Nat):Int):=fun b hb=>by
  have:=OY (a:=b) (b:=1) (k:=fW f-1) hb (by omega);rw[fw]at this⊢;exact this
 have hsg:BK f neg=if neg then 2^(fW f-1)else 0:=rfl;have htd:decide (AA n e<1-(fX f:Int)/\AA n e-fP f+Am (BI m neg n e (AA n e-fP f+1) more)<1-(fX f:Int))=decide (D3 f m neg n e more):=by
  unfold D3;rfl
 rw[htd]at py;simp only[aOR p0,aMM p0,cond_true,e3,AE,VW p1,VG p1,e5,e6,e7,e8,e9,e10,e11,e4,e12,hkn,hA];rcases br u with hu0|hu0
 ·subst hu0;have hl0:decide ((((Dw 0).length:Nat):Int)>0)=false:=by rw[E9];rfl
  rw[hl0,cond_false];by_cases h2:M-(fP f:Int)+1+(Am 0:Int)-1>(fX f:Int)
  ·rw[decide_eq_true h2,cond_true,if_pos h2];simp only[aDs pb,aCz pb,cond_true];rfl
  ·rw[decide_eq_false h2,cond_false,if_neg h2];have hbi:=hor (A) (by omega);rw[hbi];by_cases hr:r=0
   ·rw[if_pos hr,decide_eq_false (p:=r≠0) (by omega)];simp only[ar,cond_true];cases neg<;>rfl
   ·rw[if_neg hr,decide_eq_true (p:=r≠0) hr];simp only[au,cond_false,aOS py,aMN py,cond_true];by_cases hti:D3 f m neg n e more
    ·rw[if_pos hti,decide_eq_true hti];cases neg<;>rfl
    ·rw[if_neg hti,decide_eq_false hti];cases neg<;>rfl
 ·have hun:u≠0:=by omega
  simp only[LB hun,Wm hun,cond_true,ap,Pc,e13];by_cases h2:M-(fP f:Int)+1+(Am u:Int)-1>(fX f:Int)
  ·rw[decide_eq_true h2,cond_true,if_pos h2];simp only[aDs pb,aCz pb,cond_true];rfl
  ·rw[decide_eq_false h2,cond_false,if_neg h2];have hbi:=hor (A+u) (by omega);rw[hbi];by_cases hr:r=0
   ·rw[if_pos hr,decide_eq_false (p:=r≠0) (by omega)];simp only[ar,cond_true];cases neg<;>rfl
   ·rw[if_neg hr,decide_eq_true (p:=r≠0) hr];simp only[au,cond_false,aOS py,aMN py,cond_true];by_cases hti:D3 f m neg n e more
    ·rw[if_pos hti,decide_eq_true hti];cases neg<;>rfl
    ·rw[if_neg hti,decide_eq_false hti];cases neg<;>rfl
theorem aFM{f m:Int}(hf:Fm f)(hm:0<=m/\m<=5):aD (f,m,())=some (Ck f,0,()):=by
 show t0 Aq.pre Aq.F S2.pre S2.F f m=_;unfold t0;have p0:=IF hf;have p1:aW (m,())=some (0,()):=by
  show uS m=_;unfold uS;rw[decide_eq_false (show ¬m<0 by omega),decide_eq_false (show ¬m>5 by omega)];rfl
 simp only[CT p0,CQ p0,cond_true,bA3 p1,aYt p1];rfl
theorem aUH{f:Int}(h:Fm f)(neg:Bool):bA (f,neg,())=some ((BK f neg:Int),0,0,()):=by
 show uY B0.pre B0.F f neg=_;unfold uY;have p0:=aK h neg;simp only[i9 p0,gW p0,cond_true]
theorem bHg(s:Nat)(hs:s<2^128):(Wi s).2.1::(Wi s).1::[]=Wd [s%2^64,s/2^64]/\Ws [s%2^64,s/2^64]/\nv (2^64) [s%2^64,s/2^64]=s:=by
 refine⟨rfl,⟨?_,by simp⟩,?_⟩
 ·intro x hx;have:x=s%2^64∨x=s/2^64:=by simpa using hx
  omega
 ·simp only[nv];omega
theorem aN{f m:Int}(hf:Fm f)(hm:0<=m/\m<=5)(neg:Bool)(s:Nat)(hs:s<2^128)(e:Int)(he:-40000<=e/\e<=40000)(more:Bool)(hmore:more=true->fP f+2<=Am s):
  aM (f,m,neg,Wi s,e,more,())=some (if s=0 then((BK f neg:Int),0,0,())else(((Bj f m neg s e more).1:Int),((Bj f m neg s e more).2:Int),0,())):=by
 show uD _ _ _ _ _ _ _ _ _ _ f m neg (Wi s) e more=_;unfold uD;obtain⟨w1,w2,w3⟩:=bHg s hs;have hP:=Et hf;have hW:=Ez hf;have p0:=aFM hf hm;have p1:=aFJ _ w2;rw[←w1,w3]at p1;have hs2:s<(2^64)^2000:=by
  rw[Du];exact al hs (ai (by decide) (by decide))
 have p2:=US (aNB hs2);have p3:=aUH hf neg;have p4:=aFO neg s e more f m hf hs2 (by omega);have e1:decide (e < -40000)=false:=decide_eq_false (by omega);have e2:decide (e>40000)=false:=decide_eq_false (by omega);have e3:aa .i64 ((Ck f).2.1+2)=((fP f+2:Nat):Int):=by
  show aa .i64 ((fP f:Int)+2)=_;rw[At (by omega)];rfl
 have e4:(more&&decide ((Am s:Int)<((fP f+2:Nat):Int)))=false:=by
  cases more with
  |false=>rfl
  |true=>rw[decide_eq_false (by have:=hmore rfl;omega)];rfl
 have z0:((0:Int)!=0)=false:=rfl;simp only[aOL p0,aMG p0,cond_true,z0,cond_false,aDo p1,aCv p1,e1,e2,bb,VW p2,VG p2,aw,e3,e4];by_cases h0:s=0
 ·rw[if_pos h0];subst h0;rw[show((((Dw 0).length:Nat):Int)==0)=true by rw[E9];rfl,cond_true];simp only[bA5 p3,aYv p3,cond_true]
 ·rw[if_neg h0,AF _ (by have:=lK h0;omega),cond_false];simp only[aOM p4,aMH p4,cond_true]
end VL
namespace VL
open Go Vx
theorem aXo{r k s ρ:Nat}(hρ:0<ρ)(hρ2:ρ<2^k)(hs:1<=s):Cx (ρ+2^k*r) (k+s)=Cx r s/2*2+1:=by
 unfold Cx;have hp:2^(k+s-1)=2^k*2^(s-1):=by rw[←bj];congr 1;omega
 rw[hp];have hh:=aj (s-1);generalize 2^(s-1)=h at *
 generalize 2^k=K at *
 rw[if_neg (by omega)];rcases fh r h with h1|h1|h1
 ·have:K*(r+1)<=K*h:=cp _ h1;rw[bw,gq]at this;rw[if_pos (by omega)];by_cases hr:r=0
  ·rw[if_pos hr]
  ·rw[if_neg hr,if_pos h1]
 ·subst h1;rw[if_neg (by omega),if_neg (by omega),if_neg (by omega),if_neg (by omega),if_pos rfl]
 ·have:K*(h+1)<=K*r:=cp _ h1;rw[bw,gq]at this;rw[if_neg (by omega),if_neg (by omega),if_neg (by omega),if_neg (by omega),if_neg (by omega)]
theorem aLP{r k s:Nat}(hs:1<=s):Cx (2^k*r) (k+s)=Cx r s:=by
 unfold Cx;have hp:2^(k+s-1)=2^k*2^(s-1):=by rw[←bj];congr 1;omega
 rw[hp];have hk:=aj k;generalize 2^(s-1)=h at *
 generalize 2^k=K at *
 have h1:K*r=0↔r=0:=by
  constructor
  ·intro h;rcases pp.1 h with h|h<;>omega
  ·intro h;rw[h,fd]
 have h2:K*r<K*h↔r<h:=Nat.mul_lt_mul_left hk;have h3:K*r=K*h↔r=h:=Nat.mul_right_inj (by omega);simp only[h1,h2,h3]
theorem aZT(N k s:Nat):N%2^(k+s)=N%2^k+2^k*(N/2^k%2^s):=by
 rw[bj,my]
theorem jJ{n:Nat}{e q:Int}(h:q<=e):Hu n e q=n*2^(e-q).toNat:=if_pos h
theorem YP{n:Nat}{e q:Int}(h:e<q):Hu n e q=n/2^(q-e).toNat:=if_neg (by omega)
theorem tL{n:Nat}{e q:Int}(h:q<=e):Uy n e q=0:=if_pos h
theorem jN{n:Nat}{e q:Int}(h:e<q):Uy n e q=Cx (n%2^(q-e).toNat) (q-e).toNat:=if_neg (by omega)
theorem Vy(n:Nat)(e q:Int):Ds n e q false=Uy n e q:=rfl
theorem aXu(n:Nat)(e q:Int):Ds n e q true=Uy n e q/2*2+1:=rfl
theorem aCb{N k:Nat}{E q:Int}(hq:N%2^k≠0->E+k<q):
  Hu (N/2^k) (E+k) q=Hu N E q/\Ds (N/2^k) (E+k) q (decide (N%2^k≠0))=Ds N E q false:=by
 have hk:=aj k;have hdm:=ct N (2^k);by_cases h1:E+k<q
 ·have es:(q-E).toNat=k+(q-(E+k)).toNat:=by omega
  have hs:1<=(q-(E+k)).toNat:=by omega
  rw[YP h1,YP (by omega),Vy,jN (e:=E) (by omega),es];have hrs:=jN (n:=N/2^k) h1;generalize(q-(E+k)).toNat=s at *
  refine⟨by rw[dj,←bj],?_⟩;rw[aZT];by_cases hr:N%2^k=0
  ·rw[hr,de,aLP hs,show decide ((0:Nat)≠0)=false by decide,Vy,hrs]
  ·have hρ:0<N%2^k:=by omega
   rw[aXo hρ (ca _ hk) hs,decide_eq_true hr,aXu,hrs]
 ·have hr:N%2^k=0:=by
   by_cases h:N%2^k=0
   ·exact h
   ·exact absurd (hq h) h1
  rw[hr,cz]at hdm;rw[hr];clear hq hr;generalize N/2^k=n at *
  subst hdm;have hz:decide ((0:Nat)≠0)=false:=by decide
  rw[hz,jJ (by omega),Vy,Vy,tL (by omega)];by_cases h2:q<=E
  ·rw[jJ h2,tL h2,show(E+k-q).toNat=k+(E-q).toNat by omega,bj,be (2^k) n,bh];exact⟨rfl,rfl⟩
  ·rw[YP (by omega),jN (by omega)];have ek:k=(q-E).toNat+(E+k-q).toNat:=by omega
   generalize(q-E).toNat=s at *
   generalize(E+k-q).toNat=t at *
   have:2^k*n=2^s*(2^t*n):=by rw[ek,bj,bh]
   rw[this,Nat.mul_div_cancel_left _ (aj s),lh];exact⟨be _ _,rfl⟩
theorem rF{m:Int}{neg:Bool}{N k:Nat}{E q:Int}(hq:N%2^k≠0->E+k<q):BI m neg (N/2^k) (E+k) q (decide (N%2^k≠0))=BI m neg N E q false:=by
 obtain⟨h1,h2⟩:=aCb hq;unfold BI;rw[h1,h2]
theorem aRu{N k:Nat}{E:Int}(hn:N/2^k≠0):AA (N/2^k) (E+k)=AA N E:=by
 have hk:=aj k;have h1:2^k<=N:=by
  rcases ax N (2^k)with h|h
  ·exact absurd (ci h) hn
  ·exact h
 have:=qV h1;unfold AA;omega
theorem aDN{f m:Int}{neg:Bool}{N k:Nat}{E:Int}(hf:Fm f)(hn:N/2^k≠0)(hm:N%2^k≠0->fP f+2<=Am (N/2^k)):Bj f m neg (N/2^k) (E+k) (decide (N%2^k≠0))=Bj f m neg N E false:=by
 have ht:=aRu (E:=E) hn;have htd:AA (N/2^k) (E+k)=E+k+(Am (N/2^k):Int)-1:=rfl;have hq1:N%2^k≠0->E+k<B5 f (AA N E):=fun h=>by
  have:=hm h;unfold B5;split<;>omega
 have hq2:N%2^k≠0->E+k<AA N E-fP f+1:=fun h=>by
  have:=hm h;omega
 have hti:D3 f m neg (N/2^k) (E+k) (decide (N%2^k≠0))=D3 f m neg N E false:=by
  unfold D3;rw[ht,rF hq2]
 unfold Bj;simp only[ht,rF hq1,(aCb hq1).2,hti]
theorem YT{f m:Int}{neg:Bool}(hf:Fm f){n:Nat}(hn:n≠0)(k:Nat)(e:Int):Bj f m neg (n*2^k) e false=Bj f m neg n (e+k) false:=by
 have hk:=aj k;have:=aDN (f:=f) (m:=m) (neg:=neg) (N:=n*2^k) (k:=k) (E:=e) hf (by rw[iy _ hk];exact hn) (by rw[lx];omega);rw[iy _ hk,lx]at this;exact this.symm
end VL
end
